/- Contract of the program's Cut. Condition: bytes lie at the slice. -/
import Derived.Test.YtfjcelnamjgieaaCkD
namespace Go.Proofs.Ytfjcelnamjgieaa.Ck
open Go.RowKit Ba Go.Deep
set_option linter.unusedVariables false

theorem _root_.Go.Proofs.Ytfjcelnamjgieaa.Ba.Own.bytes {w : World} {base n cap : Nat} {ao : Option Addr} {bs : List UInt8} (h : Own w base (.slice ao n cap) bs) : Bytes w ao bs := by
  obtain ⟨ao', cap', e, h1, _⟩ := own_view2 h
  cases e
  exact h1
theorem cutA_nil {ao : Option Addr} {k cap : Nat} (h : ao = none → cap = 0) : cutA ao k cap = none → cap - k = 0 := by
  intro hh
  unfold cutA at hh
  split at hh
  · omega
  · have := h (by cases ao <;> simp_all); omega
theorem first_any (T : Nat) (bs : List UInt8) (a : Option Addr) (n cap : Nat) (hn : n = bs.length) (hm : n ≤ 1000000000) (hcap : n ≤ cap) (hcap2 : cap ≤ maxLen) (hnil : a = none → cap = 0) (w : World) (hb : Bytes w a bs) (ht : w.rowIs T 68 256 Su.tab) :
    (∀ c, lookV bs = .bad c → c ≠ 0 ∧ Calls Try.prog 23 #[.slice a n cap, .pointer (some ⟨T, 0, none⟩)] w (Firsted Ch.zero 0 c w)) ∧
    (∀ ch k, lookV bs = .one ch k → Calls Try.prog 23 #[.slice a n cap, .pointer (some ⟨T, 0, none⟩)] w (Firsted ch k 0 w)) := by
  by_cases h12 : n < 12
  · refine ⟨fun c hc => ?_, fun ch k hc => ?_⟩
    · unfold lookV at hc
      rw [if_pos (by omega)] at hc
      cases hc
      exact ⟨by decide, first_few a n cap h12 _ w⟩
    · unfold lookV at hc
      rw [if_pos (by omega)] at hc
      cases hc
  · have R := fun ch nn cd hx => first_rest T bs a n cap hn (by omega) hm hcap hcap2 hnil w hb ht ch nn cd hx
    refine ⟨fun c hc => ?_, fun ch k hc => ?_⟩
    · unfold lookV at hc
      rw [if_neg (by omega)] at hc
      split at hc
      · rename_i h1
        cases hc
        exact ⟨by decide, R _ _ _ (.inl ⟨rfl, rfl, rfl, h1⟩)⟩
      · rename_i h1
        have h1a : numV bs ≤ 2147483647 := by omega
        have h1b : nameB (kindV bs) = true := by
          cases hh : nameB (kindV bs) with
          | true => rfl
          | false => exact absurd (.inr hh) h1
        split at hc
        · rename_i h2
          cases hc
          exact ⟨by decide, R _ _ _ (.inr (.inl ⟨rfl, rfl, rfl, h1a, h1b, by omega⟩))⟩
        · rename_i h2
          split at hc
          · cases hc
          · rename_i h3
            cases hc
            exact ⟨by decide, R _ _ _ (.inr (.inr (.inl ⟨rfl, rfl, rfl, h1a, h1b, by omega, h3⟩)))⟩
    · unfold lookV at hc
      rw [if_neg (by omega)] at hc
      split at hc
      · cases hc
      · rename_i h1
        have h1a : numV bs ≤ 2147483647 := by omega
        have h1b : nameB (kindV bs) = true := by
          cases hh : nameB (kindV bs) with
          | true => rfl
          | false => exact absurd (.inr hh) h1
        split at hc
        · cases hc
        · rename_i h2
          split at hc
          · rename_i h3
            cases hc
            exact R _ _ _ (.inr (.inr (.inr ⟨rfl, rfl, rfl, h1a, h1b, by omega, h3⟩)))
          · cases hc
theorem ChsIs.lt {w : World} {base : Nat} {t : TypeId} {v : Value} {fs : List Ch} (h : ChsIs w base t v fs) : ∀ k, v.ownBlock = some k → base ≤ k ∧ k < w.heap.size := by
  obtain ⟨cells, h1, _⟩ := h
  exact World.ownsRow.lt h1
def lenOf : Value → Nat | .slice _ n _ => n | _ => 0
/-- What Cut hands back. -/
def Cutted (t : TypeId) (r : List Ch × Nat) (w : World) (e : Ending) (w' : World) : Prop :=
  ∃ v, e = .returned (.tuple #[v, .int .i64 (r.2 : Int)]) ∧ ChsIs w' w.heap.size t v r.1 ∧ Below w.heap.size w w'
theorem comb_bad {done : List Ch} {bs : List UInt8} {c : Nat} (h : lookV bs = .bad c) (hc : c ≠ 0) : comb done (cutB bs) = ([], c) := by
  rw [cutB_bad h]
  unfold comb
  rw [if_neg hc]
theorem comb_end {done : List Ch} {bs : List UInt8} {ch : Ch} {n : Nat} (h : lookV bs = .one ch n) (hk : ch.1.toList = iend.toList) (hl : ¬ 0 < (bs.drop n).length) : comb done (cutB bs) = (done ++ [ch], 0) := by
  rw [cutB_end h hk, if_neg hl]
  rfl
theorem comb_more {done : List Ch} {bs : List UInt8} {ch : Ch} {n : Nat} (h : lookV bs = .one ch n) (hk : ch.1.toList = iend.toList) (hl : 0 < (bs.drop n).length) : comb done (cutB bs) = ([], 4) := by
  rw [cutB_end h hk, if_pos hl]
  rfl
set_option maxRecDepth 100000 in
set_option maxHeartbeats 6400000 in
theorem cut_any (bs : List UInt8) (a : Option Addr) (n cap : Nat) (hn : n = bs.length) (hcap : n ≤ cap) (hcap2 : cap ≤ maxLen) (hnil : a = none → cap = 0) (w : World) (hb : Bytes w a bs) :
    Calls Try.prog 8 #[.slice a n cap] w (Cutted 51 (cutV bs) w) := by
  have HN := Lib.hid hn
  have HB := Lib.hid hb
  have HCP := Lib.hid (And.intro hcap (And.intro hcap2 hnil))
  have hn63 : n ≤ 9223372036854775807 := by unfold maxLen at hcap2; omega
  clear hn hb hcap hcap2 hnil
  have hcase : (262144 : Int) < n ∨ (¬ (262144 : Int) < n ∧ (n : Int) < 8) ∨ (¬ (262144 : Int) < n ∧ ¬ (n : Int) < 8) := by omega
  go_enter Try.func8, Try.ntmps8
  go_wp2_with fail
  refine (sig_any w).mono ?_
  rintro e w1 ⟨g1, rfl, ho1, hb1⟩
  have HB1 := Lib.hid hb1
  have HO1 := Lib.hid ho1
  clear ho1 hb1
  rcases hcase with h1 | ⟨h1, h2⟩ | ⟨h1, h2⟩
  · have HV : Hid (cutV bs = ([], 3)) := Lib.hid (by unfold cutV; rw [if_pos (by rw [← HN.out]; omega)])
    go_wp2_with fail
    go_ret2
    exact ⟨_, by rw [HV.out]; rfl, by rw [HV.out]; exact ChsIs.nil _ _ _, HB1.out⟩
  · have HV : Hid (cutV bs = ([], 2)) := Lib.hid (by unfold cutV; rw [if_neg (by rw [← HN.out]; omega), if_pos (by rw [← HN.out]; omega)])
    go_wp2_with fail
    go_ret2
    exact ⟨_, by rw [HV.out]; rfl, by rw [HV.out]; exact ChsIs.nil _ _ _, HB1.out⟩
  · have HPF := Lib.hid (prefix_any a (some ⟨g1, 0, none⟩) n cap 8 bs HN.out (by omega) HCP.out.1 w1 (HB.out.keep HB1.out) HO1.out.bytes)
    by_cases hp : bs.take 8 = sigL
    · have hpb : (bs.take 8 == sigL) = true := by rw [hp]; decide
      rw [hpb] at HPF
      have HV : Hid (cutV bs = cutB (bs.drop 8)) := Lib.hid (by unfold cutV; rw [if_neg (by rw [← HN.out]; omega), if_neg (by rw [← HN.out]; omega), if_pos hp])
      clear hp hpb
      go_wp2_with fail
      refine HPF.out.mono ?_
      rintro e w' ⟨rfl, rfl⟩
      go_wp2_with fail
      refine (Su.new_any _).mono ?_
      rintro e w2 ⟨rfl, hb2, ht2⟩
      have HB2 := Lib.hid (chain HB1.out hb2)
      have HT2 := Lib.hid ht2
      clear hb2 ht2
      generalize w1.heap.size = T at *
      have hfr8 : ∀ w, (Instr.slice 22 (.slice a n cap) (some (.int .i64 8)) none none).run Try.prog w = .ok (.slice (cutA a 8 cap) (n - 8) (cap - 8)) w := fun w => run_cut_from (P := Try.prog) 22 5 Try.underlying22 size_u8 a n cap .i64 8 (by omega) w
      go_wp2_with fail
      clear hfr8
      go_loopw [0, 6, 7, 8, 9] (fun sv ov _ _ _ wr => ∃ (done : List Ch) (cur : List UInt8) (ao : Option Addr) (nn cp : Nat), sv = .slice ao nn cp ∧ nn ≤ 262144 ∧ Hid (nn = cur.length ∧ Bytes w ao cur ∧ nn ≤ cp ∧ cp ≤ maxLen ∧ (ao = none → cp = 0)) ∧ Hid (ChsIs wr w2.heap.size 51 ov done) ∧ Hid (cutB (bs.drop 8) = comb done (cutB cur)) ∧ Hid (done.length + nn ≤ 262144) ∧ Hid (Below w2.heap.size w2 wr)) (fun sv _ _ _ _ _ => lenOf sv)
      case atStart =>
        refine ⟨[], bs.drop 8, cutA a 8 cap, n - 8, cap - 8, rfl, by omega, ⟨by rw [List.length_drop]; have := HN.out; omega, HB.out.drop 8 cap (by rw [← HN.out]; exact HCP.out.1), by have := HCP.out.1; omega, by have := HCP.out.2.1; omega, cutA_nil HCP.out.2.2⟩, ChsIs.nil _ _ _, (comb_nil _ (cutR_err _ _)).symm, (by show 0 + (n - 8) ≤ 262144; omega), Below.refl _ _⟩
      case round =>
        obtain ⟨done, cur, ao, nn, cp, rfl, hnn, HC, HCH, HCB, HD, HBR⟩ := hrel
        have HBW := Lib.hid (chain HB2.out HBR.out)
        have hfa := first_any T cur ao nn cp HC.out.1 (by omega) HC.out.2.2.1 HC.out.2.2.2.1 HC.out.2.2.2.2 wr (HC.out.2.1.keep HBW.out) (HT2.out.of_block (HBR.out.block T HT2.out.lt))
        cases hlk : lookV cur with
        | bad c =>
          obtain ⟨hc0, hfc⟩ := hfa.1 c hlk
          have HF := Lib.hid hfc
          have HE : Hid (cutB (bs.drop 8) = ([], c)) := Lib.hid (by rw [HCB.out]; exact comb_bad hlk hc0)
          have hcn : ((c : Int) != 0) = true := bne_iff_ne.2 (by omega)
          clear hfa hfc hlk hc0
          go_wp2_with fail
          refine HF.out.mono ?_
          rintro e w5 ⟨a5, c5, rfl, ho5, hb5⟩
          have HB5 := Lib.hid (chain HBW.out hb5)
          clear ho5 hb5
          generalize Ch.zero.1 = zs at *
          generalize Ch.zero.2.length = zl at *
          go_wp2_with fail
          go_ret2
          exact ⟨_, by rw [HV.out, HE.out]; rfl, by rw [HV.out, HE.out]; exact ChsIs.nil _ _ _, HB5.out.alloc HB5.out.size _⟩
        | one ch k =>
          obtain ⟨hk1, hk2, hk3⟩ := look_one hlk
          have HF := Lib.hid (hfa.2 ch k hlk)
          have HLK := Lib.hid hlk
          clear hfa hlk
          have HNX := Lib.hid (show ch.1.toList = iend.toList ∨ ch.1.toList ≠ iend.toList from Classical.em _)
          have HKL : Hid ((cur.drop k).length = nn - k ∧ Bytes w (cutA ao k cp) (cur.drop k) ∧ nn - k ≤ cp - k ∧ cp - k ≤ maxLen ∧ (cutA ao k cp = none → cp - k = 0)) := Lib.hid ⟨by rw [List.length_drop, HC.out.1], HC.out.2.1.drop k cp (by rw [← HC.out.1]; exact HC.out.2.2.1), by have := HC.out.2.2.1; omega, by have := HC.out.2.2.2.1; omega, cutA_nil HC.out.2.2.2.2⟩
          have hkn : k ≤ nn := by rw [HC.out.1]; exact hk2
          have hcut : ∀ w, (Instr.slice 22 (.slice ao nn cp) (some (.int .i64 (k : Nat))) none none).run Try.prog w = .ok (.slice (cutA ao k cp) (nn - k) (cp - k)) w := fun w => run_cut_from (P := Try.prog) 22 5 Try.underlying22 size_u8 ao nn cp .i64 k hkn w
          have hk0 : (((0 : Nat) : Int) != 0) = false := rfl
          clear hk2 hk3
          go_wp2_with fail
          refine HF.out.mono ?_
          rintro e w5 ⟨a5, c5, rfl, ho5, hb5⟩
          have HB5 := Lib.hid (chain HBW.out hb5)
          have HBR5 := Lib.hid (chain HBR.out hb5)
          have HO5 := Lib.hid (ho5.mono HBR.out.size)
          have HCH5 := Lib.hid (HCH.out.keep hb5)
          have s5 := HBR5.out.size
          clear ho5 hb5
          obtain ⟨LD, hLD⟩ : ∃ L, L = ch.2.length := ⟨_, rfl⟩
          rw [← hLD] at HO5 ⊢
          have HLD := Lib.hid hLD
          clear hLD
          have hlt5 := HCH5.out.lt
          have HNB : Hid (Blk ((w5.alloc (Obj.cells #[.string ch.1, .slice a5 LD c5] 51)).alloc (Obj.cells #[.string ch.1, .slice a5 LD c5] 51)) (w5.heap.size + 1) 51 (twoOf ch a5 c5)) := Lib.hid (by
            have h := Blk.new (w5.alloc (Obj.cells #[.string ch.1, .slice a5 LD c5] 51)) #[.string ch.1, .slice a5 LD c5] 51
            rw [show (w5.alloc (Obj.cells #[.string ch.1, .slice a5 LD c5] 51)).heap.size = w5.heap.size + 1 by simp] at h
            unfold twoOf
            rw [← HLD.out]
            exact h)
          have HCB5 : Hid (Blk ((w5.alloc (Obj.cells #[.string ch.1, .slice a5 LD c5] 51)).alloc (Obj.cells #[.string ch.1, .slice a5 LD c5] 51)) w5.heap.size 51 [.string ch.1, .slice a5 LD c5]) := Lib.hid ((Blk.new w5 #[.string ch.1, .slice a5 LD c5] 51).alloc _)
          have HD7 : Hid (Own ((w5.alloc (Obj.cells #[.string ch.1, .slice a5 LD c5] 51)).alloc (Obj.cells #[.string ch.1, .slice a5 LD c5] 51)) w2.heap.size (.slice a5 ch.2.length c5) ch.2) := Lib.hid (by rw [← HLD.out]; exact (HO5.out.keep ((Below.refl _ _).alloc (Nat.le_refl _) _)).keep ((Below.refl _ _).alloc (Nat.le_refl _) _))
          have HDB : Hid (done.length < 1000000001) := Lib.hid (by have := HD.out; omega)
          have HX : Hid (w2.heap.size ≤ ((w5.alloc (Obj.cells #[.string ch.1, .slice a5 LD c5] 51)).alloc (Obj.cells #[.string ch.1, .slice a5 LD c5] 51)).heap.size ∧ ((w5.alloc (Obj.cells #[.string ch.1, .slice a5 LD c5] 51)).alloc (Obj.cells #[.string ch.1, .slice a5 LD c5] 51)).heap.size = w5.heap.size + 2) := Lib.hid ⟨by simp; omega, by simp⟩
          go_wp2_with (at_builtin; refine wpList_append_ch 24 51 Try.underlying24 (by decide) info_ch rfl (.tmp 44) (.tmp 46) rfl w2.heap.size _ done rfl ((HCH5.out.alloc _).alloc _) ch a5 c5 HD7.out (w5.heap.size + 1) rfl HNB.out HDB.out HX.out.1 ?_)
          intro v8 w8 hfs8 hg8 hob8
          have HFS8 := Lib.hid hfs8
          have HB8 : Hid (Below w2.heap.size w2 w8) := Lib.hid (((HBR5.out.alloc s5 _).alloc (by simp; omega) _).grown hg8 HX.out.1 hob8)
          have HC8 : Hid (Blk w8 w5.heap.size 51 [.string ch.1, .slice a5 LD c5]) := Lib.hid (HCB5.out.of (hg8.block _ (by rw [HX.out.2]; omega) (fun e => by have := (hlt5 _ e.symm).2; omega)))
          have d0 := HC8.out.cell (i := 0) rfl
          have lt8 := HC8.out.lt
          clear hfs8 hg8 hob8 HNB HCB5 HD7 HX hlt5
          have hie : iend.toList = [73, 69, 78, 68] := by rw [ByteArray.toList_eq]; rfl
          rcases HNX.out with he | hne
          · have hkb : (ch.1.toList == [73, 69, 78, 68]) = true := by rw [he, hie]; decide
            have HE := Lib.hid he
            clear he
            by_cases hmore : 0 < nn - k
            · have HEE : Hid (cutB (bs.drop 8) = ([], 4)) := Lib.hid (by rw [HCB.out]; exact comb_more HLK.out HE.out (by rw [HKL.out.1]; exact hmore))
              go_wp2_with fail
              go_ret2
              exact ⟨_, by rw [HV.out, HEE.out]; rfl, by rw [HV.out, HEE.out]; exact ChsIs.nil _ _ _, chain HB2.out HB8.out⟩
            · have HEE : Hid (cutB (bs.drop 8) = (done ++ [ch], 0)) := Lib.hid (by rw [HCB.out]; exact comb_end HLK.out HE.out (by rw [HKL.out.1]; exact hmore))
              go_wp2_with fail
              go_ret2
              exact ⟨_, by rw [HV.out, HEE.out]; rfl, by rw [HV.out, HEE.out]; exact HFS8.out.mono HB2.out.size, chain HB2.out HB8.out⟩
          · have hkb : (ch.1.toList == [73, 69, 78, 68]) = false := by rw [← hie]; exact beq_eq_false_iff_ne.2 hne
            have HE := Lib.hid hne
            clear hne
            go_wp2_with fail
            go_roundw
            case rel => exact ⟨done ++ [ch], cur.drop k, cutA ao k cp, nn - k, cp - k, rfl, by omega, ⟨HKL.out.1.symm, HKL.out.2.1, HKL.out.2.2.1, HKL.out.2.2.2.1, HKL.out.2.2.2.2⟩, HFS8.out, (by show cutB (bs.drop 8) = _; rw [HCB.out]; exact comb_on HLK.out HE.out), (by show (done ++ [ch]).length + (nn - k) ≤ 262144; rw [List.length_append, List.length_singleton]; have := HD.out; omega), HB8.out⟩
            case measure => show nn - k < nn; omega
    · have hpb : (bs.take 8 == sigL) = false := by
        cases hh : (bs.take 8 == sigL) with
        | false => rfl
        | true => exact absurd (eq_of_beq hh) hp
      rw [hpb] at HPF
      have HV : Hid (cutV bs = ([], 4)) := Lib.hid (by unfold cutV; rw [if_neg (by rw [← HN.out]; omega), if_neg (by rw [← HN.out]; omega), if_neg hp])
      clear hp hpb
      go_wp2_with fail
      refine HPF.out.mono ?_
      rintro e w' ⟨rfl, rfl⟩
      go_wp2_with fail
      go_ret2
      exact ⟨_, by rw [HV.out]; rfl, by rw [HV.out]; exact ChsIs.nil _ _ _, HB1.out⟩
end Go.Proofs.Ytfjcelnamjgieaa.Ck
