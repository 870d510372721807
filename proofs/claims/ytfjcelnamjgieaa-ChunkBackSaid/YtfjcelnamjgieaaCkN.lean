/- Contract of chunk.Order. Condition: chunks lie at the slice. -/
import Derived.Test.YtfjcelnamjgieaaCkM
namespace Go.Proofs.Ytfjcelnamjgieaa.Ck
open Go.RowKit Ba Go.Deep
set_option linter.unusedVariables false

def walkV : Wk → List Ch → Option Wk
  | s, [] => some s
  | s, f :: r => if (nextV s f.1).1 = true then walkV (nextV s f.1).2 r else none
def wk0 : Wk := ⟨false, false, false, false⟩
theorem walkV_append : ∀ (l r : List Ch) (s : Wk), walkV s (l ++ r) = (walkV s l).bind (fun s' => walkV s' r)
  | [], r, s => rfl
  | f :: l, r, s => by
    show (if (nextV s f.1).1 = true then walkV (nextV s f.1).2 (l ++ r) else none) = (if (nextV s f.1).1 = true then walkV (nextV s f.1).2 l else none).bind _
    split
    · exact walkV_append l r _
    · rfl
def midC (fs : List Ch) : List Ch := (fs.drop 1).take (fs.length - 2)
def endsB (fs : List Ch) : Bool := isK (fs.getD 0 Ch.zero).1 kIHDR && decide ((fs.getD 0 Ch.zero).2.length = 13) && isK (fs.getD (fs.length - 1) Ch.zero).1 kIEND && decide ((fs.getD (fs.length - 1) Ch.zero).2.length = 0)
def okO (fs : List Ch) : Bool := decide (3 ≤ fs.length) && endsB fs && (match walkV wk0 (midC fs) with | some s => s.i | none => false)
def orderV (fs : List Ch) : Nat := if okO fs = true then 0 else 4
theorem walk_step {fs : List Ch} {q : Nat} {s : Wk} (hq : q + 2 < fs.length) (h : walkV wk0 ((midC fs).take q) = some s) :
    ∃ f, fs[q + 1]? = some f ∧ ((nextV s f.1).1 = true → walkV wk0 ((midC fs).take (q + 1)) = some (nextV s f.1).2) ∧ ((nextV s f.1).1 = false → walkV wk0 (midC fs) = none) := by
  have hl : (midC fs).length = fs.length - 2 := by unfold midC; rw [List.length_take, List.length_drop]; omega
  have hm : q < (midC fs).length := by omega
  have hg : (midC fs)[q]'hm = fs[q + 1]'(by omega) := by
    have h1 : (midC fs)[q]? = fs[q + 1]? := by
      unfold midC
      rw [List.getElem?_take_of_lt (by omega), List.getElem?_drop, Nat.add_comm]
    rw [List.getElem?_eq_getElem hm, List.getElem?_eq_getElem (by omega)] at h1
    exact Option.some.inj h1
  refine ⟨fs[q + 1]'(by omega), List.getElem?_eq_getElem (by omega), fun hn => ?_, fun hn => ?_⟩
  · rw [List.take_succ_eq_append_getElem hm, walkV_append, h, hg]
    show (if (nextV s _).1 = true then _ else _) = _
    rw [if_pos hn]
    rfl
  · have e : midC fs = (midC fs).take q ++ (midC fs).drop q := (List.take_append_drop q _).symm
    rw [e, walkV_append, h, List.drop_eq_getElem_cons hm, hg]
    show (if (nextV s _).1 = true then _ else _) = _
    rw [if_neg (by rw [hn]; decide)]
theorem run_cut_mid2 {P : Program} (t e : TypeId) (ht : P.underlying t = some (.slice e)) (hsz : ∀ w, (sizeOf e).run P w = .ok 2 w) (g off len cap : Nat) (kl kh : IntKind) (l h : Int) (i j : Nat) (hi : l = i) (hj : h = j) (hij : i ≤ j) (hjc : j ≤ cap) (hic : i < cap) (w : World) :
    (Instr.slice t (.slice (some ⟨g, off, none⟩) len cap) (some (.int kl l)) (some (.int kh h)) none).run P w = .ok (.slice (some ⟨g, off + i * 2, none⟩) (j - i) (cap - i)) w := by
  have hel : P.elem t = e := by simp [Program.elem, ht]
  subst hi hj
  rw [run_slice_lh w t _ len cap (by rw [hel]; exact ht) kl kh i j (by omega) (by omega) (by omega), hel, hsz]
  have hne : cap ≠ i := by omega
  simp [Result.andThen, sliced, hne, Addr.add]
theorem size_ch (w : World) : (sizeOf 51).run Try.prog w = .ok 2 w := by kernel_rfl
set_option maxRecDepth 100000 in
set_option maxHeartbeats 6400000 in
theorem order_any (v : Value) (fs : List Ch) (hks : ∀ f ∈ fs, f.1.size ≤ maxLen) (w : World) (h1 : ChRow w v fs) :
    Calls Try.prog 16 #[v] w fun e w' => e = .returned (.int .i64 (orderV fs : Nat)) ∧ Below w.heap.size w w' := by
  obtain ⟨a, ca, rfl, x1, x2, x3, hv1⟩ := h1
  by_cases h3 : fs.length < 3
  · have HO : Hid (orderV fs = 4) := Lib.hid (by
      unfold orderV okO
      have h : decide (3 ≤ fs.length) = false := by simpa using h3
      rw [h, Bool.false_and, Bool.false_and]
      rfl)
    have x4 := x1
    clear hv1 hks
    generalize fs.length = LF at *
    have hl : (LF : Int) - 1 < 2 := by omega
    have hw : wrap64 ((LF : Int) - 1) = (LF : Int) - 1 := by unfold wrap64; omega
    clear x1 x2 x3 x4
    go_enter Try.func16, Try.ntmps16
    go_wp2_with fail
    go_ret
    exact ⟨by rw [HO.out]; rfl, Below.refl _ _⟩
  · obtain ⟨LF, hLF⟩ : ∃ L, L = fs.length := ⟨_, rfl⟩
    obtain ⟨m, rfl⟩ : ∃ m, LF = m + 1 := ⟨LF - 1, by omega⟩
    have hm2 : 2 ≤ m := by omega
    have h0 : 0 < fs.length := by omega
    have hmm : m < fs.length := by omega
    obtain ⟨g, o, ad0, cd0, rfl, a0, a1, _, _, l0⟩ := hv1 0 h0
    obtain ⟨g', o', adm, cdm, e, b0, b1, _, _, lm⟩ := hv1 m hmm
    cases e
    have HE : Hid (endsB fs = (isK (fs[0]'h0).1 kIHDR && decide ((fs[0]'h0).2.length = 13) && isK (fs[m]'hmm).1 kIEND && decide ((fs[m]'hmm).2.length = 0))) := Lib.hid (by
      unfold endsB
      rw [← hLF, show m + 1 - 1 = m by omega, List.getD_eq_getElem?_getD, List.getD_eq_getElem?_getD, List.getElem?_eq_getElem h0, List.getElem?_eq_getElem hmm]
      rfl)
    have HNE : Hid (endsB fs = false → orderV fs = 4) := Lib.hid (fun h => by
      unfold orderV okO
      rw [h, Bool.and_false, Bool.false_and]
      rfl)
    have HV1 := Lib.hid hv1
    have HKS := Lib.hid hks
    have HX := Lib.hid (And.intro x1 x2)
    rw [← hLF] at HX ⊢
    have HLF := Lib.hid hLF
    rw [Nat.zero_mul, Nat.add_zero] at a0 a1
    generalize fs[0]'h0 = fa at *
    generalize fs[m]'hmm = fz at *
    clear hv1 hks x1 x2 x3
    obtain ⟨n0, hn0⟩ : ∃ n, n = fa.2.length := ⟨_, rfl⟩
    obtain ⟨nz, hnz⟩ : ∃ n, n = fz.2.length := ⟨_, rfl⟩
    rw [← hn0] at a1 HE l0
    rw [← hnz] at b1 HE lm
    have hm63 : m + 1 ≤ 9223372036854775807 := by have h1 := HX.out.1; have h2 := HX.out.2; unfold maxLen at h2; omega
    unfold maxLen at l0 lm
    clear hn0 hnz h0 hmm h3 hLF
    have HLT : Hid (g < w.heap.size) := Lib.hid (cell_lt (a := ⟨g, o, none⟩) a0)
    by_cases e1 : isK fa.1 kIHDR = true
    · have e1' : (fa.1.toList == [73, 72, 68, 82]) = true := e1
      by_cases e2 : n0 = 13
      · have e2' : ((n0 : Int) != 13) = false := by simp; omega
        by_cases e3 : isK fz.1 kIEND = true
        · have e3' : (fz.1.toList == [73, 69, 78, 68]) = true := e3
          by_cases e4 : nz = 0
          · have e4' : ¬ (0 : Int) < (nz : Int) := by omega
            have HEY : Hid (endsB fs = true) := Lib.hid (by rw [HE.out, e1, e3]; simp [e2, e4])
            clear e1 e2 e3 e4 HNE HE
            have HSZ : Hid (m < ca) := Lib.hid (by have := HX.out.1; omega)
            have hmid : ∀ w, (Instr.slice 24 (.slice (some ⟨g, o, none⟩) (m + 1) ca) (some (.int .i64 1)) (some (.int .i64 (m : Nat))) none).run Try.prog w = .ok (.slice (some ⟨g, o + 2, none⟩) (m - 1) (ca - 1)) w := fun w => by
              have h := run_cut_mid2 (P := Try.prog) 24 51 Try.underlying24 size_ch g o (m + 1) ca .i64 .i64 1 (m : Nat) 1 m rfl rfl (by omega) (by have := HSZ.out; omega) (by have := HSZ.out; omega) w
              exact h
            have hz := fun w => (by kernel_rfl : (zeroValue 51).run Try.prog w = .ok (.agg #[.string ByteArray.empty, .slice none 0 0]) w)
            go_enter Try.func16, Try.ntmps16
            obtain ⟨p, hp⟩ : ∃ p, p = m - 1 := ⟨_, rfl⟩
            rw [← hp] at hmid
            have HP : Hid (p + 1 = m) := Lib.hid (by omega)
            have hp63 : p ≤ 9223372036854775805 := by omega
            clear hp
            go_wp2_with fail
            clear hmid e1' e2' e3' e4' a0 a1 b0 b1
            go_loopw [6, 50] (fun _ jv wr => ∃ (q : Nat) (s : Wk), q ≤ p ∧ jv = .int .i64 q ∧ Hid (WkIs wr w.heap.size s) ∧ Hid (walkV wk0 ((midC fs).take q) = some s) ∧ Hid (Below w.heap.size w wr)) (fun _ jv _ => p - (intOf jv).toNat)
            case atStart => exact ⟨0, wk0, by omega, rfl, Blk.new w _ _, rfl, (Below.refl _ _).alloc (Nat.le_refl _) _⟩
            case round =>
              obtain ⟨q, s, hq, rfl, HW, HV, HB⟩ := hrel
              by_cases hql : q < p
              · obtain ⟨f, hf, hy, hn⟩ := walk_step (fs := fs) (q := q) (s := s) (by have := HLF.out; have := HP.out; omega) HV.out
                have hq1 : q + 1 < fs.length := by have := HLF.out; have := HP.out; omega
                obtain ⟨g5, o5, ad, cd, e5, k0, k1, _, _, _⟩ := HV1.out (q + 1) hq1
                cases e5
                have hfe : fs[q + 1]'hq1 = f := by rw [List.getElem?_eq_getElem hq1] at hf; exact Option.some.inj hf
                have hkz := HKS.out _ (List.getElem_mem hq1)
                rw [hfe] at k0 k1 hkz
                rw [show o + (q + 1) * 2 = o + 2 + q * 2 by omega] at k0 k1
                have HY := Lib.hid hy
                have HN := Lib.hid hn
                generalize f.2.length = ln at *
                have c0 := (HB.out.cell (p := ⟨g, o + 2 + q * 2, none⟩) HLT.out).trans k0
                have c1 := (HB.out.cell (p := ⟨g, o + 2 + q * 2 + 1, none⟩) HLT.out).trans k1
                have HB1 : Hid (Below w.heap.size w (wr.alloc (Obj.cells #[.string f.1, .slice ad ln cd] 51))) := Lib.hid (HB.out.alloc HB.out.size _)
                have HC1 := (Blk.new wr #[.string f.1, .slice ad ln cd] 51)
                have d0 := HC1.cell (i := 0) rfl
                have d1 := HC1.cell (i := 1) rfl
                have HNX := Lib.hid (next_any w.heap.size s f.1 hkz (.slice ad ln cd) _ (HW.out.alloc (Obj.cells #[.string f.1, .slice ad ln cd] 51)))
                clear HC1 hf hy hn hfe hkz k0 k1
                go_wp2_with fail
                refine HNX.out.mono ?_
                rintro e w6 ⟨rfl, hw6, hb6⟩
                have HW6 := Lib.hid hw6
                have HB6 : Hid (Below w.heap.size w w6) := Lib.hid (HB1.out.trans (hb6.below HB1.out.size (Nat.le_refl _)))
                clear hw6 hb6 c0 c1 d0 d1 HNX
                cases hnb : (nextV s f.1).1 with
                | false =>
                  have HO : Hid (orderV fs = 4) := Lib.hid (by unfold orderV okO; rw [HN.out hnb, Bool.and_false]; rfl)
                  clear hnb
                  go_wp2_with fail
                  go_ret
                  exact ⟨by rw [HO.out]; rfl, HB6.out⟩
                | true =>
                  have HY2 := Lib.hid (HY.out hnb)
                  clear hnb
                  go_wp2_with fail
                  go_roundw
                  case rel => exact ⟨q + 1, _, by omega, by go_num, HW6.out, HY2.out, HB6.out⟩
                  case measure => simp [intOf]; omega
              · obtain rfl : p = q := by omega
                have HM : Hid (walkV wk0 (midC fs) = some s) := Lib.hid (by
                  have h := HV.out
                  rw [List.take_of_length_le (by unfold midC; rw [List.length_take, List.length_drop]; have := HLF.out; have := HP.out; omega)] at h
                  exact h)
                have HO : Hid (orderV fs = if s.i = true then 0 else 4) := Lib.hid (by
                  unfold orderV okO
                  have h3 : decide (3 ≤ fs.length) = true := by have := HLF.out; have := HP.out; simp; omega
                  rw [HEY.out, HM.out, h3]
                  rfl)
                have c2 := Blk.cell HW.out (i := 2) rfl
                cases hsi : s.i with
                | true =>
                  rw [hsi] at c2 HO
                  clear hsi
                  go_wp2_with fail
                  go_ret
                  exact ⟨by rw [HO.out]; rfl, HB.out⟩
                | false =>
                  rw [hsi] at c2 HO
                  clear hsi
                  go_wp2_with fail
                  go_ret
                  exact ⟨by rw [HO.out]; rfl, HB.out⟩
          · have e4' : (0 : Int) < (nz : Int) := by omega
            have HO := Lib.hid (HNE.out (by rw [HE.out]; simp [e4]))
            clear e1 e2 e3 e4 HNE HE
            go_enter Try.func16, Try.ntmps16
            go_wp2_with fail
            go_ret
            exact ⟨by rw [HO.out]; rfl, Below.refl _ _⟩
        · have e3' : (fz.1.toList == [73, 69, 78, 68]) = false := by simpa [isK, kIEND] using e3
          have HO := Lib.hid (HNE.out (by rw [HE.out]; simp [e3]))
          clear e1 e2 e3 HNE HE
          go_enter Try.func16, Try.ntmps16
          go_wp2_with fail
          go_ret
          exact ⟨by rw [HO.out]; rfl, Below.refl _ _⟩
      · have e2' : ((n0 : Int) != 13) = true := bne_iff_ne.2 (by omega)
        have HO := Lib.hid (HNE.out (by rw [HE.out]; simp [e2]))
        clear e1 e2 HNE HE
        go_enter Try.func16, Try.ntmps16
        go_wp2_with fail
        go_ret
        exact ⟨by rw [HO.out]; rfl, Below.refl _ _⟩
    · have e1' : (fa.1.toList == [73, 72, 68, 82]) = false := by simpa [isK, kIHDR] using e1
      have HO := Lib.hid (HNE.out (by rw [HE.out]; simp [e1]))
      clear e1 HNE HE
      go_enter Try.func16, Try.ntmps16
      go_wp2_with fail
      go_ret
      exact ⟨by rw [HO.out]; rfl, Below.refl _ _⟩
end Go.Proofs.Ytfjcelnamjgieaa.Ck
