/- Contract of chunk.Join. Condition: chunks lie at the slice; together they are no longer than an image's file may be. -/
import Derived.Test.YtfjcelnamjgieaaCkK
namespace Go.Proofs.Ytfjcelnamjgieaa.Ck
open Go.RowKit Ba Go.Deep
set_option linter.unusedVariables false

def totC (fs : List Ch) : Nat := fs.foldl (fun n f => n + 12 + f.2.length) 0
theorem totC_snoc (l : List Ch) (f : Ch) : totC (l ++ [f]) = totC l + 12 + f.2.length := by unfold totC; rw [List.foldl_append]; rfl
theorem totC_take_le : ∀ (q : Nat) (fs : List Ch), totC (fs.take q) + 12 * (fs.length - q) ≤ totC fs := by
  intro q fs
  by_cases hq : fs.length ≤ q
  · rw [List.take_of_length_le hq]; omega
  · have hl : ∀ n, n = fs.length - q → totC (fs.take q) + 12 * (fs.length - q) ≤ totC fs := by
      intro n
      induction n generalizing q with
      | zero => intro h; omega
      | succ n ih =>
        intro h
        by_cases h2 : fs.length ≤ q + 1
        · have e : fs.length = q + 1 := by omega
          have h3 := totC_snoc (fs.take q) (fs[q]'(by omega))
          rw [← List.take_succ_eq_append_getElem (by omega), ← e, List.take_length] at h3
          omega
        · have h4 := ih (q + 1) (by omega) (by omega)
          have h3 := totC_snoc (fs.take q) (fs[q]'(by omega))
          rw [← List.take_succ_eq_append_getElem (by omega)] at h3
          omega
    exact hl _ rfl
theorem totC_step (fs : List Ch) (q : Nat) (hq : q < fs.length) : totC (fs.take (q + 1)) = totC (fs.take q) + 12 + (fs[q]'hq).2.length := by rw [List.take_succ_eq_append_getElem hq, totC_snoc]
theorem len_totC (fs : List Ch) : 12 * fs.length ≤ totC fs := by have := totC_take_le 0 fs; omega
def allN (fs : List Ch) : Bool := fs.all (fun f => nameB f.1)
/-- A chunk's bytes. -/
def encC (f : Ch) : List UInt8 := four f.2.length ++ (f.1.data.toList ++ (f.2 ++ four (crcV f.1 f.2)))
def strmC (fs : List Ch) : List UInt8 := fs.flatMap encC
theorem strmC_snoc (l : List Ch) (f : Ch) : strmC (l ++ [f]) = (((strmC l ++ four f.2.length) ++ f.1.data.toList) ++ f.2) ++ four (crcV f.1 f.2) := by
  unfold strmC encC
  rw [List.flatMap_append, List.flatMap_cons, List.flatMap_nil, List.append_nil]
  simp only [List.append_assoc]
theorem strmC_length : ∀ (q : Nat) (fs : List Ch), allN (fs.take q) = true → (strmC (fs.take q)).length = totC (fs.take q) := by
  intro q
  induction q with
  | zero => intro fs _; rfl
  | succ q ih =>
    intro fs h
    by_cases hq : q < fs.length
    · rw [List.take_succ_eq_append_getElem hq] at h ⊢
      unfold allN at h
      rw [List.all_append, Bool.and_eq_true] at h
      rw [strmC_snoc, totC_snoc, ← ih fs h.1]
      have h2 := h.2
      simp only [List.all_cons, List.all_nil, Bool.and_true] at h2
      obtain ⟨h4, _⟩ := nameB_first h2
      have h5 : (fs[q]'hq).1.data.toList.length = 4 := by simpa using h4
      simp only [List.length_append, four_length, h5]
      omega
    · rw [List.take_of_length_le (by omega)] at h ⊢
      have := ih fs (by rw [List.take_of_length_le (by omega)]; exact h)
      rw [List.take_of_length_le (by omega)] at this
      exact this
def joinV (fs : List Ch) : List UInt8 × Nat := if allN fs = true then (sigL ++ strmC fs, 0) else ([], 1)
/-- What Join hands back. -/
def Joined (r : List UInt8 × Nat) (w : World) (e : Ending) (w' : World) : Prop :=
  ∃ v, e = .returned (.tuple #[v, .int .i64 (r.2 : Int)]) ∧ Own w' w.heap.size v r.1 ∧ Below w.heap.size w w'
theorem own_ne_row {w : World} {B T n : Nat} {v : Value} {bs : List UInt8} {f : Nat → Value} (h : Own w B v bs) (ht : w.rowIs T 68 n f) : ∀ k, v.ownBlock = some k → k ≠ T := by
  intro k hk e
  subst e
  obtain ⟨C, hC, _⟩ := ht
  rcases h.2 with ⟨rfl, _⟩ | ⟨g, cap, cur, rfl, hB, hgg, rest⟩
  · cases hk
  · cases hk
    rw [hgg] at hC
    cases hC
/-- What lies where while Join makes its bytes. -/
def Jst (w u : World) (ov : Value) (bs : List UInt8) (T cb : Nat) (cv : List Value) : Prop := Own u w.heap.size ov bs ∧ u.rowIs T 68 256 Su.tab ∧ Blk u cb 51 cv ∧ Below w.heap.size w u
theorem Jst.call {w u u' : World} {ov : Value} {bs : List UInt8} {T cb : Nat} {cv : List Value} (h : Jst w u ov bs T cb cv) (hb : Below u.heap.size u u') : Jst w u' ov bs T cb cv :=
  ⟨h.1.keep hb, h.2.1.of_block (hb.block T h.2.1.lt), h.2.2.1.keep hb, chain h.2.2.2 hb⟩
theorem Jst.grow {w u u' : World} {ov ov' : Value} {bs bs' : List UInt8} {T cb : Nat} {cv : List Value} (h : Jst w u ov bs T cb cv) (hg : u.grownBy u' ov.ownBlock) (ho : Own u' w.heap.size ov' bs') : Jst w u' ov' bs' T cb cv := by
  refine ⟨ho, h.2.1.of_block (hg.block T h.2.1.lt (fun e => own_ne_row h.1 h.2.1 T e.symm rfl)), h.2.2.1.of (hg.block cb h.2.2.1.lt (fun e => h.1.ne h.2.2.1 (by decide) cb e.symm rfl)), ?_⟩
  exact h.2.2.2.grown hg h.2.2.2.size (fun k hk => (h.1.lt k hk).1)
theorem allN_of_take {fs : List Ch} (h : allN fs = true) (q : Nat) : allN (fs.take q) = true := by
  unfold allN at h ⊢
  rw [List.all_eq_true] at h ⊢
  exact fun f hf => h f (List.mem_of_mem_take hf)
theorem allN_at {fs : List Ch} (h : allN fs = true) {q : Nat} (hq : q < fs.length) : nameB (fs[q]'hq).1 = true := by
  unfold allN at h
  rw [List.all_eq_true] at h
  exact h _ (List.getElem_mem hq)
theorem allN_take {fs : List Ch} {q : Nat} (hq : q < fs.length) (h : allN (fs.take q) = true) (h2 : nameB (fs[q]'hq).1 = true) : allN (fs.take (q + 1)) = true := by
  rw [List.take_succ_eq_append_getElem hq]
  unfold allN at h ⊢
  rw [List.all_append, h]
  simp [h2]
theorem allN_no {fs : List Ch} {q : Nat} (hq : q < fs.length) (h2 : nameB (fs[q]'hq).1 = false) : allN fs = false := by
  unfold allN
  rw [List.all_eq_false]
  exact ⟨fs[q]'hq, List.getElem_mem hq, by rw [h2]; decide⟩
set_option maxRecDepth 100000 in
set_option maxHeartbeats 6400000 in
theorem join_any (v : Value) (fs : List Ch) (hbd : 8 + totC fs ≤ 262144) (hks : ∀ f ∈ fs, f.1.size ≤ 140737488351232) (w : World) (h1 : ChRow w v fs) :
    Calls Try.prog 13 #[v] w (Joined (joinV fs) w) := by
  obtain ⟨a, ca, rfl, x1, x2, x3, hv1⟩ := h1
  have HV1 := Lib.hid hv1
  have HKS := Lib.hid hks
  have HBD := Lib.hid hbd
  obtain ⟨LF, hLF⟩ : ∃ L, L = fs.length := ⟨_, rfl⟩
  have hlb : LF ≤ 30000 := by have := len_totC fs; omega
  rw [← hLF] at x1 ⊢
  have HLF := Lib.hid hLF
  have hz := fun w => (by kernel_rfl : (zeroValue 51).run Try.prog w = .ok (.agg #[.string ByteArray.empty, .slice none 0 0]) w)
  clear hv1 hLF x1 x2 x3 hks hbd
  go_enter Try.func13, Try.ntmps13
  go_wp2_with fail
  refine (sig_any w).mono ?_
  rintro e w1 ⟨g1, rfl, ho1, hb1⟩
  have HB1 := Lib.hid hb1
  have HO1 := Lib.hid ho1
  clear ho1 hb1
  go_wp2_with fail
  go_loopw [5, 7, 16] (fun sv _ jv wr => ∃ q x : Nat, q ≤ LF ∧ jv = .int .i64 q ∧ sv = .int .i64 x ∧ x ≤ 262144 ∧ Hid (x = 8 + totC (fs.take q)) ∧ Hid (allN (fs.take q) = true) ∧ Hid (Below w1.heap.size w1 wr)) (fun _ _ jv _ => LF - (intOf jv).toNat)
  case atStart => exact ⟨0, 8, by omega, rfl, rfl, by omega, rfl, rfl, Below.refl _ _⟩
  case round =>
    obtain ⟨q, x, hq, rfl, rfl, hx, HX, HAN, HBI⟩ := hrel
    by_cases hql : q < LF
    · have hq' : q < fs.length := by rw [← HLF.out]; exact hql
      obtain ⟨g5, o5, ad, cd, rfl, k0, k1, ky, _, _⟩ := HV1.out q hq'
      have hks1 := HKS.out (fs[q]'hq') (List.getElem_mem hq')
      have htl := totC_take_le (q + 1) fs
      rw [totC_step fs q hq'] at htl
      have HX2 : Hid (x + 12 + (fs[q]'hq').2.length = 8 + totC (fs.take (q + 1)) ∧ x + 12 + (fs[q]'hq').2.length ≤ 262144) := Lib.hid (by rw [totC_step fs q hq']; have := HX.out; have := HBD.out; omega)
      have HNX : Hid (nameB (fs[q]'hq').1 = true → allN (fs.take (q + 1)) = true) := Lib.hid (fun h => allN_take hq' HAN.out h)
      have HNO : Hid (nameB (fs[q]'hq').1 = false → joinV fs = ([], 1)) := Lib.hid (fun h => by unfold joinV; rw [allN_no hq' h]; rfl)
      generalize fs[q]'hq' = f at *
      obtain ⟨ln, hln⟩ : ∃ ln, ln = f.2.length := ⟨_, rfl⟩
      rw [← hln] at k1 HX2
      have hx2 := HX2.out.2
      have HNM := Lib.hid (fun u => named_any f.1 (by unfold maxLen; omega) u)
      have hl5 : g5 < w.heap.size := cell_lt (a := ⟨g5, o5 + q * 2, none⟩) k0
      have HBW := Lib.hid (chain HB1.out HBI.out)
      have HSS : Hid (∀ u, Below w.heap.size w u → u.cell? ⟨g5, o5 + q * 2, none⟩ = some (.string f.1) ∧ u.cell? ⟨g5, o5 + q * 2 + 1, none⟩ = some (.slice ad ln cd)) := Lib.hid (fun u hu => by
        have cc5 : ∀ o, u.cell? ⟨g5, o, none⟩ = w.cell? ⟨g5, o, none⟩ := fun o => hu.cell (p := ⟨g5, o, none⟩) hl5
        simp only [cc5]
        exact ⟨k0, k1⟩)
      clear k0 k1 ky hln hks1 htl
      obtain ⟨s0, s1⟩ := HSS.out _ HBW.out
      go_wp2_with fail
      have HB2 : Hid (Below w1.heap.size w1 (wr.alloc (Obj.cells #[.string f.1, .slice ad ln cd] 51))) := Lib.hid (HBI.out.alloc HBI.out.size _)
      have HK2 : Hid (Blk (wr.alloc (Obj.cells #[.string f.1, .slice ad ln cd] 51)) wr.heap.size 51 [.string f.1, .slice ad ln cd]) := Lib.hid (Blk.new wr #[.string f.1, .slice ad ln cd] _)
      have d0 := HK2.out.cell (i := 0) rfl
      have d1 := HK2.out.cell (i := 1) rfl
      clear s0 s1
      cases hb : nameB f.1 with
      | false =>
        rw [hb] at HNM HNO
        have HJ := Lib.hid (HNO.out rfl)
        refine (HNM.out _).mono ?_
        rintro e w' ⟨rfl, rfl⟩
        go_wp2_with fail
        go_ret2
        exact ⟨_, by rw [HJ.out]; rfl, by rw [HJ.out]; exact Own.nil _ _, chain HB1.out HB2.out⟩
      | true =>
        rw [hb] at HNM HNX
        have HJ := Lib.hid (HNX.out rfl)
        clear hb
        refine (HNM.out _).mono ?_
        rintro e w' ⟨rfl, rfl⟩
        go_wp2_with fail
        go_roundw
        case rel => exact ⟨q + 1, x + 12 + ln, by omega, by go_num, by go_num, HX2.out.2, HX2.out.1, HJ.out, HB2.out⟩
        case measure => simp [intOf]; omega
    · have hqe : LF = q := by omega
      have HAL : Hid (fs.take q = fs) := Lib.hid (by rw [← hqe, HLF.out, List.take_length])
      subst hqe
      have HALN : Hid (allN fs = true) := Lib.hid (by have h := HAN.out; rw [HAL.out] at h; exact h)
      have HJV : Hid (joinV fs = (sigL ++ strmC fs, 0)) := Lib.hid (by
        have h := HAN.out
        rw [HAL.out] at h
        unfold joinV
        rw [if_pos h])
      have HBW := Lib.hid (chain HB1.out HBI.out)
      go_wp2_with fail
      refine (Su.new_any _).mono ?_
      rintro e w2 ⟨rfl, hb2, ht2⟩
      have HB2 := Lib.hid (chain HBW.out hb2)
      have HT2 := Lib.hid ht2
      have HO2 := Lib.hid ((HO1.out.keep HBI.out).keep hb2)
      clear hb2 ht2 HX HAN HBI HBW
      generalize wr.heap.size = T at *
      go_wp2_with fail
      go_loopw [4, 10, 37] (fun ov _ jv wr => ∃ q : Nat, q ≤ LF ∧ jv = .int .i64 q ∧ Hid (Own wr w.heap.size ov (sigL ++ strmC (fs.take q))) ∧ Hid (wr.rowIs T 68 256 Su.tab) ∧ Hid (Below w.heap.size w wr)) (fun _ _ jv _ => LF - (intOf jv).toNat)
      case atStart => exact ⟨0, by omega, rfl, HO2.out, HT2.out, HB2.out⟩
      case round =>
        obtain ⟨q, hq, rfl, HO, HT, HB⟩ := hrel
        by_cases hql : q < LF
        · have hq' : q < fs.length := by rw [← HLF.out]; exact hql
          obtain ⟨g5, o5, ad, cd, rfl, k0, k1, ky, kn, _⟩ := HV1.out q hq'
          have hks1 := HKS.out (fs[q]'hq') (List.getElem_mem hq')
          have hnm := allN_at HALN.out hq'
          have h4 : (fs[q]'hq').1.size = 4 := (nameB_first hnm).choose
          have HLEN : Hid ((sigL ++ strmC (fs.take q)).length + 12 + (fs[q]'hq').2.length ≤ 262144) := Lib.hid (by
            have h1 := strmC_length q fs (allN_of_take HALN.out q)
            have h2 := totC_take_le (q + 1) fs
            rw [totC_step fs q hq'] at h2
            have h3 := HBD.out
            have h4 : sigL.length = 8 := rfl
            rw [List.length_append, h1, h4]
            omega)
          have HTK : Hid (sigL ++ strmC (fs.take (q + 1)) = ((((sigL ++ strmC (fs.take q)) ++ four (fs[q]'hq').2.length) ++ (fs[q]'hq').1.data.toList) ++ (fs[q]'hq').2) ++ four (crcV (fs[q]'hq').1 (fs[q]'hq').2)) := Lib.hid (by
            rw [List.take_succ_eq_append_getElem hq', strmC_snoc]
            simp only [List.append_assoc])
          generalize sigL ++ strmC (fs.take q) = pre at *
          generalize fs[q]'hq' = f at *
          obtain ⟨ln, hln⟩ : ∃ ln, ln = f.2.length := ⟨_, rfl⟩
          rw [← hln] at k1 HTK HLEN
          have HLN := Lib.hid hln
          have hlnb : ln ≤ 262144 := by have := HLEN.out; omega
          have hl5 : g5 < w.heap.size := cell_lt (a := ⟨g5, o5 + q * 2, none⟩) k0
          have HF := Lib.hid (And.intro ky kn)
          have HSS : Hid (∀ u, Below w.heap.size w u → u.cell? ⟨g5, o5 + q * 2, none⟩ = some (.string f.1) ∧ u.cell? ⟨g5, o5 + q * 2 + 1, none⟩ = some (.slice ad ln cd)) := Lib.hid (fun u hu => by
            have cc5 : ∀ o, u.cell? ⟨g5, o, none⟩ = w.cell? ⟨g5, o, none⟩ := fun o => hu.cell (p := ⟨g5, o, none⟩) hl5
            simp only [cc5]
            exact ⟨k0, k1⟩)
          have HCR : Hid (crcV f.1 f.2 < 4294967296) := Lib.hid (Su.more_lt _ _ (Su.more_lt _ _ (by omega)))
          have HCH : Hid (∀ u, u.rowIs T 68 256 Su.tab → Bytes u ad f.2 → Calls Try.prog 29 #[.pointer (some ⟨T, 0, none⟩), .string f.1, .slice ad ln cd] u fun e w' => e = .returned (.int .u32 (crcV f.1 f.2 : Nat)) ∧ bytesW u 5 f.1 = w') := Lib.hid (fun u hu hy => by
            have := Su.chunk_any T f.1 (by omega) ad cd f.2 u hu hy (by rw [← HLN.out]; omega)
            rw [← HLN.out] at this
            exact this)
          have HKS4 : Hid (f.1.data.toList.length = 4 ∧ f.1.size = 4) := Lib.hid ⟨by simpa using h4, h4⟩
          clear k0 k1 ky kn hln hks1 hnm h4
          obtain ⟨s0, s1⟩ := HSS.out _ HB.out
          have J0 : Hid (Jst w (wr.alloc (Obj.cells #[.string f.1, .slice ad ln cd] 51)) u4 pre T wr.heap.size [.string f.1, .slice ad ln cd]) := Lib.hid ⟨HO.out.alloc _, HT.out.of_block (blk_alloc_lt _ _ _ HT.out.lt), Blk.new wr #[.string f.1, .slice ad ln cd] _, HB.out.alloc HB.out.size _⟩
          have hcb0 := J0.out.2.2.1.lt
          have d0 := J0.out.2.2.1.cell (i := 0) rfl
          have d1 := J0.out.2.2.1.cell (i := 1) rfl
          go_wp2_with fail
          generalize (wr.alloc (Obj.cells #[.string f.1, .slice ad ln cd] 51)) = w4 at *
          clear s0 s1 d0 d1
          refine (laid_any ln (by omega) _).mono ?_
          rintro e w5 ⟨g9, rfl, ho9, hb9⟩
          have J5 := Lib.hid (J0.out.call hb9)
          have HN5 := Lib.hid ho9.bytes
          clear ho9 hb9
          go_wp2_with (at_builtin; refine wpList_append_bytes rfl (.tmp 41) (.tmp 45) rfl w.heap.size _ pre rfl J5.out.1 (some ⟨g9, 0, none⟩) 4 4 (four ln) rfl rfl HN5.out (fun h => by cases h) (by have := HLEN.out; omega) J5.out.2.2.2.size ?_)
          intro v6 w6 ho6 hg6
          have J6 := Lib.hid (J5.out.grow hg6 ho6)
          clear ho6 hg6 HN5
          have d0 := J6.out.2.2.1.cell (i := 0) rfl
          have d1 := J6.out.2.2.1.cell (i := 1) rfl
          go_wp2_with (at_builtin; refine wpList_append_str rfl (.tmp 47) (.tmp 49) rfl w.heap.size _ _ rfl J6.out.1 f.1 rfl (by have := HLEN.out; have := HKS4.out.2; rw [List.length_append, four_length]; omega) J6.out.2.2.2.size ?_)
          intro v7 w7 ho7 hg7
          have J7 := Lib.hid (J6.out.grow hg7 ho7)
          clear ho7 hg7 d0 d1
          have d0 := J7.out.2.2.1.cell (i := 0) rfl
          have d1 := J7.out.2.2.1.cell (i := 1) rfl
          go_wp2_with (at_builtin; refine wpList_append_bytes rfl (.tmp 51) (.tmp 53) rfl w.heap.size _ _ rfl J7.out.1 ad ln cd f.2 rfl HLN.out (HF.out.1.keep J7.out.2.2.2) HF.out.2 (by have := HLEN.out; have := HKS4.out.1; simp only [List.length_append, four_length]; omega) J7.out.2.2.2.size ?_)
          intro v8 w8 ho8 hg8
          have J8 := Lib.hid (J7.out.grow hg8 ho8)
          clear ho8 hg8 d0 d1
          have d0 := J8.out.2.2.1.cell (i := 0) rfl
          have d1 := J8.out.2.2.1.cell (i := 1) rfl
          have HCX := Lib.hid (HCH.out w8 J8.out.2.1 (HF.out.1.keep J8.out.2.2.2))
          have hcl := HCR.out
          have J9 := Lib.hid (J8.out.call (bytesW_below w8 5 f.1))
          generalize hcc : crcV f.1 f.2 = C at *
          clear hcc
          go_wp2_with fail
          refine HCX.out.mono ?_
          rintro e w' ⟨rfl, rfl⟩
          generalize bytesW w8 5 f.1 = w9 at *
          clear d0 d1
          go_wp2_with fail
          refine (laid_any C (by omega) _).mono ?_
          rintro e w10 ⟨g10, rfl, ho10, hb10⟩
          have J10 := Lib.hid (J9.out.call hb10)
          have HN10 := Lib.hid ho10.bytes
          clear ho10 hb10
          go_wp2_with (at_builtin; refine wpList_append_bytes rfl (.tmp 55) (.tmp 63) rfl w.heap.size _ _ rfl J10.out.1 (some ⟨g10, 0, none⟩) 4 4 (four C) rfl rfl HN10.out (fun h => by cases h) (by have := HLEN.out; have := HKS4.out.1; have := HLN.out; simp only [List.length_append, four_length]; omega) J10.out.2.2.2.size ?_)
          intro v11 w11 ho11 hg11
          have J11 := Lib.hid (J10.out.grow hg11 ho11)
          clear ho11 hg11 HN10
          go_wp2_with fail
          go_roundw
          case rel => exact ⟨q + 1, by omega, by go_num, (by have h := J11.out.1; rw [HTK.out]; simp only [List.append_assoc] at h ⊢; exact h), J11.out.2.1, J11.out.2.2.2⟩
          case measure => simp [intOf]; omega
        · have hqe : LF = q := by omega
          have HAL : Hid (fs.take q = fs) := Lib.hid (by rw [← hqe, HLF.out, List.take_length])
          subst hqe
          go_wp2_with fail
          go_ret2
          exact ⟨_, by rw [HJV.out]; rfl, by rw [HJV.out, ← HAL.out]; exact HO.out, HB.out⟩
end Go.Proofs.Ytfjcelnamjgieaa.Ck
