/- Contracts of chunk.laid, Critical (both); a string's bytes appended. Condition: the string is no longer than may be. -/
import Derived.Test.YtfjcelnamjgieaaCkI
import Derived.Lib.AppendStr
namespace Go.Proofs.Ytfjcelnamjgieaa.Ck
open Go.RowKit Ba Go.Deep
set_option linter.unusedVariables false

/-- A number's four bytes, the highest first. -/
def four (n : Nat) : List UInt8 := [UInt8.ofNat (n / 16777216), UInt8.ofNat (n / 65536), UInt8.ofNat (n / 256), UInt8.ofNat n]
theorem four_length (n : Nat) : (four n).length = 4 := rfl
theorem four_cells (n : Nat) : [Value.int .u8 ((n : Int) / 16777216 % 256), .int .u8 ((n : Int) / 65536 % 256), .int .u8 ((n : Int) / 256 % 256), .int .u8 ((n : Int) % 256)] = (four n).map cellOf := by
  show _ = [cellOf _, cellOf _, cellOf _, cellOf _]
  unfold cellOf
  simp only [UInt8.toNat_ofNat']
  simp
theorem beV_fourV (n : Nat) (hn : n < 4294967296) : beV (four n) = n := by
  unfold four
  rw [beV_four]
  simp only [UInt8.toNat_ofNat']
  omega
set_option maxRecDepth 100000 in
set_option maxHeartbeats 800000 in
theorem laid_any (n : Nat) (hn : n < 4611686018427387904) (w : World) : Calls Try.prog 28 #[.int .i64 (n : Nat)] w fun e w' => ∃ g, e = .returned (.slice (some ⟨g, 0, none⟩) 4 4) ∧ Own w' w.heap.size (.slice (some ⟨g, 0, none⟩) 4 4) (four n) ∧ Below w.heap.size w w' := by
  go_enter Try.func28, Try.ntmps28
  go_wp2_with fail
  go_ret
  refine ⟨_, rfl, Own.lit w w.heap.size (four n) _ (Nat.le_refl _) (by rw [four_length]; unfold maxLen; decide) ?_, (Below.refl _ _).alloc (Nat.le_refl _) _⟩
  rw [← four_cells]
/-- 'v = append(v, s...)': v the call's own; s a string. -/
theorem wpList_append_str {w : World} {ops : Array Oper} {rest : List Oper} {o : Oper} {a : Act} {Q : Exit → Act → World → Prop} (hgd : o.guard = none) (s x : Operand)
    (ho : o.op = .call { callee := .builtin .append, args := #[s, x], argTypes := #[22, 9] })
    (base : Nat) (v : Value) (xs : List UInt8) (hs : a.eval s = v) (hown : Own w base v xs) (str : ByteArray) (hx : a.eval x = .string str)
    (hbd : xs.length + str.size ≤ 140737488355328) (hbase : base ≤ w.heap.size)
    (h : ∀ v' w', Own w' base v' (xs ++ str.data.toList) → w.grownBy w' v.ownBlock → wpList Try.prog ops Q rest (a.put o.dst v') w') : wpList Try.prog ops Q (o :: rest) a w := by
  obtain ⟨i, hi, hz, hsize, hby⟩ := info_parts info_u8
  refine Go.Lib.wpList_append_own_string w hgd s x _ _ ho base 5 i Try.underlying22 Try.underlying9 hi hz hsize hby v xs.length (xs.map cellOf) hs hown str hx (by unfold maxLen; omega) hbd hbase ?_
  intro v' w' ho' hg _
  refine h v' w' ?_ hg
  unfold Own
  have e : (xs ++ str.data.toList).length = xs.length + str.size := by rw [List.length_append]; simp
  rw [e, List.map_append]
  exact ho'
/-- Whether a kind must be understood. -/
def critB (s : ByteArray) : Bool := nameB s && decide ((s.data.toList.headD 255).toNat ≤ 90)
theorem nameB_first {s : ByteArray} (h : nameB s = true) : ∃ h4 : s.size = 4, letB (s[0]'(by omega)).toNat = true ∧ critB s = decide ((s[0]'(by omega)).toNat ≤ 90) := by
  have h' := h
  unfold nameB at h
  rw [Bool.and_eq_true] at h
  have h4 : s.size = 4 := by simpa using h.1
  have hl : 0 < s.data.toList.length := by simpa using (by omega : 0 < s.size)
  have hd : s.data.toList.headD 255 = s[0]'(by omega) := by
    rw [List.headD_eq_head?_getD, List.head?_eq_getElem?, List.getElem?_eq_getElem hl]
    rfl
  refine ⟨h4, ?_, ?_⟩
  · have := List.all_eq_true.1 h.2 (s[0]'(by omega)) (by rw [← hd, List.headD_eq_head?_getD, List.head?_eq_getElem?, List.getElem?_eq_getElem hl]; exact List.getElem_mem hl)
    exact this
  · unfold critB
    rw [h', hd]
    rfl
theorem critB_no {s : ByteArray} (h : nameB s = false) : critB s = false := by unfold critB; rw [h]; rfl
set_option maxRecDepth 100000 in
set_option maxHeartbeats 800000 in
theorem crit_any (s : ByteArray) (hs : s.size ≤ maxLen) (w : World) : Calls Try.prog 18 #[.string s] w fun e w' => e = .returned (.bool (critB s)) ∧ w = w' := by
  have HNM := Lib.hid (named_any s hs w)
  cases hb : nameB s with
  | false =>
    have HC := Lib.hid (critB_no hb)
    rw [hb] at HNM
    clear hb
    go_enter Try.func18, Try.ntmps18
    go_wp2_with fail
    refine HNM.out.mono ?_
    rintro e w' ⟨rfl, rfl⟩
    go_wp2_with fail
    go_ret
    exact ⟨by rw [HC.out]; rfl, rfl⟩
  | true =>
    obtain ⟨h4, hl, hcr⟩ := nameB_first hb
    have HC := Lib.hid hcr
    have HL := Lib.hid hl
    have hlt : 0 < s.size := by omega
    rw [hb] at HNM
    clear hb hl hcr
    go_enter Try.func18, Try.ntmps18
    go_wp2_with fail
    refine HNM.out.mono ?_
    rintro e w' ⟨rfl, rfl⟩
    go_wp2_with fail
    go_ret
    refine ⟨?_, rfl⟩
    rw [HC.out]
    exact congrArg (fun b => Ending.returned (.bool b)) (Bool.eq_iff_iff.2 (by simp; try omega))
set_option maxRecDepth 100000 in
set_option maxHeartbeats 800000 in
theorem rcrit_any (s : ByteArray) (hs : s.size ≤ maxLen) (w : World) : Calls Try.prog 19 #[.string s] w fun e w' => e = .returned (.bool (critB s)) ∧ w = w' := by
  have HNM := Lib.hid (letters_any s hs w)
  cases hb : nameB s with
  | false =>
    have HC := Lib.hid (critB_no hb)
    rw [hb] at HNM
    clear hb
    go_enter Try.func19, Try.ntmps19
    go_wp2_with fail
    refine HNM.out.mono ?_
    rintro e w' ⟨rfl, rfl⟩
    go_wp2_with fail
    go_ret
    exact ⟨by rw [HC.out]; rfl, rfl⟩
  | true =>
    obtain ⟨h4, hl, hcr⟩ := nameB_first hb
    have HC := Lib.hid hcr
    have HL := Lib.hid hl
    have hlt : 0 < s.size := by omega
    rw [hb] at HNM
    clear hb hl hcr
    go_enter Try.func19, Try.ntmps19
    go_wp2_with fail
    refine HNM.out.mono ?_
    rintro e w' ⟨rfl, rfl⟩
    go_wp2_with fail
    go_ret
    refine ⟨?_, rfl⟩
    rw [HC.out]
    have hl := HL.out
    unfold letB at hl
    simp only [Bool.or_eq_true, Bool.and_eq_true, decide_eq_true_eq] at hl
    exact congrArg (fun b => Ending.returned (.bool b)) (Bool.eq_iff_iff.2 (by simp; try omega))
end Go.Proofs.Ytfjcelnamjgieaa.Ck
