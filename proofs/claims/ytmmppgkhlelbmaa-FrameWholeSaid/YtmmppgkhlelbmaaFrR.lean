/- The plain law: what is encoded is parsed as it was. No condition. -/
import Derived.Test.YtmmppgkhlelbmaaFrO
namespace Go.Proofs.Ytmmppgkhlelbmaa.Fr
open Go.RowKit Ba Go.Deep
set_option linter.unusedVariables false

theorem leV_laid : ∀ (m : Nat) (n : Int), fitsV n m = true → ((leV (laidV n m) : Nat) : Int) = n
  | 0, n, h => by
    unfold fitsV at h
    simp at h
    show ((0 : Nat) : Int) = n
    omega
  | m + 1, n, h => by
    unfold fitsV at h
    simp only [Bool.and_eq_true, decide_eq_true_eq, beq_iff_eq] at h
    obtain ⟨h0, h1⟩ := h
    have hf : fitsV (n / 256) m = true := by
      unfold fitsV
      simp only [Bool.and_eq_true, decide_eq_true_eq, beq_iff_eq]
      refine ⟨by omega, ?_⟩
      rw [Int.ediv_ediv_of_nonneg (by decide)]
      rw [show (256 : Int) * 2 ^ (8 * m) = 2 ^ (8 * (m + 1)) by rw [show 8 * (m + 1) = 8 + 8 * m by omega, Int.pow_add]; rfl]
      exact h1
    have ih := leV_laid m (n / 256) hf
    rw [laid_cons, leV_cons, UInt8.toNat_ofNat_of_lt' (by show (n % 256).toNat < 256; omega)]
    omega
theorem encP_is (k x y z : Nat) (a b c : Int) (data : List UInt8) : encP k x y z a b c data = UInt8.ofNat k :: (laidV a x ++ (laidV b y ++ (laidV c z ++ data))) := by
  show ((([UInt8.ofNat k] ++ laidV a x) ++ laidV b y) ++ laidV c z) ++ data = _
  simp only [List.append_assoc, List.singleton_append, List.cons_append, List.nil_append]
theorem fit3_at {x y z : Nat} {a b c : Int} (h : fit3 x y z a b c = true) : fitsV a x = true ∧ fitsV b y = true ∧ fitsV c z = true := by
  unfold fit3 at h
  simp only [Bool.and_eq_true] at h
  exact ⟨h.1.1, h.1.2, h.2⟩
theorem encP_length (k x y z : Nat) (a b c : Int) (data : List UInt8) : (encP k x y z a b c data).length = 1 + (x + y + z) + data.length := by
  rw [encP_is]
  simp [laid_length]
  omega
theorem parse_enc (k : Nat) (hk : 1 ≤ k ∧ k ≤ 10) (a b c : Int) (data : List UInt8) (hf : fit3 (wid k).1 (wid k).2.1 (wid k).2.2.1 a b c = true) (hq : (wid k).2.2.2 = true ∨ data.length = 0) :
    parseC (encP k (wid k).1 (wid k).2.1 (wid k).2.2.1 a b c data) = 0 ∧ parseF (encP k (wid k).1 (wid k).2.1 (wid k).2.2.1 a b c data) = ⟨k, a, b, c, data⟩ := by
  have hkb : (UInt8.ofNat k).toNat = k := UInt8.toNat_ofNat_of_lt' (by show k < 256; omega)
  obtain ⟨f1, f2, f3⟩ := fit3_at hf
  have e1 := leV_laid _ _ f1
  have e2 := leV_laid _ _ f2
  have e3 := leV_laid _ _ f3
  rw [encP_is]
  have hC : parseC (UInt8.ofNat k :: (laidV a (wid k).1 ++ (laidV b (wid k).2.1 ++ (laidV c (wid k).2.2.1 ++ data)))) = 0 := by
    rw [parseC_cons, hkb, if_pos hk]
    have hl : (laidV a (wid k).1 ++ (laidV b (wid k).2.1 ++ (laidV c (wid k).2.2.1 ++ data))).length = tot k + data.length := by
      unfold tot
      simp [laid_length]
      omega
    rw [hl, if_neg (by omega), if_neg]
    rintro ⟨h1, h2⟩
    rcases hq with h | h
    · rw [h] at h1; cases h1
    · omega
  refine ⟨hC, ?_⟩
  rw [parseF_cons, if_pos hC]
  unfold frOf
  rw [hkb]
  have d0 : ((laidV a (wid k).1 ++ (laidV b (wid k).2.1 ++ (laidV c (wid k).2.2.1 ++ data))).drop 0).take (wid k).1 = laidV a (wid k).1 := by
    rw [List.drop_zero]; exact List.take_left' (laid_length _ _)
  have d1' : (laidV a (wid k).1 ++ (laidV b (wid k).2.1 ++ (laidV c (wid k).2.2.1 ++ data))).drop (wid k).1 = laidV b (wid k).2.1 ++ (laidV c (wid k).2.2.1 ++ data) := List.drop_left' (laid_length _ _)
  have d2' : (laidV a (wid k).1 ++ (laidV b (wid k).2.1 ++ (laidV c (wid k).2.2.1 ++ data))).drop ((wid k).1 + (wid k).2.1) = laidV c (wid k).2.2.1 ++ data := by
    rw [← List.drop_drop, d1']; exact List.drop_left' (laid_length _ _)
  have d3' : (laidV a (wid k).1 ++ (laidV b (wid k).2.1 ++ (laidV c (wid k).2.2.1 ++ data))).drop (tot k) = data := by
    show List.drop ((wid k).1 + (wid k).2.1 + (wid k).2.2.1) _ = _
    rw [← List.drop_drop, d2']; exact List.drop_left' (laid_length _ _)
  have g1 : ((laidV a (wid k).1 ++ (laidV b (wid k).2.1 ++ (laidV c (wid k).2.2.1 ++ data))).drop (wid k).1).take (wid k).2.1 = laidV b (wid k).2.1 := by rw [d1']; exact List.take_left' (laid_length _ _)
  have g2 : ((laidV a (wid k).1 ++ (laidV b (wid k).2.1 ++ (laidV c (wid k).2.2.1 ++ data))).drop ((wid k).1 + (wid k).2.1)).take (wid k).2.2.1 = laidV c (wid k).2.2.1 := by rw [d2']; exact List.take_left' (laid_length _ _)
  have h0 : ((fN (wid k).1 (wid k).2.1 (wid k).2.2.1 (laidV a (wid k).1 ++ (laidV b (wid k).2.1 ++ (laidV c (wid k).2.2.1 ++ data))) 0 : Nat) : Int) = a := by
    show ((leV (((laidV a (wid k).1 ++ (laidV b (wid k).2.1 ++ (laidV c (wid k).2.2.1 ++ data))).drop 0).take (wid k).1) : Nat) : Int) = a
    rw [d0, e1]
  have h1 : ((fN (wid k).1 (wid k).2.1 (wid k).2.2.1 (laidV a (wid k).1 ++ (laidV b (wid k).2.1 ++ (laidV c (wid k).2.2.1 ++ data))) 1 : Nat) : Int) = b := by
    show ((leV (((laidV a (wid k).1 ++ (laidV b (wid k).2.1 ++ (laidV c (wid k).2.2.1 ++ data))).drop (wid k).1).take (wid k).2.1) : Nat) : Int) = b
    rw [g1, e2]
  have h2 : ((fN (wid k).1 (wid k).2.1 (wid k).2.2.1 (laidV a (wid k).1 ++ (laidV b (wid k).2.1 ++ (laidV c (wid k).2.2.1 ++ data))) 2 : Nat) : Int) = c := by
    show ((leV (((laidV a (wid k).1 ++ (laidV b (wid k).2.1 ++ (laidV c (wid k).2.2.1 ++ data))).drop ((wid k).1 + (wid k).2.1)).take (wid k).2.2.1) : Nat) : Int) = c
    rw [g2, e3]
  rw [h0, h1, h2, d3']
/-- What Encode makes is parsed as it was. -/
theorem encK_ok {x y z : Nat} {q : Bool} {a b c : Int} {data : List UInt8} (h : encK x y z q a b c data = 0) : fit3 x y z a b c = true ∧ (q = true ∨ data.length = 0) ∧ 1 + (x + y + z) + data.length ≤ 262208 := by
  unfold encK at h
  cases hf : fit3 x y z a b c with
  | false => rw [if_pos hf] at h; cases h
  | true =>
    rw [if_neg (by rw [hf]; decide)] at h
    by_cases hq : q = false ∧ 0 < data.length
    · rw [if_pos hq] at h; cases h
    · rw [if_neg hq] at h
      by_cases hl : 262208 < 1 + (x + y + z) + data.length
      · rw [if_pos hl] at h; cases h
      · refine ⟨rfl, ?_, by omega⟩
        cases q
        · exact .inr (by have : ¬ 0 < data.length := fun h => hq ⟨rfl, h⟩; omega)
        · exact .inl rfl
end Go.Proofs.Ytmmppgkhlelbmaa.Fr
