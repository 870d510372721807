/- Plain laws of CRC-32's bursts: no program is named here. -/
import Derived.Test.YtejklnnhgpinbaaCrc
namespace Go.Proofs.Ytejklnnhgpinbaa.Su

/-- Bytes as one number, the lowest first. -/
def val : List UInt8 → Nat
  | [] => 0
  | c :: l => c.toNat ^^^ (2 ^ 8 * val l)
theorem mul_xor (n a b : Nat) : 2 ^ n * (a ^^^ b) = (2 ^ n * a) ^^^ (2 ^ n * b) := by
  have h : ∀ x, 2 ^ n * x = x <<< n := fun x => by rw [Nat.shiftLeft_eq, Nat.mul_comm]
  rw [h, h, h, Nat.shiftLeft_xor_distrib]
theorem add_as_xor (i a b : Nat) (hb : b < 2 ^ i) : 2 ^ i * a + b = (2 ^ i * a) ^^^ b := by
  apply Nat.eq_of_testBit_eq
  intro j
  rw [Nat.testBit_xor]
  by_cases hj : j < i
  · rw [Nat.testBit_two_pow_mul_add a hb, if_pos hj, Nat.testBit_two_pow_mul, decide_eq_false (by omega : ¬ j ≥ i), Bool.false_and, Bool.false_xor]
  · rw [Nat.testBit_two_pow_mul_add a hb, if_neg hj, Nat.testBit_two_pow_mul]
    have : b.testBit j = false := Nat.testBit_lt_two_pow (Nat.lt_of_lt_of_le hb (Nat.pow_le_pow_right (by omega) (by omega)))
    rw [this, decide_eq_true (by omega : j ≥ i), Bool.true_and, Bool.xor_false]
theorem reg_val (bs : List UInt8) : ∀ r, reg r bs = steps (8 * bs.length) (r ^^^ val bs) := by
  induction bs with
  | nil => intro r; show r = steps 0 (r ^^^ 0); rw [Nat.xor_zero]; rfl
  | cons c l ih =>
    intro r
    show reg (upd r c.toNat) l = _
    rw [ih]
    unfold upd
    have e : steps 8 (r ^^^ c.toNat) ^^^ val l = steps 8 (r ^^^ val (c :: l)) := by
      show _ = steps 8 (r ^^^ (c.toNat ^^^ (2 ^ 8 * val l)))
      rw [← Nat.xor_assoc, steps_xor 8 (r ^^^ c.toNat), steps_up]
    rw [e, ← steps_add, List.length_cons]
    congr 1
theorem val_set (bs : List UInt8) (x : UInt8) : ∀ i, (h : i < bs.length) → val (bs.set i (bs[i] ^^^ x)) = val bs ^^^ (2 ^ (8 * i) * x.toNat) := by
  induction bs with
  | nil => intro i h; simp at h
  | cons c l ih =>
    intro i h
    cases i with
    | zero =>
      show (c ^^^ x).toNat ^^^ _ = (c.toNat ^^^ _) ^^^ _
      rw [UInt8.toNat_xor, Nat.xor_assoc, Nat.xor_comm x.toNat, ← Nat.xor_assoc]
      simp
    | succ i =>
      have h' : i < l.length := by simpa using h
      show c.toNat ^^^ (2 ^ 8 * val (l.set i (l[i] ^^^ x))) = (c.toNat ^^^ (2 ^ 8 * val l)) ^^^ _
      rw [ih i h', mul_xor, ← Nat.xor_assoc]
      congr 1
      rw [← Nat.mul_assoc, ← Nat.pow_add]
      congr 2
      omega
theorem steps_ne (k x : Nat) (hx : x < 4294967296) (h0 : x ≠ 0) : steps k x ≠ 0 ∧ steps k x < 4294967296 := by
  induction k with
  | zero => exact ⟨h0, hx⟩
  | succ k ih =>
    refine ⟨?_, step1_lt _ ih.2⟩
    show step1 (steps k x) ≠ 0
    generalize steps k x = y at ih
    intro h
    rcases Nat.mod_two_eq_zero_or_one y with hy | hy
    · rw [step1_even y hy] at h; omega
    · rw [step1_odd y hy] at h
      have : y / 2 = 3988292384 := by
        have h2 : (y / 2 ^^^ 3988292384) ^^^ 3988292384 = 3988292384 := by rw [h, Nat.zero_xor]
        rw [Nat.xor_assoc, Nat.xor_self, Nat.xor_zero] at h2
        exact h2
      omega

/-- What the loop makes of bytes: bit k of n at place f + k. -/
def burst (f n : Nat) (bs : List UInt8) : Nat → List UInt8
  | 0 => bs
  | k + 1 => if n / 2 ^ k % 2 = 1 then (burst f n bs k).set ((f + k) / 8) ((burst f n bs k).getD ((f + k) / 8) 0 ^^^ UInt8.ofNat (2 ^ ((f + k) % 8))) else burst f n bs k
theorem burst_length (f n : Nat) (bs : List UInt8) (k : Nat) : (burst f n bs k).length = bs.length := by
  induction k with
  | zero => rfl
  | succ k ih =>
    unfold burst
    split
    · rw [List.length_set, ih]
    · exact ih
theorem pow8 (j : Nat) : (UInt8.ofNat (2 ^ (j % 8))).toNat = 2 ^ (j % 8) := by
  have h : j % 8 < 8 := Nat.mod_lt _ (by omega)
  have h2 : 2 ^ (j % 8) < 2 ^ 8 := Nat.pow_lt_pow_right (by omega) h
  exact UInt8.toNat_ofNat_of_lt' h2
theorem burst_val (f n : Nat) (bs : List UInt8) (k : Nat) (hk : k ≤ 32) (hf : f + 32 ≤ 8 * bs.length) : val (burst f n bs k) = val bs ^^^ (2 ^ f * (n % 2 ^ k)) := by
  induction k with
  | zero => show val bs = _; rw [Nat.pow_zero, Nat.mod_one, Nat.mul_zero, Nat.xor_zero]
  | succ k ih =>
    have ih := ih (by omega)
    have hp : 0 < 2 ^ k := Nat.two_pow_pos k
    have hsplit : n % 2 ^ (k + 1) = 2 ^ k * (n / 2 ^ k % 2) + n % 2 ^ k := by
      rw [Nat.pow_succ, Nat.mod_mul]; omega
    rw [hsplit, add_as_xor k _ _ (Nat.mod_lt _ hp), mul_xor]
    unfold burst
    split
    · rename_i h1
      rw [h1, Nat.mul_one]
      have hl : (f + k) / 8 < (burst f n bs k).length := by rw [burst_length]; omega
      have hg : (burst f n bs k).getD ((f + k) / 8) 0 = (burst f n bs k)[(f + k) / 8] := by rw [List.getD_eq_getElem?_getD, List.getElem?_eq_getElem hl]; rfl
      rw [hg, val_set _ _ _ hl, ih, pow8, ← Nat.pow_add]
      have e : 8 * ((f + k) / 8) + (f + k) % 8 = f + k := by omega
      rw [e, Nat.pow_add, Nat.xor_assoc, Nat.xor_comm (2 ^ f * (n % 2 ^ k))]
    · rename_i h1
      have h0 : n / 2 ^ k % 2 = 0 := by omega
      rw [h0, ih]
      simp
/-- A burst turns the sum. -/
theorem burst_sum (s f n : Nat) (bs : List UInt8) (hn : n < 4294967296) (h0 : n ≠ 0) (hf : f + 32 ≤ 8 * bs.length) : more s bs ≠ more s (burst f n bs 32) := by
  unfold more
  rw [reg_val, reg_val, burst_length, burst_val f n bs 32 (Nat.le_refl _) hf, Nat.mod_eq_of_lt (show n < 2 ^ 32 from hn), ← Nat.xor_assoc, steps_xor _ (inv s ^^^ val bs)]
  intro h
  have h2 : inv (inv (steps (8 * bs.length) (inv s ^^^ val bs))) = inv (inv (steps (8 * bs.length) (inv s ^^^ val bs) ^^^ steps (8 * bs.length) (2 ^ f * n))) := by rw [h]
  rw [inv_inv, inv_inv] at h2
  have h3 : steps (8 * bs.length) (2 ^ f * n) = 0 := by
    have h4 : steps (8 * bs.length) (inv s ^^^ val bs) ^^^ steps (8 * bs.length) (inv s ^^^ val bs) = steps (8 * bs.length) (inv s ^^^ val bs) ^^^ (steps (8 * bs.length) (inv s ^^^ val bs) ^^^ steps (8 * bs.length) (2 ^ f * n)) := by rw [← h2]
    rw [Nat.xor_self, ← Nat.xor_assoc, Nat.xor_self, Nat.zero_xor] at h4
    exact h4.symm
  rw [show 8 * bs.length = (8 * bs.length - f) + f from by omega, steps_add, steps_up] at h3
  exact (steps_ne _ n hn h0).1 h3
end Go.Proofs.Ytejklnnhgpinbaa.Su
