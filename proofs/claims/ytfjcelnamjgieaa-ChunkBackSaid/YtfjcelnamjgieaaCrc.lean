/- Plain laws of CRC-32 and Adler-32: no program is named here. -/
import Derived.Laws.BitsAllLaws
namespace Go.Proofs.Ytfjcelnamjgieaa.Su

/-- One bit of CRC-32. -/
def step1 (x : Nat) : Nat := if x % 2 = 1 then (x / 2) ^^^ 3988292384 else x / 2
def steps : Nat → Nat → Nat
  | 0, x => x
  | n + 1, x => step1 (steps n x)
theorem step1_lt (x : Nat) (h : x < 4294967296) : step1 x < 4294967296 := by
  unfold step1
  split
  · exact Nat.xor_lt_two_pow (n := 32) (by omega) (by omega)
  · omega
theorem steps_lt (n x : Nat) (h : x < 4294967296) : steps n x < 4294967296 := by
  induction n with
  | zero => exact h
  | succ n ih => exact step1_lt _ ih
theorem step1_odd (x : Nat) (h : x % 2 = 1) : step1 x = (x / 2) ^^^ 3988292384 := by unfold step1; rw [if_pos h]
theorem step1_even (x : Nat) (h : x % 2 = 0) : step1 x = x / 2 := by unfold step1; rw [if_neg (by omega)]
theorem and1 (y : Nat) (hy : y < 4294967296) : bits .and .u32 (y : Int) 1 = ((y % 2 : Nat) : Int) := by
  have := u32_and_nat y 1 hy (by omega)
  rw [Nat.and_one_is_mod] at this
  exact this
theorem xorP (y : Nat) (hy : y < 4294967296) : bits .xor .u32 ((y : Int) / 2) 3988292384 = (((y / 2) ^^^ 3988292384 : Nat) : Int) := by
  have := u32_xor_nat (y / 2) 3988292384 (by omega) (by omega)
  exact this

/-- Complement. -/
def inv (x : Nat) : Nat := x ^^^ 4294967295
theorem inv_lt (x : Nat) (h : x < 4294967296) : inv x < 4294967296 := Nat.xor_lt_two_pow (n := 32) h (by omega)
theorem inv_inv (x : Nat) : inv (inv x) = x := by unfold inv; rw [Nat.xor_assoc, Nat.xor_self, Nat.xor_zero]
theorem inv_eq (x : Nat) (h : x < 4294967296) : bits .xor .u32 IntKind.u32.max (x : Int) = (inv x : Int) := by
  have := u32_xor_nat 4294967295 x (by omega) h
  rw [Nat.xor_comm] at this
  exact this

/-! ### The step goes with exclusive or -/
theorem step1_xor (x y : Nat) : step1 (x ^^^ y) = step1 x ^^^ step1 y := by
  have hd : (x ^^^ y) / 2 = (x / 2) ^^^ (y / 2) := Nat.xor_div_two
  have hm : (x ^^^ y) % 2 = (x + y) % 2 := by have h := @Nat.xor_mod_two_eq_one x y; omega
  rcases Nat.mod_two_eq_zero_or_one x with hx | hx <;> rcases Nat.mod_two_eq_zero_or_one y with hy | hy
  · rw [step1_even _ hx, step1_even _ hy, step1_even _ (by omega), hd]
  · rw [step1_even _ hx, step1_odd _ hy, step1_odd _ (by omega), hd, Nat.xor_assoc]
  · rw [step1_odd _ hx, step1_even _ hy, step1_odd _ (by omega), hd, Nat.xor_assoc, Nat.xor_assoc, Nat.xor_comm (y / 2)]
  · rw [step1_odd _ hx, step1_odd _ hy, step1_even _ (by omega), hd]
    rw [Nat.xor_assoc (x / 2) 3988292384, ← Nat.xor_assoc 3988292384 (y / 2), Nat.xor_comm 3988292384 (y / 2), Nat.xor_assoc (y / 2), Nat.xor_self, Nat.xor_zero]
theorem steps_xor (n x y : Nat) : steps n (x ^^^ y) = steps n x ^^^ steps n y := by
  induction n with
  | zero => rfl
  | succ n ih => show step1 _ = step1 _ ^^^ step1 _; rw [ih, step1_xor]
theorem step1_double (y : Nat) : step1 (2 * y) = y := by rw [step1_even _ (by omega)]; omega
theorem steps_succ' (n x : Nat) : steps (n + 1) x = steps n (step1 x) := by
  induction n with
  | zero => rfl
  | succ n ih => show step1 _ = step1 _; rw [ih]
theorem steps_up (n y : Nat) : steps n (2 ^ n * y) = y := by
  induction n with
  | zero => show 2 ^ 0 * y = y; omega
  | succ n ih => rw [steps_succ', show 2 ^ (n + 1) * y = 2 * (2 ^ n * y) from by rw [Nat.pow_succ]; ac_rfl, step1_double, ih]
theorem steps_add (m n x : Nat) : steps (m + n) x = steps m (steps n x) := by
  induction m with
  | zero => rw [Nat.zero_add]; rfl
  | succ m ih => rw [show m + 1 + n = (m + n) + 1 from by omega]; show step1 _ = step1 _; rw [ih]
theorem step1_zero : step1 0 = 0 := rfl
theorem steps_zero (n : Nat) : steps n 0 = 0 := by
  induction n with
  | zero => rfl
  | succ n ih => show step1 _ = 0; rw [ih, step1_zero]

/-- A byte. -/
def upd (r c : Nat) : Nat := steps 8 (r ^^^ c)
theorem upd_lt (r c : Nat) (hr : r < 4294967296) (hc : c < 256) : upd r c < 4294967296 := steps_lt _ _ (Nat.xor_lt_two_pow (n := 32) hr (by omega))
theorem split8 (r : Nat) : r = (r % 256) ^^^ (2 ^ 8 * (r / 256)) := by
  have h : 2 ^ 8 * (r / 256) ^^^ (r % 256) = 2 ^ 8 * (r / 256) + r % 256 := by
    apply Nat.eq_of_testBit_eq
    intro i
    rw [Nat.testBit_xor]
    by_cases hi : i < 8
    · rw [Nat.testBit_two_pow_mul_add (r / 256) (show r % 256 < 2 ^ 8 from by omega), if_pos hi, Nat.testBit_two_pow_mul, decide_eq_false (by omega : ¬ i ≥ 8), Bool.false_and, Bool.false_xor]
    · rw [Nat.testBit_two_pow_mul_add (r / 256) (show r % 256 < 2 ^ 8 from by omega), if_neg hi, Nat.testBit_two_pow_mul]
      have : (r % 256).testBit i = false := Nat.testBit_lt_two_pow (Nat.lt_of_lt_of_le (show r % 256 < 2 ^ 8 from by omega) (Nat.pow_le_pow_right (by omega) (by omega)))
      rw [this, decide_eq_true (by omega : i ≥ 8), Bool.true_and, Bool.xor_false]
  rw [Nat.xor_comm, h]; omega
/-- By the table: as the program reckons. -/
theorem upd_table (r c : Nat) : upd r c = steps 8 ((r % 256) ^^^ c) ^^^ (r / 256) := by
  unfold upd
  have e : r ^^^ c = ((r % 256) ^^^ c) ^^^ (2 ^ 8 * (r / 256)) := by
    conv => lhs; rw [split8 r]
    rw [Nat.xor_assoc, Nat.xor_comm (2 ^ 8 * (r / 256)), ← Nat.xor_assoc]
  rw [e, steps_xor, steps_up]

/-- The register behind bytes. -/
def reg (r : Nat) (bs : List UInt8) : Nat := bs.foldl (fun r c => upd r c.toNat) r
theorem reg_lt (r : Nat) (bs : List UInt8) (h : r < 4294967296) : reg r bs < 4294967296 := by
  induction bs generalizing r with
  | nil => exact h
  | cons c l ih => exact ih _ (upd_lt _ _ h c.toNat_lt)
theorem reg_append (r : Nat) (a b : List UInt8) : reg r (a ++ b) = reg (reg r a) b := by unfold reg; rw [List.foldl_append]
theorem reg_snoc (r : Nat) (bs : List UInt8) (k : Nat) (h : k < bs.length) : reg r (bs.take (k + 1)) = upd (reg r (bs.take k)) bs[k].toNat := by
  rw [List.take_succ_eq_append_getElem h, reg_append]; rfl
/-- The sum with more bytes behind. -/
def more (s : Nat) (bs : List UInt8) : Nat := inv (reg (inv s) bs)
theorem more_lt (s : Nat) (bs : List UInt8) (h : s < 4294967296) : more s bs < 4294967296 := inv_lt _ (reg_lt _ _ (inv_lt _ h))
theorem more_append (s : Nat) (a b : List UInt8) : more s (a ++ b) = more (more s a) b := by unfold more; rw [inv_inv, reg_append]
theorem more_nil (s : Nat) : more s [] = s := inv_inv s

/-! ### Exclusive or, and bursts -/
theorem upd_xor (r1 r2 c1 c2 : Nat) : upd r1 c1 ^^^ upd r2 c2 = upd (r1 ^^^ r2) (c1 ^^^ c2) := by
  unfold upd
  rw [← steps_xor]
  congr 1
  rw [Nat.xor_assoc, Nat.xor_assoc]
  congr 1
  rw [← Nat.xor_assoc, Nat.xor_comm c1 r2, Nat.xor_assoc]
theorem reg_xor (A B : List UInt8) (h : A.length = B.length) (r1 r2 r3 r4 : Nat) (hr : r1 ^^^ r2 = r3 ^^^ r4) :
    reg r1 A ^^^ reg r2 B = reg r3 (List.zipWith (· ^^^ ·) A B) ^^^ reg r4 (List.replicate A.length 0) := by
  induction A generalizing B r1 r2 r3 r4 with
  | nil =>
    cases B with
    | nil => exact hr
    | cons b l => simp at h
  | cons a A ih =>
    cases B with
    | nil => simp at h
    | cons b B =>
      refine ih B (by simpa using h) _ _ _ _ ?_
      rw [upd_xor, upd_xor, hr]
      congr 1
      rw [UInt8.toNat_xor]
      simp
theorem inv_xor (x y : Nat) : inv x ^^^ inv y = x ^^^ y := by
  unfold inv
  rw [Nat.xor_assoc, Nat.xor_comm y, ← Nat.xor_assoc 4294967295, Nat.xor_self, Nat.zero_xor]
theorem more_linear (A B : List UInt8) (h : A.length = B.length) : more 0 A ^^^ more 0 B = more 0 (List.zipWith (· ^^^ ·) A B) ^^^ more 0 (List.replicate A.length 0) := by
  unfold more
  rw [inv_xor, inv_xor]
  exact reg_xor A B h _ _ _ _ rfl

/-! ### Adler-32 -/
def ad1 (p : Nat × Nat) (c : Nat) : Nat × Nat := ((p.1 + c) % 65521, (p.2 + (p.1 + c) % 65521) % 65521)
def adF (p : Nat × Nat) (bs : List UInt8) : Nat × Nat := bs.foldl (fun p c => ad1 p c.toNat) p
def adOf (p : Nat × Nat) : Nat := p.2 * 65536 + p.1
def adMore (s : Nat) (bs : List UInt8) : Nat := adOf (adF (s % 65536, s / 65536) bs)
theorem adF_snoc (p : Nat × Nat) (bs : List UInt8) (k : Nat) (h : k < bs.length) : adF p (bs.take (k + 1)) = ad1 (adF p (bs.take k)) bs[k].toNat := by
  unfold adF; rw [List.take_succ_eq_append_getElem h, List.foldl_append]; rfl
theorem adF_append (p : Nat × Nat) (a b : List UInt8) : adF p (a ++ b) = adF (adF p a) b := by unfold adF; rw [List.foldl_append]
theorem ad1_lt (p : Nat × Nat) (c : Nat) : (ad1 p c).1 < 65521 ∧ (ad1 p c).2 < 65521 := by unfold ad1; exact ⟨by dsimp only; omega, by dsimp only; omega⟩
theorem adF_le (p : Nat × Nat) (bs : List UInt8) (h1 : p.1 < 65536) (h2 : p.2 < 65536) : (adF p bs).1 < 65536 ∧ (adF p bs).2 < 65536 := by
  induction bs generalizing p with
  | nil => exact ⟨h1, h2⟩
  | cons c l ih => have := ad1_lt p c.toNat; exact ih (ad1 p c.toNat) (by omega) (by omega)
theorem adF_lt (p : Nat × Nat) (bs : List UInt8) (h1 : p.1 < 65521) (h2 : p.2 < 65521) : (adF p bs).1 < 65521 ∧ (adF p bs).2 < 65521 := by
  induction bs generalizing p with
  | nil => exact ⟨h1, h2⟩
  | cons c l ih => have := ad1_lt p c.toNat; exact ih (ad1 p c.toNat) (by omega) (by omega)
theorem adMore_lt (s : Nat) (bs : List UInt8) (h : s < 4294967296) : adMore s bs < 4294967296 := by
  have := adF_le (s % 65536, s / 65536) bs (by dsimp only; omega) (by dsimp only; omega)
  unfold adMore adOf; omega
theorem adMore_nil (s : Nat) : adMore s [] = s := by show s / 65536 * 65536 + s % 65536 = s; omega
theorem adMore_append (s : Nat) (a b : List UInt8) (h : s < 4294967296) : adMore s (a ++ b) = adMore (adMore s a) b := by
  have h1 := adF_le (s % 65536, s / 65536) a (by dsimp only; omega) (by dsimp only; omega)
  unfold adMore
  rw [adF_append]
  congr 2
  generalize adF (s % 65536, s / 65536) a = p at *
  obtain ⟨x, y⟩ := p
  unfold adOf
  dsimp only at *
  rw [show (y * 65536 + x) % 65536 = x from by omega, show (y * 65536 + x) / 65536 = y from by omega]
theorem adMore_fits (bs : List UInt8) : adMore 1 bs % 65536 < 65521 ∧ adMore 1 bs / 65536 < 65521 := by
  have h := adF_lt (1 % 65536, 1 / 65536) bs (by decide) (by decide)
  unfold adMore
  generalize adF (1 % 65536, 1 / 65536) bs = p at *
  obtain ⟨x, y⟩ := p
  unfold adOf
  dsimp only at *
  omega
theorem and65535 (s : Nat) (h : s < 4294967296) : bits .and .u32 (s : Int) 65535 = ((s % 65536 : Nat) : Int) := by
  have := u32_and_nat s 65535 h (by omega)
  rw [show (65535 : Nat) = 2 ^ 16 - 1 from rfl, Nat.and_two_pow_sub_one_eq_mod] at this
  exact this
theorem or16 (y x : Nat) (hy : y < 65536) (hx : x < 65536) : bits .or .u32 ((y : Int) * 65536) (x : Int) = ((y * 65536 + x : Nat) : Int) := by
  have := u32_or_nat (y * 65536) x (by omega) (by omega)
  rw [show y * 65536 = 2 ^ 16 * y from by omega, ← Nat.two_pow_add_eq_or_of_lt (by omega : x < 2 ^ 16) y] at this
  rw [show (2 ^ 16 * y + x) = y * 65536 + x from by omega, show ((2 ^ 16 * y : Nat) : Int) = (y : Int) * 65536 from by omega] at this
  exact this
end Go.Proofs.Ytfjcelnamjgieaa.Su
