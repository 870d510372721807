/- Contracts of the reference: widths, low. Condition: bytes lie at the slice. -/
import Derived.Test.YtmmppgkhlelbmaaFrE
namespace Go.Proofs.Ytmmppgkhlelbmaa.Fr
open Go.RowKit Ba
set_option linter.unusedVariables false

/-- The three widths, in a block of the call's own. -/
def Widths (x y z : Nat) (q : Bool) (w : World) (e : Ending) (w' : World) : Prop :=
  ∃ g, e = .returned (.tuple #[.slice (some ⟨g, 0, none⟩) 3 3, .bool q]) ∧ w.heap.size ≤ g ∧ Blk w' g 3 [.int .i64 x, .int .i64 y, .int .i64 z] ∧ Below w.heap.size w w'
set_option maxRecDepth 100000 in
set_option maxHeartbeats 1600000 in
theorem widths_yes (k : Nat) (h : 1 ≤ k ∧ k ≤ 10) (w : World) :
    Calls Try.prog 27 #[.int .i64 (k : Nat)] w (Widths (wid k).1 (wid k).2.1 (wid k).2.2.1 (wid k).2.2.2 w) := by
  rcases kind_cases h with rfl | rfl | rfl | rfl | rfl | rfl | rfl | rfl | rfl | rfl
  all_goals
    clear h
    go_enter Try.func27, Try.ntmps27
    go_wp2_with fail
    go_ret2
    exact ⟨_, rfl, Nat.le_refl _, Blk.new _ _ _, (Below.refl _ _).alloc (Nat.le_refl _) _⟩
set_option maxRecDepth 100000 in
set_option maxHeartbeats 1600000 in
theorem widths_no (k : Int) (h : ¬ isKind k) (w : World) :
    Calls Try.prog 27 #[.int .i64 k] w fun e w' => e = .returned (.tuple #[.slice none 0 0, .bool false]) ∧ w = w' := by
  have hk : ∀ j : Int, 1 ≤ j → j ≤ 10 → (k == j) = false := fun j h1 h2 => by
    rw [beq_eq_false_iff_ne]
    intro e
    exact h ⟨by omega, by omega⟩
  have k1 := hk 1 (by omega) (by omega)
  have k2 := hk 2 (by omega) (by omega)
  have k3 := hk 3 (by omega) (by omega)
  have k4 := hk 4 (by omega) (by omega)
  have k5 := hk 5 (by omega) (by omega)
  have k6 := hk 6 (by omega) (by omega)
  have k7 := hk 7 (by omega) (by omega)
  have k8 := hk 8 (by omega) (by omega)
  have k9 := hk 9 (by omega) (by omega)
  have k10 := hk 10 (by omega) (by omega)
  clear h hk
  go_enter Try.func27, Try.ntmps27
  go_wp2_with fail
  go_ret2
  exact ⟨rfl, rfl⟩
theorem low_step (p x : Nat) (hp : p < 16777216) (hx : x < 256) : bits .or .i64 (wrap64 ((p : Int) * 256)) (x : Int) = ((x + 256 * p : Nat) : Int) := by
  have e : wrap64 ((p : Int) * 256) = ((p * 256 : Nat) : Int) := by unfold wrap64; omega
  rw [e, i64_or_nat _ _ (by omega) (by omega), nat_join 8 (p * 256) x (by omega) (by omega)]
  omega
theorem leV_cons (b : UInt8) (l : List UInt8) : leV (b :: l) = b.toNat + 256 * leV l := rfl
set_option maxRecDepth 100000 in
set_option maxHeartbeats 800000 in
theorem low_any (bs : List UInt8) (n at' : Nat) (hl : n ≤ 4) (L : Nat) (hL : L = bs.length) (hat : at' + n ≤ L) (hLm : L ≤ maxLen) (a : Option Addr) (cap : Nat) (w : World) (hb : Bytes w a bs) :
    Calls Try.prog 23 #[.slice a L cap, .int .i64 (at' : Nat), .int .i64 (n : Nat)] w fun e w' => e = .returned (.int .i64 (leV ((bs.drop at').take n) : Nat)) ∧ w = w' := by
  have HN := Lib.hid hL
  have HB := Lib.hid hb
  unfold maxLen at hLm
  clear hL hb
  go_enter Try.func23, Try.ntmps23
  go_wp2_with fail
  go_loopw [7, 8] (fun s i wr => ∃ j : Nat, j ≤ n ∧ i = .int .i64 ((j : Int) - 1) ∧ s = .int .i64 (leV ((bs.drop (at' + j)).take (n - j)) : Nat) ∧ w = wr) (fun _ i _ => (intOf i + 1).toNat)
  case atStart => exact ⟨n, by omega, by go_num, by simp [leV], rfl⟩
  case round =>
    obtain ⟨j, hj, rfl, rfl, rfl⟩ := hrel
    by_cases hlt : 0 < j
    · obtain ⟨m, rfl⟩ : ∃ m, j = m + 1 := ⟨j - 1, by omega⟩
      obtain ⟨b0, off0, rfl, hx⟩ := HB.out (at' + m) (by have := HN.out; omega)
      obtain ⟨x, hxe⟩ : ∃ x, x = bs[at' + m]'(by have := HN.out; omega) := ⟨_, rfl⟩
      rw [← hxe] at hx
      have bx := x.toNat_lt
      have hs : leV ((bs.drop (at' + m)).take (n - m)) = x.toNat + 256 * leV ((bs.drop (at' + (m + 1))).take (n - (m + 1))) := by
        have hjl : at' + m < bs.length := by have := HN.out; omega
        rw [List.drop_eq_getElem_cons hjl, show n - m = (n - (m + 1)) + 1 by omega, List.take_succ_cons, leV_cons, hxe]
        rfl
      have hp := leV_lt ((bs.drop (at' + (m + 1))).take (n - (m + 1)))
      have hlen : ((bs.drop (at' + (m + 1))).take (n - (m + 1))).length ≤ 3 := by rw [List.length_take]; omega
      have hp2 : leV ((bs.drop (at' + (m + 1))).take (n - (m + 1))) < 16777216 := Nat.lt_of_lt_of_le hp (Nat.le_trans (Nat.pow_le_pow_right (by omega) hlen) (by decide))
      have hst := low_step (leV ((bs.drop (at' + (m + 1))).take (n - (m + 1)))) x.toNat hp2 bx
      rw [← hs] at hst
      have HST := Lib.hid hst
      clear hst hs hp hxe hlen hp2
      generalize x.toNat = xn at *
      generalize leV ((bs.drop (at' + (m + 1))).take (n - (m + 1))) = p at *
      go_wp2_with fail
      rw [HST.out]
      refine ⟨⟨m, by omega, rfl, rfl, trivial⟩, ?_⟩
      simp [intOf]
    · obtain rfl : j = 0 := by omega
      go_wp2_with fail
      go_ret
      exact ⟨rfl, rfl⟩
end Go.Proofs.Ytmmppgkhlelbmaa.Fr
