/- Contracts of frame: shapeOf, size, number, laid. Condition: bytes lie at the slices. -/
import Derived.Test.YtmmppgkhlelbmaaBase
import Derived.Test.YtmmppgkhlelbmaaOwn
import Derived.Deep.RegionWith
import Derived.WalkSpells
namespace Go.Proofs.Ytmmppgkhlelbmaa.Fr
open Go.RowKit Ba

/-- A type's three widths, and whether data is behind them. -/
def wid (k : Nat) : Nat × Nat × Nat × Bool :=
  if k = 1 then (4, 1, 4, true) else if k = 6 then (4, 4, 0, false) else if k = 7 then (4, 1, 0, false) else if k = 8 then (4, 1, 1, false)
  else if k = 9 then (4, 0, 0, true) else if k = 10 then (1, 0, 0, false) else (4, 0, 0, false)
def isKind (k : Int) : Prop := 1 ≤ k ∧ k ≤ 10
def shapeVal (k : Nat) : Value := .agg #[.int .i64 (wid k).1, .int .i64 (wid k).2.1, .int .i64 (wid k).2.2.1, .bool (wid k).2.2.2]

theorem kind_cases {k : Nat} (h : 1 ≤ k ∧ k ≤ 10) : k = 1 ∨ k = 2 ∨ k = 3 ∨ k = 4 ∨ k = 5 ∨ k = 6 ∨ k = 7 ∨ k = 8 ∨ k = 9 ∨ k = 10 := by omega
set_option maxRecDepth 100000 in
set_option maxHeartbeats 1600000 in
theorem shapeOf_yes (k : Nat) (h : 1 ≤ k ∧ k ≤ 10) (w : World) :
    Calls Try.prog 24 #[.int .i64 (k : Nat)] w fun e w' => e = .returned (.tuple #[shapeVal k, .bool true]) ∧ Below w.heap.size w w' := by
  have hz := fun w => (by kernel_rfl : (zeroValue 67).run Try.prog w = .ok (.agg #[.int .i64 0, .int .i64 0, .int .i64 0, .bool false]) w)
  rcases kind_cases h with rfl | rfl | rfl | rfl | rfl | rfl | rfl | rfl | rfl | rfl
  all_goals
    clear h
    go_enter Try.func24, Try.ntmps24
    go_wp2_with fail
    refine bodyPost_ret (v := .tuple #[.agg #[_, _, _, _], .bool true]) (by simp [results, Try.results24, go_sem, wid]) rfl ⟨rfl, (Below.refl _ _).alloc (Nat.le_refl _) _⟩
set_option maxRecDepth 100000 in
set_option maxHeartbeats 1600000 in
theorem shapeOf_no (k : Int) (h : ¬ isKind k) (w : World) :
    Calls Try.prog 24 #[.int .i64 k] w fun e w' => e = .returned (.tuple #[.agg #[.int .i64 0, .int .i64 0, .int .i64 0, .bool false], .bool false]) ∧ Below w.heap.size w w' := by
  have hz := fun w => (by kernel_rfl : (zeroValue 67).run Try.prog w = .ok (.agg #[.int .i64 0, .int .i64 0, .int .i64 0, .bool false]) w)
  have hk : ∀ j : Int, 1 ≤ j → j ≤ 10 → (k == j) = false := fun j h1 h2 => by
    rw [beq_eq_false_iff_ne]
    intro e
    exact h ⟨by omega, by omega⟩
  have k1 := hk 1 (by omega) (by omega)
  have k2 := hk 2 (by omega) (by omega)
  have k3 := hk 3 (by omega) (by omega)
  have k4 := hk 4 (by omega) (by omega)
  have k5 := hk 5 (by omega) (by omega)
  have k6 := hk 6 (by omega) (by omega)
  have k7 := hk 7 (by omega) (by omega)
  have k8 := hk 8 (by omega) (by omega)
  have k9 := hk 9 (by omega) (by omega)
  have k10 := hk 10 (by omega) (by omega)
  clear h hk
  go_enter Try.func24, Try.ntmps24
  go_wp2_with fail
  refine bodyPost_ret (v := .tuple #[.agg #[_, _, _, _], .bool false]) (by simp [results, Try.results24, go_sem]) rfl ⟨rfl, (Below.refl _ _).alloc (Nat.le_refl _) _⟩
end Go.Proofs.Ytmmppgkhlelbmaa.Fr
