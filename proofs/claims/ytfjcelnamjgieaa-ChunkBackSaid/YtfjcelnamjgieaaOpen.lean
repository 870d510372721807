/- Opening arguments: arrays of integers by value; slices of integers. No program's text is stepped through here. -/
import Derived.Test.YtfjcelnamjgieaaRows
import Derived.Test.YtfjcelnamjgieaaBase
import Derived.OpenShut
import Derived.ShutString
import Derived.ChangeOld
import Derived.Below
import Derived.Lib.SmallJoins
namespace Go.Proofs.Ytfjcelnamjgieaa.Ba
open Go.ChangeShapes Go.WideShapes Go.ChangeAt Go.RowKit
section
variable {H : Type} {enc : TypeId × Value → H} {P : Program} {w : World} {base b0 : Nat} {spare : Nat → Bool} {held : Bool} {r : Reach}

theorem arr_shape {n : Nat} {t e : TypeId} {v : Value} (ht : P.underlying t = some (.array n e)) (h : Value.okWide P w r b0 t v) : ∃ cs, v = .agg cs ∧ cs.size = P.cellsOf t := by
  simp only [Value.okWide, ht] at h
  obtain ⟨cs, h1, h2, _⟩ := h
  exact ⟨cs, h1, h2⟩

/-- Cell i of an array of integers. -/
theorem arr_cell {n : Nat} {t e : TypeId} {k : IntKind} {cs : Array Value} {d : DataW H} {p : List MemPlace} (ht : P.underlying t = some (.array n e)) (he : P.underlying e = some (.int k)) (hc : P.cellsOf e = 1) (hC : P.cellsOf t = n)
    (hsz : cs.size = n) (h : DataW.Trod enc P w base spare held t (.agg cs) d p) (i : Nat) (hi : i < n) : ∃ x : Int, cs[i]? = some (.int k x) ∧ (Lit.int k x).wf = true := by
  obtain ⟨fuel, hf⟩ := h
  obtain ⟨xs, m, _, _, _, hlen, hel⟩ := DataW.trod_array ht hf
  have h1 := hel i hi
  rw [hc, Nat.mul_one] at h1
  have hi' : i < xs.length := by omega
  rw [List.getElem?_eq_getElem hi'] at h1
  have hcl : Value.cells (.agg cs) = cs := rfl
  rw [hcl] at h1
  have hi2 : i < cs.size := by omega
  have e1 : (cs.toList.drop i).take 1 = [cs[i]] := by
    rw [List.drop_eq_getElem_cons (by simpa using hi2)]
    simp
  rw [e1] at h1
  obtain ⟨x, hx, _, hw⟩ := DataW.trod_int he h1
  simp only [List.cons.injEq, and_true] at hx
  exact ⟨x, by rw [Array.getElem?_eq_getElem hi2, hx], hw⟩

theorem open_arr2 {t e : TypeId} {k : IntKind} {v : Value} {d : DataW H} {p : List MemPlace} (ht : P.underlying t = some (.array 2 e)) (he : P.underlying e = some (.int k)) (hc : P.cellsOf e = 1) (hC : P.cellsOf t = 2)
    (hv : Value.okWide P w r b0 t v) (h : DataW.Trod enc P w base spare held t v d p) : ∃ x y : Int, v = .agg #[.int k x, .int k y] ∧ (Lit.int k x).wf = true ∧ (Lit.int k y).wf = true := by
  obtain ⟨cs, rfl, hsz⟩ := arr_shape ht hv
  obtain ⟨c0, c1, rfl⟩ := Joins.array2 (hsz.trans hC)
  obtain ⟨x, hx, wx⟩ := arr_cell ht he hc hC rfl h 0 (by omega)
  obtain ⟨y, hy, wy⟩ := arr_cell ht he hc hC rfl h 1 (by omega)
  simp at hx hy
  subst hx hy
  exact ⟨x, y, rfl, wx, wy⟩

theorem open_arr3 {t e : TypeId} {k : IntKind} {v : Value} {d : DataW H} {p : List MemPlace} (ht : P.underlying t = some (.array 3 e)) (he : P.underlying e = some (.int k)) (hc : P.cellsOf e = 1) (hC : P.cellsOf t = 3)
    (hv : Value.okWide P w r b0 t v) (h : DataW.Trod enc P w base spare held t v d p) : ∃ x y z : Int, v = .agg #[.int k x, .int k y, .int k z] ∧ (Lit.int k x).wf = true ∧ (Lit.int k y).wf = true ∧ (Lit.int k z).wf = true := by
  obtain ⟨cs, rfl, hsz⟩ := arr_shape ht hv
  obtain ⟨c0, c1, c2, rfl⟩ := Joins.array3 (hsz.trans hC)
  obtain ⟨x, hx, wx⟩ := arr_cell ht he hc hC rfl h 0 (by omega)
  obtain ⟨y, hy, wy⟩ := arr_cell ht he hc hC rfl h 1 (by omega)
  obtain ⟨z, hz, wz⟩ := arr_cell ht he hc hC rfl h 2 (by omega)
  simp at hx hy hz
  subst hx hy hz
  exact ⟨x, y, z, rfl, wx, wy, wz⟩

/-- A slice of integers, as 'IsRow' tells it. -/
theorem open_row {t e : TypeId} {k : IntKind} {a : Option Addr} {len cap : Nat} {d : DataW H} {p : List MemPlace} (ht : P.underlying t = some (.slice e)) (he : P.underlying e = some (.int k)) (hc : P.cellsOf e = 1)
    (h : DataW.Trod enc P w base (fun _ => true) held t (.slice a len cap) d p) : ∃ zs, IsRow k w a len cap zs := by
  obtain ⟨fuel, hf⟩ := h
  rcases open_ints ht he hc hf with ⟨hcs, _⟩ | ⟨x, l, c, zs, hcs, _, hl, hm, hz, _, hcell, hwz⟩
  · simp [Value.cells] at hcs
    obtain ⟨rfl, rfl, rfl⟩ := hcs
    exact ⟨[], .inl ⟨rfl, rfl, rfl, rfl⟩⟩
  · simp [Value.cells] at hcs
    obtain ⟨rfl, rfl, rfl⟩ := hcs
    exact ⟨zs, .inr ⟨_, rfl, hl, hm, by simpa using hz, hcell, hwz⟩⟩
end
end Go.Proofs.Ytfjcelnamjgieaa.Ba
