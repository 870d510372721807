/- A slice of deeds that came in, opened. No program's text is stepped through here. -/
import Derived.Test.YtclgjfmgohbmbaaOpen
import Derived.Test.YtclgjfmgohbmbaaPlays
import Derived.Deep.Slices
import Derived.Deep.Strs
namespace Go.Proofs.Ytclgjfmgohbmbaa.Le
open Go.ChangeShapes Go.WideShapes Go.ChangeAt Go.RowKit Go.Deep Ba

theorem add_none (b off i : Nat) : Addr.add ⟨b, off, none⟩ i = ⟨b, off + i, none⟩ := by
  unfold Addr.add
  by_cases h : i = 0
  · subst h; simp
  · simp [h]
instance : Inhabited Dd := ⟨⟨0, 0, 0⟩⟩
theorem open_deeds {H : Type} {enc : TypeId × Value → H} {w : World} {held : Bool} {a : Option Addr} {len cap : Nat} {d : DataW H} {p : List MemPlace}
    (h : DataW.Trod enc Try.prog w 0 (fun _ => true) held 22 (.slice a len cap) d p) : len ≤ maxLen ∧ ∃ D, Deeds w a D len := by
  have ce : Try.prog.cellsOf 29 = 3 := by kernel_rfl
  have ci : Try.prog.cellsOf 3 = 1 := by kernel_rfl
  obtain ⟨fuel, hf⟩ := h
  rcases open_slice Try.underlying22 hf with ⟨hcs, _⟩ | ⟨x, l, c, m, n', D, Pl, hcs, _, hl, hm, hmm, _, hx⟩
  · simp [Value.cells] at hcs
    obtain ⟨rfl, rfl, rfl⟩ := hcs
    exact ⟨Nat.zero_le _, fun _ => default, fun i hi => by omega⟩
  · simp [Value.cells] at hcs
    obtain ⟨rfl, rfl, rfl⟩ := hcs
    simp only [if_true] at hmm
    refine ⟨by omega, ?_⟩
    have key : ∀ i, i < len → ∃ q : Dd, ∃ b off, some x = some ⟨b, off, none⟩ ∧ w.cell? ⟨b, off + i * 3, none⟩ = some (.int .i64 q.d) ∧ w.cell? ⟨b, off + i * 3 + 1, none⟩ = some (.int .i64 q.who) ∧ w.cell? ⟨b, off + i * 3 + 2, none⟩ = some (.int .i64 q.n) ∧ q.ok := by
      intro i hi
      obtain ⟨cs', h1, h2⟩ := hx i (by omega)
      rw [ce] at h1
      obtain ⟨_, hlen, hcell⟩ := World.cells?_some h1
      obtain ⟨y0, y1, y2, k, _, _, t0, t1, t2⟩ := trod_struct3 Try.underlying29 h2
      match cs', hlen with
      | [v0, v1, v2], _ =>
        dsimp only at t0 t1 t2
        rw [ci] at t0 t1 t2
        obtain ⟨n0, e0, _, w0⟩ := DataW.trod_int Try.underlying3 t0
        obtain ⟨n1, e1, _, w1⟩ := DataW.trod_int Try.underlying3 t1
        obtain ⟨n2, e2, _, w2⟩ := DataW.trod_int Try.underlying3 t2
        simp at e0 e1 e2
        subst e0 e1 e2
        have g0 := hcell 0 (by omega)
        have g1 := hcell 1 (by omega)
        have g2 := hcell 2 (by omega)
        have hb0 := (hx 0 (by omega))
        obtain ⟨cs0, z1, _⟩ := hb0
        rw [ce] at z1
        obtain ⟨_, zlen, zcell⟩ := World.cells?_some z1
        have zz := zcell 0 (by omega)
        have hsp : x.spot = none := by
          have hne : cs0[0]? = some (cs0[0]'(by omega)) := List.getElem?_eq_getElem _
          rw [hne] at zz
          have := World.cell?_spot zz
          simpa [Addr.add] using this
        obtain ⟨b, off, spot⟩ := x
        dsimp only at hsp
        subst hsp
        rw [add_none, add_none] at g0 g1 g2
        exact ⟨⟨n0, n1, n2⟩, b, off, rfl, by simpa using g0, by simpa using g1, by simpa using g2, i64_bounds w0, i64_bounds w1, i64_bounds w2⟩
    obtain ⟨F, hF⟩ := choose_lt key
    exact ⟨F, hF⟩
end Go.Proofs.Ytclgjfmgohbmbaa.Le
