/- A slice of chunks that came in, opened. No program's text is stepped through here. -/
import Derived.Test.YtfjcelnamjgieaaCkV
import Derived.Test.YtfjcelnamjgieaaOpen
import Derived.Deep.Slices
import Derived.Deep.Strs
import Derived.SizedLaws
namespace Go.Proofs.Ytfjcelnamjgieaa.Ck
open Go.RowKit Ba Go.Deep Go.ChangeShapes Go.WideShapes Go.ChangeAt
set_option linter.unusedVariables false

theorem weights_all {H : Type} {P : Program} {e : TypeId} : ∀ {l : List (DataW H)} {d : DataW H}, d ∈ l → ∀ n ∈ d.weights P e, n ∈ DataW.weightsAll P e l
  | x :: l, d, hd, n, hn => by
    simp only [DataW.weightsAll, List.mem_append]
    rcases List.mem_cons.1 hd with rfl | hd
    · exact .inl hn
    · exact .inr (weights_all hd n hn)
/-- A chunk's two cells, opened. -/
theorem open_two {H : Type} {enc : TypeId × Value → H} {w : World} {held : Bool} {fuel : Nat} {cs : List Value} {x : DataW H × List MemPlace} (hl : cs.length = 2)
    (h : DataW.trod enc Try.prog w 0 (fun _ => true) held fuel 44 cs = some x) (hw : ∀ n ∈ x.1.weights Try.prog 44, n ≤ reachBytes) :
    ∃ (f : Ch) (o : Option Addr) (cap : Nat), cs = [.string f.1, .slice o f.2.length cap] ∧ Bytes w o f.2 ∧ (o = none → cap = 0) ∧ f.2.length ≤ maxLen ∧ f.1.size ≤ 140737488351232 ∧ f.2.length ≤ 140737488351232 := by
  have ci : Try.prog.cellsOf 9 = 1 := by kernel_rfl
  have cb : Try.prog.cellsOf 22 = 1 := by kernel_rfl
  have bb : Try.prog.bytesOf 5 = 1 := by kernel_rfl
  obtain ⟨xs, n, _, hxe, _, hxl, hg⟩ := DataW.trod_struct Try.underlying44 h
  match cs, hl with
  | [v0, v1], _ =>
    have hx2 : xs.length = 2 := hxl
    match xs, hx2 with
    | [y0, y1], _ =>
      have t0 : DataW.trod enc Try.prog w 0 (fun _ => true) held n 9 (List.take (Try.prog.cellsOf 9) [v0, v1]) = some y0 := hg 0 _ rfl
      have t1 : DataW.trod enc Try.prog w 0 (fun _ => true) held n 22 (List.take (Try.prog.cellsOf 22) [v1]) = some y1 := hg 1 _ rfl
      rw [ci] at t0
      rw [cb] at t1
      obtain ⟨s, e0, e0', _⟩ := DataW.trod_string Try.underlying9 t0
      simp at e0
      subst e0 e0'
      have hws : s.size ≤ 140737488351232 := by
        have := hw s.data.toList.length (by
          rw [hxe]
          simp [DataW.weights, Try.underlying44, DataW.weightsEach])
        simpa [reachBytes] using this
      rcases open_ints Try.underlying22 Try.underlying5 (by kernel_rfl) t1 with ⟨hcs, _⟩ | ⟨ad, l, cap, zs, hcs, _, hl', hm, hz, hxx, hcell, hwz⟩
      · simp at hcs
        subst hcs
        exact ⟨(s, []), none, 0, rfl, Bytes.nil _ _, fun _ => rfl, Nat.zero_le _, hws, Nat.zero_le _⟩
      · simp at hcs
        subst hcs
        have hz' : zs.length = cap := by simpa using hz
        have hrow : IsRow .u8 w (some ad) l cap zs := .inr ⟨_, rfl, hl', hm, hz', hcell, hwz⟩
        obtain ⟨bs, hbl, hbb, hble, hbm, hbn⟩ := hrow.bytes
        have hwd : cap ≤ 140737488351232 := by
          have := hw (((zs.take l).length + (zs.drop l).length) * Try.prog.bytesOf 5) (by
            rw [hxe, hxx]
            simp [DataW.weights, Try.underlying44, Try.underlying22, DataW.weightsEach, lits])
          rw [bb, List.length_take, List.length_drop] at this
          unfold reachBytes at this
          omega
        subst hbl
        exact ⟨(s, bs), some ad, cap, rfl, hbb, hbn, Nat.le_trans hble hbm, hws, Nat.le_trans hble hwd⟩
theorem open_chunks {H : Type} {enc : TypeId × Value → H} {w : World} {held : Bool} {a : Option Addr} {len cap : Nat} {d : DataW H} {p : List MemPlace}
    (h : DataW.Trod enc Try.prog w 0 (fun _ => true) held 28 (.slice a len cap) d p) (hw : ∀ n ∈ d.weights Try.prog 28, n ≤ reachBytes) : ∃ fs : List Ch, ChRow w (.slice a len cap) fs ∧ SzC fs := by
  have ce : Try.prog.cellsOf 44 = 2 := by kernel_rfl
  obtain ⟨fuel, hf⟩ := h
  rcases open_slice Try.underlying28 hf with ⟨hcs, _⟩ | ⟨x, l, c, m, n', D, Pl, hcs, _, hl, hm, hmm, hd, hx⟩
  · simp [Value.cells] at hcs
    obtain ⟨rfl, rfl, rfl⟩ := hcs
    exact ⟨[], ⟨none, 0, rfl, Nat.zero_le _, Nat.zero_le _, fun _ => rfl, fun i hi => absurd hi (by simp)⟩, fun f hf => by cases hf⟩
  · simp [Value.cells] at hcs
    obtain ⟨rfl, rfl, rfl⟩ := hcs
    simp only [if_true] at hmm
    have hd' : d = .slice ((List.range len).map D) ((List.range (m - len)).map fun j => D (len + j)) := congrArg Prod.fst hd
    have hwi : ∀ i, i < len → ∀ n ∈ (D i).weights Try.prog 44, n ≤ reachBytes := fun i hi n hn => hw n (by
      rw [hd']
      simp only [DataW.weights, Try.underlying28, List.mem_cons, List.mem_append]
      exact .inr (.inl (weights_all (List.mem_map.2 ⟨i, List.mem_range.2 hi, rfl⟩) n hn)))
    have each : ∀ i, i < len → ∃ (f : Ch), ∃ (g off : Nat) (ad : Option Addr) (cd : Nat), some x = some (⟨g, off, none⟩ : Addr) ∧ w.cell? ⟨g, off + i * 2, none⟩ = some (.string f.1) ∧ w.cell? ⟨g, off + i * 2 + 1, none⟩ = some (.slice ad f.2.length cd) ∧ Bytes w ad f.2 ∧ (ad = none → cd = 0) ∧ f.2.length ≤ maxLen ∧ f.1.size ≤ 140737488351232 ∧ f.2.length ≤ 140737488351232 := by
      intro i hi
      have hb0 := (hx 0 (by omega))
      obtain ⟨cs', h1, h2⟩ := hx i (by omega)
      rw [ce] at h1
      obtain ⟨_, hlen, hcell⟩ := World.cells?_some h1
      obtain ⟨f, o, cp, rfl, hy, hn, hm1, hm2, hm3⟩ := open_two hlen h2 (hwi i hi)
      have g0 := hcell 0 (by omega)
      have g1 := hcell 1 (by omega)
      obtain ⟨cs0, z1, _⟩ := hb0
      rw [ce] at z1
      obtain ⟨_, zlen, zcell⟩ := World.cells?_some z1
      have zz := zcell 0 (by omega)
      have hsp : x.spot = none := by
        have hne : cs0[0]? = some (cs0[0]'(by omega)) := List.getElem?_eq_getElem _
        rw [hne] at zz
        have := World.cell?_spot zz
        simpa [Addr.add] using this
      obtain ⟨g, off, spot⟩ := x
      dsimp only at hsp
      subst hsp
      have add_none : ∀ b off i : Nat, Addr.add ⟨b, off, none⟩ i = ⟨b, off + i, none⟩ := fun b off i => by
        unfold Addr.add
        by_cases h : i = 0
        · subst h; simp
        · simp [h]
      rw [add_none, add_none] at g0 g1
      exact ⟨f, g, off, o, cp, rfl, by simpa using g0, by simpa using g1, hy, hn, hm1, hm2, hm3⟩
    obtain ⟨F, hF⟩ := choose_lt (α := Ch) (p := fun i f => ∃ (g off : Nat) (ad : Option Addr) (cd : Nat), some x = some (⟨g, off, none⟩ : Addr) ∧ w.cell? ⟨g, off + i * 2, none⟩ = some (.string f.1) ∧ w.cell? ⟨g, off + i * 2 + 1, none⟩ = some (.slice ad f.2.length cd) ∧ Bytes w ad f.2 ∧ (ad = none → cd = 0) ∧ f.2.length ≤ maxLen ∧ f.1.size ≤ 140737488351232 ∧ f.2.length ≤ 140737488351232) each
    have hlen : ((List.range len).map F).length = len := by simp
    refine ⟨(List.range len).map F, ⟨some x, cap, by rw [hlen], by rw [hlen]; exact hl, hm, fun h => (by cases h), fun i hi => ?_⟩, fun f hf => ?_⟩
    · rw [hlen] at hi
      obtain ⟨g, off, ad, cd, h1, h2, h3, h4, h5, h6, _⟩ := hF i hi
      have e : ((List.range len).map F)[i]'(by rw [hlen]; exact hi) = F i := by simp
      rw [e]
      exact ⟨g, off, ad, cd, h1, h2, h3, h4, h5, h6⟩
    · obtain ⟨i, hi, rfl⟩ := List.mem_map.1 hf
      obtain ⟨_, _, _, _, _, _, _, _, _, _, h7, h8⟩ := hF i (List.mem_range.1 hi)
      exact ⟨h7, h8⟩
end Go.Proofs.Ytfjcelnamjgieaa.Ck
