/- Rows of the reference's messages; rows appended; a slice of messages that came in, opened. No program's text is stepped through here. -/
import Derived.Test.YtmmppgkhlelbmaaFrX
import Derived.Deep.Slices
import Derived.Deep.Strs
namespace Go.Proofs.Ytmmppgkhlelbmaa.Fr
open Go.RowKit Ba Go.Deep Go.ChangeShapes Go.WideShapes Go.ChangeAt
set_option linter.unusedVariables false

/-- A row of the reference's messages that the call made; their data lies where it lay in the world W0. -/
def KfsIs (W0 w : World) (base : Nat) (v : Value) (fs : List Fr) : Prop :=
  ∃ cells : List Value, w.ownsRow base 40 5 v fs.length cells ∧ ∀ i (h : i < fs.length), ∃ ao cap, cells[i * 5]? = some (.int .i64 fs[i].t) ∧ cells[i * 5 + 1]? = some (.int .i64 fs[i].a) ∧ cells[i * 5 + 2]? = some (.int .i64 fs[i].b) ∧ cells[i * 5 + 3]? = some (.int .i64 fs[i].c) ∧
    cells[i * 5 + 4]? = some (.slice ao fs[i].data.length cap) ∧ Bytes W0 ao fs[i].data
theorem KfsIs.nil (W0 w : World) (base : Nat) : KfsIs W0 w base (.slice none 0 0) [] := ⟨[], World.ownsRow_nil w base _ 5, fun i h => absurd h (by simp)⟩
theorem KfsIs.at {W0 w w' : World} {base : Nat} {v : Value} {fs : List Fr} (h : KfsIs W0 w base v fs) (hb : ∀ k, v.ownBlock = some k → w'.heap[k]? = w.heap[k]?) : KfsIs W0 w' base v fs := by
  obtain ⟨cells, h1, h2⟩ := h
  exact ⟨cells, ownsRow_at h1 hb, h2⟩
theorem KfsIs.lt {W0 w : World} {base : Nat} {v : Value} {fs : List Fr} (h : KfsIs W0 w base v fs) : ∀ k, v.ownBlock = some k → base ≤ k ∧ k < w.heap.size := by
  obtain ⟨cells, h1, h2⟩ := h
  exact World.ownsRow.lt h1
theorem KfsIs.keep {W0 w w' : World} {base : Nat} {v : Value} {fs : List Fr} (h : KfsIs W0 w base v fs) (hb : Below w.heap.size w w') : KfsIs W0 w' base v fs := h.at fun k hk => hb.block k (h.lt k hk).2
theorem KfsIs.but {W0 w w' : World} {base B g : Nat} {v : Value} {fs : List Fr} (h : KfsIs W0 w base v fs) (hb : But B g w w') (hB : w.heap.size ≤ B) (hg : ∀ k, v.ownBlock = some k → k ≠ g) : KfsIs W0 w' base v fs := h.at fun k hk => hb.block k (by have := (h.lt k hk).2; omega) (hg k hk)
theorem KfsIs.alloc {W0 w : World} {base : Nat} {v : Value} {fs : List Fr} (h : KfsIs W0 w base v fs) (o : Obj) : KfsIs W0 (w.alloc o) base v fs := h.at fun k hk => blk_alloc_lt _ _ _ (h.lt k hk).2
theorem KfsIs.drew {W0 w : World} {base : Nat} {v : Value} {fs : List Fr} (h : KfsIs W0 w base v fs) : KfsIs W0 w.drew base v fs := h
theorem KfsIs.ne {W0 w : World} {base b : Nat} {v : Value} {fs : List Fr} {t : TypeId} {l : List Value} (h : KfsIs W0 w base v fs) (hb : Blk w b t l) (ht : t ≠ 40) : ∀ k, v.ownBlock = some k → k ≠ b := by
  intro k hk e
  subst e
  obtain ⟨cells, h1, _⟩ := h
  rcases h1.2 with ⟨rfl, _⟩ | ⟨g, cap, cur, rfl, hB, hgg, rest⟩
  · cases hk
  · cases hk
    have h' : w.heap[g]? = _ := hb
    rw [hgg] at h'
    cases h'
    exact ht rfl
theorem KfsIs.overO {W0 w w' : World} {base B : Nat} {v u : Value} {fs : List Fr} {bs : List UInt8} (h : KfsIs W0 w base v fs) (ho : Own w B u bs) (hg : w.grownBy w' u.ownBlock) : KfsIs W0 w' base v fs := h.at fun k hk => hg.block k (h.lt k hk).2 (fun e => by
  obtain ⟨cells, h1, _⟩ := h
  exact Own.other ho h1 (by decide) k e.symm hk.symm)
theorem overK {W0 w w' : World} {base B : Nat} {v u : Value} {fs : List Fr} {bs : List UInt8} (h : KfsIs W0 w base v fs) (ho : Own w B u bs) (hg : w.grownBy w' v.ownBlock) : Own w' B u bs := by
  obtain ⟨cells, h1, _⟩ := h
  exact ho.at fun k hk => hg.block k (ho.lt k hk).2 (Own.other ho h1 (by decide) k hk)
/-- The row, read. -/
theorem KfsIs.view {W0 w : World} {base : Nat} {v : Value} {fs : List Fr} (h : KfsIs W0 w base v fs) :
    ∃ ao cap, v = .slice ao fs.length cap ∧ ∀ i (hi : i < fs.length), ∃ g, ao = some ⟨g, 0, none⟩ ∧ base ≤ g ∧ ∃ ad cd, w.cell? ⟨g, i * 5, none⟩ = some (.int .i64 fs[i].t) ∧ w.cell? ⟨g, i * 5 + 1, none⟩ = some (.int .i64 fs[i].a) ∧ w.cell? ⟨g, i * 5 + 2, none⟩ = some (.int .i64 fs[i].b) ∧ w.cell? ⟨g, i * 5 + 3, none⟩ = some (.int .i64 fs[i].c) ∧
      w.cell? ⟨g, i * 5 + 4, none⟩ = some (.slice ad fs[i].data.length cd) ∧ Bytes W0 ad fs[i].data := by
  obtain ⟨cells, h1, h2⟩ := h
  have hcl := fun g hg => World.ownsRow.cells h1 (g := g) hg
  rcases h1.2 with ⟨rfl, hn⟩ | ⟨g, cap, cur, rfl, hb, _⟩
  · exact ⟨none, 0, by rw [hn], fun i hi => absurd hi (by omega)⟩
  · refine ⟨some ⟨g, 0, none⟩, cap, rfl, fun i hi => ⟨g, rfl, hb, ?_⟩⟩
    obtain ⟨ad, cd, e0, e1, e2, e3, e4, ho⟩ := h2 i hi
    have hadd : ∀ j, (⟨g, 0, none⟩ : Addr).add j = ⟨g, j, none⟩ := fun j => by unfold Addr.add; split <;> simp_all
    have hc := hcl g rfl
    simp only [hadd] at hc
    exact ⟨ad, cd, hc _ _ e0, hc _ _ e1, hc _ _ e2, hc _ _ e3, hc _ _ e4, ho⟩
/-- 'kept = append(kept, f)' at a step of a region that draws its order. -/
theorem step_append_kf {W0 w : World} {ops : Array Oper} {o : Oper} {a : Act} {K : Act → World → Prop} {Q : Exit → Act → World → Prop} {E : Prop} (hgd : o.guard = none) (s x : Operand)
    (ho : o.op = .call { callee := .builtin .append, args := #[s, x], argTypes := #[33, 33] })
    (base : Nat) (v : Value) (fs : List Fr) (hs : a.eval s = v) (hown : KfsIs W0 w base v fs) (f : Fr) (ao : Option Addr) (cap : Nat) (hd : Bytes W0 ao f.data)
    (ad : Nat) (hx : a.eval x = .slice (some ⟨ad, 0, none⟩) 1 1) (hnews : Blk w ad 40 (fiveOf f ao cap)) (hbd : fs.length < 1000000001) (hbase : base ≤ w.heap.size)
    (h : ∀ v' w', KfsIs W0 w' base v' (fs ++ [f]) → w.grownBy w' v.ownBlock → K (a.put o.dst v') w') :
    if Region.wanted o (yielded ops a.tmps) = true then Oper.wp Try.prog o a w K Q else E := by
  have hw : Region.wanted o (yielded ops a.tmps) = true := by simp [Region.wanted, hgd]
  rw [if_pos hw]
  obtain ⟨i, hi, hz, hsize, hby⟩ := info_parts info_rf
  obtain ⟨cells, h1, h2⟩ := hown
  refine wp_append_own w s x _ ho base 40 i _ 5 56 Try.underlying33 hi hz hsize hby rfl (by decide) v fs.length cells hs h1 ⟨ad, 0, none⟩ 1 1 (fiveOf f ao cap) hx (by simp [fiveOf]) ?_ ?_ (by unfold maxLen; omega) (by omega) hbase ?_
  · intro j u hj
    have e : (Addr.add ⟨ad, 0, none⟩ j) = ⟨ad, j, none⟩ := by unfold Addr.add; split <;> simp_all
    rw [e]
    exact hnews.cell hj
  · intro u hu
    simp [fiveOf] at hu
    rcases hu with rfl | rfl | rfl | rfl | rfl <;> rfl
  · intro v' w' hown' hg _
    have hlen := h1.1
    refine h v' w' ⟨cells ++ fiveOf f ao cap, by rw [List.length_append]; exact hown', fun j hj => ?_⟩ hg
    rw [List.length_append, List.length_singleton] at hj
    by_cases hjl : j < fs.length
    · obtain ⟨ao', cap', e0, e1, e2, e3, e4, ho'⟩ := h2 j hjl
      have hg' : (fs ++ [f])[j]'(by rw [List.length_append, List.length_singleton]; exact hj) = fs[j] := List.getElem_append_left hjl
      rw [hg']
      refine ⟨ao', cap', ?_, ?_, ?_, ?_, ?_, ho'⟩
      all_goals
        rw [List.getElem?_append_left (by omega)]
        assumption
    · obtain rfl : j = fs.length := by omega
      have hg' : (fs ++ [f])[fs.length]'(by rw [List.length_append, List.length_singleton]; exact hj) = f := by simp
      rw [hg']
      refine ⟨ao, cap, ?_, ?_, ?_, ?_, ?_, hd⟩
      all_goals
        rw [List.getElem?_append_right (by omega), hlen]
        simp [fiveOf]
/-- 'out = append(out, k...)'. -/
theorem wpList_append_frs {w : World} {ops : Array Oper} {rest : List Oper} {o : Oper} {a : Act} {Q : Exit → Act → World → Prop}
    (hgd : o.guard = none) (s x : Operand) (ho : o.op = .call { callee := .builtin .append, args := #[s, x], argTypes := #[29, 29] })
    (base : Nat) (v : Value) (fs : List Fr) (hs : a.eval s = v) (hown : FrsIs w base 39 v fs) (vk : Value) (gs : List Fr) (hx : a.eval x = vk) (hk : FrsIs w base 39 vk gs)
    (hbd : fs.length + gs.length < 1000000001) (hbase : base ≤ w.heap.size)
    (h : ∀ v' w', FrsIs w' base 39 v' (fs ++ gs) → w.grownBy w' v.ownBlock → (∀ k, v.ownBlock = some k → base ≤ k) → (∀ k, U8 w k → some k ≠ v.ownBlock) → wpList Try.prog ops Q rest (a.put o.dst v') w') : wpList Try.prog ops Q (o :: rest) a w := by
  obtain ⟨i, hi, hz, hsize, hby⟩ := info_parts info_fr
  obtain ⟨cells, h1, h2⟩ := hown
  obtain ⟨news, k1, k2⟩ := hk
  have hcl := fun g hg => World.ownsRow.cells k1 (g := g) hg
  rcases k1.2 with ⟨rfl, hn⟩ | ⟨g, cap, cur, rfl, hb, _⟩
  · obtain rfl : gs = [] := List.length_eq_zero_iff.1 hn
    refine wpList_append_own_none hgd s x _ ho base 39 i 5 Try.underlying29 hi v fs.length cells hs h1 hx ?_
    exact h v w (by rw [List.append_nil]; exact ⟨cells, h1, h2⟩) ⟨rfl, rfl, rfl, Nat.le_refl _, fun _ _ _ => rfl⟩ (fun k hk => (World.ownsRow.lt h1 k hk).1) (fun k hk => hk.other h1 (by decide))
  · have hnl := k1.1
    refine wpList_append_own w hgd s x _ ho base 39 i _ 5 56 Try.underlying29 hi hz hsize hby rfl (by decide) v fs.length cells hs h1 ⟨g, 0, none⟩ gs.length cap news hx (by omega) ?_ ?_ (by unfold maxLen; omega) (by omega) hbase ?_
    · intro j u hj
      exact hcl g rfl j u hj
    · intro u hu
      obtain ⟨j, hj, rfl⟩ := List.getElem_of_mem hu
      have hq : j / 5 < gs.length := by omega
      obtain ⟨ao', cap', e0, e1, e2, e3, e4, _⟩ := k2 (j / 5) hq
      have hm : j % 5 = 0 ∨ j % 5 = 1 ∨ j % 5 = 2 ∨ j % 5 = 3 ∨ j % 5 = 4 := by omega
      have hget : news[j]? = some (news[j]) := List.getElem?_eq_getElem hj
      rcases hm with hm | hm | hm | hm | hm
      · rw [show j / 5 * 5 = j by omega, hget] at e0; injection e0 with e0; rw [e0]; rfl
      · rw [show j / 5 * 5 + 1 = j by omega, hget] at e1; injection e1 with e1; rw [e1]; rfl
      · rw [show j / 5 * 5 + 2 = j by omega, hget] at e2; injection e2 with e2; rw [e2]; rfl
      · rw [show j / 5 * 5 + 3 = j by omega, hget] at e3; injection e3 with e3; rw [e3]; rfl
      · rw [show j / 5 * 5 + 4 = j by omega, hget] at e4; injection e4 with e4; rw [e4]; rfl
    · intro v' w' hown' hg _
      have hlen := h1.1
      refine h v' w' ⟨cells ++ news, by rw [List.length_append]; exact hown', fun j hj => ?_⟩ hg (fun k hk => (World.ownsRow.lt h1 k hk).1) (fun k hk => hk.other h1 (by decide))
      rw [List.length_append] at hj
      by_cases hjl : j < fs.length
      · obtain ⟨ao', cap', e0, e1, e2, e3, e4, ho'⟩ := h2 j hjl
        have hg' : (fs ++ gs)[j]'(by rw [List.length_append]; exact hj) = fs[j] := List.getElem_append_left hjl
        rw [hg']
        refine ⟨ao', cap', ?_, ?_, ?_, ?_, ?_, ho'.at fun k hk => hg.block k (ho'.lt k hk).2 (Own.other ho' h1 (by decide) k hk)⟩
        all_goals
          rw [List.getElem?_append_left (by omega)]
          assumption
      · have hg' : (fs ++ gs)[j]'(by rw [List.length_append]; exact hj) = gs[j - fs.length]'(by omega) := List.getElem_append_right (by omega)
        rw [hg']
        obtain ⟨ao', cap', e0, e1, e2, e3, e4, ho'⟩ := k2 (j - fs.length) (by omega)
        refine ⟨ao', cap', ?_, ?_, ?_, ?_, ?_, ho'.at fun k hk => hg.block k (ho'.lt k hk).2 (Own.other ho' h1 (by decide) k hk)⟩
        · rw [List.getElem?_append_right (by omega), hlen, show j * 5 - fs.length * 5 = (j - fs.length) * 5 by omega]; exact e0
        · rw [List.getElem?_append_right (by omega), hlen, show j * 5 + 1 - fs.length * 5 = (j - fs.length) * 5 + 1 by omega]; exact e1
        · rw [List.getElem?_append_right (by omega), hlen, show j * 5 + 2 - fs.length * 5 = (j - fs.length) * 5 + 2 by omega]; exact e2
        · rw [List.getElem?_append_right (by omega), hlen, show j * 5 + 3 - fs.length * 5 = (j - fs.length) * 5 + 3 by omega]; exact e3
        · rw [List.getElem?_append_right (by omega), hlen, show j * 5 + 4 - fs.length * 5 = (j - fs.length) * 5 + 4 by omega]; exact e4
/-- A slice of messages that came in. -/
def ArgRow (w : World) (ao : Option Addr) (len : Nat) : Prop :=
  ∀ i, i < len → ∃ (g off : Nat) (t a b c : Int) (o : Option Addr) (bs : List UInt8) (cp : Nat), ao = some ⟨g, off, none⟩ ∧ w.cell? ⟨g, off + i * 5, none⟩ = some (.int .i64 t) ∧ w.cell? ⟨g, off + i * 5 + 1, none⟩ = some (.int .i64 a) ∧ w.cell? ⟨g, off + i * 5 + 2, none⟩ = some (.int .i64 b) ∧ w.cell? ⟨g, off + i * 5 + 3, none⟩ = some (.int .i64 c) ∧
    w.cell? ⟨g, off + i * 5 + 4, none⟩ = some (.slice o bs.length cp) ∧ Bytes w o bs ∧ bs.length ≤ maxLen ∧ (o = none → cp = 0)
theorem add_none (b off i : Nat) : Addr.add ⟨b, off, none⟩ i = ⟨b, off + i, none⟩ := by
  unfold Addr.add
  by_cases h : i = 0
  · subst h; simp
  · simp [h]
theorem open_frames {H : Type} {enc : TypeId × Value → H} {w : World} {held : Bool} {a : Option Addr} {len cap : Nat} {d : DataW H} {p : List MemPlace}
    (h : DataW.Trod enc Try.prog w 0 (fun _ => true) held 33 (.slice a len cap) d p) : len ≤ maxLen ∧ ArgRow w a len := by
  have ce : Try.prog.cellsOf 40 = 5 := by kernel_rfl
  obtain ⟨fuel, hf⟩ := h
  rcases open_slice Try.underlying33 hf with ⟨hcs, _⟩ | ⟨x, l, c, m, n', D, Pl, hcs, _, hl, hm, hmm, _, hx⟩
  · simp [Value.cells] at hcs
    obtain ⟨rfl, rfl, rfl⟩ := hcs
    exact ⟨Nat.zero_le _, fun i hi => by omega⟩
  · simp [Value.cells] at hcs
    obtain ⟨rfl, rfl, rfl⟩ := hcs
    simp only [if_true] at hmm
    refine ⟨by omega, fun i hi => ?_⟩
    have hb0 := (hx 0 (by omega))
    obtain ⟨cs', h1, h2⟩ := hx i (by omega)
    rw [ce] at h1
    obtain ⟨_, hlen, hcell⟩ := World.cells?_some h1
    obtain ⟨t, aa, b, cc, o, ln, cp, zs, rfl, hrow⟩ := open_five hlen h2
    obtain ⟨bs, hbl, hbb, hble, hbm, hbn⟩ := hrow.bytes
    have g0 := hcell 0 (by omega)
    have g1 := hcell 1 (by omega)
    have g2 := hcell 2 (by omega)
    have g3 := hcell 3 (by omega)
    have g4 := hcell 4 (by omega)
    obtain ⟨cs0, z1, _⟩ := hb0
    rw [ce] at z1
    obtain ⟨_, zlen, zcell⟩ := World.cells?_some z1
    have zz := zcell 0 (by omega)
    have hsp : x.spot = none := by
      have hne : cs0[0]? = some (cs0[0]'(by omega)) := List.getElem?_eq_getElem _
      rw [hne] at zz
      have := World.cell?_spot zz
      simpa [Addr.add] using this
    obtain ⟨g, off, spot⟩ := x
    dsimp only at hsp
    subst hsp
    rw [add_none, add_none] at g0 g1 g2 g3 g4
    subst hbl
    exact ⟨g, off, t, aa, b, cc, o, bs, cp, rfl, by simpa using g0, by simpa using g1, by simpa using g2, by simpa using g3, by simpa using g4, hbb, by omega, hbn⟩
end Go.Proofs.Ytmmppgkhlelbmaa.Fr
