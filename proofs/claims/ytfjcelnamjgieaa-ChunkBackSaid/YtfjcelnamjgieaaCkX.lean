/- Rows of chunks put together of others' parts. Condition: chunks lie at the slices. -/
import Derived.Test.YtfjcelnamjgieaaCkW
import Derived.BigRegion
namespace Go.Proofs.Ytfjcelnamjgieaa.Ck
open Go.RowKit Ba Go.Deep
set_option linter.unusedVariables false

abbrev tRs : TypeId := 28
abbrev tR : TypeId := 44
/-- Chunks that lie in w; their data lies as it lay in W0. -/
def SrcIs (W0 w : World) (ao : Option Addr) (gs : List Ch) : Prop :=
  ∀ i (h : i < gs.length), ∃ g off ad cd, ao = some ⟨g, off, none⟩ ∧ w.cell? ⟨g, off + i * 2, none⟩ = some (.string gs[i].1) ∧ w.cell? ⟨g, off + i * 2 + 1, none⟩ = some (.slice ad gs[i].2.length cd) ∧
    Bytes W0 ad gs[i].2 ∧ (ad = none → cd = 0) ∧ gs[i].2.length ≤ maxLen
theorem ChRow.src {w u : World} {ao : Option Addr} {n cap : Nat} {fs : List Ch} (h : ChRow w (.slice ao n cap) fs) (hb : Below w.heap.size w u) : SrcIs w u ao fs := by
  obtain ⟨ao', cap', e, _, _, _, h4⟩ := h
  cases e
  intro i hi
  obtain ⟨g, off, ad, cd, e1, c0, c1, hy, hn, hm⟩ := h4 i hi
  have hl : g < w.heap.size := cell_lt c0
  exact ⟨g, off, ad, cd, e1, (hb.cell (p := ⟨g, off + i * 2, none⟩) hl).trans c0, (hb.cell (p := ⟨g, off + i * 2 + 1, none⟩) hl).trans c1, hy, hn, hm⟩
theorem SrcIs.take {W0 w : World} {ao : Option Addr} {gs : List Ch} (h : SrcIs W0 w ao gs) (k : Nat) : SrcIs W0 w ao (gs.take k) := by
  intro i hi
  have hi' : i < gs.length := by rw [List.length_take] at hi; omega
  have e : (gs.take k)[i]'hi = gs[i]'hi' := List.getElem_take
  rw [e]
  exact h i hi'
def cutA2 (a : Option Addr) (k cap : Nat) : Option Addr := if cap = k then a else a.map (fun x => x.add (k * 2))
theorem SrcIs.drop {W0 w : World} {ao : Option Addr} {gs : List Ch} (h : SrcIs W0 w ao gs) (k cap : Nat) (hc : gs.length ≤ cap) : SrcIs W0 w (cutA2 ao k cap) (gs.drop k) := by
  intro i hi
  have hi' : k + i < gs.length := by rw [List.length_drop] at hi; omega
  have e : (gs.drop k)[i]'hi = gs[k + i]'hi' := List.getElem_drop
  rw [e]
  obtain ⟨g, off, ad, cd, rfl, c0, c1, rest⟩ := h (k + i) hi'
  refine ⟨g, off + k * 2, ad, cd, ?_, ?_, ?_, rest⟩
  · unfold cutA2
    rw [if_neg (by omega)]
    unfold Addr.add
    by_cases hk : k * 2 = 0
    · rw [hk]; simp
    · simp [hk]
  · rw [show off + k * 2 + i * 2 = off + (k + i) * 2 by omega]; exact c0
  · rw [show off + k * 2 + i * 2 + 1 = off + (k + i) * 2 + 1 by omega]; exact c1
theorem run_from2 {P : Program} (t e : TypeId) (ht : P.underlying t = some (.slice e)) (hsz : ∀ w, (sizeOf e).run P w = .ok 2 w) (a : Option Addr) (len cap : Nat) (kl : IntKind) (k : Nat) (hk : k ≤ len) (w : World) :
    (Instr.slice t (.slice a len cap) (some (.int kl (k : Int))) none none).run P w = .ok (.slice (cutA2 a k cap) (len - k) (cap - k)) w := by
  have hel : P.elem t = e := by simp [Program.elem, ht]
  rw [run_slice_l w t a len cap (by rw [hel]; exact ht) kl k (by omega) (by omega), hel, hsz]
  simp [Result.andThen, sliced, cutA2]
theorem run_to2 {P : Program} (t e : TypeId) (ht : P.underlying t = some (.slice e)) (hsz : ∀ w, (sizeOf e).run P w = .ok 2 w) (a : Option Addr) (len cap : Nat) (kl : IntKind) (k : Nat) (hk : k ≤ cap) (w : World) :
    (Instr.slice t (.slice a len cap) none (some (.int kl (k : Int))) none).run P w = .ok (.slice a k cap) w := by
  have hel : P.elem t = e := by simp [Program.elem, ht]
  rw [run_slice_h w t a len cap (by rw [hel]; exact ht) kl k (by omega) (by omega), hel, hsz]
  simp [Result.andThen, sliced]
  intro h
  cases a with
  | none => rfl
  | some x => simp [Addr.add]
theorem size_rc (w : World) : (sizeOf tR).run Try.prog w = .ok 2 w := by kernel_rfl
/-- 'append(v, x...)' of chunks. -/
theorem run_append_mds {W0 w : World} (ty : TypeId) (base : Nat) (v : Value) (fs : List Ch) (hown : MdIs W0 w base tR v fs) (ao : Option Addr) (m c : Nat) (gs : List Ch) (hm : m = gs.length) (hs : SrcIs W0 w ao gs) (hnil : ao = none → c = 0)
    (hbd : fs.length + m < 1000000001) (hbase : base ≤ w.heap.size) :
    ∃ v' w', (Builtin.append_ #[tRs, tRs] ty #[v, .slice ao m c]).run Try.prog w = .ok v' w' ∧ MdIs W0 w' base tR v' (fs ++ gs) ∧ w.grownBy w' v.ownBlock := by
  obtain ⟨i, hi, hz, hsize, hby⟩ := info_parts info_rc
  have hown' := hown
  obtain ⟨cells, h1, h2⟩ := hown
  cases ao with
  | none =>
    have hg : gs = [] := by
      cases gs with
      | nil => rfl
      | cons f l => obtain ⟨_, _, _, _, e, _⟩ := hs 0 (by simp); cases e
    subst hg
    have hm0 : m = 0 := hm
    subst hm0
    have hc := hnil rfl
    subst hc
    have hrun := run_append_owned_none (P := Try.prog) (w := w) base tRs ty tR i 2 Try.underlying28 hi v fs.length cells h1
    exact ⟨v, w, hrun, by rw [List.append_nil]; exact hown', ⟨rfl, rfl, rfl, Nat.le_refl _, fun _ _ _ => rfl⟩⟩
  | some ad =>
    have hcell : ∀ j, j < m * 2 → ∃ u, w.cell? (ad.add j) = some u ∧ u.oneCell' = true := by
      intro j hj
      obtain ⟨g, off, ad', cd, e, c0, c1, _⟩ := hs (j / 2) (by omega)
      cases e
      have ea : (Addr.add ⟨g, off, none⟩ j) = ⟨g, off + j, none⟩ := by unfold Addr.add; split <;> simp_all
      rcases (by omega : j % 2 = 0 ∨ j % 2 = 1) with h0 | h0
      · rw [ea, show off + j = off + j / 2 * 2 by omega]; exact ⟨_, c0, rfl⟩
      · rw [ea, show off + j = off + j / 2 * 2 + 1 by omega]; exact ⟨_, c1, rfl⟩
    let news : List Value := (List.range (m * 2)).map (fun j => (w.cell? (ad.add j)).getD (.bool false))
    have hnl : news.length = m * 2 := by simp [news]
    have hng : ∀ j u, news[j]? = some u → w.cell? (ad.add j) = some u := by
      intro j u hj
      have hjl : j < m * 2 := by rw [← hnl]; exact (List.getElem?_eq_some_iff.1 hj).1
      obtain ⟨u', hu', _⟩ := hcell j hjl
      simp only [news, List.getElem?_map, List.getElem?_range hjl, Option.map_some, hu', Option.getD_some, Option.some.injEq] at hj
      rw [hu', hj]
    have hn1 : ∀ u ∈ news, u.oneCell' = true := by
      intro u hu
      obtain ⟨j, hj, rfl⟩ := List.mem_map.1 hu
      obtain ⟨u', hu', h'⟩ := hcell j (List.mem_range.1 hj)
      rw [hu']
      exact h'
    obtain ⟨v', w', hr, ho', hg, _⟩ := run_append_own (P := Try.prog) w base tRs ty tR i _ 2 40 Try.underlying28 hi hz hsize hby rfl (by decide) v fs.length cells h1 ad m c news hnl hng hn1 (by unfold maxLen; omega) (by omega) hbase
    have hlen := h1.1
    refine ⟨v', w', hr, ⟨cells ++ news, by rw [List.length_append, ← hm]; exact ho', fun j hj => ?_⟩, hg⟩
    rw [List.length_append] at hj
    by_cases hjl : j < fs.length
    · obtain ⟨ao', cap', e0, e1, hrest⟩ := h2 j hjl
      have hg' : (fs ++ gs)[j]'(by rw [List.length_append]; exact hj) = fs[j] := List.getElem_append_left hjl
      rw [hg']
      refine ⟨ao', cap', ?_, ?_, hrest⟩
      all_goals
        rw [List.getElem?_append_left (by omega)]
        assumption
    · have hg' : (fs ++ gs)[j]'(by rw [List.length_append]; exact hj) = gs[j - fs.length]'(by omega) := List.getElem_append_right (by omega)
      rw [hg']
      obtain ⟨g, off, ad', cd, e, c0, c1, hrest⟩ := hs (j - fs.length) (by omega)
      cases e
      have ea : ∀ k, (Addr.add ⟨g, off, none⟩ k) = ⟨g, off + k, none⟩ := fun k => by unfold Addr.add; split <;> simp_all
      have hnw : ∀ k u, k < m * 2 → w.cell? ⟨g, off + k, none⟩ = some u → news[k]? = some u := by
        intro k u hk hu
        simp only [news, List.getElem?_map, List.getElem?_range hk, Option.map_some, ea, hu, Option.getD_some]
      refine ⟨ad', cd, ?_, ?_, hrest⟩
      · rw [List.getElem?_append_right (by omega), hlen, show j * 2 - fs.length * 2 = (j - fs.length) * 2 by omega]
        exact hnw _ _ (by omega) c0
      · rw [List.getElem?_append_right (by omega), hlen, show j * 2 + 1 - fs.length * 2 = (j - fs.length) * 2 + 1 by omega]
        exact hnw _ _ (by omega) (by rw [← Nat.add_assoc]; exact c1)
theorem wpList_append_mds {W0 w : World} {ops : Array Oper} {rest : List Oper} {o : Oper} {a : Act} {Q : Exit → Act → World → Prop} (hgd : o.guard = none) (s x : Operand)
    (ho : o.op = .call { callee := .builtin .append, args := #[s, x], argTypes := #[tRs, tRs] })
    (base : Nat) (v : Value) (fs : List Ch) (hs : a.eval s = v) (hown : MdIs W0 w base tR v fs) (ao : Option Addr) (m c : Nat) (gs : List Ch) (hx : a.eval x = .slice ao m c) (hm : m = gs.length) (hsr : SrcIs W0 w ao gs) (hnil : ao = none → c = 0)
    (hbd : fs.length + m < 1000000001) (hbase : base ≤ w.heap.size)
    (h : ∀ v' w', MdIs W0 w' base tR v' (fs ++ gs) → w.grownBy w' v.ownBlock → wpList Try.prog ops Q rest (a.put o.dst v') w') : wpList Try.prog ops Q (o :: rest) a w := by
  refine wpList_plain hgd fun K hK => ?_
  obtain ⟨v', w', hr, h2, h3⟩ := run_append_mds o.type base v fs hown ao m c gs hm hsr hnil hbd hbase
  unfold Oper.wp execOp
  simp only [ho, resolve, invoke, builtin, Sem.run_bind, Sem.run_pure, Result.andThen_ok, List.map_toArray, List.map_cons, List.map_nil, hs, hx, hr]
  exact hK _ _ (h v' w' h2 h3)
theorem step_append_mds {W0 w : World} {ops : Array Oper} {o : Oper} {a : Act} {K : Act → World → Prop} {Q : Exit → Act → World → Prop} {E : Prop} (hgd : o.guard = none) (s x : Operand)
    (ho : o.op = .call { callee := .builtin .append, args := #[s, x], argTypes := #[tRs, tRs] })
    (base : Nat) (v : Value) (fs : List Ch) (hs : a.eval s = v) (hown : MdIs W0 w base tR v fs) (ao : Option Addr) (m c : Nat) (gs : List Ch) (hx : a.eval x = .slice ao m c) (hm : m = gs.length) (hsr : SrcIs W0 w ao gs) (hnil : ao = none → c = 0)
    (hbd : fs.length + m < 1000000001) (hbase : base ≤ w.heap.size)
    (h : ∀ v' w', MdIs W0 w' base tR v' (fs ++ gs) → w.grownBy w' v.ownBlock → K (a.put o.dst v') w') :
    if Region.wanted o (yielded ops a.tmps) = true then Oper.wp Try.prog o a w K Q else E := by
  have hw : Region.wanted o (yielded ops a.tmps) = true := by simp [Region.wanted, hgd]
  rw [if_pos hw]
  obtain ⟨v', w', hr, h2, h3⟩ := run_append_mds o.type base v fs hown ao m c gs hm hsr hnil hbd hbase
  unfold Oper.wp execOp
  simp only [ho, resolve, invoke, builtin, Sem.run_bind, Sem.run_pure, Result.andThen_ok, List.map_toArray, List.map_cons, List.map_nil, hs, hx, hr]
  exact h v' w' h2 h3
theorem MdIs.empty (W0 w : World) (base : Nat) (hb : base ≤ w.heap.size) : MdIs W0 (w.alloc (.cells #[] tR)) base tR (.slice (some ⟨w.heap.size, 0, none⟩) 0 0) [] :=
  ⟨[], World.ownsRow_made w #[] 0 hb (by unfold maxLen; omega) rfl, fun i h => absurd h (by simp)⟩
theorem MdIs.set {W0 w : World} {base g n cap : Nat} {fs : List Ch} (h : MdIs W0 w base tR (.slice (some ⟨g, 0, none⟩) n cap) fs) (i : Nat) (hi : i < fs.length) (f : Ch) (ao : Option Addr) (ca ln : Nat) (hln : ln = f.2.length) (hd : Bytes W0 ao f.2 ∧ (ao = none → ca = 0) ∧ f.2.length ≤ maxLen) :
    MdIs W0 ((w.setCell ⟨g, i * 2, none⟩ (.string f.1)).setCell ⟨g, i * 2 + 1, none⟩ (.slice ao ln ca)) base tR (.slice (some ⟨g, 0, none⟩) n cap) (fs.set i f) := by
  subst hln
  obtain ⟨cells, h1, h2⟩ := h
  have hn : n = fs.length := by
    rcases h1.2 with ⟨he, _⟩ | ⟨g', c', cur, he, _⟩
    · cases he
    · simp only [Value.slice.injEq] at he; exact he.2.1
  subst hn
  have hcl := h1.1
  have h3 := (World.ownsRow.stored (World.ownsRow.stored h1 (i * 2) (.string f.1)).1 (i * 2 + 1) (.slice ao f.2.length ca)).1
  refine ⟨_, by rw [List.length_set]; exact h3, fun j hj => ?_⟩
  have hj' : j < fs.length := by rw [List.length_set] at hj; exact hj
  by_cases hij : j = i
  · subst hij
    have e : (fs.set j f)[j]'hj = f := by simp
    rw [e]
    refine ⟨ao, ca, ?_, ?_, hd⟩
    · rw [List.getElem?_set_ne (by omega), List.getElem?_set_self (by omega)]
    · rw [List.getElem?_set_self (by rw [List.length_set]; omega)]
  · have e : (fs.set i f)[j]'hj = fs[j]'hj' := by rw [List.getElem_set_ne (fun hh => hij hh.symm)]
    rw [e]
    obtain ⟨ao', cap', e0, e1, hr⟩ := h2 j hj'
    refine ⟨ao', cap', ?_, ?_, hr⟩
    · rw [List.getElem?_set_ne (by omega), List.getElem?_set_ne (by omega)]; exact e0
    · rw [List.getElem?_set_ne (by omega), List.getElem?_set_ne (by omega)]; exact e1
/-- What a row of the call's own holds, and that it may be written. -/
theorem MdIs.at2 {W0 w : World} {base g n cap : Nat} {fs : List Ch} (h : MdIs W0 w base tR (.slice (some ⟨g, 0, none⟩) n cap) fs) (i : Nat) (hi : i < fs.length) :
    ∃ ad cd, w.cell? ⟨g, i * 2, none⟩ = some (.string fs[i].1) ∧ w.cell? ⟨g, i * 2 + 1, none⟩ = some (.slice ad fs[i].2.length cd) ∧ Bytes W0 ad fs[i].2 ∧ (ad = none → cd = 0) ∧ fs[i].2.length ≤ maxLen := by
  obtain ⟨cells, h1, h2⟩ := h
  have hcl := World.ownsRow.cells h1 (g := g) rfl
  obtain ⟨ad, cd, e0, e1, hr⟩ := h2 i hi
  have hadd : ∀ j, (⟨g, 0, none⟩ : Addr).add j = ⟨g, j, none⟩ := fun j => by unfold Addr.add; split <;> simp_all
  simp only [hadd] at hcl
  exact ⟨ad, cd, hcl _ _ e0, hcl _ _ e1, hr⟩
theorem MdIs.frozen {W0 w : World} {base g n cap : Nat} {fs : List Ch} (h : MdIs W0 w base tR (.slice (some ⟨g, 0, none⟩) n cap) fs) (i : Nat) : w.frozen? ⟨g, i, none⟩ = false := by
  obtain ⟨cells, h1, h2⟩ := h
  have hn : n = fs.length := by
    rcases h1.2 with ⟨he, _⟩ | ⟨g', c', cur, he, _⟩
    · cases he
    · simp only [Value.slice.injEq] at he; exact he.2.1
  subst hn
  exact World.ownsRow.frozenAt h1 i
theorem MdIs.shape {W0 w : World} {base : Nat} {v : Value} {fs : List Ch} (h : MdIs W0 w base tR v fs) (hne : 0 < fs.length) : ∃ g cap, v = .slice (some ⟨g, 0, none⟩) fs.length cap ∧ base ≤ g ∧ fs.length ≤ cap := by
  obtain ⟨cells, h1, h2⟩ := h
  rcases h1.2 with ⟨rfl, hn⟩ | ⟨g, cap, cur, rfl, hb, hg, hnc, _⟩
  · omega
  · exact ⟨g, cap, rfl, hb, hnc⟩
end Go.Proofs.Ytfjcelnamjgieaa.Ck
