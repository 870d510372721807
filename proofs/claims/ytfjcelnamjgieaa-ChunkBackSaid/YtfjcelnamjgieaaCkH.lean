/- Rows of chunks that are only read; contracts of the law's same and Model. Condition: chunks lie at the slices. -/
import Derived.Test.YtfjcelnamjgieaaCkF
namespace Go.Proofs.Ytfjcelnamjgieaa.Ck
open Go.RowKit Ba Go.Deep
set_option linter.unusedVariables false

/-- Chunks that lie at a slice, whoever made them. -/
def ChRow (w : World) (v : Value) (fs : List Ch) : Prop :=
  ∃ ao cap, v = .slice ao fs.length cap ∧ fs.length ≤ cap ∧ cap ≤ maxLen ∧ (ao = none → cap = 0) ∧ ∀ i (h : i < fs.length), ∃ g off ad cd, ao = some ⟨g, off, none⟩ ∧ w.cell? ⟨g, off + i * 2, none⟩ = some (.string fs[i].1) ∧ w.cell? ⟨g, off + i * 2 + 1, none⟩ = some (.slice ad fs[i].2.length cd) ∧
    Bytes w ad fs[i].2 ∧ (ad = none → cd = 0) ∧ fs[i].2.length ≤ maxLen
theorem ChRow.keep {w w' : World} {v : Value} {fs : List Ch} (h : ChRow w v fs) (hb : Below w.heap.size w w') : ChRow w' v fs := by
  obtain ⟨ao, cap, e, h1, h2, h3, h4⟩ := h
  refine ⟨ao, cap, e, h1, h2, h3, fun i hi => ?_⟩
  obtain ⟨g, off, ad, cd, e1, c0, c1, hy, hn, hm⟩ := h4 i hi
  have hl : g < w.heap.size := cell_lt c0
  exact ⟨g, off, ad, cd, e1, (hb.cell (p := ⟨g, off + i * 2, none⟩) hl).trans c0, (hb.cell (p := ⟨g, off + i * 2 + 1, none⟩) hl).trans c1, hy.keep hb, hn, hm⟩
theorem ChsIs.row {w : World} {base : Nat} {t : TypeId} {v : Value} {fs : List Ch} (h : ChsIs w base t v fs) : ChRow w v fs := by
  obtain ⟨cells, h1, h2⟩ := h
  have hcl := fun g hg => World.ownsRow.cells h1 (g := g) hg
  rcases h1.2 with ⟨rfl, hn⟩ | ⟨g, cap, cur, rfl, hb, hgg, hnc, hcm, _⟩
  · exact ⟨none, 0, by rw [hn], by omega, Nat.zero_le _, fun _ => rfl, fun i hi => absurd hi (by omega)⟩
  · refine ⟨some ⟨g, 0, none⟩, cap, rfl, hnc, hcm, fun h => (by cases h), fun i hi => ?_⟩
    obtain ⟨ad, cd, e0, e1, ho⟩ := h2 i hi
    have hadd : ∀ j, (⟨g, 0, none⟩ : Addr).add j = ⟨g, j, none⟩ := fun j => by unfold Addr.add; split <;> simp_all
    have hc := hcl g rfl
    simp only [hadd] at hc
    obtain ⟨ao', cap', e, hy, hl, hm, hn, _⟩ := own_view2 ho
    cases e
    exact ⟨g, 0, ad, cd, rfl, by rw [Nat.zero_add]; exact hc _ _ e0, by rw [Nat.zero_add]; exact hc _ _ e1, hy, hn, Nat.le_trans hl hm⟩
/-- A row of chunks that the call made; their data lies where it lay in the world W0. -/
def MdIs (W0 w : World) (base : Nat) (t : TypeId) (v : Value) (fs : List Ch) : Prop :=
  ∃ cells : List Value, w.ownsRow base t 2 v fs.length cells ∧ ∀ i (h : i < fs.length), ∃ ao cap, cells[i * 2]? = some (.string fs[i].1) ∧ cells[i * 2 + 1]? = some (.slice ao fs[i].2.length cap) ∧ Bytes W0 ao fs[i].2 ∧ (ao = none → cap = 0) ∧ fs[i].2.length ≤ maxLen
theorem MdIs.nil (W0 w : World) (base : Nat) (t : TypeId) : MdIs W0 w base t (.slice none 0 0) [] := ⟨[], World.ownsRow_nil w base t 2, fun i h => absurd h (by simp)⟩
theorem MdIs.at {W0 w w' : World} {base : Nat} {t : TypeId} {v : Value} {fs : List Ch} (h : MdIs W0 w base t v fs) (hb : ∀ k, v.ownBlock = some k → w'.heap[k]? = w.heap[k]?) : MdIs W0 w' base t v fs := by
  obtain ⟨cells, h1, h2⟩ := h
  exact ⟨cells, ownsRow_at h1 hb, h2⟩
theorem MdIs.lt {W0 w : World} {base : Nat} {t : TypeId} {v : Value} {fs : List Ch} (h : MdIs W0 w base t v fs) : ∀ k, v.ownBlock = some k → base ≤ k ∧ k < w.heap.size := by
  obtain ⟨cells, h1, h2⟩ := h
  exact World.ownsRow.lt h1
theorem MdIs.alloc {W0 w : World} {base : Nat} {t : TypeId} {v : Value} {fs : List Ch} (h : MdIs W0 w base t v fs) (o : Obj) : MdIs W0 (w.alloc o) base t v fs := h.at fun k hk => blk_alloc_lt _ _ _ (h.lt k hk).2
theorem MdIs.row {W0 w : World} {base : Nat} {t : TypeId} {v : Value} {fs : List Ch} (h : MdIs W0 w base t v fs) (hb : Below W0.heap.size W0 w) : ChRow w v fs := by
  obtain ⟨cells, h1, h2⟩ := h
  have hcl := fun g hg => World.ownsRow.cells h1 (g := g) hg
  rcases h1.2 with ⟨rfl, hn⟩ | ⟨g, cap, cur, rfl, hb2, hgg, hnc, hcm, _⟩
  · exact ⟨none, 0, by rw [hn], by omega, Nat.zero_le _, fun _ => rfl, fun i hi => absurd hi (by omega)⟩
  · refine ⟨some ⟨g, 0, none⟩, cap, rfl, hnc, hcm, fun h => (by cases h), fun i hi => ?_⟩
    obtain ⟨ad, cd, e0, e1, hy, hn, hm⟩ := h2 i hi
    have hadd : ∀ j, (⟨g, 0, none⟩ : Addr).add j = ⟨g, j, none⟩ := fun j => by unfold Addr.add; split <;> simp_all
    have hc := hcl g rfl
    simp only [hadd] at hc
    exact ⟨g, 0, ad, cd, rfl, by rw [Nat.zero_add]; exact hc _ _ e0, by rw [Nat.zero_add]; exact hc _ _ e1, hy.keep hb, hn, hm⟩
/-- 'l = append(l, c)' at a step of a region that draws its order. -/
theorem step_append_md {W0 w : World} {ops : Array Oper} {o : Oper} {a : Act} {K : Act → World → Prop} {Q : Exit → Act → World → Prop} {E : Prop} (ts te : TypeId) (hu : Try.prog.underlying ts = some (.slice te))
    (hinfo : (Try.prog.info? te).map (fun i => (i.zero, i.size, i.bytes)) = some (some (.agg #[.string ByteArray.empty, .slice none 0 0]), 2, 40))
    (hgd : o.guard = none) (s x : Operand) (ho : o.op = .call { callee := .builtin .append, args := #[s, x], argTypes := #[ts, ts] })
    (base : Nat) (v : Value) (fs : List Ch) (hs : a.eval s = v) (hown : MdIs W0 w base te v fs) (f : Ch) (ao : Option Addr) (cap : Nat) (hd : Bytes W0 ao f.2 ∧ (ao = none → cap = 0) ∧ f.2.length ≤ maxLen)
    (ad : Nat) (hx : a.eval x = .slice (some ⟨ad, 0, none⟩) 1 1) (hnews : Blk w ad te (twoOf f ao cap)) (hbd : fs.length < 1000000001) (hbase : base ≤ w.heap.size)
    (h : ∀ v' w', MdIs W0 w' base te v' (fs ++ [f]) → w.grownBy w' v.ownBlock → K (a.put o.dst v') w') :
    if Region.wanted o (yielded ops a.tmps) = true then Oper.wp Try.prog o a w K Q else E := by
  have hw : Region.wanted o (yielded ops a.tmps) = true := by simp [Region.wanted, hgd]
  rw [if_pos hw]
  obtain ⟨i, hi, hz, hsize, hby⟩ := info_parts hinfo
  obtain ⟨cells, h1, h2⟩ := hown
  refine wp_append_own w s x _ ho base te i _ 2 40 hu hi hz hsize hby rfl (by decide) v fs.length cells hs h1 ⟨ad, 0, none⟩ 1 1 (twoOf f ao cap) hx (by simp [twoOf]) ?_ ?_ (by unfold maxLen; omega) (by omega) hbase ?_
  · intro j u hj
    have e : (Addr.add ⟨ad, 0, none⟩ j) = ⟨ad, j, none⟩ := by unfold Addr.add; split <;> simp_all
    rw [e]
    exact hnews.cell hj
  · intro u hu
    simp [twoOf] at hu
    rcases hu with rfl | rfl <;> rfl
  · intro v' w' hown' hg _
    have hlen := h1.1
    refine h v' w' ⟨cells ++ twoOf f ao cap, by rw [List.length_append]; exact hown', fun j hj => ?_⟩ hg
    rw [List.length_append, List.length_singleton] at hj
    by_cases hjl : j < fs.length
    · obtain ⟨ao', cap', e0, e1, ho'⟩ := h2 j hjl
      have hg' : (fs ++ [f])[j]'(by rw [List.length_append, List.length_singleton]; exact hj) = fs[j] := List.getElem_append_left hjl
      rw [hg']
      refine ⟨ao', cap', ?_, ?_, ho'⟩
      all_goals
        rw [List.getElem?_append_left (by omega)]
        assumption
    · obtain rfl : j = fs.length := by omega
      have hg' : (fs ++ [f])[fs.length]'(by rw [List.length_append, List.length_singleton]; exact hj) = f := by simp
      rw [hg']
      refine ⟨ao, cap, ?_, ?_, hd⟩
      all_goals
        rw [List.getElem?_append_right (by omega), hlen]
        simp [twoOf]
set_option maxRecDepth 100000 in
set_option maxHeartbeats 6400000 in
theorem same_yes (v1 v2 : Value) (fs : List Ch) (w : World) (h1 : ChRow w v1 fs) (h2 : ChRow w v2 fs) :
    Calls Try.prog 10 #[v1, v2] w fun e w' => e = .returned (.bool true) ∧ Below w.heap.size w w' := by
  obtain ⟨a, ca, rfl, x1, x2, x3, hv1⟩ := h1
  obtain ⟨b, cb, rfl, y1, y2, y3, hv2⟩ := h2
  have HV1 := Lib.hid hv1
  have HV2 := Lib.hid hv2
  obtain ⟨LF, hLF⟩ : ∃ L, L = fs.length := ⟨_, rfl⟩
  rw [← hLF] at x1 y1 ⊢
  have hb63 : LF ≤ 9223372036854775807 := by unfold maxLen at x2; omega
  have HLF := Lib.hid hLF
  have t1 : ((LF : Int) != (LF : Int)) = false := by simp
  clear hv1 hv2 hLF x1 x2 x3 y1 y2 y3
  go_enter Try.func10, Try.ntmps10
  go_wp2_with fail
  go_loopw [5] (fun jv w8 => ∃ q : Nat, q ≤ LF ∧ jv = .int .i64 q ∧ Hid (Below w.heap.size w w8)) (fun jv _ => LF - (intOf jv).toNat)
  case atStart => exact ⟨0, by omega, rfl, Below.refl _ _⟩
  case round =>
    obtain ⟨q, hq, rfl, HBI⟩ := hrel
    by_cases hql : q < LF
    · have hq' : q < fs.length := by rw [← HLF.out]; exact hql
      obtain ⟨g5, o5, ad, cd, rfl, k0, k1, ky, _, _⟩ := HV1.out q hq'
      obtain ⟨g6, o6, ae, ce, rfl, l0, l1, ly, _, _⟩ := HV2.out q hq'
      generalize fs[q]'hq' = f at *
      obtain ⟨ln, hln⟩ : ∃ ln, ln = f.2.length := ⟨_, rfl⟩
      rw [← hln] at k1 l1
      obtain ⟨s, hs⟩ : ∃ s : ByteArray, s = ⟨f.2.toArray⟩ := ⟨_, rfl⟩
      have HSS : Hid (∀ u, Below w.heap.size w u → u.cell? ⟨g5, o5 + q * 2, none⟩ = some (.string f.1) ∧ u.cell? ⟨g5, o5 + q * 2 + 1, none⟩ = some (.slice ad ln cd) ∧ u.cell? ⟨g6, o6 + q * 2, none⟩ = some (.string f.1) ∧ u.cell? ⟨g6, o6 + q * 2 + 1, none⟩ = some (.slice ae ln ce) ∧
          (convert 22 9 (.slice ad ln cd)).run Try.prog u = .ok (.string s) u ∧ (convert 22 9 (.slice ae ln ce)).run Try.prog u = .ok (.string s) u) := Lib.hid (fun u hu => by
        have hl5 : g5 < w.heap.size := cell_lt (a := ⟨g5, o5 + q * 2, none⟩) k0
        have hl6 : g6 < w.heap.size := cell_lt (a := ⟨g6, o6 + q * 2, none⟩) l0
        have cc5 : ∀ o, u.cell? ⟨g5, o, none⟩ = w.cell? ⟨g5, o, none⟩ := fun o => hu.cell (p := ⟨g5, o, none⟩) hl5
        have cc6 : ∀ o, u.cell? ⟨g6, o, none⟩ = w.cell? ⟨g6, o, none⟩ := fun o => hu.cell (p := ⟨g6, o, none⟩) hl6
        have q1 := run_str ad ln cd f.2 hln u (ky.keep hu)
        have q2 := run_str ae ln ce f.2 hln u (ly.keep hu)
        rw [← hs] at q1 q2
        simp only [cc5, cc6]
        exact ⟨k0, k1, l0, l1, q1, q2⟩)
      clear k0 k1 ky l0 l1 ly hln hs
      have hS := HSS.out wr.drew HBI.out.drew
      go_wp2_with fail
      go_region_held3 (fun u => u.cell? ⟨g5, o5 + q * 2, none⟩ = some (.string f.1) ∧ u.cell? ⟨g5, o5 + q * 2 + 1, none⟩ = some (.slice ad ln cd) ∧ u.cell? ⟨g6, o6 + q * 2, none⟩ = some (.string f.1) ∧ u.cell? ⟨g6, o6 + q * 2 + 1, none⟩ = some (.slice ae ln ce) ∧
          (convert 22 9 (.slice ad ln cd)).run Try.prog u = .ok (.string s) u ∧ (convert 22 9 (.slice ae ln ce)).run Try.prog u = .ok (.string s) u) (first | exact hS) (first | fail)
      all_goals
        go_wp2_with fail
        go_roundw
        case rel => exact ⟨q + 1, by omega, by go_num, HBI.out.drew⟩
        case measure => simp [intOf]; omega
    · have hqe : q = LF := by omega
      subst hqe
      go_wp2_with fail
      go_ret
      exact ⟨rfl, HBI.out⟩
end Go.Proofs.Ytfjcelnamjgieaa.Ck
