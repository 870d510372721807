/- Rows of messages; what a parser makes of bytes. No condition. -/
import Derived.Test.YtmmppgkhlelbmaaFrI
namespace Go.Proofs.Ytmmppgkhlelbmaa.Fr
open Go.RowKit Ba Go.Deep
set_option linter.unusedVariables false

/-- A slice of messages that the call made. -/
def FrsIs (w : World) (base : Nat) (t : TypeId) (v : Value) (fs : List Fr) : Prop :=
  ∃ cells : List Value, w.ownsRow base t 5 v fs.length cells ∧ ∀ i (h : i < fs.length), ∃ ao cap, cells[i * 5]? = some (.int .i64 fs[i].t) ∧ cells[i * 5 + 1]? = some (.int .i64 fs[i].a) ∧ cells[i * 5 + 2]? = some (.int .i64 fs[i].b) ∧ cells[i * 5 + 3]? = some (.int .i64 fs[i].c) ∧
    cells[i * 5 + 4]? = some (.slice ao fs[i].data.length cap) ∧ Own w base (.slice ao fs[i].data.length cap) fs[i].data
theorem FrsIs.nil (w : World) (base : Nat) (t : TypeId) : FrsIs w base t (.slice none 0 0) [] := ⟨[], World.ownsRow_nil w base t 5, fun i h => absurd h (by simp)⟩
theorem ownsRow_at {w w' : World} {base : Nat} {e : TypeId} {size : Nat} {v : Value} {n : Nat} {xs : List Value} (h : w.ownsRow base e size v n xs) (hb : ∀ k, v.ownBlock = some k → w'.heap[k]? = w.heap[k]?) : w'.ownsRow base e size v n xs := by
  refine ⟨h.1, ?_⟩
  rcases h.2 with hn | ⟨g, cap, cur, rfl, hB, hgg, rest⟩
  · exact .inl hn
  · exact .inr ⟨g, cap, cur, rfl, hB, (hb g rfl).trans hgg, rest⟩
theorem FrsIs.at {w w' : World} {base : Nat} {t : TypeId} {v : Value} {fs : List Fr} (h : FrsIs w base t v fs) (hb : ∀ k, base ≤ k → k < w.heap.size → w'.heap[k]? = w.heap[k]?) : FrsIs w' base t v fs := by
  obtain ⟨cells, h1, h2⟩ := h
  refine ⟨cells, ownsRow_at h1 fun k hk => hb k (World.ownsRow.lt h1 k hk).1 (World.ownsRow.lt h1 k hk).2, fun i hi => ?_⟩
  obtain ⟨ao, cap, e0, e1, e2, e3, e4, ho⟩ := h2 i hi
  exact ⟨ao, cap, e0, e1, e2, e3, e4, ho.at fun k hk => hb k (ho.lt k hk).1 (ho.lt k hk).2⟩
theorem FrsIs.keep {w w' : World} {base : Nat} {t : TypeId} {v : Value} {fs : List Fr} (h : FrsIs w base t v fs) (hb : Below w.heap.size w w') : FrsIs w' base t v fs := h.at fun k _ hk => hb.block k hk
theorem FrsIs.but {w w' : World} {base B g : Nat} {t : TypeId} {v : Value} {fs : List Fr} (h : FrsIs w base t v fs) (hb : But B g w w') (hB : w.heap.size ≤ B) (hg : g < base) : FrsIs w' base t v fs := h.at fun k h1 h2 => hb.block k (by omega) (by omega)
theorem FrsIs.alloc {w : World} {base : Nat} {t : TypeId} {v : Value} {fs : List Fr} (h : FrsIs w base t v fs) (o : Obj) : FrsIs (w.alloc o) base t v fs := h.at fun k _ hk => blk_alloc_lt _ _ _ hk
theorem PsIs.alloc {w : World} {g : Nat} {t : TypeId} {buf : List UInt8} {br : Bool} (h : PsIs w g t buf br) (o : Obj) : PsIs (w.alloc o) g t buf br := h.below ((Below.refl w.heap.size w).alloc (Nat.le_refl _) o) (Nat.le_refl _)
theorem But.alloc {B g : Nat} {a w : World} (h : But B g a w) (hB : B ≤ w.heap.size) (o : Obj) : But B g a (w.alloc o) := h.trans (But.of_below ((Below.refl _ _).alloc hB o))
theorem FrsIs.mono {w : World} {base B : Nat} {t : TypeId} {v : Value} {fs : List Fr} (h : FrsIs w base t v fs) (hB : B ≤ base) : FrsIs w B t v fs := by
  obtain ⟨cells, h1, h2⟩ := h
  refine ⟨cells, ⟨h1.1, ?_⟩, fun i hi => ?_⟩
  · rcases h1.2 with hn | ⟨g, cap, cur, rfl, hB2, rest⟩
    · exact .inl hn
    · exact .inr ⟨g, cap, cur, rfl, Nat.le_trans hB hB2, rest⟩
  · obtain ⟨ao, cap, e0, e1, e2, e3, e4, ho⟩ := h2 i hi
    exact ⟨ao, cap, e0, e1, e2, e3, e4, ho.mono hB⟩
theorem Own.other {w : World} {B base : Nat} {v u : Value} {bs : List UInt8} {t : TypeId} {n : Nat} {xs : List Value} (h : Own w B v bs) (hb : w.ownsRow base t 5 u n xs) (ht : t ≠ 5) : ∀ k, v.ownBlock = some k → some k ≠ u.ownBlock := by
  intro k hk e
  rcases h.2 with ⟨rfl, _⟩ | ⟨g, cap, cur, rfl, hB, hgg, rest⟩
  · cases hk
  · cases hk
    rcases hb.2 with ⟨rfl, _⟩ | ⟨g', cap', cur', rfl, hB', hgg', rest'⟩
    · cases e
    · simp only [Value.ownBlock, Option.some.injEq] at e
      subst e
      rw [hgg] at hgg'
      cases hgg'
      exact ht rfl
theorem U8.other {w : World} {base k : Nat} {u : Value} {t : TypeId} {n : Nat} {xs : List Value} (h : U8 w k) (hb : w.ownsRow base t 5 u n xs) (ht : t ≠ 5) : some k ≠ u.ownBlock := by
  intro e
  obtain ⟨C, fr, hk⟩ := h
  rcases hb.2 with ⟨rfl, _⟩ | ⟨g', cap', cur', rfl, hB', hgg', rest'⟩
  · cases e
  · simp only [Value.ownBlock, Option.some.injEq] at e
    subst e
    rw [hk] at hgg'
    cases hgg'
    exact ht rfl
theorem info_fr : (Try.prog.info? 39).map (fun i => (i.zero, i.size, i.bytes)) = some (some (.agg #[.int .i64 0, .int .i64 0, .int .i64 0, .int .i64 0, .slice none 0 0]), 5, 56) := by kernel_rfl
theorem info_rf : (Try.prog.info? 40).map (fun i => (i.zero, i.size, i.bytes)) = some (some (.agg #[.int .i64 0, .int .i64 0, .int .i64 0, .int .i64 0, .slice none 0 0]), 5, 56) := by kernel_rfl
/-- The five cells of a message. -/
def fiveOf (f : Fr) (ao : Option Addr) (cap : Nat) : List Value := [.int .i64 f.t, .int .i64 f.a, .int .i64 f.b, .int .i64 f.c, .slice ao f.data.length cap]
/-- 'l = append(l, f)'. -/
theorem wpList_append_fr {P : Program} {w : World} {ops : Array Oper} {rest : List Oper} {o : Oper} {a : Act} {Q : Exit → Act → World → Prop} (ts te : TypeId) (hu : P.underlying ts = some (.slice te)) (hte : te ≠ 5)
    (hinfo : (P.info? te).map (fun i => (i.zero, i.size, i.bytes)) = some (some (.agg #[.int .i64 0, .int .i64 0, .int .i64 0, .int .i64 0, .slice none 0 0]), 5, 56))
    (hgd : o.guard = none) (s x : Operand) (ho : o.op = .call { callee := .builtin .append, args := #[s, x], argTypes := #[ts, ts] })
    (base : Nat) (v : Value) (fs : List Fr) (hs : a.eval s = v) (hown : FrsIs w base te v fs) (f : Fr) (ao : Option Addr) (cap : Nat) (hd : Own w base (.slice ao f.data.length cap) f.data)
    (ad : Nat) (hx : a.eval x = .slice (some ⟨ad, 0, none⟩) 1 1) (hnews : Blk w ad te (fiveOf f ao cap)) (hbd : fs.length < 1000000001) (hbase : base ≤ w.heap.size)
    (h : ∀ v' w', FrsIs w' base te v' (fs ++ [f]) → w.grownBy w' v.ownBlock → (∀ k, v.ownBlock = some k → base ≤ k) → (∀ k, U8 w k → some k ≠ v.ownBlock) → wpList P ops Q rest (a.put o.dst v') w') : wpList P ops Q (o :: rest) a w := by
  obtain ⟨i, hi, hz, hsize, hby⟩ := info_parts hinfo
  obtain ⟨cells, h1, h2⟩ := hown
  refine wpList_append_own w hgd s x ts ho base te i _ 5 56 hu hi hz hsize hby rfl (by decide) v fs.length cells hs h1 ⟨ad, 0, none⟩ 1 1 (fiveOf f ao cap) hx (by simp [fiveOf]) ?_ ?_ (by unfold maxLen; omega) (by omega) hbase ?_
  · intro j u hj
    have e : (Addr.add ⟨ad, 0, none⟩ j) = ⟨ad, j, none⟩ := by unfold Addr.add; split <;> simp_all
    rw [e]
    exact hnews.cell hj
  · intro u hu
    simp [fiveOf] at hu
    rcases hu with rfl | rfl | rfl | rfl | rfl <;> rfl
  · intro v' w' hown' hg _
    have hlen := h1.1
    refine h v' w' ⟨cells ++ fiveOf f ao cap, by rw [List.length_append]; exact hown', fun j hj => ?_⟩ hg (fun k hk => (World.ownsRow.lt h1 k hk).1) (fun k hk => hk.other h1 hte)
    rw [List.length_append, List.length_singleton] at hj
    by_cases hjl : j < fs.length
    · obtain ⟨ao', cap', e0, e1, e2, e3, e4, ho'⟩ := h2 j hjl
      have hg' : (fs ++ [f])[j]'(by rw [List.length_append, List.length_singleton]; exact hj) = fs[j] := List.getElem_append_left hjl
      rw [hg']
      refine ⟨ao', cap', ?_, ?_, ?_, ?_, ?_, ho'.at fun k hk => hg.block k (ho'.lt k hk).2 (Own.other ho' h1 hte k hk)⟩
      all_goals
        rw [List.getElem?_append_left (by omega)]
        assumption
    · obtain rfl : j = fs.length := by omega
      have hg' : (fs ++ [f])[fs.length]'(by rw [List.length_append, List.length_singleton]; exact hj) = f := by simp
      rw [hg']
      refine ⟨ao, cap, ?_, ?_, ?_, ?_, ?_, hd.at fun k hk => hg.block k (hd.lt k hk).2 (Own.other hd h1 hte k hk)⟩
      all_goals
        rw [List.getElem?_append_right (by omega), hlen]
        simp [fiveOf]

/-- What a parser makes of bytes: the messages, the code, what waits, whether it is broken. -/
def runV : Nat → List UInt8 → List Fr × Nat × List UInt8 × Bool
  | 0, buf => ([], 0, buf, false)
  | n + 1, buf => if buf.length < 4 then ([], 0, buf, false) else if 262208 < numV buf then ([], 3, [], true) else if buf.length - 4 < numV buf then ([], 0, buf, false)
    else if parseC (payV buf) = 0 then (parseF (payV buf) :: (runV n (buf.drop (4 + numV buf))).1, (runV n (buf.drop (4 + numV buf))).2) else ([], parseC (payV buf), [], true)
theorem runV_fuel : ∀ (n m : Nat) (buf : List UInt8), buf.length < n → buf.length < m → runV n buf = runV m buf := by
  intro n
  induction n with
  | zero => intro m buf h; omega
  | succ n ih =>
    intro m buf h1 h2
    obtain ⟨m', rfl⟩ : ∃ m', m = m' + 1 := ⟨m - 1, by omega⟩
    unfold runV
    by_cases c1 : buf.length < 4
    · rw [if_pos c1, if_pos c1]
    · rw [if_neg c1, if_neg c1]
      rw [ih m' (buf.drop (4 + numV buf)) (by rw [List.length_drop]; omega) (by rw [List.length_drop]; omega)]
def runB (buf : List UInt8) := runV (buf.length + 1) buf
theorem runB_few (buf : List UInt8) (h : buf.length < 4) : runB buf = ([], 0, buf, false) := by unfold runB runV; rw [if_pos h]
theorem runB_long (buf : List UInt8) (h : 4 ≤ buf.length) (h2 : 262208 < numV buf) : runB buf = ([], 3, [], true) := by unfold runB runV; rw [if_neg (by omega), if_pos h2]
theorem runB_wait (buf : List UInt8) (h : 4 ≤ buf.length) (h2 : numV buf ≤ 262208) (h3 : buf.length - 4 < numV buf) : runB buf = ([], 0, buf, false) := by unfold runB runV; rw [if_neg (by omega), if_neg (by omega), if_pos h3]
theorem runB_bad (buf : List UInt8) (h : 4 + numV buf ≤ buf.length) (h2 : numV buf ≤ 262208) (h4 : parseC (payV buf) ≠ 0) : runB buf = ([], parseC (payV buf), [], true) := by unfold runB runV; rw [if_neg (by omega), if_neg (by omega), if_neg (by omega), if_neg h4]
theorem runB_one (buf : List UInt8) (h : 4 + numV buf ≤ buf.length) (h2 : numV buf ≤ 262208) (h4 : parseC (payV buf) = 0) : runB buf = (parseF (payV buf) :: (runB (buf.drop (4 + numV buf))).1, (runB (buf.drop (4 + numV buf))).2) := by
  unfold runB
  rw [runV, if_neg (by omega), if_neg (by omega), if_neg (by omega), if_pos h4]
  rw [runV_fuel buf.length ((buf.drop (4 + numV buf)).length + 1) _ (by rw [List.length_drop]; omega) (by omega)]
end Go.Proofs.Ytmmppgkhlelbmaa.Fr
