/- Rows of chunks; what is cut of bytes. No condition. -/
import Derived.Test.YtfjcelnamjgieaaCkC
namespace Go.Proofs.Ytfjcelnamjgieaa.Ck
open Go.RowKit Ba Go.Deep
set_option linter.unusedVariables false

/-- A slice of chunks that the call made. -/
def ChsIs (w : World) (base : Nat) (t : TypeId) (v : Value) (fs : List Ch) : Prop :=
  ∃ cells : List Value, w.ownsRow base t 2 v fs.length cells ∧ ∀ i (h : i < fs.length), ∃ ao cap, cells[i * 2]? = some (.string fs[i].1) ∧ cells[i * 2 + 1]? = some (.slice ao fs[i].2.length cap) ∧ Own w base (.slice ao fs[i].2.length cap) fs[i].2
theorem ChsIs.nil (w : World) (base : Nat) (t : TypeId) : ChsIs w base t (.slice none 0 0) [] := ⟨[], World.ownsRow_nil w base t 2, fun i h => absurd h (by simp)⟩
theorem ownsRow_at {w w' : World} {base : Nat} {e : TypeId} {size : Nat} {v : Value} {n : Nat} {xs : List Value} (h : w.ownsRow base e size v n xs) (hb : ∀ k, v.ownBlock = some k → w'.heap[k]? = w.heap[k]?) : w'.ownsRow base e size v n xs := by
  refine ⟨h.1, ?_⟩
  rcases h.2 with hn | ⟨g, cap, cur, rfl, hB, hgg, rest⟩
  · exact .inl hn
  · exact .inr ⟨g, cap, cur, rfl, hB, (hb g rfl).trans hgg, rest⟩
theorem ChsIs.at {w w' : World} {base : Nat} {t : TypeId} {v : Value} {fs : List Ch} (h : ChsIs w base t v fs) (hb : ∀ k, base ≤ k → k < w.heap.size → w'.heap[k]? = w.heap[k]?) : ChsIs w' base t v fs := by
  obtain ⟨cells, h1, h2⟩ := h
  refine ⟨cells, ownsRow_at h1 fun k hk => hb k (World.ownsRow.lt h1 k hk).1 (World.ownsRow.lt h1 k hk).2, fun i hi => ?_⟩
  obtain ⟨ao, cap, e0, e1, ho⟩ := h2 i hi
  exact ⟨ao, cap, e0, e1, ho.at fun k hk => hb k (ho.lt k hk).1 (ho.lt k hk).2⟩
theorem ChsIs.keep {w w' : World} {base : Nat} {t : TypeId} {v : Value} {fs : List Ch} (h : ChsIs w base t v fs) (hb : Below w.heap.size w w') : ChsIs w' base t v fs := h.at fun k _ hk => hb.block k hk
theorem ChsIs.alloc {w : World} {base : Nat} {t : TypeId} {v : Value} {fs : List Ch} (h : ChsIs w base t v fs) (o : Obj) : ChsIs (w.alloc o) base t v fs := h.at fun k _ hk => blk_alloc_lt _ _ _ hk
theorem ChsIs.mono {w : World} {base B : Nat} {t : TypeId} {v : Value} {fs : List Ch} (h : ChsIs w base t v fs) (hB : B ≤ base) : ChsIs w B t v fs := by
  obtain ⟨cells, h1, h2⟩ := h
  refine ⟨cells, ⟨h1.1, ?_⟩, fun i hi => ?_⟩
  · rcases h1.2 with hn | ⟨g, cap, cur, rfl, hB2, rest⟩
    · exact .inl hn
    · exact .inr ⟨g, cap, cur, rfl, Nat.le_trans hB hB2, rest⟩
  · obtain ⟨ao, cap, e0, e1, ho⟩ := h2 i hi
    exact ⟨ao, cap, e0, e1, ho.mono hB⟩
theorem own_other {w : World} {B base : Nat} {v u : Value} {bs : List UInt8} {t : TypeId} {n : Nat} {xs : List Value} (h : Own w B v bs) (hb : w.ownsRow base t 2 u n xs) (ht : t ≠ 5) : ∀ k, v.ownBlock = some k → some k ≠ u.ownBlock := by
  intro k hk e
  rcases h.2 with ⟨rfl, _⟩ | ⟨g, cap, cur, rfl, hB, hgg, rest⟩
  · cases hk
  · cases hk
    rcases hb.2 with ⟨rfl, _⟩ | ⟨g', cap', cur', rfl, hB', hgg', rest'⟩
    · cases e
    · simp only [Value.ownBlock, Option.some.injEq] at e
      subst e
      rw [hgg] at hgg'
      cases hgg'
      exact ht rfl
theorem info_ch : (Try.prog.info? 51).map (fun i => (i.zero, i.size, i.bytes)) = some (some (.agg #[.string ByteArray.empty, .slice none 0 0]), 2, 40) := by kernel_rfl
theorem info_rc : (Try.prog.info? 44).map (fun i => (i.zero, i.size, i.bytes)) = some (some (.agg #[.string ByteArray.empty, .slice none 0 0]), 2, 40) := by kernel_rfl
def twoOf (f : Ch) (ao : Option Addr) (cap : Nat) : List Value := [.string f.1, .slice ao f.2.length cap]
/-- 'l = append(l, c)'. -/
theorem wpList_append_ch {P : Program} {w : World} {ops : Array Oper} {rest : List Oper} {o : Oper} {a : Act} {Q : Exit → Act → World → Prop} (ts te : TypeId) (hu : P.underlying ts = some (.slice te)) (hte : te ≠ 5)
    (hinfo : (P.info? te).map (fun i => (i.zero, i.size, i.bytes)) = some (some (.agg #[.string ByteArray.empty, .slice none 0 0]), 2, 40))
    (hgd : o.guard = none) (s x : Operand) (ho : o.op = .call { callee := .builtin .append, args := #[s, x], argTypes := #[ts, ts] })
    (base : Nat) (v : Value) (fs : List Ch) (hs : a.eval s = v) (hown : ChsIs w base te v fs) (f : Ch) (ao : Option Addr) (cap : Nat) (hd : Own w base (.slice ao f.2.length cap) f.2)
    (ad : Nat) (hx : a.eval x = .slice (some ⟨ad, 0, none⟩) 1 1) (hnews : Blk w ad te (twoOf f ao cap)) (hbd : fs.length < 1000000001) (hbase : base ≤ w.heap.size)
    (h : ∀ v' w', ChsIs w' base te v' (fs ++ [f]) → w.grownBy w' v.ownBlock → (∀ k, v.ownBlock = some k → base ≤ k) → wpList P ops Q rest (a.put o.dst v') w') : wpList P ops Q (o :: rest) a w := by
  obtain ⟨i, hi, hz, hsize, hby⟩ := info_parts hinfo
  obtain ⟨cells, h1, h2⟩ := hown
  refine wpList_append_own w hgd s x ts ho base te i _ 2 40 hu hi hz hsize hby rfl (by decide) v fs.length cells hs h1 ⟨ad, 0, none⟩ 1 1 (twoOf f ao cap) hx (by simp [twoOf]) ?_ ?_ (by unfold maxLen; omega) (by omega) hbase ?_
  · intro j u hj
    have e : (Addr.add ⟨ad, 0, none⟩ j) = ⟨ad, j, none⟩ := by unfold Addr.add; split <;> simp_all
    rw [e]
    exact hnews.cell hj
  · intro u hu
    simp [twoOf] at hu
    rcases hu with rfl | rfl <;> rfl
  · intro v' w' hown' hg _
    have hlen := h1.1
    refine h v' w' ⟨cells ++ twoOf f ao cap, by rw [List.length_append]; exact hown', fun j hj => ?_⟩ hg (fun k hk => (World.ownsRow.lt h1 k hk).1)
    rw [List.length_append, List.length_singleton] at hj
    by_cases hjl : j < fs.length
    · obtain ⟨ao', cap', e0, e1, ho'⟩ := h2 j hjl
      have hg' : (fs ++ [f])[j]'(by rw [List.length_append, List.length_singleton]; exact hj) = fs[j] := List.getElem_append_left hjl
      rw [hg']
      refine ⟨ao', cap', ?_, ?_, ho'.at fun k hk => hg.block k (ho'.lt k hk).2 (own_other ho' h1 hte k hk)⟩
      all_goals
        rw [List.getElem?_append_left (by omega)]
        assumption
    · obtain rfl : j = fs.length := by omega
      have hg' : (fs ++ [f])[fs.length]'(by rw [List.length_append, List.length_singleton]; exact hj) = f := by simp
      rw [hg']
      refine ⟨ao, cap, ?_, ?_, hd.at fun k hk => hg.block k (hd.lt k hk).2 (own_other hd h1 hte k hk)⟩
      all_goals
        rw [List.getElem?_append_right (by omega), hlen]
        simp [twoOf]

/-- The kind that ends a file. -/
def iend : ByteArray := ⟨#[73, 69, 78, 68]⟩
/-- What is behind a chunk's place: the first error, or how the rest goes on. -/
inductive Look | bad (c : Nat) | one (ch : Ch) (n : Nat)
def lookV (bs : List UInt8) : Look :=
  if bs.length < 12 then .bad 2 else if 2147483647 < numV bs ∨ nameB (kindV bs) = false then .bad 4 else if bs.length - 12 < numV bs then .bad 2
  else if sumV bs = crcV (kindV bs) (dataV bs) then .one (kindV bs, dataV bs) (12 + numV bs) else .bad 5
theorem look_one {bs : List UInt8} {ch : Ch} {n : Nat} (h : lookV bs = .one ch n) : 12 ≤ n ∧ n ≤ bs.length ∧ ch.2.length + 12 = n := by
  unfold lookV at h
  split at h
  · cases h
  · split at h
    · cases h
    · split at h
      · cases h
      · split at h
        · cases h
          refine ⟨by omega, by omega, ?_⟩
          unfold dataV
          rw [List.length_take, List.length_drop]
          omega
        · cases h
def cutR : Nat → List UInt8 → List Ch × Nat
  | 0, _ => ([], 2)
  | f + 1, bs => match lookV bs with
    | .bad c => ([], c)
    | .one ch n => if ch.1.toList = iend.toList then (if 0 < (bs.drop n).length then ([], 4) else ([ch], 0))
      else if (cutR f (bs.drop n)).2 = 0 then (ch :: (cutR f (bs.drop n)).1, 0) else ([], (cutR f (bs.drop n)).2)
theorem cutR_fuel : ∀ (n m : Nat) (bs : List UInt8), bs.length < n → bs.length < m → cutR n bs = cutR m bs := by
  intro n
  induction n with
  | zero => intro m bs h; omega
  | succ n ih =>
    intro m bs h1 h2
    obtain ⟨m', rfl⟩ : ∃ m', m = m' + 1 := ⟨m - 1, by omega⟩
    unfold cutR
    cases hl : lookV bs with
    | bad c => rfl
    | one ch k =>
      obtain ⟨hk, hk2, _⟩ := look_one hl
      have e := ih m' (bs.drop k) (by rw [List.length_drop]; omega) (by rw [List.length_drop]; omega)
      simp only [e]
def cutB (bs : List UInt8) : List Ch × Nat := cutR (bs.length + 1) bs
theorem cutB_bad {bs : List UInt8} {c : Nat} (h : lookV bs = .bad c) : cutB bs = ([], c) := by unfold cutB cutR; rw [h]
theorem cutB_end {bs : List UInt8} {ch : Ch} {n : Nat} (h : lookV bs = .one ch n) (hk : ch.1.toList = iend.toList) : cutB bs = if 0 < (bs.drop n).length then ([], 4) else ([ch], 0) := by unfold cutB cutR; rw [h]; simp only [hk, if_true]
theorem cutB_on {bs : List UInt8} {ch : Ch} {n : Nat} (h : lookV bs = .one ch n) (hk : ch.1.toList ≠ iend.toList) : cutB bs = if (cutB (bs.drop n)).2 = 0 then (ch :: (cutB (bs.drop n)).1, 0) else ([], (cutB (bs.drop n)).2) := by
  obtain ⟨h1, h2, _⟩ := look_one h
  have e := cutR_fuel bs.length ((bs.drop n).length + 1) (bs.drop n) (by rw [List.length_drop]; omega) (by omega)
  unfold cutB
  rw [cutR, h]
  simp only [if_neg hk, e]
def comb (done : List Ch) (r : List Ch × Nat) : List Ch × Nat := if r.2 = 0 then (done ++ r.1, 0) else ([], r.2)
theorem comb_nil (r : List Ch × Nat) (h : r.2 ≠ 0 → r.1 = []) : comb [] r = r := by
  unfold comb
  by_cases h0 : r.2 = 0
  · rw [if_pos h0, List.nil_append]
    obtain ⟨x, y⟩ := r
    cases h0
    rfl
  · rw [if_neg h0]
    obtain ⟨x, y⟩ := r
    have := h h0
    cases this
    rfl
theorem cutR_err : ∀ (n : Nat) (bs : List UInt8), (cutR n bs).2 ≠ 0 → (cutR n bs).1 = [] := by
  intro n
  induction n with
  | zero => intro bs _; rfl
  | succ n ih =>
    intro bs h
    unfold cutR at h ⊢
    cases hl : lookV bs with
    | bad c => rfl
    | one ch k =>
      rw [hl] at h
      simp only at h ⊢
      split
      · split
        · rfl
        · rename_i h1 h2
          rw [if_pos h1, if_neg h2] at h
          exact absurd rfl h
      · split
        · rename_i h1 h2
          rw [if_neg h1, if_pos h2] at h
          exact absurd rfl h
        · rfl
theorem comb_on {done : List Ch} {bs : List UInt8} {ch : Ch} {n : Nat} (h : lookV bs = .one ch n) (hk : ch.1.toList ≠ iend.toList) : comb done (cutB bs) = comb (done ++ [ch]) (cutB (bs.drop n)) := by
  rw [cutB_on h hk]
  unfold comb
  by_cases h0 : (cutB (bs.drop n)).2 = 0
  · simp [h0]
  · simp [h0]
def cutV (bs : List UInt8) : List Ch × Nat := if 262144 < bs.length then ([], 3) else if bs.length < 8 then ([], 2) else if bs.take 8 = sigL then cutB (bs.drop 8) else ([], 4)
end Go.Proofs.Ytfjcelnamjgieaa.Ck
