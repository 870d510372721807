/- Appends onto bytes that were made by converting a string (their row bears the model's mark). Condition: bytes lie at the slice that is appended. -/
import Derived.Test.YtfjcelnamjgieaaCkQ
import Derived.Lib.FrozenHead
namespace Go.Proofs.Ytfjcelnamjgieaa.Ck
open Go.RowKit Ba Go.Deep
set_option linter.unusedVariables false

/-- The call's own bytes, in a row no cell of which behind them is frozen. -/
def OwnM (w : World) (base : Nat) (v : Value) (bs : List UInt8) : Prop :=
  ∃ g cap cur fz, v = .slice (some ⟨g, 0, none⟩) bs.length cap ∧ base ≤ g ∧ w.heap[g]? = some (.cells cur 5 fz) ∧ (cur.size ≤ fz.1 ∨ fz.2 ≤ bs.length) ∧ bs.length ≤ cap ∧ cap ≤ maxLen ∧ cur.size = cap ∧ cur.toList.take bs.length = bs.map cellOf
theorem OwnM.lt {w : World} {base : Nat} {v : Value} {bs : List UInt8} (h : OwnM w base v bs) : ∀ k, v.ownBlock = some k → base ≤ k ∧ k < w.heap.size := by
  obtain ⟨g, cap, cur, fz, rfl, hb, hg, _⟩ := h
  intro k hk
  cases hk
  exact ⟨hb, (Array.getElem?_eq_some_iff.1 hg).1⟩
theorem OwnM.at {w w' : World} {B : Nat} {v : Value} {bs : List UInt8} (h : OwnM w B v bs) (hb : ∀ k, v.ownBlock = some k → w'.heap[k]? = w.heap[k]?) : OwnM w' B v bs := by
  obtain ⟨g, cap, cur, fz, rfl, hB, hg, rest⟩ := h
  exact ⟨g, cap, cur, fz, rfl, hB, (hb g rfl).trans hg, rest⟩
theorem OwnM.keep {w w' : World} {B : Nat} {v : Value} {bs : List UInt8} (h : OwnM w B v bs) (hb : Below w.heap.size w w') : OwnM w' B v bs := h.at fun k hk => hb.block k (h.lt k hk).2
theorem OwnM.view {w : World} {B : Nat} {v : Value} {bs : List UInt8} (h : OwnM w B v bs) : ∃ g cap, v = .slice (some ⟨g, 0, none⟩) bs.length cap ∧ Bytes w (some ⟨g, 0, none⟩) bs ∧ bs.length ≤ cap ∧ cap ≤ maxLen := by
  obtain ⟨g, cap, cur, fz, rfl, hB, hg, hf, hn, hm, hs, ht⟩ := h
  refine ⟨g, cap, rfl, fun i hi => ⟨g, 0, rfl, ?_⟩, hn, hm⟩
  rw [Nat.zero_add, cell_of_row w g i cur _ fz hg]
  have h1 : (bs.map cellOf)[i]? = some (cellOf bs[i]) := by rw [List.getElem?_map, List.getElem?_eq_getElem hi]; rfl
  rw [← ht, List.getElem?_take_of_lt hi] at h1
  rw [← Array.getElem?_toList]
  exact h1
theorem ownM_bytesW (w : World) (s : ByteArray) (hs : s.size ≤ 140737488355328) : OwnM (bytesW w 5 s) w.heap.size (.slice (some ⟨w.heap.size, 0, none⟩) s.size (capOf w 5 s)) s.data.toList := by
  have hl : s.data.toList.length = s.size := by simp
  have hge : s.size ≤ capOf w 5 s := grownCap_ge w s.size 0 5
  have hle : capOf w 5 s ≤ maxLen := grownCap_le_maxLen w s.size 0 5 (by unfold maxLen; omega)
  have hrs : (bytesRow s (grownCap w s.size 0 5)).size = capOf w 5 s := by
    unfold bytesRow capOf at *
    simp
    omega
  refine ⟨w.heap.size, capOf w 5 s, bytesRow s (grownCap w s.size 0 5), _, by rw [hl], Nat.le_refl _, by unfold bytesW; exact heap_alloc_new w.drew _, .inl (Nat.le_refl _), by rw [hl]; exact hge, hle, hrs, ?_⟩
  unfold bytesRow
  rw [Array.toList_append]
  have h2 : (Array.map (fun b : UInt8 => Value.int .u8 ((b.toNat : Nat) : Int)) s.data).toList = s.data.toList.map cellOf := by
    rw [Array.toList_map]
    rfl
  rw [List.take_append_of_le_length (by rw [hl]; simp)]
  rw [h2]
  exact List.take_of_length_le (by simp)
theorem run_storeCells_atM (P : Program) (g o : Nat) (t : TypeId) (fz : Nat × Nat) : ∀ (vs : List Value) (i : Nat) (cur : Array Value) (w : World), w.heap[g]? = some (.cells cur t fz) → (cur.size ≤ fz.1 ∨ fz.2 ≤ o + i) → o + i + vs.length ≤ cur.size → (∀ v ∈ vs, v.oneCell' = true) →
    (storeCells ⟨g, o, none⟩ vs i).run P w = .ok () (w.setRow g (cur.toList.take (o + i) ++ vs ++ cur.toList.drop (o + i + vs.length)).toArray)
  | [], i, cur, w, hg, _, _, _ => by
    simp only [storeCells, List.append_nil, List.length_nil, Nat.add_zero, List.take_append_drop, Array.toArray_toList]
    rw [setRow_self w g cur t fz hg]
    rfl
  | v :: rest, i, cur, w, hg, hfz, hl, h1 => by
    have hi : o + i < cur.size := by simp at hl; omega
    have hadd : (⟨g, o, none⟩ : Addr).add i = ⟨g, o + i, none⟩ := by unfold Addr.add; split <;> simp_all
    have hcell : w.cell? ⟨g, o + i, none⟩ = some cur[o + i] := by simp [World.cell?, hg, hi]
    have hfro : w.frozen? ⟨g, o + i, none⟩ = false := by
      obtain ⟨lo, hi'⟩ := fz
      simp only [World.frozen?, hg, Bool.and_eq_false_iff, decide_eq_false_iff_not]
      simp only at hfz
      omega
    have hst : (store ((⟨g, o, none⟩ : Addr).add i) v).run P w = .ok () (w.setRow g (cur.setIfInBounds (o + i) v)) := by
      rw [hadd, run_store P w _ v _ (h1 v (by simp)), hcell]
      simp [hfro, setCell_eq_setRow w g (o + i) cur t fz v hg]
    have ih := run_storeCells_atM P g o t fz rest (i + 1) (cur.setIfInBounds (o + i) v) (w.setRow g (cur.setIfInBounds (o + i) v)) (setRow_heap w g cur _ t _ hg) (by simp; omega) (by simp at hl ⊢; omega) (fun x hx => h1 x (by simp [hx]))
    simp only [storeCells, Sem.run_bind, hst, Result.andThen_ok, ih, setRow_setRow]
    congr 3
    have e := list_seg_step cur.toList (o + i) v rest (by simp at hl ⊢; omega)
    simpa [Array.toList_setIfInBounds, Nat.add_assoc] using e
theorem ownM_room {w : World} {base g cap : Nat} {bs news : List UInt8} {cur : Array Value} {fz : Nat × Nat} (hb : base ≤ g) (hg : w.heap[g]? = some (.cells cur 5 fz)) (hf : cur.size ≤ fz.1 ∨ fz.2 ≤ bs.length) (hm : cap ≤ maxLen) (hs : cur.size = cap) (ht : cur.toList.take bs.length = bs.map cellOf) (hroom : bs.length + news.length ≤ cap) :
    OwnM (w.setRow g (cur.toList.take bs.length ++ news.map cellOf ++ cur.toList.drop (bs.length + news.length)).toArray) base (.slice (some ⟨g, 0, none⟩) (bs.length + news.length) cap) (bs ++ news) := by
  have hsz : (cur.toList.take bs.length ++ news.map cellOf ++ cur.toList.drop (bs.length + news.length)).toArray.size = cap := by
    simp only [List.size_toArray, List.length_append, List.length_take, List.length_drop, Array.length_toList, List.length_map]
    omega
  refine ⟨g, cap, _, fz, by rw [List.length_append], hb, setRow_heap w g cur _ _ _ hg, ?_, by rw [List.length_append]; exact hroom, hm, hsz, ?_⟩
  · rw [hsz, List.length_append]
    omega
  · rw [ht, ← List.map_append]
    exact List.take_left' (by rw [List.length_map])
theorem ownM_new {w : World} {base g cap : Nat} (bs : List UInt8) (cs : Array Value) (hb : base ≤ g) (hg : w.heap[g]? = some (.cells cs 5 (0, 0))) (hc : bs.length ≤ cap) (hm : cap ≤ maxLen) (hs : cs.size = cap) (ht : cs.toList.take bs.length = bs.map cellOf) : OwnM w base (.slice (some ⟨g, 0, none⟩) bs.length cap) bs :=
  ⟨g, cap, cs, (0, 0), rfl, hb, hg, .inr (Nat.zero_le _), hc, hm, hs, ht⟩
theorem oneCells (l : List UInt8) : ∀ u ∈ l.map cellOf, u.oneCell' = true := by
  intro u hu
  obtain ⟨q, _, rfl⟩ := List.mem_map.1 hu
  rfl
/-- 'append(v, x...)', x bytes. -/
theorem run_append_M {w : World} (ty : TypeId) {base : Nat} {v : Value} {xs : List UInt8} (hown : OwnM w base v xs) (ao : Addr) (m c : Nat) (news : List UInt8) (hm : m = news.length) (hnews : Bytes w (some ao) news)
    (hbd : xs.length + m ≤ 140737488355328) (hbase : base ≤ w.heap.size) :
    ∃ v' w', (Builtin.append_ #[22, 22] ty #[v, .slice (some ao) m c]).run Try.prog w = .ok v' w' ∧ OwnM w' base v' (xs ++ news) ∧ w.grownBy w' v.ownBlock := by
  obtain ⟨i, hi, hz, hsize, hby⟩ := info_parts info_u8
  have hv := hown.view
  obtain ⟨g, cap, cur, fz, rfl, hb, hg, hf, hn, hcm, hs, ht⟩ := hown
  subst hm
  have hcells : ∀ j u, (news.map cellOf)[j]? = some u → w.cell? (ao.add j) = some u := by
    intro j u hj
    rw [List.getElem?_map] at hj
    obtain ⟨q, hq, rfl⟩ := Option.map_eq_some_iff.1 hj
    obtain ⟨hlt, rfl⟩ := List.getElem?_eq_some_iff.1 hq
    obtain ⟨b, off, e, hcell⟩ := hnews j hlt
    simp only [Option.some.injEq] at e
    subst e
    have ea : (Addr.add ⟨b, off, none⟩ j) = ⟨b, off + j, none⟩ := by unfold Addr.add; split <;> simp_all
    rw [ea, hcell]
    rfl
  by_cases hroom : xs.length + news.length ≤ cap
  · have hfc := run_firstCells_some (P := Try.prog) w 1 news.length ao news.length c (news.map cellOf) (by simp) hcells
    have hst := run_storeCells_atM Try.prog g xs.length 5 fz (news.map cellOf) 0 cur w hg (by simpa using hf) (by rw [List.length_map]; omega) (oneCells news)
    simp only [Nat.add_zero, List.length_map] at hst
    refine ⟨_, _, ?_, ownM_room hb hg hf hcm hs ht hroom, ⟨rfl, rfl, rfl, by simp, fun k _ hk => setRow_other w g k _ (fun e => hk (by simp [Value.ownBlock, e]))⟩⟩
    simp [Builtin.append_, run_underlying Try.underlying22, sizeOf, typeInfo, hi, hsize, Builtin.lenOf, hroom, hfc, Addr.add_lit, hst]
  · have holds : ∀ j u, (xs.map cellOf)[j]? = some u → w.cell? ((⟨g, 0, none⟩ : Addr).add j) = some u := by
      intro j u hj
      rw [List.getElem?_map] at hj
      obtain ⟨q, hq, rfl⟩ := Option.map_eq_some_iff.1 hj
      obtain ⟨hlt, rfl⟩ := List.getElem?_eq_some_iff.1 hq
      obtain ⟨g', cap', e, hy, _⟩ := hv
      cases e
      obtain ⟨b, off, e, hcell⟩ := hy j hlt
      cases e
      have ea : (Addr.add ⟨g, 0, none⟩ j) = ⟨g, j, none⟩ := by unfold Addr.add; split <;> simp_all
      rw [Nat.zero_add] at hcell
      rw [ea, hcell]
      rfl
    have hr := run_append_grow (P := Try.prog) w 22 ty 5 i (.int .u8 0) Try.underlying22 hi hz ⟨g, 0, none⟩ xs.length cap (xs.map cellOf) (by rw [hsize]; simp) holds ao news.length c (news.map cellOf) (by rw [hsize]; simp) hcells (by omega) (by omega) (by rw [hby]; exact growslice_fits (by omega) (by omega))
    have hge := grownCap_ge w (xs.length + news.length) cap 5
    have hcm2 : grownCap w (xs.length + news.length) cap 5 ≤ maxLen := grownCap_le_maxLen w (xs.length + news.length) cap 5 (by unfold maxLen; omega)
    refine ⟨_, _, hr, ?_, ⟨rfl, rfl, rfl, by simp, fun k hk _ => blk_alloc_lt w.drew _ _ hk⟩⟩
    have h1 := ownM_new (w := w.drew.alloc (.cells ((xs.map cellOf).toArray ++ (news.map cellOf).toArray ++ Builtin.zeroCells (Value.int .u8 0).cells (grownCap w (xs.length + news.length) cap 5 - (xs.length + news.length))) 5)) (base := base) (xs ++ news) _ hbase (heap_alloc_new w.drew _) (by rw [List.length_append]; exact hge) hcm2 (by
        have hz1 : (Value.int IntKind.u8 0).cells.size = 1 := rfl
        simp only [Array.size_append, List.size_toArray, size_zeroCells, hz1, List.length_map]
        omega) (by
        simp only [Array.toList_append, ← List.map_append]
        exact List.take_left' (by rw [List.length_map]))
    rw [List.length_append] at h1
    exact h1
/-- 'append(v, s...)', s a string. -/
theorem run_append_MS {w : World} (ty : TypeId) {base : Nat} {v : Value} {xs : List UInt8} (hown : OwnM w base v xs) (s : ByteArray)
    (hbd : xs.length + s.size ≤ 140737488355328) (hbase : base ≤ w.heap.size) :
    ∃ v' w', (Builtin.append_ #[22, 9] ty #[v, .string s]).run Try.prog w = .ok v' w' ∧ OwnM w' base v' (xs ++ s.data.toList) ∧ w.grownBy w' v.ownBlock := by
  obtain ⟨i, hi, hz, hsize, hby⟩ := info_parts info_u8
  have hv := hown.view
  obtain ⟨g, cap, cur, fz, rfl, hb, hg, hf, hn, hcm, hs, ht⟩ := hown
  have hl : s.data.toList.length = s.size := by simp
  have hsc : Go.Lib.strCells s = s.data.toList.map cellOf := rfl
  by_cases hroom : xs.length + s.size ≤ cap
  · have hfc := Go.Lib.run_firstCells_string (P := Try.prog) w 1 s
    have hst := run_storeCells_atM Try.prog g xs.length 5 fz (s.data.toList.map cellOf) 0 cur w hg (by simpa using hf) (by rw [List.length_map, hl]; omega) (oneCells s.data.toList)
    simp only [Nat.add_zero, List.length_map, hl] at hst
    have h1 := ownM_room (news := s.data.toList) hb hg hf hcm hs ht (by rw [hl]; exact hroom)
    rw [hl] at h1
    refine ⟨_, _, ?_, h1, ⟨rfl, rfl, rfl, by simp, fun k _ hk => setRow_other w g k _ (fun e => hk (by simp [Value.ownBlock, e]))⟩⟩
    rw [hsc] at hfc
    simp [Builtin.append_, run_underlying Try.underlying22, run_underlying Try.underlying9, sizeOf, typeInfo, hi, hsize, Builtin.lenOf, hroom, hfc, Addr.add_lit, hst]
  · have holds : ∀ j u, (xs.map cellOf)[j]? = some u → w.cell? ((⟨g, 0, none⟩ : Addr).add j) = some u := by
      intro j u hj
      rw [List.getElem?_map] at hj
      obtain ⟨q, hq, rfl⟩ := Option.map_eq_some_iff.1 hj
      obtain ⟨hlt, rfl⟩ := List.getElem?_eq_some_iff.1 hq
      obtain ⟨g', cap', e, hy, _⟩ := hv
      cases e
      obtain ⟨b, off, e, hcell⟩ := hy j hlt
      cases e
      have ea : (Addr.add ⟨g, 0, none⟩ j) = ⟨g, j, none⟩ := by unfold Addr.add; split <;> simp_all
      rw [Nat.zero_add] at hcell
      rw [ea, hcell]
      rfl
    have hr := Go.Lib.run_append_grow_string (P := Try.prog) w 22 9 ty 5 i (.int .u8 0) Try.underlying22 Try.underlying9 hi hz ⟨g, 0, none⟩ xs.length cap (xs.map cellOf) (by rw [hsize]; simp) holds s (by omega) (by omega) (by rw [hby]; exact growslice_fits (by omega) (by omega))
    have hge := grownCap_ge w (xs.length + s.size) cap 5
    have hcm2 : grownCap w (xs.length + s.size) cap 5 ≤ maxLen := grownCap_le_maxLen w (xs.length + s.size) cap 5 (by unfold maxLen; omega)
    refine ⟨_, _, hr, ?_, ⟨rfl, rfl, rfl, by simp, fun k hk _ => blk_alloc_lt w.drew _ _ hk⟩⟩
    have h1 := ownM_new (w := w.drew.alloc (.cells ((xs.map cellOf).toArray ++ (Go.Lib.strCells s).toArray ++ Builtin.zeroCells (Value.int .u8 0).cells (grownCap w (xs.length + s.size) cap 5 - (xs.length + s.size))) 5)) (base := base) (cap := grownCap w (xs.length + s.size) cap 5) (xs ++ s.data.toList) _ hbase (heap_alloc_new w.drew _) (by rw [List.length_append, hl]; exact hge) hcm2 (by
        have hz1 : (Value.int IntKind.u8 0).cells.size = 1 := rfl
        simp only [Array.size_append, List.size_toArray, size_zeroCells, hz1, List.length_map, hsc, hl]
        omega) (by
        simp only [Array.toList_append, hsc, ← List.map_append]
        exact List.take_left' (by rw [List.length_map]))
    rw [List.length_append, hl] at h1
    exact h1
theorem wpList_append_M {w : World} {ops : Array Oper} {rest : List Oper} {o : Oper} {a : Act} {Q : Exit → Act → World → Prop} (hgd : o.guard = none) (s x : Operand)
    (ho : o.op = .call { callee := .builtin .append, args := #[s, x], argTypes := #[22, 22] })
    (base : Nat) (v : Value) (xs : List UInt8) (hs : a.eval s = v) (hown : OwnM w base v xs)
    (ao : Addr) (m c : Nat) (news : List UInt8) (hx : a.eval x = .slice (some ao) m c) (hm : m = news.length) (hnews : Bytes w (some ao) news)
    (hbd : xs.length + m ≤ 140737488355328) (hbase : base ≤ w.heap.size)
    (h : ∀ v' w', OwnM w' base v' (xs ++ news) → w.grownBy w' v.ownBlock → wpList Try.prog ops Q rest (a.put o.dst v') w') : wpList Try.prog ops Q (o :: rest) a w := by
  refine wpList_plain hgd fun K hK => ?_
  obtain ⟨v', w', hr, h2, h3⟩ := run_append_M o.type hown ao m c news hm hnews hbd hbase
  unfold Oper.wp execOp
  simp only [ho, resolve, invoke, builtin, Sem.run_bind, Sem.run_pure, Result.andThen_ok, List.map_toArray, List.map_cons, List.map_nil, hs, hx, hr]
  exact hK _ _ (h v' w' h2 h3)
theorem step_append_M {w : World} {ops : Array Oper} {o : Oper} {a : Act} {K : Act → World → Prop} {Q : Exit → Act → World → Prop} {E : Prop} (hgd : o.guard = none) (s x : Operand)
    (ho : o.op = .call { callee := .builtin .append, args := #[s, x], argTypes := #[22, 22] })
    (base : Nat) (v : Value) (xs : List UInt8) (hs : a.eval s = v) (hown : OwnM w base v xs)
    (ao : Option Addr) (m c : Nat) (news : List UInt8) (hx : a.eval x = .slice ao m c) (hm : m = news.length) (hnews : Bytes w ao news) (hnil : ao = none → c = 0)
    (hbd : xs.length + m ≤ 140737488355328) (hbase : base ≤ w.heap.size)
    (h : ∀ v' w', OwnM w' base v' (xs ++ news) → w.grownBy w' v.ownBlock → K (a.put o.dst v') w') :
    if Region.wanted o (yielded ops a.tmps) = true then Oper.wp Try.prog o a w K Q else E := by
  have hw : Region.wanted o (yielded ops a.tmps) = true := by simp [Region.wanted, hgd]
  rw [if_pos hw]
  cases ao with
  | none =>
    have hm0 : m = 0 := by
      cases news with
      | nil => exact hm
      | cons u l => obtain ⟨b, off, e, _⟩ := hnews 0 (by simp); cases e
    subst hm0
    have hc := hnil rfl
    subst hc
    have hn : news = [] := List.length_eq_zero_iff.1 hm.symm
    subst hn
    obtain ⟨i, hi, hz, hsize, hby⟩ := info_parts info_u8
    have hown' := hown
    obtain ⟨g, cap, cur, fz, rfl, hb, hg, hf, hcn, hcm, hcs, ht⟩ := hown
    have hf0 := run_firstCells_none (P := Try.prog) w 1 0 0 0
    have hrun : (Builtin.append_ #[22, 22] o.type #[.slice (some ⟨g, 0, none⟩) xs.length cap, .slice none 0 0]).run Try.prog w = .ok (.slice (some ⟨g, 0, none⟩) xs.length cap) w := by
      simp [Builtin.append_, run_underlying Try.underlying22, sizeOf, typeInfo, hi, hsize, Builtin.lenOf, hcn, hf0, storeCells]
    unfold Oper.wp
    simp [execOp, ho, resolve, invoke, builtin, hs, hx, hrun, Result.andThen]
    exact h _ w (by rw [List.append_nil]; exact hown') ⟨rfl, rfl, rfl, Nat.le_refl _, fun _ _ _ => rfl⟩
  | some ad =>
    obtain ⟨v', w', hr, h2, h3⟩ := run_append_M o.type hown ad m c news hm hnews hbd hbase
    unfold Oper.wp execOp
    simp only [ho, resolve, invoke, builtin, Sem.run_bind, Sem.run_pure, Result.andThen_ok, List.map_toArray, List.map_cons, List.map_nil, hs, hx, hr]
    exact h v' w' h2 h3
theorem step_append_MS {w : World} {ops : Array Oper} {o : Oper} {a : Act} {K : Act → World → Prop} {Q : Exit → Act → World → Prop} {E : Prop} (hgd : o.guard = none) (s x : Operand)
    (ho : o.op = .call { callee := .builtin .append, args := #[s, x], argTypes := #[22, 9] })
    (base : Nat) (v : Value) (xs : List UInt8) (hs : a.eval s = v) (hown : OwnM w base v xs) (str : ByteArray) (hx : a.eval x = .string str)
    (hbd : xs.length + str.size ≤ 140737488355328) (hbase : base ≤ w.heap.size)
    (h : ∀ v' w', OwnM w' base v' (xs ++ str.data.toList) → w.grownBy w' v.ownBlock → K (a.put o.dst v') w') :
    if Region.wanted o (yielded ops a.tmps) = true then Oper.wp Try.prog o a w K Q else E := by
  have hw : Region.wanted o (yielded ops a.tmps) = true := by simp [Region.wanted, hgd]
  rw [if_pos hw]
  obtain ⟨v', w', hr, h2, h3⟩ := run_append_MS o.type hown str hbd hbase
  unfold Oper.wp execOp
  simp only [ho, resolve, invoke, builtin, Sem.run_bind, Sem.run_pure, Result.andThen_ok, List.map_toArray, List.map_cons, List.map_nil, hs, hx, hr]
  exact h v' w' h2 h3
end Go.Proofs.Ytfjcelnamjgieaa.Ck
