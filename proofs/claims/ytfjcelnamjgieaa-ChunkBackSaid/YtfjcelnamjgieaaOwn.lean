/- Slices of bytes that the call itself makes and appends to: what they hold, told as a list. -/
import Derived.Test.YtfjcelnamjgieaaBase
import Derived.Laws.AppendOwnNone
import Derived.OwnWalk
import Derived.WalkSmall
namespace Go.Proofs.Ytfjcelnamjgieaa.Ba
open Go.RowKit

theorem info_u8 : (Try.prog.info? 5).map (fun i => (i.zero, i.size, i.bytes)) = some (some (.int .u8 0), 1, 1) := by kernel_rfl
/-- The value v is a slice that the call made (its block is one from 'base' on), and holds the bytes bs. -/
def Own (w : World) (base : Nat) (v : Value) (bs : List UInt8) : Prop := w.ownsRow base 5 1 v bs.length (bs.map cellOf)

theorem Own.view {w : World} {base : Nat} {v : Value} {bs : List UInt8} (h : Own w base v bs) :
    ∃ ao cap, v = .slice ao bs.length cap ∧ Bytes w ao bs ∧ bs.length ≤ cap ∧ cap ≤ maxLen ∧ (ao = none → cap = 0) := by
  rcases h.2 with ⟨rfl, hn⟩ | ⟨g, cap, cur, rfl, hb, hg, hnc, hcm, hcs, htake⟩
  · have : bs = [] := List.length_eq_zero_iff.1 hn
    subst this
    exact ⟨none, 0, rfl, Bytes.nil _ _, by simp, by unfold maxLen; omega, fun _ => rfl⟩
  · refine ⟨_, cap, rfl, ?_, hnc, hcm, fun h => by cases h⟩
    intro i hi
    refine ⟨g, 0, rfl, ?_⟩
    have := World.ownsRow.cellAt h i (by omega)
    rw [Nat.zero_add, this, List.getElem?_map, List.getElem?_eq_getElem hi]
    rfl
theorem Own.nil (w : World) (base : Nat) : Own w base (.slice none 0 0) [] := World.ownsRow_nil w base _ 1
theorem Own.empty (w : World) (base : Nat) (hb : base ≤ w.heap.size) : Own (w.alloc (.cells #[] 5)) base (.slice (some ⟨w.heap.size, 0, none⟩) 0 0) [] :=
  World.ownsRow_made w #[] 0 hb (by unfold maxLen; omega) rfl
theorem Own.alloc {w : World} {base : Nat} {v : Value} {bs : List UInt8} (h : Own w base v bs) (o : Obj) : Own (w.alloc o) base v bs := World.ownsRow.alloc h o
theorem Own.block {w : World} {base : Nat} {v : Value} {bs : List UInt8} (h : Own w base v bs) : ∀ k, v.ownBlock = some k → base ≤ k := fun k hk => (World.ownsRow.lt h k hk).1
theorem Own.lit (w : World) (base : Nat) (bs : List UInt8) (C : Array Value) (hb : base ≤ w.heap.size) (hm : bs.length ≤ maxLen) (hC : C.toList = bs.map cellOf) :
    Own (w.alloc (.cells C 5)) base (.slice (some ⟨w.heap.size, 0, none⟩) bs.length bs.length) bs := by
  have hs : C.size = bs.length := by rw [← Array.length_toList, hC, List.length_map]
  refine ⟨by simp, .inr ⟨w.heap.size, bs.length, C, rfl, hb, heap_alloc_new w _, Nat.le_refl _, hm, by rw [hs, Nat.mul_one], ?_⟩⟩
  rw [Nat.mul_one, List.take_of_length_le (by rw [hC, List.length_map]; exact Nat.le_refl _), hC]

/-- What is owned, as a row of cells that can be written. -/
theorem Own.row {w : World} {base : Nat} {v : Value} {bs : List UInt8} (h : Own w base v bs) (hne : 0 < bs.length) :
    ∃ g cap f, v = .slice (some ⟨g, 0, none⟩) bs.length cap ∧ base ≤ g ∧ w.rowIs g 5 cap f ∧ bs.length ≤ cap ∧ cap ≤ maxLen ∧ ∀ i, (hi : i < bs.length) → f i = cellOf bs[i] := by
  have h' := h
  rcases h.2 with ⟨rfl, hn⟩ | ⟨g, cap, cur, rfl, hb, hg, hnc, hcm, hcs, htake⟩
  · omega
  · refine ⟨g, cap, fun i => cur.getD i (.bool false), rfl, hb, ⟨cur, hg, by rw [hcs, Nat.mul_one], fun i hi => ?_⟩, hnc, hcm, fun i hi => ?_⟩
    · rw [Nat.mul_one] at hcs
      have hi' : i < cur.size := by omega
      show _ = some (cur.getD i (.bool false))
      rw [Array.getD_eq_getD_getElem?, Array.getElem?_eq_getElem hi']
      rfl
    · rw [Nat.mul_one] at hcs htake
      have hi' : i < cur.size := by omega
      have h1 := World.ownsRow.cellAt h' i (by omega)
      rw [cell_of_row w g i cur _ (0, 0) hg, List.getElem?_map, List.getElem?_eq_getElem hi, Array.getElem?_eq_getElem hi'] at h1
      simp only [Option.map_some, Option.some.injEq] at h1
      show cur.getD i (.bool false) = _
      rw [Array.getD_eq_getD_getElem?, Array.getElem?_eq_getElem hi']
      exact h1
theorem Own.lit_cell {w : World} {base g n cap : Nat} {L : List UInt8} (h : Own w base (.slice (some ⟨g, 0, none⟩) n cap) L) (i : Nat) (hi : i < L.length) : w.cell? ⟨g, i, none⟩ = some (cellOf L[i]) := by
  have hn : n = L.length := by
    rcases h.2 with ⟨he, _⟩ | ⟨g', c', cur, he, _⟩
    · cases he
    · simp only [Value.slice.injEq] at he; exact he.2.1
  subst hn
  have h1 := World.ownsRow.cellAt h i (by omega)
  rw [h1, List.getElem?_map, List.getElem?_eq_getElem hi]
  rfl
theorem Own.len {w : World} {base n cap : Nat} {ao : Option Addr} {L : List UInt8} (h : Own w base (.slice ao n cap) L) : n = L.length := by
  rcases h.2 with ⟨he, hn⟩ | ⟨g', c', cur, he, _⟩
  · simp only [Value.slice.injEq] at he; omega
  · simp only [Value.slice.injEq] at he; exact he.2.1
theorem Own.frozen {w : World} {base g n cap : Nat} {L : List UInt8} (h : Own w base (.slice (some ⟨g, 0, none⟩) n cap) L) (i : Nat) : w.frozen? ⟨g, i, none⟩ = false := by
  have hn := h.len
  subst hn
  exact World.ownsRow.frozenAt h i
theorem Own.head {w : World} {base n cap : Nat} {ao : Option Addr} {L : List UInt8} (h : Own w base (.slice ao n cap) L) (hne : 0 < L.length) : ∃ g, ao = some ⟨g, 0, none⟩ ∧ base ≤ g ∧ g < w.heap.size := by
  rcases h.2 with ⟨he, hn⟩ | ⟨g', c', cur, he, hb, hg, _⟩
  · omega
  · simp only [Value.slice.injEq] at he
    exact ⟨g', he.1, hb, (Array.getElem?_eq_some_iff.1 hg).1⟩
theorem Own.set {w : World} {base g n cap : Nat} {L : List UInt8} (h : Own w base (.slice (some ⟨g, 0, none⟩) n cap) L) (i : Nat) (x : UInt8) : Own (w.setCell ⟨g, i, none⟩ (cellOf x)) base (.slice (some ⟨g, 0, none⟩) n cap) (L.set i x) := by
  have hn := h.len
  subst hn
  have h1 := (World.ownsRow.stored h i (cellOf x)).1
  unfold Own
  rw [List.length_set, List.map_set]
  exact h1
theorem Own.drew {w : World} {base : Nat} {v : Value} {bs : List UInt8} (h : Own w base v bs) : Own w.drew base v bs := h
theorem row_bytes {w : World} {g n : Nat} {t : TypeId} {f : Nat → Value} (h : w.rowIs g t n f) (bs : List UInt8) (hl : bs.length ≤ n) (hf : ∀ i, (hi : i < bs.length) → f i = cellOf bs[i]) : Bytes w (some ⟨g, 0, none⟩) bs := by
  intro i hi
  refine ⟨g, 0, rfl, ?_⟩
  rw [Nat.zero_add, h.cell (by omega), hf i hi]
  rfl
/-- 'v = append(v, x...)': v the call's own; x any slice of bytes, nil too. -/
theorem wpList_append_bytes {w : World} {ops : Array Oper} {rest : List Oper} {o : Oper} {a : Act} {Q : Exit → Act → World → Prop} (hgd : o.guard = none) (s x : Operand)
    (ho : o.op = .call { callee := .builtin .append, args := #[s, x], argTypes := #[22, 22] })
    (base : Nat) (v : Value) (xs : List UInt8) (hs : a.eval s = v) (hown : Own w base v xs)
    (ao : Option Addr) (m c : Nat) (news : List UInt8) (hx : a.eval x = .slice ao m c) (hm : m = news.length) (hnews : Bytes w ao news) (hnil : ao = none → c = 0)
    (hbd : xs.length + m ≤ 140737488355328) (hbase : base ≤ w.heap.size)
    (h : ∀ v' w', Own w' base v' (xs ++ news) → w.grownBy w' v.ownBlock → wpList Try.prog ops Q rest (a.put o.dst v') w') : wpList Try.prog ops Q (o :: rest) a w := by
  obtain ⟨i, hi, hz, hsize, hby⟩ := info_parts info_u8
  cases ao with
  | none =>
    have hm0 : m = 0 := by
      cases news with
      | nil => exact hm
      | cons u l =>
        obtain ⟨b, off, e, _⟩ := hnews 0 (by simp)
        cases e
    subst hm0
    have hc := hnil rfl
    subst hc
    have hn : news = [] := List.length_eq_zero_iff.1 hm.symm
    subst hn
    refine wpList_append_own_none hgd s x _ ho base 5 i 1 Try.underlying22 hi v xs.length (xs.map cellOf) hs hown hx ?_
    exact h v w (by rw [List.append_nil]; exact hown) ⟨rfl, rfl, rfl, Nat.le_refl _, fun _ _ _ => rfl⟩
  | some ad =>
    refine wpList_append_own w hgd s x _ ho base 5 i (.int .u8 0) 1 1 Try.underlying22 hi hz hsize hby rfl (by decide) v xs.length (xs.map cellOf) hs hown ad m c (news.map cellOf) hx (by simp [hm]) ?_ ?_ (by unfold maxLen; omega) (by omega) hbase ?_
    · intro j u hj
      rw [List.getElem?_map] at hj
      obtain ⟨q, hq, rfl⟩ := Option.map_eq_some_iff.1 hj
      obtain ⟨hlt, rfl⟩ := List.getElem?_eq_some_iff.1 hq
      obtain ⟨b, off, e, hcell⟩ := hnews j hlt
      simp only [Option.some.injEq] at e
      subst e
      have ea : (Addr.add ⟨b, off, none⟩ j) = ⟨b, off + j, none⟩ := by
        unfold Addr.add
        by_cases h0 : j = 0
        · subst h0; simp
        · simp [h0]
      rw [ea, hcell]
      rfl
    · intro u hu
      obtain ⟨q, _, rfl⟩ := List.mem_map.1 hu
      rfl
    · intro v' w' hown' hgrow _
      refine h v' w' ?_ hgrow
      unfold Own
      rw [List.length_append, ← hm, List.map_append]
      exact hown'
end Go.Proofs.Ytfjcelnamjgieaa.Ba
