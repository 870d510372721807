/- A block's cells as a list: new, kept, read, written. No condition. -/
import Derived.Test.YtfjcelnamjgieaaBase
import Derived.Test.YtfjcelnamjgieaaOwn
import Derived.Deep.RegionWith
import Derived.WalkSpells
namespace Go.Proofs.Ytfjcelnamjgieaa.Ba
open Go.RowKit Go.Deep
set_option linter.unusedVariables false

/-- Block b holds the cells l, of type t, none frozen. -/
def Blk (w : World) (b : Nat) (t : TypeId) (l : List Value) : Prop := w.heap[b]? = some (.cells l.toArray t (0, 0))
theorem Blk.lt {w : World} {b : Nat} {t : TypeId} {l : List Value} (h : Blk w b t l) : b < w.heap.size := (Array.getElem?_eq_some_iff.1 h).1
theorem Blk.new (w : World) (C : Array Value) (t : TypeId) : Blk (w.alloc (.cells C t)) w.heap.size t C.toList := by
  unfold Blk
  rw [blk_alloc_new]
theorem Blk.of {w w' : World} {b : Nat} {t : TypeId} {l : List Value} (h : Blk w b t l) (e : w'.heap[b]? = w.heap[b]?) : Blk w' b t l := e.trans h
theorem Blk.below {B : Nat} {w w' : World} {b : Nat} {t : TypeId} {l : List Value} (h : Blk w b t l) (hb : Below B w w') (hB : b < B) : Blk w' b t l := h.of (hb.block b hB)
theorem Blk.keep {w w' : World} {b : Nat} {t : TypeId} {l : List Value} (h : Blk w b t l) (hb : Below w.heap.size w w') : Blk w' b t l := h.below hb h.lt
theorem Blk.alloc {w : World} {b : Nat} {t : TypeId} {l : List Value} (h : Blk w b t l) (o : Obj) : Blk (w.alloc o) b t l := h.of (blk_alloc_lt _ _ _ h.lt)
theorem Blk.drew {w : World} {b : Nat} {t : TypeId} {l : List Value} (h : Blk w b t l) : Blk w.drew b t l := h
theorem Blk.cell {w : World} {b : Nat} {t : TypeId} {l : List Value} (h : Blk w b t l) {i : Nat} {v : Value} (hi : l[i]? = some v) : w.cell? ⟨b, i, none⟩ = some v := by
  have h' : w.heap[b]? = _ := h
  simp [World.cell?, h', hi]
theorem Blk.frozen {w : World} {b : Nat} {t : TypeId} {l : List Value} (h : Blk w b t l) (i : Nat) : w.frozen? ⟨b, i, none⟩ = false := by
  have h' : w.heap[b]? = _ := h
  simp [World.frozen?, h']
theorem Blk.set {w : World} {b : Nat} {t : TypeId} {l : List Value} (h : Blk w b t l) (i : Nat) (v : Value) : Blk (w.setCell ⟨b, i, none⟩ v) b t (l.set i v) := by
  have h' : w.heap[b]? = _ := h
  unfold Blk
  simp [World.setCell, Array.getElem?_modify, h']
theorem Blk.setOther {w : World} {b : Nat} {t : TypeId} {l : List Value} (h : Blk w b t l) {a : Addr} (ha : b ≠ a.block) (v : Value) : Blk (w.setCell a v) b t l := h.of (blk_setCell_other _ _ _ _ ha)
theorem Own.at {w w' : World} {B : Nat} {v : Value} {bs : List UInt8} (h : Own w B v bs) (hb : ∀ k, v.ownBlock = some k → w'.heap[k]? = w.heap[k]?) : Own w' B v bs := by
  refine ⟨h.1, ?_⟩
  rcases h.2 with hn | ⟨g, cap, cur, rfl, hB, hgg, rest⟩
  · exact .inl hn
  · exact .inr ⟨g, cap, cur, rfl, hB, (hb g rfl).trans hgg, rest⟩
theorem Own.lt {w : World} {B : Nat} {v : Value} {bs : List UInt8} (h : Own w B v bs) : ∀ k, v.ownBlock = some k → B ≤ k ∧ k < w.heap.size := World.ownsRow.lt h
theorem Own.keep {w w' : World} {B : Nat} {v : Value} {bs : List UInt8} (h : Own w B v bs) (hb : Below w.heap.size w w') : Own w' B v bs := h.at fun k hk => hb.block k (h.lt k hk).2
theorem Own.mono {w : World} {B B' : Nat} {v : Value} {bs : List UInt8} (h : Own w B v bs) (hB : B' ≤ B) : Own w B' v bs := by
  refine ⟨h.1, ?_⟩
  rcases h.2 with hn | ⟨g, cap, cur, rfl, hB2, rest⟩
  · exact .inl hn
  · exact .inr ⟨g, cap, cur, rfl, Nat.le_trans hB hB2, rest⟩
theorem Own.setOther {w : World} {B : Nat} {v : Value} {bs : List UInt8} (h : Own w B v bs) {a : Addr} (ha : ∀ k, v.ownBlock = some k → k ≠ a.block) (u : Value) : Own (w.setCell a u) B v bs := h.at fun k hk => blk_setCell_other _ _ _ _ (ha k hk)
/-- What is owned is no block of another type. -/
theorem Own.ne {w : World} {B b : Nat} {v : Value} {bs : List UInt8} {t : TypeId} {l : List Value} (h : Own w B v bs) (hb : Blk w b t l) (ht : t ≠ 5) : ∀ k, v.ownBlock = some k → k ≠ b := by
  intro k hk e
  subst e
  rcases h.2 with ⟨rfl, _⟩ | ⟨g, cap, cur, rfl, hB, hgg, rest⟩
  · cases hk
  · cases hk
    have h' : w.heap[g]? = _ := hb
    rw [hgg] at h'
    cases h'
    exact ht rfl
/-- Bytes elsewhere stay where one cell is written. -/
theorem Bytes.setOther {w : World} {ao : Option Addr} {bs : List UInt8} (h : Bytes w ao bs) {a : Addr} (ha : ∀ x, ao = some x → x.block ≠ a.block) (v : Value) : Bytes (w.setCell a v) ao bs := by
  intro i hi
  obtain ⟨b, off, rfl, hc⟩ := h i hi
  refine ⟨b, off, rfl, ?_⟩
  have e := ha _ rfl
  rw [World.cell?_of_block (w := w) (a := ⟨b, off + i, none⟩) (blk_setCell_other w a v b e)]
  exact hc
/-- Five cells of one block written anew. -/
theorem Blk.put5 {w : World} {b : Nat} {t : TypeId} {u0 u1 u2 u3 u4 : Value} (h : Blk w b t [u0, u1, u2, u3, u4]) (v0 v1 v2 v3 v4 : Value) :
    ∃ W, (((((w.setCell ⟨b, 0, none⟩ v0).setCell ⟨b, 1, none⟩ v1).setCell ⟨b, 2, none⟩ v2).setCell ⟨b, 3, none⟩ v3).setCell ⟨b, 4, none⟩ v4) = W ∧ Blk W b t [v0, v1, v2, v3, v4] ∧ (∀ B a, B ≤ b → Below B a w → Below B a W) ∧ (∀ ao bs, Bytes w ao bs → (∀ x, ao = some x → x.block ≠ b) → Bytes W ao bs) ∧ (∀ b' t' l, b' ≠ b → Blk w b' t' l → Blk W b' t' l) ∧ (∀ B v bs, Own w B v bs → (∀ k, v.ownBlock = some k → k ≠ b) → Own W B v bs) :=
  ⟨_, rfl, ((((h.set 0 v0).set 1 v1).set 2 v2).set 3 v3).set 4 v4, fun B a hB hb => (((((hb.setCell hB _).setCell hB _).setCell hB _).setCell hB _).setCell hB _),
    fun ao bs hy hx => ((((hy.setOther hx _).setOther hx _).setOther hx _).setOther hx _).setOther hx _,
    fun b' t' l hne hy => ((((hy.setOther hne _).setOther hne _).setOther hne _).setOther hne _).setOther hne _,
    fun B v bs hy hx => ((((hy.setOther hx _).setOther hx _).setOther hx _).setOther hx _).setOther hx _⟩
end Go.Proofs.Ytfjcelnamjgieaa.Ba
