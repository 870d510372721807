/- Plain laws of the filters of rows: no program is named here. -/
import Derived.Laws.BitsAllLaws
namespace Go.Proofs.Ytfkhdakeojhpaaa.Fi

/-- How far two numbers are apart. -/
def offV (a b : Int) : Int := if b ≤ a then a - b else b - a
/-- The one of three that lies nearest to what they foretell. -/
def paethV (a b c : UInt8) : UInt8 :=
  if offV ((a.toNat : Int) + b.toNat - c.toNat) a.toNat ≤ offV ((a.toNat : Int) + b.toNat - c.toNat) b.toNat ∧ offV ((a.toNat : Int) + b.toNat - c.toNat) a.toNat ≤ offV ((a.toNat : Int) + b.toNat - c.toNat) c.toNat then a
  else if offV ((a.toNat : Int) + b.toNat - c.toNat) b.toNat ≤ offV ((a.toNat : Int) + b.toNat - c.toNat) c.toNat then b else c
/-- What a filter foretells, of the three neighbours. -/
def guess (k : Nat) (a b c : UInt8) : UInt8 :=
  if k = 1 then a else if k = 2 then b else if k = 3 then UInt8.ofNat ((a.toNat + b.toNat) / 2) else if k = 4 then paethV a b c else 0
def back (l : List UInt8) (d i : Nat) : UInt8 := if d ≤ i then l.getD (i - d) 0 else 0
def toldV (k : Nat) (row above : List UInt8) (d i : Nat) : UInt8 := guess k (back row d i) (above.getD i 0) (back above d i)
/-- A row less what is foretold. -/
def doV (k : Nat) (row above : List UInt8) (d : Nat) : List UInt8 := (List.range row.length).map fun i => row.getD i 0 - toldV k row above d i
/-- The row that was filtered, as far as it has been made. -/
def undoN (k : Nat) (row above : List UInt8) (d : Nat) : Nat → List UInt8
  | 0 => []
  | m + 1 => undoN k row above d m ++ [row.getD m 0 + toldV k (undoN k row above d m) above d m]
def undoV (k : Nat) (row above : List UInt8) (d : Nat) : List UInt8 := undoN k row above d row.length

theorem doV_length (k : Nat) (row above : List UInt8) (d : Nat) : (doV k row above d).length = row.length := by simp [doV]
theorem undoN_length (k : Nat) (row above : List UInt8) (d m : Nat) : (undoN k row above d m).length = m := by
  induction m with
  | zero => rfl
  | succ m ih => unfold undoN; rw [List.length_append, ih]; rfl
theorem undoV_length (k : Nat) (row above : List UInt8) (d : Nat) : (undoV k row above d).length = row.length := undoN_length _ _ _ _ _
theorem doV_at (k : Nat) (row above : List UInt8) (d i : Nat) (h : i < row.length) : (doV k row above d).getD i 0 = row.getD i 0 - toldV k row above d i := by
  unfold doV
  rw [List.getD_eq_getElem?_getD, List.getElem?_map, List.getElem?_range h]
  rfl
theorem undoN_at (k : Nat) (row above : List UInt8) (d i m : Nat) (h : i < m) : (undoN k row above d m).getD i 0 = row.getD i 0 + toldV k (undoN k row above d i) above d i := by
  induction m with
  | zero => omega
  | succ m ih =>
    show (undoN k row above d m ++ [row.getD m 0 + toldV k (undoN k row above d m) above d m]).getD i 0 = _
    rw [List.getD_eq_getElem?_getD]
    by_cases e : i = m
    · subst e
      rw [List.getElem?_append_right (by rw [undoN_length]; exact Nat.le_refl _), undoN_length, Nat.sub_self]
      rfl
    · rw [List.getElem?_append_left (by rw [undoN_length]; omega), ← List.getD_eq_getElem?_getD]
      exact ih (by omega)
theorem undoN_take (k : Nat) (row above : List UInt8) (d i m : Nat) (h : i ≤ m) : (undoN k row above d m).take i = undoN k row above d i := by
  induction m with
  | zero =>
    obtain rfl : i = 0 := by omega
    rfl
  | succ m ih =>
    by_cases e : i = m + 1
    · subst e
      rw [List.take_of_length_le (by rw [undoN_length]; exact Nat.le_refl _)]
    · show List.take i (undoN k row above d m ++ _) = _
      rw [List.take_append_of_le_length (by rw [undoN_length]; omega)]
      exact ih (by omega)
/-- Only what stands ahead is read. -/
theorem back_congr (a b : List UInt8) (d i : Nat) (hd : 1 ≤ d) (h : ∀ j, j < i → a.getD j 0 = b.getD j 0) : back a d i = back b d i := by
  unfold back
  by_cases e : d ≤ i
  · rw [if_pos e, if_pos e]; exact h _ (by omega)
  · rw [if_neg e, if_neg e]
theorem told_congr (k : Nat) (a b above : List UInt8) (d i : Nat) (hd : 1 ≤ d) (h : ∀ j, j < i → a.getD j 0 = b.getD j 0) : toldV k a above d i = toldV k b above d i := by
  unfold toldV
  rw [back_congr a b d i hd h]
theorem getD_ext (a b : List UInt8) (hl : a.length = b.length) (h : ∀ i, i < a.length → a.getD i 0 = b.getD i 0) : a = b := by
  apply List.ext_getElem hl
  intro i h1 h2
  have := h i h1
  rw [List.getD_eq_getElem?_getD, List.getD_eq_getElem?_getD, List.getElem?_eq_getElem h1, List.getElem?_eq_getElem h2] at this
  exact this
/-- What a filter left gives the row again. -/
theorem undo_do (k : Nat) (row above : List UInt8) (d : Nat) (hd : 1 ≤ d) : undoV k (doV k row above d) above d = row := by
  have key : ∀ m, m ≤ row.length → ∀ i, i < m → (undoN k (doV k row above d) above d m).getD i 0 = row.getD i 0 := by
    intro m
    induction m with
    | zero => intro _ i hi; omega
    | succ m ih =>
      intro hm i hi
      rw [undoN_at _ _ _ _ i _ hi, doV_at _ _ _ _ _ (by omega)]
      have : toldV k (undoN k (doV k row above d) above d i) above d i = toldV k row above d i := by
        refine told_congr _ _ _ _ _ _ hd fun j hj => ?_
        rw [← undoN_take _ _ _ _ i m (by omega), List.getD_eq_getElem?_getD, List.getElem?_take, if_pos hj, ← List.getD_eq_getElem?_getD]
        exact ih (by omega) j (by omega)
      rw [this]
      simp
  have hl : (undoV k (doV k row above d) above d).length = row.length := by rw [undoV_length, doV_length]
  refine getD_ext _ _ hl fun i hi => ?_
  rw [hl] at hi
  unfold undoV
  rw [doV_length]
  exact key _ (Nat.le_refl _) i hi
theorem do_undo (k : Nat) (row above : List UInt8) (d : Nat) (hd : 1 ≤ d) : doV k (undoV k row above d) above d = row := by
  refine getD_ext _ _ (by rw [doV_length, undoV_length]) fun i hi => ?_
  rw [doV_length, undoV_length] at hi
  rw [doV_at _ _ _ _ _ (by rw [undoV_length]; exact hi)]
  unfold undoV
  rw [undoN_at _ _ _ _ i _ hi]
  have : toldV k (undoN k row above d row.length) above d i = toldV k (undoN k row above d i) above d i := by
    refine told_congr _ _ _ _ _ _ hd fun j hj => ?_
    rw [← undoN_take _ _ _ _ i row.length (by omega), List.getD_eq_getElem?_getD, List.getD_eq_getElem?_getD, List.getElem?_take, if_pos hj]
  rw [this]
  simp
theorem do_none (row above : List UInt8) (d : Nat) : doV 0 row above d = row := by
  refine getD_ext _ _ (doV_length _ _ _ _) fun i hi => ?_
  rw [doV_length] at hi
  rw [doV_at _ _ _ _ _ hi]
  have : toldV 0 row above d i = 0 := rfl
  rw [this]
  simp
theorem told_zeros (k : Nat) (row : List UInt8) (d i n : Nat) : toldV k row (List.replicate n 0) d i = toldV k row [] d i := by
  have e : ∀ j, (List.replicate n (0 : UInt8)).getD j 0 = 0 := fun j => by
    rw [List.getD_eq_getElem?_getD, List.getElem?_replicate]
    split <;> rfl
  have e2 : ∀ j, ([] : List UInt8).getD j 0 = 0 := fun j => by simp
  unfold toldV back
  rw [e, e2, e, e2]
theorem do_zeros (k : Nat) (row : List UInt8) (d n : Nat) : doV k row (List.replicate n 0) d = doV k row [] d := by
  unfold doV
  apply List.map_congr_left
  intro i _
  rw [told_zeros]
/-- Subtraction and addition of bytes, as Go's numbers wrap. -/
theorem sub_wrap (x t : UInt8) : IntKind.u8.wrap ((x.toNat : Int) - (t.toNat : Int)) = (((x - t).toNat : Nat) : Int) := by
  rw [IntKind.wrap_u8', UInt8.toNat_sub]
  have := x.toNat_lt
  have := t.toNat_lt
  omega
theorem add_wrap (x t : UInt8) : IntKind.u8.wrap ((x.toNat : Int) + (t.toNat : Int)) = (((x + t).toNat : Nat) : Int) := by
  rw [IntKind.wrap_u8', UInt8.toNat_add]
  omega
end Go.Proofs.Ytfkhdakeojhpaaa.Fi
