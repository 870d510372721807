/- Contracts of the ledger's methods, the program's and the reference's: what each answers and leaves, in the same words. Condition: the ledger is there, its quota at most 16777216, nobody has more than the quota. -/
import Derived.Test.YtclgjfmgohbmbaaBase
import Derived.BigRegion
import Derived.BigQuiet
import Derived.Deep.QuietTactic
namespace Go.Proofs.Ytclgjfmgohbmbaa.Le
open Go.RowKit Ba

/-- Of all blocks at most b has turned. -/
structure Only (b : Nat) (w w' : World) : Prop where
  os : w'.os = w.os
  tape : w'.tape = w.tape
  output : w'.output = w.output
  size : w'.heap.size = w.heap.size
  block : ∀ k, k ≠ b → w'.heap[k]? = w.heap[k]?
theorem Only.refl (b : Nat) (w : World) : Only b w w := ⟨rfl, rfl, rfl, rfl, fun _ _ => rfl⟩
theorem Only.trans {b : Nat} {u v w : World} (h : Only b u v) (k : Only b v w) : Only b u w :=
  ⟨k.os.trans h.os, k.tape.trans h.tape, k.output.trans h.output, k.size.trans h.size, fun i hi => (k.block i hi).trans (h.block i hi)⟩
theorem Only.drew {b : Nat} {u w : World} (h : Only b u w) : Only b u w.drew := ⟨h.os, h.tape, h.output, h.size, h.block⟩
theorem Only.drewN {b : Nat} {u w : World} (h : Only b u w) (n : Nat) : Only b u (w.drewN n) := h.trans ⟨rfl, rfl, rfl, rfl, fun _ _ => rfl⟩
theorem Only.set {b : Nat} {u w : World} (h : Only b u w) (o : Nat) (v : Value) : Only b u (w.setCell ⟨b, o, none⟩ v) :=
  h.trans ⟨rfl, rfl, rfl, by simp [World.setCell], fun k hk => Below.heap_setCell _ _ _ _ hk⟩
theorem Only.below {b B : Nat} {u w : World} (h : Only b u w) (hb : B ≤ b) : Below B u w := ⟨h.os, h.tape, h.output, Nat.le_of_eq h.size.symm, fun k hk => h.block k (by omega)⟩
theorem Only.cell {b : Nat} {u w : World} (h : Only b u w) {p : Addr} (hp : p.block ≠ b) : w.cell? p = u.cell? p := World.cell?_of_block (w := u) (h.block _ hp)

/-- A ledger's cells: the quota, and what each has. -/
def ledF (q : Int) (h : Nat → Int) (j : Nat) : Value := if j = 0 then .int .i64 q else .int .i64 (h (j - 1))
/-- What stands always. -/
structure Fit (q : Int) (h : Nat → Int) : Prop where
  q0 : 0 ≤ q
  q1 : q ≤ 16777216
  h0 : ∀ j, 0 ≤ h j
  h1 : ∀ j, h j ≤ q
def Valid (who : Int) : Prop := 0 ≤ who ∧ who < 8
instance (who : Int) : Decidable (Valid who) := by unfold Valid; infer_instance
def put (h : Nat → Int) (k : Nat) (x : Int) : Nat → Int := fun j => if j = k then x else h j
theorem ledF_put (q : Int) (h : Nat → Int) (k : Nat) (x : Int) : ledF q (put h k x) = fun j => if j = 1 + k then .int .i64 x else ledF q h j := by
  funext j
  unfold ledF put
  by_cases h0 : j = 0
  · subst h0; rw [if_pos rfl, if_neg (by omega), if_pos rfl]
  · rw [if_neg h0]
    by_cases hk : j = 1 + k
    · rw [if_pos hk, if_pos (by omega)]
    · rw [if_neg hk, if_neg (by omega), if_neg h0]
/-- The answers. -/
def takeC (q : Int) (h : Nat → Int) (who n : Int) : Int := if ¬ Valid who ∨ n < 0 then 1 else if q - h who.toNat < n then 10 else 0
def takeH (q : Int) (h : Nat → Int) (who n : Int) : Nat → Int := if ¬ Valid who ∨ n < 0 then h else if q - h who.toNat < n then h else put h who.toNat (h who.toNat + n)
def giveC (h : Nat → Int) (who n : Int) : Int := if ¬ Valid who ∨ n < 0 then 1 else if h who.toNat < n then 1 else 0
def giveH (h : Nat → Int) (who n : Int) : Nat → Int := if ¬ Valid who ∨ n < 0 then h else if h who.toNat < n then h else put h who.toNat (h who.toNat - n)
def hasV (h : Nat → Int) (who : Int) : Int := if Valid who then h who.toNat else 0
def clearH (h : Nat → Int) (who : Int) : Nat → Int := if Valid who then put h who.toNat 0 else h
def sumTo (h : Nat → Int) : Nat → Int
  | 0 => 0
  | k + 1 => sumTo h k + h k
theorem Fit.put {q : Int} {h : Nat → Int} (f : Fit q h) (k : Nat) (x : Int) (h0 : 0 ≤ x) (h1 : x ≤ q) : Fit q (put h k x) :=
  ⟨f.q0, f.q1, fun j => by unfold Le.put; split; exact h0; exact f.h0 j, fun j => by unfold Le.put; split; exact h1; exact f.h1 j⟩
theorem Fit.take {q : Int} {h : Nat → Int} (f : Fit q h) (who n : Int) : Fit q (takeH q h who n) := by
  unfold takeH
  split
  · exact f
  · split
    · exact f
    · exact f.put _ _ (by have := f.h0 who.toNat; omega) (by omega)
theorem Fit.give {q : Int} {h : Nat → Int} (f : Fit q h) (who n : Int) : Fit q (giveH h who n) := by
  unfold giveH
  split
  · exact f
  · split
    · exact f
    · exact f.put _ _ (by omega) (by have := f.h1 who.toNat; omega)
theorem Fit.clear {q : Int} {h : Nat → Int} (f : Fit q h) (who : Int) : Fit q (clearH h who) := by
  unfold clearH
  split
  · exact f.put _ _ (by omega) f.q0
  · exact f
theorem Fit.sum {q : Int} {h : Nat → Int} (f : Fit q h) (k : Nat) : 0 ≤ sumTo h k ∧ sumTo h k ≤ k * q := by
  induction k with
  | zero => exact ⟨by simp [sumTo], by simp [sumTo]⟩
  | succ k ih =>
    have a := f.h0 k
    have b := f.h1 k
    unfold sumTo
    refine ⟨by omega, ?_⟩
    rw [show ((k + 1 : Nat) : Int) * q = (k : Int) * q + q from by rw [Int.natCast_add, Int.add_mul]; simp]
    omega

theorem who_yes (b : Nat) (who : Int) (hv : Valid who) (w : World) :
    Calls Try.prog 17 #[.pointer (some ⟨b, 0, none⟩), .int .i64 who] w fun e w' => e = .returned (.bool true) ∧ w = w' := by
  obtain ⟨h0, h1⟩ := hv
  go_enter Try.func17, Try.ntmps17
  go_wp2
  go_ret
  exact ⟨by simp, rfl⟩
theorem who_no (b : Nat) (who : Int) (hv : ¬ Valid who) (w : World) :
    Calls Try.prog 17 #[.pointer (some ⟨b, 0, none⟩), .int .i64 who] w fun e w' => e = .returned (.bool false) ∧ w = w' := by
  by_cases h0 : who < 0
  · go_enter Try.func17, Try.ntmps17
    go_wp2
    go_ret
    exact ⟨by simp, rfl⟩
  · have h1 : 8 ≤ who := by unfold Valid at hv; omega
    go_enter Try.func17, Try.ntmps17
    go_wp2
    go_ret
    exact ⟨by simp; omega, rfl⟩

/-- What a method leaves behind. -/
def Left (b : Nat) (T : TypeId) (q : Int) (h' : Nat → Int) (w : World) (r : Int) (e : Ending) (w' : World) : Prop :=
  e = .returned (.int .i64 r) ∧ Only b w w' ∧ w'.rowIs b T 9 (ledF q h')

set_option maxRecDepth 100000 in
set_option maxHeartbeats 400000 in
theorem take_any (b : Nat) (q : Int) (h : Nat → Int) (f : Fit q h) (who n : Int) (hn0 : -9223372036854775808 ≤ n) (hn1 : n ≤ 9223372036854775807) (w : World) (hr : w.rowIs b 43 9 (ledF q h)) :
    Calls Try.prog 8 #[.pointer (some ⟨b, 0, none⟩), .int .i64 who, .int .i64 n] w (Left b 43 q (takeH q h who n) w (takeC q h who n)) := by
  by_cases hv : Valid who
  · by_cases hn : n < 0
    · have HC : takeC q h who n = 1 := by unfold takeC; rw [if_pos (Or.inr hn)]
      have HH : takeH q h who n = h := by unfold takeH; rw [if_pos (Or.inr hn)]
      rw [HC, HH]
      clear HC HH
      have HR := Lib.hid hr
      clear hr
      have HY := Lib.hid (who_yes b who hv w)
      go_enter Try.func8, Try.ntmps8
      go_wp2_with fail
      refine HY.out.mono ?_
      rintro e w' ⟨rfl, rfl⟩
      go_wp2_with fail
      go_ret
      exact ⟨rfl, Only.refl _ _, HR.out⟩
    · obtain ⟨k, rfl⟩ : ∃ k : Nat, who = (k : Int) := ⟨who.toNat, by have := hv.1; omega⟩
      have hk : k < 8 := by have := hv.2; omega
      have e1 : ((k : Int)).toNat = k := by omega
      have c0 : w.cell? ⟨b, 0, none⟩ = some (.int .i64 q) := hr.cell (by omega)
      have c1 : w.cell? ⟨b, 1 + k, none⟩ = some (.int .i64 (h k)) := by
        have := hr.cell (show 1 + k < 9 from by omega)
        rw [this]; unfold ledF; rw [if_neg (by omega), show 1 + k - 1 = k from by omega]
      have fz := hr.frozen (1 + k)
      have b0 := f.h0 k
      have b1 := f.h1 k
      have b2 := f.q0
      have b3 := f.q1
      have HY := Lib.hid (who_yes b (k : Int) hv w)
      have HR := Lib.hid hr
      have hw : IntKind.i64.wrap (q - h k) = q - h k := IntWalk.i64_in _ (by omega)
      by_cases hq : q - h k < n
      · have HC : takeC q h (k : Int) n = 10 := by unfold takeC; rw [if_neg (fun hx => hx.elim (fun h => h hv) hn), e1, if_pos hq]
        have HH : takeH q h (k : Int) n = h := by unfold takeH; rw [if_neg (fun hx => hx.elim (fun h => h hv) hn), e1, if_pos hq]
        rw [HC, HH]
        clear HC HH hr hv e1
        generalize h k = x at *
        go_enter Try.func8, Try.ntmps8
        go_wp2_with fail
        refine HY.out.mono ?_
        rintro e w' ⟨rfl, rfl⟩
        go_wp2_with fail
        go_quiet (fail)
        go_wp2_with fail
        go_ret
        exact ⟨rfl, (Only.refl _ _).drewN _, HR.out⟩
      · have HC : takeC q h (k : Int) n = 0 := by unfold takeC; rw [if_neg (fun hx => hx.elim (fun h => h hv) hn), e1, if_neg hq]
        have HH : takeH q h (k : Int) n = put h k (h k + n) := by unfold takeH; rw [if_neg (fun hx => hx.elim (fun h => h hv) hn), e1, if_neg hq]
        rw [HC, HH]
        have HP := Lib.hid (ledF_put q h k (h k + n))
        clear HC HH hr hv e1
        have hw2 : IntKind.i64.wrap (h k + n) = h k + n := IntWalk.i64_in _ (by omega)
        generalize h k = x at *
        go_enter Try.func8, Try.ntmps8
        go_wp2_with fail
        refine HY.out.mono ?_
        rintro e w' ⟨rfl, rfl⟩
        go_wp2_with fail
        go_quiet (fail)
        go_wp2_with fail
        go_region
        all_goals
          go_wp2_with fail
          go_ret
          refine ⟨rfl, ?_, ?_⟩
          · exact (((Only.refl _ _).drewN _).drew).set _ _
          · rw [HP.out]
            exact World.rowIs.set (w := (w.drewN _).drew) HR.out (1 + k) _
  · have HC : takeC q h who n = 1 := by unfold takeC; rw [if_pos (Or.inl hv)]
    have HH : takeH q h who n = h := by unfold takeH; rw [if_pos (Or.inl hv)]
    rw [HC, HH]
    clear HC HH
    have HR := Lib.hid hr
    clear hr
    have HY := Lib.hid (who_no b who hv w)
    go_enter Try.func8, Try.ntmps8
    go_wp2_with fail
    refine HY.out.mono ?_
    rintro e w' ⟨rfl, rfl⟩
    go_wp2_with fail
    go_ret
    exact ⟨rfl, Only.refl _ _, HR.out⟩
end Go.Proofs.Ytclgjfmgohbmbaa.Le
