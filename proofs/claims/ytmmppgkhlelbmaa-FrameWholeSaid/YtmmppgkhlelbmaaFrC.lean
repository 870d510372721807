/- Contracts of bytes.Clone and of frame.Parse. Condition: bytes lie at the slice. -/
import Derived.Test.YtmmppgkhlelbmaaFrB
import Derived.Test.YtmmppgkhlelbmaaBlk
namespace Go.Proofs.Ytmmppgkhlelbmaa.Fr
open Go.RowKit Ba
set_option linter.unusedVariables false

/-- A slice of bytes that the call made. -/
def Mine (bs : List UInt8) (w : World) (e : Ending) (w' : World) : Prop :=
  ∃ v, e = .returned v ∧ Below w.heap.size w w' ∧ Own w' w.heap.size v bs
set_option maxRecDepth 100000 in
set_option maxHeartbeats 800000 in
theorem clone_any (bs : List UInt8) (a : Option Addr) (n cap : Nat) (hn : n = bs.length) (hm : n ≤ 140737488355328) (hnil : a = none → cap = 0) (w : World) (hb : Bytes w a bs) :
    Calls Try.prog 21 #[.slice a n cap] w (Mine bs w) := by
  cases a with
  | none =>
    have hbs : bs = [] := by
      cases bs with
      | nil => rfl
      | cons u l => obtain ⟨b, off, e, _⟩ := hb 0 (by simp); cases e
    subst hbs
    have hn0 : n = 0 := hn
    subst hn0
    clear hb hn hm
    have hc := hnil rfl
    subst hc
    clear hnil
    have hnl := fun w => Lib.run_eql_slice_nil (P := Try.prog) w 22 5 none 0 0 0 0 Try.underlying22
    go_enter Try.func21, Try.ntmps21
    go_wp2_with fail
    go_ret
    exact ⟨_, rfl, Below.refl _ _, Own.nil _ _⟩
  | some x =>
    have HN := Lib.hid hn
    have HB := Lib.hid hb
    clear hn hb hnil
    have hnl := fun w => Lib.run_eql_slice_nil (P := Try.prog) w 22 5 (some x) n cap 0 0 Try.underlying22
    go_enter Try.func21, Try.ntmps21
    go_wp2_with (at_builtin; refine wpList_append_bytes rfl (.tmp 5) (.tmp 6) rfl w.heap.size _ [] rfl (Own.empty w w.heap.size (Nat.le_refl _)) (some x) n cap bs rfl HN.out (Bytes.keep HB.out ((Below.refl _ _).alloc (Nat.le_refl _) _)) (fun h => by cases h) (by simp; omega) (by simp) ?_)
    intro v2 w3 hown3 hg3
    have hb3 : Below w.heap.size w w3 := ((Below.refl w.heap.size w).alloc (Nat.le_refl _) _).grown hg3 (by simp) (fun k hk => by cases hk; exact Nat.le_refl _)
    have HO3 := Lib.hid hown3
    have HB3 := Lib.hid hb3
    clear hown3 hb3 hg3
    go_wp2_with fail
    go_ret
    exact ⟨_, rfl, HB3.out, HO3.out⟩
/-- A message, and the value that it is. -/
structure Fr where
  t : Int
  a : Int
  b : Int
  c : Int
  data : List UInt8
def Fr.zero : Fr := ⟨0, 0, 0, 0, []⟩
def FrIs (B : Nat) (w : World) (v : Value) (f : Fr) : Prop :=
  ∃ ao cap, v = .agg #[.int .i64 f.t, .int .i64 f.a, .int .i64 f.b, .int .i64 f.c, .slice ao f.data.length cap] ∧ Own w B (.slice ao f.data.length cap) f.data
theorem FrIs.zero (B : Nat) (w : World) : FrIs B w (.agg #[.int .i64 0, .int .i64 0, .int .i64 0, .int .i64 0, .slice none 0 0]) Fr.zero := ⟨none, 0, rfl, Own.nil _ _⟩
/-- What Parse hands back. -/
def Parsed (f : Fr) (c : Nat) (w : World) (e : Ending) (w' : World) : Prop :=
  ∃ v, e = .returned (.tuple #[v, .int .i64 (c : Int)]) ∧ FrIs w.heap.size w' v f ∧ Below w.heap.size w w'
set_option maxRecDepth 100000 in
set_option maxHeartbeats 1600000 in
theorem parse_none (a : Option Addr) (cap : Nat) (w : World) :
    Calls Try.prog 16 #[.slice a 0 cap] w (Parsed Fr.zero 2 w) := by
  have hz := fun w => (by kernel_rfl : (zeroValue 39).run Try.prog w = .ok (.agg #[.int .i64 0, .int .i64 0, .int .i64 0, .int .i64 0, .slice none 0 0]) w)
  go_enter Try.func16, Try.ntmps16
  go_wp2_with fail
  refine bodyPost_ret (v := .tuple #[.agg #[_, _, _, _, _], .int .i64 2]) (by simp [results, Try.results16, go_sem]) rfl ⟨_, rfl, FrIs.zero _ _, ?_⟩
  exact (Below.refl _ _).alloc (Nat.le_refl _) _
/-- shapeOf and size of one type, told. -/
def ShapeOf (k x y z : Nat) (q : Bool) : Prop := ∀ w, Calls Try.prog 24 #[.int .i64 (k : Nat)] w fun e w' => e = .returned (.tuple #[.agg #[.int .i64 x, .int .i64 y, .int .i64 z, .bool q], .bool true]) ∧ Below w.heap.size w w'
def SizeOf (x y z : Nat) (q : Bool) : Prop := ∀ w, Calls Try.prog 25 #[.agg #[.int .i64 x, .int .i64 y, .int .i64 z, .bool q]] w fun e w' => e = .returned (.int .i64 ((x + y + z : Nat) : Int)) ∧ Below w.heap.size w w'
set_option maxRecDepth 100000 in
set_option maxHeartbeats 1600000 in
theorem parse_short (k x y z : Nat) (hk : k < 256) (q : Bool) (hx : x ≤ 4) (hy : y ≤ 4) (hz : z ≤ 4) (b off n cap : Nat) (hn : n < x + y + z) (w : World) (hc : w.cell? ⟨b, off, none⟩ = some (.int .u8 k)) (HS : Hid (ShapeOf k x y z q)) (HZ : Hid (SizeOf x y z q)) :
    Calls Try.prog 16 #[.slice (some ⟨b, off, none⟩) (n + 1) cap] w (Parsed Fr.zero 2 w) := by
  have hz := fun w => (by kernel_rfl : (zeroValue 39).run Try.prog w = .ok (.agg #[.int .i64 0, .int .i64 0, .int .i64 0, .int .i64 0, .slice none 0 0]) w)
  have hz2 := fun w => (by kernel_rfl : (zeroValue 67).run Try.prog w = .ok (.agg #[.int .i64 0, .int .i64 0, .int .i64 0, .bool false]) w)
  have hcut : ∀ w, (Instr.slice 22 (.slice (some ⟨b, off, none⟩) (n + 1) cap) (some (.int .i64 1)) none none).run Try.prog w = .ok (.slice (cutA (some ⟨b, off, none⟩) 1 cap) n (cap - 1)) w := fun w => run_cut_from (P := Try.prog) 22 5 Try.underlying22 size_u8 (some ⟨b, off, none⟩) (n + 1) cap .i64 1 (by omega) w
  have hlt := cell_lt hc
  have R0 := Lib.hid (Blk.new w #[.int .i64 0, .int .i64 0, .int .i64 0, .int .i64 0, .slice none 0 0] 39)
  have hb0 : Below w.heap.size w (w.alloc (Obj.cells #[.int .i64 0, .int .i64 0, .int .i64 0, .int .i64 0, .slice none 0 0] 39)) := (Below.refl _ _).alloc (Nat.le_refl _) _
  have hs0 : (w.alloc (Obj.cells #[.int .i64 0, .int .i64 0, .int .i64 0, .int .i64 0, .slice none 0 0] 39)).heap.size = w.heap.size + 1 := by simp
  go_enter Try.func16, Try.ntmps16
  go_wp2_with fail
  generalize w.alloc (Obj.cells #[.int .i64 0, .int .i64 0, .int .i64 0, .int .i64 0, .slice none 0 0] 39) = w0 at *
  have R0' := Lib.hid (R0.out.alloc (Obj.cells #[.int .i64 (k : Nat), .int .i64 0, .int .i64 0, .int .i64 0, .slice none 0 0] 39))
  refine (HS.out _).mono ?_
  rintro e w1 ⟨rfl, hb1⟩
  have R1 := Lib.hid (R0'.out.keep hb1)
  have R1' := Lib.hid (R1.out.alloc (Obj.cells #[.int .i64 x, .int .i64 y, .int .i64 z, .bool q] 67))
  have HB1 := Lib.hid (chain (hb0.alloc (by omega) _) hb1)
  have s1 := HB1.out.size
  clear hb1 R0 R0' R1
  go_wp2_with fail
  refine (HZ.out _).mono ?_
  rintro e w2 ⟨rfl, hb2⟩
  have R2 := Lib.hid (R1'.out.keep hb2)
  have HB2 := Lib.hid (chain (HB1.out.alloc (by omega) _) hb2)
  have s2 := HB2.out.size
  have c0 := R2.out.cell (i := 0) rfl
  have c1 := R2.out.cell (i := 1) rfl
  have c2 := R2.out.cell (i := 2) rfl
  have c3 := R2.out.cell (i := 3) rfl
  have c4 := R2.out.cell (i := 4) rfl
  have fz := fun i => R2.out.frozen i
  have hlss : decide ((n : Int) < ((x + y + z : Nat) : Int)) = true := decide_eq_true (by omega)
  clear hb2 R1'
  go_wp2_with fail
  obtain ⟨W, hW, Q, hbW, _⟩ := R2.out.put5 (.int .i64 0) (.int .i64 0) (.int .i64 0) (.int .i64 0) (.slice none 0 0)
  rw [hW]
  have d0 := Q.cell (i := 0) rfl
  have d1 := Q.cell (i := 1) rfl
  have d2 := Q.cell (i := 2) rfl
  have d3 := Q.cell (i := 3) rfl
  have d4 := Q.cell (i := 4) rfl
  refine bodyPost_ret (v := .tuple #[.agg #[_, _, _, _, _], .int .i64 2]) (by simp [results, Try.results16, go_sem, d0, d1, d2, d3, d4]) rfl ⟨_, rfl, FrIs.zero _ _, ?_⟩
  exact hbW _ _ (Nat.le_refl _) HB2.out
end Go.Proofs.Ytmmppgkhlelbmaa.Fr
