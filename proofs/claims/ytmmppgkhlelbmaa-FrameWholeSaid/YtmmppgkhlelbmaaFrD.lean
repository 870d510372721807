/- Contract of frame.Parse. Condition: bytes lie at the slice. -/
import Derived.Test.YtmmppgkhlelbmaaFrC
namespace Go.Proofs.Ytmmppgkhlelbmaa.Fr
open Go.RowKit Ba
set_option linter.unusedVariables false

theorem _root_.Go.Proofs.Ytmmppgkhlelbmaa.Ba.Own.view2 {w : World} {base : Nat} {v : Value} {bs : List UInt8} (h : Own w base v bs) :
    ∃ ao cap, v = .slice ao bs.length cap ∧ Bytes w ao bs ∧ bs.length ≤ cap ∧ cap ≤ maxLen ∧ (ao = none → cap = 0) ∧ ∀ x, ao = some x → base ≤ x.block := by
  obtain ⟨ao, cap, rfl, h1, h2, h3, h4⟩ := h.view
  refine ⟨ao, cap, rfl, h1, h2, h3, h4, fun x hx => ?_⟩
  subst hx
  rcases h.2 with ⟨he, _⟩ | ⟨g, cap', cur, he, hb, _⟩
  · cases he
  · cases he; exact hb
set_option maxRecDepth 100000 in
set_option maxHeartbeats 1600000 in
theorem parse_kind (k : Nat) (hk : k < 256) (hno : ¬ isKind k) (b off n cap : Nat) (w : World) (hc : w.cell? ⟨b, off, none⟩ = some (.int .u8 k)) :
    Calls Try.prog 16 #[.slice (some ⟨b, off, none⟩) (n + 1) cap] w (Parsed Fr.zero 7 w) := by
  have hz := fun w => (by kernel_rfl : (zeroValue 39).run Try.prog w = .ok (.agg #[.int .i64 0, .int .i64 0, .int .i64 0, .int .i64 0, .slice none 0 0]) w)
  have hz2 := fun w => (by kernel_rfl : (zeroValue 67).run Try.prog w = .ok (.agg #[.int .i64 0, .int .i64 0, .int .i64 0, .bool false]) w)
  have hcut : ∀ w, (Instr.slice 22 (.slice (some ⟨b, off, none⟩) (n + 1) cap) (some (.int .i64 1)) none none).run Try.prog w = .ok (.slice (cutA (some ⟨b, off, none⟩) 1 cap) n (cap - 1)) w := fun w => run_cut_from (P := Try.prog) 22 5 Try.underlying22 size_u8 (some ⟨b, off, none⟩) (n + 1) cap .i64 1 (by omega) w
  have HS := Lib.hid (fun w => shapeOf_no k hno w)
  clear hno
  have hlt := cell_lt hc
  have R0 := Lib.hid (Blk.new w #[.int .i64 0, .int .i64 0, .int .i64 0, .int .i64 0, .slice none 0 0] 39)
  have hb0 : Below w.heap.size w (w.alloc (Obj.cells #[.int .i64 0, .int .i64 0, .int .i64 0, .int .i64 0, .slice none 0 0] 39)) := (Below.refl _ _).alloc (Nat.le_refl _) _
  have hs0 : (w.alloc (Obj.cells #[.int .i64 0, .int .i64 0, .int .i64 0, .int .i64 0, .slice none 0 0] 39)).heap.size = w.heap.size + 1 := by simp
  go_enter Try.func16, Try.ntmps16
  go_wp2_with fail
  generalize w.alloc (Obj.cells #[.int .i64 0, .int .i64 0, .int .i64 0, .int .i64 0, .slice none 0 0] 39) = w0 at *
  have R0' := Lib.hid (R0.out.alloc (Obj.cells #[.int .i64 (k : Nat), .int .i64 0, .int .i64 0, .int .i64 0, .slice none 0 0] 39))
  refine (HS.out _).mono ?_
  rintro e w1 ⟨rfl, hb1⟩
  have R1 := Lib.hid (R0'.out.keep hb1)
  have HB1 := Lib.hid (chain (hb0.alloc (by omega) _) hb1)
  have s1 := HB1.out.size
  have c0 := R1.out.cell (i := 0) rfl
  have c1 := R1.out.cell (i := 1) rfl
  have c2 := R1.out.cell (i := 2) rfl
  have c3 := R1.out.cell (i := 3) rfl
  have c4 := R1.out.cell (i := 4) rfl
  have fz := fun i => R1.out.frozen i
  have lt1 := R1.out.lt
  clear hb1 R0 R0'
  go_wp2_with fail
  obtain ⟨W, hW, Q0, hbW, _⟩ := R1.out.put5 (.int .i64 0) (.int .i64 0) (.int .i64 0) (.int .i64 0) (.slice none 0 0)
  rw [hW]
  have hbX := hbW _ _ (Nat.le_refl _) HB1.out
  have Q := Q0.alloc (Obj.cells #[.int .i64 0, .int .i64 0, .int .i64 0, .bool false] 67)
  have d0 := Q.cell (i := 0) rfl
  have d1 := Q.cell (i := 1) rfl
  have d2 := Q.cell (i := 2) rfl
  have d3 := Q.cell (i := 3) rfl
  have d4 := Q.cell (i := 4) rfl
  refine bodyPost_ret (v := .tuple #[.agg #[_, _, _, _, _], .int .i64 7]) (by simp [results, Try.results16, go_sem, d0, d1, d2, d3, d4]) rfl ⟨_, rfl, FrIs.zero _ _, ?_⟩
  exact hbX.alloc hbX.size _
set_option maxRecDepth 100000 in
set_option maxHeartbeats 1600000 in
theorem parse_long (k x y z : Nat) (hk : k < 256) (hx : x ≤ 4) (hy : y ≤ 4) (hz : z ≤ 4) (b off n cap : Nat) (hn : x + y + z < n) (w : World) (hc : w.cell? ⟨b, off, none⟩ = some (.int .u8 k)) (HS : Hid (ShapeOf k x y z false)) (HZ : Hid (SizeOf x y z false)) :
    Calls Try.prog 16 #[.slice (some ⟨b, off, none⟩) (n + 1) cap] w (Parsed Fr.zero 3 w) := by
  have hz := fun w => (by kernel_rfl : (zeroValue 39).run Try.prog w = .ok (.agg #[.int .i64 0, .int .i64 0, .int .i64 0, .int .i64 0, .slice none 0 0]) w)
  have hz2 := fun w => (by kernel_rfl : (zeroValue 67).run Try.prog w = .ok (.agg #[.int .i64 0, .int .i64 0, .int .i64 0, .bool false]) w)
  have hcut : ∀ w, (Instr.slice 22 (.slice (some ⟨b, off, none⟩) (n + 1) cap) (some (.int .i64 1)) none none).run Try.prog w = .ok (.slice (cutA (some ⟨b, off, none⟩) 1 cap) n (cap - 1)) w := fun w => run_cut_from (P := Try.prog) 22 5 Try.underlying22 size_u8 (some ⟨b, off, none⟩) (n + 1) cap .i64 1 (by omega) w
  have hlt := cell_lt hc
  have R0 := Lib.hid (Blk.new w #[.int .i64 0, .int .i64 0, .int .i64 0, .int .i64 0, .slice none 0 0] 39)
  have hb0 : Below w.heap.size w (w.alloc (Obj.cells #[.int .i64 0, .int .i64 0, .int .i64 0, .int .i64 0, .slice none 0 0] 39)) := (Below.refl _ _).alloc (Nat.le_refl _) _
  have hs0 : (w.alloc (Obj.cells #[.int .i64 0, .int .i64 0, .int .i64 0, .int .i64 0, .slice none 0 0] 39)).heap.size = w.heap.size + 1 := by simp
  go_enter Try.func16, Try.ntmps16
  go_wp2_with fail
  generalize w.alloc (Obj.cells #[.int .i64 0, .int .i64 0, .int .i64 0, .int .i64 0, .slice none 0 0] 39) = w0 at *
  have R0' := Lib.hid (R0.out.alloc (Obj.cells #[.int .i64 (k : Nat), .int .i64 0, .int .i64 0, .int .i64 0, .slice none 0 0] 39))
  refine (HS.out _).mono ?_
  rintro e w1 ⟨rfl, hb1⟩
  have R1 := Lib.hid (R0'.out.keep hb1)
  have R1' := Lib.hid (R1.out.alloc (Obj.cells #[.int .i64 x, .int .i64 y, .int .i64 z, .bool false] 67))
  have S1 := Lib.hid (Blk.new w1 #[.int .i64 x, .int .i64 y, .int .i64 z, .bool false] 67)
  have HB1 := Lib.hid (chain (hb0.alloc (by omega) _) hb1)
  have s1 := HB1.out.size
  clear hb1 R0 R0' R1
  go_wp2_with fail
  refine (HZ.out _).mono ?_
  rintro e w2 ⟨rfl, hb2⟩
  have R2 := Lib.hid (R1'.out.keep hb2)
  have S2 := Lib.hid (S1.out.keep hb2)
  have HB2 := Lib.hid (chain (HB1.out.alloc (by omega) _) hb2)
  have s2 := HB2.out.size
  have e0 := S2.out.cell (i := 0) rfl
  have e1 := S2.out.cell (i := 1) rfl
  have e2 := S2.out.cell (i := 2) rfl
  have e3 := S2.out.cell (i := 3) rfl
  clear hb2 R1' S1
  go_wp2_with fail
  refine (HZ.out _).mono ?_
  rintro e w3 ⟨rfl, hb3⟩
  have R3 := Lib.hid (R2.out.keep hb3)
  have HB3 := Lib.hid (chain HB2.out hb3)
  have s3 := HB3.out.size
  have c0 := R3.out.cell (i := 0) rfl
  have c1 := R3.out.cell (i := 1) rfl
  have c2 := R3.out.cell (i := 2) rfl
  have c3 := R3.out.cell (i := 3) rfl
  have c4 := R3.out.cell (i := 4) rfl
  have fz := fun i => R3.out.frozen i
  clear hb3 R2 S2 e0 e1 e2 e3
  go_wp2_with fail
  obtain ⟨W, hW, Q, hbW, _⟩ := R3.out.put5 (.int .i64 0) (.int .i64 0) (.int .i64 0) (.int .i64 0) (.slice none 0 0)
  rw [hW]
  have d0 := Q.cell (i := 0) rfl
  have d1 := Q.cell (i := 1) rfl
  have d2 := Q.cell (i := 2) rfl
  have d3 := Q.cell (i := 3) rfl
  have d4 := Q.cell (i := 4) rfl
  refine bodyPost_ret (v := .tuple #[.agg #[_, _, _, _, _], .int .i64 3]) (by simp [results, Try.results16, go_sem, d0, d1, d2, d3, d4]) rfl ⟨_, rfl, FrIs.zero _ _, ?_⟩
  exact hbW _ _ (Nat.le_refl _) HB3.out
end Go.Proofs.Ytmmppgkhlelbmaa.Fr
