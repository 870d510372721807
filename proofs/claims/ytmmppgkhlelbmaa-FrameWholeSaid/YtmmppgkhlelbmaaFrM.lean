/- Contracts of NewParser, Held, Broken, and of awake. Condition: none beyond what stands. -/
import Derived.Test.YtmmppgkhlelbmaaFrL
namespace Go.Proofs.Ytmmppgkhlelbmaa.Fr
open Go.RowKit Ba Go.Deep
set_option linter.unusedVariables false

set_option maxRecDepth 100000 in
theorem new_any (w : World) : Calls Try.prog 10 #[] w fun e w' => e = .returned (.pointer (some ⟨w.heap.size, 0, none⟩)) ∧ PsIs w' w.heap.size 60 [] false ∧ Below w.heap.size w w' ∧ w'.heap.size = w.heap.size + 1 := by
  have hz := fun w => (by kernel_rfl : (zeroValue 60).run Try.prog w = .ok (.agg #[.slice none 0 0, .bool false]) w)
  go_enter Try.func10, Try.ntmps10
  go_wp2_with fail
  go_ret
  exact ⟨rfl, ⟨none, 0, Blk.new w #[.slice none 0 0, .bool false] _, Bytes.nil _ _, Nat.le_refl _, by unfold maxLen; omega, fun _ => rfl, fun x h => by cases h⟩, (Below.refl _ _).alloc (Nat.le_refl _) _, by simp⟩
set_option maxRecDepth 100000 in
theorem held_any (g : Nat) (buf : List UInt8) (br : Bool) (w : World) (h : PsIs w g 60 buf br) :
    Calls Try.prog 13 #[.pointer (some ⟨g, 0, none⟩)] w fun e w' => e = .returned (.int .i64 (buf.length : Nat)) ∧ w = w' := by
  obtain ⟨ao, cap, h1, _⟩ := h
  have c0 := h1.cell (i := 0) rfl
  clear h1
  generalize buf.length = L at *
  go_enter Try.func13, Try.ntmps13
  go_wp2_with fail
  go_ret
  exact ⟨rfl, rfl⟩
set_option maxRecDepth 100000 in
theorem broken_any (g : Nat) (buf : List UInt8) (br : Bool) (w : World) (h : PsIs w g 60 buf br) :
    Calls Try.prog 14 #[.pointer (some ⟨g, 0, none⟩)] w fun e w' => e = .returned (.bool br) ∧ w = w' := by
  obtain ⟨ao, cap, h1, _⟩ := h
  have c1 := h1.cell (i := 1) rfl
  clear h1
  go_enter Try.func14, Try.ntmps14
  go_wp2_with fail
  go_ret
  exact ⟨rfl, rfl⟩
/-- A row of messages, read. -/
theorem FrsIs.view {w : World} {base : Nat} {t : TypeId} {v : Value} {fs : List Fr} (h : FrsIs w base t v fs) :
    ∃ ao cap, v = .slice ao fs.length cap ∧ ∀ i (hi : i < fs.length), ∃ g, ao = some ⟨g, 0, none⟩ ∧ base ≤ g ∧ ∃ ad cd, w.cell? ⟨g, i * 5, none⟩ = some (.int .i64 fs[i].t) ∧ w.cell? ⟨g, i * 5 + 1, none⟩ = some (.int .i64 fs[i].a) ∧ w.cell? ⟨g, i * 5 + 2, none⟩ = some (.int .i64 fs[i].b) ∧ w.cell? ⟨g, i * 5 + 3, none⟩ = some (.int .i64 fs[i].c) ∧
      w.cell? ⟨g, i * 5 + 4, none⟩ = some (.slice ad fs[i].data.length cd) ∧ Own w base (.slice ad fs[i].data.length cd) fs[i].data := by
  obtain ⟨cells, h1, h2⟩ := h
  have hcl := fun g hg => World.ownsRow.cells h1 (g := g) hg
  rcases h1.2 with ⟨rfl, hn⟩ | ⟨g, cap, cur, rfl, hb, _⟩
  · exact ⟨none, 0, by rw [hn], fun i hi => absurd hi (by omega)⟩
  · refine ⟨some ⟨g, 0, none⟩, cap, rfl, fun i hi => ⟨g, rfl, hb, ?_⟩⟩
    obtain ⟨ad, cd, e0, e1, e2, e3, e4, ho⟩ := h2 i hi
    have hadd : ∀ j, (⟨g, 0, none⟩ : Addr).add j = ⟨g, j, none⟩ := fun j => by unfold Addr.add; split <;> simp_all
    have hc := hcl g rfl
    simp only [hadd] at hc
    exact ⟨ad, cd, hc _ _ e0, hc _ _ e1, hc _ _ e2, hc _ _ e3, hc _ _ e4, ho⟩

def d1 : List UInt8 := [5, 0, 0, 0, 2, 7, 0, 0]
def d2 : List UInt8 := [0, 1]
def d3 : List UInt8 := [5, 0, 0, 0, 2, 7, 0, 0, 0, 1]
def one1 : List UInt8 := [1]
theorem law1 : runB d1 = ([], 0, d1, false) := by kernel_rfl
theorem law2 : runB d3 = ([⟨2, 7, 0, 0, []⟩], 0, one1, false) := by kernel_rfl
theorem d3_is : d3 = d1 ++ d2 := rfl
theorem add_d1 (g : Nat) (w : World) (h : PsIs w g 60 [] false) (a : Option Addr) (hb : Bytes w a d1) (hnil : a = none → 8 = 0) :
    Calls Try.prog 11 #[.pointer (some ⟨g, 0, none⟩), .slice a 8 8] w (Added g 60 39 ([], 0, d1, false) w) := by
  have h := add_whole g [] d1 d1 rfl w h a 8 8 rfl hb hnil (by decide)
  rw [law1] at h
  exact h
theorem add_d2 (g : Nat) (w : World) (h : PsIs w g 60 d1 false) (a : Option Addr) (hb : Bytes w a d2) (hnil : a = none → 2 = 0) :
    Calls Try.prog 11 #[.pointer (some ⟨g, 0, none⟩), .slice a 2 2] w (Added g 60 39 ([⟨2, 7, 0, 0, []⟩], 0, one1, false) w) := by
  have h := add_whole g d1 d2 d3 d3_is w h a 2 2 rfl hb hnil (by decide)
  rw [law2] at h
  exact h
theorem bytes_d1 (w : World) : Bytes (w.alloc (Obj.cells #[.int .u8 5, .int .u8 0, .int .u8 0, .int .u8 0, .int .u8 2, .int .u8 7, .int .u8 0, .int .u8 0] 5)) (some ⟨w.heap.size, 0, none⟩) d1 := Bytes.lit w d1 _ _ _ (by rfl)
theorem bytes_d2 (w : World) : Bytes (w.alloc (Obj.cells #[.int .u8 0, .int .u8 1] 5)) (some ⟨w.heap.size, 0, none⟩) d2 := Bytes.lit w d2 _ _ _ (by rfl)
theorem one1_len : one1.length = 1 := rfl
attribute [irreducible] d1 d2 d3 one1
set_option maxRecDepth 100000 in
set_option maxHeartbeats 1600000 in
theorem awake_any (w : World) : Calls Try.prog 9 #[] w fun e w' => e = .returned (.bool true) ∧ Below w.heap.size w w' := by
  go_enter Try.func9, Try.ntmps9
  go_wp2_with fail
  refine (new_any w).mono ?_
  rintro e w1 ⟨rfl, hps, hb1, hs1⟩
  have HPS := Lib.hid hps
  have HB1 := Lib.hid hb1
  have HS1 := Lib.hid hs1
  clear hps hb1 hs1
  go_wp2_with fail
  have HPS1 := Lib.hid (HPS.out.alloc (Obj.cells #[.int .u8 5, .int .u8 0, .int .u8 0, .int .u8 0, .int .u8 2, .int .u8 7, .int .u8 0, .int .u8 0] 5))
  have HBY1 := Lib.hid (bytes_d1 w1)
  have HBX1 := Lib.hid (HB1.out.alloc HB1.out.size (Obj.cells #[.int .u8 5, .int .u8 0, .int .u8 0, .int .u8 0, .int .u8 2, .int .u8 7, .int .u8 0, .int .u8 0] 5))
  refine (add_d1 w.heap.size _ HPS1.out (some ⟨w1.heap.size, 0, none⟩) HBY1.out (fun h => by cases h)).mono ?_
  rintro e w2 ⟨v2, rfl, hf2, hp2, hb2⟩
  obtain ⟨ao2, cap2, rfl, _⟩ := hf2.view
  have HP2 : Hid (PsIs w2 w.heap.size 60 d1 false) := Lib.hid hp2
  have HB2 : Hid (Below w.heap.size w w2) := Lib.hid (HBX1.out.trans (hb2.below (B' := w.heap.size) (by have := HBX1.out.size; omega) (Nat.le_refl _)))
  clear hf2 hp2 hb2 HPS HPS1 HBY1 HBX1 HB1 HS1
  go_wp2_with fail
  have HP3 := Lib.hid (HP2.out.alloc (Obj.cells #[.int .u8 0, .int .u8 1] 5))
  have HBY3 := Lib.hid (bytes_d2 w2)
  have HB3 := Lib.hid (HB2.out.alloc HB2.out.size (Obj.cells #[.int .u8 0, .int .u8 1] 5))
  refine (add_d2 w.heap.size _ HP3.out (some ⟨w2.heap.size, 0, none⟩) HBY3.out (fun h => by cases h)).mono ?_
  rintro e w4 ⟨v4, rfl, hf4, hp4, hb4⟩
  obtain ⟨ao4, cap4, rfl, hcells⟩ := hf4.view
  obtain ⟨g4, rfl, _, ad, cd, c0, c1, c2, c3, c4, _⟩ := hcells 0 (by decide)
  have HP4 : Hid (PsIs w4 w.heap.size 60 one1 false) := Lib.hid hp4
  have HB4 : Hid (Below w.heap.size w w4) := Lib.hid (HB3.out.trans (hb4.below (B' := w.heap.size) (by have := HB3.out.size; omega) (Nat.le_refl _)))
  have c0 : w4.cell? ⟨g4, 0, none⟩ = some (.int .i64 2) := c0
  have c1 : w4.cell? ⟨g4, 1, none⟩ = some (.int .i64 7) := c1
  have HH := Lib.hid (held_any w.heap.size one1 false w4 HP4.out)
  have HBR := Lib.hid (broken_any w.heap.size one1 false w4 HP4.out)
  rw [show one1.length = 1 from one1_len] at HH
  clear hf4 hp4 hb4 HP2 HB2 HP3 HBY3 HB3 hcells c2 c3 c4
  go_wp2_with fail
  refine HH.out.mono ?_
  rintro e w5 ⟨rfl, rfl⟩
  go_wp2_with fail
  refine HBR.out.mono ?_
  rintro e w5 ⟨rfl, rfl⟩
  go_wp2_with fail
  go_ret
  exact ⟨rfl, HB4.out⟩
end Go.Proofs.Ytmmppgkhlelbmaa.Fr
