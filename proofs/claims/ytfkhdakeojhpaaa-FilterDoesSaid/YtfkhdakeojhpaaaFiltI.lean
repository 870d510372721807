/- The contract of FilterDoes: true at any rows. No condition beyond what a slice is. -/
import Derived.Test.YtfkhdakeojhpaaaFiltW
import Derived.Test.YtfkhdakeojhpaaaFiltG
import Derived.Deep.RegionHeld3
namespace Go.Proofs.Ytfkhdakeojhpaaa.Fi
open Go.RowKit Ba

/-- Both sides of a pair, whichever way it goes. -/
theorem may_both (k d : Int) (n m : Nat) : MayV k n m d ∨ ¬ MayV k n m d := Classical.em _

/-- What Do hands back, may it or may it not. -/
noncomputable def doR (k : Int) (row above : List UInt8) (d : Int) (n m : Nat) : List UInt8 := open Classical in if MayV k n m d then doV k.toNat row above d.toNat else []
noncomputable def undoR (k : Int) (row above : List UInt8) (d : Int) (n m : Nat) : List UInt8 := open Classical in if MayV k n m d then undoV k.toNat row above d.toNat else []
noncomputable def bestR (row above : List UInt8) (d : Int) (n m : Nat) : Nat := open Classical in if MayV 0 n m d then bestV (left row above d.toNat) else 0
noncomputable def okR (k d : Int) (n m : Nat) : Bool := open Classical in if MayV k n m d then true else false
theorem may_other (k d : Int) (n m : Nat) (h : MayV k n m d) : MayV 0 n m d := ⟨⟨by omega, by omega⟩, h.2⟩
theorem res_nil (w : World) : Res [] false w (.returned (.tuple #[.slice none 0 0, .bool false])) w := ⟨none, 0, rfl, Below.refl _ _, Bytes.nil _ _, Nat.le_refl _, by unfold maxLen; omega, fun _ => rfl⟩

theorem do_all (k d : Int) (row above : List UInt8) (hr : row.length ≤ 3000) (a b : Option Addr) (n m ca cb : Nat) (hn : n = row.length) (hm : m = above.length) (w : World) (hbr : Bytes w a row) (hba : Bytes w b above) :
    Calls Try.prog 8 #[.int .i64 k, .slice a n ca, .slice b m cb, .int .i64 d] w (Res (doR k row above d n m) (okR k d n m) w) := by
  by_cases h : MayV k n m d
  · unfold doR okR
    rw [if_pos h, if_pos h]
    obtain ⟨⟨k0, k1⟩, ⟨d0, d1⟩, hma⟩ := h
    have := do_yes k.toNat (by omega) row above (by omega) a b n m ca cb hn hm hma d.toNat (by omega) w hbr hba
    rw [Int.toNat_of_nonneg k0, Int.toNat_of_nonneg (by omega)] at this
    exact this
  · unfold doR okR
    rw [if_neg h, if_neg h]
    refine (do_no k d a b n m ca cb h w).mono ?_
    rintro e w' ⟨rfl, rfl⟩
    exact res_nil w
theorem undo_all (k d : Int) (row above : List UInt8) (hr : row.length ≤ 3000) (a b : Option Addr) (n m ca cb : Nat) (hn : n = row.length) (hm : m = above.length) (w : World) (hbr : Bytes w a row) (hba : Bytes w b above) :
    Calls Try.prog 9 #[.int .i64 k, .slice a n ca, .slice b m cb, .int .i64 d] w (Res (undoR k row above d n m) (okR k d n m) w) := by
  by_cases h : MayV k n m d
  · unfold undoR okR
    rw [if_pos h, if_pos h]
    obtain ⟨⟨k0, k1⟩, ⟨d0, d1⟩, hma⟩ := h
    have := undo_yes k.toNat (by omega) row above (by omega) a b n m ca cb hn hm hma d.toNat (by omega) w hbr hba
    rw [Int.toNat_of_nonneg k0, Int.toNat_of_nonneg (by omega)] at this
    exact this
  · unfold undoR okR
    rw [if_neg h, if_neg h]
    refine (undo_no k d a b n m ca cb h w).mono ?_
    rintro e w' ⟨rfl, rfl⟩
    exact res_nil w
theorem doRef_all (k d : Int) (row above : List UInt8) (hr : row.length ≤ 3000) (a b : Option Addr) (n m ca cb : Nat) (hn : n = row.length) (hm : m = above.length) (hnil : a = none → ca = 0) (w : World) (hbr : Bytes w a row) (hba : Bytes w b above) :
    Calls Try.prog 13 #[.int .i64 k, .slice a n ca, .slice b m cb, .int .i64 d] w (Res (doR k row above d n m) (okR k d n m) w) := by
  by_cases h : MayV k n m d
  · unfold doR okR
    rw [if_pos h, if_pos h]
    obtain ⟨⟨k0, k1⟩, ⟨d0, d1⟩, hma⟩ := h
    have := doRef_yes k.toNat (by omega) row above (by omega) a b n m ca cb hn hm hma hnil d.toNat (by omega) w hbr hba
    rw [Int.toNat_of_nonneg k0, Int.toNat_of_nonneg (by omega)] at this
    exact this
  · unfold doR okR
    rw [if_neg h, if_neg h]
    refine (doRef_no k d a b n m ca cb h w).mono ?_
    rintro e w' ⟨rfl, rfl⟩
    exact res_nil w
theorem undoRef_all (k d : Int) (row above : List UInt8) (hr : row.length ≤ 3000) (a b : Option Addr) (n m ca cb : Nat) (hn : n = row.length) (hm : m = above.length) (hnil : a = none → ca = 0) (w : World) (hbr : Bytes w a row) (hba : Bytes w b above) :
    Calls Try.prog 14 #[.int .i64 k, .slice a n ca, .slice b m cb, .int .i64 d] w (Res (undoR k row above d n m) (okR k d n m) w) := by
  by_cases h : MayV k n m d
  · unfold undoR okR
    rw [if_pos h, if_pos h]
    obtain ⟨⟨k0, k1⟩, ⟨d0, d1⟩, hma⟩ := h
    have := undoRef_yes k.toNat (by omega) row above (by omega) a b n m ca cb hn hm hma hnil d.toNat (by omega) w hbr hba
    rw [Int.toNat_of_nonneg k0, Int.toNat_of_nonneg (by omega)] at this
    exact this
  · unfold undoR okR
    rw [if_neg h, if_neg h]
    refine (undoRef_no k d a b n m ca cb h w).mono ?_
    rintro e w' ⟨rfl, rfl⟩
    exact res_nil w
theorem best_all (d : Int) (row above : List UInt8) (hr : row.length ≤ 3000) (a b : Option Addr) (n m ca cb : Nat) (hn : n = row.length) (hm : m = above.length) (w : World) (hbr : Bytes w a row) (hba : Bytes w b above) :
    Calls Try.prog 15 #[.slice a n ca, .slice b m cb, .int .i64 d] w fun e w' => e = .returned (.int .i64 (bestR row above d n m : Nat)) ∧ Below w.heap.size w w' := by
  by_cases h : MayV 0 n m d
  · unfold bestR
    rw [if_pos h]
    obtain ⟨_, ⟨d0, d1⟩, hma⟩ := h
    have := best_yes row above (by omega) a b n m ca cb hn hm hma d.toNat (by omega) w hbr hba
    rw [Int.toNat_of_nonneg (show 0 ≤ d by omega)] at this
    exact this
  · unfold bestR
    rw [if_neg h]
    exact best_no d a b n m ca cb (fun k hk => h (may_other k d n m hk)) w
theorem bestRef_all (d : Int) (row above : List UInt8) (hr : row.length ≤ 3000) (a b : Option Addr) (n m ca cb : Nat) (hn : n = row.length) (hm : m = above.length) (hnil : a = none → ca = 0) (w : World) (hbr : Bytes w a row) (hba : Bytes w b above) :
    Calls Try.prog 16 #[.slice a n ca, .slice b m cb, .int .i64 d] w fun e w' => e = .returned (.int .i64 (bestR row above d n m : Nat)) ∧ Below w.heap.size w w' := by
  by_cases h : MayV 0 n m d
  · unfold bestR
    rw [if_pos h]
    obtain ⟨_, ⟨d0, d1⟩, hma⟩ := h
    have := bestRef_yes row above (by omega) a b n m ca cb hn hm hma hnil d.toNat (by omega) w hbr hba
    rw [Int.toNat_of_nonneg (show 0 ≤ d by omega)] at this
    exact this
  · unfold bestR
    rw [if_neg h]
    exact bestRef_no d a b n m ca cb (fun k hk => h (may_other k d n m hk)) w

set_option maxRecDepth 100000 in
set_option maxHeartbeats 3200000 in
theorem does_small (a b : Option Addr) (ca cb n m : Nat) (row above : List UInt8) (hn : n = row.length) (hm : m = above.length) (h3 : n ≤ 3000) (h4 : m ≤ 3000) (hnil : a = none → ca = 0) (k d : Int) (w : World) (hr : Bytes w a row) (ha : Bytes w b above) :
    Calls Try.prog 5 #[.slice a n ca, .slice b m cb, .agg #[.int .i64 k, .int .i64 d]] w fun e w' => e = .returned (.bool true) ∧ Below w.heap.size w w' := by
  have D1 := Lib.hid (fun w h1 h2 => do_all k d row above (by omega) a b n m ca cb hn hm w h1 h2)
  have D2 := Lib.hid (fun w h1 h2 => doRef_all k d row above (by omega) a b n m ca cb hn hm hnil w h1 h2)
  have D3 := Lib.hid (fun w h1 h2 => undo_all k d row above (by omega) a b n m ca cb hn hm w h1 h2)
  have D4 := Lib.hid (fun w h1 h2 => undoRef_all k d row above (by omega) a b n m ca cb hn hm hnil w h1 h2)
  have D5 := Lib.hid (fun w h1 h2 => best_all d row above (by omega) a b n m ca cb hn hm w h1 h2)
  have D6 := Lib.hid (fun w h1 h2 => bestRef_all d row above (by omega) a b n m ca cb hn hm hnil w h1 h2)
  have HR := Lib.hid hr
  have HA := Lib.hid ha
  clear hn hm hnil hr ha
  generalize doR k row above d n m = xs at *
  generalize undoR k row above d n m = ys at *
  generalize okR k d n m = ok at *
  generalize bestR row above d n m = bb at *
  have hok : (ok == ok) = true := by cases ok <;> rfl
  have hbb : ((bb : Int) == (bb : Int)) = true := by simp
  have hw0 : Below w.heap.size w (w.alloc (Obj.cells #[Value.int .i64 k, Value.int .i64 d] 31)) := (Below.refl _ _).alloc (Nat.le_refl _) _
  have hc0 : (w.alloc (Obj.cells #[Value.int .i64 k, Value.int .i64 d] 31)).cell? ⟨w.heap.size, 0, none⟩ = some (.int .i64 k) := World.cell?_alloc_mark w _ _ _ 0
  have hc1 : (w.alloc (Obj.cells #[Value.int .i64 k, Value.int .i64 d] 31)).cell? ⟨w.heap.size, 1, none⟩ = some (.int .i64 d) := World.cell?_alloc_mark w _ _ _ 1
  have hsz0 : (w.alloc (Obj.cells #[Value.int .i64 k, Value.int .i64 d] 31)).heap.size = w.heap.size + 1 := by simp
  go_enter Try.func5, Try.ntmps5
  go_wp2_with fail
  generalize (w.alloc (Obj.cells #[Value.int .i64 k, Value.int .i64 d] 31)) = w0 at *
  refine (awake_any _).mono ?_
  rintro e w1 ⟨rfl, hb1⟩
  have d0 := (hb1.cell (p := ⟨w.heap.size, 0, none⟩) (by simp; omega)).trans hc0
  have d1 := (hb1.cell (p := ⟨w.heap.size, 1, none⟩) (by simp; omega)).trans hc1
  have s1 := hb1.size
  have HB1 := Lib.hid (chain hw0 hb1)
  clear hb1 hw0 hc0 hc1
  go_wp2_with fail
  refine (D1.out w1 (HR.out.keep HB1.out) (HA.out.keep HB1.out)).mono ?_
  rintro e w2 ⟨ao2, cap2, rfl, hb2, hby2, _, _, _⟩
  have e0 := (hb2.cell (p := ⟨w.heap.size, 0, none⟩) (by simp; omega)).trans d0
  have e1 := (hb2.cell (p := ⟨w.heap.size, 1, none⟩) (by simp; omega)).trans d1
  have s2 := hb2.size
  have HB2 := Lib.hid (chain HB1.out hb2)
  have HX2 := Lib.hid hby2
  clear d0 d1 hb2 hby2
  go_wp2_with fail
  refine (D2.out w2 (HR.out.keep HB2.out) (HA.out.keep HB2.out)).mono ?_
  rintro e w3 ⟨ao3, cap3, rfl, hb3, hby3, _, _, _⟩
  have f0 := (hb3.cell (p := ⟨w.heap.size, 0, none⟩) (by simp; omega)).trans e0
  have f1 := (hb3.cell (p := ⟨w.heap.size, 1, none⟩) (by simp; omega)).trans e1
  have s3 := hb3.size
  have HB3 := Lib.hid (chain HB2.out hb3)
  have HX23 := Lib.hid (HX2.out.keep hb3)
  have HX3 := Lib.hid hby3
  clear e0 e1 hb3 hby3
  go_wp2_with fail
  refine (D3.out w3 (HR.out.keep HB3.out) (HA.out.keep HB3.out)).mono ?_
  rintro e w4 ⟨ao4, cap4, rfl, hb4, hby4, _, _, _⟩
  have g0 := (hb4.cell (p := ⟨w.heap.size, 0, none⟩) (by simp; omega)).trans f0
  have g1 := (hb4.cell (p := ⟨w.heap.size, 1, none⟩) (by simp; omega)).trans f1
  have s4 := hb4.size
  have HB4 := Lib.hid (chain HB3.out hb4)
  have HX24 := Lib.hid (HX23.out.keep hb4)
  have HX34 := Lib.hid (HX3.out.keep hb4)
  have HX4 := Lib.hid hby4
  clear f0 f1 hb4 hby4
  go_wp2_with fail
  refine (D4.out w4 (HR.out.keep HB4.out) (HA.out.keep HB4.out)).mono ?_
  rintro e w5 ⟨ao5, cap5, rfl, hb5, hby5, _, _, _⟩
  have h0 := (hb5.cell (p := ⟨w.heap.size, 0, none⟩) (by simp; omega)).trans g0
  have h1 := (hb5.cell (p := ⟨w.heap.size, 1, none⟩) (by simp; omega)).trans g1
  have s5 := hb5.size
  have HB5 := Lib.hid (chain HB4.out hb5)
  have HX25 := Lib.hid (HX24.out.keep hb5)
  have HX35 := Lib.hid (HX34.out.keep hb5)
  have HX45 := Lib.hid (HX4.out.keep hb5)
  have HX5 := Lib.hid hby5
  clear g0 g1 hb5 hby5
  obtain ⟨s1, hs1⟩ : ∃ s : ByteArray, s = ⟨xs.toArray⟩ := ⟨_, rfl⟩
  obtain ⟨s2, hs2⟩ : ∃ s : ByteArray, s = ⟨ys.toArray⟩ := ⟨_, rfl⟩
  have t1 := str_refl s1
  have t2 := str_refl s2
  have HS : Hid (∀ w6 : World, Below w5.heap.size w5 w6 → (fun w' => w'.cell? ⟨w.heap.size, 1, none⟩ = some (.int .i64 d) ∧ (convert 22 9 (.slice ao2 xs.length cap2)).run Try.prog w' = .ok (.string s1) w' ∧ (convert 22 9 (.slice ao3 xs.length cap3)).run Try.prog w' = .ok (.string s1) w' ∧ (convert 22 9 (.slice ao4 ys.length cap4)).run Try.prog w' = .ok (.string s2) w' ∧ (convert 22 9 (.slice ao5 ys.length cap5)).run Try.prog w' = .ok (.string s2) w') w6) := Lib.hid (fun w6 hb => by
    show _ ∧ _ ∧ _ ∧ _ ∧ _
    rw [hs1, hs2]
    exact ⟨(hb.cell (p := ⟨w.heap.size, 1, none⟩) (by simp; omega)).trans h1, run_str ao2 _ cap2 xs rfl w6 (HX25.out.keep hb), run_str ao3 _ cap3 xs rfl w6 (HX35.out.keep hb), run_str ao4 _ cap4 ys rfl w6 (HX45.out.keep hb), run_str ao5 _ cap5 ys rfl w6 (HX5.out.keep hb)⟩)
  clear hs1 hs2 h0 h1
  go_wp2_with fail
  have hS5 := HS.out w5.drew ((Below.refl _ _).drew)
  go_region_held3 (fun w' => w'.cell? ⟨w.heap.size, 1, none⟩ = some (.int .i64 d) ∧ (convert 22 9 (.slice ao2 xs.length cap2)).run Try.prog w' = .ok (.string s1) w' ∧ (convert 22 9 (.slice ao3 xs.length cap3)).run Try.prog w' = .ok (.string s1) w' ∧ (convert 22 9 (.slice ao4 ys.length cap4)).run Try.prog w' = .ok (.string s2) w' ∧ (convert 22 9 (.slice ao5 ys.length cap5)).run Try.prog w' = .ok (.string s2) w') (first | exact hS5 | exact hS6 | exact hS7)
    (first
      | (go_at_call 15; refine (D5.out _ (Bytes.keep (w := w5) (HR.out.keep HB5.out) ((Below.refl _ _).drew)) (Bytes.keep (w := w5) (HA.out.keep HB5.out) ((Below.refl _ _).drew))).mono ?_; rintro e w6 ⟨rfl, hb6⟩; have hb56 : Below w5.heap.size w5 w6 := (Below.refl w5.heap.size w5).drew.trans hb6; have hS6 := HS.out w6 hb56)
      | (go_at_call 16; refine (D6.out _ (Bytes.keep (w := w5) (HR.out.keep HB5.out) hb56) (Bytes.keep (w := w5) (HA.out.keep HB5.out) hb56)).mono ?_; rintro e w7 ⟨rfl, hb7⟩; have hb57 : Below w5.heap.size w5 w7 := hb56.trans (hb7.mono hb56.size); have hS7 := HS.out w7 hb57))
  all_goals
    go_wp2_with fail
    go_ret
    exact ⟨rfl, chain HB5.out hb57⟩

set_option maxRecDepth 100000 in
theorem does_big (a b : Option Addr) (ca cb n m : Nat) (hn : n ≤ maxLen) (hm : m ≤ maxLen) (h : 3000 < n ∨ 3000 < m) (k d : Int) (w : World) :
    Calls Try.prog 5 #[.slice a n ca, .slice b m cb, .agg #[.int .i64 k, .int .i64 d]] w fun e w' => e = .returned (.bool true) ∧ Below w.heap.size w w' := by
  unfold maxLen at hn hm
  have hcase : 3000 < n ∨ (¬ 3000 < n ∧ 3000 < m) := by omega
  clear h
  have hw0 : Below w.heap.size w (w.alloc (Obj.cells #[Value.int .i64 k, Value.int .i64 d] 31)) := (Below.refl _ _).alloc (Nat.le_refl _) _
  rcases hcase with h1 | ⟨h1, h2⟩
  all_goals
    go_enter Try.func5, Try.ntmps5
    go_wp2_with fail
    generalize (w.alloc (Obj.cells #[Value.int .i64 k, Value.int .i64 d] 31)) = w0 at *
    refine (awake_any _).mono ?_
    rintro e w1 ⟨rfl, hb1⟩
    have HB1 := Lib.hid (chain hw0 hb1)
    clear hb1 hw0
    go_wp2_with fail
    go_ret
    exact ⟨rfl, HB1.out⟩
theorem does_any (a b : Option Addr) (ca cb : Nat) (row above : List UInt8) (hr : row.length ≤ maxLen) (ha : above.length ≤ maxLen) (hnil : a = none → ca = 0) (k d : Int) (w : World) (hbr : Bytes w a row) (hba : Bytes w b above) :
    Calls Try.prog 5 #[.slice a row.length ca, .slice b above.length cb, .agg #[.int .i64 k, .int .i64 d]] w fun e w' => e = .returned (.bool true) ∧ Below w.heap.size w w' := by
  by_cases h : 3000 < row.length ∨ 3000 < above.length
  · exact does_big a b ca cb _ _ hr ha h k d w
  · exact does_small a b ca cb _ _ row above rfl rfl (by omega) (by omega) hnil k d w hbr hba
end Go.Proofs.Ytfkhdakeojhpaaa.Fi
