/- The contract of FilterBack: true at any rows. No condition beyond what a slice is. -/
import Derived.Test.YtfkhdakeojhpaaaFiltW
namespace Go.Proofs.Ytfkhdakeojhpaaa.Fi
open Go.RowKit Ba

set_option maxRecDepth 100000 in
set_option maxHeartbeats 8000000 in
theorem back_small (a b : Option Addr) (ca cb n m : Nat) (row above : List UInt8) (hn : n = row.length) (hm : m = above.length) (h3 : n ≤ 3000) (hma : m = 0 ∨ m = n) (n0 n1 : Nat) (hn0 : n0 < 256) (hn1 : n1 < 256) (w : World) (hr : Bytes w a row) (ha : Bytes w b above) :
    Calls Try.prog 3 #[.slice a n ca, .slice b m cb, .agg #[.int .u8 n0, .int .u8 n1]] w fun e w' => e = .returned (.bool true) ∧ Below w.heap.size w w' := by
  have HN := Lib.hid hn
  have HM := Lib.hid hm
  have HMA := Lib.hid hma
  have HR := Lib.hid hr
  have HA := Lib.hid ha
  have hcase : (((m : Int) != 0) = false) ∨ (((m : Int) != 0) = true ∧ ((m : Int) != (n : Int)) = false) := by
    rw [bne_eq_false_iff_eq, bne_eq_false_iff_eq, bne_iff_ne]; omega
  obtain ⟨k, hke, hk5⟩ : ∃ k : Nat, (wrap64 (n0 : Int)).tmod 5 = (k : Int) ∧ k < 5 := by
    rw [show wrap64 (n0 : Int) = n0 by unfold wrap64; omega, Int.tmod_eq_emod_of_nonneg (by omega)]
    exact ⟨n0 % 5, by omega, by omega⟩
  obtain ⟨d, hde, hd1, hd8⟩ : ∃ d : Nat, wrap64 (1 + (wrap64 (n1 : Int)).tmod 8) = (d : Int) ∧ 1 ≤ d ∧ d ≤ 8 := by
    rw [show wrap64 (n1 : Int) = n1 by unfold wrap64; omega, Int.tmod_eq_emod_of_nonneg (by omega)]
    exact ⟨1 + n1 % 8, by unfold wrap64; omega, by omega, by omega⟩
  have HK := Lib.hid hke
  have HD := Lib.hid hde
  clear hn hm hma hr ha hke hde hn0 hn1
  have hw0 : Below w.heap.size w (w.alloc (Obj.cells #[Value.int .u8 n0, Value.int .u8 n1] 23)) := (Below.refl _ _).alloc (Nat.le_refl _) _
  have hc0 : (w.alloc (Obj.cells #[Value.int .u8 n0, Value.int .u8 n1] 23)).cell? ⟨w.heap.size, 0, none⟩ = some (.int .u8 n0) := World.cell?_alloc_mark w _ _ _ 0
  have hc1 : (w.alloc (Obj.cells #[Value.int .u8 n0, Value.int .u8 n1] 23)).cell? ⟨w.heap.size, 1, none⟩ = some (.int .u8 n1) := World.cell?_alloc_mark w _ _ _ 1
  have hsz0 : (w.alloc (Obj.cells #[Value.int .u8 n0, Value.int .u8 n1] 23)).heap.size = w.heap.size + 1 := by simp
  rcases hcase with q1 | ⟨q1, q2⟩
  all_goals
    go_enter Try.func3, Try.ntmps3
    go_wp2_with fail
    generalize (w.alloc (Obj.cells #[Value.int .u8 n0, Value.int .u8 n1] 23)) = w0 at *
    refine (awake_any _).mono ?_
    rintro e w1 ⟨rfl, hb1⟩
    have d0 := (hb1.cell (p := ⟨w.heap.size, 0, none⟩) (by simp; omega)).trans hc0
    have d1 := (hb1.cell (p := ⟨w.heap.size, 1, none⟩) (by simp; omega)).trans hc1
    have HB1 := Lib.hid (chain hw0 hb1)
    clear hb1 hw0 hc0 hc1
    go_wp2_with fail
    go_region
    all_goals
      go_wp2_with fail
      rw [HK.out, HD.out]
      have hR1 := HR.out.keep HB1.out
      have hA1 := HA.out.keep HB1.out
      have hrl : row.length ≤ 3000 := by have := HN.out; omega
      refine (do_yes k hk5 row above (by have := HN.out; omega) a b n m ca cb HN.out HM.out HMA.out d ⟨hd1, hd8⟩ w1.drew hR1 hA1).mono ?_
      rintro e w2 ⟨ao2, cap2, rfl, hb2, hby2, hcap2, hcm2, _⟩
      have HL2 : Hid ((doV k row above d).length = n) := Lib.hid (by rw [doV_length]; exact HN.out.symm)
      have hU := undo_do k row above d hd1
      have hV := do_undo k row above d hd1
      rw [HL2.out]
      generalize doV k row above d = bs at *
      have HU := Lib.hid hU
      have HBY2 := Lib.hid hby2
      have HB2 := Lib.hid (chain HB1.out.drew hb2)
      have HA2 := Lib.hid (Bytes.keep (w := w1.drew) hA1 hb2)
      have HR2 := Lib.hid (Bytes.keep (w := w1.drew) hR1 hb2)
      clear hU hby2 hb2 hR1 hA1
      go_wp2_with fail
      refine (undo_yes k hk5 bs above (by have := HL2.out; omega) ao2 b n m cap2 cb HL2.out.symm HM.out HMA.out d ⟨hd1, hd8⟩ _ HBY2.out HA2.out).mono ?_
      rintro e w3 ⟨ao3, cap3, rfl, hb3, hby3, hcap3, hcm3, _⟩
      have HL3 : Hid ((undoV k bs above d).length = n) := Lib.hid (by rw [undoV_length]; exact HL2.out)
      rw [HL3.out]
      rw [HU.out] at hby3
      have HBY3 := Lib.hid hby3
      have HB3 := Lib.hid (chain HB2.out hb3)
      have HA3 := Lib.hid (HA2.out.keep hb3)
      have HR3 := Lib.hid (HR2.out.keep hb3)
      clear hby3 hb3
      go_wp2_with fail
      refine (undo_yes k hk5 row above (by have := HN.out; omega) a b n m ca cb HN.out HM.out HMA.out d ⟨hd1, hd8⟩ _ HR3.out HA3.out).mono ?_
      rintro e w4 ⟨ao4, cap4, rfl, hb4, hby4, hcap4, hcm4, _⟩
      have HL4 : Hid ((undoV k row above d).length = n) := Lib.hid (by rw [undoV_length]; exact HN.out.symm)
      rw [HL4.out]
      generalize undoV k row above d = cs at *
      have HV := Lib.hid hV
      have HBY4 := Lib.hid hby4
      have HBY34 := Lib.hid (HBY3.out.keep hb4)
      have HB4 := Lib.hid (chain HB3.out hb4)
      have HA4 := Lib.hid (HA3.out.keep hb4)
      have HR4 := Lib.hid (HR3.out.keep hb4)
      clear hV hby4 hb4
      go_wp2_with fail
      refine (do_yes k hk5 cs above (by have := HL4.out; omega) ao4 b n m cap4 cb HL4.out.symm HM.out HMA.out d ⟨hd1, hd8⟩ _ HBY4.out HA4.out).mono ?_
      rintro e w5 ⟨ao5, cap5, rfl, hb5, hby5, hcap5, hcm5, _⟩
      have HL5 : Hid ((doV k cs above d).length = n) := Lib.hid (by rw [doV_length]; exact HL4.out)
      rw [HL5.out]
      rw [HV.out] at hby5
      have e1 := run_str ao5 n cap5 row HN.out w5 hby5
      have e2 := run_str ao3 n cap3 row HN.out w5 (HBY34.out.keep hb5)
      have e3 := run_str a n ca row HN.out w5 (HR4.out.keep hb5)
      have HB5 := Lib.hid (chain HB4.out hb5)
      obtain ⟨str, hstr⟩ : ∃ s : ByteArray, s = ⟨row.toArray⟩ := ⟨_, rfl⟩
      rw [← hstr] at e1 e2 e3
      have hss := str_refl str
      clear hstr
      clear hby5 hb5
      go_wp2_with fail
      all_goals
        go_ret
        exact ⟨rfl, HB5.out⟩

theorem back_big (a b : Option Addr) (ca cb n m : Nat) (hn : n ≤ maxLen) (h : 3000 < n ∨ ¬ (m = 0 ∨ m = n)) (n0 n1 : Int) (w : World) :
    Calls Try.prog 3 #[.slice a n ca, .slice b m cb, .agg #[.int .u8 n0, .int .u8 n1]] w fun e w' => e = .returned (.bool true) ∧ Below w.heap.size w w' := by
  unfold maxLen at hn
  have hcase : 3000 < n ∨ (¬ 3000 < n ∧ ((m : Int) != 0) = true ∧ ((m : Int) != (n : Int)) = true) := by
    rw [bne_iff_ne, bne_iff_ne]; omega
  clear h
  have hw0 : Below w.heap.size w (w.alloc (Obj.cells #[Value.int .u8 n0, Value.int .u8 n1] 23)) := (Below.refl _ _).alloc (Nat.le_refl _) _
  rcases hcase with h1 | ⟨h1, h2, h3⟩
  all_goals
    go_enter Try.func3, Try.ntmps3
    go_wp2_with fail
    generalize (w.alloc (Obj.cells #[Value.int .u8 n0, Value.int .u8 n1] 23)) = w0 at *
    refine (awake_any _).mono ?_
    rintro e w1 ⟨rfl, hb1⟩
    have HB1 := Lib.hid (chain hw0 hb1)
    clear hb1 hw0
    go_wp2_with fail
    go_ret
    exact ⟨rfl, HB1.out⟩
theorem back_any (a b : Option Addr) (ca cb : Nat) (row above : List UInt8) (hr : row.length ≤ maxLen) (n0 n1 : Nat) (hn0 : n0 < 256) (hn1 : n1 < 256) (w : World) (hbr : Bytes w a row) (hba : Bytes w b above) :
    Calls Try.prog 3 #[.slice a row.length ca, .slice b above.length cb, .agg #[.int .u8 n0, .int .u8 n1]] w fun e w' => e = .returned (.bool true) ∧ Below w.heap.size w w' := by
  by_cases h : 3000 < row.length ∨ ¬ (above.length = 0 ∨ above.length = row.length)
  · exact back_big a b ca cb _ _ hr h n0 n1 w
  · exact back_small a b ca cb _ _ row above rfl rfl (by omega) (by omega) n0 n1 hn0 hn1 w hbr hba
end Go.Proofs.Ytfkhdakeojhpaaa.Fi
