/- The contract of LedgerPlays: it returns true at any quota and any deeds. No condition beyond what a slice is. -/
import Derived.Test.YtclgjfmgohbmbaaLedgerC
import Derived.Deep.RegionWith
import Derived.Deep.RegionHeld3
import Derived.Deep.DeepCutAuto
import Derived.Deep.CutBlock
import Derived.WalkSpells
namespace Go.Proofs.Ytclgjfmgohbmbaa.Le
open Go.RowKit Ba

/-- A deed's three numbers. -/
structure Dd where
  d : Int
  who : Int
  n : Int
def Dd.ok (x : Dd) : Prop := (-9223372036854775808 ≤ x.d ∧ x.d ≤ 9223372036854775807) ∧ (-9223372036854775808 ≤ x.who ∧ x.who ≤ 9223372036854775807) ∧ (-9223372036854775808 ≤ x.n ∧ x.n ≤ 9223372036854775807)
/-- The slice at 'a' holds the deeds D 0 .. D (n - 1). -/
def Deeds (w : World) (a : Option Addr) (D : Nat → Dd) (n : Nat) : Prop :=
  ∀ i, i < n → ∃ b off, a = some ⟨b, off, none⟩ ∧ w.cell? ⟨b, off + i * 3, none⟩ = some (.int .i64 (D i).d) ∧ w.cell? ⟨b, off + i * 3 + 1, none⟩ = some (.int .i64 (D i).who) ∧ w.cell? ⟨b, off + i * 3 + 2, none⟩ = some (.int .i64 (D i).n) ∧ (D i).ok
theorem Deeds.keep {w w' : World} {a : Option Addr} {D : Nat → Dd} {n : Nat} (h : Deeds w a D n) (hb : Below w.heap.size w w') : Deeds w' a D n := by
  intro i hi
  obtain ⟨b, off, rfl, c0, c1, c2, ok⟩ := h i hi
  have hlt := cell_lt (a := ⟨b, off + i * 3, none⟩) c0
  exact ⟨b, off, rfl, (hb.cell (p := ⟨b, off + i * 3, none⟩) hlt).trans c0, (hb.cell (p := ⟨b, off + i * 3 + 1, none⟩) hlt).trans c1, (hb.cell (p := ⟨b, off + i * 3 + 2, none⟩) hlt).trans c2, ok⟩

/-- What a deed makes of what each has. -/
def doH (q : Int) (h : Nat → Int) (x : Dd) : Nat → Int :=
  if x.d = 0 ∨ x.d = 1 ∨ x.d = 2 then takeH q h x.who x.n else if x.d = 3 ∨ x.d = 4 then giveH h x.who x.n else if x.d = 5 then clearH h x.who else h

set_option maxRecDepth 100000 in
set_option maxHeartbeats 1600000 in
theorem plays_small (q0 : Int) (hq0 : -9223372036854775808 ≤ q0) (hq1 : q0 ≤ 9223372036854775807) (a : Option Addr) (n cap : Nat) (hn : n ≤ 200) (D : Nat → Dd) (w : World) (hd : Deeds w a D n) :
    Calls Try.prog 3 #[.int .i64 q0, .slice a n cap] w fun e w' => e = .returned (.bool true) ∧ Below w.heap.size w w' := by
  have HD := Lib.hid hd
  clear hd
  go_enter Try.func3, Try.ntmps3
  go_wp2_with fail
  refine (awake_any _).mono ?_
  rintro e w1 ⟨rfl, hb1⟩
  have HB1 := Lib.hid hb1
  clear hb1
  go_wp2_with fail
  refine (new_any q0 hq0 hq1 _).mono ?_
  rintro e w2 ⟨rfl, hb2, hs2, hr2⟩
  go_wp2_with fail
  refine (newRef_any q0 hq0 hq1 _).mono ?_
  rintro e w3 ⟨rfl, hb3, hs3, hr3⟩
  have hr2' := hr2.of_block (hb3.block _ (by omega))
  rw [hs2] at hr3 hs3 ⊢
  have FQ := Lib.hid (quota_fit q0)
  generalize quotaOf q0 = q at *
  have HB2 := Lib.hid (chain hb2 hb3)
  have hz : w3.heap.size = w1.heap.size + 2 := by omega
  clear hb2 hb3 hr2
  have hb0 : Below w1.heap.size w3 w3 := Below.refl _ _
  go_wp2_with fail
  go_loopw [7, 8, 9, 10] (fun i _ _ _ wr => ∃ k : Nat, k ≤ n ∧ i = .int .i64 k ∧ Below w1.heap.size w3 wr ∧ ∃ h, Hid (Fit q h) ∧ wr.rowIs w1.heap.size 43 9 (ledF q h) ∧ wr.rowIs (w1.heap.size + 1) 36 9 (ledF q h)) (fun i _ _ _ _ => n - (intOf i).toNat)
  case atStart => exact ⟨0, by omega, rfl, hb0, _, FQ, hr2', hr3⟩
  case round =>
    obtain ⟨k, hk, rfl, hbr, h, HF, hx, hm⟩ := hrel
    clear hb0 hr2' hr3
    by_cases hlt : k < n
    · have hbw : Below w.heap.size w wr := (chain HB1.out HB2.out).trans (hbr.mono HB1.out.size)
      obtain ⟨ba, oa, rfl, c0, c1, c2, hok⟩ := (HD.out.keep hbw) k hlt
      have hsz := hbr.size
      clear hbw
      generalize D k = x at *
      obtain ⟨xd, xw, xn⟩ := x
      dsimp only at c0 c1 c2
      obtain ⟨⟨o1, o2⟩, ⟨o3, o4⟩, ⟨o5, o6⟩⟩ := hok
      dsimp only at o1 o2 o3 o4 o5 o6
      go_upto_block 2 with (fail)
      have hb4 : Below w1.heap.size w3 (wr.alloc (Obj.cells #[Value.int .i64 xd, Value.int .i64 xw, Value.int .i64 xn] 29)) := hbr.alloc (by omega) _
      have hx4 := hx.alloc (Obj.cells #[Value.int .i64 xd, Value.int .i64 xw, Value.int .i64 xn] 29)
      have hm4 := hm.alloc (Obj.cells #[Value.int .i64 xd, Value.int .i64 xw, Value.int .i64 xn] 29)
      have e1 : (wr.alloc (Obj.cells #[Value.int .i64 xd, Value.int .i64 xw, Value.int .i64 xn] 29)).cell? ⟨wr.heap.size, 1, none⟩ = some (.int .i64 xw) := World.cell?_alloc_mark wr _ _ _ 1
      have e2 : (wr.alloc (Obj.cells #[Value.int .i64 xd, Value.int .i64 xw, Value.int .i64 xn] 29)).cell? ⟨wr.heap.size, 2, none⟩ = some (.int .i64 xn) := World.cell?_alloc_mark wr _ _ _ 2
      generalize (wr.alloc (Obj.cells #[Value.int .i64 xd, Value.int .i64 xw, Value.int .i64 xn] 29)) = w4 at *
      clear hbr hx hm c0 c1 c2
      have HB4 := Lib.hid hb4
      have HX4 := Lib.hid hx4
      have HM4 := Lib.hid hm4
      have HS4 : Hid (w4.cell? ⟨wr.heap.size, 1, none⟩ = some (.int .i64 xw) ∧ w4.cell? ⟨wr.heap.size, 2, none⟩ = some (.int .i64 xn)) := ⟨e1, e2⟩
      clear hb4 hx4 hm4 e1 e2
      go_cut [9] (fun s9 wx => s9 = .bool true ∧ Hid (Below w1.heap.size w3 wx) ∧ ∃ h', Hid (Fit q h') ∧ Hid (wx.rowIs w1.heap.size 43 9 (ledF q h')) ∧ Hid (wx.rowIs (w1.heap.size + 1) 36 9 (ledF q h')))
      case first =>
        by_cases kk0 : xd = 0
        · skip
          have t0 : (xd == 0) = true := by rw [beq_iff_eq]; exact kk0
          clear kk0
          go_wp2_with fail
          go_region_held3 (fun w' => w'.cell? ⟨wr.heap.size, 1, none⟩ = some (.int .i64 xw) ∧ w'.cell? ⟨wr.heap.size, 2, none⟩ = some (.int .i64 xn)) (first | exact HS4.out | exact hS5 | exact hS6 | go_keep)
            (first
              | (go_at_call 8; refine (take_any _ q h HF.out xw xn o5 o6 _ ?_).mono ?_; exact HX4.out; rintro e w5 ⟨rfl, ho5, hr5⟩; have hm5 := HM4.out.of_block (ho5.block (w1.heap.size + 1) (by omega)); have hS5 : w5.cell? ⟨wr.heap.size, 1, none⟩ = some (.int .i64 xw) ∧ w5.cell? ⟨wr.heap.size, 2, none⟩ = some (.int .i64 xn) := ⟨(ho5.cell (p := ⟨wr.heap.size, 1, none⟩) (by simp; omega)).trans HS4.out.1, (ho5.cell (p := ⟨wr.heap.size, 2, none⟩) (by simp; omega)).trans HS4.out.2⟩)
              | (go_at_call 9; refine (takeRef_any _ q h HF.out xw xn o5 o6 _ ?_).mono ?_; exact hm5; rintro e w6 ⟨rfl, ho6, hr6⟩; have hx6 := hr5.of_block (ho6.block w1.heap.size (by omega)); have hS6 : w6.cell? ⟨wr.heap.size, 1, none⟩ = some (.int .i64 xw) ∧ w6.cell? ⟨wr.heap.size, 2, none⟩ = some (.int .i64 xn) := ⟨(ho6.cell (p := ⟨wr.heap.size, 1, none⟩) (by simp; omega)).trans hS5.1, (ho6.cell (p := ⟨wr.heap.size, 2, none⟩) (by simp; omega)).trans hS5.2⟩))
          go_wp2_with fail
          go_meet
          exact ⟨by simp, HB4.out.drew.trans ((ho5.below (Nat.le_refl _)).trans (ho6.below (by omega))), _, HF.out.take xw xn, hx6, hr6⟩
        · skip
          by_cases kk1 : xd = 1
          · skip
            have t0 : (xd == 0) = false := by rw [beq_eq_false_iff_ne]; omega
            have t1 : (xd == 1) = true := by rw [beq_iff_eq]; exact kk1
            clear kk0 kk1
            go_wp2_with fail
            go_region_held3 (fun w' => w'.cell? ⟨wr.heap.size, 1, none⟩ = some (.int .i64 xw) ∧ w'.cell? ⟨wr.heap.size, 2, none⟩ = some (.int .i64 xn)) (first | exact HS4.out | exact hS5 | exact hS6 | go_keep)
              (first
                | (go_at_call 8; refine (take_any _ q h HF.out xw xn o5 o6 _ ?_).mono ?_; exact HX4.out; rintro e w5 ⟨rfl, ho5, hr5⟩; have hm5 := HM4.out.of_block (ho5.block (w1.heap.size + 1) (by omega)); have hS5 : w5.cell? ⟨wr.heap.size, 1, none⟩ = some (.int .i64 xw) ∧ w5.cell? ⟨wr.heap.size, 2, none⟩ = some (.int .i64 xn) := ⟨(ho5.cell (p := ⟨wr.heap.size, 1, none⟩) (by simp; omega)).trans HS4.out.1, (ho5.cell (p := ⟨wr.heap.size, 2, none⟩) (by simp; omega)).trans HS4.out.2⟩)
                | (go_at_call 9; refine (takeRef_any _ q h HF.out xw xn o5 o6 _ ?_).mono ?_; exact hm5; rintro e w6 ⟨rfl, ho6, hr6⟩; have hx6 := hr5.of_block (ho6.block w1.heap.size (by omega)); have hS6 : w6.cell? ⟨wr.heap.size, 1, none⟩ = some (.int .i64 xw) ∧ w6.cell? ⟨wr.heap.size, 2, none⟩ = some (.int .i64 xn) := ⟨(ho6.cell (p := ⟨wr.heap.size, 1, none⟩) (by simp; omega)).trans hS5.1, (ho6.cell (p := ⟨wr.heap.size, 2, none⟩) (by simp; omega)).trans hS5.2⟩))
            go_wp2_with fail
            go_meet
            exact ⟨by simp, HB4.out.drew.trans ((ho5.below (Nat.le_refl _)).trans (ho6.below (by omega))), _, HF.out.take xw xn, hx6, hr6⟩
          · skip
            by_cases kk2 : xd = 2
            · skip
              have t0 : (xd == 0) = false := by rw [beq_eq_false_iff_ne]; omega
              have t1 : (xd == 1) = false := by rw [beq_eq_false_iff_ne]; omega
              have t2 : (xd == 2) = true := by rw [beq_iff_eq]; exact kk2
              clear kk0 kk1 kk2
              go_wp2_with fail
              go_region_held3 (fun w' => w'.cell? ⟨wr.heap.size, 1, none⟩ = some (.int .i64 xw) ∧ w'.cell? ⟨wr.heap.size, 2, none⟩ = some (.int .i64 xn)) (first | exact HS4.out | exact hS5 | exact hS6 | go_keep)
                (first
                  | (go_at_call 8; refine (take_any _ q h HF.out xw xn o5 o6 _ ?_).mono ?_; exact HX4.out; rintro e w5 ⟨rfl, ho5, hr5⟩; have hm5 := HM4.out.of_block (ho5.block (w1.heap.size + 1) (by omega)); have hS5 : w5.cell? ⟨wr.heap.size, 1, none⟩ = some (.int .i64 xw) ∧ w5.cell? ⟨wr.heap.size, 2, none⟩ = some (.int .i64 xn) := ⟨(ho5.cell (p := ⟨wr.heap.size, 1, none⟩) (by simp; omega)).trans HS4.out.1, (ho5.cell (p := ⟨wr.heap.size, 2, none⟩) (by simp; omega)).trans HS4.out.2⟩)
                  | (go_at_call 9; refine (takeRef_any _ q h HF.out xw xn o5 o6 _ ?_).mono ?_; exact hm5; rintro e w6 ⟨rfl, ho6, hr6⟩; have hx6 := hr5.of_block (ho6.block w1.heap.size (by omega)); have hS6 : w6.cell? ⟨wr.heap.size, 1, none⟩ = some (.int .i64 xw) ∧ w6.cell? ⟨wr.heap.size, 2, none⟩ = some (.int .i64 xn) := ⟨(ho6.cell (p := ⟨wr.heap.size, 1, none⟩) (by simp; omega)).trans hS5.1, (ho6.cell (p := ⟨wr.heap.size, 2, none⟩) (by simp; omega)).trans hS5.2⟩))
              go_wp2_with fail
              go_meet
              exact ⟨by simp, HB4.out.drew.trans ((ho5.below (Nat.le_refl _)).trans (ho6.below (by omega))), _, HF.out.take xw xn, hx6, hr6⟩
            · skip
              by_cases kk3 : xd = 3
              · skip
                have t0 : (xd == 0) = false := by rw [beq_eq_false_iff_ne]; omega
                have t1 : (xd == 1) = false := by rw [beq_eq_false_iff_ne]; omega
                have t2 : (xd == 2) = false := by rw [beq_eq_false_iff_ne]; omega
                have t3 : (xd == 3) = true := by rw [beq_iff_eq]; exact kk3
                clear kk0 kk1 kk2 kk3
                go_wp2_with fail
                go_region_held3 (fun w' => w'.cell? ⟨wr.heap.size, 1, none⟩ = some (.int .i64 xw) ∧ w'.cell? ⟨wr.heap.size, 2, none⟩ = some (.int .i64 xn)) (first | exact HS4.out | exact hS5 | exact hS6 | go_keep)
                  (first
                    | (go_at_call 10; refine (give_any _ q h HF.out xw xn o5 o6 _ ?_).mono ?_; exact HX4.out; rintro e w5 ⟨rfl, ho5, hr5⟩; have hm5 := HM4.out.of_block (ho5.block (w1.heap.size + 1) (by omega)); have hS5 : w5.cell? ⟨wr.heap.size, 1, none⟩ = some (.int .i64 xw) ∧ w5.cell? ⟨wr.heap.size, 2, none⟩ = some (.int .i64 xn) := ⟨(ho5.cell (p := ⟨wr.heap.size, 1, none⟩) (by simp; omega)).trans HS4.out.1, (ho5.cell (p := ⟨wr.heap.size, 2, none⟩) (by simp; omega)).trans HS4.out.2⟩)
                    | (go_at_call 11; refine (giveRef_any _ q h HF.out xw xn o5 o6 _ ?_).mono ?_; exact hm5; rintro e w6 ⟨rfl, ho6, hr6⟩; have hx6 := hr5.of_block (ho6.block w1.heap.size (by omega)); have hS6 : w6.cell? ⟨wr.heap.size, 1, none⟩ = some (.int .i64 xw) ∧ w6.cell? ⟨wr.heap.size, 2, none⟩ = some (.int .i64 xn) := ⟨(ho6.cell (p := ⟨wr.heap.size, 1, none⟩) (by simp; omega)).trans hS5.1, (ho6.cell (p := ⟨wr.heap.size, 2, none⟩) (by simp; omega)).trans hS5.2⟩))
                go_wp2_with fail
                go_meet
                exact ⟨by simp, HB4.out.drew.trans ((ho5.below (Nat.le_refl _)).trans (ho6.below (by omega))), _, HF.out.give xw xn, hx6, hr6⟩
              · skip
                by_cases kk4 : xd = 4
                · skip
                  have t0 : (xd == 0) = false := by rw [beq_eq_false_iff_ne]; omega
                  have t1 : (xd == 1) = false := by rw [beq_eq_false_iff_ne]; omega
                  have t2 : (xd == 2) = false := by rw [beq_eq_false_iff_ne]; omega
                  have t3 : (xd == 3) = false := by rw [beq_eq_false_iff_ne]; omega
                  have t4 : (xd == 4) = true := by rw [beq_iff_eq]; exact kk4
                  clear kk0 kk1 kk2 kk3 kk4
                  go_wp2_with fail
                  go_region_held3 (fun w' => w'.cell? ⟨wr.heap.size, 1, none⟩ = some (.int .i64 xw) ∧ w'.cell? ⟨wr.heap.size, 2, none⟩ = some (.int .i64 xn)) (first | exact HS4.out | exact hS5 | exact hS6 | go_keep)
                    (first
                      | (go_at_call 10; refine (give_any _ q h HF.out xw xn o5 o6 _ ?_).mono ?_; exact HX4.out; rintro e w5 ⟨rfl, ho5, hr5⟩; have hm5 := HM4.out.of_block (ho5.block (w1.heap.size + 1) (by omega)); have hS5 : w5.cell? ⟨wr.heap.size, 1, none⟩ = some (.int .i64 xw) ∧ w5.cell? ⟨wr.heap.size, 2, none⟩ = some (.int .i64 xn) := ⟨(ho5.cell (p := ⟨wr.heap.size, 1, none⟩) (by simp; omega)).trans HS4.out.1, (ho5.cell (p := ⟨wr.heap.size, 2, none⟩) (by simp; omega)).trans HS4.out.2⟩)
                      | (go_at_call 11; refine (giveRef_any _ q h HF.out xw xn o5 o6 _ ?_).mono ?_; exact hm5; rintro e w6 ⟨rfl, ho6, hr6⟩; have hx6 := hr5.of_block (ho6.block w1.heap.size (by omega)); have hS6 : w6.cell? ⟨wr.heap.size, 1, none⟩ = some (.int .i64 xw) ∧ w6.cell? ⟨wr.heap.size, 2, none⟩ = some (.int .i64 xn) := ⟨(ho6.cell (p := ⟨wr.heap.size, 1, none⟩) (by simp; omega)).trans hS5.1, (ho6.cell (p := ⟨wr.heap.size, 2, none⟩) (by simp; omega)).trans hS5.2⟩))
                  go_wp2_with fail
                  go_meet
                  exact ⟨by simp, HB4.out.drew.trans ((ho5.below (Nat.le_refl _)).trans (ho6.below (by omega))), _, HF.out.give xw xn, hx6, hr6⟩
                · skip
                  by_cases kk5 : xd = 5
                  · skip
                    have t0 : (xd == 0) = false := by rw [beq_eq_false_iff_ne]; omega
                    have t1 : (xd == 1) = false := by rw [beq_eq_false_iff_ne]; omega
                    have t2 : (xd == 2) = false := by rw [beq_eq_false_iff_ne]; omega
                    have t3 : (xd == 3) = false := by rw [beq_eq_false_iff_ne]; omega
                    have t4 : (xd == 4) = false := by rw [beq_eq_false_iff_ne]; omega
                    have t5 : (xd == 5) = true := by rw [beq_iff_eq]; exact kk5
                    clear kk0 kk1 kk2 kk3 kk4 kk5
                    go_wp2_with fail
                    go_region_held3 (fun w' => w'.cell? ⟨wr.heap.size, 1, none⟩ = some (.int .i64 xw) ∧ w'.cell? ⟨wr.heap.size, 2, none⟩ = some (.int .i64 xn)) (first | exact HS4.out | exact hS5 | exact hS6 | go_keep)
                      (first
                        | (go_at_call 12; refine (clear_any _ q h HF.out xw _ ?_).mono ?_; exact HX4.out; rintro e w5 ⟨rfl, ho5, hr5⟩; have hm5 := HM4.out.of_block (ho5.block (w1.heap.size + 1) (by omega)); have hS5 : w5.cell? ⟨wr.heap.size, 1, none⟩ = some (.int .i64 xw) ∧ w5.cell? ⟨wr.heap.size, 2, none⟩ = some (.int .i64 xn) := ⟨(ho5.cell (p := ⟨wr.heap.size, 1, none⟩) (by simp; omega)).trans HS4.out.1, (ho5.cell (p := ⟨wr.heap.size, 2, none⟩) (by simp; omega)).trans HS4.out.2⟩)
                        | (go_at_call 13; refine (clearRef_any _ q h xw _ ?_).mono ?_; exact hm5; rintro e w6 ⟨rfl, ho6, hr6⟩; have hx6 := hr5.of_block (ho6.block w1.heap.size (by omega)); have hS6 : w6.cell? ⟨wr.heap.size, 1, none⟩ = some (.int .i64 xw) ∧ w6.cell? ⟨wr.heap.size, 2, none⟩ = some (.int .i64 xn) := ⟨(ho6.cell (p := ⟨wr.heap.size, 1, none⟩) (by simp; omega)).trans hS5.1, (ho6.cell (p := ⟨wr.heap.size, 2, none⟩) (by simp; omega)).trans hS5.2⟩))
                    go_wp2_with fail
                    go_meet
                    exact ⟨by simp, HB4.out.drew.trans ((ho5.below (Nat.le_refl _)).trans (ho6.below (by omega))), _, HF.out.clear xw, hx6, hr6⟩
                  · skip
                    have t0 : (xd == 0) = false := by rw [beq_eq_false_iff_ne]; omega
                    have t1 : (xd == 1) = false := by rw [beq_eq_false_iff_ne]; omega
                    have t2 : (xd == 2) = false := by rw [beq_eq_false_iff_ne]; omega
                    have t3 : (xd == 3) = false := by rw [beq_eq_false_iff_ne]; omega
                    have t4 : (xd == 4) = false := by rw [beq_eq_false_iff_ne]; omega
                    have t5 : (xd == 5) = false := by rw [beq_eq_false_iff_ne]; omega
                    clear kk0 kk1 kk2 kk3 kk4 kk5
                    go_wp2_with fail
                    go_meet
                    exact ⟨rfl, HB4.out, h, HF, HX4.out, HM4.out⟩
      case rest =>
        obtain ⟨rfl, HBc, h', HF', HXc, HMc⟩ := hcut
        clear HB4 HX4 HM4 HS4
        go_wp2_with fail
        obtain ⟨wo, hwo⟩ : ∃ wo : World, wo = wr := ⟨_, rfl⟩
        subst hwo
        go_loopw [9, 10] (fun ok j wj => ∃ m : Nat, m ≤ 8 ∧ j = .int .i64 m ∧ ok = .bool true ∧ Hid (Below w1.heap.size w3 wj) ∧ Hid (wj.rowIs w1.heap.size 43 9 (ledF q h')) ∧ Hid (wj.rowIs (w1.heap.size + 1) 36 9 (ledF q h'))) (fun _ j _ => 8 - (intOf j).toNat)
        case atStart => exact ⟨0, by omega, rfl, rfl, HBc, HXc, HMc⟩
        case round =>
          obtain ⟨m, hm8, rfl, rfl, HBj, HXj, HMj⟩ := hrel
          clear HBc HXc HMc
          by_cases h8 : m = 8
          · obtain rfl := h8
            have H1 := Lib.hid (total_is HF'.out rfl HXj.out)
            have H2 := Lib.hid (totalRef_any _ q h' HF'.out wr HMj.out)
            have H3 := Lib.hid (has_is (who := -1) (r := 0) (by unfold hasV; rw [if_neg (by unfold Valid; omega)]) HXj.out)
            have H4 := Lib.hid (has_is (who := 8) (r := 0) (by unfold hasV; rw [if_neg (by unfold Valid; omega)]) HXj.out)
            generalize sumTo h' 8 = sm at *
            have t0 : (sm != sm) = false := by simp
            go_wp2_with fail
            refine H1.out.mono ?_
            rintro e w' ⟨rfl, rfl⟩
            go_wp2_with fail
            refine H2.out.mono ?_
            rintro e w' ⟨rfl, rfl⟩
            go_wp2_with fail
            refine H3.out.mono ?_
            rintro e w' ⟨rfl, rfl⟩
            go_wp2_with fail
            refine H4.out.mono ?_
            rintro e w' ⟨rfl, rfl⟩
            go_wp2_with fail
            go_roundw
            case rel => exact ⟨k + 1, by omega, by go_num, HBj.out, h', HF', HXj.out, HMj.out⟩
            case measure => simp [intOf]; omega
          · have hlt8 : m < 8 := by omega
            have c1 := led_cell HMj.out m hlt8
            have c0 := led_quota HMj.out
            have b0 := HF'.out.h0 m
            have b1 := HF'.out.h1 m
            have HV : Hid (∀ nq : Nat, Calls Try.prog 14 #[.pointer (some ⟨w1.heap.size, 0, none⟩), .int .i64 (m : Int)] (wr.drewN nq) fun e w' => e = .returned (.int .i64 (h' m)) ∧ w' = wr.drewN nq) := fun nq =>
              (has_is (by unfold hasV; rw [if_pos ⟨by omega, by omega⟩]; congr 1) (rowIs_drewN HXj.out nq)).mono fun e w' ⟨h1, h2⟩ => ⟨h1, h2.symm⟩
            generalize h' m = x at *
            have t0 : (x == x) = true := by simp
            have t1 : decide (x ≤ q) = true := by simp; omega
            have t2 : decide (0 ≤ x) = true := by simp; omega
            go_wp2_with fail
            go_quiet ((go_at_call 14; exact Calls.quiet_of_same (HV.out _)))
            go_wp2_with fail
            go_roundw
            case rel => exact ⟨m + 1, by omega, by go_num, by simp; try omega, below_drewN' HBj.out _, rowIs_drewN HXj.out _, rowIs_drewN HMj.out _⟩
            case measure => simp [intOf]; omega
    · obtain rfl : k = n := by omega
      have HBR := Lib.hid hbr
      clear hbr hx hm
      go_wp2_with fail
      go_ret
      exact ⟨rfl, (chain HB1.out HB2.out).trans (HBR.out.mono HB1.out.size)⟩

set_option maxRecDepth 100000 in
theorem plays_big (q0 : Int) (a : Option Addr) (n cap : Nat) (hm : n ≤ maxLen) (hn : 200 < n) (w : World) :
    Calls Try.prog 3 #[.int .i64 q0, .slice a n cap] w fun e w' => e = .returned (.bool true) ∧ Below w.heap.size w w' := by
  unfold maxLen at hm
  go_enter Try.func3, Try.ntmps3
  go_wp2_with fail
  refine (awake_any _).mono ?_
  rintro e w1 ⟨rfl, hb1⟩
  have HB1 := Lib.hid hb1
  clear hb1
  go_wp2_with fail
  go_ret
  exact ⟨rfl, HB1.out⟩
theorem plays_any (q0 : Int) (hq0 : -9223372036854775808 ≤ q0) (hq1 : q0 ≤ 9223372036854775807) (a : Option Addr) (n cap : Nat) (hm : n ≤ maxLen) (D : Nat → Dd) (w : World) (hd : Deeds w a D n) :
    Calls Try.prog 3 #[.int .i64 q0, .slice a n cap] w fun e w' => e = .returned (.bool true) ∧ Below w.heap.size w w' := by
  by_cases h : 200 < n
  · exact plays_big q0 a n cap hm h w
  · exact plays_small q0 hq0 hq1 a n cap (by omega) D w hd
end Go.Proofs.Ytclgjfmgohbmbaa.Le
