/- Contracts of Has, Clear, Total and New of the ledgers. Condition: as in the texts ahead of this one. -/
import Derived.Test.YtclgjfmgohbmbaaLedgerB
namespace Go.Proofs.Ytclgjfmgohbmbaa.Le
open Go.RowKit Ba

/-- The eight numbers, as an array's value. -/
theorem arr_index (h : Nat → Int) (k : Nat) (hk : k < 8) (w : World) :
    (Instr.index 34 (.agg #[.int .i64 (h 0), .int .i64 (h 1), .int .i64 (h 2), .int .i64 (h 3), .int .i64 (h 4), .int .i64 (h 5), .int .i64 (h 6), .int .i64 (h 7)]) (.int .i64 (k : Int))).run Try.prog w = .ok (.int .i64 (h k)) w := by
  have hs : (sizeOf 3).run Try.prog w = .ok 1 w := by kernel_rfl
  simp [Instr.index, asIntOf, run_underlying Try.underlying34, hs, part, hk]
  match k, hk with
  | 0, _ => rfl
  | 1, _ => rfl
  | 2, _ => rfl
  | 3, _ => rfl
  | 4, _ => rfl
  | 5, _ => rfl
  | 6, _ => rfl
  | 7, _ => rfl

theorem Left.same {b : Nat} {T : TypeId} {q : Int} {h : Nat → Int} {w : World} {r : Int} (hr : w.rowIs b T 9 (ledF q h)) : Left b T q h w r (.returned (.int .i64 r)) w := ⟨rfl, Only.refl _ _, hr⟩
theorem led_cell {w : World} {b : Nat} {T : TypeId} {q : Int} {h : Nat → Int} (hr : w.rowIs b T 9 (ledF q h)) (k : Nat) (hk : k < 8) : w.cell? ⟨b, 1 + k, none⟩ = some (.int .i64 (h k)) := by
  have := hr.cell (show 1 + k < 9 from by omega)
  rw [this]; unfold ledF; rw [if_neg (by omega), show 1 + k - 1 = k from by omega]
theorem led_quota {w : World} {b : Nat} {T : TypeId} {q : Int} {h : Nat → Int} (hr : w.rowIs b T 9 (ledF q h)) : w.cell? ⟨b, 0, none⟩ = some (.int .i64 q) := hr.cell (by omega)

set_option maxRecDepth 100000 in
set_option maxHeartbeats 400000 in
theorem has_any (b : Nat) (q : Int) (h : Nat → Int) (who : Int) (w : World) (hr : w.rowIs b 43 9 (ledF q h)) :
    Calls Try.prog 14 #[.pointer (some ⟨b, 0, none⟩), .int .i64 who] w fun e w' => e = .returned (.int .i64 (hasV h who)) ∧ w = w' := by
  by_cases hv : Valid who
  · obtain ⟨k, rfl⟩ : ∃ k : Nat, who = (k : Int) := ⟨who.toNat, by have := hv.1; omega⟩
    have hk : k < 8 := by have := hv.2; omega
    have HV : hasV h (k : Int) = h k := by unfold hasV; rw [if_pos hv]; congr 1
    rw [HV]
    have c1 := led_cell hr k hk
    have HY := Lib.hid (who_yes b (k : Int) hv w)
    clear HV hr hv
    generalize h k = x at *
    go_enter Try.func14, Try.ntmps14
    go_wp2_with fail
    refine HY.out.mono ?_
    rintro e w' ⟨rfl, rfl⟩
    go_wp2_with fail
    go_ret
    exact ⟨rfl, rfl⟩
  · have HV : hasV h who = 0 := by unfold hasV; rw [if_neg hv]
    rw [HV]
    have HY := Lib.hid (who_no b who hv w)
    clear HV hr hv
    go_enter Try.func14, Try.ntmps14
    go_wp2_with fail
    refine HY.out.mono ?_
    rintro e w' ⟨rfl, rfl⟩
    go_wp2_with fail
    go_ret
    exact ⟨rfl, rfl⟩

set_option maxRecDepth 100000 in
set_option maxHeartbeats 400000 in
theorem clear_any (b : Nat) (q : Int) (h : Nat → Int) (f : Fit q h) (who : Int) (w : World) (hr : w.rowIs b 43 9 (ledF q h)) :
    Calls Try.prog 12 #[.pointer (some ⟨b, 0, none⟩), .int .i64 who] w (Left b 43 q (clearH h who) w (hasV h who)) := by
  have HA := Lib.hid (has_any b q h who w hr)
  have HR := Lib.hid hr
  by_cases hv : Valid who ∧ 0 < h who.toNat
  · obtain ⟨hv, hp⟩ := hv
    obtain ⟨k, rfl⟩ : ∃ k : Nat, who = (k : Int) := ⟨who.toNat, by have := hv.1; omega⟩
    have hk : k < 8 := by have := hv.2; omega
    have e1 : ((k : Int)).toNat = k := by omega
    have HV : hasV h (k : Int) = h k := by unfold hasV; rw [if_pos hv, e1]
    have HH : clearH h (k : Int) = put h k 0 := by unfold clearH; rw [if_pos hv, e1]
    rw [HV] at HA ⊢
    rw [HH]
    rw [e1] at hp
    have HP := Lib.hid (ledF_put q h k 0)
    have c1 := led_cell hr k hk
    have fz := hr.frozen (1 + k)
    clear HV HH hr hv e1
    generalize h k = x at *
    go_enter Try.func12, Try.ntmps12
    go_wp2_with fail
    refine HA.out.mono ?_
    rintro e w' ⟨rfl, rfl⟩
    go_wp2_with fail
    go_ret
    exact ⟨rfl, (Only.refl _ _).set _ _, by rw [HP.out]; exact World.rowIs.set HR.out (1 + k) _⟩
  · have hz : ¬ 0 < hasV h who := by
      unfold hasV
      split
      · rename_i hx; exact fun hp => hv ⟨hx, hp⟩
      · omega
    have HH : Hid (w.rowIs b 43 9 (ledF q (clearH h who))) := by
      refine hr.congr fun j hj => ?_
      unfold clearH
      split
      · rename_i hx
        rw [ledF_put]
        by_cases e : j = 1 + who.toNat
        · have h0 : h who.toNat = 0 := by have := f.h0 who.toNat; have : ¬ 0 < h who.toNat := fun hp => hv ⟨hx, hp⟩; omega
          subst e
          show _ = if 1 + who.toNat = 1 + who.toNat then Value.int .i64 0 else _
          rw [if_pos rfl]
          unfold ledF
          rw [if_neg (by omega), show 1 + who.toNat - 1 = who.toNat from by omega, h0]
        · show _ = if j = 1 + who.toNat then Value.int .i64 0 else _
          rw [if_neg e]
      · rfl
    clear hv hr
    generalize hasV h who = x at *
    go_enter Try.func12, Try.ntmps12
    go_wp2_with fail
    refine HA.out.mono ?_
    rintro e w' ⟨rfl, rfl⟩
    go_wp2_with fail
    go_ret
    exact ⟨rfl, Only.refl _ _, HH.out⟩

set_option maxRecDepth 100000 in
set_option maxHeartbeats 400000 in
theorem clearRef_any (b : Nat) (q : Int) (h : Nat → Int) (who : Int) (w : World) (hr : w.rowIs b 36 9 (ledF q h)) :
    Calls Try.prog 13 #[.pointer (some ⟨b, 0, none⟩), .int .i64 who] w (Left b 36 q (clearH h who) w (hasV h who)) := by
  have HR := Lib.hid hr
  by_cases hv : Valid who
  · obtain ⟨k, rfl⟩ : ∃ k : Nat, who = (k : Int) := ⟨who.toNat, by have := hv.1; omega⟩
    have hk : k < 8 := by have := hv.2; omega
    have e1 : ((k : Int)).toNat = k := by omega
    have HV : hasV h (k : Int) = h k := by unfold hasV; rw [if_pos hv, e1]
    have HH : clearH h (k : Int) = put h k 0 := by unfold clearH; rw [if_pos hv, e1]
    rw [HV, HH]
    have HP := Lib.hid (ledF_put q h k 0)
    have c1 := led_cell hr k hk
    have fz := hr.frozen (1 + k)
    clear HV HH hr hv e1
    generalize h k = x at *
    go_enter Try.func13, Try.ntmps13
    go_wp2_with fail
    go_ret
    exact ⟨rfl, (Only.refl _ _).set _ _, by rw [HP.out]; exact World.rowIs.set HR.out (1 + k) _⟩
  · have HV : hasV h who = 0 := by unfold hasV; rw [if_neg hv]
    have HH : clearH h who = h := by unfold clearH; rw [if_neg hv]
    rw [HV, HH]
    clear HV HH hr
    by_cases v0 : who < 0
    · clear hv
      go_enter Try.func13, Try.ntmps13
      go_wp2_with fail
      go_ret
      exact ⟨rfl, Only.refl _ _, HR.out⟩
    · have v1 : 8 ≤ who := by unfold Valid at hv; omega
      clear hv
      go_enter Try.func13, Try.ntmps13
      go_wp2_with fail
      go_ret
      exact ⟨rfl, Only.refl _ _, HR.out⟩

set_option maxRecDepth 100000 in
set_option maxHeartbeats 400000 in
theorem total_any (b : Nat) (q : Int) (h : Nat → Int) (f : Fit q h) (w : World) (hr : w.rowIs b 43 9 (ledF q h)) :
    Calls Try.prog 15 #[.pointer (some ⟨b, 0, none⟩)] w fun e w' => e = .returned (.int .i64 (sumTo h 8)) ∧ w = w' := by
  have d1 : w.cell? ⟨b, 1, none⟩ = some (.int .i64 (h 0)) := led_cell hr 0 (by omega)
  have d2 : w.cell? ⟨b, 2, none⟩ = some (.int .i64 (h 1)) := led_cell hr 1 (by omega)
  have d3 : w.cell? ⟨b, 3, none⟩ = some (.int .i64 (h 2)) := led_cell hr 2 (by omega)
  have d4 : w.cell? ⟨b, 4, none⟩ = some (.int .i64 (h 3)) := led_cell hr 3 (by omega)
  have d5 : w.cell? ⟨b, 5, none⟩ = some (.int .i64 (h 4)) := led_cell hr 4 (by omega)
  have d6 : w.cell? ⟨b, 6, none⟩ = some (.int .i64 (h 5)) := led_cell hr 5 (by omega)
  have d7 : w.cell? ⟨b, 7, none⟩ = some (.int .i64 (h 6)) := led_cell hr 6 (by omega)
  have d8 : w.cell? ⟨b, 8, none⟩ = some (.int .i64 (h 7)) := led_cell hr 7 (by omega)
  have b3 := f.q1
  go_enter Try.func15, Try.ntmps15
  go_wp2
  clear d1 d2 d3 d4 d5 d6 d7 d8 hr
  go_loop [3, 5, 12] (fun s _ i => ∃ k : Nat, k ≤ 8 ∧ i = .int .i64 k ∧ s = .int .i64 (sumTo h k)) (fun _ _ i => 8 - (intOf i).toNat)
  case atStart => exact ⟨0, by omega, rfl, rfl⟩
  case round =>
    obtain ⟨k, hk, rfl, rfl⟩ := hrel
    obtain ⟨s0, s1⟩ := f.sum k
    have hkq : (k : Int) * q ≤ 8 * 16777216 := Int.mul_le_mul (by omega) b3 f.q0 (by omega)
    by_cases h8 : k = 8
    · obtain rfl := h8
      go_wp2
      go_ret
      exact ⟨rfl, rfl⟩
    · have hlt : k < 8 := by omega
      have hidx := arr_index h k hlt
      have HS : Hid (sumTo h (k + 1) = sumTo h k + h k) := rfl
      have b0 := f.h0 k
      have b1 := f.h1 k
      generalize sumTo h k = s at *
      generalize (k : Int) * q = kq at *
      go_wp2
      go_round
      case rel => exact ⟨k + 1, by omega, by go_num, by rw [HS.out]⟩
      case measure => simp [intOf]; omega

set_option maxRecDepth 100000 in
set_option maxHeartbeats 400000 in
theorem totalRef_any (b : Nat) (q : Int) (h : Nat → Int) (f : Fit q h) (w : World) (hr : w.rowIs b 36 9 (ledF q h)) :
    Calls Try.prog 16 #[.pointer (some ⟨b, 0, none⟩)] w fun e w' => e = .returned (.int .i64 (sumTo h 8)) ∧ w = w' := by
  have HR := Lib.hid hr
  have b3 := f.q1
  clear hr
  go_enter Try.func16, Try.ntmps16
  go_wp2
  go_loop [3, 4] (fun s i => ∃ k : Nat, k ≤ 8 ∧ i = .int .i64 k ∧ s = .int .i64 (sumTo h k)) (fun _ i => 8 - (intOf i).toNat)
  case atStart => exact ⟨0, by omega, rfl, rfl⟩
  case round =>
    obtain ⟨k, hk, rfl, rfl⟩ := hrel
    obtain ⟨s0, s1⟩ := f.sum k
    have hkq : (k : Int) * q ≤ 8 * 16777216 := Int.mul_le_mul (by omega) b3 f.q0 (by omega)
    by_cases h8 : k = 8
    · obtain rfl := h8
      go_wp2
      go_ret
      exact ⟨rfl, rfl⟩
    · have hlt : k < 8 := by omega
      have hc := led_cell HR.out k hlt
      have HS : Hid (sumTo h (k + 1) = sumTo h k + h k) := rfl
      have b0 := f.h0 k
      have b1 := f.h1 k
      generalize sumTo h k = s at *
      generalize (k : Int) * q = kq at *
      generalize h k = x at *
      go_wp2
      go_round
      case rel => exact ⟨k + 1, by omega, by go_num, by rw [HS.out]⟩
      case measure => simp [intOf]; omega

/-- The quota that counts. -/
def quotaOf (q : Int) : Int := if q < 0 ∨ 16777216 < q then 0 else q
theorem quota_fit (q : Int) : Fit (quotaOf q) (fun _ => 0) := by
  unfold quotaOf
  split
  · exact ⟨by omega, by omega, fun _ => by omega, fun _ => by omega⟩
  · exact ⟨by omega, by omega, fun _ => by omega, fun _ => by omega⟩
/-- What New leaves behind: a new block. -/
def Made (T : TypeId) (q : Int) (w : World) (e : Ending) (w' : World) : Prop :=
  e = .returned (.pointer (some ⟨w.heap.size, 0, none⟩)) ∧ Below w.heap.size w w' ∧ w'.heap.size = w.heap.size + 1 ∧ w'.rowIs w.heap.size T 9 (ledF (quotaOf q) (fun _ => 0))
theorem led_new (w : World) (T : TypeId) (q : Int) : (w.alloc (.cells #[.int .i64 q, .int .i64 0, .int .i64 0, .int .i64 0, .int .i64 0, .int .i64 0, .int .i64 0, .int .i64 0, .int .i64 0] T)).rowIs w.heap.size T 9 (ledF q (fun _ => 0)) :=
  World.rowIs_alloc w _ T _ (fun i hi => by
    have hi' : i < 9 := hi
    match i, hi' with
    | 0, _ => rfl
    | 1, _ => rfl
    | 2, _ => rfl
    | 3, _ => rfl
    | 4, _ => rfl
    | 5, _ => rfl
    | 6, _ => rfl
    | 7, _ => rfl
    | 8, _ => rfl)

set_option maxRecDepth 100000 in
theorem new_any (q : Int) (hq0 : -9223372036854775808 ≤ q) (hq1 : q ≤ 9223372036854775807) (w : World) :
    Calls Try.prog 6 #[.int .i64 q] w (Made 43 q w) := by
  rcases (show q < 0 ∨ (¬ q < 0 ∧ 16777216 < q) ∨ (¬ q < 0 ∧ ¬ 16777216 < q) from by omega) with h1 | ⟨h1, h2⟩ | ⟨h1, h2⟩
  · have HQ : Hid (quotaOf q = 0) := by unfold quotaOf; rw [if_pos (Or.inl h1)]; rfl
    go_enter Try.func6, Try.ntmps6
    go_wp2
    go_ret
    exact ⟨rfl, (Below.refl _ _).alloc (Nat.le_refl _) _, by simp, by rw [HQ.out]; exact led_new w _ 0⟩
  · have HQ : Hid (quotaOf q = 0) := by unfold quotaOf; rw [if_pos (Or.inr h2)]; rfl
    go_enter Try.func6, Try.ntmps6
    go_wp2
    go_ret
    exact ⟨rfl, (Below.refl _ _).alloc (Nat.le_refl _) _, by simp, by rw [HQ.out]; exact led_new w _ 0⟩
  · have HQ : Hid (quotaOf q = q) := by unfold quotaOf; rw [if_neg (by omega)]; rfl
    go_enter Try.func6, Try.ntmps6
    go_wp2
    go_ret
    exact ⟨rfl, (Below.refl _ _).alloc (Nat.le_refl _) _, by simp, by rw [HQ.out]; exact led_new w _ q⟩

set_option maxRecDepth 100000 in
theorem newRef_any (q : Int) (hq0 : -9223372036854775808 ≤ q) (hq1 : q ≤ 9223372036854775807) (w : World) :
    Calls Try.prog 7 #[.int .i64 q] w (Made 36 q w) := by
  rcases (show q < 0 ∨ (¬ q < 0 ∧ 16777216 < q) ∨ (¬ q < 0 ∧ ¬ 16777216 < q) from by omega) with h1 | ⟨h1, h2⟩ | ⟨h1, h2⟩
  · have HQ : Hid (quotaOf q = 0) := by unfold quotaOf; rw [if_pos (Or.inl h1)]; rfl
    go_enter Try.func7, Try.ntmps7
    go_wp2
    go_ret
    exact ⟨rfl, (Below.refl _ _).alloc (Nat.le_refl _) _, by simp, by rw [HQ.out]; exact led_new w _ 0⟩
  · have HQ : Hid (quotaOf q = 0) := by unfold quotaOf; rw [if_pos (Or.inr h2)]; rfl
    go_enter Try.func7, Try.ntmps7
    go_wp2
    go_ret
    exact ⟨rfl, (Below.refl _ _).alloc (Nat.le_refl _) _, by simp, by rw [HQ.out]; exact led_new w _ 0⟩
  · have HQ : Hid (quotaOf q = q) := by unfold quotaOf; rw [if_neg (by omega)]; rfl
    go_enter Try.func7, Try.ntmps7
    go_wp2
    go_ret
    exact ⟨rfl, (Below.refl _ _).alloc (Nat.le_refl _) _, by simp, by rw [HQ.out]; exact led_new w _ q⟩

theorem rowIs_drewN {w : World} {b n : Nat} {t : TypeId} {f : Nat → Value} (h : w.rowIs b t n f) (k : Nat) : (w.drewN k).rowIs b t n f := h.of_block rfl
theorem below_drewN' {B : Nat} {u w : World} (h : Below B u w) (k : Nat) : Below B u (w.drewN k) := h.trans ⟨rfl, rfl, rfl, Nat.le_refl _, fun _ _ => rfl⟩
theorem take_is {b : Nat} {q : Int} {h h' : Nat → Int} (f : Fit q h) {who n r : Int} (hc : takeC q h who n = r) (hh : takeH q h who n = h') (hn0 : -9223372036854775808 ≤ n) (hn1 : n ≤ 9223372036854775807) {w : World} (hr : w.rowIs b 43 9 (ledF q h)) :
    Calls Try.prog 8 #[.pointer (some ⟨b, 0, none⟩), .int .i64 who, .int .i64 n] w (Left b 43 q h' w r) := by
  rw [← hc, ← hh]; exact take_any b q h f who n hn0 hn1 w hr
theorem give_is {b : Nat} {q : Int} {h h' : Nat → Int} (f : Fit q h) {who n r : Int} (hc : giveC h who n = r) (hh : giveH h who n = h') (hn0 : -9223372036854775808 ≤ n) (hn1 : n ≤ 9223372036854775807) {w : World} (hr : w.rowIs b 43 9 (ledF q h)) :
    Calls Try.prog 10 #[.pointer (some ⟨b, 0, none⟩), .int .i64 who, .int .i64 n] w (Left b 43 q h' w r) := by
  rw [← hc, ← hh]; exact give_any b q h f who n hn0 hn1 w hr
theorem has_is {b : Nat} {q : Int} {h : Nat → Int} {who r : Int} (hc : hasV h who = r) {w : World} (hr : w.rowIs b 43 9 (ledF q h)) :
    Calls Try.prog 14 #[.pointer (some ⟨b, 0, none⟩), .int .i64 who] w fun e w' => e = .returned (.int .i64 r) ∧ w = w' := by
  rw [← hc]; exact has_any b q h who w hr
theorem total_is {b : Nat} {q : Int} {h : Nat → Int} (f : Fit q h) {r : Int} (hc : sumTo h 8 = r) {w : World} (hr : w.rowIs b 43 9 (ledF q h)) :
    Calls Try.prog 15 #[.pointer (some ⟨b, 0, none⟩)] w fun e w' => e = .returned (.int .i64 r) ∧ w = w' := by
  rw [← hc]; exact total_any b q h f w hr

def a0 : Nat → Int := fun _ => 0
def a1 : Nat → Int := put a0 1 3
def a2 : Nat → Int := put a1 2 5
def a3 : Nat → Int := put a2 1 1
set_option maxRecDepth 100000 in
set_option maxHeartbeats 400000 in
theorem awake_any (w : World) : Calls Try.prog 5 #[] w fun e w' => e = .returned (.bool true) ∧ Below w.heap.size w w' := by
  have f0 : Fit 5 a0 := quota_fit 5
  have f1 : Fit 5 a1 := f0.put 1 3 (by omega) (by omega)
  have f2 : Fit 5 a2 := f1.put 2 5 (by omega) (by omega)
  have f3 : Fit 5 a3 := f2.put 1 1 (by omega) (by omega)
  have F0 := Lib.hid f0
  have F1 := Lib.hid f1
  have F2 := Lib.hid f2
  have F3 := Lib.hid f3
  clear f0 f1 f2 f3
  go_enter Try.func5, Try.ntmps5
  go_wp2_with fail
  refine (new_any 5 (by omega) (by omega) w).mono ?_
  rintro e w1 ⟨rfl, hb1, hs1, hr1⟩
  have HB1 := Lib.hid hb1
  have HR1 : Hid (w1.rowIs w.heap.size 43 9 (ledF 5 a0)) := hr1
  clear hb1 hs1 hr1
  go_wp2_with fail
  refine (take_is (r := 0) (h' := a1) F0.out rfl rfl (by omega) (by omega) HR1.out).mono ?_
  rintro e w2 ⟨rfl, ho2, hr2⟩
  have HO2 := Lib.hid ho2
  have HR2 := Lib.hid hr2
  clear ho2 hr2
  go_wp2_with fail
  refine (take_is (r := 10) (h' := a1) F1.out rfl rfl (by omega) (by omega) HR2.out).mono ?_
  rintro e w3 ⟨rfl, ho3, hr3⟩
  have HO3 := Lib.hid ho3
  have HR3 := Lib.hid hr3
  clear ho3 hr3
  go_wp2_with fail
  refine (take_is (r := 0) (h' := a2) F1.out rfl rfl (by omega) (by omega) HR3.out).mono ?_
  rintro e w4 ⟨rfl, ho4, hr4⟩
  have HO4 := Lib.hid ho4
  have HR4 := Lib.hid hr4
  clear ho4 hr4
  go_wp2_with fail
  refine (give_is (r := 0) (h' := a3) F2.out rfl rfl (by omega) (by omega) HR4.out).mono ?_
  rintro e w5 ⟨rfl, ho5, hr5⟩
  have HO5 := Lib.hid ho5
  have HR5 := Lib.hid hr5
  clear ho5 hr5
  go_wp2_with fail
  refine (has_is (r := 1) rfl HR5.out).mono ?_
  rintro e w' ⟨rfl, rfl⟩
  go_wp2_with fail
  refine (total_is (r := 6) F3.out rfl HR5.out).mono ?_
  rintro e w' ⟨rfl, rfl⟩
  go_wp2_with fail
  go_ret
  exact ⟨rfl, HB1.out.trans ((((HO2.out.trans HO3.out).trans HO4.out).trans HO5.out).below (Nat.le_refl _))⟩
end Go.Proofs.Ytclgjfmgohbmbaa.Le
