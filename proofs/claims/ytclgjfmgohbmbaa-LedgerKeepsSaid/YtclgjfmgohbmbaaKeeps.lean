/- The contract of LedgerKeeps: it returns true at any quota and any deeds. No condition beyond what a slice is. -/
import Derived.Test.YtclgjfmgohbmbaaPlays
import Derived.BigQuiet
namespace Go.Proofs.Ytclgjfmgohbmbaa.Le
open Go.RowKit Ba

theorem sum_put_ge (h : Nat → Int) (k : Nat) (x : Int) (m : Nat) (hm : m ≤ k) : sumTo (put h k x) m = sumTo h m := by
  induction m with
  | zero => rfl
  | succ m ih =>
    unfold sumTo
    rw [ih (by omega)]
    congr 1
    unfold put
    rw [if_neg (by omega)]
theorem sum_put (h : Nat → Int) (k : Nat) (x : Int) (m : Nat) (hm : k < m) : sumTo (put h k x) m = sumTo h m - h k + x := by
  induction m with
  | zero => omega
  | succ m ih =>
    by_cases e : k = m
    · subst e
      unfold sumTo
      rw [sum_put_ge h k x k (Nat.le_refl _)]
      unfold put
      rw [if_pos rfl]
      omega
    · unfold sumTo
      rw [ih (by omega)]
      have : put h k x m = h m := by unfold put; rw [if_neg (fun e' => e e'.symm)]
      rw [this]
      omega
theorem put_same (h : Nat → Int) (k : Nat) (x : Int) : put h k x k = x := by unfold put; rw [if_pos rfl]
theorem valid_nat (k : Nat) (h : k < 8) : Valid (k : Int) := ⟨by omega, by omega⟩
theorem has_nat (h : Nat → Int) (k : Nat) (hk : k < 8) : hasV h (k : Int) = h k := by unfold hasV; rw [if_pos (valid_nat k hk)]; congr 1
theorem take_fit (q : Int) (h : Nat → Int) (k : Nat) (hk : k < 8) (n : Int) (hn : 0 ≤ n) (hf : n ≤ q - h k) : takeC q h (k : Int) n = 0 ∧ takeH q h (k : Int) n = put h k (h k + n) := by
  have e1 : ((k : Int)).toNat = k := by omega
  have hv : ¬ (¬ Valid (k : Int) ∨ n < 0) := fun hx => hx.elim (fun h => h (valid_nat k hk)) (by omega)
  exact ⟨by unfold takeC; rw [if_neg hv, e1, if_neg (by omega)], by unfold takeH; rw [if_neg hv, e1, if_neg (by omega)]⟩
theorem take_over (q : Int) (h : Nat → Int) (k : Nat) (hk : k < 8) (n : Int) (hn : 0 ≤ n) (hf : ¬ n ≤ q - h k) : takeC q h (k : Int) n = 10 ∧ takeH q h (k : Int) n = h := by
  have e1 : ((k : Int)).toNat = k := by omega
  have hv : ¬ (¬ Valid (k : Int) ∨ n < 0) := fun hx => hx.elim (fun h => h (valid_nat k hk)) (by omega)
  exact ⟨by unfold takeC; rw [if_neg hv, e1, if_pos (by omega)], by unfold takeH; rw [if_neg hv, e1, if_pos (by omega)]⟩
theorem give_fit (h : Nat → Int) (k : Nat) (hk : k < 8) (n : Int) (hn : 0 ≤ n) (hf : n ≤ h k) : giveC h (k : Int) n = 0 ∧ giveH h (k : Int) n = put h k (h k - n) := by
  have e1 : ((k : Int)).toNat = k := by omega
  have hv : ¬ (¬ Valid (k : Int) ∨ n < 0) := fun hx => hx.elim (fun h => h (valid_nat k hk)) (by omega)
  exact ⟨by unfold giveC; rw [if_neg hv, e1, if_neg (by omega)], by unfold giveH; rw [if_neg hv, e1, if_neg (by omega)]⟩
theorem give_over (h : Nat → Int) (k : Nat) (hk : k < 8) (n : Int) (hn : 0 ≤ n) (hf : ¬ n ≤ h k) : giveC h (k : Int) n = 1 ∧ giveH h (k : Int) n = h := by
  have e1 : ((k : Int)).toNat = k := by omega
  have hv : ¬ (¬ Valid (k : Int) ∨ n < 0) := fun hx => hx.elim (fun h => h (valid_nat k hk)) (by omega)
  exact ⟨by unfold giveC; rw [if_neg hv, e1, if_pos (by omega)], by unfold giveH; rw [if_neg hv, e1, if_pos (by omega)]⟩
theorem clear_is {b : Nat} {q : Int} {h : Nat → Int} (f : Fit q h) {k : Nat} (hk : k < 8) {r : Int} (hr : h k = r) {w : World} (hrow : w.rowIs b 43 9 (ledF q h)) :
    Calls Try.prog 12 #[.pointer (some ⟨b, 0, none⟩), .int .i64 (k : Int)] w (Left b 43 q (put h k 0) w r) := by
  have := clear_any b q h f (k : Int) w hrow
  rw [has_nat h k hk, hr] at this
  have e : clearH h (k : Int) = put h k 0 := by unfold clearH; rw [if_pos (valid_nat k hk)]; congr 1
  rw [e] at this
  exact this

set_option maxRecDepth 100000 in
set_option maxHeartbeats 1600000 in
theorem keeps_small (q : Nat) (hq : q < 65536) (a : Option Addr) (n cap : Nat) (hn : n ≤ 100) (D : Nat → Dd) (w : World) (hd : Deeds w a D n) :
    Calls Try.prog 4 #[.int .u16 q, .slice a n cap] w fun e w' => e = .returned (.bool true) ∧ Below w.heap.size w w' := by
  have HD := Lib.hid hd
  clear hd
  have hqq : quotaOf (q : Int) = (q : Int) := by unfold quotaOf; rw [if_neg (by omega)]
  go_enter Try.func4, Try.ntmps4
  go_wp2_with fail
  refine (awake_any _).mono ?_
  rintro e w1 ⟨rfl, hb1⟩
  have HB1 := Lib.hid hb1
  clear hb1
  go_wp2_with fail
  refine (new_any (q : Int) (by omega) (by omega) _).mono ?_
  rintro e w2 ⟨rfl, hb2, hs2, hr2⟩
  have FQ := Lib.hid (quota_fit (q : Int))
  rw [hqq] at hr2 FQ
  have HB2 := Lib.hid hb2
  clear hb2 hqq
  have hb0 : Below w1.heap.size w2 w2 := Below.refl _ _
  go_wp2_with fail
  go_loopw [6, 7, 8, 9, 10, 11] (fun i _ _ _ _ _ wr => ∃ k : Nat, k ≤ n ∧ i = .int .i64 k ∧ Below w1.heap.size w2 wr ∧ ∃ h, Hid (Fit q h) ∧ wr.rowIs w1.heap.size 43 9 (ledF q h)) (fun i _ _ _ _ _ _ => n - (intOf i).toNat)
  case atStart => exact ⟨0, by omega, rfl, hb0, _, FQ, hr2⟩
  case round =>
    obtain ⟨k, hk, rfl, hbr, h, HF, hx⟩ := hrel
    clear hb0 hr2
    by_cases hlt : k < n
    · have hbw : Below w.heap.size w wr := (chain HB1.out HB2.out).trans (hbr.mono HB1.out.size)
      obtain ⟨ba, oa, rfl, c0, c1, c2, hok⟩ := (HD.out.keep hbw) k hlt
      have hbalt : ba < w.heap.size := by
        obtain ⟨_, _, he, d0, _⟩ := HD.out k hlt
        simp only [Option.some.injEq, Addr.mk.injEq] at he
        obtain ⟨rfl, rfl, _⟩ := he
        exact cell_lt (a := ⟨ba, oa + k * 3, none⟩) d0
      have hszw := HB1.out.size
      clear hbw
      generalize D k = x at *
      obtain ⟨xd, xw, xn⟩ := x
      dsimp only at c0 c1 c2
      obtain ⟨⟨o1, o2⟩, ⟨o3, o4⟩, ⟨o5, o6⟩⟩ := hok
      dsimp only at o1 o2 o3 o4 o5 o6
      obtain ⟨W, hW⟩ : ∃ W : Nat, IntKind.u64.wrap xw = (W : Int) := ⟨(IntKind.u64.wrap xw).toNat, by have := IntKind.wrap_u64 xw; omega⟩
      obtain ⟨M, hM⟩ : ∃ M : Nat, IntKind.u64.wrap xn = (M : Int) := ⟨(IntKind.u64.wrap xn).toNat, by have := IntKind.wrap_u64 xn; omega⟩
      go_wp2_with fail
      go_quiet (fail)
      go_wp2_with fail
      obtain ⟨K, hKe, hK⟩ : ∃ K : Nat, (W : Int) % 8 = (K : Int) ∧ K < 8 := ⟨W % 8, by omega, by omega⟩
      obtain ⟨N, hNe, hN⟩ : ∃ N : Nat, (M : Int) % 1000 = (N : Int) ∧ N < 1000 := ⟨M % 1000, by omega, by omega⟩
      rw [hKe, hNe]
      have hb4 := below_drewN' hbr nq
      have hx4 := rowIs_drewN hx nq
      have c0' : (wr.drewN nq).cell? ⟨ba, oa + k * 3, none⟩ = some (.int .i64 xd) := c0
      generalize wr.drewN nq = w4 at *
      clear hW hM hKe hNe c0 c1 c2 hx hbr
      have f := HF.out
      have v0 := f.h0 K
      have v1 := f.h1 K
      have HX4 := Lib.hid hx4
      have HB4 := Lib.hid hb4
      have C0 := Lib.hid c0'
      have H1 := Lib.hid (has_is (r := h K) (has_nat h K hK) hx4)
      have H2 := Lib.hid (total_is f rfl hx4)
      have H3 := Lib.hid (take_any w1.heap.size q h f (K : Int) (N : Int) (by omega) (by omega) w4 hx4)
      obtain ⟨r, hr⟩ : ∃ r, r = takeC q h (K : Int) (N : Int) := ⟨_, rfl⟩
      obtain ⟨h1, hh1⟩ : ∃ h1, h1 = takeH q h (K : Int) (N : Int) := ⟨_, rfl⟩
      rw [← hr, ← hh1] at H3
      have HRr := Lib.hid hr
      have HRh := Lib.hid hh1
      have hsum := sum_put h K (h K + N) 8 hK
      have HSum := Lib.hid hsum
      have hbd := f.sum 8
      clear hr hh1 hx4 hb4 c0' hsum f
      have hbd1 : 0 ≤ sumTo h 8 ∧ sumTo h 8 ≤ 8 * 65536 := by omega
      clear hbd
      generalize hsm : sumTo h 8 = sm at *
      have HSm := Lib.hid hsm
      generalize hvk : h K = v at *
      have HVk := Lib.hid hvk
      clear hsm hvk
      obtain ⟨hbd1, hbd2⟩ := hbd1
      refine H1.out.mono ?_
      rintro e w' ⟨rfl, rfl⟩
      go_wp2_with fail
      refine H2.out.mono ?_
      rintro e w' ⟨rfl, rfl⟩
      go_upto_if 53 with (go_at_call 8; refine H3.out.mono ?_; rintro e w5 ⟨rfl, ho5, hr5⟩)
      have HO5 := Lib.hid ho5
      have HR5 := Lib.hid hr5
      clear ho5 hr5
      go_cut [] (fun wx => Hid (Only w1.heap.size w4 wx) ∧ ∃ h', Hid (Fit q h') ∧ Hid (wx.rowIs w1.heap.size 43 9 (ledF q h')))
      case first =>
        by_cases hf : (N : Int) ≤ q - v
        · obtain ⟨z1, z2⟩ := take_fit q h K hK N (by omega) (by rw [HVk.out]; exact hf)
          rw [HVk.out] at z2
          obtain rfl : r = 0 := by rw [HRr.out, z1]
          obtain rfl : h1 = put h K (v + N) := by rw [HRh.out, z2]
          clear z1 z2
          have f1 : Fit q (put h K (v + N)) := HF.out.put K (v + N) (by omega) (by omega)
          have F1 := Lib.hid f1
          clear f1
          have HS : sumTo (put h K (v + N)) 8 = sm + N := by rw [HSum.out]; omega
          have G1 := Lib.hid (has_is (r := v + N) (by rw [has_nat _ K hK, put_same]) HR5.out)
          have G2 := Lib.hid (total_is F1.out HS HR5.out)
          obtain ⟨y1, y2⟩ := give_fit (put h K (v + N)) K hK N (by omega) (by rw [put_same]; omega)
          rw [put_same] at y2
          have G3 := Lib.hid (give_is (r := 0) F1.out y1 y2 (by omega) (by omega) HR5.out)
          clear HS y1 y2
          go_wp2_with fail
          refine G1.out.mono ?_
          rintro e w' ⟨rfl, rfl⟩
          have t1 : ((v + (N : Int)) != (v + (N : Int))) = false := by simp
          have t2 : ((sm + (N : Int)) != (sm + (N : Int))) = false := by simp
          go_wp2_with fail
          refine G2.out.mono ?_
          rintro e w' ⟨rfl, rfl⟩
          have dd := (HO5.out.cell (p := ⟨ba, oa + k * 3, none⟩) (by simp; omega)).trans C0.out
          by_cases hb : (bits BinOp.and IntKind.i64 xd 1 == 1) = true
          · go_wp2_with fail
            refine G3.out.mono ?_
            rintro e w6 ⟨rfl, ho6, hr6⟩
            have HO6 := Lib.hid ho6
            have HR6 := Lib.hid hr6
            have f2 : Fit q (put (put h K (v + N)) K (v + N - N)) := F1.out.put K _ (by omega) (by omega)
            have F2 := Lib.hid f2
            have G4 := Lib.hid (has_is (r := v) (by rw [has_nat _ K hK, put_same]; omega) hr6)
            have t3 : (v != v) = false := by simp
            clear ho6 hr6 f2
            go_wp2_with fail
            refine G4.out.mono ?_
            rintro e w' ⟨rfl, rfl⟩
            go_wp2_with fail
            go_meet
            exact ⟨HO5.out.trans HO6.out, _, F2, HR6⟩
          · have hb' : (bits BinOp.and IntKind.i64 xd 1 == 1) = false := Bool.eq_false_iff.2 hb
            clear hb
            go_wp2_with fail
            go_meet
            exact ⟨HO5, _, F1, HR5⟩
        · obtain ⟨z1, z2⟩ := take_over q h K hK N (by omega) (by rw [HVk.out]; exact hf)
          obtain rfl : r = 10 := by rw [HRr.out, z1]
          obtain rfl : h1 = h := by rw [HRh.out, z2]
          clear z1 z2
          have G1 := Lib.hid (has_is (r := v) (by rw [has_nat _ K hK, HVk.out]) HR5.out)
          have G2 := Lib.hid (total_is HF.out HSm.out HR5.out)
          have t1 : (v != v) = false := by simp
          have t2 : (sm != sm) = false := by simp
          go_wp2_with fail
          refine G1.out.mono ?_
          rintro e w' ⟨rfl, rfl⟩
          go_wp2_with fail
          refine G2.out.mono ?_
          rintro e w' ⟨rfl, rfl⟩
          go_wp2_with fail
          go_meet
          exact ⟨HO5, _, HF, HR5⟩
      case rest =>
        obtain ⟨HO, h', HF', HR'⟩ := hcut
        clear HX4 H1 H2 H3 HRr HRh HSum HSm HVk HO5 HR5 hbd1 hbd2 v0 v1
        have f := HF'.out
        have v0 := f.h0 K
        have v1 := f.h1 K
        have G1 := Lib.hid (has_is (r := h' K) (has_nat h' K hK) HR'.out)
        obtain ⟨y1, y2⟩ := give_over h' K hK (h' K + 1) (by omega) (by omega)
        have G2 := Lib.hid (give_is (r := 1) f y1 y2 (by omega) (by omega) HR'.out)
        clear f y1 y2
        obtain ⟨v', hv'⟩ : ∃ v', h' K = v' := ⟨_, rfl⟩
        rw [hv'] at v0 v1 G1 G2
        have HV := Lib.hid hv'
        clear hv'
        go_wp2_with fail
        refine G1.out.mono ?_
        rintro e w' ⟨rfl, rfl⟩
        go_wp2_with fail
        refine G2.out.mono ?_
        rintro e w6 ⟨rfl, ho6, hr6⟩
        have HO6 := Lib.hid ho6
        have HR6 := Lib.hid hr6
        have dd := (ho6.cell (p := ⟨ba, oa + k * 3, none⟩) (by simp; omega)).trans ((HO.out.cell (p := ⟨ba, oa + k * 3, none⟩) (by simp; omega)).trans C0.out)
        have HB6 : Hid (Below w1.heap.size w2 w6) := (HB4.out.trans (HO.out.below (Nat.le_refl _))).trans (HO6.out.below (Nat.le_refl _))
        clear ho6 hr6
        by_cases hb2 : (bits BinOp.and IntKind.i64 xd 2 == 2) = true
        · by_cases hb4 : (bits BinOp.and IntKind.i64 xd 4 == 4) = true
          · have f3 : Fit q (put h' K 0) := HF'.out.put K 0 (by omega) (by omega)
            have F3 := Lib.hid f3
            have G3 := Lib.hid (has_is (r := v') (by rw [has_nat h' K hK, HV.out]) HR6.out)
            have G4 := Lib.hid (clear_is HF'.out hK HV.out HR6.out)
            have t1 : (v' != v') = false := by simp
            clear f3
            go_wp2_with fail
            refine G3.out.mono ?_
            rintro e w' ⟨rfl, rfl⟩
            go_wp2_with fail
            refine G4.out.mono ?_
            rintro e w7 ⟨rfl, ho7, hr7⟩
            have HO7 := Lib.hid ho7
            have HR7 := Lib.hid hr7
            have G5 := Lib.hid (has_is (r := 0) (by rw [has_nat _ K hK, put_same]) hr7)
            have G6 := Lib.hid (clear_is F3.out hK (put_same _ _ _) hr7)
            clear ho7 hr7
            go_wp2_with fail
            refine G5.out.mono ?_
            rintro e w' ⟨rfl, rfl⟩
            go_wp2_with fail
            refine G6.out.mono ?_
            rintro e w8 ⟨rfl, ho8, hr8⟩
            have HO8 := Lib.hid ho8
            have HR8 := Lib.hid hr8
            clear ho8 hr8
            have f4 : Fit q (put (put h' K 0) K 0) := F3.out.put K 0 (by omega) (by omega)
            have F4 := Lib.hid f4
            clear f4
            go_wp2_with fail
            go_roundw
            case rel => exact ⟨k + 1, by omega, by go_num, (HB6.out.trans (HO7.out.below (Nat.le_refl _))).trans (HO8.out.below (Nat.le_refl _)), _, F4, HR8.out⟩
            case measure => simp [intOf]; omega
          · have hb4' : (bits BinOp.and IntKind.i64 xd 4 == 4) = false := Bool.eq_false_iff.2 hb4
            clear hb4
            go_wp2_with fail
            go_roundw
            case rel => exact ⟨k + 1, by omega, by go_num, HB6.out, h', HF', HR6.out⟩
            case measure => simp [intOf]; omega
        · have hb2' : (bits BinOp.and IntKind.i64 xd 2 == 2) = false := Bool.eq_false_iff.2 hb2
          clear hb2
          go_wp2_with fail
          go_roundw
          case rel => exact ⟨k + 1, by omega, by go_num, HB6.out, h', HF', HR6.out⟩
          case measure => simp [intOf]; omega
    · obtain rfl : k = n := by omega
      have HBR := Lib.hid hbr
      clear hbr hx
      go_wp2_with fail
      go_ret
      exact ⟨rfl, (chain HB1.out HB2.out).trans (HBR.out.mono HB1.out.size)⟩

set_option maxRecDepth 100000 in
theorem keeps_big (q0 : Int) (a : Option Addr) (n cap : Nat) (hm : n ≤ maxLen) (hn : 100 < n) (w : World) :
    Calls Try.prog 4 #[.int .u16 q0, .slice a n cap] w fun e w' => e = .returned (.bool true) ∧ Below w.heap.size w w' := by
  unfold maxLen at hm
  go_enter Try.func4, Try.ntmps4
  go_wp2_with fail
  refine (awake_any _).mono ?_
  rintro e w1 ⟨rfl, hb1⟩
  have HB1 := Lib.hid hb1
  clear hb1
  go_wp2_with fail
  go_ret
  exact ⟨rfl, HB1.out⟩
theorem keeps_any (q : Nat) (hq : q < 65536) (a : Option Addr) (n cap : Nat) (hm : n ≤ maxLen) (D : Nat → Dd) (w : World) (hd : Deeds w a D n) :
    Calls Try.prog 4 #[.int .u16 q, .slice a n cap] w fun e w' => e = .returned (.bool true) ∧ Below w.heap.size w w' := by
  by_cases h : 100 < n
  · exact keeps_big q a n cap hm h w
  · exact keeps_small q hq a n cap (by omega) D w hd
end Go.Proofs.Ytclgjfmgohbmbaa.Le
