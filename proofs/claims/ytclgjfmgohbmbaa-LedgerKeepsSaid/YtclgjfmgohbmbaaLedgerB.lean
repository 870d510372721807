/- More contracts of the ledger's methods: the reference's Take; Give, Clear, Has, Total, New of both. Condition: as in the text ahead of this one. -/
import Derived.Test.YtclgjfmgohbmbaaLedger
namespace Go.Proofs.Ytclgjfmgohbmbaa.Le
open Go.RowKit Ba

set_option maxRecDepth 100000 in
set_option maxHeartbeats 400000 in
theorem takeRef_any (b : Nat) (q : Int) (h : Nat → Int) (f : Fit q h) (who n : Int) (hn0 : -9223372036854775808 ≤ n) (hn1 : n ≤ 9223372036854775807) (w : World) (hr : w.rowIs b 36 9 (ledF q h)) :
    Calls Try.prog 9 #[.pointer (some ⟨b, 0, none⟩), .int .i64 who, .int .i64 n] w (Left b 36 q (takeH q h who n) w (takeC q h who n)) := by
  by_cases hv : Valid who
  · by_cases hn : n < 0
    · have HC : takeC q h who n = 1 := by unfold takeC; rw [if_pos (Or.inr hn)]
      have HH : takeH q h who n = h := by unfold takeH; rw [if_pos (Or.inr hn)]
      rw [HC, HH]
      clear HC HH
      have HR := Lib.hid hr
      clear hr
      obtain ⟨v0, v1⟩ := hv
      go_enter Try.func9, Try.ntmps9
      go_wp2_with fail
      go_ret
      exact ⟨rfl, Only.refl _ _, HR.out⟩
    · obtain ⟨k, rfl⟩ : ∃ k : Nat, who = (k : Int) := ⟨who.toNat, by have := hv.1; omega⟩
      have hk : k < 8 := by have := hv.2; omega
      have e1 : ((k : Int)).toNat = k := by omega
      have c0 : w.cell? ⟨b, 0, none⟩ = some (.int .i64 q) := hr.cell (by omega)
      have c1 : w.cell? ⟨b, 1 + k, none⟩ = some (.int .i64 (h k)) := by
        have := hr.cell (show 1 + k < 9 from by omega)
        rw [this]; unfold ledF; rw [if_neg (by omega), show 1 + k - 1 = k from by omega]
      have fz := hr.frozen (1 + k)
      have b0 := f.h0 k
      have b1 := f.h1 k
      have b2 := f.q0
      have b3 := f.q1
      have HR := Lib.hid hr
      have hw : IntKind.i64.wrap (q - h k) = q - h k := IntWalk.i64_in _ (by omega)
      by_cases hq : q - h k < n
      · have HC : takeC q h (k : Int) n = 10 := by unfold takeC; rw [if_neg (fun hx => hx.elim (fun h => h hv) hn), e1, if_pos hq]
        have HH : takeH q h (k : Int) n = h := by unfold takeH; rw [if_neg (fun hx => hx.elim (fun h => h hv) hn), e1, if_pos hq]
        rw [HC, HH]
        clear HC HH hr hv e1
        generalize h k = x at *
        go_enter Try.func9, Try.ntmps9
        go_wp2_with fail
        go_quiet (fail)
        go_wp2_with fail
        go_ret
        exact ⟨rfl, ((Only.refl _ _).drewN _), HR.out⟩
      · have HC : takeC q h (k : Int) n = 0 := by unfold takeC; rw [if_neg (fun hx => hx.elim (fun h => h hv) hn), e1, if_neg hq]
        have HH : takeH q h (k : Int) n = put h k (h k + n) := by unfold takeH; rw [if_neg (fun hx => hx.elim (fun h => h hv) hn), e1, if_neg hq]
        rw [HC, HH]
        have HP := Lib.hid (ledF_put q h k (h k + n))
        clear HC HH hr hv e1
        have hw2 : IntKind.i64.wrap (h k + n) = h k + n := IntWalk.i64_in _ (by omega)
        generalize h k = x at *
        go_enter Try.func9, Try.ntmps9
        go_wp2_with fail
        go_quiet (fail)
        go_wp2_with fail
        go_region
        all_goals
          go_wp2_with fail
          go_ret
          refine ⟨rfl, ?_, ?_⟩
          · exact (((Only.refl _ _).drewN _).drew).set _ _
          · rw [HP.out]
            exact World.rowIs.set (w := ((w.drewN _)).drew) HR.out (1 + k) _
  · have HC : takeC q h who n = 1 := by unfold takeC; rw [if_pos (Or.inl hv)]
    have HH : takeH q h who n = h := by unfold takeH; rw [if_pos (Or.inl hv)]
    rw [HC, HH]
    clear HC HH
    have HR := Lib.hid hr
    clear hr
    by_cases v0 : who < 0
    · clear hv
      go_enter Try.func9, Try.ntmps9
      go_wp2_with fail
      go_ret
      exact ⟨rfl, Only.refl _ _, HR.out⟩
    · have v1 : 8 ≤ who := by unfold Valid at hv; omega
      clear hv
      go_enter Try.func9, Try.ntmps9
      go_wp2_with fail
      go_ret
      exact ⟨rfl, Only.refl _ _, HR.out⟩

set_option maxRecDepth 100000 in
set_option maxHeartbeats 400000 in
theorem give_any (b : Nat) (q : Int) (h : Nat → Int) (f : Fit q h) (who n : Int) (hn0 : -9223372036854775808 ≤ n) (hn1 : n ≤ 9223372036854775807) (w : World) (hr : w.rowIs b 43 9 (ledF q h)) :
    Calls Try.prog 10 #[.pointer (some ⟨b, 0, none⟩), .int .i64 who, .int .i64 n] w (Left b 43 q (giveH h who n) w (giveC h who n)) := by
  by_cases hv : Valid who
  · by_cases hn : n < 0
    · have HC : giveC h who n = 1 := by unfold giveC; rw [if_pos (Or.inr hn)]
      have HH : giveH h who n = h := by unfold giveH; rw [if_pos (Or.inr hn)]
      rw [HC, HH]
      clear HC HH
      have HR := Lib.hid hr
      clear hr
      have HY := Lib.hid (who_yes b who hv w)
      go_enter Try.func10, Try.ntmps10
      go_wp2_with fail
      refine HY.out.mono ?_
      rintro e w' ⟨rfl, rfl⟩
      go_wp2_with fail
      go_ret
      exact ⟨rfl, Only.refl _ _, HR.out⟩
    · obtain ⟨k, rfl⟩ : ∃ k : Nat, who = (k : Int) := ⟨who.toNat, by have := hv.1; omega⟩
      have hk : k < 8 := by have := hv.2; omega
      have e1 : ((k : Int)).toNat = k := by omega
      have c0 : w.cell? ⟨b, 0, none⟩ = some (.int .i64 q) := hr.cell (by omega)
      have c1 : w.cell? ⟨b, 1 + k, none⟩ = some (.int .i64 (h k)) := by
        have := hr.cell (show 1 + k < 9 from by omega)
        rw [this]; unfold ledF; rw [if_neg (by omega), show 1 + k - 1 = k from by omega]
      have fz := hr.frozen (1 + k)
      have b0 := f.h0 k
      have b1 := f.h1 k
      have b2 := f.q0
      have b3 := f.q1
      have HR := Lib.hid hr
      have HY := Lib.hid (who_yes b (k : Int) hv w)
      by_cases hq : h k < n
      · have HC : giveC h (k : Int) n = 1 := by unfold giveC; rw [if_neg (fun hx => hx.elim (fun h => h hv) hn), e1, if_pos hq]
        have HH : giveH h (k : Int) n = h := by unfold giveH; rw [if_neg (fun hx => hx.elim (fun h => h hv) hn), e1, if_pos hq]
        rw [HC, HH]
        clear HC HH hr hv e1
        generalize h k = x at *
        go_enter Try.func10, Try.ntmps10
        go_wp2_with fail
        refine HY.out.mono ?_
        rintro e w' ⟨rfl, rfl⟩
        go_wp2_with fail
        go_ret
        exact ⟨rfl, (Only.refl _ _), HR.out⟩
      · have HC : giveC h (k : Int) n = 0 := by unfold giveC; rw [if_neg (fun hx => hx.elim (fun h => h hv) hn), e1, if_neg hq]
        have HH : giveH h (k : Int) n = put h k (h k - n) := by unfold giveH; rw [if_neg (fun hx => hx.elim (fun h => h hv) hn), e1, if_neg hq]
        rw [HC, HH]
        have HP := Lib.hid (ledF_put q h k (h k - n))
        clear HC HH hr hv e1
        have hw2 : IntKind.i64.wrap (h k - n) = h k - n := IntWalk.i64_in _ (by omega)
        generalize h k = x at *
        go_enter Try.func10, Try.ntmps10
        go_wp2_with fail
        refine HY.out.mono ?_
        rintro e w' ⟨rfl, rfl⟩
        go_wp2_with fail
        go_region
        all_goals
          go_wp2_with fail
          go_ret
          refine ⟨rfl, ?_, ?_⟩
          · exact ((Only.refl _ _).drew).set _ _
          · rw [HP.out]
            exact World.rowIs.set (w := (w).drew) HR.out (1 + k) _
  · have HC : giveC h who n = 1 := by unfold giveC; rw [if_pos (Or.inl hv)]
    have HH : giveH h who n = h := by unfold giveH; rw [if_pos (Or.inl hv)]
    rw [HC, HH]
    clear HC HH
    have HR := Lib.hid hr
    clear hr
    have HY := Lib.hid (who_no b who hv w)
    go_enter Try.func10, Try.ntmps10
    go_wp2_with fail
    refine HY.out.mono ?_
    rintro e w' ⟨rfl, rfl⟩
    go_wp2_with fail
    go_ret
    exact ⟨rfl, Only.refl _ _, HR.out⟩

set_option maxRecDepth 100000 in
set_option maxHeartbeats 400000 in
theorem giveRef_any (b : Nat) (q : Int) (h : Nat → Int) (f : Fit q h) (who n : Int) (hn0 : -9223372036854775808 ≤ n) (hn1 : n ≤ 9223372036854775807) (w : World) (hr : w.rowIs b 36 9 (ledF q h)) :
    Calls Try.prog 11 #[.pointer (some ⟨b, 0, none⟩), .int .i64 who, .int .i64 n] w (Left b 36 q (giveH h who n) w (giveC h who n)) := by
  by_cases hv : Valid who
  · by_cases hn : n < 0
    · have HC : giveC h who n = 1 := by unfold giveC; rw [if_pos (Or.inr hn)]
      have HH : giveH h who n = h := by unfold giveH; rw [if_pos (Or.inr hn)]
      rw [HC, HH]
      clear HC HH
      have HR := Lib.hid hr
      clear hr
      obtain ⟨v0, v1⟩ := hv
      go_enter Try.func11, Try.ntmps11
      go_wp2_with fail
      go_ret
      exact ⟨rfl, Only.refl _ _, HR.out⟩
    · obtain ⟨k, rfl⟩ : ∃ k : Nat, who = (k : Int) := ⟨who.toNat, by have := hv.1; omega⟩
      have hk : k < 8 := by have := hv.2; omega
      have e1 : ((k : Int)).toNat = k := by omega
      have c0 : w.cell? ⟨b, 0, none⟩ = some (.int .i64 q) := hr.cell (by omega)
      have c1 : w.cell? ⟨b, 1 + k, none⟩ = some (.int .i64 (h k)) := by
        have := hr.cell (show 1 + k < 9 from by omega)
        rw [this]; unfold ledF; rw [if_neg (by omega), show 1 + k - 1 = k from by omega]
      have fz := hr.frozen (1 + k)
      have b0 := f.h0 k
      have b1 := f.h1 k
      have b2 := f.q0
      have b3 := f.q1
      have HR := Lib.hid hr
      by_cases hq : h k < n
      · have HC : giveC h (k : Int) n = 1 := by unfold giveC; rw [if_neg (fun hx => hx.elim (fun h => h hv) hn), e1, if_pos hq]
        have HH : giveH h (k : Int) n = h := by unfold giveH; rw [if_neg (fun hx => hx.elim (fun h => h hv) hn), e1, if_pos hq]
        rw [HC, HH]
        clear HC HH hr hv e1
        generalize h k = x at *
        go_enter Try.func11, Try.ntmps11
        go_wp2_with fail
        go_ret
        exact ⟨rfl, (Only.refl _ _), HR.out⟩
      · have HC : giveC h (k : Int) n = 0 := by unfold giveC; rw [if_neg (fun hx => hx.elim (fun h => h hv) hn), e1, if_neg hq]
        have HH : giveH h (k : Int) n = put h k (h k - n) := by unfold giveH; rw [if_neg (fun hx => hx.elim (fun h => h hv) hn), e1, if_neg hq]
        rw [HC, HH]
        have HP := Lib.hid (ledF_put q h k (h k - n))
        clear HC HH hr hv e1
        have hw2 : IntKind.i64.wrap (h k - n) = h k - n := IntWalk.i64_in _ (by omega)
        generalize h k = x at *
        go_enter Try.func11, Try.ntmps11
        go_wp2_with fail
        go_region
        all_goals
          go_wp2_with fail
          go_ret
          refine ⟨rfl, ?_, ?_⟩
          · exact ((Only.refl _ _).drew).set _ _
          · rw [HP.out]
            exact World.rowIs.set (w := (w).drew) HR.out (1 + k) _
  · have HC : giveC h who n = 1 := by unfold giveC; rw [if_pos (Or.inl hv)]
    have HH : giveH h who n = h := by unfold giveH; rw [if_pos (Or.inl hv)]
    rw [HC, HH]
    clear HC HH
    have HR := Lib.hid hr
    clear hr
    by_cases v0 : who < 0
    · clear hv
      go_enter Try.func11, Try.ntmps11
      go_wp2_with fail
      go_ret
      exact ⟨rfl, Only.refl _ _, HR.out⟩
    · have v1 : 8 ≤ who := by unfold Valid at hv; omega
      clear hv
      go_enter Try.func11, Try.ntmps11
      go_wp2_with fail
      go_ret
      exact ⟨rfl, Only.refl _ _, HR.out⟩
end Go.Proofs.Ytclgjfmgohbmbaa.Le
