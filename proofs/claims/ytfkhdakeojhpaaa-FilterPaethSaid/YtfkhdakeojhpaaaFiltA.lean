/- Contracts of off, away, the two Paeth, may, at and the two told. Condition: bytes lie at the slices, indices as Do and Undo hand them. -/
import Derived.Test.YtfkhdakeojhpaaaBase
import Derived.Test.YtfkhdakeojhpaaaFMath
import Derived.WalkLawsBesides
import Derived.Deep.DeepCutAuto
namespace Go.Proofs.Ytfkhdakeojhpaaa.Fi
open Go.RowKit Ba

theorem off_any (a b : Int) (ha : -1000 ≤ a ∧ a ≤ 1000) (hb : -1000 ≤ b ∧ b ≤ 1000) (w : World) :
    Calls Try.prog 20 #[.int .i64 a, .int .i64 b] w fun e w' => e = .returned (.int .i64 (offV a b)) ∧ w = w' := by
  obtain ⟨ha0, ha1⟩ := ha
  obtain ⟨hb0, hb1⟩ := hb
  by_cases h : b ≤ a
  · have HO : offV a b = a - b := by unfold offV; rw [if_pos h]
    rw [HO]
    clear HO
    go_enter Try.func20, Try.ntmps20
    go_wp2
    all_goals
      go_ret
      exact ⟨by simp <;> omega, rfl⟩
  · have HO : offV a b = b - a := by unfold offV; rw [if_neg h]
    rw [HO]
    clear HO
    go_enter Try.func20, Try.ntmps20
    go_wp2
    all_goals
      go_ret
      exact ⟨by simp <;> omega, rfl⟩
theorem away_any (p : Int) (x : Nat) (hp : -1000 ≤ p ∧ p ≤ 1000) (hx : x < 256) (w : World) :
    Calls Try.prog 21 #[.int .i64 p, .int .u8 x] w fun e w' => e = .returned (.int .i64 (offV p x)) ∧ w = w' := by
  obtain ⟨ha0, ha1⟩ := hp
  by_cases h : (x : Int) ≤ p
  · have HO : offV p x = p - x := by unfold offV; rw [if_pos h]
    rw [HO]
    clear HO
    go_enter Try.func21, Try.ntmps21
    go_wp2
    all_goals
      go_ret
      exact ⟨by simp <;> omega, rfl⟩
  · have HO : offV p x = x - p := by unfold offV; rw [if_neg h]
    rw [HO]
    clear HO
    go_enter Try.func21, Try.ntmps21
    go_wp2
    all_goals
      go_ret
      exact ⟨by simp <;> omega, rfl⟩

/-- The three ways of Paeth. -/
theorem paeth_a {a b c : UInt8} {o1 o2 o3 : Int} (h1 : o1 = offV ((a.toNat : Int) + b.toNat - c.toNat) a.toNat) (h2 : o2 = offV ((a.toNat : Int) + b.toNat - c.toNat) b.toNat) (h3 : o3 = offV ((a.toNat : Int) + b.toNat - c.toNat) c.toNat) (h : o1 ≤ o2 ∧ o1 ≤ o3) : paethV a b c = a := by
  subst h1 h2 h3; unfold paethV; rw [if_pos h]
theorem paeth_b {a b c : UInt8} {o1 o2 o3 : Int} (h1 : o1 = offV ((a.toNat : Int) + b.toNat - c.toNat) a.toNat) (h2 : o2 = offV ((a.toNat : Int) + b.toNat - c.toNat) b.toNat) (h3 : o3 = offV ((a.toNat : Int) + b.toNat - c.toNat) c.toNat) (h : ¬ (o1 ≤ o2 ∧ o1 ≤ o3)) (h' : o2 ≤ o3) : paethV a b c = b := by
  subst h1 h2 h3; unfold paethV; rw [if_neg h, if_pos h']
theorem paeth_c {a b c : UInt8} {o1 o2 o3 : Int} (h1 : o1 = offV ((a.toNat : Int) + b.toNat - c.toNat) a.toNat) (h2 : o2 = offV ((a.toNat : Int) + b.toNat - c.toNat) b.toNat) (h3 : o3 = offV ((a.toNat : Int) + b.toNat - c.toNat) c.toNat) (h : ¬ (o1 ≤ o2 ∧ o1 ≤ o3)) (h' : ¬ o2 ≤ o3) : paethV a b c = c := by
  subst h1 h2 h3; unfold paethV; rw [if_neg h, if_neg h']

set_option maxRecDepth 100000 in
set_option maxHeartbeats 400000 in
theorem paeth_any (a b c : UInt8) (w : World) :
    Calls Try.prog 10 #[.int .u8 (a.toNat : Nat), .int .u8 (b.toNat : Nat), .int .u8 (c.toNat : Nat)] w fun e w' => e = .returned (.int .u8 ((paethV a b c).toNat : Nat)) ∧ w = w' := by
  have ha := a.toNat_lt
  have hb := b.toNat_lt
  have hc := c.toNat_lt
  obtain ⟨o1, h1⟩ : ∃ o, o = offV ((a.toNat : Int) + b.toNat - c.toNat) a.toNat := ⟨_, rfl⟩
  obtain ⟨o2, h2⟩ : ∃ o, o = offV ((a.toNat : Int) + b.toNat - c.toNat) b.toNat := ⟨_, rfl⟩
  obtain ⟨o3, h3⟩ : ∃ o, o = offV ((a.toNat : Int) + b.toNat - c.toNat) c.toNat := ⟨_, rfl⟩
  have H1 := Lib.hid (fun w => off_any ((a.toNat : Int) + b.toNat - c.toNat) a.toNat (by omega) (by omega) w)
  have H2 := Lib.hid (fun w => off_any ((a.toNat : Int) + b.toNat - c.toNat) b.toNat (by omega) (by omega) w)
  have H3 := Lib.hid (fun w => off_any ((a.toNat : Int) + b.toNat - c.toNat) c.toNat (by omega) (by omega) w)
  rw [← h1] at H1
  rw [← h2] at H2
  rw [← h3] at H3
  rcases (show (o1 ≤ o2 ∧ o1 ≤ o3) ∨ (¬ o1 ≤ o2 ∧ o2 ≤ o3) ∨ (¬ o1 ≤ o2 ∧ ¬ o2 ≤ o3) ∨ (o1 ≤ o2 ∧ ¬ o1 ≤ o3 ∧ ¬ o2 ≤ o3) from by omega) with h | h | h | h
  · rw [paeth_a h1 h2 h3 h]
    obtain ⟨g1, g2⟩ := h
    clear h1 h2 h3
    generalize a.toNat = x at *
    generalize b.toNat = y at *
    generalize c.toNat = z at *
    go_enter Try.func10, Try.ntmps10
    go_wp2_with fail
    refine (H1.out _).mono ?_
    rintro e w' ⟨rfl, rfl⟩
    go_wp2_with fail
    refine (H2.out _).mono ?_
    rintro e w' ⟨rfl, rfl⟩
    go_wp2_with fail
    refine (H1.out _).mono ?_
    rintro e w' ⟨rfl, rfl⟩
    go_wp2_with fail
    refine (H3.out _).mono ?_
    rintro e w' ⟨rfl, rfl⟩
    go_wp2_with fail
    go_ret
    exact ⟨rfl, rfl⟩
  all_goals
    first
      | rw [paeth_b h1 h2 h3 (by omega) (by omega)]
      | rw [paeth_c h1 h2 h3 (by omega) (by omega)]
    clear h1 h2 h3
    generalize a.toNat = x at *
    generalize b.toNat = y at *
    generalize c.toNat = z at *
  · obtain ⟨g1, g2⟩ := h
    go_enter Try.func10, Try.ntmps10
    go_wp2_with fail
    refine (H1.out _).mono ?_
    rintro e w' ⟨rfl, rfl⟩
    go_wp2_with fail
    refine (H2.out _).mono ?_
    rintro e w' ⟨rfl, rfl⟩
    go_wp2_with fail
    refine (H2.out _).mono ?_
    rintro e w' ⟨rfl, rfl⟩
    go_wp2_with fail
    refine (H3.out _).mono ?_
    rintro e w' ⟨rfl, rfl⟩
    go_wp2_with fail
    go_ret
    exact ⟨rfl, rfl⟩
  · obtain ⟨g1, g2⟩ := h
    go_enter Try.func10, Try.ntmps10
    go_wp2_with fail
    refine (H1.out _).mono ?_
    rintro e w' ⟨rfl, rfl⟩
    go_wp2_with fail
    refine (H2.out _).mono ?_
    rintro e w' ⟨rfl, rfl⟩
    go_wp2_with fail
    refine (H2.out _).mono ?_
    rintro e w' ⟨rfl, rfl⟩
    go_wp2_with fail
    refine (H3.out _).mono ?_
    rintro e w' ⟨rfl, rfl⟩
    go_wp2_with fail
    go_ret
    exact ⟨rfl, rfl⟩
  · obtain ⟨g1, g2, g3⟩ := h
    go_enter Try.func10, Try.ntmps10
    go_wp2_with fail
    refine (H1.out _).mono ?_
    rintro e w' ⟨rfl, rfl⟩
    go_wp2_with fail
    refine (H2.out _).mono ?_
    rintro e w' ⟨rfl, rfl⟩
    go_wp2_with fail
    refine (H1.out _).mono ?_
    rintro e w' ⟨rfl, rfl⟩
    go_wp2_with fail
    refine (H3.out _).mono ?_
    rintro e w' ⟨rfl, rfl⟩
    go_wp2_with fail
    refine (H2.out _).mono ?_
    rintro e w' ⟨rfl, rfl⟩
    go_wp2_with fail
    refine (H3.out _).mono ?_
    rintro e w' ⟨rfl, rfl⟩
    go_wp2_with fail
    go_ret
    exact ⟨rfl, rfl⟩

set_option maxRecDepth 100000 in
set_option maxHeartbeats 400000 in
theorem paethRef_any (a b c : UInt8) (w : World) :
    Calls Try.prog 12 #[.int .u8 (a.toNat : Nat), .int .u8 (b.toNat : Nat), .int .u8 (c.toNat : Nat)] w fun e w' => e = .returned (.int .u8 ((paethV a b c).toNat : Nat)) ∧ w = w' := by
  have ha := a.toNat_lt
  have hb := b.toNat_lt
  have hc := c.toNat_lt
  obtain ⟨o1, h1⟩ : ∃ o, o = offV ((a.toNat : Int) + b.toNat - c.toNat) a.toNat := ⟨_, rfl⟩
  obtain ⟨o2, h2⟩ : ∃ o, o = offV ((a.toNat : Int) + b.toNat - c.toNat) b.toNat := ⟨_, rfl⟩
  obtain ⟨o3, h3⟩ : ∃ o, o = offV ((a.toNat : Int) + b.toNat - c.toNat) c.toNat := ⟨_, rfl⟩
  have H1 := Lib.hid (fun w => away_any ((a.toNat : Int) + b.toNat - c.toNat) a.toNat (by omega) (by omega) w)
  have H2 := Lib.hid (fun w => away_any ((a.toNat : Int) + b.toNat - c.toNat) b.toNat (by omega) (by omega) w)
  have H3 := Lib.hid (fun w => away_any ((a.toNat : Int) + b.toNat - c.toNat) c.toNat (by omega) (by omega) w)
  rw [← h1] at H1
  rw [← h2] at H2
  rw [← h3] at H3
  rcases (show (o1 ≤ o2 ∧ o1 ≤ o3) ∨ (¬ o1 ≤ o2 ∧ o2 ≤ o3) ∨ (¬ o1 ≤ o2 ∧ ¬ o2 ≤ o3) ∨ (o1 ≤ o2 ∧ ¬ o1 ≤ o3 ∧ ¬ o2 ≤ o3) from by omega) with h | h | h | h
  all_goals
    first
      | rw [paeth_a h1 h2 h3 (by omega)]
      | rw [paeth_b h1 h2 h3 (by omega) (by omega)]
      | rw [paeth_c h1 h2 h3 (by omega) (by omega)]
    clear h1 h2 h3
    generalize a.toNat = x at *
    generalize b.toNat = y at *
    generalize c.toNat = z at *
    first
      | obtain ⟨g1, g2, g3⟩ := h
      | obtain ⟨g1, g2⟩ := h
    go_enter Try.func12, Try.ntmps12
    go_wp2_with fail
    refine (H1.out _).mono ?_
    rintro e w' ⟨rfl, rfl⟩
    go_wp2_with fail
    refine (H2.out _).mono ?_
    rintro e w' ⟨rfl, rfl⟩
    go_wp2_with fail
    refine (H3.out _).mono ?_
    rintro e w' ⟨rfl, rfl⟩
    go_wp2_with fail
    go_ret
    exact ⟨rfl, rfl⟩

/-- May the row be filtered? -/
def MayV (k : Int) (n m : Nat) (d : Int) : Prop := (0 ≤ k ∧ k < 5) ∧ (1 ≤ d ∧ d ≤ 8) ∧ (m = 0 ∨ m = n)

set_option maxRecDepth 100000 in
theorem may_yes (k d : Int) (a b : Option Addr) (n m ca cb : Nat) (h : MayV k n m d) (w : World) :
    Calls Try.prog 18 #[.int .i64 k, .slice a n ca, .slice b m cb, .int .i64 d] w fun e w' => e = .returned (.bool true) ∧ w = w' := by
  obtain ⟨⟨k0, k1⟩, ⟨d0, d1⟩, hm⟩ := h
  by_cases hz : m = 0
  · have t0 : ((m : Int) == 0) = true := by rw [hz]; rfl
    clear hm hz
    go_enter Try.func18, Try.ntmps18
    go_wp2
    go_ret
    exact ⟨by simp <;> omega, rfl⟩
  · have t0 : ((m : Int) == 0) = false := by rw [beq_eq_false_iff_ne]; omega
    obtain rfl : m = n := by omega
    clear hm hz
    go_enter Try.func18, Try.ntmps18
    go_wp2
    go_ret
    exact ⟨by simp <;> omega, rfl⟩
set_option maxRecDepth 100000 in
theorem may_no (k d : Int) (a b : Option Addr) (n m ca cb : Nat) (h : ¬ MayV k n m d) (w : World) :
    Calls Try.prog 18 #[.int .i64 k, .slice a n ca, .slice b m cb, .int .i64 d] w fun e w' => e = .returned (.bool false) ∧ w = w' := by
  have hc : k < 0 ∨ (¬ k < 0 ∧ 5 ≤ k) ∨ (¬ k < 0 ∧ k < 5 ∧ d < 1) ∨ (¬ k < 0 ∧ k < 5 ∧ ¬ d < 1 ∧ 8 < d) ∨ (¬ k < 0 ∧ k < 5 ∧ ¬ d < 1 ∧ ¬ 8 < d ∧ ((m : Int) == 0) = false ∧ ((m : Int) == (n : Int)) = false) := by
    rw [beq_eq_false_iff_ne, beq_eq_false_iff_ne]; unfold MayV at h; omega
  clear h
  rcases hc with h | ⟨h1, h⟩ | ⟨h1, h2, h⟩ | ⟨h1, h2, h3, h⟩ | ⟨h1, h2, h3, h4, h5, h⟩
  all_goals
    go_enter Try.func18, Try.ntmps18
    go_wp2
    go_ret
    exact ⟨by simp <;> omega, rfl⟩

/-- 'at': a byte of a row; nought where there is none. -/
def atV (l : List UInt8) (i : Int) : UInt8 := if 0 ≤ i then l.getD i.toNat 0 else 0
set_option maxRecDepth 100000 in
theorem at_any (l : List UInt8) (_hl : l.length ≤ 140737488351232) (a : Option Addr) (cap : Nat) (i : Int) (hi : -9223372036854775808 ≤ i ∧ i ≤ 9223372036854775807) (w : World) (hb : Bytes w a l) :
    Calls Try.prog 24 #[.slice a l.length cap, .int .i64 i] w fun e w' => e = .returned (.int .u8 ((atV l i).toNat : Nat)) ∧ w = w' := by
  obtain ⟨i0, i1⟩ := hi
  by_cases h0 : i < 0
  · have HA : Hid (atV l i = 0) := by unfold atV; rw [if_neg (by omega)]; rfl
    go_enter Try.func24, Try.ntmps24
    go_wp2
    go_ret
    exact ⟨by rw [HA.out]; rfl, rfl⟩
  · obtain ⟨k, rfl⟩ : ∃ k : Nat, i = (k : Int) := ⟨i.toNat, by omega⟩
    by_cases h1 : k < l.length
    · have HA : Hid (atV l (k : Int) = l[k]) := by
        unfold atV
        rw [if_pos (by omega), List.getD_eq_getElem?_getD, Int.toNat_natCast, List.getElem?_eq_getElem h1]
        rfl
      obtain ⟨b, off, rfl, hc⟩ := hb k h1
      rw [HA.out]
      generalize l[k].toNat = x at *
      clear hb
      go_enter Try.func24, Try.ntmps24
      go_wp2
      go_ret
      exact ⟨rfl, rfl⟩
    · have HA : Hid (atV l (k : Int) = 0) := by
        unfold atV
        rw [if_pos (by omega), List.getD_eq_getElem?_getD, Int.toNat_natCast, List.getElem?_eq_none (by omega)]
        rfl
      go_enter Try.func24, Try.ntmps24
      go_wp2
      go_ret
      exact ⟨by rw [HA.out]; rfl, rfl⟩
theorem at_back (l : List UInt8) (d i : Nat) : atV l ((i : Int) - (d : Int)) = back l d i := by
  unfold atV back
  by_cases h : d ≤ i
  · rw [if_pos (by omega), if_pos h, show ((i : Int) - (d : Int)).toNat = i - d from by omega]
  · rw [if_neg (by omega), if_neg h]
theorem at_here (l : List UInt8) (i : Nat) : atV l (i : Int) = l.getD i 0 := by
  unfold atV
  rw [if_pos (by omega), Int.toNat_natCast]
theorem half_eq (a b : UInt8) : (((UInt8.ofNat ((a.toNat + b.toNat) / 2)).toNat : Nat) : Int) = ((a.toNat : Int) + (b.toNat : Int)) / 2 := by
  have := a.toNat_lt
  have := b.toNat_lt
  rw [UInt8.toNat_ofNat_of_lt' (show (a.toNat + b.toNat) / 2 < 256 from by omega)]
  omega

set_option maxRecDepth 100000 in
set_option maxHeartbeats 800000 in
theorem told_any (k : Nat) (hk : k < 5) (row above : List UInt8) (hr : row.length ≤ 140737488351232) (ha : above.length ≤ 140737488351232) (a b : Option Addr) (n m ca cb : Nat) (hn : n = row.length) (hm : m = above.length) (d i : Nat) (hd : d ≤ 8) (hi : i ≤ 140737488351232) (w : World) (hbr : Bytes w a row) (hba : Bytes w b above) :
    Calls Try.prog 19 #[.int .i64 (k : Nat), .slice a n ca, .slice b m cb, .int .i64 (d : Nat), .int .i64 (i : Nat)] w fun e w' => e = .returned (.int .u8 ((toldV k row above d i).toNat : Nat)) ∧ w = w' := by
  subst hn hm
  have g1 := at_any row hr a ca ((i : Int) - (d : Int)) (by omega) w hbr
  have g2 := at_any above ha b cb (i : Int) (by omega) w hba
  have g3 := at_any above ha b cb ((i : Int) - (d : Int)) (by omega) w hba
  rw [at_back] at g1 g3
  rw [at_here] at g2
  obtain ⟨x, hx⟩ : ∃ x, x = back row d i := ⟨_, rfl⟩
  obtain ⟨y, hy⟩ : ∃ x, x = above.getD i 0 := ⟨_, rfl⟩
  obtain ⟨z, hz⟩ : ∃ x, x = back above d i := ⟨_, rfl⟩
  have hT : toldV k row above d i = guess k x y z := by unfold toldV; rw [hx, hy, hz]
  rw [hT]
  rw [← hx] at g1
  rw [← hy] at g2
  rw [← hz] at g3
  clear hT hx hy hz hbr hba
  have G1 := Lib.hid g1
  have G2 := Lib.hid g2
  have G3 := Lib.hid g3
  clear g1 g2 g3
  have bx := x.toNat_lt
  have bY := y.toNat_lt
  have G4 := Lib.hid (paeth_any x y z w)
  have G5 := Lib.hid (half_eq x y)
  rcases (show k = 0 ∨ k = 1 ∨ k = 2 ∨ k = 3 ∨ k = 4 from by omega) with rfl | rfl | rfl | rfl | rfl
  · go_enter Try.func19, Try.ntmps19
    go_wp2_with fail
    refine G1.out.mono ?_
    rintro e w' ⟨rfl, rfl⟩
    go_wp2_with fail
    refine G2.out.mono ?_
    rintro e w' ⟨rfl, rfl⟩
    go_wp2_with fail
    refine G3.out.mono ?_
    rintro e w' ⟨rfl, rfl⟩
    go_wp2_with fail
    go_ret
    exact ⟨rfl, rfl⟩
  · go_enter Try.func19, Try.ntmps19
    go_wp2_with fail
    refine G1.out.mono ?_
    rintro e w' ⟨rfl, rfl⟩
    go_wp2_with fail
    refine G2.out.mono ?_
    rintro e w' ⟨rfl, rfl⟩
    go_wp2_with fail
    refine G3.out.mono ?_
    rintro e w' ⟨rfl, rfl⟩
    go_wp2_with fail
    go_ret
    exact ⟨rfl, rfl⟩
  · go_enter Try.func19, Try.ntmps19
    go_wp2_with fail
    refine G1.out.mono ?_
    rintro e w' ⟨rfl, rfl⟩
    go_wp2_with fail
    refine G2.out.mono ?_
    rintro e w' ⟨rfl, rfl⟩
    go_wp2_with fail
    refine G3.out.mono ?_
    rintro e w' ⟨rfl, rfl⟩
    go_wp2_with fail
    go_ret
    exact ⟨rfl, rfl⟩
  · have HG : Hid (guess 3 x y z = UInt8.ofNat ((x.toNat + y.toNat) / 2)) := rfl
    go_enter Try.func19, Try.ntmps19
    go_wp2_with fail
    refine G1.out.mono ?_
    rintro e w' ⟨rfl, rfl⟩
    go_wp2_with fail
    refine G2.out.mono ?_
    rintro e w' ⟨rfl, rfl⟩
    go_wp2_with fail
    refine G3.out.mono ?_
    rintro e w' ⟨rfl, rfl⟩
    go_wp2_with fail
    go_ret
    exact ⟨by rw [HG.out, G5.out]; rfl, rfl⟩
  · go_enter Try.func19, Try.ntmps19
    go_wp2_with fail
    refine G1.out.mono ?_
    rintro e w' ⟨rfl, rfl⟩
    go_wp2_with fail
    refine G2.out.mono ?_
    rintro e w' ⟨rfl, rfl⟩
    go_wp2_with fail
    refine G3.out.mono ?_
    rintro e w' ⟨rfl, rfl⟩
    go_wp2_with fail
    refine G4.out.mono ?_
    rintro e w' ⟨rfl, rfl⟩
    go_wp2_with fail
    go_ret
    exact ⟨rfl, rfl⟩

/-- The reference's 'told', for an index in the row. -/
theorem back_at (l : List UInt8) (d i : Nat) (h : d ≤ i) (hl : i < l.length) : back l d i = l[i - d] := by
  unfold back
  rw [if_pos h, List.getD_eq_getElem?_getD, List.getElem?_eq_getElem (by omega)]
  rfl
theorem back_none (l : List UInt8) (d i : Nat) (h : ¬ d ≤ i) : back l d i = 0 := by unfold back; rw [if_neg h]
theorem back_nil (d i : Nat) : back [] d i = 0 := by unfold back; simp

set_option maxRecDepth 100000 in
set_option maxHeartbeats 1600000 in
theorem toldRef_any (k : Nat) (hk : k < 5) (row above : List UInt8) (hr : row.length ≤ 140737488351232) (a b : Option Addr) (n m ca cb : Nat) (hn : n = row.length) (hm : m = above.length) (hma : above.length = 0 ∨ above.length = row.length) (d i : Nat) (hd : d ≤ 8) (hd1 : 1 ≤ d) (hi : i < row.length) (w : World)
    (hbr : ∀ j, (hj : j < i) → ∃ b off, a = some ⟨b, off, none⟩ ∧ w.cell? ⟨b, off + j, none⟩ = some (.int .u8 (((row[j]'(by omega)).toNat : Nat) : Int))) (hba : Bytes w b above) :
    Calls Try.prog 22 #[.int .i64 (k : Nat), .slice a n ca, .slice b m cb, .int .i64 (i : Nat), .int .i64 (d : Nat)] w fun e w' => e = .returned (.int .u8 ((toldV k row above d i).toNat : Nat)) ∧ w = w' := by
  subst hn hm
  obtain ⟨x, hx⟩ : ∃ x, x = back row d i := ⟨_, rfl⟩
  obtain ⟨y, hy⟩ : ∃ x, x = above.getD i 0 := ⟨_, rfl⟩
  obtain ⟨z, hz⟩ : ∃ x, x = back above d i := ⟨_, rfl⟩
  have hT : toldV k row above d i = guess k x y z := by unfold toldV; rw [hx, hy, hz]
  rw [hT]
  have HX := Lib.hid hx
  have HY := Lib.hid hy
  have HZ := Lib.hid hz
  have HBR := Lib.hid hbr
  have HBA := Lib.hid hba
  have HMA := Lib.hid hma
  clear hT hx hy hz hbr hba hma
  have bx := x.toNat_lt
  have bY := y.toNat_lt
  have G4 := Lib.hid (paethRef_any x y z w)
  have G5 := Lib.hid (half_eq x y)
  go_enter Try.func22, Try.ntmps22
  go_upto_if 16 with (fail)
  go_cut [11] (fun s wx => s = .int .u8 ((x.toNat : Nat) : Int) ∧ w = wx)
  case first =>
    by_cases hdi : d ≤ i
    · obtain ⟨b0, off0, rfl, hc⟩ := HBR.out (i - d) (by omega)
      have e : row[i - d]'(by omega) = x := by rw [HX.out, back_at row d i hdi hi]
      rw [e] at hc
      clear e
      generalize x.toNat = xn at *
      go_wp2_with fail
      go_meet
      exact ⟨rfl, rfl⟩
    · have hx0 : x = 0 := by rw [HX.out, back_none row d i hdi]
      have HX0 := Lib.hid hx0
      clear hx0
      go_wp2_with fail
      go_meet
      exact ⟨by rw [HX0.out]; rfl, rfl⟩
  case rest =>
    obtain ⟨rfl, rfl⟩ := hcut
    go_upto_if 25 with (fail)
    go_cut [12, 13] (fun s t wx => s = .int .u8 ((y.toNat : Nat) : Int) ∧ t = .int .u8 ((z.toNat : Nat) : Int) ∧ w = wx)
    case first =>
      by_cases hz0 : above.length = 0
      · have hnil : above = [] := List.length_eq_zero_iff.1 hz0
        subst hnil
        have hy0 : y = 0 := by rw [HY.out]; simp
        have hz1 : z = 0 := by rw [HZ.out, back_nil]
        have HY0 := Lib.hid hy0
        have HZ0 := Lib.hid hz1
        clear hy0 hz1 hz0
        go_wp2_with fail
        go_meet
        exact ⟨by rw [HY0.out]; rfl, by rw [HZ0.out]; rfl, rfl⟩
      · have hal : above.length = row.length := HMA.out.resolve_left hz0
        have hia : i < above.length := by omega
        have hpos : (0 : Int) < (above.length : Int) := by omega
        obtain ⟨b1, off1, rfl, hc⟩ := HBA.out i hia
        have e : above[i] = y := by rw [HY.out, List.getD_eq_getElem?_getD, List.getElem?_eq_getElem hia]; rfl
        rw [e] at hc
        have HAL := Lib.hid hal
        clear e hal hz0
        by_cases hdi : d ≤ i
        · obtain ⟨b2, off2, he2, hc2⟩ := HBA.out (i - d) (by omega)
          simp only [Option.some.injEq, Addr.mk.injEq] at he2
          obtain ⟨rfl, rfl, _⟩ := he2
          have e2 : above[i - d]'(by omega) = z := by rw [HZ.out, back_at above d i hdi hia]
          rw [e2] at hc2
          clear e2
          generalize y.toNat = yn at *
          generalize z.toNat = zn at *
          go_wp2_with fail
          go_meet
          exact ⟨rfl, rfl, rfl⟩
        · have hz1 : z = 0 := by rw [HZ.out, back_none above d i hdi]
          have HZ0 := Lib.hid hz1
          clear hz1
          generalize y.toNat = yn at *
          go_wp2_with fail
          go_meet
          exact ⟨rfl, by rw [HZ0.out]; rfl, rfl⟩
    case rest =>
      obtain ⟨rfl, rfl, rfl⟩ := hcut
      clear HX HY HZ HBR HBA HMA
      rcases (show k = 0 ∨ k = 1 ∨ k = 2 ∨ k = 3 ∨ k = 4 from by omega) with rfl | rfl | rfl | rfl | rfl
      · go_wp2_with fail
        go_ret
        exact ⟨rfl, rfl⟩
      · go_wp2_with fail
        go_ret
        exact ⟨rfl, rfl⟩
      · go_wp2_with fail
        go_ret
        exact ⟨rfl, rfl⟩
      · go_wp2_with fail
        have HG : Hid (guess 3 x y z = UInt8.ofNat ((x.toNat + y.toNat) / 2)) := rfl
        go_ret
        exact ⟨by rw [HG.out, G5.out]; rfl, rfl⟩
      · go_wp2_with fail
        refine G4.out.mono ?_
        rintro e w' ⟨rfl, rfl⟩
        go_wp2_with fail
        go_ret
        exact ⟨rfl, rfl⟩
end Go.Proofs.Ytfkhdakeojhpaaa.Fi
