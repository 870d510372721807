/- The contract of SumsGo: it returns true at any sum and any bytes. No condition beyond what a slice is. -/
import Derived.Test.YtejklnnhgpinbaaSumsC
import Derived.WalkSpells
namespace Go.Proofs.Ytejklnnhgpinbaa.Su
open Go.RowKit Ba

theorem ref_loose (s n : Nat) (bs : List UInt8) (hn : n = bs.length) (hs : s < 4294967296) (a : Option Addr) (cap : Nat) (hm : bs.length ≤ 140737488351232) (w : World) (hb : Bytes w a bs) :
    Calls Try.prog 14 #[.int .u32 s, .slice a n cap] w fun e w' => e = .returned (.int .u32 (more s bs)) ∧ w = w' := by
  subst hn; exact ref_any s hs a cap bs w hb hm

set_option maxRecDepth 100000 in
set_option maxHeartbeats 400000 in
theorem go_small (s : Nat) (hs : s < 4294967296) (a : Option Addr) (cap : Nat) (bs : List UInt8) (hm : bs.length ≤ 5000) (w : World) (hb : Bytes w a bs) :
    Calls Try.prog 4 #[.int .u32 s, .slice a bs.length cap] w fun e w' => e = .returned (.bool true) ∧ Below w.heap.size w w' := by
  have HB := Lib.hid hb
  clear hb
  obtain ⟨s1, hs1⟩ : ∃ x, x = more s bs := ⟨_, rfl⟩
  obtain ⟨s2, hs2⟩ : ∃ x, x = adMore s bs := ⟨_, rfl⟩
  by_cases h0 : bs.length = 0
  · obtain rfl : s2 = s := by rw [hs2, List.length_eq_zero_iff.1 h0, adMore_nil]
    have hz : ((bs.length : Int) == 0) = true := by rw [h0]; rfl
    have H0 := Lib.hid h0
    clear h0
    have HS1 := Lib.hid hs1
    have HS2 := Lib.hid hs2
    clear hs1 hs2
    go_enter Try.func4, Try.ntmps4
    go_wp2_with fail
    refine (awake_any _).mono ?_
    rintro e w1 ⟨rfl, hb1⟩
    have HB1 := Lib.hid hb1
    clear hb1
    go_wp2_with fail
    refine (new_any _).mono ?_
    rintro e w2 ⟨rfl, hb2, hrow⟩
    have HB2 := Lib.hid hb2
    clear hb2
    have hbX := (HB.out.keep HB1.out).keep HB2.out
    have H1 := Lib.hid (more_any w1.heap.size s2 hs a cap bs _ hrow hbX (by omega))
    have H2 := Lib.hid (ref_any s2 hs a cap bs _ hbX (by omega))
    have H3 := Lib.hid (adler_any s2 hs a cap bs _ hbX (by omega))
    rw [← HS1.out] at H1 H2
    rw [← HS2.out] at H3
    clear hrow hbX
    go_wp2_with fail
    refine H1.out.mono ?_
    rintro e w' ⟨rfl, rfl⟩
    go_wp2_with fail
    refine H2.out.mono ?_
    rintro e w' ⟨rfl, rfl⟩
    go_wp2_with fail
    refine H3.out.mono ?_
    rintro e w' ⟨rfl, rfl⟩
    go_wp2_with fail
    go_ret
    exact ⟨rfl, chain HB1.out HB2.out⟩
  · have hz : ((bs.length : Int) == 0) = false := by rw [beq_eq_false_iff_ne]; omega
    have hpos : (0 : Int) < (bs.length : Int) := by omega
    have HS1 := Lib.hid hs1
    have HS2 := Lib.hid hs2
    clear hs1 hs2 h0
    go_enter Try.func4, Try.ntmps4
    go_wp2_with fail
    refine (awake_any _).mono ?_
    rintro e w1 ⟨rfl, hb1⟩
    have HB1 := Lib.hid hb1
    clear hb1
    go_wp2_with fail
    refine (new_any _).mono ?_
    rintro e w2 ⟨rfl, hb2, hrow⟩
    have HB2 := Lib.hid hb2
    clear hb2
    have hbX := (HB.out.keep HB1.out).keep HB2.out
    have H1 := Lib.hid (more_any w1.heap.size s hs a cap bs _ hrow hbX (by omega))
    have H2 := Lib.hid (ref_any s hs a cap bs _ hbX (by omega))
    have H3 := Lib.hid (adler_any s hs a cap bs _ hbX (by omega))
    have H4 := Lib.hid (adlerRef_any s hs a cap bs _ hbX (by omega))
    rw [← HS1.out] at H1 H2
    rw [← HS2.out] at H3 H4
    clear hrow hbX
    go_wp2_with fail
    refine H1.out.mono ?_
    rintro e w' ⟨rfl, rfl⟩
    go_wp2_with fail
    refine H2.out.mono ?_
    rintro e w' ⟨rfl, rfl⟩
    go_wp2_with fail
    refine H3.out.mono ?_
    rintro e w' ⟨rfl, rfl⟩
    go_wp2_with fail
    refine H4.out.mono ?_
    rintro e w' ⟨rfl, rfl⟩
    go_wp2_with fail
    go_ret
    exact ⟨rfl, chain HB1.out HB2.out⟩

set_option maxRecDepth 100000 in
theorem go_big (s : Nat) (a : Option Addr) (n cap : Nat) (hn : n ≤ maxLen) (h : 5000 < n) (w : World) :
    Calls Try.prog 4 #[.int .u32 s, .slice a n cap] w fun e w' => e = .returned (.bool true) ∧ Below w.heap.size w w' := by
  unfold maxLen at hn
  go_enter Try.func4, Try.ntmps4
  go_wp2_with fail
  refine (awake_any _).mono ?_
  rintro e w1 ⟨rfl, hb1⟩
  have HB1 := Lib.hid hb1
  clear hb1
  go_wp2_with fail
  go_ret
  exact ⟨rfl, HB1.out⟩
theorem go_any (s : Nat) (hs : s < 4294967296) (a : Option Addr) (cap : Nat) (bs : List UInt8) (hm : cap ≤ maxLen) (hcap : bs.length ≤ cap) (w : World) (hb : Bytes w a bs) :
    Calls Try.prog 4 #[.int .u32 s, .slice a bs.length cap] w fun e w' => e = .returned (.bool true) ∧ Below w.heap.size w w' := by
  by_cases h : 5000 < bs.length
  · exact go_big s a bs.length cap (by omega) h w
  · exact go_small s hs a cap bs (by omega) w hb
end Go.Proofs.Ytejklnnhgpinbaa.Su
