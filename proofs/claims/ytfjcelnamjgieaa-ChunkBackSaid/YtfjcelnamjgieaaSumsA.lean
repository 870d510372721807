/- The table of CRC-32 and a row of it: contracts of sums.row and sums.New. -/
import Derived.Test.YtfjcelnamjgieaaBase
import Derived.Test.YtfjcelnamjgieaaCrc
namespace Go.Proofs.Ytfjcelnamjgieaa.Su
open Go.RowKit Ba

set_option maxHeartbeats 400000 in
theorem row_any (x : Nat) (hx : x < 4294967296) (w : World) :
    Calls Try.prog 32 #[.int .u32 x] w fun e w' => e = .returned (.int .u32 (steps 8 x)) ∧ w = w' := by
  go_enter Try.func32, Try.ntmps32
  go_wp2
  go_loop [0, 3] (fun v i => ∃ k : Nat, k ≤ 8 ∧ i = .int .i64 k ∧ v = .int .u32 (steps k x)) (fun _ i => 8 - (intOf i).toNat)
  case atStart => exact ⟨0, by omega, rfl, rfl⟩
  case round =>
    obtain ⟨k, hk, rfl, rfl⟩ := hrel
    have hs : steps (k + 1) x = step1 (steps k x) := rfl
    have HS := Lib.hid hs
    clear hs
    have hy := steps_lt k x hx
    by_cases h8 : k = 8
    · obtain rfl := h8
      go_wp2
      go_ret
      exact ⟨rfl, rfl⟩
    · have hlt : k < 8 := by omega
      generalize steps k x = y at *
      have h1 := and1 y hy
      by_cases ho : y % 2 = 1
      · have h2 := xorP y hy
        have hb : (bits .and .u32 (y : Int) 1 == 1) = true := by rw [h1, ho]; rfl
        have HO := Lib.hid ho
        clear ho h1
        go_wp2
        go_round
        case rel => exact ⟨k + 1, by omega, by go_num, by rw [HS.out, step1_odd _ HO.out]⟩
        case measure => simp [intOf]; omega
      · have ho' : y % 2 = 0 := by omega
        have hb : (bits .and .u32 (y : Int) 1 == 1) = false := by rw [h1, ho']; rfl
        have HO := Lib.hid ho'
        clear ho ho' h1
        go_wp2
        go_round
        case rel => exact ⟨k + 1, by omega, by go_num, by rw [HS.out, step1_even _ HO.out]; go_num⟩
        case measure => simp [intOf]; omega
end Go.Proofs.Ytfjcelnamjgieaa.Su
