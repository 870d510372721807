/- Contracts of AdlerMore (the program's and the reference's) and of Adler. -/
import Derived.Test.YtejklnnhgpinbaaBase
import Derived.Test.YtejklnnhgpinbaaCrc
namespace Go.Proofs.Ytejklnnhgpinbaa.Su
open Go.RowKit Ba

set_option maxRecDepth 100000 in
set_option maxHeartbeats 400000 in
theorem adler_any (s : Nat) (hs : s < 4294967296) (a : Option Addr) (cap : Nat) (bs : List UInt8) (w : World)
    (hb : Bytes w a bs) (hm : bs.length ≤ 140737488351232) :
    Calls Try.prog 15 #[.int .u32 s, .slice a bs.length cap] w fun e w' => e = .returned (.int .u32 (adMore s bs)) ∧ w = w' := by
  have hi := and65535 s hs
  have HB := Lib.hid hb
  clear hb
  go_enter Try.func15, Try.ntmps15
  go_wp2
  clear hi
  go_loop [5, 6, 8, 15] (fun x y _ i => ∃ k : Nat, k ≤ bs.length ∧ i = .int .i64 k ∧ x = .int .u32 (adF (s % 65536, s / 65536) (bs.take k)).1 ∧ y = .int .u32 (adF (s % 65536, s / 65536) (bs.take k)).2) (fun _ _ _ i => bs.length - (intOf i).toNat)
  case atStart => exact ⟨0, by omega, rfl, rfl, rfl⟩
  case round =>
    obtain ⟨k, hk, rfl, rfl, rfl⟩ := hrel
    have hr := adF_le (s % 65536, s / 65536) (bs.take k) (by dsimp only; omega) (by dsimp only; omega)
    by_cases hlt : k < bs.length
    · have HS := Lib.hid (adF_snoc (s % 65536, s / 65536) bs k hlt)
      obtain ⟨b, off, rfl, hc⟩ := HB.out k hlt
      have hcl := bs[k].toNat_lt
      generalize bs[k].toNat = c at *
      generalize adF (s % 65536, s / 65536) (List.take k bs) = p at *
      obtain ⟨x, y⟩ := p
      obtain ⟨hx, hy⟩ := hr
      dsimp only at hx hy
      dsimp only
      go_wp2
      go_round
      case rel => exact ⟨k + 1, by omega, by go_num, by rw [HS.out]; simp only [ad1]; go_num, by rw [HS.out]; simp only [ad1]; go_num⟩
      case measure => simp [intOf]; omega
    · obtain rfl : k = bs.length := by omega
      have HE : Hid (adMore s bs = adOf (adF (s % 65536, s / 65536) (List.take bs.length bs))) := by rw [List.take_length]; rfl
      generalize adF (s % 65536, s / 65536) (List.take bs.length bs) = p at *
      obtain ⟨x, y⟩ := p
      obtain ⟨hx, hy⟩ := hr
      dsimp only at hx hy
      dsimp only
      have hi := or16 y x hy hx
      go_wp2
      go_ret
      exact ⟨by rw [HE.out]; rfl, rfl⟩

set_option maxRecDepth 100000 in
set_option maxHeartbeats 400000 in
theorem adlerRef_any (s : Nat) (hs : s < 4294967296) (a : Option Addr) (cap : Nat) (bs : List UInt8) (w : World)
    (hb : Bytes w a bs) (hm : bs.length ≤ 140737488351232) :
    Calls Try.prog 16 #[.int .u32 s, .slice a bs.length cap] w fun e w' => e = .returned (.int .u32 (adMore s bs)) ∧ w = w' := by
  have hi := and65535 s hs
  have HB := Lib.hid hb
  clear hb
  go_enter Try.func16, Try.ntmps16
  go_wp2
  clear hi
  go_loop [5, 6, 7] (fun x y i => ∃ k : Nat, k ≤ bs.length ∧ i = .int .i64 k ∧ x = .int .u32 (adF (s % 65536, s / 65536) (bs.take k)).1 ∧ y = .int .u32 (adF (s % 65536, s / 65536) (bs.take k)).2) (fun _ _ i => bs.length - (intOf i).toNat)
  case atStart => exact ⟨0, by omega, rfl, rfl, rfl⟩
  case round =>
    obtain ⟨k, hk, rfl, rfl, rfl⟩ := hrel
    have hr := adF_le (s % 65536, s / 65536) (bs.take k) (by dsimp only; omega) (by dsimp only; omega)
    by_cases hlt : k < bs.length
    · have HS := Lib.hid (adF_snoc (s % 65536, s / 65536) bs k hlt)
      obtain ⟨b, off, rfl, hc⟩ := HB.out k hlt
      have hcl := bs[k].toNat_lt
      generalize bs[k].toNat = c at *
      generalize adF (s % 65536, s / 65536) (List.take k bs) = p at *
      obtain ⟨x, y⟩ := p
      obtain ⟨hx, hy⟩ := hr
      dsimp only at hx hy
      dsimp only
      go_wp2
      go_round
      case rel => exact ⟨k + 1, by omega, by go_num, by rw [HS.out]; simp only [ad1]; go_num, by rw [HS.out]; simp only [ad1]; go_num⟩
      case measure => simp [intOf]; omega
    · obtain rfl : k = bs.length := by omega
      have HE : Hid (adMore s bs = adOf (adF (s % 65536, s / 65536) (List.take bs.length bs))) := by rw [List.take_length]; rfl
      generalize adF (s % 65536, s / 65536) (List.take bs.length bs) = p at *
      obtain ⟨x, y⟩ := p
      obtain ⟨hx, hy⟩ := hr
      dsimp only at hx hy
      dsimp only
      have hi := or16 y x hy hx
      go_wp2
      go_ret
      exact ⟨by rw [HE.out]; rfl, rfl⟩

theorem adler1_any (a : Option Addr) (cap : Nat) (bs : List UInt8) (w : World)
    (hb : Bytes w a bs) (hm : bs.length ≤ 140737488351232) :
    Calls Try.prog 17 #[.slice a bs.length cap] w fun e w' => e = .returned (.int .u32 (adMore 1 bs)) ∧ w = w' := by
  go_enter Try.func17, Try.ntmps17
  go_wp2_with (go_at_call 15; refine (adler_any 1 (by omega) a cap bs _ hb hm).mono ?_; rintro e w' ⟨rfl, rfl⟩)
  go_ret
  exact ⟨rfl, rfl⟩
end Go.Proofs.Ytejklnnhgpinbaa.Su
