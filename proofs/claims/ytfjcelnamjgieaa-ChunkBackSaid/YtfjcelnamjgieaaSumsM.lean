/- The contracts of the More of the program and of the reference: both hand back the plain sum. Condition: the bytes lie at the slice; the table is made. -/
import Derived.Test.YtfjcelnamjgieaaSumsT
namespace Go.Proofs.Ytfjcelnamjgieaa.Su
open Go.RowKit Ba

theorem xor8 (r c : Nat) (hc : c < 256) : bits .xor .u8 ((r : Int) % 256) (c : Int) = (((r % 256) ^^^ c : Nat) : Int) := by
  have := u8_xor_nat (r % 256) c (by omega) hc
  exact this
theorem xor8_lt (r c : Nat) (hc : c < 256) : (r % 256) ^^^ c < 256 := Nat.xor_lt_two_pow (n := 8) (by omega) (by omega)
theorem xor32s (t r : Nat) (ht : t < 4294967296) (hr : r < 4294967296) : bits .xor .u32 (t : Int) ((r : Int) / 256) = ((t ^^^ (r / 256) : Nat) : Int) := by
  have := u32_xor_nat t (r / 256) ht (by omega)
  exact this

set_option maxRecDepth 100000 in
set_option maxHeartbeats 400000 in
theorem more_any (T : Nat) (s : Nat) (hs : s < 4294967296) (a : Option Addr) (cap : Nat) (bs : List UInt8) (w : World)
    (ht : w.rowIs T 68 256 tab) (hb : Bytes w a bs) (hm : bs.length ≤ 140737488351232) :
    Calls Try.prog 37 #[.pointer (some ⟨T, 0, none⟩), .int .u32 s, .slice a bs.length cap] w fun e w' => e = .returned (.int .u32 (more s bs)) ∧ w = w' := by
  have hi := inv_eq s hs
  have HB := Lib.hid hb
  have HT := Lib.hid ht
  clear hb ht
  go_enter Try.func37, Try.ntmps37
  go_wp2
  clear hi
  go_loop [1, 8, 15] (fun r _ i => ∃ k : Nat, k ≤ bs.length ∧ i = .int .i64 k ∧ r = .int .u32 (reg (inv s) (bs.take k))) (fun _ _ i => bs.length - (intOf i).toNat)
  case atStart => exact ⟨0, by omega, rfl, rfl⟩
  case round =>
    obtain ⟨k, hk, rfl, rfl⟩ := hrel
    have hr := reg_lt (inv s) (bs.take k) (inv_lt s hs)
    by_cases hlt : k < bs.length
    · have HS := Lib.hid (reg_snoc (inv s) bs k hlt)
      obtain ⟨b, off, rfl, hc⟩ := HB.out k hlt
      have hcl := bs[k].toNat_lt
      generalize bs[k].toNat = c at *
      generalize reg (inv s) (List.take k bs) = r at *
      have h8 := xor8 r c hcl
      have hxl := xor8_lt r c hcl
      have HU := Lib.hid (upd_table r c)
      generalize r % 256 ^^^ c = x at *
      have htab := HT.out.cell hxl
      have hsl := steps_lt 8 x (by omega)
      unfold tab at htab
      generalize steps 8 x = t at *
      have h32 := xor32s t r hsl hr
      go_wp2
      go_round
      case rel => exact ⟨k + 1, by omega, by go_num, by rw [HS.out, HU.out]⟩
      case measure => simp [intOf]; omega
    · obtain rfl : k = bs.length := by omega
      have HE : Hid (more s bs = inv (reg (inv s) (List.take bs.length bs))) := by rw [List.take_length]; rfl
      generalize reg (inv s) (List.take bs.length bs) = r at *
      have hi := inv_eq r hr
      go_wp2
      go_ret
      exact ⟨by rw [HE.out]; rfl, rfl⟩

/-- The same, its arguments loose. -/
theorem more_loose (T : Nat) (s n : Nat) (bs : List UInt8) (hn : n = bs.length) (hs : s < 4294967296) (a : Option Addr) (cap : Nat) (hm : bs.length ≤ 140737488351232) (w : World)
    (ht : w.rowIs T 68 256 tab) (hb : Bytes w a bs) :
    Calls Try.prog 37 #[.pointer (some ⟨T, 0, none⟩), .int .u32 s, .slice a n cap] w fun e w' => e = .returned (.int .u32 (more s bs)) ∧ w = w' := by
  subst hn
  exact more_any T s hs a cap bs w ht hb hm

/-! ### The reference -/
theorem xor32c (r c : Nat) (hr : r < 4294967296) (hc : c < 256) : bits .xor .u32 (r : Int) (c : Int) = ((r ^^^ c : Nat) : Int) := u32_xor_nat r c hr (by omega)

set_option maxRecDepth 100000 in
set_option maxHeartbeats 400000 in
theorem ref_any (s : Nat) (hs : s < 4294967296) (a : Option Addr) (cap : Nat) (bs : List UInt8) (w : World)
    (hb : Bytes w a bs) (hm : bs.length ≤ 140737488351232) :
    Calls Try.prog 35 #[.int .u32 s, .slice a bs.length cap] w fun e w' => e = .returned (.int .u32 (more s bs)) ∧ w = w' := by
  have hi := inv_eq s hs
  have HB := Lib.hid hb
  clear hb
  go_enter Try.func35, Try.ntmps35
  go_wp2
  clear hi
  go_loop [0, 5, 6, 7] (fun r i _ _ => ∃ k : Nat, k ≤ bs.length ∧ i = .int .i64 k ∧ r = .int .u32 (reg (inv s) (bs.take k))) (fun _ i _ _ => bs.length - (intOf i).toNat)
  case atStart => exact ⟨0, by omega, rfl, rfl⟩
  case round =>
    obtain ⟨k, hk, rfl, rfl⟩ := hrel
    have hr := reg_lt (inv s) (bs.take k) (inv_lt s hs)
    by_cases hlt : k < bs.length
    · have HS := Lib.hid (reg_snoc (inv s) bs k hlt)
      obtain ⟨b, off, rfl, hc⟩ := HB.out k hlt
      have hcl := bs[k].toNat_lt
      generalize bs[k].toNat = c at *
      generalize reg (inv s) (List.take k bs) = r at *
      have hx := xor32c r c hr (by omega)
      have HU : Hid (upd r c = steps 8 (r ^^^ c)) := rfl
      have hxl : r ^^^ c < 4294967296 := Nat.xor_lt_two_pow (n := 32) hr (by omega)
      generalize r ^^^ c = x at *
      go_wp2
      go_loop [0, 6, 7] (fun r j _ => ∃ m : Nat, m ≤ 8 ∧ j = .int .i64 m ∧ r = .int .u32 (steps m x)) (fun _ j _ => 8 - (intOf j).toNat)
      case atStart => exact ⟨0, by omega, rfl, rfl⟩
      case round =>
        obtain ⟨m, hm8, rfl, rfl⟩ := hrel
        have HT : Hid (steps (m + 1) x = step1 (steps m x)) := rfl
        have hy := steps_lt m x hxl
        by_cases h8 : m = 8
        · obtain rfl := h8
          go_wp2
          go_round
          case rel => exact ⟨k + 1, by omega, by go_num, by rw [HS.out, HU.out]⟩
          case measure => simp [intOf]; omega
        · have hlt8 : m < 8 := by omega
          generalize steps m x = y at *
          have h1 := and1 y hy
          by_cases ho : y % 2 = 1
          · have h2 := xorP y hy
            have hq : (((y % 2 : Nat) : Int) == 1) = true := by rw [ho]; rfl
            have HO := Lib.hid ho
            clear ho
            go_wp2
            go_round
            case rel => exact ⟨m + 1, by omega, by go_num, by rw [HT.out, step1_odd _ HO.out]⟩
            case measure => simp [intOf]; omega
          · have ho' : y % 2 = 0 := by omega
            have hq : (((y % 2 : Nat) : Int) == 1) = false := by rw [ho']; rfl
            have HO := Lib.hid ho'
            clear ho ho'
            go_wp2
            go_round
            case rel => exact ⟨m + 1, by omega, by go_num, by rw [HT.out, step1_even _ HO.out]; go_num⟩
            case measure => simp [intOf]; omega
    · obtain rfl : k = bs.length := by omega
      have HE : Hid (more s bs = inv (reg (inv s) (List.take bs.length bs))) := by rw [List.take_length]; rfl
      generalize reg (inv s) (List.take bs.length bs) = r at *
      have hi := inv_eq r hr
      go_wp2
      go_ret
      exact ⟨by rw [HE.out]; rfl, rfl⟩
end Go.Proofs.Ytfjcelnamjgieaa.Su
