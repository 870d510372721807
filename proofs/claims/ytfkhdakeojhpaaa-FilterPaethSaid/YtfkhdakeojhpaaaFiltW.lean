/- The contract of awake: true. No condition. -/
import Derived.Test.YtfkhdakeojhpaaaFiltD
import Derived.WalkSpells
namespace Go.Proofs.Ytfkhdakeojhpaaa.Fi
open Go.RowKit Ba

theorem u8_nat {x : Int} (h : (Lit.int .u8 x).wf = true) : ∃ n : Nat, x = (n : Int) ∧ n < 256 := by
  simp [Lit.wf, IntKind.min, IntKind.max, IntKind.signed, IntKind.bits] at h
  exact ⟨x.toNat, by omega, by omega⟩

set_option maxRecDepth 100000 in
set_option maxHeartbeats 800000 in
theorem awake_any (w : World) :
    Calls Try.prog 7 #[] w fun e w' => e = .returned (.bool true) ∧ Below w.heap.size w w' := by
  go_enter Try.func7, Try.ntmps7
  go_wp2_with fail
  refine (do_yes 4 (by omega) [9, 8, 7] [1, 2, 3] (by decide) (some ⟨w.heap.size, 0, none⟩) (some ⟨w.heap.size + 1, 0, none⟩) 3 3 3 3 rfl rfl (.inr rfl) 1 (by omega) _ ?ha ?hb).mono ?_
  case ha => exact (Bytes.lit w [9, 8, 7] _ _ _ rfl).keep ((Below.refl _ _).alloc (Nat.le_refl _) _)
  case hb =>
    have h := Bytes.lit (w.alloc (.cells #[.int .u8 9, .int .u8 8, .int .u8 7] 5)) [1, 2, 3] 5 (0, 0) #[.int .u8 1, .int .u8 2, .int .u8 3] rfl
    rw [show (w.alloc (.cells #[.int .u8 9, .int .u8 8, .int .u8 7] 5)).heap.size = w.heap.size + 1 by simp] at h
    exact h
  rintro e w1 ⟨ao, cap, rfl, hb1, hby1, hcap1, _, _⟩
  have hl1 : (doV 4 [9, 8, 7] [1, 2, 3] 1).length = 3 := doV_length _ _ _ _
  have hU := undo_do 4 [9, 8, 7] [1, 2, 3] 1 (by omega)
  have HBW : Hid (Below w.heap.size w w1) := by
    refine Below.trans ?_ (hb1.mono (B' := w.heap.size) (by simp; omega))
    exact ((Below.refl _ _).alloc (Nat.le_refl _) _).alloc (by simp) _
  generalize doV 4 [9, 8, 7] [1, 2, 3] 1 = bs at *
  have HBY := Lib.hid hby1
  have HU := Lib.hid hU
  clear hby1 hb1 hU
  rw [hl1]
  go_wp2_with fail
  refine (undo_yes 4 (by omega) bs [1, 2, 3] (by omega) ao (some ⟨w1.heap.size, 0, none⟩) 3 3 cap 3 hl1.symm rfl (.inr rfl) 1 (by omega) _ ?ha ?hb).mono ?_
  case ha => exact HBY.out.keep ((Below.refl _ _).alloc (Nat.le_refl _) _)
  case hb => exact Bytes.lit w1 [1, 2, 3] _ _ _ rfl
  rintro e w2 ⟨ao2, cap2, rfl, hb2, hby2, hcap2, _, _⟩
  rw [HU.out] at hby2
  have hl2 : (undoV 4 bs [1, 2, 3] 1).length = 3 := by rw [HU.out]; rfl
  rw [hl2]
  have HBW2 : Hid (Below w.heap.size w w2) := HBW.out.trans (((Below.refl _ _).alloc (Nat.le_refl _) _).trans (hb2.mono (by simp)) |>.mono HBW.out.size)
  have hstr := run_str ao2 3 cap2 [9, 8, 7] rfl w2 hby2
  have hp := paeth_any 1 5 3 w2
  have hpv : paethV 1 5 3 = 3 := by decide
  rw [hpv] at hp
  have HP := Lib.hid hp
  clear hp hpv hb2 hby2
  go_wp2_with fail
  refine HP.out.mono ?_
  rintro e w' ⟨rfl, rfl⟩
  go_wp2_with fail
  go_ret
  exact ⟨rfl, HBW2.out⟩

end Go.Proofs.Ytfkhdakeojhpaaa.Fi
