/- The contract of sums.New: the table of 256 rows lies in a new block; nothing older is written. No condition. -/
import Derived.Test.YtfjcelnamjgieaaSumsA
import Derived.Outline
import Derived.Deep.OwnRows
import Derived.Deep.RegionWith
namespace Go.Proofs.Ytfjcelnamjgieaa.Su
open Go.RowKit
def zeros256 : Array Value := Array.replicate 256 (.int .u32 0)
theorem zero_table (w : World) : (zeroValue 68).run Try.prog w = .ok (.agg zeros256) w := by kernel_rfl
theorem zeros_at (i : Nat) (h : i < zeros256.size) : zeros256[i]? = some (.int .u32 0) := by
  unfold zeros256 at h ⊢
  simp at h
  rw [Array.getElem?_replicate, if_pos h]
theorem zeros_size : zeros256.size = 256 := by simp [zeros256]
/-- The table, as far as it has been made. -/
def tabF (k j : Nat) : Value := if j < k then .int .u32 (steps 8 j) else .int .u32 0
def tab (j : Nat) : Value := .int .u32 (steps 8 j)
theorem tab_next (k j : Nat) : (if j = k then Value.int .u32 (steps 8 k) else tabF k j) = tabF (k + 1) j := by
  unfold tabF
  by_cases h : j = k
  · subst h; rw [if_pos rfl, if_pos (by omega)]
  · rw [if_neg h]
    by_cases h2 : j < k
    · rw [if_pos h2, if_pos (by omega)]
    · rw [if_neg h2, if_neg (by omega)]
set_option maxRecDepth 100000 in
set_option maxHeartbeats 400000 in
theorem new_any (w : World) :
    Calls Try.prog 22 #[] w fun e w' => e = .returned (.pointer (some ⟨w.heap.size, 0, none⟩)) ∧ Below w.heap.size w w' ∧ w'.rowIs w.heap.size 68 256 tab := by
  have hz := zero_table
  have hr0 : (w.alloc (.cells zeros256 68)).rowIs w.heap.size 68 256 (tabF 0) := by
    have := World.rowIs_alloc w zeros256 68 (fun _ => .int .u32 0) zeros_at
    rw [zeros_size] at this
    exact this.congr (fun i _ => by simp [tabF])
  go_enter Try.func22, Try.ntmps22
  go_wp2
  go_loopw [2, 5] (fun _ i wr => ∃ k : Nat, k ≤ 256 ∧ i = .int .i64 k ∧ wr.rowIs w.heap.size 68 256 (tabF k) ∧ Below w.heap.size w wr) (fun _ i _ => 256 - (intOf i).toNat)
  case atStart => exact ⟨0, by omega, rfl, hr0, (Below.refl _ _).alloc (Nat.le_refl _) _⟩
  case round =>
    obtain ⟨k, hk, rfl, hrow, hbel⟩ := hrel
    clear hr0 hz
    by_cases h256 : k = 256
    · obtain rfl := h256
      go_wp2
      go_ret
      exact ⟨rfl, hbel, hrow.congr (fun j hj => by simp [tabF, tab, hj])⟩
    · have hlt : k < 256 := by omega
      have hc := hrow.cell hlt
      obtain ⟨old, hold⟩ : ∃ v, v = tabF k k := ⟨_, rfl⟩
      rw [← hold] at hc
      clear hold
      have hf := hrow.frozen k
      have hne : w.heap.size < wr.heap.size := hrow.lt
      have hwk : IntKind.u32.wrap (k : Int) = (k : Int) := IntWalk.u32_in _ (by omega)
      go_wp2
      go_region_with (go_at_call 32; refine (row_any k (by omega) _).mono ?_; rintro e w' ⟨rfl, rfl⟩)
      have hn : (tabF (k + 1)) = (fun j => if j = k then Value.int .u32 (steps 8 k) else tabF k j) := funext fun j => (tab_next k j).symm
      have HN := Lib.hid hn
      clear hn
      go_wp2
      go_roundw
      case rel => exact ⟨k + 1, by omega, by go_num, by rw [HN.out]; exact World.rowIs.set (w := wr.drew) hrow k _, (hbel.drew).setCell (Nat.le_refl _) _⟩
      case measure => simp [intOf]; omega
end Go.Proofs.Ytfjcelnamjgieaa.Su
