/- The contract of SumsKnown: it returns true. No condition. -/
import Derived.Test.YtejklnnhgpinbaaSumsC
import Derived.WalkSpells
namespace Go.Proofs.Ytejklnnhgpinbaa.Su
open Go.RowKit Ba

theorem k1 : more 0 [49, 50, 51, 52, 53, 54, 55, 56, 57] = 3421780262 := by decide +kernel
theorem k2 : more (more 0 []) [] = 0 := by decide +kernel
theorem k3 : adMore 1 [87, 105, 107, 105, 112, 101, 100, 105, 97] = 300286872 := by decide +kernel

theorem more_digits (T g cap : Nat) (w : World) (ht : w.rowIs T 40 256 tab) (hb : Bytes w (some ⟨g, 0, none⟩) [49, 50, 51, 52, 53, 54, 55, 56, 57]) :
    Calls Try.prog 11 #[.pointer (some ⟨T, 0, none⟩), .int .u32 0, .slice (some ⟨g, 0, none⟩) 9 cap] w fun e w' => e = .returned (.int .u32 3421780262) ∧ w = w' := by
  refine (more_any T 0 (by omega) _ cap _ w ht hb (by decide)).mono ?_
  rintro e w' ⟨rfl, rfl⟩
  exact ⟨by rw [k1]; rfl, rfl⟩
theorem more_none (T : Nat) (w : World) (ht : w.rowIs T 40 256 tab) :
    Calls Try.prog 11 #[.pointer (some ⟨T, 0, none⟩), .int .u32 7, .slice none 0 0] w fun e w' => e = .returned (.int .u32 7) ∧ w = w' := by
  refine (more_any T 7 (by omega) none 0 [] w ht (Bytes.nil _ _) (by decide)).mono ?_
  rintro e w' ⟨rfl, rfl⟩
  exact ⟨by rw [more_nil]; rfl, rfl⟩
theorem chunk_none (T : Nat) (w : World) (ht : w.rowIs T 40 256 tab) :
    Calls Try.prog 12 #[.pointer (some ⟨T, 0, none⟩), .string { data := #[] }, .slice none 0 0] w fun e w' => e = .returned (.int .u32 0) ∧ Below w.heap.size w w' := by
  refine (chunk_any T { data := #[] } (by decide) none 0 [] w ht (Bytes.nil _ _) (by decide)).mono ?_
  rintro e w' ⟨rfl, rfl⟩
  exact ⟨by rw [show more (more 0 (ByteArray.data { data := #[] }).toList) [] = 0 from k2]; rfl, bytesW_below _ _ _⟩
theorem adler_none (w : World) :
    Calls Try.prog 17 #[.slice none 0 0] w fun e w' => e = .returned (.int .u32 1) ∧ w = w' := by
  refine (adler1_any none 0 [] w (Bytes.nil _ _) (by decide)).mono ?_
  rintro e w' ⟨rfl, rfl⟩
  exact ⟨by rw [adMore_nil]; rfl, rfl⟩
theorem adler_wiki (g cap : Nat) (w : World) (hb : Bytes w (some ⟨g, 0, none⟩) [87, 105, 107, 105, 112, 101, 100, 105, 97]) :
    Calls Try.prog 15 #[.int .u32 1, .slice (some ⟨g, 0, none⟩) 9 cap] w fun e w' => e = .returned (.int .u32 300286872) ∧ w = w' := by
  refine (adler_any 1 (by omega) _ cap _ w hb (by decide)).mono ?_
  rintro e w' ⟨rfl, rfl⟩
  exact ⟨by rw [k3]; rfl, rfl⟩

set_option maxRecDepth 100000 in
set_option maxHeartbeats 400000 in
theorem known_any (w : World) :
    Calls Try.prog 8 #[] w fun e w' => e = .returned (.bool true) ∧ Below w.heap.size w w' := by
  have kc := fun (w : World) (C : Array Value) (n c : Nat) => Lib.run_convert_bytes_const (P := Try.prog) w 22 5 C n c Try.underlying22 Try.underlying5
  go_enter Try.func8, Try.ntmps8
  go_wp2_with fail
  refine (awake_any _).mono ?_
  rintro e w1 ⟨rfl, hb1⟩
  have HB1 := Lib.hid hb1
  clear hb1
  go_wp2_with fail
  refine (new_any _).mono ?_
  rintro e w2 ⟨rfl, hb2, hrow⟩
  have HB2 := Lib.hid hb2
  have HR := Lib.hid hrow
  clear hb2 hrow
  go_wp2_with fail
  refine (more_digits _ _ _ _ (HR.out.alloc _) (Bytes.lit _ _ _ _ _ rfl)).mono ?_
  rintro e w' ⟨rfl, rfl⟩
  go_wp2_with fail
  refine (more_none _ _ (HR.out.alloc _)).mono ?_
  rintro e w' ⟨rfl, rfl⟩
  go_wp2_with fail
  refine (chunk_none _ _ (HR.out.alloc _)).mono ?_
  rintro e w3 ⟨rfl, hb3⟩
  have HB3 := Lib.hid hb3
  clear hb3
  go_wp2_with fail
  refine (adler_none _).mono ?_
  rintro e w' ⟨rfl, rfl⟩
  go_wp2_with fail
  refine (adler_wiki _ _ _ (Bytes.lit _ _ _ _ _ rfl)).mono ?_
  rintro e w' ⟨rfl, rfl⟩
  go_wp2_with fail
  go_ret
  refine ⟨rfl, ?_⟩
  have hA := chain HB1.out HB2.out
  have hB := chain (hA.alloc hA.size _) HB3.out
  exact hB.alloc hB.size _
end Go.Proofs.Ytejklnnhgpinbaa.Su
