/- Contracts of Chunk, ChunkSum and awake. -/
import Derived.Test.YtejklnnhgpinbaaSumsM
import Derived.Test.YtejklnnhgpinbaaAdler
namespace Go.Proofs.Ytejklnnhgpinbaa.Su
open Go.RowKit Ba

set_option maxRecDepth 100000 in
set_option maxHeartbeats 400000 in
theorem chunk_any (T : Nat) (s : ByteArray) (hs : s.size ≤ 140737488351232) (a : Option Addr) (cap : Nat) (bs : List UInt8) (w : World)
    (ht : w.rowIs T 40 256 tab) (hb : Bytes w a bs) (hm : bs.length ≤ 140737488351232) :
    Calls Try.prog 12 #[.pointer (some ⟨T, 0, none⟩), .string s, .slice a bs.length cap] w fun e w' => e = .returned (.int .u32 (more (more 0 s.data.toList) bs)) ∧ bytesW w 5 s = w' := by
  have hcv := run_bytesW (P := Try.prog) 9 22 5 s Try.underlying9 Try.underlying22 Try.underlying5
  have hbel := bytesW_below w 5 s
  have ht' := ht.of_block (hbel.block T ht.lt)
  have hb' := hb.keep hbel
  have hk := bytesW_bytes w 5 s
  have hl : s.data.toList.length = s.size := by simp
  have HC1 := more_any T 0 (by omega) (some ⟨w.heap.size, 0, none⟩) (capOf w 5 s) s.data.toList _ ht' hk (by rw [hl]; exact hs)
  have HC2 := more_any T (more 0 s.data.toList) (more_lt _ _ (by omega)) a cap bs _ ht' hb' hm
  rw [hl] at HC1
  have H1 := Lib.hid HC1
  have H2 := Lib.hid HC2
  clear HC1 HC2 hl hk hb' ht' hbel ht hb
  go_enter Try.func12, Try.ntmps12
  go_wp2_with fail
  refine H1.out.mono ?_
  rintro e w' ⟨rfl, rfl⟩
  go_wp2_with fail
  refine H2.out.mono ?_
  rintro e w' ⟨rfl, rfl⟩
  go_wp2_with fail
  go_ret
  exact ⟨rfl, rfl⟩

set_option maxRecDepth 100000 in
set_option maxHeartbeats 400000 in
theorem chunkSum_any (s : ByteArray) (hs : s.size ≤ 140737488351232) (a : Option Addr) (cap : Nat) (bs : List UInt8) (w : World)
    (hb : Bytes w a bs) (hm : bs.length ≤ 140737488351232) :
    Calls Try.prog 13 #[.string s, .slice a bs.length cap] w fun e w' => e = .returned (.int .u32 (more (more 0 s.data.toList) bs)) ∧ bytesW w 5 s = w' := by
  have hcv := run_bytesW (P := Try.prog) 9 22 5 s Try.underlying9 Try.underlying22 Try.underlying5
  have hbel := bytesW_below w 5 s
  have hb' := hb.keep hbel
  have hk := bytesW_bytes w 5 s
  have hl : s.data.toList.length = s.size := by simp
  have HC1 := ref_any 0 (by omega) (some ⟨w.heap.size, 0, none⟩) (capOf w 5 s) s.data.toList _ hk (by rw [hl]; exact hs)
  have HC2 := ref_any (more 0 s.data.toList) (more_lt _ _ (by omega)) a cap bs _ hb' hm
  rw [hl] at HC1
  have H1 := Lib.hid HC1
  have H2 := Lib.hid HC2
  clear HC1 HC2 hl hk hb' hbel hb
  go_enter Try.func13, Try.ntmps13
  go_wp2_with fail
  refine H1.out.mono ?_
  rintro e w' ⟨rfl, rfl⟩
  go_wp2_with fail
  refine H2.out.mono ?_
  rintro e w' ⟨rfl, rfl⟩
  go_wp2_with fail
  go_ret
  exact ⟨rfl, rfl⟩


theorem iend_sum : more (more 0 [73, 69, 78, 68]) [] = 2923585666 := by decide +kernel
theorem abc_sum : adMore 1 [97, 98, 99] = 38600999 := by decide +kernel

theorem iend_any (T : Nat) (w : World) (ht : w.rowIs T 40 256 tab) :
    Calls Try.prog 12 #[.pointer (some ⟨T, 0, none⟩), .string { data := #[73, 69, 78, 68] }, .slice none 0 0] w fun e w' => e = .returned (.int .u32 2923585666) ∧ Below w.heap.size w w' ∧ w.heap.size < w'.heap.size := by
  refine (chunk_any T _ (by decide) none 0 [] w ht (Bytes.nil _ _) (by decide)).mono ?_
  rintro e w' ⟨rfl, rfl⟩
  refine ⟨?_, bytesW_below _ _ _, by rw [bytesW_size]; omega⟩
  rw [show more (more 0 (ByteArray.data { data := #[73, 69, 78, 68] }).toList) [] = 2923585666 from iend_sum]
  rfl

theorem abc_any (g : Nat) (cap : Nat) (w : World) (hb : Bytes w (some ⟨g, 0, none⟩) [97, 98, 99]) :
    Calls Try.prog 17 #[.slice (some ⟨g, 0, none⟩) 3 cap] w fun e w' => e = .returned (.int .u32 38600999) ∧ w = w' := by
  refine (adler1_any (some ⟨g, 0, none⟩) cap [97, 98, 99] w hb (by decide)).mono ?_
  rintro e w' ⟨rfl, rfl⟩
  exact ⟨by rw [abc_sum]; rfl, rfl⟩

set_option maxRecDepth 100000 in
set_option maxHeartbeats 400000 in
theorem awake_any (w : World) :
    Calls Try.prog 9 #[] w fun e w' => e = .returned (.bool true) ∧ Below w.heap.size w w' := by
  have kc := fun (w : World) (C : Array Value) (n c : Nat) => Lib.run_convert_bytes_const (P := Try.prog) w 22 5 C n c Try.underlying22 Try.underlying5
  go_enter Try.func9, Try.ntmps9
  go_wp2_with fail
  refine (new_any _).mono ?_
  rintro e w1 ⟨rfl, hb1, hrow⟩
  have HB1 := Lib.hid hb1
  clear hb1
  go_wp2_with fail
  refine (iend_any _ _ hrow).mono ?_
  rintro e w2 ⟨rfl, hb2, hlt⟩
  have HB2 := Lib.hid hb2
  clear hb2
  go_wp2_with fail
  refine (abc_any _ _ _ ?hb).mono ?_
  case hb =>
    intro i hi
    refine ⟨_, _, rfl, ?_⟩
    have := World.cell?_alloc_mark w2 #[Value.int IntKind.u8 97, Value.int IntKind.u8 98, Value.int IntKind.u8 99] 5 (3, 4) i
    rw [Nat.zero_add, this]
    match i, hi with
    | 0, _ => rfl
    | 1, _ => rfl
    | 2, _ => rfl
  rintro e w3 ⟨rfl, rfl⟩
  go_wp2_with fail
  go_ret
  have s1 := HB1.out.size
  exact ⟨rfl, ((HB1.out.trans (HB2.out.mono s1))).alloc (by have := HB2.out.size; omega) _⟩
end Go.Proofs.Ytejklnnhgpinbaa.Su
