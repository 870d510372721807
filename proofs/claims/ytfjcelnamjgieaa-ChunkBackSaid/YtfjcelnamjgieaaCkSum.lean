/- Contracts of Chunk and ChunkSum. Condition: the table stands, bytes lie at the slice. -/
import Derived.Test.YtfjcelnamjgieaaSumsM
namespace Go.Proofs.Ytfjcelnamjgieaa.Su
open Go.RowKit Ba

set_option maxRecDepth 100000 in
set_option maxHeartbeats 400000 in
theorem chunk_any (T : Nat) (s : ByteArray) (hs : s.size ≤ 140737488351232) (a : Option Addr) (cap : Nat) (bs : List UInt8) (w : World)
    (ht : w.rowIs T 68 256 tab) (hb : Bytes w a bs) (hm : bs.length ≤ 140737488351232) :
    Calls Try.prog 29 #[.pointer (some ⟨T, 0, none⟩), .string s, .slice a bs.length cap] w fun e w' => e = .returned (.int .u32 (more (more 0 s.data.toList) bs)) ∧ bytesW w 5 s = w' := by
  have hcv := run_bytesW (P := Try.prog) 9 22 5 s Try.underlying9 Try.underlying22 Try.underlying5
  have hbel := bytesW_below w 5 s
  have ht' := ht.of_block (hbel.block T ht.lt)
  have hb' := hb.keep hbel
  have hk := bytesW_bytes w 5 s
  have hl : s.data.toList.length = s.size := by simp
  have HC1 := more_any T 0 (by omega) (some ⟨w.heap.size, 0, none⟩) (capOf w 5 s) s.data.toList _ ht' hk (by rw [hl]; exact hs)
  have HC2 := more_any T (more 0 s.data.toList) (more_lt _ _ (by omega)) a cap bs _ ht' hb' hm
  rw [hl] at HC1
  have H1 := Lib.hid HC1
  have H2 := Lib.hid HC2
  clear HC1 HC2 hl hk hb' ht' hbel ht hb
  go_enter Try.func29, Try.ntmps29
  go_wp2_with fail
  refine H1.out.mono ?_
  rintro e w' ⟨rfl, rfl⟩
  go_wp2_with fail
  refine H2.out.mono ?_
  rintro e w' ⟨rfl, rfl⟩
  go_wp2_with fail
  go_ret
  exact ⟨rfl, rfl⟩

set_option maxRecDepth 100000 in
set_option maxHeartbeats 400000 in
theorem chunkSum_any (s : ByteArray) (hs : s.size ≤ 140737488351232) (a : Option Addr) (cap : Nat) (bs : List UInt8) (w : World)
    (hb : Bytes w a bs) (hm : bs.length ≤ 140737488351232) :
    Calls Try.prog 26 #[.string s, .slice a bs.length cap] w fun e w' => e = .returned (.int .u32 (more (more 0 s.data.toList) bs)) ∧ bytesW w 5 s = w' := by
  have hcv := run_bytesW (P := Try.prog) 9 22 5 s Try.underlying9 Try.underlying22 Try.underlying5
  have hbel := bytesW_below w 5 s
  have hb' := hb.keep hbel
  have hk := bytesW_bytes w 5 s
  have hl : s.data.toList.length = s.size := by simp
  have HC1 := ref_any 0 (by omega) (some ⟨w.heap.size, 0, none⟩) (capOf w 5 s) s.data.toList _ hk (by rw [hl]; exact hs)
  have HC2 := ref_any (more 0 s.data.toList) (more_lt _ _ (by omega)) a cap bs _ hb' hm
  rw [hl] at HC1
  have H1 := Lib.hid HC1
  have H2 := Lib.hid HC2
  clear HC1 HC2 hl hk hb' hbel hb
  go_enter Try.func26, Try.ntmps26
  go_wp2_with fail
  refine H1.out.mono ?_
  rintro e w' ⟨rfl, rfl⟩
  go_wp2_with fail
  refine H2.out.mono ?_
  rintro e w' ⟨rfl, rfl⟩
  go_wp2_with fail
  go_ret
  exact ⟨rfl, rfl⟩


end Go.Proofs.Ytfjcelnamjgieaa.Su
