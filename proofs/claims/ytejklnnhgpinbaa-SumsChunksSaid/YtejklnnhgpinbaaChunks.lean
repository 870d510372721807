/- The contract of SumsChunks: it returns true at any string, bytes and cut. No condition beyond what a slice is. -/
import Derived.Test.YtejklnnhgpinbaaSumsC
import Derived.Deep.RegionWith
import Derived.WalkSpells
namespace Go.Proofs.Ytejklnnhgpinbaa.Su
open Go.RowKit Ba

set_option maxRecDepth 100000 in
set_option maxHeartbeats 400000 in
theorem chunks_small (s : ByteArray) (hs : s.size ≤ 1000) (a : Option Addr) (cap : Nat) (bs : List UInt8) (hm : bs.length ≤ 5000) (hcap : bs.length ≤ cap) (c : Nat) (hc : c < 65536) (w : World) (hb : Bytes w a bs) :
    Calls Try.prog 3 #[.string s, .slice a bs.length cap, .int .u16 c] w fun e w' => e = .returned (.bool true) ∧ Below w.heap.size w w' := by
  have hcv := run_bytesW (P := Try.prog) 9 22 5 s Try.underlying9 Try.underlying22 Try.underlying5
  have HB := Lib.hid hb
  clear hb
  go_enter Try.func3, Try.ntmps3
  go_wp2_with fail
  refine (awake_any _).mono ?_
  rintro e w1 ⟨rfl, hb1⟩
  have HB1 := Lib.hid hb1
  clear hb1
  go_wp2_with fail
  refine (new_any _).mono ?_
  rintro e w2 ⟨rfl, hb2, hrow⟩
  have hlt := hrow.lt
  have HB2 := Lib.hid hb2
  have HR := Lib.hid hrow
  clear hb2 hrow
  go_wp2_with fail
  obtain ⟨q, hq⟩ : ∃ q : Int, q = (c : Int) % ((bs.length : Int) + 1) := ⟨_, rfl⟩
  rw [← hq]
  obtain ⟨k, rfl, hkn⟩ : ∃ k : Nat, q = (k : Int) ∧ k ≤ bs.length := ⟨c % (bs.length + 1), by rw [hq, Int.natCast_emod]; rfl, by have := Nat.mod_lt c (show 0 < bs.length + 1 from by omega); omega⟩
  clear hq
  have hct := run_cut_to (P := Try.prog) 22 5 Try.underlying22 size_u8 a bs.length cap .i64 k (by omega)
  have hcf := run_cut_from (P := Try.prog) 22 5 Try.underlying22 size_u8 a bs.length cap .i64 k hkn
  have hXb : Below w2.heap.size w2 (bytesW w2.drew 5 s) := (Below.drew (Below.refl _ w2)).trans (bytesW_below w2.drew 5 s)
  have hb2 : Bytes w2 a bs := (HB.out.keep HB1.out).keep HB2.out
  have hXr := HR.out.of_block (hXb.block _ hlt)
  have hbX := hb2.keep hXb
  have hl : s.size = s.data.toList.length := by simp
  obtain ⟨s1, hs1⟩ : ∃ x, x = more 0 s.data.toList := ⟨_, rfl⟩
  obtain ⟨s2, hs2⟩ : ∃ x, x = more s1 (bs.take k) := ⟨_, rfl⟩
  have hs1l : s1 < 4294967296 := by rw [hs1]; exact more_lt _ _ (by omega)
  have hs2l : s2 < 4294967296 := by rw [hs2]; exact more_lt _ _ hs1l
  have h1 := more_loose w1.heap.size 0 s.size s.data.toList hl (by omega) (some ⟨w2.heap.size, 0, none⟩) (capOf w2.drew 5 s) (by omega) _ hXr (bytesW_bytes w2.drew 5 s)
  have h2 := more_loose w1.heap.size s1 k (bs.take k) (by rw [List.length_take]; omega) hs1l a cap (by rw [List.length_take]; omega) _ hXr (hbX.take k)
  have h3 := more_loose w1.heap.size s2 (bs.length - k) (bs.drop k) (by rw [List.length_drop]) hs2l (cutA a k cap) (cap - k) (by rw [List.length_drop]; omega) _ hXr (hbX.drop k cap hcap)
  have h4 := chunk_any w1.heap.size s (by omega) a cap bs _ hXr hbX (by omega)
  have hXX := bytesW_below (bytesW w2.drew 5 s) 5 s
  have h5 := chunkSum_any s (by omega) a cap bs (bytesW (bytesW w2.drew 5 s) 5 s) (hbX.keep hXX) (by omega)
  have hsum : more s2 (bs.drop k) = more (more 0 s.data.toList) bs := by
    rw [hs2, ← more_append, List.take_append_drop, hs1]
  rw [← hs1] at h1 h4 h5 hsum
  rw [← hs2] at h2
  rw [hsum] at h3
  obtain ⟨s3, hs3⟩ : ∃ x, x = more s1 bs := ⟨_, rfl⟩
  rw [← hs3] at h3 h4 h5
  have H1 := Lib.hid h1
  have H2 := Lib.hid h2
  have H3 := Lib.hid h3
  have H4 := Lib.hid h4
  have H5 := Lib.hid h5
  have HXb := Lib.hid hXb
  have HXX := Lib.hid hXX
  clear h1 h2 h3 h4 h5 hsum hs1 hs2 hs3 hXb hXr hbX hl hb2 hXX
  go_region_with (first
    | (go_at_call_of 11 (Value.int IntKind.u32 0); refine H1.out.mono ?_; rintro e w' ⟨rfl, rfl⟩)
    | (go_at_call_of 11 s1; refine H2.out.mono ?_; rintro e w' ⟨rfl, rfl⟩)
    | (go_at_call_of 11 s2; refine H3.out.mono ?_; rintro e w' ⟨rfl, rfl⟩))
  all_goals
    clear hcv
    go_wp2_with fail
    refine H4.out.mono ?_
    rintro e w' ⟨rfl, rfl⟩
    go_wp2_with fail
    refine H5.out.mono ?_
    rintro e w' ⟨rfl, rfl⟩
    go_wp2_with fail
    go_ret
  all_goals exact ⟨rfl, chain (chain (chain (chain HB1.out HB2.out) HXb.out) HXX.out) (bytesW_below _ _ _)⟩

set_option maxRecDepth 100000 in
theorem chunks_big (s : ByteArray) (hs : s.size ≤ maxLen) (a : Option Addr) (n cap : Nat) (hn : n ≤ maxLen) (h : 1000 < s.size ∨ 5000 < n) (c : Nat) (w : World) :
    Calls Try.prog 3 #[.string s, .slice a n cap, .int .u16 c] w fun e w' => e = .returned (.bool true) ∧ Below w.heap.size w w' := by
  unfold maxLen at hs hn
  by_cases h1 : 1000 < s.size
  · clear h
    go_enter Try.func3, Try.ntmps3
    go_wp2_with fail
    refine (awake_any _).mono ?_
    rintro e w1 ⟨rfl, hb1⟩
    have HB1 := Lib.hid hb1
    clear hb1
    go_wp2_with fail
    go_ret
    exact ⟨rfl, HB1.out⟩
  · have h2 : 5000 < n := by omega
    clear h
    go_enter Try.func3, Try.ntmps3
    go_wp2_with fail
    refine (awake_any _).mono ?_
    rintro e w1 ⟨rfl, hb1⟩
    have HB1 := Lib.hid hb1
    clear hb1
    go_wp2_with fail
    go_ret
    exact ⟨rfl, HB1.out⟩
theorem chunks_any (s : ByteArray) (hs : s.size ≤ maxLen) (a : Option Addr) (cap : Nat) (bs : List UInt8) (hm : cap ≤ maxLen) (hcap : bs.length ≤ cap) (c : Nat) (hc : c < 65536) (w : World) (hb : Bytes w a bs) :
    Calls Try.prog 3 #[.string s, .slice a bs.length cap, .int .u16 c] w fun e w' => e = .returned (.bool true) ∧ Below w.heap.size w w' := by
  by_cases h : 1000 < s.size ∨ 5000 < bs.length
  · exact chunks_big s hs a bs.length cap (by omega) h c w
  · exact chunks_small s (by omega) a cap bs (by omega) hcap c hc w hb
end Go.Proofs.Ytejklnnhgpinbaa.Su
