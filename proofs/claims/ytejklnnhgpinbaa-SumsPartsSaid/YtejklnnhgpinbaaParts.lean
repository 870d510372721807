/- The contract of SumsParts: it returns true at any bytes, cut and number of bytes 255 behind. No condition beyond what a slice is. -/
import Derived.Test.YtejklnnhgpinbaaSumsC
import Derived.Test.YtejklnnhgpinbaaOwn
import Derived.Deep.RegionWith
import Derived.WalkSpells
namespace Go.Proofs.Ytejklnnhgpinbaa.Su
open Go.RowKit Ba

theorem adler_loose (s n : Nat) (bs : List UInt8) (hn : n = bs.length) (hs : s < 4294967296) (a : Option Addr) (cap : Nat) (hm : bs.length ≤ 140737488351232) (w : World) (hb : Bytes w a bs) :
    Calls Try.prog 15 #[.int .u32 s, .slice a n cap] w fun e w' => e = .returned (.int .u32 (adMore s bs)) ∧ w = w' := by
  subst hn; exact adler_any s hs a cap bs w hb hm

set_option maxRecDepth 100000 in
set_option maxHeartbeats 800000 in
theorem parts_small (a : Option Addr) (cap : Nat) (bs : List UInt8) (hm : bs.length ≤ 3000) (hnil : a = none → cap = 0) (c : Nat) (hc : c < 65536) (d : Nat) (hd : d < 65536) (w : World) (hb : Bytes w a bs) :
    Calls Try.prog 5 #[.slice a bs.length cap, .int .u16 c, .int .u16 d] w fun e w' => e = .returned (.bool true) ∧ Below w.heap.size w w' := by
  have HB := Lib.hid hb
  clear hb
  go_enter Try.func5, Try.ntmps5
  go_wp2_with fail
  refine (awake_any _).mono ?_
  rintro e w1 ⟨rfl, hb1⟩
  have HB1 := Lib.hid hb1
  clear hb1
  have hB1 := HB.out.keep HB1.out
  go_wp2_with (at_builtin; refine wpList_append_bytes rfl (.tmp 20) (.tmp 21) rfl w1.heap.size _ [] rfl (Own.empty w1 w1.heap.size (Nat.le_refl _)) a bs.length cap bs rfl rfl (hB1.keep ((Below.refl _ _).alloc (Nat.le_refl _) _)) hnil (by simp; omega) (by simp) ?_)
  intro v1 w2 hown hg
  have hb2 : Below w1.heap.size w1 w2 := ((Below.refl _ _).alloc (Nat.le_refl _) _).grown hg (by simp) (fun k hk => by simp [Value.ownBlock] at hk; omega)
  clear hg
  obtain ⟨m, hme, hm9⟩ : ∃ m : Nat, (d : Int) % 9000 = (m : Int) ∧ m < 9000 := ⟨d % 9000, by omega, by omega⟩
  go_wp2_with fail
  rw [hme]
  clear hme
  go_loopw [8, 9] (fun v i wr => ∃ k : Nat, k ≤ m ∧ i = .int .i64 k ∧ Own wr w1.heap.size v (bs ++ List.replicate k 255) ∧ Below w1.heap.size w1 wr) (fun _ i _ => m - (intOf i).toNat)
  case atStart => exact ⟨0, by omega, rfl, by simpa using hown, hb2⟩
  case round =>
    obtain ⟨k, hk, rfl, hownr, hbr⟩ := hrel
    clear hown hb2
    have hsz := hbr.size
    by_cases hlt : k < m
    · obtain ⟨L, hL⟩ : ∃ L, L = bs ++ List.replicate k 255 := ⟨_, rfl⟩
      have HL := Lib.hid hL
      have hLl : L.length ≤ 12000 := by rw [hL]; simp; omega
      rw [← hL] at hownr
      clear hL
      have HO := Lib.hid (hownr.alloc (Obj.cells #[.int .u8 255] 5))
      have HBl := fun k hk => hownr.block k hk
      clear hownr
      go_wp2_with (at_builtin; refine wpList_append_bytes rfl (.tmp 28) (.tmp 29) rfl w1.heap.size _ _ rfl HO.out (some ⟨wr.heap.size, 0, none⟩) 1 1 [255] rfl rfl (Bytes.lit _ _ _ _ _ rfl) (fun h => by cases h) (by omega) (by simp; omega) ?_)
      intro v2 w3 hown3 hg3
      have hb3 : Below w1.heap.size w1 w3 := (hbr.alloc hsz _).grown hg3 (by simp; omega) HBl
      have HO3 : Hid (Own w3 w1.heap.size v2 (bs ++ List.replicate (k + 1) 255)) := by
        rw [HL.out, List.append_assoc, ← List.replicate_succ'] at hown3
        exact hown3
      have HB3 := Lib.hid hb3
      clear hown3 hb3 hg3 HBl HO hbr
      go_wp2_with fail
      go_roundw
      case rel => exact ⟨k + 1, by omega, by go_num, HO3.out, HB3.out⟩
      case measure => simp [intOf]; omega
    · obtain rfl : k = m := by omega
      obtain ⟨L, hL⟩ : ∃ L, L = bs ++ List.replicate k 255 := ⟨_, rfl⟩
      rw [← hL] at hownr
      have hLl : L.length ≤ 12000 := by rw [hL]; simp; omega
      clear hL
      obtain ⟨ao, ca, rfl, hby, hlc, hcm, _⟩ := hownr.view
      have HBY := Lib.hid hby
      have HBR := Lib.hid hbr
      clear hby hbr hownr
      go_wp2_with fail
      obtain ⟨q, hq⟩ : ∃ q : Int, q = (c : Int) % ((L.length : Int) + 1) := ⟨_, rfl⟩
      rw [← hq]
      obtain ⟨j, rfl, hjn⟩ : ∃ j : Nat, q = (j : Int) ∧ j ≤ L.length := ⟨c % (L.length + 1), by rw [hq, Int.natCast_emod]; rfl, by have := Nat.mod_lt c (show 0 < L.length + 1 from by omega); omega⟩
      clear hq
      have hct := run_cut_to (P := Try.prog) 22 5 Try.underlying22 size_u8 ao L.length ca .i64 j (by omega)
      have hcf := run_cut_from (P := Try.prog) 22 5 Try.underlying22 size_u8 ao L.length ca .i64 j hjn
      obtain ⟨s1, hs1⟩ : ∃ x, x = adMore 1 (L.take j) := ⟨_, rfl⟩
      obtain ⟨s2, hs2⟩ : ∃ x, x = adMore 1 L := ⟨_, rfl⟩
      have hs1l : s1 < 4294967296 := by rw [hs1]; exact adMore_lt _ _ (by omega)
      have hs2l : s2 < 4294967296 := by rw [hs2]; exact adMore_lt _ _ (by omega)
      have hW : Bytes wr.drew ao L := HBY.out
      have h1 := adler_loose 1 j (L.take j) (by rw [List.length_take]; omega) (by omega) ao ca (by rw [List.length_take]; omega) wr.drew (hW.take j)
      have h2 := adler_loose s1 (L.length - j) (L.drop j) (by rw [List.length_drop]) hs1l (cutA ao j ca) (ca - j) (by rw [List.length_drop]; omega) wr.drew (hW.drop j ca hlc)
      have h3 := adler1_any ao ca L wr.drew hW (by omega)
      have h4 := adlerRef_any 1 (by omega) ao ca L wr.drew hW (by omega)
      have hsum : adMore s1 (L.drop j) = s2 := by rw [hs1, ← adMore_append _ _ _ (by omega), List.take_append_drop, hs2]
      have hfit := adMore_fits L
      rw [← hs1] at h1
      rw [hsum] at h2
      rw [← hs2] at h3 h4 hfit
      have H1 := Lib.hid h1
      have H2 := Lib.hid h2
      have H3 := Lib.hid h3
      have H4 := Lib.hid h4
      have hand := and65535 s2 hs2l
      obtain ⟨t1, ht1, hf1⟩ : ∃ t1 : Nat, s2 % 65536 = t1 ∧ (t1 : Int) < 65521 := ⟨_, rfl, by omega⟩
      obtain ⟨t2, ht2, hf2⟩ : ∃ t2 : Nat, (s2 : Int) / 65536 = (t2 : Int) ∧ (t2 : Int) < 65521 := ⟨s2 / 65536, by omega, by omega⟩
      rw [ht1] at hand
      clear ht1
      clear h1 h2 h3 h4 hsum hs1 hs2 hW hfit
      go_region_with (first
        | (go_at_call_of 15 s1; refine H2.out.mono ?_; rintro e w' ⟨rfl, rfl⟩)
        | (go_at_call 15; refine H1.out.mono ?_; rintro e w' ⟨rfl, rfl⟩))
      all_goals
        clear hct hcf
        go_wp2_with fail
        refine H3.out.mono ?_
        rintro e w' ⟨rfl, rfl⟩
        go_wp2_with fail
        refine H4.out.mono ?_
        rintro e w' ⟨rfl, rfl⟩
        go_wp2_with fail
      all_goals go_ret
      all_goals exact ⟨rfl, chain HB1.out HBR.out.drew⟩

set_option maxRecDepth 100000 in
theorem parts_big (a : Option Addr) (n cap : Nat) (hn : n ≤ maxLen) (h : 3000 < n) (c d : Nat) (w : World) :
    Calls Try.prog 5 #[.slice a n cap, .int .u16 c, .int .u16 d] w fun e w' => e = .returned (.bool true) ∧ Below w.heap.size w w' := by
  unfold maxLen at hn
  go_enter Try.func5, Try.ntmps5
  go_wp2_with fail
  refine (awake_any _).mono ?_
  rintro e w1 ⟨rfl, hb1⟩
  have HB1 := Lib.hid hb1
  clear hb1
  go_wp2_with fail
  go_ret
  exact ⟨rfl, HB1.out⟩
theorem parts_any (a : Option Addr) (cap : Nat) (bs : List UInt8) (hm : cap ≤ maxLen) (hcap : bs.length ≤ cap) (hnil : a = none → cap = 0) (c : Nat) (hc : c < 65536) (d : Nat) (hd : d < 65536) (w : World) (hb : Bytes w a bs) :
    Calls Try.prog 5 #[.slice a bs.length cap, .int .u16 c, .int .u16 d] w fun e w' => e = .returned (.bool true) ∧ Below w.heap.size w w' := by
  by_cases h : 3000 < bs.length
  · exact parts_big a bs.length cap (by omega) h c d w
  · exact parts_small a cap bs (by omega) hnil c hc d hd w hb
end Go.Proofs.Ytejklnnhgpinbaa.Su
