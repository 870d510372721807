/- The contract of SumsBursts: it returns true at any string, bytes and burst. No condition beyond what a slice is. -/
import Derived.Test.YtejklnnhgpinbaaSumsC
import Derived.Test.YtejklnnhgpinbaaOwn
import Derived.Test.YtejklnnhgpinbaaBurstMath
import Derived.WalkSpells
namespace Go.Proofs.Ytejklnnhgpinbaa.Su
open Go.RowKit Ba

theorem turn_cell (x : UInt8) (j : Nat) (hj : j < 8) : Value.int .u8 (bits .xor .u8 ((x.toNat : Nat) : Int) (2 ^ j % 256)) = cellOf (x ^^^ UInt8.ofNat (2 ^ j)) := by
  have h2 : 2 ^ j < 2 ^ 8 := Nat.pow_lt_pow_right (by omega) hj
  have h3 : ((2 : Int) ^ j % 256) = ((2 ^ j : Nat) : Int) := by
    have : ((2 : Int) ^ j) = ((2 ^ j : Nat) : Int) := by rw [Int.natCast_pow]; rfl
    rw [this]
    have h4 : 2 ^ j < 256 := h2
    generalize 2 ^ j = q at *
    omega
  rw [h3, u8_xor_nat _ _ x.toNat_lt h2]
  unfold cellOf
  rw [UInt8.toNat_xor, UInt8.toNat_ofNat_of_lt' h2]
theorem burst_one (f n : Nat) (bs : List UInt8) (k : Nat) (h : n / 2 ^ k % 2 = 1) (j : Nat) (hj : (f + k) / 8 < bs.length) :
    (burst f n bs (k + 1)).getD j 0 = if j = (f + k) / 8 then (burst f n bs k).getD ((f + k) / 8) 0 ^^^ UInt8.ofNat (2 ^ ((f + k) % 8)) else (burst f n bs k).getD j 0 := by
  conv => lhs; unfold burst
  rw [if_pos h]
  rw [List.getD_eq_getElem?_getD, List.getElem?_set]
  by_cases e : j = (f + k) / 8
  · rw [if_pos e.symm, if_pos e, if_pos (by rw [burst_length]; exact hj)]
    rfl
  · rw [if_neg (fun h => e h.symm), if_neg e, List.getD_eq_getElem?_getD]
theorem burst_none (f n : Nat) (bs : List UInt8) (k : Nat) (h : n / 2 ^ k % 2 = 0) : burst f n bs (k + 1) = burst f n bs k := by
  conv => lhs; unfold burst
  rw [if_neg (by omega)]

set_option maxRecDepth 100000 in
set_option maxHeartbeats 800000 in
theorem bursts_small (s : ByteArray) (hs : s.size ≤ 100) (a : Option Addr) (cap : Nat) (bs : List UInt8) (hm : bs.length ≤ 4000) (hm4 : 4 ≤ bs.length) (hnil : a = none → cap = 0) (n0 n1 : Nat) (hn0 : n0 < 4294967296) (hn1 : n1 < 4294967296) (hnz : n1 ≠ 0) (w : World) (hb : Bytes w a bs) :
    Calls Try.prog 6 #[.string s, .slice a bs.length cap, .agg #[.int .u32 n0, .int .u32 n1]] w fun e w' => e = .returned (.bool true) ∧ Below w.heap.size w w' := by
  have HB := Lib.hid hb
  clear hb
  have hz : ((n1 : Int) == 0) = false := by rw [beq_eq_false_iff_ne]; omega
  have HNZ := Lib.hid hnz
  clear hnz
  go_enter Try.func6, Try.ntmps6
  go_wp2_with fail
  have hw0 : Below w.heap.size w (w.alloc (Obj.cells #[Value.int .u32 n0, Value.int .u32 n1] 35)) := (Below.refl _ _).alloc (Nat.le_refl _) _
  have hc0 : (w.alloc (Obj.cells #[Value.int .u32 n0, Value.int .u32 n1] 35)).cell? ⟨w.heap.size, 0, none⟩ = some (.int .u32 n0) := World.cell?_alloc_mark w _ _ _ 0
  have hc1 : (w.alloc (Obj.cells #[Value.int .u32 n0, Value.int .u32 n1] 35)).cell? ⟨w.heap.size, 1, none⟩ = some (.int .u32 n1) := World.cell?_alloc_mark w _ _ _ 1
  have hsz0 : (w.alloc (Obj.cells #[Value.int .u32 n0, Value.int .u32 n1] 35)).heap.size = w.heap.size + 1 := by simp
  generalize (w.alloc (Obj.cells #[Value.int .u32 n0, Value.int .u32 n1] 35)) = w0 at *
  have HW0 := Lib.hid hw0
  refine (awake_any _).mono ?_
  rintro e w1 ⟨rfl, hb1⟩
  have d0 := (hb1.cell (p := ⟨w.heap.size, 0, none⟩) (by simp; omega)).trans hc0
  have d1 := (hb1.cell (p := ⟨w.heap.size, 1, none⟩) (by simp; omega)).trans hc1
  have s1 := hb1.size
  have HB1 := Lib.hid hb1
  clear hb1 hw0 hc0 hc1
  go_wp2_with fail
  refine (new_any _).mono ?_
  rintro e w2 ⟨rfl, hb2, hrow⟩
  have e0 := (hb2.cell (p := ⟨w.heap.size, 0, none⟩) (by simp; omega)).trans d0
  have e1 := (hb2.cell (p := ⟨w.heap.size, 1, none⟩) (by simp; omega)).trans d1
  have hlt := hrow.lt
  have HB2 := Lib.hid hb2
  have HR := Lib.hid hrow
  clear hb2 hrow d0 d1
  have hBy := ((HB.out.keep HW0.out).keep HB1.out).keep HB2.out
  have HBy := Lib.hid hBy
  have eall : ∀ o, (w2.alloc o).cell? ⟨w.heap.size, 0, none⟩ = some (.int .u32 n0) := fun o => (((Below.refl w2.heap.size w2).alloc (Nat.le_refl _) o).cell (p := ⟨w.heap.size, 0, none⟩) (by simp; omega)).trans e0
  clear hBy
  go_wp2_with (at_builtin; refine wpList_append_bytes rfl (.tmp 34) (.tmp 35) rfl w2.heap.size _ [] rfl (Own.empty w2 w2.heap.size (Nat.le_refl _)) a bs.length cap bs rfl rfl (HBy.out.keep ((Below.refl _ _).alloc (Nat.le_refl _) _)) hnil (by simp; omega) (by simp) ?_)
  intro v3 w3 hown hg
  clear eall
  have hb3 : Below w2.heap.size w2 w3 := ((Below.refl _ _).alloc (Nat.le_refl _) _).grown hg (by simp) (fun k hk => by simp [Value.ownBlock] at hk; omega)
  have e0' := (hb3.cell (p := ⟨w.heap.size, 0, none⟩) (by simp; omega)).trans e0
  have e1' := (hb3.cell (p := ⟨w.heap.size, 1, none⟩) (by simp; omega)).trans e1
  obtain ⟨g, capg, f0, rfl, hgb, hrow0, hcg, hcgm, hf0⟩ := Own.row hown (by omega)
  clear hown hg e0 e1
  obtain ⟨fr, hfr, hfrl⟩ : ∃ fr : Nat, (n0 : Int) % (8 * (bs.length : Int) - 31) = (fr : Int) ∧ fr + 32 ≤ 8 * bs.length := by
    refine ⟨n0 % (8 * bs.length - 31), ?_, ?_⟩
    · rw [Int.natCast_emod]
      congr 1
      omega
    · have := Nat.mod_lt n0 (show 0 < 8 * bs.length - 31 from by omega)
      omega
  have E1 := Lib.hid e1'
  have HF0 := Lib.hid hf0
  clear hf0 e1'
  go_wp2_with fail
  rw [hfr]
  clear hfr e0'
  go_loopw [10] (fun i wr => ∃ k : Nat, k ≤ 32 ∧ i = .int .i64 k ∧ Below w2.heap.size w2 wr ∧ ∃ f, wr.rowIs g 5 capg f ∧ Hid (∀ j, j < bs.length → f j = cellOf ((burst fr n1 bs k).getD j 0))) (fun i _ => 32 - (intOf i).toNat)
  case atStart => exact ⟨0, by omega, rfl, hb3, f0, hrow0, fun j hj => by rw [HF0.out j hj]; show _ = cellOf (bs.getD j 0); rw [List.getD_eq_getElem?_getD, List.getElem?_eq_getElem hj]; rfl⟩
  case round =>
    obtain ⟨k, hk, rfl, hbr, f, hrow, HF⟩ := hrel
    have m1 := (hbr.cell (p := ⟨w.heap.size, 1, none⟩) (by simp; omega)).trans ((hb3.cell (p := ⟨w.heap.size, 1, none⟩) (by simp; omega)).symm.trans E1.out)
    clear hb3 hrow0
    have hsz := hbr.size
    by_cases hlt32 : k < 32
    · have hbit : bits .and .u32 ((n1 : Int) / 2 ^ k) 1 = ((n1 / 2 ^ k % 2 : Nat) : Int) := by
        have := and1 (n1 / 2 ^ k) (Nat.lt_of_le_of_lt (Nat.div_le_self _ _) hn1)
        rw [Int.natCast_ediv, Int.natCast_pow] at this
        exact this
      by_cases hb1 : n1 / 2 ^ k % 2 = 1
      · rw [hb1] at hbit
        have HBit := Lib.hid hb1
        clear hb1
        have hjl : (fr + k) / 8 < bs.length := by omega
        have hc := hrow.cell (show (fr + k) / 8 < capg from by omega)
        rw [HF.out _ hjl] at hc
        have hfz := hrow.frozen ((fr + k) / 8)
        have HRow := Lib.hid hrow
        clear hrow
        unfold cellOf at hc
        go_wp2_with fail
        go_roundw
        case rel =>
          refine ⟨k + 1, by omega, by go_num, hbr.setCell (by simp; omega) _, _, World.rowIs.set HRow.out _ _, ?_⟩
          intro j hj
          rw [burst_one fr n1 bs k HBit.out j hjl]
          by_cases e : j = (fr + k) / 8
          · rw [if_pos e, if_pos e]
            rw [List.getD_eq_getElem?_getD]
            exact turn_cell _ _ (Nat.mod_lt _ (by omega))
          · rw [if_neg e, if_neg e]
            exact HF.out j hj
        case measure => simp [intOf]; omega
      · have hb0 : n1 / 2 ^ k % 2 = 0 := by omega
        rw [hb0] at hbit
        have HE := Lib.hid (burst_none fr n1 bs k hb0)
        have HRow := Lib.hid hrow
        clear hb0 hb1 hrow
        go_wp2_with fail
        go_roundw
        case rel => exact ⟨k + 1, by omega, by go_num, hbr, f, HRow.out, by rw [HE.out]; exact HF⟩
        case measure => simp [intOf]; omega
    · obtain rfl : k = 32 := by omega
      have HBR := Lib.hid hbr
      have hRr := HR.out.of_block (hbr.block _ hlt)
      have hAr := HBy.out.below HBy.out.old hbr
      obtain ⟨L, hL⟩ : ∃ L, L = burst fr n1 bs 32 := ⟨_, rfl⟩
      have hLl : L.length = bs.length := by rw [hL, burst_length]
      have hbL : Bytes wr (some ⟨g, 0, none⟩) L := row_bytes hrow L (by omega) (fun i hi => by
        rw [HF.out i (by omega), ← hL, List.getD_eq_getElem?_getD, List.getElem?_eq_getElem hi]; rfl)
      obtain ⟨x1, hx1⟩ : ∃ x, x = more (more 0 s.data.toList) bs := ⟨_, rfl⟩
      obtain ⟨x2, hx2⟩ : ∃ x, x = more (more 0 s.data.toList) L := ⟨_, rfl⟩
      have hne : ((x1 : Int) != (x2 : Int)) = true := by
        have h0 : x1 ≠ x2 := by rw [hx1, hx2, hL]; exact burst_sum _ fr n1 bs hn1 HNZ.out hfrl
        rw [bne_iff_ne]
        omega
      have h1 := chunk_any w1.heap.size s (by omega) a cap bs wr hRr hAr (by omega)
      have hXX := bytesW_below wr 5 s
      have h2 := chunk_any w1.heap.size s (by omega) (some ⟨g, 0, none⟩) capg L (bytesW wr 5 s) (hRr.of_block (hXX.block _ hRr.lt)) (hbL.keep hXX) (by omega)
      rw [← hx1] at h1
      rw [← hx2, hLl] at h2
      have H1 := Lib.hid h1
      have H2 := Lib.hid h2
      have HXX := Lib.hid hXX
      clear h1 h2 hx1 hx2 hL hLl hbL hRr hAr hrow hbr hXX m1
      go_wp2_with fail
      refine H1.out.mono ?_
      rintro e w' ⟨rfl, rfl⟩
      go_wp2_with fail
      refine H2.out.mono ?_
      rintro e w' ⟨rfl, rfl⟩
      go_wp2_with fail
      go_ret
      exact ⟨rfl, chain (chain (chain (chain (chain HW0.out HB1.out) HB2.out) HBR.out) HXX.out) (bytesW_below _ _ _)⟩

set_option maxRecDepth 100000 in
theorem bursts_big (s : ByteArray) (hs : s.size ≤ maxLen) (a : Option Addr) (n cap : Nat) (hn : n ≤ maxLen) (n0 n1 : Nat) (w : World) (h : 100 < s.size ∨ n < 4 ∨ 4000 < n ∨ n1 = 0) :
    Calls Try.prog 6 #[.string s, .slice a n cap, .agg #[.int .u32 n0, .int .u32 n1]] w fun e w' => e = .returned (.bool true) ∧ Below w.heap.size w w' := by
  unfold maxLen at hs hn
  have hc : (100 < s.size) ∨ (¬ 100 < s.size ∧ n < 4) ∨ (¬ 100 < s.size ∧ ¬ n < 4 ∧ 4000 < n) ∨ (¬ 100 < s.size ∧ ¬ n < 4 ∧ ¬ 4000 < n ∧ ((n1 : Int) == 0) = true) := by rw [beq_iff_eq]; omega
  clear h
  have hw0 : Below w.heap.size w (w.alloc (Obj.cells #[Value.int .u32 n0, Value.int .u32 n1] 35)) := (Below.refl _ _).alloc (Nat.le_refl _) _
  have hc1 : (w.alloc (Obj.cells #[Value.int .u32 n0, Value.int .u32 n1] 35)).cell? ⟨w.heap.size, 1, none⟩ = some (.int .u32 n1) := World.cell?_alloc_mark w _ _ _ 1
  have hsz0 : (w.alloc (Obj.cells #[Value.int .u32 n0, Value.int .u32 n1] 35)).heap.size = w.heap.size + 1 := by simp
  rcases hc with h1 | ⟨h1, h2⟩ | ⟨h1, h2, h3⟩ | ⟨h1, h2, h3, h4⟩
  all_goals
    go_enter Try.func6, Try.ntmps6
    go_wp2_with fail
    generalize (w.alloc (Obj.cells #[Value.int .u32 n0, Value.int .u32 n1] 35)) = w0 at *
    refine (awake_any _).mono ?_
    rintro e w1 ⟨rfl, hb1⟩
    have d1 := (hb1.cell (p := ⟨w.heap.size, 1, none⟩) (by simp; omega)).trans hc1
    have HB1 := Lib.hid hb1
    have HW0 := Lib.hid hw0
    clear hb1 hc1 hw0
    go_wp2_with fail
    go_ret
    exact ⟨rfl, chain HW0.out HB1.out⟩
theorem bursts_any (s : ByteArray) (hs : s.size ≤ maxLen) (a : Option Addr) (cap : Nat) (bs : List UInt8) (hm : cap ≤ maxLen) (hcap : bs.length ≤ cap) (hnil : a = none → cap = 0) (n0 n1 : Nat) (hn0 : n0 < 4294967296) (hn1 : n1 < 4294967296) (w : World) (hb : Bytes w a bs) :
    Calls Try.prog 6 #[.string s, .slice a bs.length cap, .agg #[.int .u32 n0, .int .u32 n1]] w fun e w' => e = .returned (.bool true) ∧ Below w.heap.size w w' := by
  by_cases h : 100 < s.size ∨ bs.length < 4 ∨ 4000 < bs.length ∨ n1 = 0
  · exact bursts_big s hs a bs.length cap (by omega) n0 n1 w h
  · exact bursts_small s (by omega) a cap bs (by omega) (by omega) hnil n0 n1 hn0 hn1 (by omega) w hb
end Go.Proofs.Ytejklnnhgpinbaa.Su
