/- The contract of FilterNone: true at any rows. No condition beyond what a slice is. -/
import Derived.Test.YtfkhdakeojhpaaaFiltW
import Derived.Test.YtfkhdakeojhpaaaFiltG
namespace Go.Proofs.Ytfkhdakeojhpaaa.Fi
open Go.RowKit Ba

theorem zeros_bytes {w : World} {g n : Nat} {t : TypeId} (h : w.rowIs g t n (fun _ => .int .u8 0)) : Bytes w (some ⟨g, 0, none⟩) (List.replicate n 0) :=
  row_bytes h _ (by rw [List.length_replicate]; exact Nat.le_refl _) (fun i hi => by rw [List.getElem_replicate]; rfl)

set_option maxRecDepth 100000 in
set_option maxHeartbeats 6400000 in
theorem none_small (a b : Option Addr) (ca cb n m : Nat) (row above : List UInt8) (hn : n = row.length) (hm : m = above.length) (h3 : n ≤ 2000) (hma : m = n) (hnil : a = none → ca = 0) (n0 : Nat) (hn0 : n0 < 256) (w : World) (hr : Bytes w a row) (ha : Bytes w b above) :
    Calls Try.prog 6 #[.slice a n ca, .slice b m cb, .int .u8 n0] w fun e w' => e = .returned (.bool true) ∧ Below w.heap.size w w' := by
  obtain ⟨d, hde, hd1, hd8⟩ : ∃ d : Nat, 1 + (n0 : Int) % 8 = (d : Int) ∧ 1 ≤ d ∧ d ≤ 8 := ⟨1 + n0 % 8, by omega, by omega, by omega⟩
  have HDE := Lib.hid hde
  have HN := Lib.hid hn
  have HR := Lib.hid hr
  have HA := Lib.hid ha
  have HM := Lib.hid hm
  have HMA := Lib.hid hma
  have HNil := Lib.hid hnil
  have q1 : ((m : Int) != (n : Int)) = false := by rw [bne_eq_false_iff_eq]; omega
  have hmk := run_make_row' (P := Try.prog) 22 5 (.int .u8 0) 1 Try.underlying22 info_u8 rfl .i64 .i64 n (by omega) (by omega)
  have HMk := Lib.hid hmk
  clear hde hn hr ha hm hma hnil hmk
  go_enter Try.func6, Try.ntmps6
  go_wp2_with fail
  refine (awake_any _).mono ?_
  rintro e w1 ⟨rfl, hb1⟩
  have HB1 := Lib.hid hb1
  clear hb1
  go_wp2_with fail
  rw [HDE.out]
  refine (do_yes 0 (by omega) row above (by have := HN.out; omega) a b n m ca cb HN.out HM.out (.inr HMA.out) d ⟨hd1, hd8⟩ w1 (HR.out.keep HB1.out) (HA.out.keep HB1.out)).mono ?_
  rintro e w2 ⟨ao2, cap2, rfl, hb2, hby2, hcap2, hcm2, _⟩
  have hl2 : (doV 0 row above d).length = n := by rw [doV_length]; exact HN.out.symm
  rw [hl2]
  rw [do_none] at hby2
  have HBY2 := Lib.hid hby2
  have HB2 := Lib.hid (chain HB1.out hb2)
  clear hby2 hb2 hl2 hcap2
  go_wp2_with fail
  go_loopw [10, 11, 12, 13, 14] (fun i _ _ _ _ wr => ∃ k : Nat, k ≤ 5 ∧ i = .int .i64 k ∧ Below w.heap.size w wr ∧ Below w2.heap.size w2 wr) (fun i _ _ _ _ _ => 5 - (intOf i).toNat)
  case atStart => exact ⟨0, by omega, rfl, HB2.out, Below.refl _ _⟩
  case round =>
    obtain ⟨k, hk, rfl, hbel, hbel2⟩ := hrel
    by_cases hlt : k < 5
    · have HBel := Lib.hid hbel
      have HBel2 := Lib.hid hbel2
      clear hbel hbel2
      go_wp2_with fail
      refine (do_yes k hlt row [] (by have := HN.out; omega) a none n 0 ca 0 HN.out rfl (.inl rfl) d ⟨hd1, hd8⟩ wr (HR.out.keep HBel.out) (Bytes.nil _ _)).mono ?_
      rintro e w3 ⟨ao3, cap3, rfl, hb3, hby3, hcap3, hcm3, _⟩
      have hl3 : (doV k row [] d).length = n := by rw [doV_length]; exact HN.out.symm
      rw [hl3]
      have HL3 := Lib.hid hl3
      clear hl3
      have HBY3 := Lib.hid hby3
      have HB3 := Lib.hid (chain HBel.out hb3)
      have HB23 := Lib.hid (chain HBel2.out hb3)
      clear hby3 hb3 hcap3
      have hmk := HMk.out
      have hr0 := World.rowIs_made w3 (.int .u8 0) n 5
      have hz := zeros_bytes hr0
      have hbm := (Below.refl w3.heap.size w3).alloc (Nat.le_refl _) (.cells (madeCells #[Value.int IntKind.u8 0] n) 5)
      have HZ := Lib.hid hz
      have HBM := Lib.hid hbm
      clear hz hr0 hbm
      go_wp2_with fail
      clear hmk
      refine (do_yes k hlt row (List.replicate n 0) (by have := HN.out; omega) a (some ⟨w3.heap.size, 0, none⟩) n n ca n HN.out (by rw [List.length_replicate]) (.inr rfl) d ⟨hd1, hd8⟩ _ ((HR.out.keep HB3.out).keep HBM.out) HZ.out).mono ?_
      rintro e w4 ⟨ao4, cap4, rfl, hb4, hby4, hcap4, hcm4, _⟩
      rw [do_zeros] at hby4
      have hl4 : (doV k row (List.replicate n 0) d).length = n := by rw [doV_length]; exact HN.out.symm
      rw [hl4]
      have hb34 := chain HBM.out hb4
      have e1 := run_str ao3 n cap3 (doV k row [] d) HL3.out.symm w4 (HBY3.out.keep hb34)
      have e2 := run_str ao4 n cap4 (doV k row [] d) HL3.out.symm w4 hby4
      obtain ⟨str, hstr⟩ : ∃ s : ByteArray, s = ⟨(doV k row [] d).toArray⟩ := ⟨_, rfl⟩
      rw [← hstr] at e1 e2
      have hss : (str != str) = false := by unfold bne; rw [str_refl]; rfl
      have HB4 := Lib.hid (chain HB3.out hb34)
      have HB24 := Lib.hid (chain HB23.out hb34)
      clear hstr hby4 hb4 hb34 hl4
      go_wp2_with fail
      go_roundw
      case rel => exact ⟨k + 1, by omega, by go_num, HB4.out, HB24.out⟩
      case measure => simp [intOf]; omega
    · obtain rfl : k = 5 := by omega
      have HBel := Lib.hid hbel
      have HBel2 := Lib.hid hbel2
      clear hbel hbel2
      go_wp2_with fail
      refine (best_yes row above (by have := HN.out; omega) a b n m ca cb HN.out HM.out (.inr HMA.out) d ⟨hd1, hd8⟩ wr (HR.out.keep HBel.out) (HA.out.keep HBel.out)).mono ?_
      rintro e w3 ⟨rfl, hb3⟩
      have HB3 := Lib.hid (chain HBel.out hb3)
      have HB23 := Lib.hid (chain HBel2.out hb3)
      clear hb3
      have HI := Lib.hid (best_is (left row above d))
      have HLL := Lib.hid (fun k => (show weightV (doV k row above d) = left row above d k from rfl))
      have HLE := Lib.hid (fun k => left_le row above d k)
      have hbest5 := HI.out.1
      have HBI := Lib.hid HI.out.2
      generalize bestV (left row above d) = best at *
      have HC := Lib.hid (fun (k : Nat) (hk : k < 5) (wr : World) (hbel : Below w.heap.size w wr) => cost_any k hk row above (by have := HN.out; omega) a b n m ca cb HN.out HM.out (.inr HMA.out) HNil.out d ⟨hd1, hd8⟩ wr (HR.out.keep hbel) (HA.out.keep hbel))
      go_wp2_with fail
      refine (HC.out best hbest5 w3 HB3.out).mono ?_
      rintro e w4 ⟨rfl, hb4⟩
      rw [HLL.out]
      obtain ⟨least, hle⟩ : ∃ x, x = left row above d best := ⟨_, rfl⟩
      rw [← hle]
      have HLeast := Lib.hid hle
      have HB4 := Lib.hid (chain HB3.out hb4)
      have HB24 := Lib.hid (chain HB23.out hb4)
      clear hb4 hle
      have e1 := fun wr hbel => run_str ao2 n cap2 row HN.out wr (HBY2.out.keep hbel)
      have e2 := fun wr hbel => run_str a n ca row HN.out wr (HR.out.keep hbel)
      have hss := str_refl ⟨row.toArray⟩
      obtain ⟨str, hstr⟩ : ∃ s : ByteArray, s = ⟨row.toArray⟩ := ⟨_, rfl⟩
      rw [← hstr] at e1 e2 hss
      have E1 := Lib.hid e1
      have E2 := Lib.hid e2
      clear e1 e2 hstr HI
      have hlb : least ≤ 128 * 2000 := by have := HLE.out best; have := HN.out; have := HLeast.out; omega
      go_wp2_with fail
      go_loopw [17, 18] (fun i _ wr => ∃ k : Nat, k ≤ 5 ∧ i = .int .i64 k ∧ Below w.heap.size w wr ∧ Below w2.heap.size w2 wr) (fun i _ _ => 5 - (intOf i).toNat)
      case atStart => exact ⟨0, by omega, rfl, HB4.out, HB24.out⟩
      case round =>
        obtain ⟨k, hk, rfl, hbel, hbel2⟩ := hrel
        have HBk := Lib.hid hbel
        have HBk2 := Lib.hid hbel2
        clear hbel hbel2
        by_cases hlt : k < 5
        · have hlk := HLE.out k
          have hge := HBI.out.1 k hlt
          have hgt := HBI.out.2 k
          rw [← HLeast.out] at hge hgt
          go_wp2_with fail
          refine (HC.out k hlt wr HBk.out).mono ?_
          rintro e w5 ⟨rfl, hb5⟩
          rw [HLL.out]
          generalize left row above d k = c at *
          have HB5 := Lib.hid (chain HBk.out hb5)
          have HB25 := Lib.hid (chain HBk2.out hb5)
          clear hb5
          have hcase : (¬ (c : Int) < least ∧ ((c : Int) == least) = false) ∨ (¬ (c : Int) < least ∧ ((c : Int) == least) = true ∧ ¬ (k : Int) < best) := by
            rw [beq_eq_false_iff_ne, beq_iff_eq]
            omega
          clear hgt hge
          rcases hcase with ⟨g1, g2⟩ | ⟨g1, g2, g3⟩
          all_goals
            go_wp2_with fail
            go_roundw
            case rel => exact ⟨k + 1, by omega, by go_num, HB5.out, HB25.out⟩
            case measure => simp [intOf]; omega
        · obtain rfl : k = 5 := by omega
          have e1 := E1.out wr HBk2.out
          have e2 := E2.out wr HBk.out
          go_wp2_with fail
          go_ret
          exact ⟨rfl, HBk.out⟩
set_option maxRecDepth 100000 in
theorem none_big (a b : Option Addr) (ca cb n m : Nat) (hn : n ≤ maxLen) (h : 2000 < n ∨ m ≠ n) (n0 : Int) (w : World) :
    Calls Try.prog 6 #[.slice a n ca, .slice b m cb, .int .u8 n0] w fun e w' => e = .returned (.bool true) ∧ Below w.heap.size w w' := by
  unfold maxLen at hn
  have hcase : 2000 < n ∨ (¬ 2000 < n ∧ ((m : Int) != (n : Int)) = true) := by
    rw [bne_iff_ne]; omega
  clear h
  rcases hcase with h1 | ⟨h1, h2⟩
  all_goals
    go_enter Try.func6, Try.ntmps6
    go_wp2_with fail
    refine (awake_any _).mono ?_
    rintro e w1 ⟨rfl, hb1⟩
    have HB1 := Lib.hid hb1
    clear hb1
    go_wp2_with fail
    go_ret
    exact ⟨rfl, HB1.out⟩
theorem none_any (a b : Option Addr) (ca cb : Nat) (row above : List UInt8) (hr : row.length ≤ maxLen) (hnil : a = none → ca = 0) (n0 : Nat) (hn0 : n0 < 256) (w : World) (hbr : Bytes w a row) (hba : Bytes w b above) :
    Calls Try.prog 6 #[.slice a row.length ca, .slice b above.length cb, .int .u8 n0] w fun e w' => e = .returned (.bool true) ∧ Below w.heap.size w w' := by
  by_cases h : 2000 < row.length ∨ above.length ≠ row.length
  · exact none_big a b ca cb _ _ hr h n0 w
  · exact none_small a b ca cb _ _ row above rfl rfl (by omega) (by omega) hnil n0 hn0 w hbr hba
end Go.Proofs.Ytfkhdakeojhpaaa.Fi
