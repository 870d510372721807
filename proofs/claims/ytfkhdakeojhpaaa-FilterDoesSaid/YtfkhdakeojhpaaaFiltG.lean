/- Contracts of the reference's Best, and of both Best where a row may not be filtered. Condition: bytes lie at the slices. -/
import Derived.Test.YtfkhdakeojhpaaaFiltF
namespace Go.Proofs.Ytfkhdakeojhpaaa.Fi
open Go.RowKit Ba

theorem abs_cell (x : UInt8) (v : Int) (hv : v = sx x.toNat) : (if v < -v then -v else v) = (wt x : Int) := by
  subst hv
  have := x.toNat_lt
  unfold wt sx
  split <;> split <;> omega

set_option maxRecDepth 100000 in
set_option maxHeartbeats 3200000 in
theorem bestRef_yes (row above : List UInt8) (hr : row.length ≤ 1000000) (a b : Option Addr) (n m ca cb : Nat) (hn : n = row.length) (hm : m = above.length) (hma : m = 0 ∨ m = n) (hnil : a = none → ca = 0) (d : Nat) (hd : 1 ≤ d ∧ d ≤ 8) (w : World) (hbr : Bytes w a row) (hba : Bytes w b above) :
    Calls Try.prog 16 #[.slice a n ca, .slice b m cb, .int .i64 (d : Nat)] w fun e w' => e = .returned (.int .i64 (bestV (left row above d) : Nat)) ∧ Below w.heap.size w w' := by
  have HD := Lib.hid (fun (k : Nat) (hk : k < 5) (wr : World) (hbel : Below w.heap.size w wr) => doRef_yes k hk row above (by omega) a b n m ca cb hn hm hma hnil d hd wr (hbr.keep hbel) (hba.keep hbel))
  have HL := Lib.hid (fun k => left_le row above d k)
  have HLen := Lib.hid (fun k => (show (doV k row above d).length = n by rw [doV_length]; exact hn.symm))
  have hnb : n ≤ 1000000 := by omega
  have hLe := Lib.hid (fun k => (show weightV (doV k row above d) = left row above d k from rfl))
  have HN := Lib.hid hn
  have hb0 := Below.refl w.heap.size w
  clear hbr hba hma hm hn hd hnil
  go_enter Try.func16, Try.ntmps16
  go_wp2_with fail
  go_loopw [7, 8, 9, 10, 11, 12, 13, 14] (fun best least i _ _ _ _ _ wr => ∃ k : Nat, k ≤ 5 ∧ i = .int .i64 k ∧ best = .int .i64 ((bst (left row above d) k).1 : Nat) ∧ least = .int .i64 (bst (left row above d) k).2 ∧ Below w.heap.size w wr) (fun _ _ i _ _ _ _ _ _ => 5 - (intOf i).toNat)
  case atStart => exact ⟨0, by omega, rfl, rfl, rfl, hb0⟩
  case round =>
    obtain ⟨k, hk, rfl, rfl, rfl, hbel⟩ := hrel
    clear hb0
    have hB := bst_bound (left row above d) (128 * row.length) k HL.out
    by_cases hlt : k < 5
    · have HBel := Lib.hid hbel
      have hx := HL.out k
      have hbs : bst (left row above d) (k + 1) = if (bst (left row above d) k).2 < 0 ∨ ((left row above d k : Nat) : Int) < (bst (left row above d) k).2 then (k, ((left row above d k : Nat) : Int)) else bst (left row above d) k := rfl
      have HBS := Lib.hid hbs
      obtain ⟨x, hxe⟩ : ∃ x, x = left row above d k := ⟨_, rfl⟩
      obtain ⟨bb, hbb⟩ : ∃ x, x = bst (left row above d) k := ⟨_, rfl⟩
      rw [← hxe] at hx
      rw [← hbb] at hB
      have HXE := Lib.hid hxe
      have HBB := Lib.hid hbb
      rw [← hbb]
      clear hbs hbel hxe hbb
      obtain ⟨bv, lv⟩ := bb
      obtain ⟨hB1, hB2, hB3⟩ := hB
      simp only at hB1 hB2 hB3 ⊢
      have hxb : x ≤ 128000000 := by have := HN.out; omega
      have hlb : lv ≤ 128000000 := by have := HN.out; omega
      clear hB3 hx
      have hcase : lv < 0 ∨ (¬ lv < 0 ∧ (x : Int) < lv) ∨ (¬ lv < 0 ∧ ¬ (x : Int) < lv) := by omega
      go_wp2_with fail
      refine (HD.out k hlt wr HBel.out).mono ?_
      rintro e w2 ⟨ao2, cap2, rfl, hb2, hby2, hcap2, hcm2, _⟩
      have hll := HLen.out k
      have hww : wsum (doV k row above d) n = x := by rw [HXE.out, ← hLe.out k]; unfold weightV; rw [hll]
      obtain ⟨bs, hbs⟩ : ∃ bs, bs = doV k row above d := ⟨_, rfl⟩
      rw [← hbs] at hll hww hby2
      rw [← hbs]
      rw [hll]
      have HLL := Lib.hid hll
      have HBY := Lib.hid hby2
      have HB2 := Lib.hid (chain HBel.out hb2)
      have HWW := Lib.hid hww
      clear hb2 hby2 hll hbs hww
      go_wp2_with fail
      go_loopw [12, 13, 14] (fun s i _ w' => ∃ j : Nat, j ≤ n ∧ i = .int .i64 j ∧ s = .int .i64 (wsum bs j : Nat) ∧ Below w2.heap.size w2 w') (fun _ i _ _ => n - (intOf i).toNat)
      case atStart => exact ⟨0, by omega, rfl, rfl, Below.refl _ _⟩
      case round =>
        obtain ⟨j, hj, rfl, rfl, hbel⟩ := hrel
        by_cases hltj : j < n
        · have hltb : j < bs.length := by have := HLL.out; omega
          obtain ⟨b0, off0, rfl, hx⟩ := (HBY.out.keep hbel) j hltb
          have hs : wsum bs (j + 1) = wsum bs j + wt bs[j] := by
            rw [wsum, List.getD_eq_getElem?_getD, List.getElem?_eq_getElem hltb]; rfl
          have hsl := wsum_le bs j
          obtain ⟨y, hye⟩ : ∃ x, x = bs[j] := ⟨_, rfl⟩
          rw [← hye] at hx hs
          have bx := y.toNat_lt
          have hC := fun v hv => abs_cell y v hv
          have hi8 := i8_wrap y.toNat bx
          have hsx : -128 ≤ sx y.toNat ∧ sx y.toNat < 128 := by unfold sx; split <;> omega
          obtain ⟨hsx1, hsx2⟩ := hsx
          have hwt := wt_le y
          have HC := Lib.hid hC
          have HS := Lib.hid hs
          have HBl := Lib.hid hbel
          clear hC hs hye hbel
          obtain ⟨sv, hsv⟩ : ∃ v, v = sx y.toNat := ⟨_, rfl⟩
          rw [← hsv] at hi8 hsx1 hsx2
          have HSV := Lib.hid hsv
          clear hsv hltb
          go_wp2_with fail
          rw [HC.out sv HSV.out]
          refine ⟨⟨j + 1, by omega, by go_num, by rw [HS.out]; go_num, HBl.out⟩, ?_⟩
          simp [intOf]
          omega
        · obtain rfl : j = n := by omega
          have HBl := Lib.hid (chain HB2.out hbel)
          rw [HWW.out]
          clear hbel
          rcases hcase with h1 | ⟨h1, h2⟩ | ⟨h1, h2⟩
          · have hE : bst (left row above d) (k + 1) = (k, (x : Int)) := by rw [HBS.out, ← HBB.out, ← HXE.out, if_pos (.inl h1)]
            have HE := Lib.hid hE
            clear hE
            go_wp2_with fail
            go_roundw
            case rel => exact ⟨k + 1, by omega, by go_num, by rw [HE.out], by rw [HE.out], HBl.out⟩
            case measure => simp [intOf]; omega
          · have hE : bst (left row above d) (k + 1) = (k, (x : Int)) := by rw [HBS.out, ← HBB.out, ← HXE.out, if_pos (.inr h2)]
            have HE := Lib.hid hE
            clear hE
            go_wp2_with fail
            go_roundw
            case rel => exact ⟨k + 1, by omega, by go_num, by rw [HE.out], by rw [HE.out], HBl.out⟩
            case measure => simp [intOf]; omega
          · have hE : bst (left row above d) (k + 1) = (bv, lv) := by rw [HBS.out, ← HBB.out, ← HXE.out, if_neg (by simp only; omega)]
            have HE := Lib.hid hE
            clear hE
            go_wp2_with fail
            go_roundw
            case rel => exact ⟨k + 1, by omega, by go_num, by rw [HE.out], by rw [HE.out], HBl.out⟩
            case measure => simp [intOf]; omega
    · obtain rfl : k = 5 := by omega
      have HBel := Lib.hid hbel
      clear hbel
      go_wp2_with fail
      go_ret
      exact ⟨rfl, HBel.out⟩

set_option maxRecDepth 100000 in
set_option maxHeartbeats 800000 in
theorem bestRef_no (d : Int) (a b : Option Addr) (n m ca cb : Nat) (h : ∀ k : Int, ¬ MayV k n m d) (w : World) :
    Calls Try.prog 16 #[.slice a n ca, .slice b m cb, .int .i64 d] w fun e w' => e = .returned (.int .i64 0) ∧ Below w.heap.size w w' := by
  have H := Lib.hid (fun k w => doRef_no k d a b n m ca cb (h k) w)
  clear h
  go_enter Try.func16, Try.ntmps16
  go_wp2_with fail
  go_loopw [7, 8, 9, 10, 11, 12, 13, 14] (fun best least i _ _ _ _ _ wr => i = .int .i64 0 ∧ w = wr) (fun _ _ i _ _ _ _ _ _ => 0)
  case atStart => exact ⟨rfl, rfl⟩
  case round =>
    obtain ⟨rfl, rfl⟩ := hrel
    go_wp2_with fail
    refine (H.out 0 w).mono ?_
    rintro e w' ⟨rfl, rfl⟩
    go_wp2_with fail
    go_ret
    exact ⟨rfl, Below.refl _ _⟩
set_option maxRecDepth 100000 in
set_option maxHeartbeats 800000 in
theorem best_no (d : Int) (a b : Option Addr) (n m ca cb : Nat) (h : ∀ k : Int, ¬ MayV k n m d) (w : World) :
    Calls Try.prog 15 #[.slice a n ca, .slice b m cb, .int .i64 d] w fun e w' => e = .returned (.int .i64 0) ∧ Below w.heap.size w w' := by
  have H := Lib.hid (fun k w => do_no k d a b n m ca cb (h k) w)
  clear h
  go_enter Try.func15, Try.ntmps15
  go_wp2_with fail
  go_loopw [7, 8, 9, 10, 11, 12, 13] (fun best least _ _ _ _ i wr => ∃ k : Nat, k ≤ 5 ∧ i = .int .i64 k ∧ best = .int .i64 0 ∧ least = .int .i64 (if k = 0 then -1 else 0) ∧ w = wr) (fun _ _ _ _ _ _ i _ => 5 - (intOf i).toNat)
  case atStart => exact ⟨0, by omega, rfl, rfl, rfl, rfl⟩
  case round =>
    obtain ⟨k, hk, rfl, rfl, rfl, rfl⟩ := hrel
    have hW := weight_any [] 0 rfl (by omega) none 0 w (Bytes.nil _ _)
    have HW : Hid (Calls Try.prog 23 #[.slice none 0 0] w fun e w' => e = .returned (.int .i64 0) ∧ w = w') := hW
    clear hW
    by_cases hlt : k < 5
    · by_cases h0 : k = 0
      · subst h0
        rw [if_pos rfl]
        go_wp2_with fail
        refine (H.out 0 w).mono ?_
        rintro e w' ⟨rfl, rfl⟩
        go_wp2_with fail
        refine HW.out.mono ?_
        rintro e w' ⟨rfl, rfl⟩
        go_wp2_with fail
        go_roundw
        case rel => exact ⟨1, by omega, by go_num, rfl, rfl, trivial⟩
        case measure => simp [intOf]
      · rw [if_neg h0]
        go_wp2_with fail
        refine (H.out k w).mono ?_
        rintro e w' ⟨rfl, rfl⟩
        go_wp2_with fail
        refine HW.out.mono ?_
        rintro e w' ⟨rfl, rfl⟩
        go_wp2_with fail
        go_roundw
        case rel => exact ⟨k + 1, by omega, by go_num, rfl, by rw [if_neg (by omega)], trivial⟩
        case measure => simp [intOf]; omega
    · obtain rfl : k = 5 := by omega
      go_wp2_with fail
      go_ret
      exact ⟨rfl, Below.refl _ _⟩
end Go.Proofs.Ytfkhdakeojhpaaa.Fi
