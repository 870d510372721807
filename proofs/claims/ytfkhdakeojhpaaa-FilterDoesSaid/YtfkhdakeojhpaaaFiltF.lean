/- Contracts of weight, cost and the two Best. Condition: bytes lie at the slices. -/
import Derived.Test.YtfkhdakeojhpaaaFiltD
import Derived.WalkSpells
namespace Go.Proofs.Ytfkhdakeojhpaaa.Fi
open Go.RowKit Ba

/-- How great a byte is, as a number with a sign. -/
def wt (x : UInt8) : Nat := if x.toNat < 128 then x.toNat else 256 - x.toNat
def sx (x : Nat) : Int := if x < 128 then (x : Int) else (x : Int) - 256
def wsum (l : List UInt8) : Nat → Nat
  | 0 => 0
  | k + 1 => wsum l k + wt (l.getD k 0)
theorem wt_le (x : UInt8) : wt x ≤ 128 := by
  have := x.toNat_lt
  unfold wt; split <;> omega
theorem wsum_le (l : List UInt8) (k : Nat) : wsum l k ≤ 128 * k := by
  induction k with
  | zero => exact Nat.le_refl _
  | succ k ih => unfold wsum; have := wt_le (l.getD k 0); omega
def weightV (l : List UInt8) : Nat := wsum l l.length
theorem i8_wrap (x : Nat) (h : x < 256) : IntKind.i8.wrap (x : Int) = sx x := by
  unfold sx IntKind.wrap
  simp [IntKind.bits, IntKind.signed]
  split <;> split <;> omega
theorem sx_off (x : UInt8) : offV (sx x.toNat) 0 = (wt x : Int) := by
  have := x.toNat_lt
  unfold offV sx wt
  split <;> split <;> omega
/-- The first least of five. -/
def bst (c : Nat → Nat) : Nat → Nat × Int
  | 0 => (0, -1)
  | k + 1 => if (bst c k).2 < 0 ∨ (c k : Int) < (bst c k).2 then (k, (c k : Int)) else bst c k
def bestV (c : Nat → Nat) : Nat := (bst c 5).1
theorem bst_bound (c : Nat → Nat) (M k : Nat) (hc : ∀ i, c i ≤ M) : (bst c k).1 ≤ k ∧ -1 ≤ (bst c k).2 ∧ (bst c k).2 ≤ M := by
  induction k with
  | zero => unfold bst; exact ⟨Nat.le_refl _, by simp, by show (-1 : Int) ≤ _; omega⟩
  | succ k ih =>
    unfold bst
    split
    · exact ⟨by simp, by show (-1 : Int) ≤ ((c k : Nat) : Int); omega, Int.ofNat_le.2 (hc k)⟩
    · exact ⟨by omega, ih.2.1, ih.2.2⟩
theorem bst_is (c : Nat → Nat) (k : Nat) : 0 < k → (bst c k).1 < k ∧ (bst c k).2 = (c (bst c k).1 : Int) ∧ (∀ i, i < k → c (bst c k).1 ≤ c i) ∧ ∀ i, i < (bst c k).1 → c (bst c k).1 < c i := by
  induction k with
  | zero => intro h; omega
  | succ k ih =>
    intro _
    by_cases hk : k = 0
    · subst hk
      have e : bst c 1 = (0, (c 0 : Int)) := by unfold bst; rw [if_pos (.inl (by unfold bst; simp))]
      rw [e]
      exact ⟨by simp, rfl, fun i hi => by obtain rfl : i = 0 := by omega
                                          exact Nat.le_refl _, fun i hi => by simp at hi⟩
    · obtain ⟨h1, h2, h3, h4⟩ := ih (by omega)
      by_cases h : (bst c k).2 < 0 ∨ (c k : Int) < (bst c k).2
      · have e : bst c (k + 1) = (k, (c k : Int)) := by rw [bst, if_pos h]
        rw [e]
        have hlt : c k < c (bst c k).1 := by omega
        refine ⟨by simp, rfl, fun i hi => ?_, fun i hi => ?_⟩
        · by_cases hik : i = k
          · subst hik; exact Nat.le_refl _
          · have := h3 i (by omega); show c k ≤ c i; omega
        · have := h3 i hi; show c k < c i; omega
      · have e : bst c (k + 1) = bst c k := by rw [bst, if_neg h]
        rw [e]
        refine ⟨by omega, h2, fun i hi => ?_, h4⟩
        by_cases hik : i = k
        · subst hik; omega
        · exact h3 i (by omega)
theorem best_is (c : Nat → Nat) : bestV c < 5 ∧ (∀ i, i < 5 → c (bestV c) ≤ c i) ∧ ∀ i, i < bestV c → c (bestV c) < c i := by
  obtain ⟨h1, _, h3, h4⟩ := bst_is c 5 (by omega)
  exact ⟨h1, h3, h4⟩

set_option maxRecDepth 100000 in
set_option maxHeartbeats 800000 in
theorem weight_any (bs : List UInt8) (n : Nat) (hn : n = bs.length) (hl : n ≤ 4294967296) (a : Option Addr) (cap : Nat) (w : World) (hb : Bytes w a bs) :
    Calls Try.prog 23 #[.slice a n cap] w fun e w' => e = .returned (.int .i64 (weightV bs : Nat)) ∧ w = w' := by
  have HN := Lib.hid hn
  have HB := Lib.hid hb
  clear hn hb
  go_enter Try.func23, Try.ntmps23
  go_wp2_with fail
  go_loopw [3, 5, 8] (fun s _ i wr => ∃ j : Nat, j ≤ n ∧ i = .int .i64 j ∧ s = .int .i64 (wsum bs j : Nat) ∧ w = wr) (fun _ _ i _ => n - (intOf i).toNat)
  case atStart => exact ⟨0, by omega, rfl, rfl, rfl⟩
  case round =>
    obtain ⟨j, hj, rfl, rfl, rfl⟩ := hrel
    by_cases hlt : j < n
    · obtain ⟨b0, off0, rfl, hx⟩ := HB.out j (by have := HN.out; omega)
      have hs : wsum bs (j + 1) = wsum bs j + wt (bs[j]'(by have := HN.out; omega)) := by
        rw [wsum, List.getD_eq_getElem?_getD, List.getElem?_eq_getElem (by have := HN.out; omega)]; rfl
      have hsl := wsum_le bs j
      obtain ⟨x, hxe⟩ : ∃ x, x = bs[j]'(by have := HN.out; omega) := ⟨_, rfl⟩
      rw [← hxe] at hx hs
      have bx := x.toNat_lt
      have hi8 := i8_wrap x.toNat bx
      have hoff := sx_off x
      have hwt := wt_le x
      have hsx : -128 ≤ sx x.toNat ∧ sx x.toNat < 128 := by unfold sx; split <;> omega
      obtain ⟨hsx1, hsx2⟩ := hsx
      have hC := off_any (sx x.toNat) 0 (by omega) (by omega) w
      rw [hoff] at hC
      have HC := Lib.hid hC
      have HS := Lib.hid hs
      clear hC hs hoff hxe
      generalize sx x.toNat = s at *
      generalize x.toNat = xn at *
      generalize wt x = q at *
      generalize wsum bs j = p at *
      go_wp2_with fail
      refine HC.out.mono ?_
      rintro e w' ⟨rfl, rfl⟩
      go_wp2_with fail
      go_roundw
      case rel => exact ⟨j + 1, by omega, by go_num, by rw [HS.out]; go_num, trivial⟩
      case measure => simp [intOf]; omega
    · obtain rfl : j = n := by omega
      have e : wsum bs j = weightV bs := by rw [HN.out]; rfl
      rw [e]
      go_wp2_with fail
      go_ret
      exact ⟨rfl, rfl⟩

/-- The sum of what the bytes are away from nought. -/
theorem cost_cell (x : UInt8) (v : Int) (hv : v = (x.toNat : Nat)) : (if 256 - v < v then 256 - v else v) = (wt x : Int) := by
  subst hv
  have := x.toNat_lt
  unfold wt
  split <;> split <;> omega
set_option maxRecDepth 100000 in
set_option maxHeartbeats 1600000 in
theorem cost_any (k : Nat) (hk : k < 5) (row above : List UInt8) (hr : row.length ≤ 4294967296) (a b : Option Addr) (n m ca cb : Nat) (hn : n = row.length) (hm : m = above.length) (hma : m = 0 ∨ m = n) (hnil : a = none → ca = 0) (d : Nat) (hd : 1 ≤ d ∧ d ≤ 8) (w : World) (hbr : Bytes w a row) (hba : Bytes w b above) :
    Calls Try.prog 17 #[.int .i64 (k : Nat), .slice a n ca, .slice b m cb, .int .i64 (d : Nat)] w fun e w' => e = .returned (.int .i64 (weightV (doV k row above d) : Nat)) ∧ Below w.heap.size w w' := by
  have H := Lib.hid (doRef_yes k hk row above (by omega) a b n m ca cb hn hm hma hnil d hd w hbr hba)
  have hl : (doV k row above d).length = n := by rw [doV_length]; omega
  have hnb : n ≤ 4294967296 := by omega
  clear hd hm hma hbr hba hnil hn hk hr
  generalize doV k row above d = bs at *
  subst hl
  go_enter Try.func17, Try.ntmps17
  go_wp2_with fail
  refine H.out.mono ?_
  rintro e w1 ⟨ao, cap, rfl, hb1, hby, hcap, hcm, _⟩
  clear H
  have HB1 := Lib.hid hb1
  have HBY := Lib.hid hby
  clear hb1 hby
  go_wp2_with fail
  go_loopw [11, 12] (fun s i wr => ∃ j : Nat, j ≤ bs.length ∧ i = .int .i64 j ∧ s = .int .i64 (wsum bs j : Nat) ∧ Below w1.heap.size w1 wr) (fun _ i _ => bs.length - (intOf i).toNat)
  case atStart => exact ⟨0, by omega, rfl, rfl, Below.refl _ _⟩
  case round =>
    obtain ⟨j, hj, rfl, rfl, hbel⟩ := hrel
    by_cases hlt : j < bs.length
    · obtain ⟨b0, off0, rfl, hx⟩ := (HBY.out.keep hbel) j hlt
      have hs : wsum bs (j + 1) = wsum bs j + wt bs[j] := by
        rw [wsum, List.getD_eq_getElem?_getD, List.getElem?_eq_getElem hlt]; rfl
      have hsl := wsum_le bs j
      obtain ⟨x, hxe⟩ : ∃ x, x = bs[j] := ⟨_, rfl⟩
      rw [← hxe] at hx hs
      have bx := x.toNat_lt
      have hC := fun v hv => cost_cell x v hv
      have hwt := wt_le x
      have HC := Lib.hid hC
      have HS := Lib.hid hs
      have HBel := Lib.hid hbel
      clear hC hs hxe hbel
      go_wp2_with fail
      go_region
      all_goals
        rw [HC.out _ rfl]
        go_wp2_with fail
        go_roundw
        case rel => exact ⟨j + 1, by omega, by go_num, by rw [HS.out]; go_num, HBel.out.drew⟩
        case measure => simp [intOf]; omega
    · obtain rfl : j = bs.length := by omega
      have HBel := Lib.hid hbel
      clear hbel
      go_wp2_with fail
      go_ret
      exact ⟨rfl, chain HB1.out HBel.out⟩

/-- What a filter leaves, as a number. -/
def left (row above : List UInt8) (d k : Nat) : Nat := weightV (doV k row above d)
theorem left_le (row above : List UInt8) (d k : Nat) : left row above d k ≤ 128 * row.length := by
  have := wsum_le (doV k row above d) (doV k row above d).length
  rw [doV_length] at this
  unfold left weightV
  rw [doV_length]
  exact this
set_option maxRecDepth 100000 in
set_option maxHeartbeats 1600000 in
theorem best_yes (row above : List UInt8) (hr : row.length ≤ 1000000) (a b : Option Addr) (n m ca cb : Nat) (hn : n = row.length) (hm : m = above.length) (hma : m = 0 ∨ m = n) (d : Nat) (hd : 1 ≤ d ∧ d ≤ 8) (w : World) (hbr : Bytes w a row) (hba : Bytes w b above) :
    Calls Try.prog 15 #[.slice a n ca, .slice b m cb, .int .i64 (d : Nat)] w fun e w' => e = .returned (.int .i64 (bestV (left row above d) : Nat)) ∧ Below w.heap.size w w' := by
  have HD := Lib.hid (fun (k : Nat) (hk : k < 5) (wr : World) (hbel : Below w.heap.size w wr) => do_yes k hk row above (by omega) a b n m ca cb hn hm hma d hd wr (hbr.keep hbel) (hba.keep hbel))
  have HL := Lib.hid (fun k => left_le row above d k)
  have HLen := Lib.hid (fun k => (show (doV k row above d).length = n by rw [doV_length]; exact hn.symm))
  have hnb : n ≤ 1000000 := by omega
  have hLe := Lib.hid (fun k => (show weightV (doV k row above d) = left row above d k from rfl))
  have HN := Lib.hid hn
  have hb0 := Below.refl w.heap.size w
  clear hbr hba hma hm hn hd
  go_enter Try.func15, Try.ntmps15
  go_wp2_with fail
  go_loopw [7, 8, 9, 10, 11, 12, 13] (fun best least _ _ _ _ i wr => ∃ k : Nat, k ≤ 5 ∧ i = .int .i64 k ∧ best = .int .i64 ((bst (left row above d) k).1 : Nat) ∧ least = .int .i64 (bst (left row above d) k).2 ∧ Below w.heap.size w wr) (fun _ _ _ _ _ _ i _ => 5 - (intOf i).toNat)
  case atStart => exact ⟨0, by omega, rfl, rfl, rfl, hb0⟩
  case round =>
    obtain ⟨k, hk, rfl, rfl, rfl, hbel⟩ := hrel
    clear hb0
    have hB := bst_bound (left row above d) (128 * row.length) k HL.out
    by_cases hlt : k < 5
    · have HBel := Lib.hid hbel
      have hx := HL.out k
      have hbs : bst (left row above d) (k + 1) = if (bst (left row above d) k).2 < 0 ∨ ((left row above d k : Nat) : Int) < (bst (left row above d) k).2 then (k, ((left row above d k : Nat) : Int)) else bst (left row above d) k := rfl
      have HBS := Lib.hid hbs
      obtain ⟨x, hxe⟩ : ∃ x, x = left row above d k := ⟨_, rfl⟩
      obtain ⟨bb, hbb⟩ : ∃ x, x = bst (left row above d) k := ⟨_, rfl⟩
      rw [← hxe] at hx
      rw [← hbb] at hB
      have HXE := Lib.hid hxe
      have HBB := Lib.hid hbb
      rw [← hbb]
      clear hbs hbel hxe hbb
      obtain ⟨bv, lv⟩ := bb
      obtain ⟨hB1, hB2, hB3⟩ := hB
      simp only at hB1 hB2 hB3 ⊢
      have hxb : x ≤ 128000000 := by have := HN.out; omega
      have hlb : lv ≤ 128000000 := by have := HN.out; omega
      clear hB3 hx
      have hcase : lv < 0 ∨ (¬ lv < 0 ∧ (x : Int) < lv) ∨ (¬ lv < 0 ∧ ¬ (x : Int) < lv) := by omega
      go_wp2_with fail
      refine (HD.out k hlt wr HBel.out).mono ?_
      rintro e w2 ⟨ao2, cap2, rfl, hb2, hby2, hcap2, hcm2, _⟩
      have hW := weight_any (doV k row above d) n (HLen.out k).symm (by omega) ao2 cap2 w2 hby2
      rw [hLe.out k, ← HXE.out] at hW
      rw [HLen.out k]
      have HW := Lib.hid hW
      have HB2 := Lib.hid (chain HBel.out hb2)
      clear hW hb2 hby2
      go_wp2_with fail
      refine HW.out.mono ?_
      rintro e w' ⟨rfl, rfl⟩
      rcases hcase with h1 | ⟨h1, h2⟩ | ⟨h1, h2⟩
      · have hE : bst (left row above d) (k + 1) = (k, (x : Int)) := by rw [HBS.out, ← HBB.out, ← HXE.out, if_pos (.inl h1)]
        have HE := Lib.hid hE
        clear hE
        go_wp2_with fail
        go_roundw
        case rel => exact ⟨k + 1, by omega, by go_num, by rw [HE.out], by rw [HE.out], HB2.out⟩
        case measure => simp [intOf]; omega
      · have hE : bst (left row above d) (k + 1) = (k, (x : Int)) := by rw [HBS.out, ← HBB.out, ← HXE.out, if_pos (.inr h2)]
        have HE := Lib.hid hE
        clear hE
        go_wp2_with fail
        go_roundw
        case rel => exact ⟨k + 1, by omega, by go_num, by rw [HE.out], by rw [HE.out], HB2.out⟩
        case measure => simp [intOf]; omega
      · have hE : bst (left row above d) (k + 1) = (bv, lv) := by rw [HBS.out, ← HBB.out, ← HXE.out, if_neg (by simp only; omega)]
        have HE := Lib.hid hE
        clear hE
        go_wp2_with fail
        go_roundw
        case rel => exact ⟨k + 1, by omega, by go_num, by rw [HE.out], by rw [HE.out], HB2.out⟩
        case measure => simp [intOf]; omega
    · obtain rfl : k = 5 := by omega
      have HBel := Lib.hid hbel
      clear hbel
      go_wp2_with fail
      go_ret
      exact ⟨rfl, HBel.out⟩
end Go.Proofs.Ytfkhdakeojhpaaa.Fi
