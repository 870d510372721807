/- Contracts of Do and Undo of the program. Condition: bytes lie at the slices. -/
import Derived.Test.YtfkhdakeojhpaaaFiltA
import Derived.Test.YtfkhdakeojhpaaaOwn
import Derived.Deep.RegionWith
namespace Go.Proofs.Ytfkhdakeojhpaaa.Fi
open Go.RowKit Ba

/-- A slice of bytes and a bool are handed back; older memory is as it was. -/
def Res (bs : List UInt8) (ok : Bool) (w : World) (e : Ending) (w' : World) : Prop :=
  ∃ ao cap, e = .returned (.tuple #[.slice ao bs.length cap, .bool ok]) ∧ Below w.heap.size w w' ∧ Bytes w' ao bs ∧ bs.length ≤ cap ∧ cap ≤ maxLen ∧ (ao = none → cap = 0)
/-- A row of bytes, as far as it has been made. -/
def fillF (L : Nat → UInt8) (k j : Nat) : Value := if j < k then cellOf (L j) else .int .u8 0
theorem fillF_next (L : Nat → UInt8) (k j : Nat) : (if j = k then cellOf (L k) else fillF L k j) = fillF L (k + 1) j := by
  unfold fillF
  by_cases h : j = k
  · subst h; rw [if_pos rfl, if_pos (by omega)]
  · rw [if_neg h]
    by_cases h2 : j < k
    · rw [if_pos h2, if_pos (by omega)]
    · rw [if_neg h2, if_neg (by omega)]
def fillL (L : Nat → UInt8) (k n : Nat) : List UInt8 := (List.range n).map fun j => if j < k then L j else 0
theorem fillL_length (L : Nat → UInt8) (k n : Nat) : (fillL L k n).length = n := by simp [fillL]
theorem fillL_at (L : Nat → UInt8) (k n j : Nat) (hj : j < k) (hn : j < n) : (fillL L k n).getD j 0 = L j := by
  unfold fillL
  rw [List.getD_eq_getElem?_getD, List.getElem?_map, List.getElem?_range hn]
  show (if j < k then L j else 0) = _
  rw [if_pos hj]
theorem fill_bytes {w : World} {g n : Nat} {t : TypeId} {L : Nat → UInt8} {k : Nat} (h : w.rowIs g t n (fillF L k)) : Bytes w (some ⟨g, 0, none⟩) (fillL L k n) :=
  row_bytes h _ (by rw [fillL_length]; exact Nat.le_refl _) (fun i hi => by
    unfold fillF
    have hi' : i < n := by rw [fillL_length] at hi; exact hi
    have e : (fillL L k n)[i] = if i < k then L i else 0 := by
      have h2 : (fillL L k n)[i]? = some (if i < k then L i else 0) := by
        unfold fillL
        rw [List.getElem?_map, List.getElem?_range hi']
        rfl
      rw [List.getElem?_eq_getElem hi] at h2
      exact Option.some.inj h2
    rw [e]
    split <;> rfl)
theorem fill_done {w : World} {g n : Nat} {t : TypeId} {bs : List UInt8} (hl : bs.length = n) (h : w.rowIs g t n (fillF (fun j => bs.getD j 0) n)) : Bytes w (some ⟨g, 0, none⟩) bs :=
  row_bytes h _ (by omega) (fun i hi => by
    unfold fillF
    rw [if_pos (by omega)]
    show cellOf (bs.getD i 0) = _
    rw [List.getD_eq_getElem?_getD, List.getElem?_eq_getElem hi]
    rfl)

set_option maxRecDepth 100000 in
theorem do_no (k d : Int) (a b : Option Addr) (n m ca cb : Nat) (h : ¬ MayV k n m d) (w : World) :
    Calls Try.prog 8 #[.int .i64 k, .slice a n ca, .slice b m cb, .int .i64 d] w fun e w' => e = .returned (.tuple #[.slice none 0 0, .bool false]) ∧ w = w' := by
  have H := Lib.hid (may_no k d a b n m ca cb h w)
  clear h
  go_enter Try.func8, Try.ntmps8
  go_wp2_with fail
  refine H.out.mono ?_
  rintro e w' ⟨rfl, rfl⟩
  go_wp2_with fail
  go_ret2
  exact ⟨rfl, rfl⟩
set_option maxRecDepth 100000 in
theorem undo_no (k d : Int) (a b : Option Addr) (n m ca cb : Nat) (h : ¬ MayV k n m d) (w : World) :
    Calls Try.prog 9 #[.int .i64 k, .slice a n ca, .slice b m cb, .int .i64 d] w fun e w' => e = .returned (.tuple #[.slice none 0 0, .bool false]) ∧ w = w' := by
  have H := Lib.hid (may_no k d a b n m ca cb h w)
  clear h
  go_enter Try.func9, Try.ntmps9
  go_wp2_with fail
  refine H.out.mono ?_
  rintro e w' ⟨rfl, rfl⟩
  go_wp2_with fail
  go_ret2
  exact ⟨rfl, rfl⟩

set_option maxRecDepth 100000 in
set_option maxHeartbeats 800000 in
theorem do_yes (k : Nat) (hk : k < 5) (row above : List UInt8) (hr : row.length ≤ 140737488351232) (a b : Option Addr) (n m ca cb : Nat) (hn : n = row.length) (hm : m = above.length) (hma : m = 0 ∨ m = n) (d : Nat) (hd : 1 ≤ d ∧ d ≤ 8) (w : World) (hbr : Bytes w a row) (hba : Bytes w b above) :
    Calls Try.prog 8 #[.int .i64 (k : Nat), .slice a n ca, .slice b m cb, .int .i64 (d : Nat)] w (Res (doV k row above d) true w) := by
  have H := Lib.hid (may_yes k d a b n m ca cb ⟨⟨by omega, by omega⟩, ⟨by omega, by omega⟩, hma⟩ w)
  have ham : above.length ≤ 140737488351232 := by omega
  obtain ⟨hd1, hd2⟩ := hd
  have HN := Lib.hid hn
  have HM := Lib.hid hm
  have HBR := Lib.hid hbr
  have HBA := Lib.hid hba
  have hnb : n ≤ 140737488351232 := by omega
  clear hn hm hma hbr hba
  have hmk := run_make_row' (P := Try.prog) 22 5 (.int .u8 0) 1 Try.underlying22 info_u8 rfl .i64 .i64 n (by omega) (by omega)
  have hr0 := (World.rowIs_made w (.int .u8 0) n 5).congr (g := fillF (fun j => (doV k row above d).getD j 0) 0) (fun i _ => by simp [fillF])
  go_enter Try.func8, Try.ntmps8
  go_wp2_with fail
  refine H.out.mono ?_
  rintro e w' ⟨rfl, rfl⟩
  go_wp2_with fail
  clear hmk
  go_loopw [11, 12, 24] (fun _ _ i wr => ∃ j : Nat, j ≤ n ∧ i = .int .i64 j ∧ wr.rowIs w.heap.size 5 n (fillF (fun j => (doV k row above d).getD j 0) j) ∧ Below w.heap.size w wr) (fun _ _ i _ => n - (intOf i).toNat)
  case atStart => exact ⟨0, by omega, rfl, hr0, (Below.refl _ _).alloc (Nat.le_refl _) _⟩
  case round =>
    obtain ⟨j, hj, rfl, hrow, hbel⟩ := hrel
    clear hr0
    by_cases hlt : j < n
    · have hc := hrow.cell hlt
      have hf := hrow.frozen j
      have hsz : w.heap.size < wr.heap.size := hrow.lt
      have hBr := HBR.out.below HBR.out.old hbel
      have hBa := HBA.out.below HBA.out.old hbel
      have hT := told_any k hk row above hr ham a b n m ca cb HN.out HM.out d j hd2 (by omega) wr hBr hBa
      obtain ⟨t, ht⟩ : ∃ t, t = toldV k row above d j := ⟨_, rfl⟩
      rw [← ht] at hT
      have hjr : j < row.length := by have := HN.out; omega
      obtain ⟨b0, off0, rfl, hx⟩ := hBr j hjr
      obtain ⟨x, hxe⟩ : ∃ x, x = row[j] := ⟨_, rfl⟩
      rw [← hxe] at hx
      have hv : (doV k row above d).getD j 0 = x - t := by
        rw [doV_at _ _ _ _ _ hjr, ht, hxe, List.getD_eq_getElem?_getD, List.getElem?_eq_getElem hjr]; rfl
      have hw := sub_wrap x t
      have HNx : Hid (fillF (fun j => (doV k row above d).getD j 0) (j + 1) = fun i => if i = j then Value.int .u8 (((x - t).toNat : Nat) : Int) else fillF (fun j => (doV k row above d).getD j 0) j i) := funext fun i => by
        have := fillF_next (fun j => (doV k row above d).getD j 0) j i
        rw [← this]
        show (if i = j then cellOf ((doV k row above d).getD j 0) else _) = _
        rw [hv]
        rfl
      have bx := x.toNat_lt
      have bt := t.toNat_lt
      have HT := Lib.hid hT
      have HRow := Lib.hid hrow
      have HBel := Lib.hid hbel
      obtain ⟨old, hold⟩ : ∃ v, v = fillF (fun j => (doV k row above d).getD j 0) j j := ⟨_, rfl⟩
      rw [← hold] at hc
      clear hT hrow hbel hBr hBa ht hxe hv hjr hold
      generalize (x - t).toNat = y at *
      generalize x.toNat = xn at *
      generalize t.toNat = tn at *
      go_wp2_with fail
      refine HT.out.mono ?_
      rintro e w' ⟨rfl, rfl⟩
      go_wp2_with fail
      go_roundw
      case rel => exact ⟨j + 1, by omega, by go_num, by rw [HNx.out]; exact World.rowIs.set HRow.out j _, HBel.out.setCell (Nat.le_refl _) _⟩
      case measure => simp [intOf]; omega
    · obtain rfl : j = n := by omega
      have HRow := Lib.hid hrow
      have HBel := Lib.hid hbel
      clear hrow hbel
      go_wp2_with fail
      go_ret2
      have hl : (doV k row above d).length = j := by rw [doV_length, HN.out]
      refine ⟨some ⟨w.heap.size, 0, none⟩, j, by rw [hl]; rfl, HBel.out, fill_done hl HRow.out, by omega, by unfold maxLen; omega, fun h => by cases h⟩

set_option maxRecDepth 100000 in
set_option maxHeartbeats 800000 in
theorem undo_yes (k : Nat) (hk : k < 5) (row above : List UInt8) (hr : row.length ≤ 140737488351232) (a b : Option Addr) (n m ca cb : Nat) (hn : n = row.length) (hm : m = above.length) (hma : m = 0 ∨ m = n) (d : Nat) (hd : 1 ≤ d ∧ d ≤ 8) (w : World) (hbr : Bytes w a row) (hba : Bytes w b above) :
    Calls Try.prog 9 #[.int .i64 (k : Nat), .slice a n ca, .slice b m cb, .int .i64 (d : Nat)] w (Res (undoV k row above d) true w) := by
  have H := Lib.hid (may_yes k d a b n m ca cb ⟨⟨by omega, by omega⟩, ⟨by omega, by omega⟩, hma⟩ w)
  have ham : above.length ≤ 140737488351232 := by omega
  obtain ⟨hd1, hd2⟩ := hd
  have HN := Lib.hid hn
  have HM := Lib.hid hm
  have HBR := Lib.hid hbr
  have HBA := Lib.hid hba
  have hnb : n ≤ 140737488351232 := by omega
  clear hn hm hma hbr hba
  have hmk := run_make_row' (P := Try.prog) 22 5 (.int .u8 0) 1 Try.underlying22 info_u8 rfl .i64 .i64 n (by omega) (by omega)
  have hr0 := (World.rowIs_made w (.int .u8 0) n 5).congr (g := fillF (fun j => (undoV k row above d).getD j 0) 0) (fun i _ => by simp [fillF])
  go_enter Try.func9, Try.ntmps9
  go_wp2_with fail
  refine H.out.mono ?_
  rintro e w' ⟨rfl, rfl⟩
  go_wp2_with fail
  clear hmk
  go_loopw [11, 12, 24] (fun _ _ i wr => ∃ j : Nat, j ≤ n ∧ i = .int .i64 j ∧ wr.rowIs w.heap.size 5 n (fillF (fun j => (undoV k row above d).getD j 0) j) ∧ Below w.heap.size w wr) (fun _ _ i _ => n - (intOf i).toNat)
  case atStart => exact ⟨0, by omega, rfl, hr0, (Below.refl _ _).alloc (Nat.le_refl _) _⟩
  case round =>
    obtain ⟨j, hj, rfl, hrow, hbel⟩ := hrel
    clear hr0
    by_cases hlt : j < n
    · have hc := hrow.cell hlt
      have hf := hrow.frozen j
      have hsz : w.heap.size < wr.heap.size := hrow.lt
      have hBr := HBR.out.below HBR.out.old hbel
      have hBa := HBA.out.below HBA.out.old hbel
      have hjr : j < row.length := by have := HN.out; omega
      have hBo := fill_bytes hrow
      have hT := told_any k hk (fillL (fun j => (undoV k row above d).getD j 0) j n) above (by rw [fillL_length]; omega) ham (some ⟨w.heap.size, 0, none⟩) b n m n cb (by rw [fillL_length]) HM.out d j hd2 (by omega) wr hBo hBa
      obtain ⟨t, ht⟩ : ∃ t, t = toldV k (undoN k row above d j) above d j := ⟨_, rfl⟩
      have hte : toldV k (fillL (fun j => (undoV k row above d).getD j 0) j n) above d j = t := by
        rw [ht]
        refine told_congr _ _ _ _ _ _ hd1 fun i hi => ?_
        rw [fillL_at _ _ _ _ hi (by omega)]
        show (undoN k row above d row.length).getD i 0 = _
        rw [← undoN_take k row above d j row.length (by omega), List.getD_eq_getElem?_getD, List.getD_eq_getElem?_getD, List.getElem?_take, if_pos hi]
      rw [hte] at hT
      obtain ⟨b0, off0, rfl, hx⟩ := hBr j hjr
      obtain ⟨x, hxe⟩ : ∃ x, x = row[j] := ⟨_, rfl⟩
      rw [← hxe] at hx
      have hv : (undoV k row above d).getD j 0 = x + t := by
        show (undoN k row above d row.length).getD j 0 = _
        rw [undoN_at _ _ _ _ j _ hjr, ht, hxe, List.getD_eq_getElem?_getD, List.getElem?_eq_getElem hjr]; rfl
      have hw := add_wrap x t
      have HNx : Hid (fillF (fun j => (undoV k row above d).getD j 0) (j + 1) = fun i => if i = j then Value.int .u8 (((x + t).toNat : Nat) : Int) else fillF (fun j => (undoV k row above d).getD j 0) j i) := funext fun i => by
        have := fillF_next (fun j => (undoV k row above d).getD j 0) j i
        rw [← this]
        show (if i = j then cellOf ((undoV k row above d).getD j 0) else _) = _
        rw [hv]
        rfl
      have bx := x.toNat_lt
      have bt := t.toNat_lt
      have HT := Lib.hid hT
      have HRow := Lib.hid hrow
      have HBel := Lib.hid hbel
      obtain ⟨old, hold⟩ : ∃ v, v = fillF (fun j => (undoV k row above d).getD j 0) j j := ⟨_, rfl⟩
      rw [← hold] at hc
      clear hT hrow hbel hBr hBa hBo ht hte hxe hv hjr hold
      generalize (x + t).toNat = y at *
      generalize x.toNat = xn at *
      generalize t.toNat = tn at *
      go_wp2_with fail
      refine HT.out.mono ?_
      rintro e w' ⟨rfl, rfl⟩
      go_wp2_with fail
      go_roundw
      case rel => exact ⟨j + 1, by omega, by go_num, by rw [HNx.out]; exact World.rowIs.set HRow.out j _, HBel.out.setCell (Nat.le_refl _) _⟩
      case measure => simp [intOf]; omega
    · obtain rfl : j = n := by omega
      have HRow := Lib.hid hrow
      have HBel := Lib.hid hbel
      clear hrow hbel
      go_wp2_with fail
      go_ret2
      have hl : (undoV k row above d).length = j := by rw [undoV_length, HN.out]
      refine ⟨some ⟨w.heap.size, 0, none⟩, j, by rw [hl]; rfl, HBel.out, fill_done hl HRow.out, by omega, by unfold maxLen; omega, fun h => by cases h⟩
end Go.Proofs.Ytfkhdakeojhpaaa.Fi
