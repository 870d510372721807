/- The reference's Undo; the string of a slice of bytes. Condition: bytes lie at the slices. -/
import Derived.Test.YtfkhdakeojhpaaaFiltC
import Derived.Laws.IdiomStrings
import Derived.Laws.BytesArg
namespace Go.Proofs.Ytfkhdakeojhpaaa.Fi
open Go.RowKit Ba

theorem _root_.Go.Proofs.Ytfkhdakeojhpaaa.Ba.Own.bytes_of {w : World} {base n cap : Nat} {ao : Option Addr} {bs : List UInt8} (h : Own w base (.slice ao n cap) bs) : Bytes w ao bs := by
  obtain ⟨ao', cap', he, hby, _⟩ := h.view
  simp only [Value.slice.injEq] at he
  obtain ⟨rfl, _, rfl⟩ := he
  exact hby
/-- 'string(x)' of a slice of bytes. -/
theorem run_str (ao : Option Addr) (n cap : Nat) (bs : List UInt8) (hn : n = bs.length) (w : World) (hb : Bytes w ao bs) :
    (convert 22 9 (.slice ao n cap)).run Try.prog w = .ok (.string ⟨bs.toArray⟩) w := by
  subst hn
  cases ao with
  | none =>
    have : bs = [] := by
      cases bs with
      | nil => rfl
      | cons u l => obtain ⟨b, off, e, _⟩ := hb 0 (by simp); cases e
    subst this
    exact run_convert_bytes_nil w 22 5 Try.underlying22 Try.underlying5 _ _ 9 Try.underlying9
  | some x =>
    by_cases h0 : bs.length = 0
    · have : bs = [] := List.length_eq_zero_iff.1 h0
      subst this
      exact run_convert_bytes_back w 22 9 5 x cap [] Try.underlying22 Try.underlying5 Try.underlying9 (fun j hj => by simp at hj)
    · refine run_convert_bytes_back w 22 9 5 x cap bs Try.underlying22 Try.underlying5 Try.underlying9 (fun j hj => ?_)
      obtain ⟨b, off, e, hcell⟩ := hb j hj
      simp only [Option.some.injEq] at e
      subst e
      have ea : (Addr.add ⟨b, off, none⟩ j) = ⟨b, off + j, none⟩ := by
        unfold Addr.add
        by_cases h0 : j = 0
        · subst h0; simp
        · simp [h0]
      rw [ea, hcell]
theorem undoV_step (k : Nat) (row above : List UInt8) (d j : Nat) (h : j < row.length) : (undoV k row above d).take (j + 1) = (undoV k row above d).take j ++ [row[j] + toldV k (undoN k row above d j) above d j] := by
  unfold undoV
  rw [undoN_take _ _ _ _ _ _ (by omega), undoN_take _ _ _ _ _ _ (by omega)]
  show undoN k row above d j ++ [row.getD j 0 + _] = _
  rw [List.getD_eq_getElem?_getD, List.getElem?_eq_getElem h]
  rfl
/-- A string is as it is. -/
theorem str_refl (s : ByteArray) : (s == s) = true := by
  cases s with
  | mk d =>
    show (d == d) = true
    exact beq_self_eq_true d

set_option maxRecDepth 100000 in
set_option maxHeartbeats 1600000 in
theorem undoRef_yes (k : Nat) (hk : k < 5) (row above : List UInt8) (hr : row.length ≤ 140737488351232) (a b : Option Addr) (n m ca cb : Nat) (hn : n = row.length) (hm : m = above.length) (hma : m = 0 ∨ m = n) (hnil : a = none → ca = 0) (d : Nat) (hd : 1 ≤ d ∧ d ≤ 8) (w : World) (hbr : Bytes w a row) (hba : Bytes w b above) :
    Calls Try.prog 14 #[.int .i64 (k : Nat), .slice a n ca, .slice b m cb, .int .i64 (d : Nat)] w (Res (undoV k row above d) true w) := by
  obtain ⟨hd1, hd2⟩ := hd
  subst hn hm
  have HBR := Lib.hid hbr
  have HBA := Lib.hid hba
  have HMA := Lib.hid hma
  have hcase : ((0 : Int) < (above.length : Int) ∧ ((above.length : Int) != (row.length : Int)) = false) ∨ ¬ (0 : Int) < (above.length : Int) := by
    rw [bne_eq_false_iff_eq]; omega
  clear hma hbr hba
  rcases hcase with ⟨q1, q2⟩ | q1
  all_goals
    go_enter Try.func14, Try.ntmps14
    go_wp2_with (at_builtin; refine wpList_append_bytes rfl (.const (Value.slice none 0 0)) (.tmp 38) rfl w.heap.size _ [] rfl (Own.nil w w.heap.size) a row.length ca row rfl rfl HBR.out hnil (by simp; omega) (Nat.le_refl _) ?_)
    intro v1 w1 hown hg
    have hb1 : Below w.heap.size w w1 := (Below.refl _ _).grown hg (Nat.le_refl _) (fun k hk => by simp [Value.ownBlock] at hk)
    clear hg
    obtain ⟨ao, cap, rfl, _, hcap, hcm, hao⟩ := hown.view
    go_wp2_with fail
    go_loopw [11] (fun i wr => ∃ j : Nat, j ≤ row.length ∧ i = .int .i64 j ∧ Hid (Own wr w.heap.size (.slice ao row.length cap) ((undoV k row above d).take j ++ row.drop ((undoV k row above d).take j).length)) ∧ Below w.heap.size w wr) (fun i _ => row.length - (intOf i).toNat)
    case atStart => exact ⟨0, by omega, rfl, Lib.hid (by simpa using hown), hb1⟩
    case round =>
      obtain ⟨j, hj, rfl, HO, hbel⟩ := hrel
      clear hown hb1
      have hPl : ((undoV k row above d).take j).length = j := by rw [List.length_take, undoV_length]; omega
      by_cases hjr : j < row.length
      · have hmixl := mix_length ((undoV k row above d).take j) row (by omega)
        obtain ⟨g, rfl, hgb, hgl⟩ := HO.out.head (by omega)
        have hcell := HO.out.lit_cell j (by omega)
        have hmat := mix_at ((undoV k row above d).take j) row (by omega)
        rw [List.getElem?_eq_getElem (by omega)] at hmat
        have hf := HO.out.frozen j
        have hBr := HBR.out.below HBR.out.old hbel
        have hBa := HBA.out.below HBA.out.old hbel
        have hBo := HO.out.bytes_of
        obtain ⟨M, hM⟩ : ∃ M, M = (undoV k row above d).take j ++ row.drop ((undoV k row above d).take j).length := ⟨_, rfl⟩
        have hMl : M.length = row.length := by rw [hM]; exact hmixl
        rw [← hM] at hBo
        have hT := toldRef_any k hk M above (by omega) (some ⟨g, 0, none⟩) b row.length above.length cap cb hMl.symm rfl (by rw [hMl]; exact HMA.out) d j hd2 hd1 (by omega) wr.drew (fun i hi => hBo i (by omega)) hBa
        have hte : toldV k M above d j = toldV k (undoN k row above d j) above d j := by
          refine told_congr _ _ _ _ _ _ hd1 fun i hi => ?_
          rw [hM, List.getD_eq_getElem?_getD, List.getElem?_append_left (by omega), ← List.getD_eq_getElem?_getD]
          show (List.take j (undoN k row above d row.length)).getD i 0 = _
          rw [undoN_take k row above d j row.length (by omega)]
        rw [hte] at hT
        have hset := mix_set ((undoV k row above d).take j) row (row[j] + toldV k (undoN k row above d j) above d j) (by omega)
        rw [← undoV_step k row above d j hjr] at hset
        obtain ⟨x, hxe⟩ : ∃ x, x = row[j] := ⟨_, rfl⟩
        obtain ⟨t, ht⟩ : ∃ t, t = toldV k (undoN k row above d j) above d j := ⟨_, rfl⟩
        simp only [hPl] at hmat hset
        have hcx : wr.cell? ⟨g, j, none⟩ = some (.int .u8 ((x.toNat : Nat) : Int)) := by
          rw [hcell]
          have := Option.some.inj hmat
          rw [hxe, ← this]
          simp only [hPl]
          rfl
        rw [← hxe, ← ht] at hset
        rw [← ht] at hT
        have hnew := HO.out.drew.set j (x + t)
        simp only [hPl] at hnew
        rw [hset] at hnew
        have hw := add_wrap x t
        have bx := x.toNat_lt
        have bt := t.toNat_lt
        have HT := Lib.hid hT
        have HNew : Hid (Own (wr.drew.setCell ⟨g, j, none⟩ (.int .u8 (((x + t).toNat : Nat) : Int))) w.heap.size (.slice (some ⟨g, 0, none⟩) row.length cap) ((undoV k row above d).take (j + 1) ++ row.drop ((undoV k row above d).take (j + 1)).length)) := hnew
        have HBel := Lib.hid hbel
        clear hT hbel hBr hBa ht hxe hset hmat hcell hmixl hnew hPl hBo hte hM hMl
        generalize (x + t).toNat = y at *
        generalize x.toNat = xn at *
        generalize t.toNat = tn at *
        go_wp2_with fail
        go_region_with (go_at_call 22; refine HT.out.mono ?_; rintro e w' ⟨rfl, rfl⟩)
        all_goals
          go_wp2_with fail
          go_roundw
          case rel => exact ⟨j + 1, by omega, by go_num, HNew.out, HBel.out.drew.setCell hgb _⟩
          case measure => simp [intOf]; omega
      · obtain rfl : j = row.length := by omega
        have HBel := Lib.hid hbel
        clear hbel
        go_wp2_with fail
        go_ret2
        have hl : (undoV k row above d).length = row.length := undoV_length _ _ _ _
        have hO := HO.out
        rw [hPl, List.drop_length, List.append_nil, List.take_of_length_le (by omega)] at hO
        obtain ⟨ao', cap', he, hby, h1, h2, h3⟩ := hO.view
        simp only [Value.slice.injEq] at he
        obtain ⟨rfl, _, rfl⟩ := he
        exact ⟨ao, cap, by rw [hl]; rfl, HBel.out, hby, h1, h2, h3⟩
end Go.Proofs.Ytfkhdakeojhpaaa.Fi
