/- Contracts of Do and Undo of the reference. Condition: bytes lie at the slices. -/
import Derived.Test.YtfkhdakeojhpaaaFiltB
namespace Go.Proofs.Ytfkhdakeojhpaaa.Fi
open Go.RowKit Ba

theorem may_no_cases {k d : Int} {n m : Nat} (h : ¬ MayV k n m d) : k < 0 ∨ (¬ k < 0 ∧ 4 < k) ∨ (¬ k < 0 ∧ ¬ 4 < k ∧ d < 1) ∨ (¬ k < 0 ∧ ¬ 4 < k ∧ ¬ d < 1 ∧ 8 < d) ∨ (¬ k < 0 ∧ ¬ 4 < k ∧ ¬ d < 1 ∧ ¬ 8 < d ∧ (0 : Int) < (m : Int) ∧ ((m : Int) != (n : Int)) = true) := by
  rw [bne_iff_ne]; unfold MayV at h; omega
set_option maxRecDepth 100000 in
theorem doRef_no (k d : Int) (a b : Option Addr) (n m ca cb : Nat) (h : ¬ MayV k n m d) (w : World) :
    Calls Try.prog 13 #[.int .i64 k, .slice a n ca, .slice b m cb, .int .i64 d] w fun e w' => e = .returned (.tuple #[.slice none 0 0, .bool false]) ∧ w = w' := by
  have hc := may_no_cases h
  clear h
  rcases hc with h | ⟨h1, h⟩ | ⟨h1, h2, h⟩ | ⟨h1, h2, h3, h⟩ | ⟨h1, h2, h3, h4, h5, h⟩
  all_goals
    go_enter Try.func13, Try.ntmps13
    go_wp2_with fail
    go_ret2
    exact ⟨rfl, rfl⟩
set_option maxRecDepth 100000 in
theorem undoRef_no (k d : Int) (a b : Option Addr) (n m ca cb : Nat) (h : ¬ MayV k n m d) (w : World) :
    Calls Try.prog 14 #[.int .i64 k, .slice a n ca, .slice b m cb, .int .i64 d] w fun e w' => e = .returned (.tuple #[.slice none 0 0, .bool false]) ∧ w = w' := by
  have hc := may_no_cases h
  clear h
  rcases hc with h | ⟨h1, h⟩ | ⟨h1, h2, h⟩ | ⟨h1, h2, h3, h⟩ | ⟨h1, h2, h3, h4, h5, h⟩
  all_goals
    go_enter Try.func14, Try.ntmps14
    go_wp2_with fail
    go_ret2
    exact ⟨rfl, rfl⟩

/-- Half of it made, half of it as it was. -/
theorem mix_set (P row : List UInt8) (x : UInt8) (h : P.length < row.length) : (P ++ row.drop P.length).set P.length x = (P ++ [x]) ++ row.drop (P ++ [x]).length := by
  rw [List.set_append_right _ _ (Nat.le_refl _), Nat.sub_self, List.append_assoc]
  congr 1
  rw [List.length_append, List.drop_eq_getElem_cons h]
  rfl
theorem mix_at (P row : List UInt8) (h : P.length < row.length) : (P ++ row.drop P.length)[P.length]? = some row[P.length] := by
  rw [List.getElem?_append_right (Nat.le_refl _), Nat.sub_self, List.getElem?_drop, Nat.add_zero, List.getElem?_eq_getElem h]
theorem mix_length (P row : List UInt8) (h : P.length ≤ row.length) : (P ++ row.drop P.length).length = row.length := by
  rw [List.length_append, List.length_drop]; omega
theorem doV_step (k : Nat) (row above : List UInt8) (d j : Nat) (h : j < row.length) : (doV k row above d).take (j + 1) = (doV k row above d).take j ++ [row[j] - toldV k row above d j] := by
  have hl : j < (doV k row above d).length := by rw [doV_length]; exact h
  rw [List.take_succ_eq_append_getElem hl]
  congr 2
  have := doV_at k row above d j h
  rw [List.getD_eq_getElem?_getD, List.getD_eq_getElem?_getD, List.getElem?_eq_getElem h, List.getElem?_eq_getElem hl] at this
  exact this

set_option maxRecDepth 100000 in
set_option maxHeartbeats 1600000 in
theorem doRef_yes (k : Nat) (hk : k < 5) (row above : List UInt8) (hr : row.length ≤ 140737488351232) (a b : Option Addr) (n m ca cb : Nat) (hn : n = row.length) (hm : m = above.length) (hma : m = 0 ∨ m = n) (hnil : a = none → ca = 0) (d : Nat) (hd : 1 ≤ d ∧ d ≤ 8) (w : World) (hbr : Bytes w a row) (hba : Bytes w b above) :
    Calls Try.prog 13 #[.int .i64 (k : Nat), .slice a n ca, .slice b m cb, .int .i64 (d : Nat)] w (Res (doV k row above d) true w) := by
  obtain ⟨hd1, hd2⟩ := hd
  subst hn hm
  have HBR := Lib.hid hbr
  have HBA := Lib.hid hba
  have HMA := Lib.hid hma
  have hcase : ((0 : Int) < (above.length : Int) ∧ ((above.length : Int) != (row.length : Int)) = false) ∨ ¬ (0 : Int) < (above.length : Int) := by
    rw [bne_eq_false_iff_eq]; omega
  clear hma hbr hba
  rcases hcase with ⟨q1, q2⟩ | q1
  all_goals
    go_enter Try.func13, Try.ntmps13
    go_wp2_with (at_builtin; refine wpList_append_bytes rfl (.const (Value.slice none 0 0)) (.tmp 38) rfl w.heap.size _ [] rfl (Own.nil w w.heap.size) a row.length ca row rfl rfl HBR.out hnil (by simp; omega) (Nat.le_refl _) ?_)
    intro v1 w1 hown hg
    have hb1 : Below w.heap.size w w1 := (Below.refl _ _).grown hg (Nat.le_refl _) (fun k hk => by simp [Value.ownBlock] at hk)
    clear hg
    obtain ⟨ao, cap, rfl, _, hcap, hcm, hao⟩ := hown.view
    go_wp2_with fail
    go_loopw [11] (fun i wr => ∃ j : Nat, j ≤ row.length ∧ i = .int .i64 j ∧ Hid (Own wr w.heap.size (.slice ao row.length cap) ((doV k row above d).take j ++ row.drop ((doV k row above d).take j).length)) ∧ Below w.heap.size w wr) (fun i _ => row.length - (intOf i).toNat)
    case atStart => exact ⟨0, by omega, rfl, Lib.hid (by simpa using hown), hb1⟩
    case round =>
      obtain ⟨j, hj, rfl, HO, hbel⟩ := hrel
      clear hown hb1
      have hPl : ((doV k row above d).take j).length = j := by rw [List.length_take, doV_length]; omega
      by_cases hjr : j < row.length
      · have hmixl := mix_length ((doV k row above d).take j) row (by omega)
        obtain ⟨g, rfl, hgb, hgl⟩ := HO.out.head (by omega)
        have hcell := HO.out.lit_cell j (by omega)
        have hmat := mix_at ((doV k row above d).take j) row (by omega)
        rw [List.getElem?_eq_getElem (by omega)] at hmat
        have hf := HO.out.frozen j
        have hBr := HBR.out.below HBR.out.old hbel
        have hBa := HBA.out.below HBA.out.old hbel
        have hT := toldRef_any k hk row above hr a b row.length above.length ca cb rfl rfl HMA.out d j hd2 hd1 hjr wr.drew (fun i hi => hBr i (by omega)) hBa
        have hset := mix_set ((doV k row above d).take j) row (row[j] - toldV k row above d j) (by omega)
        rw [← doV_step k row above d j hjr] at hset
        obtain ⟨x, hxe⟩ : ∃ x, x = row[j] := ⟨_, rfl⟩
        obtain ⟨t, ht⟩ : ∃ t, t = toldV k row above d j := ⟨_, rfl⟩
        simp only [hPl] at hmat hset
        have hcx : wr.cell? ⟨g, j, none⟩ = some (.int .u8 ((x.toNat : Nat) : Int)) := by
          rw [hcell]
          have := Option.some.inj hmat
          rw [hxe, ← this]
          simp only [hPl]
          rfl
        rw [← hxe, ← ht] at hset
        rw [← ht] at hT
        have hnew := HO.out.drew.set j (x - t)
        simp only [hPl] at hnew
        rw [hset] at hnew
        have hw := sub_wrap x t
        have bx := x.toNat_lt
        have bt := t.toNat_lt
        have HT := Lib.hid hT
        have HNew : Hid (Own (wr.drew.setCell ⟨g, j, none⟩ (.int .u8 (((x - t).toNat : Nat) : Int))) w.heap.size (.slice (some ⟨g, 0, none⟩) row.length cap) ((doV k row above d).take (j + 1) ++ row.drop ((doV k row above d).take (j + 1)).length)) := hnew
        have HBel := Lib.hid hbel
        clear hT hbel hBr hBa ht hxe hset hmat hcell hmixl hnew hPl
        generalize (x - t).toNat = y at *
        generalize x.toNat = xn at *
        generalize t.toNat = tn at *
        go_wp2_with fail
        go_region_with (go_at_call 22; refine HT.out.mono ?_; rintro e w' ⟨rfl, rfl⟩)
        all_goals
          go_wp2_with fail
          go_roundw
          case rel => exact ⟨j + 1, by omega, by go_num, HNew.out, HBel.out.drew.setCell hgb _⟩
          case measure => simp [intOf]; omega
      · obtain rfl : j = row.length := by omega
        have HBel := Lib.hid hbel
        clear hbel
        go_wp2_with fail
        go_ret2
        have hl : (doV k row above d).length = row.length := doV_length _ _ _ _
        have hO := HO.out
        rw [hPl, List.drop_length, List.append_nil, List.take_of_length_le (by omega)] at hO
        obtain ⟨ao', cap', he, hby, h1, h2, h3⟩ := hO.view
        simp only [Value.slice.injEq] at he
        obtain ⟨rfl, _, rfl⟩ := he
        exact ⟨ao, cap, by rw [hl]; rfl, HBel.out, hby, h1, h2, h3⟩
end Go.Proofs.Ytfkhdakeojhpaaa.Fi
