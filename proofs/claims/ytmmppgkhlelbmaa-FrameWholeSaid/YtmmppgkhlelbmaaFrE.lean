/- Contract of frame.Parse where a payload is a message. Condition: bytes lie at the slice. -/
import Derived.Test.YtmmppgkhlelbmaaFrD
namespace Go.Proofs.Ytmmppgkhlelbmaa.Fr
open Go.RowKit Ba
set_option linter.unusedVariables false

def wN (x y z : Nat) : Nat → Nat | 0 => x | 1 => y | _ => z
def sN (x y z : Nat) : Nat → Nat | 0 => 0 | 1 => x | 2 => x + y | _ => x + y + z
def fN (x y z : Nat) (r : List UInt8) (i : Nat) : Nat := leV ((r.drop (sN x y z i)).take (wN x y z i))
def gN (x y z : Nat) (r : List UInt8) (j i : Nat) : Int := if i < j then (fN x y z r i : Int) else 0
def flN (k x y z : Nat) (r : List UInt8) (j : Nat) : List Value := [.int .i64 (k : Nat), .int .i64 (gN x y z r j 0), .int .i64 (gN x y z r j 1), .int .i64 (gN x y z r j 2), .slice none 0 0]
theorem sN_next (x y z j : Nat) (h : j < 3) : sN x y z (j + 1) = sN x y z j + wN x y z j := by
  have : j = 0 ∨ j = 1 ∨ j = 2 := by omega
  rcases this with rfl | rfl | rfl <;> simp [sN, wN]
theorem sN_le (x y z j : Nat) (h : j ≤ 3) : sN x y z j ≤ x + y + z := by
  have : j = 0 ∨ j = 1 ∨ j = 2 ∨ j = 3 := by omega
  rcases this with rfl | rfl | rfl | rfl <;> simp [sN] <;> omega
theorem flN_set (k x y z : Nat) (r : List UInt8) (j : Nat) (h : j < 3) : (flN k x y z r j).set (1 + j) (.int .i64 (fN x y z r j : Nat)) = flN k x y z r (j + 1) := by
  have : j = 0 ∨ j = 1 ∨ j = 2 := by omega
  rcases this with rfl | rfl | rfl <;> simp [flN, gN]
theorem flN_at (k x y z : Nat) (r : List UInt8) (j : Nat) (h : j < 3) : (flN k x y z r j)[1 + j]? = some (.int .i64 (gN x y z r j j)) := by
  have : j = 0 ∨ j = 1 ∨ j = 2 := by omega
  rcases this with rfl | rfl | rfl <;> simp [flN]
theorem shp_at (x y z : Nat) (q : Bool) (j : Nat) (h : j < 3) : ([.int .i64 x, .int .i64 y, .int .i64 z, .bool q] : List Value)[j]? = some (.int .i64 (wN x y z j : Nat)) := by
  have : j = 0 ∨ j = 1 ∨ j = 2 := by omega
  rcases this with rfl | rfl | rfl <;> rfl
theorem ptr_at (g j : Nat) (h : j < 3) : ([.pointer (some ⟨g, 1, none⟩), .pointer (some ⟨g, 2, none⟩), .pointer (some ⟨g, 3, none⟩)] : List Value)[j]? = some (.pointer (some ⟨g, 1 + j, none⟩)) := by
  have : j = 0 ∨ j = 1 ∨ j = 2 := by omega
  rcases this with rfl | rfl | rfl <;> rfl
theorem wN_le (x y z j : Nat) (hx : x ≤ 4) (hy : y ≤ 4) (hz : z ≤ 4) : wN x y z j ≤ 4 := by
  unfold wN
  split <;> omega

set_option maxRecDepth 100000 in
set_option maxHeartbeats 3200000 in
theorem parse_ok (k x y z : Nat) (hk : k < 256) (q : Bool) (hx : x ≤ 4) (hy : y ≤ 4) (hz4 : z ≤ 4) (b off n cap : Nat) (r : List UInt8) (hn : n = r.length) (hle : x + y + z ≤ n) (h1 : 1 ≤ x) (hq : q = true ∨ n = x + y + z) (hm : n ≤ 140737488355327) (hcap : n + 1 ≤ cap) (hcap2 : cap ≤ maxLen) (w : World)
    (hc : w.cell? ⟨b, off, none⟩ = some (.int .u8 k)) (hr : Bytes w (cutA (some ⟨b, off, none⟩) 1 cap) r) (HS : Hid (ShapeOf k x y z q)) (HZ : Hid (SizeOf x y z q)) :
    Calls Try.prog 16 #[.slice (some ⟨b, off, none⟩) (n + 1) cap] w (Parsed ⟨k, fN x y z r 0, fN x y z r 1, fN x y z r 2, r.drop (x + y + z)⟩ 0 w) := by
  have hz := fun w => (by kernel_rfl : (zeroValue 39).run Try.prog w = .ok (.agg #[.int .i64 0, .int .i64 0, .int .i64 0, .int .i64 0, .slice none 0 0]) w)
  have hz2 := fun w => (by kernel_rfl : (zeroValue 67).run Try.prog w = .ok (.agg #[.int .i64 0, .int .i64 0, .int .i64 0, .bool false]) w)
  have hcut : ∀ w, (Instr.slice 22 (.slice (some ⟨b, off, none⟩) (n + 1) cap) (some (.int .i64 1)) none none).run Try.prog w = .ok (.slice (cutA (some ⟨b, off, none⟩) 1 cap) n (cap - 1)) w := fun w => run_cut_from (P := Try.prog) 22 5 Try.underlying22 size_u8 (some ⟨b, off, none⟩) (n + 1) cap .i64 1 (by omega) w
  have hlt := cell_lt hc
  have HR := Lib.hid hr
  have HN := Lib.hid hn
  clear hn hr
  have hnn : cutA (some ⟨b, off, none⟩) 1 cap = none → cap - 1 = 0 := by unfold cutA; split <;> simp
  generalize cutA (some ⟨b, off, none⟩) 1 cap = a1 at *
  obtain ⟨cp, hcp⟩ : ∃ cp, cp = cap - 1 := ⟨_, rfl⟩
  have hcp1 : n ≤ cp := by omega
  have hcp2 : cp ≤ maxLen := by omega
  rw [← hcp] at hcut hnn
  have hcap' := Lib.hid hcap
  clear hcp hcap2
  have R0 := Lib.hid (Blk.new w #[.int .i64 0, .int .i64 0, .int .i64 0, .int .i64 0, .slice none 0 0] 39)
  have hb0 : Below w.heap.size w (w.alloc (Obj.cells #[.int .i64 0, .int .i64 0, .int .i64 0, .int .i64 0, .slice none 0 0] 39)) := (Below.refl _ _).alloc (Nat.le_refl _) _
  have hs0 : (w.alloc (Obj.cells #[.int .i64 0, .int .i64 0, .int .i64 0, .int .i64 0, .slice none 0 0] 39)).heap.size = w.heap.size + 1 := by simp
  go_enter Try.func16, Try.ntmps16
  go_wp2_with fail
  generalize w.alloc (Obj.cells #[.int .i64 0, .int .i64 0, .int .i64 0, .int .i64 0, .slice none 0 0] 39) = w0 at *
  have R0' := Lib.hid (R0.out.alloc (Obj.cells #[.int .i64 (k : Nat), .int .i64 0, .int .i64 0, .int .i64 0, .slice none 0 0] 39))
  have F0 : Hid (Blk (w0.alloc (Obj.cells #[.int .i64 (k : Nat), .int .i64 0, .int .i64 0, .int .i64 0, .slice none 0 0] 39)) (w.heap.size + 1) 39 (flN k x y z r 0)) := Lib.hid (by
    have := Blk.new w0 #[.int .i64 (k : Nat), .int .i64 0, .int .i64 0, .int .i64 0, .slice none 0 0] 39
    rw [hs0] at this
    exact this)
  refine (HS.out _).mono ?_
  rintro e w1 ⟨rfl, hb1⟩
  have R1' := Lib.hid ((R0'.out.keep hb1).alloc (Obj.cells #[.int .i64 x, .int .i64 y, .int .i64 z, .bool q] 67))
  have F1' := Lib.hid ((F0.out.keep hb1).alloc (Obj.cells #[.int .i64 x, .int .i64 y, .int .i64 z, .bool q] 67))
  have S1 := Lib.hid (Blk.new w1 #[.int .i64 x, .int .i64 y, .int .i64 z, .bool q] 67)
  have HB1 := Lib.hid (chain (hb0.alloc (by omega) _) hb1)
  have s1 := HB1.out.size
  have s01 : w.heap.size + 2 ≤ w1.heap.size := by have := hb1.size; simp at this; omega
  clear hb1 R0 R0' F0
  go_wp2_with fail
  refine (HZ.out _).mono ?_
  rintro e w2 ⟨rfl, hb2⟩
  have R2 := Lib.hid (R1'.out.keep hb2)
  have F2 := Lib.hid (F1'.out.keep hb2)
  have S2 := Lib.hid (S1.out.keep hb2)
  have HB2 := Lib.hid (chain (HB1.out.alloc (by omega) _) hb2)
  have s2 := HB2.out.size
  have s12 : w1.heap.size + 1 ≤ w2.heap.size := by have := hb2.size; simp at this; omega
  have e0 := S2.out.cell (i := 0) rfl
  have e1 := S2.out.cell (i := 1) rfl
  have e2 := S2.out.cell (i := 2) rfl
  have e3 := S2.out.cell (i := 3) rfl
  clear hb2 R1' S1 F1'
  have HNIL := Lib.hid hnn
  clear hnn
  cases q
  case' false =>
    go_wp2_with fail
    refine (HZ.out _).mono ?_
    rintro e w3 ⟨rfl, hb3⟩
    have R3 := Lib.hid (R2.out.keep hb3)
    have F3 := Lib.hid (F2.out.keep hb3)
    have S3 := Lib.hid (S2.out.keep hb3)
    have HB3 := Lib.hid (chain HB2.out hb3)
    have s3 := hb3.size
    have s13 : w1.heap.size + 1 ≤ w3.heap.size := by omega
    clear hb3 R2 F2 S2 HB2 s2 s12 e0 e1 e2 e3 s3
    clear w2
    obtain ⟨w2, hw2⟩ : ∃ w2, w2 = w3 := ⟨_, rfl⟩
    subst hw2
    have R2 := R3
    have F2 := F3
    have S2 := S3
    have HB2 := HB3
    have s12 := s13
    have hn3 : ¬ (x + y + z < n) := by rcases hq with hq | hq <;> first | omega | (cases hq)
    clear R3 F3 S3 HB3 s13 hq
    have e0 := S2.out.cell (i := 0) rfl
    have e1 := S2.out.cell (i := 1) rfl
    have e2 := S2.out.cell (i := 2) rfl
    have e3 := S2.out.cell (i := 3) rfl
  case' true => clear hq
  all_goals
    go_wp2_with fail
    have s2' := HB2.out.size
    have R4 := Lib.hid (R2.out.alloc (Obj.cells #[.pointer (some ⟨w.heap.size + 1, 1, none⟩), .pointer (some ⟨w.heap.size + 1, 2, none⟩), .pointer (some ⟨w.heap.size + 1, 3, none⟩)] 70))
    have F4 := Lib.hid (F2.out.alloc (Obj.cells #[.pointer (some ⟨w.heap.size + 1, 1, none⟩), .pointer (some ⟨w.heap.size + 1, 2, none⟩), .pointer (some ⟨w.heap.size + 1, 3, none⟩)] 70))
    have S4 := Lib.hid (S2.out.alloc (Obj.cells #[.pointer (some ⟨w.heap.size + 1, 1, none⟩), .pointer (some ⟨w.heap.size + 1, 2, none⟩), .pointer (some ⟨w.heap.size + 1, 3, none⟩)] 70))
    have P4 := Lib.hid (Blk.new w2 #[.pointer (some ⟨w.heap.size + 1, 1, none⟩), .pointer (some ⟨w.heap.size + 1, 2, none⟩), .pointer (some ⟨w.heap.size + 1, 3, none⟩)] 70)
    have HB4 := Lib.hid (HB2.out.alloc s2' (Obj.cells #[.pointer (some ⟨w.heap.size + 1, 1, none⟩), .pointer (some ⟨w.heap.size + 1, 2, none⟩), .pointer (some ⟨w.heap.size + 1, 3, none⟩)] 70))
    generalize w2.alloc (Obj.cells #[.pointer (some ⟨w.heap.size + 1, 1, none⟩), .pointer (some ⟨w.heap.size + 1, 2, none⟩), .pointer (some ⟨w.heap.size + 1, 3, none⟩)] 70) = w4 at *
    clear R2 F2 S2 HB2 e0 e1 e2 e3
    go_loopw [7, 8, 9, 58] (fun rest _ _ i wr => ∃ (j : Nat) (ao : Option Addr), j ≤ 3 ∧ i = .int .i64 j ∧ rest = .slice ao (n - sN x y z j) (cp - sN x y z j) ∧ Bytes w ao (r.drop (sN x y z j)) ∧ (ao = none → cp - sN x y z j = 0) ∧ Below w.heap.size w wr ∧
        Blk wr w.heap.size 39 [.int .i64 0, .int .i64 0, .int .i64 0, .int .i64 0, .slice none 0 0] ∧ Blk wr (w.heap.size + 1) 39 (flN k x y z r j) ∧ (∃ q0, Blk wr w1.heap.size 67 [.int .i64 x, .int .i64 y, .int .i64 z, .bool q0]) ∧ Blk wr w2.heap.size 70 [.pointer (some ⟨w.heap.size + 1, 1, none⟩), .pointer (some ⟨w.heap.size + 1, 2, none⟩), .pointer (some ⟨w.heap.size + 1, 3, none⟩)]) (fun _ _ _ i _ => 3 - (intOf i).toNat)
    case atStart => exact ⟨0, a1, by omega, rfl, rfl, HR.out, HNIL.out, HB4.out, R4.out, F4.out, ⟨_, S4.out⟩, P4.out⟩
    case round =>
      obtain ⟨j, ao, hj, rfl, rfl, hbr, hao, hbel, hRr, hFr, ⟨q0, hSr⟩, hPr⟩ := hrel
      by_cases hlt3 : j < 3
      · have HBR := Lib.hid hbr
        have HAO := Lib.hid hao
        have HBEL := Lib.hid hbel
        have HRR := Lib.hid hRr
        have HFR := Lib.hid hFr
        have HSR := Lib.hid hSr
        have HPR := Lib.hid hPr
        have cP := hPr.cell (ptr_at (w.heap.size + 1) j hlt3)
        have cS := hSr.cell (shp_at x y z q0 j hlt3)
        have cF := hFr.cell (flN_at k x y z r j hlt3)
        have fz := hFr.frozen (1 + j)
        have hnx := sN_next x y z j hlt3
        have hsl := sN_le x y z (j + 1) (by omega)
        have hwl := wN_le x y z j hx hy hz4
        have HST := Lib.hid (flN_set k x y z r j hlt3)
        have HFN : Hid (fN x y z r j = leV ((r.drop (sN x y z j)).take (wN x y z j))) := Lib.hid rfl
        have HDR : Hid (r.drop (sN x y z (j + 1)) = (r.drop (sN x y z j)).drop (wN x y z j)) := Lib.hid (by rw [List.drop_drop, hnx])
        have HNX := Lib.hid hnx
        have hto : ∀ w, (Instr.slice 22 (.slice ao (n - sN x y z j) (cp - sN x y z j)) none (some (.int .i64 (wN x y z j : Nat))) none).run Try.prog w = .ok (.slice ao (wN x y z j) (cp - sN x y z j)) w := fun w => run_cut_to (P := Try.prog) 22 5 Try.underlying22 size_u8 ao _ _ .i64 _ (by omega) w
        have hfr : ∀ w, (Instr.slice 22 (.slice ao (n - sN x y z j) (cp - sN x y z j)) (some (.int .i64 (wN x y z j : Nat))) none none).run Try.prog w = .ok (.slice (cutA ao (wN x y z j) (cp - sN x y z j)) (n - sN x y z j - wN x y z j) (cp - sN x y z j - wN x y z j)) w := fun w => run_cut_from (P := Try.prog) 22 5 Try.underlying22 size_u8 ao _ _ .i64 _ (by omega) w
        have HCA : Hid (cutA ao (wN x y z j) (cp - sN x y z j) = none → cp - sN x y z (j + 1) = 0) := Lib.hid (fun h => by
          unfold cutA at h
          split at h
          · rw [hnx]; omega
          · have := HAO.out (by cases ao <;> simp_all); omega)
        have HNUM := Lib.hid (fun w' hb' => number_any ((r.drop (sN x y z j)).take (wN x y z j)) (wN x y z j) (by rw [List.length_take, List.length_drop, ← HN.out]; omega) hwl ao (cp - sN x y z j) w' hb')
        rw [← HFN.out] at HNUM
        clear hnx hbr hao hbel hRr hFr hSr hPr HFN
        have HE1 : Hid (n - sN x y z j - wN x y z j = n - sN x y z (j + 1)) := Lib.hid (by rw [HNX.out]; omega)
        have HE2 : Hid (cp - sN x y z j - wN x y z j = cp - sN x y z (j + 1)) := Lib.hid (by rw [HNX.out]; omega)
        have HD2 : Hid (Bytes w (cutA ao (wN x y z j) (cp - sN x y z j)) (r.drop (sN x y z (j + 1)))) := Lib.hid (by rw [HDR.out]; exact HBR.out.drop _ _ (by rw [List.length_drop, ← HN.out]; omega))
        go_wp2_with fail
        refine (HNUM.out _ ((HBR.out.take _).keep HBEL.out)).mono ?_
        rintro e w' ⟨rfl, rfl⟩
        go_wp2_with fail
        go_roundw
        case rel =>
          refine ⟨j + 1, _, by omega, by go_num, by rw [← HE1.out, ← HE2.out], HD2.out, HCA.out, HBEL.out.setCell (by simp) _, HRR.out.setOther (by simp) _, by rw [← HST.out]; exact HFR.out.set _ _, ⟨q0, HSR.out.setOther (by simp; omega) _⟩, HPR.out.setOther (by simp; omega) _⟩
        case measure => simp [intOf]; omega
      · obtain rfl : j = 3 := by omega
        have HBR := Lib.hid hbr
        have HAO := Lib.hid hao
        have HBEL := Lib.hid hbel
        have HRR := Lib.hid hRr
        have HFR := Lib.hid hFr
        clear hbr hao hbel hRr hFr hSr hPr
        go_wp2_with fail
        have e3 : sN x y z 3 = x + y + z := rfl
        refine (clone_any (r.drop (x + y + z)) ao _ _ (by rw [List.length_drop, ← HN.out, e3]) (by omega) HAO.out wr (HBR.out.keep HBEL.out)).mono ?_
        rintro e w5 ⟨v, rfl, hb5, hown⟩
        obtain ⟨ao5, cap5, rfl, hby5, hl5, hm5, hn5, hlo5⟩ := hown.view2
        have lt0 := HRR.out.lt
        have lt1 := HFR.out.lt
        have R5 := Lib.hid (HRR.out.keep hb5)
        have F5 := Lib.hid (HFR.out.keep hb5)
        have c0 := R5.out.cell (i := 0) rfl
        have c1 := R5.out.cell (i := 1) rfl
        have c2 := R5.out.cell (i := 2) rfl
        have c3 := R5.out.cell (i := 3) rfl
        have c4 := R5.out.cell (i := 4) rfl
        have fz := fun i => R5.out.frozen i
        have d0 := F5.out.cell (i := 0) rfl
        have d1 := F5.out.cell (i := 1) rfl
        have d2 := F5.out.cell (i := 2) rfl
        have d3 := F5.out.cell (i := 3) rfl
        have d4 := F5.out.cell (i := 4) rfl
        have fy := fun i => F5.out.frozen i
        have HB5 := Lib.hid (chain HBEL.out hb5)
        have HLO := Lib.hid hlo5
        clear hb5 hby5 hl5 hm5 hn5 hlo5 e3
        obtain ⟨ln, hln⟩ : ∃ ln, ln = (r.drop (x + y + z)).length := ⟨_, rfl⟩
        rw [← hln] at hown ⊢
        have HO5 := Lib.hid hown
        have HLN := Lib.hid hln
        clear hln hown
        go_wp2_with fail
        have F6 := F5.out.set 4 (.slice ao5 ln cap5)
        have R6 := R5.out.setOther (a := ⟨w.heap.size + 1, 4, none⟩) (by simp) (.slice ao5 ln cap5)
        have HB6 : Below w.heap.size w (w5.setCell ⟨w.heap.size + 1, 4, none⟩ (.slice ao5 ln cap5)) := HB5.out.setCell (by simp) _
        have HY6 := HO5.out.setOther (a := ⟨w.heap.size + 1, 4, none⟩) (fun k hk => by have := HO5.out.block k hk; show k ≠ w.heap.size + 1; omega) (.slice ao5 ln cap5)
        obtain ⟨W, hW, Q, hbW, _, _, hoW⟩ := R6.put5 (.int .i64 (k : Nat)) (.int .i64 (gN x y z r 3 0)) (.int .i64 (gN x y z r 3 1)) (.int .i64 (gN x y z r 3 2)) (.slice ao5 ln cap5)
        rw [hW]
        have q0 := Q.cell (i := 0) rfl
        have q1 := Q.cell (i := 1) rfl
        have q2 := Q.cell (i := 2) rfl
        have q3 := Q.cell (i := 3) rfl
        have q4 := Q.cell (i := 4) rfl
        have g0 : gN x y z r 3 0 = fN x y z r 0 := by simp [gN]
        have g1 : gN x y z r 3 1 = fN x y z r 1 := by simp [gN]
        have g2 : gN x y z r 3 2 = fN x y z r 2 := by simp [gN]
        refine bodyPost_ret (v := .tuple #[.agg #[.int .i64 (k : Nat), .int .i64 (gN x y z r 3 0), .int .i64 (gN x y z r 3 1), .int .i64 (gN x y z r 3 2), .slice ao5 ln cap5], .int .i64 0]) (by simp [results, Try.results16, go_sem, q0, q1, q2, q3, q4]) rfl ⟨_, rfl, ⟨ao5, cap5, ?_, ?_⟩, ?_⟩
        · rw [g0, g1, g2, ← HLN.out]
        · rw [← HLN.out]
          have hsz := HBEL.out.size
          exact (hoW _ _ _ HY6 (fun k hk => by have := HO5.out.block k hk; omega)).mono hsz
        · exact hbW _ _ (Nat.le_refl _) HB6
end Go.Proofs.Ytmmppgkhlelbmaa.Fr
