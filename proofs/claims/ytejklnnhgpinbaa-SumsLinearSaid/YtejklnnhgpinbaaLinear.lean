/- The contract of SumsLinear: it returns true at any two slices of bytes. No condition beyond what a slice is. -/
import Derived.Test.YtejklnnhgpinbaaSumsC
import Derived.Test.YtejklnnhgpinbaaOwn
import Derived.Deep.RegionWith
import Derived.WalkSpells
import Derived.BigRegion
namespace Go.Proofs.Ytejklnnhgpinbaa.Su
open Go.RowKit Ba

/-- The row that the loop fills. -/
def xorF (A B : List UInt8) (k j : Nat) : Value := if j < k then cellOf (A.getD j 0 ^^^ B.getD j 0) else .int .u8 0
theorem xorF_next (A B : List UInt8) (k j : Nat) : (if j = k then cellOf (A.getD k 0 ^^^ B.getD k 0) else xorF A B k j) = xorF A B (k + 1) j := by
  unfold xorF
  by_cases h : j = k
  · subst h; rw [if_pos rfl, if_pos (by omega)]
  · rw [if_neg h]
    by_cases h2 : j < k
    · rw [if_pos h2, if_pos (by omega)]
    · rw [if_neg h2, if_neg (by omega)]
theorem xor_cell (x y : UInt8) : bits .xor .u8 ((x.toNat : Nat) : Int) ((y.toNat : Nat) : Int) = (((x ^^^ y).toNat : Nat) : Int) := by
  rw [u8_xor_nat _ _ x.toNat_lt y.toNat_lt, UInt8.toNat_xor]
theorem row_bytes {w : World} {g n : Nat} {t : TypeId} {f : Nat → Value} (h : w.rowIs g t n f) (bs : List UInt8) (hl : bs.length ≤ n) (hf : ∀ i, (hi : i < bs.length) → f i = cellOf bs[i]) : Bytes w (some ⟨g, 0, none⟩) bs := by
  intro i hi
  refine ⟨g, 0, rfl, ?_⟩
  rw [Nat.zero_add, h.cell (by omega), hf i hi]
  rfl
def zeroF (_ : Nat) : Value := .int .u8 0

set_option maxRecDepth 100000 in
set_option maxHeartbeats 1600000 in
theorem linear_small (n la lb : Nat) (a : Option Addr) (capa : Nat) (A : List UInt8) (b : Option Addr) (capb : Nat) (B : List UInt8) (hla : la ≤ maxLen) (hlb : lb ≤ maxLen) (hca : la ≤ capa) (hcb : lb ≤ capb) (hn : n ≤ 3000)
    (hAn : A.length = n) (hBn : B.length = n) (hcase : (n = la ∧ n ≤ lb) ∨ (n = lb ∧ n < la)) (w : World) (ha : Bytes w a A) (hb : Bytes w b B) :
    Calls Try.prog 7 #[.slice a la capa, .slice b lb capb] w fun e w' => e = .returned (.bool true) ∧ Below w.heap.size w w' := by
  unfold maxLen at hla hlb
  have HA := Lib.hid ha
  have HB := Lib.hid hb
  have HAn := Lib.hid hAn
  have HBn := Lib.hid hBn
  clear ha hb hAn hBn
  rcases hcase with ⟨rfl, hle⟩ | ⟨rfl, hle⟩
  all_goals
    have hmk := run_make_row' (P := Try.prog) 22 5 (.int .u8 0) 1 Try.underlying22 info_u8 rfl .i64 .i64 n (by omega) (by omega)
    go_enter Try.func7, Try.ntmps7
    go_wp2_with fail
    refine (awake_any _).mono ?_
    rintro e w1 ⟨rfl, hb1⟩
    have HB1 := Lib.hid hb1
    clear hb1
    go_wp2_with fail
    refine (new_any _).mono ?_
    rintro e w2 ⟨rfl, hb2, hrow⟩
    have hlt := hrow.lt
    have HB2 := Lib.hid hb2
    have HR := Lib.hid hrow
    clear hb2 hrow
    have hr0 := World.rowIs_made w2 (.int .u8 0) n 5
    have HA2 : Hid (Bytes w2 a A) := (HA.out.keep HB1.out).keep HB2.out
    have HB2' : Hid (Bytes w2 b B) := (HB.out.keep HB1.out).keep HB2.out
    go_wp2_with fail
    go_loopw [8] (fun i wr => ∃ k : Nat, k ≤ n ∧ i = .int .i64 k ∧ wr.rowIs w2.heap.size 5 n (xorF A B k) ∧ Below w2.heap.size w2 wr) (fun i _ => n - (intOf i).toNat)
    case atStart => exact ⟨0, by omega, rfl, hr0.congr (fun i _ => by simp [xorF]), (Below.refl _ _).alloc (Nat.le_refl _) _⟩
    case round =>
      obtain ⟨k, hk, rfl, hrowk, hbel⟩ := hrel
      clear hr0
      have hsz : w2.heap.size < wr.heap.size := hrowk.lt
      by_cases hkn : k < n
      · have hc := hrowk.cell hkn
        have hf := hrowk.frozen k
        obtain ⟨ba, oa, rfl, hca'⟩ := (HA2.out.below HA2.out.old hbel) k (by rw [HAn.out]; exact hkn)
        obtain ⟨bb, ob, rfl, hcb'⟩ := (HB2'.out.below HB2'.out.old hbel) k (by rw [HBn.out]; exact hkn)
        have eA : A[k]'(by rw [HAn.out]; exact hkn) = A.getD k 0 := by rw [List.getD_eq_getElem?_getD, List.getElem?_eq_getElem]; rfl
        have eB : B[k]'(by rw [HBn.out]; exact hkn) = B.getD k 0 := by rw [List.getD_eq_getElem?_getD, List.getElem?_eq_getElem]; rfl
        rw [eA] at hca'
        rw [eB] at hcb'
        have hx := xor_cell (A.getD k 0) (B.getD k 0)
        have HN : Hid (xorF A B (k + 1) = fun j => if j = k then Value.int .u8 (((A.getD k 0 ^^^ B.getD k 0).toNat : Nat) : Int) else xorF A B k j) := funext fun j => (xorF_next A B k j).symm
        generalize (A.getD k 0).toNat = xa at *
        generalize (B.getD k 0).toNat = xb at *
        generalize (A.getD k 0 ^^^ B.getD k 0).toNat = xc at *
        obtain ⟨old, hold⟩ : ∃ v, v = xorF A B k k := ⟨_, rfl⟩
        rw [← hold] at hc
        have HRow := Lib.hid hrowk
        have HBel := Lib.hid hbel
        clear hold hrowk hbel eA eB
        go_wp2_with fail
        go_region
        all_goals
          go_wp2_with fail
          go_roundw
          case rel => exact ⟨k + 1, by omega, by go_num, by rw [HN.out]; exact World.rowIs.set (w := wr.drew) HRow.out k _, (HBel.out.drew).setCell (Nat.le_refl _) _⟩
          case measure => simp [intOf]; omega
      · obtain rfl : k = n := by omega
        have hct1 := fun len : Nat => run_cut_to (P := Try.prog) 22 5 Try.underlying22 size_u8 a len capa .i64 k (by omega)
        have hct2 := fun len : Nat => run_cut_to (P := Try.prog) 22 5 Try.underlying22 size_u8 b len capb .i64 k (by omega)
        obtain ⟨C, hC⟩ : ∃ C, C = List.zipWith (· ^^^ ·) A B := ⟨_, rfl⟩
        have hCl : C.length = k := by rw [hC, List.length_zipWith, HAn.out, HBn.out, Nat.min_self]
        have hbC : Bytes wr (some ⟨w2.heap.size, 0, none⟩) C := row_bytes hrowk C (by omega) (fun i hi => by
          have hi' : i < k := by omega
          unfold xorF
          rw [if_pos hi']
          congr 1
          subst hC
          have h1 : i < A.length := by rw [HAn.out]; exact hi'
          have h2 : i < B.length := by rw [HBn.out]; exact hi'
          rw [List.getElem_zipWith, List.getD_eq_getElem?_getD, List.getD_eq_getElem?_getD, List.getElem?_eq_getElem h1, List.getElem?_eq_getElem h2]
          rfl)
        have hRr := HR.out.of_block (hbel.block _ hlt)
        have hAr := HA2.out.below HA2.out.old hbel
        have hBr := HB2'.out.below HB2'.out.old hbel
        obtain ⟨s1, hs1⟩ : ∃ x, x = more 0 A := ⟨_, rfl⟩
        obtain ⟨s2, hs2⟩ : ∃ x, x = more 0 B := ⟨_, rfl⟩
        obtain ⟨s3, hs3⟩ : ∃ x, x = more 0 C := ⟨_, rfl⟩
        obtain ⟨s4, hs4⟩ : ∃ x, x = more 0 (List.replicate k 0) := ⟨_, rfl⟩
        have hl1 : s1 < 4294967296 := by rw [hs1]; exact more_lt _ _ (by omega)
        have hl2 : s2 < 4294967296 := by rw [hs2]; exact more_lt _ _ (by omega)
        have hl3 : s3 < 4294967296 := by rw [hs3]; exact more_lt _ _ (by omega)
        have hl4 : s4 < 4294967296 := by rw [hs4]; exact more_lt _ _ (by omega)
        have hq : s1 ^^^ s2 = s3 ^^^ s4 := by
          have := more_linear A B (by rw [HAn.out, HBn.out])
          rw [HAn.out, ← hC, ← hs1, ← hs2, ← hs3, ← hs4] at this
          exact this
        have hx12 := u32_xor_nat s1 s2 hl1 hl2
        have hx34 := u32_xor_nat s3 s4 hl3 hl4
        rw [hq] at hx12
        generalize s3 ^^^ s4 = q at *
        have H1 : Hid (∀ X, Below wr.heap.size wr X → Calls Try.prog 11 #[.pointer (some ⟨w1.heap.size, 0, none⟩), .int .u32 0, .slice a k capa] X fun e w' => e = .returned (.int .u32 s1) ∧ X = w') := fun X hX => by
          rw [hs1]; exact more_loose w1.heap.size 0 k A HAn.out.symm (by omega) a capa (by rw [HAn.out]; omega) X (hRr.of_block (hX.block _ hRr.lt)) (hAr.keep hX)
        have H2 : Hid (∀ X, Below wr.heap.size wr X → Calls Try.prog 11 #[.pointer (some ⟨w1.heap.size, 0, none⟩), .int .u32 0, .slice b k capb] X fun e w' => e = .returned (.int .u32 s2) ∧ X = w') := fun X hX => by
          rw [hs2]; exact more_loose w1.heap.size 0 k B HBn.out.symm (by omega) b capb (by rw [HBn.out]; omega) X (hRr.of_block (hX.block _ hRr.lt)) (hBr.keep hX)
        have H3 : Hid (∀ X, Below wr.heap.size wr X → Calls Try.prog 11 #[.pointer (some ⟨w1.heap.size, 0, none⟩), .int .u32 0, .slice (some ⟨w2.heap.size, 0, none⟩) k k] X fun e w' => e = .returned (.int .u32 s3) ∧ X = w') := fun X hX => by
          rw [hs3]; exact more_loose w1.heap.size 0 k C hCl.symm (by omega) _ k (by omega) X (hRr.of_block (hX.block _ hRr.lt)) (hbC.keep hX)
        have hP2 : Below wr.heap.size wr (wr.alloc (Obj.cells (madeCells #[Value.int .u8 0] k) 5)).drew := ((Below.refl _ _).alloc (Nat.le_refl _) _).drew
        have H4 : Hid (Calls Try.prog 11 #[.pointer (some ⟨w1.heap.size, 0, none⟩), .int .u32 0, .slice (some ⟨wr.heap.size, 0, none⟩) k k] (wr.alloc (Obj.cells (madeCells #[Value.int .u8 0] k) 5)).drew fun e w' => e = .returned (.int .u32 s4) ∧ (wr.alloc (Obj.cells (madeCells #[Value.int .u8 0] k) 5)).drew = w') := by
          rw [hs4]
          refine more_loose w1.heap.size 0 k (List.replicate k 0) (by rw [List.length_replicate]) (by omega) _ k (by rw [List.length_replicate]; omega) _ (hRr.of_block (hP2.block _ hRr.lt)) ?_
          have hz := World.rowIs_made wr (.int .u8 0) k 5
          exact row_bytes (w := (wr.alloc (Obj.cells (madeCells #[Value.int .u8 0] k) 5)).drew) hz (List.replicate k 0) (by rw [List.length_replicate]; exact Nat.le_refl _) (fun i hi => by rw [List.getElem_replicate]; rfl)
        have HP1 : Hid (Below wr.heap.size wr wr.drew) := (Below.refl _ _).drew
        have HP2 := Lib.hid hP2
        have HBE := Lib.hid hbel
        clear hP2 hs1 hs2 hs3 hs4 hC hCl hbC hRr hAr hBr hq hrowk hbel hl1 hl2 hl3 hl4
        go_wp2_with fail
        go_region_with (first
          | (go_at_call_of 11 a; refine (H1.out _ ?_).mono ?_; (first | exact HP1.out | exact HP2.out); rintro e w' ⟨rfl, rfl⟩)
          | (go_at_call_of 11 b; refine (H2.out _ ?_).mono ?_; (first | exact HP1.out | exact HP2.out); rintro e w' ⟨rfl, rfl⟩)
          | (go_at_call_of 11 (w2.heap.size); refine (H3.out _ ?_).mono ?_; (first | exact HP1.out | exact HP2.out); rintro e w' ⟨rfl, rfl⟩)
          | (go_at_call_of 11 (wr.heap.size); refine (H4.out).mono ?_; rintro e w' ⟨rfl, rfl⟩))
        all_goals
          go_wp2_with fail
          go_ret
          exact ⟨by simp [Act.put], chain (chain (chain HB1.out HB2.out) HBE.out) HP2.out⟩

set_option maxRecDepth 100000 in
theorem linear_big (n la lb : Nat) (a : Option Addr) (capa : Nat) (b : Option Addr) (capb : Nat) (hla : la ≤ maxLen) (hlb : lb ≤ maxLen) (hn : 3000 < n) (hcase : (n = la ∧ n ≤ lb) ∨ (n = lb ∧ n < la)) (w : World) :
    Calls Try.prog 7 #[.slice a la capa, .slice b lb capb] w fun e w' => e = .returned (.bool true) ∧ Below w.heap.size w w' := by
  unfold maxLen at hla hlb
  rcases hcase with ⟨rfl, hle⟩ | ⟨rfl, hle⟩
  all_goals
    go_enter Try.func7, Try.ntmps7
    go_wp2_with fail
    refine (awake_any _).mono ?_
    rintro e w1 ⟨rfl, hb1⟩
    have HB1 := Lib.hid hb1
    clear hb1
    go_wp2_with fail
    go_ret
    exact ⟨rfl, HB1.out⟩
theorem linear_any (a : Option Addr) (capa : Nat) (A : List UInt8) (b : Option Addr) (capb : Nat) (B : List UInt8) (hA : capa ≤ maxLen) (hB : capb ≤ maxLen) (hca : A.length ≤ capa) (hcb : B.length ≤ capb) (w : World) (ha : Bytes w a A) (hb : Bytes w b B) :
    Calls Try.prog 7 #[.slice a A.length capa, .slice b B.length capb] w fun e w' => e = .returned (.bool true) ∧ Below w.heap.size w w' := by
  obtain ⟨n, hn⟩ : ∃ n, n = min A.length B.length := ⟨_, rfl⟩
  have hcase : (n = A.length ∧ n ≤ B.length) ∨ (n = B.length ∧ n < A.length) := by omega
  by_cases h : 3000 < n
  · exact linear_big n _ _ a capa b capb (by omega) (by omega) h hcase w
  · exact linear_small n _ _ a capa (A.take n) b capb (B.take n) (by omega) (by omega) hca hcb (by omega) (by rw [List.length_take]; omega) (by rw [List.length_take]; omega) hcase w (ha.take n) (hb.take n)
end Go.Proofs.Ytejklnnhgpinbaa.Su
