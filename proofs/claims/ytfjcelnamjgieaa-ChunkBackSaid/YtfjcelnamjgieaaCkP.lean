/- Contract of the law's awake. No condition. -/
import Derived.Test.YtfjcelnamjgieaaCkO
namespace Go.Proofs.Ytfjcelnamjgieaa.Ck
open Go.RowKit Ba Go.Deep
set_option linter.unusedVariables false

def sIHDR : ByteArray := ⟨#[73, 72, 68, 82]⟩
def sIDAT : ByteArray := ⟨#[73, 68, 65, 84]⟩
def sTRNS : ByteArray := ⟨#[116, 82, 78, 83]⟩
def fs3 : List Ch := [(sIHDR, List.replicate 13 0), (sIDAT, []), (iend, [])]
theorem names3 : nameB sIHDR = true ∧ nameB sIDAT = true ∧ nameB iend = true ∧ nameB sTRNS = true := by decide
theorem crit3 : critB sIDAT = true ∧ critB sTRNS = false := by decide
theorem list3 : sIHDR.toList = kIHDR ∧ sIDAT.toList = kIDAT ∧ iend.toList = kIEND := by
  refine ⟨?_, ?_, ?_⟩ <;> (rw [ByteArray.toList_eq]; rfl)
theorem join3 : joinV fs3 = (sigL ++ strmC fs3, 0) := by
  unfold joinV
  rw [if_pos (by decide)]
theorem cut3 : cutV (sigL ++ strmC fs3) = (fs3, 0) := by
  have hl : (strmC fs3).length = 49 := by
    have h := strmC_length 3 fs3 (by decide)
    rw [show fs3.take 3 = fs3 from rfl] at h
    rw [h]
    decide
  obtain ⟨n1, n2, n3, _⟩ := names3
  obtain ⟨l1, l2, l3⟩ := list3
  refine cut_joined [(sIHDR, List.replicate 13 0), (sIDAT, [])] (iend, []) ?_ n3 (by decide) rfl (by
    show (strmC fs3).length ≤ _
    rw [hl]; decide)
  intro f hf
  simp only [List.mem_cons, List.not_mem_nil, or_false] at hf
  rcases hf with rfl | rfl
  · exact ⟨n1, by decide, by rw [l1, l3]; decide⟩
  · exact ⟨n2, by decide, by rw [l2, l3]; decide⟩
theorem order3 : orderV fs3 = 0 := by
  obtain ⟨l1, l2, l3⟩ := list3
  unfold orderV okO endsB midC
  have e : walkV wk0 ((fs3.drop 1).take (fs3.length - 2)) = some ⟨false, false, true, false⟩ := by
    show walkV wk0 [(sIDAT, [])] = _
    unfold walkV walkV nextV isK
    rw [l2]
    rfl
  rw [e]
  have h1 : isK (fs3.getD 0 Ch.zero).1 kIHDR = true := by show (sIHDR.toList == kIHDR) = true; rw [l1]; decide
  have h2 : isK (fs3.getD (fs3.length - 1) Ch.zero).1 kIEND = true := by show (iend.toList == kIEND) = true; rw [l3]; decide
  rw [h1, h2]
  rfl
theorem nou13 (w : World) : Bytes (w.alloc (.cells (madeCells #[.int .u8 0] 13) 5)) (some ⟨w.heap.size, 0, none⟩) (List.replicate 13 0) := by
  refine row_bytes (World.rowIs_made w (.int .u8 0) 13 5) _ (by rw [List.length_replicate]; exact Nat.le_refl _) ?_
  intro i hi
  have e : (List.replicate 13 (0 : UInt8))[i]'hi = 0 := List.getElem_replicate _
  rw [e]
  rfl
theorem row3 (w : World) : ChRow ((w.alloc (.cells (madeCells #[.int .u8 0] 13) 5)).alloc (.cells #[.string sIHDR, .slice (some ⟨w.heap.size, 0, none⟩) 13 13, .string sIDAT, .slice none 0 0, .string iend, .slice none 0 0] 51)) (.slice (some ⟨w.heap.size + 1, 0, none⟩) 3 3) fs3 := by
  have hb := Blk.new (w.alloc (.cells (madeCells #[.int .u8 0] 13) 5)) #[.string sIHDR, .slice (some ⟨w.heap.size, 0, none⟩) 13 13, .string sIDAT, .slice none 0 0, .string iend, .slice none 0 0] 51
  have e : (w.alloc (.cells (madeCells #[.int .u8 0] 13) 5)).heap.size = w.heap.size + 1 := by simp
  rw [e] at hb
  have hm : (3 : Nat) ≤ maxLen := by unfold maxLen; omega
  have hm2 : (13 : Nat) ≤ maxLen := by unfold maxLen; omega
  refine ⟨_, 3, rfl, Nat.le_refl _, hm, (fun h => by cases h), fun i hi => ?_⟩
  have hi3 : i = 0 ∨ i = 1 ∨ i = 2 := by have : i < 3 := hi; omega
  rcases hi3 with rfl | rfl | rfl
  · exact ⟨_, 0, _, 13, rfl, hb.cell (i := 0) rfl, hb.cell (i := 1) rfl, (nou13 w).keep ((Below.refl _ _).alloc (Nat.le_refl _) _), (fun h => by cases h), hm2⟩
  · exact ⟨_, 0, none, 0, rfl, hb.cell (i := 2) rfl, hb.cell (i := 3) rfl, Bytes.nil _ _, (fun _ => rfl), Nat.zero_le _⟩
  · exact ⟨_, 0, none, 0, rfl, hb.cell (i := 4) rfl, hb.cell (i := 5) rfl, Bytes.nil _ _, (fun _ => rfl), Nat.zero_le _⟩
theorem kinds3 : ∀ f ∈ fs3, f.1.size ≤ 140737488351232 := by
  intro f hf
  simp only [fs3, List.mem_cons, List.not_mem_nil, or_false] at hf
  rcases hf with rfl | rfl | rfl
  · show 4 ≤ _; omega
  · show 4 ≤ _; omega
  · show 4 ≤ _; omega
set_option maxRecDepth 100000 in
set_option maxHeartbeats 6400000 in
theorem awake_any (w : World) : Calls Try.prog 7 #[] w fun e w' => e = .returned (.bool true) ∧ Below w.heap.size w w' := by
  have hmk : ∀ w, (Instr.makeSlice 22 (.int .i64 13) (.int .i64 13)).run Try.prog w = .ok (.slice (some ⟨w.heap.size, 0, none⟩) 13 13) (w.alloc (.cells (madeCells #[.int .u8 0] 13) 5)) := run_make_row' (P := Try.prog) 22 5 (.int .u8 0) 1 Try.underlying22 info_u8 rfl .i64 .i64 13 (by omega) (by omega)
  have hz := fun w => (by kernel_rfl : (zeroValue 51).run Try.prog w = .ok (.agg #[.string ByteArray.empty, .slice none 0 0]) w)
  go_enter Try.func7, Try.ntmps7
  go_wp2_with fail
  have HR := Lib.hid (row3 w)
  have HB0 : Hid (Below w.heap.size w ((w.alloc (.cells (madeCells #[.int .u8 0] 13) 5)).alloc (.cells #[.string sIHDR, .slice (some ⟨w.heap.size, 0, none⟩) 13 13, .string sIDAT, .slice none 0 0, .string iend, .slice none 0 0] 51))) := Lib.hid (((Below.refl _ _).alloc (Nat.le_refl _) _).alloc (by simp) _)
  refine (join_any _ fs3 (by decide) kinds3 _ HR.out).mono ?_
  rintro e w5 ⟨v5, rfl, ho5, hb5⟩
  rw [join3] at ho5 ⊢
  have HB5 := Lib.hid (chain HB0.out hb5)
  obtain ⟨a5, c5, rfl, hy5, hl5, hm5, hn5, _⟩ := own_view2 ho5
  have HC := Lib.hid (cut_any (sigL ++ strmC fs3) a5 _ c5 rfl hl5 hm5 hn5 w5 hy5)
  rw [cut3] at HC
  clear ho5 hb5 hy5 hl5 hm5 hn5 HR hmk HB0
  show _
  simp only [] at HC ⊢
  generalize (sigL ++ strmC fs3).length = N at *
  go_wp2_with fail
  refine HC.out.mono ?_
  rintro e w6 ⟨v6, rfl, hc6, hb6⟩
  have HB6 := Lib.hid (chain HB5.out hb6)
  have HR6 := Lib.hid hc6.row
  obtain ⟨a6, c6, rfl, _, _, _, hv6⟩ := hc6.row
  obtain ⟨g6, o6, ad, cd, rfl, k0, _⟩ := hv6 1 (by decide)
  have k0' : w6.cell? ⟨g6, o6 + 2, none⟩ = some (.string sIDAT) := k0
  have HO := Lib.hid (order_any _ fs3 (fun f hf => Nat.le_trans (kinds3 f hf) (by unfold maxLen; omega)) w6 HR6.out)
  rw [order3] at HO
  have hL : fs3.length = 3 := rfl
  rw [hL] at HO ⊢
  have hid1 : (sIDAT.toList == [73, 68, 65, 84]) = true := by rw [list3.2.1]; decide
  have HC1 := Lib.hid (fun u => crit_any sIDAT (by show 4 ≤ maxLen; unfold maxLen; omega) u)
  have HC2 := Lib.hid (fun u => crit_any sTRNS (by show 4 ≤ maxLen; unfold maxLen; omega) u)
  rw [crit3.1] at HC1
  rw [crit3.2] at HC2
  clear hc6 hb6 k0 hv6 hL HC
  go_wp2_with fail
  refine HO.out.mono ?_
  rintro e w7 ⟨rfl, hb7⟩
  have HB7 := Lib.hid (chain HB6.out hb7)
  clear hb7
  go_wp2_with fail
  refine (HC1.out _).mono ?_
  rintro e w' ⟨rfl, rfl⟩
  go_wp2_with fail
  refine (HC2.out _).mono ?_
  rintro e w' ⟨rfl, rfl⟩
  go_wp2_with fail
  go_ret
  exact ⟨rfl, HB7.out⟩
end Go.Proofs.Ytfjcelnamjgieaa.Ck
