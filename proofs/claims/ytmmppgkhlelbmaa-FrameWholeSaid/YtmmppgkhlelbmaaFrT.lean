/- FrameLong, walked. No condition. -/
import Derived.Test.YtmmppgkhlelbmaaFrR
import Derived.Test.YtmmppgkhlelbmaaFrQ
namespace Go.Proofs.Ytmmppgkhlelbmaa.Fr
open Go.RowKit Ba Go.Deep
set_option linter.unusedVariables false

/-- Noughts. -/
def nou (n : Nat) : List UInt8 := List.replicate n 0
theorem nou_length (n : Nat) : (nou n).length = n := List.length_replicate
theorem nou_bytes (w : World) (n : Nat) : Bytes (w.alloc (.cells (madeCells #[.int .u8 0] n) 5)) (some ⟨w.heap.size, 0, none⟩) (nou n) := by
  refine row_bytes (World.rowIs_made w (.int .u8 0) n 5) (nou n) (by rw [nou_length]; exact Nat.le_refl _) ?_
  intro i hi
  have e : (nou n)[i]'hi = 0 := by simp [nou]
  rw [e]
  rfl
/-- Encode of a result with n noughts. -/
theorem enc_long (n : Nat) (hn : n ≤ 262203) (g cap : Nat) (w : World) (hb : Bytes w (some ⟨g, 0, none⟩) (nou n)) :
    Calls Try.prog 18 #[.agg #[.int .i64 9, .int .i64 1, .int .i64 0, .int .i64 0, .slice (some ⟨g, 0, none⟩) n cap]] w
      (Encd (laidV (((n + 5 : Nat)) : Int) 4 ++ encP 9 4 0 0 1 0 0 (nou n)) 0 w) := by
  have h := encode_yes 9 4 0 0 (by omega) true (by omega) (by omega) (by omega) 1 0 0 (nou n) (some ⟨g, 0, none⟩) n cap (nou_length n).symm (by omega) (fun h => by cases h) w hb (fun w => shapeOf_yes 9 (by omega) w)
  have hf : fit3 4 0 0 1 0 0 = true := by decide
  have hK : encK 4 0 0 true 1 0 0 (nou n) = 0 := by
    unfold encK
    rw [if_neg (by rw [hf]; decide), if_neg (fun h => by cases h.1), if_neg (by rw [nou_length]; omega)]
  unfold encL at h
  rw [hK, if_pos rfl, encP_length, nou_length, show 1 + (4 + 0 + 0) + n = n + 5 by omega] at h
  exact h
theorem enc_over (n : Nat) (hn : 262203 < n) (hn2 : n ≤ 1000000000) (g cap : Nat) (w : World) (hb : Bytes w (some ⟨g, 0, none⟩) (nou n)) :
    Calls Try.prog 18 #[.agg #[.int .i64 9, .int .i64 1, .int .i64 0, .int .i64 0, .slice (some ⟨g, 0, none⟩) n cap]] w (Encd [] 3 w) := by
  have h := encode_yes 9 4 0 0 (by omega) true (by omega) (by omega) (by omega) 1 0 0 (nou n) (some ⟨g, 0, none⟩) n cap (nou_length n).symm hn2 (fun h => by cases h) w hb (fun w => shapeOf_yes 9 (by omega) w)
  have hf : fit3 4 0 0 1 0 0 = true := by decide
  have hK : encK 4 0 0 true 1 0 0 (nou n) = 3 := by
    unfold encK
    rw [if_neg (by rw [hf]; decide), if_neg (fun h => by cases h.1), if_pos (by rw [nou_length]; omega)]
  unfold encL at h
  rw [hK, if_neg (by decide)] at h
  exact h
/-- A message behind its length is the one that a parser finds. -/
theorem runB_enc (pay : List UInt8) (f : Fr) (h4 : pay.length ≤ 262208) (hc : parseC pay = 0) (hf : parseF pay = f) : runB (laidV ((pay.length : Nat) : Int) 4 ++ pay) = ([f], 0, [], false) := by
  have ht : (laidV ((pay.length : Nat) : Int) 4 ++ pay).take 4 = laidV ((pay.length : Nat) : Int) 4 := List.take_left' (laid_length _ _)
  have hd : (laidV ((pay.length : Nat) : Int) 4 ++ pay).drop 4 = pay := List.drop_left' (laid_length _ _)
  have hfit : fitsV ((pay.length : Nat) : Int) 4 = true := by
    unfold fitsV
    simp only [Bool.and_eq_true, decide_eq_true_eq, beq_iff_eq]
    refine ⟨by omega, Int.ediv_eq_zero_of_lt (by omega) ?_⟩
    show ((pay.length : Nat) : Int) < 4294967296
    omega
  have hN : numV (laidV ((pay.length : Nat) : Int) 4 ++ pay) = pay.length := by
    unfold numV
    rw [ht]
    have := leV_laid 4 _ hfit
    omega
  have hP : payV (laidV ((pay.length : Nat) : Int) 4 ++ pay) = pay := by
    unfold payV
    rw [hd, hN, List.take_length]
  have hl : (laidV ((pay.length : Nat) : Int) 4 ++ pay).length = 4 + pay.length := by rw [List.length_append, laid_length]
  rw [runB_one _ (by rw [hN, hl]; exact Nat.le_refl _) (by rw [hN]; exact h4) (by rw [hP]; exact hc), hP, hf, hN]
  have hnil : (laidV ((pay.length : Nat) : Int) 4 ++ pay).drop (4 + pay.length) = [] := List.drop_eq_nil_of_le (by rw [hl]; exact Nat.le_refl _)
  rw [hnil, runB_few [] (by decide)]
theorem runB_long_frame (n : Nat) (hn : n ≤ 262203) : runB (laidV (((n + 5 : Nat)) : Int) 4 ++ encP 9 4 0 0 1 0 0 (nou n)) = ([⟨9, 1, 0, 0, nou n⟩], 0, [], false) := by
  have h := parse_enc 9 (by omega) 1 0 0 (nou n) (by decide) (.inl rfl)
  have hl : (encP 9 4 0 0 1 0 0 (nou n)).length = n + 5 := by rw [encP_length, nou_length]; omega
  have hr := runB_enc (encP 9 4 0 0 1 0 0 (nou n)) ⟨9, 1, 0, 0, nou n⟩ (by rw [hl]; omega) h.1 h.2
  rw [hl] at hr
  exact hr
def big4 : List UInt8 := [65, 0, 4, 0]
theorem runB_big4 : runB big4 = ([], 3, [], true) := runB_long big4 (by decide) (by decide)
set_option maxRecDepth 100000 in
set_option maxHeartbeats 3200000 in
theorem long_any (w : World) : Calls Try.prog 6 #[] w fun e w' => e = .returned (.bool true) ∧ Below w.heap.size w w' := by
  have hz := fun w => (by kernel_rfl : (zeroValue 39).run Try.prog w = .ok (.agg #[.int .i64 0, .int .i64 0, .int .i64 0, .int .i64 0, .slice none 0 0]) w)
  have hmk1 : ∀ w, (Instr.makeSlice 22 (.int .i64 262203) (.int .i64 262203)).run Try.prog w = .ok (.slice (some ⟨w.heap.size, 0, none⟩) 262203 262203) (w.alloc (.cells (madeCells #[.int .u8 0] 262203) 5)) := run_make_row' (P := Try.prog) 22 5 (.int .u8 0) 1 Try.underlying22 info_u8 rfl .i64 .i64 262203 (by omega) (by omega)
  have hmk2 : ∀ w, (Instr.makeSlice 22 (.int .i64 262204) (.int .i64 262204)).run Try.prog w = .ok (.slice (some ⟨w.heap.size, 0, none⟩) 262204 262204) (w.alloc (.cells (madeCells #[.int .u8 0] 262204) 5)) := run_make_row' (P := Try.prog) 22 5 (.int .u8 0) 1 Try.underlying22 info_u8 rfl .i64 .i64 262204 (by omega) (by omega)
  have HE1 := Lib.hid (fun g cap w hb => enc_long 262203 (by omega) g cap w hb)
  have HE2 := Lib.hid (fun g cap w hb => enc_over 262204 (by omega) (by omega) g cap w hb)
  have HL1 : Hid ((laidV (((262203 + 5 : Nat)) : Int) 4 ++ encP 9 4 0 0 1 0 0 (nou 262203)).length = 262212) := Lib.hid (by rw [List.length_append, laid_length, encP_length, nou_length])
  have HR1 := Lib.hid (runB_long_frame 262203 (by omega))
  generalize laidV (((262203 + 5 : Nat)) : Int) 4 ++ encP 9 4 0 0 1 0 0 (nou 262203) = A at *
  go_enter Try.func6, Try.ntmps6
  go_wp2_with fail
  refine (awake_any _).mono ?_
  rintro e w1 ⟨rfl, hb1⟩
  have HB1 := Lib.hid hb1
  clear hb1
  go_wp2_with fail
  have s1 := HB1.out.size
  refine (HE1.out _ _ _ (nou_bytes w1 262203)).mono ?_
  rintro e w2 ⟨v2, rfl, hb2, ho2⟩
  obtain ⟨a2, c2, rfl, hy2, hl2, hm2, hn2, _⟩ := ho2.view2
  rw [HL1.out]
  have HY2 := Lib.hid hy2
  have HN2 := Lib.hid hn2
  have HB2 := Lib.hid (chain (HB1.out.alloc s1 (.cells (madeCells #[.int .u8 0] 262203) 5)) hb2)
  clear hb2 ho2 hy2 hl2 hm2 hn2 HE1
  go_wp2_with fail
  have s2 := HB2.out.size
  refine (HE2.out _ _ _ (nou_bytes w2 262204)).mono ?_
  rintro e w3 ⟨v3, rfl, hb3, ho3⟩
  have HB3 := Lib.hid (chain (HB2.out.alloc s2 (.cells (madeCells #[.int .u8 0] 262204) 5)) hb3)
  have HY3 := Lib.hid (HY2.out.keep (((Below.refl w2.heap.size w2).alloc (Nat.le_refl _) _).trans (hb3.mono (by simp))))
  clear hb3 ho3 HE2 hmk1 hmk2 HY2
  go_wp2_with fail
  refine (new_any w3).mono ?_
  rintro e w4 ⟨rfl, hp4, hb4, hs4⟩
  have HP4 := Lib.hid hp4
  have HB4 := Lib.hid (chain HB3.out hb4)
  have HY4 := Lib.hid (HY3.out.keep hb4)
  clear hp4 hb4 HY3
  go_wp2_with fail
  refine (new_any w4).mono ?_
  rintro e w5 ⟨rfl, hp5, hb5, hs5⟩
  have HQ5 := Lib.hid hp5
  have HP5 := Lib.hid (HP4.out.below hb5 (Nat.le_refl _))
  have HB5 := Lib.hid (chain HB4.out hb5)
  have HY5 := Lib.hid (HY4.out.keep hb5)
  have s35 : w3.heap.size < w4.heap.size := by omega
  have s3 := HB3.out.size
  have s4 := HB4.out.size
  have s5' := HB5.out.size
  clear hp5 hb5 HY4 HP4 hs4 hs5
  have HAD : Hid (Calls Try.prog 11 #[.pointer (some ⟨w3.heap.size, 0, none⟩), .slice a2 262212 c2] w5 (Added w3.heap.size 60 39 ([⟨9, 1, 0, 0, nou 262203⟩], 0, [], false) w5)) := Lib.hid (by
    have h := add_whole w3.heap.size [] A A rfl w5 HP5.out a2 262212 c2 HL1.out.symm HY5.out HN2.out (by rw [HL1.out]; decide)
    rw [HR1.out] at h
    exact h)
  go_wp2_with fail
  refine HAD.out.mono ?_
  rintro e w6 ⟨v6, rfl, hf6, hp6, hbt6⟩
  obtain ⟨a6, c6, rfl, hv6⟩ := hf6.view
  obtain ⟨g6, rfl, _, ad, cd, _, _, _, _, k4, _⟩ := hv6 0 (by decide)
  have k4 : w6.cell? ⟨g6, 4, none⟩ = some (.slice ad 262203 cd) := by
    have e : (nou 262203).length = 262203 := nou_length _
    rw [← e]; exact k4
  have HQ6 : Hid (PsIs w6 w4.heap.size 60 [] false) := Lib.hid (by
    obtain ⟨ap, cp, hk⟩ := HP5.out.blk
    exact HQ5.out.but hbt6 (Nat.le_refl _) (by omega) hk (by decide))
  have HB6 := Lib.hid (HB5.out.trans (hbt6.below (B' := w.heap.size) s5' s3))
  have s6 := HB6.out.size
  have lt6 := cell_lt k4
  have lq6 := HQ6.out.lt
  clear hf6 hp6 hbt6 hv6 HP5 HQ5 HAD HR1 HL1 HY5
  go_wp2_with fail
  have HBY7 := Lib.hid (Bytes.lit w6 big4 5 (0, 0) #[.int .u8 65, .int .u8 0, .int .u8 4, .int .u8 0] (by rfl))
  have HA7 : Hid (Calls Try.prog 11 #[.pointer (some ⟨w4.heap.size, 0, none⟩), .slice (some ⟨w6.heap.size, 0, none⟩) 4 4] (w6.alloc (.cells #[.int .u8 65, .int .u8 0, .int .u8 4, .int .u8 0] 5)) (Added w4.heap.size 60 39 ([], 3, [], true) (w6.alloc (.cells #[.int .u8 65, .int .u8 0, .int .u8 4, .int .u8 0] 5)))) := Lib.hid (by
    have h := add_whole w4.heap.size [] big4 big4 rfl _ (HQ6.out.alloc (.cells #[.int .u8 65, .int .u8 0, .int .u8 4, .int .u8 0] 5)) (some ⟨w6.heap.size, 0, none⟩) 4 4 rfl HBY7.out (fun h => by cases h) (by decide)
    rw [runB_big4] at h
    exact h)
  have k7 : (w6.alloc (.cells #[.int .u8 65, .int .u8 0, .int .u8 4, .int .u8 0] 5)).cell? ⟨g6, 4, none⟩ = some (.slice ad 262203 cd) := (((Below.refl w6.heap.size w6).alloc (Nat.le_refl _) _).cell (p := ⟨g6, 4, none⟩) lt6).trans k4
  have HB7 := Lib.hid (HB6.out.alloc s6 (.cells #[.int .u8 65, .int .u8 0, .int .u8 4, .int .u8 0] 5))
  have hne6 : g6 ≠ w4.heap.size := by
    intro e
    subst e
    obtain ⟨ap, cp, hk⟩ := HQ6.out.blk
    have h' : w6.heap[w4.heap.size]? = _ := hk
    simp [World.cell?, h'] at k4
  refine HA7.out.mono ?_
  rintro e w8 ⟨v8, rfl, hf8, hp8, hbt8⟩
  have k8 : w8.cell? ⟨g6, 4, none⟩ = some (.slice ad 262203 cd) := (World.cell?_of_block (a := ⟨g6, 4, none⟩) (hbt8.block g6 (by simp; exact Nat.lt_succ_of_lt lt6) hne6)).trans k7
  have HQ8 : Hid (PsIs w8 w4.heap.size 60 [] true) := Lib.hid hp8
  have HB8 := Lib.hid (HB7.out.trans (hbt8.below (B' := w.heap.size) (by have := HB7.out.size; exact this) s4))
  have lt8 := cell_lt k8
  clear hf8 hp8 hbt8 k4 k7 HA7 HBY7 HQ6
  go_wp2_with fail
  have k9 : (w8.alloc (.cells #[.int .u8 1] 5)).cell? ⟨g6, 4, none⟩ = some (.slice ad 262203 cd) := (((Below.refl w8.heap.size w8).alloc (Nat.le_refl _) _).cell (p := ⟨g6, 4, none⟩) lt8).trans k8
  have HB9 := Lib.hid (HB8.out.alloc HB8.out.size (.cells #[.int .u8 1] 5))
  refine (add_broken w4.heap.size [] _ (HQ8.out.alloc (.cells #[.int .u8 1] 5)) _ 1 1).mono ?_
  rintro e w10 ⟨v10, rfl, hf10, hp10, hbt10⟩
  have k10 : w10.cell? ⟨g6, 4, none⟩ = some (.slice ad 262203 cd) := (World.cell?_of_block (a := ⟨g6, 4, none⟩) (hbt10.block g6 (by simp; exact Nat.lt_succ_of_lt lt8) hne6)).trans k9
  have HQ10 : Hid (PsIs w10 w4.heap.size 60 [] true) := Lib.hid hp10
  have HB10 := Lib.hid (HB9.out.trans (hbt10.below (B' := w.heap.size) (by have := HB9.out.size; exact this) s4))
  have HH := Lib.hid (held_any _ [] true w10 HQ10.out)
  have HBR := Lib.hid (broken_any _ [] true w10 HQ10.out)
  clear hf10 hp10 hbt10 k8 k9
  go_wp2_with fail
  refine HBR.out.mono ?_
  rintro e w' ⟨rfl, rfl⟩
  go_wp2_with fail
  refine HH.out.mono ?_
  rintro e w' ⟨rfl, rfl⟩
  go_wp2_with fail
  go_ret
  exact ⟨rfl, HB10.out⟩
end Go.Proofs.Ytmmppgkhlelbmaa.Fr
