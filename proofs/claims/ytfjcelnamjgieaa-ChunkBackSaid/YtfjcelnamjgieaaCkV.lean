/- ChunkJoins, walked. Condition: chunks lie at the slice; no string and no slice passes the form's own reach. -/
import Derived.Test.YtfjcelnamjgieaaCkU
namespace Go.Proofs.Ytfjcelnamjgieaa.Ck
open Go.RowKit Ba Go.Deep
set_option linter.unusedVariables false

theorem few_take : ∀ (q : Nat) (fs : List Ch), q ≤ fs.length → totC (fs.take q) ≤ 12 * q + sumF (fs.take q) ∧ ∀ i (h : i < fs.length), i < q → fs[i].1.size ≤ sumF (fs.take q) ∧ fs[i].2.length ≤ sumF (fs.take q) := by
  intro q
  induction q with
  | zero => intro fs _; exact ⟨Nat.zero_le _, fun i h hi => by omega⟩
  | succ q ih =>
    intro fs hq
    obtain ⟨h1, h2⟩ := ih fs (by omega)
    have e1 := totC_step fs q (by omega)
    have e2 : sumF (fs.take (q + 1)) = sumF (fs.take q) + (fs[q]'(by omega)).2.length + (fs[q]'(by omega)).1.size := by rw [List.take_succ_eq_append_getElem (by omega), sumF_snoc]
    refine ⟨by rw [e1, e2]; omega, fun i h hi => ?_⟩
    by_cases hiq : i < q
    · have := h2 i h hiq
      rw [e2]
      omega
    · obtain rfl : i = q := by omega
      rw [e2]
      omega
theorem few_yes {fs : List Ch} (h : fewB fs = true) : fs.length ≤ 100 ∧ totC fs ≤ 10200 ∧ ∀ f ∈ fs, f.1.size ≤ 9000 ∧ f.2.length ≤ 9000 := by
  unfold fewB at h
  rw [Bool.and_eq_true, decide_eq_true_eq, decide_eq_true_eq] at h
  obtain ⟨h1, h2⟩ := few_take fs.length fs (Nat.le_refl _)
  rw [List.take_length] at h1 h2
  refine ⟨h.1, by omega, fun f hf => ?_⟩
  obtain ⟨i, hi, rfl⟩ := List.getElem_of_mem hf
  have := h2 i hi hi
  omega
set_option maxRecDepth 100000 in
set_option maxHeartbeats 12800000 in
theorem joins_any (v : Value) (fs : List Ch) (hsz : SzC fs) (w : World) (h1 : ChRow w v fs) :
    Calls Try.prog 4 #[v] w fun e w' => e = .returned (.bool true) ∧ Below w.heap.size w w' := by
  have HR := Lib.hid h1
  have HFW := Lib.hid (fun u hu => few_any v fs hsz u (h1.keep hu))
  have hlen := h1
  obtain ⟨a, ca, rfl, x1, x2, x3, hv1⟩ := hlen
  have HV1 := Lib.hid hv1
  obtain ⟨LF, hLF⟩ : ∃ L, L = fs.length := ⟨_, rfl⟩
  rw [← hLF] at HR HFW ⊢
  have HLF := Lib.hid hLF
  have HKS := Lib.hid (fun f hf => (hsz f hf).1)
  clear hv1 x1 x2 x3 hLF h1 hsz
  go_enter Try.func4, Try.ntmps4
  go_wp2_with fail
  refine (awake_any _).mono ?_
  rintro e w1 ⟨rfl, hb1⟩
  have HB1 := Lib.hid hb1
  have HF1 := Lib.hid (HFW.out w1 hb1)
  clear hb1
  go_wp2_with fail
  refine HF1.out.mono ?_
  rintro e w2 ⟨rfl, hb2⟩
  have HB2 := Lib.hid (chain HB1.out hb2)
  clear hb2
  cases hfw : fewB fs with
  | false =>
    clear hfw
    go_wp2_with fail
    go_ret
    exact ⟨rfl, HB2.out⟩
  | true =>
    obtain ⟨f1, f2, f3⟩ := few_yes hfw
    have HT := Lib.hid (show 8 + totC fs ≤ 262144 by omega)
    have HBD := Lib.hid (show fs.length ≤ 1000000000 by omega)
    have HDL := Lib.hid (show ∀ f ∈ fs, f.2.length ≤ 1000000000 from fun f hf => by have := (f3 f hf).2; omega)
    have HKM := Lib.hid (show ∀ f ∈ fs, f.1.size ≤ maxLen from fun f hf => by have := (f3 f hf).1; unfold maxLen; omega)
    have hlb : LF ≤ 100 := by rw [HLF.out]; exact f1
    have HA := Lib.hid (back_any _ fs HBD.out HDL.out w2 (HR.out.keep HB2.out))
    clear hfw f1 f2 f3
    go_wp2_with fail
    refine HA.out.mono ?_
    rintro e w3 ⟨v3, rfl, hc3, hb3⟩
    have HB3 := Lib.hid (chain HB2.out hb3)
    have HJ := Lib.hid (join_any v3 fs HT.out HKS.out w3 hc3.row)
    have HOJ := Lib.hid (fun u hu => order_any v3 fs HKM.out u (hc3.row.keep hu))
    clear hc3 hb3
    go_wp2_with fail
    refine HJ.out.mono ?_
    rintro e w4 ⟨v4, rfl, ho4, hb4⟩
    have HB4 := Lib.hid (chain HB3.out hb4)
    obtain ⟨a4, c4, rfl, hy4, _⟩ := own_view2 ho4
    have HY4 := Lib.hid hy4
    have HRJ := Lib.hid (rjoin_any _ fs HT.out HKS.out w4 (by have h := HR.out.keep HB4.out; exact h))
    clear ho4 hb4 hy4
    go_wp2_with fail
    refine HRJ.out.mono ?_
    rintro e w5 ⟨a5, c5, rfl, hy5, hb5⟩
    have HB5 := Lib.hid (chain HB4.out hb5)
    have q1 := run_str a4 _ c4 (joinV fs).1 rfl w5 (HY4.out.keep hb5)
    have q2 := run_str a5 _ c5 (joinV fs).1 rfl w5 hy5
    have HA5 := Lib.hid (back_any _ fs HBD.out HDL.out w5 (HR.out.keep HB5.out))
    generalize (⟨(joinV fs).1.toArray⟩ : ByteArray) = s at *
    generalize (joinV fs).1.length = n at *
    generalize (joinV fs).2 = c at *
    clear hy5 hb5
    go_wp2_with fail
    refine HA5.out.mono ?_
    rintro e w6 ⟨v6, rfl, hc6, hb6⟩
    have HB6 := Lib.hid (chain HB5.out hb6)
    have HO6 := Lib.hid (order_any v6 fs HKM.out w6 hc6.row)
    clear hc6 hb6 q1 q2
    go_wp2_with fail
    refine HO6.out.mono ?_
    rintro e w7 ⟨rfl, hb7⟩
    have HB7 := Lib.hid (chain HB6.out hb7)
    have HRO := Lib.hid (rorder_any _ fs HBD.out HKM.out w7 (HR.out.keep HB7.out))
    rw [← orders] at HRO
    clear hb7
    go_wp2_with fail
    refine HRO.out.mono ?_
    rintro e w8 ⟨rfl, hb8⟩
    have HB8 := Lib.hid (chain HB7.out hb8)
    clear hb8
    generalize orderV fs = od at *
    have hod : ((od : Int) != (od : Int)) = false := by simp
    have hoc : ((c : Int) != (c : Int)) = false := by simp
    go_wp2_with fail
    go_loopw [7] (fun jv wr => ∃ q : Nat, q ≤ LF ∧ jv = .int .i64 q ∧ Hid (Below w.heap.size w wr)) (fun jv _ => LF - (intOf jv).toNat)
    case atStart => exact ⟨0, by omega, rfl, HB8.out⟩
    case round =>
      obtain ⟨q, hq, rfl, HBI⟩ := hrel
      by_cases hql : q < LF
      · have hq' : q < fs.length := by rw [← HLF.out]; exact hql
        obtain ⟨g5, o5, ad, cd, rfl, k0, _⟩ := HV1.out q hq'
        have HC1 := Lib.hid (fun u => crit_any (fs[q]'hq').1 (HKM.out _ (List.getElem_mem hq')) u)
        have HC2 := Lib.hid (fun u => rcrit_any (fs[q]'hq').1 (HKM.out _ (List.getElem_mem hq')) u)
        generalize fs[q]'hq' = f at *
        have hS := (HBI.out.drew.cell (p := ⟨g5, o5 + q * 2, none⟩) (cell_lt (a := ⟨g5, o5 + q * 2, none⟩) k0)).trans k0
        clear k0
        go_wp2_with fail
        go_region_held3 (fun u => u.cell? ⟨g5, o5 + q * 2, none⟩ = some (.string f.1)) (first | exact hS)
          (first
            | (go_at_call 18; refine (HC1.out _).mono ?_; rintro e w' ⟨rfl, rfl⟩)
            | (go_at_call 19; refine (HC2.out _).mono ?_; rintro e w' ⟨rfl, rfl⟩))
        all_goals
          have hcb : (critB f.1 != critB f.1) = false := by simp
          go_wp2_with fail
          go_roundw
          case rel => exact ⟨q + 1, by omega, by go_num, HBI.out.drew⟩
          case measure => simp [intOf]; omega
      · have hqe : LF = q := by omega
        subst hqe
        go_wp2_with fail
        go_ret
        exact ⟨rfl, HBI.out⟩
end Go.Proofs.Ytfjcelnamjgieaa.Ck
