/- Contract of the reference's Cut. Condition: bytes lie at the slice. -/
import Derived.Test.YtfjcelnamjgieaaCkG
import Derived.Deep.RegionHeld3
namespace Go.Proofs.Ytfjcelnamjgieaa.Ck
open Go.RowKit Ba Go.Deep
set_option linter.unusedVariables false

set_option maxRecDepth 100000 in
set_option maxHeartbeats 12800000 in
theorem rcut_any (bs : List UInt8) (a : Option Addr) (n cap : Nat) (hn : n = bs.length) (hcap : n ≤ cap) (hcap2 : cap ≤ maxLen) (hnil : a = none → cap = 0) (w : World) (hb : Bytes w a bs) :
    Calls Try.prog 9 #[.slice a n cap] w (Cutted 44 (cutV bs) w) := by
  have HN := Lib.hid hn
  have HB := Lib.hid hb
  have HCP := Lib.hid (And.intro hcap (And.intro hcap2 hnil))
  have hn63 : n ≤ 9223372036854775807 := by unfold maxLen at hcap2; omega
  clear hn hb hcap hcap2 hnil
  have hcase : (262144 : Int) < n ∨ (¬ (262144 : Int) < n ∧ (n : Int) < 8) ∨ (¬ (262144 : Int) < n ∧ ¬ (n : Int) < 8) := by omega
  rcases hcase with h1 | ⟨h1, h2⟩ | ⟨h1, h2⟩
  · have HV : Hid (cutV bs = ([], 3)) := Lib.hid (by unfold cutV; rw [if_pos (by rw [← HN.out]; omega)])
    go_enter Try.func9, Try.ntmps9
    go_wp2_with fail
    go_ret2
    exact ⟨_, by rw [HV.out]; rfl, by rw [HV.out]; exact ChsIs.nil _ _ _, Below.refl _ _⟩
  · have HV : Hid (cutV bs = ([], 2)) := Lib.hid (by unfold cutV; rw [if_neg (by rw [← HN.out]; omega), if_pos (by rw [← HN.out]; omega)])
    go_enter Try.func9, Try.ntmps9
    go_wp2_with fail
    go_ret2
    exact ⟨_, by rw [HV.out]; rfl, by rw [HV.out]; exact ChsIs.nil _ _ _, Below.refl _ _⟩
  · have hto : ∀ w, (Instr.slice 22 (.slice a n cap) none (some (.int .i64 8)) none).run Try.prog w = .ok (.slice a 8 cap) w := fun w => run_cut_to (P := Try.prog) 22 5 Try.underlying22 size_u8 a _ _ .i64 8 (by have := HCP.out.1; omega) w
    have r1 := run_str a 8 cap (bs.take 8) (by rw [List.length_take, ← HN.out]; omega) w.drew (HB.out.take 8)
    obtain ⟨s1, hs1⟩ : ∃ s : ByteArray, s = ⟨(bs.take 8).toArray⟩ := ⟨_, rfl⟩
    obtain ⟨s2, hs2⟩ : ∃ s : ByteArray, s = ⟨sigL.toArray⟩ := ⟨_, rfl⟩
    have HSIG := Lib.hid (fun w => rsig_any w)
    rw [← hs1] at r1
    rw [← hs2] at HSIG
    have hB : (s1.toList == s2.toList) = (bs.take 8 == sigL) := by rw [hs1, hs2, ByteArray.toList_eq, ByteArray.toList_eq]
    clear hs1 hs2
    by_cases hp : bs.take 8 = sigL
    · have hpb : (bs.take 8 == sigL) = true := by rw [hp]; decide
      rw [hpb] at hB
      have HV : Hid (cutV bs = cutB (bs.drop 8)) := Lib.hid (by unfold cutV; rw [if_neg (by rw [← HN.out]; omega), if_neg (by rw [← HN.out]; omega), if_pos hp])
      clear hp hpb
      go_enter Try.func9, Try.ntmps9
      go_wp2_with fail
      go_region_held3 (fun w' => (convert 22 9 (.slice a 8 cap)).run Try.prog w' = .ok (.string s1) w') (first | exact r1)
        (first | (go_at_call 24; refine (HSIG.out _).mono ?_; rintro e w' ⟨rfl, rfl⟩))
      all_goals
        clear r1 hB hto HSIG
        go_wp2_with fail
        go_loopw [4, 5, 6, 7, 8, 9] (fun ov av _ _ _ _ wr => ∃ (done : List Ch) (p : Nat), av = .int .i64 p ∧ p ≤ n ∧ Hid (8 ≤ p ∧ ChsIs wr w.heap.size 44 ov done) ∧ Hid (cutB (bs.drop 8) = comb done (cutB (bs.drop p))) ∧ Hid (done.length ≤ p) ∧ Hid (Below w.heap.size w wr)) (fun _ av _ _ _ _ _ => n - (intOf av).toNat)
        case atStart => exact ⟨[], 8, rfl, by omega, ⟨Nat.le_refl _, ChsIs.nil _ _ _⟩, (comb_nil _ (cutR_err _ _)).symm, Nat.zero_le _, (Below.refl _ _).drew⟩
        case round =>
          obtain ⟨done, p, rfl, hpn, HCH, HCB, HD, HBR⟩ := hrel
          have hws : IntKind.i64.wrap ((n : Int) - (p : Int)) = (n : Int) - p := by simp [IntKind.wrap, IntKind.bits, IntKind.signed]; omega
          by_cases h12 : (n : Int) - p < 12
          · have HLK : Hid (lookV (bs.drop p) = .bad 2) := Lib.hid (by unfold lookV; rw [if_pos (by rw [List.length_drop, ← HN.out]; omega)])
            have HE : Hid (cutB (bs.drop 8) = ([], 2)) := Lib.hid (by rw [HCB.out]; exact comb_bad HLK.out (by decide))
            go_wp2_with fail
            go_ret2
            exact ⟨_, by rw [HV.out, HE.out]; rfl, by rw [HV.out, HE.out]; exact ChsIs.nil _ _ _, HBR.out⟩
          · have hx : ∀ i, i < 12 → ∃ b0 off0, a = some ⟨b0, off0, none⟩ ∧ ∃ x : UInt8, bs[p + i]? = some x ∧ w.cell? ⟨b0, off0 + (p + i), none⟩ = some (.int .u8 (x.toNat : Nat)) := fun i hi => by
              have hl : p + i < bs.length := by rw [← HN.out]; omega
              obtain ⟨b0, off0, e, hc⟩ := HB.out (p + i) hl
              exact ⟨b0, off0, e, bs[p + i], List.getElem?_eq_getElem hl, hc⟩
            obtain ⟨b0, off0, rfl, x0, hx0, hc0⟩ := hx 0 (by omega)
            obtain ⟨_, _, e1, x1, hx1, hc1⟩ := hx 1 (by omega)
            cases e1
            obtain ⟨_, _, e2, x2, hx2, hc2⟩ := hx 2 (by omega)
            cases e2
            obtain ⟨_, _, e3, x3, hx3, hc3⟩ := hx 3 (by omega)
            cases e3
            have HX := Lib.hid (And.intro hx0 (And.intro hx1 (And.intro hx2 hx3)))
            obtain ⟨q1, hq1⟩ : ∃ q, q = p + 1 := ⟨_, rfl⟩
            obtain ⟨q2, hq2⟩ : ∃ q, q = p + 2 := ⟨_, rfl⟩
            obtain ⟨q3, hq3⟩ : ∃ q, q = p + 3 := ⟨_, rfl⟩
            rw [Nat.add_zero] at hc0
            rw [← hq1] at hc1
            rw [← hq2] at hc2
            rw [← hq3] at hc3
            have hw1 : IntKind.i64.wrap ((p : Int) + 1) = (q1 : Int) := by simp [IntKind.wrap, IntKind.bits, IntKind.signed]; omega
            have hw2 : IntKind.i64.wrap ((p : Int) + 2) = (q2 : Int) := by simp [IntKind.wrap, IntKind.bits, IntKind.signed]; omega
            have hw3 : IntKind.i64.wrap ((p : Int) + 3) = (q3 : Int) := by simp [IntKind.wrap, IntKind.bits, IntKind.signed]; omega
            have hb0 : (p : Int) < n := by omega
            have hb1 : (q1 : Int) < n := by omega
            have hb2 : (q2 : Int) < n := by omega
            have hb3 : (q3 : Int) < n := by omega
            have hlt0 : b0 < w.heap.size := cell_lt hc0
            have HCE : Hid (∀ u, Below w.heap.size w u → u.cell? ⟨b0, off0 + p, none⟩ = some (.int .u8 (x0.toNat : Nat)) ∧ u.cell? ⟨b0, off0 + q1, none⟩ = some (.int .u8 (x1.toNat : Nat)) ∧ u.cell? ⟨b0, off0 + q2, none⟩ = some (.int .u8 (x2.toNat : Nat)) ∧ u.cell? ⟨b0, off0 + q3, none⟩ = some (.int .u8 (x3.toNat : Nat))) := Lib.hid (fun u hu => by
              have cg : ∀ x, u.cell? ⟨b0, x, none⟩ = w.cell? ⟨b0, x, none⟩ := fun x => hu.cell (p := ⟨b0, x, none⟩) hlt0
              simp only [cg]
              exact ⟨hc0, hc1, hc2, hc3⟩)
            have HQ := Lib.hid (And.intro hq1 (And.intro hq2 hq3))
            have bx0 := x0.toNat_lt
            have bx1 := x1.toNat_lt
            have bx2 := x2.toNat_lt
            have bx3 := x3.toNat_lt
            have hS := HCE.out wr.drew HBR.out.drew
            clear hx hx0 hx1 hx2 hx3 hc0 hc1 hc2 hc3 hq1 hq2 hq3
            go_wp2_with fail
            go_region_held3 (fun u => u.cell? ⟨b0, off0 + p, none⟩ = some (.int .u8 (x0.toNat : Nat)) ∧ u.cell? ⟨b0, off0 + q1, none⟩ = some (.int .u8 (x1.toNat : Nat)) ∧ u.cell? ⟨b0, off0 + q2, none⟩ = some (.int .u8 (x2.toNat : Nat)) ∧ u.cell? ⟨b0, off0 + q3, none⟩ = some (.int .u8 (x3.toNat : Nat))) (first | exact hS) (first | fail)
            rw [be4, ← take_four HX.out.1 HX.out.2.1 HX.out.2.2.1 HX.out.2.2.2]
            have hnv : beV ((bs.drop p).take 4) = numV (bs.drop p) := rfl
            rw [hnv]
            clear hS hnv bx0 bx1 bx2 bx3 hw1 hw2 hw3 hb0 hb1 hb2 hb3
            have HLC : Hid ((bs.drop p).length = n - p) := Lib.hid (by rw [List.length_drop, ← HN.out])
            have HBR1 : Hid (Below w.heap.size w wr.drew) := HBR.out.drew
            have HCH1 : Hid (8 ≤ p ∧ ChsIs wr.drew w.heap.size 44 u4 done) := HCH.out
            clear HBR HCH
            generalize wr.drew = w1 at *
            obtain ⟨p4, hp4⟩ : ∃ q, q = p + 4 := ⟨_, rfl⟩
            obtain ⟨p8, hp8⟩ : ∃ q, q = p + 8 := ⟨_, rfl⟩
            have hw4 : IntKind.i64.wrap ((p : Int) + 4) = (p4 : Int) := by simp [IntKind.wrap, IntKind.bits, IntKind.signed]; omega
            have hw8 : IntKind.i64.wrap ((p : Int) + 8) = (p8 : Int) := by simp [IntKind.wrap, IntKind.bits, IntKind.signed]; omega
            have hmid : ∀ w, (Instr.slice 22 (.slice (some ⟨b0, off0, none⟩) n cap) (some (.int .i64 (p4 : Nat))) (some (.int .i64 (p8 : Nat))) none).run Try.prog w = .ok (.slice (cutA (some ⟨b0, off0, none⟩) p4 cap) 4 (cap - p4)) w := fun w => by
              have h := run_cut_mid (P := Try.prog) 22 5 Try.underlying22 size_u8 (some ⟨b0, off0, none⟩) n cap .i64 .i64 (p4 : Nat) (p8 : Nat) p4 p8 rfl rfl (by omega) (by have := HCP.out.1; omega) w
              rw [show p8 - p4 = 4 by omega] at h
              exact h
            have hcv := run_str (cutA (some ⟨b0, off0, none⟩) p4 cap) 4 (cap - p4) (((bs.drop p).drop 4).take 4) (by rw [List.length_take, List.length_drop, HLC.out]; omega) w1 (by
              rw [List.drop_drop, ← hp4]
              exact ((HB.out.drop p4 cap (by rw [← HN.out]; exact HCP.out.1)).take 4).keep HBR1.out)
            have hkv : (⟨(((bs.drop p).drop 4).take 4).toArray⟩ : ByteArray) = kindV (bs.drop p) := rfl
            rw [hkv] at hcv
            have KS : Hid ((kindV (bs.drop p)).size ≤ maxLen ∧ (kindV (bs.drop p)).size ≤ 140737488351232) := Lib.hid (by
              have h : (kindV (bs.drop p)).size ≤ 4 := by
                show ((((bs.drop p).drop 4).take 4).toArray).size ≤ 4
                rw [List.size_toArray, List.length_take]
                omega
              exact ⟨by unfold maxLen; omega, by omega⟩)
            have HNM := Lib.hid (letters_any (kindV (bs.drop p)) KS.out.1 w1)
            have HP := Lib.hid (And.intro hp4 hp8)
            clear hp4 hp8 hkv
            have hms : (2147483647 : Int) < (numV (bs.drop p) : Int) ∨ ¬ (2147483647 : Int) < (numV (bs.drop p) : Int) := by omega
            rcases hms with hbig | hbig
            · have HLK : Hid (lookV (bs.drop p) = .bad 4) := Lib.hid (by unfold lookV; rw [if_neg (by rw [HLC.out]; omega), if_pos (.inl (by omega))])
              have HE : Hid (cutB (bs.drop 8) = ([], 4)) := Lib.hid (by rw [HCB.out]; exact comb_bad HLK.out (by decide))
              clear HLK HNM HX HLC KS HCB
              generalize numV (bs.drop p) = N at *
              generalize kindV (bs.drop p) = s at *
              go_wp2_with fail
              go_ret2
              exact ⟨_, by rw [HV.out, HE.out]; rfl, by rw [HV.out, HE.out]; exact ChsIs.nil _ _ _, HBR1.out⟩
            · cases hnb : nameB (kindV (bs.drop p)) with
              | false =>
                have HLK : Hid (lookV (bs.drop p) = .bad 4) := Lib.hid (by unfold lookV; rw [if_neg (by rw [HLC.out]; omega), if_pos (.inr hnb)])
                have HE : Hid (cutB (bs.drop 8) = ([], 4)) := Lib.hid (by rw [HCB.out]; exact comb_bad HLK.out (by decide))
                rw [hnb] at HNM
                clear HLK HX HLC KS HCB hnb
                generalize numV (bs.drop p) = N at *
                generalize kindV (bs.drop p) = s at *
                go_wp2_with fail
                refine HNM.out.mono ?_
                rintro e w' ⟨rfl, rfl⟩
                go_wp2_with fail
                go_ret2
                exact ⟨_, by rw [HV.out, HE.out]; rfl, by rw [HV.out, HE.out]; exact ChsIs.nil _ _ _, HBR1.out⟩
              | true =>
                rw [hnb] at HNM
                have HNB := Lib.hid hnb
                have hws2 : IntKind.i64.wrap ((n : Int) - (p : Int) - 12) = (n : Int) - p - 12 := by simp [IntKind.wrap, IntKind.bits, IntKind.signed]; omega
                clear hnb
                by_cases hfew : (n : Int) - p - 12 < (numV (bs.drop p) : Int)
                · have HLK : Hid (lookV (bs.drop p) = .bad 2) := Lib.hid (by unfold lookV; rw [if_neg (by rw [HLC.out]; omega), if_neg (fun h => h.elim (fun h => by omega) (fun h => by rw [HNB.out] at h; cases h)), if_pos (by rw [HLC.out]; omega)])
                  have HE : Hid (cutB (bs.drop 8) = ([], 2)) := Lib.hid (by rw [HCB.out]; exact comb_bad HLK.out (by decide))
                  clear HLK HX HLC KS HCB HNB
                  generalize numV (bs.drop p) = N at *
                  generalize kindV (bs.drop p) = s at *
                  go_wp2_with fail
                  refine HNM.out.mono ?_
                  rintro e w' ⟨rfl, rfl⟩
                  go_wp2_with fail
                  go_ret2
                  exact ⟨_, by rw [HV.out, HE.out]; rfl, by rw [HV.out, HE.out]; exact ChsIs.nil _ _ _, HBR1.out⟩
                · have hN : p + 12 + numV (bs.drop p) ≤ n := by omega
                  have HLK : Hid ((sumV (bs.drop p) = crcV (kindV (bs.drop p)) (dataV (bs.drop p)) → lookV (bs.drop p) = .one (kindV (bs.drop p), dataV (bs.drop p)) (12 + numV (bs.drop p))) ∧ (sumV (bs.drop p) ≠ crcV (kindV (bs.drop p)) (dataV (bs.drop p)) → lookV (bs.drop p) = .bad 5)) := Lib.hid (by
                    unfold lookV
                    rw [if_neg (by rw [HLC.out]; omega), if_neg (fun h => h.elim (fun h => by omega) (fun h => by rw [HNB.out] at h; cases h)), if_neg (by rw [HLC.out]; omega)]
                    exact ⟨fun h => by rw [if_pos h], fun h => by rw [if_neg h]⟩)
                  obtain ⟨pe, hpe⟩ : ∃ q, q = p + (8 + numV (bs.drop p)) := ⟨_, rfl⟩
                  obtain ⟨pn, hpn'⟩ : ∃ q, q = p + (12 + numV (bs.drop p)) := ⟨_, rfl⟩
                  have hp8 := HP.out.2
                  have hwe : IntKind.i64.wrap ((p8 : Int) + (numV (bs.drop p) : Int)) = (pe : Int) := by simp [IntKind.wrap, IntKind.bits, IntKind.signed]; omega
                  have hwn : IntKind.i64.wrap ((pe : Int) + 4) = (pn : Int) := by simp [IntKind.wrap, IntKind.bits, IntKind.signed]; omega
                  have hdd : (bs.drop p).drop 8 = bs.drop p8 := by rw [List.drop_drop, ← hp8]
                  have HDL : Hid (numV (bs.drop p) = (dataV (bs.drop p)).length) := Lib.hid (by unfold dataV; rw [List.length_take, List.length_drop, HLC.out]; omega)
                  have HDA : Hid (Bytes w (cutA (some ⟨b0, off0, none⟩) p8 cap) (dataV (bs.drop p))) := Lib.hid (by unfold dataV; rw [hdd]; exact (HB.out.drop p8 cap (by rw [← HN.out]; exact HCP.out.1)).take _)
                  have hsl : ∀ w, (Instr.slice 22 (.slice (some ⟨b0, off0, none⟩) n cap) (some (.int .i64 (p8 : Nat))) (some (.int .i64 (pe : Nat))) none).run Try.prog w = .ok (.slice (cutA (some ⟨b0, off0, none⟩) p8 cap) (numV (bs.drop p)) (cap - p8)) w := fun w => by
                    have h := run_cut_mid (P := Try.prog) 22 5 Try.underlying22 size_u8 (some ⟨b0, off0, none⟩) n cap .i64 .i64 (p8 : Nat) (pe : Nat) p8 pe rfl rfl (by omega) (by have := HCP.out.1; omega) w
                    rw [show pe - p8 = numV (bs.drop p) by omega] at h
                    exact h
                  have hx : ∀ i, i < 4 → ∃ x : UInt8, bs[pe + i]? = some x ∧ w.cell? ⟨b0, off0 + (pe + i), none⟩ = some (.int .u8 (x.toNat : Nat)) := fun i hi => by
                    have hl : pe + i < bs.length := by rw [← HN.out]; omega
                    obtain ⟨b0', off0', e, hc⟩ := HB.out (pe + i) hl
                    cases e
                    exact ⟨bs[pe + i], List.getElem?_eq_getElem hl, hc⟩
                  obtain ⟨y0, hy0, hc0⟩ := hx 0 (by omega)
                  obtain ⟨y1, hy1, hc1⟩ := hx 1 (by omega)
                  obtain ⟨y2, hy2, hc2⟩ := hx 2 (by omega)
                  obtain ⟨y3, hy3, hc3⟩ := hx 3 (by omega)
                  have HSV : Hid (beV [y0, y1, y2, y3] = sumV (bs.drop p)) := Lib.hid (by
                    unfold sumV
                    rw [List.drop_drop, ← hpe, take_four hy0 hy1 hy2 hy3])
                  obtain ⟨f1, hf1⟩ : ∃ q, q = pe + 1 := ⟨_, rfl⟩
                  obtain ⟨f2, hf2⟩ : ∃ q, q = pe + 2 := ⟨_, rfl⟩
                  obtain ⟨f3, hf3⟩ : ∃ q, q = pe + 3 := ⟨_, rfl⟩
                  rw [Nat.add_zero] at hc0
                  rw [← hf1] at hc1
                  rw [← hf2] at hc2
                  rw [← hf3] at hc3
                  have hw1 : IntKind.i64.wrap ((pe : Int) + 1) = (f1 : Int) := by simp [IntKind.wrap, IntKind.bits, IntKind.signed]; omega
                  have hw2 : IntKind.i64.wrap ((pe : Int) + 2) = (f2 : Int) := by simp [IntKind.wrap, IntKind.bits, IntKind.signed]; omega
                  have hw3 : IntKind.i64.wrap ((pe : Int) + 3) = (f3 : Int) := by simp [IntKind.wrap, IntKind.bits, IntKind.signed]; omega
                  have hb0 : (pe : Int) < n := by omega
                  have hb1 : (f1 : Int) < n := by omega
                  have hb2 : (f2 : Int) < n := by omega
                  have hb3 : (f3 : Int) < n := by omega
                  have HCF : Hid (∀ u, Below w.heap.size w u → u.cell? ⟨b0, off0 + pe, none⟩ = some (.int .u8 (y0.toNat : Nat)) ∧ u.cell? ⟨b0, off0 + f1, none⟩ = some (.int .u8 (y1.toNat : Nat)) ∧ u.cell? ⟨b0, off0 + f2, none⟩ = some (.int .u8 (y2.toNat : Nat)) ∧ u.cell? ⟨b0, off0 + f3, none⟩ = some (.int .u8 (y3.toNat : Nat))) := Lib.hid (fun u hu => by
                    have cg : ∀ x, u.cell? ⟨b0, x, none⟩ = w.cell? ⟨b0, x, none⟩ := fun x => hu.cell (p := ⟨b0, x, none⟩) hlt0
                    simp only [cg]
                    exact ⟨hc0, hc1, hc2, hc3⟩)
                  have bx0 := y0.toNat_lt
                  have bx1 := y1.toNat_lt
                  have bx2 := y2.toNat_lt
                  have bx3 := y3.toNat_lt
                  have HDR : Hid ((bs.drop p).drop (12 + numV (bs.drop p)) = bs.drop pn) := Lib.hid (by rw [List.drop_drop, ← hpn'])
                  have HNN : Hid (numV (bs.drop p) ≤ 1000000000 ∧ p8 + numV (bs.drop p) + 4 = pn ∧ pn ≤ n ∧ p + 12 ≤ pn) := Lib.hid (by omega)
                  have HCS := Lib.hid (fun a' cap' u hb' => Su.chunkSum_any (kindV (bs.drop p)) KS.out.2 a' cap' (dataV (bs.drop p)) u hb' (by rw [← HDL.out]; omega))
                  have HCS' : Hid (∀ a' cap' u, Bytes u a' (dataV (bs.drop p)) → Calls Try.prog 26 #[.string (kindV (bs.drop p)), .slice a' (numV (bs.drop p)) cap'] u fun e w' => e = .returned (.int .u32 (crcV (kindV (bs.drop p)) (dataV (bs.drop p)) : Nat)) ∧ bytesW u 5 (kindV (bs.drop p)) = w') := Lib.hid (fun a' cap' u hb' => by
                    have h := HCS.out a' cap' u hb'
                    rw [← HDL.out] at h
                    exact h)
                  clear HCS hx hy0 hy1 hy2 hy3 hc0 hc1 hc2 hc3 hf1 hf2 hf3 hpe hpn' hdd hp8 HLC HNB HX HP HQ hN
                  generalize hcr : crcV (kindV (bs.drop p)) (dataV (bs.drop p)) = C at *
                  clear hcr
                  generalize sumV (bs.drop p) = S at *
                  generalize dataV (bs.drop p) = data at *
                  generalize numV (bs.drop p) = N at *
                  generalize kindV (bs.drop p) = s at *
                  go_wp2_with fail
                  refine HNM.out.mono ?_
                  rintro e w' ⟨rfl, rfl⟩
                  have HDNIL : Hid (cutA (some ⟨b0, off0, none⟩) p8 cap = none → cap - p8 = 0) := Lib.hid (cutA_nil (fun h => by cases h))
                  have HNL : Hid (N ≤ 140737488355328) := Lib.hid (by have := HNN.out.1; omega)
                  go_wp2_with (at_builtin; refine wpList_clone_bytes rfl (.const (.slice none 0 0)) (.tmp 86) rfl w.heap.size rfl (cutA (some ⟨b0, off0, none⟩) p8 cap) N (cap - p8) data rfl HDL.out (HDA.out.keep HBR1.out) HDNIL.out HNL.out HBR1.out.size ?_)
                  intro a6 c6 w6 ho6 hb6
                  have HO6 := Lib.hid ho6
                  have HB6 := Lib.hid (HBR1.out.trans (hb6.mono HBR1.out.size))
                  have HCH6 := Lib.hid (HCH1.out.2.keep hb6)
                  have hS1 := HCF.out w6.drew HB6.out.drew
                  clear ho6 hb6 hmid hcv hsl
                  go_wp2_with fail
                  go_region_held3 (fun u => u.cell? ⟨b0, off0 + pe, none⟩ = some (.int .u8 (y0.toNat : Nat)) ∧ u.cell? ⟨b0, off0 + f1, none⟩ = some (.int .u8 (y1.toNat : Nat)) ∧ u.cell? ⟨b0, off0 + f2, none⟩ = some (.int .u8 (y2.toNat : Nat)) ∧ u.cell? ⟨b0, off0 + f3, none⟩ = some (.int .u8 (y3.toNat : Nat))) (first | exact hS1) (first | fail)
                  rw [be4u, HSV.out]
                  clear hS1 bx0 bx1 bx2 bx3 hw1 hw2 hw3 hb0 hb1 hb2 hb3
                  have HO6' : Hid (Own w6.drew w.heap.size (.slice a6 N c6) data) := HO6.out
                  have HB6' : Hid (Below w.heap.size w w6.drew) := HB6.out.drew
                  have HCH6' : Hid (ChsIs w6.drew w.heap.size 44 u4 done) := HCH6.out
                  clear HO6 HB6 HCH6
                  generalize w6.drew = w6' at *
                  go_wp2_with fail
                  refine (HCS'.out a6 c6 w6' HO6'.out.bytes).mono ?_
                  rintro e w' ⟨rfl, rfl⟩
                  have hbw := bytesW_below w6' 5 s
                  have HO7 := Lib.hid (HO6'.out.keep hbw)
                  have HB7 := Lib.hid (chain HB6'.out hbw)
                  have HCH7 := Lib.hid (HCH6'.out.keep hbw)
                  clear hbw HO6' HB6' HCH6' HCS' HBR1 HCH1
                  generalize bytesW w6' 5 s = w7 at *
                  have s7 := HB7.out.size
                  by_cases hsum : S = C
                  · have hsn : ((S : Int) != (C : Int)) = false := by rw [hsum]; simp
                    have HL1 := Lib.hid (HLK.out.1 hsum)
                    clear hsum
                    have hlt7 := HCH7.out.lt
                    have HNB : Hid (Blk (w7.alloc (Obj.cells #[.string s, .slice a6 N c6] 44)) w7.heap.size 44 (twoOf (s, data) a6 c6)) := Lib.hid (by
                      have h := Blk.new w7 #[.string s, .slice a6 N c6] 44
                      unfold twoOf
                      rw [← HDL.out]
                      exact h)
                    have HD8 : Hid (Own (w7.alloc (Obj.cells #[.string s, .slice a6 N c6] 44)) w.heap.size (.slice a6 (s, data).2.length c6) (s, data).2) := Lib.hid (by
                      show Own _ _ (.slice a6 data.length c6) data
                      rw [← HDL.out]
                      exact HO7.out.keep ((Below.refl _ _).alloc (Nat.le_refl _) _))
                    have HDB : Hid (done.length < 1000000001) := Lib.hid (by have := HD.out; omega)
                    have HX : Hid (w.heap.size ≤ (w7.alloc (Obj.cells #[.string s, .slice a6 N c6] 44)).heap.size) := Lib.hid (by simp; omega)
                    have HB7' := Lib.hid (HB7.out.alloc s7 (Obj.cells #[.string s, .slice a6 N c6] 44))
                    go_wp2_with (at_builtin; refine wpList_append_ch 28 44 Try.underlying28 (by decide) info_rc rfl (.tmp 128) (.tmp 132) rfl w.heap.size _ done rfl (HCH7.out.alloc _) (s, data) a6 c6 HD8.out w7.heap.size rfl HNB.out HDB.out HX.out ?_)
                    intro v8 w8 hfs8 hg8 hob8
                    have HFS8 := Lib.hid hfs8
                    have HB8 : Hid (Below w.heap.size w w8) := Lib.hid (HB7'.out.grown hg8 HX.out hob8)
                    clear hfs8 hg8 hob8 HNB HD8 HX hlt7 HB7'
                    have hie : iend.toList = [73, 69, 78, 68] := by rw [ByteArray.toList_eq]; rfl
                    have hem : s.toList = iend.toList ∨ s.toList ≠ iend.toList := Classical.em _
                    rcases hem with he | hne
                    · have hkb : (s.toList == [73, 69, 78, 68]) = true := by rw [he, hie]; decide
                      have HE := Lib.hid he
                      clear he hie
                      by_cases hmore : (pn : Int) < n
                      · have HEE : Hid (cutB (bs.drop 8) = ([], 4)) := Lib.hid (by rw [HCB.out]; exact comb_more HL1.out HE.out (by rw [HDR.out, List.length_drop, ← HN.out]; omega))
                        go_wp2_with fail
                        go_ret2
                        exact ⟨_, by rw [HV.out, HEE.out]; rfl, by rw [HV.out, HEE.out]; exact ChsIs.nil _ _ _, HB8.out⟩
                      · have HEE : Hid (cutB (bs.drop 8) = (done ++ [(s, data)], 0)) := Lib.hid (by rw [HCB.out]; exact comb_end HL1.out HE.out (by rw [HDR.out, List.length_drop, ← HN.out]; omega))
                        go_wp2_with fail
                        go_ret2
                        exact ⟨_, by rw [HV.out, HEE.out]; rfl, by rw [HV.out, HEE.out]; exact HFS8.out, HB8.out⟩
                    · have hkb : (s.toList == [73, 69, 78, 68]) = false := by rw [← hie]; exact beq_eq_false_iff_ne.2 hne
                      have HE := Lib.hid hne
                      clear hne hie
                      go_wp2_with fail
                      go_roundw
                      case rel => exact ⟨done ++ [(s, data)], pn, rfl, HNN.out.2.2.1, ⟨by have := HNN.out.2.2.2; omega, HFS8.out⟩, (by show cutB (bs.drop 8) = _; rw [← HDR.out, HCB.out]; exact comb_on HL1.out HE.out), (by show (done ++ [(s, data)]).length ≤ pn; rw [List.length_append, List.length_singleton]; have := HD.out; have := HNN.out.2.2.2; omega), HB8.out⟩
                      case measure => simp [intOf]; have := HNN.out.2.2; omega
                  · have hsn : ((S : Int) != (C : Int)) = true := bne_iff_ne.2 (by omega)
                    have HE : Hid (cutB (bs.drop 8) = ([], 5)) := Lib.hid (by rw [HCB.out]; exact comb_bad (HLK.out.2 hsum) (by decide))
                    clear hsum
                    go_wp2_with fail
                    go_ret2
                    exact ⟨_, by rw [HV.out, HE.out]; rfl, by rw [HV.out, HE.out]; exact ChsIs.nil _ _ _, HB7.out⟩
    · have hpb : (bs.take 8 == sigL) = false := by
        cases hh : (bs.take 8 == sigL) with
        | false => rfl
        | true => exact absurd (eq_of_beq hh) hp
      rw [hpb] at hB
      have HV : Hid (cutV bs = ([], 4)) := Lib.hid (by unfold cutV; rw [if_neg (by rw [← HN.out]; omega), if_neg (by rw [← HN.out]; omega), if_neg hp])
      clear hp hpb
      go_enter Try.func9, Try.ntmps9
      go_wp2_with fail
      go_region_held3 (fun w' => (convert 22 9 (.slice a 8 cap)).run Try.prog w' = .ok (.string s1) w') (first | exact r1)
        (first | (go_at_call 24; refine (HSIG.out _).mono ?_; rintro e w' ⟨rfl, rfl⟩))
      all_goals
        go_wp2_with fail
        go_ret2
        exact ⟨_, by rw [HV.out]; rfl, by rw [HV.out]; exact ChsIs.nil _ _ _, (Below.refl _ _).drew⟩
end Go.Proofs.Ytfjcelnamjgieaa.Ck
