/- Contract of the reference's Join. Condition: chunks lie at the slice; together they are no longer than an image's file may be. -/
import Derived.Test.YtfjcelnamjgieaaCkR
import Derived.Deep.RegionHeld3
namespace Go.Proofs.Ytfjcelnamjgieaa.Ck
open Go.RowKit Ba Go.Deep
set_option linter.unusedVariables false

/-- What the reference's Join hands back. -/
def JoinedR (r : List UInt8 × Nat) (w : World) (e : Ending) (w' : World) : Prop :=
  ∃ ao cap, e = .returned (.tuple #[.slice ao r.1.length cap, .int .i64 (r.2 : Int)]) ∧ Bytes w' ao r.1 ∧ Below w.heap.size w w'
theorem OwnM.grow {w u u' : World} {ov ov' : Value} {bs bs' : List UInt8} (h : OwnM u w.heap.size ov bs) (hB : Below w.heap.size w u) (hg : u.grownBy u' ov.ownBlock) (ho : OwnM u' w.heap.size ov' bs') : Below w.heap.size w u' := hB.grown hg hB.size (fun k hk => (h.lt k hk).1)
set_option maxRecDepth 100000 in
set_option maxHeartbeats 12800000 in
theorem rjoin_any (v : Value) (fs : List Ch) (hbd : 8 + totC fs ≤ 262144) (hks : ∀ f ∈ fs, f.1.size ≤ 140737488351232) (w : World) (h1 : ChRow w v fs) :
    Calls Try.prog 15 #[v] w (JoinedR (joinV fs) w) := by
  obtain ⟨a, ca, rfl, x1, x2, x3, hv1⟩ := h1
  have HV1 := Lib.hid hv1
  have HKS := Lib.hid hks
  have HBD := Lib.hid hbd
  obtain ⟨LF, hLF⟩ : ∃ L, L = fs.length := ⟨_, rfl⟩
  have hlb : LF ≤ 30000 := by have := len_totC fs; omega
  rw [← hLF] at x1 ⊢
  have HLF := Lib.hid hLF
  have HM0 := Lib.hid (ownM_bytesW w ⟨sigL.toArray⟩ (by show 8 ≤ _; omega))
  have hcv := run_bytesW (P := Try.prog) 9 22 5 ⟨sigL.toArray⟩ Try.underlying9 Try.underlying22 Try.underlying5
  have HB0 := Lib.hid (bytesW_below w 5 ⟨sigL.toArray⟩)
  generalize hsig : (⟨sigL.toArray⟩ : ByteArray) = sg at *
  have HSG : Hid (sg.data.toList = sigL ∧ sg.size = 8) := Lib.hid (by rw [← hsig]; exact ⟨rfl, rfl⟩)
  have HRS : Hid (∀ u, Calls Try.prog 24 #[] u fun e w' => e = .returned (.string sg) ∧ u = w') := Lib.hid (fun u => by rw [← hsig]; exact rsig_any u)
  clear hv1 hLF x1 x2 x3 hks hbd hsig
  go_enter Try.func15, Try.ntmps15
  go_wp2_with fail
  refine (HRS.out w).mono ?_
  rintro e w' ⟨rfl, rfl⟩
  go_wp2_with fail
  go_loopw [4, 5, 6, 7, 8] (fun ov lv jv _ _ wr => ∃ q : Nat, q ≤ LF ∧ jv = .int .i64 q ∧ lv = .bool false ∧ Hid (allN (fs.take q) = true) ∧ Hid (OwnM wr w.heap.size ov (sigL ++ strmC (fs.take q))) ∧ Hid (Below w.heap.size w wr)) (fun _ _ jv _ _ _ => LF - (intOf jv).toNat)
  case atStart =>
    refine ⟨0, by omega, rfl, rfl, rfl, ?_, HB0.out⟩
    have h := HM0.out
    rw [HSG.out.1] at h
    exact h
  case round =>
    obtain ⟨q, hq, rfl, rfl, HAN, HO, HB⟩ := hrel
    obtain ⟨go, co, rfl, _⟩ := HO.out.view
    have HLEN0 : Hid ((sigL ++ strmC (fs.take q)).length = 8 + totC (fs.take q)) := Lib.hid (by rw [List.length_append, strmC_length q fs HAN.out]; rfl)
    have htq : 8 + totC (fs.take q) ≤ 262144 := by have := totC_take_le q fs; have := HBD.out; omega
    by_cases hql : q < LF
    · have hq' : q < fs.length := by rw [← HLF.out]; exact hql
      obtain ⟨g5, o5, ad, cd, rfl, k0, k1, ky, kn, _⟩ := HV1.out q hq'
      have hks1 := HKS.out (fs[q]'hq') (List.getElem_mem hq')
      have hst := totC_step fs q hq'
      have htl := totC_take_le (q + 1) fs
      have hbd := HBD.out
      have HTK : Hid (sigL ++ strmC (fs.take (q + 1)) = ((((sigL ++ strmC (fs.take q)) ++ four (fs[q]'hq').2.length) ++ (fs[q]'hq').1.data.toList) ++ (fs[q]'hq').2) ++ four (crcV (fs[q]'hq').1 (fs[q]'hq').2)) := Lib.hid (by
        rw [List.take_succ_eq_append_getElem hq', strmC_snoc]
        simp only [List.append_assoc])
      have HNX : Hid (nameB (fs[q]'hq').1 = true → allN (fs.take (q + 1)) = true) := Lib.hid (fun h => allN_take hq' HAN.out h)
      have HNO : Hid (nameB (fs[q]'hq').1 = false → joinV fs = ([], 1)) := Lib.hid (fun h => by unfold joinV; rw [allN_no hq' h]; rfl)
      generalize sigL ++ strmC (fs.take q) = pre at *
      generalize fs[q]'hq' = f at *
      obtain ⟨ln, hln⟩ : ∃ ln, ln = f.2.length := ⟨_, rfl⟩
      obtain ⟨PL, hPL⟩ : ∃ PL, PL = pre.length := ⟨_, rfl⟩
      rw [← hln] at k1 HTK hst
      have hlnb : PL + 12 + ln ≤ 262144 := by rw [hPL, HLEN0.out]; omega
      have HLN := Lib.hid hln
      have HPL := Lib.hid hPL
      have HNM := Lib.hid (fun u => letters_any f.1 (by unfold maxLen; omega) u)
      have hl5 : g5 < w.heap.size := cell_lt (a := ⟨g5, o5 + q * 2, none⟩) k0
      have HF := Lib.hid (And.intro ky kn)
      have HSS : Hid (∀ u, Below w.heap.size w u → u.cell? ⟨g5, o5 + q * 2, none⟩ = some (.string f.1) ∧ u.cell? ⟨g5, o5 + q * 2 + 1, none⟩ = some (.slice ad ln cd)) := Lib.hid (fun u hu => by
        have cc5 : ∀ o, u.cell? ⟨g5, o, none⟩ = w.cell? ⟨g5, o, none⟩ := fun o => hu.cell (p := ⟨g5, o, none⟩) hl5
        simp only [cc5]
        exact ⟨k0, k1⟩)
      clear k0 k1 ky kn hks1 hst htl hbd HLEN0 htq
      rw [← hPL] at HO ⊢
      clear hPL hln
      obtain ⟨s0, s1⟩ := HSS.out _ HB.out
      go_wp2_with fail
      refine (HNM.out _).mono ?_
      rintro e w' ⟨rfl, rfl⟩
      cases hb : nameB f.1 with
      | false =>
        have HJ := Lib.hid (HNO.out hb)
        clear hb
        go_wp2_with fail
        go_ret2
        exact ⟨none, 0, by rw [HJ.out]; rfl, by rw [HJ.out]; exact Bytes.nil _ _, HB.out⟩
      | true =>
        have HJ := Lib.hid (HNX.out hb)
        have h4 : f.1.size = 4 := nameB_size hb
        have HKS4 : Hid (f.1.data.toList.length = 4 ∧ f.1.size = 4) := Lib.hid ⟨by simpa using h4, h4⟩
        clear hb h4
        have hp1 : decide ((262144 : Int) < (ln : Int)) = false := by simp; omega
        have hp2 : decide ((262144 : Int) < (PL : Int)) = false := by simp; omega
        have HN4 : Hid (∀ (u : World), Bytes (u.alloc (Obj.cells #[.int .u8 ((ln : Int) / 16777216), .int .u8 ((ln : Int) / 65536), .int .u8 ((ln : Int) / 256 % 256), .int .u8 ((ln : Int) % 256)] 5)) (some ⟨u.heap.size, 0, none⟩) (four ln)) := Lib.hid (fun u => Bytes.lit u (four ln) _ _ _ (by
          rw [← four_cells, show (ln : Int) / 16777216 % 256 = (ln : Int) / 16777216 by omega, show (ln : Int) / 65536 % 256 = (ln : Int) / 65536 by omega]))
        have HOA : Hid (∀ o, OwnM (wr.alloc o) w.heap.size (.slice (some ⟨go, 0, none⟩) PL co) pre) := Lib.hid (fun o => HO.out.keep ((Below.refl _ _).alloc (Nat.le_refl _) o))
        have HBA : Hid (∀ o, Below w.heap.size w (wr.alloc o)) := Lib.hid (fun o => HB.out.alloc HB.out.size o)
        go_wp2_with (at_builtin; refine wpList_append_M rfl (.tmp 41) (.tmp 53) rfl w.heap.size _ pre rfl (HOA.out _) ⟨wr.heap.size, 0, none⟩ 4 4 (four ln) rfl rfl (HN4.out wr) (by have := HPL.out; omega) (HBA.out _).size ?_)
        intro v6 w6 ho6 hg6
        have HB6 := Lib.hid ((HOA.out _).grow (HBA.out _) hg6 ho6)
        obtain ⟨g6, c6, e6, _⟩ := ho6.view
        subst e6
        have HO6 := Lib.hid ho6
        clear ho6 hg6 s0 s1 HOA HBA
        have HO6d : Hid (OwnM w6.drew w.heap.size (.slice (some ⟨g6, 0, none⟩) (pre ++ four ln).length c6) (pre ++ four ln)) := HO6.out
        have HB6d : Hid (Below w.heap.size w w6.drew) := Lib.hid HB6.out.drew
        have HL6 : Hid ((pre ++ four ln).length + f.1.size ≤ 140737488355328 ∧ ((pre ++ four ln) ++ f.1.data.toList).length + ln ≤ 140737488355328 ∧ (((pre ++ four ln) ++ f.1.data.toList) ++ f.2).length + 4 ≤ 140737488355328) := Lib.hid (by
          have := HKS4.out
          have := HPL.out
          have := HLN.out
          simp only [List.length_append, four_length]
          omega)
        have hS := HSS.out _ HB6d.out
        obtain ⟨L6, hL6⟩ : ∃ L, L = (pre ++ four ln).length := ⟨_, rfl⟩
        rw [← hL6] at HO6d ⊢
        clear hL6 HO6 HB6
        go_wp2_with fail
        go_region_held3 (fun u => u.cell? ⟨g5, o5 + q * 2, none⟩ = some (.string f.1) ∧ u.cell? ⟨g5, o5 + q * 2 + 1, none⟩ = some (.slice ad ln cd)) (first | exact hS | exact hS1 | exact hS2)
          (first
            | (refine step_append_MS (by rfl) (.tmp 55) (.tmp 60) (by rfl) w.heap.size _ _ (by rfl) HO6d.out f.1 (by rfl) HL6.out.1 HB6d.out.size ?_; intro v7 w7 ho7 hg7; have HB7 : Hid (Below w.heap.size w w7) := Lib.hid (HO6d.out.grow HB6d.out hg7 ho7); have HO7 := Lib.hid ho7; have hS1 := HSS.out _ HB7.out; clear ho7 hg7)
            | (refine step_append_M (by rfl) (.tmp 61) (.tmp 66) (by rfl) w.heap.size _ _ (by rfl) HO7.out ad ln cd f.2 (by rfl) HLN.out (HF.out.1.keep HB7.out) HF.out.2 HL6.out.2.1 HB7.out.size ?_; intro v8 w8 ho8 hg8; have HB8 : Hid (Below w.heap.size w w8) := Lib.hid (HO7.out.grow HB7.out hg8 ho8); have HO8 := Lib.hid ho8; have hS2 := HSS.out _ HB8.out; clear ho8 hg8))
        all_goals
          have HB8d : Hid (Below w.heap.size w w8.drew) := Lib.hid HB8.out.drew
          have HO8d : Hid (OwnM w8.drew w.heap.size v8 (((pre ++ four ln) ++ f.1.data.toList) ++ f.2)) := HO8.out
          have HCR : Hid (crcV f.1 f.2 < 4294967296) := Lib.hid (crc_lt _ _)
          have HCX : Hid (Calls Try.prog 26 #[.string f.1, .slice ad ln cd] w8.drew fun e w' => e = .returned (.int .u32 (crcV f.1 f.2 : Nat)) ∧ bytesW w8.drew 5 f.1 = w') := Lib.hid (by
            have h := Su.chunkSum_any f.1 (by have := HKS4.out.2; omega) ad cd f.2 w8.drew (HF.out.1.keep HB8d.out) (by have := HLN.out; omega)
            rw [← HLN.out] at h
            exact h)
          have HB9 : Hid (Below w.heap.size w (bytesW w8.drew 5 f.1)) := Lib.hid (chain HB8d.out (bytesW_below _ _ _))
          have HO9 : Hid (OwnM (bytesW w8.drew 5 f.1) w.heap.size v8 (((pre ++ four ln) ++ f.1.data.toList) ++ f.2)) := Lib.hid (HO8d.out.keep (bytesW_below _ _ _))
          have hS3 := HSS.out _ HB8d.out
          have hS4 := HSS.out _ HB9.out
          have hcl := HCR.out
          generalize crcV f.1 f.2 = C at *
          clear hS hS1 hS2 HB7 HO7 HB8 HO8
          go_wp2_with fail
          go_region_held3 (fun u => u.cell? ⟨g5, o5 + q * 2, none⟩ = some (.string f.1) ∧ u.cell? ⟨g5, o5 + q * 2 + 1, none⟩ = some (.slice ad ln cd)) (first | exact hS3 | exact hS4)
            (first
              | (go_at_call 26; refine HCX.out.mono ?_; rintro e w' ⟨rfl, rfl⟩))
          all_goals
            clear hS3 hS4
            generalize bytesW w8.drew 5 f.1 = w9 at *
            obtain ⟨g9, c9, e9, _⟩ := HO9.out.view
            subst e9
            obtain ⟨L9, hL9⟩ : ∃ L, L = (((pre ++ four ln) ++ f.1.data.toList) ++ f.2).length := ⟨_, rfl⟩
            have HL9 : Hid (L9 + 4 ≤ 140737488355328) := Lib.hid (by rw [hL9]; exact HL6.out.2.2)
            have HL9e := Lib.hid hL9
            rw [← hL9] at HO9 ⊢
            clear hL9
            have HN9 : Hid (∀ (u : World), Bytes (u.alloc (Obj.cells #[.int .u8 ((C : Int) / 16777216), .int .u8 ((C : Int) / 65536 % 256), .int .u8 ((C : Int) / 256 % 256), .int .u8 ((C : Int) % 256)] 5)) (some ⟨u.heap.size, 0, none⟩) (four C)) := Lib.hid (fun u => Bytes.lit u (four C) _ _ _ (by
              rw [← four_cells, show (C : Int) / 16777216 % 256 = (C : Int) / 16777216 by omega]))
            have HOA : Hid (∀ o, OwnM (w9.alloc o) w.heap.size (.slice (some ⟨g9, 0, none⟩) L9 c9) (((pre ++ four ln) ++ f.1.data.toList) ++ f.2)) := Lib.hid (fun o => HO9.out.keep ((Below.refl _ _).alloc (Nat.le_refl _) o))
            have HBA : Hid (∀ o, Below w.heap.size w (w9.alloc o)) := Lib.hid (fun o => HB9.out.alloc HB9.out.size o)
            go_wp2_with (at_builtin; refine wpList_append_M rfl (.tmp 79) (.tmp 91) rfl w.heap.size _ _ rfl (HOA.out _) ⟨w9.heap.size, 0, none⟩ 4 4 (four C) rfl rfl (HN9.out w9) (by have := HL9.out; have := HL9e.out; omega) (HBA.out _).size ?_)
            intro v10 w10 ho10 hg10
            have HB10 := Lib.hid ((HOA.out _).grow (HBA.out _) hg10 ho10)
            have HO10 := Lib.hid ho10
            clear ho10 hg10 HOA HBA
            go_wp2_with fail
            go_roundw
            case rel => exact ⟨q + 1, by omega, by go_num, rfl, HJ.out, (by have h := HO10.out; rw [HTK.out]; simp only [List.append_assoc] at h ⊢; exact h), HB10.out⟩
            case measure => simp [intOf]; omega
    · have hqe : LF = q := by omega
      have HAL : Hid (fs.take q = fs) := Lib.hid (by rw [← hqe, HLF.out, List.take_length])
      have HJV : Hid (joinV fs = (sigL ++ strmC fs, 0)) := Lib.hid (by
        have h := HAN.out
        rw [HAL.out] at h
        unfold joinV
        rw [if_pos h])
      rw [HAL.out] at HO HLEN0
      have hp2 : ¬ (262144 : Int) < ((sigL ++ strmC (fs.take q)).length : Int) := by rw [HAL.out, HLEN0.out]; rw [HAL.out] at htq; omega
      rw [HAL.out] at hp2 ⊢
      have HO2 := Lib.hid HO.out.view
      clear htq HLEN0
      obtain ⟨PL, hPL⟩ : ∃ L, L = (sigL ++ strmC fs).length := ⟨_, rfl⟩
      rw [← hPL] at hp2 HO2 ⊢
      have HPL := Lib.hid hPL
      clear hPL
      subst hqe
      go_wp2_with fail
      go_ret2
      obtain ⟨g', c', e', hy, _⟩ := HO2.out
      cases e'
      exact ⟨_, _, by rw [HJV.out, HPL.out]; rfl, by rw [HJV.out]; exact hy, HB.out⟩
end Go.Proofs.Ytfjcelnamjgieaa.Ck
