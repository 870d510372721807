/- FrameWhole, walked. Condition: messages and bytes lie at the slices. -/
import Derived.Test.YtmmppgkhlelbmaaFrY
namespace Go.Proofs.Ytmmppgkhlelbmaa.Fr
open Go.RowKit Ba Go.Deep
set_option linter.unusedVariables false

theorem enc_whole2 (t a b c : Int) (data : List UInt8) (h : encCode t a b c data = 0) :
    ∃ pay : List UInt8, encBytes t a b c data = encB pay ∧ Good pay ∧ pay.length ≤ 13 + data.length ∧ parseF pay = ⟨t, a, b, c, data⟩ := by
  unfold encCode at h
  by_cases hk : 1 ≤ t ∧ t ≤ 10
  · rw [if_pos hk] at h
    obtain ⟨h1, h2, h3⟩ := encK_ok h
    have hp := parse_enc t.toNat (by omega) a b c data h1 h2
    rw [Int.toNat_of_nonneg (by omega)] at hp
    obtain ⟨g1, g2, g3, g4⟩ := wid_le t.toNat
    refine ⟨encP t.toNat (wid t.toNat).1 (wid t.toNat).2.1 (wid t.toNat).2.2.1 a b c data, ?_, ⟨by rw [encP_length]; exact h3, hp.1⟩, by rw [encP_length]; omega, hp.2⟩
    unfold encBytes encL
    rw [if_pos hk, if_pos h]
    rfl
  · rw [if_neg hk] at h; cases h
theorem encB_length (pay : List UInt8) : (encB pay).length = 4 + pay.length := by unfold encB; rw [List.length_append, laid_length]
set_option maxRecDepth 100000 in
set_option maxHeartbeats 25600000 in
theorem whole_small (a b : Option Addr) (n m ca cb : Nat) (cs : List UInt8) (hm : m = cs.length) (hn20 : n ≤ 20) (hm2 : m ≤ 200) (w : World) (hargs : ArgRow w a n) (hc : Bytes w b cs) :
    Calls Try.prog 7 #[.slice a n ca, .slice b m cb] w fun e w' => e = .returned (.bool true) ∧ Below w.heap.size w w' := by
  have HM := Lib.hid hm
  have HC := Lib.hid hc
  have HARG := Lib.hid hargs
  clear hm hc hargs
  have hz := fun w => (by kernel_rfl : (zeroValue 39).run Try.prog w = .ok (.agg #[.int .i64 0, .int .i64 0, .int .i64 0, .int .i64 0, .slice none 0 0]) w)
  go_enter Try.func7, Try.ntmps7
  go_wp2_with fail
  refine (awake_any _).mono ?_
  rintro e w1 ⟨rfl, hb1⟩
  have HB1 := Lib.hid hb1
  clear hb1
  go_wp2_with fail
  go_loopw [5, 6, 7, 8, 9] (fun vs vk i _ _ wr => ∃ (j : Nat) (pays : List (List UInt8)), j ≤ n ∧ i = .int .i64 j ∧ Hid (Own wr w.heap.size vs (strm pays)) ∧ Hid (KfsIs w wr w.heap.size vk (pays.map parseF)) ∧ Hid ((∀ p ∈ pays, Good p) ∧ (strm pays).length ≤ 600 * j ∧ pays.length ≤ j) ∧ Hid (Below w.heap.size w wr)) (fun _ _ i _ _ _ => n - (intOf i).toNat)
  case atStart => exact ⟨0, [], by omega, rfl, Own.nil _ _, KfsIs.nil _ _ _, ⟨fun p hp => (by cases hp), by simp [strm], by simp⟩, HB1.out⟩
  case round =>
    obtain ⟨j, pays, hj, rfl, HO, HK, HG, HB⟩ := hrel
    by_cases hjl : j < n
    · obtain ⟨g, off, t, aa, b', cc, o, bs, cp, rfl, k0, k1, k2, k3, k4, hbs, hbl, hbn⟩ := HARG.out j hjl
      have HSS : Hid (∀ u, Below w.heap.size w u → u.cell? ⟨g, off + j * 5, none⟩ = some (.int .i64 t) ∧ u.cell? ⟨g, off + j * 5 + 1, none⟩ = some (.int .i64 aa) ∧ u.cell? ⟨g, off + j * 5 + 2, none⟩ = some (.int .i64 b') ∧ u.cell? ⟨g, off + j * 5 + 3, none⟩ = some (.int .i64 cc) ∧ u.cell? ⟨g, off + j * 5 + 4, none⟩ = some (.slice o bs.length cp)) := Lib.hid (fun u hu => by
        have hl : g < w.heap.size := cell_lt (a := ⟨g, off + j * 5, none⟩) k0
        have cg : ∀ x, u.cell? ⟨g, x, none⟩ = w.cell? ⟨g, x, none⟩ := fun x => hu.cell (p := ⟨g, x, none⟩) hl
        simp only [cg]
        exact ⟨k0, k1, k2, k3, k4⟩)
      clear k0 k1 k2 k3 k4
      obtain ⟨LN, hLN⟩ : ∃ L, L = bs.length := ⟨_, rfl⟩
      rw [← hLN] at HSS hbl
      have HLN := Lib.hid hLN
      have HBS := Lib.hid hbs
      have HBN := Lib.hid hbn
      clear hLN hbs hbn
      obtain ⟨c0, c1, c2, c3, c4⟩ := HSS.out wr HB.out
      by_cases hbig : (500 : Int) < LN
      · go_wp2_with fail
        go_ret
        exact ⟨rfl, HB.out⟩
      · have hLs : LN ≤ 500 := by omega
        clear hbl
        go_wp2_with fail
        refine (frame_any t aa b' cc bs o LN cp HLN.out (by omega) HBN.out wr (HBS.out.keep HB.out)).mono ?_
        rintro e w2 ⟨a2, n2, cp2, rfl, hn2, ho2, hb2⟩
        have HB2 := Lib.hid (chain HB.out hb2)
        have HO2 := Lib.hid (HO.out.keep hb2)
        have HK2 := Lib.hid (HK.out.keep hb2)
        have HD2 := Lib.hid ho2
        have HN2 := Lib.hid hn2
        clear c0 c1 c2 c3 c4 hn2 ho2 hb2
        go_wp2_with fail
        have hy2 : Bytes w2 a2 bs ∧ (a2 = none → cp2 = 0) := by
          obtain ⟨ao, cap, e, h1, _, _, h4, _⟩ := HD2.out.view2
          cases e
          exact ⟨h1, h4⟩
        refine (encode_any t aa b' cc bs a2 n2 cp2 HN2.out (by rw [HN2.out, ← HLN.out]; omega) hy2.2 w2 hy2.1).mono ?_
        clear hy2
        rintro e w3 ⟨v3, rfl, hb3, ho3⟩
        obtain ⟨a3, cp3, rfl, hy3, hl3, hm3, hn3, _⟩ := ho3.view2
        have HY3 := Lib.hid hy3
        have HN3 := Lib.hid hn3
        have HE3 := Lib.hid (ho3.mono HB2.out.size)
        have HB3 := Lib.hid (chain HB2.out hb3)
        have HO3 := Lib.hid (HO2.out.keep hb3)
        have HK3 := Lib.hid (HK2.out.keep hb3)
        clear ho3 hy3 hl3 hm3 hn3 hb3
        have HW := Lib.hid (fun h => enc_whole2 t aa b' cc bs h)
        obtain ⟨K, hK⟩ : ∃ K, K = encCode t aa b' cc bs := ⟨_, rfl⟩
        rw [← hK] at HW ⊢
        clear hK
        generalize encBytes t aa b' cc bs = eb at *
        obtain ⟨L3, hL3⟩ : ∃ L, L = eb.length := ⟨_, rfl⟩
        rw [← hL3] at HE3 ⊢
        have HL3 := Lib.hid hL3
        clear hL3 HD2 HN2 HO2 HK2 HB2
        have hK0 : K = 0 ∨ ((K : Int) == 0) = false := by
          by_cases h : K = 0
          · exact .inl h
          · exact .inr (beq_eq_false_iff_ne.2 (by omega))
        rcases hK0 with rfl | hk1
        · obtain ⟨pay, heb, hgood, hpl, hpf⟩ := HW.out rfl
          have HNEW : Hid (strm (pays ++ [pay]) = strm pays ++ eb) := Lib.hid (by rw [strm_add, heb])
          have HMAP : Hid ((pays ++ [pay]).map parseF = pays.map parseF ++ [⟨t, aa, b', cc, bs⟩]) := Lib.hid (by rw [List.map_append, ← hpf]; rfl)
          have HG2 : Hid ((∀ p ∈ pays ++ [pay], Good p) ∧ (strm (pays ++ [pay])).length ≤ 600 * (j + 1) ∧ (pays ++ [pay]).length ≤ j + 1) := Lib.hid (by
            refine ⟨fun p hp => ?_, ?_, ?_⟩
            · rcases List.mem_append.1 hp with h | h
              · exact HG.out.1 p h
              · rw [List.mem_singleton] at h; rw [h]; exact hgood
            · rw [strm_add, List.length_append, encB_length]
              have := HG.out.2.1
              have := HLN.out
              omega
            · rw [List.length_append, List.length_singleton]
              have := HG.out.2.2
              omega)
          have HLB : Hid ((strm pays).length + L3 ≤ 140737488355328) := Lib.hid (by
            have h := HG2.out.2.1
            rw [strm_add, List.length_append, ← heb, ← HL3.out] at h
            omega)
          have HPB : Hid ((pays.map parseF).length < 1000000001) := Lib.hid (by rw [List.length_map]; have := HG.out.2.2; omega)
          clear heb hgood hpl hpf HW hbig
          have s3 := HB3.out.size
          have HO0 : Hid (Own w3.drew w.heap.size u5 (strm pays)) := HO3.out
          have HK0 : Hid (KfsIs w w3.drew w.heap.size u6 (pays.map parseF)) := HK3.out
          have HE0 : Hid (Own w3.drew w.heap.size (.slice a3 L3 cp3) eb) := HE3.out
          have HB0 := Lib.hid HB3.out.drew
          have HO1 := Lib.hid (HO0.out.keep ((Below.refl _ _).alloc (Nat.le_refl _) (Obj.cells #[.int .i64 t, .int .i64 aa, .int .i64 b', .int .i64 cc, .slice o LN cp] 40)))
          have HK1 := Lib.hid (HK0.out.alloc (Obj.cells #[.int .i64 t, .int .i64 aa, .int .i64 b', .int .i64 cc, .slice o LN cp] 40))
          have HE1 := Lib.hid (HE0.out.keep ((Below.refl _ _).alloc (Nat.le_refl _) (Obj.cells #[.int .i64 t, .int .i64 aa, .int .i64 b', .int .i64 cc, .slice o LN cp] 40)))
          have HB1' := Lib.hid (HB0.out.alloc HB0.out.size (Obj.cells #[.int .i64 t, .int .i64 aa, .int .i64 b', .int .i64 cc, .slice o LN cp] 40))
          have HN1 : Hid (Blk (w3.drew.alloc (Obj.cells #[.int .i64 t, .int .i64 aa, .int .i64 b', .int .i64 cc, .slice o LN cp] 40)) w3.heap.size 40 (fiveOf ⟨t, aa, b', cc, bs⟩ o cp)) := Lib.hid (by
            unfold fiveOf
            rw [← HLN.out]
            exact Blk.new w3.drew #[.int .i64 t, .int .i64 aa, .int .i64 b', .int .i64 cc, .slice o LN cp] _)
          clear HO3 HK3 HE3 HO HK HY3
          go_wp2_with fail
          have hS0 := HSS.out _ HB0.out
          go_region_held3 (fun u => u.cell? ⟨g, off + j * 5, none⟩ = some (.int .i64 t) ∧ u.cell? ⟨g, off + j * 5 + 1, none⟩ = some (.int .i64 aa) ∧ u.cell? ⟨g, off + j * 5 + 2, none⟩ = some (.int .i64 b') ∧ u.cell? ⟨g, off + j * 5 + 3, none⟩ = some (.int .i64 cc) ∧ u.cell? ⟨g, off + j * 5 + 4, none⟩ = some (.slice o LN cp))
            (first | exact hS0 | exact HSS.out _ HB1'.out | exact HSS.out _ HBA.out | exact HSS.out _ HBAC.out | exact HSS.out _ HBF.out | exact HSS.out _ HBD.out | exact HSS.out _ HBCA.out)
            (first
              | (refine step_append_bytes (by rfl) (.tmp 52) (.tmp 53) (by rfl) w.heap.size u5 (strm pays) (by rfl) HO0.out a3 L3 cp3 eb (by rfl) HL3.out HE0.out.bytes HN3.out HLB.out HB0.out.size ?_; intro vA wA hoA hgA; have HOA := Lib.hid hoA; have HBA : Hid (Below w.heap.size w wA) := HB0.out.grown hgA HB0.out.size (fun k hk => (HO0.out.lt k hk).1); have HKA : Hid (KfsIs w wA w.heap.size u6 (pays.map parseF)) := HK0.out.overO HO0.out hgA; clear hoA hgA; have HBAC := Lib.hid (HBA.out.alloc HBA.out.size (Obj.cells #[.int .i64 t, .int .i64 aa, .int .i64 b', .int .i64 cc, .slice o LN cp] 40)); have HOAC := Lib.hid (HOA.out.keep ((Below.refl _ _).alloc (Nat.le_refl _) (Obj.cells #[.int .i64 t, .int .i64 aa, .int .i64 b', .int .i64 cc, .slice o LN cp] 40))); have HKAC := Lib.hid (HKA.out.alloc (Obj.cells #[.int .i64 t, .int .i64 aa, .int .i64 b', .int .i64 cc, .slice o LN cp] 40)); have HNAC : Hid (Blk (wA.alloc (Obj.cells #[.int .i64 t, .int .i64 aa, .int .i64 b', .int .i64 cc, .slice o LN cp] 40)) wA.heap.size 40 (fiveOf ⟨t, aa, b', cc, bs⟩ o cp)) := Lib.hid (by unfold fiveOf; rw [← HLN.out]; exact Blk.new wA #[.int .i64 t, .int .i64 aa, .int .i64 b', .int .i64 cc, .slice o LN cp] _))
              | (refine step_append_bytes (by rfl) (.tmp 52) (.tmp 53) (by rfl) w.heap.size u5 (strm pays) (by rfl) HO1.out a3 L3 cp3 eb (by rfl) HL3.out HE1.out.bytes HN3.out HLB.out HB1'.out.size ?_; intro vCA wCA hoCA hgCA; have HOCA := Lib.hid hoCA; have HBCA : Hid (Below w.heap.size w wCA) := HB1'.out.grown hgCA HB1'.out.size (fun k hk => (HO1.out.lt k hk).1); have HKCA : Hid (KfsIs w wCA w.heap.size u6 (pays.map parseF)) := HK1.out.overO HO1.out hgCA; have HNCA := Lib.hid (HN1.out.grown HO1.out (by decide) hgCA); clear hoCA hgCA)
              | (refine step_append_bytes (by rfl) (.tmp 52) (.tmp 53) (by rfl) w.heap.size u5 (strm pays) (by rfl) HOD.out a3 L3 cp3 eb (by rfl) HL3.out HED.out.bytes HN3.out HLB.out HBD.out.size ?_; intro vF wF hoF hgF; have HOF := Lib.hid hoF; have HBF : Hid (Below w.heap.size w wF) := HBD.out.grown hgF HBD.out.size (fun k hk => (HOD.out.lt k hk).1); have HKF := Lib.hid (HKD.out.overO HOD.out hgF); clear hoF hgF)
              | (refine step_append_kf (by rfl) (.tmp 55) (.tmp 60) (by rfl) w.heap.size u6 (pays.map parseF) (by rfl) HK1.out ⟨t, aa, b', cc, bs⟩ o cp HBS.out w3.heap.size (by rfl) HN1.out HPB.out HB1'.out.size ?_; intro vD wD hkD hgD; have HKD := Lib.hid hkD; have HBD : Hid (Below w.heap.size w wD) := HB1'.out.grown hgD HB1'.out.size (fun k hk => (HK1.out.lt k hk).1); have HOD := Lib.hid (overK HK1.out HO1.out hgD); have HED := Lib.hid (overK HK1.out HE1.out hgD); clear hkD hgD)
              | (refine step_append_kf (by rfl) (.tmp 55) (.tmp 60) (by rfl) w.heap.size u6 (pays.map parseF) (by rfl) HKAC.out ⟨t, aa, b', cc, bs⟩ o cp HBS.out wA.heap.size (by rfl) HNAC.out HPB.out HBAC.out.size ?_; intro vF wF hkF hgF; have HKF := Lib.hid hkF; have HBF : Hid (Below w.heap.size w wF) := HBAC.out.grown hgF HBAC.out.size (fun k hk => (HKAC.out.lt k hk).1); have HOF := Lib.hid (overK HKAC.out HOAC.out hgF); clear hkF hgF)
              | (refine step_append_kf (by rfl) (.tmp 55) (.tmp 60) (by rfl) w.heap.size u6 (pays.map parseF) (by rfl) HKCA.out ⟨t, aa, b', cc, bs⟩ o cp HBS.out w3.heap.size (by rfl) HNCA.out HPB.out HBCA.out.size ?_; intro vF wF hkF hgF; have HKF := Lib.hid hkF; have HBF : Hid (Below w.heap.size w wF) := HBCA.out.grown hgF HBCA.out.size (fun k hk => (HKCA.out.lt k hk).1); have HOF := Lib.hid (overK HKCA.out HOCA.out hgF); clear hkF hgF))
          all_goals
            go_wp2_with fail
            go_roundw
            case rel => exact ⟨j + 1, pays ++ [pay], by omega, by go_num, by rw [HNEW.out]; exact HOF.out, by rw [HMAP.out]; exact HKF.out, HG2.out, HBF.out⟩
            case measure => simp [intOf]; omega
        · go_wp2_with fail
          go_roundw
          case rel => exact ⟨j + 1, pays, by omega, by go_num, HO3.out, HK3.out, ⟨HG.out.1, by have := HG.out.2.1; omega, by have := HG.out.2.2; omega⟩, HB3.out⟩
          case measure => simp [intOf]; omega
    · obtain rfl : j = n := by omega
      have HRUN := Lib.hid (runB_strm pays HG.out.1)
      obtain ⟨fsA, hfsA⟩ : ∃ l, l = pays.map parseF := ⟨_, rfl⟩
      have HFL : Hid (fsA.length ≤ 20) := Lib.hid (by rw [hfsA, List.length_map]; have := HG.out.2.2; omega)
      rw [← hfsA] at HRUN HK
      have hSL : (strm pays).length ≤ 12000 := by have := HG.out.2.1; omega
      clear hfsA HG
      generalize strm pays = S at *
      obtain ⟨aS, cS, rfl, hyS, hlS, hmS, hnS, _⟩ := HO.out.view2
      obtain ⟨LS, hLS⟩ : ∃ L, L = S.length := ⟨_, rfl⟩
      rw [← hLS] at hSL hlS HO ⊢
      have HLS := Lib.hid hLS
      have HYS := Lib.hid hyS
      have HCS := Lib.hid (And.intro hlS (And.intro hmS hnS))
      clear hLS hyS hlS hmS hnS
      go_wp2_with fail
      refine (new_any wr).mono ?_
      rintro e w5 ⟨rfl, hps, hb5, hs5⟩
      have HP5 := Lib.hid hps
      have HB5 := Lib.hid (chain HB.out hb5)
      have HY5 := Lib.hid (HYS.out.keep hb5)
      have HO5 := Lib.hid (HO.out.keep hb5)
      have HK5 := Lib.hid (HK.out.keep hb5)
      have HKL := Lib.hid (fun k hk => (HK.out.lt k hk).2)
      have HOL := Lib.hid (fun k hk => (HO.out.lt k hk).2)
      have hgP : wr.heap.size < w5.heap.size := by omega
      have hwr := HB.out.size
      clear hps hb5 hs5 HO HK HYS HB
      generalize wr.heap.size = gP at *
      go_wp2_with fail
      go_loopw [11, 12, 13, 14, 15, 16] (fun out av i _ _ _ wl => ∃ (p q : Nat) (done todo : List Fr) (buf : List UInt8), p ≤ LS ∧ q ≤ p ∧ av = .int .i64 p ∧ i = .int .i64 q ∧ Hid (FrsIs wl w5.heap.size 39 out done) ∧ Hid (PsIs wl gP 60 buf false) ∧
        Hid (runB (buf ++ S.drop p) = (todo, 0, [], false) ∧ done ++ todo = fsA ∧ runB buf = ([], 0, buf, false) ∧ buf.length ≤ p) ∧ Hid (But w5.heap.size gP w5 wl)) (fun _ av _ _ _ _ _ => LS - (intOf av).toNat)
      case atStart => exact ⟨0, 0, [], fsA, [], by omega, by omega, rfl, rfl, FrsIs.nil _ _ _, HP5.out, ⟨by rw [List.nil_append, List.drop_zero]; exact HRUN.out, rfl, runB_few [] (by decide), Nat.le_refl _⟩, But.refl _ _ _⟩
      case round =>
        obtain ⟨p, q, done, todo, buf, hp, hq, rfl, rfl, HFS, HPS, HR, HBT⟩ := hrel
        by_cases hpl : p < LS
        · have HPREP : Hid (∀ (K : Nat) (kI : Int), kI = (K : Int) → p + K ≤ LS → ∃ (fs1 : List Fr) (buf2 : List UInt8) (todo' : List Fr),
              Hid (Calls Try.prog 11 #[.pointer (some ⟨gP, 0, none⟩), .slice (cutA aS p cS) K (cS - p)] wr (Added gP 60 39 (fs1, 0, buf2, false) wr)) ∧
              (∀ w, (Instr.slice 22 (.slice aS LS cS) (some (.int .i64 (p : Nat))) (some (.int .i64 ((p : Int) + kI))) none).run Try.prog w = .ok (.slice (cutA aS p cS) K (cS - p)) w) ∧
              Hid (runB (buf2 ++ S.drop (p + K)) = (todo', 0, [], false) ∧ (done ++ fs1) ++ todo' = fsA ∧ runB buf2 = ([], 0, buf2, false) ∧ buf2.length ≤ p + K ∧ done.length + fs1.length < 1000000001)) := Lib.hid (by
            intro K kI hkI hK
            obtain ⟨i1, i2, i3, i4⟩ := HR.out
            have hls := HLS.out
            have hsp : S.drop p = (S.drop p).take K ++ S.drop (p + K) := by rw [← List.drop_drop, List.take_append_drop]
            have ht : ((S.drop p).take K).length = K := by rw [List.length_take, List.length_drop]; omega
            have i1' := i1
            rw [hsp, ← List.append_assoc] at i1'
            obtain ⟨fs1, buf2, todo', h1, h2, h3, h4⟩ := runB_part _ (buf ++ (S.drop p).take K) (S.drop (p + K)) todo (Nat.lt_succ_self _) i1'
            refine ⟨fs1, buf2, todo', ?_, ?_, h3, by rw [List.append_assoc, ← h2]; exact i2, h4, ?_, ?_⟩
            · have hy : Bytes wr (cutA aS p cS) ((S.drop p).take K) := by
                have hk5 : Own wr w.heap.size (.slice aS LS cS) S := HO5.out.at fun k hk => HBT.out.block k (by have := HOL.out k hk; omega) (by have := HOL.out k hk; omega)
                exact ((by have h := hk5.bytes; exact h.drop p cS (by rw [← hls]; exact HCS.out.1) : Bytes wr (cutA aS p cS) (S.drop p))).take K
              have h := add_any gP false buf ((S.drop p).take K) wr HPS.out (cutA aS p cS) K (cS - p) ht.symm hy (cutA_nil HCS.out.2.2) (by rw [ht]; omega)
              have e : addV false buf ((S.drop p).take K) = (fs1, 0, buf2, false) := h1
              rw [e] at h
              exact h
            · intro w
              have h := run_cut_mid (P := Try.prog) 22 5 Try.underlying22 size_u8 aS LS cS .i64 .i64 (p : Int) ((p : Int) + kI) p (p + K) rfl (by omega) (by omega) (by have := HCS.out.1; omega) w
              rw [show p + K - p = K by omega] at h
              exact h
            · have h := runV_len ((buf ++ (S.drop p).take K).length + 1) (buf ++ (S.drop p).take K)
              have e : runV ((buf ++ (S.drop p).take K).length + 1) (buf ++ (S.drop p).take K) = (fs1, 0, buf2, false) := h1
              rw [e, List.length_append, ht] at h
              have : buf2.length ≤ buf.length + K := h
              omega
            · have h5 : (done ++ todo).length ≤ 20 := by rw [i2]; exact HFL.out
              rw [h2, List.length_append, List.length_append] at h5
              omega)
          have HBW : Hid (Below w.heap.size w wr) := Lib.hid (HB5.out.trans (HBT.out.below (B' := w.heap.size) HB5.out.size hwr))
          obtain ⟨d, hd⟩ : ∃ d, LS = p + d := ⟨LS - p, by omega⟩
          have hwd : IntKind.i64.wrap ((LS : Int) - (p : Int)) = (d : Int) := by simp [IntKind.wrap, IntKind.bits, IntKind.signed]; omega
          have hd1 : 1 ≤ d ∧ d ≤ 12000 := by omega
          have HDL := Lib.hid hd
          have hthree : (∃ b0 off0 x, b = some ⟨b0, off0, none⟩ ∧ q < m ∧ x < 256 ∧ 1 + x < d ∧ wr.cell? ⟨b0, off0 + q, none⟩ = some (.int .u8 ((x : Nat) : Int))) ∨ (∃ b0 off0 x, b = some ⟨b0, off0, none⟩ ∧ q < m ∧ x < 256 ∧ ¬ 1 + x < d ∧ wr.cell? ⟨b0, off0 + q, none⟩ = some (.int .u8 ((x : Nat) : Int))) ∨ ¬ q < m := by
            by_cases h : q < m
            · obtain ⟨b0, off0, rfl, hx⟩ := HC.out q (by have := HM.out; omega)
              have h3 : wr.cell? ⟨b0, off0 + q, none⟩ = _ := (HBW.out.cell (p := ⟨b0, off0 + q, none⟩) (cell_lt hx)).trans hx
              have h2 := (cs[q]'(by have := HM.out; omega)).toNat_lt
              by_cases h4 : 1 + (cs[q]'(by have := HM.out; omega)).toNat < d
              · exact .inl ⟨b0, off0, (cs[q]'(by have := HM.out; omega)).toNat, rfl, h, h2, h4, h3⟩
              · exact .inr (.inl ⟨b0, off0, (cs[q]'(by have := HM.out; omega)).toNat, rfl, h, h2, h4, h3⟩)
            · exact .inr (.inr h)
          clear hd
          have hq12 : q ≤ 12000 := by omega
          rcases hthree with ⟨b0, off0, x, rfl, hqm, bx, hxd, hcx⟩ | ⟨b0, off0, x, rfl, hqm, bx, hxd, hcx⟩ | hqm
          case' inl =>
            obtain ⟨fs1, buf2, todo', HADD, hcut, HNI⟩ := HPREP.out (1 + x) (1 + (x : Int)) (by omega) (by have := HDL.out; omega)
            have HKB : Hid (p + (1 + x) ≤ LS) := Lib.hid (by have := HDL.out; omega)
            have hwx : IntKind.i64.wrap (1 + (x : Int)) = 1 + (x : Int) := by simp [IntKind.wrap, IntKind.bits, IntKind.signed]; omega
            have hwp : IntKind.i64.wrap ((p : Int) + (1 + (x : Int))) = (p : Int) + (1 + (x : Int)) := by simp [IntKind.wrap, IntKind.bits, IntKind.signed]; omega
          case' inr.inl =>
            obtain ⟨fs1, buf2, todo', HADD, hcut, HNI⟩ := HPREP.out d (d : Int) rfl (by have := HDL.out; omega)
            have HKB : Hid (p + d ≤ LS) := Lib.hid (by have := HDL.out; omega)
            have hwx : IntKind.i64.wrap (1 + (x : Int)) = 1 + (x : Int) := by simp [IntKind.wrap, IntKind.bits, IntKind.signed]; omega
            have hwp : IntKind.i64.wrap ((p : Int) + (d : Int)) = (p : Int) + d := by simp [IntKind.wrap, IntKind.bits, IntKind.signed]; omega
          case' inr.inr =>
            obtain ⟨fs1, buf2, todo', HADD, hcut, HNI⟩ := HPREP.out d (d : Int) rfl (by have := HDL.out; omega)
            have HKB : Hid (p + d ≤ LS) := Lib.hid (by have := HDL.out; omega)
            have hwp : IntKind.i64.wrap ((p : Int) + (d : Int)) = (p : Int) + d := by simp [IntKind.wrap, IntKind.bits, IntKind.signed]; omega
          all_goals
            clear HPREP
            have hk0 : (((0 : Nat) : Int) != 0) = false := rfl
            go_wp2_with fail
            refine HADD.out.mono ?_
            rintro e w6 ⟨v6, rfl, hfs6, hps6, hbut6⟩
            have sr := HBT.out.size
            have HFSK := Lib.hid (hfs6.mono sr)
            have HFSO := Lib.hid (HFS.out.but hbut6 (Nat.le_refl _) hgP)
            have HBT6 := Lib.hid (HBT.out.trans (hbut6.mono sr))
            have HPS6 := Lib.hid hps6
            have s6 := HBT6.out.size
            clear hfs6 hps6 hbut6 HADD
            go_wp2_with (at_builtin; refine wpList_append_frs rfl (.tmp 100) (.tmp 101) rfl w5.heap.size _ done rfl HFSO.out _ fs1 rfl HFSK.out HNI.out.2.2.2.2 s6 ?_)
            intro v8 w8 hfs8 hg8 hob8 hub8
            have HFS8 := Lib.hid hfs8
            have hB8 : Below w5.heap.size w6 w8 := (Below.refl _ _).grown hg8 s6 hob8
            have HBT8 := Lib.hid (HBT6.out.trans (But.of_below (g := gP) hB8))
            have HPS8 : Hid (PsIs w8 gP 60 buf2 false) := Lib.hid (HPS6.out.at fun k hk => by
              rcases hk with rfl | hu
              · exact hg8.block _ (by omega) (fun e => by have := hob8 _ e.symm; omega)
              · exact hg8.block _ hu.lt (hub8 k hu))
            clear hfs8 hg8 hob8 hub8 hB8
            go_wp2_with fail
            go_roundw
            case rel => first | exact ⟨p + (1 + x), q + 1, done ++ fs1, todo', buf2, HKB.out, by omega, by go_num, by go_num, HFS8.out, HPS8.out, ⟨HNI.out.1, HNI.out.2.1, HNI.out.2.2.1, HNI.out.2.2.2.1⟩, HBT8.out⟩ | exact ⟨p + d, q + 1, done ++ fs1, todo', buf2, HKB.out, by omega, by go_num, by go_num, HFS8.out, HPS8.out, ⟨HNI.out.1, HNI.out.2.1, HNI.out.2.2.1, HNI.out.2.2.2.1⟩, HBT8.out⟩
            case measure => simp [intOf]; have := HDL.out; omega
        · have hpe : p = LS := by omega
          subst hpe
          have HEND : Hid (done = fsA ∧ buf = []) := Lib.hid (by
            obtain ⟨i1, i2, i3, i4⟩ := HR.out
            have hdr : S.drop p = [] := List.drop_eq_nil_of_le (by rw [← HLS.out]; exact Nat.le_refl _)
            rw [hdr, List.append_nil, i3] at i1
            have e1 := congrArg Prod.fst i1
            have e2 := congrArg (fun r => r.2.2.1) i1
            dsimp only at e1 e2
            rw [← e1, List.append_nil] at i2
            exact ⟨i2, e2⟩)
          obtain ⟨hd1, hd2⟩ := HEND.out
          rw [hd1] at HFS
          rw [hd2] at HPS
          have HK7 : Hid (KfsIs w wr w.heap.size u6 fsA) := Lib.hid (HK5.out.at fun k hk => HBT.out.block k (by have := HKL.out k hk; omega) (by have := HKL.out k hk; omega))
          have HBW : Hid (Below w.heap.size w wr) := Lib.hid (HB5.out.trans (HBT.out.below (B' := w.heap.size) HB5.out.size hwr))
          have HHE : Hid (Calls Try.prog 13 #[.pointer (some ⟨gP, 0, none⟩)] wr fun e w' => e = .returned (.int .i64 0) ∧ wr = w') := held_any gP [] false wr HPS.out
          have HBR : Hid (Calls Try.prog 14 #[.pointer (some ⟨gP, 0, none⟩)] wr fun e w' => e = .returned (.bool false) ∧ wr = w') := broken_any gP [] false wr HPS.out
          clear hd1 hd2 HEND HR HPS HBT HK5 HO5 HY5 HP5 HB5 HRUN HLS HCS HKL HOL hq hpl hp hgP hwr hSL hjl
          obtain ⟨w7, hw7⟩ : ∃ x, x = wr := ⟨_, rfl⟩
          subst hw7
          obtain ⟨a5, c5, rfl, hv5⟩ := HFS.out.view
          obtain ⟨a6, c6, rfl, hv6⟩ := HK7.out.view
          have HV57 := Lib.hid hv5
          have HV67 := Lib.hid hv6
          obtain ⟨LF, hLF⟩ : ∃ L, L = fsA.length := ⟨_, rfl⟩
          rw [← hLF]
          have hLFb : LF ≤ 20 := by rw [hLF]; exact HFL.out
          have HLF := Lib.hid hLF
          have t1 : ((LF : Int) != (LF : Int)) = false := by simp
          clear hv5 hv6 hLF HFS HK7 HFL
          go_wp2_with fail
          refine HHE.out.mono ?_
          rintro e w' ⟨rfl, rfl⟩
          go_wp2_with fail
          refine HBR.out.mono ?_
          rintro e w' ⟨rfl, rfl⟩
          clear HHE HBR t1
          go_wp2_with fail
          go_loopw [17] (fun jv w8 => ∃ q : Nat, q ≤ LF ∧ jv = .int .i64 q ∧ Hid (Below w7.heap.size w7 w8)) (fun jv _ => LF - (intOf jv).toNat)
          case atStart => exact ⟨0, by omega, rfl, Below.refl _ _⟩
          case round =>
            obtain ⟨q, hq, rfl, HBI⟩ := hrel
            by_cases hql : q < LF
            · have hq' : q < fsA.length := by rw [← HLF.out]; exact hql
              obtain ⟨g5, rfl, _, ad, cd, k0, k1, k2, k3, k4, ho5⟩ := HV57.out q hq'
              obtain ⟨g6, rfl, _, ae, ce, l0, l1, l2, l3, l4, ho6⟩ := HV67.out q hq'
              generalize fsA[q]'hq' = f at *
              have HK5 := Lib.hid (And.intro k0 (And.intro k1 (And.intro k2 (And.intro k3 k4))))
              have HK6 := Lib.hid (And.intro l0 (And.intro l1 (And.intro l2 (And.intro l3 l4))))
              have HO5 := Lib.hid ho5
              have HO6 := Lib.hid ho6
              clear k0 k1 k2 k3 k4 l0 l1 l2 l3 l4 ho5 ho6
              obtain ⟨ln, hln⟩ : ∃ ln, ln = f.data.length := ⟨_, rfl⟩
              rw [← hln] at HK5 HK6 HO5
              have HLN := Lib.hid hln
              clear hln
              have HSS : Hid (∀ w', Below w7.heap.size w7 w' → (w'.cell? ⟨g5, q * 5, none⟩ = some (.int .i64 f.t) ∧ w'.cell? ⟨g5, q * 5 + 1, none⟩ = some (.int .i64 f.a) ∧ w'.cell? ⟨g5, q * 5 + 2, none⟩ = some (.int .i64 f.b) ∧ w'.cell? ⟨g5, q * 5 + 3, none⟩ = some (.int .i64 f.c) ∧ w'.cell? ⟨g5, q * 5 + 4, none⟩ = some (.slice ad ln cd)) ∧
                  (w'.cell? ⟨g6, q * 5, none⟩ = some (.int .i64 f.t) ∧ w'.cell? ⟨g6, q * 5 + 1, none⟩ = some (.int .i64 f.a) ∧ w'.cell? ⟨g6, q * 5 + 2, none⟩ = some (.int .i64 f.b) ∧ w'.cell? ⟨g6, q * 5 + 3, none⟩ = some (.int .i64 f.c) ∧ w'.cell? ⟨g6, q * 5 + 4, none⟩ = some (.slice ae ln ce))) := Lib.hid (fun w' hb' => by
                have hl5 : g5 < w7.heap.size := cell_lt (a := ⟨g5, q * 5, none⟩) HK5.out.1
                have hl6 : g6 < w7.heap.size := cell_lt (a := ⟨g6, q * 5, none⟩) HK6.out.1
                have cc5 : ∀ o, w'.cell? ⟨g5, o, none⟩ = w7.cell? ⟨g5, o, none⟩ := fun o => hb'.cell (p := ⟨g5, o, none⟩) hl5
                have cc6 : ∀ o, w'.cell? ⟨g6, o, none⟩ = w7.cell? ⟨g6, o, none⟩ := fun o => hb'.cell (p := ⟨g6, o, none⟩) hl6
                simp only [cc5, cc6]
                exact ⟨HK5.out, HK6.out⟩)
              have HSAME : Hid (∀ w', Below w7.heap.size w7 w' → Calls Try.prog 15 #[.agg #[.int .i64 f.t, .int .i64 f.a, .int .i64 f.b, .int .i64 f.c, .slice ad ln cd], .agg #[.int .i64 f.t, .int .i64 f.a, .int .i64 f.b, .int .i64 f.c, .slice ae ln ce]] w' fun e w'' => e = .returned (.bool true) ∧ Below w'.heap.size w' w'') := Lib.hid (fun w' hb' => same_yes f ad ae ln ln cd ce HLN.out HLN.out w' (HO5.out.keep hb').bytes (HO6.out.keep (chain HBW.out hb')))
              go_wp2_with fail
              have hS := HSS.out _ (HBI.out.drew)
              go_region_held3 (fun w' => (w'.cell? ⟨g5, q * 5, none⟩ = some (.int .i64 f.t) ∧ w'.cell? ⟨g5, q * 5 + 1, none⟩ = some (.int .i64 f.a) ∧ w'.cell? ⟨g5, q * 5 + 2, none⟩ = some (.int .i64 f.b) ∧ w'.cell? ⟨g5, q * 5 + 3, none⟩ = some (.int .i64 f.c) ∧ w'.cell? ⟨g5, q * 5 + 4, none⟩ = some (.slice ad ln cd)) ∧
                  (w'.cell? ⟨g6, q * 5, none⟩ = some (.int .i64 f.t) ∧ w'.cell? ⟨g6, q * 5 + 1, none⟩ = some (.int .i64 f.a) ∧ w'.cell? ⟨g6, q * 5 + 2, none⟩ = some (.int .i64 f.b) ∧ w'.cell? ⟨g6, q * 5 + 3, none⟩ = some (.int .i64 f.c) ∧ w'.cell? ⟨g6, q * 5 + 4, none⟩ = some (.slice ae ln ce)))
                (first | exact hS | exact hS9)
                (first | (go_at_call 15; refine (HSAME.out _ HBI.out.drew).mono ?_; rintro e w9 ⟨rfl, hb9⟩; have hbc9 : Below w7.heap.size w7 w9 := HBI.out.drew.trans (hb9.mono HBI.out.drew.size); have hS9 := HSS.out w9 hbc9))
              all_goals
                go_wp2_with fail
                go_roundw
                case rel => exact ⟨q + 1, by omega, by go_num, hbc9⟩
                case measure => simp [intOf]; omega
            · have hqe : q = LF := by omega
              subst hqe
              go_wp2_with fail
              go_ret
              exact ⟨rfl, chain HBW.out HBI.out⟩
set_option maxRecDepth 100000 in
theorem whole_big (a b : Option Addr) (n m ca cb : Nat) (hn : n ≤ 9223372036854775807) (hm : m ≤ 9223372036854775807) (h : 20 < n ∨ (¬ 20 < n ∧ 200 < m)) (w : World) :
    Calls Try.prog 7 #[.slice a n ca, .slice b m cb] w fun e w' => e = .returned (.bool true) ∧ Below w.heap.size w w' := by
  rcases h with h1 | ⟨h1, h2⟩
  all_goals
    go_enter Try.func7, Try.ntmps7
    go_wp2_with fail
    refine (awake_any _).mono ?_
    rintro e w1 ⟨rfl, hb1⟩
    have HB1 := Lib.hid hb1
    clear hb1
    go_wp2_with fail
    go_ret
    exact ⟨rfl, HB1.out⟩
theorem whole_any (a b : Option Addr) (n m ca cb : Nat) (cs : List UInt8) (hm : m = cs.length) (hn63 : n ≤ maxLen) (hm63 : m ≤ maxLen) (w : World) (hargs : ArgRow w a n) (hc : Bytes w b cs) :
    Calls Try.prog 7 #[.slice a n ca, .slice b m cb] w fun e w' => e = .returned (.bool true) ∧ Below w.heap.size w w' := by
  by_cases h : 20 < n ∨ (¬ 20 < n ∧ 200 < m)
  · unfold maxLen at hn63 hm63
    exact whole_big a b n m ca cb (by omega) (by omega) h w
  · exact whole_small a b n m ca cb cs hm (by omega) (by omega) w hargs hc
end Go.Proofs.Ytmmppgkhlelbmaa.Fr
