/- ChunkOrders, walked. Condition: chunks lie at the slice; no string and no slice passes the form's own reach. -/
import Derived.Test.YtfjcelnamjgieaaCkX
import Derived.BigQuiet
namespace Go.Proofs.Ytfjcelnamjgieaa.Ck
open Go.RowKit Ba Go.Deep
set_option linter.unusedVariables false

theorem MdIs.ne {W0 w : World} {base b : Nat} {v : Value} {fs : List Ch} {t : TypeId} {l : List Value} (h : MdIs W0 w base tR v fs) (hb : Blk w b t l) (ht : t ≠ tR) : ∀ k, v.ownBlock = some k → k ≠ b := by
  intro k hk e
  subst e
  obtain ⟨cells, h1, _⟩ := h
  rcases h1.2 with ⟨rfl, _⟩ | ⟨g, cap, cur, rfl, hB, hgg, rest⟩
  · cases hk
  · cases hk
    have h' : w.heap[g]? = _ := hb
    rw [hgg] at h'
    cases h'
    exact ht rfl
theorem below_drewN {B : Nat} {a b : World} (h : Below B a b) (n : Nat) : Below B a (b.drewN n) := ⟨h.os, h.tape, h.output, h.size, h.block⟩
theorem SrcIs.one {W0 u : World} {b : Nat} {f : Ch} {ad : Option Addr} {cd : Nat} (h : Blk u b tR (twoOf f ad cd)) (hd : Bytes W0 ad f.2 ∧ (ad = none → cd = 0) ∧ f.2.length ≤ maxLen) : SrcIs W0 u (some ⟨b, 0, none⟩) [f] := by
  intro i hi
  obtain rfl : i = 0 := by simpa using hi
  exact ⟨b, 0, ad, cd, rfl, h.cell (i := 0) rfl, h.cell (i := 1) rfl, hd⟩
theorem order_nil (w : World) : Calls Try.prog 16 #[.slice none 0 0] w fun e w' => e = .returned (.int .i64 4) ∧ Below w.heap.size w w' := by
  have h := order_any (.slice none 0 0) [] (fun f hf => by cases hf) w ⟨none, 0, rfl, Nat.le_refl _, Nat.zero_le _, fun _ => rfl, fun i hi => absurd hi (by simp)⟩
  have e : orderV [] = 4 := rfl
  rw [e] at h
  exact h
set_option maxRecDepth 100000 in
set_option maxHeartbeats 12800000 in
theorem orders_any (v : Value) (fs : List Ch) (hsz : SzC fs) (n0 n1 n2 : Nat) (hn0 : n0 < 256) (hn1 : n1 < 256) (hn2 : n2 < 256) (w : World) (h1 : ChRow w v fs) :
    Calls Try.prog 6 #[v, .agg #[.int .u8 (n0 : Nat), .int .u8 (n1 : Nat), .int .u8 (n2 : Nat)]] w fun e w' => e = .returned (.bool true) ∧ Below w.heap.size w w' := by
  have HR := Lib.hid h1
  have HFW := Lib.hid (fun u hu => few_any v fs hsz u (h1.keep hu))
  have hlen := h1
  obtain ⟨a, ca, rfl, x1, x2, x3, hv1⟩ := hlen
  have HSR := Lib.hid (fun u hu => h1.src (u := u) hu)
  obtain ⟨LF, hLF⟩ : ∃ L, L = fs.length := ⟨_, rfl⟩
  rw [← hLF] at HR HFW x1 ⊢
  have HLF := Lib.hid hLF
  have HX := Lib.hid (And.intro x1 (And.intro x2 x3))
  have HBX := Lib.hid (Blk.new w #[.int .u8 (n0 : Nat), .int .u8 (n1 : Nat), .int .u8 (n2 : Nat)] 49)
  have HB0 := Lib.hid ((Below.refl w.heap.size w).alloc (Nat.le_refl _) (Obj.cells #[.int .u8 (n0 : Nat), .int .u8 (n1 : Nat), .int .u8 (n2 : Nat)] 49))
  clear hv1 x1 x2 x3 hLF h1 hsz
  go_enter Try.func6, Try.ntmps6
  go_wp2_with fail
  refine (awake_any _).mono ?_
  rintro e w1 ⟨rfl, hb1⟩
  have HB1 := Lib.hid (chain HB0.out hb1)
  have HK1 := Lib.hid (HBX.out.keep hb1)
  have HF1 := Lib.hid (HFW.out w1 HB1.out)
  clear hb1
  go_wp2_with fail
  refine HF1.out.mono ?_
  rintro e w2 ⟨rfl, hb2⟩
  have HB2 := Lib.hid (chain HB1.out hb2)
  have HK2 := Lib.hid (HK1.out.keep hb2)
  clear hb2
  cases hfw : fewB fs with
  | false =>
    clear hfw
    go_wp2_with fail
    go_ret
    exact ⟨rfl, HB2.out⟩
  | true =>
    obtain ⟨f1, f2, f3⟩ := few_yes hfw
    have hlb : LF ≤ 100 := by rw [HLF.out]; exact f1
    have HF3 := Lib.hid f3
    clear hfw f1 f2 f3
    by_cases hl0 : LF = 0
    · subst hl0
      go_wp2_with fail
      go_ret
      exact ⟨rfl, HB2.out⟩
    · have hl1 : ((LF : Int) == 0) = false := by simpa using hl0
      have k0 := HK2.out.cell (i := 0) rfl
      have k1 := HK2.out.cell (i := 1) rfl
      have k2 := HK2.out.cell (i := 2) rfl
      go_wp2_with fail
      go_quiet (fail)
      have hlp : 0 < LF := by omega
      obtain ⟨i0, hi0⟩ : ∃ i, i = n0 % LF := ⟨_, rfl⟩
      obtain ⟨j0, hj0⟩ : ∃ i, i = n1 % LF := ⟨_, rfl⟩
      have hi : i0 < LF := by rw [hi0]; exact Nat.mod_lt _ hlp
      have hj : j0 < LF := by rw [hj0]; exact Nat.mod_lt _ hlp
      rw [show (n0 : Int) % (LF : Int) = (i0 : Int) by rw [hi0]; rfl, show (n1 : Int) % (LF : Int) = (j0 : Int) by rw [hj0]; rfl]
      have HB3 : Hid (Below w.heap.size w (w2.drewN nq)) := Lib.hid (below_drewN HB2.out nq)
      have HK3 : Hid (Blk (w2.drewN nq) w.heap.size 49 [.int .u8 (n0 : Nat), .int .u8 (n1 : Nat), .int .u8 (n2 : Nat)]) := Lib.hid (HK2.out.of (by simp))
      clear hi0 hj0 k0 k1 k2 HK2 HB2
      generalize w2.drewN nq = w3 at *
      have HE3 : Hid (MdIs w (w3.alloc (Obj.cells #[] tR)) w.heap.size tR (.slice (some ⟨w3.heap.size, 0, none⟩) 0 0) []) := Lib.hid (MdIs.empty w w3 w.heap.size HB3.out.size)
      have HB4 : Hid (Below w.heap.size w (w3.alloc (Obj.cells #[] tR))) := Lib.hid (HB3.out.alloc HB3.out.size _)
      have HK4 : Hid (Blk (w3.alloc (Obj.cells #[] tR)) w.heap.size 49 [.int .u8 (n0 : Nat), .int .u8 (n1 : Nat), .int .u8 (n2 : Nat)]) := Lib.hid (HK3.out.alloc _)
      go_wp2_with (at_builtin; refine wpList_append_mds rfl (.tmp 30) (.tmp 31) rfl w.heap.size _ [] rfl HE3.out a LF ca fs rfl HLF.out (HSR.out _ HB4.out) HX.out.2.2 (by simp; omega) HB4.out.size ?_)
      intro v7 w7 hm7 hg7
      have HM7 := Lib.hid hm7
      have HB7 : Hid (Below w.heap.size w w7) := Lib.hid (HB4.out.grown hg7 HB4.out.size (fun k hk => (HE3.out.lt k hk).1))
      have HK7 : Hid (Blk w7 w.heap.size 49 [.int .u8 (n0 : Nat), .int .u8 (n1 : Nat), .int .u8 (n2 : Nat)]) := Lib.hid (HK4.out.of (hg7.block _ HK4.out.lt (fun e => HE3.out.ne HK4.out (by decide) _ e.symm rfl)))
      have k2 := HK7.out.cell (i := 2) rfl
      clear hm7 hg7 HE3 HB4 HK4 HB3 HK3
      have hr : n2 % 4 = 0 ∨ n2 % 4 = 1 ∨ n2 % 4 = 2 ∨ n2 % 4 = 3 := by omega
      rcases hr with hr | hr | hr | hr
      · have hm : (n2 : Int) % 4 = 0 := by omega
        obtain ⟨g7, c7, rfl, hg7, _⟩ := HM7.out.shape (by rw [← HLF.out]; exact hlp)
        rw [← HLF.out] at HM7 ⊢
        have hi' : i0 < fs.length := by rw [← HLF.out]; exact hi
        have hj' : j0 < fs.length := by rw [← HLF.out]; exact hj
        have hfz := fun k => HM7.out.frozen k
        by_cases hij : i0 = j0
        · subst hij
          obtain ⟨adi, cdi, p0, p1, pd⟩ := HM7.out.at2 i0 hi'
          have HFI := Lib.hid (show fs[i0]'hi' ∈ fs from List.getElem_mem hi')
          generalize fs[i0]'hi' = fi at *
          have HPD := Lib.hid pd
          obtain ⟨lni, hlni⟩ : ∃ L, L = fi.2.length := ⟨_, rfl⟩
          rw [← hlni] at p1
          have HLI := Lib.hid hlni
          clear pd hlni
          go_wp2_with fail
          go_region
          all_goals
            have HMX : Hid (MdIs w (((((w7.setCell ⟨g7, i0 * 2, none⟩ (.string fi.1)).setCell ⟨g7, i0 * 2 + 1, none⟩ (.slice adi lni cdi)).setCell ⟨g7, i0 * 2, none⟩ (.string fi.1)).setCell ⟨g7, i0 * 2 + 1, none⟩ (.slice adi lni cdi)).drew) w.heap.size tR (.slice (some ⟨g7, 0, none⟩) LF c7) ((fs.set i0 fi).set i0 fi)) := Lib.hid ((HM7.out.set i0 hi' fi adi cdi lni HLI.out HPD.out).set i0 (by rw [List.length_set]; exact hi') fi adi cdi lni HLI.out HPD.out)
            have HBX : Hid (Below w.heap.size w (((((w7.setCell ⟨g7, i0 * 2, none⟩ (.string fi.1)).setCell ⟨g7, i0 * 2 + 1, none⟩ (.slice adi lni cdi)).setCell ⟨g7, i0 * 2, none⟩ (.string fi.1)).setCell ⟨g7, i0 * 2 + 1, none⟩ (.slice adi lni cdi)).drew)) := Lib.hid ((((HB7.out.setCell hg7 _).setCell hg7 _).setCell hg7 _).setCell hg7 _).drew
            generalize (((((w7.setCell ⟨g7, i0 * 2, none⟩ (.string fi.1)).setCell ⟨g7, i0 * 2 + 1, none⟩ (.slice adi lni cdi)).setCell ⟨g7, i0 * 2, none⟩ (.string fi.1)).setCell ⟨g7, i0 * 2 + 1, none⟩ (.slice adi lni cdi)).drew) = wx at *
            clear p0 p1 hfz
            have HRX := Lib.hid (HMX.out.row HBX.out)
            have HLX := Lib.hid (show ((fs.set i0 fi).set i0 fi).length ≤ 1000000000 by rw [List.length_set, List.length_set, ← HLF.out]; omega)
            have HSX : Hid (∀ f ∈ ((fs.set i0 fi).set i0 fi), f ∈ fs) := Lib.hid (fun f hf => ((List.mem_or_eq_of_mem_set hf).elim (fun h => (List.mem_or_eq_of_mem_set h).elim id (fun h => by rw [h]; exact HFI.out)) (fun h => by rw [h]; exact HFI.out)))
            have HDX := Lib.hid (show ∀ f ∈ ((fs.set i0 fi).set i0 fi), f.2.length ≤ 1000000000 from fun f hf => by have := (HF3.out f (HSX.out f hf)).2; omega)
            have HKX := Lib.hid (show ∀ f ∈ ((fs.set i0 fi).set i0 fi), f.1.size ≤ maxLen from fun f hf => by have := (HF3.out f (HSX.out f hf)).1; unfold maxLen; omega)
            clear HMX HSX
            generalize ((fs.set i0 fi).set i0 fi) = fx at *
            have HA := Lib.hid (back_any _ fx HLX.out HDX.out _ HRX.out)
            go_wp2_with fail
            refine HA.out.mono ?_
            rintro e w9 ⟨v9, rfl, hc9, hb9⟩
            have HB9 := Lib.hid (chain HBX.out hb9)
            have HO9 := Lib.hid (order_any v9 fx HKX.out w9 hc9.row)
            have HR9 := Lib.hid (HRX.out.keep hb9)
            clear hc9 hb9
            go_wp2_with fail
            refine HO9.out.mono ?_
            rintro e w10 ⟨rfl, hb10⟩
            have HB10 := Lib.hid (chain HB9.out hb10)
            have HRO := Lib.hid (rorder_any _ fx HLX.out HKX.out w10 (HR9.out.keep hb10))
            rw [← orders] at HRO
            clear hb10
            go_wp2_with fail
            refine HRO.out.mono ?_
            rintro e w11 ⟨rfl, hb11⟩
            have HB11 := Lib.hid (chain HB10.out hb11)
            clear hb11
            generalize orderV fx = od at *
            have hod : ((od : Int) == (od : Int)) = true := by simp
            go_wp2_with fail
            refine (order_nil _).mono ?_
            rintro e w12 ⟨rfl, hb12⟩
            have HB12 := Lib.hid (chain HB11.out hb12)
            clear hb12
            go_wp2_with fail
            go_ret
            exact ⟨rfl, HB12.out⟩
        · obtain ⟨adi, cdi, p0, p1, pd⟩ := HM7.out.at2 i0 hi'
          obtain ⟨adj, cdj, r0, r1, rd⟩ := HM7.out.at2 j0 hj'
          have HFI := Lib.hid (show fs[i0]'hi' ∈ fs from List.getElem_mem hi')
          have HFJ := Lib.hid (show fs[j0]'hj' ∈ fs from List.getElem_mem hj')
          generalize fs[i0]'hi' = fi at *
          generalize fs[j0]'hj' = fj at *
          have HPD := Lib.hid pd
          have HRD := Lib.hid rd
          obtain ⟨lni, hlni⟩ : ∃ L, L = fi.2.length := ⟨_, rfl⟩
          obtain ⟨lnj, hlnj⟩ : ∃ L, L = fj.2.length := ⟨_, rfl⟩
          rw [← hlni] at p1
          rw [← hlnj] at r1
          have HLI := Lib.hid hlni
          have HLJ := Lib.hid hlnj
          clear pd rd hlni hlnj
          have d1 : i0 * 2 ≠ j0 * 2 := by omega
          have d2 : i0 * 2 + 1 ≠ j0 * 2 := by omega
          have d3 : i0 * 2 ≠ j0 * 2 + 1 := by omega
          have d4 : i0 * 2 + 1 ≠ j0 * 2 + 1 := by omega
          have d5 : j0 * 2 ≠ i0 * 2 := by omega
          have d6 : j0 * 2 + 1 ≠ i0 * 2 := by omega
          have d7 : j0 * 2 ≠ i0 * 2 + 1 := by omega
          have d8 : j0 * 2 + 1 ≠ i0 * 2 + 1 := by omega
          go_wp2_with fail
          go_region
          all_goals
            have HMX : Hid (MdIs w (((((w7.setCell ⟨g7, i0 * 2, none⟩ (.string fj.1)).setCell ⟨g7, i0 * 2 + 1, none⟩ (.slice adj lnj cdj)).setCell ⟨g7, j0 * 2, none⟩ (.string fi.1)).setCell ⟨g7, j0 * 2 + 1, none⟩ (.slice adi lni cdi)).drew) w.heap.size tR (.slice (some ⟨g7, 0, none⟩) LF c7) ((fs.set i0 fj).set j0 fi)) := Lib.hid ((HM7.out.set i0 hi' fj adj cdj lnj HLJ.out HRD.out).set j0 (by rw [List.length_set]; exact hj') fi adi cdi lni HLI.out HPD.out)
            have HBX : Hid (Below w.heap.size w (((((w7.setCell ⟨g7, i0 * 2, none⟩ (.string fj.1)).setCell ⟨g7, i0 * 2 + 1, none⟩ (.slice adj lnj cdj)).setCell ⟨g7, j0 * 2, none⟩ (.string fi.1)).setCell ⟨g7, j0 * 2 + 1, none⟩ (.slice adi lni cdi)).drew)) := Lib.hid ((((HB7.out.setCell hg7 _).setCell hg7 _).setCell hg7 _).setCell hg7 _).drew
            generalize (((((w7.setCell ⟨g7, i0 * 2, none⟩ (.string fj.1)).setCell ⟨g7, i0 * 2 + 1, none⟩ (.slice adj lnj cdj)).setCell ⟨g7, j0 * 2, none⟩ (.string fi.1)).setCell ⟨g7, j0 * 2 + 1, none⟩ (.slice adi lni cdi)).drew) = wx at *
            clear p0 p1 r0 r1 hfz d1 d2 d3 d4 d5 d6 d7 d8
            have HRX := Lib.hid (HMX.out.row HBX.out)
            have HLX := Lib.hid (show ((fs.set i0 fj).set j0 fi).length ≤ 1000000000 by rw [List.length_set, List.length_set, ← HLF.out]; omega)
            have HSX : Hid (∀ f ∈ ((fs.set i0 fj).set j0 fi), f ∈ fs) := Lib.hid (fun f hf => ((List.mem_or_eq_of_mem_set hf).elim (fun h => (List.mem_or_eq_of_mem_set h).elim id (fun h => by rw [h]; exact HFJ.out)) (fun h => by rw [h]; exact HFI.out)))
            have HDX := Lib.hid (show ∀ f ∈ ((fs.set i0 fj).set j0 fi), f.2.length ≤ 1000000000 from fun f hf => by have := (HF3.out f (HSX.out f hf)).2; omega)
            have HKX := Lib.hid (show ∀ f ∈ ((fs.set i0 fj).set j0 fi), f.1.size ≤ maxLen from fun f hf => by have := (HF3.out f (HSX.out f hf)).1; unfold maxLen; omega)
            clear HMX HSX
            generalize ((fs.set i0 fj).set j0 fi) = fx at *
            have HA := Lib.hid (back_any _ fx HLX.out HDX.out _ HRX.out)
            go_wp2_with fail
            refine HA.out.mono ?_
            rintro e w9 ⟨v9, rfl, hc9, hb9⟩
            have HB9 := Lib.hid (chain HBX.out hb9)
            have HO9 := Lib.hid (order_any v9 fx HKX.out w9 hc9.row)
            have HR9 := Lib.hid (HRX.out.keep hb9)
            clear hc9 hb9
            go_wp2_with fail
            refine HO9.out.mono ?_
            rintro e w10 ⟨rfl, hb10⟩
            have HB10 := Lib.hid (chain HB9.out hb10)
            have HRO := Lib.hid (rorder_any _ fx HLX.out HKX.out w10 (HR9.out.keep hb10))
            rw [← orders] at HRO
            clear hb10
            go_wp2_with fail
            refine HRO.out.mono ?_
            rintro e w11 ⟨rfl, hb11⟩
            have HB11 := Lib.hid (chain HB10.out hb11)
            clear hb11
            generalize orderV fx = od at *
            have hod : ((od : Int) == (od : Int)) = true := by simp
            go_wp2_with fail
            refine (order_nil _).mono ?_
            rintro e w12 ⟨rfl, hb12⟩
            have HB12 := Lib.hid (chain HB11.out hb12)
            clear hb12
            go_wp2_with fail
            go_ret
            exact ⟨rfl, HB12.out⟩
      · have hm : (n2 : Int) % 4 = 1 := by omega
        obtain ⟨q1, hq1⟩ : ∃ q, q = i0 + 1 := ⟨_, rfl⟩
        have hw1 : IntKind.i64.wrap ((i0 : Int) + 1) = (q1 : Int) := by simp [IntKind.wrap, IntKind.bits, IntKind.signed]; omega
        have hto : ∀ w, (Instr.slice tRs (.slice a LF ca) none (some (.int .i64 (i0 : Nat))) none).run Try.prog w = .ok (.slice a i0 ca) w := fun w => run_to2 (P := Try.prog) tRs tR Try.underlying28 size_rc a LF ca .i64 i0 (by have := HX.out.1; omega) w
        have hfr : ∀ w, (Instr.slice tRs (.slice a LF ca) (some (.int .i64 (q1 : Nat))) none none).run Try.prog w = .ok (.slice (cutA2 a q1 ca) (LF - q1) (ca - q1)) w := fun w => run_from2 (P := Try.prog) tRs tR Try.underlying28 size_rc a LF ca .i64 q1 (by omega) w
        have HQ1 := Lib.hid (And.intro hq1 hi)
        have HB7d : Hid (Below w.heap.size w (w7.drew.alloc (Obj.cells #[] tR))) := Lib.hid (HB7.out.drew.alloc HB7.out.size _)
        have HE7 : Hid (MdIs w (w7.drew.alloc (Obj.cells #[] tR)) w.heap.size tR (.slice (some ⟨w7.drew.heap.size, 0, none⟩) 0 0) []) := Lib.hid (MdIs.empty w w7.drew w.heap.size HB7.out.size)
        have HL1 : Hid (i0 = (fs.take i0).length ∧ LF - q1 = (fs.drop q1).length ∧ (fs.take i0).length + (LF - q1) < 1000000001) := Lib.hid (by have := HQ1.out; have := HLF.out; rw [List.length_take, List.length_drop]; omega)
        have HNL : Hid (cutA2 a q1 ca = none → ca - q1 = 0) := Lib.hid (fun hh => by
          unfold cutA2 at hh
          split at hh
          · omega
          · have := HX.out.2.2 (by cases a <;> simp_all); omega)
        have HCX := Lib.hid (show fs.length ≤ ca from by rw [← HLF.out]; exact HX.out.1)
        clear hq1
        go_wp2_with fail
        go_region_held3 (fun _ => True) (first | exact trivial)
          (first
            | (refine step_append_mds (by rfl) (.tmp 54) (.tmp 57) (by rfl) w.heap.size _ [] (by rfl) HE7.out a i0 ca (fs.take i0) (by rfl) HL1.out.1 ((HSR.out _ HB7d.out).take i0) HX.out.2.2 (by simp; omega) HB7d.out.size ?_; intro v8 w8 hm8 hg8; have HB8 : Hid (Below w.heap.size w w8) := Lib.hid (HB7d.out.grown hg8 HB7d.out.size (fun k hk => (HE7.out.lt k hk).1)); have HM8 : Hid (MdIs w w8 w.heap.size tR v8 (fs.take i0)) := hm8; clear hm8 hg8)
            | (refine step_append_mds (by rfl) (.tmp 58) (.tmp 62) (by rfl) w.heap.size _ (fs.take i0) (by rfl) HM8.out (cutA2 a q1 ca) (LF - q1) (ca - q1) (fs.drop q1) (by rfl) HL1.out.2.1 ((HSR.out _ HB8.out).drop q1 ca HCX.out) HNL.out HL1.out.2.2 HB8.out.size ?_; intro v10 w10 hm10 hg10; have HB10 : Hid (Below w.heap.size w w10) := Lib.hid (HB8.out.grown hg10 HB8.out.size (fun k hk => (HM8.out.lt k hk).1)); have HM10 := Lib.hid hm10; clear hm10 hg10))
        all_goals
          clear hto hfr
          have HMX := Lib.hid HM10.out
          have HBX := Lib.hid HB10.out
          clear HM10 HB10
          have HRX := Lib.hid (HMX.out.row HBX.out)
          have HLX := Lib.hid (show (fs.take i0 ++ fs.drop q1).length ≤ 1000000000 by rw [List.length_append]; have := HL1.out; omega)
          have HSX : Hid (∀ f ∈ (fs.take i0 ++ fs.drop q1), f ∈ fs) := Lib.hid (fun f hf => (List.mem_append.1 hf).elim List.mem_of_mem_take List.mem_of_mem_drop)
          have HDX := Lib.hid (show ∀ f ∈ (fs.take i0 ++ fs.drop q1), f.2.length ≤ 1000000000 from fun f hf => by have := (HF3.out f (HSX.out f hf)).2; omega)
          have HKX := Lib.hid (show ∀ f ∈ (fs.take i0 ++ fs.drop q1), f.1.size ≤ maxLen from fun f hf => by have := (HF3.out f (HSX.out f hf)).1; unfold maxLen; omega)
          clear HMX HSX
          generalize (fs.take i0 ++ fs.drop q1) = fx at *
          have HA := Lib.hid (back_any _ fx HLX.out HDX.out _ HRX.out)
          go_wp2_with fail
          refine HA.out.mono ?_
          rintro e w9 ⟨v9, rfl, hc9, hb9⟩
          have HB9 := Lib.hid (chain HBX.out hb9)
          have HO9 := Lib.hid (order_any v9 fx HKX.out w9 hc9.row)
          have HR9 := Lib.hid (HRX.out.keep hb9)
          clear hc9 hb9
          go_wp2_with fail
          refine HO9.out.mono ?_
          rintro e w10 ⟨rfl, hb10⟩
          have HB10 := Lib.hid (chain HB9.out hb10)
          have HRO := Lib.hid (rorder_any _ fx HLX.out HKX.out w10 (HR9.out.keep hb10))
          rw [← orders] at HRO
          clear hb10
          go_wp2_with fail
          refine HRO.out.mono ?_
          rintro e w11 ⟨rfl, hb11⟩
          have HB11 := Lib.hid (chain HB10.out hb11)
          clear hb11
          generalize orderV fx = od at *
          have hod : ((od : Int) == (od : Int)) = true := by simp
          go_wp2_with fail
          refine (order_nil _).mono ?_
          rintro e w12 ⟨rfl, hb12⟩
          have HB12 := Lib.hid (chain HB11.out hb12)
          clear hb12
          go_wp2_with fail
          go_ret
          exact ⟨rfl, HB12.out⟩
      · have hm : (n2 : Int) % 4 = 2 := by omega
        have hj' : j0 < fs.length := by rw [← HLF.out]; exact hj
        obtain ⟨g, off, ad, cd, ea, k0, k1, kd⟩ := HSR.out w (Below.refl _ _) j0 hj'
        have HFM := Lib.hid (show fs[j0]'hj' ∈ fs from List.getElem_mem hj')
        generalize fs[j0]'hj' = fj at *
        subst ea
        have HFJ := Lib.hid kd
        have hlg : g < w.heap.size := cell_lt (a := ⟨g, off + j0 * 2, none⟩) k0
        obtain ⟨ln, hln⟩ : ∃ L, L = fj.2.length := ⟨_, rfl⟩
        rw [← hln] at k1
        have HSS : Hid (∀ u, Below w.heap.size w u → u.cell? ⟨g, off + j0 * 2, none⟩ = some (.string fj.1) ∧ u.cell? ⟨g, off + j0 * 2 + 1, none⟩ = some (.slice ad ln cd)) := Lib.hid (fun u hu => by
          have cc5 : ∀ o, u.cell? ⟨g, o, none⟩ = w.cell? ⟨g, o, none⟩ := fun o => hu.cell (p := ⟨g, o, none⟩) hlg
          simp only [cc5]
          exact ⟨k0, k1⟩)
        have HTW : Hid ([Value.string fj.1, .slice ad ln cd] = twoOf fj ad cd) := Lib.hid (by unfold twoOf; rw [hln])
        have HLF2 := Lib.hid (show LF ≤ ca from HX.out.1)
        have HCX := Lib.hid (show fs.length ≤ ca from by rw [← HLF.out]; exact HX.out.1)
        have hto : ∀ w, (Instr.slice tRs (.slice (some ⟨g, off, none⟩) LF ca) none (some (.int .i64 (i0 : Nat))) none).run Try.prog w = .ok (.slice (some ⟨g, off, none⟩) i0 ca) w := fun w => run_to2 (P := Try.prog) tRs tR Try.underlying28 size_rc _ LF ca .i64 i0 (by have := HLF2.out; omega) w
        have hfr : ∀ w, (Instr.slice tRs (.slice (some ⟨g, off, none⟩) LF ca) (some (.int .i64 (i0 : Nat))) none none).run Try.prog w = .ok (.slice (cutA2 (some ⟨g, off, none⟩) i0 ca) (LF - i0) (ca - i0)) w := fun w => run_from2 (P := Try.prog) tRs tR Try.underlying28 size_rc _ LF ca .i64 i0 (by omega) w
        have HBA : Hid (Below w.heap.size w (w7.drew.alloc (Obj.cells #[] tR))) := Lib.hid (HB7.out.drew.alloc HB7.out.size _)
        have HBB : Hid (Below w.heap.size w ((w7.drew.alloc (Obj.cells #[] tR)).alloc (Obj.cells #[.string fj.1, .slice ad ln cd] tR))) := Lib.hid (HBA.out.alloc HBA.out.size _)
        have HBC0 : Hid (Below w.heap.size w (w7.drew.alloc (Obj.cells #[.string fj.1, .slice ad ln cd] tR))) := Lib.hid (HB7.out.drew.alloc HB7.out.size _)
        have HBC : Hid (Below w.heap.size w ((w7.drew.alloc (Obj.cells #[.string fj.1, .slice ad ln cd] tR)).alloc (Obj.cells #[] tR))) := Lib.hid (HBC0.out.alloc HBC0.out.size _)
        have HEA : Hid (MdIs w (w7.drew.alloc (Obj.cells #[] tR)) w.heap.size tR (.slice (some ⟨w7.heap.size, 0, none⟩) 0 0) []) := Lib.hid (MdIs.empty w w7.drew w.heap.size HB7.out.size)
        have HEB : Hid (MdIs w ((w7.drew.alloc (Obj.cells #[] tR)).alloc (Obj.cells #[.string fj.1, .slice ad ln cd] tR)) w.heap.size tR (.slice (some ⟨w7.heap.size, 0, none⟩) 0 0) []) := Lib.hid (HEA.out.alloc _)
        have HEC : Hid (MdIs w ((w7.drew.alloc (Obj.cells #[.string fj.1, .slice ad ln cd] tR)).alloc (Obj.cells #[] tR)) w.heap.size tR (.slice (some ⟨w7.heap.size + 1, 0, none⟩) 0 0) []) := Lib.hid (by
          have h := MdIs.empty w (w7.drew.alloc (Obj.cells #[.string fj.1, .slice ad ln cd] tR)) w.heap.size HBC0.out.size
          rw [show (w7.drew.alloc (Obj.cells #[.string fj.1, .slice ad ln cd] tR)).heap.size = w7.heap.size + 1 by simp] at h
          exact h)
        have HKB : Hid (Blk ((w7.drew.alloc (Obj.cells #[] tR)).alloc (Obj.cells #[.string fj.1, .slice ad ln cd] tR)) (w7.heap.size + 1) tR (twoOf fj ad cd)) := Lib.hid (by
          have h := Blk.new (w7.drew.alloc (Obj.cells #[] tR)) #[.string fj.1, .slice ad ln cd] tR
          rw [show (w7.drew.alloc (Obj.cells #[] tR)).heap.size = w7.heap.size + 1 by simp] at h
          rw [← HTW.out]
          exact h)
        have HKC : Hid (Blk ((w7.drew.alloc (Obj.cells #[.string fj.1, .slice ad ln cd] tR)).alloc (Obj.cells #[] tR)) w7.heap.size tR (twoOf fj ad cd)) := Lib.hid (by
          rw [← HTW.out]
          exact (Blk.new w7.drew #[.string fj.1, .slice ad ln cd] tR).alloc _)
        have HKA : Hid (∀ u : World, Blk (u.alloc (Obj.cells #[.string fj.1, .slice ad ln cd] tR)) u.heap.size tR (twoOf fj ad cd)) := Lib.hid (fun u => by
          rw [← HTW.out]
          exact Blk.new u #[.string fj.1, .slice ad ln cd] tR)
        have HL1 : Hid (i0 = (fs.take i0).length ∧ LF - i0 = (fs.drop i0).length ∧ (fs.take i0).length + 1 < 1000000001 ∧ (fs.take i0 ++ [fj]).length + (LF - i0) < 1000000001) := Lib.hid (by have := HLF.out; rw [List.length_append, List.length_singleton, List.length_take, List.length_drop]; omega)
        have HNL : Hid (cutA2 (some ⟨g, off, none⟩) i0 ca = none → ca - i0 = 0) := Lib.hid (fun hh => by unfold cutA2 at hh; split at hh <;> cases hh)
        have hS0 := HSS.out _ HB7.out.drew
        have hSA := HSS.out _ HBA.out
        have hSB := HSS.out _ HBB.out
        have hSC0 := HSS.out _ HBC0.out
        have hSC := HSS.out _ HBC.out
        have hs7 := HB7.out.size
        clear k0 k1 kd hln
        go_wp2_with fail
        go_region_held3 (fun u => u.cell? ⟨g, off + j0 * 2, none⟩ = some (.string fj.1) ∧ u.cell? ⟨g, off + j0 * 2 + 1, none⟩ = some (.slice ad ln cd)) (first | exact hS0 | exact hSA | exact hSB | exact hSC0 | exact hSC | exact hS8 | exact hS8a | exact hS9 | exact hS10)
          (first
            | (refine step_append_mds (by rfl) (.tmp 66) (.tmp 69) (by rfl) w.heap.size _ [] (by rfl) HEA.out (some ⟨g, off, none⟩) i0 ca (fs.take i0) (by rfl) HL1.out.1 ((HSR.out _ HBA.out).take i0) (fun h => by cases h) (by simp; omega) HBA.out.size ?_; intro v8 w8 hm8 hg8; have HB8 : Hid (Below w.heap.size w w8) := Lib.hid (HBA.out.grown hg8 HBA.out.size (fun k hk => (HEA.out.lt k hk).1)); have HM8 : Hid (MdIs w w8 w.heap.size tR v8 (fs.take i0)) := hm8; have hS8 := HSS.out _ HB8.out; have HB8a : Hid (Below w.heap.size w (w8.alloc (Obj.cells #[.string fj.1, .slice ad ln cd] tR))) := Lib.hid (HB8.out.alloc HB8.out.size _); have hS8a := HSS.out _ HB8a.out; clear hm8 hg8)
            | (refine step_append_mds (by rfl) (.tmp 66) (.tmp 69) (by rfl) w.heap.size _ [] (by rfl) HEB.out (some ⟨g, off, none⟩) i0 ca (fs.take i0) (by rfl) HL1.out.1 ((HSR.out _ HBB.out).take i0) (fun h => by cases h) (by simp; omega) HBB.out.size ?_; intro v8 w8 hm8 hg8; have HB8 : Hid (Below w.heap.size w w8) := Lib.hid (HBB.out.grown hg8 HBB.out.size (fun k hk => (HEB.out.lt k hk).1)); have HM8 : Hid (MdIs w w8 w.heap.size tR v8 (fs.take i0)) := hm8; have HK8 : Hid (Blk w8 (w7.heap.size + 1) tR (twoOf fj ad cd)) := Lib.hid (HKB.out.of (hg8.block _ HKB.out.lt (fun e => by simp [Value.ownBlock] at e))); have hS8 := HSS.out _ HB8.out; clear hm8 hg8)
            | (refine step_append_mds (by rfl) (.tmp 66) (.tmp 69) (by rfl) w.heap.size _ [] (by rfl) HEC.out (some ⟨g, off, none⟩) i0 ca (fs.take i0) (by rfl) HL1.out.1 ((HSR.out _ HBC.out).take i0) (fun h => by cases h) (by simp; omega) HBC.out.size ?_; intro v8 w8 hm8 hg8; have HB8 : Hid (Below w.heap.size w w8) := Lib.hid (HBC.out.grown hg8 HBC.out.size (fun k hk => (HEC.out.lt k hk).1)); have HM8 : Hid (MdIs w w8 w.heap.size tR v8 (fs.take i0)) := hm8; have HK8 : Hid (Blk w8 w7.heap.size tR (twoOf fj ad cd)) := Lib.hid (HKC.out.of (hg8.block _ HKC.out.lt (fun e => by simp [Value.ownBlock] at e))); have hS8 := HSS.out _ HB8.out; clear hm8 hg8)
            | (refine step_append_mds (by rfl) (.tmp 70) (.tmp 75) (by rfl) w.heap.size _ (fs.take i0) (by rfl) HM8.out _ 1 1 [fj] (by rfl) rfl (SrcIs.one HK8.out HFJ.out) (fun h => by cases h) HL1.out.2.2.1 HB8.out.size ?_; intro v9 w9 hm9 hg9; have HB9 : Hid (Below w.heap.size w w9) := Lib.hid (HB8.out.grown hg9 HB8.out.size (fun k hk => (HM8.out.lt k hk).1)); have HM9 := Lib.hid hm9; have hS9 := HSS.out _ HB9.out; clear hm9 hg9)
            | (refine step_append_mds (by rfl) (.tmp 70) (.tmp 75) (by rfl) w.heap.size _ (fs.take i0) (by rfl) (HM8.out.alloc _) _ 1 1 [fj] (by rfl) rfl (SrcIs.one (HKA.out w8) HFJ.out) (fun h => by cases h) HL1.out.2.2.1 HB8a.out.size ?_; intro v9 w9 hm9 hg9; have HB9 : Hid (Below w.heap.size w w9) := Lib.hid (HB8a.out.grown hg9 HB8a.out.size (fun k hk => (HM8.out.lt k hk).1)); have HM9 := Lib.hid hm9; have hS9 := HSS.out _ HB9.out; clear hm9 hg9)
            | (refine step_append_mds (by rfl) (.tmp 76) (.tmp 79) (by rfl) w.heap.size _ _ (by rfl) HM9.out (cutA2 (some ⟨g, off, none⟩) i0 ca) (LF - i0) (ca - i0) (fs.drop i0) (by rfl) HL1.out.2.1 ((HSR.out _ HB9.out).drop i0 ca HCX.out) HNL.out HL1.out.2.2.2 HB9.out.size ?_; intro v10 w10 hm10 hg10; have HB10 : Hid (Below w.heap.size w w10) := Lib.hid (HB9.out.grown hg10 HB9.out.size (fun k hk => (HM9.out.lt k hk).1)); have HM10 := Lib.hid hm10; have hS10 := HSS.out _ HB10.out; clear hm10 hg10))
        all_goals
          clear hto hfr hS0 hSA hSB hSC0 hSC
          have HMX : Hid (MdIs w w10 w.heap.size tR v10 ((fs.take i0 ++ [fj]) ++ fs.drop i0)) := HM10
          have HBX := Lib.hid HB10.out
          clear HM10 HB10
          have HRX := Lib.hid (HMX.out.row HBX.out)
          have HLX := Lib.hid (show ((fs.take i0 ++ [fj]) ++ fs.drop i0).length ≤ 1000000000 by rw [List.length_append]; have := HL1.out; omega)
          have HSX : Hid (∀ f ∈ ((fs.take i0 ++ [fj]) ++ fs.drop i0), f ∈ fs) := Lib.hid (fun f hf => (List.mem_append.1 hf).elim (fun h => (List.mem_append.1 h).elim List.mem_of_mem_take (fun h => by rw [List.mem_singleton.1 h]; exact HFM.out)) List.mem_of_mem_drop)
          have HDX := Lib.hid (show ∀ f ∈ ((fs.take i0 ++ [fj]) ++ fs.drop i0), f.2.length ≤ 1000000000 from fun f hf => by have := (HF3.out f (HSX.out f hf)).2; omega)
          have HKX := Lib.hid (show ∀ f ∈ ((fs.take i0 ++ [fj]) ++ fs.drop i0), f.1.size ≤ maxLen from fun f hf => by have := (HF3.out f (HSX.out f hf)).1; unfold maxLen; omega)
          clear HMX HSX
          generalize ((fs.take i0 ++ [fj]) ++ fs.drop i0) = fx at *
          have HA := Lib.hid (back_any _ fx HLX.out HDX.out _ HRX.out)
          go_wp2_with fail
          refine HA.out.mono ?_
          rintro e w9 ⟨v9, rfl, hc9, hb9⟩
          have HB9 := Lib.hid (chain HBX.out hb9)
          have HO9 := Lib.hid (order_any v9 fx HKX.out w9 hc9.row)
          have HR9 := Lib.hid (HRX.out.keep hb9)
          clear hc9 hb9
          go_wp2_with fail
          refine HO9.out.mono ?_
          rintro e w10 ⟨rfl, hb10⟩
          have HB10 := Lib.hid (chain HB9.out hb10)
          have HRO := Lib.hid (rorder_any _ fx HLX.out HKX.out w10 (HR9.out.keep hb10))
          rw [← orders] at HRO
          clear hb10
          go_wp2_with fail
          refine HRO.out.mono ?_
          rintro e w11 ⟨rfl, hb11⟩
          have HB11 := Lib.hid (chain HB10.out hb11)
          clear hb11
          generalize orderV fx = od at *
          have hod : ((od : Int) == (od : Int)) = true := by simp
          go_wp2_with fail
          refine (order_nil _).mono ?_
          rintro e w12 ⟨rfl, hb12⟩
          have HB12 := Lib.hid (chain HB11.out hb12)
          clear hb12
          go_wp2_with fail
          go_ret
          exact ⟨rfl, HB12.out⟩
      · have hm : (n2 : Int) % 4 = 3 := by omega
        have HMX := Lib.hid HM7.out
        have HBX := Lib.hid HB7.out
        have HRX := Lib.hid (HMX.out.row HBX.out)
        have HLX := Lib.hid (show fs.length ≤ 1000000000 by rw [← HLF.out]; omega)
        have HSX : Hid (∀ f ∈ fs, f ∈ fs) := Lib.hid (fun f hf => hf)
        have HDX := Lib.hid (show ∀ f ∈ fs, f.2.length ≤ 1000000000 from fun f hf => by have := (HF3.out f (HSX.out f hf)).2; omega)
        have HKX := Lib.hid (show ∀ f ∈ fs, f.1.size ≤ maxLen from fun f hf => by have := (HF3.out f (HSX.out f hf)).1; unfold maxLen; omega)
        clear HMX HSX
        generalize fs = fx at *
        have HA := Lib.hid (back_any _ fx HLX.out HDX.out _ HRX.out)
        go_wp2_with fail
        refine HA.out.mono ?_
        rintro e w9 ⟨v9, rfl, hc9, hb9⟩
        have HB9 := Lib.hid (chain HBX.out hb9)
        have HO9 := Lib.hid (order_any v9 fx HKX.out w9 hc9.row)
        have HR9 := Lib.hid (HRX.out.keep hb9)
        clear hc9 hb9
        go_wp2_with fail
        refine HO9.out.mono ?_
        rintro e w10 ⟨rfl, hb10⟩
        have HB10 := Lib.hid (chain HB9.out hb10)
        have HRO := Lib.hid (rorder_any _ fx HLX.out HKX.out w10 (HR9.out.keep hb10))
        rw [← orders] at HRO
        clear hb10
        go_wp2_with fail
        refine HRO.out.mono ?_
        rintro e w11 ⟨rfl, hb11⟩
        have HB11 := Lib.hid (chain HB10.out hb11)
        clear hb11
        generalize orderV fx = od at *
        have hod : ((od : Int) == (od : Int)) = true := by simp
        go_wp2_with fail
        refine (order_nil _).mono ?_
        rintro e w12 ⟨rfl, hb12⟩
        have HB12 := Lib.hid (chain HB11.out hb12)
        clear hb12
        go_wp2_with fail
        go_ret
        exact ⟨rfl, HB12.out⟩
end Go.Proofs.Ytfjcelnamjgieaa.Ck
