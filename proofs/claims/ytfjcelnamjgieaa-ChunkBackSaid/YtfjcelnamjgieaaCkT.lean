/- Contract of the reference's Order. Condition: chunks lie at the slice. -/
import Derived.Test.YtfjcelnamjgieaaCkS
namespace Go.Proofs.Ytfjcelnamjgieaa.Ck
open Go.RowKit Ba Go.Deep
set_option linter.unusedVariables false

/-- How many chunks of a kind the reference has counted. -/
structure Rs where
  h : Nat
  e : Nat
  p : Nat
  t : Nat
  d : Nat
def stepR (q L : Nat) (prevD : Bool) (s : Rs) (f : Ch) : Option Rs :=
  if isK f.1 kIHDR = true then (if 0 < q ∨ f.2.length ≠ 13 then none else some { s with h := s.h + 1 })
  else if isK f.1 kIEND = true then (if q + 1 < L ∨ 0 < f.2.length then none else some { s with e := s.e + 1 })
  else if isK f.1 kIDAT = true then (if 0 < s.d ∧ prevD = false then none else some { s with d := s.d + 1 })
  else if isK f.1 kPLTE = true then (if 0 < s.d ∨ 0 < s.t then none else some { s with p := s.p + 1 })
  else if isK f.1 kTRNS = true then (if 0 < s.d then none else some { s with t := s.t + 1 })
  else if nameB f.1 = true ∧ critB f.1 = false then some s else none
def prevB (fs : List Ch) (q : Nat) : Bool := isK (fs.getD (q - 1) Ch.zero).1 kIDAT
def runR (fs : List Ch) : Nat → Option Rs
  | 0 => some ⟨0, 0, 0, 0, 0⟩
  | q + 1 => (runR fs q).bind fun s => stepR q fs.length (prevB fs q) s (fs.getD q Ch.zero)
def rightR (s : Rs) : Bool := decide (s.h = 1) && decide (s.e = 1) && decide (1 ≤ s.d) && decide (s.p ≤ 1) && decide (s.t ≤ 1)
def orderR (fs : List Ch) : Nat := match runR fs fs.length with
  | some s => if rightR s = true then 0 else 4
  | none => 4
theorem runR_none {fs : List Ch} {q : Nat} (h : runR fs q = none) : ∀ k, runR fs (q + k) = none
  | 0 => h
  | k + 1 => by
    show (runR fs (q + k)).bind _ = none
    rw [runR_none h k]
    rfl
theorem runR_step {fs : List Ch} {q : Nat} {s : Rs} (hq : q < fs.length) (h : runR fs q = some s) : runR fs (q + 1) = stepR q fs.length (prevB fs q) s (fs[q]'hq) := by
  show (runR fs q).bind _ = _
  rw [h]
  show stepR _ _ _ _ (fs.getD q Ch.zero) = _
  rw [List.getD_eq_getElem?_getD, List.getElem?_eq_getElem hq]
  rfl
theorem orderR_no {fs : List Ch} {q : Nat} (hq : q < fs.length) (h : runR fs (q + 1) = none) : orderR fs = 4 := by
  have h2 := runR_none h (fs.length - (q + 1))
  rw [show q + 1 + (fs.length - (q + 1)) = fs.length by omega] at h2
  unfold orderR
  rw [h2]
set_option maxRecDepth 100000 in
set_option maxHeartbeats 12800000 in
theorem rorder_any (v : Value) (fs : List Ch) (hbd : fs.length ≤ 1000000000) (hks : ∀ f ∈ fs, f.1.size ≤ maxLen) (w : World) (h1 : ChRow w v fs) :
    Calls Try.prog 17 #[v] w fun e w' => e = .returned (.int .i64 (orderR fs : Nat)) ∧ Below w.heap.size w w' := by
  obtain ⟨a, ca, rfl, x1, x2, x3, hv1⟩ := h1
  have HV1 := Lib.hid hv1
  have HKS := Lib.hid hks
  obtain ⟨LF, hLF⟩ : ∃ L, L = fs.length := ⟨_, rfl⟩
  rw [← hLF] at x1 hbd ⊢
  have HLF := Lib.hid hLF
  clear hv1 hLF x1 x2 x3 hks
  go_enter Try.func17, Try.ntmps17
  go_wp2_with fail
  go_loopw [3, 4, 5, 6, 7, 8] (fun hv ev pv tv dv jv wr => ∃ q h e p t d : Nat, q ≤ LF ∧ jv = .int .i64 q ∧ hv = .int .i64 h ∧ ev = .int .i64 e ∧ pv = .int .i64 p ∧ tv = .int .i64 t ∧ dv = .int .i64 d ∧ h ≤ q ∧ e ≤ q ∧ p ≤ q ∧ t ≤ q ∧ d ≤ q ∧ Hid (runR fs q = some ⟨h, e, p, t, d⟩) ∧ Hid (Below w.heap.size w wr)) (fun _ _ _ _ _ jv _ => LF - (intOf jv).toNat)
  case atStart => exact ⟨0, 0, 0, 0, 0, 0, by omega, rfl, rfl, rfl, rfl, rfl, rfl, by omega, by omega, by omega, by omega, by omega, rfl, Below.refl _ _⟩
  case round =>
    obtain ⟨q, h, e, p, t, d, hq, rfl, rfl, rfl, rfl, rfl, rfl, bh, be, bp, bt, bd, HR, HB⟩ := hrel
    by_cases hql : q < LF
    · have hq' : q < fs.length := by rw [← HLF.out]; exact hql
      obtain ⟨g5, o5, ad, cd, rfl, k0, k1, _, _, lnm⟩ := HV1.out q hq'
      have hkz := HKS.out (fs[q]'hq') (List.getElem_mem hq')
      have hst := runR_step hq' HR.out
      have HNO : Hid (runR fs (q + 1) = none → orderR fs = 4) := Lib.hid (fun hh => orderR_no hq' hh)
      generalize fs[q]'hq' = f at *
      have HNM := Lib.hid (fun u => letters_any f.1 hkz u)
      have HCT := Lib.hid (fun u => rcrit_any f.1 hkz u)
      have hl5 : g5 < w.heap.size := cell_lt (a := ⟨g5, o5 + q * 2, none⟩) k0
      have cc5 : ∀ o, wr.cell? ⟨g5, o, none⟩ = w.cell? ⟨g5, o, none⟩ := fun o => HB.out.cell (p := ⟨g5, o, none⟩) hl5
      have c0 := (cc5 _).trans k0
      have c1 := (cc5 _).trans k1
      have HCC := Lib.hid cc5
      have HST := Lib.hid hst
      unfold stepR at hst
      obtain ⟨ln, hln⟩ : ∃ ln, ln = f.2.length := ⟨_, rfl⟩
      rw [← hln] at c1 hst lnm
      unfold maxLen at lnm
      rw [← HLF.out] at hst
      clear cc5 k0 k1 hkz hln hl5
      by_cases hkIHDR : isK f.1 kIHDR = true
      · have s1 : (f.1.toList == [73, 72, 68, 82]) = true := hkIHDR
        rw [if_pos hkIHDR] at hst
        clear hkIHDR
        by_cases hq0 : 0 < q
        · rw [if_pos (.inl hq0)] at hst
          have hq0' : decide ((0 : Int) < (q : Int)) = true := by simp; omega
          have HO := Lib.hid (HNO.out hst)
          clear hst HNO
          go_wp2_with fail
          go_ret
          exact ⟨by rw [HO.out]; rfl, HB.out⟩
        · have hq0' : decide ((0 : Int) < (q : Int)) = false := by simp; omega
          by_cases h13 : ln = 13
          · rw [if_neg (fun hh => hh.elim hq0 (fun hh => hh h13))] at hst
            have h13' : ((ln : Int) != 13) = false := by simp; omega
            have HY := Lib.hid hst
            clear hst HNO
            go_wp2_with fail
            go_roundw
            case rel => exact ⟨q + 1, h + 1, e, p, t, d, by omega, by go_num, by go_num, rfl, rfl, rfl, rfl, by omega, by omega, by omega, by omega, by omega, HY.out, HB.out⟩
            case measure => simp [intOf]; omega
          · rw [if_pos (.inr h13)] at hst
            have h13' : ((ln : Int) != 13) = true := bne_iff_ne.2 (by omega)
            have HO := Lib.hid (HNO.out hst)
            clear hst HNO
            go_wp2_with fail
            go_ret
            exact ⟨by rw [HO.out]; rfl, HB.out⟩
      · have s1 : (f.1.toList == [73, 72, 68, 82]) = false := by simpa [isK, kIHDR] using hkIHDR
        rw [if_neg hkIHDR] at hst
        clear hkIHDR
        by_cases hkIEND : isK f.1 kIEND = true
        · have s2 : (f.1.toList == [73, 69, 78, 68]) = true := hkIEND
          rw [if_pos hkIEND] at hst
          clear hkIEND
          have hws : IntKind.i64.wrap ((LF : Int) - 1) = (LF : Int) - 1 := by simp [IntKind.wrap, IntKind.bits, IntKind.signed]; omega
          by_cases hq0 : q + 1 < LF
          · rw [if_pos (.inl hq0)] at hst
            have hq0' : decide ((q : Int) < (LF : Int) - 1) = true := by simp; omega
            have HO := Lib.hid (HNO.out hst)
            clear hst HNO
            go_wp2_with fail
            go_ret
            exact ⟨by rw [HO.out]; rfl, HB.out⟩
          · have hq0' : decide ((q : Int) < (LF : Int) - 1) = false := by simp; omega
            by_cases h13 : 0 < ln
            · rw [if_pos (.inr h13)] at hst
              have h13' : decide ((0 : Int) < (ln : Int)) = true := by simp; omega
              have HO := Lib.hid (HNO.out hst)
              clear hst HNO
              go_wp2_with fail
              go_ret
              exact ⟨by rw [HO.out]; rfl, HB.out⟩
            · rw [if_neg (fun hh => hh.elim hq0 h13)] at hst
              have h13' : decide ((0 : Int) < (ln : Int)) = false := by simp; omega
              have HY := Lib.hid hst
              clear hst HNO
              go_wp2_with fail
              go_roundw
              case rel => exact ⟨q + 1, h, e + 1, p, t, d, by omega, by go_num, rfl, by go_num, rfl, rfl, rfl, by omega, by omega, by omega, by omega, by omega, HY.out, HB.out⟩
              case measure => simp [intOf]; omega
        · have s2 : (f.1.toList == [73, 69, 78, 68]) = false := by simpa [isK, kIEND] using hkIEND
          rw [if_neg hkIEND] at hst
          clear hkIEND
          by_cases hkIDAT : isK f.1 kIDAT = true
          · have s3 : (f.1.toList == [73, 68, 65, 84]) = true := hkIDAT
            rw [if_pos hkIDAT] at hst
            clear hkIDAT
            by_cases hd : 0 < d
            · have hd' : decide ((0 : Int) < (d : Int)) = true := by simp; omega
              obtain ⟨m, rfl⟩ : ∃ m, q = m + 1 := ⟨q - 1, by omega⟩
              have hm' : m < fs.length := by omega
              obtain ⟨g6, o6, ae, ce, e6, j0, _, _, _, _⟩ := HV1.out m hm'
              cases e6
              have hpv : prevB fs (m + 1) = isK (fs[m]'hm').1 kIDAT := by
                unfold prevB
                rw [show m + 1 - 1 = m by omega, List.getD_eq_getElem?_getD, List.getElem?_eq_getElem hm']
                rfl
              rw [hpv] at hst
              generalize fs[m]'hm' = fp at *
              have b0 := (HCC.out _).trans j0
              clear hpv j0
              cases hpd : isK fp.1 kIDAT with
              | true =>
                have s4 : (fp.1.toList == [73, 68, 65, 84]) = true := hpd
                rw [hpd, if_neg (fun hh => by cases hh.2)] at hst
                clear hpd
                have HY := Lib.hid hst
                clear hst HNO
                go_wp2_with fail
                go_roundw
                case rel => exact ⟨m + 1 + 1, h, e, p, t, d + 1, by omega, by go_num, rfl, rfl, rfl, rfl, by go_num, by omega, by omega, by omega, by omega, by omega, HY.out, HB.out⟩
                case measure => simp [intOf]; omega
              | false =>
                have s4 : (fp.1.toList == [73, 68, 65, 84]) = false := hpd
                rw [hpd, if_pos ⟨hd, rfl⟩] at hst
                clear hpd
                have HO := Lib.hid (HNO.out hst)
                clear hst HNO
                go_wp2_with fail
                go_ret
                exact ⟨by rw [HO.out]; rfl, HB.out⟩
            · have hd' : decide ((0 : Int) < (d : Int)) = false := by simp; omega
              rw [if_neg (fun hh => hd hh.1)] at hst
              have HY := Lib.hid hst
              clear hst HNO
              go_wp2_with fail
              go_roundw
              case rel => exact ⟨q + 1, h, e, p, t, d + 1, by omega, by go_num, rfl, rfl, rfl, rfl, by go_num, by omega, by omega, by omega, by omega, by omega, HY.out, HB.out⟩
              case measure => simp [intOf]; omega
          · have s3 : (f.1.toList == [73, 68, 65, 84]) = false := by simpa [isK, kIDAT] using hkIDAT
            rw [if_neg hkIDAT] at hst
            clear hkIDAT
            by_cases hkPLTE : isK f.1 kPLTE = true
            · have s4 : (f.1.toList == [80, 76, 84, 69]) = true := hkPLTE
              rw [if_pos hkPLTE] at hst
              clear hkPLTE
              by_cases hd : 0 < d
              · rw [if_pos (.inl hd)] at hst
                have hd' : decide ((0 : Int) < (d : Int)) = true := by simp; omega
                have HO := Lib.hid (HNO.out hst)
                clear hst HNO
                go_wp2_with fail
                go_ret
                exact ⟨by rw [HO.out]; rfl, HB.out⟩
              · have hd' : decide ((0 : Int) < (d : Int)) = false := by simp; omega
                by_cases ht : 0 < t
                · rw [if_pos (.inr ht)] at hst
                  have ht' : decide ((0 : Int) < (t : Int)) = true := by simp; omega
                  have HO := Lib.hid (HNO.out hst)
                  clear hst HNO
                  go_wp2_with fail
                  go_ret
                  exact ⟨by rw [HO.out]; rfl, HB.out⟩
                · rw [if_neg (fun hh => hh.elim hd ht)] at hst
                  have ht' : decide ((0 : Int) < (t : Int)) = false := by simp; omega
                  have HY := Lib.hid hst
                  clear hst HNO
                  go_wp2_with fail
                  go_roundw
                  case rel => exact ⟨q + 1, h, e, p + 1, t, d, by omega, by go_num, rfl, rfl, by go_num, rfl, rfl, by omega, by omega, by omega, by omega, by omega, HY.out, HB.out⟩
                  case measure => simp [intOf]; omega
            · have s4 : (f.1.toList == [80, 76, 84, 69]) = false := by simpa [isK, kPLTE] using hkPLTE
              rw [if_neg hkPLTE] at hst
              clear hkPLTE
              by_cases hkTRNS : isK f.1 kTRNS = true
              · have s5 : (f.1.toList == [116, 82, 78, 83]) = true := hkTRNS
                rw [if_pos hkTRNS] at hst
                clear hkTRNS
                by_cases hd : 0 < d
                · rw [if_pos hd] at hst
                  have hd' : decide ((0 : Int) < (d : Int)) = true := by simp; omega
                  have HO := Lib.hid (HNO.out hst)
                  clear hst HNO
                  go_wp2_with fail
                  go_ret
                  exact ⟨by rw [HO.out]; rfl, HB.out⟩
                · rw [if_neg hd] at hst
                  have hd' : decide ((0 : Int) < (d : Int)) = false := by simp; omega
                  have HY := Lib.hid hst
                  clear hst HNO
                  go_wp2_with fail
                  go_roundw
                  case rel => exact ⟨q + 1, h, e, p, t + 1, d, by omega, by go_num, rfl, rfl, rfl, by go_num, rfl, by omega, by omega, by omega, by omega, by omega, HY.out, HB.out⟩
                  case measure => simp [intOf]; omega
              · have s5 : (f.1.toList == [116, 82, 78, 83]) = false := by simpa [isK, kTRNS] using hkTRNS
                rw [if_neg hkTRNS] at hst
                clear hkTRNS
                cases hn : nameB f.1 with
                | false =>
                  rw [hn] at HNM hst
                  rw [if_neg (fun hh => by cases hh.1)] at hst
                  have HO := Lib.hid (HNO.out hst)
                  clear hst HNO hn
                  go_wp2_with fail
                  refine (HNM.out _).mono ?_
                  rintro e w' ⟨rfl, rfl⟩
                  go_wp2_with fail
                  go_ret
                  exact ⟨by rw [HO.out]; rfl, HB.out⟩
                | true =>
                  rw [hn] at HNM hst
                  cases hc : critB f.1 with
                  | true =>
                    rw [hc] at HCT hst
                    rw [if_neg (fun hh => by cases hh.2)] at hst
                    have HO := Lib.hid (HNO.out hst)
                    clear hst HNO hn hc
                    go_wp2_with fail
                    refine (HNM.out _).mono ?_
                    rintro e w' ⟨rfl, rfl⟩
                    go_wp2_with fail
                    refine (HCT.out _).mono ?_
                    rintro e w' ⟨rfl, rfl⟩
                    go_wp2_with fail
                    go_ret
                    exact ⟨by rw [HO.out]; rfl, HB.out⟩
                  | false =>
                    rw [hc] at HCT hst
                    rw [if_pos ⟨rfl, rfl⟩] at hst
                    have HY := Lib.hid hst
                    clear hst HNO hn hc
                    go_wp2_with fail
                    refine (HNM.out _).mono ?_
                    rintro e w' ⟨rfl, rfl⟩
                    go_wp2_with fail
                    refine (HCT.out _).mono ?_
                    rintro e w' ⟨rfl, rfl⟩
                    go_wp2_with fail
                    go_roundw
                    case rel => exact ⟨q + 1, h, _, p, t, d, by omega, by go_num, rfl, rfl, rfl, rfl, rfl, by omega, by omega, by omega, by omega, by omega, HY.out, HB.out⟩
                    case measure => simp [intOf]; omega
    · have hqe : LF = q := by omega
      have HO : Hid (orderR fs = if rightR ⟨h, e, p, t, d⟩ = true then 0 else 4) := Lib.hid (by
        have hh := HR.out
        rw [← hqe, HLF.out] at hh
        unfold orderR
        rw [hh])
      subst hqe
      unfold rightR at HO
      have hbc : ∀ x : Nat, ((x : Int) != 1) = !(decide (x = 1)) := fun x => by
        by_cases hx : x = 1
        · subst hx; rfl
        · rw [bne_iff_ne.2 (by omega : (x : Int) ≠ 1)]; simp [hx]
      have h1 := hbc h
      have h2 := hbc e
      have h3 : decide ((d : Int) < 1) = !(decide (1 ≤ d)) := by
        by_cases hx : 1 ≤ d
        · rw [decide_eq_true hx, decide_eq_false (by omega : ¬ (d : Int) < 1)]; rfl
        · rw [decide_eq_false hx, decide_eq_true (by omega : (d : Int) < 1)]; rfl
      have h4 : decide ((1 : Int) < (p : Int)) = !(decide (p ≤ 1)) := by
        by_cases hx : p ≤ 1
        · rw [decide_eq_true hx, decide_eq_false (by omega : ¬ (1 : Int) < (p : Int))]; rfl
        · rw [decide_eq_false hx, decide_eq_true (by omega : (1 : Int) < (p : Int))]; rfl
      have h5 : decide ((1 : Int) < (t : Int)) = !(decide (t ≤ 1)) := by
        by_cases hx : t ≤ 1
        · rw [decide_eq_true hx, decide_eq_false (by omega : ¬ (1 : Int) < (t : Int))]; rfl
        · rw [decide_eq_false hx, decide_eq_true (by omega : (1 : Int) < (t : Int))]; rfl
      dsimp only at HO
      clear hbc
      generalize decide (h = 1) = B1 at *
      generalize decide (e = 1) = B2 at *
      generalize decide (1 ≤ d) = B3 at *
      generalize decide (p ≤ 1) = B4 at *
      generalize decide (t ≤ 1) = B5 at *
      cases B1 <;> cases B2 <;> cases B3 <;> cases B4 <;> cases B5
      all_goals
        go_wp2_with fail
        go_ret
        exact ⟨by rw [HO.out]; rfl, HB.out⟩
end Go.Proofs.Ytfjcelnamjgieaa.Ck
