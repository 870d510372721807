/- FrameParses, walked. Condition: bytes lie at the slice. -/
import Derived.Test.YtmmppgkhlelbmaaFrN
import Derived.Deep.RegionHeld3
namespace Go.Proofs.Ytmmppgkhlelbmaa.Fr
open Go.RowKit Ba Go.Deep
set_option linter.unusedVariables false

theorem _root_.Go.Proofs.Ytmmppgkhlelbmaa.Ba.Own.bytes {w : World} {B : Nat} {ao : Option Addr} {n cap : Nat} {bs : List UInt8} (h : Own w B (.slice ao n cap) bs) : Bytes w ao bs := by
  obtain ⟨ao', cap', e, hb, _⟩ := h.view
  cases e
  exact hb
theorem encode_back (kb : UInt8) (r : List UInt8) (f : Fr) (hf : f = frOf kb r) (h : parseC (kb :: r) = 0) (hl : r.length + 1 ≤ 262208) (ad : Option Addr) (n cd : Nat) (hn : n = f.data.length) (w : World) {B : Nat} (hd : Own w B (.slice ad n cd) f.data) :
    Calls Try.prog 18 #[.agg #[.int .i64 f.t, .int .i64 f.a, .int .i64 f.b, .int .i64 f.c, .slice ad n cd]] w (Encd (laidV (((kb :: r).length : Nat) : Int) 4 ++ (kb :: r)) 0 w) := by
  obtain ⟨h1, h2, h3, h4, h5⟩ := parse_back kb r h hl
  subst hf
  obtain ⟨g1, g2, g3, _⟩ := wid_le kb.toNat
  obtain ⟨ao', cap', e, hb, _, _, hnil⟩ := hd.view
  cases e
  have hlen : (frOf kb r).data.length ≤ r.length := by show (r.drop _).length ≤ _; rw [List.length_drop]; omega
  have hE := encode_yes kb.toNat _ _ _ ⟨h1, h2⟩ (wid kb.toNat).2.2.2 g1 g2 g3 (frOf kb r).a (frOf kb r).b (frOf kb r).c (frOf kb r).data ad _ cd rfl (by omega) hnil w hb (fun w => shapeOf_yes kb.toNat ⟨h1, h2⟩ w)
  unfold encL at hE
  rw [h4, if_pos rfl, h5] at hE
  exact hE
set_option maxRecDepth 100000 in
set_option maxHeartbeats 3200000 in
theorem parses_any (bs : List UInt8) (a : Option Addr) (n cap : Nat) (hn : n = bs.length) (hcap : n ≤ cap) (hcap2 : cap ≤ maxLen) (hnil : a = none → cap = 0) (w : World) (hb : Bytes w a bs) :
    Calls Try.prog 4 #[.slice a n cap] w fun e w' => e = .returned (.bool true) ∧ Below w.heap.size w w' := by
  have HB := Lib.hid hb
  have HN := Lib.hid hn
  have HCAP := Lib.hid (And.intro hcap (And.intro hcap2 hnil))
  have hn2 : n ≤ 9223372036854775807 := by unfold maxLen at hcap2; omega
  clear hb hn hcap hcap2 hnil
  by_cases hbig : 5000 < n
  · go_enter Try.func4, Try.ntmps4
    go_wp2_with fail
    refine (awake_any _).mono ?_
    rintro e w1 ⟨rfl, hb1⟩
    have HB1 := Lib.hid hb1
    clear hb1
    go_wp2_with fail
    go_ret
    exact ⟨rfl, HB1.out⟩
  · have HP := Lib.hid (fun w1 (hb1 : Below w.heap.size w w1) => parse_any bs a n cap HN.out (by omega) HCAP.out.1 HCAP.out.2.1 w1 (HB.out.keep hb1))
    have HR := Lib.hid (fun w1 (hb1 : Below w.heap.size w w1) => rparse_any bs a n cap HN.out (by omega) HCAP.out.1 HCAP.out.2.1 w1 (HB.out.keep hb1))
    have HPB : Hid (parseC bs = 0 → ∃ kb r, bs = kb :: r ∧ parseF bs = frOf kb r ∧ parseC (kb :: r) = 0) := Lib.hid (fun h0 => by
      cases bs with
      | nil => cases h0
      | cons kb r => exact ⟨kb, r, rfl, by rw [parseF_cons, if_pos h0], h0⟩)
    by_cases h0 : parseC bs = 0
    · obtain ⟨kb, r, hbs, hf, h1⟩ := HPB.out h0
      rw [h0, hf] at HP HR
      have HBS := Lib.hid hbs
      have HF1 := Lib.hid h1
      have hft : (frOf kb r).t = kb.toNat := rfl
      have HFT := Lib.hid hft
      clear h0 hbs hf h1 HPB hft
      obtain ⟨f, hf⟩ : ∃ f, f = frOf kb r := ⟨_, rfl⟩
      rw [← hf] at HP HR HFT
      have HF := Lib.hid hf
      clear hf
      go_enter Try.func4, Try.ntmps4
      go_wp2_with fail
      refine (awake_any _).mono ?_
      rintro e w1 ⟨rfl, hb1⟩
      have HB1 := Lib.hid hb1
      clear hb1
      go_wp2_with fail
      refine (HP.out w1 HB1.out).mono ?_
      rintro e w2 ⟨v, rfl, ⟨ad, cd, rfl, hd⟩, hb2⟩
      have HD2 := Lib.hid hd
      have HB2 := Lib.hid (chain HB1.out hb2)
      have s2 := HB2.out.size
      clear hd hb2
      obtain ⟨ln, hln⟩ : ∃ ln, ln = f.data.length := ⟨_, rfl⟩
      rw [← hln] at HD2 ⊢
      have HLN := Lib.hid hln
      clear hln
      go_wp2_with fail
      have HD3 := Lib.hid (HD2.out.alloc (Obj.cells #[.int .i64 f.t, .int .i64 f.a, .int .i64 f.b, .int .i64 f.c, .slice ad ln cd] 39))
      have HK3 := Lib.hid (Blk.new w2 #[.int .i64 f.t, .int .i64 f.a, .int .i64 f.b, .int .i64 f.c, .slice ad ln cd] 39)
      have HB3 := Lib.hid (HB2.out.alloc s2 (Obj.cells #[.int .i64 f.t, .int .i64 f.a, .int .i64 f.b, .int .i64 f.c, .slice ad ln cd] 39))
      generalize w2.alloc (Obj.cells #[.int .i64 f.t, .int .i64 f.a, .int .i64 f.b, .int .i64 f.c, .slice ad ln cd] 39) = w3 at *
      refine (HR.out w3 HB3.out).mono ?_
      rintro e w4 ⟨v, rfl, ⟨ae, ce, rfl, hd⟩, hb4⟩
      have HB4 := Lib.hid (chain HB3.out hb4)
      have HD4 := Lib.hid (HD3.out.keep hb4)
      have HK4 := Lib.hid (HK3.out.keep hb4)
      rw [← HLN.out] at hd ⊢
      have HE4 := Lib.hid hd
      have c0 := HK4.out.cell (i := 0) rfl
      have c1 := HK4.out.cell (i := 1) rfl
      have c2 := HK4.out.cell (i := 2) rfl
      have c3 := HK4.out.cell (i := 3) rfl
      have c4 := HK4.out.cell (i := 4) rfl
      have lt4 := HK4.out.lt
      clear hd hb4 HD2 HD3 HK3
      go_wp2_with fail
      have hB5 := HB4.out.alloc HB4.out.size (Obj.cells #[.int .i64 f.t, .int .i64 f.a, .int .i64 f.b, .int .i64 f.c, .slice ae ln ce] 40)
      have HB5 := Lib.hid hB5
      have HK5 := Lib.hid (HK4.out.alloc (Obj.cells #[.int .i64 f.t, .int .i64 f.a, .int .i64 f.b, .int .i64 f.c, .slice ae ln ce] 40))
      have HD5 := Lib.hid (HD4.out.alloc (Obj.cells #[.int .i64 f.t, .int .i64 f.a, .int .i64 f.b, .int .i64 f.c, .slice ae ln ce] 40))
      refine (same_yes f ad ae ln ln cd ce HLN.out HLN.out _ HD5.out.bytes (HE4.out.alloc _).bytes).mono ?_
      rintro e w6 ⟨rfl, hb6⟩
      have HB6 := Lib.hid (chain HB5.out hb6)
      have HK6 := Lib.hid (HK5.out.keep hb6)
      have HD6 := Lib.hid (HD5.out.keep hb6)
      have d0 := HK6.out.cell (i := 0) rfl
      have d1 := HK6.out.cell (i := 1) rfl
      have d2 := HK6.out.cell (i := 2) rfl
      have d3 := HK6.out.cell (i := 3) rfl
      have d4 := HK6.out.cell (i := 4) rfl
      clear hb6 hB5 c0 c1 c2 c3 c4 HK4 HK5 HD4 HD5 HE4
      go_wp2_with fail
      have HEN := Lib.hid (encode_back kb r f HF.out HF1.out (by have := HN.out; rw [HBS.out, List.length_cons] at this; omega) ad ln cd HLN.out w6 HD6.out)
      refine HEN.out.mono ?_
      rintro e w7 ⟨v7, rfl, hb7, ho7⟩
      rw [← HBS.out] at ho7
      have hbL : (laidV ((bs.length : Nat) : Int) 4 ++ bs).length = n + 4 := by rw [List.length_append, laid_length, ← HN.out]; omega
      obtain ⟨ao7, cap7, rfl, hy7, hl7, hm7, hn7, hlo7⟩ := ho7.view2
      rw [hbL] at hl7 ⊢
      have hcut : ∀ w, (Instr.slice 22 (.slice ao7 (n + 4) cap7) (some (.int .i64 4)) none none).run Try.prog w = .ok (.slice (cutA ao7 4 cap7) n (cap7 - 4)) w := fun w => run_cut_from (P := Try.prog) 22 5 Try.underlying22 size_u8 ao7 (n + 4) cap7 .i64 4 (by omega) w
      have HB7 := Lib.hid (chain HB6.out hb7)
      obtain ⟨s, hs⟩ : ∃ s : ByteArray, s = ⟨bs.toArray⟩ := ⟨_, rfl⟩
      have hy8 : ∀ u, Below w7.heap.size w7 u → Bytes u (cutA ao7 4 cap7) bs := fun u hu => by
        have h := (hy7.drop 4 cap7 (by rw [hbL]; exact hl7)).keep hu
        rw [List.drop_append_of_le_length (Nat.le_of_eq (laid_length _ _).symm), show (laidV ((bs.length : Nat) : Int) 4).drop 4 = [] from List.drop_eq_nil_of_le (Nat.le_of_eq (laid_length _ _)), List.nil_append] at h
        exact h
      have r1 := fun u (hu : Below w7.heap.size w7 u) => run_str (cutA ao7 4 cap7) n (cap7 - 4) bs HN.out u (hy8 u hu)
      have r2 := fun u (hu : Below w7.heap.size w7 u) => run_str a n cap bs HN.out u (HB.out.keep (chain HB7.out hu))
      rw [← hs] at r1 r2
      have hss := str_refl s
      clear hb7 ho7 hy7 hy8 hl7 hm7 hn7 hlo7 hbL hs d0 d1 d2 d3 d4
      have hw4 : IntKind.i64.wrap ((n : Int) + 4) = n + 4 := by simp [IntKind.wrap, IntKind.bits, IntKind.signed]; omega
      have hS : (convert 22 9 (.slice (cutA ao7 4 cap7) n (cap7 - 4))).run Try.prog w7.drew = .ok (.string s) w7.drew ∧ (convert 22 9 (.slice a n cap)).run Try.prog w7.drew = .ok (.string s) w7.drew := ⟨r1 _ (Below.refl _ _).drew, r2 _ (Below.refl _ _).drew⟩
      clear r1 r2
      go_wp2_with fail
      go_region_held3 (fun w' => (convert 22 9 (.slice (cutA ao7 4 cap7) n (cap7 - 4))).run Try.prog w' = .ok (.string s) w' ∧ (convert 22 9 (.slice a n cap)).run Try.prog w' = .ok (.string s) w') (first | exact hS) (first | fail)
      all_goals
        go_wp2_with fail
        go_ret
        exact ⟨rfl, HB7.out.drew⟩
    · have hfz : parseF bs = Fr.zero := by
        cases bs with
        | nil => rfl
        | cons kb r => rw [parseF_cons, if_neg h0]
      rw [hfz] at HP HR
      obtain ⟨cd0, hcd⟩ : ∃ c, c = parseC bs := ⟨_, rfl⟩
      rw [← hcd] at HP HR h0
      clear HPB hfz hcd
      have h1 : ((cd0 : Int) == 0) = false := beq_eq_false_iff_ne.2 (by omega)
      have h2 : ((cd0 : Int) != (cd0 : Int)) = false := by simp
      clear h0
      go_enter Try.func4, Try.ntmps4
      go_wp2_with fail
      refine (awake_any _).mono ?_
      rintro e w1 ⟨rfl, hb1⟩
      have HB1 := Lib.hid hb1
      clear hb1
      go_wp2_with fail
      refine (HP.out w1 HB1.out).mono ?_
      rintro e w2 ⟨v, rfl, ⟨ad, cd, hv, hd⟩, hb2⟩
      have hv : v = .agg #[.int .i64 0, .int .i64 0, .int .i64 0, .int .i64 0, .slice ad 0 cd] := hv
      subst hv
      have HB2 := Lib.hid (chain HB1.out hb2)
      have s2 := HB2.out.size
      clear hd hb2
      go_wp2_with fail
      have HK3 := Lib.hid (Blk.new w2 #[.int .i64 0, .int .i64 0, .int .i64 0, .int .i64 0, .slice ad 0 cd] 39)
      have HB3 := Lib.hid (HB2.out.alloc s2 (Obj.cells #[.int .i64 0, .int .i64 0, .int .i64 0, .int .i64 0, .slice ad 0 cd] 39))
      generalize w2.alloc (Obj.cells #[.int .i64 0, .int .i64 0, .int .i64 0, .int .i64 0, .slice ad 0 cd] 39) = w3 at *
      refine (HR.out w3 HB3.out).mono ?_
      rintro e w4 ⟨v, rfl, ⟨ae, ce, hv, hd⟩, hb4⟩
      have hv : v = .agg #[.int .i64 0, .int .i64 0, .int .i64 0, .int .i64 0, .slice ae 0 ce] := hv
      subst hv
      have HB4 := Lib.hid (chain HB3.out hb4)
      have HK4 := Lib.hid (HK3.out.keep hb4)
      have c0 := HK4.out.cell (i := 0) rfl
      have c1 := HK4.out.cell (i := 1) rfl
      have c4 := HK4.out.cell (i := 4) rfl
      have lt4 := HK4.out.lt
      clear hd hb4 HK3
      go_wp2_with fail
      go_ret
      exact ⟨rfl, HB4.out.alloc HB4.out.size _⟩
end Go.Proofs.Ytmmppgkhlelbmaa.Fr
