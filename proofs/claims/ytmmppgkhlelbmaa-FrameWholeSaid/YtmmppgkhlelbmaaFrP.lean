/- Contract of the reference's Parser.Add. Condition: bytes lie in the parser and at the slice. -/
import Derived.Test.YtmmppgkhlelbmaaFrM
namespace Go.Proofs.Ytmmppgkhlelbmaa.Fr
open Go.RowKit Ba Go.Deep
set_option linter.unusedVariables false

set_option maxRecDepth 100000 in
set_option maxHeartbeats 1600000 in
theorem radd_broken (g : Nat) (buf : List UInt8) (w : World) (h : PsIs w g 28 buf true) (a : Option Addr) (n cap : Nat) :
    Calls Try.prog 12 #[.pointer (some ⟨g, 0, none⟩), .slice a n cap] w (Added g 28 40 ([], 15, buf, true) w) := by
  have HP := Lib.hid h
  obtain ⟨ao, cp, h1, _⟩ := h
  have c1 := h1.cell (i := 1) rfl
  clear h1
  go_enter Try.func12, Try.ntmps12
  go_wp2_with fail
  go_ret2
  exact ⟨_, rfl, FrsIs.nil _ _ _, HP.out, But.refl _ _ _⟩
/-- Five cells of a block written, under a name. -/
def ch5 (w : World) (b : Nat) (v0 v1 v2 v3 v4 : Value) : World := ((((w.setCell ⟨b, 0, none⟩ v0).setCell ⟨b, 1, none⟩ v1).setCell ⟨b, 2, none⟩ v2).setCell ⟨b, 3, none⟩ v3).setCell ⟨b, 4, none⟩ v4
theorem ch5_size (w : World) (b : Nat) (v0 v1 v2 v3 v4 : Value) : (ch5 w b v0 v1 v2 v3 v4).heap.size = w.heap.size := by
  unfold ch5
  simp [nblk_setCell]
theorem ch5_below {w : World} {b : Nat} {t : TypeId} {u0 u1 u2 u3 u4 : Value} (h : Blk w b t [u0, u1, u2, u3, u4]) (v0 v1 v2 v3 v4 : Value) : Below b w (ch5 w b v0 v1 v2 v3 v4) := by
  obtain ⟨W, hW, _, hb, _⟩ := h.put5 v0 v1 v2 v3 v4
  have : W = ch5 w b v0 v1 v2 v3 v4 := hW.symm
  subst this
  exact hb _ _ (Nat.le_refl _) (Below.refl _ _)
theorem ch5_own {w : World} {b B : Nat} {t : TypeId} {u0 u1 u2 u3 u4 v : Value} {bs : List UInt8} (h : Blk w b t [u0, u1, u2, u3, u4]) (v0 v1 v2 v3 v4 : Value) (ho : Own w B v bs) (hB : b < B) : Own (ch5 w b v0 v1 v2 v3 v4) B v bs := by
  obtain ⟨W, hW, _, _, _, _, hoW⟩ := h.put5 v0 v1 v2 v3 v4
  have : W = ch5 w b v0 v1 v2 v3 v4 := hW.symm
  subst this
  exact hoW _ _ _ ho (fun k hk => by have := ho.block k hk; omega)
theorem _root_.Go.Proofs.Ytmmppgkhlelbmaa.Ba.Bytes.at {w w' : World} {ao : Option Addr} {bs : List UInt8} (h : Bytes w ao bs) (hx : ∀ x, ao = some x → w'.heap[x.block]? = w.heap[x.block]?) : Bytes w' ao bs := by
  intro i hi
  obtain ⟨b, off, rfl, hc⟩ := h i hi
  refine ⟨b, off, rfl, ?_⟩
  have e := hx ⟨b, off, none⟩ rfl
  rw [World.cell?_of_block (w := w) (a := ⟨b, off + i, none⟩) e]
  exact hc
/-- The cut behind a message, and where it lies. -/
theorem cutA_block {ao : Option Addr} {k cap : Nat} {p : Nat → Prop} (h : ∀ x, ao = some x → p x.block) : ∀ x, cutA ao k cap = some x → p x.block := by
  intro x hh
  unfold cutA at hh
  split at hh
  · exact h x hh
  · cases ao with
    | none => cases hh
    | some y =>
      simp only [Option.map_some, Option.some.injEq] at hh
      subst hh
      have e : (y.add k).block = y.block := by unfold Addr.add; split <;> rfl
      rw [e]
      exact h y rfl
theorem cutA_nil {ao : Option Addr} {k cap : Nat} (h : ao = none → cap = 0) : cutA ao k cap = none → cap - k = 0 := by
  intro hh
  unfold cutA at hh
  split at hh
  · omega
  · have := h (by cases ao <;> simp_all); omega
set_option maxRecDepth 100000 in
set_option maxHeartbeats 6400000 in
theorem radd_whole (g : Nat) (buf bs B0 : List UInt8) (hB0 : B0 = buf ++ bs) (w : World) (h : PsIs w g 28 buf false) (a : Option Addr) (n cap : Nat) (hn : n = bs.length) (hb : Bytes w a bs) (hnil : a = none → cap = 0) (hbd : buf.length + bs.length ≤ 1000000000) :
    Calls Try.prog 12 #[.pointer (some ⟨g, 0, none⟩), .slice a n cap] w (Added g 28 40 (runB B0) w) := by
  have HB0 := Lib.hid hB0
  clear hB0
  obtain ⟨ao, cp, h1, h2, h3, h4, h5, h6⟩ := h
  have hz := fun w => (by kernel_rfl : (zeroValue 40).run Try.prog w = .ok (.agg #[.int .i64 0, .int .i64 0, .int .i64 0, .int .i64 0, .slice none 0 0]) w)
  have c0 := h1.cell (i := 0) rfl
  have c1 := h1.cell (i := 1) rfl
  have hlt := h1.lt
  have HK := Lib.hid h1
  have HY := Lib.hid h2
  have HYN := Lib.hid h5
  have HN := Lib.hid hn
  have HB := Lib.hid hb
  have HNIL := Lib.hid hnil
  have HBD := Lib.hid hbd
  clear h1 h2 h3 h4 h5 h6 hn hb hnil hbd
  obtain ⟨L, hL⟩ : ∃ L, L = buf.length := ⟨_, rfl⟩
  rw [← hL] at c0
  have HL := Lib.hid hL
  have HLB0 : Hid (([] : List UInt8).length + L ≤ 140737488355328) := Lib.hid (by have := HBD.out; rw [hL]; simp; omega)
  clear hL
  have HLB : Hid (buf.length + n ≤ 140737488355328) := Lib.hid (by have := HBD.out; have := HN.out; omega)
  go_enter Try.func12, Try.ntmps12
  go_wp2_with (at_builtin; refine wpList_append_bytes rfl (.const (.slice none 0 0)) (.tmp 18) rfl w.heap.size _ [] rfl (Own.nil _ _) ao L cp buf rfl HL.out HY.out HYN.out HLB0.out (Nat.le_refl _) ?_)
  intro v1 w1 hown1 hg1
  have hb1 : Below w.heap.size w w1 := (Below.refl _ _).grown hg1 (Nat.le_refl _) (fun k hk => by cases hk)
  have HB1 := Lib.hid hb1
  have HO1 := Lib.hid hown1
  have s1 := hb1.size
  clear hb1 hown1 c0 c1 hg1
  go_wp2_with (at_builtin; refine wpList_append_bytes rfl (.tmp 19) (.tmp 20) rfl w.heap.size _ _ rfl HO1.out a n cap bs rfl HN.out (HB.out.keep HB1.out) HNIL.out HLB.out s1 ?_)
  intro v3 w3 hown3 hg3
  have hb3 : Below w.heap.size w w3 := HB1.out.grown hg3 s1 (fun k hk => HO1.out.block k hk)
  have HK3 := Lib.hid (HK.out.keep hb3)
  obtain ⟨ao3, cap3, rfl, hby3, hl3, hm3, hn3, hlo3⟩ := hown3.view2
  have c0 := HK3.out.cell (i := 0) rfl
  have c1 := HK3.out.cell (i := 1) rfl
  have fz := fun i => HK3.out.frozen i
  have HBL : Hid (B0.length ≤ 1000000000) := Lib.hid (by rw [HB0.out, List.length_append]; exact HBD.out)
  change Own w3 w.heap.size (.slice ao3 (buf ++ bs).length cap3) (buf ++ bs) at hown3
  change Bytes w3 ao3 (buf ++ bs) at hby3
  change (buf ++ bs).length ≤ cap3 at hl3
  rw [← HB0.out] at hby3 hl3 hown3
  have HE0 : Hid ((buf ++ bs).length = B0.length) := Lib.hid (by rw [HB0.out])
  rw [HE0.out]
  have K4 := HK3.out.set 0 (.slice ao3 B0.length cap3)
  have HP4 : Hid (PsIs (w3.setCell ⟨g, 0, none⟩ (.slice ao3 B0.length cap3)) g 28 B0 false) := Lib.hid ⟨ao3, cap3, K4, hby3.setOther (a := ⟨g, 0, none⟩) (fun x hx => by have := hlo3 x hx; show x.block ≠ g; omega) _, hl3, hm3, hn3, fun x hx => (hown3.u8 x hx).at (blk_setCell_other _ _ _ _ (by have := hlo3 x hx; show x.block ≠ g; omega))⟩
  have HT4 := Lib.hid ((But.of_below (g := g) hb3).set 0 (.slice ao3 B0.length cap3))
  obtain ⟨N0, hN0⟩ : ∃ N0, N0 = B0.length := ⟨_, rfl⟩
  rw [← hN0] at HP4 HT4 ⊢
  clear hb3 hown3 hg3 hby3 hl3 hm3 hn3 hlo3 K4 HO1
  have HN0 := Lib.hid hN0
  clear hN0
  go_wp2_with fail
  generalize w3.setCell ⟨g, 0, none⟩ (.slice ao3 N0 cap3) = w4 at *
  clear c0 c1 fz HK3
  go_loopw [6, 7, 8, 9] (fun l _ _ _ wr => ∃ (done : List Fr) (cur : List UInt8), runB B0 = (done ++ (runB cur).1, (runB cur).2) ∧ PsIs wr g 28 cur false ∧ FrsIs wr w.heap.size 40 l done ∧ But w.heap.size g w wr ∧ done.length + cur.length ≤ B0.length) (fun _ _ _ _ wr => psLen wr g)
  case atStart => exact ⟨[], B0, rfl, HP4.out, FrsIs.nil _ _ _, HT4.out, by simp⟩
  case round =>
    obtain ⟨done, cur, hrun, hps, hfrs, hbut, hcnt⟩ := hrel
    have HPS := Lib.hid hps
    have HFS := Lib.hid hfrs
    have HBT := Lib.hid hbut
    have HCN := Lib.hid hcnt
    have HRN := Lib.hid hrun
    have sr := hbut.size
    have HCM : Hid (cur.length ≤ 1000000000) := Lib.hid (by have := HBL.out; omega)
    obtain ⟨aoc, cpc, hk1, hk2, hk3, hk4, hk5, hk6⟩ := hps
    have c0 := hk1.cell (i := 0) rfl
    have c1 := hk1.cell (i := 1) rfl
    have HKC := Lib.hid hk1
    have HYC := Lib.hid hk2
    have HMC := Lib.hid (And.intro hk3 (And.intro hk4 (And.intro hk5 hk6)))
    clear hfrs hbut hcnt hrun hk1 hk2 hk3 hk4 hk5 hk6
    by_cases k1 : cur.length < 4
    · have HRB := Lib.hid (runB_few cur k1)
      generalize cur.length = CL at *
      go_wp2_with fail
      go_ret2
      refine ⟨u6, ?_, ?_, ?_, ?_⟩
      · rw [HRN.out, HRB.out]; rfl
      · rw [HRN.out, HRB.out, List.append_nil]; exact HFS.out
      · rw [HRN.out, HRB.out]; exact HPS.out
      · exact HBT.out
    · have HLOW : Hid (Calls Try.prog 23 #[.slice aoc cur.length cpc, .int .i64 0, .int .i64 4] wr fun e w' => e = .returned (.int .i64 (numV cur : Nat)) ∧ wr = w') := Lib.hid (low_any cur 4 0 (by omega) cur.length rfl (by omega) (by have := HCM.out; unfold maxLen; omega) aoc cpc wr HYC.out)
      by_cases k2 : 262208 < numV cur
      · have HRB := Lib.hid (runB_long cur (by omega) k2)
        have fz := fun i => HKC.out.frozen i
        have ltc := HKC.out.lt
        have hcm := HCM.out
        obtain ⟨CL, hCL⟩ : ∃ CL, CL = cur.length := ⟨_, rfl⟩
        rw [← hCL] at c0 HLOW k1 hcm HKC
        clear hCL
        generalize numV cur = N at *
        go_wp2_with fail
        refine HLOW.out.mono ?_
        rintro e w' ⟨rfl, rfl⟩
        go_wp2_with fail
        go_ret2
        have K6 := (HKC.out.set 1 (.bool true)).set 0 (.slice none 0 0)
        have T6 := (HBT.out.set 1 (.bool true)).set 0 (.slice none 0 0)
        have F6 := (HFS.out.but ((But.refl wr.heap.size g wr).set 1 (.bool true)) (Nat.le_refl _) hlt).but ((But.refl _ g _).set 0 (.slice none 0 0)) (Nat.le_refl _) hlt
        refine ⟨u6, ?_, ?_, ?_, ?_⟩
        · rw [HRN.out, HRB.out]; rfl
        · rw [HRN.out, HRB.out, List.append_nil]; exact F6.alloc _
        · rw [HRN.out, HRB.out]; exact ⟨none, 0, K6.alloc _, Bytes.nil _ _, Nat.le_refl _, by unfold maxLen; omega, fun _ => rfl, fun x hx => by cases hx⟩
        · exact T6.alloc T6.size _
      · by_cases k3 : cur.length - 4 < numV cur
        · have HRB := Lib.hid (runB_wait cur (by omega) (by omega) k3)
          have hcm := HCM.out
          obtain ⟨CL, hCL⟩ : ∃ CL, CL = cur.length := ⟨_, rfl⟩
          rw [← hCL] at c0 HLOW k1 k3 hcm HKC
          clear hCL
          generalize numV cur = N at *
          have hsub : (CL : Int) - 4 < N := by omega
          go_wp2_with fail
          refine HLOW.out.mono ?_
          rintro e w' ⟨rfl, rfl⟩
          go_wp2_with fail
          go_ret2
          refine ⟨u6, ?_, ?_, ?_, ?_⟩
          · rw [HRN.out, HRB.out]; rfl
          · rw [HRN.out, HRB.out, List.append_nil]; exact HFS.out
          · rw [HRN.out, HRB.out]; exact HPS.out
          · exact HBT.out
        · have HPAY : Hid (Bytes wr (cutA aoc 4 cpc) (payV cur)) := Lib.hid ((HYC.out.drop 4 cpc HMC.out.1).take _)
          have HPL : Hid (numV cur = (payV cur).length) := Lib.hid (by unfold payV; rw [List.length_take, List.length_drop]; omega)
          have HDRP : Hid (Bytes wr (cutA aoc (4 + numV cur) cpc) (cur.drop (4 + numV cur))) := Lib.hid (HYC.out.drop _ cpc HMC.out.1)
          have HDL : Hid (cur.length - (4 + numV cur) = (cur.drop (4 + numV cur)).length) := Lib.hid (by rw [List.length_drop])
          have HDD : Hid ((cur.drop (4 + numV cur)).length + 4 ≤ cur.length) := Lib.hid (by rw [List.length_drop]; omega)
          have HNI := Lib.hid (cutA_nil (k := 4 + numV cur) HMC.out.2.2.1)
          have HU8 := Lib.hid (cutA_block (k := 4 + numV cur) (cap := cpc) (p := fun k => U8 wr k) HMC.out.2.2.2)
          have HMS := Lib.hid HPS.out.len
          have hfr : ∀ w, (Instr.slice 22 (.slice aoc cur.length cpc) (some (.int .i64 (4 + (numV cur : Int)))) none none).run Try.prog w = .ok (.slice (cutA aoc (4 + numV cur) cpc) (cur.length - (4 + numV cur)) (cpc - (4 + numV cur))) w := fun w => by
            have := run_cut_from (P := Try.prog) 22 5 Try.underlying22 size_u8 aoc cur.length cpc .i64 (4 + numV cur) (by omega) w
            rw [← this]; congr
          have hmid : ∀ w, (Instr.slice 22 (.slice aoc cur.length cpc) (some (.int .i64 4)) (some (.int .i64 (4 + (numV cur : Int)))) none).run Try.prog w = .ok (.slice (cutA aoc 4 cpc) (numV cur) (cpc - 4)) w := fun w => by
            have := run_cut_mid (P := Try.prog) 22 5 Try.underlying22 size_u8 aoc cur.length cpc .i64 .i64 4 (4 + (numV cur : Int)) 4 (4 + numV cur) rfl (by omega) (by omega) (by have := HMC.out.1; omega) w
            rw [show 4 + numV cur - 4 = numV cur by omega] at this
            exact this
          have HRP := Lib.hid (rparse_any (payV cur) (cutA aoc 4 cpc) (numV cur) (cpc - 4) HPL.out (by omega) (by have := HMC.out.1; omega) (by have := HMC.out.2.1; omega) (wr.alloc (Obj.cells #[.int .i64 0, .int .i64 0, .int .i64 0, .int .i64 0, .slice none 0 0] 40)) (HPAY.out.keep ((Below.refl _ _).alloc (Nat.le_refl _) _)))
          have hRB : (parseC (payV cur) = 0 ∧ runB cur = (parseF (payV cur) :: (runB (cur.drop (4 + numV cur))).1, (runB (cur.drop (4 + numV cur))).2)) ∨ (parseC (payV cur) ≠ 0 ∧ runB cur = ([], parseC (payV cur), [], true)) := by
            by_cases h : parseC (payV cur) = 0
            · exact .inl ⟨h, runB_one cur (by omega) (by omega) h⟩
            · exact .inr ⟨h, runB_bad cur (by omega) (by omega) h⟩
          have hcm := HCM.out
          have hsub : ¬ ((cur.length : Int) - 4 < numV cur) := by omega
          obtain ⟨CL, hCL⟩ : ∃ CL, CL = cur.length := ⟨_, rfl⟩
          rw [← hCL] at c0 HLOW k1 k3 hcm HKC hfr hmid hsub HDL HDD
          have HCL := Lib.hid hCL
          clear hCL HCM
          generalize payV cur = pay at *
          generalize cur.drop (4 + numV cur) = nx at *
          generalize numV cur = N at *
          obtain ⟨f, hf⟩ : ∃ f, f = parseF pay := ⟨_, rfl⟩
          obtain ⟨cd, hcd⟩ : ∃ cd, cd = parseC pay := ⟨_, rfl⟩
          rw [← hf, ← hcd] at HRP hRB
          clear hf hcd
          have ltK := HKC.out.lt
          have FB0 := Lib.hid (Blk.new wr #[.int .i64 0, .int .i64 0, .int .i64 0, .int .i64 0, .slice none 0 0] 40)
          have hs0 : (wr.alloc (Obj.cells #[.int .i64 0, .int .i64 0, .int .i64 0, .int .i64 0, .slice none 0 0] 40)).heap.size = wr.heap.size + 1 := by simp
          have hbz : Below wr.heap.size wr (wr.alloc (Obj.cells #[.int .i64 0, .int .i64 0, .int .i64 0, .int .i64 0, .slice none 0 0] 40)) := (Below.refl _ _).alloc (Nat.le_refl _) _
          go_wp2_with fail
          refine HLOW.out.mono ?_
          rintro e w' ⟨rfl, rfl⟩
          go_wp2_with fail
          refine HRP.out.mono ?_
          rintro e w5 ⟨v, rfl, ⟨aod, capd, rfl, hd⟩, hb5⟩
          have FB5 := Lib.hid (FB0.out.keep hb5)
          have HB5 := Lib.hid (chain hbz hb5)
          have K5 := Lib.hid (HKC.out.keep HB5.out)
          have s5 := HB5.out.size
          have q0 := FB5.out.cell (i := 0) rfl
          have q1 := FB5.out.cell (i := 1) rfl
          have q2 := FB5.out.cell (i := 2) rfl
          have q3 := FB5.out.cell (i := 3) rfl
          have q4 := FB5.out.cell (i := 4) rfl
          have fz := fun i => FB5.out.frozen i
          have g0 := K5.out.cell (i := 0) rfl
          have g1 := K5.out.cell (i := 1) rfl
          have gz := fun i => K5.out.frozen i
          have ltR := FB5.out.lt
          have hne : ¬ g = wr.heap.size := by omega
          have hne2 : ¬ wr.heap.size = g := by omega
          rw [hs0] at hd
          obtain ⟨ln, hln⟩ : ∃ ln, ln = f.data.length := ⟨_, rfl⟩
          rw [← hln] at hd ⊢
          have HD := Lib.hid hd
          have HLN := Lib.hid hln
          clear hln hb5 hd FB0 hbz hs0 c0 c1 HRP HLOW
          have HBC : Hid (Below wr.heap.size wr (ch5 w5 wr.heap.size (.int .i64 f.t) (.int .i64 f.a) (.int .i64 f.b) (.int .i64 f.c) (.slice aod ln capd))) := Lib.hid (HB5.out.trans (ch5_below FB5.out _ _ _ _ _))
          have HOC : Hid (Own (ch5 w5 wr.heap.size (.int .i64 f.t) (.int .i64 f.a) (.int .i64 f.b) (.int .i64 f.c) (.slice aod ln capd)) (wr.heap.size + 1) (.slice aod ln capd) f.data) := Lib.hid (ch5_own FB5.out _ _ _ _ _ HD.out (by omega))
          have HLT := Lib.hid hlt
          clear hmid hsub hcm k1 k2 k3 hlt hz
          rcases hRB with ⟨rfl, hRB⟩ | ⟨hcd, hRB⟩
          · have HRB := Lib.hid hRB
            clear hRB
            have HDC : Hid (Own ((ch5 w5 wr.heap.size (.int .i64 f.t) (.int .i64 f.a) (.int .i64 f.b) (.int .i64 f.c) (.slice aod ln capd)).alloc (Obj.cells #[.int .i64 f.t, .int .i64 f.a, .int .i64 f.b, .int .i64 f.c, .slice aod ln capd] 40)) w.heap.size (.slice aod f.data.length capd) f.data) := Lib.hid (by rw [← HLN.out]; exact (HOC.out.mono (by omega)).alloc _)
            have HNB : Hid (Blk ((ch5 w5 wr.heap.size (.int .i64 f.t) (.int .i64 f.a) (.int .i64 f.b) (.int .i64 f.c) (.slice aod ln capd)).alloc (Obj.cells #[.int .i64 f.t, .int .i64 f.a, .int .i64 f.b, .int .i64 f.c, .slice aod ln capd] 40)) w5.heap.size 40 (fiveOf f aod capd)) := Lib.hid (by
              have h := Blk.new (ch5 w5 wr.heap.size (.int .i64 f.t) (.int .i64 f.a) (.int .i64 f.b) (.int .i64 f.c) (.slice aod ln capd)) #[.int .i64 f.t, .int .i64 f.a, .int .i64 f.b, .int .i64 f.c, .slice aod ln capd] 40
              rw [ch5_size] at h
              unfold fiveOf
              rw [← HLN.out]
              exact h)
            have HBD : Hid (Below wr.heap.size wr ((ch5 w5 wr.heap.size (.int .i64 f.t) (.int .i64 f.a) (.int .i64 f.b) (.int .i64 f.c) (.slice aod ln capd)).alloc (Obj.cells #[.int .i64 f.t, .int .i64 f.a, .int .i64 f.b, .int .i64 f.c, .slice aod ln capd] 40))) := Lib.hid (HBC.out.alloc HBC.out.size _)
            have HDB : Hid (done.length < 1000000001) := Lib.hid (by have := HCN.out; have := HBL.out; omega)
            go_wp2_with (at_builtin; refine wpList_append_fr 33 40 Try.underlying33 (by decide) info_rf rfl (.tmp 69) (.tmp 71) rfl w.heap.size _ done rfl (HFS.out.keep HBD.out) f aod capd HDC.out w5.heap.size rfl HNB.out HDB.out (Nat.le_trans sr HBD.out.size) ?_)
            intro v8 w8 hfs8 hg8 hob8 hub8
            have hsm : ∀ k, k = g ∨ U8 wr k → w8.heap[k]? = wr.heap[k]? := fun k hk => by
              have hkl : k < wr.heap.size := by
                rcases hk with rfl | hu
                · exact ltK
                · exact hu.lt
              rw [← HBD.out.block k hkl]
              refine hg8.block k (Nat.lt_of_lt_of_le hkl HBD.out.size) ?_
              rcases hk with rfl | hu
              · intro e
                have := hob8 _ e.symm
                have := HLT.out
                omega
              · exact hub8 k (hu.at (HBD.out.block k hkl))
            have HSM := Lib.hid hsm
            have HFS8 := Lib.hid hfs8
            have HBT8 := Lib.hid ((HBT.out.trans (But.of_below (HBD.out.mono sr))).trans (But.of_below (g := g) ((Below.refl w.heap.size _).grown hg8 (Nat.le_trans sr HBD.out.size) hob8)))
            have HK8 := Lib.hid (HKC.out.of (hsm g (.inl rfl)))
            have g0 := HK8.out.cell (i := 0) rfl
            have gz := fun i => HK8.out.frozen i
            clear hsm hfs8 hg8 hob8 hub8 g1 q0 q1 q2 q3 q4 fz
            go_wp2_with fail
            go_roundw
            case rel =>
              have K9 := HK8.out.set 0 (.slice (cutA aoc (4 + N) cpc) (CL - (4 + N)) (cpc - (4 + N)))
              rw [HDL.out] at K9
              have hY8 : Bytes w8 (cutA aoc (4 + N) cpc) nx := HDRP.out.at (fun x hx => HSM.out _ (.inr (HU8.out x hx)))
              have hgx : ∀ x, cutA aoc (4 + N) cpc = some x → x.block ≠ g := fun x hx => (HU8.out x hx).ne HKC.out (by decide)
              refine ⟨done ++ [f], nx, by rw [HRN.out, HRB.out]; simp, ⟨cutA aoc (4 + N) cpc, cpc - (4 + N), ?_, ?_, ?_, ?_, HNI.out, ?_⟩, ?_, ?_, ?_⟩
              · rw [HDL.out]; exact K9
              · exact hY8.setOther (a := ⟨g, 0, none⟩) (fun x hx => hgx x hx) _
              · rw [← HDL.out]; have := HMC.out.1; have := HCL.out; omega
              · have := HMC.out.2.1; omega
              · exact fun x hx => ((HU8.out x hx).at (HSM.out _ (.inr (HU8.out x hx)))).at (blk_setCell_other _ _ _ _ (hgx x hx))
              · exact HFS8.out.but ((But.refl w8.heap.size g w8).set 0 _) (Nat.le_refl _) HLT.out
              · exact HBT8.out.set 0 _
              · rw [List.length_append, List.length_singleton]; have := HCN.out; have := HDD.out; have := HCL.out; omega
            case measure =>
              have K9 := HK8.out.set 0 (.slice (cutA aoc (4 + N) cpc) (CL - (4 + N)) (cpc - (4 + N)))
              have e9 : psLen (w8.setCell ⟨g, 0, none⟩ (.slice (cutA aoc (4 + N) cpc) (CL - (4 + N)) (cpc - (4 + N)))) g = CL - (4 + N) := by unfold psLen; rw [K9.cell (i := 0) rfl]
              show psLen (w8.setCell ⟨g, 0, none⟩ (.slice (cutA aoc (4 + N) cpc) (CL - (4 + N)) (cpc - (4 + N)))) g < psLen wr g
              rw [e9, HMS.out, ← HCL.out]
              have := HDD.out
              have := HDL.out
              omega
          · have HRB := Lib.hid hRB
            have k5 : ((cd : Nat) : Int) ≠ 0 := by omega
            have k6 : ((cd : Int) == 0) = false := beq_eq_false_iff_ne.2 k5
            clear hRB hcd hfr
            go_wp2_with fail
            go_ret2
            have KC := HKC.out.of (HBC.out.block g ltK)
            have K6 := (KC.set 1 (.bool true)).set 0 (.slice none 0 0)
            have T5 := HBT.out.trans (But.of_below (g := g) (HBC.out.mono sr))
            have T6 := (T5.set 1 (.bool true)).set 0 (.slice none 0 0)
            have F6 := ((HFS.out.keep HBC.out).but ((But.refl _ g _).set 1 (.bool true)) (Nat.le_refl _) HLT.out).but ((But.refl _ g _).set 0 (.slice none 0 0)) (Nat.le_refl _) HLT.out
            refine ⟨u6, ?_, ?_, ?_, ?_⟩
            · rw [HRN.out, HRB.out]; rfl
            · rw [HRN.out, HRB.out, List.append_nil]; exact F6
            · rw [HRN.out, HRB.out]; exact ⟨none, 0, K6, Bytes.nil _ _, Nat.le_refl _, by unfold maxLen; omega, fun _ => rfl, fun x hx => by cases hx⟩
            · exact T6
end Go.Proofs.Ytmmppgkhlelbmaa.Fr
