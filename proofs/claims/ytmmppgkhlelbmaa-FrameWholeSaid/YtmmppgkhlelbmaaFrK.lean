/- Contract of the program's Parser.Add. Condition: bytes lie in the parser and at the slice. -/
import Derived.Test.YtmmppgkhlelbmaaFrJ
namespace Go.Proofs.Ytmmppgkhlelbmaa.Fr
open Go.RowKit Ba Go.Deep
set_option linter.unusedVariables false

def psLen (w : World) (g : Nat) : Nat := match w.cell? ⟨g, 0, none⟩ with | some (.slice _ n _) => n | _ => 0
theorem PsIs.len {w : World} {g : Nat} {t : TypeId} {buf : List UInt8} {br : Bool} (h : PsIs w g t buf br) : psLen w g = buf.length := by
  obtain ⟨ao, cap, h1, _⟩ := h
  unfold psLen
  rw [h1.cell (i := 0) rfl]
/-- What Add hands back. -/
def Added (g : Nat) (tp t : TypeId) (r : List Fr × Nat × List UInt8 × Bool) (w : World) (e : Ending) (w' : World) : Prop :=
  ∃ v, e = .returned (.tuple #[v, .int .i64 (r.2.1 : Nat)]) ∧ FrsIs w' w.heap.size t v r.1 ∧ PsIs w' g tp r.2.2.1 r.2.2.2 ∧ But w.heap.size g w w'
set_option maxRecDepth 100000 in
set_option maxHeartbeats 1600000 in
theorem add_broken (g : Nat) (buf : List UInt8) (w : World) (h : PsIs w g 60 buf true) (a : Option Addr) (n cap : Nat) :
    Calls Try.prog 11 #[.pointer (some ⟨g, 0, none⟩), .slice a n cap] w (Added g 60 39 ([], 15, buf, true) w) := by
  have HP := Lib.hid h
  obtain ⟨ao, cp, h1, _⟩ := h
  have c1 := h1.cell (i := 1) rfl
  clear h1
  go_enter Try.func11, Try.ntmps11
  go_wp2_with fail
  go_ret2
  exact ⟨_, rfl, FrsIs.nil _ _ _, HP.out, But.refl _ _ _⟩
set_option maxRecDepth 100000 in
set_option maxHeartbeats 6400000 in
theorem add_whole (g : Nat) (buf bs B0 : List UInt8) (hB0 : B0 = buf ++ bs) (w : World) (h : PsIs w g 60 buf false) (a : Option Addr) (n cap : Nat) (hn : n = bs.length) (hb : Bytes w a bs) (hnil : a = none → cap = 0) (hbd : buf.length + bs.length ≤ 1000000000) :
    Calls Try.prog 11 #[.pointer (some ⟨g, 0, none⟩), .slice a n cap] w (Added g 60 39 (runB B0) w) := by
  have HB0 := Lib.hid hB0
  clear hB0
  obtain ⟨ao, cp, h1, h2, h3, h4, h5, h6⟩ := h
  have c0 := h1.cell (i := 0) rfl
  have c1 := h1.cell (i := 1) rfl
  have hlt := h1.lt
  have HK := Lib.hid h1
  have HCL := Lib.hid (clone_any buf ao buf.length cp rfl (by omega) h5 w h2)
  have HN := Lib.hid hn
  have HB := Lib.hid hb
  have HNIL := Lib.hid hnil
  have HBD := Lib.hid hbd
  clear h1 h2 h3 h4 h5 h6 hn hb hnil hbd
  obtain ⟨L, hL⟩ : ∃ L, L = buf.length := ⟨_, rfl⟩
  rw [← hL] at c0 HCL
  have HL := Lib.hid hL
  clear hL
  go_enter Try.func11, Try.ntmps11
  go_wp2_with fail
  refine HCL.out.mono ?_
  rintro e w1 ⟨v1, rfl, hb1, hown1⟩
  have HB1 := Lib.hid hb1
  have HO1 := Lib.hid hown1
  have HK1 := Lib.hid (HK.out.keep hb1)
  have HLB : Hid (buf.length + n ≤ 140737488355328) := Lib.hid (by have := HBD.out; have := HN.out; omega)
  have s1 := hb1.size
  clear hb1 hown1 c0 c1
  go_wp2_with (at_builtin; refine wpList_append_bytes rfl (.tmp 23) (.tmp 24) rfl w.heap.size _ _ rfl HO1.out a n cap bs rfl HN.out (HB.out.keep HB1.out) HNIL.out HLB.out s1 ?_)
  intro v3 w3 hown3 hg3
  have hb3 : Below w.heap.size w w3 := HB1.out.grown hg3 s1 (fun k hk => HO1.out.block k hk)
  have HK3 := Lib.hid (HK.out.keep hb3)
  obtain ⟨ao3, cap3, rfl, hby3, hl3, hm3, hn3, hlo3⟩ := hown3.view2
  have c0 := HK3.out.cell (i := 0) rfl
  have c1 := HK3.out.cell (i := 1) rfl
  have fz := fun i => HK3.out.frozen i
  have HBL : Hid (B0.length ≤ 1000000000) := Lib.hid (by rw [HB0.out, List.length_append]; exact HBD.out)
  rw [← HB0.out] at hby3 hl3 ⊢
  have K4 := HK3.out.set 0 (.slice ao3 B0.length cap3)
  have HP4 : Hid (PsIs (w3.setCell ⟨g, 0, none⟩ (.slice ao3 B0.length cap3)) g 60 B0 false) := Lib.hid ⟨ao3, cap3, K4, hby3.setOther (a := ⟨g, 0, none⟩) (fun x hx => by have := hlo3 x hx; show x.block ≠ g; omega) _, hl3, hm3, hn3, fun x hx => (hown3.u8 x hx).at (blk_setCell_other _ _ _ _ (by have := hlo3 x hx; show x.block ≠ g; omega))⟩
  have HT4 := Lib.hid ((But.of_below (g := g) hb3).set 0 (.slice ao3 B0.length cap3))
  obtain ⟨N0, hN0⟩ : ∃ N0, N0 = B0.length := ⟨_, rfl⟩
  rw [← hN0] at HP4 HT4 ⊢
  clear hb3 hown3 hg3 hby3 hl3 hm3 hn3 hlo3 K4 HK1 HO1
  have HN0 := Lib.hid hN0
  clear hN0
  go_wp2_with fail
  generalize w3.setCell ⟨g, 0, none⟩ (.slice ao3 N0 cap3) = w4 at *
  clear c0 c1 fz HK3
  go_loopw [6, 7, 8, 9] (fun l _ _ _ wr => ∃ (done : List Fr) (cur : List UInt8), runB B0 = (done ++ (runB cur).1, (runB cur).2) ∧ PsIs wr g 60 cur false ∧ FrsIs wr w.heap.size 39 l done ∧ But w.heap.size g w wr ∧ done.length + cur.length ≤ B0.length) (fun _ _ _ _ wr => psLen wr g)
  case atStart => exact ⟨[], B0, rfl, HP4.out, FrsIs.nil _ _ _, HT4.out, by simp⟩
  case round =>
    obtain ⟨done, cur, hrun, hps, hfrs, hbut, hcnt⟩ := hrel
    have HPS := Lib.hid hps
    have HFS := Lib.hid hfrs
    have HBT := Lib.hid hbut
    have HCN := Lib.hid hcnt
    have HRN := Lib.hid hrun
    have sr := hbut.size
    clear hps hfrs hbut hcnt hrun
    by_cases k1 : cur.length < 4
    · have HNX := Lib.hid (next_few g cur false wr HPS.out k1)
      have HRB := Lib.hid (runB_few cur k1)
      clear k1
      go_wp2_with fail
      refine HNX.out.mono ?_
      rintro e w5 ⟨v, rfl, ⟨ao, cap, rfl, hd⟩, hps5, hbut5⟩
      have HPS5 := Lib.hid hps5
      have HBT5 := Lib.hid (HBT.out.trans (hbut5.mono sr))
      have HFS5 := Lib.hid (HFS.out.but hbut5 (Nat.le_refl _) hlt)
      clear hps5 hbut5 hd
      generalize Fr.zero.data.length = ln at *
      go_wp2_with fail
      go_ret2
      refine ⟨u6, ?_, ?_, ?_, ?_⟩
      · rw [HRN.out, HRB.out]; rfl
      · rw [HRN.out, HRB.out, List.append_nil]; exact HFS5.out.alloc _
      · rw [HRN.out, HRB.out]; exact HPS5.out.alloc _
      · exact HBT5.out.alloc (Nat.le_trans HBT5.out.size (Nat.le_refl _)) _
    · by_cases k2 : 262208 < numV cur
      · have HNX := Lib.hid (next_not g cur false wr HPS.out (by omega) 3 true (.inl ⟨k2, rfl, rfl⟩))
        have HRB := Lib.hid (runB_long cur (by omega) k2)
        clear k1 k2
        go_wp2_with fail
        refine HNX.out.mono ?_
        rintro e w5 ⟨v, rfl, ⟨ao, cap, rfl, hd⟩, hps5, hbut5⟩
        have HBT5 := Lib.hid (HBT.out.trans (hbut5.mono sr))
        have HFS5 := Lib.hid (HFS.out.but hbut5 (Nat.le_refl _) hlt)
        obtain ⟨ao5, cap5, hk5, _⟩ := hps5
        have HK5 := Lib.hid hk5
        have c0 := hk5.cell (i := 0) rfl
        have c1 := hk5.cell (i := 1) rfl
        have fz := fun i => hk5.frozen i
        have lt5 := hk5.lt
        clear hbut5 hd hk5
        generalize Fr.zero.data.length = ln at *
        go_wp2_with fail
        go_ret2
        have K6 := (HK5.out.set 0 (.slice none 0 0)).set 1 (.bool true)
        have T6 := (HBT5.out.set 0 (.slice none 0 0)).set 1 (.bool true)
        have F6 := (HFS5.out.but ((But.refl w5.heap.size g w5).set 0 (.slice none 0 0)) (Nat.le_refl _) hlt).but ((But.refl _ g _).set 1 (.bool true)) (Nat.le_refl _) hlt
        refine ⟨u6, ?_, ?_, ?_, ?_⟩
        · rw [HRN.out, HRB.out]; rfl
        · rw [HRN.out, HRB.out, List.append_nil]; exact F6.alloc _
        · rw [HRN.out, HRB.out]; exact ⟨none, 0, K6.alloc _, Bytes.nil _ _, Nat.le_refl _, by unfold maxLen; omega, fun _ => rfl, fun x hx => by cases hx⟩
        · exact T6.alloc T6.size _
      · by_cases k3 : cur.length - 4 < numV cur
        · have HNX := Lib.hid (next_not g cur false wr HPS.out (by omega) 0 false (.inr ⟨by omega, k3, rfl, rfl⟩))
          have HRB := Lib.hid (runB_wait cur (by omega) (by omega) k3)
          clear k1 k2 k3
          go_wp2_with fail
          refine HNX.out.mono ?_
          rintro e w5 ⟨v, rfl, ⟨ao, cap, rfl, hd⟩, hps5, hbut5⟩
          have HPS5 := Lib.hid hps5
          have HBT5 := Lib.hid (HBT.out.trans (hbut5.mono sr))
          have HFS5 := Lib.hid (HFS.out.but hbut5 (Nat.le_refl _) hlt)
          clear hps5 hbut5 hd
          generalize Fr.zero.data.length = ln at *
          go_wp2_with fail
          go_ret2
          refine ⟨u6, ?_, ?_, ?_, ?_⟩
          · rw [HRN.out, HRB.out]; rfl
          · rw [HRN.out, HRB.out, List.append_nil]; exact HFS5.out.alloc _
          · rw [HRN.out, HRB.out]; exact HPS5.out.alloc _
          · exact HBT5.out.alloc HBT5.out.size _
        · have HNX := Lib.hid (next_one g cur false wr HPS.out (by omega) (by omega))
          by_cases k4 : parseC (payV cur) = 0
          · have HRB := Lib.hid (runB_one cur (by omega) (by omega) k4)
            have HK4 := Lib.hid k4
            have HDL : Hid ((cur.drop (4 + numV cur)).length + 4 ≤ cur.length) := Lib.hid (by rw [List.length_drop]; omega)
            clear k1 k2 k3 k4
            rw [HK4.out] at HNX
            obtain ⟨f, hf⟩ : ∃ f, f = parseF (payV cur) := ⟨_, rfl⟩
            obtain ⟨nx, hnx⟩ : ∃ nx, nx = cur.drop (4 + numV cur) := ⟨_, rfl⟩
            rw [← hf, ← hnx] at HNX HRB
            rw [← hnx] at HDL
            clear hf hnx HK4
            have HMS := Lib.hid HPS.out.len
            go_wp2_with fail
            refine HNX.out.mono ?_
            rintro e w5 ⟨v, rfl, ⟨ao, cap, rfl, hd⟩, hps5, hbut5⟩
            have HPS5 := Lib.hid hps5
            have HBT5 := Lib.hid (HBT.out.trans (hbut5.mono sr))
            have HFS5 := Lib.hid (HFS.out.but hbut5 (Nat.le_refl _) hlt)
            have HD5 := Lib.hid (hd.mono sr)
            have s5 := HBT5.out.size
            clear hps5 hbut5 hd
            obtain ⟨ln, hln⟩ : ∃ ln, ln = f.data.length := ⟨_, rfl⟩
            rw [← hln] at HD5 ⊢
            have HLN := Lib.hid hln
            clear hln
            have HNB : Hid (Blk ((w5.alloc (Obj.cells #[.int .i64 f.t, .int .i64 f.a, .int .i64 f.b, .int .i64 f.c, .slice ao ln cap] 39)).alloc (Obj.cells #[.int .i64 f.t, .int .i64 f.a, .int .i64 f.b, .int .i64 f.c, .slice ao ln cap] 39)) (w5.heap.size + 1) 39 (fiveOf f ao cap)) := Lib.hid (by
              have h := Blk.new (w5.alloc (Obj.cells #[.int .i64 f.t, .int .i64 f.a, .int .i64 f.b, .int .i64 f.c, .slice ao ln cap] 39)) #[.int .i64 f.t, .int .i64 f.a, .int .i64 f.b, .int .i64 f.c, .slice ao ln cap] 39
              rw [show (w5.alloc (Obj.cells #[.int .i64 f.t, .int .i64 f.a, .int .i64 f.b, .int .i64 f.c, .slice ao ln cap] 39)).heap.size = w5.heap.size + 1 by simp] at h
              unfold fiveOf
              rw [← HLN.out]
              exact h)
            have HD7 : Hid (Own ((w5.alloc (Obj.cells #[.int .i64 f.t, .int .i64 f.a, .int .i64 f.b, .int .i64 f.c, .slice ao ln cap] 39)).alloc (Obj.cells #[.int .i64 f.t, .int .i64 f.a, .int .i64 f.b, .int .i64 f.c, .slice ao ln cap] 39)) w.heap.size (.slice ao f.data.length cap) f.data) := Lib.hid (by rw [← HLN.out]; exact (HD5.out.alloc _).alloc _)
            have HDB : Hid (done.length < 1000000001) := Lib.hid (by have := HCN.out; have := HBL.out; omega)
            go_wp2_with (at_builtin; refine wpList_append_fr 29 39 Try.underlying29 (by decide) info_fr rfl (.tmp 49) (.tmp 51) rfl w.heap.size _ done rfl ((HFS5.out.alloc _).alloc _) f ao cap HD7.out (w5.heap.size + 1) rfl HNB.out HDB.out (by simp; omega) ?_)
            intro v8 w8 hfs8 hg8 hob8 hub8
            have HFS8 := Lib.hid hfs8
            have hB8 : Below w.heap.size ((w5.alloc (Obj.cells #[.int .i64 f.t, .int .i64 f.a, .int .i64 f.b, .int .i64 f.c, .slice ao ln cap] 39)).alloc (Obj.cells #[.int .i64 f.t, .int .i64 f.a, .int .i64 f.b, .int .i64 f.c, .slice ao ln cap] 39)) w8 := (Below.refl _ _).grown hg8 (by simp; omega) hob8
            have HBT8 := Lib.hid (((HBT5.out.alloc s5 _).alloc (by simp; omega) _).trans (But.of_below hB8))
            have HPS8 : Hid (PsIs w8 g 60 nx false) := Lib.hid (((HPS5.out.alloc _).alloc _).at fun k hk => by
              rcases hk with rfl | hu
              · exact hg8.block _ (by simp; omega) (fun e => by have := hob8 _ e.symm; omega)
              · exact hg8.block _ hu.lt (hub8 k hu))
            clear hfs8 hg8 hob8 hub8 hB8
            go_wp2_with fail
            go_roundw
            case rel => exact ⟨done ++ [f], nx, by rw [HRN.out, HRB.out]; simp, HPS8.out, HFS8.out, HBT8.out, by rw [List.length_append, List.length_singleton]; have := HCN.out; have := HDL.out; omega⟩
            case measure => show psLen w8 g < psLen wr g; rw [HPS8.out.len, HMS.out]; have := HDL.out; omega
          · have HRB := Lib.hid (runB_bad cur (by omega) (by omega) k4)
            have HK4 := Lib.hid k4
            have k5 : ((parseC (payV cur) : Nat) : Int) ≠ 0 := by omega
            clear k1 k2 k3 k4
            obtain ⟨f, hf⟩ : ∃ f, f = parseF (payV cur) := ⟨_, rfl⟩
            obtain ⟨cd, hcd⟩ : ∃ cd, cd = parseC (payV cur) := ⟨_, rfl⟩
            rw [← hf, ← hcd] at HNX
            rw [← hcd] at HRB k5
            clear hf hcd HK4
            have k6 : ((cd : Int) == 0) = false := beq_eq_false_iff_ne.2 k5
            go_wp2_with fail
            refine HNX.out.mono ?_
            rintro e w5 ⟨v, rfl, ⟨ao, cap, rfl, hd⟩, hps5, hbut5⟩
            have HBT5 := Lib.hid (HBT.out.trans (hbut5.mono sr))
            have HFS5 := Lib.hid (HFS.out.but hbut5 (Nat.le_refl _) hlt)
            obtain ⟨ao5, cap5, hk5, _⟩ := hps5
            have HK5 := Lib.hid hk5
            have c0 := hk5.cell (i := 0) rfl
            have c1 := hk5.cell (i := 1) rfl
            have fz := fun i => hk5.frozen i
            have lt5 := hk5.lt
            clear hbut5 hd hk5
            generalize f.data.length = ln at *
            go_wp2_with fail
            go_ret2
            have K6 := (HK5.out.set 0 (.slice none 0 0)).set 1 (.bool true)
            have T6 := (HBT5.out.set 0 (.slice none 0 0)).set 1 (.bool true)
            have F6 := (HFS5.out.but ((But.refl w5.heap.size g w5).set 0 (.slice none 0 0)) (Nat.le_refl _) hlt).but ((But.refl _ g _).set 1 (.bool true)) (Nat.le_refl _) hlt
            refine ⟨u6, ?_, ?_, ?_, ?_⟩
            · rw [HRN.out, HRB.out]; rfl
            · rw [HRN.out, HRB.out, List.append_nil]; exact F6.alloc _
            · rw [HRN.out, HRB.out]; exact ⟨none, 0, K6.alloc _, Bytes.nil _ _, Nat.le_refl _, by unfold maxLen; omega, fun _ => rfl, fun x hx => by cases hx⟩
            · exact T6.alloc T6.size _
end Go.Proofs.Ytmmppgkhlelbmaa.Fr
