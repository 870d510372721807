/- Contract of the law's Model. Condition: chunks lie at the slice. -/
import Derived.Test.YtfjcelnamjgieaaCkH
namespace Go.Proofs.Ytfjcelnamjgieaa.Ck
open Go.RowKit Ba Go.Deep
set_option linter.unusedVariables false

set_option maxRecDepth 100000 in
set_option maxHeartbeats 6400000 in
theorem model_any (v : Value) (fs : List Ch) (hbd : fs.length ≤ 1000000000) (w : World) (h1 : ChRow w v fs) :
    Calls Try.prog 11 #[v] w fun e w' => ∃ v', e = .returned v' ∧ ChRow w' v' fs ∧ Below w.heap.size w w' := by
  obtain ⟨a, ca, rfl, x1, x2, x3, hv1⟩ := h1
  have HV1 := Lib.hid hv1
  obtain ⟨LF, hLF⟩ : ∃ L, L = fs.length := ⟨_, rfl⟩
  rw [← hLF] at x1 hbd ⊢
  have HLF := Lib.hid hLF
  clear hv1 hLF x1 x2 x3
  go_enter Try.func11, Try.ntmps11
  go_wp2_with fail
  go_loopw [3, 4] (fun ov jv wr => ∃ q : Nat, q ≤ LF ∧ jv = .int .i64 q ∧ Hid (MdIs w wr w.heap.size 44 ov (fs.take q)) ∧ Hid (Below w.heap.size w wr)) (fun _ jv _ => LF - (intOf jv).toNat)
  case atStart => exact ⟨0, by omega, rfl, MdIs.nil _ _ _ _, Below.refl _ _⟩
  case round =>
    obtain ⟨q, hq, rfl, HMD, HBI⟩ := hrel
    by_cases hql : q < LF
    · have hq' : q < fs.length := by rw [← HLF.out]; exact hql
      obtain ⟨g5, o5, ad, cd, rfl, k0, k1, ky, kn, km⟩ := HV1.out q hq'
      have HTK : Hid (fs.take (q + 1) = fs.take q ++ [fs[q]'hq']) := Lib.hid (List.take_succ_eq_append_getElem hq')
      have HTL : Hid ((fs.take q).length < 1000000001) := Lib.hid (by rw [List.length_take]; omega)
      generalize fs[q]'hq' = f at *
      have HF := Lib.hid (And.intro ky (And.intro kn km))
      obtain ⟨ln, hln⟩ : ∃ ln, ln = f.2.length := ⟨_, rfl⟩
      rw [← hln] at k1
      have HLN := Lib.hid hln
      have HSS : Hid (∀ u, Below w.heap.size w u → u.cell? ⟨g5, o5 + q * 2, none⟩ = some (.string f.1) ∧ u.cell? ⟨g5, o5 + q * 2 + 1, none⟩ = some (.slice ad ln cd)) := Lib.hid (fun u hu => by
        have hl5 : g5 < w.heap.size := cell_lt (a := ⟨g5, o5 + q * 2, none⟩) k0
        have cc5 : ∀ o, u.cell? ⟨g5, o, none⟩ = w.cell? ⟨g5, o, none⟩ := fun o => hu.cell (p := ⟨g5, o, none⟩) hl5
        simp only [cc5]
        exact ⟨k0, k1⟩)
      clear k0 k1 ky kn km hln
      have hS := HSS.out wr.drew HBI.out.drew
      have HM1 : Hid (MdIs w (wr.drew.alloc (Obj.cells #[.string f.1, .slice ad ln cd] 44)) w.heap.size 44 u3 (fs.take q)) := Lib.hid ((show MdIs w wr.drew w.heap.size 44 u3 (fs.take q) from HMD.out).alloc _)
      have HB1 : Hid (Below w.heap.size w (wr.drew.alloc (Obj.cells #[.string f.1, .slice ad ln cd] 44))) := Lib.hid (HBI.out.drew.alloc HBI.out.drew.size _)
      have hS1 := HSS.out _ HB1.out
      have HN1 : Hid (Blk (wr.drew.alloc (Obj.cells #[.string f.1, .slice ad ln cd] 44)) wr.heap.size 44 (twoOf f ad cd)) := Lib.hid (by
        unfold twoOf
        rw [← HLN.out]
        exact Blk.new wr.drew #[.string f.1, .slice ad ln cd] _)
      go_wp2_with fail
      go_region_held3 (fun u => u.cell? ⟨g5, o5 + q * 2, none⟩ = some (.string f.1) ∧ u.cell? ⟨g5, o5 + q * 2 + 1, none⟩ = some (.slice ad ln cd)) (first | exact hS | exact hS1 | exact hS2)
        (first | (refine step_append_md 28 44 Try.underlying28 info_rc (by rfl) (.tmp 11) (.tmp 23) (by rfl) w.heap.size u3 (fs.take q) (by rfl) HM1.out f ad cd HF.out wr.heap.size (by rfl) HN1.out HTL.out HB1.out.size ?_; intro v8 w8 hm8 hg8; have HM8 := Lib.hid hm8; have HB8 : Hid (Below w.heap.size w w8) := HB1.out.grown hg8 HB1.out.size (fun k hk => (HM1.out.lt k hk).1); have hS2 := HSS.out _ HB8.out; clear hm8 hg8))
      all_goals
        go_wp2_with fail
        go_roundw
        case rel => exact ⟨q + 1, by omega, by go_num, (by rw [HTK.out]; exact HM8.out), HB8.out⟩
        case measure => simp [intOf]; omega
    · have hqe : q = LF := by omega
      have HAL : Hid (fs.take q = fs) := Lib.hid (by rw [hqe, HLF.out, List.take_length])
      subst hqe
      go_wp2_with fail
      go_ret
      exact ⟨_, rfl, by have h := HMD.out.row HBI.out; rw [HAL.out] at h; exact h, HBI.out⟩
end Go.Proofs.Ytfjcelnamjgieaa.Ck
