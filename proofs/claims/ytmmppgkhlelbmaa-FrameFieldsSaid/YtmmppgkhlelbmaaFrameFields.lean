/-
  What is proved: the statement FrameFieldsSaid of the seat: for every input the law FrameFields returns true and its arguments read afterwards as before. No condition beyond the row's own.
-/
import Derived.Test.YtmmppgkhlelbmaaRows
import Derived.Test.YtmmppgkhlelbmaaOpen
import Derived.Test.YtmmppgkhlelbmaaFrU
import Derived.WalkKit
import Derived.ProofKit
namespace Go.Proofs.Ytmmppgkhlelbmaa.frameFields
open Ba
open Go.ChangeShapes Go.WideShapes Go.ChangeAt Go.RowKit
open Go.ChangeMaps (open_string shut_string)
set_option linter.unusedVariables false

theorem own : ownKnob Try.prog.godebug = none := by kernel_rfl
theorem laidOut : laidOutB Try.prog = true := by kernel_rfl

theorem walk (w : World) (a0 : Int) (w0 : (Lit.int .u8 a0).wf = true) (x1_0 x1_1 x1_2 : Int) (wx1_0 : (Lit.int .u32 x1_0).wf = true) (wx1_1 : (Lit.int .u32 x1_1).wf = true) (wx1_2 : (Lit.int .u32 x1_2).wf = true) :
    Calls Try.prog 8 #[.int .u8 a0, .agg #[.int .u32 x1_0, .int .u32 x1_1, .int .u32 x1_2]] w fun e w' => e = .returned (.bool true) ∧ Below w.heap.size w w' := by
  obtain ⟨k, rfl, hk⟩ := Ba.u8_nat w0
  obtain ⟨m0, rfl, h0⟩ := Ba.u32_nat wx1_0
  obtain ⟨m1, rfl, h1⟩ := Ba.u32_nat wx1_1
  obtain ⟨m2, rfl, h2⟩ := Ba.u32_nat wx1_2
  exact Fr.fields_any k hk m0 m1 m2 4294967296 rfl (by omega) (by omega) (by omega) w

set_option maxRecDepth 100000 in
theorem lifted (os : Os) (started : os.Started) (H : Type) (enc : TypeId × Value → H) :
    ReturnsInHanded {} Try.checked os 8 .any (Rows.frameFieldsSpec.pre6 enc Try.prog Try.f8 Rows.frameFieldsRow.domain false) (Rows.frameFieldsSpec.post enc Try.prog Try.f8 false true false false) := by
  refine returnsInHanded_of_change (C := Try.checked) own started (by kernel_rfl) Try.func8
    (ChangeSpec.witness6 (enc := enc) (C := Try.checked) false ⟨#[], #[.int .u8 0, .agg #[.int .u32 0, .int .u32 0, .int .u32 0]], []⟩ 8 (by kernel_rfl) (by kernel_rfl) (by kernel_rfl) (by kernel_rfl)) ?_
  intro W base args ds gs before hval0 hW hcnd _
  have hval : ∀ (j : Nat) t v, Try.f8.params[j]? = some t → args[j]? = some v → Value.okWide Try.prog W .any base t v := hval0
  have hW' := hW
  obtain ⟨p, q, hA0, hV, rfl, hfz, hnd⟩ := hW
  have hA : DataW.TrodAll enc Try.prog W 0 (fun _ => true) true Try.f8.params.toList args.toList ds p := hA0
  rw [Try.params8] at hA hval
  obtain ⟨v0, vs0, d0, ds0, p0, q0, hargs, rfl, rfl, h0, r0⟩ := trodAll_cons hA
  obtain ⟨v1, vs1, d1, ds1, p1, q1, rfl, rfl, rfl, h1, r1⟩ := trodAll_cons r0
  obtain ⟨rfl, rfl, rfl⟩ := trodAll_nil r1
  obtain rfl : args = #[v0, v1] := by cases args; simp_all
  obtain ⟨rfl, rfl⟩ := trodVars_none hV
  have k0 := h0
  have lt0 : ∀ x ∈ p0, x.block < W.heap.size := by obtain ⟨m, hm⟩ := k0; exact DataW.trod_lt m _ _ _ hm
  obtain ⟨a0, rfl, rfl, rfl, w0⟩ := open_int Try.underlying5 (hval 0 5 v0 rfl rfl) h0
  have k1 := h1
  have lt1 : ∀ x ∈ p1, x.block < W.heap.size := by obtain ⟨m, hm⟩ := k1; exact DataW.trod_lt m _ _ _ hm
  obtain ⟨x1_0, x1_1, x1_2, rfl, wx1_0, wx1_1, wx1_2⟩ := open_arr3 Try.underlying56 Try.underlying55 (by kernel_rfl) (by kernel_rfl) (hval 1 56 v1 rfl rfl) h1
  clear hA0 hval0
  refine (walk W a0 w0 x1_0 x1_1 x1_2 wx1_0 wx1_1 wx1_2).mono fun e W' ⟨he, bel⟩ => ?_
  subst he
  exact ⟨_, rfl, _, _, _, [], _, [], hW', trodAll_mk1 (shut_bool Try.underlying4 _), (trodAll_cons_mk (Below.trod laidOut (by kernel_rfl) (of_decide_eq_true (by kernel_rfl)) k0 bel lt0) (trodAll_cons_mk (Below.trod laidOut (by kernel_rfl) (of_decide_eq_true (by kernel_rfl)) k1 bel lt1) trodAll_mk0)), rfl, bel.frame _, fun h => by cases h⟩

theorem over : Rows.frameFieldsRow.holds Try.pinned (OpenSpec.ofChange Rows.frameFieldsSpec) :=
  OpenClaim.holds_of_wide 8 Try.f8 rfl rfl rfl rfl rfl rfl rfl ⟨rfl, rfl, rfl, rfl, rfl⟩ rfl rfl rfl rfl rfl (by kernel_rfl) Try.func8 (by kernel_rfl)
    (of_decide_eq_true (by kernel_rfl)) (by unfold Func.isWrapper; first | (rw [if_pos (by decide +kernel)]; kernel_rfl) | (rw [if_neg (by decide +kernel)]; exact ⟨rfl, rfl⟩))
    (fun os started H enc _ => lifted os started H enc)

theorem proved : Rows.FrameFieldsSaid := over
end Go.Proofs.Ytmmppgkhlelbmaa.frameFields
