/-
  What is proved: the statement ChunkBackSaid of the seat: for every input the law ChunkBack returns true and its arguments read afterwards as before. No condition beyond the row's own.
-/
import Derived.Test.YtfjcelnamjgieaaRows
import Derived.Test.YtfjcelnamjgieaaOpen
import Derived.Test.YtfjcelnamjgieaaCkBk
import Derived.WalkKit
import Derived.ProofKit
namespace Go.Proofs.Ytfjcelnamjgieaa.chunkBack
open Ba
open Go.ChangeShapes Go.WideShapes Go.ChangeAt Go.RowKit
open Go.ChangeMaps (open_string shut_string)
set_option linter.unusedVariables false

theorem own : ownKnob Try.prog.godebug = none := by kernel_rfl
theorem laidOut : laidOutB Try.prog = true := by kernel_rfl

theorem walk (w : World) (a0 : Option Addr) (len0 cap0 : Nat) (fs0 : List Ck.Ch) (w0 : Ck.ChRow w (.slice a0 len0 cap0) fs0) (z0 : Ck.SzC fs0) (x1_0 x1_1 : Int) (wx1_0 : (Lit.int .u16 x1_0).wf = true) (wx1_1 : (Lit.int .u16 x1_1).wf = true) :
    Calls Try.prog 5 #[.slice a0 len0 cap0, .agg #[.int .u16 x1_0, .int .u16 x1_1]] w fun e w' => e = .returned (.bool true) ∧ Below w.heap.size w w' := by
  obtain ⟨m0, rfl, h0⟩ := Ba.u16_nat wx1_0
  obtain ⟨m1, rfl, h1⟩ := Ba.u16_nat wx1_1
  exact Ck.backs_any _ fs0 z0 m0 m1 h0 h1 w w0

set_option maxRecDepth 100000 in
theorem lifted (os : Os) (started : os.Started) (H : Type) (enc : TypeId × Value → H) :
    ReturnsInHanded {} Try.checked os 5 .any (Rows.chunkBackSpec.pre6 enc Try.prog Try.f5 Rows.chunkBackRow.domain false) (Rows.chunkBackSpec.post enc Try.prog Try.f5 false true false false) := by
  refine returnsInHanded_of_change_sized (C := Try.checked) own started (by kernel_rfl) Try.func5
    (ChangeSpec.witness6 (enc := enc) (C := Try.checked) false ⟨#[], #[.slice none 0 0, .agg #[.int .u16 0, .int .u16 0]], []⟩ 8 (by kernel_rfl) (by kernel_rfl) (by kernel_rfl) (by kernel_rfl)) ?_
  intro W base args ds gs before hval0 hW hcnd hsz _
  have hval : ∀ (j : Nat) t v, Try.f5.params[j]? = some t → args[j]? = some v → Value.okWide Try.prog W .any base t v := hval0
  have hW' := hW
  obtain ⟨p, q, hA0, hV, rfl, hfz, hnd⟩ := hW
  have hA : DataW.TrodAll enc Try.prog W 0 (fun _ => true) true Try.f5.params.toList args.toList ds p := hA0
  rw [Try.params5] at hA hval
  obtain ⟨v0, vs0, d0, ds0, p0, q0, hargs, rfl, rfl, h0, r0⟩ := trodAll_cons hA
  obtain ⟨v1, vs1, d1, ds1, p1, q1, rfl, rfl, rfl, h1, r1⟩ := trodAll_cons r0
  obtain ⟨rfl, rfl, rfl⟩ := trodAll_nil r1
  obtain rfl : args = #[v0, v1] := by cases args; simp_all
  obtain ⟨rfl, rfl⟩ := trodVars_none hV
  have k0 := h0
  have lt0 : ∀ x ∈ p0, x.block < W.heap.size := by obtain ⟨m, hm⟩ := k0; exact DataW.trod_lt m _ _ _ hm
  obtain ⟨a0, len0, cap0, rfl⟩ := okWide_slice Try.underlying28 (hval 0 28 v0 rfl rfl)
  obtain ⟨fs0, w0, z0⟩ := Ck.open_chunks h0 (fun n hn => of_decide_eq_true (List.all_eq_true.1 hsz n (DataW.weights_mem_each (j := 0) (t := 28) rfl rfl n hn)))
  have k1 := h1
  have lt1 : ∀ x ∈ p1, x.block < W.heap.size := by obtain ⟨m, hm⟩ := k1; exact DataW.trod_lt m _ _ _ hm
  obtain ⟨x1_0, x1_1, rfl, wx1_0, wx1_1⟩ := open_arr2 Try.underlying46 Try.underlying45 (by kernel_rfl) (by kernel_rfl) (hval 1 46 v1 rfl rfl) h1
  clear hA0 hval0
  refine (walk W a0 len0 cap0 fs0 w0 z0 x1_0 x1_1 wx1_0 wx1_1).mono fun e W' ⟨he, bel⟩ => ?_
  subst he
  exact ⟨_, rfl, _, _, _, [], _, [], hW', trodAll_mk1 (shut_bool Try.underlying4 _), (trodAll_cons_mk (Below.trod laidOut (by kernel_rfl) (of_decide_eq_true (by kernel_rfl)) k0 bel lt0) (trodAll_cons_mk (Below.trod laidOut (by kernel_rfl) (of_decide_eq_true (by kernel_rfl)) k1 bel lt1) trodAll_mk0)), rfl, bel.frame _, fun h => by cases h⟩

theorem over : Rows.chunkBackRow.holds Try.pinned (OpenSpec.ofChange Rows.chunkBackSpec) :=
  OpenClaim.holds_of_wide 5 Try.f5 rfl rfl rfl rfl rfl rfl rfl ⟨rfl, rfl, rfl, rfl, rfl⟩ rfl rfl rfl rfl rfl (by kernel_rfl) Try.func5 (by kernel_rfl)
    (of_decide_eq_true (by kernel_rfl)) (by unfold Func.isWrapper; first | (rw [if_pos (by decide +kernel)]; kernel_rfl) | (rw [if_neg (by decide +kernel)]; exact ⟨rfl, rfl⟩))
    (fun os started H enc _ => lifted os started H enc)

theorem proved : Rows.ChunkBackSaid := over
end Go.Proofs.Ytfjcelnamjgieaa.chunkBack
