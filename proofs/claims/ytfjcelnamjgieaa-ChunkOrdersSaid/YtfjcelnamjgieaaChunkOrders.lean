/-
  What is proved: the statement ChunkOrdersSaid of the seat: for every input the law ChunkOrders returns true and its arguments read afterwards as before. No condition beyond the row's own.
-/
import Derived.Test.YtfjcelnamjgieaaRows
import Derived.Test.YtfjcelnamjgieaaOpen
import Derived.Test.YtfjcelnamjgieaaCkY
import Derived.WalkKit
import Derived.ProofKit
namespace Go.Proofs.Ytfjcelnamjgieaa.chunkOrders
open Ba
open Go.ChangeShapes Go.WideShapes Go.ChangeAt Go.RowKit
open Go.ChangeMaps (open_string shut_string)
set_option linter.unusedVariables false

theorem own : ownKnob Try.prog.godebug = none := by kernel_rfl
theorem laidOut : laidOutB Try.prog = true := by kernel_rfl

theorem walk (w : World) (a0 : Option Addr) (len0 cap0 : Nat) (fs0 : List Ck.Ch) (w0 : Ck.ChRow w (.slice a0 len0 cap0) fs0) (z0 : Ck.SzC fs0) (x1_0 x1_1 x1_2 : Int) (wx1_0 : (Lit.int .u8 x1_0).wf = true) (wx1_1 : (Lit.int .u8 x1_1).wf = true) (wx1_2 : (Lit.int .u8 x1_2).wf = true) :
    Calls Try.prog 6 #[.slice a0 len0 cap0, .agg #[.int .u8 x1_0, .int .u8 x1_1, .int .u8 x1_2]] w fun e w' => e = .returned (.bool true) ∧ Below w.heap.size w w' := by
  obtain ⟨m0, rfl, h0⟩ := Ba.u8_nat wx1_0
  obtain ⟨m1, rfl, h1⟩ := Ba.u8_nat wx1_1
  obtain ⟨m2, rfl, h2⟩ := Ba.u8_nat wx1_2
  exact Ck.orders_any _ fs0 z0 m0 m1 m2 h0 h1 h2 w w0

set_option maxRecDepth 100000 in
theorem lifted (os : Os) (started : os.Started) (H : Type) (enc : TypeId × Value → H) :
    ReturnsInHanded {} Try.checked os 6 .any (Rows.chunkOrdersSpec.pre6 enc Try.prog Try.f6 Rows.chunkOrdersRow.domain false) (Rows.chunkOrdersSpec.post enc Try.prog Try.f6 false true false false) := by
  refine returnsInHanded_of_change_sized (C := Try.checked) own started (by kernel_rfl) Try.func6
    (ChangeSpec.witness6 (enc := enc) (C := Try.checked) false ⟨#[], #[.slice none 0 0, .agg #[.int .u8 0, .int .u8 0, .int .u8 0]], []⟩ 8 (by kernel_rfl) (by kernel_rfl) (by kernel_rfl) (by kernel_rfl)) ?_
  intro W base args ds gs before hval0 hW hcnd hsz _
  have hval : ∀ (j : Nat) t v, Try.f6.params[j]? = some t → args[j]? = some v → Value.okWide Try.prog W .any base t v := hval0
  have hW' := hW
  obtain ⟨p, q, hA0, hV, rfl, hfz, hnd⟩ := hW
  have hA : DataW.TrodAll enc Try.prog W 0 (fun _ => true) true Try.f6.params.toList args.toList ds p := hA0
  rw [Try.params6] at hA hval
  obtain ⟨v0, vs0, d0, ds0, p0, q0, hargs, rfl, rfl, h0, r0⟩ := trodAll_cons hA
  obtain ⟨v1, vs1, d1, ds1, p1, q1, rfl, rfl, rfl, h1, r1⟩ := trodAll_cons r0
  obtain ⟨rfl, rfl, rfl⟩ := trodAll_nil r1
  obtain rfl : args = #[v0, v1] := by cases args; simp_all
  obtain ⟨rfl, rfl⟩ := trodVars_none hV
  have k0 := h0
  have lt0 : ∀ x ∈ p0, x.block < W.heap.size := by obtain ⟨m, hm⟩ := k0; exact DataW.trod_lt m _ _ _ hm
  obtain ⟨a0, len0, cap0, rfl⟩ := okWide_slice Try.underlying28 (hval 0 28 v0 rfl rfl)
  obtain ⟨fs0, w0, z0⟩ := Ck.open_chunks h0 (fun n hn => of_decide_eq_true (List.all_eq_true.1 hsz n (DataW.weights_mem_each (j := 0) (t := 28) rfl rfl n hn)))
  have k1 := h1
  have lt1 : ∀ x ∈ p1, x.block < W.heap.size := by obtain ⟨m, hm⟩ := k1; exact DataW.trod_lt m _ _ _ hm
  obtain ⟨x1_0, x1_1, x1_2, rfl, wx1_0, wx1_1, wx1_2⟩ := open_arr3 Try.underlying49 Try.underlying5 (by kernel_rfl) (by kernel_rfl) (hval 1 49 v1 rfl rfl) h1
  clear hA0 hval0
  refine (walk W a0 len0 cap0 fs0 w0 z0 x1_0 x1_1 x1_2 wx1_0 wx1_1 wx1_2).mono fun e W' ⟨he, bel⟩ => ?_
  subst he
  exact ⟨_, rfl, _, _, _, [], _, [], hW', trodAll_mk1 (shut_bool Try.underlying4 _), (trodAll_cons_mk (Below.trod laidOut (by kernel_rfl) (of_decide_eq_true (by kernel_rfl)) k0 bel lt0) (trodAll_cons_mk (Below.trod laidOut (by kernel_rfl) (of_decide_eq_true (by kernel_rfl)) k1 bel lt1) trodAll_mk0)), rfl, bel.frame _, fun h => by cases h⟩

theorem over : Rows.chunkOrdersRow.holds Try.pinned (OpenSpec.ofChange Rows.chunkOrdersSpec) :=
  OpenClaim.holds_of_wide 6 Try.f6 rfl rfl rfl rfl rfl rfl rfl ⟨rfl, rfl, rfl, rfl, rfl⟩ rfl rfl rfl rfl rfl (by kernel_rfl) Try.func6 (by kernel_rfl)
    (of_decide_eq_true (by kernel_rfl)) (by unfold Func.isWrapper; first | (rw [if_pos (by decide +kernel)]; kernel_rfl) | (rw [if_neg (by decide +kernel)]; exact ⟨rfl, rfl⟩))
    (fun os started H enc _ => lifted os started H enc)

theorem proved : Rows.ChunkOrdersSaid := over
end Go.Proofs.Ytfjcelnamjgieaa.chunkOrders
