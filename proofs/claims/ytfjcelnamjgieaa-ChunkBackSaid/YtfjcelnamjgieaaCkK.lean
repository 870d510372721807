/- Contracts of the law's few and Back; appends at a step of a region. Condition: chunks lie at the slice; no string and no slice passes the form's own reach. -/
import Derived.Test.YtfjcelnamjgieaaCkJ
import Derived.Deep.RegionHeld3
namespace Go.Proofs.Ytfjcelnamjgieaa.Ck
open Go.RowKit Ba Go.Deep
set_option linter.unusedVariables false

/-- 'append(v, x...)' at a step of a region that draws its order. -/
theorem step_append_bytes {w : World} {ops : Array Oper} {o : Oper} {a : Act} {K : Act → World → Prop} {Q : Exit → Act → World → Prop} {E : Prop} (hgd : o.guard = none) (s x : Operand)
    (ho : o.op = .call { callee := .builtin .append, args := #[s, x], argTypes := #[22, 22] })
    (base : Nat) (v : Value) (xs : List UInt8) (hs : a.eval s = v) (hown : Own w base v xs)
    (ao : Option Addr) (m c : Nat) (news : List UInt8) (hx : a.eval x = .slice ao m c) (hm : m = news.length) (hnews : Bytes w ao news) (hnil : ao = none → c = 0)
    (hbd : xs.length + m ≤ 140737488355328) (hbase : base ≤ w.heap.size)
    (h : ∀ v' w', Own w' base v' (xs ++ news) → w.grownBy w' v.ownBlock → K (a.put o.dst v') w') :
    if Region.wanted o (yielded ops a.tmps) = true then Oper.wp Try.prog o a w K Q else E := by
  have hw : Region.wanted o (yielded ops a.tmps) = true := by simp [Region.wanted, hgd]
  rw [if_pos hw]
  obtain ⟨i, hi, hz, hsize, hby⟩ := info_parts info_u8
  cases ao with
  | none =>
    have hm0 : m = 0 := by
      cases news with
      | nil => exact hm
      | cons u l =>
        obtain ⟨b, off, e, _⟩ := hnews 0 (by simp)
        cases e
    subst hm0
    have hc := hnil rfl
    subst hc
    have hn : news = [] := List.length_eq_zero_iff.1 hm.symm
    subst hn
    have hrun := run_append_owned_none (P := Try.prog) (w := w) base 22 o.type 5 i 1 Try.underlying22 hi v xs.length (xs.map cellOf) hown
    unfold Oper.wp
    simp [execOp, ho, resolve, invoke, builtin, hs, hx, hrun, Result.andThen]
    exact h v w (by rw [List.append_nil]; exact hown) ⟨rfl, rfl, rfl, Nat.le_refl _, fun _ _ _ => rfl⟩
  | some ad =>
    refine wp_append_own w s x _ ho base 5 i (.int .u8 0) 1 1 Try.underlying22 hi hz hsize hby rfl (by decide) v xs.length (xs.map cellOf) hs hown ad m c (news.map cellOf) hx (by simp [hm]) ?_ ?_ (by unfold maxLen; omega) (by omega) hbase ?_
    · intro j u hj
      rw [List.getElem?_map] at hj
      obtain ⟨q, hq, rfl⟩ := Option.map_eq_some_iff.1 hj
      obtain ⟨hlt, rfl⟩ := List.getElem?_eq_some_iff.1 hq
      obtain ⟨b, off, e, hcell⟩ := hnews j hlt
      simp only [Option.some.injEq] at e
      subst e
      have ea : (Addr.add ⟨b, off, none⟩ j) = ⟨b, off + j, none⟩ := by
        unfold Addr.add
        by_cases h0 : j = 0
        · subst h0; simp
        · simp [h0]
      rw [ea, hcell]
      rfl
    · intro u hu
      obtain ⟨q, _, rfl⟩ := List.mem_map.1 hu
      rfl
    · intro v' w' hown' hgrow _
      refine h v' w' ?_ hgrow
      unfold Own
      rw [List.length_append, ← hm, List.map_append]
      exact hown'

/-- 'l = append(l, c)' at a step of a region that draws its order. -/
theorem step_append_ch {w : World} {ops : Array Oper} {o : Oper} {a : Act} {K : Act → World → Prop} {Q : Exit → Act → World → Prop} {E : Prop} (ts te : TypeId) (hu : Try.prog.underlying ts = some (.slice te)) (hte : te ≠ 5)
    (hinfo : (Try.prog.info? te).map (fun i => (i.zero, i.size, i.bytes)) = some (some (.agg #[.string ByteArray.empty, .slice none 0 0]), 2, 40))
    (hgd : o.guard = none) (s x : Operand) (ho : o.op = .call { callee := .builtin .append, args := #[s, x], argTypes := #[ts, ts] })
    (base : Nat) (v : Value) (fs : List Ch) (hs : a.eval s = v) (hown : ChsIs w base te v fs) (f : Ch) (ao : Option Addr) (cap : Nat) (hd : Own w base (.slice ao f.2.length cap) f.2)
    (ad : Nat) (hx : a.eval x = .slice (some ⟨ad, 0, none⟩) 1 1) (hnews : Blk w ad te (twoOf f ao cap)) (hbd : fs.length < 1000000001) (hbase : base ≤ w.heap.size)
    (h : ∀ v' w', ChsIs w' base te v' (fs ++ [f]) → w.grownBy w' v.ownBlock → (∀ k, v.ownBlock = some k → base ≤ k) → K (a.put o.dst v') w') :
    if Region.wanted o (yielded ops a.tmps) = true then Oper.wp Try.prog o a w K Q else E := by
  have hw : Region.wanted o (yielded ops a.tmps) = true := by simp [Region.wanted, hgd]
  rw [if_pos hw]
  obtain ⟨i, hi, hz, hsize, hby⟩ := info_parts hinfo
  obtain ⟨cells, h1, h2⟩ := hown
  refine wp_append_own w s x _ ho base te i _ 2 40 hu hi hz hsize hby rfl (by decide) v fs.length cells hs h1 ⟨ad, 0, none⟩ 1 1 (twoOf f ao cap) hx (by simp [twoOf]) ?_ ?_ (by unfold maxLen; omega) (by omega) hbase ?_
  · intro j u hj
    have e : (Addr.add ⟨ad, 0, none⟩ j) = ⟨ad, j, none⟩ := by unfold Addr.add; split <;> simp_all
    rw [e]
    exact hnews.cell hj
  · intro u hu
    simp [twoOf] at hu
    rcases hu with rfl | rfl <;> rfl
  · intro v' w' hown' hg _
    have hlen := h1.1
    refine h v' w' ⟨cells ++ twoOf f ao cap, by rw [List.length_append]; exact hown', fun j hj => ?_⟩ hg (fun k hk => (World.ownsRow.lt h1 k hk).1)
    rw [List.length_append, List.length_singleton] at hj
    by_cases hjl : j < fs.length
    · obtain ⟨ao', cap', e0, e1, ho'⟩ := h2 j hjl
      have hg' : (fs ++ [f])[j]'(by rw [List.length_append, List.length_singleton]; exact hj) = fs[j] := List.getElem_append_left hjl
      rw [hg']
      refine ⟨ao', cap', ?_, ?_, ho'.at fun k hk => hg.block k (ho'.lt k hk).2 (own_other ho' h1 hte k hk)⟩
      all_goals
        rw [List.getElem?_append_left (by omega)]
        assumption
    · obtain rfl : j = fs.length := by omega
      have hg' : (fs ++ [f])[fs.length]'(by rw [List.length_append, List.length_singleton]; exact hj) = f := by simp
      rw [hg']
      refine ⟨ao, cap, ?_, ?_, hd.at fun k hk => hg.block k (hd.lt k hk).2 (own_other hd h1 hte k hk)⟩
      all_goals
        rw [List.getElem?_append_right (by omega), hlen]
        simp [twoOf]


/-- No string and no slice of bytes is longer than may be. -/
def SzC (fs : List Ch) : Prop := ∀ f ∈ fs, f.1.size ≤ 140737488351232 ∧ f.2.length ≤ 140737488351232
def sumF (fs : List Ch) : Nat := fs.foldl (fun n f => n + f.2.length + f.1.size) 0
theorem sumF_snoc (l : List Ch) (f : Ch) : sumF (l ++ [f]) = sumF l + f.2.length + f.1.size := by unfold sumF; rw [List.foldl_append]; rfl
theorem sumF_le : ∀ (q : Nat) (fs : List Ch), SzC fs → q ≤ fs.length → sumF (fs.take q) ≤ 281474976702464 * q := by
  intro q
  induction q with
  | zero => intro fs _ _; show (0 : Nat) ≤ _; omega
  | succ q ih =>
    intro fs h hq
    rw [List.take_succ_eq_append_getElem (by omega), sumF_snoc]
    have h1 := ih fs h (by omega)
    obtain ⟨h2, h3⟩ := h (fs[q]'(by omega)) (List.getElem_mem (by omega))
    omega
def fewB (fs : List Ch) : Bool := decide (fs.length ≤ 100) && decide (sumF fs ≤ 9000)
set_option maxRecDepth 100000 in
set_option maxHeartbeats 6400000 in
theorem few_any (v : Value) (fs : List Ch) (hs : SzC fs) (w : World) (h1 : ChRow w v fs) :
    Calls Try.prog 12 #[v] w fun e w' => e = .returned (.bool (fewB fs)) ∧ Below w.heap.size w w' := by
  obtain ⟨a, ca, rfl, x1, x2, x3, hv1⟩ := h1
  have HV1 := Lib.hid hv1
  have HSZ := Lib.hid hs
  obtain ⟨LF, hLF⟩ : ∃ L, L = fs.length := ⟨_, rfl⟩
  rw [← hLF] at x1 ⊢
  have HLF := Lib.hid hLF
  have hb63 : LF ≤ 9223372036854775807 := by unfold maxLen at x2; omega
  clear hv1 hLF x1 x2 x3 hs
  by_cases hbig : LF ≤ 100
  · go_enter Try.func12, Try.ntmps12
    go_wp2_with fail
    go_loopw [3, 4] (fun nv jv wr => ∃ q x : Nat, q ≤ LF ∧ jv = .int .i64 q ∧ nv = .int .i64 x ∧ Hid (x = sumF (fs.take q)) ∧ x ≤ 281474976702464 * q ∧ Hid (Below w.heap.size w wr)) (fun _ jv _ => LF - (intOf jv).toNat)
    case atStart => exact ⟨0, 0, by omega, rfl, rfl, rfl, by omega, Below.refl _ _⟩
    case round =>
      obtain ⟨q, x, hq, rfl, rfl, HX, hx, HBI⟩ := hrel
      by_cases hql : q < LF
      · have hq' : q < fs.length := by rw [← HLF.out]; exact hql
        obtain ⟨g5, o5, ad, cd, rfl, k0, k1, ky, _, _⟩ := HV1.out q hq'
        obtain ⟨z1, z2⟩ := HSZ.out (fs[q]'hq') (List.getElem_mem hq')
        have HSN : Hid (sumF (fs.take (q + 1)) = x + (fs[q]'hq').2.length + (fs[q]'hq').1.size) := Lib.hid (by rw [List.take_succ_eq_append_getElem hq', sumF_snoc, HX.out])
        generalize fs[q]'hq' = f at *
        obtain ⟨ln, hln⟩ : ∃ ln, ln = f.2.length := ⟨_, rfl⟩
        obtain ⟨lk, hlk⟩ : ∃ ln, ln = f.1.size := ⟨_, rfl⟩
        rw [← hln] at k1 z2 HSN
        rw [← hlk] at z1 HSN
        have HLK := Lib.hid hlk
        have HW : Hid (IntKind.i64.wrap (IntKind.i64.wrap ((x : Int) + (ln : Int)) + (lk : Int)) = ((x + ln + lk : Nat) : Int)) := Lib.hid (by simp [IntKind.wrap, IntKind.bits, IntKind.signed]; omega)
        have HSS : Hid (∀ u, Below w.heap.size w u → u.cell? ⟨g5, o5 + q * 2, none⟩ = some (.string f.1) ∧ u.cell? ⟨g5, o5 + q * 2 + 1, none⟩ = some (.slice ad ln cd)) := Lib.hid (fun u hu => by
          have hl5 : g5 < w.heap.size := cell_lt (a := ⟨g5, o5 + q * 2, none⟩) k0
          have cc5 : ∀ o, u.cell? ⟨g5, o, none⟩ = w.cell? ⟨g5, o, none⟩ := fun o => hu.cell (p := ⟨g5, o, none⟩) hl5
          simp only [cc5]
          exact ⟨k0, k1⟩)
        clear k0 k1 ky hln hlk
        have hS := HSS.out wr.drew HBI.out.drew
        go_wp2_with fail
        go_region_held3 (fun u => u.cell? ⟨g5, o5 + q * 2, none⟩ = some (.string f.1) ∧ u.cell? ⟨g5, o5 + q * 2 + 1, none⟩ = some (.slice ad ln cd)) (first | exact hS) (first | fail)
        all_goals
          rw [← HLK.out, HW.out]
          go_wp2_with fail
          go_roundw
          case rel => exact ⟨q + 1, x + ln + lk, by omega, by go_num, rfl, HSN.out.symm, by omega, HBI.out.drew⟩
          case measure => simp [intOf]; omega
      · have hqe : q = LF := by omega
        have HAL : Hid (fewB fs = decide ((x : Int) ≤ 9000)) := Lib.hid (by
          have e : fs.take q = fs := by rw [hqe, HLF.out, List.take_length]
          have hx' := HX.out
          rw [e] at hx'
          unfold fewB
          rw [← HLF.out, ← hx']
          have h1 : decide (LF ≤ 100) = true := by simpa using hbig
          rw [h1, Bool.true_and]
          exact decide_eq_decide.2 (by omega))
        subst hqe
        go_wp2_with fail
        go_ret
        exact ⟨by rw [HAL.out]; rfl, HBI.out⟩
  · have HAL : Hid (fewB fs = false) := Lib.hid (by
      unfold fewB
      rw [← HLF.out]
      have h1 : decide (LF ≤ 100) = false := by simpa using hbig
      rw [h1, Bool.false_and])
    have hbig' : ¬ (LF : Int) ≤ 100 := by omega
    go_enter Try.func12, Try.ntmps12
    go_wp2_with fail
    go_loopw [3, 4] (fun nv jv wr => ∃ (q : Nat) (x : Int), q ≤ LF ∧ jv = .int .i64 q ∧ nv = .int .i64 x ∧ Hid (Below w.heap.size w wr)) (fun _ jv _ => LF - (intOf jv).toNat)
    case atStart => exact ⟨0, 0, by omega, rfl, rfl, Below.refl _ _⟩
    case round =>
      obtain ⟨q, x, hq, rfl, rfl, HBI⟩ := hrel
      by_cases hql : q < LF
      · have hq' : q < fs.length := by rw [← HLF.out]; exact hql
        obtain ⟨g5, o5, ad, cd, rfl, k0, k1, ky, _, _⟩ := HV1.out q hq'
        generalize fs[q]'hq' = f at *
        obtain ⟨ln, hln⟩ : ∃ ln, ln = f.2.length := ⟨_, rfl⟩
        rw [← hln] at k1
        have HSS : Hid (∀ u, Below w.heap.size w u → u.cell? ⟨g5, o5 + q * 2, none⟩ = some (.string f.1) ∧ u.cell? ⟨g5, o5 + q * 2 + 1, none⟩ = some (.slice ad ln cd)) := Lib.hid (fun u hu => by
          have hl5 : g5 < w.heap.size := cell_lt (a := ⟨g5, o5 + q * 2, none⟩) k0
          have cc5 : ∀ o, u.cell? ⟨g5, o, none⟩ = w.cell? ⟨g5, o, none⟩ := fun o => hu.cell (p := ⟨g5, o, none⟩) hl5
          simp only [cc5]
          exact ⟨k0, k1⟩)
        clear k0 k1 ky hln
        have hS := HSS.out wr.drew HBI.out.drew
        go_wp2_with fail
        go_region_held3 (fun u => u.cell? ⟨g5, o5 + q * 2, none⟩ = some (.string f.1) ∧ u.cell? ⟨g5, o5 + q * 2 + 1, none⟩ = some (.slice ad ln cd)) (first | exact hS) (first | fail)
        all_goals
          go_wp2_with fail
          go_roundw
          case rel => exact ⟨q + 1, _, by omega, by go_num, rfl, HBI.out.drew⟩
          case measure => simp [intOf]; omega
      · have hqe : q = LF := by omega
        subst hqe
        go_wp2_with fail
        go_ret
        exact ⟨by rw [HAL.out]; rfl, HBI.out⟩
set_option maxRecDepth 100000 in
set_option maxHeartbeats 6400000 in
theorem back_any (v : Value) (fs : List Ch) (hbd : fs.length ≤ 1000000000) (hdl : ∀ f ∈ fs, f.2.length ≤ 1000000000) (w : World) (h1 : ChRow w v fs) :
    Calls Try.prog 14 #[v] w fun e w' => ∃ v', e = .returned v' ∧ ChsIs w' w.heap.size 51 v' fs ∧ Below w.heap.size w w' := by
  obtain ⟨a, ca, rfl, x1, x2, x3, hv1⟩ := h1
  have HV1 := Lib.hid hv1
  have HDL := Lib.hid hdl
  obtain ⟨LF, hLF⟩ : ∃ L, L = fs.length := ⟨_, rfl⟩
  rw [← hLF] at x1 hbd ⊢
  have HLF := Lib.hid hLF
  clear hv1 hLF x1 x2 x3 hdl
  go_enter Try.func14, Try.ntmps14
  go_wp2_with fail
  go_loopw [3, 4] (fun ov jv wr => ∃ q : Nat, q ≤ LF ∧ jv = .int .i64 q ∧ Hid (ChsIs wr w.heap.size 51 ov (fs.take q)) ∧ Hid (Below w.heap.size w wr)) (fun _ jv _ => LF - (intOf jv).toNat)
  case atStart => exact ⟨0, by omega, rfl, ChsIs.nil _ _ _, Below.refl _ _⟩
  case round =>
    obtain ⟨q, hq, rfl, HCH, HBI⟩ := hrel
    by_cases hql : q < LF
    · have hq' : q < fs.length := by rw [← HLF.out]; exact hql
      obtain ⟨g5, o5, ad, cd, rfl, k0, k1, ky, kn, km⟩ := HV1.out q hq'
      have HTK : Hid (fs.take (q + 1) = fs.take q ++ [fs[q]'hq']) := Lib.hid (List.take_succ_eq_append_getElem hq')
      have HTL : Hid ((fs.take q).length < 1000000001) := Lib.hid (by rw [List.length_take]; omega)
      have hfl := HDL.out (fs[q]'hq') (List.getElem_mem hq')
      generalize fs[q]'hq' = f at *
      have HF := Lib.hid (And.intro ky (And.intro kn hfl))
      obtain ⟨ln, hln⟩ : ∃ ln, ln = f.2.length := ⟨_, rfl⟩
      rw [← hln] at k1
      have HLN := Lib.hid hln
      have HSS : Hid (∀ u, Below w.heap.size w u → u.cell? ⟨g5, o5 + q * 2, none⟩ = some (.string f.1) ∧ u.cell? ⟨g5, o5 + q * 2 + 1, none⟩ = some (.slice ad ln cd)) := Lib.hid (fun u hu => by
        have hl5 : g5 < w.heap.size := cell_lt (a := ⟨g5, o5 + q * 2, none⟩) k0
        have cc5 : ∀ o, u.cell? ⟨g5, o, none⟩ = w.cell? ⟨g5, o, none⟩ := fun o => hu.cell (p := ⟨g5, o, none⟩) hl5
        simp only [cc5]
        exact ⟨k0, k1⟩)
      clear k0 k1 ky kn km hln hfl
      have hS := HSS.out wr.drew HBI.out.drew
      have HB0 : Hid (Below w.heap.size w wr.drew) := HBI.out.drew
      have HC0 : Hid (ChsIs wr.drew w.heap.size 51 u3 (fs.take q)) := HCH.out
      go_wp2_with fail
      go_region_held3 (fun u => u.cell? ⟨g5, o5 + q * 2, none⟩ = some (.string f.1) ∧ u.cell? ⟨g5, o5 + q * 2 + 1, none⟩ = some (.slice ad ln cd)) (first | exact hS | exact hS1 | exact hS2 | exact hS3)
        (first
          | (refine step_append_bytes (by rfl) (.const (.slice none 0 0)) (.tmp 21) (by rfl) w.heap.size _ [] (by rfl) (Own.nil _ _) ad ln cd f.2 (by rfl) HLN.out (HF.out.1.keep HB0.out) HF.out.2.1 (by have := HF.out.2.2; have := HLN.out; simp; omega) HB0.out.size ?_; intro v6 w6 ho6 hg6; obtain ⟨a6, c6, e6, _⟩ := own_view2 ho6; subst e6; rw [List.nil_append] at ho6; have HO6 := Lib.hid ho6; have HB6 : Hid (Below w.heap.size w w6) := Lib.hid (HB0.out.grown hg6 HB0.out.size (fun k hk => by cases hk)); have HC6 : Hid (ChsIs w6 w.heap.size 51 u3 (fs.take q)) := Lib.hid (HC0.out.at fun k hk1 hk2 => hg6.block k hk2 (fun e => by cases e)); have hS1 := HSS.out _ HB6.out; have HB7 : Hid (Below w.heap.size w (w6.alloc (Obj.cells #[.string f.1, .slice a6 f.2.length c6] 51))) := Lib.hid (HB6.out.alloc HB6.out.size _); have HO7 : Hid (Own (w6.alloc (Obj.cells #[.string f.1, .slice a6 f.2.length c6] 51)) w.heap.size (.slice a6 f.2.length c6) f.2) := Lib.hid (HO6.out.keep ((Below.refl _ _).alloc (Nat.le_refl _) _)); have HN7 : Hid (Blk (w6.alloc (Obj.cells #[.string f.1, .slice a6 f.2.length c6] 51)) w6.heap.size 51 (twoOf f a6 c6)) := Lib.hid (Blk.new w6 #[.string f.1, .slice a6 f.2.length c6] _); have hS2 := HSS.out _ HB7.out; clear ho6 hg6)
          | (refine step_append_ch 24 51 Try.underlying24 (by decide) info_ch (by rfl) (.tmp 11) (.tmp 24) (by rfl) w.heap.size u3 (fs.take q) (by rfl) (HC6.out.alloc _) f a6 c6 HO7.out w6.heap.size (by rfl) HN7.out HTL.out HB7.out.size ?_; intro v8 w8 hc8 hg8 hk8; have HC8 := Lib.hid hc8; have HB8 : Hid (Below w.heap.size w w8) := Lib.hid (HB7.out.grown hg8 HB7.out.size hk8); have hS3 := HSS.out _ HB8.out; clear hc8 hg8 hk8))
      all_goals
        go_wp2_with fail
        go_roundw
        case rel => exact ⟨q + 1, by omega, by go_num, (by rw [HTK.out]; exact HC8.out), HB8.out⟩
        case measure => simp [intOf]; omega
    · have hqe : q = LF := by omega
      have HAL : Hid (fs.take q = fs) := Lib.hid (by rw [hqe, HLF.out, List.take_length])
      subst hqe
      go_wp2_with fail
      go_ret
      exact ⟨_, rfl, by have h := HCH.out; rw [HAL.out] at h; exact h, HBI.out⟩
end Go.Proofs.Ytfjcelnamjgieaa.Ck
