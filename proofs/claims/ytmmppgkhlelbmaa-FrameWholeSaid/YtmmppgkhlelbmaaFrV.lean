/- Contract of the reference's Encode. Condition: bytes lie at the data's slice. -/
import Derived.Test.YtmmppgkhlelbmaaFrO
import Derived.Deep.RegionHeld3
import Derived.BigQuiet
namespace Go.Proofs.Ytmmppgkhlelbmaa.Fr
open Go.RowKit Ba Go.Deep
set_option linter.unusedVariables false

/-- 'append(v, x...)' at a step of a region that draws its order. -/
theorem step_append_bytes {w : World} {ops : Array Oper} {o : Oper} {a : Act} {K : Act → World → Prop} {Q : Exit → Act → World → Prop} {E : Prop} (hgd : o.guard = none) (s x : Operand)
    (ho : o.op = .call { callee := .builtin .append, args := #[s, x], argTypes := #[22, 22] })
    (base : Nat) (v : Value) (xs : List UInt8) (hs : a.eval s = v) (hown : Own w base v xs)
    (ao : Option Addr) (m c : Nat) (news : List UInt8) (hx : a.eval x = .slice ao m c) (hm : m = news.length) (hnews : Bytes w ao news) (hnil : ao = none → c = 0)
    (hbd : xs.length + m ≤ 140737488355328) (hbase : base ≤ w.heap.size)
    (h : ∀ v' w', Own w' base v' (xs ++ news) → w.grownBy w' v.ownBlock → K (a.put o.dst v') w') :
    if Region.wanted o (yielded ops a.tmps) = true then Oper.wp Try.prog o a w K Q else E := by
  have hw : Region.wanted o (yielded ops a.tmps) = true := by simp [Region.wanted, hgd]
  rw [if_pos hw]
  obtain ⟨i, hi, hz, hsize, hby⟩ := info_parts info_u8
  cases ao with
  | none =>
    have hm0 : m = 0 := by
      cases news with
      | nil => exact hm
      | cons u l =>
        obtain ⟨b, off, e, _⟩ := hnews 0 (by simp)
        cases e
    subst hm0
    have hc := hnil rfl
    subst hc
    have hn : news = [] := List.length_eq_zero_iff.1 hm.symm
    subst hn
    have hrun := run_append_owned_none (P := Try.prog) (w := w) base 22 o.type 5 i 1 Try.underlying22 hi v xs.length (xs.map cellOf) hown
    unfold Oper.wp
    simp [execOp, ho, resolve, invoke, builtin, hs, hx, hrun, Result.andThen]
    exact h v w (by rw [List.append_nil]; exact hown) ⟨rfl, rfl, rfl, Nat.le_refl _, fun _ _ _ => rfl⟩
  | some ad =>
    refine wp_append_own w s x _ ho base 5 i (.int .u8 0) 1 1 Try.underlying22 hi hz hsize hby rfl (by decide) v xs.length (xs.map cellOf) hs hown ad m c (news.map cellOf) hx (by simp [hm]) ?_ ?_ (by unfold maxLen; omega) (by omega) hbase ?_
    · intro j u hj
      rw [List.getElem?_map] at hj
      obtain ⟨q, hq, rfl⟩ := Option.map_eq_some_iff.1 hj
      obtain ⟨hlt, rfl⟩ := List.getElem?_eq_some_iff.1 hq
      obtain ⟨b, off, e, hcell⟩ := hnews j hlt
      simp only [Option.some.injEq] at e
      subst e
      have ea : (Addr.add ⟨b, off, none⟩ j) = ⟨b, off + j, none⟩ := by
        unfold Addr.add
        by_cases h0 : j = 0
        · subst h0; simp
        · simp [h0]
      rw [ea, hcell]
      rfl
    · intro u hu
      obtain ⟨q, _, rfl⟩ := List.mem_map.1 hu
      rfl
    · intro v' w' hown' hgrow _
      refine h v' w' ?_ hgrow
      unfold Own
      rw [List.length_append, ← hm, List.map_append]
      exact hown'

set_option maxRecDepth 100000 in
set_option maxHeartbeats 1600000 in
theorem rencode_kind (k : Int) (hno : ¬ isKind k) (a b c : Int) (dv : Value) (w : World) :
    Calls Try.prog 20 #[.agg #[.int .i64 k, .int .i64 a, .int .i64 b, .int .i64 c, dv]] w (Encd [] 7 w) := by
  have hnl := fun w => Lib.run_eql_slice_nil (P := Try.prog) w 57 3 none 0 0 0 0 Try.underlying57
  have HS := Lib.hid (fun w => widths_no k hno w)
  clear hno
  have hb0 : Below w.heap.size w (w.alloc (Obj.cells #[.int .i64 k, .int .i64 a, .int .i64 b, .int .i64 c, dv] 40)) := (Below.refl _ _).alloc (Nat.le_refl _) _
  have HB0 := Lib.hid hb0
  clear hb0
  go_enter Try.func20, Try.ntmps20
  go_wp2_with fail
  refine (HS.out _).mono ?_
  rintro e w1 ⟨rfl, rfl⟩
  go_wp2_with fail
  go_ret2
  exact ⟨_, rfl, HB0.out, Own.nil _ _⟩
/-- Whether a number fits, as the reference asks it. -/
theorem fits_ask (n : Int) (m : Nat) : fitsV n m = (!(decide (n < 0)) && !(decide ((2 : Int) ^ (8 * m) ≤ n))) := by
  unfold fitsV
  have hp : (0 : Int) < 2 ^ (8 * m) := Int.pow_pos (by decide)
  rw [Bool.eq_iff_iff]
  simp only [Bool.and_eq_true, decide_eq_true_eq, beq_iff_eq, Bool.not_eq_true', decide_eq_false_iff_not]
  constructor
  · rintro ⟨h0, h⟩
    have h3 := Int.mul_ediv_add_emod n (2 ^ (8 * m))
    have h4 := Int.emod_lt_of_pos n hp
    rw [h, Int.mul_zero, Int.zero_add] at h3
    rw [h3] at h4
    exact ⟨by omega, by omega⟩
  · rintro ⟨h0, h1⟩
    exact ⟨by omega, Int.ediv_eq_zero_of_lt (by omega) (by omega)⟩
theorem lim_wrap (m : Nat) (hm : m ≤ 4) : wrap64 ((2 : Int) ^ (8 * m)) = 2 ^ (8 * m) := by
  have : m = 0 ∨ m = 1 ∨ m = 2 ∨ m = 3 ∨ m = 4 := by omega
  rcases this with rfl | rfl | rfl | rfl | rfl <;> simp [wrap64]
theorem lit4 (n : Nat) : [Value.int .u8 ((n : Int) % 256), .int .u8 ((n : Int) / 256 % 256), .int .u8 ((n : Int) / 65536 % 256), .int .u8 ((n : Int) / 16777216 % 256)] = (laidV (n : Int) 4).map cellOf := by
  show _ = [cellOf _, cellOf _, cellOf _, cellOf _]
  unfold cellOf
  rw [laid_cell, laid_cell, laid_cell, laid_cell]
  simp
set_option maxRecDepth 100000 in
set_option maxHeartbeats 12800000 in
theorem rencode_yes (k x y z : Nat) (hk : 1 ≤ k ∧ k ≤ 10) (q : Bool) (hx : x ≤ 4) (hy : y ≤ 4) (hz4 : z ≤ 4) (a b c : Int) (data : List UInt8) (ad : Option Addr) (nd cd : Nat) (hn : nd = data.length) (hm : nd ≤ 1000000000) (hnil : ad = none → cd = 0) (w : World) (hb : Bytes w ad data) (HS : Hid (∀ w, Calls Try.prog 27 #[.int .i64 (k : Nat)] w (Widths x y z q w))) :
    Calls Try.prog 20 #[.agg #[.int .i64 (k : Nat), .int .i64 a, .int .i64 b, .int .i64 c, .slice ad nd cd]] w (Encd (encL k x y z q a b c data) (encK x y z q a b c data) w) := by
  have HN := Lib.hid hn
  have HB := Lib.hid hb
  have HNIL := Lib.hid hnil
  clear hn hb hnil
  have hnl := fun w g => Lib.run_eql_slice_nil (P := Try.prog) w 57 3 (some ⟨g, 0, none⟩) 3 3 0 0 Try.underlying57
  have F0 := Lib.hid (Blk.new w #[.int .i64 (k : Nat), .int .i64 a, .int .i64 b, .int .i64 c, .slice ad nd cd] 40)
  have hb0 : Below w.heap.size w (w.alloc (Obj.cells #[.int .i64 (k : Nat), .int .i64 a, .int .i64 b, .int .i64 c, .slice ad nd cd] 40)) := (Below.refl _ _).alloc (Nat.le_refl _) _
  have hs0 : (w.alloc (Obj.cells #[.int .i64 (k : Nat), .int .i64 a, .int .i64 b, .int .i64 c, .slice ad nd cd] 40)).heap.size = w.heap.size + 1 := by simp
  go_enter Try.func20, Try.ntmps20
  go_wp2_with fail
  generalize w.alloc (Obj.cells #[.int .i64 (k : Nat), .int .i64 a, .int .i64 b, .int .i64 c, .slice ad nd cd] 40) = w0 at *
  refine (HS.out _).mono ?_
  rintro e w1 ⟨g, rfl, hg, hbk, hb1⟩
  have W1 := Lib.hid hbk
  have F1 := Lib.hid (F0.out.keep hb1)
  have HB1 := Lib.hid (chain hb0 hb1)
  have s1 := HB1.out.size
  have hgl := W1.out.lt
  have c0 := F1.out.cell (i := 0) rfl
  have c1 := F1.out.cell (i := 1) rfl
  have c2 := F1.out.cell (i := 2) rfl
  have c3 := F1.out.cell (i := 3) rfl
  have ltF := F1.out.lt
  have hwk : IntKind.u8.wrap (k : Int) = (k : Int) := by simp [IntKind.wrap, IntKind.bits, IntKind.signed]; omega
  clear hb1 F0 hb0 hbk
  go_wp2_with fail
  have I4 := Lib.hid ((Blk.new w1 #[.int .i64 a, .int .i64 b, .int .i64 c] 3).alloc (Obj.cells #[.int .u8 (k : Nat)] 5))
  have P4 : Hid (Own ((w1.alloc (Obj.cells #[.int .i64 a, .int .i64 b, .int .i64 c] 3)).alloc (Obj.cells #[.int .u8 (k : Nat)] 5)) w.heap.size (.slice (some ⟨w1.heap.size + 1, 0, none⟩) 1 1) (preV (UInt8.ofNat k) x y z a b c 0)) := Lib.hid (by
    have h := Own.lit (w1.alloc (Obj.cells #[.int .i64 a, .int .i64 b, .int .i64 c] 3)) w.heap.size [UInt8.ofNat k] #[.int .u8 (k : Nat)] (by simp; omega) (by unfold maxLen; simp) (by simp [kb_cell k hk])
    rw [show (w1.alloc (Obj.cells #[.int .i64 a, .int .i64 b, .int .i64 c] 3)).heap.size = w1.heap.size + 1 by simp] at h
    exact h)
  have F4 := Lib.hid ((F1.out.alloc (Obj.cells #[.int .i64 a, .int .i64 b, .int .i64 c] 3)).alloc (Obj.cells #[.int .u8 (k : Nat)] 5))
  have S4 := Lib.hid ((W1.out.alloc (Obj.cells #[.int .i64 a, .int .i64 b, .int .i64 c] 3)).alloc (Obj.cells #[.int .u8 (k : Nat)] 5))
  have HB4 := Lib.hid ((HB1.out.alloc s1 (Obj.cells #[.int .i64 a, .int .i64 b, .int .i64 c] 3)).alloc (by simp; omega) (Obj.cells #[.int .u8 (k : Nat)] 5))
  generalize ((w1.alloc (Obj.cells #[.int .i64 a, .int .i64 b, .int .i64 c] 3)).alloc (Obj.cells #[.int .u8 (k : Nat)] 5)) = w4 at *
  clear F1 HB1 c0 c1 c2 c3 W1
  go_loopw [7, 8, 9] (fun p i _ wr => ∃ j : Nat, j ≤ 3 ∧ i = .int .i64 j ∧ Hid (Own wr w.heap.size p (preV (UInt8.ofNat k) x y z a b c j)) ∧ Hid (∀ i, i < j → fitJ x y z a b c i = true) ∧ Hid (Below w.heap.size w wr) ∧
      Hid (Blk wr w.heap.size 40 [.int .i64 (k : Nat), .int .i64 a, .int .i64 b, .int .i64 c, .slice ad nd cd]) ∧ Hid (Blk wr g 3 [.int .i64 x, .int .i64 y, .int .i64 z]) ∧ Hid (Blk wr w1.heap.size 3 [.int .i64 a, .int .i64 b, .int .i64 c])) (fun _ i _ _ => 3 - (intOf i).toNat)
  case atStart => exact ⟨0, by omega, rfl, P4.out, fun i hi => absurd hi (by omega), HB4.out, F4.out, S4.out, I4.out⟩
  case round =>
    obtain ⟨j, hj, rfl, HO, HFIT, HBEL, HFR, HSR, HIR⟩ := hrel
    have sr := HBEL.out.size
    by_cases hlt3 : j < 3
    · have HCI := Lib.hid (ints_at a b c j hlt3)
      have cI := HIR.out.cell HCI.out
      have HCS := Lib.hid (show ([.int .i64 x, .int .i64 y, .int .i64 z] : List Value)[j]? = some (.int .i64 (wN x y z j : Nat)) from by
        have : j = 0 ∨ j = 1 ∨ j = 2 := by omega
        rcases this with rfl | rfl | rfl <;> rfl)
      have cS := HSR.out.cell HCS.out
      have hw4 := wN_le x y z j hx hy hz4
      have HPL : Hid (∀ i2, i2 ≤ wN x y z j → (preV (UInt8.ofNat k) x y z a b c j ++ laidV (nV a b c j) i2).length + 1 ≤ 140737488355328) := Lib.hid (by
        intro i2 hi2
        rw [List.length_append, laid_length, preV_length _ _ _ _ _ _ _ _ (by omega)]
        have h1 := sN_le x y z j (by omega)
        omega)
      have HNX : Hid (preV (UInt8.ofNat k) x y z a b c (j + 1) = preV (UInt8.ofNat k) x y z a b c j ++ laidV (nV a b c j) (wN x y z j)) := rfl
      have HFJ : Hid (fitJ x y z a b c j = fitsV (nV a b c j) (wN x y z j)) := rfl
      have hfa := fits_ask (nV a b c j) (wN x y z j)
      have HBAD : Hid (fitsV (nV a b c j) (wN x y z j) = false → encK x y z q a b c data = 1) := Lib.hid (fun h => by unfold encK; rw [if_pos (fit3_no hlt3 h)])
      generalize preV (UInt8.ofNat k) x y z a b c j = pre at *
      generalize nV a b c j = n at *
      generalize wN x y z j = m at *
      have hlw := lim_wrap m hw4
      rw [← hlw] at hfa
      have hw1 : IntKind.i64.wrap (8 * (m : Int)) = 8 * m := by simp [IntKind.wrap, IntKind.bits, IntKind.signed]; omega
      have hw2 : IntKind.u64.wrap (8 * (m : Int)) = 8 * m := by simp [IntKind.wrap, IntKind.bits, IntKind.signed]; omega
      clear hlw
      have hthree : (decide (n < 0) = true) ∨ (decide (n < 0) = false ∧ decide (wrap64 ((2 : Int) ^ (8 * m)) ≤ n) = true) ∨ (decide (n < 0) = false ∧ decide (wrap64 ((2 : Int) ^ (8 * m)) ≤ n) = false) := by
        cases decide (n < 0) <;> cases decide (wrap64 ((2 : Int) ^ (8 * m)) ≤ n) <;> simp
      rcases hthree with d1 | ⟨d1, d2⟩ | ⟨d1, d2⟩
      · have HFF : Hid (fitsV n m = false) := Lib.hid (by rw [hfa, d1]; rfl)
        clear hfa
        go_wp2_with fail
        go_quiet (fail)
        go_wp2_with fail
        go_ret2
        have hek := HBAD.out HFF.out
        have hel : encL k x y z q a b c data = [] := by unfold encL; rw [hek]; rfl
        refine ⟨_, by rw [hek]; rfl, below_dn HBEL.out _, by rw [hel]; exact Own.nil _ _⟩
      · have HFF : Hid (fitsV n m = false) := Lib.hid (by rw [hfa, d1, d2]; rfl)
        clear hfa
        go_wp2_with fail
        go_quiet (fail)
        go_wp2_with fail
        go_ret2
        have hek := HBAD.out HFF.out
        have hel : encL k x y z q a b c data = [] := by unfold encL; rw [hek]; rfl
        refine ⟨_, by rw [hek]; rfl, below_dn HBEL.out _, by rw [hel]; exact Own.nil _ _⟩
      · have HFF : Hid (fitsV n m = true) := Lib.hid (by rw [hfa, d1, d2]; rfl)
        clear hfa
        go_wp2_with fail
        go_quiet (fail)
        have HO5 := Lib.hid (HO.out.drewN nq)
        have HB5 := Lib.hid (below_dn HBEL.out nq)
        have HF5 : Hid (Blk (wr.drewN nq) w.heap.size 40 [.int .i64 (k : Nat), .int .i64 a, .int .i64 b, .int .i64 c, .slice ad nd cd]) := HFR.out
        have HS5 : Hid (Blk (wr.drewN nq) g 3 [.int .i64 x, .int .i64 y, .int .i64 z]) := HSR.out
        have HI5 : Hid (Blk (wr.drewN nq) w1.heap.size 3 [.int .i64 a, .int .i64 b, .int .i64 c]) := HIR.out
        generalize wr.drewN nq = w5 at *
        clear cI cS hw1 hw2 d1 d2 HO HBEL HFR HSR HIR
        go_wp2_with fail
        go_loopw [7, 9] (fun p kk wr2 => ∃ i2 : Nat, i2 ≤ m ∧ kk = .int .i64 i2 ∧ Hid (Own wr2 w.heap.size p (pre ++ laidV n i2)) ∧ Hid (Below w.heap.size w wr2) ∧
            Hid (Blk wr2 w.heap.size 40 [.int .i64 (k : Nat), .int .i64 a, .int .i64 b, .int .i64 c, .slice ad nd cd]) ∧ Hid (Blk wr2 g 3 [.int .i64 x, .int .i64 y, .int .i64 z]) ∧ Hid (Blk wr2 w1.heap.size 3 [.int .i64 a, .int .i64 b, .int .i64 c])) (fun _ kk _ => m - (intOf kk).toNat)
        case atStart => exact ⟨0, by omega, rfl, by show Own _ _ _ (pre ++ []); rw [List.append_nil]; exact HO5.out, HB5.out, HF5.out, HS5.out, HI5.out⟩
        case round =>
          obtain ⟨i2, hi2, rfl, HO6, HB6, HF6, HS6, HI6⟩ := hrel
          have cI := HI6.out.cell HCI.out
          have cS := HS6.out.cell HCS.out
          by_cases hil : i2 < m
          · have hcell := laid_cell n i2
            have hnext := laid_next n i2
            obtain ⟨ub, hub⟩ : ∃ u, u = UInt8.ofNat ((n / 2 ^ (8 * i2)) % 256).toNat := ⟨_, rfl⟩
            rw [← hub] at hcell hnext
            have HNXT := Lib.hid hnext
            have HCC := Lib.hid hcell
            have HPL2 := Lib.hid (HPL.out i2 hi2)
            have hw5 : IntKind.u64.wrap (8 * (i2 : Int)) = 8 * i2 := by simp [IntKind.wrap, IntKind.bits, IntKind.signed]; omega
            have hw6 : IntKind.i64.wrap (8 * (i2 : Int)) = 8 * i2 := by simp [IntKind.wrap, IntKind.bits, IntKind.signed]; omega
            have HO7 := Lib.hid (HO6.out.alloc (Obj.cells #[.int .u8 (n / 2 ^ (8 * i2) % 256)] 5))
            have s6 := HB6.out.size
            have HBl := fun k hk => HO6.out.block k hk
            clear hcell hnext hub
            go_wp2_with (at_builtin; refine wpList_append_bytes rfl (.tmp 62) (.tmp 72) rfl w.heap.size _ _ rfl HO7.out (some ⟨_, 0, none⟩) 1 1 [ub] rfl rfl (Bytes.lit _ _ _ _ _ (by show [Value.int .u8 (n / 2 ^ (8 * i2) % 256)] = [cellOf ub]; rw [← HCC.out]; rfl)) (fun h => by cases h) HPL2.out (by simp; omega) ?_)
            intro v8 w8 hown8 hg8
            have hb8 : Below w.heap.size w w8 := (HB6.out.alloc s6 _).grown hg8 (by simp; omega) HBl
            have HO8 : Hid (Own w8 w.heap.size v8 (pre ++ laidV n (i2 + 1))) := Lib.hid (by rw [HNXT.out]; exact hown8)
            have HB8 := Lib.hid hb8
            have HF8 := Lib.hid ((HF6.out.alloc _).grown HO7.out (by decide) hg8)
            have HS8 := Lib.hid ((HS6.out.alloc _).grown HO7.out (by decide) hg8)
            have HI8 := Lib.hid ((HI6.out.alloc _).grown HO7.out (by decide) hg8)
            clear hown8 hg8 hb8 HBl
            go_wp2_with fail
            go_roundw
            case rel => exact ⟨i2 + 1, by omega, by go_num, HO8.out, HB8.out, HF8.out, HS8.out, HI8.out⟩
            case measure => simp [intOf]; omega
          · obtain rfl : i2 = m := by omega
            go_wp2_with fail
            go_roundw
            case rel => exact ⟨j + 1, by omega, by go_num, by rw [HNX.out]; exact HO6.out, fun i hi => by by_cases h : i < j; exact HFIT.out i h; rw [show i = j by omega, HFJ.out]; exact HFF.out, HB6.out, HF6.out, HS6.out, HI6.out⟩
            case measure => simp [intOf]; omega
    · obtain rfl : j = 3 := by omega
      have HF3 := Lib.hid (fit3_yes HFIT.out)
      have cF := HFR.out.cell (i := 4) rfl
      obtain ⟨ap, cp, rfl, hyp, hlp, hmp, hnp, hlop⟩ := HO.out.view2
      obtain ⟨PL, hPL⟩ : ∃ PL, PL = (preV (UInt8.ofNat k) x y z a b c 3).length := ⟨_, rfl⟩
      have hPLe : PL = 1 + (x + y + z) := by rw [hPL, preV_length _ _ _ _ _ _ _ _ (by omega)]; rfl
      have hPLb : PL ≤ 13 := by omega
      rw [← hPL] at HO ⊢
      have HPY := Lib.hid hyp
      have HPN := Lib.hid hnp
      have HPLE := Lib.hid hPLe
      have HPL := Lib.hid hPL
      clear hyp hlp hmp hnp hlop hPLe hPL
      have hcase : (q = false ∧ 0 < nd) ∨ (q = true ∧ 262208 < PL + nd) ∨ ((q = true ∨ (q = false ∧ ¬ 0 < nd)) ∧ PL + nd ≤ 262208) := by
        cases q
        · by_cases h2 : 0 < nd
          · exact .inl ⟨rfl, h2⟩
          · exact .inr (.inr ⟨.inr ⟨rfl, h2⟩, by omega⟩)
        · by_cases h1 : PL + nd ≤ 262208
          · exact .inr (.inr ⟨.inl rfl, h1⟩)
          · exact .inr (.inl ⟨rfl, by omega⟩)
      rcases hcase with ⟨rfl, hnd⟩ | ⟨rfl, hbig⟩ | ⟨hqq, hsm⟩
      · have HEK : Hid (encK x y z false a b c data = 1) := Lib.hid (by unfold encK; rw [if_neg (by rw [HF3.out]; decide), if_pos ⟨rfl, by rw [← HN.out]; exact hnd⟩])
        have HEL : Hid (encL k x y z false a b c data = []) := Lib.hid (by unfold encL; rw [HEK.out]; rfl)
        go_wp2_with fail
        go_ret2
        refine ⟨_, by rw [HEK.out]; rfl, HBEL.out, by rw [HEL.out]; exact Own.nil _ _⟩
      · have HEK : Hid (encK x y z true a b c data = 3) := Lib.hid (by unfold encK; rw [if_neg (by rw [HF3.out]; decide), if_neg (fun h => by cases h.1), if_pos (by rw [← HN.out, ← HPLE.out]; exact hbig)])
        have HEL : Hid (encL k x y z true a b c data = []) := Lib.hid (by unfold encL; rw [HEK.out]; rfl)
        have hgt : (262208 : Int) < PL + nd := by omega
        go_wp2_with fail
        go_ret2
        refine ⟨_, by rw [HEK.out]; rfl, HBEL.out, by rw [HEL.out]; exact Own.nil _ _⟩
      · have HEK : Hid (encK x y z q a b c data = 0) := Lib.hid (by
          unfold encK
          rw [if_neg (by rw [HF3.out]; decide), if_neg, if_neg (by rw [← HN.out, ← HPLE.out]; omega)]
          rintro ⟨h1, h2⟩
          rw [← HN.out] at h2
          rcases hqq with h | ⟨_, h⟩
          · rw [h] at h1; cases h1
          · exact h h2)
        have HEL : Hid (encL k x y z q a b c data = (laidV ((PL + nd : Nat) : Int) 4 ++ preV (UInt8.ofNat k) x y z a b c 3) ++ data) := Lib.hid (by
          unfold encL
          rw [if_pos HEK.out]
          have : (encP k x y z a b c data).length = PL + nd := by unfold encP; rw [List.length_append, ← HPL.out, ← HN.out]
          rw [this, List.append_assoc]
          rfl)
        have hgt : ¬ ((262208 : Int) < PL + nd) := by omega
        have HBD := Lib.hid (fun u (hu : Below wr.heap.size wr u) => HB.out.keep (chain HBEL.out hu))
        have HPD := Lib.hid (fun u (hu : Below wr.heap.size wr u) => HPY.out.keep hu)
        have HL1 : Hid ((laidV ((PL + nd : Nat) : Int) 4).length + PL ≤ 140737488355328) := Lib.hid (by rw [laid_length]; omega)
        have HL2 : Hid ((laidV ((PL + nd : Nat) : Int) 4 ++ preV (UInt8.ofNat k) x y z a b c 3).length + nd ≤ 140737488355328) := Lib.hid (by rw [List.length_append, laid_length, ← HPL.out]; omega)
        rcases hqq with rfl | ⟨rfl, hnd0⟩
        · have HOUT : Hid (Own (wr.alloc (Obj.cells #[.int .u8 (((PL : Int) + nd) % 256), .int .u8 (((PL : Int) + nd) / 256 % 256), .int .u8 (((PL : Int) + nd) / 65536), .int .u8 (((PL : Int) + nd) / 16777216)] 5)) w.heap.size (.slice (some ⟨wr.heap.size, 0, none⟩) 4 4) (laidV ((PL + nd : Nat) : Int) 4)) := Lib.hid (by
            refine Own.lit wr w.heap.size (laidV ((PL + nd : Nat) : Int) 4) _ sr (by unfold maxLen; rw [laid_length]; decide) ?_
            rw [← lit4]
            have e2 : ((PL + nd : Nat) : Int) = (PL : Int) + nd := by omega
            have e3 : ((PL : Int) + nd) / 65536 % 256 = ((PL : Int) + nd) / 65536 := by omega
            have e4 : ((PL : Int) + nd) / 16777216 % 256 = ((PL : Int) + nd) / 16777216 := by omega
            rw [e2, e3, e4])
          have HFC : Hid (Blk (wr.alloc (Obj.cells #[.int .u8 (((PL : Int) + nd) % 256), .int .u8 (((PL : Int) + nd) / 256 % 256), .int .u8 (((PL : Int) + nd) / 65536), .int .u8 (((PL : Int) + nd) / 16777216)] 5)) w.heap.size 40 [.int .i64 (k : Nat), .int .i64 a, .int .i64 b, .int .i64 c, .slice ad nd cd]) := Lib.hid (HFR.out.alloc _)
          have HBC : Hid (Below wr.heap.size wr (wr.alloc (Obj.cells #[.int .u8 (((PL : Int) + nd) % 256), .int .u8 (((PL : Int) + nd) / 256 % 256), .int .u8 (((PL : Int) + nd) / 65536), .int .u8 (((PL : Int) + nd) / 16777216)] 5))) := Lib.hid ((Below.refl _ _).alloc (Nat.le_refl _) _)
          go_wp2_with fail
          generalize (wr.alloc (Obj.cells #[.int .u8 (((PL : Int) + nd) % 256), .int .u8 (((PL : Int) + nd) / 256 % 256), .int .u8 (((PL : Int) + nd) / 65536), .int .u8 (((PL : Int) + nd) / 16777216)] 5)) = w5 at *
          have s5 := HBC.out.size
          have hS0 : w5.drew.cell? ⟨w.heap.size, 4, none⟩ = some (.slice ad nd cd) := HFC.out.drew.cell (i := 4) rfl
          clear cF
          go_region_held3 (fun w' => w'.cell? ⟨w.heap.size, 4, none⟩ = some (.slice ad nd cd)) (first | exact hS0 | exact hS1 | exact hS2)
            (first
              | (refine step_append_bytes (by rfl) (.tmp 102) (.tmp 103) (by rfl) w.heap.size _ _ (by rfl) HOUT.out.drew ap PL cp _ (by rfl) HPL.out (HPD.out _ HBC.out.drew) HPN.out HL1.out (by simp; omega) ?_; intro v8 w8 hown8 hg8; have hb8 : Below w.heap.size w5 w8 := ((Below.refl w.heap.size w5).drew).grown hg8 (by simp; omega) (fun k hk => HOUT.out.block k hk); have hF8 := HFC.out.drew.grown HOUT.out.drew (by decide) hg8; have hS1 := hF8.cell (i := 4) rfl; have hbw8 := HBEL.out.trans ((HBC.out.mono sr).trans hb8))
              | (refine step_append_bytes (by rfl) (.tmp 104) (.tmp 106) (by rfl) w.heap.size _ _ (by rfl) hown8 ad nd cd data (by rfl) HN.out (HB.out.keep hbw8) HNIL.out HL2.out hbw8.size ?_; intro v9 w9 hown9 hg9; have hb9 : Below w.heap.size w w9 := hbw8.grown hg9 hbw8.size (fun k hk => hown8.block k hk); have hF9 := hF8.grown hown8 (by decide) hg9; have hS2 := hF9.cell (i := 4) rfl))
          all_goals
            go_wp2_with fail
            go_ret2
            exact ⟨_, by rw [HEK.out]; rfl, hb9, by rw [HEL.out]; exact hown9⟩
        · clear hPLb
          have HOUT : Hid (Own (wr.alloc (Obj.cells #[.int .u8 (((PL : Int) + nd) % 256), .int .u8 (((PL : Int) + nd) / 256 % 256), .int .u8 (((PL : Int) + nd) / 65536), .int .u8 (((PL : Int) + nd) / 16777216)] 5)) w.heap.size (.slice (some ⟨wr.heap.size, 0, none⟩) 4 4) (laidV ((PL + nd : Nat) : Int) 4)) := Lib.hid (by
            refine Own.lit wr w.heap.size (laidV ((PL + nd : Nat) : Int) 4) _ sr (by unfold maxLen; rw [laid_length]; decide) ?_
            rw [← lit4]
            have e2 : ((PL + nd : Nat) : Int) = (PL : Int) + nd := by omega
            have e3 : ((PL : Int) + nd) / 65536 % 256 = ((PL : Int) + nd) / 65536 := by omega
            have e4 : ((PL : Int) + nd) / 16777216 % 256 = ((PL : Int) + nd) / 16777216 := by omega
            rw [e2, e3, e4])
          have HFC : Hid (Blk (wr.alloc (Obj.cells #[.int .u8 (((PL : Int) + nd) % 256), .int .u8 (((PL : Int) + nd) / 256 % 256), .int .u8 (((PL : Int) + nd) / 65536), .int .u8 (((PL : Int) + nd) / 16777216)] 5)) w.heap.size 40 [.int .i64 (k : Nat), .int .i64 a, .int .i64 b, .int .i64 c, .slice ad nd cd]) := Lib.hid (HFR.out.alloc _)
          have HBC : Hid (Below wr.heap.size wr (wr.alloc (Obj.cells #[.int .u8 (((PL : Int) + nd) % 256), .int .u8 (((PL : Int) + nd) / 256 % 256), .int .u8 (((PL : Int) + nd) / 65536), .int .u8 (((PL : Int) + nd) / 16777216)] 5))) := Lib.hid ((Below.refl _ _).alloc (Nat.le_refl _) _)
          go_wp2_with fail
          generalize (wr.alloc (Obj.cells #[.int .u8 (((PL : Int) + nd) % 256), .int .u8 (((PL : Int) + nd) / 256 % 256), .int .u8 (((PL : Int) + nd) / 65536), .int .u8 (((PL : Int) + nd) / 16777216)] 5)) = w5 at *
          have s5 := HBC.out.size
          have hS0 : w5.drew.cell? ⟨w.heap.size, 4, none⟩ = some (.slice ad nd cd) := HFC.out.drew.cell (i := 4) rfl
          clear cF
          go_region_held3 (fun w' => w'.cell? ⟨w.heap.size, 4, none⟩ = some (.slice ad nd cd)) (first | exact hS0 | exact hS1 | exact hS2)
            (first
              | (refine step_append_bytes (by rfl) (.tmp 102) (.tmp 103) (by rfl) w.heap.size _ _ (by rfl) HOUT.out.drew ap PL cp _ (by rfl) HPL.out (HPD.out _ HBC.out.drew) HPN.out HL1.out (by simp; omega) ?_; intro v8 w8 hown8 hg8; have hb8 : Below w.heap.size w5 w8 := ((Below.refl w.heap.size w5).drew).grown hg8 (by simp; omega) (fun k hk => HOUT.out.block k hk); have hF8 := HFC.out.drew.grown HOUT.out.drew (by decide) hg8; have hS1 := hF8.cell (i := 4) rfl; have hbw8 := HBEL.out.trans ((HBC.out.mono sr).trans hb8))
              | (refine step_append_bytes (by rfl) (.tmp 104) (.tmp 106) (by rfl) w.heap.size _ _ (by rfl) hown8 ad nd cd data (by rfl) HN.out (HB.out.keep hbw8) HNIL.out HL2.out hbw8.size ?_; intro v9 w9 hown9 hg9; have hb9 : Below w.heap.size w w9 := hbw8.grown hg9 hbw8.size (fun k hk => hown8.block k hk); have hF9 := hF8.grown hown8 (by decide) hg9; have hS2 := hF9.cell (i := 4) rfl))
          all_goals
            go_wp2_with fail
            go_ret2
            exact ⟨_, by rw [HEK.out]; rfl, hb9, by rw [HEL.out]; exact hown9⟩
end Go.Proofs.Ytmmppgkhlelbmaa.Fr
