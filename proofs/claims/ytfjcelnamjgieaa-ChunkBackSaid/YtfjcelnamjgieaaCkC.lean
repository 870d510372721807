/- Contract of chunk.first. Condition: bytes lie at the slice, the table stands. -/
import Derived.Test.YtfjcelnamjgieaaCkB
namespace Go.Proofs.Ytfjcelnamjgieaa.Ck
open Go.RowKit Ba Go.Deep
set_option linter.unusedVariables false

/-- Two cells of one block written anew. -/
theorem put2 {w : World} {b : Nat} {t : TypeId} {u0 u1 : Value} (h : Blk w b t [u0, u1]) (v0 v1 : Value) :
    ∃ W, ((w.setCell ⟨b, 0, none⟩ v0).setCell ⟨b, 1, none⟩ v1) = W ∧ Blk W b t [v0, v1] ∧ (∀ B a, B ≤ b → Below B a w → Below B a W) ∧ (∀ B v bs, Own w B v bs → (∀ k, v.ownBlock = some k → k ≠ b) → Own W B v bs) :=
  ⟨_, rfl, (h.set 0 v0).set 1 v1, fun B a hB hb => (hb.setCell hB _).setCell hB _, fun B v bs hy hx => (hy.setOther hx _).setOther hx _⟩
theorem own_view2 {w : World} {base : Nat} {v : Value} {bs : List UInt8} (h : Own w base v bs) :
    ∃ ao cap, v = .slice ao bs.length cap ∧ Bytes w ao bs ∧ bs.length ≤ cap ∧ cap ≤ maxLen ∧ (ao = none → cap = 0) ∧ ∀ x, ao = some x → base ≤ x.block := by
  obtain ⟨ao, cap, rfl, h1, h2, h3, h4⟩ := h.view
  refine ⟨ao, cap, rfl, h1, h2, h3, h4, fun x hx => ?_⟩
  subst hx
  rcases h.2 with ⟨he, _⟩ | ⟨g, cap', cur, he, hb, _⟩
  · cases he
  · cases he; exact hb
theorem run_cut_mid {P : Program} (t e : TypeId) (ht : P.underlying t = some (.slice e)) (hsz : ∀ w, (sizeOf e).run P w = .ok 1 w) (a : Option Addr) (len cap : Nat) (kl kh : IntKind) (l h : Int) (i j : Nat) (hi : l = i) (hj : h = j) (hij : i ≤ j) (hjc : j ≤ cap) (w : World) :
    (Instr.slice t (.slice a len cap) (some (.int kl l)) (some (.int kh h)) none).run P w = .ok (.slice (cutA a i cap) (j - i) (cap - i)) w := by
  have hel : P.elem t = e := by simp [Program.elem, ht]
  subst hi hj
  rw [run_slice_lh w t a len cap (by rw [hel]; exact ht) kl kh i j (by omega) (by omega) (by omega), hel, hsz]
  simp [Result.andThen, sliced, cutA]
abbrev Ch := ByteArray × List UInt8
def Ch.zero : Ch := (ByteArray.empty, [])
/-- What first hands back. -/
def Firsted (ch : Ch) (n c : Nat) (w : World) (e : Ending) (w' : World) : Prop :=
  ∃ ao cap, e = .returned (.tuple #[.agg #[.string ch.1, .slice ao ch.2.length cap], .int .i64 (n : Int), .int .i64 (c : Int)]) ∧ Own w' w.heap.size (.slice ao ch.2.length cap) ch.2 ∧ Below w.heap.size w w'
def numV (bs : List UInt8) : Nat := beV (bs.take 4)
def kindV (bs : List UInt8) : ByteArray := ⟨((bs.drop 4).take 4).toArray⟩
def dataV (bs : List UInt8) : List UInt8 := (bs.drop 8).take (numV bs)
def sumV (bs : List UInt8) : Nat := beV ((bs.drop (8 + numV bs)).take 4)
def crcV (s : ByteArray) (d : List UInt8) : Nat := Su.more (Su.more 0 s.data.toList) d
set_option maxRecDepth 100000 in
set_option maxHeartbeats 1600000 in
theorem first_few (a : Option Addr) (n cap : Nat) (hn : n < 12) (tv : Value) (w : World) :
    Calls Try.prog 23 #[.slice a n cap, tv] w (Firsted Ch.zero 0 2 w) := by
  have hz := fun w => (by kernel_rfl : (zeroValue 51).run Try.prog w = .ok (.agg #[.string ByteArray.empty, .slice none 0 0]) w)
  go_enter Try.func23, Try.ntmps23
  go_wp2_with fail
  refine bodyPost_ret (v := .tuple #[.agg #[.string ByteArray.empty, .slice none 0 0], .int .i64 0, .int .i64 2]) (by simp [results, Try.results23, go_sem]) rfl ⟨none, 0, rfl, Own.nil _ _, ?_⟩
  exact (Below.refl _ _).alloc (Nat.le_refl _) _
set_option maxRecDepth 100000 in
set_option maxHeartbeats 6400000 in
theorem first_rest (T : Nat) (bs : List UInt8) (a : Option Addr) (n cap : Nat) (hn : n = bs.length) (hl : 12 ≤ n) (hm : n ≤ 1000000000) (hcap : n ≤ cap) (hcap2 : cap ≤ maxLen) (hnil : a = none → cap = 0) (w : World) (hb : Bytes w a bs) (ht : w.rowIs T 68 256 Su.tab)
    (ch : Ch) (nn cd : Nat)
    (hc : (ch = Ch.zero ∧ nn = 0 ∧ cd = 4 ∧ (2147483647 < numV bs ∨ nameB (kindV bs) = false)) ∨
      (ch = Ch.zero ∧ nn = 0 ∧ cd = 2 ∧ numV bs ≤ 2147483647 ∧ nameB (kindV bs) = true ∧ n - 12 < numV bs) ∨
      (ch = Ch.zero ∧ nn = 0 ∧ cd = 5 ∧ numV bs ≤ 2147483647 ∧ nameB (kindV bs) = true ∧ numV bs ≤ n - 12 ∧ sumV bs ≠ crcV (kindV bs) (dataV bs)) ∨
      (ch = (kindV bs, dataV bs) ∧ nn = 12 + numV bs ∧ cd = 0 ∧ numV bs ≤ 2147483647 ∧ nameB (kindV bs) = true ∧ numV bs ≤ n - 12 ∧ sumV bs = crcV (kindV bs) (dataV bs))) :
    Calls Try.prog 23 #[.slice a n cap, .pointer (some ⟨T, 0, none⟩)] w (Firsted ch nn cd w) := by
  have HC := Lib.hid hc
  have HN := Lib.hid hn
  have HB := Lib.hid hb
  have HM := Lib.hid (And.intro hm (And.intro hcap (And.intro hcap2 hnil)))
  have hm2 : n ≤ 1000000000 := hm
  have HT := Lib.hid ht
  clear hc hn hb hcap hcap2 hnil ht hm
  have hz := fun w => (by kernel_rfl : (zeroValue 51).run Try.prog w = .ok (.agg #[.string ByteArray.empty, .slice none 0 0]) w)
  have R0 := Lib.hid (Blk.new w #[.string ByteArray.empty, .slice none 0 0] 51)
  have hb0 : Below w.heap.size w (w.alloc (Obj.cells #[.string ByteArray.empty, .slice none 0 0] 51)) := (Below.refl _ _).alloc (Nat.le_refl _) _
  have HNUM := Lib.hid (fun u (hu : Below w.heap.size w u) => number_any bs n HN.out (by omega) a cap HM.out.2.1 u (HB.out.keep hu))
  have HNV : Hid (beV (bs.take 4) = numV bs) := rfl
  rw [HNV.out] at HNUM
  have hmid : ∀ w, (Instr.slice 22 (.slice a n cap) (some (.int .i64 4)) (some (.int .i64 8)) none).run Try.prog w = .ok (.slice (cutA a 4 cap) 4 (cap - 4)) w := fun w => run_cut_mid (P := Try.prog) 22 5 Try.underlying22 size_u8 a n cap .i64 .i64 4 8 4 8 rfl rfl (by omega) (by have := HM.out.2.1; omega) w
  have HCV : Hid (∀ u, Below w.heap.size w u → (convert 22 9 (.slice (cutA a 4 cap) 4 (cap - 4))).run Try.prog u = .ok (.string (kindV bs)) u) := Lib.hid (fun u hu => run_str (cutA a 4 cap) 4 (cap - 4) ((bs.drop 4).take 4) (by rw [List.length_take, List.length_drop, ← HN.out]; omega) u (((HB.out.drop 4 cap (by rw [← HN.out]; exact HM.out.2.1)).take 4).keep hu))
  go_enter Try.func23, Try.ntmps23
  go_wp2_with fail
  generalize w.alloc (Obj.cells #[.string ByteArray.empty, .slice none 0 0] 51) = w0 at *
  have HB0 := Lib.hid hb0
  have hS := HCV.out _ hb0.drew
  clear hb0
  go_region_held3 (fun w' => (convert 22 9 (.slice (cutA a 4 cap) 4 (cap - 4))).run Try.prog w' = .ok (.string (kindV bs)) w') (first | exact hS)
    (first | (go_at_call 33; refine (HNUM.out _ HB0.out.drew).mono ?_; rintro e w' ⟨rfl, rfl⟩))
  all_goals
    have R1 : Hid (Blk w0.drew w.heap.size 51 [.string ByteArray.empty, .slice none 0 0]) := R0.out
    have HB1 := Lib.hid HB0.out.drew
    clear hS HNUM hmid
    generalize w0.drew = w1 at *
    have KS : Hid ((kindV bs).size ≤ maxLen ∧ (kindV bs).size ≤ 140737488351232) := Lib.hid (by
      have h : (kindV bs).size ≤ 4 := by
        show (((bs.drop 4).take 4).toArray).size ≤ 4
        rw [List.size_toArray, List.length_take]
        omega
      exact ⟨by unfold maxLen; omega, by omega⟩)
    have hr0 := R1.out.cell (i := 0) rfl
    have hr1 := R1.out.cell (i := 1) rfl
    have hfz := fun i => R1.out.frozen i
    have HNM := Lib.hid (named_any (kindV bs) KS.out.1 w1)
    have hms : (2147483647 : Int) < (numV bs : Int) ∨ ¬ (2147483647 : Int) < (numV bs : Int) := by omega
    rcases HC.out with ⟨rfl, rfl, rfl, h1⟩ | ⟨rfl, rfl, rfl, h1, h2, h3⟩ | ⟨rfl, rfl, rfl, h1, h2, h3, h4⟩ | ⟨rfl, rfl, rfl, h1, h2, h3, h4⟩
    · rcases hms with hbig | hbig
      · clear h1 HC HNM
        generalize numV bs = N at *
        generalize kindV bs = s at *
        go_wp2_with fail
        obtain ⟨W, hW, Q, hbW, _⟩ := put2 R1.out (.string ByteArray.empty) (.slice none 0 0)
        rw [hW]
        have q0 := Q.cell (i := 0) rfl
        have q1 := Q.cell (i := 1) rfl
        refine bodyPost_ret (v := .tuple #[.agg #[.string ByteArray.empty, .slice none 0 0], .int .i64 0, .int .i64 4]) (by simp [results, Try.results23, go_sem, q0, q1]) rfl ⟨none, 0, rfl, Own.nil _ _, ?_⟩
        exact hbW _ _ (Nat.le_refl _) HB1.out
      · have h2 : nameB (kindV bs) = false := by
          rcases h1 with h | h
          · omega
          · exact h
        rw [h2] at HNM
        clear h1 h2 HC
        generalize numV bs = N at *
        generalize kindV bs = s at *
        go_wp2_with fail
        refine HNM.out.mono ?_
        rintro e w' ⟨rfl, rfl⟩
        go_wp2_with fail
        obtain ⟨W, hW, Q, hbW, _⟩ := put2 R1.out (.string ByteArray.empty) (.slice none 0 0)
        rw [hW]
        have q0 := Q.cell (i := 0) rfl
        have q1 := Q.cell (i := 1) rfl
        refine bodyPost_ret (v := .tuple #[.agg #[.string ByteArray.empty, .slice none 0 0], .int .i64 0, .int .i64 4]) (by simp [results, Try.results23, go_sem, q0, q1]) rfl ⟨none, 0, rfl, Own.nil _ _, ?_⟩
        exact hbW _ _ (Nat.le_refl _) HB1.out
    · rw [h2] at HNM
      have hlt : (n : Int) - 12 < (numV bs : Int) := by omega
      have hbig : ¬ (2147483647 : Int) < (numV bs : Int) := by omega
      clear h1 h2 h3 HC hms
      generalize numV bs = N at *
      generalize kindV bs = s at *
      go_wp2_with fail
      refine HNM.out.mono ?_
      rintro e w' ⟨rfl, rfl⟩
      go_wp2_with fail
      obtain ⟨W, hW, Q, hbW, _⟩ := put2 R1.out (.string ByteArray.empty) (.slice none 0 0)
      rw [hW]
      have q0 := Q.cell (i := 0) rfl
      have q1 := Q.cell (i := 1) rfl
      refine bodyPost_ret (v := .tuple #[.agg #[.string ByteArray.empty, .slice none 0 0], .int .i64 0, .int .i64 2]) (by simp [results, Try.results23, go_sem, q0, q1]) rfl ⟨none, 0, rfl, Own.nil _ _, ?_⟩
      exact hbW _ _ (Nat.le_refl _) HB1.out
    · have HDL : Hid ((dataV bs).length = numV bs) := Lib.hid (by unfold dataV; rw [List.length_take, List.length_drop, ← HN.out]; omega)
      have HDA : Hid (Bytes w (cutA a 8 cap) (dataV bs)) := Lib.hid ((HB.out.drop 8 cap (by rw [← HN.out]; exact HM.out.2.1)).take _)
      have HDN : Hid (cutA a 8 cap = none → cap - 8 = 0) := Lib.hid (fun hh => by
        unfold cutA at hh
        split at hh
        · omega
        · have := HM.out.2.2.2 (by cases a <;> simp_all); omega)
      have hmid2 : ∀ w, (Instr.slice 22 (.slice a n cap) (some (.int .i64 8)) (some (.int .i64 (8 + (numV bs : Int)))) none).run Try.prog w = .ok (.slice (cutA a 8 cap) (numV bs) (cap - 8)) w := fun w => by
        have := run_cut_mid (P := Try.prog) 22 5 Try.underlying22 size_u8 a n cap .i64 .i64 8 (8 + (numV bs : Int)) 8 (8 + numV bs) rfl (by omega) (by omega) (by have := HM.out.2.1; omega) w
        rw [show 8 + numV bs - 8 = numV bs by omega] at this
        exact this
      have hfr : ∀ w, (Instr.slice 22 (.slice a n cap) (some (.int .i64 (8 + (numV bs : Int)))) none none).run Try.prog w = .ok (.slice (cutA a (8 + numV bs) cap) (n - (8 + numV bs)) (cap - (8 + numV bs))) w := fun w => by
        have := run_cut_from (P := Try.prog) 22 5 Try.underlying22 size_u8 a n cap .i64 (8 + numV bs) (by omega) w
        rw [← this]; congr
      have HNU2 : Hid (Calls Try.prog 33 #[.slice (cutA a (8 + numV bs) cap) (n - (8 + numV bs)) (cap - (8 + numV bs))] w1 fun e w' => e = .returned (.int .i64 (sumV bs : Nat)) ∧ w1 = w') := Lib.hid (number_any (bs.drop (8 + numV bs)) _ (by rw [List.length_drop, ← HN.out]) (by omega) _ _ (by have := HM.out.2.1; omega) w1 ((HB.out.drop _ cap (by rw [← HN.out]; exact HM.out.2.1)).keep HB1.out))
      have hsl : sumV bs < 4294967296 := beV_lt 4 _ (by rw [List.length_take, List.length_drop, ← HN.out]; omega)
      have hsw : IntKind.u32.wrap (sumV bs : Int) = (sumV bs : Int) := by simp [IntKind.wrap, IntKind.bits, IntKind.signed]; omega
      clear hsl
      have HCH := Su.chunk_any T (kindV bs) KS.out.2 (cutA a 8 cap) (cap - 8) (dataV bs) w1 (HT.out.of_block (HB1.out.block T HT.out.lt)) (HDA.out.keep HB1.out) (by rw [HDL.out]; omega)
      rw [HDL.out] at HCH
      rw [h2] at HNM
      have hlt : ¬ (n : Int) - 12 < (numV bs : Int) := by omega
      have hbig : ¬ (2147483647 : Int) < (numV bs : Int) := by omega
      have hneq : ((sumV bs : Int) != (crcV (kindV bs) (dataV bs) : Int)) = true := by simp; omega
      have HCH' : Hid (Calls Try.prog 29 #[.pointer (some ⟨T, 0, none⟩), .string (kindV bs), .slice (cutA a 8 cap) (numV bs) (cap - 8)] w1 fun e w' => e = .returned (.int .u32 (crcV (kindV bs) (dataV bs) : Nat)) ∧ bytesW w1 5 (kindV bs) = w') := HCH
      have HBB := Lib.hid (bytesW_below w1 5 (kindV bs))
      have R2 := Lib.hid (R1.out.keep HBB.out)
      have HB2 := Lib.hid (chain HB1.out HBB.out)
      clear HCH HC h1 h2 h3 h4 hms hr0 hr1 hfz
      generalize sumV bs = S at *
      generalize crcV (kindV bs) (dataV bs) = C at *
      generalize dataV bs = data at *
      generalize numV bs = N at *
      generalize kindV bs = s at *
      go_wp2_with fail
      refine HNM.out.mono ?_
      rintro e w' ⟨rfl, rfl⟩
      go_wp2_with fail
      refine HNU2.out.mono ?_
      rintro e w' ⟨rfl, rfl⟩
      go_wp2_with fail
      refine HCH'.out.mono ?_
      rintro e w' ⟨rfl, rfl⟩
      generalize bytesW w1 5 s = w2 at *
      have hr0 := R2.out.cell (i := 0) rfl
      have hr1 := R2.out.cell (i := 1) rfl
      have hfz := fun i => R2.out.frozen i
      go_wp2_with fail
      obtain ⟨W, hW, Q, hbW, _⟩ := put2 R2.out (.string ByteArray.empty) (.slice none 0 0)
      rw [hW]
      have q0 := Q.cell (i := 0) rfl
      have q1 := Q.cell (i := 1) rfl
      refine bodyPost_ret (v := .tuple #[.agg #[.string ByteArray.empty, .slice none 0 0], .int .i64 0, .int .i64 5]) (by simp [results, Try.results23, go_sem, q0, q1]) rfl ⟨none, 0, rfl, Own.nil _ _, ?_⟩
      exact hbW _ _ (Nat.le_refl _) HB2.out
    · have HDL : Hid ((dataV bs).length = numV bs) := Lib.hid (by unfold dataV; rw [List.length_take, List.length_drop, ← HN.out]; omega)
      have HDA : Hid (Bytes w (cutA a 8 cap) (dataV bs)) := Lib.hid ((HB.out.drop 8 cap (by rw [← HN.out]; exact HM.out.2.1)).take _)
      have HDN : Hid (cutA a 8 cap = none → cap - 8 = 0) := Lib.hid (fun hh => by
        unfold cutA at hh
        split at hh
        · omega
        · have := HM.out.2.2.2 (by cases a <;> simp_all); omega)
      have hmid2 : ∀ w, (Instr.slice 22 (.slice a n cap) (some (.int .i64 8)) (some (.int .i64 (8 + (numV bs : Int)))) none).run Try.prog w = .ok (.slice (cutA a 8 cap) (numV bs) (cap - 8)) w := fun w => by
        have := run_cut_mid (P := Try.prog) 22 5 Try.underlying22 size_u8 a n cap .i64 .i64 8 (8 + (numV bs : Int)) 8 (8 + numV bs) rfl (by omega) (by omega) (by have := HM.out.2.1; omega) w
        rw [show 8 + numV bs - 8 = numV bs by omega] at this
        exact this
      have hfr : ∀ w, (Instr.slice 22 (.slice a n cap) (some (.int .i64 (8 + (numV bs : Int)))) none none).run Try.prog w = .ok (.slice (cutA a (8 + numV bs) cap) (n - (8 + numV bs)) (cap - (8 + numV bs))) w := fun w => by
        have := run_cut_from (P := Try.prog) 22 5 Try.underlying22 size_u8 a n cap .i64 (8 + numV bs) (by omega) w
        rw [← this]; congr
      have HNU2 : Hid (Calls Try.prog 33 #[.slice (cutA a (8 + numV bs) cap) (n - (8 + numV bs)) (cap - (8 + numV bs))] w1 fun e w' => e = .returned (.int .i64 (sumV bs : Nat)) ∧ w1 = w') := Lib.hid (number_any (bs.drop (8 + numV bs)) _ (by rw [List.length_drop, ← HN.out]) (by omega) _ _ (by have := HM.out.2.1; omega) w1 ((HB.out.drop _ cap (by rw [← HN.out]; exact HM.out.2.1)).keep HB1.out))
      have hsl : sumV bs < 4294967296 := beV_lt 4 _ (by rw [List.length_take, List.length_drop, ← HN.out]; omega)
      have hsw : IntKind.u32.wrap (sumV bs : Int) = (sumV bs : Int) := by simp [IntKind.wrap, IntKind.bits, IntKind.signed]; omega
      clear hsl
      have HCH := Su.chunk_any T (kindV bs) KS.out.2 (cutA a 8 cap) (cap - 8) (dataV bs) w1 (HT.out.of_block (HB1.out.block T HT.out.lt)) (HDA.out.keep HB1.out) (by rw [HDL.out]; omega)
      rw [HDL.out] at HCH
      rw [h2] at HNM
      have hlt : ¬ (n : Int) - 12 < (numV bs : Int) := by omega
      have hbig : ¬ (2147483647 : Int) < (numV bs : Int) := by omega
      have heq : ((sumV bs : Int) != (crcV (kindV bs) (dataV bs) : Int)) = false := by simp; omega
      have HCH' : Hid (Calls Try.prog 29 #[.pointer (some ⟨T, 0, none⟩), .string (kindV bs), .slice (cutA a 8 cap) (numV bs) (cap - 8)] w1 fun e w' => e = .returned (.int .u32 (crcV (kindV bs) (dataV bs) : Nat)) ∧ bytesW w1 5 (kindV bs) = w') := HCH
      have HBB := Lib.hid (bytesW_below w1 5 (kindV bs))
      have R2 := Lib.hid (R1.out.keep HBB.out)
      have HB2 := Lib.hid (chain HB1.out HBB.out)
      have HCL : Hid (∀ u, Below w.heap.size w u → Calls Try.prog 34 #[.slice (cutA a 8 cap) (numV bs) (cap - 8)] u (Mine (dataV bs) u)) := Lib.hid (fun u hu => clone_any (dataV bs) (cutA a 8 cap) (numV bs) (cap - 8) HDL.out.symm (by omega) HDN.out u (HDA.out.keep hu))
      clear HCH HC h1 h2 h3 h4 hms hr0 hr1 hfz
      generalize sumV bs = S at *
      generalize crcV (kindV bs) (dataV bs) = C at *
      generalize dataV bs = data at *
      generalize numV bs = N at *
      generalize kindV bs = s at *
      go_wp2_with fail
      refine HNM.out.mono ?_
      rintro e w' ⟨rfl, rfl⟩
      go_wp2_with fail
      refine HNU2.out.mono ?_
      rintro e w' ⟨rfl, rfl⟩
      go_wp2_with fail
      refine HCH'.out.mono ?_
      rintro e w' ⟨rfl, rfl⟩
      generalize bytesW w1 5 s = w2 at *
      go_wp2_with fail
      refine (HCL.out w2 HB2.out).mono ?_
      rintro e w3 ⟨v3, rfl, hb3, ho3⟩
      obtain ⟨a3, c3, rfl, _⟩ := own_view2 ho3
      have R3 := Lib.hid (R2.out.keep hb3)
      have HB3 := Lib.hid (chain HB2.out hb3)
      have HO3 := Lib.hid ho3
      have hr0 := R3.out.cell (i := 0) rfl
      have hr1 := R3.out.cell (i := 1) rfl
      have hfz := fun i => R3.out.frozen i
      have ltR := R2.out.lt
      clear hb3 ho3
      obtain ⟨LD, hLD⟩ : ∃ L, L = data.length := ⟨_, rfl⟩
      rw [← hLD] at HO3 ⊢
      have HLD := Lib.hid hLD
      clear hLD
      go_wp2_with fail
      obtain ⟨W, hW, Q, hbW, hoW⟩ := put2 R3.out (.string s) (.slice a3 LD c3)
      rw [hW]
      have q0 := Q.cell (i := 0) rfl
      have q1 := Q.cell (i := 1) rfl
      refine bodyPost_ret (v := .tuple #[.agg #[.string s, .slice a3 LD c3], .int .i64 (12 + (N : Int)), .int .i64 0]) (by simp [results, Try.results23, go_sem, q0, q1]) rfl ⟨a3, c3, ?_, ?_, ?_⟩
      · rw [← HLD.out]
        rfl
      · rw [← HLD.out]
        exact (hoW _ _ _ HO3.out (fun k hk => by have := HO3.out.block k hk; omega)).mono HB2.out.size
      · exact hbW _ _ (Nat.le_refl _) HB3.out
end Go.Proofs.Ytfjcelnamjgieaa.Ck
