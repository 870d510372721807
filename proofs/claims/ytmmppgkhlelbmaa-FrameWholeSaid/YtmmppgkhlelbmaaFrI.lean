/- Contracts of the parsers' next. Condition: bytes lie in the parser. -/
import Derived.Test.YtmmppgkhlelbmaaFrH
namespace Go.Proofs.Ytmmppgkhlelbmaa.Fr
open Go.RowKit Ba Go.Deep
set_option linter.unusedVariables false

/-- Below B at most block g has turned. -/
structure But (B g : Nat) (w w' : World) : Prop where
  os : w'.os = w.os
  tape : w'.tape = w.tape
  output : w'.output = w.output
  size : w.heap.size ≤ w'.heap.size
  block : ∀ k, k < B → k ≠ g → w'.heap[k]? = w.heap[k]?
theorem But.refl (B g : Nat) (w : World) : But B g w w := ⟨rfl, rfl, rfl, Nat.le_refl _, fun _ _ _ => rfl⟩
theorem But.trans {B g : Nat} {a b c : World} (h : But B g a b) (k : But B g b c) : But B g a c :=
  ⟨k.os.trans h.os, k.tape.trans h.tape, k.output.trans h.output, Nat.le_trans h.size k.size, fun i hi hg => (k.block i hi hg).trans (h.block i hi hg)⟩
theorem But.mono {B B' g : Nat} {a b : World} (h : But B g a b) (hB : B' ≤ B) : But B' g a b := ⟨h.os, h.tape, h.output, h.size, fun k hk hg => h.block k (by omega) hg⟩
theorem But.of_below {B g : Nat} {a b : World} (h : Below B a b) : But B g a b := ⟨h.os, h.tape, h.output, h.size, fun k hk _ => h.block k hk⟩
theorem But.below {B B' g : Nat} {a b : World} (h : But B g a b) (h1 : B' ≤ B) (h2 : B' ≤ g) : Below B' a b := ⟨h.os, h.tape, h.output, h.size, fun k hk => h.block k (by omega) (by omega)⟩
theorem But.set {B g : Nat} {a w : World} (h : But B g a w) (o : Nat) (v : Value) : But B g a (w.setCell ⟨g, o, none⟩ v) :=
  h.trans ⟨rfl, rfl, rfl, by simp [World.setCell], fun k _ hg => blk_setCell_other _ _ _ _ hg⟩
theorem _root_.Go.Proofs.Ytmmppgkhlelbmaa.Ba.Blk.but {B g : Nat} {w w' : World} {b : Nat} {t : TypeId} {l : List Value} (h : Blk w b t l) (hb : But B g w w') (hB : b < B) (hg : b ≠ g) : Blk w' b t l := h.of (hb.block b hB hg)
theorem _root_.Go.Proofs.Ytmmppgkhlelbmaa.Ba.Bytes.but {B g : Nat} {w w' : World} {ao : Option Addr} {bs : List UInt8} (h : Bytes w ao bs) (hb : But B g w w') (hB : w.heap.size ≤ B) (hg : ∀ x, ao = some x → x.block ≠ g) : Bytes w' ao bs := by
  intro i hi
  obtain ⟨b, off, rfl, hc⟩ := h i hi
  refine ⟨b, off, rfl, ?_⟩
  have hlt := cell_lt hc
  rw [World.cell?_of_block (w := w) (a := ⟨b, off + i, none⟩) (hb.block b (Nat.lt_of_lt_of_le hlt hB) (hg _ rfl))]
  exact hc
/-- Block k is a row of bytes. -/
def U8 (w : World) (k : Nat) : Prop := ∃ C fr, w.heap[k]? = some (.cells C 5 fr)
theorem U8.at {w w' : World} {k : Nat} (h : U8 w k) (e : w'.heap[k]? = w.heap[k]?) : U8 w' k := by
  obtain ⟨C, fr, hk⟩ := h
  exact ⟨C, fr, e.trans hk⟩
theorem U8.lt {w : World} {k : Nat} (h : U8 w k) : k < w.heap.size := by
  obtain ⟨C, fr, hk⟩ := h
  exact (Array.getElem?_eq_some_iff.1 hk).1
theorem U8.ne {w : World} {k b : Nat} {t : TypeId} {l : List Value} (h : U8 w k) (hb : Blk w b t l) (ht : t ≠ 5) : k ≠ b := by
  rintro rfl
  obtain ⟨C, fr, hk⟩ := h
  have h' : w.heap[k]? = _ := hb
  rw [hk] at h'
  cases h'
  exact ht rfl
theorem _root_.Go.Proofs.Ytmmppgkhlelbmaa.Ba.Own.u8 {w : World} {B : Nat} {ao : Option Addr} {n cap : Nat} {bs : List UInt8} (h : Own w B (.slice ao n cap) bs) : ∀ x, ao = some x → U8 w x.block := by
  intro x hx
  subst hx
  rcases h.2 with ⟨he, _⟩ | ⟨g, cap', cur, he, hb, hg, _⟩
  · cases he
  · cases he
    exact ⟨cur, _, hg⟩
/-- A parser at block g: its bytes, and whether it is broken. -/
def PsIs (w : World) (g : Nat) (t : TypeId) (buf : List UInt8) (br : Bool) : Prop :=
  ∃ ao cap, Blk w g t [.slice ao buf.length cap, .bool br] ∧ Bytes w ao buf ∧ buf.length ≤ cap ∧ cap ≤ maxLen ∧ (ao = none → cap = 0) ∧ ∀ x, ao = some x → U8 w x.block
theorem PsIs.at {w w' : World} {g : Nat} {t : TypeId} {buf : List UInt8} {br : Bool} (h : PsIs w g t buf br) (hb : ∀ k, k = g ∨ U8 w k → w'.heap[k]? = w.heap[k]?) : PsIs w' g t buf br := by
  obtain ⟨ao, cap, h1, h2, h3, h4, h5, h6⟩ := h
  refine ⟨ao, cap, h1.of (hb g (.inl rfl)), ?_, h3, h4, h5, fun x hx => (h6 x hx).at (hb _ (.inr (h6 x hx)))⟩
  intro i hi
  obtain ⟨b, off, rfl, hc⟩ := h2 i hi
  refine ⟨b, off, rfl, ?_⟩
  rw [World.cell?_of_block (w := w) (a := ⟨b, off + i, none⟩) (hb b (.inr (h6 _ rfl)))]
  exact hc
theorem PsIs.lt {w : World} {g : Nat} {t : TypeId} {buf : List UInt8} {br : Bool} (h : PsIs w g t buf br) : g < w.heap.size := by
  obtain ⟨ao, cap, h1, _⟩ := h
  exact h1.lt
/-- A parser stays where another block, of another type, turns. -/
theorem PsIs.but {B g g' : Nat} {w w' : World} {t t' : TypeId} {buf : List UInt8} {br : Bool} {l : List Value} (h : PsIs w g t buf br) (hb : But B g' w w') (hB : w.heap.size ≤ B) (hg : g ≠ g') (hk : Blk w g' t' l) (ht : t' ≠ 5) : PsIs w' g t buf br := by
  have hlt := h.lt
  refine h.at fun k hk' => hb.block k ?_ ?_
  · rcases hk' with rfl | hu
    · omega
    · have := hu.lt; omega
  · rcases hk' with rfl | hu
    · exact hg
    · exact hu.ne hk ht
def numV (buf : List UInt8) : Nat := leV (buf.take 4)
def payV (buf : List UInt8) : List UInt8 := (buf.drop 4).take (numV buf)
/-- What next hands back. -/
def Nexted (g : Nat) (f : Fr) (c : Nat) (whole : Bool) (buf' : List UInt8) (br : Bool) (w : World) (e : Ending) (w' : World) : Prop :=
  ∃ v, e = .returned (.tuple #[v, .int .i64 (c : Int), .bool whole]) ∧ FrIs w.heap.size w' v f ∧ PsIs w' g 60 buf' br ∧ But w.heap.size g w w'
theorem run_cut_mid {P : Program} (t e : TypeId) (ht : P.underlying t = some (.slice e)) (hsz : ∀ w, (sizeOf e).run P w = .ok 1 w) (a : Option Addr) (len cap : Nat) (kl kh : IntKind) (l h : Int) (i j : Nat) (hi : l = i) (hj : h = j) (hij : i ≤ j) (hjc : j ≤ cap) (w : World) :
    (Instr.slice t (.slice a len cap) (some (.int kl l)) (some (.int kh h)) none).run P w = .ok (.slice (cutA a i cap) (j - i) (cap - i)) w := by
  have hel : P.elem t = e := by simp [Program.elem, ht]
  subst hi hj
  rw [run_slice_lh w t a len cap (by rw [hel]; exact ht) kl kh i j (by omega) (by omega) (by omega), hel, hsz]
  simp [Result.andThen, sliced, cutA]
theorem PsIs.below {B g : Nat} {w w' : World} {t : TypeId} {buf : List UInt8} {br : Bool} (h : PsIs w g t buf br) (hb : Below B w w') (hB : w.heap.size ≤ B) : PsIs w' g t buf br := by
  have hlt := h.lt
  refine h.at fun k hk => hb.block k ?_
  rcases hk with rfl | hu
  · omega
  · have := hu.lt; omega
set_option maxRecDepth 100000 in
set_option maxHeartbeats 1600000 in
theorem next_few (g : Nat) (buf : List UInt8) (br : Bool) (w : World) (h : PsIs w g 60 buf br) (hl : buf.length < 4) :
    Calls Try.prog 22 #[.pointer (some ⟨g, 0, none⟩)] w (Nexted g Fr.zero 0 false buf br w) := by
  have HP := Lib.hid h
  obtain ⟨ao, cap, h1, h2, h3, h4, h5, h6⟩ := h
  have c0 := h1.cell (i := 0) rfl
  have hlt := h1.lt
  generalize buf.length = L at *
  clear h1 h2 h3 h4 h5 h6
  have hz := fun w => (by kernel_rfl : (zeroValue 39).run Try.prog w = .ok (.agg #[.int .i64 0, .int .i64 0, .int .i64 0, .int .i64 0, .slice none 0 0]) w)
  go_enter Try.func22, Try.ntmps22
  go_wp2_with fail
  refine bodyPost_ret (v := .tuple #[.agg #[_, _, _, _, _], .int .i64 0, .bool false]) (by simp [results, Try.results22, go_sem]) rfl ⟨_, rfl, FrIs.zero _ _, ?_, ?_⟩
  · exact HP.out.below ((Below.refl w.heap.size w).alloc (Nat.le_refl _) _) (Nat.le_refl _)
  · exact But.of_below ((Below.refl w.heap.size w).alloc (Nat.le_refl _) _)
set_option maxRecDepth 100000 in
set_option maxHeartbeats 1600000 in
theorem next_not (g : Nat) (buf : List UInt8) (br : Bool) (w : World) (h : PsIs w g 60 buf br) (hl : 4 ≤ buf.length) (cd : Nat) (wh : Bool) (hcd : (262208 < numV buf ∧ cd = 3 ∧ wh = true) ∨ (numV buf ≤ 262208 ∧ buf.length - 4 < numV buf ∧ cd = 0 ∧ wh = false)) :
    Calls Try.prog 22 #[.pointer (some ⟨g, 0, none⟩)] w (Nexted g Fr.zero cd wh buf br w) := by
  have HP := Lib.hid h
  obtain ⟨ao, cap, h1, h2, h3, h4, h5, h6⟩ := h
  have c0 := h1.cell (i := 0) rfl
  have hlt := h1.lt
  have HNUM := Lib.hid (fun w' hb' => number_any (buf.take 4) 4 (by rw [List.length_take]; omega) (by omega) ao cap w' hb')
  have HN : Hid (leV (buf.take 4) = numV buf) := rfl
  rw [HN.out] at HNUM
  have HBY := Lib.hid h2
  have hl2 : buf.length ≤ 9223372036854775807 := by unfold maxLen at h4; omega
  generalize numV buf = N at *
  clear HN
  generalize buf.length = L at *
  have hto : ∀ w, (Instr.slice 22 (.slice ao L cap) none (some (.int .i64 4)) none).run Try.prog w = .ok (.slice ao 4 cap) w := fun w => run_cut_to (P := Try.prog) 22 5 Try.underlying22 size_u8 ao _ _ .i64 4 (by omega) w
  clear h1 h2 h3 h4 h5 h6
  have hz := fun w => (by kernel_rfl : (zeroValue 39).run Try.prog w = .ok (.agg #[.int .i64 0, .int .i64 0, .int .i64 0, .int .i64 0, .slice none 0 0]) w)
  rcases hcd with ⟨hb, rfl, rfl⟩ | ⟨hb, hb2, rfl, rfl⟩
  · go_enter Try.func22, Try.ntmps22
    go_wp2_with fail
    refine (HNUM.out _ ((HBY.out.take 4).keep ((Below.refl w.heap.size w).alloc (Nat.le_refl _) _))).mono ?_
    rintro e w' ⟨rfl, rfl⟩
    go_wp2_with fail
    refine bodyPost_ret (v := .tuple #[.agg #[_, _, _, _, _], .int .i64 3, .bool true]) (by simp [results, Try.results22, go_sem]) rfl ⟨_, rfl, FrIs.zero _ _, ?_, ?_⟩
    · exact HP.out.below ((Below.refl w.heap.size w).alloc (Nat.le_refl _) _) (Nat.le_refl _)
    · exact But.of_below ((Below.refl w.heap.size w).alloc (Nat.le_refl _) _)
  · have hsub : (L : Int) - 4 < N := by omega
    go_enter Try.func22, Try.ntmps22
    go_wp2_with fail
    refine (HNUM.out _ ((HBY.out.take 4).keep ((Below.refl w.heap.size w).alloc (Nat.le_refl _) _))).mono ?_
    rintro e w' ⟨rfl, rfl⟩
    go_wp2_with fail
    refine bodyPost_ret (v := .tuple #[.agg #[_, _, _, _, _], .int .i64 0, .bool false]) (by simp [results, Try.results22, go_sem]) rfl ⟨_, rfl, FrIs.zero _ _, ?_, ?_⟩
    · exact HP.out.below ((Below.refl w.heap.size w).alloc (Nat.le_refl _) _) (Nat.le_refl _)
    · exact But.of_below ((Below.refl w.heap.size w).alloc (Nat.le_refl _) _)
set_option maxRecDepth 100000 in
set_option maxHeartbeats 1600000 in
theorem next_one (g : Nat) (buf : List UInt8) (br : Bool) (w : World) (h : PsIs w g 60 buf br) (hl : 4 + numV buf ≤ buf.length) (hN : numV buf ≤ 262208) :
    Calls Try.prog 22 #[.pointer (some ⟨g, 0, none⟩)] w (Nexted g (parseF (payV buf)) (parseC (payV buf)) true (buf.drop (4 + numV buf)) br w) := by
  have HP := Lib.hid h
  obtain ⟨ao, cap, h1, h2, h3, h4, h5, h6⟩ := h
  have HK := Lib.hid h1
  have c0 := h1.cell (i := 0) rfl
  have hlt := h1.lt
  have HNUM := Lib.hid (fun w' hb' => number_any (buf.take 4) 4 (by rw [List.length_take]; omega) (by omega) ao cap w' hb')
  have HN : Hid (leV (buf.take 4) = numV buf) := rfl
  rw [HN.out] at HNUM
  have HBY := Lib.hid h2
  have hl2 : buf.length ≤ 9223372036854775807 := by unfold maxLen at h4; omega
  have HPAY : Hid (Bytes w (cutA ao 4 cap) (payV buf)) := Lib.hid ((h2.drop 4 cap h3).take _)
  have HPL : Hid (numV buf = (payV buf).length) := Lib.hid (by unfold payV; rw [List.length_take, List.length_drop]; omega)
  have HDR : Hid (Bytes w (cutA ao (4 + numV buf) cap) (buf.drop (4 + numV buf))) := Lib.hid (h2.drop _ cap h3)
  have HDL : Hid (buf.length - (4 + numV buf) = (buf.drop (4 + numV buf)).length) := Lib.hid (by rw [List.length_drop])
  have HNI : Hid (cutA ao (4 + numV buf) cap = none → cap - (4 + numV buf) = 0) := Lib.hid (fun hh => by
    unfold cutA at hh
    split at hh
    · omega
    · have := h5 (by cases ao <;> simp_all); omega)
  have HBK : Hid (∀ x, cutA ao (4 + numV buf) cap = some x → U8 w x.block) := Lib.hid (fun x hh => by
    unfold cutA at hh
    split at hh
    · exact h6 x hh
    · cases ao with
      | none => cases hh
      | some y =>
        simp only [Option.map_some, Option.some.injEq] at hh
        subst hh
        have e : (y.add (4 + numV buf)).block = y.block := by unfold Addr.add; split <;> rfl
        rw [e]
        exact h6 y rfl)
  have HBG : Hid (∀ x, cutA ao (4 + numV buf) cap = some x → x.block ≠ g) := Lib.hid (fun x hh => (HBK.out x hh).ne h1 (by decide))
  have hfr : ∀ w, (Instr.slice 22 (.slice ao buf.length cap) (some (.int .i64 (4 + (numV buf : Int)))) none none).run Try.prog w = .ok (.slice (cutA ao (4 + numV buf) cap) (buf.length - (4 + numV buf)) (cap - (4 + numV buf))) w := fun w => by
    have := run_cut_from (P := Try.prog) 22 5 Try.underlying22 size_u8 ao buf.length cap .i64 (4 + numV buf) hl w
    rw [← this]; congr
  generalize buf.drop (4 + numV buf) = rest at *
  generalize payV buf = pay at *
  generalize numV buf = N at *
  clear HN
  have HM := Lib.hid (And.intro h3 h4)
  generalize buf.length = L at *
  have hto : ∀ w, (Instr.slice 22 (.slice ao L cap) none (some (.int .i64 4)) none).run Try.prog w = .ok (.slice ao 4 cap) w := fun w => run_cut_to (P := Try.prog) 22 5 Try.underlying22 size_u8 ao _ _ .i64 4 (by omega) w
  have hmid : ∀ w, (Instr.slice 22 (.slice ao L cap) (some (.int .i64 4)) (some (.int .i64 (4 + (N : Int)))) none).run Try.prog w = .ok (.slice (cutA ao 4 cap) N (cap - 4)) w := fun w => by
    have := run_cut_mid (P := Try.prog) 22 5 Try.underlying22 size_u8 ao L cap .i64 .i64 4 (4 + (N : Int)) 4 (4 + N) rfl (by omega) (by omega) (by omega) w
    rw [show 4 + N - 4 = N by omega] at this
    exact this
  clear h1 h2 h3 h4 h5 h6
  have hz := fun w => (by kernel_rfl : (zeroValue 39).run Try.prog w = .ok (.agg #[.int .i64 0, .int .i64 0, .int .i64 0, .int .i64 0, .slice none 0 0]) w)
  have R0 := Lib.hid (Blk.new w #[.int .i64 0, .int .i64 0, .int .i64 0, .int .i64 0, .slice none 0 0] 39)
  have hb0 : Below w.heap.size w (w.alloc (Obj.cells #[.int .i64 0, .int .i64 0, .int .i64 0, .int .i64 0, .slice none 0 0] 39)) := (Below.refl _ _).alloc (Nat.le_refl _) _
  have hs0 : (w.alloc (Obj.cells #[.int .i64 0, .int .i64 0, .int .i64 0, .int .i64 0, .slice none 0 0] 39)).heap.size = w.heap.size + 1 := by simp
  have hsub : ¬ ((L : Int) - 4 < N) := by omega
  go_enter Try.func22, Try.ntmps22
  go_wp2_with fail
  refine (HNUM.out _ ((HBY.out.take 4).keep hb0)).mono ?_
  rintro e w' ⟨rfl, rfl⟩
  have K0 := HK.out.keep hb0
  have k0 := K0.cell (i := 0) rfl
  have hlt0 := K0.lt
  generalize w.alloc (Obj.cells #[.int .i64 0, .int .i64 0, .int .i64 0, .int .i64 0, .slice none 0 0] 39) = w0 at *
  have HB0 := Lib.hid hb0
  have HK0 := Lib.hid K0
  clear hb0 K0
  go_wp2_with fail
  refine (parse_any pay (cutA ao 4 cap) N (cap - 4) HPL.out (by omega) (by have := HM.out.1; omega) (by have := HM.out.2; omega) w0 (HPAY.out.keep HB0.out)).mono ?_
  rintro e w1 ⟨v, rfl, ⟨aod, capd, rfl, hd1⟩, hb1⟩
  have R1 := Lib.hid (R0.out.keep hb1)
  have K1 := Lib.hid (HK0.out.keep hb1)
  have q0 := R1.out.cell (i := 0) rfl
  have q1 := R1.out.cell (i := 1) rfl
  have q2 := R1.out.cell (i := 2) rfl
  have q3 := R1.out.cell (i := 3) rfl
  have q4 := R1.out.cell (i := 4) rfl
  have fz := fun i => R1.out.frozen i
  have g0 := K1.out.cell (i := 0) rfl
  have gz := fun i => K1.out.frozen i
  have ltR := R1.out.lt
  have ltK := K1.out.lt
  have hne : ¬ g = w.heap.size := by omega
  have hne2 : ¬ w.heap.size = g := by omega
  have HB1 := Lib.hid (chain HB0.out hb1)
  obtain ⟨ln, hln⟩ : ∃ ln, ln = (parseF pay).data.length := ⟨_, rfl⟩
  rw [← hln] at hd1 ⊢
  have HD := Lib.hid hd1
  have HLN := Lib.hid hln
  clear hln hb1 hd1 R0 HK0 k0 hlt0 c0
  go_wp2_with fail
  have R2 := R1.out.setOther (a := ⟨g, 0, none⟩) hne2 (.slice (cutA ao (4 + N) cap) (L - (4 + N)) (cap - (4 + N)))
  have K2 := K1.out.set 0 (.slice (cutA ao (4 + N) cap) (L - (4 + N)) (cap - (4 + N)))
  have HT2 := (But.of_below (g := g) HB1.out).set 0 (.slice (cutA ao (4 + N) cap) (L - (4 + N)) (cap - (4 + N)))
  have sz2 := HT2.size
  have hlo : w.heap.size < w0.heap.size := by omega
  have HY2 := HD.out.setOther (a := ⟨g, 0, none⟩) (fun k hk => by have := HD.out.block k hk; show k ≠ g; omega) (.slice (cutA ao (4 + N) cap) (L - (4 + N)) (cap - (4 + N)))
  generalize w1.setCell ⟨g, 0, none⟩ (.slice (cutA ao (4 + N) cap) (L - (4 + N)) (cap - (4 + N))) = w2 at *
  obtain ⟨W, hW, Q, hbW, _, hkW, hoW⟩ := R2.put5 (.int .i64 (parseF pay).t) (.int .i64 (parseF pay).a) (.int .i64 (parseF pay).b) (.int .i64 (parseF pay).c) (.slice aod ln capd)
  rw [hW]
  have hBW := hbW _ _ (Nat.le_refl _) (Below.refl _ w2)
  have szW := hBW.size
  have Q' := Q.alloc (Obj.cells #[.int .i64 (parseF pay).t, .int .i64 (parseF pay).a, .int .i64 (parseF pay).b, .int .i64 (parseF pay).c, .slice aod ln capd] 39)
  have q0 := Q'.cell (i := 0) rfl
  have q1 := Q'.cell (i := 1) rfl
  have q2 := Q'.cell (i := 2) rfl
  have q3 := Q'.cell (i := 3) rfl
  have q4 := Q'.cell (i := 4) rfl
  have ltW := Q.lt
  have HY3 := (hoW _ _ _ HY2 (fun k hk => by have := HD.out.block k hk; omega)).keep ((Below.refl W.heap.size W).alloc (Nat.le_refl _) (Obj.cells #[.int .i64 (parseF pay).t, .int .i64 (parseF pay).a, .int .i64 (parseF pay).b, .int .i64 (parseF pay).c, .slice aod ln capd] 39))
  have K3 := (hkW _ _ _ hne K2).alloc (Obj.cells #[.int .i64 (parseF pay).t, .int .i64 (parseF pay).a, .int .i64 (parseF pay).b, .int .i64 (parseF pay).c, .slice aod ln capd] 39)
  have HT3 := (HT2.trans (But.of_below hBW)).trans (But.of_below ((Below.refl w.heap.size W).alloc (by omega) (Obj.cells #[.int .i64 (parseF pay).t, .int .i64 (parseF pay).a, .int .i64 (parseF pay).b, .int .i64 (parseF pay).c, .slice aod ln capd] 39)))
  have HZ3 := HDR.out.but HT3 (Nat.le_refl _) HBG.out
  refine bodyPost_ret (v := .tuple #[.agg #[.int .i64 (parseF pay).t, .int .i64 (parseF pay).a, .int .i64 (parseF pay).b, .int .i64 (parseF pay).c, .slice aod ln capd], .int .i64 (parseC pay : Nat), .bool true]) (by simp [results, Try.results22, go_sem, q0, q1, q2, q3, q4]) rfl ⟨_, rfl, ⟨aod, capd, by rw [← HLN.out], by rw [← HLN.out]; exact HY3.mono (by omega)⟩, ?_, HT3⟩
  rw [HDL.out] at K3
  exact ⟨cutA ao (4 + N) cap, cap - (4 + N), K3, HZ3, by rw [← HDL.out]; have := HM.out.1; omega, by have := HM.out.2; omega, HNI.out, fun x hx => (HBK.out x hx).at (HT3.block _ (HBK.out x hx).lt (HBG.out x hx))⟩
end Go.Proofs.Ytmmppgkhlelbmaa.Fr
