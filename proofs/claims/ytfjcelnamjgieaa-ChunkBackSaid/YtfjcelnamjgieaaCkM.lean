/- Contracts of chunk's walker and Order. Condition: chunks lie at the slice. -/
import Derived.Test.YtfjcelnamjgieaaCkL
namespace Go.Proofs.Ytfjcelnamjgieaa.Ck
open Go.RowKit Ba Go.Deep
set_option linter.unusedVariables false

structure But (B g : Nat) (w w' : World) : Prop where
  os : w'.os = w.os
  tape : w'.tape = w.tape
  output : w'.output = w.output
  size : w.heap.size ≤ w'.heap.size
  block : ∀ k, k < B → k ≠ g → w'.heap[k]? = w.heap[k]?
theorem But.refl (B g : Nat) (w : World) : But B g w w := ⟨rfl, rfl, rfl, Nat.le_refl _, fun _ _ _ => rfl⟩
theorem But.trans {B g : Nat} {a b c : World} (h : But B g a b) (k : But B g b c) : But B g a c :=
  ⟨k.os.trans h.os, k.tape.trans h.tape, k.output.trans h.output, Nat.le_trans h.size k.size, fun i hi hg => (k.block i hi hg).trans (h.block i hi hg)⟩
theorem But.mono {B B' g : Nat} {a b : World} (h : But B g a b) (hB : B' ≤ B) : But B' g a b := ⟨h.os, h.tape, h.output, h.size, fun k hk hg => h.block k (by omega) hg⟩
theorem But.of_below {B g : Nat} {a b : World} (h : Below B a b) : But B g a b := ⟨h.os, h.tape, h.output, h.size, fun k hk _ => h.block k hk⟩
theorem But.below {B B' g : Nat} {a b : World} (h : But B g a b) (h1 : B' ≤ B) (h2 : B' ≤ g) : Below B' a b := ⟨h.os, h.tape, h.output, h.size, fun k hk => h.block k (by omega) (by omega)⟩
theorem But.set {B g : Nat} {a w : World} (h : But B g a w) (o : Nat) (v : Value) : But B g a (w.setCell ⟨g, o, none⟩ v) :=
  h.trans ⟨rfl, rfl, rfl, by simp [World.setCell], fun k _ hg => blk_setCell_other _ _ _ _ hg⟩
theorem _root_.Go.Proofs.Ytfjcelnamjgieaa.Ba.Blk.but {B g : Nat} {w w' : World} {b : Nat} {t : TypeId} {l : List Value} (h : Blk w b t l) (hb : But B g w w') (hB : b < B) (hg : b ≠ g) : Blk w' b t l := h.of (hb.block b hB hg)

def kIHDR : List UInt8 := [73, 72, 68, 82]
def kIEND : List UInt8 := [73, 69, 78, 68]
def kIDAT : List UInt8 := [73, 68, 65, 84]
def kPLTE : List UInt8 := [80, 76, 84, 69]
def kTRNS : List UInt8 := [116, 82, 78, 83]
/-- What the walker has seen: a palette, its alphas, data, and whether the data are over. -/
structure Wk where
  p : Bool
  t : Bool
  i : Bool
  o : Bool
def Wk.vals (s : Wk) : List Value := [.bool s.p, .bool s.t, .bool s.i, .bool s.o]
def WkIs (w : World) (wb : Nat) (s : Wk) : Prop := Blk w wb 64 s.vals
def isK (s : ByteArray) (l : List UInt8) : Bool := s.toList == l
def nextV (s : Wk) (k : ByteArray) : Bool × Wk :=
  if isK k kIDAT = true then (!s.o, { s with i := true })
  else if isK k kPLTE = true then (if s.t = true then (false, { s with o := s.i }) else (!s.p && !s.i, { s with o := s.i, p := true }))
  else if isK k kTRNS = true then (!s.t && !s.i, { s with o := s.i, t := true })
  else (nameB k && !critB k, { s with o := s.i })
set_option maxRecDepth 100000 in
set_option maxHeartbeats 1600000 in
theorem once_p (wb : Nat) (s : Wk) (w : World) (h : WkIs w wb s) :
    Calls Try.prog 38 #[.pointer (some ⟨wb, 0, none⟩), .pointer (some ⟨wb, 0, none⟩)] w fun e w' => e = .returned (.bool (!s.p && !s.i)) ∧ w.setCell ⟨wb, 0, none⟩ (.bool true) = w' := by
  obtain ⟨p, t, i, o⟩ := s
  have H := Lib.hid h
  have c0 := h.cell (i := 0) rfl
  have c2 := h.cell (i := 2) rfl
  have hfz := fun i => h.frozen i
  clear h
  cases p <;> cases i
  all_goals
    go_enter Try.func38, Try.ntmps38
    go_wp2_with fail
    go_ret
    exact ⟨rfl, rfl⟩
set_option maxRecDepth 100000 in
set_option maxHeartbeats 1600000 in
theorem once_t (wb : Nat) (s : Wk) (w : World) (h : WkIs w wb s) :
    Calls Try.prog 38 #[.pointer (some ⟨wb, 0, none⟩), .pointer (some ⟨wb, 1, none⟩)] w fun e w' => e = .returned (.bool (!s.t && !s.i)) ∧ w.setCell ⟨wb, 1, none⟩ (.bool true) = w' := by
  obtain ⟨p, t, i, o⟩ := s
  have H := Lib.hid h
  have c1 := h.cell (i := 1) rfl
  have c2 := h.cell (i := 2) rfl
  have hfz := fun i => h.frozen i
  clear h
  cases t <;> cases i
  all_goals
    go_enter Try.func38, Try.ntmps38
    go_wp2_with fail
    go_ret
    exact ⟨rfl, rfl⟩
/-- What the walker's next hands back. -/
def Nexted (wb : Nat) (s : Wk) (k : ByteArray) (w : World) (e : Ending) (w' : World) : Prop :=
  e = .returned (.bool (nextV s k).1) ∧ WkIs w' wb (nextV s k).2 ∧ But w.heap.size wb w w'
theorem WkIs.alloc {w : World} {wb : Nat} {s : Wk} (h : WkIs w wb s) (o : Obj) : WkIs (w.alloc o) wb s := Blk.alloc h o
theorem WkIs.set0 {w : World} {wb : Nat} {s : Wk} (h : WkIs w wb s) (b : Bool) : WkIs (w.setCell ⟨wb, 0, none⟩ (.bool b)) wb { s with p := b } := Blk.set h 0 _
theorem WkIs.set1 {w : World} {wb : Nat} {s : Wk} (h : WkIs w wb s) (b : Bool) : WkIs (w.setCell ⟨wb, 1, none⟩ (.bool b)) wb { s with t := b } := Blk.set h 1 _
theorem WkIs.set2 {w : World} {wb : Nat} {s : Wk} (h : WkIs w wb s) (b : Bool) : WkIs (w.setCell ⟨wb, 2, none⟩ (.bool b)) wb { s with i := b } := Blk.set h 2 _
theorem WkIs.set3 {w : World} {wb : Nat} {s : Wk} (h : WkIs w wb s) (b : Bool) : WkIs (w.setCell ⟨wb, 3, none⟩ (.bool b)) wb { s with o := b } := Blk.set h 3 _
set_option maxRecDepth 100000 in
set_option maxHeartbeats 6400000 in
theorem next_any (wb : Nat) (s : Wk) (k : ByteArray) (hk : k.size ≤ maxLen) (dv : Value) (w : World) (h : WkIs w wb s) :
    Calls Try.prog 30 #[.pointer (some ⟨wb, 0, none⟩), .agg #[.string k, dv]] w (Nexted wb s k w) := by
  have hlt : wb < w.heap.size := Blk.lt h
  have HK := Lib.hid hk
  have HW := Lib.hid h
  have hne : w.heap.size ≠ wb := by omega
  have hne2 : wb ≠ w.heap.size := by omega
  have a0 := Blk.cell h (i := 0) rfl
  have a1 := Blk.cell h (i := 1) rfl
  have a2 := Blk.cell h (i := 2) rfl
  have a3 := Blk.cell h (i := 3) rfl
  have afz := fun i => Blk.frozen h i
  have HBT : ∀ j v, But w.heap.size wb w ((w.setCell ⟨wb, j, none⟩ v).alloc (Obj.cells #[.string k, dv] 51)) := fun j v => ((But.refl _ _ _).set j v).trans (But.of_below ((Below.refl _ _).alloc (by simp) _))
  have HBT := Lib.hid HBT
  have d0 := (Blk.new w #[.string k, dv] 51).cell (i := 0) rfl
  clear h hk
  by_cases h1 : isK k kIDAT = true
  · have HN : Hid (nextV s k = (!s.o, { s with i := true })) := Lib.hid (by unfold nextV; rw [if_pos h1])
    have h1' : (k.toList == [73, 68, 65, 84]) = true := h1
    clear h1
    go_enter Try.func30, Try.ntmps30
    go_wp2_with fail
    go_ret
    exact ⟨by rw [HN.out]; rfl, by rw [HN.out]; exact (HW.out.set2 true).alloc _, HBT.out _ _⟩
  · have h1' : (k.toList == [73, 68, 65, 84]) = false := by simpa [isK, kIDAT] using h1
    have HW1 : Hid (WkIs ((w.setCell ⟨wb, 3, none⟩ (.bool s.i)).alloc (Obj.cells #[.string k, dv] 51)) wb { s with o := s.i }) := Lib.hid ((HW.out.set3 s.i).alloc _)
    have HB1 : Hid (But w.heap.size wb w ((w.setCell ⟨wb, 3, none⟩ (.bool s.i)).alloc (Obj.cells #[.string k, dv] 51))) := Lib.hid (HBT.out _ _)
    have hsz : (w.setCell ⟨wb, 3, none⟩ (.bool s.i)).heap.size = w.heap.size := by simp
    have HC1 : Hid (Blk ((w.setCell ⟨wb, 3, none⟩ (.bool s.i)).alloc (Obj.cells #[.string k, dv] 51)) w.heap.size 51 [.string k, dv]) := Lib.hid (by
      have h := Blk.new (w.setCell ⟨wb, 3, none⟩ (.bool s.i)) #[.string k, dv] 51
      rw [hsz] at h
      exact h)
    clear hsz
    have e0 := HC1.out.cell (i := 0) rfl
    have f0 := Blk.cell HW1.out (i := 0) rfl
    have f1 := Blk.cell HW1.out (i := 1) rfl
    have f2 := Blk.cell HW1.out (i := 2) rfl
    have HO0 := Lib.hid (once_p wb _ _ HW1.out)
    have HO1 := Lib.hid (once_t wb _ _ HW1.out)
    by_cases h2 : isK k kPLTE = true
    · have h2' : (k.toList == [80, 76, 84, 69]) = true := h2
      cases ht : s.t with
      | true =>
        have HN : Hid (nextV s k = (false, { s with o := s.i })) := Lib.hid (by unfold nextV; rw [if_neg h1, if_pos h2, if_pos ht])
        clear h1 h2
        rw [ht] at f1 a1
        go_enter Try.func30, Try.ntmps30
        go_wp2_with fail
        go_ret
        exact ⟨by rw [HN.out]; rfl, by rw [HN.out]; exact HW1.out, HB1.out⟩
      | false =>
        have HN : Hid (nextV s k = (!s.p && !s.i, { s with o := s.i, p := true })) := Lib.hid (by unfold nextV; rw [if_neg h1, if_pos h2, if_neg (by rw [ht]; decide)])
        clear h1 h2
        rw [ht] at f1 a1
        go_enter Try.func30, Try.ntmps30
        go_wp2_with fail
        refine HO0.out.mono ?_
        rintro e w' ⟨rfl, hw⟩
        have HW2 : Hid (WkIs w' wb { s with o := s.i, p := true }) := Lib.hid (hw ▸ HW1.out.set0 true)
        have HB2 : Hid (But w.heap.size wb w w') := Lib.hid (hw ▸ HB1.out.set _ _)
        clear hw
        go_wp2_with fail
        go_ret
        exact ⟨by rw [HN.out]; rfl, by rw [HN.out]; exact HW2.out, HB2.out⟩
    · have h2' : (k.toList == [80, 76, 84, 69]) = false := by simpa [isK, kPLTE] using h2
      by_cases h3 : isK k kTRNS = true
      · have h3' : (k.toList == [116, 82, 78, 83]) = true := h3
        have HN : Hid (nextV s k = (!s.t && !s.i, { s with o := s.i, t := true })) := Lib.hid (by unfold nextV; rw [if_neg h1, if_neg h2, if_pos h3])
        clear h1 h2 h3
        go_enter Try.func30, Try.ntmps30
        go_wp2_with fail
        refine HO1.out.mono ?_
        rintro e w' ⟨rfl, hw⟩
        have HW2 : Hid (WkIs w' wb { s with o := s.i, t := true }) := Lib.hid (hw ▸ HW1.out.set1 true)
        have HB2 : Hid (But w.heap.size wb w w') := Lib.hid (hw ▸ HB1.out.set _ _)
        clear hw
        go_wp2_with fail
        go_ret
        exact ⟨by rw [HN.out]; rfl, by rw [HN.out]; exact HW2.out, HB2.out⟩
      · have h3' : (k.toList == [116, 82, 78, 83]) = false := by simpa [isK, kTRNS] using h3
        have HN : Hid (nextV s k = (nameB k && !critB k, { s with o := s.i })) := Lib.hid (by unfold nextV; rw [if_neg h1, if_neg h2, if_neg h3])
        have HNM := Lib.hid (fun u => named_any k HK.out u)
        have HCT := Lib.hid (fun u => crit_any k HK.out u)
        clear h1 h2 h3
        cases hb : nameB k with
        | false =>
          rw [hb] at HNM HN
          go_enter Try.func30, Try.ntmps30
          go_wp2_with fail
          refine (HNM.out _).mono ?_
          rintro e w' ⟨rfl, rfl⟩
          go_wp2_with fail
          go_ret
          exact ⟨by rw [HN.out]; rfl, by rw [HN.out]; exact HW1.out, HB1.out⟩
        | true =>
          rw [hb] at HNM HN
          go_enter Try.func30, Try.ntmps30
          go_wp2_with fail
          refine (HNM.out _).mono ?_
          rintro e w' ⟨rfl, rfl⟩
          go_wp2_with fail
          refine (HCT.out _).mono ?_
          rintro e w' ⟨rfl, rfl⟩
          go_wp2_with fail
          go_ret
          exact ⟨by rw [HN.out]; rfl, by rw [HN.out]; exact HW1.out, HB1.out⟩
end Go.Proofs.Ytfjcelnamjgieaa.Ck
