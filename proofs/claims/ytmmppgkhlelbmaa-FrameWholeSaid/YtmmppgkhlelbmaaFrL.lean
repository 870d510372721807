/- Contract of the program's Encode. Condition: bytes lie at the data's slice. -/
import Derived.Test.YtmmppgkhlelbmaaFrK
namespace Go.Proofs.Ytmmppgkhlelbmaa.Fr
open Go.RowKit Ba Go.Deep
set_option linter.unusedVariables false

def nV (a b c : Int) : Nat → Int | 0 => a | 1 => b | _ => c
def preV (kb : UInt8) (x y z : Nat) (a b c : Int) : Nat → List UInt8
  | 0 => [kb]
  | j + 1 => preV kb x y z a b c j ++ laidV (nV a b c j) (wN x y z j)
theorem preV_length (kb : UInt8) (x y z : Nat) (a b c : Int) (j : Nat) (h : j ≤ 3) : (preV kb x y z a b c j).length = 1 + sN x y z j := by
  have : j = 0 ∨ j = 1 ∨ j = 2 ∨ j = 3 := by omega
  rcases this with rfl | rfl | rfl | rfl <;> simp [preV, sN, wN, laid_length] <;> omega
def fitJ (x y z : Nat) (a b c : Int) (j : Nat) : Bool := fitsV (nV a b c j) (wN x y z j)
def fit3 (x y z : Nat) (a b c : Int) : Bool := fitJ x y z a b c 0 && fitJ x y z a b c 1 && fitJ x y z a b c 2
theorem fit3_no {x y z : Nat} {a b c : Int} {j : Nat} (hj : j < 3) (h : fitJ x y z a b c j = false) : fit3 x y z a b c = false := by
  have : j = 0 ∨ j = 1 ∨ j = 2 := by omega
  unfold fit3
  rcases this with rfl | rfl | rfl <;> simp [h]
theorem fit3_yes {x y z : Nat} {a b c : Int} (h : ∀ i, i < 3 → fitJ x y z a b c i = true) : fit3 x y z a b c = true := by
  unfold fit3
  simp [h 0 (by omega), h 1 (by omega), h 2 (by omega)]
/-- A message's bytes, and why there are none. -/
def encP (k x y z : Nat) (a b c : Int) (data : List UInt8) : List UInt8 := preV (UInt8.ofNat k) x y z a b c 3 ++ data
def encK (x y z : Nat) (q : Bool) (a b c : Int) (data : List UInt8) : Nat :=
  if fit3 x y z a b c = false then 1 else if q = false ∧ 0 < data.length then 1 else if 262208 < 1 + (x + y + z) + data.length then 3 else 0
def encL (k x y z : Nat) (q : Bool) (a b c : Int) (data : List UInt8) : List UInt8 :=
  if encK x y z q a b c data = 0 then laidV ((encP k x y z a b c data).length : Nat) 4 ++ encP k x y z a b c data else []
def Encd (bs : List UInt8) (c : Nat) (w : World) (e : Ending) (w' : World) : Prop :=
  ∃ v, e = .returned (.tuple #[v, .int .i64 (c : Int)]) ∧ Below w.heap.size w w' ∧ Own w' w.heap.size v bs
theorem _root_.Go.Proofs.Ytmmppgkhlelbmaa.Ba.Blk.grown {w w' : World} {b B : Nat} {t : TypeId} {l : List Value} {v : Value} {bs : List UInt8} (h : Blk w b t l) (ho : Own w B v bs) (ht : t ≠ 5) (hg : w.grownBy w' v.ownBlock) : Blk w' b t l :=
  h.of (hg.block b h.lt (fun e => ho.ne h ht b e.symm rfl))
theorem ints_at (a b c : Int) (j : Nat) (h : j < 3) : ([.int .i64 a, .int .i64 b, .int .i64 c] : List Value)[j]? = some (.int .i64 (nV a b c j)) := by
  have : j = 0 ∨ j = 1 ∨ j = 2 := by omega
  rcases this with rfl | rfl | rfl <;> rfl
theorem kb_cell (k : Nat) (hk : 1 ≤ k ∧ k ≤ 10) : cellOf (UInt8.ofNat k) = .int .u8 (k : Nat) := by
  unfold cellOf
  rw [UInt8.toNat_ofNat_of_lt' (by show k < 256; omega)]
set_option maxRecDepth 100000 in
set_option maxHeartbeats 1600000 in
theorem encode_kind (k : Int) (hno : ¬ isKind k) (a b c : Int) (dv : Value) (w : World) :
    Calls Try.prog 18 #[.agg #[.int .i64 k, .int .i64 a, .int .i64 b, .int .i64 c, dv]] w (Encd [] 7 w) := by
  have hz2 := fun w => (by kernel_rfl : (zeroValue 67).run Try.prog w = .ok (.agg #[.int .i64 0, .int .i64 0, .int .i64 0, .bool false]) w)
  have HS := Lib.hid (fun w => shapeOf_no k hno w)
  clear hno
  have hb0 : Below w.heap.size w (w.alloc (Obj.cells #[.int .i64 k, .int .i64 a, .int .i64 b, .int .i64 c, dv] 39)) := (Below.refl _ _).alloc (Nat.le_refl _) _
  go_enter Try.func18, Try.ntmps18
  go_wp2_with fail
  refine (HS.out _).mono ?_
  rintro e w1 ⟨rfl, hb1⟩
  have HB1 := Lib.hid (chain hb0 hb1)
  clear hb1
  go_wp2_with fail
  go_ret2
  exact ⟨_, rfl, HB1.out.alloc HB1.out.size _, Own.nil _ _⟩
set_option maxRecDepth 100000 in
set_option maxHeartbeats 6400000 in
theorem encode_yes (k x y z : Nat) (hk : 1 ≤ k ∧ k ≤ 10) (q : Bool) (hx : x ≤ 4) (hy : y ≤ 4) (hz4 : z ≤ 4) (a b c : Int) (data : List UInt8) (ad : Option Addr) (nd cd : Nat) (hn : nd = data.length) (hm : nd ≤ 1000000000) (hnil : ad = none → cd = 0) (w : World) (hb : Bytes w ad data) (HS : Hid (ShapeOf k x y z q)) :
    Calls Try.prog 18 #[.agg #[.int .i64 (k : Nat), .int .i64 a, .int .i64 b, .int .i64 c, .slice ad nd cd]] w (Encd (encL k x y z q a b c data) (encK x y z q a b c data) w) := by
  have HN := Lib.hid hn
  have HB := Lib.hid hb
  have HNIL := Lib.hid hnil
  clear hn hb hnil
  have hz2 := fun w => (by kernel_rfl : (zeroValue 67).run Try.prog w = .ok (.agg #[.int .i64 0, .int .i64 0, .int .i64 0, .bool false]) w)
  have F0 := Lib.hid (Blk.new w #[.int .i64 (k : Nat), .int .i64 a, .int .i64 b, .int .i64 c, .slice ad nd cd] 39)
  have hb0 : Below w.heap.size w (w.alloc (Obj.cells #[.int .i64 (k : Nat), .int .i64 a, .int .i64 b, .int .i64 c, .slice ad nd cd] 39)) := (Below.refl _ _).alloc (Nat.le_refl _) _
  have hs0 : (w.alloc (Obj.cells #[.int .i64 (k : Nat), .int .i64 a, .int .i64 b, .int .i64 c, .slice ad nd cd] 39)).heap.size = w.heap.size + 1 := by simp
  go_enter Try.func18, Try.ntmps18
  go_wp2_with fail
  generalize w.alloc (Obj.cells #[.int .i64 (k : Nat), .int .i64 a, .int .i64 b, .int .i64 c, .slice ad nd cd] 39) = w0 at *
  refine (HS.out _).mono ?_
  rintro e w1 ⟨rfl, hb1⟩
  have F1 := Lib.hid (F0.out.keep hb1)
  have HB1 := Lib.hid (chain hb0 hb1)
  have s1 := HB1.out.size
  have c0 := F1.out.cell (i := 0) rfl
  have c1 := F1.out.cell (i := 1) rfl
  have c2 := F1.out.cell (i := 2) rfl
  have c3 := F1.out.cell (i := 3) rfl
  have ltF := F1.out.lt
  have hwk : IntKind.u8.wrap (k : Int) = (k : Int) := by simp [IntKind.wrap, IntKind.bits, IntKind.signed]; omega
  clear hb1 F0 hb0
  go_wp2_with fail
  have S4 := Lib.hid (((Blk.new w1 #[.int .i64 x, .int .i64 y, .int .i64 z, .bool q] 67).alloc (Obj.cells #[.int .u8 (k : Nat)] 5)).alloc (Obj.cells #[.int .i64 a, .int .i64 b, .int .i64 c] 3))
  have P4 : Hid (Own (((w1.alloc (Obj.cells #[.int .i64 x, .int .i64 y, .int .i64 z, .bool q] 67)).alloc (Obj.cells #[.int .u8 (k : Nat)] 5)).alloc (Obj.cells #[.int .i64 a, .int .i64 b, .int .i64 c] 3)) w.heap.size (.slice (some ⟨w1.heap.size + 1, 0, none⟩) 1 1) (preV (UInt8.ofNat k) x y z a b c 0)) := Lib.hid (by
    have h := Own.lit (w1.alloc (Obj.cells #[.int .i64 x, .int .i64 y, .int .i64 z, .bool q] 67)) w.heap.size [UInt8.ofNat k] #[.int .u8 (k : Nat)] (by simp; omega) (by unfold maxLen; simp) (by simp [kb_cell k hk])
    rw [show (w1.alloc (Obj.cells #[.int .i64 x, .int .i64 y, .int .i64 z, .bool q] 67)).heap.size = w1.heap.size + 1 by simp] at h
    exact h.alloc _)
  have I4 : Hid (Blk (((w1.alloc (Obj.cells #[.int .i64 x, .int .i64 y, .int .i64 z, .bool q] 67)).alloc (Obj.cells #[.int .u8 (k : Nat)] 5)).alloc (Obj.cells #[.int .i64 a, .int .i64 b, .int .i64 c] 3)) (w1.heap.size + 1 + 1) 3 [.int .i64 a, .int .i64 b, .int .i64 c]) := Lib.hid (by
    have h := Blk.new ((w1.alloc (Obj.cells #[.int .i64 x, .int .i64 y, .int .i64 z, .bool q] 67)).alloc (Obj.cells #[.int .u8 (k : Nat)] 5)) #[.int .i64 a, .int .i64 b, .int .i64 c] 3
    rw [show ((w1.alloc (Obj.cells #[.int .i64 x, .int .i64 y, .int .i64 z, .bool q] 67)).alloc (Obj.cells #[.int .u8 (k : Nat)] 5)).heap.size = w1.heap.size + 1 + 1 by simp] at h
    exact h)
  have F4 := Lib.hid (((F1.out.alloc (Obj.cells #[.int .i64 x, .int .i64 y, .int .i64 z, .bool q] 67)).alloc (Obj.cells #[.int .u8 (k : Nat)] 5)).alloc (Obj.cells #[.int .i64 a, .int .i64 b, .int .i64 c] 3))
  have HB4 := Lib.hid (((HB1.out.alloc s1 (Obj.cells #[.int .i64 x, .int .i64 y, .int .i64 z, .bool q] 67)).alloc (by simp; omega) (Obj.cells #[.int .u8 (k : Nat)] 5)).alloc (by simp; omega) (Obj.cells #[.int .i64 a, .int .i64 b, .int .i64 c] 3))
  generalize (((w1.alloc (Obj.cells #[.int .i64 x, .int .i64 y, .int .i64 z, .bool q] 67)).alloc (Obj.cells #[.int .u8 (k : Nat)] 5)).alloc (Obj.cells #[.int .i64 a, .int .i64 b, .int .i64 c] 3)) = w4 at *
  clear F1 HB1 c0 c1 c2 c3
  go_loopw [6, 7, 8, 9, 10, 33] (fun p _ _ _ _ i wr => ∃ j : Nat, j ≤ 3 ∧ i = .int .i64 j ∧ Own wr w.heap.size p (preV (UInt8.ofNat k) x y z a b c j) ∧ (∀ i, i < j → fitJ x y z a b c i = true) ∧ Below w.heap.size w wr ∧
      Blk wr w.heap.size 39 [.int .i64 (k : Nat), .int .i64 a, .int .i64 b, .int .i64 c, .slice ad nd cd] ∧ Blk wr w1.heap.size 67 [.int .i64 x, .int .i64 y, .int .i64 z, .bool q] ∧ Blk wr (w1.heap.size + 1 + 1) 3 [.int .i64 a, .int .i64 b, .int .i64 c]) (fun _ _ _ _ _ i _ => 3 - (intOf i).toNat)
  case atStart => exact ⟨0, by omega, rfl, P4.out, fun i hi => absurd hi (by omega), HB4.out, F4.out, S4.out, I4.out⟩
  case round =>
    obtain ⟨j, hj, rfl, hown, hfit, hbel, hFr, hSr, hIr⟩ := hrel
    have HO := Lib.hid hown
    have HFIT := Lib.hid hfit
    have HBEL := Lib.hid hbel
    have HFR := Lib.hid hFr
    have HSR := Lib.hid hSr
    have HIR := Lib.hid hIr
    have sr := hbel.size
    by_cases hlt3 : j < 3
    · have cI := hIr.cell (ints_at a b c j hlt3)
      have cS := hSr.cell (shp_at x y z q j hlt3)
      have HLD := Lib.hid (laid_any (nV a b c j) (wN x y z j) (wN_le x y z j hx hy hz4) wr)
      have HPL : Hid ((preV (UInt8.ofNat k) x y z a b c j).length + (wN x y z j) ≤ 140737488355328) := Lib.hid (by rw [preV_length _ _ _ _ _ _ _ _ (by omega)]; have h1 := sN_le x y z j (by omega); have h2 := wN_le x y z j hx hy hz4; omega)
      clear hown hfit hbel hFr hSr hIr
      cases hf : fitJ x y z a b c j with
      | false =>
        rw [show fitsV (nV a b c j) (wN x y z j) = false from hf] at HLD
        have HEK : Hid (encK x y z q a b c data = 1) := Lib.hid (by unfold encK; rw [if_pos (fit3_no hlt3 hf)])
        have HEL : Hid (encL k x y z q a b c data = []) := Lib.hid (by unfold encL; rw [HEK.out]; rfl)
        clear hf
        go_wp2_with fail
        refine HLD.out.mono ?_
        rintro e w5 ⟨v5, rfl, hb5, ho5⟩
        have HB5 := Lib.hid (chain HBEL.out hb5)
        clear hb5 ho5
        go_wp2_with fail
        go_ret2
        refine ⟨_, by rw [HEK.out]; rfl, HB5.out, by rw [HEL.out]; exact Own.nil _ _⟩
      | true =>
        rw [show fitsV (nV a b c j) (wN x y z j) = true from hf] at HLD
        have HF := Lib.hid hf
        clear hf
        go_wp2_with fail
        refine HLD.out.mono ?_
        rintro e w5 ⟨v5, rfl, hb5, ho5⟩
        obtain ⟨ao5, cap5, rfl, hby5, hl5, hm5, hn5, hlo5⟩ := ho5.view2
        have HB5 := Lib.hid (chain HBEL.out hb5)
        have HO5 := Lib.hid (HO.out.keep hb5)
        have HFR5 := Lib.hid (HFR.out.keep hb5)
        have HSR5 := Lib.hid (HSR.out.keep hb5)
        have HIR5 := Lib.hid (HIR.out.keep hb5)
        have HBY5 := Lib.hid hby5
        have HN5 := Lib.hid hn5
        have s5 := HB5.out.size
        have HLL : Hid ((laidV (nV a b c j) (wN x y z j)).length = wN x y z j) := Lib.hid (laid_length _ _)
        rw [HLL.out]
        clear hb5 ho5 hby5 hl5 hm5 hn5 hlo5
        go_wp2_with (at_builtin; refine wpList_append_bytes rfl (.tmp 49) (.tmp 50) rfl w.heap.size _ _ rfl HO5.out ao5 (wN x y z j) cap5 _ rfl HLL.out.symm HBY5.out HN5.out HPL.out s5 ?_)
        intro v6 w6 hown6 hg6
        have hb6 : Below w.heap.size w5 w6 := (Below.refl _ _).grown hg6 s5 (fun k hk => HO5.out.block k hk)
        have HO6 := Lib.hid hown6
        have HB6 := Lib.hid (HB5.out.trans hb6)
        have HFR6 := Lib.hid (HFR5.out.grown HO5.out (by decide) hg6)
        have HSR6 := Lib.hid (HSR5.out.grown HO5.out (by decide) hg6)
        have HIR6 := Lib.hid (HIR5.out.grown HO5.out (by decide) hg6)
        clear hown6 hg6 hb6
        go_wp2_with fail
        go_roundw
        case rel => exact ⟨j + 1, by omega, by go_num, HO6.out, fun i hi => by by_cases h : i < j; exact HFIT.out i h; rw [show i = j by omega]; exact HF.out, HB6.out, HFR6.out, HSR6.out, HIR6.out⟩
        case measure => simp [intOf]; omega
    · obtain rfl : j = 3 := by omega
      have HF3 := Lib.hid (fit3_yes hfit)
      have cF := hFr.cell (i := 4) rfl
      have cS := hSr.cell (i := 3) rfl
      obtain ⟨ap, cp, rfl, hyp, hlp, hmp, hnp, hlop⟩ := hown.view2
      obtain ⟨PL, hPL⟩ : ∃ PL, PL = (preV (UInt8.ofNat k) x y z a b c 3).length := ⟨_, rfl⟩
      have hPLe : PL = 1 + (x + y + z) := by rw [hPL, preV_length _ _ _ _ _ _ _ _ (by omega)]; rfl
      have hPLb : PL ≤ 13 := by omega
      rw [← hPL] at HO ⊢
      have HPLE := Lib.hid hPLe
      have HPL := Lib.hid hPL
      clear hown hfit hbel hFr hSr hIr hyp hlp hmp hnp hlop hPLe hPL
      have hcase : (q = false ∧ 0 < nd) ∨ (q = true ∧ 262208 < PL + nd) ∨ ((q = true ∨ (q = false ∧ ¬ 0 < nd)) ∧ PL + nd ≤ 262208) := by
        cases q
        · by_cases h2 : 0 < nd
          · exact .inl ⟨rfl, h2⟩
          · exact .inr (.inr ⟨.inr ⟨rfl, h2⟩, by omega⟩)
        · by_cases h1 : PL + nd ≤ 262208
          · exact .inr (.inr ⟨.inl rfl, h1⟩)
          · exact .inr (.inl ⟨rfl, by omega⟩)
      rcases hcase with ⟨rfl, hnd⟩ | ⟨rfl, hbig⟩ | ⟨hqq, hsm⟩
      · have HEK : Hid (encK x y z false a b c data = 1) := Lib.hid (by unfold encK; rw [if_neg (by rw [HF3.out]; decide), if_pos ⟨rfl, by rw [← HN.out]; exact hnd⟩])
        have HEL : Hid (encL k x y z false a b c data = []) := Lib.hid (by unfold encL; rw [HEK.out]; rfl)
        go_wp2_with fail
        go_ret2
        refine ⟨_, by rw [HEK.out]; rfl, HBEL.out, by rw [HEL.out]; exact Own.nil _ _⟩
      · have HEK : Hid (encK x y z true a b c data = 3) := Lib.hid (by unfold encK; rw [if_neg (by rw [HF3.out]; decide), if_neg (fun h => by cases h.1), if_pos (by rw [← HN.out, ← HPLE.out]; exact hbig)])
        have HEL : Hid (encL k x y z true a b c data = []) := Lib.hid (by unfold encL; rw [HEK.out]; rfl)
        have hgt : (262208 : Int) - PL < nd := by omega
        go_wp2_with fail
        go_ret2
        refine ⟨_, by rw [HEK.out]; rfl, HBEL.out, by rw [HEL.out]; exact Own.nil _ _⟩
      · have HEK : Hid (encK x y z q a b c data = 0) := Lib.hid (by
          unfold encK
          rw [if_neg (by rw [HF3.out]; decide), if_neg, if_neg (by rw [← HN.out, ← HPLE.out]; omega)]
          rintro ⟨h1, h2⟩
          rw [← HN.out] at h2
          rcases hqq with h | ⟨_, h⟩
          · rw [h] at h1; cases h1
          · exact h h2)
        have HEL : Hid (encL k x y z q a b c data = laidV ((encP k x y z a b c data).length : Nat) 4 ++ encP k x y z a b c data) := Lib.hid (by unfold encL; rw [if_pos HEK.out])
        have hgt : ¬ ((262208 : Int) - PL < nd) := by omega
        have HBD := Lib.hid (HB.out.keep HBEL.out)
        have HLB : Hid ((preV (UInt8.ofNat k) x y z a b c 3).length + nd ≤ 140737488355328) := Lib.hid (by rw [← HPL.out]; omega)
        have HTL : Hid ((encP k x y z a b c data).length = PL + nd) := Lib.hid (by unfold encP; rw [List.length_append, ← HPL.out, ← HN.out])
        rcases hqq with rfl | ⟨rfl, hnd0⟩
        all_goals
          go_wp2_with (at_builtin; refine wpList_append_bytes rfl (.tmp 71) (.tmp 73) rfl w.heap.size _ _ rfl HO.out ad nd cd data rfl HN.out HBD.out HNIL.out HLB.out sr ?_)
          intro v7 w7 hown7 hg7
          have hb7 : Below w.heap.size wr w7 := (Below.refl _ _).grown hg7 sr (fun k hk => HO.out.block k hk)
          have HB7 := Lib.hid (HBEL.out.trans hb7)
          obtain ⟨ao7, cap7, rfl, hy7, hl7, hm7, hn7, hlo7⟩ := hown7.view2
          obtain ⟨TL, hTL⟩ : ∃ TL, TL = (encP k x y z a b c data).length := ⟨_, rfl⟩
          have hTLb : TL ≤ 262208 := by rw [hTL, HTL.out]; exact hsm
          have HY7 : Hid (Bytes w7 ao7 (encP k x y z a b c data)) := Lib.hid hy7
          have HN7 := Lib.hid hn7
          change Own w7 w.heap.size (.slice ao7 (encP k x y z a b c data).length cap7) (encP k x y z a b c data) at hown7
          rw [show (preV (UInt8.ofNat k) x y z a b c 3 ++ data) = encP k x y z a b c data from rfl, ← hTL]
          rw [← hTL] at hown7 HEL
          have HLD := Lib.hid (laid_any ((TL : Nat) : Int) 4 (by omega) w7)
          have HTE := Lib.hid hTL
          have s7 := HB7.out.size
          generalize fitsV ((TL : Nat) : Int) 4 = okk at *
          clear hown7 hg7 hb7 hy7 hl7 hm7 hn7 hlo7 hTL cF cS
          go_wp2_with fail
          refine HLD.out.mono ?_
          rintro e w8 ⟨v8, rfl, hb8, ho8⟩
          have HO8 := Lib.hid (ho8.mono s7)
          have HB8 := Lib.hid (chain HB7.out hb8)
          have HY8 := Lib.hid (HY7.out.keep hb8)
          have s8 := HB8.out.size
          have HL8 : Hid ((laidV ((TL : Nat) : Int) 4).length + TL ≤ 140737488355328) := Lib.hid (by rw [laid_length]; omega)
          clear hb8 ho8
          go_wp2_with (at_builtin; refine wpList_append_bytes rfl (.tmp 81) (.tmp 82) rfl w.heap.size _ _ rfl HO8.out ao7 TL cap7 _ rfl HTE.out HY8.out HN7.out HL8.out s8 ?_)
          intro v9 w9 hown9 hg9
          have hb9 : Below w.heap.size w8 w9 := (Below.refl _ _).grown hg9 s8 (fun k hk => HO8.out.block k hk)
          have HO9 := Lib.hid hown9
          have HB9 := Lib.hid (HB8.out.trans hb9)
          clear hown9 hg9 hb9
          go_wp2_with fail
          go_ret2
          refine ⟨v9, by rw [HEK.out]; rfl, HB9.out, by rw [HEL.out]; exact HO9.out⟩
end Go.Proofs.Ytmmppgkhlelbmaa.Fr
