/- FrameEncodes, walked; a message that came in, opened. Condition: bytes lie at the data's slice. -/
import Derived.Test.YtmmppgkhlelbmaaFrR
import Derived.Test.YtmmppgkhlelbmaaFrV
import Derived.Test.YtmmppgkhlelbmaaOpen
import Derived.Deep.Fields
namespace Go.Proofs.Ytmmppgkhlelbmaa.Fr
open Go.RowKit Ba Go.Deep Go.ChangeShapes Go.WideShapes Go.ChangeAt
set_option linter.unusedVariables false

/-- A message's five cells, opened. -/
theorem open_five {H : Type} {enc : TypeId × Value → H} {w : World} {held : Bool} {fuel : Nat} {cs : List Value} {x : DataW H × List MemPlace} (hl : cs.length = 5)
    (h : DataW.trod enc Try.prog w 0 (fun _ => true) held fuel 40 cs = some x) :
    ∃ (a b c d : Int) (o : Option Addr) (len cap : Nat) (zs : List Int), cs = [.int .i64 a, .int .i64 b, .int .i64 c, .int .i64 d, .slice o len cap] ∧ IsRow .u8 w o len cap zs := by
  have ci : Try.prog.cellsOf 3 = 1 := by kernel_rfl
  have cb : Try.prog.cellsOf 22 = 1 := by kernel_rfl
  obtain ⟨xs, n, _, _, _, hxl, hg⟩ := DataW.trod_struct Try.underlying40 h
  match cs, hl with
  | [v0, v1, v2, v3, v4], _ =>
    have hx5 : xs.length = 5 := hxl
    match xs, hx5 with
    | [y0, y1, y2, y3, y4], _ =>
      have t0 : DataW.trod enc Try.prog w 0 (fun _ => true) held n 3 (List.take (Try.prog.cellsOf 3) [v0, v1, v2, v3, v4]) = some y0 := hg 0 _ rfl
      have t1 : DataW.trod enc Try.prog w 0 (fun _ => true) held n 3 (List.take (Try.prog.cellsOf 3) [v1, v2, v3, v4]) = some y1 := hg 1 _ rfl
      have t2 : DataW.trod enc Try.prog w 0 (fun _ => true) held n 3 (List.take (Try.prog.cellsOf 3) [v2, v3, v4]) = some y2 := hg 2 _ rfl
      have t3 : DataW.trod enc Try.prog w 0 (fun _ => true) held n 3 (List.take (Try.prog.cellsOf 3) [v3, v4]) = some y3 := hg 3 _ rfl
      have t4 : DataW.trod enc Try.prog w 0 (fun _ => true) held n 22 (List.take (Try.prog.cellsOf 22) [v4]) = some y4 := hg 4 _ rfl
      rw [ci] at t0 t1 t2 t3
      rw [cb] at t4
      obtain ⟨a, e0, _, _⟩ := DataW.trod_int Try.underlying3 t0
      obtain ⟨b, e1, _, _⟩ := DataW.trod_int Try.underlying3 t1
      obtain ⟨c, e2, _, _⟩ := DataW.trod_int Try.underlying3 t2
      obtain ⟨d, e3, _, _⟩ := DataW.trod_int Try.underlying3 t3
      simp at e0 e1 e2 e3
      subst e0 e1 e2 e3
      rcases open_ints Try.underlying22 Try.underlying5 (by kernel_rfl) t4 with ⟨hcs, _⟩ | ⟨ad, l, cap, zs, hcs, _, hl', hm, hz, _, hcell, hwz⟩
      · simp at hcs
        subst hcs
        exact ⟨a, b, c, d, none, 0, 0, [], rfl, .inl ⟨rfl, rfl, rfl, rfl⟩⟩
      · simp at hcs
        subst hcs
        exact ⟨a, b, c, d, some ad, l, cap, zs, rfl, .inr ⟨_, rfl, hl', hm, by simpa using hz, hcell, hwz⟩⟩
theorem open_fr {H : Type} {enc : TypeId × Value → H} {w : World} {held : Bool} {r : Reach} {b0 : Nat} {v : Value} {d : DataW H} {p : List MemPlace} (hv : Value.okWide Try.prog w r b0 40 v)
    (h : DataW.Trod enc Try.prog w 0 (fun _ => true) held 40 v d p) :
    ∃ (a b c d : Int) (o : Option Addr) (len cap : Nat) (zs : List Int), v = .agg #[.int .i64 a, .int .i64 b, .int .i64 c, .int .i64 d, .slice o len cap] ∧ IsRow .u8 w o len cap zs := by
  have cf : Try.prog.cellsOf 40 = 5 := by kernel_rfl
  obtain ⟨cs, rfl, hsz⟩ := okWide_struct Try.underlying40 hv
  obtain ⟨fuel, hf⟩ := h
  obtain ⟨a, b, c, d, o, len, cap, zs, hcs, hrow⟩ := open_five (cs := cs.toList) (by rw [Array.length_toList, hsz, cf]) hf
  refine ⟨a, b, c, d, o, len, cap, zs, ?_, hrow⟩
  have : cs = #[.int .i64 a, .int .i64 b, .int .i64 c, .int .i64 d, .slice o len cap] := by
    apply Array.ext'
    exact hcs
  rw [this]

/-- Both Encode's, of any message. -/
def encCode (t a b c : Int) (data : List UInt8) : Nat := if 1 ≤ t ∧ t ≤ 10 then encK (wid t.toNat).1 (wid t.toNat).2.1 (wid t.toNat).2.2.1 (wid t.toNat).2.2.2 a b c data else 7
def encBytes (t a b c : Int) (data : List UInt8) : List UInt8 := if 1 ≤ t ∧ t ≤ 10 then encL t.toNat (wid t.toNat).1 (wid t.toNat).2.1 (wid t.toNat).2.2.1 (wid t.toNat).2.2.2 a b c data else []
theorem encode_any (t a b c : Int) (data : List UInt8) (ad : Option Addr) (nd cd : Nat) (hn : nd = data.length) (hm : nd ≤ 1000000000) (hnil : ad = none → cd = 0) (w : World) (hb : Bytes w ad data) :
    Calls Try.prog 18 #[.agg #[.int .i64 t, .int .i64 a, .int .i64 b, .int .i64 c, .slice ad nd cd]] w (Encd (encBytes t a b c data) (encCode t a b c data) w) := by
  unfold encBytes encCode
  by_cases h : 1 ≤ t ∧ t ≤ 10
  · rw [if_pos h, if_pos h]
    obtain ⟨g1, g2, g3, g4⟩ := wid_le t.toNat
    have hk : 1 ≤ t.toNat ∧ t.toNat ≤ 10 := by omega
    have := encode_yes t.toNat _ _ _ hk (wid t.toNat).2.2.2 g1 g2 g3 a b c data ad nd cd hn hm hnil w hb (fun w => shapeOf_yes t.toNat hk w)
    rw [Int.toNat_of_nonneg (by omega)] at this
    exact this
  · rw [if_neg h, if_neg h]
    exact encode_kind t h a b c _ w
theorem rencode_any (t a b c : Int) (data : List UInt8) (ad : Option Addr) (nd cd : Nat) (hn : nd = data.length) (hm : nd ≤ 1000000000) (hnil : ad = none → cd = 0) (w : World) (hb : Bytes w ad data) :
    Calls Try.prog 20 #[.agg #[.int .i64 t, .int .i64 a, .int .i64 b, .int .i64 c, .slice ad nd cd]] w (Encd (encBytes t a b c data) (encCode t a b c data) w) := by
  unfold encBytes encCode
  by_cases h : 1 ≤ t ∧ t ≤ 10
  · rw [if_pos h, if_pos h]
    obtain ⟨g1, g2, g3, g4⟩ := wid_le t.toNat
    have hk : 1 ≤ t.toNat ∧ t.toNat ≤ 10 := by omega
    have := rencode_yes t.toNat _ _ _ hk (wid t.toNat).2.2.2 g1 g2 g3 a b c data ad nd cd hn hm hnil w hb (fun w => widths_yes t.toNat hk w)
    rw [Int.toNat_of_nonneg (by omega)] at this
    exact this
  · rw [if_neg h, if_neg h]
    exact rencode_kind t h a b c _ w
/-- What is encoded is a message behind its length, and is parsed as it was. -/
theorem enc_whole (t a b c : Int) (data : List UInt8) (h : encCode t a b c data = 0) :
    ∃ pay : List UInt8, encBytes t a b c data = laidV ((pay.length : Nat) : Int) 4 ++ pay ∧ pay.length ≤ 262208 ∧ parseC pay = 0 ∧ parseF pay = ⟨t, a, b, c, data⟩ := by
  unfold encCode at h
  by_cases hk : 1 ≤ t ∧ t ≤ 10
  · rw [if_pos hk] at h
    obtain ⟨h1, h2, h3⟩ := encK_ok h
    have hp := parse_enc t.toNat (by omega) a b c data h1 h2
    rw [Int.toNat_of_nonneg (by omega)] at hp
    refine ⟨encP t.toNat (wid t.toNat).1 (wid t.toNat).2.1 (wid t.toNat).2.2.1 a b c data, ?_, by rw [encP_length]; exact h3, hp.1, hp.2⟩
    unfold encBytes encL
    rw [if_pos hk, if_pos h]
  · rw [if_neg hk] at h; cases h
/-- 'append([]byte(nil), x...)' at a step of a region that draws its order. -/
theorem step_clone_bytes {w : World} {ops : Array Oper} {o : Oper} {a : Act} {K : Act → World → Prop} {Q : Exit → Act → World → Prop} {E : Prop} (hgd : o.guard = none) (s x : Operand)
    (ho : o.op = .call { callee := .builtin .append, args := #[s, x], argTypes := #[22, 22] })
    (base : Nat) (hs : a.eval s = .slice none 0 0)
    (ao : Option Addr) (m c : Nat) (news : List UInt8) (hx : a.eval x = .slice ao m c) (hm : m = news.length) (hnews : Bytes w ao news) (hnil : ao = none → c = 0)
    (hbd : m ≤ 140737488355328) (hbase : base ≤ w.heap.size)
    (h : ∀ ao' c' w', Own w' base (.slice ao' m c') news → w.grownBy w' none → K (a.put o.dst (.slice ao' m c')) w') :
    if Region.wanted o (yielded ops a.tmps) = true then Oper.wp Try.prog o a w K Q else E := by
  refine step_append_bytes hgd s x ho base _ [] hs (Own.nil _ _) ao m c news hx hm hnews hnil (by simp; omega) hbase ?_
  intro v' w' hown hg
  obtain ⟨a8, c8, rfl, _⟩ := hown.view2
  rw [List.nil_append, ← hm] at hown
  have := h a8 c8 w' hown hg
  rw [List.nil_append, ← hm]
  exact this
/-- The law's Frame: the same message, its data anew. -/
def Framed (t a b c : Int) (data : List UInt8) (w : World) (e : Ending) (w' : World) : Prop :=
  ∃ ao n cap, e = .returned (.agg #[.int .i64 t, .int .i64 a, .int .i64 b, .int .i64 c, .slice ao n cap]) ∧ n = data.length ∧ Own w' w.heap.size (.slice ao n cap) data ∧ Below w.heap.size w w'
set_option maxRecDepth 100000 in
set_option maxHeartbeats 3200000 in
theorem frame_any (t a b c : Int) (data : List UInt8) (ad : Option Addr) (nd cd : Nat) (hn : nd = data.length) (hm : nd ≤ 1000000000) (hnil : ad = none → cd = 0) (w : World) (hb : Bytes w ad data) :
    Calls Try.prog 19 #[.agg #[.int .i64 t, .int .i64 a, .int .i64 b, .int .i64 c, .slice ad nd cd]] w (Framed t a b c data w) := by
  have hz := fun w => (by kernel_rfl : (zeroValue 39).run Try.prog w = .ok (.agg #[.int .i64 0, .int .i64 0, .int .i64 0, .int .i64 0, .slice none 0 0]) w)
  have HN := Lib.hid hn
  have HB := Lib.hid hb
  have HNIL := Lib.hid hnil
  have HM : Hid (nd ≤ 140737488355328) := Lib.hid (by omega)
  clear hn hb hnil
  have F0 := Lib.hid ((Blk.new w #[.int .i64 t, .int .i64 a, .int .i64 b, .int .i64 c, .slice ad nd cd] 40))
  have hb0 : Below w.heap.size w (w.alloc (Obj.cells #[.int .i64 t, .int .i64 a, .int .i64 b, .int .i64 c, .slice ad nd cd] 40)) := (Below.refl _ _).alloc (Nat.le_refl _) _
  have hs0 : (w.alloc (Obj.cells #[.int .i64 t, .int .i64 a, .int .i64 b, .int .i64 c, .slice ad nd cd] 40)).heap.size = w.heap.size + 1 := by simp
  go_enter Try.func19, Try.ntmps19
  go_wp2_with fail
  generalize w.alloc (Obj.cells #[.int .i64 t, .int .i64 a, .int .i64 b, .int .i64 c, .slice ad nd cd] 40) = w0 at *
  have R0 := Lib.hid (Blk.new w0 #[.int .i64 0, .int .i64 0, .int .i64 0, .int .i64 0, .slice none 0 0] 39)
  have F1 := Lib.hid (F0.out.alloc (Obj.cells #[.int .i64 0, .int .i64 0, .int .i64 0, .int .i64 0, .slice none 0 0] 39))
  have hb1 := hb0.alloc hb0.size (Obj.cells #[.int .i64 0, .int .i64 0, .int .i64 0, .int .i64 0, .slice none 0 0] 39)
  rw [hs0] at R0
  generalize w0.alloc (Obj.cells #[.int .i64 0, .int .i64 0, .int .i64 0, .int .i64 0, .slice none 0 0] 39) = w1 at *
  have HB1 := Lib.hid hb1
  have HS := Lib.hid hs0
  clear hb0 hb1 hs0 F0
  have hS0 : w1.drew.cell? ⟨w.heap.size, 0, none⟩ = some (.int .i64 t) ∧ w1.drew.cell? ⟨w.heap.size, 1, none⟩ = some (.int .i64 a) ∧ w1.drew.cell? ⟨w.heap.size, 2, none⟩ = some (.int .i64 b) ∧ w1.drew.cell? ⟨w.heap.size, 3, none⟩ = some (.int .i64 c) ∧ w1.drew.cell? ⟨w.heap.size, 4, none⟩ = some (.slice ad nd cd) := by
    have H := F1.out.drew
    exact ⟨H.cell (i := 0) rfl, H.cell (i := 1) rfl, H.cell (i := 2) rfl, H.cell (i := 3) rfl, H.cell (i := 4) rfl⟩
  have rz := R0.out.drew
  have q0 := rz.cell (i := 0) rfl
  have q1 := rz.cell (i := 1) rfl
  have q2 := rz.cell (i := 2) rfl
  have q3 := rz.cell (i := 3) rfl
  have q4 := rz.cell (i := 4) rfl
  have fz := fun i => rz.frozen i
  clear rz
  go_region_held3 (fun w' => w'.cell? ⟨w.heap.size, 0, none⟩ = some (.int .i64 t) ∧ w'.cell? ⟨w.heap.size, 1, none⟩ = some (.int .i64 a) ∧ w'.cell? ⟨w.heap.size, 2, none⟩ = some (.int .i64 b) ∧ w'.cell? ⟨w.heap.size, 3, none⟩ = some (.int .i64 c) ∧ w'.cell? ⟨w.heap.size, 4, none⟩ = some (.slice ad nd cd))
    (first | with_reducible exact hS0 | with_reducible exact hS1 | (rw [HW9.out]; exact HS2.out))
    (first
      | (refine step_clone_bytes (by rfl) (.const (.slice none 0 0)) (.tmp 12) (by rfl) w.heap.size (by rfl) ad nd cd data (by rfl) HN.out (HB.out.keep HB1.out.drew) HNIL.out HM.out HB1.out.drew.size ?_; intro a8 c8 w8 hown8 hg8; have hb8 : Below w.heap.size w w8 := HB1.out.drew.grown hg8 HB1.out.drew.size (fun k hk => by cases hk); have hF8 := F1.out.drew.grown (Own.nil w1.drew w.heap.size) (by decide) hg8; have hR8 := R0.out.drew.grown (Own.nil w1.drew w.heap.size) (by decide) hg8; have hS1 : w8.cell? ⟨w.heap.size, 0, none⟩ = some (.int .i64 t) ∧ w8.cell? ⟨w.heap.size, 1, none⟩ = some (.int .i64 a) ∧ w8.cell? ⟨w.heap.size, 2, none⟩ = some (.int .i64 b) ∧ w8.cell? ⟨w.heap.size, 3, none⟩ = some (.int .i64 c) ∧ w8.cell? ⟨w.heap.size, 4, none⟩ = some (.slice ad nd cd) := ⟨hF8.cell (i := 0) rfl, hF8.cell (i := 1) rfl, hF8.cell (i := 2) rfl, hF8.cell (i := 3) rfl, hF8.cell (i := 4) rfl⟩; have r0 := hR8.cell (i := 0) rfl; have r1 := hR8.cell (i := 1) rfl; have r2 := hR8.cell (i := 2) rfl; have r3 := hR8.cell (i := 3) rfl; have r4 := hR8.cell (i := 4) rfl; have fz8 := fun i => hR8.frozen i; obtain ⟨W9, hW9, Q9, hbW9, _, hkW9, hoW9⟩ := hR8.put5 (.int .i64 t) (.int .i64 a) (.int .i64 b) (.int .i64 c) (.slice a8 nd c8); have hF9 := hkW9 _ _ _ (by omega) hF8; have HS2 : Hid (W9.cell? ⟨w.heap.size, 0, none⟩ = some (.int .i64 t) ∧ W9.cell? ⟨w.heap.size, 1, none⟩ = some (.int .i64 a) ∧ W9.cell? ⟨w.heap.size, 2, none⟩ = some (.int .i64 b) ∧ W9.cell? ⟨w.heap.size, 3, none⟩ = some (.int .i64 c) ∧ W9.cell? ⟨w.heap.size, 4, none⟩ = some (.slice ad nd cd)) := ⟨hF9.cell (i := 0) rfl, hF9.cell (i := 1) rfl, hF9.cell (i := 2) rfl, hF9.cell (i := 3) rfl, hF9.cell (i := 4) rfl⟩; have HW9 := Lib.hid hW9; have HQ9 := Lib.hid Q9; have HB9 : Hid (Below w.heap.size w W9) := hbW9 _ _ (by omega) hb8; have HO9 : Hid (Own W9 w.heap.size (.slice a8 nd c8) data) := hoW9 _ _ _ hown8 (hown8.ne hR8 (by decide)); clear hown8 hR8 hb8 hF8 hg8 hW9 Q9 hbW9 hkW9 hoW9 hF9))
  all_goals
    rename_i hh
    clear hh
    rw [HW9.out]
    clear hS1 r0 r1 r2 r3 r4 fz8 HS2 q0 q1 q2 q3 q4 fz hS0 HW9
    have q0 := HQ9.out.cell (i := 0) rfl
    have q1 := HQ9.out.cell (i := 1) rfl
    have q2 := HQ9.out.cell (i := 2) rfl
    have q3 := HQ9.out.cell (i := 3) rfl
    have q4 := HQ9.out.cell (i := 4) rfl
    go_wp2_with fail
    refine bodyPost_ret (v := .agg #[.int .i64 t, .int .i64 a, .int .i64 b, .int .i64 c, .slice a8 nd c8]) (by simp [results, Try.results19, go_sem, q0, q1, q2, q3, q4]) rfl ⟨a8, nd, c8, rfl, HN.out, HO9.out, HB9.out⟩
set_option maxRecDepth 100000 in
set_option maxHeartbeats 12800000 in
theorem encodes_any (t a b c : Int) (data : List UInt8) (ad : Option Addr) (nd cd : Nat) (hn : nd = data.length) (hm : nd ≤ maxLen) (hnil : ad = none → cd = 0) (w : World) (hb : Bytes w ad data) :
    Calls Try.prog 5 #[.agg #[.int .i64 t, .int .i64 a, .int .i64 b, .int .i64 c, .slice ad nd cd]] w fun e w' => e = .returned (.bool true) ∧ Below w.heap.size w w' := by
  have HN := Lib.hid hn
  have HB := Lib.hid hb
  have HNIL := Lib.hid hnil
  have HM := Lib.hid hm
  clear hn hb hnil hm
  have F0 := Lib.hid ((Blk.new w #[.int .i64 t, .int .i64 a, .int .i64 b, .int .i64 c, .slice ad nd cd] 40))
  have hb0 : Below w.heap.size w (w.alloc (Obj.cells #[.int .i64 t, .int .i64 a, .int .i64 b, .int .i64 c, .slice ad nd cd] 40)) := (Below.refl _ _).alloc (Nat.le_refl _) _
  have hz := fun w => (by kernel_rfl : (zeroValue 39).run Try.prog w = .ok (.agg #[.int .i64 0, .int .i64 0, .int .i64 0, .int .i64 0, .slice none 0 0]) w)
  have hcase : (5000 : Int) < nd ∨ (¬ (5000 : Int) < nd ∧ nd ≤ 1000000000) := by omega
  go_enter Try.func5, Try.ntmps5
  go_wp2_with fail
  generalize w.alloc (Obj.cells #[.int .i64 t, .int .i64 a, .int .i64 b, .int .i64 c, .slice ad nd cd] 40) = w0 at *
  refine (awake_any _).mono ?_
  rintro e w1 ⟨rfl, hb1⟩
  have F1 := Lib.hid (F0.out.keep hb1)
  have HB1 := Lib.hid (chain hb0 hb1)
  clear hb0 hb1 F0
  have c0 := F1.out.cell (i := 0) rfl
  have c1 := F1.out.cell (i := 1) rfl
  have c2 := F1.out.cell (i := 2) rfl
  have c3 := F1.out.cell (i := 3) rfl
  have c4 := F1.out.cell (i := 4) rfl
  rcases hcase with hbig | ⟨hsm, hm9⟩
  · go_wp2_with fail
    go_ret
    exact ⟨rfl, HB1.out⟩
  · have HM9 := Lib.hid hm9
    clear hm9
    go_wp2_with fail
    refine (frame_any t a b c data ad nd cd HN.out HM9.out HNIL.out w1 (HB.out.keep HB1.out)).mono ?_
    rintro e w2 ⟨a2, n2, cp2, rfl, hn2, ho2, hb2⟩
    have F2 := Lib.hid (F1.out.keep hb2)
    have HB2 := Lib.hid (chain HB1.out hb2)
    have HO2 := Lib.hid ho2
    have HN2 := Lib.hid hn2
    clear c0 c1 c2 c3 c4 hn2 ho2 hb2
    go_wp2_with fail
    have hy2 : Bytes w2 a2 data ∧ (a2 = none → cp2 = 0) := by
      obtain ⟨ao, cap, e, h1, _, _, h4, _⟩ := HO2.out.view2
      cases e
      exact ⟨h1, h4⟩
    refine (encode_any t a b c data a2 n2 cp2 HN2.out (by rw [HN2.out, ← HN.out]; exact HM9.out) hy2.2 w2 hy2.1).mono ?_
    clear hy2
    rintro e w3 ⟨v3, rfl, hb3, ho3⟩
    obtain ⟨a3, cp3, rfl, hy3, hl3, hm3, hn3, _⟩ := ho3.view2
    have HY3 := Lib.hid hy3
    have HM3 := Lib.hid (And.intro hl3 (And.intro hm3 hn3))
    have F3 := Lib.hid (F2.out.keep hb3)
    have HB3 := Lib.hid (chain HB2.out hb3)
    have c0 := F3.out.cell (i := 0) rfl
    have c1 := F3.out.cell (i := 1) rfl
    have c2 := F3.out.cell (i := 2) rfl
    have c3 := F3.out.cell (i := 3) rfl
    have c4 := F3.out.cell (i := 4) rfl
    clear ho3 hy3 hl3 hm3 hn3 hb3
    have HRE := Lib.hid (rencode_any t a b c data ad nd cd HN.out HM9.out HNIL.out w3 (HB.out.keep HB3.out))
    have HW := Lib.hid (fun h => enc_whole t a b c data h)
    obtain ⟨K, hK⟩ : ∃ K, K = encCode t a b c data := ⟨_, rfl⟩
    rw [← hK] at HRE HW ⊢
    clear hK
    generalize encBytes t a b c data = eb at *
    obtain ⟨L3, hL3⟩ : ∃ L, L = eb.length := ⟨_, rfl⟩
    rw [← hL3] at HM3 ⊢
    have HL3 := Lib.hid hL3
    clear hL3
    go_wp2_with fail
    refine HRE.out.mono ?_
    rintro e w4 ⟨v4, rfl, hb4, ho4⟩
    obtain ⟨a4, cp4, rfl, hy4, _, _, _, _⟩ := ho4.view2
    rw [← HL3.out]
    have HB4 := Lib.hid (chain HB3.out hb4)
    have F4 := Lib.hid (F3.out.keep hb4)
    have HB34 := Lib.hid hb4
    obtain ⟨s, hs⟩ : ∃ s : ByteArray, s = ⟨eb.toArray⟩ := ⟨_, rfl⟩
    have r3 := run_str a3 L3 cp3 eb HL3.out w4 (HY3.out.keep hb4)
    have r4 := run_str a4 L3 cp4 eb HL3.out w4 hy4
    rw [← hs] at r3 r4
    have hss : (s != s) = false := by have := str_refl s; simp [bne, this]
    have hkk : ((K : Int) != (K : Int)) = false := by simp
    clear hb4 ho4 hy4 hs HRE c0 c1 c2 c3 c4
    have hK0 : K = 0 ∨ ((K : Int) != 0) = true := by
      by_cases h : K = 0
      · exact .inl h
      · exact .inr (bne_iff_ne.2 (by omega))
    have HK0 := Lib.hid hK0
    clear hK0
    rcases HK0.out with rfl | hk1
    · obtain ⟨pay, heb, hpl, hpc, hpf⟩ := HW.out rfl
      have hl3 : L3 = 4 + pay.length := by rw [HL3.out, heb, List.length_append, laid_length]
      have HYP := Lib.hid (fun u (hu : Below w3.heap.size w3 u) => by
        have h := (HY3.out.drop 4 cp3 (by rw [← HL3.out]; exact HM3.out.1)).keep hu
        rw [heb, List.drop_left' (laid_length _ _)] at h
        exact h)
      obtain ⟨PL, hPL⟩ : ∃ L, L = pay.length := ⟨_, rfl⟩
      rw [← hPL] at hl3 hpl
      have hcut : ∀ w, (Instr.slice 22 (.slice a3 L3 cp3) (some (.int .i64 4)) none none).run Try.prog w = .ok (.slice (cutA a3 4 cp3) PL (cp3 - 4)) w := fun w => by
        have h := run_cut_from (P := Try.prog) 22 5 Try.underlying22 size_u8 a3 L3 cp3 .i64 4 (by omega) w
        rw [show L3 - 4 = PL by omega] at h
        exact h
      have HPA := Lib.hid (parse_any pay (cutA a3 4 cp3) PL (cp3 - 4) hPL (by omega) (by have := HM3.out.1; omega) (by have := HM3.out.2.1; omega) w4 (HYP.out w4 HB34.out))
      rw [hpc, hpf] at HPA
      have hk0 : (((0 : Nat) : Int) != 0) = false := rfl
      clear hpc hpf heb HYP HW HL3 HM3 HY3 hPL hl3 hpl HK0 hss HB34 HN2 HO2 HB3 HB2 F2 F3 F1 HB1
      go_wp2_with fail
      refine HPA.out.mono ?_
      rintro e w5 ⟨v5, rfl, ⟨a5, c5, hv5, hd5⟩, hb5⟩
      have hv5' : v5 = .agg #[.int .i64 t, .int .i64 a, .int .i64 b, .int .i64 c, .slice a5 data.length c5] := hv5
      subst hv5'
      have F5 := Lib.hid (F4.out.keep hb5)
      have HB5 := Lib.hid (chain HB4.out hb5)
      clear hv5 hb5 r3 r4
      have c0 := F5.out.cell (i := 0) rfl
      have c1 := F5.out.cell (i := 1) rfl
      have c2 := F5.out.cell (i := 2) rfl
      have c3 := F5.out.cell (i := 3) rfl
      have c4 := F5.out.cell (i := 4) rfl
      have lt5 := F5.out.lt
      rw [← HN.out] at hd5 ⊢
      have HD5 := Lib.hid hd5
      clear hd5
      go_wp2_with fail
      generalize hw6 : w5.alloc (Obj.cells #[.int .i64 t, .int .i64 a, .int .i64 b, .int .i64 c, .slice a5 nd c5] 39) = w6
      have hb6 : Below w5.heap.size w5 w6 := by rw [← hw6]; exact (Below.refl _ _).alloc (Nat.le_refl _) _
      refine (same_yes ⟨t, a, b, c, data⟩ a5 ad nd nd c5 cd HN.out HN.out w6 (HD5.out.keep hb6).bytes (HB.out.keep (chain HB5.out hb6))).mono ?_
      rintro e w7 ⟨rfl, hb7⟩
      have HB7 := Lib.hid (chain (chain HB5.out hb6) hb7)
      clear hb6 hb7 hw6 c0 c1 c2 c3 c4
      go_wp2_with fail
      go_ret
      exact ⟨rfl, HB7.out⟩
    · go_wp2_with fail
      go_ret
      exact ⟨rfl, HB4.out⟩
end Go.Proofs.Ytmmppgkhlelbmaa.Fr
