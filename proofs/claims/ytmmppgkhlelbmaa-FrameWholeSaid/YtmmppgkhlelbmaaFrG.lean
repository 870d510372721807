/- Contract of the reference's Parse. Condition: bytes lie at the slice. -/
import Derived.Test.YtmmppgkhlelbmaaFrF
import Derived.Deep.RegionHeld3
import Derived.BigQuiet
namespace Go.Proofs.Ytmmppgkhlelbmaa.Fr
open Go.RowKit Ba
set_option linter.unusedVariables false
def lowV (l : List UInt8) (p : Int) (m : Nat) : Nat := leV ((l.drop p.toNat).take m)

theorem lowV_at (kb : UInt8) (r : List UInt8) (m y : Nat) (p : Int) (hp : p = 1 + m) : lowV (kb :: r) p y = leV ((r.drop m).take y) := by
  unfold lowV
  rw [show p.toNat = m + 1 by omega]
  rfl
set_option maxRecDepth 100000 in
set_option maxHeartbeats 1600000 in
theorem rparse_none (a : Option Addr) (cap : Nat) (w : World) :
    Calls Try.prog 17 #[.slice a 0 cap] w (Parsed Fr.zero 2 w) := by
  have hz := fun w => (by kernel_rfl : (zeroValue 40).run Try.prog w = .ok (.agg #[.int .i64 0, .int .i64 0, .int .i64 0, .int .i64 0, .slice none 0 0]) w)
  go_enter Try.func17, Try.ntmps17
  go_wp2_with fail
  refine bodyPost_ret (v := .tuple #[.agg #[_, _, _, _, _], .int .i64 2]) (by simp [results, Try.results17, go_sem]) rfl ⟨_, rfl, FrIs.zero _ _, ?_⟩
  exact (Below.refl _ _).alloc (Nat.le_refl _) _
set_option maxRecDepth 100000 in
set_option maxHeartbeats 1600000 in
theorem rparse_kind (k : Nat) (hk : k < 256) (hno : ¬ isKind k) (b off n cap : Nat) (w : World) (hc : w.cell? ⟨b, off, none⟩ = some (.int .u8 k)) :
    Calls Try.prog 17 #[.slice (some ⟨b, off, none⟩) (n + 1) cap] w (Parsed Fr.zero 7 w) := by
  have hz := fun w => (by kernel_rfl : (zeroValue 40).run Try.prog w = .ok (.agg #[.int .i64 0, .int .i64 0, .int .i64 0, .int .i64 0, .slice none 0 0]) w)
  have hnl := fun w => Lib.run_eql_slice_nil (P := Try.prog) w 57 3 none 0 0 0 0 Try.underlying57
  have HS := Lib.hid (fun w => widths_no k hno w)
  clear hno
  have hlt := cell_lt hc
  go_enter Try.func17, Try.ntmps17
  go_wp2_with fail
  refine (HS.out _).mono ?_
  rintro e w1 ⟨rfl, rfl⟩
  go_wp2_with fail
  refine bodyPost_ret (v := .tuple #[.agg #[_, _, _, _, _], .int .i64 7]) (by simp [results, Try.results17, go_sem]) rfl ⟨_, rfl, FrIs.zero _ _, ?_⟩
  exact (Below.refl _ _).alloc (Nat.le_refl _) _
set_option maxRecDepth 100000 in
set_option maxHeartbeats 6400000 in
theorem rparse_big (k x y z : Nat) (hk : k < 256) (q : Bool) (hx : x ≤ 4) (hy : y ≤ 4) (hz4 : z ≤ 4) (b off n cap : Nat) (r : List UInt8) (hn : n = r.length) (hle : x + y + z ≤ n) (h1 : 1 ≤ x) (f : Fr) (cd : Nat) (hfc : (q = false ∧ x + y + z < n ∧ f = Fr.zero ∧ cd = 3) ∨ ((q = true ∨ n = x + y + z) ∧ f = ⟨k, fN x y z r 0, fN x y z r 1, fN x y z r 2, r.drop (x + y + z)⟩ ∧ cd = 0)) (hm : n ≤ 140737488355327) (hcap : n + 1 ≤ cap) (hcap2 : cap ≤ maxLen) (w : World)
    (kb : UInt8) (hkb : kb.toNat = k) (hr : Bytes w (some ⟨b, off, none⟩) (kb :: r)) (HS : Hid (∀ w, Calls Try.prog 27 #[.int .i64 (k : Nat)] w (Widths x y z q w))) :
    Calls Try.prog 17 #[.slice (some ⟨b, off, none⟩) (n + 1) cap] w (Parsed f cd w) := by
  have HFC := Lib.hid hfc
  clear hfc
  have hz := fun w => (by kernel_rfl : (zeroValue 40).run Try.prog w = .ok (.agg #[.int .i64 0, .int .i64 0, .int .i64 0, .int .i64 0, .slice none 0 0]) w)
  obtain ⟨b', off', e0, hc⟩ := hr 0 (by simp)
  cases e0
  have hc : w.cell? ⟨b, off, none⟩ = some (.int .u8 k) := by rw [← hkb]; exact hc
  have hnl := fun w g => Lib.run_eql_slice_nil (P := Try.prog) w 57 3 (some ⟨g, 0, none⟩) 3 3 0 0 Try.underlying57
  have hlt := cell_lt hc
  have HR := Lib.hid hr
  have HN := Lib.hid hn
  clear hn hr hkb
  have R0 := Lib.hid (Blk.new w #[.int .i64 0, .int .i64 0, .int .i64 0, .int .i64 0, .slice none 0 0] 40)
  have hb0 : Below w.heap.size w (w.alloc (Obj.cells #[.int .i64 0, .int .i64 0, .int .i64 0, .int .i64 0, .slice none 0 0] 40)) := (Below.refl _ _).alloc (Nat.le_refl _) _
  have hs0 : (w.alloc (Obj.cells #[.int .i64 0, .int .i64 0, .int .i64 0, .int .i64 0, .slice none 0 0] 40)).heap.size = w.heap.size + 1 := by simp
  go_enter Try.func17, Try.ntmps17
  go_wp2_with fail
  generalize w.alloc (Obj.cells #[.int .i64 0, .int .i64 0, .int .i64 0, .int .i64 0, .slice none 0 0] 40) = w0 at *
  refine (HS.out _).mono ?_
  rintro e w1 ⟨g, rfl, hg, hbk, hb1⟩
  have W1 := Lib.hid hbk
  have R1 := Lib.hid (R0.out.keep hb1)
  have HB1 := Lib.hid (chain hb0 hb1)
  have s1 := HB1.out.size
  have s01 : w.heap.size + 1 ≤ w1.heap.size := by have := hb1.size; omega
  have hg' : w.heap.size + 1 ≤ g := by omega
  have hgl := W1.out.lt
  have e0 := W1.out.cell (i := 0) rfl
  have e1 := W1.out.cell (i := 1) rfl
  have e2 := W1.out.cell (i := 2) rfl
  clear hb1 R0 hbk hb0 hg
  go_wp2_with fail
  go_quiet (fail)
  go_wp2_with fail
  have W2 := Lib.hid (show Blk (w1.drewN nq) g 3 _ from W1.out)
  have R2 := Lib.hid (show Blk (w1.drewN nq) w.heap.size 40 _ from R1.out)
  have HB2 := Lib.hid (below_dn HB1.out nq)
  generalize w1.drewN nq = w2 at *
  have s2 := HB2.out.size
  have hgl2 := W2.out.lt
  have HSS : Hid (∀ w', Below w2.heap.size w2 w' → w'.cell? ⟨g, 0, none⟩ = some (.int .i64 x) ∧ w'.cell? ⟨g, 1, none⟩ = some (.int .i64 y) ∧ w'.cell? ⟨g, 2, none⟩ = some (.int .i64 z) ∧ w'.cell? ⟨b, off, none⟩ = some (.int .u8 k)) := Lib.hid (fun w' hb' =>
    ⟨(W2.out.keep hb').cell (i := 0) rfl, (W2.out.keep hb').cell (i := 1) rfl, (W2.out.keep hb').cell (i := 2) rfl, ((chain HB2.out hb').cell (p := ⟨b, off, none⟩) hlt).trans hc⟩)
  have HLOW : Hid (∀ (p : Int) (m : Nat) (w' : World), 0 ≤ p ∧ p + m ≤ n + 1 ∧ m ≤ 4 → Below w2.heap.size w2 w' → Calls Try.prog 23 #[.slice (some ⟨b, off, none⟩) (n + 1) cap, .int .i64 p, .int .i64 m] w' fun e w'' => e = .returned (.int .i64 (lowV (kb :: r) p m : Nat)) ∧ w' = w'') := Lib.hid (fun p m w' hp hb' => by
    have := low_any (kb :: r) m p.toNat hp.2.2 (n + 1) (by rw [List.length_cons, ← HN.out]) (by omega) (by omega) (some ⟨b, off, none⟩) cap w' (HR.out.keep (chain HB2.out hb'))
    rw [Int.toNat_of_nonneg hp.1] at this
    exact this)
  have hS0 := (HSS.out w2 (Below.refl _ _))
  clear e0 e1 e2 W1 R1 HB1 s1 s01 hgl
  have hw0 : IntKind.i64.wrap (k : Int) = k := by simp [IntKind.wrap, IntKind.bits, IntKind.signed]; omega
  have hw1 : IntKind.i64.wrap (1 + (x : Int)) = 1 + x := by simp [IntKind.wrap, IntKind.bits, IntKind.signed]; omega
  have hw2 : IntKind.i64.wrap (1 + (x : Int) + y) = 1 + x + y := by simp [IntKind.wrap, IntKind.bits, IntKind.signed]; omega
  go_region_held3 (fun w' => w'.cell? ⟨g, 0, none⟩ = some (.int .i64 x) ∧ w'.cell? ⟨g, 1, none⟩ = some (.int .i64 y) ∧ w'.cell? ⟨g, 2, none⟩ = some (.int .i64 z) ∧ w'.cell? ⟨b, off, none⟩ = some (.int .u8 k))
    (exact HSS.out _ (by first | exact (Below.refl _ _).drew | exact ((Below.refl _ _).drew).alloc (Nat.le_refl _) _ | exact ((Below.refl _ _).alloc (Nat.le_refl _) _).drew))
    (first | (go_at_call 23; refine (HLOW.out _ _ _ (by omega) (by first | exact (Below.refl _ _).drew | exact ((Below.refl _ _).drew).alloc (Nat.le_refl _) _ | exact ((Below.refl _ _).alloc (Nat.le_refl _) _).drew)).mono ?_; rintro e w' ⟨rfl, rfl⟩))
  all_goals
    have R3 := Lib.hid ((R2.out.alloc (Obj.cells #[.int .i64 (k : Nat), .int .i64 (lowV (kb :: r) 1 x : Nat), .int .i64 (lowV (kb :: r) (1 + x) y : Nat), .int .i64 (lowV (kb :: r) (1 + x + y) z : Nat), .slice none 0 0] 40)).drew)
    have F3 := Lib.hid ((Blk.new w2 #[.int .i64 (k : Nat), .int .i64 (lowV (kb :: r) 1 x : Nat), .int .i64 (lowV (kb :: r) (1 + x) y : Nat), .int .i64 (lowV (kb :: r) (1 + x + y) z : Nat), .slice none 0 0] 40).drew)
    have HB3 := Lib.hid ((HB2.out.alloc s2 (Obj.cells #[.int .i64 (k : Nat), .int .i64 (lowV (kb :: r) 1 x : Nat), .int .i64 (lowV (kb :: r) (1 + x) y : Nat), .int .i64 (lowV (kb :: r) (1 + x + y) z : Nat), .slice none 0 0] 40)).drew)
    have hcut : ∀ w, (Instr.slice 22 (.slice (some ⟨b, off, none⟩) (n + 1) cap) (some (.int .i64 (1 + (x : Int) + y + z))) none none).run Try.prog w = .ok (.slice (cutA (some ⟨b, off, none⟩) (1 + x + y + z) cap) (n + 1 - (1 + x + y + z)) (cap - (1 + x + y + z))) w := fun w => run_cut_from (P := Try.prog) 22 5 Try.underlying22 size_u8 (some ⟨b, off, none⟩) (n + 1) cap .i64 (1 + x + y + z) (by omega) w
    generalize (w2.alloc (Obj.cells #[.int .i64 (k : Nat), .int .i64 (lowV (kb :: r) 1 x : Nat), .int .i64 (lowV (kb :: r) (1 + x) y : Nat), .int .i64 (lowV (kb :: r) (1 + x + y) z : Nat), .slice none 0 0] 40)).drew = w3 at *
    have s3 := HB3.out.size
    clear HLOW HSS hS0
    rcases HFC.out with ⟨rfl, hl2, rfl, rfl⟩ | ⟨hq, rfl, rfl⟩
    · have c0 := R3.out.cell (i := 0) rfl
      have c1 := R3.out.cell (i := 1) rfl
      have c2 := R3.out.cell (i := 2) rfl
      have c3 := R3.out.cell (i := 3) rfl
      have c4 := R3.out.cell (i := 4) rfl
      have fz := fun i => R3.out.frozen i
      clear HFC
      go_wp2_with fail
      obtain ⟨W, hW, Q, hbW, _⟩ := R3.out.put5 (.int .i64 0) (.int .i64 0) (.int .i64 0) (.int .i64 0) (.slice none 0 0)
      rw [hW]
      have d0 := Q.cell (i := 0) rfl
      have d1 := Q.cell (i := 1) rfl
      have d2 := Q.cell (i := 2) rfl
      have d3 := Q.cell (i := 3) rfl
      have d4 := Q.cell (i := 4) rfl
      refine bodyPost_ret (v := .tuple #[.agg #[_, _, _, _, _], .int .i64 3]) (by simp [results, Try.results17, go_sem, d0, d1, d2, d3, d4]) rfl ⟨_, rfl, FrIs.zero _ _, ?_⟩
      exact hbW _ _ (Nat.le_refl _) HB3.out
    · have hx3 : q = true ∨ (q = false ∧ ¬ (x + y + z < n)) := by
        rcases hq with hq | hq
        · exact .inl hq
        · cases q
          · exact .inr ⟨rfl, by omega⟩
          · exact .inl rfl
      clear HFC hq
      have HLL : Hid (n + 1 - (1 + x + y + z) = (r.drop (x + y + z)).length) := Lib.hid (by rw [List.length_drop, ← HN.out]; omega)
      have HBB : Hid (Bytes w3 (cutA (some ⟨b, off, none⟩) (1 + x + y + z) cap) (r.drop (x + y + z))) := Lib.hid (by
        have h0 := (HR.out.keep HB3.out).drop (1 + x + y + z) cap (by rw [List.length_cons, ← HN.out]; omega)
        rw [show 1 + x + y + z = (x + y + z) + 1 by omega, List.drop_succ_cons] at h0
        rw [show 1 + x + y + z = (x + y + z) + 1 by omega]
        exact h0)
      have HNC : Hid (cutA (some ⟨b, off, none⟩) (1 + x + y + z) cap = none → cap - (1 + x + y + z) = 0) := Lib.hid (by unfold cutA; split <;> simp)
      have ltR := R3.out.lt
      have ltF := F3.out.lt
      rcases hx3 with rfl | ⟨rfl, hl3⟩
      all_goals
        go_wp2_with (at_builtin; refine wpList_append_bytes rfl (.const (.slice none 0 0)) (.tmp 83) rfl w3.heap.size _ [] rfl (Own.nil _ _) (cutA (some ⟨b, off, none⟩) (1 + x + y + z) cap) (n + 1 - (1 + x + y + z)) (cap - (1 + x + y + z)) (r.drop (x + y + z)) rfl HLL.out HBB.out HNC.out (by simp; omega) (Nat.le_refl _) ?_)
        intro v5 w5 hown hg
        have hb5 : Below w3.heap.size w3 w5 := (Below.refl _ _).grown hg (Nat.le_refl _) (fun k hk => by cases hk)
        obtain ⟨ao5, cap5, rfl, hby5, hl5, hm5, hn5, hlo5⟩ := hown.view2
        have R5 := Lib.hid (R3.out.keep hb5)
        have F5 := Lib.hid (F3.out.keep hb5)
        have c0 := R5.out.cell (i := 0) rfl
        have c1 := R5.out.cell (i := 1) rfl
        have c2 := R5.out.cell (i := 2) rfl
        have c3 := R5.out.cell (i := 3) rfl
        have c4 := R5.out.cell (i := 4) rfl
        have fz := fun i => R5.out.frozen i
        have d0 := F5.out.cell (i := 0) rfl
        have d1 := F5.out.cell (i := 1) rfl
        have d2 := F5.out.cell (i := 2) rfl
        have d3 := F5.out.cell (i := 3) rfl
        have d4 := F5.out.cell (i := 4) rfl
        have fy := fun i => F5.out.frozen i
        have HB5 := Lib.hid (chain HB3.out hb5)
        have HLO := Lib.hid hlo5
        have hne : ¬ w.heap.size = w2.heap.size := by omega
        clear hb5 hby5 hl5 hm5 hn5 hlo5 hg
        obtain ⟨ln, hln⟩ : ∃ ln, ln = (r.drop (x + y + z)).length := ⟨_, rfl⟩
        rw [← hln] at hown ⊢
        have HO5 := Lib.hid hown
        have HLN := Lib.hid hln
        clear hln hown
        go_wp2_with fail
        have F6 := F5.out.set 4 (.slice ao5 ln cap5)
        have R6 := R5.out.setOther (a := ⟨w2.heap.size, 4, none⟩) hne (.slice ao5 ln cap5)
        have HB6 : Below w.heap.size w (w5.setCell ⟨w2.heap.size, 4, none⟩ (.slice ao5 ln cap5)) := HB5.out.setCell (by simp; omega) _
        have HY6 := HO5.out.setOther (a := ⟨w2.heap.size, 4, none⟩) (fun k hk => by have := HO5.out.block k hk; show k ≠ w2.heap.size; omega) (.slice ao5 ln cap5)
        obtain ⟨W, hW, Q, hbW, _, _, hoW⟩ := R6.put5 (.int .i64 (k : Nat)) (.int .i64 (lowV (kb :: r) 1 x : Nat)) (.int .i64 (lowV (kb :: r) (1 + x) y : Nat)) (.int .i64 (lowV (kb :: r) (1 + x + y) z : Nat)) (.slice ao5 ln cap5)
        rw [hW]
        have q0 := Q.cell (i := 0) rfl
        have q1 := Q.cell (i := 1) rfl
        have q2 := Q.cell (i := 2) rfl
        have q3 := Q.cell (i := 3) rfl
        have q4 := Q.cell (i := 4) rfl
        refine bodyPost_ret (v := .tuple #[.agg #[.int .i64 (k : Nat), .int .i64 (lowV (kb :: r) 1 x : Nat), .int .i64 (lowV (kb :: r) (1 + x) y : Nat), .int .i64 (lowV (kb :: r) (1 + x + y) z : Nat), .slice ao5 ln cap5], .int .i64 0]) (by simp [results, Try.results17, go_sem, q0, q1, q2, q3, q4]) rfl ⟨_, rfl, ⟨ao5, cap5, ?_, ?_⟩, ?_⟩
        · rw [lowV_at kb r 0 x 1 (by omega), lowV_at kb r x y (1 + x) (by omega), lowV_at kb r (x + y) z (1 + x + y) (by omega), ← HLN.out]
          rfl
        · rw [← HLN.out]
          exact (hoW _ _ _ HY6 (fun k hk => by have := HO5.out.block k hk; omega)).mono s3
        · exact hbW _ _ (Nat.le_refl _) HB6
end Go.Proofs.Ytmmppgkhlelbmaa.Fr
