/- The contract of FilterPaeth: true at any three bytes. No condition. -/
import Derived.Test.YtfkhdakeojhpaaaFiltW
import Derived.BigQuiet
namespace Go.Proofs.Ytfkhdakeojhpaaa.Fi
open Go.RowKit Ba

def foretold (a b c : UInt8) : Int := (a.toNat : Int) + b.toNat - c.toNat
/-- How far a byte is from what is foretold. -/
def farV (a b c x : UInt8) : Int := offV (foretold a b c) x.toNat
theorem far_max (a b c x : UInt8) (v : Int) (hv : v = foretold a b c - x.toNat) : (if v < -v then -v else v) = farV a b c x := by
  subst hv
  unfold farV offV
  split <;> split <;> omega
theorem far_bound (a b c x : UInt8) : 0 ≤ farV a b c x ∧ farV a b c x ≤ 1000 := by
  have := a.toNat_lt
  have := b.toNat_lt
  have := c.toNat_lt
  have := x.toNat_lt
  unfold farV offV foretold
  split <;> omega
/-- The law of the three. -/
theorem paeth_law (a b c : UInt8) : (paethV a b c = a ∨ paethV a b c = b ∨ paethV a b c = c) ∧ farV a b c (paethV a b c) ≤ farV a b c a ∧ farV a b c (paethV a b c) ≤ farV a b c b ∧ farV a b c (paethV a b c) ≤ farV a b c c ∧ (farV a b c (paethV a b c) < farV a b c a ∨ paethV a b c = a) := by
  have e1 : offV ((a.toNat : Int) + b.toNat - c.toNat) a.toNat = farV a b c a := rfl
  have e2 : offV ((a.toNat : Int) + b.toNat - c.toNat) b.toNat = farV a b c b := rfl
  have e3 : offV ((a.toNat : Int) + b.toNat - c.toNat) c.toNat = farV a b c c := rfl
  unfold paethV
  rw [e1, e2, e3]
  split
  · rename_i h
    exact ⟨.inl rfl, Int.le_refl _, h.1, h.2, .inr rfl⟩
  · rename_i h
    split
    · rename_i h2
      exact ⟨.inr (.inl rfl), by omega, Int.le_refl _, h2, .inl (by omega)⟩
    · rename_i h2
      exact ⟨.inr (.inr rfl), by omega, by omega, Int.le_refl _, .inl (by omega)⟩

set_option maxRecDepth 100000 in
set_option maxHeartbeats 800000 in
theorem away_law (pa pb pc : Addr) (a b c x : UInt8) (w : World) (ha : w.cell? pa = some (.int .u8 (a.toNat : Nat))) (hb : w.cell? pb = some (.int .u8 (b.toNat : Nat))) (hc : w.cell? pc = some (.int .u8 (c.toNat : Nat))) :
    Calls Try.prog 11 #[.int .u8 (x.toNat : Nat), .pointer (some pa), .pointer (some pb), .pointer (some pc)] w fun e w' => e = .returned (.int .i64 (farV a b c x)) ∧ w' = w := by
  have HM := Lib.hid (fun v hv => far_max a b c x v hv)
  have la := a.toNat_lt
  have lb := b.toNat_lt
  have lc := c.toNat_lt
  have lx := x.toNat_lt
  have HF : Hid (foretold a b c = (a.toNat : Int) + b.toNat - c.toNat) := Lib.hid rfl
  go_enter Try.func11, Try.ntmps11
  go_wp2_with fail
  all_goals
    have e := HM.out _ rfl
    rw [HF.out] at e
    generalize farV a b c x = f at *
    go_ret
    refine ⟨?_, rfl⟩
    simp
    split at e <;> omega

set_option maxRecDepth 100000 in
set_option maxHeartbeats 12000000 in
theorem paethLaw_any (a b c : UInt8) (w : World) :
    Calls Try.prog 4 #[.int .u8 (a.toNat : Nat), .int .u8 (b.toNat : Nat), .int .u8 (c.toNat : Nat)] w fun e w' => e = .returned (.bool true) ∧ Below w.heap.size w w' := by
  have L := Lib.hid (paeth_law a b c)
  go_enter Try.func4, Try.ntmps4
  go_wp2_with fail
  have hw0 : Below w.heap.size w (((w.alloc (Obj.cells #[Value.int .u8 (a.toNat : Nat)] 5)).alloc (Obj.cells #[Value.int .u8 (b.toNat : Nat)] 5)).alloc (Obj.cells #[Value.int .u8 (c.toNat : Nat)] 5)) :=
    (((Below.refl _ _).alloc (Nat.le_refl _) _).alloc (by simp) _).alloc (by simp; omega) _
  have hz1 : (w.alloc (Obj.cells #[Value.int .u8 (a.toNat : Nat)] 5)).heap.size = w.heap.size + 1 := by simp
  have hz2 : ((w.alloc (Obj.cells #[Value.int .u8 (a.toNat : Nat)] 5)).alloc (Obj.cells #[Value.int .u8 (b.toNat : Nat)] 5)).heap.size = w.heap.size + 2 := by simp
  have c0 : (((w.alloc (Obj.cells #[Value.int .u8 (a.toNat : Nat)] 5)).alloc (Obj.cells #[Value.int .u8 (b.toNat : Nat)] 5)).alloc (Obj.cells #[Value.int .u8 (c.toNat : Nat)] 5)).cell? ⟨w.heap.size, 0, none⟩ = some (.int .u8 (a.toNat : Nat)) := by
    refine (((Below.refl (w.heap.size + 1) (w.alloc (Obj.cells #[Value.int .u8 (a.toNat : Nat)] 5))).alloc (by rw [hz1]; exact Nat.le_refl _) _).alloc (by rw [hz2]; omega) _ |>.cell (p := ⟨w.heap.size, 0, none⟩) (by simp)).trans ?_
    exact World.cell?_alloc_mark w _ _ _ 0
  have c1 : (((w.alloc (Obj.cells #[Value.int .u8 (a.toNat : Nat)] 5)).alloc (Obj.cells #[Value.int .u8 (b.toNat : Nat)] 5)).alloc (Obj.cells #[Value.int .u8 (c.toNat : Nat)] 5)).cell? ⟨w.heap.size + 1, 0, none⟩ = some (.int .u8 (b.toNat : Nat)) := by
    refine ((Below.refl (w.heap.size + 2) ((w.alloc (Obj.cells #[Value.int .u8 (a.toNat : Nat)] 5)).alloc (Obj.cells #[Value.int .u8 (b.toNat : Nat)] 5))).alloc (by rw [hz2]; exact Nat.le_refl _) _ |>.cell (p := ⟨w.heap.size + 1, 0, none⟩) (by simp)).trans ?_
    rw [← hz1]
    exact World.cell?_alloc_mark _ _ _ _ 0
  have c2 : (((w.alloc (Obj.cells #[Value.int .u8 (a.toNat : Nat)] 5)).alloc (Obj.cells #[Value.int .u8 (b.toNat : Nat)] 5)).alloc (Obj.cells #[Value.int .u8 (c.toNat : Nat)] 5)).cell? ⟨w.heap.size + 2, 0, none⟩ = some (.int .u8 (c.toNat : Nat)) := by
    rw [← hz2]
    exact World.cell?_alloc_mark _ _ _ _ 0
  have hz3 : (((w.alloc (Obj.cells #[Value.int .u8 (a.toNat : Nat)] 5)).alloc (Obj.cells #[Value.int .u8 (b.toNat : Nat)] 5)).alloc (Obj.cells #[Value.int .u8 (c.toNat : Nat)] 5)).heap.size = w.heap.size + 3 := by simp
  clear hz1 hz2
  generalize (((w.alloc (Obj.cells #[Value.int .u8 (a.toNat : Nat)] 5)).alloc (Obj.cells #[Value.int .u8 (b.toNat : Nat)] 5)).alloc (Obj.cells #[Value.int .u8 (c.toNat : Nat)] 5)) = w0 at *
  refine (awake_any _).mono ?_
  rintro e w1 ⟨rfl, hb1⟩
  have d0 := (hb1.cell (p := ⟨w.heap.size, 0, none⟩) (by simp; omega)).trans c0
  have d1 := (hb1.cell (p := ⟨w.heap.size + 1, 0, none⟩) (by simp; omega)).trans c1
  have d2 := (hb1.cell (p := ⟨w.heap.size + 2, 0, none⟩) (by simp; omega)).trans c2
  have HB1 := Lib.hid (chain hw0 hb1)
  clear hb1 hw0 c0 c1 c2 hz3
  have HP := Lib.hid (fun w => paeth_any a b c w)
  have HPR := Lib.hid (fun w n => (paethRef_any a b c (World.drewN w n)).mono (fun e w' h => (⟨h.1, h.2.symm⟩ : _ ∧ w' = World.drewN w n)))
  have HFx := Lib.hid (fun (x : UInt8) (wx : World) (h0 : wx.cell? ⟨w.heap.size, 0, none⟩ = some (.int .u8 (a.toNat : Nat))) (h1 : wx.cell? ⟨w.heap.size + 1, 0, none⟩ = some (.int .u8 (b.toNat : Nat))) (h2 : wx.cell? ⟨w.heap.size + 2, 0, none⟩ = some (.int .u8 (c.toNat : Nat))) => away_law ⟨w.heap.size, 0, none⟩ ⟨w.heap.size + 1, 0, none⟩ ⟨w.heap.size + 2, 0, none⟩ a b c x wx h0 h1 h2)
  have HFar := Lib.hid (fun (x : UInt8) (n : Nat) => HFx.out x (w1.drewN n) d0 d1 d2)
  have hl := L.out
  clear L HFx
  generalize farV a b c = far at *
  generalize paethV a b c = p at *
  obtain ⟨l0, l1, l2, l3, l4⟩ := hl
  have hne : ∀ x y : UInt8, x ≠ y → ((x.toNat : Int) == (y.toNat : Int)) = false := fun x y h => by
    rw [beq_eq_false_iff_ne]
    intro e
    exact h (UInt8.toNat_inj.1 (by omega))
  have heq : ∀ x : UInt8, ((x.toNat : Int) == (x.toNat : Int)) = true := fun x => by simp
  have hcase : p = a ∨ (p ≠ a ∧ p = b) ∨ (p ≠ a ∧ p ≠ b ∧ p = c) := by
    by_cases k1 : p = a
    · exact .inl k1
    · by_cases k2 : p = b
      · exact .inr (.inl ⟨k1, k2⟩)
      · exact .inr (.inr ⟨k1, k2, (l0.resolve_left k1).resolve_left k2⟩)
  have hq : decide (far p < far a) = true ∨ p = a := l4.imp (fun h => by simpa using h) id
  have u1 : decide (far p ≤ far a) = true := by simpa using l1
  have u2 : decide (far p ≤ far b) = true := by simpa using l2
  have u3 : decide (far p ≤ far c) = true := by simpa using l3
  have hself : ∀ x : UInt8, decide (far x < far x) = false := fun x => by simp
  have tpp := heq p
  clear l0 l1 l2 l3 l4
  rcases hcase with k | ⟨k1, k⟩ | ⟨k1, k2, k⟩
  · subst k
    have u4 := hself p
    clear hself hne heq hq
    go_wp2_with fail
    refine (HP.out _).mono ?_
    rintro e w' ⟨rfl, rfl⟩
    go_wp2_with fail
    go_quiet ((first | (go_at_call 12; exact Calls.quiet_of_same (HPR.out _ _)) | (go_at_call 11; exact Calls.quiet_of_same (HFar.out _ _))))
    go_wp2_with fail
    go_ret
    refine ⟨?_, HB1.out.trans ⟨rfl, rfl, rfl, Nat.le_refl _, fun _ _ => rfl⟩⟩
    first | rfl | simp
  · have v1 := hne p a k1
    have v2 := hq.resolve_right k1
    subst k
    clear hself hne heq hq k1
    go_wp2_with fail
    refine (HP.out _).mono ?_
    rintro e w' ⟨rfl, rfl⟩
    go_wp2_with fail
    go_quiet ((first | (go_at_call 12; exact Calls.quiet_of_same (HPR.out _ _)) | (go_at_call 11; exact Calls.quiet_of_same (HFar.out _ _))))
    go_wp2_with fail
    go_ret
    refine ⟨?_, HB1.out.trans ⟨rfl, rfl, rfl, Nat.le_refl _, fun _ _ => rfl⟩⟩
    first | rfl | simp
  · have v1 := hne p a k1
    have v3 := hne p b k2
    have v2 := hq.resolve_right k1
    subst k
    clear hself hne heq hq k1 k2
    go_wp2_with fail
    refine (HP.out _).mono ?_
    rintro e w' ⟨rfl, rfl⟩
    go_wp2_with fail
    go_quiet ((first | (go_at_call 12; exact Calls.quiet_of_same (HPR.out _ _)) | (go_at_call 11; exact Calls.quiet_of_same (HFar.out _ _))))
    go_wp2_with fail
    go_ret
    refine ⟨?_, HB1.out.trans ⟨rfl, rfl, rfl, Nat.le_refl _, fun _ _ => rfl⟩⟩
    first | rfl | simp
end Go.Proofs.Ytfkhdakeojhpaaa.Fi
