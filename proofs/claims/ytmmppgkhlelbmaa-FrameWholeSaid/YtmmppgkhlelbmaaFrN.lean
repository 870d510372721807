/- Same, and what is parsed is encoded as it stood: FrameParses. Condition: bytes lie at the slices. -/
import Derived.Test.YtmmppgkhlelbmaaFrM
import Derived.Laws.IdiomStrings
import Derived.Laws.BytesArg
namespace Go.Proofs.Ytmmppgkhlelbmaa.Fr
open Go.RowKit Ba Go.Deep
set_option linter.unusedVariables false

theorem run_str (ao : Option Addr) (n cap : Nat) (bs : List UInt8) (hn : n = bs.length) (w : World) (hb : Bytes w ao bs) :
    (convert 22 9 (.slice ao n cap)).run Try.prog w = .ok (.string ⟨bs.toArray⟩) w := by
  subst hn
  cases ao with
  | none =>
    have : bs = [] := by
      cases bs with
      | nil => rfl
      | cons u l => obtain ⟨b, off, e, _⟩ := hb 0 (by simp); cases e
    subst this
    exact run_convert_bytes_nil w 22 5 Try.underlying22 Try.underlying5 _ _ 9 Try.underlying9
  | some x =>
    by_cases h0 : bs.length = 0
    · have : bs = [] := List.length_eq_zero_iff.1 h0
      subst this
      exact run_convert_bytes_back w 22 9 5 x cap [] Try.underlying22 Try.underlying5 Try.underlying9 (fun j hj => by simp at hj)
    · refine run_convert_bytes_back w 22 9 5 x cap bs Try.underlying22 Try.underlying5 Try.underlying9 (fun j hj => ?_)
      obtain ⟨b, off, e, hcell⟩ := hb j hj
      simp only [Option.some.injEq] at e
      subst e
      have ea : (Addr.add ⟨b, off, none⟩ j) = ⟨b, off + j, none⟩ := by
        unfold Addr.add
        by_cases h0 : j = 0
        · subst h0; simp
        · simp [h0]
      rw [ea, hcell]
theorem str_refl (s : ByteArray) : (s == s) = true := by
  cases s with
  | mk d =>
    show (d == d) = true
    exact beq_self_eq_true d
set_option maxRecDepth 100000 in
set_option maxHeartbeats 1600000 in
theorem same_yes (f : Fr) (a1 a2 : Option Addr) (n1 n2 c1 c2 : Nat) (h1 : n1 = f.data.length) (h2 : n2 = f.data.length) (w : World) (hb1 : Bytes w a1 f.data) (hb2 : Bytes w a2 f.data) :
    Calls Try.prog 15 #[.agg #[.int .i64 f.t, .int .i64 f.a, .int .i64 f.b, .int .i64 f.c, .slice a1 n1 c1], .agg #[.int .i64 f.t, .int .i64 f.a, .int .i64 f.b, .int .i64 f.c, .slice a2 n2 c2]] w fun e w' => e = .returned (.bool true) ∧ Below w.heap.size w w' := by
  have e1 : (f.t == f.t) = true := by simp
  have e2 : (f.a == f.a) = true := by simp
  have e3 : (f.b == f.b) = true := by simp
  have e4 : (f.c == f.c) = true := by simp
  obtain ⟨s, hs⟩ : ∃ s : ByteArray, s = ⟨f.data.toArray⟩ := ⟨_, rfl⟩
  have e5 := str_refl s
  have hb0 : Below w.heap.size w ((w.alloc (Obj.cells #[.int .i64 f.t, .int .i64 f.a, .int .i64 f.b, .int .i64 f.c, .slice a1 n1 c1] 39)).alloc (Obj.cells #[.int .i64 f.t, .int .i64 f.a, .int .i64 f.b, .int .i64 f.c, .slice a2 n2 c2] 40)) := ((Below.refl w.heap.size w).alloc (Nat.le_refl _) _).alloc (by simp) _
  have r1 := run_str a1 n1 c1 f.data h1 _ (hb1.keep hb0)
  have r2 := run_str a2 n2 c2 f.data h2 _ (hb2.keep hb0)
  rw [← hs] at r1 r2
  have HB := Lib.hid hb0
  clear hb0 hs h1 h2 hb1 hb2
  go_enter Try.func15, Try.ntmps15
  go_wp2_with fail
  go_ret
  exact ⟨rfl, HB.out⟩

/-! The plain law. -/
theorem laid_cons (n : Int) (m : Nat) : laidV n (m + 1) = UInt8.ofNat (n % 256).toNat :: laidV (n / 256) m := by
  unfold laidV
  rw [List.range_succ_eq_map, List.map_cons, List.map_map]
  refine congr (congrArg List.cons (by simp)) ?_
  apply List.map_congr_left
  intro i _
  show UInt8.ofNat (n / 2 ^ (8 * (i + 1)) % 256).toNat = UInt8.ofNat (n / 256 / 2 ^ (8 * i) % 256).toNat
  rw [Int.ediv_ediv_of_nonneg (by decide), show (2 : Int) ^ (8 * (i + 1)) = 256 * 2 ^ (8 * i) by rw [show 8 * (i + 1) = 8 + 8 * i by omega, Int.pow_add]; rfl]
theorem laid_leV : ∀ (l : List UInt8), laidV ((leV l : Nat) : Int) l.length = l
  | [] => rfl
  | b :: l => by
    have hb := b.toNat_lt
    rw [List.length_cons, laid_cons, leV_cons]
    have e1 : (((b.toNat + 256 * leV l : Nat) : Int) % 256).toNat = b.toNat := by omega
    have e2 : ((b.toNat + 256 * leV l : Nat) : Int) / 256 = ((leV l : Nat) : Int) := by omega
    rw [e1, e2, laid_leV l]
    simp
theorem fits_leV (l : List UInt8) : fitsV ((leV l : Nat) : Int) l.length = true := by
  unfold fitsV
  have h := leV_lt l
  have e : ((leV l : Nat) : Int) / 2 ^ (8 * l.length) = 0 := by
    apply Int.ediv_eq_zero_of_lt (by omega)
    have : (256 : Nat) ^ l.length = 2 ^ (8 * l.length) := by rw [show (256 : Nat) = 2 ^ 8 by rfl, ← Nat.pow_mul]
    rw [this] at h
    exact_mod_cast h
  rw [e]
  simp
theorem take_len (r : List UInt8) (a b : Nat) (h : a + b ≤ r.length) : ((r.drop a).take b).length = b := by rw [List.length_take, List.length_drop]; omega
theorem back_fit (x y z : Nat) (r : List UInt8) (h : x + y + z ≤ r.length) : fit3 x y z (fN x y z r 0) (fN x y z r 1) (fN x y z r 2) = true := by
  apply fit3_yes
  intro i hi
  have : i = 0 ∨ i = 1 ∨ i = 2 := by omega
  rcases this with rfl | rfl | rfl
  · have := fits_leV ((r.drop 0).take x)
    rw [take_len r 0 x (by omega)] at this
    exact this
  · have := fits_leV ((r.drop x).take y)
    rw [take_len r x y (by omega)] at this
    exact this
  · have := fits_leV ((r.drop (x + y)).take z)
    rw [take_len r (x + y) z (by omega)] at this
    exact this
theorem back_pay (kb : UInt8) (x y z : Nat) (r : List UInt8) (h : x + y + z ≤ r.length) : encP kb.toNat x y z (fN x y z r 0) (fN x y z r 1) (fN x y z r 2) (r.drop (x + y + z)) = kb :: r := by
  have l0 : laidV (fN x y z r 0 : Nat) x = (r.drop 0).take x := by
    have := laid_leV ((r.drop 0).take x)
    rw [take_len r 0 x (by omega)] at this
    exact this
  have l1 : laidV (fN x y z r 1 : Nat) y = (r.drop x).take y := by
    have := laid_leV ((r.drop x).take y)
    rw [take_len r x y (by omega)] at this
    exact this
  have l2 : laidV (fN x y z r 2 : Nat) z = (r.drop (x + y)).take z := by
    have := laid_leV ((r.drop (x + y)).take z)
    rw [take_len r (x + y) z (by omega)] at this
    exact this
  have hk : UInt8.ofNat kb.toNat = kb := by simp
  show (([UInt8.ofNat kb.toNat] ++ laidV (fN x y z r 0 : Nat) x) ++ laidV (fN x y z r 1 : Nat) y) ++ laidV (fN x y z r 2 : Nat) z ++ r.drop (x + y + z) = _
  rw [l0, l1, l2, hk]
  have e : r = (r.drop 0).take x ++ ((r.drop x).take y ++ ((r.drop (x + y)).take z ++ r.drop (x + y + z))) := by
    have h3 : (r.drop (x + y)).take z ++ r.drop (x + y + z) = r.drop (x + y) := by have := List.take_append_drop z (r.drop (x + y)); rwa [List.drop_drop] at this
    have h2 : (r.drop x).take y ++ r.drop (x + y) = r.drop x := by have := List.take_append_drop y (r.drop x); rwa [List.drop_drop] at this
    rw [h3, h2, List.drop_zero, List.take_append_drop]
  simp only [List.append_assoc, List.singleton_append, List.cons_append]
  exact congrArg (kb :: ·) e.symm
theorem parse_back (kb : UInt8) (r : List UInt8) (h : parseC (kb :: r) = 0) (hl : r.length + 1 ≤ 262208) :
    1 ≤ kb.toNat ∧ kb.toNat ≤ 10 ∧ tot kb.toNat ≤ r.length ∧
    encK (wid kb.toNat).1 (wid kb.toNat).2.1 (wid kb.toNat).2.2.1 (wid kb.toNat).2.2.2 (frOf kb r).a (frOf kb r).b (frOf kb r).c (frOf kb r).data = 0 ∧
    encP kb.toNat (wid kb.toNat).1 (wid kb.toNat).2.1 (wid kb.toNat).2.2.1 (frOf kb r).a (frOf kb r).b (frOf kb r).c (frOf kb r).data = kb :: r := by
  rw [parseC_cons] at h
  by_cases hk : 1 ≤ kb.toNat ∧ kb.toNat ≤ 10
  · rw [if_pos hk] at h
    by_cases hs : r.length < tot kb.toNat
    · rw [if_pos hs] at h; cases h
    · rw [if_neg hs] at h
      by_cases hq : (wid kb.toNat).2.2.2 = false ∧ tot kb.toNat < r.length
      · rw [if_pos hq] at h; cases h
      · have ht : tot kb.toNat ≤ r.length := by omega
        refine ⟨hk.1, hk.2, ht, ?_, back_pay kb _ _ _ r ht⟩
        unfold encK
        rw [if_neg (by rw [show fit3 _ _ _ (frOf kb r).a (frOf kb r).b (frOf kb r).c = true from back_fit _ _ _ r ht]; decide), if_neg, if_neg]
        · show ¬ 262208 < 1 + tot kb.toNat + (r.drop (tot kb.toNat)).length
          rw [List.length_drop]; omega
        · rintro ⟨h1, h2⟩
          have h2 : 0 < (r.drop (tot kb.toNat)).length := h2
          rw [List.length_drop] at h2
          exact hq ⟨h1, by omega⟩
  · rw [if_neg hk] at h; cases h
end Go.Proofs.Ytmmppgkhlelbmaa.Fr
