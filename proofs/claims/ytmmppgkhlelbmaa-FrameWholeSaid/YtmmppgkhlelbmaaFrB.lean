/- Contracts of frame: size, number, laid. Condition: bytes lie at the slices. -/
import Derived.Test.YtmmppgkhlelbmaaFrA
import Derived.Laws.BitsAllLaws
import Derived.BigQuiet
namespace Go.Proofs.Ytmmppgkhlelbmaa.Fr
open Go.RowKit Ba

/-- Bytes' number, the lowest first. -/
def leV : List UInt8 → Nat
  | [] => 0
  | b :: l => b.toNat + 256 * leV l
theorem leV_lt (l : List UInt8) : leV l < 256 ^ l.length := by
  induction l with
  | nil => simp [leV]
  | cons b l ih =>
    have := b.toNat_lt
    simp only [leV, List.length_cons, Nat.pow_succ]
    omega
theorem i64_or_nat (a b : Nat) (ha : a < 4611686018427387904) (hb : b < 4611686018427387904) : bits .or .i64 (a : Int) (b : Int) = ((a ||| b : Nat) : Int) := by
  have hx : a ||| b < 2 ^ 62 := Nat.or_lt_two_pow (by omega) (by omega)
  show IntKind.i64.wrap ((BitVec.ofInt 64 (a : Int) ||| BitVec.ofInt 64 (b : Int)).toNat : Int) = _
  rw [BitVec.toNat_or, ofInt_u64 a (by omega), ofInt_u64 b (by omega)]
  unfold IntKind.wrap
  simp [IntKind.bits, IntKind.signed]
  omega
theorem leV_append (l : List UInt8) (b : UInt8) : leV (l ++ [b]) = leV l + b.toNat * 256 ^ l.length := by
  induction l with
  | nil => simp [leV]
  | cons c l ih =>
    simp only [List.cons_append, leV, ih, List.length_cons, Nat.pow_succ]
    rw [Nat.mul_add, Nat.add_assoc]
    congr 2
    rw [Nat.mul_comm (256 ^ l.length) 256, Nat.mul_left_comm]
theorem num_step (p x j : Nat) (hp : p < 256 ^ j) (hx : x < 256) (hj : j < 4) : bits .or .i64 (p : Int) (wrap64 ((x : Int) * 2 ^ (8 * j))) = ((p + x * 256 ^ j : Nat) : Int) := by
  have hj' : j = 0 ∨ j = 1 ∨ j = 2 ∨ j = 3 := by omega
  rcases hj' with rfl | rfl | rfl | rfl
  · have hp0 : p = 0 := by simpa using hp
    subst hp0
    have e : wrap64 ((x : Int) * 2 ^ (8 * 0)) = ((x : Nat) : Int) := by simp; unfold wrap64; omega
    rw [e, i64_or_nat _ _ (by omega) (by omega)]
    simp
  · have e : wrap64 ((x : Int) * 2 ^ (8 * 1)) = ((x * 256 : Nat) : Int) := by simp; unfold wrap64; omega
    simp at hp
    rw [e, i64_or_nat _ _ (by omega) (by omega), Nat.or_comm, nat_join 8 (x * 256) p (by omega) (by omega)]
    simp; omega
  · have e : wrap64 ((x : Int) * 2 ^ (8 * 2)) = ((x * 65536 : Nat) : Int) := by simp; unfold wrap64; omega
    simp at hp
    rw [e, i64_or_nat _ _ (by omega) (by omega), Nat.or_comm, nat_join 16 (x * 65536) p (by omega) (by omega)]
    simp; omega
  · have e : wrap64 ((x : Int) * 2 ^ (8 * 3)) = ((x * 16777216 : Nat) : Int) := by simp; unfold wrap64; omega
    simp at hp
    rw [e, i64_or_nat _ _ (by omega) (by omega), Nat.or_comm, nat_join 24 (x * 16777216) p (by omega) (by omega)]
    simp; omega
set_option maxRecDepth 100000 in
set_option maxHeartbeats 1600000 in
theorem size_any (k : Nat) (w : World) :
    Calls Try.prog 25 #[shapeVal k] w fun e w' => e = .returned (.int .i64 (((wid k).1 + (wid k).2.1 + (wid k).2.2.1 : Nat) : Int)) ∧ Below w.heap.size w w' := by
  have hb : (wid k).1 ≤ 4 ∧ (wid k).2.1 ≤ 4 ∧ (wid k).2.2.1 ≤ 4 := by
    unfold wid
    repeat (split; · simp)
    simp
  unfold shapeVal
  generalize wid k = t at *
  obtain ⟨x, y, z, q⟩ := t
  simp only at hb ⊢
  obtain ⟨h1, h2, h3⟩ := hb
  go_enter Try.func25, Try.ntmps25
  go_wp2_with fail
  go_ret
  refine ⟨?_, (Below.refl _ _).alloc (Nat.le_refl _) _⟩
  simp
set_option maxRecDepth 100000 in
set_option maxHeartbeats 800000 in
theorem number_any (bs : List UInt8) (n : Nat) (hn : n = bs.length) (hl : n ≤ 4) (a : Option Addr) (cap : Nat) (w : World) (hb : Bytes w a bs) :
    Calls Try.prog 26 #[.slice a n cap] w fun e w' => e = .returned (.int .i64 (leV bs : Nat)) ∧ w = w' := by
  have HN := Lib.hid hn
  have HB := Lib.hid hb
  clear hn hb
  go_enter Try.func26, Try.ntmps26
  go_wp2_with fail
  go_loopw [3, 4, 5, 8] (fun s _ _ i wr => ∃ j : Nat, j ≤ n ∧ i = .int .i64 j ∧ s = .int .i64 (leV (bs.take j) : Nat) ∧ w = wr) (fun _ _ _ i _ => n - (intOf i).toNat)
  case atStart => exact ⟨0, by omega, rfl, rfl, rfl⟩
  case round =>
    obtain ⟨j, hj, rfl, rfl, rfl⟩ := hrel
    by_cases hlt : j < n
    · obtain ⟨b0, off0, rfl, hx⟩ := HB.out j (by have := HN.out; omega)
      obtain ⟨x, hxe⟩ : ∃ x, x = bs[j]'(by have := HN.out; omega) := ⟨_, rfl⟩
      rw [← hxe] at hx
      have bx := x.toNat_lt
      have hs : leV (bs.take (j + 1)) = leV (bs.take j) + x.toNat * 256 ^ j := by
        have hjl : j < bs.length := by have := HN.out; omega
        rw [List.take_succ_eq_append_getElem hjl, leV_append, List.length_take, hxe]
        congr 3
        omega
      have hp := leV_lt (bs.take j)
      rw [List.length_take, show min j bs.length = j from by have := HN.out; omega] at hp
      have hst := num_step (leV (bs.take j)) x.toNat j hp bx (by omega)
      rw [← hs] at hst
      have HST := Lib.hid hst
      clear hst hs hp hxe
      generalize x.toNat = xn at *
      generalize leV (bs.take j) = p at *
      go_wp2_with fail
      rw [HST.out]
      refine ⟨⟨j + 1, by omega, by go_num, rfl, trivial⟩, ?_⟩
      simp [intOf]
      omega
    · obtain rfl : j = n := by omega
      have e : bs.take j = bs := by rw [HN.out, List.take_length]
      rw [e]
      go_wp2_with fail
      go_ret
      exact ⟨rfl, rfl⟩
/-- A number's bytes, the lowest first. -/
def laidV (n : Int) (w : Nat) : List UInt8 := (List.range w).map fun i => UInt8.ofNat ((n / 2 ^ (8 * i)) % 256).toNat
theorem laid_next (n : Int) (j : Nat) : laidV n (j + 1) = laidV n j ++ [UInt8.ofNat ((n / 2 ^ (8 * j)) % 256).toNat] := by
  unfold laidV
  rw [List.range_succ, List.map_append]
  rfl
theorem laid_length (n : Int) (j : Nat) : (laidV n j).length = j := by simp [laidV]
def fitsV (n : Int) (k : Nat) : Bool := decide (0 ≤ n) && (n / 2 ^ (8 * k) == 0)
theorem laid_cell (n : Int) (j : Nat) : (((UInt8.ofNat ((n / 2 ^ (8 * j)) % 256).toNat).toNat : Nat) : Int) = n / 2 ^ (8 * j) % 256 := by
  generalize n / 2 ^ (8 * j) = q
  rw [UInt8.toNat_ofNat_of_lt' (by show (q % 256).toNat < 256; omega)]
  omega
theorem below_dn {B : Nat} {u w : World} (h : Below B u w) (k : Nat) : Below B u (w.drewN k) := h.trans ⟨rfl, rfl, rfl, Nat.le_refl _, fun _ _ => rfl⟩
theorem _root_.Go.Proofs.Ytmmppgkhlelbmaa.Ba.Own.drewN {w : World} {base : Nat} {v : Value} {bs : List UInt8} (h : Own w base v bs) (n : Nat) : Own (w.drewN n) base v bs := h
/-- A slice of bytes that the call made, and a bool. -/
def Made (bs : List UInt8) (ok : Bool) (w : World) (e : Ending) (w' : World) : Prop :=
  ∃ v, e = .returned (.tuple #[v, .bool ok]) ∧ Below w.heap.size w w' ∧ Own w' w.heap.size v bs
set_option maxRecDepth 100000 in
set_option maxHeartbeats 1600000 in
theorem laid_any (n : Int) (k : Nat) (hk : k ≤ 4) (w : World) :
    Calls Try.prog 28 #[.int .i64 n, .int .i64 (k : Nat)] w (Made (laidV n k) (fitsV n k) w) := by
  go_enter Try.func28, Try.ntmps28
  go_wp2_with fail
  go_loopw [6, 7, 9] (fun v _ i wr => ∃ j : Nat, j ≤ k ∧ i = .int .i64 j ∧ Own wr w.heap.size v (laidV n j) ∧ Below w.heap.size w wr) (fun _ _ i _ => k - (intOf i).toNat)
  case atStart => exact ⟨0, by omega, rfl, Own.nil _ _, Below.refl _ _⟩
  case round =>
    obtain ⟨j, hj, rfl, hown, hbel⟩ := hrel
    have hsz := hbel.size
    by_cases hlt : j < k
    · have hcell := laid_cell n j
      have hnext := laid_next n j
      obtain ⟨b, hb⟩ : ∃ b, b = UInt8.ofNat ((n / 2 ^ (8 * j)) % 256).toNat := ⟨_, rfl⟩
      rw [← hb] at hcell hnext
      have HN := Lib.hid hnext
      have HC := Lib.hid hcell
      have HL := Lib.hid (laid_length n j)
      have HO := Lib.hid (hown.alloc (Obj.cells #[.int .u8 (n / 2 ^ (8 * j) % 256)] 5))
      have HBl := fun k hk => hown.block k hk
      clear hown hnext hcell hb
      go_wp2_with (at_builtin; refine wpList_append_bytes rfl (.tmp 12) (.tmp 18) rfl w.heap.size _ _ rfl HO.out (some ⟨wr.heap.size, 0, none⟩) 1 1 [b] rfl rfl (Bytes.lit _ _ _ _ _ (by show [Value.int .u8 (n / 2 ^ (8 * j) % 256)] = [cellOf b]; rw [← HC.out]; rfl)) (fun h => by cases h) (by rw [HL.out]; omega) (by simp; omega) ?_)
      intro v2 w3 hown3 hg3
      have hb3 : Below w.heap.size w w3 := (hbel.alloc hsz _).grown hg3 (by simp; omega) HBl
      have HO3 : Hid (Own w3 w.heap.size v2 (laidV n (j + 1))) := by
        rw [← HN.out] at hown3
        exact hown3
      have HB3 := Lib.hid hb3
      clear hown3 hb3 hg3 HBl HO hbel
      go_wp2_with fail
      go_roundw
      case rel => exact ⟨j + 1, by omega, by go_num, HO3.out, HB3.out⟩
      case measure => simp [intOf]; omega
    · obtain rfl : j = k := by omega
      have HO := Lib.hid hown
      have HB := Lib.hid hbel
      clear hown hbel
      obtain ⟨L, hL⟩ : ∃ L, L = laidV n j := ⟨_, rfl⟩
      rw [← hL] at HO
      obtain ⟨ao, cap, rfl, _⟩ := HO.out.view
      have HP : Hid (Own wr w.heap.size (.slice ao L.length cap) (laidV n j)) := Lib.hid (by rw [← hL]; exact HO.out)
      clear HO
      by_cases h0 : 0 ≤ n
      · have hd : decide (0 ≤ n) = true := decide_eq_true h0
        have hf : (n / 2 ^ (8 * j) == 0) = fitsV n j := by unfold fitsV; rw [hd, Bool.true_and]
        have hj5 : j = 0 ∨ j = 1 ∨ j = 2 ∨ j = 3 ∨ j = 4 := by omega
        clear hL h0
        rcases hj5 with rfl | rfl | rfl | rfl | rfl
        all_goals
          have HF := Lib.hid hf
          clear hf
          go_wp2_with fail
          go_quiet (fail)
          go_wp2_with fail
          go_ret2
          refine ⟨_, ?_, below_dn HB.out _, HP.out.drewN _⟩
          rw [← HF.out]
          first | rfl | (rw [show n / 2 ^ (8 * 0) = n by simp]; rfl)
      · have hd : decide (0 ≤ n) = false := decide_eq_false h0
        have hf : false = fitsV n j := by unfold fitsV; rw [hd, Bool.false_and]
        have HF := Lib.hid hf
        clear hf hL h0
        go_wp2_with fail
        go_quiet (fail)
        go_wp2_with fail
        go_ret2
        refine ⟨_, ?_, below_dn HB.out _, HP.out.drewN _⟩
        rw [← HF.out]
        rfl
end Go.Proofs.Ytmmppgkhlelbmaa.Fr
