/- Contracts of chunk's small functions. Condition: bytes lie at the slices. -/
import Derived.Test.YtfjcelnamjgieaaBlk
import Derived.Test.YtfjcelnamjgieaaCkSum
import Derived.BigQuiet
import Derived.Laws.BitsAllLaws
import Derived.Laws.IdiomStrings
namespace Go.Proofs.Ytfjcelnamjgieaa.Ck
open Go.RowKit Ba Go.Deep
set_option linter.unusedVariables false

/-- A slice of bytes that the call made. -/
def Mine (bs : List UInt8) (w : World) (e : Ending) (w' : World) : Prop :=
  ∃ v, e = .returned v ∧ Below w.heap.size w w' ∧ Own w' w.heap.size v bs
set_option maxRecDepth 100000 in
set_option maxHeartbeats 800000 in
theorem clone_any (bs : List UInt8) (a : Option Addr) (n cap : Nat) (hn : n = bs.length) (hm : n ≤ 140737488355328) (hnil : a = none → cap = 0) (w : World) (hb : Bytes w a bs) :
    Calls Try.prog 34 #[.slice a n cap] w (Mine bs w) := by
  cases a with
  | none =>
    have hbs : bs = [] := by
      cases bs with
      | nil => rfl
      | cons u l => obtain ⟨b, off, e, _⟩ := hb 0 (by simp); cases e
    subst hbs
    have hn0 : n = 0 := hn
    subst hn0
    clear hb hn hm
    have hc := hnil rfl
    subst hc
    clear hnil
    have hnl := fun w => Lib.run_eql_slice_nil (P := Try.prog) w 22 5 none 0 0 0 0 Try.underlying22
    go_enter Try.func34, Try.ntmps34
    go_wp2_with fail
    go_ret
    exact ⟨_, rfl, Below.refl _ _, Own.nil _ _⟩
  | some x =>
    have HN := Lib.hid hn
    have HB := Lib.hid hb
    clear hn hb hnil
    have hnl := fun w => Lib.run_eql_slice_nil (P := Try.prog) w 22 5 (some x) n cap 0 0 Try.underlying22
    go_enter Try.func34, Try.ntmps34
    go_wp2_with (at_builtin; refine wpList_append_bytes rfl (.tmp 5) (.tmp 6) rfl w.heap.size _ [] rfl (Own.empty w w.heap.size (Nat.le_refl _)) (some x) n cap bs rfl HN.out (Bytes.keep HB.out ((Below.refl _ _).alloc (Nat.le_refl _) _)) (fun h => by cases h) (by simp; omega) (by simp) ?_)
    intro v2 w3 hown3 hg3
    have hb3 : Below w.heap.size w w3 := ((Below.refl w.heap.size w).alloc (Nat.le_refl _) _).grown hg3 (by simp) (fun k hk => by cases hk; exact Nat.le_refl _)
    have HO3 := Lib.hid hown3
    have HB3 := Lib.hid hb3
    clear hown3 hb3 hg3
    go_wp2_with fail
    go_ret
    exact ⟨_, rfl, HB3.out, HO3.out⟩
/-- The bytes that a file begins with. -/
def sigL : List UInt8 := [137, 80, 78, 71, 13, 10, 26, 10]
set_option maxRecDepth 100000 in
theorem sig_any (w : World) : Calls Try.prog 20 #[] w fun e w' => ∃ g, e = .returned (.slice (some ⟨g, 0, none⟩) 8 8) ∧ Own w' w.heap.size (.slice (some ⟨g, 0, none⟩) 8 8) sigL ∧ Below w.heap.size w w' := by
  go_enter Try.func20, Try.ntmps20
  go_wp2_with fail
  go_ret
  exact ⟨_, rfl, Own.lit w w.heap.size sigL _ (Nat.le_refl _) (by unfold maxLen; decide) (by rfl), (Below.refl _ _).alloc (Nat.le_refl _) _⟩
set_option maxRecDepth 100000 in
theorem rsig_any (w : World) : Calls Try.prog 24 #[] w fun e w' => e = .returned (.string ⟨sigL.toArray⟩) ∧ w = w' := by
  go_enter Try.func24, Try.ntmps24
  go_wp2_with fail
  go_ret
  exact ⟨rfl, rfl⟩
/-- Four bytes' number, the highest first. -/
def beV (l : List UInt8) : Nat := l.foldl (fun n c => n * 256 + c.toNat) 0
theorem beV_snoc (l : List UInt8) (b : UInt8) : beV (l ++ [b]) = beV l * 256 + b.toNat := by unfold beV; rw [List.foldl_append]; rfl
theorem beV_lt : ∀ (n : Nat) (l : List UInt8), l.length = n → beV l < 256 ^ n := by
  intro n
  induction n with
  | zero => intro l h; rw [List.length_eq_zero_iff.1 h]; decide
  | succ n ih =>
    intro l h
    obtain ⟨l', b, rfl⟩ : ∃ l' b, l = l' ++ [b] := by
      have hne : l ≠ [] := by intro e; subst e; simp at h
      exact ⟨l.dropLast, l.getLast hne, (List.dropLast_concat_getLast hne).symm⟩
    rw [List.length_append, List.length_singleton] at h
    rw [beV_snoc, Nat.pow_succ]
    have := ih l' (by omega)
    have := b.toNat_lt
    omega
theorem i64_or_nat (a b : Nat) (ha : a < 4611686018427387904) (hb : b < 4611686018427387904) : bits .or .i64 (a : Int) (b : Int) = ((a ||| b : Nat) : Int) := by
  have hx : a ||| b < 2 ^ 62 := Nat.or_lt_two_pow (by omega) (by omega)
  show IntKind.i64.wrap ((BitVec.ofInt 64 (a : Int) ||| BitVec.ofInt 64 (b : Int)).toNat : Int) = _
  rw [BitVec.toNat_or, ofInt_u64 a (by omega), ofInt_u64 b (by omega)]
  unfold IntKind.wrap
  simp [IntKind.bits, IntKind.signed]
  omega
theorem be_step (p x : Nat) (hp : p < 16777216) (hx : x < 256) : bits .or .i64 (wrap64 ((p : Int) * 256)) (x : Int) = ((p * 256 + x : Nat) : Int) := by
  have e : wrap64 ((p : Int) * 256) = ((p * 256 : Nat) : Int) := by unfold wrap64; omega
  rw [e, i64_or_nat _ _ (by omega) (by omega), nat_join 8 (p * 256) x (by omega) (by omega)]
set_option maxRecDepth 100000 in
set_option maxHeartbeats 800000 in
theorem number_any (bs : List UInt8) (n : Nat) (hn : n = bs.length) (hl : 4 ≤ n) (a : Option Addr) (cap : Nat) (hcap : n ≤ cap) (w : World) (hb : Bytes w a bs) :
    Calls Try.prog 33 #[.slice a n cap] w fun e w' => e = .returned (.int .i64 (beV (bs.take 4) : Nat)) ∧ w = w' := by
  have HN := Lib.hid hn
  have HB := Lib.hid hb
  have hto : ∀ w, (Instr.slice 22 (.slice a n cap) none (some (.int .i64 4)) none).run Try.prog w = .ok (.slice a 4 cap) w := fun w => run_cut_to (P := Try.prog) 22 5 Try.underlying22 size_u8 a _ _ .i64 4 (by omega) w
  clear hn hb
  go_enter Try.func33, Try.ntmps33
  go_wp2_with fail
  go_loopw [3, 5, 9] (fun s _ i wr => ∃ j : Nat, j ≤ 4 ∧ i = .int .i64 j ∧ s = .int .i64 (beV (bs.take j) : Nat) ∧ w = wr) (fun _ _ i _ => 4 - (intOf i).toNat)
  case atStart => exact ⟨0, by omega, rfl, rfl, rfl⟩
  case round =>
    obtain ⟨j, hj, rfl, rfl, rfl⟩ := hrel
    by_cases hlt : j < 4
    · obtain ⟨b0, off0, rfl, hx⟩ := HB.out j (by have := HN.out; omega)
      obtain ⟨x, hxe⟩ : ∃ x, x = bs[j]'(by have := HN.out; omega) := ⟨_, rfl⟩
      rw [← hxe] at hx
      have bx := x.toNat_lt
      have hs : beV (bs.take (j + 1)) = beV (bs.take j) * 256 + x.toNat := by
        have hjl : j < bs.length := by have := HN.out; omega
        rw [List.take_succ_eq_append_getElem hjl, beV_snoc, hxe]
      have hp := beV_lt j (bs.take j) (by rw [List.length_take]; have := HN.out; omega)
      have hp2 : beV (bs.take j) < 16777216 := Nat.lt_of_lt_of_le hp (Nat.le_trans (Nat.pow_le_pow_right (by omega) (show j ≤ 3 by omega)) (by decide))
      have hst := be_step (beV (bs.take j)) x.toNat hp2 bx
      rw [← hs] at hst
      have HST := Lib.hid hst
      clear hst hs hp hp2 hxe
      generalize x.toNat = xn at *
      generalize beV (bs.take j) = p at *
      go_wp2_with fail
      rw [HST.out]
      refine ⟨⟨j + 1, by omega, by go_num, rfl, trivial⟩, ?_⟩
      simp [intOf]
      omega
    · obtain rfl : j = 4 := by omega
      go_wp2_with fail
      go_ret
      exact ⟨rfl, rfl⟩
def letB (c : Nat) : Bool := (decide (97 ≤ c) && decide (c ≤ 122)) || (decide (65 ≤ c) && decide (c ≤ 90))
set_option maxRecDepth 100000 in
set_option maxHeartbeats 800000 in
theorem letter_any (c : Nat) (hc : c < 256) (w : World) : Calls Try.prog 36 #[.int .u8 c] w fun e w' => e = .returned (.bool (letB c)) ∧ w = w' := by
  have hcase : (97 ≤ c ∧ c ≤ 122) ∨ (122 < c) ∨ (65 ≤ c ∧ c ≤ 90) ∨ (90 < c ∧ c < 97) ∨ c < 65 := by omega
  rcases hcase with ⟨h1, h2⟩ | h1 | ⟨h1, h2⟩ | ⟨h1, h2⟩ | h1
  all_goals
    go_enter Try.func36, Try.ntmps36
    go_wp2_with fail
    go_ret
    refine ⟨congrArg (fun b => Ending.returned (.bool b)) (Bool.eq_iff_iff.2 ?_), rfl⟩
    simp [letB]
    try omega
/-- A kind's name: four letters. -/
def nameB (s : ByteArray) : Bool := s.size == 4 && s.data.toList.all (fun c => letB c.toNat)
set_option maxRecDepth 100000 in
set_option maxHeartbeats 800000 in
theorem named_any (s : ByteArray) (hs : s.size ≤ maxLen) (w : World) : Calls Try.prog 27 #[.string s] w fun e w' => e = .returned (.bool (nameB s)) ∧ w = w' := by
  unfold maxLen at hs
  go_enter Try.func27, Try.ntmps27
  go_wp2_with fail
  go_loopw [3, 6] (fun _ i wr => ∃ j : Nat, j ≤ s.size ∧ i = .int .i64 j ∧ (∀ m (h : m < s.size), m < j → letB (s.data.toList[m]'(by simpa using h)).toNat = true) ∧ w = wr) (fun _ i _ => s.size - (intOf i).toNat)
  case atStart => exact ⟨0, by omega, rfl, fun m h hm => absurd hm (by omega), rfl⟩
  case round =>
    obtain ⟨j, hj, rfl, hall, rfl⟩ := hrel
    have HALL := Lib.hid hall
    clear hall
    by_cases hlt : j < s.size
    · have HL := Lib.hid (letter_any (s[j]'hlt).toNat (by have := (s[j]'hlt).toNat_lt; omega) w)
      cases hb : letB (s[j]'hlt).toNat with
      | false =>
        rw [hb] at HL
        have HNB : Hid (nameB s = false) := Lib.hid (by
          unfold nameB
          rw [Bool.and_eq_false_iff]
          right
          rw [List.all_eq_false]
          refine ⟨s[j]'hlt, ?_, by rw [hb]; decide⟩
          exact List.getElem_mem (by simpa using hlt))
        clear hb
        go_wp2_with fail
        refine HL.out.mono ?_
        rintro e w' ⟨rfl, rfl⟩
        go_wp2_with fail
        go_ret
        exact ⟨by rw [HNB.out]; rfl, rfl⟩
      | true =>
        rw [hb] at HL
        have HB := Lib.hid hb
        clear hb
        go_wp2_with fail
        refine HL.out.mono ?_
        rintro e w' ⟨rfl, rfl⟩
        go_wp2_with fail
        go_roundw
        case rel =>
          refine ⟨j + 1, by omega, by go_num, fun m h hm => ?_, trivial⟩
          by_cases e : m < j
          · exact HALL.out m h e
          · obtain rfl : m = j := by omega
            exact HB.out
        case measure => simp [intOf]; omega
    · obtain rfl : j = s.size := by omega
      have HNB : Hid (nameB s = ((s.size : Int) == 4)) := Lib.hid (by
        unfold nameB
        have ha : s.data.toList.all (fun c => letB c.toNat) = true := by
          rw [List.all_eq_true]
          intro c hc
          obtain ⟨m, hm, rfl⟩ := List.getElem_of_mem hc
          exact HALL.out m (by simpa using hm) (by simpa using hm)
        rw [ha, Bool.and_true, Bool.eq_iff_iff]
        simp
        omega)
      go_wp2_with fail
      go_ret
      exact ⟨by rw [HNB.out]; rfl, rfl⟩
end Go.Proofs.Ytfjcelnamjgieaa.Ck
