/- Contracts of letters, Equal, HasPrefix. Condition: bytes lie at the slices. -/
import Derived.Test.YtfjcelnamjgieaaCkA
import Derived.Laws.BytesArg
import Derived.Deep.RegionHeld3
namespace Go.Proofs.Ytfjcelnamjgieaa.Ck
open Go.RowKit Ba Go.Deep
set_option linter.unusedVariables false

theorem run_str (ao : Option Addr) (n cap : Nat) (bs : List UInt8) (hn : n = bs.length) (w : World) (hb : Bytes w ao bs) :
    (convert 22 9 (.slice ao n cap)).run Try.prog w = .ok (.string ⟨bs.toArray⟩) w := by
  subst hn
  cases ao with
  | none =>
    have : bs = [] := by
      cases bs with
      | nil => rfl
      | cons u l => obtain ⟨b, off, e, _⟩ := hb 0 (by simp); cases e
    subst this
    exact run_convert_bytes_nil w 22 5 Try.underlying22 Try.underlying5 _ _ 9 Try.underlying9
  | some x =>
    by_cases h0 : bs.length = 0
    · have : bs = [] := List.length_eq_zero_iff.1 h0
      subst this
      exact run_convert_bytes_back w 22 9 5 x cap [] Try.underlying22 Try.underlying5 Try.underlying9 (fun j hj => by simp at hj)
    · refine run_convert_bytes_back w 22 9 5 x cap bs Try.underlying22 Try.underlying5 Try.underlying9 (fun j hj => ?_)
      obtain ⟨b, off, e, hcell⟩ := hb j hj
      simp only [Option.some.injEq] at e
      subst e
      have ea : (Addr.add ⟨b, off, none⟩ j) = ⟨b, off + j, none⟩ := by
        unfold Addr.add
        by_cases h0 : j = 0
        · subst h0; simp
        · simp [h0]
      rw [ea, hcell]
theorem str_refl (s : ByteArray) : (s == s) = true := by
  cases s with
  | mk d =>
    show (d == d) = true
    exact beq_self_eq_true d
theorem or32 : ∀ c : Nat, c < 256 → bits .or .u8 (c : Int) 32 = ((c ||| 32 : Nat) : Int) ∧ (letB c = (decide (97 ≤ c ||| 32) && decide (c ||| 32 ≤ 122))) ∧ c ||| 32 < 256 := by
  have h : ∀ c : Fin 256, bits .or .u8 ((c.val : Nat) : Int) 32 = ((c.val ||| 32 : Nat) : Int) ∧ (letB c.val = (decide (97 ≤ c.val ||| 32) && decide (c.val ||| 32 ≤ 122))) ∧ c.val ||| 32 < 256 := by decide +kernel
  exact fun c hc => h ⟨c, hc⟩
theorem nameB_no (s : ByteArray) (h : s.size ≠ 4) : nameB s = false := by
  unfold nameB
  rw [Bool.and_eq_false_iff]
  left
  simpa using h
theorem nameB_bad (s : ByteArray) (m : Nat) (h : m < s.size) (hb : letB (s[m]'h).toNat = false) : nameB s = false := by
  unfold nameB
  rw [Bool.and_eq_false_iff]
  right
  rw [List.all_eq_false]
  exact ⟨s[m]'h, List.getElem_mem (by simpa using h), by rw [hb]; decide⟩
theorem nameB_ok (s : ByteArray) (h : s.size = 4) (ha : ∀ m (h : m < s.size), letB (s[m]'h).toNat = true) : nameB s = true := by
  unfold nameB
  rw [Bool.and_eq_true]
  refine ⟨by simpa using h, ?_⟩
  rw [List.all_eq_true]
  intro c hc
  obtain ⟨m, hm, rfl⟩ := List.getElem_of_mem hc
  exact ha m (by simpa using hm)
set_option maxRecDepth 100000 in
set_option maxHeartbeats 800000 in
theorem letters_any (s : ByteArray) (hs : s.size ≤ maxLen) (w : World) : Calls Try.prog 25 #[.string s] w fun e w' => e = .returned (.bool (nameB s)) ∧ w = w' := by
  unfold maxLen at hs
  by_cases h4 : s.size = 4
  · have hsz : (s.size : Int) = 4 := by omega
    go_enter Try.func25, Try.ntmps25
    go_wp2_with fail
    go_loopw [3, 4] (fun i _ wr => ∃ j : Nat, j ≤ 4 ∧ i = .int .i64 j ∧ Hid (∀ m (h : m < s.size), m < j → letB (s[m]'h).toNat = true) ∧ w = wr) (fun i _ _ => 4 - (intOf i).toNat)
    case atStart => exact ⟨0, by omega, rfl, fun m h hm => absurd hm (by omega), rfl⟩
    case round =>
      obtain ⟨j, hj, rfl, HALL, rfl⟩ := hrel
      by_cases hlt : j < 4
      · have hjs : j < s.size := by omega
        obtain ⟨o1, o2, o3⟩ := or32 (s[j]'hjs).toNat (s[j]'hjs).toNat_lt
        obtain ⟨V, hV⟩ : ∃ V : Nat, V = (s[j]'hjs).toNat ||| 32 := ⟨_, rfl⟩
        rw [← hV] at o1 o2 o3
        clear hV
        by_cases hb : letB (s[j]'hjs).toNat = true
        · have HB := Lib.hid hb
          rw [hb] at o2
          have h1 : ¬ (V : Int) < 97 := by simp at o2; omega
          have h2 : ¬ 122 < (V : Int) := by simp at o2; omega
          clear hb o2
          go_wp2_with fail
          go_roundw
          case rel =>
            refine ⟨j + 1, by omega, by go_num, fun m h hm => ?_, trivial⟩
            by_cases e : m < j
            · exact HALL.out m h e
            · obtain rfl : m = j := by omega
              exact HB.out
          case measure => simp [intOf]; omega
        · have hb' : letB (s[j]'hjs).toNat = false := by simpa using hb
          have HNB := Lib.hid (nameB_bad s j hjs hb')
          rw [hb'] at o2
          have h1 : (V : Int) < 97 ∨ (¬ (V : Int) < 97 ∧ 122 < (V : Int)) := by simp at o2; omega
          clear hb hb' o2
          rcases h1 with h1 | ⟨h1, h2⟩
          all_goals
            go_wp2_with fail
            go_ret
            exact ⟨by rw [HNB.out]; rfl, rfl⟩
      · obtain rfl : j = 4 := by omega
        have HNB := Lib.hid (nameB_ok s h4 (fun m h => HALL.out m h (by omega)))
        go_wp2_with fail
        go_ret
        exact ⟨by rw [HNB.out]; rfl, rfl⟩
  · have hn := Lib.hid (nameB_no s h4)
    have h5 : ((s.size : Int) != 4) = true := by simp; omega
    go_enter Try.func25, Try.ntmps25
    go_wp2_with fail
    go_ret
    exact ⟨by rw [hn.out]; rfl, rfl⟩
set_option maxRecDepth 100000 in
set_option maxHeartbeats 800000 in
theorem equal_any (a b : Option Addr) (n m ca cb : Nat) (xs ys : List UInt8) (hn : n = xs.length) (hm : m = ys.length) (w : World) (hx : Bytes w a xs) (hy : Bytes w b ys) :
    Calls Try.prog 31 #[.slice a n ca, .slice b m cb] w fun e w' => e = .returned (.bool (xs == ys)) ∧ w = w' := by
  have r1 := fun u (hu : Below w.heap.size w u) => run_str a n ca xs hn u (hx.keep hu)
  have r2 := fun u (hu : Below w.heap.size w u) => run_str b m cb ys hm u (hy.keep hu)
  obtain ⟨s1, hs1⟩ : ∃ s : ByteArray, s = ⟨xs.toArray⟩ := ⟨_, rfl⟩
  obtain ⟨s2, hs2⟩ : ∃ s : ByteArray, s = ⟨ys.toArray⟩ := ⟨_, rfl⟩
  rw [← hs1] at r1
  rw [← hs2] at r2
  have q1 := r1 w (Below.refl _ _)
  have q2 := r2 w (Below.refl _ _)
  have hB : (s1.toList == s2.toList) = (xs == ys) := by rw [hs1, hs2, ByteArray.toList_eq, ByteArray.toList_eq]
  generalize (xs == ys) = B at *
  clear hs1 hs2 hn hm hx hy r1 r2
  go_enter Try.func31, Try.ntmps31
  go_wp2_with fail
  go_ret
  exact ⟨rfl, rfl⟩
set_option maxRecDepth 100000 in
set_option maxHeartbeats 800000 in
theorem prefix_any (a b : Option Addr) (n ca cb : Nat) (xs : List UInt8) (hn : n = xs.length) (hl : 8 ≤ n) (hcap : n ≤ ca) (w : World) (hx : Bytes w a xs) (hy : Bytes w b sigL) :
    Calls Try.prog 21 #[.slice a n ca, .slice b 8 cb] w fun e w' => e = .returned (.bool (xs.take 8 == sigL)) ∧ w = w' := by
  have HE := Lib.hid (fun u (hu : Below w.heap.size w u) => equal_any a b 8 8 ca cb (xs.take 8) sigL (by rw [List.length_take]; omega) rfl u ((hx.take 8).keep hu) (hy.keep hu))
  have hto : ∀ w, (Instr.slice 22 (.slice a n ca) none (some (.int .i64 8)) none).run Try.prog w = .ok (.slice a 8 ca) w := fun w => run_cut_to (P := Try.prog) 22 5 Try.underlying22 size_u8 a _ _ .i64 8 (by omega) w
  clear hn hx hy hcap
  generalize (xs.take 8 == sigL) = B at *
  have hl' : (8 : Int) ≤ n := by omega
  go_enter Try.func21, Try.ntmps21
  go_wp2_with fail
  refine (HE.out w (Below.refl _ _)).mono ?_
  rintro e w' ⟨rfl, rfl⟩
  go_wp2_with fail
  go_ret
  exact ⟨rfl, rfl⟩
end Go.Proofs.Ytfjcelnamjgieaa.Ck
