/- ChunkBack: the plain laws beside the walk. No condition; no program's text is stepped through here. -/
import Derived.Test.YtfjcelnamjgieaaCkY
namespace Go.Proofs.Ytfjcelnamjgieaa.Ck
open Go.RowKit Ba Go.Deep
set_option linter.unusedVariables false

/-- All but the chunks that end a file. -/
def filt (l : List Ch) : List Ch := l.filter (fun f => !isK f.1 kIEND)
theorem filt_snoc (l : List Ch) (f : Ch) : filt (l ++ [f]) = if isK f.1 kIEND = true then filt l else filt l ++ [f] := by
  unfold filt
  rw [List.filter_append]
  by_cases h : isK f.1 kIEND = true
  · simp [h]
  · have h' : isK f.1 kIEND = false := by simpa using h
    simp [h']
theorem filt_mem {l : List Ch} {f : Ch} (h : f ∈ filt l) : f ∈ l ∧ isK f.1 kIEND = false := by
  unfold filt at h
  rw [List.mem_filter] at h
  exact ⟨h.1, by simpa using h.2⟩
theorem filt_length (l : List Ch) : (filt l).length ≤ l.length := List.length_filter_le _ _
theorem filt_tot : ∀ (q : Nat) (fs : List Ch), q ≤ fs.length → totC (filt (fs.take q)) ≤ totC (fs.take q) := by
  intro q
  induction q with
  | zero => intro fs _; exact Nat.le_refl _
  | succ q ih =>
    intro fs hq
    have h := ih fs (by omega)
    rw [totC_step fs q (by omega), List.take_succ_eq_append_getElem (by omega), filt_snoc]
    split
    · omega
    · rw [totC_snoc]; omega
def lastC : Ch := (iend, [])
theorem iend_list : iend.toList = kIEND := list3.2.2
theorem mid_filt {fs : List Ch} (h : allN (filt fs ++ [lastC]) = true) (hl : ∀ f ∈ fs, f.2.length ≤ 9000) : Mid (filt fs) := by
  intro f hf
  unfold allN at h
  rw [List.all_eq_true] at h
  obtain ⟨h1, h2⟩ := filt_mem hf
  refine ⟨h f (List.mem_append_left _ hf), by have := hl f h1; omega, fun e => ?_⟩
  unfold isK at h2
  rw [e, iend_list] at h2
  revert h2
  decide
theorem bump (x b : UInt8) : x ^^^ ((1 : UInt8) <<< b) = x → (1 : UInt8) <<< b = 0 := by
  intro h
  have h2 : x ^^^ (x ^^^ ((1 : UInt8) <<< b)) = x ^^^ x := by rw [h]
  rwa [← UInt8.xor_assoc, UInt8.xor_self, UInt8.zero_xor] at h2
theorem turn_sum (C : Nat) (hC : C < 4294967296) (m : Nat) (hm : m < 4) (y : UInt8) (hy : y ≠ (four C)[3 - m]'(by rw [four_length]; omega)) : beV ((four C).set (3 - m) y) ≠ C := by
  have hb := beV_fourV C hC
  unfold four at hb hy ⊢
  rw [beV_four] at hb
  have hm4 : m = 0 ∨ m = 1 ∨ m = 2 ∨ m = 3 := by omega
  have hne : ∀ a b : UInt8, a ≠ b → a.toNat ≠ b.toNat := fun a b h e => h (UInt8.toNat_inj.1 e)
  rcases hm4 with rfl | rfl | rfl | rfl
  all_goals
    simp only [List.set_cons_zero, List.set_cons_succ, List.getElem_cons_zero, List.getElem_cons_succ, Nat.sub_zero, Nat.reduceSub] at hy ⊢
    have h1 := hne _ _ hy
    rw [beV_four]
    have b0 := (UInt8.ofNat (C / 16777216)).toNat_lt
    have b1 := (UInt8.ofNat (C / 65536)).toNat_lt
    have b2 := (UInt8.ofNat (C / 256)).toNat_lt
    have b3 := (UInt8.ofNat C).toNat_lt
    have b4 := y.toNat_lt
    omega
/-- What was joined, a byte of the last chunk's sum turned. -/
theorem turned (l : List Ch) (m : Nat) (hm : m < 4) (y : UInt8) (hl : Mid l) (hb : (strmC (l ++ [lastC])).length ≤ 262136) (N : Nat) (hN : N = (sigL ++ strmC (l ++ [lastC])).length)
    (hi : N - 1 - m < (sigL ++ strmC (l ++ [lastC])).length) (hy : y ≠ (sigL ++ strmC (l ++ [lastC]))[N - 1 - m]'hi) : cutV ((sigL ++ strmC (l ++ [lastC])).set (N - 1 - m) y) = ([], 5) := by
  have e : strmC (l ++ [lastC]) = strmC l ++ (four 0 ++ (iend.data.toList ++ ([] ++ four (crcV iend [])))) := by
    have e1 : strmC (l ++ [lastC]) = strmC l ++ encC lastC := by unfold strmC; rw [List.flatMap_append, List.flatMap_cons, List.flatMap_nil, List.append_nil]
    rw [e1]
    rfl
  have e2 : sigL ++ strmC (l ++ [lastC]) = (sigL ++ (strmC l ++ (four 0 ++ iend.data.toList))) ++ four (crcV iend []) := by
    rw [e]
    simp only [List.append_assoc, List.nil_append]
  obtain ⟨P, hP⟩ : ∃ P, P = sigL ++ (strmC l ++ (four 0 ++ iend.data.toList)) := ⟨_, rfl⟩
  rw [← hP] at e2
  have hlen : (sigL ++ strmC (l ++ [lastC])).length = P.length + 4 := by rw [e2, List.length_append, four_length]
  have hidx : N - 1 - m = P.length + (3 - m) := by rw [hN, hlen]; omega
  have hget : (sigL ++ strmC (l ++ [lastC]))[N - 1 - m]'hi = (four (crcV iend []))[3 - m]'(by rw [four_length]; omega) := by
    have h1 : (sigL ++ strmC (l ++ [lastC]))[N - 1 - m]? = (four (crcV iend []))[3 - m]? := by
      rw [e2, hidx, List.getElem?_append_right (by omega)]
      congr 1
      omega
    rw [List.getElem?_eq_getElem hi, List.getElem?_eq_getElem (by rw [four_length]; omega)] at h1
    exact Option.some.inj h1
  rw [hget] at hy
  have hset : (sigL ++ strmC (l ++ [lastC])).set (N - 1 - m) y = sigL ++ (strmC l ++ (four lastC.2.length ++ (lastC.1.data.toList ++ (lastC.2 ++ (four (crcV iend [])).set (3 - m) y)))) := by
    rw [e2, hidx, List.set_append_right _ _ (by omega), show P.length + (3 - m) - P.length = 3 - m by omega, hP]
    simp only [List.append_assoc]
    rfl
  rw [hset]
  exact cut_turned l lastC _ hl names3.2.2.1 (by decide) (by rw [List.length_set, four_length]) (turn_sum _ (crc_lt _ _) m hm y hy) hb
end Go.Proofs.Ytfjcelnamjgieaa.Ck
