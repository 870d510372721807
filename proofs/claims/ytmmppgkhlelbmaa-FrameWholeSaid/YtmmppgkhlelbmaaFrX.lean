/- What a parser makes of a stream in pieces; the row of messages behind one another. No condition; no program's text is stepped through here. -/
import Derived.Test.YtmmppgkhlelbmaaFrW
import Derived.Test.YtmmppgkhlelbmaaFrT
namespace Go.Proofs.Ytmmppgkhlelbmaa.Fr
open Go.RowKit Ba Go.Deep
set_option linter.unusedVariables false

theorem numV_app (x y : List UInt8) (h : 4 ≤ x.length) : numV (x ++ y) = numV x := by
  unfold numV
  rw [List.take_append_of_le_length h]
theorem payV_app (x y : List UInt8) (h : 4 + numV x ≤ x.length) : payV (x ++ y) = payV x := by
  unfold payV
  rw [numV_app x y (by omega), List.drop_append_of_le_length (by omega), List.take_append_of_le_length (by rw [List.length_drop]; omega)]
/-- A stream that comes out whole, of which a part has come: what is out, what waits, and what is still to come. -/
theorem runB_part : ∀ (n : Nat) (x y : List UInt8) (todo : List Fr), x.length < n → runB (x ++ y) = (todo, 0, [], false) →
    ∃ fs1 buf2 todo', runB x = (fs1, 0, buf2, false) ∧ todo = fs1 ++ todo' ∧ runB (buf2 ++ y) = (todo', 0, [], false) ∧ runB buf2 = ([], 0, buf2, false) := by
  intro n
  induction n with
  | zero => intro x y todo h; omega
  | succ n ih =>
    intro x y todo hn h
    by_cases c1 : x.length < 4
    · exact ⟨[], x, todo, runB_few x c1, rfl, h, runB_few x c1⟩
    · have hl : (x ++ y).length = x.length + y.length := List.length_append
      have hN := numV_app x y (by omega)
      by_cases c2 : 262208 < numV x
      · rw [runB_long (x ++ y) (by omega) (by omega)] at h
        cases h
      · by_cases c3 : x.length - 4 < numV x
        · have e := runB_wait x (by omega) (by omega) c3
          exact ⟨[], x, todo, e, rfl, h, e⟩
        · have hP := payV_app x y (by omega)
          by_cases c4 : parseC (payV x) = 0
          · rw [runB_one (x ++ y) (by omega) (by omega) (by rw [hP]; exact c4), hN, hP, List.drop_append_of_le_length (by omega)] at h
            have e1 := congrArg Prod.fst h
            have e2 := congrArg Prod.snd h
            dsimp only at e1 e2
            obtain ⟨fs1, buf2, todo', h1, h2, h3, h4⟩ := ih (x.drop (4 + numV x)) y (runB (x.drop (4 + numV x) ++ y)).1 (by rw [List.length_drop]; omega) (Prod.ext rfl e2)
            refine ⟨parseF (payV x) :: fs1, buf2, todo', ?_, ?_, h3, h4⟩
            · rw [runB_one x (by omega) (by omega) c4, h1]
            · rw [← e1, h2]; rfl
          · rw [runB_bad (x ++ y) (by omega) (by omega) (by rw [hP]; exact c4)] at h
            have e2 := congrArg (fun r => r.2.1) h
            dsimp only at e2
            rw [hP] at e2
            exact absurd e2 c4
/-- Messages behind their lengths, one behind another. -/
def encB (pay : List UInt8) : List UInt8 := laidV ((pay.length : Nat) : Int) 4 ++ pay
def strm (pays : List (List UInt8)) : List UInt8 := pays.flatMap encB
theorem strm_add (pays : List (List UInt8)) (pay : List UInt8) : strm (pays ++ [pay]) = strm pays ++ encB pay := by
  unfold strm
  rw [List.flatMap_append]
  simp
def Good (pay : List UInt8) : Prop := pay.length ≤ 262208 ∧ parseC pay = 0
theorem runB_cons (pay rest : List UInt8) (h : Good pay) : runB (encB pay ++ rest) = (parseF pay :: (runB rest).1, (runB rest).2) := by
  obtain ⟨h4, hc⟩ := h
  have hel : (encB pay).length = 4 + pay.length := by unfold encB; rw [List.length_append, laid_length]
  have ht : (encB pay).take 4 = laidV ((pay.length : Nat) : Int) 4 := List.take_left' (laid_length _ _)
  have hd : (encB pay).drop 4 = pay := List.drop_left' (laid_length _ _)
  have hfit : fitsV ((pay.length : Nat) : Int) 4 = true := by
    unfold fitsV
    simp only [Bool.and_eq_true, decide_eq_true_eq, beq_iff_eq]
    refine ⟨by omega, Int.ediv_eq_zero_of_lt (by omega) ?_⟩
    show ((pay.length : Nat) : Int) < 4294967296
    omega
  have hN : numV (encB pay) = pay.length := by
    unfold numV
    rw [ht]
    have := leV_laid 4 _ hfit
    omega
  have hP : payV (encB pay) = pay := by
    unfold payV
    rw [hd, hN, List.take_length]
  have hNa := numV_app (encB pay) rest (by omega)
  have hPa := payV_app (encB pay) rest (by rw [hN, hel]; exact Nat.le_refl _)
  rw [runB_one _ (by rw [hNa, hN, List.length_append, hel]; omega) (by rw [hNa, hN]; exact h4) (by rw [hPa, hP]; exact hc), hPa, hP, hNa, hN, List.drop_left' hel]
theorem runB_strm : ∀ (pays : List (List UInt8)), (∀ p ∈ pays, Good p) → runB (strm pays) = (pays.map parseF, 0, [], false) := by
  intro pays
  induction pays with
  | nil => intro _; exact runB_few [] (by decide)
  | cons p ps ih =>
    intro h
    have e : strm (p :: ps) = encB p ++ strm ps := by unfold strm; rw [List.flatMap_cons]
    rw [e, runB_cons p _ (h p (List.mem_cons_self ..)), ih fun q hq => h q (List.mem_cons_of_mem _ hq)]
    rfl
end Go.Proofs.Ytmmppgkhlelbmaa.Fr
