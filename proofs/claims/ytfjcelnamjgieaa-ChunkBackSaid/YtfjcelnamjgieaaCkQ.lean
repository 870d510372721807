/- ChunkCuts, walked. Condition: bytes lie at the slice. -/
import Derived.Test.YtfjcelnamjgieaaCkP
namespace Go.Proofs.Ytfjcelnamjgieaa.Ck
open Go.RowKit Ba Go.Deep
set_option linter.unusedVariables false

theorem cutR_few : ∀ (n : Nat) (bs : List UInt8), (cutR n bs).1.length ≤ bs.length := by
  intro n
  induction n with
  | zero => intro bs; exact Nat.zero_le _
  | succ n ih =>
    intro bs
    unfold cutR
    cases hl : lookV bs with
    | bad c => exact Nat.zero_le _
    | one ch k =>
      obtain ⟨h1, h2, _⟩ := look_one hl
      have h := ih (bs.drop k)
      rw [List.length_drop] at h
      simp only
      split
      · split
        · exact Nat.zero_le _
        · show 1 ≤ _; omega
      · split
        · simp only [List.length_cons]; omega
        · exact Nat.zero_le _
theorem cutV_few (bs : List UInt8) : (cutV bs).1.length ≤ bs.length := by
  unfold cutV
  split
  · exact Nat.zero_le _
  · split
    · exact Nat.zero_le _
    · split
      · have h := cutR_few ((bs.drop 8).length + 1) (bs.drop 8)
        rw [List.length_drop] at h
        show (cutR _ _).1.length ≤ _
        rw [List.length_drop]
        omega
      · exact Nat.zero_le _
set_option maxRecDepth 100000 in
set_option maxHeartbeats 6400000 in
theorem cuts_any (bs : List UInt8) (a : Option Addr) (n cap : Nat) (hn : n = bs.length) (hcap : n ≤ cap) (hcap2 : cap ≤ maxLen) (hnil : a = none → cap = 0) (w : World) (hb : Bytes w a bs) :
    Calls Try.prog 3 #[.slice a n cap] w fun e w' => e = .returned (.bool true) ∧ Below w.heap.size w w' := by
  have HN := Lib.hid hn
  have HB := Lib.hid hb
  have HCP := Lib.hid (And.intro hcap (And.intro hcap2 hnil))
  have hn63 : n ≤ 9223372036854775807 := by unfold maxLen at hcap2; omega
  have HCUT := Lib.hid (fun u hu => cut_any bs a n cap hn hcap hcap2 hnil u (hb.keep hu))
  have HRCUT := Lib.hid (fun u hu => rcut_any bs a n cap hn hcap hcap2 hnil u (hb.keep hu))
  clear hn hb hcap hcap2 hnil
  have hcase : (20000 : Int) < n ∨ ¬ (20000 : Int) < n := by omega
  go_enter Try.func3, Try.ntmps3
  go_wp2_with fail
  refine (awake_any _).mono ?_
  rintro e w1 ⟨rfl, hb1⟩
  have HB1 := Lib.hid hb1
  clear hb1
  rcases hcase with h1 | h1
  · go_wp2_with fail
    go_ret
    exact ⟨rfl, HB1.out⟩
  · have HFW : Hid ((cutV bs).1.length ≤ 1000000000) := Lib.hid (Nat.le_trans (cutV_few bs) (by rw [← HN.out]; omega))
    generalize cutV bs = R at *
    obtain ⟨fs, c⟩ := R
    have HC1 := Lib.hid (HCUT.out w1 HB1.out)
    go_wp2_with fail
    refine HC1.out.mono ?_
    rintro e w2 ⟨v2, rfl, hc2, hb2⟩
    have HB2 := Lib.hid (chain HB1.out hb2)
    have HR2 := Lib.hid hc2.row
    have HC2 := Lib.hid (HRCUT.out w2 HB2.out)
    clear hc2 hb2
    dsimp only at HC2 ⊢
    go_wp2_with fail
    refine HC2.out.mono ?_
    rintro e w3 ⟨v3, rfl, hc3, hb3⟩
    have HB3 := Lib.hid (chain HB2.out hb3)
    have HR3 := Lib.hid hc3.row
    have HM := Lib.hid (model_any v2 fs HFW.out w3 (HR2.out.keep hb3))
    clear hc3 hb3
    dsimp only
    go_wp2_with fail
    refine HM.out.mono ?_
    rintro e w4 ⟨v4, rfl, hr4, hb4⟩
    have HB4 := Lib.hid (chain HB3.out hb4)
    have HS := Lib.hid (same_yes v4 v3 fs w4 hr4 (HR3.out.keep hb4))
    clear hr4 hb4
    go_wp2_with fail
    refine HS.out.mono ?_
    rintro e w5 ⟨rfl, hb5⟩
    have HB5 := Lib.hid (chain HB4.out hb5)
    clear hb5
    go_wp2_with fail
    go_ret
    exact ⟨rfl, HB5.out⟩
end Go.Proofs.Ytfjcelnamjgieaa.Ck
