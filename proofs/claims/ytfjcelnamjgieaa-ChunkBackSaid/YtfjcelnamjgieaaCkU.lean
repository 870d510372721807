/- The plain law: the program's Order and the reference's agree. No condition; no program's text is stepped through here. -/
import Derived.Test.YtfjcelnamjgieaaCkT
namespace Go.Proofs.Ytfjcelnamjgieaa.Ck
open Go.RowKit Ba Go.Deep
set_option linter.unusedVariables false

theorem step_facts {q L : Nat} {pd : Bool} {s s' : Rs} {f : Ch} (h : stepR q L pd s f = some s') :
    s'.h + s'.e + s'.p + s'.t + s'.d ≤ s.h + s.e + s.p + s.t + s.d + 1 ∧ s.p ≤ s'.p ∧ s.t ≤ s'.t ∧ (0 < q → s'.h = s.h) ∧ (s'.h = s.h ∨ (isK f.1 kIHDR = true ∧ f.2.length = 13)) ∧ (q + 1 < L → s'.e = s.e) ∧ (s'.e = s.e ∨ (isK f.1 kIEND = true ∧ f.2.length = 0)) := by
  unfold stepR at h
  split at h
  · rename_i hk
    split at h
    · cases h
    · rename_i hc
      cases h
      have h1 : ¬ 0 < q := fun hh => hc (.inl hh)
      have h2 : f.2.length = 13 := Classical.byContradiction fun hh => hc (.inr hh)
      exact ⟨by dsimp only; omega, Nat.le_refl _, Nat.le_refl _, fun hh => absurd hh h1, .inr ⟨hk, h2⟩, fun _ => rfl, .inl rfl⟩
  · split at h
    · rename_i hk
      split at h
      · cases h
      · rename_i hc
        cases h
        have h1 : ¬ q + 1 < L := fun hh => hc (.inl hh)
        have h2 : ¬ 0 < f.2.length := fun hh => hc (.inr hh)
        exact ⟨by dsimp only; omega, Nat.le_refl _, Nat.le_refl _, fun _ => rfl, .inl rfl, fun hh => absurd hh h1, .inr ⟨hk, by omega⟩⟩
    · split at h
      · split at h
        · cases h
        · cases h
          exact ⟨by dsimp only; omega, Nat.le_refl _, Nat.le_refl _, fun _ => rfl, .inl rfl, fun _ => rfl, .inl rfl⟩
      · split at h
        · split at h
          · cases h
          · cases h
            exact ⟨by dsimp only; omega, Nat.le_succ _, Nat.le_refl _, fun _ => rfl, .inl rfl, fun _ => rfl, .inl rfl⟩
        · split at h
          · split at h
            · cases h
            · cases h
              exact ⟨by dsimp only; omega, Nat.le_refl _, Nat.le_succ _, fun _ => rfl, .inl rfl, fun _ => rfl, .inl rfl⟩
          · split at h
            · cases h
              exact ⟨by omega, Nat.le_refl _, Nat.le_refl _, fun _ => rfl, .inl rfl, fun _ => rfl, .inl rfl⟩
            · cases h
theorem runR_bind {fs : List Ch} {q : Nat} {s' : Rs} (h : runR fs (q + 1) = some s') : ∃ s, runR fs q = some s ∧ stepR q fs.length (prevB fs q) s (fs.getD q Ch.zero) = some s' := by
  have h' : (runR fs q).bind (fun s => stepR q fs.length (prevB fs q) s (fs.getD q Ch.zero)) = some s' := h
  cases hr : runR fs q with
  | none => rw [hr] at h'; cases h'
  | some s => rw [hr] at h'; exact ⟨s, rfl, h'⟩
theorem runR_count {fs : List Ch} : ∀ (q : Nat) (s : Rs), runR fs q = some s → s.h + s.e + s.p + s.t + s.d ≤ q ∧ (q < fs.length → s.e = 0)
  | 0, s, h => by cases h; exact ⟨Nat.le_refl _, fun _ => rfl⟩
  | q + 1, s', h => by
    obtain ⟨s, h1, h2⟩ := runR_bind h
    obtain ⟨a1, a2, a3, a4, a5, a6, a7⟩ := step_facts h2
    obtain ⟨b1, b2⟩ := runR_count q s h1
    exact ⟨by omega, fun hq => by rw [a6 hq]; exact b2 (by omega)⟩
theorem runR_mono {fs : List Ch} {q : Nat} {s : Rs} (h : runR fs q = some s) : ∀ (k : Nat) (s' : Rs), runR fs (q + k) = some s' → s.p ≤ s'.p ∧ s.t ≤ s'.t
  | 0, s', h' => by
    rw [Nat.add_zero, h] at h'
    cases h'
    exact ⟨Nat.le_refl _, Nat.le_refl _⟩
  | k + 1, s', h' => by
    obtain ⟨s1, h1, h2⟩ := runR_bind (q := q + k) h'
    obtain ⟨a1, a2, a3, _⟩ := step_facts h2
    obtain ⟨b1, b2⟩ := runR_mono h k s1 h1
    exact ⟨by omega, by omega⟩
theorem runR_head {fs : List Ch} (hno : ¬ (isK (fs.getD 0 Ch.zero).1 kIHDR = true ∧ (fs.getD 0 Ch.zero).2.length = 13)) : ∀ (q : Nat) (s : Rs), runR fs q = some s → s.h = 0
  | 0, s, h => by cases h; rfl
  | q + 1, s', h => by
    obtain ⟨s, h1, h2⟩ := runR_bind h
    obtain ⟨a1, a2, a3, a4, a5, _⟩ := step_facts h2
    have ih := runR_head hno q s h1
    by_cases hq : 0 < q
    · rw [a4 hq]; exact ih
    · obtain rfl : q = 0 := by omega
      rcases a5 with a5 | a5
      · rw [a5]; exact ih
      · exact absurd a5 hno
theorem isK_eq {s : ByteArray} {l : List UInt8} (h : isK s l = true) : s = ⟨l.toArray⟩ := by
  have h1 : s.toList = l := eq_of_beq h
  rw [ByteArray.toList_eq] at h1
  cases s with
  | mk d =>
    have : d = l.toArray := by
      rw [← h1]
    rw [this]
theorem next_ends {k : ByteArray} {s : Wk} (h : isK k kIHDR = true ∨ isK k kIEND = true) : (nextV s k).1 = false := by
  rcases h with h | h
  · have e := isK_eq h
    subst e
    have h1 : isK ⟨kIHDR.toArray⟩ kIDAT = false := by unfold isK; rw [ByteArray.toList_eq]; decide
    have h2 : isK ⟨kIHDR.toArray⟩ kPLTE = false := by unfold isK; rw [ByteArray.toList_eq]; decide
    have h3 : isK ⟨kIHDR.toArray⟩ kTRNS = false := by unfold isK; rw [ByteArray.toList_eq]; decide
    have h4 : (nameB ⟨kIHDR.toArray⟩ && !critB ⟨kIHDR.toArray⟩) = false := by decide
    unfold nextV
    rw [h1, h2, h3, if_neg (by decide), if_neg (by decide), if_neg (by decide), h4]
  · have e := isK_eq h
    subst e
    have h1 : isK ⟨kIEND.toArray⟩ kIDAT = false := by unfold isK; rw [ByteArray.toList_eq]; decide
    have h2 : isK ⟨kIEND.toArray⟩ kPLTE = false := by unfold isK; rw [ByteArray.toList_eq]; decide
    have h3 : isK ⟨kIEND.toArray⟩ kTRNS = false := by unfold isK; rw [ByteArray.toList_eq]; decide
    have h4 : (nameB ⟨kIEND.toArray⟩ && !critB ⟨kIEND.toArray⟩) = false := by decide
    unfold nextV
    rw [h1, h2, h3, if_neg (by decide), if_neg (by decide), if_neg (by decide), h4]
def Rel (w : Wk) (s : Rs) (pd : Bool) : Prop := s.h = 1 ∧ s.e = 0 ∧ s.p ≤ 1 ∧ s.t ≤ 1 ∧ w.p = decide (1 ≤ s.p) ∧ w.t = decide (1 ≤ s.t) ∧ w.i = decide (1 ≤ s.d) ∧ w.o = (decide (1 ≤ s.d) && !pd)
theorem rel_step {w : Wk} {s : Rs} {pd : Bool} {q L : Nat} {f : Ch} (hq : 0 < q) (hL : q + 1 < L) (hr : Rel w s pd) :
    (∃ s', (nextV w f.1).1 = true ∧ stepR q L pd s f = some s' ∧ Rel (nextV w f.1).2 s' (isK f.1 kIDAT)) ∨
    ((nextV w f.1).1 = false ∧ (stepR q L pd s f = none ∨ ∃ s', stepR q L pd s f = some s' ∧ (1 < s'.p ∨ 1 < s'.t))) := by
  obtain ⟨r1, r2, r3, r4, r5, r6, r7, r8⟩ := hr
  by_cases k1 : isK f.1 kIHDR = true
  · exact .inr ⟨next_ends (.inl k1), .inl (by unfold stepR; rw [if_pos k1, if_pos (.inl hq)])⟩
  by_cases k2 : isK f.1 kIEND = true
  · exact .inr ⟨next_ends (.inr k2), .inl (by unfold stepR; rw [if_neg k1, if_pos k2, if_pos (.inl hL)])⟩
  by_cases k3 : isK f.1 kIDAT = true
  · have hn : nextV w f.1 = (!w.o, { w with i := true }) := by unfold nextV; rw [if_pos k3]
    have hs : stepR q L pd s f = if 0 < s.d ∧ pd = false then none else some { s with d := s.d + 1 } := by unfold stepR; rw [if_neg k1, if_neg k2, if_pos k3]
    rw [hn, hs, k3]
    by_cases hc : 0 < s.d ∧ pd = false
    · right
      refine ⟨?_, .inl (by rw [if_pos hc])⟩
      show (!w.o) = false
      rw [r8, hc.2, decide_eq_true (show 1 ≤ s.d from hc.1)]
      rfl
    · left
      have ho : w.o = false := by
        rw [r8]
        by_cases hd : 1 ≤ s.d
        · have hp : pd = true := by
            cases hpd : pd with
            | true => rfl
            | false => exact absurd ⟨hd, hpd⟩ hc
          rw [hp]
          simp
        · rw [decide_eq_false hd]; rfl
      refine ⟨{ s with d := s.d + 1 }, by show (!w.o) = true; rw [ho]; rfl, by rw [if_neg hc], r1, r2, r3, r4, r5, r6, ?_, ?_⟩
      · show true = decide (1 ≤ s.d + 1); simp
      · show w.o = _; rw [ho]; simp
  have k3' : isK f.1 kIDAT = false := by simpa using k3
  by_cases k4 : isK f.1 kPLTE = true
  · have hs : stepR q L pd s f = if 0 < s.d ∨ 0 < s.t then none else some { s with p := s.p + 1 } := by unfold stepR; rw [if_neg k1, if_neg k2, if_neg k3, if_pos k4]
    by_cases ht : w.t = true
    · right
      refine ⟨by unfold nextV; rw [if_neg k3, if_pos k4, if_pos ht], .inl ?_⟩
      rw [hs, if_pos (.inr (by rw [r6] at ht; have := of_decide_eq_true ht; omega))]
    · have hn : nextV w f.1 = (!w.p && !w.i, { w with o := w.i, p := true }) := by unfold nextV; rw [if_neg k3, if_pos k4, if_neg ht]
      have ht0 : ¬ 0 < s.t := fun hh => ht (by rw [r6]; exact decide_eq_true (by omega))
      rw [hn, hs, k3']
      by_cases hd : 0 < s.d
      · right
        refine ⟨?_, .inl (by rw [if_pos (.inl hd)])⟩
        show (!w.p && !w.i) = false
        rw [r7, decide_eq_true (show 1 ≤ s.d from hd)]
        simp
      · rw [if_neg (fun hh => hh.elim hd ht0)]
        have hi : w.i = false := by rw [r7]; simpa using hd
        by_cases hp : 1 ≤ s.p
        · right
          refine ⟨?_, .inr ⟨_, rfl, .inl (by show 1 < s.p + 1; omega)⟩⟩
          show (!w.p && !w.i) = false
          rw [r5, decide_eq_true hp]
          rfl
        · left
          refine ⟨_, ?_, rfl, r1, r2, by show s.p + 1 ≤ 1; omega, r4, ?_, r6, r7, ?_⟩
          · show (!w.p && !w.i) = true
            rw [r5, hi, decide_eq_false hp]
            rfl
          · show true = decide (1 ≤ s.p + 1); simp
          · show w.i = _; rw [r7]; simp
  by_cases k5 : isK f.1 kTRNS = true
  · have hs : stepR q L pd s f = if 0 < s.d then none else some { s with t := s.t + 1 } := by unfold stepR; rw [if_neg k1, if_neg k2, if_neg k3, if_neg k4, if_pos k5]
    have hn : nextV w f.1 = (!w.t && !w.i, { w with o := w.i, t := true }) := by unfold nextV; rw [if_neg k3, if_neg k4, if_pos k5]
    rw [hn, hs, k3']
    by_cases hd : 0 < s.d
    · right
      refine ⟨?_, .inl (by rw [if_pos hd])⟩
      show (!w.t && !w.i) = false
      rw [r7, decide_eq_true (show 1 ≤ s.d from hd)]
      simp
    · rw [if_neg hd]
      have hi : w.i = false := by rw [r7]; simpa using hd
      by_cases ht : 1 ≤ s.t
      · right
        refine ⟨?_, .inr ⟨_, rfl, .inr (by show 1 < s.t + 1; omega)⟩⟩
        show (!w.t && !w.i) = false
        rw [r6, decide_eq_true ht]
        rfl
      · left
        refine ⟨_, ?_, rfl, r1, r2, r3, by show s.t + 1 ≤ 1; omega, r5, ?_, r7, ?_⟩
        · show (!w.t && !w.i) = true
          rw [r6, hi, decide_eq_false ht]
          rfl
        · show true = decide (1 ≤ s.t + 1); simp
        · show w.i = _; rw [r7]; simp
  · have hs : stepR q L pd s f = if nameB f.1 = true ∧ critB f.1 = false then some s else none := by unfold stepR; rw [if_neg k1, if_neg k2, if_neg k3, if_neg k4, if_neg k5]
    have hn : nextV w f.1 = (nameB f.1 && !critB f.1, { w with o := w.i }) := by unfold nextV; rw [if_neg k3, if_neg k4, if_neg k5]
    rw [hn, hs, k3']
    by_cases hc : nameB f.1 = true ∧ critB f.1 = false
    · left
      refine ⟨s, by show (nameB f.1 && !critB f.1) = true; rw [hc.1, hc.2]; rfl, by rw [if_pos hc], r1, r2, r3, r4, r5, r6, r7, ?_⟩
      show w.i = _; rw [r7]; simp
    · right
      refine ⟨?_, .inl (by rw [if_neg hc])⟩
      show (nameB f.1 && !critB f.1) = false
      cases hx : nameB f.1 with
      | false => rfl
      | true =>
        cases hy : critB f.1 with
        | true => rfl
        | false => exact absurd ⟨hx, hy⟩ hc
theorem walk_none {fs : List Ch} {q : Nat} (h : walkV wk0 ((midC fs).take q) = none) : ∀ k, walkV wk0 ((midC fs).take (q + k)) = none := by
  intro k
  have e : (midC fs).take (q + k) = (midC fs).take q ++ ((midC fs).drop q).take k := by
    rw [List.take_add]
  rw [e, walkV_append, h]
  rfl
theorem inv_all {fs : List Ch} (h3 : 3 ≤ fs.length) (h0 : isK (fs.getD 0 Ch.zero).1 kIHDR = true) (h13 : (fs.getD 0 Ch.zero).2.length = 13) : ∀ q, q + 2 ≤ fs.length →
    (∃ w s, walkV wk0 ((midC fs).take q) = some w ∧ runR fs (q + 1) = some s ∧ Rel w s (isK (fs.getD q Ch.zero).1 kIDAT)) ∨
    (walkV wk0 ((midC fs).take q) = none ∧ (runR fs (q + 1) = none ∨ ∃ s, runR fs (q + 1) = some s ∧ (1 < s.p ∨ 1 < s.t))) := by
  intro q
  induction q with
  | zero =>
    intro _
    left
    refine ⟨wk0, ⟨1, 0, 0, 0, 0⟩, rfl, ?_, rfl, rfl, by decide, by decide, rfl, rfl, rfl, rfl⟩
    show (some (⟨0, 0, 0, 0, 0⟩ : Rs)).bind _ = _
    show stepR 0 fs.length (prevB fs 0) ⟨0, 0, 0, 0, 0⟩ (fs.getD 0 Ch.zero) = _
    unfold stepR
    rw [if_pos h0, if_neg (fun hh => hh.elim (fun hh => by omega) (fun hh => hh h13))]
  | succ q ih =>
    intro hq
    have hq1 : q + 1 < fs.length := by omega
    have hgd : fs.getD (q + 1) Ch.zero = fs[q + 1]'hq1 := by rw [List.getD_eq_getElem?_getD, List.getElem?_eq_getElem hq1]; rfl
    rcases ih (by omega) with ⟨w, s, hw, hr, hrel⟩ | ⟨hw, hr⟩
    · obtain ⟨f, hf, hy, hn⟩ := walk_step (fs := fs) (q := q) (s := w) (by omega) hw
      have hfe : fs[q + 1]'hq1 = f := by rw [List.getElem?_eq_getElem hq1] at hf; exact Option.some.inj hf
      have hst := runR_step hq1 hr
      have hpv : prevB fs (q + 1) = isK (fs.getD q Ch.zero).1 kIDAT := rfl
      rw [hpv, hfe] at hst
      rw [hgd, hfe]
      rcases rel_step (f := f) (q := q + 1) (L := fs.length) (by omega) (by omega) hrel with ⟨s', h1, h2, h4⟩ | ⟨h1, h2⟩
      · left
        exact ⟨_, s', hy h1, by rw [hst, h2], h4⟩
      · right
        refine ⟨?_, ?_⟩
        · have hl : (midC fs).length = fs.length - 2 := by unfold midC; rw [List.length_take, List.length_drop]; omega
          have hm : q < (midC fs).length := by omega
          have hg : (midC fs)[q]'hm = f := by
            have h1 : (midC fs)[q]? = fs[q + 1]? := by
              unfold midC
              rw [List.getElem?_take_of_lt (by omega), List.getElem?_drop, Nat.add_comm]
            rw [List.getElem?_eq_getElem hm, hf] at h1
            exact Option.some.inj h1
          rw [List.take_succ_eq_append_getElem hm, walkV_append, hw, hg]
          show (if (nextV w f.1).1 = true then _ else _) = _
          rw [if_neg (by rw [h1]; decide)]
        · rw [hst]; exact h2
    · right
      refine ⟨walk_none hw 1, ?_⟩
      rcases hr with hr | ⟨s, hr, hb⟩
      · exact .inl (runR_none hr 1)
      · cases hx : runR fs (q + 1 + 1) with
        | none => exact .inl rfl
        | some s' =>
          obtain ⟨m1, m2⟩ := runR_mono hr 1 s' hx
          exact .inr ⟨s', rfl, by omega⟩
theorem orders (fs : List Ch) : orderV fs = orderR fs := by
  unfold orderV orderR
  by_cases h3 : 3 ≤ fs.length
  · by_cases h0 : isK (fs.getD 0 Ch.zero).1 kIHDR = true ∧ (fs.getD 0 Ch.zero).2.length = 13
    · have hinv := inv_all h3 h0.1 h0.2 (fs.length - 2) (by omega)
      rw [show fs.length - 2 + 1 = fs.length - 1 by omega, List.take_of_length_le (by unfold midC; rw [List.length_take, List.length_drop]; omega)] at hinv
      obtain ⟨L, hL⟩ : ∃ L, fs.length = L + 1 := ⟨fs.length - 1, by omega⟩
      have hlast : ∀ s', runR fs fs.length = some s' → ∃ s, runR fs (fs.length - 1) = some s ∧ stepR (fs.length - 1) fs.length (prevB fs (fs.length - 1)) s (fs.getD (fs.length - 1) Ch.zero) = some s' := fun s' h => by
        have h' : runR fs (fs.length - 1 + 1) = some s' := by rw [show fs.length - 1 + 1 = fs.length by omega]; exact h
        exact runR_bind h'
      rcases hinv with ⟨w, s, hw, hr, hrel⟩ | ⟨hw, hr⟩
      · obtain ⟨r1, r2, r3, r4, r5, r6, r7, r8⟩ := hrel
        by_cases hz : isK (fs.getD (fs.length - 1) Ch.zero).1 kIEND = true ∧ (fs.getD (fs.length - 1) Ch.zero).2.length = 0
        · have hne : ¬ isK (fs.getD (fs.length - 1) Ch.zero).1 kIHDR = true := by
            intro hh
            have e1 := isK_eq hh
            have e2 := isK_eq hz.1
            rw [e1] at e2
            have : kIHDR.toArray = kIEND.toArray := congrArg ByteArray.data e2
            revert this
            decide
          have hrun : runR fs fs.length = some { s with e := s.e + 1 } := by
            have hs := runR_step (q := fs.length - 1) (by omega) hr
            rw [show fs.length - 1 + 1 = fs.length by omega] at hs
            rw [hs]
            have hg : fs[fs.length - 1]'(by omega) = fs.getD (fs.length - 1) Ch.zero := by rw [List.getD_eq_getElem?_getD, List.getElem?_eq_getElem (by omega)]; rfl
            rw [hg]
            unfold stepR
            rw [if_neg hne, if_pos hz.1, if_neg (fun hh => hh.elim (fun hh => by omega) (fun hh => by omega))]
          rw [hrun]
          have hok : okO fs = w.i := by
            unfold okO endsB
            rw [decide_eq_true h3, h0.1, decide_eq_true h0.2, hz.1, decide_eq_true hz.2, hw]
            rfl
          have hri : rightR { s with e := s.e + 1 } = w.i := by
            unfold rightR
            dsimp only
            rw [r1, r2, r7, decide_eq_true r3, decide_eq_true r4]
            simp
          dsimp only
          rw [hok, hri]
        · have hok : okO fs = false := by
            unfold okO endsB
            by_cases hk : isK (fs.getD (fs.length - 1) Ch.zero).1 kIEND = true
            · rw [decide_eq_false (fun hh => hz ⟨hk, hh⟩), Bool.and_false, Bool.and_false, Bool.false_and]
            · have hk' : isK (fs.getD (fs.length - 1) Ch.zero).1 kIEND = false := by simpa using hk
              rw [hk', Bool.and_false, Bool.false_and, Bool.and_false, Bool.false_and]
          rw [hok]
          cases hx : runR fs fs.length with
          | none => rfl
          | some s' =>
            obtain ⟨s1, h1, h2⟩ := hlast s' hx
            rw [hr] at h1
            cases h1
            obtain ⟨_, _, _, _, _, _, a7⟩ := step_facts h2
            rcases a7 with a7 | a7
            · have : rightR s' = false := by
                unfold rightR
                rw [a7, r2]
                simp
              dsimp only
              rw [this]
            · exact absurd a7 hz
      · have hok : okO fs = false := by unfold okO; rw [hw, Bool.and_false]
        rw [hok]
        cases hx : runR fs fs.length with
        | none => rfl
        | some s' =>
          obtain ⟨s1, h1, h2⟩ := hlast s' hx
          rcases hr with hr | ⟨s, hr, hb⟩
          · rw [hr] at h1; cases h1
          · rw [hr] at h1
            cases h1
            obtain ⟨_, a2, a3, _⟩ := step_facts h2
            have : rightR s' = false := by
              unfold rightR
              rcases hb with hb | hb
              · rw [decide_eq_false (by omega : ¬ s'.p ≤ 1), Bool.and_false, Bool.false_and]
              · rw [decide_eq_false (by omega : ¬ s'.t ≤ 1), Bool.and_false]
            dsimp only
            rw [this]
    · have hok : okO fs = false := by
        unfold okO endsB
        by_cases hk : isK (fs.getD 0 Ch.zero).1 kIHDR = true
        · rw [decide_eq_false (fun hh => h0 ⟨hk, hh⟩), Bool.and_false, Bool.false_and, Bool.false_and, Bool.and_false, Bool.false_and]
        · have hk' : isK (fs.getD 0 Ch.zero).1 kIHDR = false := by simpa using hk
          rw [hk', Bool.false_and, Bool.false_and, Bool.false_and, Bool.and_false, Bool.false_and]
      rw [hok]
      cases hx : runR fs fs.length with
      | none => rfl
      | some s' =>
        have hh := runR_head h0 _ _ hx
        have : rightR s' = false := by
          unfold rightR
          rw [hh]
          simp
        dsimp only
        rw [this]
  · have hok : okO fs = false := by unfold okO; rw [decide_eq_false h3, Bool.false_and, Bool.false_and]
    rw [hok]
    cases hx : runR fs fs.length with
    | none => rfl
    | some s' =>
      obtain ⟨c1, _⟩ := runR_count _ _ hx
      have : rightR s' = false := by
        cases hri : rightR s' with
        | false => rfl
        | true =>
          unfold rightR at hri
          simp only [Bool.and_eq_true, decide_eq_true_eq] at hri
          omega
      dsimp only
      rw [this]
end Go.Proofs.Ytfjcelnamjgieaa.Ck
