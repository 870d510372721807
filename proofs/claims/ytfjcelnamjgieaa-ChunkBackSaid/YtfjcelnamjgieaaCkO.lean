/- The plain law: what was joined is cut as it was; cut short or with a bit turned it is not. No condition; no program's text is stepped through here. -/
import Derived.Test.YtfjcelnamjgieaaCkN
namespace Go.Proofs.Ytfjcelnamjgieaa.Ck
open Go.RowKit Ba Go.Deep
set_option linter.unusedVariables false

theorem nameB_size {s : ByteArray} (h : nameB s = true) : s.size = 4 := (nameB_first h).choose
theorem look_parts (L : Nat) (s : ByteArray) (D S rest : List UInt8) (hs : nameB s = true) (hD : D.length = L) (hL : L ≤ 2147483647) (hS : S.length = 4) :
    lookV (four L ++ (s.data.toList ++ (D ++ (S ++ rest)))) = if beV S = crcV s D then .one (s, D) (12 + L) else .bad 5 := by
  have h4 : s.data.toList.length = 4 := by simpa using nameB_size hs
  have hlen : (four L ++ (s.data.toList ++ (D ++ (S ++ rest)))).length = 12 + L + rest.length := by simp only [List.length_append, four_length, h4, hD, hS]; omega
  have hnum : numV (four L ++ (s.data.toList ++ (D ++ (S ++ rest)))) = L := by
    unfold numV
    rw [List.take_left' (four_length L), beV_fourV L (by omega)]
  have d4 : (four L ++ (s.data.toList ++ (D ++ (S ++ rest)))).drop 4 = s.data.toList ++ (D ++ (S ++ rest)) := List.drop_left' (four_length L)
  have d8 : (four L ++ (s.data.toList ++ (D ++ (S ++ rest)))).drop 8 = D ++ (S ++ rest) := by
    rw [show (8 : Nat) = 4 + 4 by rfl, ← List.drop_drop, d4]
    exact List.drop_left' h4
  have hkind : kindV (four L ++ (s.data.toList ++ (D ++ (S ++ rest)))) = s := by
    unfold kindV
    rw [d4, List.take_left' h4]
  have hdata : dataV (four L ++ (s.data.toList ++ (D ++ (S ++ rest)))) = D := by
    unfold dataV
    rw [d8, hnum, List.take_left' hD]
  have hsum : sumV (four L ++ (s.data.toList ++ (D ++ (S ++ rest)))) = beV S := by
    unfold sumV
    rw [hnum, ← List.drop_drop, d8, List.drop_left' hD, List.take_left' hS]
  unfold lookV
  rw [hlen, hnum, hkind, hdata, hsum, if_neg (by omega), if_neg (by rw [hs]; exact fun h => h.elim (fun h => by omega) (fun h => by cases h)), if_neg (by omega)]
theorem encC_app (f : Ch) (rest : List UInt8) : encC f ++ rest = four f.2.length ++ (f.1.data.toList ++ (f.2 ++ (four (crcV f.1 f.2) ++ rest))) := by
  unfold encC
  simp only [List.append_assoc]
theorem crc_lt (s : ByteArray) (d : List UInt8) : crcV s d < 4294967296 := Su.more_lt _ _ (Su.more_lt _ _ (by omega))
theorem look_enc (f : Ch) (rest : List UInt8) (hs : nameB f.1 = true) (hL : f.2.length ≤ 2147483647) : lookV (encC f ++ rest) = .one f (12 + f.2.length) := by
  rw [encC_app, look_parts _ _ _ _ _ hs rfl hL (four_length _), if_pos (beV_fourV _ (crc_lt _ _))]
theorem encC_length (f : Ch) (hs : nameB f.1 = true) : (encC f).length = 12 + f.2.length := by
  have h4 : f.1.data.toList.length = 4 := by simpa using nameB_size hs
  unfold encC
  simp only [List.length_append, four_length, h4]
  omega
theorem comb_comb (a b : List Ch) (r : List Ch × Nat) : comb a (comb b r) = comb (a ++ b) r := by
  unfold comb
  by_cases h : r.2 = 0
  · simp [h]
  · simp [h]
theorem cut_enc (f : Ch) (rest : List UInt8) (hs : nameB f.1 = true) (hL : f.2.length ≤ 2147483647) (hk : f.1.toList ≠ iend.toList) : cutB (encC f ++ rest) = comb [f] (cutB rest) := by
  have h := cutB_on (look_enc f rest hs hL) hk
  rw [h, List.drop_left' (encC_length f hs)]
  rfl
def Mid (l : List Ch) : Prop := ∀ f ∈ l, nameB f.1 = true ∧ f.2.length ≤ 2147483647 ∧ f.1.toList ≠ iend.toList
theorem strmC_cons (f : Ch) (l : List Ch) : strmC (f :: l) = encC f ++ strmC l := by unfold strmC; rw [List.flatMap_cons]
theorem cut_strm : ∀ (l : List Ch) (rest : List UInt8), Mid l → cutB (strmC l ++ rest) = comb l (cutB rest)
  | [], rest, _ => (comb_nil _ (cutR_err _ _)).symm
  | f :: l, rest, h => by
    obtain ⟨h1, h2, h3⟩ := h f (List.mem_cons_self)
    rw [strmC_cons, List.append_assoc, cut_enc f _ h1 h2 h3, cut_strm l rest (fun g hg => h g (List.mem_cons_of_mem _ hg)), comb_comb]
    rfl
/-- The chunk that ends a file, with whatever data. -/
theorem cut_last (z : Ch) (rest : List UInt8) (hs : nameB z.1 = true) (hL : z.2.length ≤ 2147483647) (hk : z.1.toList = iend.toList) : cutB (encC z ++ rest) = if 0 < rest.length then ([], 4) else ([z], 0) := by
  rw [cutB_end (look_enc z rest hs hL) hk, List.drop_left' (encC_length z hs)]
/-- A chunk of which only k bytes are there. -/
theorem look_short (f : Ch) (rest : List UInt8) (k : Nat) (hs : nameB f.1 = true) (hL : f.2.length ≤ 2147483647) (hk : k < 12 + f.2.length) : lookV ((encC f ++ rest).take k) = .bad 2 := by
  have hel := encC_length f hs
  have hlen : ((encC f ++ rest).take k).length = k := by rw [List.length_take, List.length_append, hel]; omega
  unfold lookV
  rw [hlen]
  by_cases h12 : k < 12
  · rw [if_pos h12]
  · have h4 : f.1.data.toList.length = 4 := by simpa using nameB_size hs
    have hnum : numV ((encC f ++ rest).take k) = f.2.length := by
      unfold numV
      rw [List.take_take, Nat.min_eq_left (by omega), encC_app, List.take_left' (four_length _), beV_fourV _ (by omega)]
    have hkind : kindV ((encC f ++ rest).take k) = f.1 := by
      unfold kindV
      rw [List.drop_take, List.take_take, Nat.min_eq_left (by omega), encC_app, List.drop_left' (four_length _), List.take_left' h4]
    rw [if_neg h12, hnum, hkind, hs, if_neg (fun h => h.elim (fun h => by omega) (fun h => by cases h)), if_pos (by omega)]
theorem cut_short : ∀ (l : List Ch) (z : Ch) (k : Nat), Mid l → nameB z.1 = true → z.2.length ≤ 2147483647 → k < (strmC (l ++ [z])).length → cutB ((strmC (l ++ [z])).take k) = ([], 2)
  | [], z, k, _, hz, hzl, hk => by
    rw [List.nil_append, strmC_cons] at hk ⊢
    have e : strmC [] = [] := rfl
    rw [e, List.append_nil, encC_length z hz] at hk
    exact cutB_bad (look_short z _ k hz hzl hk)
  | f :: l, z, k, h, hz, hzl, hk => by
    obtain ⟨h1, h2, h3⟩ := h f (List.mem_cons_self)
    rw [List.cons_append, strmC_cons] at hk ⊢
    by_cases hkf : k < 12 + f.2.length
    · exact cutB_bad (look_short f _ k h1 h2 hkf)
    · have hel := encC_length f h1
      rw [List.take_append, List.take_of_length_le (by omega), hel, cut_enc f _ h1 h2 h3, cut_short l z (k - (12 + f.2.length)) (fun g hg => h g (List.mem_cons_of_mem _ hg)) hz hzl (by rw [List.length_append, hel] at hk; omega)]
      rfl
theorem sig_take (r : List UInt8) : (sigL ++ r).take 8 = sigL := List.take_left' rfl
theorem sig_drop (r : List UInt8) : (sigL ++ r).drop 8 = r := List.drop_left' rfl
theorem cutV_sig (r : List UInt8) (h : r.length ≤ 262136) : cutV (sigL ++ r) = cutB r := by
  unfold cutV
  have hl : (sigL ++ r).length = 8 + r.length := by rw [List.length_append]; rfl
  rw [hl, if_neg (by omega), if_neg (by omega), sig_take, sig_drop, if_pos rfl]
/-- What was joined is cut as it was. -/
theorem cut_joined (l : List Ch) (z : Ch) (hl : Mid l) (hz : nameB z.1 = true) (hzl : z.2.length ≤ 2147483647) (hk : z.1.toList = iend.toList) (hb : (strmC (l ++ [z])).length ≤ 262136) : cutV (sigL ++ strmC (l ++ [z])) = (l ++ [z], 0) := by
  have e : strmC (l ++ [z]) = strmC l ++ (encC z ++ []) := by unfold strmC; rw [List.flatMap_append, List.flatMap_cons, List.flatMap_nil]
  rw [cutV_sig _ hb, e, cut_strm l _ hl, cut_last z [] hz hzl hk]
  rfl
/-- A byte behind the end. -/
theorem cut_more (l : List Ch) (z : Ch) (x : UInt8) (hl : Mid l) (hz : nameB z.1 = true) (hzl : z.2.length ≤ 2147483647) (hk : z.1.toList = iend.toList) (hb : (strmC (l ++ [z])).length + 1 ≤ 262136) : cutV ((sigL ++ strmC (l ++ [z])) ++ [x]) = ([], 4) := by
  have e : strmC (l ++ [z]) ++ [x] = strmC l ++ (encC z ++ [x]) := by unfold strmC; rw [List.flatMap_append, List.flatMap_cons, List.flatMap_nil]; simp only [List.append_assoc, List.append_nil]
  rw [List.append_assoc, cutV_sig _ (by rw [List.length_append, List.length_singleton]; exact hb), e, cut_strm l _ hl, cut_last z [x] hz hzl hk]
  rfl
/-- Fewer bytes than there were. -/
theorem cut_less (l : List Ch) (z : Ch) (k : Nat) (hl : Mid l) (hz : nameB z.1 = true) (hzl : z.2.length ≤ 2147483647) (hb : (strmC (l ++ [z])).length ≤ 262136) (hk : k < (sigL ++ strmC (l ++ [z])).length) : cutV ((sigL ++ strmC (l ++ [z])).take k) = ([], 2) := by
  have h8 : sigL.length = 8 := rfl
  rw [List.length_append, h8] at hk
  by_cases hk8 : k < 8
  · unfold cutV
    rw [List.length_take, List.length_append, h8, if_neg (by omega), if_pos (by omega)]
  · rw [List.take_append, List.take_of_length_le (by omega), h8, cutV_sig _ (by rw [List.length_take]; omega)]
    exact cut_short l z (k - 8) hl hz hzl (by omega)
/-- The last chunk's sum is another one. -/
theorem cut_turned (l : List Ch) (z : Ch) (S : List UInt8) (hl : Mid l) (hz : nameB z.1 = true) (hzl : z.2.length ≤ 2147483647) (hS : S.length = 4) (hne : beV S ≠ crcV z.1 z.2) (hb : (strmC (l ++ [z])).length ≤ 262136) :
    cutV (sigL ++ (strmC l ++ (four z.2.length ++ (z.1.data.toList ++ (z.2 ++ S))))) = ([], 5) := by
  have hlen : (strmC l ++ (four z.2.length ++ (z.1.data.toList ++ (z.2 ++ S)))).length = (strmC (l ++ [z])).length := by
    have e : strmC (l ++ [z]) = strmC l ++ encC z := by unfold strmC; rw [List.flatMap_append, List.flatMap_cons, List.flatMap_nil, List.append_nil]
    rw [e]
    unfold encC
    simp only [List.length_append, four_length, hS]
  have hlk := look_parts z.2.length z.1 z.2 S [] hz rfl hzl hS
  rw [if_neg hne, List.append_nil] at hlk
  rw [cutV_sig _ (by rw [hlen]; exact hb), cut_strm l _ hl, cutB_bad hlk]
  rfl
end Go.Proofs.Ytfjcelnamjgieaa.Ck
