/- FrameFields, walked. Condition: the numbers are of their kinds. -/
import Derived.Test.YtmmppgkhlelbmaaFrT
import Derived.BigRegion
namespace Go.Proofs.Ytmmppgkhlelbmaa.Fr
open Go.RowKit Ba Go.Deep
set_option linter.unusedVariables false

theorem fits_lt (n m : Nat) : fitsV (n : Int) m = decide (n < 2 ^ (8 * m)) := by
  unfold fitsV
  rw [Bool.eq_iff_iff]
  simp only [Bool.and_eq_true, decide_eq_true_eq, beq_iff_eq]
  have hp : (0 : Int) < 2 ^ (8 * m) := Int.pow_pos (by decide)
  have hc : ((2 ^ (8 * m) : Nat) : Int) = 2 ^ (8 * m) := by exact_mod_cast rfl
  constructor
  · rintro ⟨_, h⟩
    have h3 := Int.mul_ediv_add_emod (n : Int) (2 ^ (8 * m))
    have h4 := Int.emod_lt_of_pos (n : Int) hp
    rw [h, Int.mul_zero, Int.zero_add] at h3
    rw [h3, ← hc] at h4
    exact_mod_cast h4
  · intro h
    refine ⟨by omega, Int.ediv_eq_zero_of_lt (by omega) ?_⟩
    rw [← hc]
    exact_mod_cast h
/-- What Encode and Parse make of numbers alone. -/
theorem enc_nums (k : Nat) (hk : 1 ≤ k ∧ k ≤ 10) (n0 n1 n2 : Nat) (w : World) :
    Calls Try.prog 18 #[.agg #[.int .i64 (k : Nat), .int .i64 (n0 : Nat), .int .i64 (n1 : Nat), .int .i64 (n2 : Nat), .slice none 0 0]] w
      (Encd (if fit3 (wid k).1 (wid k).2.1 (wid k).2.2.1 n0 n1 n2 = true then laidV ((1 + tot k : Nat) : Int) 4 ++ encP k (wid k).1 (wid k).2.1 (wid k).2.2.1 n0 n1 n2 [] else []) (if fit3 (wid k).1 (wid k).2.1 (wid k).2.2.1 n0 n1 n2 = true then 0 else 1) w) := by
  obtain ⟨h1, h2, h3, h4⟩ := wid_le k
  have h := encode_yes k _ _ _ hk (wid k).2.2.2 h1 h2 h3 n0 n1 n2 [] none 0 0 rfl (by omega) (fun _ => rfl) w (Bytes.nil _ _) (fun w => shapeOf_yes k hk w)
  cases hf : fit3 (wid k).1 (wid k).2.1 (wid k).2.2.1 n0 n1 n2 with
  | true =>
    have hK : encK (wid k).1 (wid k).2.1 (wid k).2.2.1 (wid k).2.2.2 n0 n1 n2 [] = 0 := by
      unfold encK
      rw [if_neg (by rw [hf]; decide), if_neg (fun h => absurd h.2 (by decide)), if_neg (by show ¬ 262208 < 1 + _ + 0; omega)]
    unfold encL at h
    rw [hK, if_pos rfl, encP_length] at h
    exact h
  | false =>
    have hK : encK (wid k).1 (wid k).2.1 (wid k).2.2.1 (wid k).2.2.2 n0 n1 n2 [] = 1 := by
      unfold encK
      rw [if_pos hf]
    unfold encL at h
    rw [hK, if_neg (by decide)] at h
    exact h
/-- The limits of a type's numbers. -/
def limN (M : Int) : Nat → Int × Int × Int
  | 1 => (M, 256, M)
  | 6 => (M, M, 1)
  | 7 => (M, 256, 1)
  | 8 => (M, 256, 256)
  | 10 => (256, 1, 1)
  | _ => (M, 1, 1)
theorem dec_int (n m : Nat) (l : Int) (h : l = (m : Int)) : decide (n < m) = decide ((n : Int) < l) := by
  rw [Bool.eq_iff_iff]
  simp only [decide_eq_true_eq]
  omega
theorem fit3_lim (M : Int) (hM : M = 4294967296) (k : Nat) (hk : 1 ≤ k ∧ k ≤ 10) (n0 n1 n2 : Nat) : fit3 (wid k).1 (wid k).2.1 (wid k).2.2.1 n0 n1 n2 = (decide ((n0 : Int) < (limN M k).1) && decide ((n1 : Int) < (limN M k).2.1) && decide ((n2 : Int) < (limN M k).2.2)) := by
  have h : fit3 (wid k).1 (wid k).2.1 (wid k).2.2.1 n0 n1 n2 = (decide (n0 < 2 ^ (8 * (wid k).1)) && decide (n1 < 2 ^ (8 * (wid k).2.1)) && decide (n2 < 2 ^ (8 * (wid k).2.2.1))) := by
    rw [← fits_lt, ← fits_lt, ← fits_lt]
    rfl
  rw [h]
  subst hM
  have e0 : (limN 4294967296 k).1 = ((2 ^ (8 * (wid k).1) : Nat) : Int) := by rcases kind_cases hk with rfl | rfl | rfl | rfl | rfl | rfl | rfl | rfl | rfl | rfl <;> rfl
  have e1 : (limN 4294967296 k).2.1 = ((2 ^ (8 * (wid k).2.1) : Nat) : Int) := by rcases kind_cases hk with rfl | rfl | rfl | rfl | rfl | rfl | rfl | rfl | rfl | rfl <;> rfl
  have e2 : (limN 4294967296 k).2.2 = ((2 ^ (8 * (wid k).2.2.1) : Nat) : Int) := by rcases kind_cases hk with rfl | rfl | rfl | rfl | rfl | rfl | rfl | rfl | rfl | rfl <;> rfl
  rw [dec_int n0 _ _ e0, dec_int n1 _ _ e1, dec_int n2 _ _ e2]
theorem tmod_in (k0 m : Nat) (h : k0 % 10 = m) : Int.tmod (k0 : Int) 10 = (m : Int) := by
  rw [Int.tmod_eq_emod_of_nonneg (by omega)]
  omega
theorem parse_nums (k : Nat) (hk : 1 ≤ k ∧ k ≤ 10) (n0 n1 n2 : Nat) (hf : fit3 (wid k).1 (wid k).2.1 (wid k).2.2.1 n0 n1 n2 = true) (a : Option Addr) (n cap : Nat) (hn : n = 1 + tot k) (hcap : n ≤ cap) (hcap2 : cap ≤ maxLen) (w : World) (hb : Bytes w a (encP k (wid k).1 (wid k).2.1 (wid k).2.2.1 n0 n1 n2 [])) :
    Calls Try.prog 16 #[.slice a n cap] w (Parsed ⟨k, n0, n1, n2, []⟩ 0 w) := by
  obtain ⟨g1, g2, g3, g4⟩ := wid_le k
  have hp := parse_enc k hk n0 n1 n2 [] hf (.inr rfl)
  have h := parse_any (encP k (wid k).1 (wid k).2.1 (wid k).2.2.1 n0 n1 n2 []) a n cap (by rw [encP_length, hn]; rfl) (by unfold tot at hn; omega) hcap hcap2 w hb
  rw [hp.1, hp.2] at h
  exact h
set_option maxRecDepth 100000 in
set_option maxHeartbeats 60000000 in
theorem fields_any (k0 : Nat) (hk0 : k0 < 256) (n0 n1 n2 : Nat) (M : Int) (HM : Hid (M = 4294967296)) (h0 : (n0 : Int) < 4294967296) (h1 : (n1 : Int) < 4294967296) (h2 : (n2 : Int) < 4294967296) (w : World) :
    Calls Try.prog 8 #[.int .u8 (k0 : Nat), .agg #[.int .u32 (n0 : Nat), .int .u32 (n1 : Nat), .int .u32 (n2 : Nat)]] w fun e w' => e = .returned (.bool true) ∧ Below w.heap.size w w' := by
  have hz := fun w => (by kernel_rfl : (zeroValue 39).run Try.prog w = .ok (.agg #[.int .i64 0, .int .i64 0, .int .i64 0, .int .i64 0, .slice none 0 0]) w)
  have B0 := Lib.hid (Blk.new w #[.int .u32 (n0 : Nat), .int .u32 (n1 : Nat), .int .u32 (n2 : Nat)] 56)
  have hb0 : Below w.heap.size w (w.alloc (Obj.cells #[.int .u32 (n0 : Nat), .int .u32 (n1 : Nat), .int .u32 (n2 : Nat)] 56)) := (Below.refl _ _).alloc (Nat.le_refl _) _
  obtain ⟨km, hkm⟩ : ∃ km, k0 % 10 = km := ⟨_, rfl⟩
  have ht := tmod_in k0 km hkm
  have hk10 : km < 10 := by omega
  clear hkm
  have HE0 : Hid (∀ w, Calls Try.prog 18 #[.agg #[.int .i64 (1 + (km : Int)), .int .i64 (n0 : Nat), .int .i64 (n1 : Nat), .int .i64 (n2 : Nat), .slice none 0 0]] w
      (Encd (if fit3 (wid (km + 1)).1 (wid (km + 1)).2.1 (wid (km + 1)).2.2.1 n0 n1 n2 = true then laidV ((1 + tot (km + 1) : Nat) : Int) 4 ++ encP (km + 1) (wid (km + 1)).1 (wid (km + 1)).2.1 (wid (km + 1)).2.2.1 n0 n1 n2 [] else []) (if fit3 (wid (km + 1)).1 (wid (km + 1)).2.1 (wid (km + 1)).2.2.1 n0 n1 n2 = true then 0 else 1) w)) := Lib.hid (fun w => by
    have h := enc_nums (km + 1) (by omega) n0 n1 n2 w
    rw [show (((km + 1 : Nat)) : Int) = 1 + (km : Int) by omega] at h
    exact h)
  have HP0 := Lib.hid (fun hf a n cap hn hc1 hc2 w hb => parse_nums (km + 1) (by omega) n0 n1 n2 hf a n cap hn hc1 hc2 w hb)
  have HF0 := Lib.hid (fit3_lim M HM.out (km + 1) (by omega) n0 n1 n2)
  have hlim : ((n0 : Int) < (limN M (km + 1)).1 ∧ (n1 : Int) < (limN M (km + 1)).2.1 ∧ (n2 : Int) < (limN M (km + 1)).2.2) ∨ ¬ (n0 : Int) < (limN M (km + 1)).1 ∨ ((n0 : Int) < (limN M (km + 1)).1 ∧ ¬ (n1 : Int) < (limN M (km + 1)).2.1) ∨ ((n0 : Int) < (limN M (km + 1)).1 ∧ (n1 : Int) < (limN M (km + 1)).2.1 ∧ ¬ (n2 : Int) < (limN M (km + 1)).2.2) := by omega
  have HLIM := Lib.hid hlim
  clear hlim
  obtain ⟨bsE, hbE⟩ : ∃ bs, bs = if fit3 (wid (km + 1)).1 (wid (km + 1)).2.1 (wid (km + 1)).2.2.1 n0 n1 n2 = true then laidV ((1 + tot (km + 1) : Nat) : Int) 4 ++ encP (km + 1) (wid (km + 1)).1 (wid (km + 1)).2.1 (wid (km + 1)).2.2.1 n0 n1 n2 [] else [] := ⟨_, rfl⟩
  obtain ⟨cE, hcE⟩ : ∃ c : Nat, c = if fit3 (wid (km + 1)).1 (wid (km + 1)).2.1 (wid (km + 1)).2.2.1 n0 n1 n2 = true then 0 else 1 := ⟨_, rfl⟩
  rw [← hbE, ← hcE] at HE0
  have HBE := Lib.hid hbE
  have HCE := Lib.hid hcE
  clear hbE hcE
  go_enter Try.func8, Try.ntmps8
  go_wp2_with fail
  generalize w.alloc (Obj.cells #[.int .u32 (n0 : Nat), .int .u32 (n1 : Nat), .int .u32 (n2 : Nat)] 56) = w0 at *
  refine (awake_any _).mono ?_
  rintro e w1 ⟨rfl, hb1⟩
  have B1 := Lib.hid (B0.out.keep hb1)
  have HB1 := Lib.hid (chain hb0 hb1)
  have c0 := B1.out.cell (i := 0) rfl
  have c1 := B1.out.cell (i := 1) rfl
  have c2 := B1.out.cell (i := 2) rfl
  have lt1 := B1.out.lt
  clear hb0 hb1 B0
  go_wp2_with fail
  have F1 := Lib.hid (Blk.new w1 #[.int .i64 (1 + (km : Int)), .int .i64 (n0 : Nat), .int .i64 (n1 : Nat), .int .i64 (n2 : Nat), .slice none 0 0] 39)
  have HB1' := Lib.hid (HB1.out.alloc HB1.out.size (Obj.cells #[.int .i64 (1 + (km : Int)), .int .i64 (n0 : Nat), .int .i64 (n1 : Nat), .int .i64 (n2 : Nat), .slice none 0 0] 39))
  refine (HE0.out _).mono ?_
  rintro e w2 ⟨v2, rfl, hb2, ho2⟩
  obtain ⟨a2, cp2, rfl, hy2, hl2, hm2, hn2, _⟩ := ho2.view2
  obtain ⟨LE, hLE⟩ : ∃ L, L = bsE.length := ⟨_, rfl⟩
  rw [← hLE] at hl2 ⊢
  have HLE := Lib.hid hLE
  have F2 := Lib.hid (F1.out.keep hb2)
  have HB2 := Lib.hid (chain HB1'.out hb2)
  have HY2 := Lib.hid hy2
  have HM2 := Lib.hid (And.intro hl2 (And.intro hm2 hn2))
  have H0 := Lib.hid h0
  have H1 := Lib.hid h1
  have H2 := Lib.hid h2
  have s2 := HB2.out.size
  clear hb2 ho2 F1 HB1' HB1 B1 c0 c1 c2 HE0 hy2 hl2 hm2 hn2 hLE h0 h1 h2
  have HYES : Hid (((n0 : Int) < (limN M (km + 1)).1 ∧ (n1 : Int) < (limN M (km + 1)).2.1 ∧ (n2 : Int) < (limN M (km + 1)).2.2) → cE = 0 ∧ LE = 5 + tot (km + 1) ∧
      (∀ w', Below w2.heap.size w2 w' → Calls Try.prog 16 #[.slice (cutA a2 4 cp2) (1 + tot (km + 1)) (cp2 - 4)] w' (Parsed ⟨((km + 1 : Nat) : Int), n0, n1, n2, []⟩ 0 w')) ∧
      (∀ w, (Instr.slice 22 (.slice a2 (5 + tot (km + 1)) cp2) (some (.int .i64 4)) none none).run Try.prog w = .ok (.slice (cutA a2 4 cp2) (1 + tot (km + 1)) (cp2 - 4)) w)) := Lib.hid (by
    rintro ⟨x0, x1, x2⟩
    have hft : fit3 (wid (km + 1)).1 (wid (km + 1)).2.1 (wid (km + 1)).2.2.1 n0 n1 n2 = true := by rw [HF0.out, decide_eq_true x0, decide_eq_true x1, decide_eq_true x2]; rfl
    have hle : LE = 5 + tot (km + 1) := by
      rw [HLE.out, HBE.out, if_pos hft, List.length_append, laid_length, encP_length]
      show 4 + (1 + tot (km + 1) + 0) = _
      omega
    have hyb : Bytes w2 (cutA a2 4 cp2) (encP (km + 1) (wid (km + 1)).1 (wid (km + 1)).2.1 (wid (km + 1)).2.2.1 n0 n1 n2 []) := by
      have h := HY2.out
      rw [HBE.out, if_pos hft] at h
      have hlen : (laidV ((1 + tot (km + 1) : Nat) : Int) 4 ++ encP (km + 1) (wid (km + 1)).1 (wid (km + 1)).2.1 (wid (km + 1)).2.2.1 n0 n1 n2 []).length = LE := by rw [HLE.out, HBE.out, if_pos hft]
      have h2 := h.drop 4 cp2 (by rw [hlen]; exact HM2.out.1)
      rw [List.drop_left' (laid_length _ _)] at h2
      exact h2
    refine ⟨by rw [HCE.out, if_pos hft], hle, ?_, ?_⟩
    · exact fun w' hw' => HP0.out hft _ _ _ rfl (by have := HM2.out.1; omega) (by have := HM2.out.2.1; omega) w' (hyb.keep hw')
    · intro w
      have h := run_cut_from (P := Try.prog) 22 5 Try.underlying22 size_u8 a2 (5 + tot (km + 1)) cp2 .i64 4 (by omega) w
      rw [show 5 + tot (km + 1) - 4 = 1 + tot (km + 1) by omega] at h
      exact h)
  have HNO : Hid ((¬ (n0 : Int) < (limN M (km + 1)).1 ∨ ((n0 : Int) < (limN M (km + 1)).1 ∧ ¬ (n1 : Int) < (limN M (km + 1)).2.1) ∨ ((n0 : Int) < (limN M (km + 1)).1 ∧ (n1 : Int) < (limN M (km + 1)).2.1 ∧ ¬ (n2 : Int) < (limN M (km + 1)).2.2)) → cE = 1 ∧ LE = 0) := Lib.hid (by
    intro hn
    have hff : fit3 (wid (km + 1)).1 (wid (km + 1)).2.1 (wid (km + 1)).2.2.1 n0 n1 n2 = false := by
      rw [HF0.out]
      rcases hn with h | ⟨_, h⟩ | ⟨_, _, h⟩
      · rw [decide_eq_false h]; rfl
      · rw [decide_eq_false h, Bool.and_false]; rfl
      · rw [decide_eq_false h, Bool.and_false]
    have hne : ¬ fit3 (wid (km + 1)).1 (wid (km + 1)).2.1 (wid (km + 1)).2.2.1 n0 n1 n2 = true := by rw [hff]; decide
    exact ⟨by rw [HCE.out, if_neg hne], by rw [HLE.out, HBE.out, if_neg hne]; rfl⟩)
  have HLIM2 : Hid (((n0 : Int) < (limN M (km + 1)).1 ∧ (n1 : Int) < (limN M (km + 1)).2.1 ∧ (n2 : Int) < (limN M (km + 1)).2.2) ∨ (¬ (n0 : Int) < (limN M (km + 1)).1 ∨ ((n0 : Int) < (limN M (km + 1)).1 ∧ ¬ (n1 : Int) < (limN M (km + 1)).2.1) ∨ ((n0 : Int) < (limN M (km + 1)).1 ∧ (n1 : Int) < (limN M (km + 1)).2.1 ∧ ¬ (n2 : Int) < (limN M (km + 1)).2.2))) := Lib.hid (by
    by_cases y0 : (n0 : Int) < (limN M (km + 1)).1
    · by_cases y1 : (n1 : Int) < (limN M (km + 1)).2.1
      · by_cases y2 : (n2 : Int) < (limN M (km + 1)).2.2
        · exact .inl ⟨y0, y1, y2⟩
        · exact .inr (.inr (.inr ⟨y0, y1, y2⟩))
      · exact .inr (.inr (.inl ⟨y0, y1⟩))
    · exact .inr (.inl y0))
  clear HBE HCE HLE HY2 HM2 HP0 HF0 HLIM
  have hkk : km = 0 ∨ km = 1 ∨ km = 2 ∨ km = 3 ∨ km = 4 ∨ km = 5 ∨ km = 6 ∨ km = 7 ∨ km = 8 ∨ km = 9 := by omega
  clear ht hk10
  rcases hkk with rfl | rfl | rfl | rfl | rfl | rfl | rfl | rfl | rfl | rfl
  all_goals
    clear hz s2
    go_wp2_with fail
    go_region
  all_goals
    have hz := fun w => (by kernel_rfl : (zeroValue 39).run Try.prog w = .ok (.agg #[.int .i64 0, .int .i64 0, .int .i64 0, .int .i64 0, .slice none 0 0]) w)
    have d0 := F2.out.cell (i := 0) rfl
    have d1 := F2.out.cell (i := 1) rfl
    have d2 := F2.out.cell (i := 2) rfl
    have d3 := F2.out.cell (i := 3) rfl
    have lt2 := F2.out.lt
    have hs32 : ∀ yk, Op.shift .shl .i64 1 yk 32 = pure (.int .i64 M) := fun yk => by rw [HM.out]; rfl
    rcases HLIM2.out with hy | hn
    · obtain ⟨hce, hle, hpc, hcut⟩ := HYES.out hy
      obtain ⟨x0, x1, x2⟩ := hy
      simp only [Nat.reduceAdd, limN] at x0 x1 x2
      have hT : ∀ q, tot q = (wid q).1 + (wid q).2.1 + (wid q).2.2.1 := fun q => rfl
      simp [hT, wid] at hle
      simp [hT, wid] at hcut
      subst hce hle
      have HPC := Lib.hid hpc
      clear hpc hT HYES HNO HLIM2
      go_wp2_with fail
      refine (HPC.out _ (by first | exact (((Below.refl w2.heap.size w2).alloc (Nat.le_refl _) _).alloc (by simp) _).drew | exact (((Below.refl w2.heap.size w2).drew).alloc (Nat.le_refl _) _).alloc (by simp) _ | exact (((Below.refl w2.heap.size w2).alloc (Nat.le_refl _) _).drew).alloc (by simp) _)).mono ?_
      rintro e w5 ⟨v5, rfl, ⟨a5, c5, hv5, hd5⟩, hb5⟩
      have HB5 := Lib.hid (chain (chain HB2.out (by first | exact (((Below.refl w2.heap.size w2).alloc (Nat.le_refl _) _).alloc (by simp) _).drew | exact (((Below.refl w2.heap.size w2).drew).alloc (Nat.le_refl _) _).alloc (by simp) _ | exact (((Below.refl w2.heap.size w2).alloc (Nat.le_refl _) _).drew).alloc (by simp) _)) hb5)
      have hv5' : v5 = .agg #[.int .i64 _, .int .i64 (n0 : Nat), .int .i64 (n1 : Nat), .int .i64 (n2 : Nat), .slice a5 0 c5] := hv5
      subst hv5'
      have F5 := Lib.hid ((F2.out.keep (by first | exact (((Below.refl w2.heap.size w2).alloc (Nat.le_refl _) _).alloc (by simp) _).drew | exact (((Below.refl w2.heap.size w2).drew).alloc (Nat.le_refl _) _).alloc (by simp) _ | exact (((Below.refl w2.heap.size w2).alloc (Nat.le_refl _) _).drew).alloc (by simp) _)).keep hb5)
      have g0 := F5.out.cell (i := 0) rfl
      have g1 := F5.out.cell (i := 1) rfl
      have g2 := F5.out.cell (i := 2) rfl
      have g3 := F5.out.cell (i := 3) rfl
      have lt5 := F5.out.lt
      clear hv5 hd5 hb5 d0 d1 d2 d3
      go_wp2_with fail
      go_ret
      exact ⟨rfl, HB5.out.alloc HB5.out.size _⟩
    · obtain ⟨hce, hle⟩ := HNO.out hn
      subst hce hle
      clear HYES HNO HLIM2
      rcases hn with x0 | ⟨x0, x1⟩ | ⟨x0, x1, x2⟩
      · simp only [Nat.reduceAdd, limN] at x0
        first
        | (exfalso; have := H0.out; have := HM.out; omega)
        | (have y0 := decide_eq_false (Int.not_lt.2 x0)
           clear x0
           go_wp2_with fail
           go_ret
           exact ⟨rfl, chain HB2.out (by first | exact (((Below.refl w2.heap.size w2).alloc (Nat.le_refl _) _).alloc (by simp) _).drew | exact (((Below.refl w2.heap.size w2).drew).alloc (Nat.le_refl _) _).alloc (by simp) _ | exact (((Below.refl w2.heap.size w2).alloc (Nat.le_refl _) _).drew).alloc (by simp) _)⟩)
      · simp only [Nat.reduceAdd, limN] at x0 x1
        first
        | (exfalso; have := H1.out; have := HM.out; omega)
        | (have y0 := decide_eq_true x0
           have y1 := decide_eq_false (Int.not_lt.2 x1)
           clear x0 x1
           go_wp2_with fail
           go_ret
           exact ⟨rfl, chain HB2.out (by first | exact (((Below.refl w2.heap.size w2).alloc (Nat.le_refl _) _).alloc (by simp) _).drew | exact (((Below.refl w2.heap.size w2).drew).alloc (Nat.le_refl _) _).alloc (by simp) _ | exact (((Below.refl w2.heap.size w2).alloc (Nat.le_refl _) _).drew).alloc (by simp) _)⟩)
      · simp only [Nat.reduceAdd, limN] at x0 x1 x2
        first
        | (exfalso; have := H2.out; have := HM.out; omega)
        | (have y0 := decide_eq_true x0
           have y1 := decide_eq_true x1
           have y2 := decide_eq_false (Int.not_lt.2 x2)
           clear x0 x1 x2
           go_wp2_with fail
           go_ret
           exact ⟨rfl, chain HB2.out (by first | exact (((Below.refl w2.heap.size w2).alloc (Nat.le_refl _) _).alloc (by simp) _).drew | exact (((Below.refl w2.heap.size w2).drew).alloc (Nat.le_refl _) _).alloc (by simp) _ | exact (((Below.refl w2.heap.size w2).alloc (Nat.le_refl _) _).drew).alloc (by simp) _)⟩)
end Go.Proofs.Ytmmppgkhlelbmaa.Fr
