/- Contracts of both Parse's, joined. Condition: bytes lie at the slice. -/
import Derived.Test.YtmmppgkhlelbmaaFrG
namespace Go.Proofs.Ytmmppgkhlelbmaa.Fr
open Go.RowKit Ba
set_option linter.unusedVariables false

set_option maxRecDepth 100000 in
set_option maxHeartbeats 1600000 in
theorem rparse_short (k x y z : Nat) (hk : k < 256) (q : Bool) (hx : x ≤ 4) (hy : y ≤ 4) (hz4 : z ≤ 4) (b off n cap : Nat) (hn : n < x + y + z) (w : World) (hc : w.cell? ⟨b, off, none⟩ = some (.int .u8 k)) (HS : Hid (∀ w, Calls Try.prog 27 #[.int .i64 (k : Nat)] w (Widths x y z q w))) :
    Calls Try.prog 17 #[.slice (some ⟨b, off, none⟩) (n + 1) cap] w (Parsed Fr.zero 2 w) := by
  have hz := fun w => (by kernel_rfl : (zeroValue 40).run Try.prog w = .ok (.agg #[.int .i64 0, .int .i64 0, .int .i64 0, .int .i64 0, .slice none 0 0]) w)
  have hnl := fun w g => Lib.run_eql_slice_nil (P := Try.prog) w 57 3 (some ⟨g, 0, none⟩) 3 3 0 0 Try.underlying57
  have hlt := cell_lt hc
  have R0 := Lib.hid (Blk.new w #[.int .i64 0, .int .i64 0, .int .i64 0, .int .i64 0, .slice none 0 0] 40)
  have hb0 : Below w.heap.size w (w.alloc (Obj.cells #[.int .i64 0, .int .i64 0, .int .i64 0, .int .i64 0, .slice none 0 0] 40)) := (Below.refl _ _).alloc (Nat.le_refl _) _
  have hs0 : (w.alloc (Obj.cells #[.int .i64 0, .int .i64 0, .int .i64 0, .int .i64 0, .slice none 0 0] 40)).heap.size = w.heap.size + 1 := by simp
  go_enter Try.func17, Try.ntmps17
  go_wp2_with fail
  generalize w.alloc (Obj.cells #[.int .i64 0, .int .i64 0, .int .i64 0, .int .i64 0, .slice none 0 0] 40) = w0 at *
  refine (HS.out _).mono ?_
  rintro e w1 ⟨g, rfl, hg, hbk, hb1⟩
  have W1 := Lib.hid hbk
  have R1 := Lib.hid (R0.out.keep hb1)
  have HB1 := Lib.hid (chain hb0 hb1)
  have e0 := W1.out.cell (i := 0) rfl
  have e1 := W1.out.cell (i := 1) rfl
  have e2 := W1.out.cell (i := 2) rfl
  clear hb1 R0 hbk hb0 hg
  go_wp2_with fail
  go_quiet (fail)
  have R2 := Lib.hid (show Blk (w1.drewN nq) w.heap.size 40 _ from R1.out)
  have HB2 := Lib.hid (below_dn HB1.out nq)
  generalize w1.drewN nq = w2 at *
  have c0 := R2.out.cell (i := 0) rfl
  have c1 := R2.out.cell (i := 1) rfl
  have c2 := R2.out.cell (i := 2) rfl
  have c3 := R2.out.cell (i := 3) rfl
  have c4 := R2.out.cell (i := 4) rfl
  have fz := fun i => R2.out.frozen i
  go_wp2_with fail
  obtain ⟨W, hW, Q, hbW, _⟩ := R2.out.put5 (.int .i64 0) (.int .i64 0) (.int .i64 0) (.int .i64 0) (.slice none 0 0)
  rw [hW]
  have d0 := Q.cell (i := 0) rfl
  have d1 := Q.cell (i := 1) rfl
  have d2 := Q.cell (i := 2) rfl
  have d3 := Q.cell (i := 3) rfl
  have d4 := Q.cell (i := 4) rfl
  refine bodyPost_ret (v := .tuple #[.agg #[_, _, _, _, _], .int .i64 2]) (by simp [results, Try.results17, go_sem, d0, d1, d2, d3, d4]) rfl ⟨_, rfl, FrIs.zero _ _, ?_⟩
  exact hbW _ _ (Nat.le_refl _) HB2.out

/-- What a payload is: why not, and the message. -/
def tot (k : Nat) : Nat := (wid k).1 + (wid k).2.1 + (wid k).2.2.1
def parseC : List UInt8 → Nat
  | [] => 2
  | kb :: r => if 1 ≤ kb.toNat ∧ kb.toNat ≤ 10 then (if r.length < tot kb.toNat then 2 else if (wid kb.toNat).2.2.2 = false ∧ tot kb.toNat < r.length then 3 else 0) else 7
def frOf (kb : UInt8) (r : List UInt8) : Fr :=
  ⟨kb.toNat, fN (wid kb.toNat).1 (wid kb.toNat).2.1 (wid kb.toNat).2.2.1 r 0, fN (wid kb.toNat).1 (wid kb.toNat).2.1 (wid kb.toNat).2.2.1 r 1, fN (wid kb.toNat).1 (wid kb.toNat).2.1 (wid kb.toNat).2.2.1 r 2, r.drop (tot kb.toNat)⟩
def parseF : List UInt8 → Fr
  | [] => Fr.zero
  | kb :: r => if parseC (kb :: r) = 0 then frOf kb r else Fr.zero
theorem parseC_cons (kb : UInt8) (r : List UInt8) : parseC (kb :: r) = if 1 ≤ kb.toNat ∧ kb.toNat ≤ 10 then (if r.length < tot kb.toNat then 2 else if (wid kb.toNat).2.2.2 = false ∧ tot kb.toNat < r.length then 3 else 0) else 7 := rfl
theorem parseF_cons (kb : UInt8) (r : List UInt8) : parseF (kb :: r) = if parseC (kb :: r) = 0 then frOf kb r else Fr.zero := rfl
theorem wid_le (k : Nat) : (wid k).1 ≤ 4 ∧ (wid k).2.1 ≤ 4 ∧ (wid k).2.2.1 ≤ 4 ∧ 1 ≤ (wid k).1 := by
  unfold wid
  repeat (split; · simp)
  simp

theorem parse_any (bs : List UInt8) (a : Option Addr) (n cap : Nat) (hn : n = bs.length) (hm : n ≤ 140737488355328) (hcap : n ≤ cap) (hcap2 : cap ≤ maxLen) (w : World) (hb : Bytes w a bs) :
    Calls Try.prog 16 #[.slice a n cap] w (Parsed (parseF bs) (parseC bs) w) := by
  subst hn
  cases bs with
  | nil => exact parse_none a cap w
  | cons kb r =>
    obtain ⟨b, off, rfl, hc⟩ := hb 0 (by simp)
    rw [Nat.add_zero] at hc
    have bk := kb.toNat_lt
    obtain ⟨h1, h2, h3, h4⟩ := wid_le kb.toNat
    rw [List.length_cons] at *
    rw [parseF_cons, parseC_cons]
    by_cases hk : 1 ≤ kb.toNat ∧ kb.toNat ≤ 10
    · rw [if_pos hk]
      have HS : Hid (ShapeOf kb.toNat (wid kb.toNat).1 (wid kb.toNat).2.1 (wid kb.toNat).2.2.1 (wid kb.toNat).2.2.2) := fun w => shapeOf_yes kb.toNat hk w
      have HZ : Hid (SizeOf (wid kb.toNat).1 (wid kb.toNat).2.1 (wid kb.toNat).2.2.1 (wid kb.toNat).2.2.2) := fun w => size_any kb.toNat w
      by_cases hs : r.length < tot kb.toNat
      · rw [if_pos hs]
        exact parse_short _ _ _ _ bk _ h1 h2 h3 b off _ cap hs w hc HS HZ
      · rw [if_neg hs]
        by_cases hl : (wid kb.toNat).2.2.2 = false ∧ tot kb.toNat < r.length
        · rw [if_pos hl]
          rw [hl.1] at HS HZ
          exact parse_long _ _ _ _ bk h1 h2 h3 b off _ cap hl.2 w hc HS HZ
        · rw [if_neg hl]
          refine parse_ok _ _ _ _ bk _ h1 h2 h3 b off _ cap r rfl (by unfold tot at hs; omega) h4 ?_ (by omega) hcap hcap2 w hc ?_ HS HZ
          · cases hq : (wid kb.toNat).2.2.2 with
            | true => exact .inl rfl
            | false =>
              right
              have : ¬ tot kb.toNat < r.length := fun h => hl ⟨hq, h⟩
              show r.length = tot kb.toNat
              omega
          · have := hb.drop 1 cap hcap
            simpa using this
    · rw [if_neg hk]
      exact parse_kind _ bk (fun h => hk (by unfold isKind at h; omega)) b off _ cap w hc
theorem rparse_any (bs : List UInt8) (a : Option Addr) (n cap : Nat) (hn : n = bs.length) (hm : n ≤ 140737488355328) (hcap : n ≤ cap) (hcap2 : cap ≤ maxLen) (w : World) (hb : Bytes w a bs) :
    Calls Try.prog 17 #[.slice a n cap] w (Parsed (parseF bs) (parseC bs) w) := by
  subst hn
  cases bs with
  | nil => exact rparse_none a cap w
  | cons kb r =>
    obtain ⟨b, off, rfl, hc⟩ := hb 0 (by simp)
    rw [Nat.add_zero] at hc
    have bk := kb.toNat_lt
    obtain ⟨h1, h2, h3, h4⟩ := wid_le kb.toNat
    rw [List.length_cons] at *
    rw [parseF_cons, parseC_cons]
    by_cases hk : 1 ≤ kb.toNat ∧ kb.toNat ≤ 10
    · rw [if_pos hk]
      have HS : Hid (∀ w, Calls Try.prog 27 #[.int .i64 (kb.toNat : Nat)] w (Widths (wid kb.toNat).1 (wid kb.toNat).2.1 (wid kb.toNat).2.2.1 (wid kb.toNat).2.2.2 w)) := fun w => widths_yes kb.toNat hk w
      by_cases hs : r.length < tot kb.toNat
      · rw [if_pos hs]
        exact rparse_short _ _ _ _ bk _ h1 h2 h3 b off _ cap hs w hc HS
      · rw [if_neg hs]
        refine rparse_big _ _ _ _ bk _ h1 h2 h3 b off _ cap r rfl (by unfold tot at hs; omega) h4 _ _ ?_ (by omega) hcap hcap2 w kb rfl hb HS
        by_cases hl : (wid kb.toNat).2.2.2 = false ∧ tot kb.toNat < r.length
        · rw [if_pos hl]
          exact .inl ⟨hl.1, hl.2, rfl, rfl⟩
        · rw [if_neg hl]
          refine .inr ⟨?_, rfl, rfl⟩
          cases hq : (wid kb.toNat).2.2.2 with
          | true => exact .inl rfl
          | false =>
            right
            have : ¬ tot kb.toNat < r.length := fun h => hl ⟨hq, h⟩
            show r.length = tot kb.toNat
            omega
    · rw [if_neg hk]
      exact rparse_kind _ bk (fun h => hk (by unfold isKind at h; omega)) b off _ cap w hc
end Go.Proofs.Ytmmppgkhlelbmaa.Fr
