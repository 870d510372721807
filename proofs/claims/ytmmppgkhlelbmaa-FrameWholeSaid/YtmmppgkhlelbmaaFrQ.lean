/- FrameStreams, walked. Condition: bytes lie at the slices. -/
import Derived.Test.YtmmppgkhlelbmaaFrO
import Derived.Test.YtmmppgkhlelbmaaFrP
import Derived.BigQuiet
import Derived.Deep.RegionHeld3
namespace Go.Proofs.Ytmmppgkhlelbmaa.Fr
open Go.RowKit Ba Go.Deep
set_option linter.unusedVariables false

theorem runV_len : ∀ (n : Nat) (buf : List UInt8), (runV n buf).2.2.1.length ≤ buf.length := by
  intro n
  induction n with
  | zero => intro buf; exact Nat.le_refl _
  | succ n ih =>
    intro buf
    unfold runV
    split
    · exact Nat.le_refl _
    · split
      · exact Nat.zero_le _
      · split
        · exact Nat.le_refl _
        · split
          · exact Nat.le_trans (ih _) (by rw [List.length_drop]; omega)
          · exact Nat.zero_le _
theorem runV_num : ∀ (n : Nat) (buf : List UInt8), (runV n buf).1.length ≤ buf.length := by
  intro n
  induction n with
  | zero => intro buf; exact Nat.zero_le _
  | succ n ih =>
    intro buf
    unfold runV
    split
    · exact Nat.zero_le _
    · split
      · exact Nat.zero_le _
      · split
        · exact Nat.zero_le _
        · split
          · have := ih (buf.drop (4 + numV buf))
            rw [List.length_drop] at this
            rw [List.length_cons]
            omega
          · exact Nat.zero_le _
def addV (br : Bool) (buf bs : List UInt8) : List Fr × Nat × List UInt8 × Bool := if br then ([], 15, buf, true) else runB (buf ++ bs)
theorem addV_len (br : Bool) (buf bs : List UInt8) : (addV br buf bs).2.2.1.length ≤ buf.length + bs.length := by
  cases br
  · exact Nat.le_trans (runV_len _ _) (by rw [List.length_append]; exact Nat.le_refl _)
  · exact Nat.le_add_right _ _
theorem addV_num (br : Bool) (buf bs : List UInt8) : (addV br buf bs).1.length ≤ buf.length + bs.length := by
  cases br
  · exact Nat.le_trans (runV_num _ _) (by rw [List.length_append]; exact Nat.le_refl _)
  · exact Nat.zero_le _
theorem add_any (g : Nat) (br : Bool) (buf bs : List UInt8) (w : World) (h : PsIs w g 60 buf br) (a : Option Addr) (n cap : Nat) (hn : n = bs.length) (hb : Bytes w a bs) (hnil : a = none → cap = 0) (hbd : buf.length + bs.length ≤ 1000000000) :
    Calls Try.prog 11 #[.pointer (some ⟨g, 0, none⟩), .slice a n cap] w (Added g 60 39 (addV br buf bs) w) := by
  cases br
  · exact add_whole g buf bs _ rfl w h a n cap hn hb hnil hbd
  · exact add_broken g buf w h a n cap
theorem radd_any (g : Nat) (br : Bool) (buf bs : List UInt8) (w : World) (h : PsIs w g 28 buf br) (a : Option Addr) (n cap : Nat) (hn : n = bs.length) (hb : Bytes w a bs) (hnil : a = none → cap = 0) (hbd : buf.length + bs.length ≤ 1000000000) :
    Calls Try.prog 12 #[.pointer (some ⟨g, 0, none⟩), .slice a n cap] w (Added g 28 40 (addV br buf bs) w) := by
  cases br
  · exact radd_whole g buf bs _ rfl w h a n cap hn hb hnil hbd
  · exact radd_broken g buf w h a n cap
theorem PsIs.blk {w : World} {g : Nat} {t : TypeId} {buf : List UInt8} {br : Bool} (h : PsIs w g t buf br) : ∃ ao cap, Blk w g t [.slice ao buf.length cap, .bool br] := by
  obtain ⟨ao, cap, h1, _⟩ := h
  exact ⟨ao, cap, h1⟩
theorem PsIs.drewN {w : World} {g : Nat} {t : TypeId} {buf : List UInt8} {br : Bool} (h : PsIs w g t buf br) (n : Nat) : PsIs (w.drewN n) g t buf br := h

set_option maxRecDepth 100000 in
set_option maxHeartbeats 12800000 in
theorem streams_small (a b : Option Addr) (n m ca cb : Nat) (bs cs : List UInt8) (hn : n = bs.length) (hm : m = cs.length) (hn9 : n ≤ 9000) (hm2 : m ≤ 200) (hca : n ≤ ca) (hca2 : ca ≤ maxLen) (hnil : a = none → ca = 0) (w : World) (hb : Bytes w a bs) (hc : Bytes w b cs) :
    Calls Try.prog 3 #[.slice a n ca, .slice b m cb] w fun e w' => e = .returned (.bool true) ∧ Below w.heap.size w w' := by
  have HN := Lib.hid hn
  have HM := Lib.hid hm
  have HB := Lib.hid hb
  have HC := Lib.hid hc
  have HCA := Lib.hid (And.intro hca (And.intro hca2 hnil))
  clear hn hm hb hc hca hca2 hnil
  have hz := fun w => (by kernel_rfl : (zeroValue 28).run Try.prog w = .ok (.agg #[.slice none 0 0, .bool false]) w)
  go_enter Try.func3, Try.ntmps3
  go_wp2_with fail
  refine (awake_any _).mono ?_
  rintro e w1 ⟨rfl, hb1⟩
  have HB1 := Lib.hid hb1
  clear hb1
  go_wp2_with fail
  refine (new_any w1).mono ?_
  rintro e w2 ⟨rfl, hps, hb2, hs2⟩
  have HP2 := Lib.hid hps
  have HB2 := Lib.hid (chain HB1.out hb2)
  have HS2 := Lib.hid hs2
  have s1 := HB1.out.size
  clear hps hb2 hs2
  go_wp2_with fail
  have HP3 := Lib.hid (HP2.out.alloc (Obj.cells #[.slice none 0 0, .bool false] 28))
  have HR3 : Hid (PsIs (w2.alloc (Obj.cells #[.slice none 0 0, .bool false] 28)) w2.heap.size 28 [] false) := Lib.hid ⟨none, 0, Blk.new w2 #[.slice none 0 0, .bool false] _, Bytes.nil _ _, Nat.le_refl _, by unfold maxLen; omega, fun _ => rfl, fun x h => by cases h⟩
  have HB3 := Lib.hid (HB2.out.alloc HB2.out.size (Obj.cells #[.slice none 0 0, .bool false] 28))
  generalize w2.alloc (Obj.cells #[.slice none 0 0, .bool false] 28) = w3 at *
  have hg2 : w1.heap.size < w2.heap.size := by have := HS2.out; omega
  clear HP2 HB2
  go_loopw [0, 7, 8, 9, 10, 11, 12, 13] (fun bv i _ _ _ _ _ _ wr => ∃ (j : Nat) (ao : Option Addr) (nb cb : Nat) (rest buf : List UInt8) (br : Bool), j ≤ m + 1 ∧ i = .int .i64 j ∧ bv = .slice ao nb cb ∧ Hid (nb = rest.length ∧ Bytes w ao rest ∧ (ao = none → cb = 0) ∧ buf.length + rest.length ≤ 9000) ∧ nb ≤ cb ∧ cb ≤ 9223372036854775807 ∧ nb ≤ 9000 ∧
      Hid (PsIs wr w1.heap.size 60 buf br) ∧ Hid (PsIs wr w2.heap.size 28 buf br) ∧ Hid (Below w.heap.size w wr)) (fun _ i _ _ _ _ _ _ _ => m + 1 - (intOf i).toNat)
  case atStart => exact ⟨0, a, n, ca, bs, [], false, by omega, rfl, rfl, ⟨HN.out, HB.out, HCA.out.2.2, by have := HN.out; simp; omega⟩, HCA.out.1, by have := HCA.out.2.1; unfold maxLen at this; omega, by omega, HP3.out, HR3.out, HB3.out⟩
  case round =>
    obtain ⟨j, ao, nb, cb', rest, buf, br, hj, rfl, rfl, HI, hcb, hcb2, hnb, HP, HR, HBW⟩ := hrel
    by_cases hlast : j ≤ m
    · have prep : ∀ K, K ≤ nb → ∃ (r : List Fr × Nat × List UInt8 × Bool) (rest' : List UInt8),
          Hid (Calls Try.prog 11 #[.pointer (some ⟨w1.heap.size, 0, none⟩), .slice ao K cb'] wr (Added w1.heap.size 60 39 r wr)) ∧
          Hid (∀ w5, Below w.heap.size w w5 → PsIs w5 w2.heap.size 28 buf br → Calls Try.prog 12 #[.pointer (some ⟨w2.heap.size, 0, none⟩), .slice ao K cb'] w5 (Added w2.heap.size 28 40 r w5)) ∧
          (∀ w, (Instr.slice 22 (.slice ao nb cb') none (some (.int .i64 (K : Nat))) none).run Try.prog w = .ok (.slice ao K cb') w) ∧
          (∀ w, (Instr.slice 22 (.slice ao nb cb') (some (.int .i64 (K : Nat))) none none).run Try.prog w = .ok (.slice (cutA ao K cb') (nb - K) (cb' - K)) w) ∧
          Hid (nb - K = rest'.length ∧ Bytes w (cutA ao K cb') rest' ∧ (cutA ao K cb' = none → cb' - K = 0) ∧ r.2.2.1.length + rest'.length ≤ 9000 ∧ r.1.length ≤ 9000) := by
        intro K hK
        obtain ⟨i1, i2, i3, i4⟩ := HI.out
        have ht : (rest.take K).length = K := by rw [List.length_take]; omega
        refine ⟨addV br buf (rest.take K), rest.drop K, ?_, ?_, ?_, ?_, ?_⟩
        · exact add_any _ br buf _ wr HP.out ao K cb' ht.symm ((i2.take K).keep HBW.out) i3 (by rw [ht]; omega)
        · exact fun w5 hb5 hp5 => radd_any _ br buf _ w5 hp5 ao K cb' ht.symm ((i2.take K).keep hb5) i3 (by rw [ht]; omega)
        · exact fun w => run_cut_to (P := Try.prog) 22 5 Try.underlying22 size_u8 ao nb cb' .i64 K (by omega) w
        · exact fun w => run_cut_from (P := Try.prog) 22 5 Try.underlying22 size_u8 ao nb cb' .i64 K hK w
        · refine ⟨by rw [List.length_drop]; omega, i2.drop K cb' (by omega), cutA_nil i3, ?_, ?_⟩
          · have h1 := addV_len br buf (rest.take K)
            rw [ht] at h1
            rw [List.length_drop]
            omega
          · have h1 := addV_num br buf (rest.take K)
            rw [ht] at h1
            omega
      have HPREP := Lib.hid prep
      clear prep
      have hxr : ∀ h : j < m, ∃ b0 off0 x, b = some ⟨b0, off0, none⟩ ∧ x < 256 ∧ wr.cell? ⟨b0, off0 + j, none⟩ = some (.int .u8 ((x : Nat) : Int)) := fun h => by
        obtain ⟨b0, off0, rfl, hx⟩ := HC.out j (by have := HM.out; omega)
        exact ⟨b0, off0, (cs[j]'(by have := HM.out; omega)).toNat, rfl, (cs[j]'(by have := HM.out; omega)).toNat_lt, (HBW.out.cell (p := ⟨b0, off0 + j, none⟩) (cell_lt hx)).trans hx⟩
      have hthree : (∃ b0 off0 x, b = some ⟨b0, off0, none⟩ ∧ j < m ∧ x < 256 ∧ x ≤ nb ∧ wr.cell? ⟨b0, off0 + j, none⟩ = some (.int .u8 ((x : Nat) : Int))) ∨ (∃ b0 off0 x, b = some ⟨b0, off0, none⟩ ∧ j < m ∧ x < 256 ∧ nb < x ∧ wr.cell? ⟨b0, off0 + j, none⟩ = some (.int .u8 ((x : Nat) : Int))) ∨ ¬ j < m := by
        by_cases h : j < m
        · obtain ⟨b0, off0, x, h1, h2, h3⟩ := hxr h
          by_cases h4 : x ≤ nb
          · exact .inl ⟨b0, off0, x, h1, h, h2, h4, h3⟩
          · exact .inr (.inl ⟨b0, off0, x, h1, h, h2, by omega, h3⟩)
        · exact .inr (.inr h)
      clear hxr
      have hjl : j ≤ 200 := by omega
      rcases hthree with ⟨b0, off0, x, rfl, hjm, bx, hxn, hcx⟩ | ⟨b0, off0, x, rfl, hjm, bx, hxn, hcx⟩ | hjm
      case' inl => obtain ⟨r, rest', HADD, HRADD, hto, hfr, HNI⟩ := HPREP.out x (by omega)
      case' inr.inl => obtain ⟨r, rest', HADD, HRADD, hto, hfr, HNI⟩ := HPREP.out nb (Nat.le_refl _)
      case' inr.inr => obtain ⟨r, rest', HADD, HRADD, hto, hfr, HNI⟩ := HPREP.out nb (Nat.le_refl _)
      all_goals
        clear HPREP
        obtain ⟨fs, cdn, buf2, br2⟩ := r
        have sr := HBW.out.size
        have HLG : Hid (w1.heap.size < wr.heap.size ∧ w2.heap.size < wr.heap.size) := Lib.hid ⟨HP.out.lt, HR.out.lt⟩
        go_wp2_with fail
        refine HADD.out.mono ?_
        rintro e w5 ⟨v5, rfl, hfs5, hps5, hbut5⟩
        have HFS5 : Hid (FrsIs w5 wr.heap.size 39 v5 fs) := Lib.hid hfs5
        have HP5 : Hid (PsIs w5 w1.heap.size 60 buf2 br2) := Lib.hid hps5
        have HBW5 : Hid (Below w.heap.size w w5) := Lib.hid (HBW.out.trans (hbut5.below (B' := w.heap.size) sr s1))
        have s5 := hbut5.size
        have HR5 : Hid (PsIs w5 w2.heap.size 28 buf br) := Lib.hid (by
          obtain ⟨ap, cp, hk⟩ := HP.out.blk
          exact HR.out.but hbut5 (Nat.le_refl _) (by omega) hk (by decide))
        clear hfs5 hps5 hbut5
        go_wp2_with fail
        refine (HRADD.out w5 HBW5.out HR5.out).mono ?_
        rintro e w6 ⟨v6, rfl, hfs6, hps6, hbut6⟩
        have HFS6 : Hid (FrsIs w6 w5.heap.size 40 v6 fs) := Lib.hid hfs6
        have HR6 : Hid (PsIs w6 w2.heap.size 28 buf2 br2) := Lib.hid hps6
        have HBW6 : Hid (Below w.heap.size w w6) := Lib.hid (HBW5.out.trans (hbut6.below (B' := w.heap.size) (Nat.le_trans sr s5) (by omega)))
        have HFS56 : Hid (FrsIs w6 wr.heap.size 39 v5 fs) := Lib.hid (HFS5.out.but hbut6 (Nat.le_refl _) HLG.out.2)
        have HP6 : Hid (PsIs w6 w1.heap.size 60 buf2 br2) := Lib.hid (by
          obtain ⟨ap, cp, hk⟩ := HR5.out.blk
          exact HP5.out.but hbut6 (Nat.le_refl _) (by omega) hk (by decide))
        clear hfs6 hps6 hbut6 HFS5 HP5 HR5 HADD HRADD
        obtain ⟨a5, c5, rfl, hv5⟩ := HFS56.out.view
        obtain ⟨a6, c6, rfl, hv6⟩ := HFS6.out.view
        have HV5 := Lib.hid hv5
        have HV6 := Lib.hid hv6
        obtain ⟨ar, cr, hkr⟩ := HR6.out.blk
        have r0 := hkr.cell (i := 0) rfl
        have r1 := hkr.cell (i := 1) rfl
        have HHE : Hid (∀ nq : Nat, Calls Try.prog 13 #[.pointer (some ⟨w1.heap.size, 0, none⟩)] (w6.drewN nq) fun e w' => e = .returned (.int .i64 (buf2.length : Nat)) ∧ w' = w6.drewN nq) := fun nq => (held_any _ buf2 br2 (w6.drewN nq) (HP6.out.drewN nq)).mono fun e w' ⟨h1, h2⟩ => ⟨h1, h2.symm⟩
        have HBR : Hid (∀ nq : Nat, Calls Try.prog 14 #[.pointer (some ⟨w1.heap.size, 0, none⟩)] (w6.drewN nq) fun e w' => e = .returned (.bool br2) ∧ w' = w6.drewN nq) := fun nq => (broken_any _ buf2 br2 (w6.drewN nq) (HP6.out.drewN nq)).mono fun e w' ⟨h1, h2⟩ => ⟨h1, h2.symm⟩
        obtain ⟨L2, hL2⟩ : ∃ L, L = buf2.length := ⟨_, rfl⟩
        obtain ⟨LF, hLF⟩ : ∃ L, L = fs.length := ⟨_, rfl⟩
        rw [← hL2] at r0 HHE
        rw [← hLF]
        have HL2 := Lib.hid hL2
        have HLF := Lib.hid hLF
        have t0 : ((cdn : Int) != (cdn : Int)) = false := by simp
        have t1 : ((LF : Int) != (LF : Int)) = false := by simp
        have t2 : ((L2 : Int) != (L2 : Int)) = false := by simp
        have t3 : (br2 != br2) = false := by cases br2 <;> rfl
        have hLFb : LF ≤ 9000 := by rw [hLF]; exact HNI.out.2.2.2.2
        clear hL2 hLF hv5 hv6 hkr HLG
        go_wp2_with fail
        go_quiet ((first | (go_at_call 13; exact Calls.quiet_of_same (HHE.out _)) | (go_at_call 14; exact Calls.quiet_of_same (HBR.out _))))
        have HBW7 := Lib.hid (below_dn HBW6.out nq)
        have HP7 := Lib.hid (HP6.out.drewN nq)
        have HR7 := Lib.hid (HR6.out.drewN nq)
        have HV57 : Hid (∀ i (hi : i < fs.length), ∃ g, a5 = some ⟨g, 0, none⟩ ∧ wr.heap.size ≤ g ∧ ∃ ad cd, (w6.drewN nq).cell? ⟨g, i * 5, none⟩ = some (.int .i64 fs[i].t) ∧ (w6.drewN nq).cell? ⟨g, i * 5 + 1, none⟩ = some (.int .i64 fs[i].a) ∧ (w6.drewN nq).cell? ⟨g, i * 5 + 2, none⟩ = some (.int .i64 fs[i].b) ∧ (w6.drewN nq).cell? ⟨g, i * 5 + 3, none⟩ = some (.int .i64 fs[i].c) ∧
          (w6.drewN nq).cell? ⟨g, i * 5 + 4, none⟩ = some (.slice ad fs[i].data.length cd) ∧ Own (w6.drewN nq) wr.heap.size (.slice ad fs[i].data.length cd) fs[i].data) := HV5.out
        have HV67 : Hid (∀ i (hi : i < fs.length), ∃ g, a6 = some ⟨g, 0, none⟩ ∧ w5.heap.size ≤ g ∧ ∃ ad cd, (w6.drewN nq).cell? ⟨g, i * 5, none⟩ = some (.int .i64 fs[i].t) ∧ (w6.drewN nq).cell? ⟨g, i * 5 + 1, none⟩ = some (.int .i64 fs[i].a) ∧ (w6.drewN nq).cell? ⟨g, i * 5 + 2, none⟩ = some (.int .i64 fs[i].b) ∧ (w6.drewN nq).cell? ⟨g, i * 5 + 3, none⟩ = some (.int .i64 fs[i].c) ∧
          (w6.drewN nq).cell? ⟨g, i * 5 + 4, none⟩ = some (.slice ad fs[i].data.length cd) ∧ Own (w6.drewN nq) w5.heap.size (.slice ad fs[i].data.length cd) fs[i].data) := HV6.out
        generalize w6.drewN nq = w7 at *
        clear r0 r1 HHE HBR HV5 HV6 HBW6 HP6 HR6 t0 t2 t3
        go_wp2_with fail
        go_loopw [13] (fun jv w8 => ∃ q : Nat, q ≤ LF ∧ jv = .int .i64 q ∧ Hid (Below w7.heap.size w7 w8)) (fun jv _ => LF - (intOf jv).toNat)
        case atStart => exact ⟨0, by omega, rfl, Below.refl _ _⟩
        case round =>
          obtain ⟨q, hq, rfl, HBI⟩ := hrel
          by_cases hql : q < LF
          · have hq' : q < fs.length := by rw [← HLF.out]; exact hql
            obtain ⟨g5, rfl, _, ad, cd, k0, k1, k2, k3, k4, ho5⟩ := HV57.out q hq'
            obtain ⟨g6, rfl, _, ae, ce, l0, l1, l2, l3, l4, ho6⟩ := HV67.out q hq'
            generalize fs[q]'hq' = f at *
            have HK5 := Lib.hid (And.intro k0 (And.intro k1 (And.intro k2 (And.intro k3 k4))))
            have HK6 := Lib.hid (And.intro l0 (And.intro l1 (And.intro l2 (And.intro l3 l4))))
            have HO5 := Lib.hid ho5
            have HO6 := Lib.hid ho6
            clear k0 k1 k2 k3 k4 l0 l1 l2 l3 l4 ho5 ho6
            obtain ⟨ln, hln⟩ : ∃ ln, ln = f.data.length := ⟨_, rfl⟩
            rw [← hln] at HK5 HK6 HO5 HO6
            have HLN := Lib.hid hln
            clear hln
            have HSS : Hid (∀ w', Below w7.heap.size w7 w' → (w'.cell? ⟨g5, q * 5, none⟩ = some (.int .i64 f.t) ∧ w'.cell? ⟨g5, q * 5 + 1, none⟩ = some (.int .i64 f.a) ∧ w'.cell? ⟨g5, q * 5 + 2, none⟩ = some (.int .i64 f.b) ∧ w'.cell? ⟨g5, q * 5 + 3, none⟩ = some (.int .i64 f.c) ∧ w'.cell? ⟨g5, q * 5 + 4, none⟩ = some (.slice ad ln cd)) ∧
                (w'.cell? ⟨g6, q * 5, none⟩ = some (.int .i64 f.t) ∧ w'.cell? ⟨g6, q * 5 + 1, none⟩ = some (.int .i64 f.a) ∧ w'.cell? ⟨g6, q * 5 + 2, none⟩ = some (.int .i64 f.b) ∧ w'.cell? ⟨g6, q * 5 + 3, none⟩ = some (.int .i64 f.c) ∧ w'.cell? ⟨g6, q * 5 + 4, none⟩ = some (.slice ae ln ce))) := Lib.hid (fun w' hb' => by
              have hl5 : g5 < w7.heap.size := cell_lt (a := ⟨g5, q * 5, none⟩) HK5.out.1
              have hl6 : g6 < w7.heap.size := cell_lt (a := ⟨g6, q * 5, none⟩) HK6.out.1
              have cc5 : ∀ o, w'.cell? ⟨g5, o, none⟩ = w7.cell? ⟨g5, o, none⟩ := fun o => hb'.cell (p := ⟨g5, o, none⟩) hl5
              have cc6 : ∀ o, w'.cell? ⟨g6, o, none⟩ = w7.cell? ⟨g6, o, none⟩ := fun o => hb'.cell (p := ⟨g6, o, none⟩) hl6
              simp only [cc5, cc6]
              exact ⟨HK5.out, HK6.out⟩)
            have HSAME : Hid (∀ w', Below w7.heap.size w7 w' → Calls Try.prog 15 #[.agg #[.int .i64 f.t, .int .i64 f.a, .int .i64 f.b, .int .i64 f.c, .slice ad ln cd], .agg #[.int .i64 f.t, .int .i64 f.a, .int .i64 f.b, .int .i64 f.c, .slice ae ln ce]] w' fun e w'' => e = .returned (.bool true) ∧ Below w'.heap.size w' w'') := Lib.hid (fun w' hb' => same_yes f ad ae ln ln cd ce HLN.out HLN.out w' (HO5.out.keep hb').bytes (HO6.out.keep hb').bytes)
            go_wp2_with fail
            have hS := HSS.out _ (HBI.out.drew)
            go_region_held3 (fun w' => (w'.cell? ⟨g5, q * 5, none⟩ = some (.int .i64 f.t) ∧ w'.cell? ⟨g5, q * 5 + 1, none⟩ = some (.int .i64 f.a) ∧ w'.cell? ⟨g5, q * 5 + 2, none⟩ = some (.int .i64 f.b) ∧ w'.cell? ⟨g5, q * 5 + 3, none⟩ = some (.int .i64 f.c) ∧ w'.cell? ⟨g5, q * 5 + 4, none⟩ = some (.slice ad ln cd)) ∧
                (w'.cell? ⟨g6, q * 5, none⟩ = some (.int .i64 f.t) ∧ w'.cell? ⟨g6, q * 5 + 1, none⟩ = some (.int .i64 f.a) ∧ w'.cell? ⟨g6, q * 5 + 2, none⟩ = some (.int .i64 f.b) ∧ w'.cell? ⟨g6, q * 5 + 3, none⟩ = some (.int .i64 f.c) ∧ w'.cell? ⟨g6, q * 5 + 4, none⟩ = some (.slice ae ln ce)))
              (first | exact hS | exact hS9)
              (first | (go_at_call 15; refine (HSAME.out _ HBI.out.drew).mono ?_; rintro e w9 ⟨rfl, hb9⟩; have hbc9 : Below w7.heap.size w7 w9 := HBI.out.drew.trans (hb9.mono HBI.out.drew.size); have hS9 := HSS.out w9 hbc9))
            all_goals
              go_wp2_with fail
              go_roundw
              case rel => exact ⟨q + 1, by omega, by go_num, hbc9⟩
              case measure => simp [intOf]; omega
          · obtain rfl : q = LF := by omega
            go_wp2_with fail
            go_roundw
            case rel => exact ⟨j + 1, _, _, _, rest', buf2, br2, by omega, by go_num, rfl, ⟨by have := HNI.out.1; omega, HNI.out.2.1, HNI.out.2.2.1, HNI.out.2.2.2.1⟩, by omega, by omega, by omega, HP7.out.below HBI.out (Nat.le_refl _), HR7.out.below HBI.out (Nat.le_refl _), chain HBW7.out HBI.out⟩
            case measure => simp [intOf]; omega
    · obtain rfl : j = m + 1 := by omega
      go_wp2_with fail
      go_ret
      exact ⟨rfl, HBW.out⟩
set_option maxRecDepth 100000 in
theorem streams_big (a b : Option Addr) (n m ca cb : Nat) (hn : n ≤ 9223372036854775807) (hm : m ≤ 9223372036854775807) (h : 9000 < n ∨ (¬ 9000 < n ∧ 200 < m)) (w : World) :
    Calls Try.prog 3 #[.slice a n ca, .slice b m cb] w fun e w' => e = .returned (.bool true) ∧ Below w.heap.size w w' := by
  rcases h with h1 | ⟨h1, h2⟩
  all_goals
    go_enter Try.func3, Try.ntmps3
    go_wp2_with fail
    refine (awake_any _).mono ?_
    rintro e w1 ⟨rfl, hb1⟩
    have HB1 := Lib.hid hb1
    clear hb1
    go_wp2_with fail
    go_ret
    exact ⟨rfl, HB1.out⟩
theorem streams_any (a b : Option Addr) (ca cb : Nat) (bs cs : List UInt8) (hca : bs.length ≤ ca) (hca2 : ca ≤ maxLen) (hnil : a = none → ca = 0) (hcb : cs.length ≤ cb) (hcb2 : cb ≤ maxLen) (w : World) (hb : Bytes w a bs) (hc : Bytes w b cs) :
    Calls Try.prog 3 #[.slice a bs.length ca, .slice b cs.length cb] w fun e w' => e = .returned (.bool true) ∧ Below w.heap.size w w' := by
  by_cases h : 9000 < bs.length ∨ (¬ 9000 < bs.length ∧ 200 < cs.length)
  · unfold maxLen at hca2 hcb2
    exact streams_big a b _ _ ca cb (by omega) (by omega) h w
  · exact streams_small a b _ _ ca cb bs cs rfl rfl (by omega) (by omega) hca hca2 hnil w hb hc
end Go.Proofs.Ytmmppgkhlelbmaa.Fr
