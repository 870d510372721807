/- ChunkBack, walked. Condition: chunks lie at the slice; no string and no slice passes the form's own reach. -/
import Derived.Test.YtfjcelnamjgieaaCkZ
namespace Go.Proofs.Ytfjcelnamjgieaa.Ck
open Go.RowKit Ba Go.Deep
set_option linter.unusedVariables false

theorem xor_bit (sb xn : Nat) (hs : sb < 8) (hx : xn < 256) : ∃ yn : Nat, bits .xor .u8 (xn : Int) ((2 : Int) ^ sb % 256) = (yn : Int) ∧ yn ≠ xn ∧ yn < 256 := by
  have h : ∀ c : Fin 8, ∀ x : Fin 256, bits .xor .u8 ((x.val : Nat) : Int) ((2 : Int) ^ c.val % 256) = ((x.val ^^^ 2 ^ c.val : Nat) : Int) ∧ x.val ^^^ 2 ^ c.val ≠ x.val ∧ x.val ^^^ 2 ^ c.val < 256 := by decide +kernel
  exact ⟨_, h ⟨sb, hs⟩ ⟨xn, hx⟩⟩
theorem and7 (n : Nat) (hn : n < 65536) : bits .and .u16 ((n : Int) / 256) 7 = ((n / 256 % 8 : Nat) : Int) := by
  have h : ∀ c : Fin 256, bits .and .u16 ((c.val : Nat) : Int) 7 = ((c.val % 8 : Nat) : Int) := by decide +kernel
  have h1 := h ⟨n / 256, by omega⟩
  rw [show (n : Int) / 256 = ((n / 256 : Nat) : Int) by omega]
  exact h1
theorem bytes_one {u : World} {b : Nat} {x : UInt8} (h : Blk u b 5 [cellOf x]) : Bytes u (some ⟨b, 0, none⟩) [x] := by
  intro i hi
  obtain rfl : i = 0 := by simpa using hi
  exact ⟨b, 0, rfl, h.cell (i := 0) rfl⟩
theorem cut_one {u : World} {B : List UInt8} {x : UInt8} {a : Option Addr} {c : Nat} (hy : Bytes u a (B ++ [x])) (hl : (B ++ [x]).length ≤ c) (hm : c ≤ maxLen) (hn : a = none → c = 0) :
    ∀ n, n = (B ++ [x]).length → Calls Try.prog 8 #[.slice a n c] u (Cutted 51 (cutV (B ++ [x])) u) := fun n hn2 => cut_any _ a n c hn2 (by rw [hn2]; exact hl) hm hn u hy
set_option maxRecDepth 100000 in
set_option maxHeartbeats 25600000 in
theorem backs_any (v : Value) (fs : List Ch) (hsz : SzC fs) (n0 n1 : Nat) (hn0 : n0 < 65536) (hn1 : n1 < 65536) (w : World) (h1 : ChRow w v fs) :
    Calls Try.prog 5 #[v, .agg #[.int .u16 (n0 : Nat), .int .u16 (n1 : Nat)]] w fun e w' => e = .returned (.bool true) ∧ Below w.heap.size w w' := by
  have HR := Lib.hid h1
  have HFW := Lib.hid (fun u hu => few_any v fs hsz u (h1.keep hu))
  have hlen := h1
  obtain ⟨a, ca, rfl, x1, x2, x3, hv1⟩ := hlen
  have HSR := Lib.hid (fun u hu => h1.src (u := u) hu)
  obtain ⟨LF, hLF⟩ : ∃ L, L = fs.length := ⟨_, rfl⟩
  rw [← hLF] at HR HFW x1 ⊢
  have HLF := Lib.hid hLF
  have HBX := Lib.hid (Blk.new w #[.int .u16 (n0 : Nat), .int .u16 (n1 : Nat)] 46)
  have HB0 := Lib.hid ((Below.refl w.heap.size w).alloc (Nat.le_refl _) (Obj.cells #[.int .u16 (n0 : Nat), .int .u16 (n1 : Nat)] 46))
  clear hv1 x1 x2 x3 hLF h1 hsz
  go_enter Try.func5, Try.ntmps5
  go_wp2_with fail
  refine (awake_any _).mono ?_
  rintro e w1 ⟨rfl, hb1⟩
  have HB1 := Lib.hid (chain HB0.out hb1)
  have HK1 := Lib.hid (HBX.out.keep hb1)
  have HF1 := Lib.hid (HFW.out w1 HB1.out)
  clear hb1
  go_wp2_with fail
  refine HF1.out.mono ?_
  rintro e w2 ⟨rfl, hb2⟩
  have HB2 := Lib.hid (chain HB1.out hb2)
  have HK2 := Lib.hid (HK1.out.keep hb2)
  clear hb2
  cases hfw : fewB fs with
  | false =>
    clear hfw
    go_wp2_with fail
    go_ret
    exact ⟨rfl, HB2.out⟩
  | true =>
    obtain ⟨f1, f2, f3⟩ := few_yes hfw
    have hlb : LF ≤ 100 := by rw [HLF.out]; exact f1
    have HF3 := Lib.hid f3
    have HF2 := Lib.hid f2
    clear hfw f1 f2 f3
    go_wp2_with fail
    go_loopw [5, 6] (fun iv jv wr => ∃ q : Nat, q ≤ LF ∧ jv = .int .i64 q ∧ Hid (MdIs w wr w.heap.size tR iv (filt (fs.take q))) ∧ Hid (Blk wr w.heap.size 46 [.int .u16 (n0 : Nat), .int .u16 (n1 : Nat)]) ∧ Hid (Below w.heap.size w wr)) (fun _ jv _ => LF - (intOf jv).toNat)
    case atStart => exact ⟨0, by omega, rfl, MdIs.nil _ _ _ _, HK2.out, HB2.out⟩
    case round =>
      obtain ⟨q, hq, rfl, HMD, HK, HB⟩ := hrel
      by_cases hql : q < LF
      · have hq' : q < fs.length := by rw [← HLF.out]; exact hql
        obtain ⟨g5, o5, ad, cd, rfl, k0, k1, kd⟩ := HSR.out w (Below.refl _ _) q hq'
        have HTK : Hid (filt (fs.take (q + 1)) = if isK (fs[q]'hq').1 kIEND = true then filt (fs.take q) else filt (fs.take q) ++ [fs[q]'hq']) := Lib.hid (by rw [List.take_succ_eq_append_getElem hq', filt_snoc])
        have HTL : Hid ((filt (fs.take q)).length + 1 < 1000000001) := Lib.hid (by have := filt_length (fs.take q); rw [List.length_take] at this; omega)
        generalize fs[q]'hq' = f at *
        have HFD := Lib.hid kd
        have hlg : g5 < w.heap.size := cell_lt (a := ⟨g5, o5 + q * 2, none⟩) k0
        obtain ⟨ln, hln⟩ : ∃ L, L = f.2.length := ⟨_, rfl⟩
        rw [← hln] at k1
        have HTW : Hid ([Value.string f.1, .slice ad ln cd] = twoOf f ad cd) := Lib.hid (by unfold twoOf; rw [hln])
        have cc5 : ∀ o, wr.cell? ⟨g5, o, none⟩ = w.cell? ⟨g5, o, none⟩ := fun o => HB.out.cell (p := ⟨g5, o, none⟩) hlg
        have c0 := (cc5 _).trans k0
        have c1 := (cc5 _).trans k1
        clear cc5 k0 k1 kd hln
        by_cases hkE : isK f.1 kIEND = true
        · have s1 : (f.1.toList == [73, 69, 78, 68]) = true := hkE
          rw [if_pos hkE] at HTK
          clear hkE
          go_wp2_with fail
          go_roundw
          case rel => exact ⟨q + 1, by omega, by go_num, (by rw [HTK.out]; exact HMD.out), HK.out, HB.out⟩
          case measure => simp [intOf]; omega
        · have s1 : (f.1.toList == [73, 69, 78, 68]) = false := by simpa [isK, kIEND] using hkE
          rw [if_neg hkE] at HTK
          clear hkE
          have HBA : Hid (Below w.heap.size w (wr.alloc (Obj.cells #[.string f.1, .slice ad ln cd] tR))) := Lib.hid (HB.out.alloc HB.out.size _)
          have HMA : Hid (MdIs w (wr.alloc (Obj.cells #[.string f.1, .slice ad ln cd] tR)) w.heap.size tR u5 (filt (fs.take q))) := Lib.hid (HMD.out.alloc _)
          have HKA : Hid (Blk (wr.alloc (Obj.cells #[.string f.1, .slice ad ln cd] tR)) w.heap.size 46 [.int .u16 (n0 : Nat), .int .u16 (n1 : Nat)]) := Lib.hid (HK.out.alloc _)
          have HNA : Hid (Blk (wr.alloc (Obj.cells #[.string f.1, .slice ad ln cd] tR)) wr.heap.size tR (twoOf f ad cd)) := Lib.hid (by
            rw [← HTW.out]
            exact Blk.new wr #[.string f.1, .slice ad ln cd] tR)
          go_wp2_with (at_builtin; refine wpList_append_mds rfl (.tmp 35) (.tmp 40) rfl w.heap.size _ (filt (fs.take q)) rfl HMA.out (some ⟨wr.heap.size, 0, none⟩) 1 1 [f] rfl rfl (SrcIs.one HNA.out HFD.out) (fun h => by cases h) HTL.out HBA.out.size ?_)
          intro v8 w8 hm8 hg8
          have HM8 := Lib.hid hm8
          have HB8 : Hid (Below w.heap.size w w8) := Lib.hid (HBA.out.grown hg8 HBA.out.size (fun k hk => (HMA.out.lt k hk).1))
          have HK8 : Hid (Blk w8 w.heap.size 46 [.int .u16 (n0 : Nat), .int .u16 (n1 : Nat)]) := Lib.hid (HKA.out.of (hg8.block _ HKA.out.lt (fun e => HMA.out.ne HKA.out (by decide) _ e.symm rfl)))
          clear hm8 hg8
          go_wp2_with fail
          go_roundw
          case rel => exact ⟨q + 1, by omega, by go_num, (by rw [HTK.out]; exact HM8.out), HK8.out, HB8.out⟩
          case measure => simp [intOf]; omega
      · have hqe : LF = q := by omega
        have HAL : Hid (fs.take q = fs) := Lib.hid (by rw [← hqe, HLF.out, List.take_length])
        rw [HAL.out] at HMD
        have HTL : Hid ((filt fs).length + 1 < 1000000001) := Lib.hid (by have := filt_length fs; rw [← HLF.out] at this; omega)
        have HBA : Hid (Below w.heap.size w (wr.alloc (Obj.cells #[.string iend, .slice none 0 0] tR))) := Lib.hid (HB.out.alloc HB.out.size _)
        have HMA : Hid (MdIs w (wr.alloc (Obj.cells #[.string iend, .slice none 0 0] tR)) w.heap.size tR u5 (filt fs)) := Lib.hid (HMD.out.alloc _)
        have HKA : Hid (Blk (wr.alloc (Obj.cells #[.string iend, .slice none 0 0] tR)) w.heap.size 46 [.int .u16 (n0 : Nat), .int .u16 (n1 : Nat)]) := Lib.hid (HK.out.alloc _)
        have HNA : Hid (Blk (wr.alloc (Obj.cells #[.string iend, .slice none 0 0] tR)) wr.heap.size tR (twoOf lastC none 0)) := Lib.hid (Blk.new wr #[.string iend, .slice none 0 0] tR)
        have hz := fun w => (by kernel_rfl : (zeroValue tR).run Try.prog w = .ok (.agg #[.string ByteArray.empty, .slice none 0 0]) w)
        subst hqe
        go_wp2_with (at_builtin; refine wpList_append_mds rfl (.tmp 42) (.tmp 44) rfl w.heap.size _ (filt fs) rfl HMA.out (some ⟨wr.heap.size, 0, none⟩) 1 1 [lastC] rfl rfl (SrcIs.one HNA.out ⟨Bytes.nil _ _, fun _ => rfl, Nat.zero_le _⟩) (fun h => by cases h) HTL.out HBA.out.size ?_)
        intro v8 w8 hm8 hg8
        have HM8 := Lib.hid hm8
        have HB8 : Hid (Below w.heap.size w w8) := Lib.hid (HBA.out.grown hg8 HBA.out.size (fun k hk => (HMA.out.lt k hk).1))
        have HK8 : Hid (Blk w8 w.heap.size 46 [.int .u16 (n0 : Nat), .int .u16 (n1 : Nat)]) := Lib.hid (HKA.out.of (hg8.block _ HKA.out.lt (fun e => HMA.out.ne HKA.out (by decide) _ e.symm rfl)))
        clear hm8 hg8 HMA HKA HBA HNA HTL
        have HR8 := Lib.hid (HM8.out.row HB8.out)
        obtain ⟨inl, hin⟩ : ∃ l, l = filt fs ++ [lastC] := ⟨_, rfl⟩
        rw [← hin] at HM8 HR8
        have HIN := Lib.hid hin
        have HIM : Hid (∀ f ∈ inl, f.1.size ≤ 9000 ∧ f.2.length ≤ 9000) := Lib.hid (fun f hf => by
          rw [hin] at hf
          rcases List.mem_append.1 hf with h | h
          · exact HF3.out f (filt_mem h).1
          · rw [List.mem_singleton.1 h]
            exact ⟨by show 4 ≤ 9000; omega, Nat.zero_le _⟩)
        have HIT : Hid (totC inl ≤ 10300 ∧ inl.length ≤ 101) := Lib.hid (by
          have h1 := filt_tot fs.length fs (Nat.le_refl _)
          rw [List.take_length] at h1
          have h2 := HF2.out
          have h3 := filt_length fs
          have h4 := HLF.out
          rw [hin, totC_snoc, List.length_append, List.length_singleton]
          have h5 : lastC.2.length = 0 := rfl
          omega)
        have HAK := Lib.hid (back_any _ inl (by have := HIT.out; omega) (fun f hf => by have := (HIM.out f hf).2; omega) w8 HR8.out)
        clear hin
        go_wp2_with fail
        refine HAK.out.mono ?_
        rintro e w9 ⟨v9, rfl, hc9, hb9⟩
        have HB9 := Lib.hid (chain HB8.out hb9)
        have HK9 := Lib.hid (HK8.out.keep hb9)
        have HR9 := Lib.hid (HR8.out.keep hb9)
        have HJ := Lib.hid (join_any v9 inl (by have := HIT.out; omega) (fun f hf => by have := (HIM.out f hf).1; omega) w9 hc9.row)
        clear hc9 hb9
        cases han : allN inl with
        | false =>
          have e : joinV inl = ([], 1) := by unfold joinV; rw [han]; rfl
          rw [e] at HJ
          clear e han
          go_wp2_with fail
          refine HJ.out.mono ?_
          rintro e w10 ⟨v10, rfl, ho10, hb10⟩
          have HB10 := Lib.hid (chain HB9.out hb10)
          clear ho10 hb10
          dsimp only
          go_wp2_with fail
          go_ret
          exact ⟨rfl, HB10.out⟩
        | true =>
          have e : joinV inl = (sigL ++ strmC inl, 0) := by unfold joinV; rw [han]; rfl
          rw [e] at HJ
          have HBL : Hid ((sigL ++ strmC inl).length ≤ 10400 ∧ 8 ≤ (sigL ++ strmC inl).length) := Lib.hid (by
            have h1 := strmC_length inl.length inl (by rw [List.take_length]; exact han)
            rw [List.take_length] at h1
            have h2 := HIT.out.1
            have h3 : sigL.length = 8 := rfl
            rw [List.length_append, h1, h3]
            omega)
          have HMI : Hid (Mid (filt fs)) := Lib.hid (mid_filt (by rw [← HIN.out]; exact han) (fun f hf => (HF3.out f hf).2))
          have HSB : Hid ((strmC inl).length + 1 ≤ 262136) := Lib.hid (by have := HBL.out.1; rw [List.length_append] at this; omega)
          have HC0 : Hid (cutV (sigL ++ strmC inl) = (inl, 0)) := Lib.hid (by rw [HIN.out]; exact cut_joined _ _ HMI.out names3.2.2.1 (by decide) rfl (by rw [← HIN.out]; have := HSB.out; omega))
          have HC1 : Hid (∀ x, cutV ((sigL ++ strmC inl) ++ [x]) = ([], 4)) := Lib.hid (fun x => by rw [HIN.out]; exact cut_more _ _ x HMI.out names3.2.2.1 (by decide) rfl (by rw [← HIN.out]; exact HSB.out))
          have HC2 : Hid (∀ k, k < (sigL ++ strmC inl).length → cutV ((sigL ++ strmC inl).take k) = ([], 2)) := Lib.hid (fun k hk => by rw [HIN.out] at hk ⊢; exact cut_less _ _ k HMI.out names3.2.2.1 (by decide) (by rw [← HIN.out]; have := HSB.out; omega) hk)
          have HC3 : Hid (∀ (m : Nat) (y : UInt8) (N : Nat) (hi : N - 1 - m < (sigL ++ strmC inl).length), m < 4 → N = (sigL ++ strmC inl).length → y ≠ (sigL ++ strmC inl)[N - 1 - m]'hi → cutV ((sigL ++ strmC inl).set (N - 1 - m) y) = ([], 5)) := Lib.hid (by
            rw [HIN.out]
            exact fun m y N hi hm hN hy => turned _ m hm y HMI.out (by rw [← HIN.out]; have := HSB.out; omega) N hN hi hy)
          clear e han
          generalize sigL ++ strmC inl = B at *
          go_wp2_with fail
          refine HJ.out.mono ?_
          rintro e w10 ⟨v10, rfl, ho10, hb10⟩
          have HB10 := Lib.hid (chain HB9.out hb10)
          have HK10 := Lib.hid (HK9.out.keep hb10)
          have HR10 := Lib.hid (HR9.out.keep hb10)
          obtain ⟨a10, c10, rfl, hy10, hl10, hm10, hn10, _⟩ := own_view2 ho10
          have HY10 := Lib.hid hy10
          have HCP := Lib.hid (And.intro hl10 (And.intro hm10 hn10))
          obtain ⟨N, hN⟩ : ∃ N, N = B.length := ⟨_, rfl⟩
          have HCU : Hid (∀ u, Below w10.heap.size w10 u → Calls Try.prog 8 #[.slice a10 N c10] u (Cutted 51 (inl, 0) u)) := Lib.hid (fun u hu => by
            have h := cut_any B a10 N c10 hN (by rw [hN]; exact hl10) hm10 hn10 u (hy10.keep hu)
            rw [HC0.out] at h
            exact h)
          dsimp only
          rw [← hN]
          have HN := Lib.hid hN
          have hNb : N ≤ 10400 := by rw [hN]; exact HBL.out.1
          have hN8 : 8 ≤ N := by rw [hN]; exact HBL.out.2
          have hNp : 0 < N := by omega
          clear ho10 hb10 hy10 hl10 hm10 hn10 hN
          go_wp2_with fail
          refine (HCU.out _ (Below.refl _ _)).mono ?_
          rintro e w11 ⟨v11, rfl, hc11, hb11⟩
          have HB11 := Lib.hid (chain HB10.out hb11)
          have HK11 := Lib.hid (HK10.out.keep hb11)
          have HR11 := Lib.hid (HR10.out.keep hb11)
          have HY11 := Lib.hid (HY10.out.keep hb11)
          have HX11 := Lib.hid hc11.row
          clear hc11 hb11 HCU
          dsimp only
          obtain ⟨x0, hx0⟩ : ∃ x : UInt8, x = UInt8.ofNat n0 := ⟨_, rfl⟩
          have HX0 : Hid ([Value.int .u8 ((n0 : Int) % 256)] = [cellOf x0]) := Lib.hid (by
            rw [hx0]
            unfold cellOf
            rw [UInt8.toNat_ofNat']
            rfl)
          have HLA : Hid (Below w11.heap.size w11 (w11.drew.alloc (Obj.cells #[] 5))) := Lib.hid ((Below.refl _ _).drew.alloc (Nat.le_refl _) _)
          have HLB : Hid (Below w11.heap.size w11 ((w11.drew.alloc (Obj.cells #[] 5)).alloc (Obj.cells #[.int .u8 ((n0 : Int) % 256)] 5))) := Lib.hid (HLA.out.alloc HLA.out.size _)
          have HLC0 : Hid (Below w11.heap.size w11 (w11.drew.alloc (Obj.cells #[.int .u8 ((n0 : Int) % 256)] 5))) := Lib.hid ((Below.refl _ _).drew.alloc (Nat.le_refl _) _)
          have HLC : Hid (Below w11.heap.size w11 ((w11.drew.alloc (Obj.cells #[.int .u8 ((n0 : Int) % 256)] 5)).alloc (Obj.cells #[] 5))) := Lib.hid (HLC0.out.alloc HLC0.out.size _)
          have HEA : Hid (Own (w11.drew.alloc (Obj.cells #[] 5)) w11.heap.size (.slice (some ⟨w11.heap.size, 0, none⟩) 0 0) []) := Lib.hid (Own.empty w11.drew w11.heap.size (Nat.le_refl _))
          have HEB : Hid (Own ((w11.drew.alloc (Obj.cells #[] 5)).alloc (Obj.cells #[.int .u8 ((n0 : Int) % 256)] 5)) w11.heap.size (.slice (some ⟨w11.heap.size, 0, none⟩) 0 0) []) := Lib.hid (HEA.out.alloc _)
          have HEC : Hid (Own ((w11.drew.alloc (Obj.cells #[.int .u8 ((n0 : Int) % 256)] 5)).alloc (Obj.cells #[] 5)) w11.heap.size (.slice (some ⟨w11.heap.size + 1, 0, none⟩) 0 0) []) := Lib.hid (by
            have h := Own.empty (w11.drew.alloc (Obj.cells #[.int .u8 ((n0 : Int) % 256)] 5)) w11.heap.size HLC0.out.size
            rw [show (w11.drew.alloc (Obj.cells #[.int .u8 ((n0 : Int) % 256)] 5)).heap.size = w11.heap.size + 1 by simp] at h
            exact h)
          have HXB : Hid (Blk ((w11.drew.alloc (Obj.cells #[] 5)).alloc (Obj.cells #[.int .u8 ((n0 : Int) % 256)] 5)) (w11.heap.size + 1) 5 [cellOf x0]) := Lib.hid (by
            have h := Blk.new (w11.drew.alloc (Obj.cells #[] 5)) #[.int .u8 ((n0 : Int) % 256)] 5
            rw [show (w11.drew.alloc (Obj.cells #[] 5)).heap.size = w11.heap.size + 1 by simp] at h
            rw [← HX0.out]
            exact h)
          have HXC : Hid (Blk ((w11.drew.alloc (Obj.cells #[.int .u8 ((n0 : Int) % 256)] 5)).alloc (Obj.cells #[] 5)) w11.heap.size 5 [cellOf x0]) := Lib.hid (by
            rw [← HX0.out]
            exact (Blk.new w11.drew #[.int .u8 ((n0 : Int) % 256)] 5).alloc _)
          have HXA : Hid (∀ u : World, Blk (u.alloc (Obj.cells #[.int .u8 ((n0 : Int) % 256)] 5)) u.heap.size 5 [cellOf x0]) := Lib.hid (fun u => by
            rw [← HX0.out]
            exact Blk.new u #[.int .u8 ((n0 : Int) % 256)] 5)
          have HKU : Hid (∀ u, Below w11.heap.size w11 u → u.cell? ⟨w.heap.size, 0, none⟩ = some (.int .u16 (n0 : Nat))) := Lib.hid (fun u hu => (HK11.out.keep hu).cell (i := 0) rfl)
          have HBN : Hid (B.length + 1 ≤ 140737488355328) := Lib.hid (by rw [← HN.out]; omega)
          have hS0 := HKU.out _ (Below.refl w11.heap.size w11).drew
          have hSA := HKU.out _ HLA.out
          have hSB := HKU.out _ HLB.out
          have hSC0 := HKU.out _ HLC0.out
          have hSC := HKU.out _ HLC.out
          clear hx0
          go_wp2_with fail
          go_region_held3 (fun u => u.cell? ⟨w.heap.size, 0, none⟩ = some (.int .u16 (n0 : Nat))) (first | exact hS0 | exact hSA | exact hSB | exact hSC0 | exact hSC | exact hS12 | exact hS12a | exact hS13 | exact hS14)
            (first
              | (refine step_append_bytes (by rfl) (.tmp 62) (.tmp 63) (by rfl) w11.heap.size _ [] (by rfl) HEA.out a10 N c10 B (by rfl) HN.out (HY11.out.keep HLA.out) HCP.out.2.2 (by simp; omega) HLA.out.size ?_; intro v12 w12 ho12 hg12; have HL12 : Hid (Below w11.heap.size w11 w12) := Lib.hid (HLA.out.grown hg12 HLA.out.size (fun k hk => (HEA.out.lt k hk).1)); have HO12 : Hid (Own w12 w11.heap.size v12 B) := ho12; have hS12 := HKU.out _ HL12.out; have HL12a : Hid (Below w11.heap.size w11 (w12.alloc (Obj.cells #[.int .u8 ((n0 : Int) % 256)] 5))) := Lib.hid (HL12.out.alloc HL12.out.size _); have hS12a := HKU.out _ HL12a.out; clear ho12 hg12)
              | (refine step_append_bytes (by rfl) (.tmp 62) (.tmp 63) (by rfl) w11.heap.size _ [] (by rfl) HEB.out a10 N c10 B (by rfl) HN.out (HY11.out.keep HLB.out) HCP.out.2.2 (by simp; omega) HLB.out.size ?_; intro v12 w12 ho12 hg12; have HL12 : Hid (Below w11.heap.size w11 w12) := Lib.hid (HLB.out.grown hg12 HLB.out.size (fun k hk => (HEB.out.lt k hk).1)); have HO12 : Hid (Own w12 w11.heap.size v12 B) := ho12; have HX12 : Hid (Blk w12 (w11.heap.size + 1) 5 [cellOf x0]) := Lib.hid (HXB.out.of (hg12.block _ HXB.out.lt (fun e => by simp [Value.ownBlock] at e))); have hS12 := HKU.out _ HL12.out; clear ho12 hg12)
              | (refine step_append_bytes (by rfl) (.tmp 62) (.tmp 63) (by rfl) w11.heap.size _ [] (by rfl) HEC.out a10 N c10 B (by rfl) HN.out (HY11.out.keep HLC.out) HCP.out.2.2 (by simp; omega) HLC.out.size ?_; intro v12 w12 ho12 hg12; have HL12 : Hid (Below w11.heap.size w11 w12) := Lib.hid (HLC.out.grown hg12 HLC.out.size (fun k hk => (HEC.out.lt k hk).1)); have HO12 : Hid (Own w12 w11.heap.size v12 B) := ho12; have HX12 : Hid (Blk w12 w11.heap.size 5 [cellOf x0]) := Lib.hid (HXC.out.of (hg12.block _ HXC.out.lt (fun e => by simp [Value.ownBlock] at e))); have hS12 := HKU.out _ HL12.out; clear ho12 hg12)
              | (refine step_append_bytes (by rfl) (.tmp 64) (.tmp 68) (by rfl) w11.heap.size _ B (by rfl) HO12.out _ 1 1 [x0] (by rfl) rfl (bytes_one HX12.out) (fun h => by cases h) HBN.out HL12.out.size ?_; intro v13 w13 ho13 hg13; have HL13 : Hid (Below w11.heap.size w11 w13) := Lib.hid (HL12.out.grown hg13 HL12.out.size (fun k hk => (HO12.out.lt k hk).1)); have hS13 := HKU.out _ HL13.out; obtain ⟨a13, c13, e13, hy13, hl13, hm13, hn13, _⟩ := own_view2 ho13; subst e13; have HC13 := Lib.hid (cut_one (B := B) (x := x0) hy13 hl13 hm13 hn13); clear ho13 hg13 hy13 hl13 hm13 hn13)
              | (refine step_append_bytes (by rfl) (.tmp 64) (.tmp 68) (by rfl) w11.heap.size _ B (by rfl) (HO12.out.alloc _) _ 1 1 [x0] (by rfl) rfl (bytes_one (HXA.out w12)) (fun h => by cases h) HBN.out HL12a.out.size ?_; intro v13 w13 ho13 hg13; have HL13 : Hid (Below w11.heap.size w11 w13) := Lib.hid (HL12a.out.grown hg13 HL12a.out.size (fun k hk => (HO12.out.lt k hk).1)); have hS13 := HKU.out _ HL13.out; obtain ⟨a13, c13, e13, hy13, hl13, hm13, hn13, _⟩ := own_view2 ho13; subst e13; have HC13 := Lib.hid (cut_one (B := B) (x := x0) hy13 hl13 hm13 hn13); clear ho13 hg13 hy13 hl13 hm13 hn13)
              | (go_at_call 8; refine (HC13.out _ (by simp)).mono ?_; rintro e w14 ⟨v14, rfl, hc14, hb14⟩; have HL14 := Lib.hid (HL13.out.trans (hb14.mono HL13.out.size)); have hS14 := HKU.out _ HL14.out; clear hc14 hb14))
          all_goals
            rw [HC1.out x0]
            clear hS0 hSA hSB hSC0 hSC
            have HB14 := Lib.hid (chain HB11.out HL14.out)
            obtain ⟨kk, hkk⟩ : ∃ k, k = n0 % N := ⟨_, rfl⟩
            have hkN : kk < N := by rw [hkk]; exact Nat.mod_lt _ hNp
            have hke : (n0 : Int) % (N : Int) = (kk : Int) := by rw [hkk]; rfl
            have hto : ∀ w, (Instr.slice 22 (.slice a10 N c10) none (some (.int .i64 ((n0 : Int) % (N : Int)))) none).run Try.prog w = .ok (.slice a10 kk c10) w := fun w => by
              rw [hke]
              exact run_cut_to (P := Try.prog) 22 5 Try.underlying22 size_u8 a10 N c10 .i64 kk (by have := HCP.out.1; have := HN.out; omega) w
            have HCT : Hid (Calls Try.prog 8 #[.slice a10 kk c10] w14 (Cutted 51 ([], 2) w14)) := Lib.hid (by
              have h := cut_any (B.take kk) a10 kk c10 (by rw [List.length_take, ← HN.out]; omega) (by have := HCP.out.1; have := HN.out; omega) HCP.out.2.1 HCP.out.2.2 w14 ((HY11.out.keep HL14.out).take kk)
              rw [HC2.out kk (by rw [← HN.out]; exact hkN)] at h
              exact h)
            have k14 := HKU.out _ HL14.out
            clear hke hkk
            dsimp only
            go_wp2_with fail
            refine HCT.out.mono ?_
            rintro e w15 ⟨v15, rfl, hc15, hb15⟩
            have HL15 := Lib.hid (HL14.out.trans (hb15.mono HL14.out.size))
            clear hc15 hb15 hto k14
            have HLE : Hid (Below w11.heap.size w11 (w15.alloc (Obj.cells #[] 5))) := Lib.hid (HL15.out.alloc HL15.out.size _)
            have HOE : Hid (Own (w15.alloc (Obj.cells #[] 5)) w15.heap.size (.slice (some ⟨w15.heap.size, 0, none⟩) 0 0) []) := Lib.hid (Own.empty w15 w15.heap.size (Nat.le_refl _))
            dsimp only
            go_wp2_with (at_builtin; refine wpList_append_bytes rfl (.tmp 85) (.tmp 86) rfl w15.heap.size _ [] rfl HOE.out a10 N c10 B rfl HN.out (HY11.out.keep HLE.out) HCP.out.2.2 (by simp; omega) (by simp) ?_)
            intro v16 w16 ho16 hg16
            have HL16 : Hid (Below w11.heap.size w11 w16) := Lib.hid (HLE.out.grown hg16 HLE.out.size (fun k hk => by have := (HOE.out.lt k hk).1; have := HL15.out.size; omega))
            obtain ⟨g16, c16, _, rfl, hg16b, _, hl16, hm16, _⟩ := ho16.row (by rw [← HN.out]; exact hNp)
            rw [← HN.out] at ho16 ⊢
            have HO16 := Lib.hid ho16
            have HG16 := Lib.hid (And.intro hg16b (And.intro hl16 hm16))
            obtain ⟨mm, hmm⟩ : ∃ m, m = n1 % 4 := ⟨_, rfl⟩
            have hmb : mm < 4 := by omega
            have hidx : N - 1 - mm < B.length := by rw [← HN.out]; omega
            obtain ⟨ix, hix⟩ : ∃ i, i = N - 1 - mm := ⟨_, rfl⟩
            have hie : (N : Int) - 1 - (n1 : Int) % 4 = (ix : Int) := by omega
            have hixN : ix < N := by omega
            rw [← hix] at hidx
            have y1 := ho16.lit_cell ix hidx
            have y2 := ho16.frozen ix
            obtain ⟨xo, hxo⟩ : ∃ x, x = B[ix]'hidx := ⟨_, rfl⟩
            rw [← hxo] at y1
            have y1' : w16.cell? ⟨g16, ix, none⟩ = some (.int .u8 (xo.toNat : Nat)) := y1
            clear y1
            have hxl := xo.toNat_lt
            obtain ⟨xn, hxn⟩ : ∃ n, n = xo.toNat := ⟨_, rfl⟩
            rw [← hxn] at y1' hxl
            have HXN := Lib.hid hxn
            clear hxn
            have HXO := Lib.hid hxo
            have HIX := Lib.hid hix
            have HMM := Lib.hid hmb
            have n1c := (HK11.out.keep HL16.out).cell (i := 1) rfl
            clear ho16 hg16 hg16b hl16 hm16 hxo hix hmb hmm
            obtain ⟨sb, hsb⟩ : ∃ b, b = n1 / 256 % 8 := ⟨_, rfl⟩
            have hsh : bits .and .u16 ((n1 : Int) / 256) 7 = (sb : Int) := by rw [hsb]; exact and7 n1 hn1
            have hsb8 : sb < 8 := by omega
            obtain ⟨yn, hyn, hyx, hyl⟩ := xor_bit sb xn hsb8 hxl
            have HYN := Lib.hid (And.intro hyx hyl)
            clear hsb hyx hyl
            go_wp2_with fail
            go_region
            all_goals
              obtain ⟨y, hy⟩ : ∃ y : UInt8, y = UInt8.ofNat yn := ⟨_, rfl⟩
              have hyt : y.toNat = yn := by rw [hy]; exact UInt8.toNat_ofNat_of_lt' HYN.out.2
              have HO17 : Hid (Own ((w16.setCell ⟨g16, ix, none⟩ (.int .u8 (yn : Nat))).drew) w15.heap.size (.slice (some ⟨g16, 0, none⟩) N c16) (B.set ix y)) := Lib.hid (by
                have h := HO16.out.set ix y
                unfold cellOf at h
                rw [hyt] at h
                exact h)
              have hg1 : w11.heap.size ≤ g16 := Nat.le_trans HL15.out.size HG16.out.1
              have HL17 : Hid (Below w11.heap.size w11 ((w16.setCell ⟨g16, ix, none⟩ (.int .u8 (yn : Nat))).drew)) := Lib.hid (HL16.out.setCell hg1 _).drew
              have HCB : Hid (Calls Try.prog 8 #[.slice (some ⟨g16, 0, none⟩) N c16] ((w16.setCell ⟨g16, ix, none⟩ (.int .u8 (yn : Nat))).drew) (Cutted 51 ([], 5) ((w16.setCell ⟨g16, ix, none⟩ (.int .u8 (yn : Nat))).drew))) := Lib.hid (by
                have h := cut_any (B.set ix y) (some ⟨g16, 0, none⟩) N c16 (by rw [List.length_set]; exact HN.out) (by rw [HN.out]; exact HG16.out.2.1) HG16.out.2.2 (fun h => by cases h) _ HO17.out.bytes
                have hc : cutV (B.set ix y) = ([], 5) := by
                  have h2 := HC3.out mm y N (by have := HIX.out; have := HN.out; omega) HMM.out HN.out
                  have hne : y ≠ B[N - 1 - mm]'(by have := HIX.out; have := HN.out; omega) := by
                    intro e
                    have e2 : xo = y := by
                      rw [HXO.out, e]
                      congr 1
                    apply HYN.out.1
                    rw [HXN.out, e2, hyt]
                  have h3 := h2 hne
                  rw [← HIX.out] at h3
                  exact h3
                rw [hc] at h
                exact h)
              clear y1' y2 n1c hie hyn hsh hyt hy hsb8 HC0 HC1 HC2 HC3
              generalize (w16.setCell ⟨g16, ix, none⟩ (.int .u8 (yn : Nat))).drew = w17 at *
              go_wp2_with fail
              refine HCB.out.mono ?_
              rintro e w18 ⟨v18, rfl, hc18, hb18⟩
              have HL18 := Lib.hid (HL17.out.trans (hb18.mono HL17.out.size))
              have HB18 := Lib.hid (chain HB11.out HL18.out)
              have HM18 := Lib.hid (model_any v11 inl (by have := HIT.out.2; omega) w18 (HX11.out.keep HL18.out))
              clear hc18 hb18
              dsimp only
              go_wp2_with fail
              refine HM18.out.mono ?_
              rintro e w19 ⟨v19, rfl, hr19, hb19⟩
              have HB19 := Lib.hid (chain HB18.out hb19)
              have HS19 := Lib.hid (same_yes v19 v8 inl w19 hr19 ((HR11.out.keep HL18.out).keep hb19))
              clear hr19 hb19
              go_wp2_with fail
              refine HS19.out.mono ?_
              rintro e w20 ⟨rfl, hb20⟩
              have HB20 := Lib.hid (chain HB19.out hb20)
              clear hb20
              go_wp2_with fail
              go_ret
              exact ⟨rfl, HB20.out⟩
end Go.Proofs.Ytfjcelnamjgieaa.Ck
