/- Small laws on worlds: bytes that a slice holds; '[]byte(s)' under a name. -/
import Derived.Test.YtfjcelnamjgieaaChecked
import Derived.WalkKit
import Derived.ProofKit
import Derived.Lib.Hide
import Derived.Outline
import Derived.Deep.OwnRows
import Derived.Laws.IdiomStrings
import Derived.Lib.SlBytesConst
namespace Go.Proofs.Ytfjcelnamjgieaa.Ba
open Go.RowKit

/-- The slice at 'a' holds the bytes bs (where there are any). -/
def Bytes (w : World) (a : Option Addr) (bs : List UInt8) : Prop :=
  ∀ i, (h : i < bs.length) → ∃ b off, a = some ⟨b, off, none⟩ ∧ w.cell? ⟨b, off + i, none⟩ = some (.int .u8 ((bs[i].toNat : Nat) : Int))
theorem Bytes.nil (w : World) (a : Option Addr) : Bytes w a [] := fun i h => absurd h (by simp)
/-- Bytes of a slice that lies below B. -/
def Old (B : Nat) (a : Option Addr) (bs : List UInt8) : Prop := bs ≠ [] → ∃ x, a = some x ∧ x.block < B
theorem Bytes.below {B : Nat} {w w' : World} {a : Option Addr} {bs : List UInt8} (h : Bytes w a bs) (ho : Old B a bs) (hb : Below B w w') : Bytes w' a bs := by
  intro i hi
  obtain ⟨b, off, rfl, hc⟩ := h i hi
  obtain ⟨x, hx, hlt⟩ := ho (by intro e; subst e; simp at hi)
  simp only [Option.some.injEq] at hx
  subst hx
  exact ⟨b, off, rfl, (hb.cell (p := ⟨b, off + i, none⟩) hlt).trans hc⟩
theorem cell_lt {w : World} {a : Addr} {v : Value} (h : w.cell? a = some v) : a.block < w.heap.size := by
  rcases Nat.lt_or_ge a.block w.heap.size with h' | h'
  · exact h'
  · simp [World.cell?, Array.getElem?_eq_none h'] at h
theorem Bytes.old {w : World} {a : Option Addr} {bs : List UInt8} (h : Bytes w a bs) : Old w.heap.size a bs := by
  intro hne
  obtain ⟨b, off, rfl, hc⟩ := h 0 (List.length_pos_iff.2 hne)
  exact ⟨_, rfl, cell_lt (a := ⟨b, off + 0, none⟩) hc⟩
/-- The bytes of a slice that is there stay where only new memory is written. -/
theorem Bytes.keep {w w' : World} {a : Option Addr} {bs : List UInt8} (h : Bytes w a bs) (hb : Below w.heap.size w w') : Bytes w' a bs := h.below h.old hb
theorem Old.mono {B B' : Nat} {a : Option Addr} {bs : List UInt8} (h : Old B a bs) (hB : B ≤ B') : Old B' a bs := fun hne => by
  obtain ⟨x, hx, hlt⟩ := h hne
  exact ⟨x, hx, by omega⟩

theorem chain {a b c : World} (h : Below a.heap.size a b) (k : Below b.heap.size b c) : Below a.heap.size a c := h.trans (k.mono h.size)

theorem u16_nat {a : Int} (h : (Lit.int .u16 a).wf = true) : ∃ n : Nat, a = (n : Int) ∧ n < 65536 := by
  simp [Lit.wf, IntKind.min, IntKind.max, IntKind.signed, IntKind.bits] at h
  exact ⟨a.toNat, by omega, by omega⟩
theorem u8_nat {a : Int} (h : (Lit.int .u8 a).wf = true) : ∃ n : Nat, a = (n : Int) ∧ n < 256 := by
  simp [Lit.wf, IntKind.min, IntKind.max, IntKind.signed, IntKind.bits] at h
  exact ⟨a.toNat, by omega, by omega⟩
theorem u32_nat {a : Int} (h : (Lit.int .u32 a).wf = true) : ∃ n : Nat, a = (n : Int) ∧ n < 4294967296 := by
  simp [Lit.wf, IntKind.min, IntKind.max, IntKind.signed, IntKind.bits] at h
  exact ⟨a.toNat, by omega, by omega⟩
theorem i64_bounds {a : Int} (h : (Lit.int .i64 a).wf = true) : -9223372036854775808 ≤ a ∧ a ≤ 9223372036854775807 := by
  simpa [Lit.wf, IntKind.min, IntKind.max, IntKind.signed, IntKind.bits] using h

/-- The capacity and the world behind '[]byte(s)'. -/
def capOf (w : World) (e : TypeId) (s : ByteArray) : Nat := grownCap w s.size 0 e
def bytesW (w : World) (e : TypeId) (s : ByteArray) : World :=
  w.drew.alloc (.cells (bytesRow s (grownCap w s.size 0 e)) e ((bytesRow s (grownCap w s.size 0 e)).size, (bytesRow s (grownCap w s.size 0 e)).size + 1))
theorem run_bytesW {P : Program} (src dst e : TypeId) (s : ByteArray) (hs : P.underlying src = some .string) (hd : P.underlying dst = some (.slice e)) (he : P.underlying e = some (.int .u8)) (w : World) :
    (convert src dst (.string s)).run P w = .ok (.slice (some ⟨w.heap.size, 0, none⟩) s.size (capOf w e s)) (bytesW w e s) := run_bytes_of_string w src dst e s hs hd he
theorem bytesW_below (w : World) (e : TypeId) (s : ByteArray) : Below w.heap.size w (bytesW w e s) := by
  unfold bytesW
  exact (Below.drew (Below.refl _ _)).alloc (Nat.le_refl _) _
theorem bytesW_size (w : World) (e : TypeId) (s : ByteArray) : (bytesW w e s).heap.size = w.heap.size + 1 := by
  unfold bytesW; simp
theorem bytesW_bytes (w : World) (e : TypeId) (s : ByteArray) : Bytes (bytesW w e s) (some ⟨w.heap.size, 0, none⟩) s.data.toList := by
  intro i hi
  refine ⟨_, _, rfl, ?_⟩
  unfold bytesW
  have hh : (w.drew).heap.size = w.heap.size := rfl
  have := World.cell?_alloc_mark w.drew (bytesRow s (grownCap w s.size 0 e)) e ((bytesRow s (grownCap w s.size 0 e)).size, (bytesRow s (grownCap w s.size 0 e)).size + 1) i
  rw [hh] at this
  rw [Nat.zero_add, this]
  unfold bytesRow
  have hi' : i < s.data.size := by simpa using hi
  rw [Array.getElem?_append_left (by simpa using hi'), Array.getElem?_map, Array.getElem?_eq_getElem hi']
  simp
/-- Numbers of the kind uint8 are bytes. -/
theorem bytes_of_ints (zs : List Int) (h : ∀ n ∈ zs, (Lit.int .u8 n).wf = true) : ∃ bs : List UInt8, zs = bs.map (fun b => ((b.toNat : Nat) : Int)) := by
  induction zs with
  | nil => exact ⟨[], rfl⟩
  | cons z l ih =>
    obtain ⟨bs, rfl⟩ := ih (fun n hn => h n (List.mem_cons_of_mem _ hn))
    have hz := h z (List.mem_cons_self)
    simp [Lit.wf, IntKind.min, IntKind.max, IntKind.signed, IntKind.bits] at hz
    refine ⟨UInt8.ofNat z.toNat :: bs, ?_⟩
    simp only [List.map_cons, List.cons.injEq, and_true]
    rw [UInt8.toNat_ofNat_of_lt' (by show z.toNat < 256; omega)]
    omega
/-- A byte as a cell. -/
def cellOf (b : UInt8) : Value := .int .u8 ((b.toNat : Nat) : Int)
theorem Bytes.new (w : World) (bs : List UInt8) (t : TypeId) (fr : Nat × Nat) (C : Array Value) (hC : ∀ i (h : i < bs.length), C[i]? = some (cellOf bs[i])) : Bytes (w.alloc (.cells C t fr)) (some ⟨w.heap.size, 0, none⟩) bs := by
  intro i hi
  refine ⟨_, _, rfl, ?_⟩
  rw [Nat.zero_add, World.cell?_alloc_mark, hC i hi]; rfl
theorem Bytes.lit (w : World) (bs : List UInt8) (t : TypeId) (fr : Nat × Nat) (C : Array Value) (hC : C.toList = bs.map cellOf) : Bytes (w.alloc (.cells C t fr)) (some ⟨w.heap.size, 0, none⟩) bs := by
  refine Bytes.new w bs t fr C fun i h => ?_
  rw [← Array.getElem?_toList, hC, List.getElem?_map, List.getElem?_eq_getElem h]; rfl
/-- What 'x[k:]' holds. -/
def cutA (a : Option Addr) (k cap : Nat) : Option Addr := if cap = k then a else a.map (fun x => x.add k)
theorem Bytes.drop {w : World} {a : Option Addr} {bs : List UInt8} (h : Bytes w a bs) (k cap : Nat) (hc : bs.length ≤ cap) : Bytes w (cutA a k cap) (bs.drop k) := by
  intro i hi
  have hi' : k + i < bs.length := by rw [List.length_drop] at hi; omega
  obtain ⟨b, off, rfl, hcell⟩ := h (k + i) hi'
  refine ⟨b, off + k, ?_, ?_⟩
  · unfold cutA
    rw [if_neg (by omega)]
    unfold Addr.add
    by_cases hk : k = 0
    · subst hk; simp
    · simp [hk]
  · rw [Nat.add_assoc, hcell]
    simp
theorem Bytes.take {w : World} {a : Option Addr} {bs : List UInt8} (h : Bytes w a bs) (k : Nat) : Bytes w a (bs.take k) := by
  intro i hi
  have hi' : i < bs.length := by rw [List.length_take] at hi; omega
  obtain ⟨b, off, rfl, hcell⟩ := h i hi'
  refine ⟨b, off, rfl, ?_⟩
  rw [hcell]; simp
/-- A slice of bytes that came in, as the frame of a proof hands it. -/
def IsRow (k : IntKind) (w : World) (a : Option Addr) (len cap : Nat) (zs : List Int) : Prop :=
  (a = none ∧ len = 0 ∧ cap = 0 ∧ zs = []) ∨
  ∃ x, a = some x ∧ len ≤ cap ∧ cap ≤ maxLen ∧ zs.length = cap ∧ (∀ i, i < zs.length → w.cell? (x.add i) = some (.int k (zs.getD i 0))) ∧ ∀ n ∈ zs, (Lit.int k n).wf = true
theorem IsRow.bytes {w : World} {a : Option Addr} {len cap : Nat} {zs : List Int} (h : IsRow .u8 w a len cap zs) :
    ∃ bs : List UInt8, bs.length = len ∧ Bytes w a bs ∧ len ≤ cap ∧ cap ≤ maxLen ∧ (a = none → cap = 0) := by
  rcases h with ⟨rfl, rfl, rfl, rfl⟩ | ⟨x, rfl, hl, hm, hz, hcell, hwz⟩
  · exact ⟨[], rfl, Bytes.nil _ _, Nat.le_refl _, Nat.zero_le _, fun _ => rfl⟩
  · obtain ⟨bs, rfl⟩ := bytes_of_ints zs hwz
    rw [List.length_map] at hz hcell
    refine ⟨bs.take len, by rw [List.length_take]; omega, ?_, hl, hm, fun h => by cases h⟩
    intro i hi
    have hi' : i < bs.length := by rw [List.length_take] at hi; omega
    have hc0 := hcell i hi'
    have hsp := World.cell?_spot (hcell 0 (by omega))
    obtain ⟨b, off, spot⟩ := x
    simp only [Addr.add] at hsp
    simp only [if_true] at hsp
    subst hsp
    refine ⟨b, off, rfl, ?_⟩
    have e : (Addr.add ⟨b, off, none⟩ i) = ⟨b, off + i, none⟩ := by
      unfold Addr.add
      by_cases h : i = 0
      · subst h; simp
      · simp [h]
    rw [e] at hc0
    rw [hc0]
    simp [List.getElem?_eq_getElem hi']
/-- The two cuts, under names. -/
theorem run_cut_from {P : Program} (t e : TypeId) (ht : P.underlying t = some (.slice e)) (hsz : ∀ w, (sizeOf e).run P w = .ok 1 w) (a : Option Addr) (len cap : Nat) (kl : IntKind) (k : Nat) (hk : k ≤ len) (w : World) :
    (Instr.slice t (.slice a len cap) (some (.int kl (k : Int))) none none).run P w = .ok (.slice (cutA a k cap) (len - k) (cap - k)) w := by
  have hel : P.elem t = e := by simp [Program.elem, ht]
  rw [run_slice_l w t a len cap (by rw [hel]; exact ht) kl k (by omega) (by omega), hel, hsz]
  simp [Result.andThen, sliced, cutA]
theorem run_cut_to {P : Program} (t e : TypeId) (ht : P.underlying t = some (.slice e)) (hsz : ∀ w, (sizeOf e).run P w = .ok 1 w) (a : Option Addr) (len cap : Nat) (kl : IntKind) (k : Nat) (hk : k ≤ cap) (w : World) :
    (Instr.slice t (.slice a len cap) none (some (.int kl (k : Int))) none).run P w = .ok (.slice a k cap) w := by
  have hel : P.elem t = e := by simp [Program.elem, ht]
  rw [run_slice_h w t a len cap (by rw [hel]; exact ht) kl k (by omega) (by omega), hel, hsz]
  simp [Result.andThen, sliced]
  intro h
  cases a with
  | none => rfl
  | some x => simp [Addr.add]
theorem size_u8 (w : World) : (sizeOf 5).run Try.prog w = .ok 1 w := by kernel_rfl
end Go.Proofs.Ytfjcelnamjgieaa.Ba
