/- Four bytes' number, as the reference reads it. No condition; no program's text is stepped through here. -/
import Derived.Test.YtfjcelnamjgieaaCkE
namespace Go.Proofs.Ytfjcelnamjgieaa.Ck
open Go.RowKit Ba Go.Deep
set_option linter.unusedVariables false

theorem beV_four (x0 x1 x2 x3 : UInt8) : beV [x0, x1, x2, x3] = ((x0.toNat * 256 + x1.toNat) * 256 + x2.toNat) * 256 + x3.toNat := by
  unfold beV
  simp
theorem wrap64_small (x : Nat) (hx : x < 4611686018427387904) : IntKind.i64.wrap (x : Int) = (x : Int) := by simp [IntKind.wrap, IntKind.bits, IntKind.signed]; omega
theorem be4 (x0 x1 x2 x3 : UInt8) :
    bits .or .i64 (bits .or .i64 (bits .or .i64 (IntKind.i64.wrap (IntKind.i64.wrap (x0.toNat : Int) * 16777216)) (IntKind.i64.wrap (IntKind.i64.wrap (x1.toNat : Int) * 65536))) (IntKind.i64.wrap (IntKind.i64.wrap (x2.toNat : Int) * 256))) (IntKind.i64.wrap (x3.toNat : Int)) = ((beV [x0, x1, x2, x3] : Nat) : Int) := by
  have b0 := x0.toNat_lt
  have b1 := x1.toNat_lt
  have b2 := x2.toNat_lt
  have b3 := x3.toNat_lt
  rw [beV_four]
  generalize x0.toNat = a at *
  generalize x1.toNat = b at *
  generalize x2.toNat = c at *
  generalize x3.toNat = d at *
  rw [wrap64_small a (by omega), wrap64_small b (by omega), wrap64_small c (by omega), wrap64_small d (by omega)]
  rw [show (a : Int) * 16777216 = ((a * 16777216 : Nat) : Int) by omega, show (b : Int) * 65536 = ((b * 65536 : Nat) : Int) by omega, show (c : Int) * 256 = ((c * 256 : Nat) : Int) by omega]
  rw [wrap64_small (a * 16777216) (by omega), wrap64_small (b * 65536) (by omega), wrap64_small (c * 256) (by omega)]
  rw [i64_or_nat _ _ (by omega) (by omega), nat_join 24 (a * 16777216) (b * 65536) (by omega) (by omega)]
  rw [i64_or_nat _ _ (by omega) (by omega), nat_join 16 (a * 16777216 + b * 65536) (c * 256) (by omega) (by omega)]
  rw [i64_or_nat _ _ (by omega) (by omega), nat_join 8 (a * 16777216 + b * 65536 + c * 256) d (by omega) (by omega)]
  have e : a * 16777216 + b * 65536 + c * 256 + d = ((a * 256 + b) * 256 + c) * 256 + d := by omega
  rw [e]
theorem wrap32_small (x : Nat) (hx : x < 4294967296) : IntKind.u32.wrap (x : Int) = (x : Int) := by simp [IntKind.wrap, IntKind.bits, IntKind.signed]; omega
theorem be4u (x0 x1 x2 x3 : UInt8) :
    bits .or .u32 (bits .or .u32 (bits .or .u32 (IntKind.u32.wrap (IntKind.u32.wrap (x0.toNat : Int) * 16777216)) (IntKind.u32.wrap (IntKind.u32.wrap (x1.toNat : Int) * 65536))) (IntKind.u32.wrap (IntKind.u32.wrap (x2.toNat : Int) * 256))) (IntKind.u32.wrap (x3.toNat : Int)) = ((beV [x0, x1, x2, x3] : Nat) : Int) := by
  have b0 := x0.toNat_lt
  have b1 := x1.toNat_lt
  have b2 := x2.toNat_lt
  have b3 := x3.toNat_lt
  rw [beV_four]
  generalize x0.toNat = a at *
  generalize x1.toNat = b at *
  generalize x2.toNat = c at *
  generalize x3.toNat = d at *
  rw [wrap32_small a (by omega), wrap32_small b (by omega), wrap32_small c (by omega), wrap32_small d (by omega)]
  rw [show (a : Int) * 16777216 = ((a * 16777216 : Nat) : Int) by omega, show (b : Int) * 65536 = ((b * 65536 : Nat) : Int) by omega, show (c : Int) * 256 = ((c * 256 : Nat) : Int) by omega]
  rw [wrap32_small (a * 16777216) (by omega), wrap32_small (b * 65536) (by omega), wrap32_small (c * 256) (by omega)]
  rw [u32_or_nat _ _ (by omega) (by omega), nat_join 24 (a * 16777216) (b * 65536) (by omega) (by omega)]
  rw [u32_or_nat _ _ (by omega) (by omega), nat_join 16 (a * 16777216 + b * 65536) (c * 256) (by omega) (by omega)]
  rw [u32_or_nat _ _ (by omega) (by omega), nat_join 8 (a * 16777216 + b * 65536 + c * 256) d (by omega) (by omega)]
  have e : a * 16777216 + b * 65536 + c * 256 + d = ((a * 256 + b) * 256 + c) * 256 + d := by omega
  rw [e]
theorem take_four {l : List UInt8} {p : Nat} {x0 x1 x2 x3 : UInt8} (h0 : l[p + 0]? = some x0) (h1 : l[p + 1]? = some x1) (h2 : l[p + 2]? = some x2) (h3 : l[p + 3]? = some x3) : (l.drop p).take 4 = [x0, x1, x2, x3] := by
  apply List.ext_getElem?
  intro i
  by_cases hi : i < 4
  · rw [List.getElem?_take_of_lt hi, List.getElem?_drop]
    have : i = 0 ∨ i = 1 ∨ i = 2 ∨ i = 3 := by omega
    rcases this with rfl | rfl | rfl | rfl
    · rw [h0]; rfl
    · rw [h1]; rfl
    · rw [h2]; rfl
    · rw [h3]; rfl
  · rw [List.getElem?_eq_none (by rw [List.length_take]; omega), List.getElem?_eq_none (by simp; omega)]
/-- 'v = append([]byte(nil), x...)'. -/
theorem wpList_clone_bytes {w : World} {ops : Array Oper} {rest : List Oper} {o : Oper} {a : Act} {Q : Exit → Act → World → Prop} (hgd : o.guard = none) (s x : Operand)
    (ho : o.op = .call { callee := .builtin .append, args := #[s, x], argTypes := #[22, 22] })
    (base : Nat) (hs : a.eval s = .slice none 0 0)
    (ao : Option Addr) (m c : Nat) (news : List UInt8) (hx : a.eval x = .slice ao m c) (hm : m = news.length) (hnews : Bytes w ao news) (hnil : ao = none → c = 0)
    (hbd : m ≤ 140737488355328) (hbase : base ≤ w.heap.size)
    (h : ∀ ao' c' w', Own w' base (.slice ao' m c') news → Below w.heap.size w w' → wpList Try.prog ops Q rest (a.put o.dst (.slice ao' m c')) w') : wpList Try.prog ops Q (o :: rest) a w := by
  refine wpList_append_bytes hgd s x ho base _ [] hs (Own.nil _ _) ao m c news hx hm hnews hnil (by simp; omega) hbase ?_
  intro v' w' hown hg
  obtain ⟨a8, c8, rfl, _⟩ := own_view2 hown
  rw [List.nil_append, ← hm] at hown
  have := h a8 c8 w' hown ((Below.refl w.heap.size w).grown hg (Nat.le_refl _) (fun k hk => by cases hk))
  rw [List.nil_append, ← hm]
  exact this
end Go.Proofs.Ytfjcelnamjgieaa.Ck
