/-
  No cell of these rows narrows 'for every input' (looked for: loops, veiled, ifaces, maps, wideKeys, modest, calm, conditions, laid).
  DERIVED. THE GIVEN ROWS OF THIS SEAT. 6 by the template 'for every input the law returns true; each argument reads behind the call as it read before'; 0 by the template 'total and deterministic' (their statements: YtejklnnhgpinbaaTotals.lean).
  GIVEN WITH THE SEED: the statements are not yours to turn. If you find one false, say at which input.
  Laid BY PROGRAM, IN A SANDBOX (cutbox-rows.mjs): the forced cells as the released guide's own fill.sh prints them over the translation ecbc7d945fb930ca… (all of the seat's roots in one cut). By AI agents, Wed Nov 11 2026. No macro, syntax, notation, axiom, sorry.
-/
import Derived.Test.YtejklnnhgpinbaaChecked
import GoSem.Claim
import GoSem.ClaimJoined
import GoSem.ClaimMapViews
import Derived.JoinedTies
import Derived.KernelRfl
namespace Go.Proofs.Ytejklnnhgpinbaa
/- THE CELL 'sum', in the pinned program and in every row, IS THE sha256 OF THE DUMP (.gsa) THAT YtejklnnhgpinbaaProg.lean LOADS. Nothing in Lean hashes anything: it is a label: what it is worth is what the hold of that sum in a sandbox is worth. -/
noncomputable def Try.pinned : Pinned := { name := "ytejklnnhgpinbaa", sum := "ecbc7d945fb930ca2c3dbeb970bc4e6aee2cedbd82ee89722f53c3388b385427", checked := Try.checked }
namespace Rows
def none {H : Type} : Left H := { results := [], args := [] }

/-- 'engraverlaw2.SumsChunks': WHATEVER THE INPUT: true; the input reads as it did. -/
def sumsChunksSpec : ChangeSpec := { name := "sumsChunks", fn := fun _ => fun
  | [d1, d2, d3] => { results := [.lit (.bool true)], args := [d1, d2, d3] }
  | _ => none }
def sumsChunksRow : OpenClaim := { program := "ytejklnnhgpinbaa", sum := "ecbc7d945fb930ca2c3dbeb970bc4e6aee2cedbd82ee89722f53c3388b385427", func := "engraver/engraverlaw2.SumsChunks", spec := "sumsChunks", apart := false }
def SumsChunksSaid : Prop := sumsChunksRow.holds Try.pinned (OpenSpec.ofChange sumsChunksSpec)

/-- ITS FALSE NEIGHBOUR: 'it returns false'. Refute it at one input. -/
def sumsChunksWrong : ChangeSpec := { name := "sumsChunks", fn := fun _ => fun
  | [d1, d2, d3] => { results := [.lit (.bool false)], args := [d1, d2, d3] }
  | _ => none }
def SumsChunksWrongFalsely : Prop := sumsChunksRow.holds Try.pinned (OpenSpec.ofChange sumsChunksWrong)

/-- 'engraverlaw2.SumsGo': WHATEVER THE INPUT: true; the input reads as it did. -/
def sumsGoSpec : ChangeSpec := { name := "sumsGo", fn := fun _ => fun
  | [d1, d2] => { results := [.lit (.bool true)], args := [d1, d2] }
  | _ => none }
def sumsGoRow : OpenClaim := { program := "ytejklnnhgpinbaa", sum := "ecbc7d945fb930ca2c3dbeb970bc4e6aee2cedbd82ee89722f53c3388b385427", func := "engraver/engraverlaw2.SumsGo", spec := "sumsGo", apart := false }
def SumsGoSaid : Prop := sumsGoRow.holds Try.pinned (OpenSpec.ofChange sumsGoSpec)

/-- ITS FALSE NEIGHBOUR: 'it returns false'. Refute it at one input. -/
def sumsGoWrong : ChangeSpec := { name := "sumsGo", fn := fun _ => fun
  | [d1, d2] => { results := [.lit (.bool false)], args := [d1, d2] }
  | _ => none }
def SumsGoWrongFalsely : Prop := sumsGoRow.holds Try.pinned (OpenSpec.ofChange sumsGoWrong)

/-- 'engraverlaw2.SumsParts': WHATEVER THE INPUT: true; the input reads as it did. -/
def sumsPartsSpec : ChangeSpec := { name := "sumsParts", fn := fun _ => fun
  | [d1, d2, d3] => { results := [.lit (.bool true)], args := [d1, d2, d3] }
  | _ => none }
def sumsPartsRow : OpenClaim := { program := "ytejklnnhgpinbaa", sum := "ecbc7d945fb930ca2c3dbeb970bc4e6aee2cedbd82ee89722f53c3388b385427", func := "engraver/engraverlaw2.SumsParts", spec := "sumsParts", apart := false }
def SumsPartsSaid : Prop := sumsPartsRow.holds Try.pinned (OpenSpec.ofChange sumsPartsSpec)

/-- ITS FALSE NEIGHBOUR: 'it returns false'. Refute it at one input. -/
def sumsPartsWrong : ChangeSpec := { name := "sumsParts", fn := fun _ => fun
  | [d1, d2, d3] => { results := [.lit (.bool false)], args := [d1, d2, d3] }
  | _ => none }
def SumsPartsWrongFalsely : Prop := sumsPartsRow.holds Try.pinned (OpenSpec.ofChange sumsPartsWrong)

/-- 'engraverlaw2.SumsBursts': WHATEVER THE INPUT: true; the input reads as it did. -/
def sumsBurstsSpec : ChangeSpec := { name := "sumsBursts", fn := fun _ => fun
  | [d1, d2, d3] => { results := [.lit (.bool true)], args := [d1, d2, d3] }
  | _ => none }
def sumsBurstsRow : OpenClaim := { program := "ytejklnnhgpinbaa", sum := "ecbc7d945fb930ca2c3dbeb970bc4e6aee2cedbd82ee89722f53c3388b385427", func := "engraver/engraverlaw2.SumsBursts", spec := "sumsBursts", apart := false }
def SumsBurstsSaid : Prop := sumsBurstsRow.holds Try.pinned (OpenSpec.ofChange sumsBurstsSpec)

/-- ITS FALSE NEIGHBOUR: 'it returns false'. Refute it at one input. -/
def sumsBurstsWrong : ChangeSpec := { name := "sumsBursts", fn := fun _ => fun
  | [d1, d2, d3] => { results := [.lit (.bool false)], args := [d1, d2, d3] }
  | _ => none }
def SumsBurstsWrongFalsely : Prop := sumsBurstsRow.holds Try.pinned (OpenSpec.ofChange sumsBurstsWrong)

/-- 'engraverlaw2.SumsLinear': WHATEVER THE INPUT: true; the input reads as it did. -/
def sumsLinearSpec : ChangeSpec := { name := "sumsLinear", fn := fun _ => fun
  | [d1, d2] => { results := [.lit (.bool true)], args := [d1, d2] }
  | _ => none }
def sumsLinearRow : OpenClaim := { program := "ytejklnnhgpinbaa", sum := "ecbc7d945fb930ca2c3dbeb970bc4e6aee2cedbd82ee89722f53c3388b385427", func := "engraver/engraverlaw2.SumsLinear", spec := "sumsLinear", apart := false }
def SumsLinearSaid : Prop := sumsLinearRow.holds Try.pinned (OpenSpec.ofChange sumsLinearSpec)

/-- ITS FALSE NEIGHBOUR: 'it returns false'. Refute it at one input. -/
def sumsLinearWrong : ChangeSpec := { name := "sumsLinear", fn := fun _ => fun
  | [d1, d2] => { results := [.lit (.bool false)], args := [d1, d2] }
  | _ => none }
def SumsLinearWrongFalsely : Prop := sumsLinearRow.holds Try.pinned (OpenSpec.ofChange sumsLinearWrong)

/-- 'engraverlaw2.SumsKnown': WHATEVER THE INPUT: true; the input reads as it did. -/
def sumsKnownSpec : ChangeSpec := { name := "sumsKnown", fn := fun _ => fun
  | [] => { results := [.lit (.bool true)], args := [] }
  | _ => none }
def sumsKnownRow : OpenClaim := { program := "ytejklnnhgpinbaa", sum := "ecbc7d945fb930ca2c3dbeb970bc4e6aee2cedbd82ee89722f53c3388b385427", func := "engraver/engraverlaw2.SumsKnown", spec := "sumsKnown", apart := false }
def SumsKnownSaid : Prop := sumsKnownRow.holds Try.pinned (OpenSpec.ofChange sumsKnownSpec)

/-- ITS FALSE NEIGHBOUR: 'it returns false'. Refute it at one input. -/
def sumsKnownWrong : ChangeSpec := { name := "sumsKnown", fn := fun _ => fun
  | [] => { results := [.lit (.bool false)], args := [] }
  | _ => none }
def SumsKnownWrongFalsely : Prop := sumsKnownRow.holds Try.pinned (OpenSpec.ofChange sumsKnownWrong)

/- THE SECOND FORM. 'bulk': how many values and letters a reading holds, each counted each time it is reached (what is shared counts as often as it is met; a slice's spare places count too). A statement '..UptoSaid' is the law's where the arguments, and the package variables that the reading takes, are together of bulk at most 1048576: NARROWER than '..Said'. Prove '..Said' where nothing that the law and all that it calls make is longer than what came in: it says more and counts as full. Else prove '..UptoSaid'. A law counts once. -/
mutual
def uptoBulk {H : Type} : DataW H → Nat
  | .lit (.string bytes) => bytes.length + 1
  | .lit _ => 1
  | .nil => 1
  | .ptr d => uptoBulk d + 1
  | .slice elems spare => uptoBulkAll elems + uptoBulkAll spare + 1
  | .agg parts => uptoBulkAll parts + 1
  | .iface _ d => uptoBulk d + 1
  | .map entries => uptoBulkEntries entries + 1
  | .held _ => 1
def uptoBulkAll {H : Type} : List (DataW H) → Nat
  | [] => 0
  | d :: r => uptoBulk d + uptoBulkAll r
def uptoBulkEntries {H : Type} : List (Lit × DataW H) → Nat
  | [] => 0
  | x :: r => uptoBulkEntry x + uptoBulkEntries r
def uptoBulkEntry {H : Type} : Lit × DataW H → Nat
  | (.string bytes, d) => bytes.length + uptoBulk d + 1
  | (_, d) => uptoBulk d + 1
 end
def uptoSmall : (H : Type) → List (DataW H) → Bool := fun _ ds => decide (uptoBulkAll ds ≤ 1048576)
def OpenSpec.upto (s : _root_.Go.ChangeSpec) : _root_.Go.OpenSpec := { _root_.Go.OpenSpec.ofChange s with cond := some uptoSmall }

/-- 'engraverlaw2.SumsChunks', WHERE WHAT IT READS IS OF BULK AT MOST 1048576: true; the input reads as it did. -/
def sumsChunksUptoRow : OpenClaim := { program := "ytejklnnhgpinbaa", sum := "ecbc7d945fb930ca2c3dbeb970bc4e6aee2cedbd82ee89722f53c3388b385427", func := "engraver/engraverlaw2.SumsChunks", spec := "sumsChunks", apart := false, narrowed := true }
def SumsChunksUptoSaid : Prop := sumsChunksUptoRow.holds Try.pinned (OpenSpec.upto sumsChunksSpec)

/-- 'engraverlaw2.SumsGo', WHERE WHAT IT READS IS OF BULK AT MOST 1048576: true; the input reads as it did. -/
def sumsGoUptoRow : OpenClaim := { program := "ytejklnnhgpinbaa", sum := "ecbc7d945fb930ca2c3dbeb970bc4e6aee2cedbd82ee89722f53c3388b385427", func := "engraver/engraverlaw2.SumsGo", spec := "sumsGo", apart := false, narrowed := true }
def SumsGoUptoSaid : Prop := sumsGoUptoRow.holds Try.pinned (OpenSpec.upto sumsGoSpec)

/-- 'engraverlaw2.SumsParts', WHERE WHAT IT READS IS OF BULK AT MOST 1048576: true; the input reads as it did. -/
def sumsPartsUptoRow : OpenClaim := { program := "ytejklnnhgpinbaa", sum := "ecbc7d945fb930ca2c3dbeb970bc4e6aee2cedbd82ee89722f53c3388b385427", func := "engraver/engraverlaw2.SumsParts", spec := "sumsParts", apart := false, narrowed := true }
def SumsPartsUptoSaid : Prop := sumsPartsUptoRow.holds Try.pinned (OpenSpec.upto sumsPartsSpec)

/-- 'engraverlaw2.SumsBursts', WHERE WHAT IT READS IS OF BULK AT MOST 1048576: true; the input reads as it did. -/
def sumsBurstsUptoRow : OpenClaim := { program := "ytejklnnhgpinbaa", sum := "ecbc7d945fb930ca2c3dbeb970bc4e6aee2cedbd82ee89722f53c3388b385427", func := "engraver/engraverlaw2.SumsBursts", spec := "sumsBursts", apart := false, narrowed := true }
def SumsBurstsUptoSaid : Prop := sumsBurstsUptoRow.holds Try.pinned (OpenSpec.upto sumsBurstsSpec)

/-- 'engraverlaw2.SumsLinear', WHERE WHAT IT READS IS OF BULK AT MOST 1048576: true; the input reads as it did. -/
def sumsLinearUptoRow : OpenClaim := { program := "ytejklnnhgpinbaa", sum := "ecbc7d945fb930ca2c3dbeb970bc4e6aee2cedbd82ee89722f53c3388b385427", func := "engraver/engraverlaw2.SumsLinear", spec := "sumsLinear", apart := false, narrowed := true }
def SumsLinearUptoSaid : Prop := sumsLinearUptoRow.holds Try.pinned (OpenSpec.upto sumsLinearSpec)

/-- 'engraverlaw2.SumsKnown', WHERE WHAT IT READS IS OF BULK AT MOST 1048576: true; the input reads as it did. -/
def sumsKnownUptoRow : OpenClaim := { program := "ytejklnnhgpinbaa", sum := "ecbc7d945fb930ca2c3dbeb970bc4e6aee2cedbd82ee89722f53c3388b385427", func := "engraver/engraverlaw2.SumsKnown", spec := "sumsKnown", apart := false, narrowed := true }
def SumsKnownUptoSaid : Prop := sumsKnownUptoRow.holds Try.pinned (OpenSpec.upto sumsKnownSpec)

end Rows
end Go.Proofs.Ytejklnnhgpinbaa
