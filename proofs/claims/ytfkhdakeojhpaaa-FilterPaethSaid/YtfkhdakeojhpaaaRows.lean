/-
  No cell of these rows narrows 'for every input' (looked for: loops, veiled, ifaces, maps, wideKeys, modest, calm, conditions, laid).
  DERIVED. THE GIVEN ROWS OF THIS SEAT. 4 by the template 'for every input the law returns true; each argument reads behind the call as it read before'; 0 by the template 'total and deterministic' (their statements: YtfkhdakeojhpaaaTotals.lean).
  GIVEN WITH THE SEED: the statements are not yours to turn. If you find one false, say at which input.
  Laid BY PROGRAM, IN A SANDBOX (cutbox-rows.mjs): the forced cells as the released guide's own fill.sh prints them over the translation 8cb6badf47e584a1… (all of the seat's roots in one cut). By AI agents, Wed Nov 11 2026. No macro, syntax, notation, axiom, sorry.
-/
import Derived.Test.YtfkhdakeojhpaaaChecked
import GoSem.Claim
import GoSem.ClaimJoined
import GoSem.ClaimMapViews
import Derived.JoinedTies
import Derived.KernelRfl
namespace Go.Proofs.Ytfkhdakeojhpaaa
/- THE CELL 'sum', in the pinned program and in every row, IS THE sha256 OF THE DUMP (.gsa) THAT YtfkhdakeojhpaaaProg.lean LOADS. Nothing in Lean hashes anything: it is a label: what it is worth is what the hold of that sum in a sandbox is worth. -/
noncomputable def Try.pinned : Pinned := { name := "ytfkhdakeojhpaaa", sum := "8cb6badf47e584a11b790b209df8296b93e350e238c5370d0eb6ad467ecdb9fc", checked := Try.checked }
namespace Rows
def none {H : Type} : Left H := { results := [], args := [] }

/-- 'engraverlaw12.FilterBack': WHATEVER THE INPUT: true; the input reads as it did. -/
def filterBackSpec : ChangeSpec := { name := "filterBack", fn := fun _ => fun
  | [d1, d2, d3] => { results := [.lit (.bool true)], args := [d1, d2, d3] }
  | _ => none }
def filterBackRow : OpenClaim := { program := "ytfkhdakeojhpaaa", sum := "8cb6badf47e584a11b790b209df8296b93e350e238c5370d0eb6ad467ecdb9fc", func := "engraver/engraverlaw12.FilterBack", spec := "filterBack", apart := false }
def FilterBackSaid : Prop := filterBackRow.holds Try.pinned (OpenSpec.ofChange filterBackSpec)

/-- ITS FALSE NEIGHBOUR: 'it returns false'. Refute it at one input. -/
def filterBackWrong : ChangeSpec := { name := "filterBack", fn := fun _ => fun
  | [d1, d2, d3] => { results := [.lit (.bool false)], args := [d1, d2, d3] }
  | _ => none }
def FilterBackWrongFalsely : Prop := filterBackRow.holds Try.pinned (OpenSpec.ofChange filterBackWrong)

/-- 'engraverlaw12.FilterPaeth': WHATEVER THE INPUT: true; the input reads as it did. -/
def filterPaethSpec : ChangeSpec := { name := "filterPaeth", fn := fun _ => fun
  | [d1, d2, d3] => { results := [.lit (.bool true)], args := [d1, d2, d3] }
  | _ => none }
def filterPaethRow : OpenClaim := { program := "ytfkhdakeojhpaaa", sum := "8cb6badf47e584a11b790b209df8296b93e350e238c5370d0eb6ad467ecdb9fc", func := "engraver/engraverlaw12.FilterPaeth", spec := "filterPaeth", unfollowed := true, recurses := true, apart := false }
def FilterPaethSaid : Prop := filterPaethRow.holds Try.pinned (OpenSpec.ofChange filterPaethSpec)

/-- ITS FALSE NEIGHBOUR: 'it returns false'. Refute it at one input. -/
def filterPaethWrong : ChangeSpec := { name := "filterPaeth", fn := fun _ => fun
  | [d1, d2, d3] => { results := [.lit (.bool false)], args := [d1, d2, d3] }
  | _ => none }
def FilterPaethWrongFalsely : Prop := filterPaethRow.holds Try.pinned (OpenSpec.ofChange filterPaethWrong)

/-- 'engraverlaw12.FilterDoes': WHATEVER THE INPUT: true; the input reads as it did. -/
def filterDoesSpec : ChangeSpec := { name := "filterDoes", fn := fun _ => fun
  | [d1, d2, d3] => { results := [.lit (.bool true)], args := [d1, d2, d3] }
  | _ => none }
def filterDoesRow : OpenClaim := { program := "ytfkhdakeojhpaaa", sum := "8cb6badf47e584a11b790b209df8296b93e350e238c5370d0eb6ad467ecdb9fc", func := "engraver/engraverlaw12.FilterDoes", spec := "filterDoes", apart := false }
def FilterDoesSaid : Prop := filterDoesRow.holds Try.pinned (OpenSpec.ofChange filterDoesSpec)

/-- ITS FALSE NEIGHBOUR: 'it returns false'. Refute it at one input. -/
def filterDoesWrong : ChangeSpec := { name := "filterDoes", fn := fun _ => fun
  | [d1, d2, d3] => { results := [.lit (.bool false)], args := [d1, d2, d3] }
  | _ => none }
def FilterDoesWrongFalsely : Prop := filterDoesRow.holds Try.pinned (OpenSpec.ofChange filterDoesWrong)

/-- 'engraverlaw12.FilterNone': WHATEVER THE INPUT: true; the input reads as it did. -/
def filterNoneSpec : ChangeSpec := { name := "filterNone", fn := fun _ => fun
  | [d1, d2, d3] => { results := [.lit (.bool true)], args := [d1, d2, d3] }
  | _ => none }
def filterNoneRow : OpenClaim := { program := "ytfkhdakeojhpaaa", sum := "8cb6badf47e584a11b790b209df8296b93e350e238c5370d0eb6ad467ecdb9fc", func := "engraver/engraverlaw12.FilterNone", spec := "filterNone", apart := false }
def FilterNoneSaid : Prop := filterNoneRow.holds Try.pinned (OpenSpec.ofChange filterNoneSpec)

/-- ITS FALSE NEIGHBOUR: 'it returns false'. Refute it at one input. -/
def filterNoneWrong : ChangeSpec := { name := "filterNone", fn := fun _ => fun
  | [d1, d2, d3] => { results := [.lit (.bool false)], args := [d1, d2, d3] }
  | _ => none }
def FilterNoneWrongFalsely : Prop := filterNoneRow.holds Try.pinned (OpenSpec.ofChange filterNoneWrong)

/- THE SECOND FORM. 'bulk': how many values and letters a reading holds, each counted each time it is reached (what is shared counts as often as it is met; a slice's spare places count too). A statement '..UptoSaid' is the law's where the arguments, and the package variables that the reading takes, are together of bulk at most 1048576: NARROWER than '..Said'. Prove '..Said' where nothing that the law and all that it calls make is longer than what came in: it says more and counts as full. Else prove '..UptoSaid'. A law counts once. -/
mutual
def uptoBulk {H : Type} : DataW H → Nat
  | .lit (.string bytes) => bytes.length + 1
  | .lit _ => 1
  | .nil => 1
  | .ptr d => uptoBulk d + 1
  | .slice elems spare => uptoBulkAll elems + uptoBulkAll spare + 1
  | .agg parts => uptoBulkAll parts + 1
  | .iface _ d => uptoBulk d + 1
  | .map entries => uptoBulkEntries entries + 1
  | .held _ => 1
def uptoBulkAll {H : Type} : List (DataW H) → Nat
  | [] => 0
  | d :: r => uptoBulk d + uptoBulkAll r
def uptoBulkEntries {H : Type} : List (Lit × DataW H) → Nat
  | [] => 0
  | x :: r => uptoBulkEntry x + uptoBulkEntries r
def uptoBulkEntry {H : Type} : Lit × DataW H → Nat
  | (.string bytes, d) => bytes.length + uptoBulk d + 1
  | (_, d) => uptoBulk d + 1
 end
def uptoSmall : (H : Type) → List (DataW H) → Bool := fun _ ds => decide (uptoBulkAll ds ≤ 1048576)
def OpenSpec.upto (s : _root_.Go.ChangeSpec) : _root_.Go.OpenSpec := { _root_.Go.OpenSpec.ofChange s with cond := some uptoSmall }

/-- 'engraverlaw12.FilterBack', WHERE WHAT IT READS IS OF BULK AT MOST 1048576: true; the input reads as it did. -/
def filterBackUptoRow : OpenClaim := { program := "ytfkhdakeojhpaaa", sum := "8cb6badf47e584a11b790b209df8296b93e350e238c5370d0eb6ad467ecdb9fc", func := "engraver/engraverlaw12.FilterBack", spec := "filterBack", apart := false, narrowed := true }
def FilterBackUptoSaid : Prop := filterBackUptoRow.holds Try.pinned (OpenSpec.upto filterBackSpec)

/-- 'engraverlaw12.FilterPaeth', WHERE WHAT IT READS IS OF BULK AT MOST 1048576: true; the input reads as it did. -/
def filterPaethUptoRow : OpenClaim := { program := "ytfkhdakeojhpaaa", sum := "8cb6badf47e584a11b790b209df8296b93e350e238c5370d0eb6ad467ecdb9fc", func := "engraver/engraverlaw12.FilterPaeth", spec := "filterPaeth", unfollowed := true, recurses := true, apart := false, narrowed := true }
def FilterPaethUptoSaid : Prop := filterPaethUptoRow.holds Try.pinned (OpenSpec.upto filterPaethSpec)

/-- 'engraverlaw12.FilterDoes', WHERE WHAT IT READS IS OF BULK AT MOST 1048576: true; the input reads as it did. -/
def filterDoesUptoRow : OpenClaim := { program := "ytfkhdakeojhpaaa", sum := "8cb6badf47e584a11b790b209df8296b93e350e238c5370d0eb6ad467ecdb9fc", func := "engraver/engraverlaw12.FilterDoes", spec := "filterDoes", apart := false, narrowed := true }
def FilterDoesUptoSaid : Prop := filterDoesUptoRow.holds Try.pinned (OpenSpec.upto filterDoesSpec)

/-- 'engraverlaw12.FilterNone', WHERE WHAT IT READS IS OF BULK AT MOST 1048576: true; the input reads as it did. -/
def filterNoneUptoRow : OpenClaim := { program := "ytfkhdakeojhpaaa", sum := "8cb6badf47e584a11b790b209df8296b93e350e238c5370d0eb6ad467ecdb9fc", func := "engraver/engraverlaw12.FilterNone", spec := "filterNone", apart := false, narrowed := true }
def FilterNoneUptoSaid : Prop := filterNoneUptoRow.holds Try.pinned (OpenSpec.upto filterNoneSpec)

end Rows
end Go.Proofs.Ytfkhdakeojhpaaa
