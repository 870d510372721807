/-
  No cell of these rows narrows 'for every input' (looked for: loops, veiled, ifaces, maps, wideKeys, modest, calm, conditions, laid).
  DERIVED. THE GIVEN ROWS OF THIS SEAT. 6 by the template 'for every input the law returns true; each argument reads behind the call as it read before'; 0 by the template 'total and deterministic' (their statements: YtmmppgkhlelbmaaTotals.lean).
  GIVEN WITH THE SEED: the statements are not yours to turn. If you find one false, say at which input.
  Laid BY PROGRAM, IN A SANDBOX (cutbox-rows.mjs): the forced cells as the released guide's own fill.sh prints them over the translation 072d7b057b1b1387… (all of the seat's roots in one cut). By AI agents, Wed Nov 11 2026. No macro, syntax, notation, axiom, sorry.
-/
import Derived.Test.YtmmppgkhlelbmaaChecked
import GoSem.Claim
import GoSem.ClaimJoined
import GoSem.ClaimMapViews
import Derived.JoinedTies
import Derived.KernelRfl
namespace Go.Proofs.Ytmmppgkhlelbmaa
/- THE CELL 'sum', in the pinned program and in every row, IS THE sha256 OF THE DUMP (.gsa) THAT YtmmppgkhlelbmaaProg.lean LOADS. Nothing in Lean hashes anything: it is a label: what it is worth is what the hold of that sum in a sandbox is worth. -/
noncomputable def Try.pinned : Pinned := { name := "ytmmppgkhlelbmaa", sum := "072d7b057b1b13874196ee5ef0a969b2fff100ea4273e3dbabfc228be895d86d", checked := Try.checked }
namespace Rows
def none {H : Type} : Left H := { results := [], args := [] }

/-- 'engraverlaw25.FrameStreams': WHATEVER THE INPUT: true; the input reads as it did. -/
def frameStreamsSpec : ChangeSpec := { name := "frameStreams", fn := fun _ => fun
  | [d1, d2] => { results := [.lit (.bool true)], args := [d1, d2] }
  | _ => none }
def frameStreamsRow : OpenClaim := { program := "ytmmppgkhlelbmaa", sum := "072d7b057b1b13874196ee5ef0a969b2fff100ea4273e3dbabfc228be895d86d", func := "engraver/engraverlaw25.FrameStreams", spec := "frameStreams", apart := false }
def FrameStreamsSaid : Prop := frameStreamsRow.holds Try.pinned (OpenSpec.ofChange frameStreamsSpec)

/-- ITS FALSE NEIGHBOUR: 'it returns false'. Refute it at one input. -/
def frameStreamsWrong : ChangeSpec := { name := "frameStreams", fn := fun _ => fun
  | [d1, d2] => { results := [.lit (.bool false)], args := [d1, d2] }
  | _ => none }
def FrameStreamsWrongFalsely : Prop := frameStreamsRow.holds Try.pinned (OpenSpec.ofChange frameStreamsWrong)

/-- 'engraverlaw25.FrameParses': WHATEVER THE INPUT: true; the input reads as it did. -/
def frameParsesSpec : ChangeSpec := { name := "frameParses", fn := fun _ => fun
  | [d] => { results := [.lit (.bool true)], args := [d] }
  | _ => none }
def frameParsesRow : OpenClaim := { program := "ytmmppgkhlelbmaa", sum := "072d7b057b1b13874196ee5ef0a969b2fff100ea4273e3dbabfc228be895d86d", func := "engraver/engraverlaw25.FrameParses", spec := "frameParses", apart := false }
def FrameParsesSaid : Prop := frameParsesRow.holds Try.pinned (OpenSpec.ofChange frameParsesSpec)

/-- ITS FALSE NEIGHBOUR: 'it returns false'. Refute it at one input. -/
def frameParsesWrong : ChangeSpec := { name := "frameParses", fn := fun _ => fun
  | [d] => { results := [.lit (.bool false)], args := [d] }
  | _ => none }
def FrameParsesWrongFalsely : Prop := frameParsesRow.holds Try.pinned (OpenSpec.ofChange frameParsesWrong)

/-- 'engraverlaw25.FrameEncodes': WHATEVER THE INPUT: true; the input reads as it did. -/
def frameEncodesSpec : ChangeSpec := { name := "frameEncodes", fn := fun _ => fun
  | [d] => { results := [.lit (.bool true)], args := [d] }
  | _ => none }
def frameEncodesRow : OpenClaim := { program := "ytmmppgkhlelbmaa", sum := "072d7b057b1b13874196ee5ef0a969b2fff100ea4273e3dbabfc228be895d86d", func := "engraver/engraverlaw25.FrameEncodes", spec := "frameEncodes", apart := false }
def FrameEncodesSaid : Prop := frameEncodesRow.holds Try.pinned (OpenSpec.ofChange frameEncodesSpec)

/-- ITS FALSE NEIGHBOUR: 'it returns false'. Refute it at one input. -/
def frameEncodesWrong : ChangeSpec := { name := "frameEncodes", fn := fun _ => fun
  | [d] => { results := [.lit (.bool false)], args := [d] }
  | _ => none }
def FrameEncodesWrongFalsely : Prop := frameEncodesRow.holds Try.pinned (OpenSpec.ofChange frameEncodesWrong)

/-- 'engraverlaw25.FrameLong': WHATEVER THE INPUT: true; the input reads as it did. -/
def frameLongSpec : ChangeSpec := { name := "frameLong", fn := fun _ => fun
  | [] => { results := [.lit (.bool true)], args := [] }
  | _ => none }
def frameLongRow : OpenClaim := { program := "ytmmppgkhlelbmaa", sum := "072d7b057b1b13874196ee5ef0a969b2fff100ea4273e3dbabfc228be895d86d", func := "engraver/engraverlaw25.FrameLong", spec := "frameLong", apart := false }
def FrameLongSaid : Prop := frameLongRow.holds Try.pinned (OpenSpec.ofChange frameLongSpec)

/-- ITS FALSE NEIGHBOUR: 'it returns false'. Refute it at one input. -/
def frameLongWrong : ChangeSpec := { name := "frameLong", fn := fun _ => fun
  | [] => { results := [.lit (.bool false)], args := [] }
  | _ => none }
def FrameLongWrongFalsely : Prop := frameLongRow.holds Try.pinned (OpenSpec.ofChange frameLongWrong)

/-- 'engraverlaw25.FrameWhole': WHATEVER THE INPUT: true; the input reads as it did. -/
def frameWholeSpec : ChangeSpec := { name := "frameWhole", fn := fun _ => fun
  | [d1, d2] => { results := [.lit (.bool true)], args := [d1, d2] }
  | _ => none }
def frameWholeRow : OpenClaim := { program := "ytmmppgkhlelbmaa", sum := "072d7b057b1b13874196ee5ef0a969b2fff100ea4273e3dbabfc228be895d86d", func := "engraver/engraverlaw25.FrameWhole", spec := "frameWhole", apart := false }
def FrameWholeSaid : Prop := frameWholeRow.holds Try.pinned (OpenSpec.ofChange frameWholeSpec)

/-- ITS FALSE NEIGHBOUR: 'it returns false'. Refute it at one input. -/
def frameWholeWrong : ChangeSpec := { name := "frameWhole", fn := fun _ => fun
  | [d1, d2] => { results := [.lit (.bool false)], args := [d1, d2] }
  | _ => none }
def FrameWholeWrongFalsely : Prop := frameWholeRow.holds Try.pinned (OpenSpec.ofChange frameWholeWrong)

/-- 'engraverlaw25.FrameFields': WHATEVER THE INPUT: true; the input reads as it did. -/
def frameFieldsSpec : ChangeSpec := { name := "frameFields", fn := fun _ => fun
  | [d1, d2] => { results := [.lit (.bool true)], args := [d1, d2] }
  | _ => none }
def frameFieldsRow : OpenClaim := { program := "ytmmppgkhlelbmaa", sum := "072d7b057b1b13874196ee5ef0a969b2fff100ea4273e3dbabfc228be895d86d", func := "engraver/engraverlaw25.FrameFields", spec := "frameFields", apart := false }
def FrameFieldsSaid : Prop := frameFieldsRow.holds Try.pinned (OpenSpec.ofChange frameFieldsSpec)

/-- ITS FALSE NEIGHBOUR: 'it returns false'. Refute it at one input. -/
def frameFieldsWrong : ChangeSpec := { name := "frameFields", fn := fun _ => fun
  | [d1, d2] => { results := [.lit (.bool false)], args := [d1, d2] }
  | _ => none }
def FrameFieldsWrongFalsely : Prop := frameFieldsRow.holds Try.pinned (OpenSpec.ofChange frameFieldsWrong)

/- THE SECOND FORM. 'bulk': how many values and letters a reading holds, each counted each time it is reached (what is shared counts as often as it is met; a slice's spare places count too). A statement '..UptoSaid' is the law's where the arguments, and the package variables that the reading takes, are together of bulk at most 1048576: NARROWER than '..Said'. Prove '..Said' where nothing that the law and all that it calls make is longer than what came in: it says more and counts as full. Else prove '..UptoSaid'. A law counts once. -/
mutual
def uptoBulk {H : Type} : DataW H → Nat
  | .lit (.string bytes) => bytes.length + 1
  | .lit _ => 1
  | .nil => 1
  | .ptr d => uptoBulk d + 1
  | .slice elems spare => uptoBulkAll elems + uptoBulkAll spare + 1
  | .agg parts => uptoBulkAll parts + 1
  | .iface _ d => uptoBulk d + 1
  | .map entries => uptoBulkEntries entries + 1
  | .held _ => 1
def uptoBulkAll {H : Type} : List (DataW H) → Nat
  | [] => 0
  | d :: r => uptoBulk d + uptoBulkAll r
def uptoBulkEntries {H : Type} : List (Lit × DataW H) → Nat
  | [] => 0
  | x :: r => uptoBulkEntry x + uptoBulkEntries r
def uptoBulkEntry {H : Type} : Lit × DataW H → Nat
  | (.string bytes, d) => bytes.length + uptoBulk d + 1
  | (_, d) => uptoBulk d + 1
 end
def uptoSmall : (H : Type) → List (DataW H) → Bool := fun _ ds => decide (uptoBulkAll ds ≤ 1048576)
def OpenSpec.upto (s : _root_.Go.ChangeSpec) : _root_.Go.OpenSpec := { _root_.Go.OpenSpec.ofChange s with cond := some uptoSmall }

/-- 'engraverlaw25.FrameStreams', WHERE WHAT IT READS IS OF BULK AT MOST 1048576: true; the input reads as it did. -/
def frameStreamsUptoRow : OpenClaim := { program := "ytmmppgkhlelbmaa", sum := "072d7b057b1b13874196ee5ef0a969b2fff100ea4273e3dbabfc228be895d86d", func := "engraver/engraverlaw25.FrameStreams", spec := "frameStreams", apart := false, narrowed := true }
def FrameStreamsUptoSaid : Prop := frameStreamsUptoRow.holds Try.pinned (OpenSpec.upto frameStreamsSpec)

/-- 'engraverlaw25.FrameParses', WHERE WHAT IT READS IS OF BULK AT MOST 1048576: true; the input reads as it did. -/
def frameParsesUptoRow : OpenClaim := { program := "ytmmppgkhlelbmaa", sum := "072d7b057b1b13874196ee5ef0a969b2fff100ea4273e3dbabfc228be895d86d", func := "engraver/engraverlaw25.FrameParses", spec := "frameParses", apart := false, narrowed := true }
def FrameParsesUptoSaid : Prop := frameParsesUptoRow.holds Try.pinned (OpenSpec.upto frameParsesSpec)

/-- 'engraverlaw25.FrameEncodes', WHERE WHAT IT READS IS OF BULK AT MOST 1048576: true; the input reads as it did. -/
def frameEncodesUptoRow : OpenClaim := { program := "ytmmppgkhlelbmaa", sum := "072d7b057b1b13874196ee5ef0a969b2fff100ea4273e3dbabfc228be895d86d", func := "engraver/engraverlaw25.FrameEncodes", spec := "frameEncodes", apart := false, narrowed := true }
def FrameEncodesUptoSaid : Prop := frameEncodesUptoRow.holds Try.pinned (OpenSpec.upto frameEncodesSpec)

/-- 'engraverlaw25.FrameLong', WHERE WHAT IT READS IS OF BULK AT MOST 1048576: true; the input reads as it did. -/
def frameLongUptoRow : OpenClaim := { program := "ytmmppgkhlelbmaa", sum := "072d7b057b1b13874196ee5ef0a969b2fff100ea4273e3dbabfc228be895d86d", func := "engraver/engraverlaw25.FrameLong", spec := "frameLong", apart := false, narrowed := true }
def FrameLongUptoSaid : Prop := frameLongUptoRow.holds Try.pinned (OpenSpec.upto frameLongSpec)

/-- 'engraverlaw25.FrameWhole', WHERE WHAT IT READS IS OF BULK AT MOST 1048576: true; the input reads as it did. -/
def frameWholeUptoRow : OpenClaim := { program := "ytmmppgkhlelbmaa", sum := "072d7b057b1b13874196ee5ef0a969b2fff100ea4273e3dbabfc228be895d86d", func := "engraver/engraverlaw25.FrameWhole", spec := "frameWhole", apart := false, narrowed := true }
def FrameWholeUptoSaid : Prop := frameWholeUptoRow.holds Try.pinned (OpenSpec.upto frameWholeSpec)

/-- 'engraverlaw25.FrameFields', WHERE WHAT IT READS IS OF BULK AT MOST 1048576: true; the input reads as it did. -/
def frameFieldsUptoRow : OpenClaim := { program := "ytmmppgkhlelbmaa", sum := "072d7b057b1b13874196ee5ef0a969b2fff100ea4273e3dbabfc228be895d86d", func := "engraver/engraverlaw25.FrameFields", spec := "frameFields", apart := false, narrowed := true }
def FrameFieldsUptoSaid : Prop := frameFieldsUptoRow.holds Try.pinned (OpenSpec.upto frameFieldsSpec)

end Rows
end Go.Proofs.Ytmmppgkhlelbmaa
