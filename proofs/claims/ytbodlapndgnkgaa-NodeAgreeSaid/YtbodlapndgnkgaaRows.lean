/-
  No cell of these rows narrows 'for every input' (looked for: loops, veiled, ifaces, maps, wideKeys, modest, calm, conditions, laid).
  DERIVED. THE GIVEN ROWS OF THIS SEAT. 6 by the template 'for every input the law returns true; each argument reads behind the call as it read before'; 0 by the template 'total and deterministic' (their statements: YtbodlapndgnkgaaTotals.lean).
  GIVEN WITH THE SEED: the statements are not yours to turn. If you find one false, say at which input.
  Laid BY PROGRAM, IN A SANDBOX (cutbox-rows.mjs): the forced cells as the released guide's own fill.sh prints them over the translation 596b7ebb74a60da3… (all of the seat's roots in one cut). By AI agents, Wed Nov 11 2026. No macro, syntax, notation, axiom, sorry.
-/
import Derived.Test.YtbodlapndgnkgaaChecked
import GoSem.Claim
import GoSem.ClaimJoined
import GoSem.ClaimMapViews
import Derived.JoinedTies
import Derived.KernelRfl
namespace Go.Proofs.Ytbodlapndgnkgaa
/- THE CELL 'sum', in the pinned program and in every row, IS THE sha256 OF THE DUMP (.gsa) THAT YtbodlapndgnkgaaProg.lean LOADS. Nothing in Lean hashes anything: it is a label: what it is worth is what the hold of that sum in a sandbox is worth. -/
noncomputable def Try.pinned : Pinned := { name := "ytbodlapndgnkgaa", sum := "596b7ebb74a60da3784a3e74a45dd329bec60a1a8610125f1322335df84c2f9e", checked := Try.checked }
namespace Rows
def none {H : Type} : Left H := { results := [], args := [] }

/-- 'tephralaw14.NodeElects': WHATEVER THE INPUT: true; the input reads as it did. -/
def nodeElectsSpec : ChangeSpec := { name := "nodeElects", fn := fun _ => fun
  | [d] => { results := [.lit (.bool true)], args := [d] }
  | _ => none }
def nodeElectsRow : OpenClaim := { program := "ytbodlapndgnkgaa", sum := "596b7ebb74a60da3784a3e74a45dd329bec60a1a8610125f1322335df84c2f9e", func := "tephra/tephralaw14.NodeElects", spec := "nodeElects", recurses := true, apart := false }
def NodeElectsSaid : Prop := nodeElectsRow.holds Try.pinned (OpenSpec.ofChange nodeElectsSpec)

/-- ITS FALSE NEIGHBOUR: 'it returns false'. Refute it at one input. -/
def nodeElectsWrong : ChangeSpec := { name := "nodeElects", fn := fun _ => fun
  | [d] => { results := [.lit (.bool false)], args := [d] }
  | _ => none }
def NodeElectsWrongFalsely : Prop := nodeElectsRow.holds Try.pinned (OpenSpec.ofChange nodeElectsWrong)

/-- 'tephralaw14.NodeVotes': WHATEVER THE INPUT: true; the input reads as it did. -/
def nodeVotesSpec : ChangeSpec := { name := "nodeVotes", fn := fun _ => fun
  | [d1, d2] => { results := [.lit (.bool true)], args := [d1, d2] }
  | _ => none }
def nodeVotesRow : OpenClaim := { program := "ytbodlapndgnkgaa", sum := "596b7ebb74a60da3784a3e74a45dd329bec60a1a8610125f1322335df84c2f9e", func := "tephra/tephralaw14.NodeVotes", spec := "nodeVotes", recurses := true, apart := false }
def NodeVotesSaid : Prop := nodeVotesRow.holds Try.pinned (OpenSpec.ofChange nodeVotesSpec)

/-- ITS FALSE NEIGHBOUR: 'it returns false'. Refute it at one input. -/
def nodeVotesWrong : ChangeSpec := { name := "nodeVotes", fn := fun _ => fun
  | [d1, d2] => { results := [.lit (.bool false)], args := [d1, d2] }
  | _ => none }
def NodeVotesWrongFalsely : Prop := nodeVotesRow.holds Try.pinned (OpenSpec.ofChange nodeVotesWrong)

/-- 'tephralaw14.NodeAgree': WHATEVER THE INPUT: true; the input reads as it did. -/
def nodeAgreeSpec : ChangeSpec := { name := "nodeAgree", fn := fun _ => fun
  | [d] => { results := [.lit (.bool true)], args := [d] }
  | _ => none }
def nodeAgreeRow : OpenClaim := { program := "ytbodlapndgnkgaa", sum := "596b7ebb74a60da3784a3e74a45dd329bec60a1a8610125f1322335df84c2f9e", func := "tephra/tephralaw14.NodeAgree", spec := "nodeAgree", recurses := true, apart := false }
def NodeAgreeSaid : Prop := nodeAgreeRow.holds Try.pinned (OpenSpec.ofChange nodeAgreeSpec)

/-- ITS FALSE NEIGHBOUR: 'it returns false'. Refute it at one input. -/
def nodeAgreeWrong : ChangeSpec := { name := "nodeAgree", fn := fun _ => fun
  | [d] => { results := [.lit (.bool false)], args := [d] }
  | _ => none }
def NodeAgreeWrongFalsely : Prop := nodeAgreeRow.holds Try.pinned (OpenSpec.ofChange nodeAgreeWrong)

/-- 'tephralaw14.NodeSteps': WHATEVER THE INPUT: true; the input reads as it did. -/
def nodeStepsSpec : ChangeSpec := { name := "nodeSteps", fn := fun _ => fun
  | [d1, d2, d3] => { results := [.lit (.bool true)], args := [d1, d2, d3] }
  | _ => none }
def nodeStepsRow : OpenClaim := { program := "ytbodlapndgnkgaa", sum := "596b7ebb74a60da3784a3e74a45dd329bec60a1a8610125f1322335df84c2f9e", func := "tephra/tephralaw14.NodeSteps", spec := "nodeSteps", recurses := true, apart := false }
def NodeStepsSaid : Prop := nodeStepsRow.holds Try.pinned (OpenSpec.ofChange nodeStepsSpec)

/-- ITS FALSE NEIGHBOUR: 'it returns false'. Refute it at one input. -/
def nodeStepsWrong : ChangeSpec := { name := "nodeSteps", fn := fun _ => fun
  | [d1, d2, d3] => { results := [.lit (.bool false)], args := [d1, d2, d3] }
  | _ => none }
def NodeStepsWrongFalsely : Prop := nodeStepsRow.holds Try.pinned (OpenSpec.ofChange nodeStepsWrong)

/-- 'tephralaw14.NodeRestart': WHATEVER THE INPUT: true; the input reads as it did. -/
def nodeRestartSpec : ChangeSpec := { name := "nodeRestart", fn := fun _ => fun
  | [d1, d2] => { results := [.lit (.bool true)], args := [d1, d2] }
  | _ => none }
def nodeRestartRow : OpenClaim := { program := "ytbodlapndgnkgaa", sum := "596b7ebb74a60da3784a3e74a45dd329bec60a1a8610125f1322335df84c2f9e", func := "tephra/tephralaw14.NodeRestart", spec := "nodeRestart", recurses := true, apart := false }
def NodeRestartSaid : Prop := nodeRestartRow.holds Try.pinned (OpenSpec.ofChange nodeRestartSpec)

/-- ITS FALSE NEIGHBOUR: 'it returns false'. Refute it at one input. -/
def nodeRestartWrong : ChangeSpec := { name := "nodeRestart", fn := fun _ => fun
  | [d1, d2] => { results := [.lit (.bool false)], args := [d1, d2] }
  | _ => none }
def NodeRestartWrongFalsely : Prop := nodeRestartRow.holds Try.pinned (OpenSpec.ofChange nodeRestartWrong)

/-- 'tephralaw14.NodeQuiet': WHATEVER THE INPUT: true; the input reads as it did. -/
def nodeQuietSpec : ChangeSpec := { name := "nodeQuiet", fn := fun _ => fun
  | [d1, d2, d3] => { results := [.lit (.bool true)], args := [d1, d2, d3] }
  | _ => none }
def nodeQuietRow : OpenClaim := { program := "ytbodlapndgnkgaa", sum := "596b7ebb74a60da3784a3e74a45dd329bec60a1a8610125f1322335df84c2f9e", func := "tephra/tephralaw14.NodeQuiet", spec := "nodeQuiet", recurses := true, apart := false }
def NodeQuietSaid : Prop := nodeQuietRow.holds Try.pinned (OpenSpec.ofChange nodeQuietSpec)

/-- ITS FALSE NEIGHBOUR: 'it returns false'. Refute it at one input. -/
def nodeQuietWrong : ChangeSpec := { name := "nodeQuiet", fn := fun _ => fun
  | [d1, d2, d3] => { results := [.lit (.bool false)], args := [d1, d2, d3] }
  | _ => none }
def NodeQuietWrongFalsely : Prop := nodeQuietRow.holds Try.pinned (OpenSpec.ofChange nodeQuietWrong)

/- THE SECOND FORM. 'bulk': how many values and letters a reading holds, each counted each time it is reached (what is shared counts as often as it is met; a slice's spare places count too). A statement '..UptoSaid' is the law's where the arguments, and the package variables that the reading takes, are together of bulk at most 1048576: NARROWER than '..Said'. Prove '..Said' where nothing that the law and all that it calls make is longer than what came in: it says more and counts as full. Else prove '..UptoSaid'. A law counts once. -/
mutual
def uptoBulk {H : Type} : DataW H → Nat
  | .lit (.string bytes) => bytes.length + 1
  | .lit _ => 1
  | .nil => 1
  | .ptr d => uptoBulk d + 1
  | .slice elems spare => uptoBulkAll elems + uptoBulkAll spare + 1
  | .agg parts => uptoBulkAll parts + 1
  | .iface _ d => uptoBulk d + 1
  | .map entries => uptoBulkEntries entries + 1
  | .held _ => 1
def uptoBulkAll {H : Type} : List (DataW H) → Nat
  | [] => 0
  | d :: r => uptoBulk d + uptoBulkAll r
def uptoBulkEntries {H : Type} : List (Lit × DataW H) → Nat
  | [] => 0
  | x :: r => uptoBulkEntry x + uptoBulkEntries r
def uptoBulkEntry {H : Type} : Lit × DataW H → Nat
  | (.string bytes, d) => bytes.length + uptoBulk d + 1
  | (_, d) => uptoBulk d + 1
 end
def uptoSmall : (H : Type) → List (DataW H) → Bool := fun _ ds => decide (uptoBulkAll ds ≤ 1048576)
def OpenSpec.upto (s : _root_.Go.ChangeSpec) : _root_.Go.OpenSpec := { _root_.Go.OpenSpec.ofChange s with cond := some uptoSmall }

/-- 'tephralaw14.NodeElects', WHERE WHAT IT READS IS OF BULK AT MOST 1048576: true; the input reads as it did. -/
def nodeElectsUptoRow : OpenClaim := { program := "ytbodlapndgnkgaa", sum := "596b7ebb74a60da3784a3e74a45dd329bec60a1a8610125f1322335df84c2f9e", func := "tephra/tephralaw14.NodeElects", spec := "nodeElects", recurses := true, apart := false, narrowed := true }
def NodeElectsUptoSaid : Prop := nodeElectsUptoRow.holds Try.pinned (OpenSpec.upto nodeElectsSpec)

/-- 'tephralaw14.NodeVotes', WHERE WHAT IT READS IS OF BULK AT MOST 1048576: true; the input reads as it did. -/
def nodeVotesUptoRow : OpenClaim := { program := "ytbodlapndgnkgaa", sum := "596b7ebb74a60da3784a3e74a45dd329bec60a1a8610125f1322335df84c2f9e", func := "tephra/tephralaw14.NodeVotes", spec := "nodeVotes", recurses := true, apart := false, narrowed := true }
def NodeVotesUptoSaid : Prop := nodeVotesUptoRow.holds Try.pinned (OpenSpec.upto nodeVotesSpec)

/-- 'tephralaw14.NodeAgree', WHERE WHAT IT READS IS OF BULK AT MOST 1048576: true; the input reads as it did. -/
def nodeAgreeUptoRow : OpenClaim := { program := "ytbodlapndgnkgaa", sum := "596b7ebb74a60da3784a3e74a45dd329bec60a1a8610125f1322335df84c2f9e", func := "tephra/tephralaw14.NodeAgree", spec := "nodeAgree", recurses := true, apart := false, narrowed := true }
def NodeAgreeUptoSaid : Prop := nodeAgreeUptoRow.holds Try.pinned (OpenSpec.upto nodeAgreeSpec)

/-- 'tephralaw14.NodeSteps', WHERE WHAT IT READS IS OF BULK AT MOST 1048576: true; the input reads as it did. -/
def nodeStepsUptoRow : OpenClaim := { program := "ytbodlapndgnkgaa", sum := "596b7ebb74a60da3784a3e74a45dd329bec60a1a8610125f1322335df84c2f9e", func := "tephra/tephralaw14.NodeSteps", spec := "nodeSteps", recurses := true, apart := false, narrowed := true }
def NodeStepsUptoSaid : Prop := nodeStepsUptoRow.holds Try.pinned (OpenSpec.upto nodeStepsSpec)

/-- 'tephralaw14.NodeRestart', WHERE WHAT IT READS IS OF BULK AT MOST 1048576: true; the input reads as it did. -/
def nodeRestartUptoRow : OpenClaim := { program := "ytbodlapndgnkgaa", sum := "596b7ebb74a60da3784a3e74a45dd329bec60a1a8610125f1322335df84c2f9e", func := "tephra/tephralaw14.NodeRestart", spec := "nodeRestart", recurses := true, apart := false, narrowed := true }
def NodeRestartUptoSaid : Prop := nodeRestartUptoRow.holds Try.pinned (OpenSpec.upto nodeRestartSpec)

/-- 'tephralaw14.NodeQuiet', WHERE WHAT IT READS IS OF BULK AT MOST 1048576: true; the input reads as it did. -/
def nodeQuietUptoRow : OpenClaim := { program := "ytbodlapndgnkgaa", sum := "596b7ebb74a60da3784a3e74a45dd329bec60a1a8610125f1322335df84c2f9e", func := "tephra/tephralaw14.NodeQuiet", spec := "nodeQuiet", recurses := true, apart := false, narrowed := true }
def NodeQuietUptoSaid : Prop := nodeQuietUptoRow.holds Try.pinned (OpenSpec.upto nodeQuietSpec)

end Rows
end Go.Proofs.Ytbodlapndgnkgaa
