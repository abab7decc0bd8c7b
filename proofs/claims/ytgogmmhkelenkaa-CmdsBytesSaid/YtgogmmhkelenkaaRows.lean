/-
  No cell of these rows narrows 'for every input' (looked for: loops, veiled, ifaces, maps, wideKeys, modest, calm, conditions, laid).
  DERIVED. THE GIVEN ROWS OF THIS SEAT. 7 by the template 'for every input the law returns true; each argument reads behind the call as it read before'; 0 by the template 'total and deterministic' (their statements: YtgogmmhkelenkaaTotals.lean).
  GIVEN WITH THE SEED: the statements are not yours to turn. If you find one false, say at which input.
  Laid BY PROGRAM, IN A SANDBOX (cutbox-rows.mjs): the forced cells as the released guide's own fill.sh prints them over the translation 37cd4f91e1ba7d35… (all of the seat's roots in one cut). By AI agents, Wed Nov 11 2026. No macro, syntax, notation, axiom, sorry.
-/
import Derived.Test.YtgogmmhkelenkaaChecked
import GoSem.Claim
import GoSem.ClaimJoined
import GoSem.ClaimMapViews
import Derived.JoinedTies
import Derived.KernelRfl
namespace Go.Proofs.Ytgogmmhkelenkaa
/- THE CELL 'sum', in the pinned program and in every row, IS THE sha256 OF THE DUMP (.gsa) THAT YtgogmmhkelenkaaProg.lean LOADS. Nothing in Lean hashes anything: it is a label: what it is worth is what the hold of that sum in a sandbox is worth. -/
noncomputable def Try.pinned : Pinned := { name := "ytgogmmhkelenkaa", sum := "37cd4f91e1ba7d35234310d7e0c26cc199cafe16b75de93f5f34824c2032aac0", checked := Try.checked }
namespace Rows
def none {H : Type} : Left H := { results := [], args := [] }

/-- 'tephralaw06.CmdsMay': WHATEVER THE INPUT: true; the input reads as it did. -/
def cmdsMaySpec : ChangeSpec := { name := "cmdsMay", fn := fun _ => fun
  | [d1, d2, d3, d4, d5] => { results := [.lit (.bool true)], args := [d1, d2, d3, d4, d5] }
  | _ => none }
def cmdsMayRow : OpenClaim := { program := "ytgogmmhkelenkaa", sum := "37cd4f91e1ba7d35234310d7e0c26cc199cafe16b75de93f5f34824c2032aac0", func := "tephra/tephralaw06.CmdsMay", spec := "cmdsMay", apart := false }
def CmdsMaySaid : Prop := cmdsMayRow.holds Try.pinned (OpenSpec.ofChange cmdsMaySpec)

/-- ITS FALSE NEIGHBOUR: 'it returns false'. Refute it at one input. -/
def cmdsMayWrong : ChangeSpec := { name := "cmdsMay", fn := fun _ => fun
  | [d1, d2, d3, d4, d5] => { results := [.lit (.bool false)], args := [d1, d2, d3, d4, d5] }
  | _ => none }
def CmdsMayWrongFalsely : Prop := cmdsMayRow.holds Try.pinned (OpenSpec.ofChange cmdsMayWrong)

/-- 'tephralaw06.CmdsRight': WHATEVER THE INPUT: true; the input reads as it did. -/
def cmdsRightSpec : ChangeSpec := { name := "cmdsRight", fn := fun _ => fun
  | [d1, d2, d3, d4] => { results := [.lit (.bool true)], args := [d1, d2, d3, d4] }
  | _ => none }
def cmdsRightRow : OpenClaim := { program := "ytgogmmhkelenkaa", sum := "37cd4f91e1ba7d35234310d7e0c26cc199cafe16b75de93f5f34824c2032aac0", func := "tephra/tephralaw06.CmdsRight", spec := "cmdsRight", apart := false }
def CmdsRightSaid : Prop := cmdsRightRow.holds Try.pinned (OpenSpec.ofChange cmdsRightSpec)

/-- ITS FALSE NEIGHBOUR: 'it returns false'. Refute it at one input. -/
def cmdsRightWrong : ChangeSpec := { name := "cmdsRight", fn := fun _ => fun
  | [d1, d2, d3, d4] => { results := [.lit (.bool false)], args := [d1, d2, d3, d4] }
  | _ => none }
def CmdsRightWrongFalsely : Prop := cmdsRightRow.holds Try.pinned (OpenSpec.ofChange cmdsRightWrong)

/-- 'tephralaw06.CmdsRow': WHATEVER THE INPUT: true; the input reads as it did. -/
def cmdsRowSpec : ChangeSpec := { name := "cmdsRow", fn := fun _ => fun
  | [d1, d2, d3, d4, d5] => { results := [.lit (.bool true)], args := [d1, d2, d3, d4, d5] }
  | _ => none }
def cmdsRowRow : OpenClaim := { program := "ytgogmmhkelenkaa", sum := "37cd4f91e1ba7d35234310d7e0c26cc199cafe16b75de93f5f34824c2032aac0", func := "tephra/tephralaw06.CmdsRow", spec := "cmdsRow", apart := false }
def CmdsRowSaid : Prop := cmdsRowRow.holds Try.pinned (OpenSpec.ofChange cmdsRowSpec)

/-- ITS FALSE NEIGHBOUR: 'it returns false'. Refute it at one input. -/
def cmdsRowWrong : ChangeSpec := { name := "cmdsRow", fn := fun _ => fun
  | [d1, d2, d3, d4, d5] => { results := [.lit (.bool false)], args := [d1, d2, d3, d4, d5] }
  | _ => none }
def CmdsRowWrongFalsely : Prop := cmdsRowRow.holds Try.pinned (OpenSpec.ofChange cmdsRowWrong)

/-- 'tephralaw06.CmdsBytes': WHATEVER THE INPUT: true; the input reads as it did. -/
def cmdsBytesSpec : ChangeSpec := { name := "cmdsBytes", fn := fun _ => fun
  | [d1, d2] => { results := [.lit (.bool true)], args := [d1, d2] }
  | _ => none }
def cmdsBytesRow : OpenClaim := { program := "ytgogmmhkelenkaa", sum := "37cd4f91e1ba7d35234310d7e0c26cc199cafe16b75de93f5f34824c2032aac0", func := "tephra/tephralaw06.CmdsBytes", spec := "cmdsBytes", apart := false }
def CmdsBytesSaid : Prop := cmdsBytesRow.holds Try.pinned (OpenSpec.ofChange cmdsBytesSpec)

/-- ITS FALSE NEIGHBOUR: 'it returns false'. Refute it at one input. -/
def cmdsBytesWrong : ChangeSpec := { name := "cmdsBytes", fn := fun _ => fun
  | [d1, d2] => { results := [.lit (.bool false)], args := [d1, d2] }
  | _ => none }
def CmdsBytesWrongFalsely : Prop := cmdsBytesRow.holds Try.pinned (OpenSpec.ofChange cmdsBytesWrong)

/-- 'tephralaw06.CmdsRead': WHATEVER THE INPUT: true; the input reads as it did. -/
def cmdsReadSpec : ChangeSpec := { name := "cmdsRead", fn := fun _ => fun
  | [d1, d2, d3, d4] => { results := [.lit (.bool true)], args := [d1, d2, d3, d4] }
  | _ => none }
def cmdsReadRow : OpenClaim := { program := "ytgogmmhkelenkaa", sum := "37cd4f91e1ba7d35234310d7e0c26cc199cafe16b75de93f5f34824c2032aac0", func := "tephra/tephralaw06.CmdsRead", spec := "cmdsRead", apart := false }
def CmdsReadSaid : Prop := cmdsReadRow.holds Try.pinned (OpenSpec.ofChange cmdsReadSpec)

/-- ITS FALSE NEIGHBOUR: 'it returns false'. Refute it at one input. -/
def cmdsReadWrong : ChangeSpec := { name := "cmdsRead", fn := fun _ => fun
  | [d1, d2, d3, d4] => { results := [.lit (.bool false)], args := [d1, d2, d3, d4] }
  | _ => none }
def CmdsReadWrongFalsely : Prop := cmdsReadRow.holds Try.pinned (OpenSpec.ofChange cmdsReadWrong)

/-- 'tephralaw06.CmdsApart': WHATEVER THE INPUT: true; the input reads as it did. -/
def cmdsApartSpec : ChangeSpec := { name := "cmdsApart", fn := fun _ => fun
  | [d1, d2, d3, d4] => { results := [.lit (.bool true)], args := [d1, d2, d3, d4] }
  | _ => none }
def cmdsApartRow : OpenClaim := { program := "ytgogmmhkelenkaa", sum := "37cd4f91e1ba7d35234310d7e0c26cc199cafe16b75de93f5f34824c2032aac0", func := "tephra/tephralaw06.CmdsApart", spec := "cmdsApart", apart := false }
def CmdsApartSaid : Prop := cmdsApartRow.holds Try.pinned (OpenSpec.ofChange cmdsApartSpec)

/-- ITS FALSE NEIGHBOUR: 'it returns false'. Refute it at one input. -/
def cmdsApartWrong : ChangeSpec := { name := "cmdsApart", fn := fun _ => fun
  | [d1, d2, d3, d4] => { results := [.lit (.bool false)], args := [d1, d2, d3, d4] }
  | _ => none }
def CmdsApartWrongFalsely : Prop := cmdsApartRow.holds Try.pinned (OpenSpec.ofChange cmdsApartWrong)

/-- 'tephralaw06.CmdsParts': WHATEVER THE INPUT: true; the input reads as it did. -/
def cmdsPartsSpec : ChangeSpec := { name := "cmdsParts", fn := fun _ => fun
  | [d1, d2, d3] => { results := [.lit (.bool true)], args := [d1, d2, d3] }
  | _ => none }
def cmdsPartsRow : OpenClaim := { program := "ytgogmmhkelenkaa", sum := "37cd4f91e1ba7d35234310d7e0c26cc199cafe16b75de93f5f34824c2032aac0", func := "tephra/tephralaw06.CmdsParts", spec := "cmdsParts", apart := false }
def CmdsPartsSaid : Prop := cmdsPartsRow.holds Try.pinned (OpenSpec.ofChange cmdsPartsSpec)

/-- ITS FALSE NEIGHBOUR: 'it returns false'. Refute it at one input. -/
def cmdsPartsWrong : ChangeSpec := { name := "cmdsParts", fn := fun _ => fun
  | [d1, d2, d3] => { results := [.lit (.bool false)], args := [d1, d2, d3] }
  | _ => none }
def CmdsPartsWrongFalsely : Prop := cmdsPartsRow.holds Try.pinned (OpenSpec.ofChange cmdsPartsWrong)

/- THE SECOND FORM. 'bulk': how many values and letters a reading holds, each counted each time it is reached (what is shared counts as often as it is met; a slice's spare places count too). A statement '..UptoSaid' is the law's where the arguments, and the package variables that the reading takes, are together of bulk at most 1048576: NARROWER than '..Said'. Prove '..Said' where nothing that the law and all that it calls make is longer than what came in: it says more and counts as full. Else prove '..UptoSaid'. A law counts once. -/
mutual
def uptoBulk {H : Type} : DataW H → Nat
  | .lit (.string bytes) => bytes.length + 1
  | .lit _ => 1
  | .nil => 1
  | .ptr d => uptoBulk d + 1
  | .slice elems spare => uptoBulkAll elems + uptoBulkAll spare + 1
  | .agg parts => uptoBulkAll parts + 1
  | .iface _ d => uptoBulk d + 1
  | .map entries => uptoBulkEntries entries + 1
  | .held _ => 1
def uptoBulkAll {H : Type} : List (DataW H) → Nat
  | [] => 0
  | d :: r => uptoBulk d + uptoBulkAll r
def uptoBulkEntries {H : Type} : List (Lit × DataW H) → Nat
  | [] => 0
  | x :: r => uptoBulkEntry x + uptoBulkEntries r
def uptoBulkEntry {H : Type} : Lit × DataW H → Nat
  | (.string bytes, d) => bytes.length + uptoBulk d + 1
  | (_, d) => uptoBulk d + 1
 end
def uptoSmall : (H : Type) → List (DataW H) → Bool := fun _ ds => decide (uptoBulkAll ds ≤ 1048576)
def OpenSpec.upto (s : _root_.Go.ChangeSpec) : _root_.Go.OpenSpec := { _root_.Go.OpenSpec.ofChange s with cond := some uptoSmall }

/-- 'tephralaw06.CmdsMay', WHERE WHAT IT READS IS OF BULK AT MOST 1048576: true; the input reads as it did. -/
def cmdsMayUptoRow : OpenClaim := { program := "ytgogmmhkelenkaa", sum := "37cd4f91e1ba7d35234310d7e0c26cc199cafe16b75de93f5f34824c2032aac0", func := "tephra/tephralaw06.CmdsMay", spec := "cmdsMay", apart := false, narrowed := true }
def CmdsMayUptoSaid : Prop := cmdsMayUptoRow.holds Try.pinned (OpenSpec.upto cmdsMaySpec)

/-- 'tephralaw06.CmdsRight', WHERE WHAT IT READS IS OF BULK AT MOST 1048576: true; the input reads as it did. -/
def cmdsRightUptoRow : OpenClaim := { program := "ytgogmmhkelenkaa", sum := "37cd4f91e1ba7d35234310d7e0c26cc199cafe16b75de93f5f34824c2032aac0", func := "tephra/tephralaw06.CmdsRight", spec := "cmdsRight", apart := false, narrowed := true }
def CmdsRightUptoSaid : Prop := cmdsRightUptoRow.holds Try.pinned (OpenSpec.upto cmdsRightSpec)

/-- 'tephralaw06.CmdsRow', WHERE WHAT IT READS IS OF BULK AT MOST 1048576: true; the input reads as it did. -/
def cmdsRowUptoRow : OpenClaim := { program := "ytgogmmhkelenkaa", sum := "37cd4f91e1ba7d35234310d7e0c26cc199cafe16b75de93f5f34824c2032aac0", func := "tephra/tephralaw06.CmdsRow", spec := "cmdsRow", apart := false, narrowed := true }
def CmdsRowUptoSaid : Prop := cmdsRowUptoRow.holds Try.pinned (OpenSpec.upto cmdsRowSpec)

/-- 'tephralaw06.CmdsBytes', WHERE WHAT IT READS IS OF BULK AT MOST 1048576: true; the input reads as it did. -/
def cmdsBytesUptoRow : OpenClaim := { program := "ytgogmmhkelenkaa", sum := "37cd4f91e1ba7d35234310d7e0c26cc199cafe16b75de93f5f34824c2032aac0", func := "tephra/tephralaw06.CmdsBytes", spec := "cmdsBytes", apart := false, narrowed := true }
def CmdsBytesUptoSaid : Prop := cmdsBytesUptoRow.holds Try.pinned (OpenSpec.upto cmdsBytesSpec)

/-- 'tephralaw06.CmdsRead', WHERE WHAT IT READS IS OF BULK AT MOST 1048576: true; the input reads as it did. -/
def cmdsReadUptoRow : OpenClaim := { program := "ytgogmmhkelenkaa", sum := "37cd4f91e1ba7d35234310d7e0c26cc199cafe16b75de93f5f34824c2032aac0", func := "tephra/tephralaw06.CmdsRead", spec := "cmdsRead", apart := false, narrowed := true }
def CmdsReadUptoSaid : Prop := cmdsReadUptoRow.holds Try.pinned (OpenSpec.upto cmdsReadSpec)

/-- 'tephralaw06.CmdsApart', WHERE WHAT IT READS IS OF BULK AT MOST 1048576: true; the input reads as it did. -/
def cmdsApartUptoRow : OpenClaim := { program := "ytgogmmhkelenkaa", sum := "37cd4f91e1ba7d35234310d7e0c26cc199cafe16b75de93f5f34824c2032aac0", func := "tephra/tephralaw06.CmdsApart", spec := "cmdsApart", apart := false, narrowed := true }
def CmdsApartUptoSaid : Prop := cmdsApartUptoRow.holds Try.pinned (OpenSpec.upto cmdsApartSpec)

/-- 'tephralaw06.CmdsParts', WHERE WHAT IT READS IS OF BULK AT MOST 1048576: true; the input reads as it did. -/
def cmdsPartsUptoRow : OpenClaim := { program := "ytgogmmhkelenkaa", sum := "37cd4f91e1ba7d35234310d7e0c26cc199cafe16b75de93f5f34824c2032aac0", func := "tephra/tephralaw06.CmdsParts", spec := "cmdsParts", apart := false, narrowed := true }
def CmdsPartsUptoSaid : Prop := cmdsPartsUptoRow.holds Try.pinned (OpenSpec.upto cmdsPartsSpec)

end Rows
end Go.Proofs.Ytgogmmhkelenkaa
