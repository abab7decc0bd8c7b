/-
  No cell of these rows narrows 'for every input' (looked for: loops, veiled, ifaces, maps, wideKeys, modest, calm, conditions, laid).
  DERIVED. THE GIVEN ROWS OF THIS SEAT. 7 by the template 'for every input the law returns true; each argument reads behind the call as it read before'; 0 by the template 'total and deterministic' (their statements: YtdfakiaehkfhnaaTotals.lean).
  GIVEN WITH THE SEED: the statements are not yours to turn. If you find one false, say at which input.
  Laid BY PROGRAM, IN A SANDBOX (cutbox-rows.mjs): the forced cells as the released guide's own fill.sh prints them over the translation 55de813ef8495013… (all of the seat's roots in one cut). By AI agents, Wed Nov 11 2026. No macro, syntax, notation, axiom, sorry.
-/
import Derived.Test.YtdfakiaehkfhnaaChecked
import GoSem.Claim
import GoSem.ClaimJoined
import GoSem.ClaimMapViews
import Derived.JoinedTies
import Derived.KernelRfl
namespace Go.Proofs.Ytdfakiaehkfhnaa
/- THE CELL 'sum', in the pinned program and in every row, IS THE sha256 OF THE DUMP (.gsa) THAT YtdfakiaehkfhnaaProg.lean LOADS. Nothing in Lean hashes anything: it is a label: what it is worth is what the hold of that sum in a sandbox is worth. -/
noncomputable def Try.pinned : Pinned := { name := "ytdfakiaehkfhnaa", sum := "55de813ef8495013a34d7136d9d8c3fa15cebf8c41012467ce7ea5b8fcdcfae5", checked := Try.checked }
namespace Rows
def none {H : Type} : Left H := { results := [], args := [] }

/-- 'tephralaw13.RlogMerge': WHATEVER THE INPUT: true; the input reads as it did. -/
def rlogMergeSpec : ChangeSpec := { name := "rlogMerge", fn := fun _ => fun
  | [d1, d2, d3, d4, d5, d6] => { results := [.lit (.bool true)], args := [d1, d2, d3, d4, d5, d6] }
  | _ => none }
def rlogMergeRow : OpenClaim := { program := "ytdfakiaehkfhnaa", sum := "55de813ef8495013a34d7136d9d8c3fa15cebf8c41012467ce7ea5b8fcdcfae5", func := "tephra/tephralaw13.RlogMerge", spec := "rlogMerge", recurses := true, apart := false }
def RlogMergeSaid : Prop := rlogMergeRow.holds Try.pinned (OpenSpec.ofChange rlogMergeSpec)

/-- ITS FALSE NEIGHBOUR: 'it returns false'. Refute it at one input. -/
def rlogMergeWrong : ChangeSpec := { name := "rlogMerge", fn := fun _ => fun
  | [d1, d2, d3, d4, d5, d6] => { results := [.lit (.bool false)], args := [d1, d2, d3, d4, d5, d6] }
  | _ => none }
def RlogMergeWrongFalsely : Prop := rlogMergeRow.holds Try.pinned (OpenSpec.ofChange rlogMergeWrong)

/-- 'tephralaw13.RlogNewer': WHATEVER THE INPUT: true; the input reads as it did. -/
def rlogNewerSpec : ChangeSpec := { name := "rlogNewer", fn := fun _ => fun
  | [d1, d2, d3, d4] => { results := [.lit (.bool true)], args := [d1, d2, d3, d4] }
  | _ => none }
def rlogNewerRow : OpenClaim := { program := "ytdfakiaehkfhnaa", sum := "55de813ef8495013a34d7136d9d8c3fa15cebf8c41012467ce7ea5b8fcdcfae5", func := "tephra/tephralaw13.RlogNewer", spec := "rlogNewer", recurses := true, apart := false }
def RlogNewerSaid : Prop := rlogNewerRow.holds Try.pinned (OpenSpec.ofChange rlogNewerSpec)

/-- ITS FALSE NEIGHBOUR: 'it returns false'. Refute it at one input. -/
def rlogNewerWrong : ChangeSpec := { name := "rlogNewer", fn := fun _ => fun
  | [d1, d2, d3, d4] => { results := [.lit (.bool false)], args := [d1, d2, d3, d4] }
  | _ => none }
def RlogNewerWrongFalsely : Prop := rlogNewerRow.holds Try.pinned (OpenSpec.ofChange rlogNewerWrong)

/-- 'tephralaw13.RlogRight': WHATEVER THE INPUT: true; the input reads as it did. -/
def rlogRightSpec : ChangeSpec := { name := "rlogRight", fn := fun _ => fun
  | [d1, d2, d3, d4, d5, d6] => { results := [.lit (.bool true)], args := [d1, d2, d3, d4, d5, d6] }
  | _ => none }
def rlogRightRow : OpenClaim := { program := "ytdfakiaehkfhnaa", sum := "55de813ef8495013a34d7136d9d8c3fa15cebf8c41012467ce7ea5b8fcdcfae5", func := "tephra/tephralaw13.RlogRight", spec := "rlogRight", recurses := true, apart := false }
def RlogRightSaid : Prop := rlogRightRow.holds Try.pinned (OpenSpec.ofChange rlogRightSpec)

/-- ITS FALSE NEIGHBOUR: 'it returns false'. Refute it at one input. -/
def rlogRightWrong : ChangeSpec := { name := "rlogRight", fn := fun _ => fun
  | [d1, d2, d3, d4, d5, d6] => { results := [.lit (.bool false)], args := [d1, d2, d3, d4, d5, d6] }
  | _ => none }
def RlogRightWrongFalsely : Prop := rlogRightRow.holds Try.pinned (OpenSpec.ofChange rlogRightWrong)

/-- 'tephralaw13.RlogAt': WHATEVER THE INPUT: true; the input reads as it did. -/
def rlogAtSpec : ChangeSpec := { name := "rlogAt", fn := fun _ => fun
  | [d1, d2, d3, d4, d5] => { results := [.lit (.bool true)], args := [d1, d2, d3, d4, d5] }
  | _ => none }
def rlogAtRow : OpenClaim := { program := "ytdfakiaehkfhnaa", sum := "55de813ef8495013a34d7136d9d8c3fa15cebf8c41012467ce7ea5b8fcdcfae5", func := "tephra/tephralaw13.RlogAt", spec := "rlogAt", recurses := true, apart := false }
def RlogAtSaid : Prop := rlogAtRow.holds Try.pinned (OpenSpec.ofChange rlogAtSpec)

/-- ITS FALSE NEIGHBOUR: 'it returns false'. Refute it at one input. -/
def rlogAtWrong : ChangeSpec := { name := "rlogAt", fn := fun _ => fun
  | [d1, d2, d3, d4, d5] => { results := [.lit (.bool false)], args := [d1, d2, d3, d4, d5] }
  | _ => none }
def RlogAtWrongFalsely : Prop := rlogAtRow.holds Try.pinned (OpenSpec.ofChange rlogAtWrong)

/-- 'tephralaw13.RlogAdd': WHATEVER THE INPUT: true; the input reads as it did. -/
def rlogAddSpec : ChangeSpec := { name := "rlogAdd", fn := fun _ => fun
  | [d1, d2, d3, d4] => { results := [.lit (.bool true)], args := [d1, d2, d3, d4] }
  | _ => none }
def rlogAddRow : OpenClaim := { program := "ytdfakiaehkfhnaa", sum := "55de813ef8495013a34d7136d9d8c3fa15cebf8c41012467ce7ea5b8fcdcfae5", func := "tephra/tephralaw13.RlogAdd", spec := "rlogAdd", recurses := true, apart := false }
def RlogAddSaid : Prop := rlogAddRow.holds Try.pinned (OpenSpec.ofChange rlogAddSpec)

/-- ITS FALSE NEIGHBOUR: 'it returns false'. Refute it at one input. -/
def rlogAddWrong : ChangeSpec := { name := "rlogAdd", fn := fun _ => fun
  | [d1, d2, d3, d4] => { results := [.lit (.bool false)], args := [d1, d2, d3, d4] }
  | _ => none }
def RlogAddWrongFalsely : Prop := rlogAddRow.holds Try.pinned (OpenSpec.ofChange rlogAddWrong)

/-- 'tephralaw13.RlogPrefix': WHATEVER THE INPUT: true; the input reads as it did. -/
def rlogPrefixSpec : ChangeSpec := { name := "rlogPrefix", fn := fun _ => fun
  | [d1, d2, d3, d4, d5, d6] => { results := [.lit (.bool true)], args := [d1, d2, d3, d4, d5, d6] }
  | _ => none }
def rlogPrefixRow : OpenClaim := { program := "ytdfakiaehkfhnaa", sum := "55de813ef8495013a34d7136d9d8c3fa15cebf8c41012467ce7ea5b8fcdcfae5", func := "tephra/tephralaw13.RlogPrefix", spec := "rlogPrefix", recurses := true, apart := false }
def RlogPrefixSaid : Prop := rlogPrefixRow.holds Try.pinned (OpenSpec.ofChange rlogPrefixSpec)

/-- ITS FALSE NEIGHBOUR: 'it returns false'. Refute it at one input. -/
def rlogPrefixWrong : ChangeSpec := { name := "rlogPrefix", fn := fun _ => fun
  | [d1, d2, d3, d4, d5, d6] => { results := [.lit (.bool false)], args := [d1, d2, d3, d4, d5, d6] }
  | _ => none }
def RlogPrefixWrongFalsely : Prop := rlogPrefixRow.holds Try.pinned (OpenSpec.ofChange rlogPrefixWrong)

/-- 'tephralaw13.RlogCompact': WHATEVER THE INPUT: true; the input reads as it did. -/
def rlogCompactSpec : ChangeSpec := { name := "rlogCompact", fn := fun _ => fun
  | [d1, d2, d3, d4, d5] => { results := [.lit (.bool true)], args := [d1, d2, d3, d4, d5] }
  | _ => none }
def rlogCompactRow : OpenClaim := { program := "ytdfakiaehkfhnaa", sum := "55de813ef8495013a34d7136d9d8c3fa15cebf8c41012467ce7ea5b8fcdcfae5", func := "tephra/tephralaw13.RlogCompact", spec := "rlogCompact", recurses := true, apart := false }
def RlogCompactSaid : Prop := rlogCompactRow.holds Try.pinned (OpenSpec.ofChange rlogCompactSpec)

/-- ITS FALSE NEIGHBOUR: 'it returns false'. Refute it at one input. -/
def rlogCompactWrong : ChangeSpec := { name := "rlogCompact", fn := fun _ => fun
  | [d1, d2, d3, d4, d5] => { results := [.lit (.bool false)], args := [d1, d2, d3, d4, d5] }
  | _ => none }
def RlogCompactWrongFalsely : Prop := rlogCompactRow.holds Try.pinned (OpenSpec.ofChange rlogCompactWrong)

/- THE SECOND FORM. 'bulk': how many values and letters a reading holds, each counted each time it is reached (what is shared counts as often as it is met; a slice's spare places count too). A statement '..UptoSaid' is the law's where the arguments, and the package variables that the reading takes, are together of bulk at most 1048576: NARROWER than '..Said'. Prove '..Said' where nothing that the law and all that it calls make is longer than what came in: it says more and counts as full. Else prove '..UptoSaid'. A law counts once. -/
mutual
def uptoBulk {H : Type} : DataW H → Nat
  | .lit (.string bytes) => bytes.length + 1
  | .lit _ => 1
  | .nil => 1
  | .ptr d => uptoBulk d + 1
  | .slice elems spare => uptoBulkAll elems + uptoBulkAll spare + 1
  | .agg parts => uptoBulkAll parts + 1
  | .iface _ d => uptoBulk d + 1
  | .map entries => uptoBulkEntries entries + 1
  | .held _ => 1
def uptoBulkAll {H : Type} : List (DataW H) → Nat
  | [] => 0
  | d :: r => uptoBulk d + uptoBulkAll r
def uptoBulkEntries {H : Type} : List (Lit × DataW H) → Nat
  | [] => 0
  | x :: r => uptoBulkEntry x + uptoBulkEntries r
def uptoBulkEntry {H : Type} : Lit × DataW H → Nat
  | (.string bytes, d) => bytes.length + uptoBulk d + 1
  | (_, d) => uptoBulk d + 1
 end
def uptoSmall : (H : Type) → List (DataW H) → Bool := fun _ ds => decide (uptoBulkAll ds ≤ 1048576)
def OpenSpec.upto (s : _root_.Go.ChangeSpec) : _root_.Go.OpenSpec := { _root_.Go.OpenSpec.ofChange s with cond := some uptoSmall }

/-- 'tephralaw13.RlogMerge', WHERE WHAT IT READS IS OF BULK AT MOST 1048576: true; the input reads as it did. -/
def rlogMergeUptoRow : OpenClaim := { program := "ytdfakiaehkfhnaa", sum := "55de813ef8495013a34d7136d9d8c3fa15cebf8c41012467ce7ea5b8fcdcfae5", func := "tephra/tephralaw13.RlogMerge", spec := "rlogMerge", recurses := true, apart := false, narrowed := true }
def RlogMergeUptoSaid : Prop := rlogMergeUptoRow.holds Try.pinned (OpenSpec.upto rlogMergeSpec)

/-- 'tephralaw13.RlogNewer', WHERE WHAT IT READS IS OF BULK AT MOST 1048576: true; the input reads as it did. -/
def rlogNewerUptoRow : OpenClaim := { program := "ytdfakiaehkfhnaa", sum := "55de813ef8495013a34d7136d9d8c3fa15cebf8c41012467ce7ea5b8fcdcfae5", func := "tephra/tephralaw13.RlogNewer", spec := "rlogNewer", recurses := true, apart := false, narrowed := true }
def RlogNewerUptoSaid : Prop := rlogNewerUptoRow.holds Try.pinned (OpenSpec.upto rlogNewerSpec)

/-- 'tephralaw13.RlogRight', WHERE WHAT IT READS IS OF BULK AT MOST 1048576: true; the input reads as it did. -/
def rlogRightUptoRow : OpenClaim := { program := "ytdfakiaehkfhnaa", sum := "55de813ef8495013a34d7136d9d8c3fa15cebf8c41012467ce7ea5b8fcdcfae5", func := "tephra/tephralaw13.RlogRight", spec := "rlogRight", recurses := true, apart := false, narrowed := true }
def RlogRightUptoSaid : Prop := rlogRightUptoRow.holds Try.pinned (OpenSpec.upto rlogRightSpec)

/-- 'tephralaw13.RlogAt', WHERE WHAT IT READS IS OF BULK AT MOST 1048576: true; the input reads as it did. -/
def rlogAtUptoRow : OpenClaim := { program := "ytdfakiaehkfhnaa", sum := "55de813ef8495013a34d7136d9d8c3fa15cebf8c41012467ce7ea5b8fcdcfae5", func := "tephra/tephralaw13.RlogAt", spec := "rlogAt", recurses := true, apart := false, narrowed := true }
def RlogAtUptoSaid : Prop := rlogAtUptoRow.holds Try.pinned (OpenSpec.upto rlogAtSpec)

/-- 'tephralaw13.RlogAdd', WHERE WHAT IT READS IS OF BULK AT MOST 1048576: true; the input reads as it did. -/
def rlogAddUptoRow : OpenClaim := { program := "ytdfakiaehkfhnaa", sum := "55de813ef8495013a34d7136d9d8c3fa15cebf8c41012467ce7ea5b8fcdcfae5", func := "tephra/tephralaw13.RlogAdd", spec := "rlogAdd", recurses := true, apart := false, narrowed := true }
def RlogAddUptoSaid : Prop := rlogAddUptoRow.holds Try.pinned (OpenSpec.upto rlogAddSpec)

/-- 'tephralaw13.RlogPrefix', WHERE WHAT IT READS IS OF BULK AT MOST 1048576: true; the input reads as it did. -/
def rlogPrefixUptoRow : OpenClaim := { program := "ytdfakiaehkfhnaa", sum := "55de813ef8495013a34d7136d9d8c3fa15cebf8c41012467ce7ea5b8fcdcfae5", func := "tephra/tephralaw13.RlogPrefix", spec := "rlogPrefix", recurses := true, apart := false, narrowed := true }
def RlogPrefixUptoSaid : Prop := rlogPrefixUptoRow.holds Try.pinned (OpenSpec.upto rlogPrefixSpec)

/-- 'tephralaw13.RlogCompact', WHERE WHAT IT READS IS OF BULK AT MOST 1048576: true; the input reads as it did. -/
def rlogCompactUptoRow : OpenClaim := { program := "ytdfakiaehkfhnaa", sum := "55de813ef8495013a34d7136d9d8c3fa15cebf8c41012467ce7ea5b8fcdcfae5", func := "tephra/tephralaw13.RlogCompact", spec := "rlogCompact", recurses := true, apart := false, narrowed := true }
def RlogCompactUptoSaid : Prop := rlogCompactUptoRow.holds Try.pinned (OpenSpec.upto rlogCompactSpec)

end Rows
end Go.Proofs.Ytdfakiaehkfhnaa
