/-
  No cell of these rows narrows 'for every input' (looked for: loops, veiled, ifaces, maps, wideKeys, modest, calm, conditions, laid).
  DERIVED. THE GIVEN ROWS OF THIS SEAT. 7 by the template 'for every input the law returns true; each argument reads behind the call as it read before'; 0 by the template 'total and deterministic' (their statements: YtnoojgphfinmfaaTotals.lean).
  GIVEN WITH THE SEED: the statements are not yours to turn. If you find one false, say at which input.
  Laid BY PROGRAM, IN A SANDBOX (cutbox-rows.mjs): the forced cells as the released guide's own fill.sh prints them over the translation 087a6052fb5523e0… (all of the seat's roots in one cut). By AI agents, Wed Nov 11 2026. No macro, syntax, notation, axiom, sorry.
-/
import Derived.Test.YtnoojgphfinmfaaChecked
import GoSem.Claim
import GoSem.ClaimJoined
import GoSem.ClaimMapViews
import Derived.JoinedTies
import Derived.KernelRfl
namespace Go.Proofs.Ytnoojgphfinmfaa
/- THE CELL 'sum', in the pinned program and in every row, IS THE sha256 OF THE DUMP (.gsa) THAT YtnoojgphfinmfaaProg.lean LOADS. Nothing in Lean hashes anything: it is a label: what it is worth is what the hold of that sum in a sandbox is worth. -/
noncomputable def Try.pinned : Pinned := { name := "ytnoojgphfinmfaa", sum := "087a6052fb5523e026078cbd7b8489ee8ae33d808db77f4b10e48a2bae8409a4", checked := Try.checked }
namespace Rows
def none {H : Type} : Left H := { results := [], args := [] }

/-- 'tephralaw05.SortedOrder': WHATEVER THE INPUT: true; the input reads as it did. -/
def sortedOrderSpec : ChangeSpec := { name := "sortedOrder", fn := fun _ => fun
  | [d] => { results := [.lit (.bool true)], args := [d] }
  | _ => none }
def sortedOrderRow : OpenClaim := { program := "ytnoojgphfinmfaa", sum := "087a6052fb5523e026078cbd7b8489ee8ae33d808db77f4b10e48a2bae8409a4", func := "tephra/tephralaw05.SortedOrder", spec := "sortedOrder", inPlace := ["slices.overlaps[tephra/sorted.item[int, string]]", "slices.overlaps[tephra/sorted.item[int, int]]"], unfollowed := true, recurses := true, apart := false }
def SortedOrderSaid : Prop := sortedOrderRow.holds Try.pinned (OpenSpec.ofChange sortedOrderSpec)

/-- ITS FALSE NEIGHBOUR: 'it returns false'. Refute it at one input. -/
def sortedOrderWrong : ChangeSpec := { name := "sortedOrder", fn := fun _ => fun
  | [d] => { results := [.lit (.bool false)], args := [d] }
  | _ => none }
def SortedOrderWrongFalsely : Prop := sortedOrderRow.holds Try.pinned (OpenSpec.ofChange sortedOrderWrong)

/-- 'tephralaw05.SortedAll': WHATEVER THE INPUT: true; the input reads as it did. -/
def sortedAllSpec : ChangeSpec := { name := "sortedAll", fn := fun _ => fun
  | [d1, d2, d3] => { results := [.lit (.bool true)], args := [d1, d2, d3] }
  | _ => none }
def sortedAllRow : OpenClaim := { program := "ytnoojgphfinmfaa", sum := "087a6052fb5523e026078cbd7b8489ee8ae33d808db77f4b10e48a2bae8409a4", func := "tephra/tephralaw05.SortedAll", spec := "sortedAll", inPlace := ["slices.overlaps[tephra/sorted.item[int, string]]", "slices.overlaps[tephra/sorted.item[int, int]]"], unfollowed := true, recurses := true, apart := false }
def SortedAllSaid : Prop := sortedAllRow.holds Try.pinned (OpenSpec.ofChange sortedAllSpec)

/-- ITS FALSE NEIGHBOUR: 'it returns false'. Refute it at one input. -/
def sortedAllWrong : ChangeSpec := { name := "sortedAll", fn := fun _ => fun
  | [d1, d2, d3] => { results := [.lit (.bool false)], args := [d1, d2, d3] }
  | _ => none }
def SortedAllWrongFalsely : Prop := sortedAllRow.holds Try.pinned (OpenSpec.ofChange sortedAllWrong)

/-- 'tephralaw05.SortedScript': WHATEVER THE INPUT: true; the input reads as it did. -/
def sortedScriptSpec : ChangeSpec := { name := "sortedScript", fn := fun _ => fun
  | [d1, d2] => { results := [.lit (.bool true)], args := [d1, d2] }
  | _ => none }
def sortedScriptRow : OpenClaim := { program := "ytnoojgphfinmfaa", sum := "087a6052fb5523e026078cbd7b8489ee8ae33d808db77f4b10e48a2bae8409a4", func := "tephra/tephralaw05.SortedScript", spec := "sortedScript", inPlace := ["slices.overlaps[tephra/sorted.item[int, string]]", "slices.overlaps[tephra/sorted.item[int, int]]", "slices.overlaps[tephra/sorted.item[string, int]]"], unfollowed := true, recurses := true, apart := false }
def SortedScriptSaid : Prop := sortedScriptRow.holds Try.pinned (OpenSpec.ofChange sortedScriptSpec)

/-- ITS FALSE NEIGHBOUR: 'it returns false'. Refute it at one input. -/
def sortedScriptWrong : ChangeSpec := { name := "sortedScript", fn := fun _ => fun
  | [d1, d2] => { results := [.lit (.bool false)], args := [d1, d2] }
  | _ => none }
def SortedScriptWrongFalsely : Prop := sortedScriptRow.holds Try.pinned (OpenSpec.ofChange sortedScriptWrong)

/-- 'tephralaw05.SortedDel': WHATEVER THE INPUT: true; the input reads as it did. -/
def sortedDelSpec : ChangeSpec := { name := "sortedDel", fn := fun _ => fun
  | [d1, d2] => { results := [.lit (.bool true)], args := [d1, d2] }
  | _ => none }
def sortedDelRow : OpenClaim := { program := "ytnoojgphfinmfaa", sum := "087a6052fb5523e026078cbd7b8489ee8ae33d808db77f4b10e48a2bae8409a4", func := "tephra/tephralaw05.SortedDel", spec := "sortedDel", inPlace := ["slices.overlaps[tephra/sorted.item[int, string]]", "slices.overlaps[tephra/sorted.item[int, int]]"], unfollowed := true, recurses := true, apart := false }
def SortedDelSaid : Prop := sortedDelRow.holds Try.pinned (OpenSpec.ofChange sortedDelSpec)

/-- ITS FALSE NEIGHBOUR: 'it returns false'. Refute it at one input. -/
def sortedDelWrong : ChangeSpec := { name := "sortedDel", fn := fun _ => fun
  | [d1, d2] => { results := [.lit (.bool false)], args := [d1, d2] }
  | _ => none }
def SortedDelWrongFalsely : Prop := sortedDelRow.holds Try.pinned (OpenSpec.ofChange sortedDelWrong)

/-- 'tephralaw05.SortedMerge': WHATEVER THE INPUT: true; the input reads as it did. -/
def sortedMergeSpec : ChangeSpec := { name := "sortedMerge", fn := fun _ => fun
  | [d1, d2, d3] => { results := [.lit (.bool true)], args := [d1, d2, d3] }
  | _ => none }
def sortedMergeRow : OpenClaim := { program := "ytnoojgphfinmfaa", sum := "087a6052fb5523e026078cbd7b8489ee8ae33d808db77f4b10e48a2bae8409a4", func := "tephra/tephralaw05.SortedMerge", spec := "sortedMerge", inPlace := ["slices.overlaps[tephra/sorted.item[int, string]]", "slices.overlaps[tephra/sorted.item[int, int]]"], unfollowed := true, recurses := true, apart := false }
def SortedMergeSaid : Prop := sortedMergeRow.holds Try.pinned (OpenSpec.ofChange sortedMergeSpec)

/-- ITS FALSE NEIGHBOUR: 'it returns false'. Refute it at one input. -/
def sortedMergeWrong : ChangeSpec := { name := "sortedMerge", fn := fun _ => fun
  | [d1, d2, d3] => { results := [.lit (.bool false)], args := [d1, d2, d3] }
  | _ => none }
def SortedMergeWrongFalsely : Prop := sortedMergeRow.holds Try.pinned (OpenSpec.ofChange sortedMergeWrong)

/-- 'tephralaw05.SortedSelf': WHATEVER THE INPUT: true; the input reads as it did. -/
def sortedSelfSpec : ChangeSpec := { name := "sortedSelf", fn := fun _ => fun
  | [d] => { results := [.lit (.bool true)], args := [d] }
  | _ => none }
def sortedSelfRow : OpenClaim := { program := "ytnoojgphfinmfaa", sum := "087a6052fb5523e026078cbd7b8489ee8ae33d808db77f4b10e48a2bae8409a4", func := "tephra/tephralaw05.SortedSelf", spec := "sortedSelf", inPlace := ["slices.overlaps[tephra/sorted.item[int, string]]", "slices.overlaps[tephra/sorted.item[int, int]]"], unfollowed := true, recurses := true, apart := false }
def SortedSelfSaid : Prop := sortedSelfRow.holds Try.pinned (OpenSpec.ofChange sortedSelfSpec)

/-- ITS FALSE NEIGHBOUR: 'it returns false'. Refute it at one input. -/
def sortedSelfWrong : ChangeSpec := { name := "sortedSelf", fn := fun _ => fun
  | [d] => { results := [.lit (.bool false)], args := [d] }
  | _ => none }
def SortedSelfWrongFalsely : Prop := sortedSelfRow.holds Try.pinned (OpenSpec.ofChange sortedSelfWrong)

/-- 'tephralaw05.SortedBoth': WHATEVER THE INPUT: true; the input reads as it did. -/
def sortedBothSpec : ChangeSpec := { name := "sortedBoth", fn := fun _ => fun
  | [d1, d2] => { results := [.lit (.bool true)], args := [d1, d2] }
  | _ => none }
def sortedBothRow : OpenClaim := { program := "ytnoojgphfinmfaa", sum := "087a6052fb5523e026078cbd7b8489ee8ae33d808db77f4b10e48a2bae8409a4", func := "tephra/tephralaw05.SortedBoth", spec := "sortedBoth", inPlace := ["slices.overlaps[tephra/sorted.item[int, string]]", "slices.overlaps[tephra/sorted.item[int, int]]"], unfollowed := true, recurses := true, apart := false }
def SortedBothSaid : Prop := sortedBothRow.holds Try.pinned (OpenSpec.ofChange sortedBothSpec)

/-- ITS FALSE NEIGHBOUR: 'it returns false'. Refute it at one input. -/
def sortedBothWrong : ChangeSpec := { name := "sortedBoth", fn := fun _ => fun
  | [d1, d2] => { results := [.lit (.bool false)], args := [d1, d2] }
  | _ => none }
def SortedBothWrongFalsely : Prop := sortedBothRow.holds Try.pinned (OpenSpec.ofChange sortedBothWrong)

/- THE SECOND FORM. 'bulk': how many values and letters a reading holds, each counted each time it is reached (what is shared counts as often as it is met; a slice's spare places count too). A statement '..UptoSaid' is the law's where the arguments, and the package variables that the reading takes, are together of bulk at most 1048576: NARROWER than '..Said'. Prove '..Said' where nothing that the law and all that it calls make is longer than what came in: it says more and counts as full. Else prove '..UptoSaid'. A law counts once. -/
mutual
def uptoBulk {H : Type} : DataW H → Nat
  | .lit (.string bytes) => bytes.length + 1
  | .lit _ => 1
  | .nil => 1
  | .ptr d => uptoBulk d + 1
  | .slice elems spare => uptoBulkAll elems + uptoBulkAll spare + 1
  | .agg parts => uptoBulkAll parts + 1
  | .iface _ d => uptoBulk d + 1
  | .map entries => uptoBulkEntries entries + 1
  | .held _ => 1
def uptoBulkAll {H : Type} : List (DataW H) → Nat
  | [] => 0
  | d :: r => uptoBulk d + uptoBulkAll r
def uptoBulkEntries {H : Type} : List (Lit × DataW H) → Nat
  | [] => 0
  | x :: r => uptoBulkEntry x + uptoBulkEntries r
def uptoBulkEntry {H : Type} : Lit × DataW H → Nat
  | (.string bytes, d) => bytes.length + uptoBulk d + 1
  | (_, d) => uptoBulk d + 1
 end
def uptoSmall : (H : Type) → List (DataW H) → Bool := fun _ ds => decide (uptoBulkAll ds ≤ 1048576)
def OpenSpec.upto (s : _root_.Go.ChangeSpec) : _root_.Go.OpenSpec := { _root_.Go.OpenSpec.ofChange s with cond := some uptoSmall }

/-- 'tephralaw05.SortedOrder', WHERE WHAT IT READS IS OF BULK AT MOST 1048576: true; the input reads as it did. -/
def sortedOrderUptoRow : OpenClaim := { program := "ytnoojgphfinmfaa", sum := "087a6052fb5523e026078cbd7b8489ee8ae33d808db77f4b10e48a2bae8409a4", func := "tephra/tephralaw05.SortedOrder", spec := "sortedOrder", inPlace := ["slices.overlaps[tephra/sorted.item[int, string]]", "slices.overlaps[tephra/sorted.item[int, int]]"], unfollowed := true, recurses := true, apart := false, narrowed := true }
def SortedOrderUptoSaid : Prop := sortedOrderUptoRow.holds Try.pinned (OpenSpec.upto sortedOrderSpec)

/-- 'tephralaw05.SortedAll', WHERE WHAT IT READS IS OF BULK AT MOST 1048576: true; the input reads as it did. -/
def sortedAllUptoRow : OpenClaim := { program := "ytnoojgphfinmfaa", sum := "087a6052fb5523e026078cbd7b8489ee8ae33d808db77f4b10e48a2bae8409a4", func := "tephra/tephralaw05.SortedAll", spec := "sortedAll", inPlace := ["slices.overlaps[tephra/sorted.item[int, string]]", "slices.overlaps[tephra/sorted.item[int, int]]"], unfollowed := true, recurses := true, apart := false, narrowed := true }
def SortedAllUptoSaid : Prop := sortedAllUptoRow.holds Try.pinned (OpenSpec.upto sortedAllSpec)

/-- 'tephralaw05.SortedScript', WHERE WHAT IT READS IS OF BULK AT MOST 1048576: true; the input reads as it did. -/
def sortedScriptUptoRow : OpenClaim := { program := "ytnoojgphfinmfaa", sum := "087a6052fb5523e026078cbd7b8489ee8ae33d808db77f4b10e48a2bae8409a4", func := "tephra/tephralaw05.SortedScript", spec := "sortedScript", inPlace := ["slices.overlaps[tephra/sorted.item[int, string]]", "slices.overlaps[tephra/sorted.item[int, int]]", "slices.overlaps[tephra/sorted.item[string, int]]"], unfollowed := true, recurses := true, apart := false, narrowed := true }
def SortedScriptUptoSaid : Prop := sortedScriptUptoRow.holds Try.pinned (OpenSpec.upto sortedScriptSpec)

/-- 'tephralaw05.SortedDel', WHERE WHAT IT READS IS OF BULK AT MOST 1048576: true; the input reads as it did. -/
def sortedDelUptoRow : OpenClaim := { program := "ytnoojgphfinmfaa", sum := "087a6052fb5523e026078cbd7b8489ee8ae33d808db77f4b10e48a2bae8409a4", func := "tephra/tephralaw05.SortedDel", spec := "sortedDel", inPlace := ["slices.overlaps[tephra/sorted.item[int, string]]", "slices.overlaps[tephra/sorted.item[int, int]]"], unfollowed := true, recurses := true, apart := false, narrowed := true }
def SortedDelUptoSaid : Prop := sortedDelUptoRow.holds Try.pinned (OpenSpec.upto sortedDelSpec)

/-- 'tephralaw05.SortedMerge', WHERE WHAT IT READS IS OF BULK AT MOST 1048576: true; the input reads as it did. -/
def sortedMergeUptoRow : OpenClaim := { program := "ytnoojgphfinmfaa", sum := "087a6052fb5523e026078cbd7b8489ee8ae33d808db77f4b10e48a2bae8409a4", func := "tephra/tephralaw05.SortedMerge", spec := "sortedMerge", inPlace := ["slices.overlaps[tephra/sorted.item[int, string]]", "slices.overlaps[tephra/sorted.item[int, int]]"], unfollowed := true, recurses := true, apart := false, narrowed := true }
def SortedMergeUptoSaid : Prop := sortedMergeUptoRow.holds Try.pinned (OpenSpec.upto sortedMergeSpec)

/-- 'tephralaw05.SortedSelf', WHERE WHAT IT READS IS OF BULK AT MOST 1048576: true; the input reads as it did. -/
def sortedSelfUptoRow : OpenClaim := { program := "ytnoojgphfinmfaa", sum := "087a6052fb5523e026078cbd7b8489ee8ae33d808db77f4b10e48a2bae8409a4", func := "tephra/tephralaw05.SortedSelf", spec := "sortedSelf", inPlace := ["slices.overlaps[tephra/sorted.item[int, string]]", "slices.overlaps[tephra/sorted.item[int, int]]"], unfollowed := true, recurses := true, apart := false, narrowed := true }
def SortedSelfUptoSaid : Prop := sortedSelfUptoRow.holds Try.pinned (OpenSpec.upto sortedSelfSpec)

/-- 'tephralaw05.SortedBoth', WHERE WHAT IT READS IS OF BULK AT MOST 1048576: true; the input reads as it did. -/
def sortedBothUptoRow : OpenClaim := { program := "ytnoojgphfinmfaa", sum := "087a6052fb5523e026078cbd7b8489ee8ae33d808db77f4b10e48a2bae8409a4", func := "tephra/tephralaw05.SortedBoth", spec := "sortedBoth", inPlace := ["slices.overlaps[tephra/sorted.item[int, string]]", "slices.overlaps[tephra/sorted.item[int, int]]"], unfollowed := true, recurses := true, apart := false, narrowed := true }
def SortedBothUptoSaid : Prop := sortedBothUptoRow.holds Try.pinned (OpenSpec.upto sortedBothSpec)

end Rows
end Go.Proofs.Ytnoojgphfinmfaa
