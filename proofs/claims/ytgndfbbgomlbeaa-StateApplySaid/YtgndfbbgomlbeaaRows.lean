/-
  No cell of these rows narrows 'for every input' (looked for: loops, veiled, ifaces, maps, wideKeys, modest, calm, conditions, laid).
  DERIVED. THE GIVEN ROWS OF THIS SEAT. 8 by the template 'for every input the law returns true; each argument reads behind the call as it read before'; 0 by the template 'total and deterministic' (their statements: YtgndfbbgomlbeaaTotals.lean).
  GIVEN WITH THE SEED: the statements are not yours to turn. If you find one false, say at which input.
  Laid BY PROGRAM, IN A SANDBOX (cutbox-rows.mjs): the forced cells as the released guide's own fill.sh prints them over the translation 81b0b160cd0df8c5… (all of the seat's roots in one cut). By AI agents, Wed Nov 11 2026. No macro, syntax, notation, axiom, sorry.
-/
import Derived.Test.YtgndfbbgomlbeaaChecked
import GoSem.Claim
import GoSem.ClaimJoined
import GoSem.ClaimMapViews
import Derived.JoinedTies
import Derived.KernelRfl
namespace Go.Proofs.Ytgndfbbgomlbeaa
/- THE CELL 'sum', in the pinned program and in every row, IS THE sha256 OF THE DUMP (.gsa) THAT YtgndfbbgomlbeaaProg.lean LOADS. Nothing in Lean hashes anything: it is a label: what it is worth is what the hold of that sum in a sandbox is worth. -/
noncomputable def Try.pinned : Pinned := { name := "ytgndfbbgomlbeaa", sum := "81b0b160cd0df8c53a968c5deb43b95aef08414f4c80631b7562d726b714c6df", checked := Try.checked }
namespace Rows
def none {H : Type} : Left H := { results := [], args := [] }

/-- 'tephralaw07.StateSwap': WHATEVER THE INPUT: true; the input reads as it did. -/
def stateSwapSpec : ChangeSpec := { name := "stateSwap", fn := fun _ => fun
  | [d1, d2, d3, d4] => { results := [.lit (.bool true)], args := [d1, d2, d3, d4] }
  | _ => none }
def stateSwapRow : OpenClaim := { program := "ytgndfbbgomlbeaa", sum := "81b0b160cd0df8c53a968c5deb43b95aef08414f4c80631b7562d726b714c6df", func := "tephra/tephralaw07.StateSwap", spec := "stateSwap", inPlace := ["slices.overlaps[tephra/sorted.item[int, tephra/api.Session]]", "slices.overlaps[tephra/sorted.item[string, string]]"], unfollowed := true, recurses := true, apart := false }
def StateSwapSaid : Prop := stateSwapRow.holds Try.pinned (OpenSpec.ofChange stateSwapSpec)

/-- ITS FALSE NEIGHBOUR: 'it returns false'. Refute it at one input. -/
def stateSwapWrong : ChangeSpec := { name := "stateSwap", fn := fun _ => fun
  | [d1, d2, d3, d4] => { results := [.lit (.bool false)], args := [d1, d2, d3, d4] }
  | _ => none }
def StateSwapWrongFalsely : Prop := stateSwapRow.holds Try.pinned (OpenSpec.ofChange stateSwapWrong)

/-- 'tephralaw07.StateApply': WHATEVER THE INPUT: true; the input reads as it did. -/
def stateApplySpec : ChangeSpec := { name := "stateApply", fn := fun _ => fun
  | [d1, d2] => { results := [.lit (.bool true)], args := [d1, d2] }
  | _ => none }
def stateApplyRow : OpenClaim := { program := "ytgndfbbgomlbeaa", sum := "81b0b160cd0df8c53a968c5deb43b95aef08414f4c80631b7562d726b714c6df", func := "tephra/tephralaw07.StateApply", spec := "stateApply", inPlace := ["slices.overlaps[tephra/sorted.item[int, tephra/api.Session]]", "slices.overlaps[tephra/sorted.item[string, string]]"], unfollowed := true, recurses := true, apart := false }
def StateApplySaid : Prop := stateApplyRow.holds Try.pinned (OpenSpec.ofChange stateApplySpec)

/-- ITS FALSE NEIGHBOUR: 'it returns false'. Refute it at one input. -/
def stateApplyWrong : ChangeSpec := { name := "stateApply", fn := fun _ => fun
  | [d1, d2] => { results := [.lit (.bool false)], args := [d1, d2] }
  | _ => none }
def StateApplyWrongFalsely : Prop := stateApplyRow.holds Try.pinned (OpenSpec.ofChange stateApplyWrong)

/-- 'tephralaw07.StateOnce': WHATEVER THE INPUT: true; the input reads as it did. -/
def stateOnceSpec : ChangeSpec := { name := "stateOnce", fn := fun _ => fun
  | [d1, d2, d3] => { results := [.lit (.bool true)], args := [d1, d2, d3] }
  | _ => none }
def stateOnceRow : OpenClaim := { program := "ytgndfbbgomlbeaa", sum := "81b0b160cd0df8c53a968c5deb43b95aef08414f4c80631b7562d726b714c6df", func := "tephra/tephralaw07.StateOnce", spec := "stateOnce", inPlace := ["slices.overlaps[tephra/sorted.item[int, tephra/api.Session]]", "slices.overlaps[tephra/sorted.item[string, string]]"], unfollowed := true, recurses := true, apart := false }
def StateOnceSaid : Prop := stateOnceRow.holds Try.pinned (OpenSpec.ofChange stateOnceSpec)

/-- ITS FALSE NEIGHBOUR: 'it returns false'. Refute it at one input. -/
def stateOnceWrong : ChangeSpec := { name := "stateOnce", fn := fun _ => fun
  | [d1, d2, d3] => { results := [.lit (.bool false)], args := [d1, d2, d3] }
  | _ => none }
def StateOnceWrongFalsely : Prop := stateOnceRow.holds Try.pinned (OpenSpec.ofChange stateOnceWrong)

/-- 'tephralaw07.StateOrder': WHATEVER THE INPUT: true; the input reads as it did. -/
def stateOrderSpec : ChangeSpec := { name := "stateOrder", fn := fun _ => fun
  | [d1, d2, d3, d4] => { results := [.lit (.bool true)], args := [d1, d2, d3, d4] }
  | _ => none }
def stateOrderRow : OpenClaim := { program := "ytgndfbbgomlbeaa", sum := "81b0b160cd0df8c53a968c5deb43b95aef08414f4c80631b7562d726b714c6df", func := "tephra/tephralaw07.StateOrder", spec := "stateOrder", inPlace := ["slices.overlaps[tephra/sorted.item[int, tephra/api.Session]]", "slices.overlaps[tephra/sorted.item[string, string]]"], unfollowed := true, recurses := true, apart := false }
def StateOrderSaid : Prop := stateOrderRow.holds Try.pinned (OpenSpec.ofChange stateOrderSpec)

/-- ITS FALSE NEIGHBOUR: 'it returns false'. Refute it at one input. -/
def stateOrderWrong : ChangeSpec := { name := "stateOrder", fn := fun _ => fun
  | [d1, d2, d3, d4] => { results := [.lit (.bool false)], args := [d1, d2, d3, d4] }
  | _ => none }
def StateOrderWrongFalsely : Prop := stateOrderRow.holds Try.pinned (OpenSpec.ofChange stateOrderWrong)

/-- 'tephralaw07.StateFold': WHATEVER THE INPUT: true; the input reads as it did. -/
def stateFoldSpec : ChangeSpec := { name := "stateFold", fn := fun _ => fun
  | [d1, d2] => { results := [.lit (.bool true)], args := [d1, d2] }
  | _ => none }
def stateFoldRow : OpenClaim := { program := "ytgndfbbgomlbeaa", sum := "81b0b160cd0df8c53a968c5deb43b95aef08414f4c80631b7562d726b714c6df", func := "tephra/tephralaw07.StateFold", spec := "stateFold", inPlace := ["slices.overlaps[tephra/sorted.item[int, tephra/api.Session]]", "slices.overlaps[tephra/sorted.item[string, string]]"], unfollowed := true, recurses := true, apart := false }
def StateFoldSaid : Prop := stateFoldRow.holds Try.pinned (OpenSpec.ofChange stateFoldSpec)

/-- ITS FALSE NEIGHBOUR: 'it returns false'. Refute it at one input. -/
def stateFoldWrong : ChangeSpec := { name := "stateFold", fn := fun _ => fun
  | [d1, d2] => { results := [.lit (.bool false)], args := [d1, d2] }
  | _ => none }
def StateFoldWrongFalsely : Prop := stateFoldRow.holds Try.pinned (OpenSpec.ofChange stateFoldWrong)

/-- 'tephralaw07.StateRows': WHATEVER THE INPUT: true; the input reads as it did. -/
def stateRowsSpec : ChangeSpec := { name := "stateRows", fn := fun _ => fun
  | [d1, d2, d3] => { results := [.lit (.bool true)], args := [d1, d2, d3] }
  | _ => none }
def stateRowsRow : OpenClaim := { program := "ytgndfbbgomlbeaa", sum := "81b0b160cd0df8c53a968c5deb43b95aef08414f4c80631b7562d726b714c6df", func := "tephra/tephralaw07.StateRows", spec := "stateRows", inPlace := ["slices.overlaps[tephra/sorted.item[int, tephra/api.Session]]", "slices.overlaps[tephra/sorted.item[string, string]]"], unfollowed := true, recurses := true, apart := false }
def StateRowsSaid : Prop := stateRowsRow.holds Try.pinned (OpenSpec.ofChange stateRowsSpec)

/-- ITS FALSE NEIGHBOUR: 'it returns false'. Refute it at one input. -/
def stateRowsWrong : ChangeSpec := { name := "stateRows", fn := fun _ => fun
  | [d1, d2, d3] => { results := [.lit (.bool false)], args := [d1, d2, d3] }
  | _ => none }
def StateRowsWrongFalsely : Prop := stateRowsRow.holds Try.pinned (OpenSpec.ofChange stateRowsWrong)

/-- 'tephralaw07.StateRead': WHATEVER THE INPUT: true; the input reads as it did. -/
def stateReadSpec : ChangeSpec := { name := "stateRead", fn := fun _ => fun
  | [d1, d2, d3, d4] => { results := [.lit (.bool true)], args := [d1, d2, d3, d4] }
  | _ => none }
def stateReadRow : OpenClaim := { program := "ytgndfbbgomlbeaa", sum := "81b0b160cd0df8c53a968c5deb43b95aef08414f4c80631b7562d726b714c6df", func := "tephra/tephralaw07.StateRead", spec := "stateRead", inPlace := ["slices.overlaps[tephra/sorted.item[int, tephra/api.Session]]", "slices.overlaps[tephra/sorted.item[string, string]]"], unfollowed := true, recurses := true, apart := false }
def StateReadSaid : Prop := stateReadRow.holds Try.pinned (OpenSpec.ofChange stateReadSpec)

/-- ITS FALSE NEIGHBOUR: 'it returns false'. Refute it at one input. -/
def stateReadWrong : ChangeSpec := { name := "stateRead", fn := fun _ => fun
  | [d1, d2, d3, d4] => { results := [.lit (.bool false)], args := [d1, d2, d3, d4] }
  | _ => none }
def StateReadWrongFalsely : Prop := stateReadRow.holds Try.pinned (OpenSpec.ofChange stateReadWrong)

/-- 'tephralaw07.StateBytes': WHATEVER THE INPUT: true; the input reads as it did. -/
def stateBytesSpec : ChangeSpec := { name := "stateBytes", fn := fun _ => fun
  | [d1, d2] => { results := [.lit (.bool true)], args := [d1, d2] }
  | _ => none }
def stateBytesRow : OpenClaim := { program := "ytgndfbbgomlbeaa", sum := "81b0b160cd0df8c53a968c5deb43b95aef08414f4c80631b7562d726b714c6df", func := "tephra/tephralaw07.StateBytes", spec := "stateBytes", inPlace := ["slices.overlaps[tephra/sorted.item[int, tephra/api.Session]]", "slices.overlaps[tephra/sorted.item[string, string]]"], unfollowed := true, recurses := true, apart := false }
def StateBytesSaid : Prop := stateBytesRow.holds Try.pinned (OpenSpec.ofChange stateBytesSpec)

/-- ITS FALSE NEIGHBOUR: 'it returns false'. Refute it at one input. -/
def stateBytesWrong : ChangeSpec := { name := "stateBytes", fn := fun _ => fun
  | [d1, d2] => { results := [.lit (.bool false)], args := [d1, d2] }
  | _ => none }
def StateBytesWrongFalsely : Prop := stateBytesRow.holds Try.pinned (OpenSpec.ofChange stateBytesWrong)

/- THE SECOND FORM. 'bulk': how many values and letters a reading holds, each counted each time it is reached (what is shared counts as often as it is met; a slice's spare places count too). A statement '..UptoSaid' is the law's where the arguments, and the package variables that the reading takes, are together of bulk at most 1048576: NARROWER than '..Said'. Prove '..Said' where nothing that the law and all that it calls make is longer than what came in: it says more and counts as full. Else prove '..UptoSaid'. A law counts once. -/
mutual
def uptoBulk {H : Type} : DataW H → Nat
  | .lit (.string bytes) => bytes.length + 1
  | .lit _ => 1
  | .nil => 1
  | .ptr d => uptoBulk d + 1
  | .slice elems spare => uptoBulkAll elems + uptoBulkAll spare + 1
  | .agg parts => uptoBulkAll parts + 1
  | .iface _ d => uptoBulk d + 1
  | .map entries => uptoBulkEntries entries + 1
  | .held _ => 1
def uptoBulkAll {H : Type} : List (DataW H) → Nat
  | [] => 0
  | d :: r => uptoBulk d + uptoBulkAll r
def uptoBulkEntries {H : Type} : List (Lit × DataW H) → Nat
  | [] => 0
  | x :: r => uptoBulkEntry x + uptoBulkEntries r
def uptoBulkEntry {H : Type} : Lit × DataW H → Nat
  | (.string bytes, d) => bytes.length + uptoBulk d + 1
  | (_, d) => uptoBulk d + 1
 end
def uptoSmall : (H : Type) → List (DataW H) → Bool := fun _ ds => decide (uptoBulkAll ds ≤ 1048576)
def OpenSpec.upto (s : _root_.Go.ChangeSpec) : _root_.Go.OpenSpec := { _root_.Go.OpenSpec.ofChange s with cond := some uptoSmall }

/-- 'tephralaw07.StateSwap', WHERE WHAT IT READS IS OF BULK AT MOST 1048576: true; the input reads as it did. -/
def stateSwapUptoRow : OpenClaim := { program := "ytgndfbbgomlbeaa", sum := "81b0b160cd0df8c53a968c5deb43b95aef08414f4c80631b7562d726b714c6df", func := "tephra/tephralaw07.StateSwap", spec := "stateSwap", inPlace := ["slices.overlaps[tephra/sorted.item[int, tephra/api.Session]]", "slices.overlaps[tephra/sorted.item[string, string]]"], unfollowed := true, recurses := true, apart := false, narrowed := true }
def StateSwapUptoSaid : Prop := stateSwapUptoRow.holds Try.pinned (OpenSpec.upto stateSwapSpec)

/-- 'tephralaw07.StateApply', WHERE WHAT IT READS IS OF BULK AT MOST 1048576: true; the input reads as it did. -/
def stateApplyUptoRow : OpenClaim := { program := "ytgndfbbgomlbeaa", sum := "81b0b160cd0df8c53a968c5deb43b95aef08414f4c80631b7562d726b714c6df", func := "tephra/tephralaw07.StateApply", spec := "stateApply", inPlace := ["slices.overlaps[tephra/sorted.item[int, tephra/api.Session]]", "slices.overlaps[tephra/sorted.item[string, string]]"], unfollowed := true, recurses := true, apart := false, narrowed := true }
def StateApplyUptoSaid : Prop := stateApplyUptoRow.holds Try.pinned (OpenSpec.upto stateApplySpec)

/-- 'tephralaw07.StateOnce', WHERE WHAT IT READS IS OF BULK AT MOST 1048576: true; the input reads as it did. -/
def stateOnceUptoRow : OpenClaim := { program := "ytgndfbbgomlbeaa", sum := "81b0b160cd0df8c53a968c5deb43b95aef08414f4c80631b7562d726b714c6df", func := "tephra/tephralaw07.StateOnce", spec := "stateOnce", inPlace := ["slices.overlaps[tephra/sorted.item[int, tephra/api.Session]]", "slices.overlaps[tephra/sorted.item[string, string]]"], unfollowed := true, recurses := true, apart := false, narrowed := true }
def StateOnceUptoSaid : Prop := stateOnceUptoRow.holds Try.pinned (OpenSpec.upto stateOnceSpec)

/-- 'tephralaw07.StateOrder', WHERE WHAT IT READS IS OF BULK AT MOST 1048576: true; the input reads as it did. -/
def stateOrderUptoRow : OpenClaim := { program := "ytgndfbbgomlbeaa", sum := "81b0b160cd0df8c53a968c5deb43b95aef08414f4c80631b7562d726b714c6df", func := "tephra/tephralaw07.StateOrder", spec := "stateOrder", inPlace := ["slices.overlaps[tephra/sorted.item[int, tephra/api.Session]]", "slices.overlaps[tephra/sorted.item[string, string]]"], unfollowed := true, recurses := true, apart := false, narrowed := true }
def StateOrderUptoSaid : Prop := stateOrderUptoRow.holds Try.pinned (OpenSpec.upto stateOrderSpec)

/-- 'tephralaw07.StateFold', WHERE WHAT IT READS IS OF BULK AT MOST 1048576: true; the input reads as it did. -/
def stateFoldUptoRow : OpenClaim := { program := "ytgndfbbgomlbeaa", sum := "81b0b160cd0df8c53a968c5deb43b95aef08414f4c80631b7562d726b714c6df", func := "tephra/tephralaw07.StateFold", spec := "stateFold", inPlace := ["slices.overlaps[tephra/sorted.item[int, tephra/api.Session]]", "slices.overlaps[tephra/sorted.item[string, string]]"], unfollowed := true, recurses := true, apart := false, narrowed := true }
def StateFoldUptoSaid : Prop := stateFoldUptoRow.holds Try.pinned (OpenSpec.upto stateFoldSpec)

/-- 'tephralaw07.StateRows', WHERE WHAT IT READS IS OF BULK AT MOST 1048576: true; the input reads as it did. -/
def stateRowsUptoRow : OpenClaim := { program := "ytgndfbbgomlbeaa", sum := "81b0b160cd0df8c53a968c5deb43b95aef08414f4c80631b7562d726b714c6df", func := "tephra/tephralaw07.StateRows", spec := "stateRows", inPlace := ["slices.overlaps[tephra/sorted.item[int, tephra/api.Session]]", "slices.overlaps[tephra/sorted.item[string, string]]"], unfollowed := true, recurses := true, apart := false, narrowed := true }
def StateRowsUptoSaid : Prop := stateRowsUptoRow.holds Try.pinned (OpenSpec.upto stateRowsSpec)

/-- 'tephralaw07.StateRead', WHERE WHAT IT READS IS OF BULK AT MOST 1048576: true; the input reads as it did. -/
def stateReadUptoRow : OpenClaim := { program := "ytgndfbbgomlbeaa", sum := "81b0b160cd0df8c53a968c5deb43b95aef08414f4c80631b7562d726b714c6df", func := "tephra/tephralaw07.StateRead", spec := "stateRead", inPlace := ["slices.overlaps[tephra/sorted.item[int, tephra/api.Session]]", "slices.overlaps[tephra/sorted.item[string, string]]"], unfollowed := true, recurses := true, apart := false, narrowed := true }
def StateReadUptoSaid : Prop := stateReadUptoRow.holds Try.pinned (OpenSpec.upto stateReadSpec)

/-- 'tephralaw07.StateBytes', WHERE WHAT IT READS IS OF BULK AT MOST 1048576: true; the input reads as it did. -/
def stateBytesUptoRow : OpenClaim := { program := "ytgndfbbgomlbeaa", sum := "81b0b160cd0df8c53a968c5deb43b95aef08414f4c80631b7562d726b714c6df", func := "tephra/tephralaw07.StateBytes", spec := "stateBytes", inPlace := ["slices.overlaps[tephra/sorted.item[int, tephra/api.Session]]", "slices.overlaps[tephra/sorted.item[string, string]]"], unfollowed := true, recurses := true, apart := false, narrowed := true }
def StateBytesUptoSaid : Prop := stateBytesUptoRow.holds Try.pinned (OpenSpec.upto stateBytesSpec)

end Rows
end Go.Proofs.Ytgndfbbgomlbeaa
