/-
  No cell of these rows narrows 'for every input' (looked for: loops, veiled, ifaces, maps, wideKeys, modest, calm, conditions, laid).
  DERIVED. THE GIVEN ROWS OF THIS SEAT. 7 by the template 'for every input the law returns true; each argument reads behind the call as it read before'; 0 by the template 'total and deterministic' (their statements: YthehagkjoofjiaaTotals.lean).
  GIVEN WITH THE SEED: the statements are not yours to turn. If you find one false, say at which input.
  Laid BY PROGRAM, IN A SANDBOX (cutbox-rows.mjs): the forced cells as the released guide's own fill.sh prints them over the translation bef669998a2cb79a… (all of the seat's roots in one cut). By AI agents, Wed Nov 11 2026. No macro, syntax, notation, axiom, sorry.
-/
import Derived.Test.YthehagkjoofjiaaChecked
import GoSem.Claim
import GoSem.ClaimJoined
import GoSem.ClaimMapViews
import Derived.JoinedTies
import Derived.KernelRfl
namespace Go.Proofs.Ythehagkjoofjiaa
/- THE CELL 'sum', in the pinned program and in every row, IS THE sha256 OF THE DUMP (.gsa) THAT YthehagkjoofjiaaProg.lean LOADS. Nothing in Lean hashes anything: it is a label: what it is worth is what the hold of that sum in a sandbox is worth. -/
noncomputable def Try.pinned : Pinned := { name := "ythehagkjoofjiaa", sum := "bef669998a2cb79ab1474e56f0a3429325f0d8276a163fe90ec0f2869b1a57c2", checked := Try.checked }
namespace Rows
def none {H : Type} : Left H := { results := [], args := [] }

/-- 'tephralaw08.DeltaDo': WHATEVER THE INPUT: true; the input reads as it did. -/
def deltaDoSpec : ChangeSpec := { name := "deltaDo", fn := fun _ => fun
  | [d1, d2, d3] => { results := [.lit (.bool true)], args := [d1, d2, d3] }
  | _ => none }
def deltaDoRow : OpenClaim := { program := "ythehagkjoofjiaa", sum := "bef669998a2cb79ab1474e56f0a3429325f0d8276a163fe90ec0f2869b1a57c2", func := "tephra/tephralaw08.DeltaDo", spec := "deltaDo", inPlace := ["slices.overlaps[tephra/sorted.item[int, tephra/api.Session]]", "slices.overlaps[tephra/sorted.item[string, string]]"], unfollowed := true, recurses := true, apart := false }
def DeltaDoSaid : Prop := deltaDoRow.holds Try.pinned (OpenSpec.ofChange deltaDoSpec)

/-- ITS FALSE NEIGHBOUR: 'it returns false'. Refute it at one input. -/
def deltaDoWrong : ChangeSpec := { name := "deltaDo", fn := fun _ => fun
  | [d1, d2, d3] => { results := [.lit (.bool false)], args := [d1, d2, d3] }
  | _ => none }
def DeltaDoWrongFalsely : Prop := deltaDoRow.holds Try.pinned (OpenSpec.ofChange deltaDoWrong)

/-- 'tephralaw08.DeltaFull': WHATEVER THE INPUT: true; the input reads as it did. -/
def deltaFullSpec : ChangeSpec := { name := "deltaFull", fn := fun _ => fun
  | [d1, d2] => { results := [.lit (.bool true)], args := [d1, d2] }
  | _ => none }
def deltaFullRow : OpenClaim := { program := "ythehagkjoofjiaa", sum := "bef669998a2cb79ab1474e56f0a3429325f0d8276a163fe90ec0f2869b1a57c2", func := "tephra/tephralaw08.DeltaFull", spec := "deltaFull", inPlace := ["slices.overlaps[tephra/sorted.item[int, tephra/api.Session]]", "slices.overlaps[tephra/sorted.item[string, string]]"], unfollowed := true, recurses := true, apart := false }
def DeltaFullSaid : Prop := deltaFullRow.holds Try.pinned (OpenSpec.ofChange deltaFullSpec)

/-- ITS FALSE NEIGHBOUR: 'it returns false'. Refute it at one input. -/
def deltaFullWrong : ChangeSpec := { name := "deltaFull", fn := fun _ => fun
  | [d1, d2] => { results := [.lit (.bool false)], args := [d1, d2] }
  | _ => none }
def DeltaFullWrongFalsely : Prop := deltaFullRow.holds Try.pinned (OpenSpec.ofChange deltaFullWrong)

/-- 'tephralaw08.DeltaSame': WHATEVER THE INPUT: true; the input reads as it did. -/
def deltaSameSpec : ChangeSpec := { name := "deltaSame", fn := fun _ => fun
  | [d] => { results := [.lit (.bool true)], args := [d] }
  | _ => none }
def deltaSameRow : OpenClaim := { program := "ythehagkjoofjiaa", sum := "bef669998a2cb79ab1474e56f0a3429325f0d8276a163fe90ec0f2869b1a57c2", func := "tephra/tephralaw08.DeltaSame", spec := "deltaSame", inPlace := ["slices.overlaps[tephra/sorted.item[int, tephra/api.Session]]", "slices.overlaps[tephra/sorted.item[string, string]]"], unfollowed := true, recurses := true, apart := false }
def DeltaSameSaid : Prop := deltaSameRow.holds Try.pinned (OpenSpec.ofChange deltaSameSpec)

/-- ITS FALSE NEIGHBOUR: 'it returns false'. Refute it at one input. -/
def deltaSameWrong : ChangeSpec := { name := "deltaSame", fn := fun _ => fun
  | [d] => { results := [.lit (.bool false)], args := [d] }
  | _ => none }
def DeltaSameWrongFalsely : Prop := deltaSameRow.holds Try.pinned (OpenSpec.ofChange deltaSameWrong)

/-- 'tephralaw08.DeltaBetween': WHATEVER THE INPUT: true; the input reads as it did. -/
def deltaBetweenSpec : ChangeSpec := { name := "deltaBetween", fn := fun _ => fun
  | [d1, d2, d3] => { results := [.lit (.bool true)], args := [d1, d2, d3] }
  | _ => none }
def deltaBetweenRow : OpenClaim := { program := "ythehagkjoofjiaa", sum := "bef669998a2cb79ab1474e56f0a3429325f0d8276a163fe90ec0f2869b1a57c2", func := "tephra/tephralaw08.DeltaBetween", spec := "deltaBetween", inPlace := ["slices.overlaps[tephra/sorted.item[int, tephra/api.Session]]", "slices.overlaps[tephra/sorted.item[string, string]]"], unfollowed := true, recurses := true, apart := false }
def DeltaBetweenSaid : Prop := deltaBetweenRow.holds Try.pinned (OpenSpec.ofChange deltaBetweenSpec)

/-- ITS FALSE NEIGHBOUR: 'it returns false'. Refute it at one input. -/
def deltaBetweenWrong : ChangeSpec := { name := "deltaBetween", fn := fun _ => fun
  | [d1, d2, d3] => { results := [.lit (.bool false)], args := [d1, d2, d3] }
  | _ => none }
def DeltaBetweenWrongFalsely : Prop := deltaBetweenRow.holds Try.pinned (OpenSpec.ofChange deltaBetweenWrong)

/-- 'tephralaw08.DeltaThree': WHATEVER THE INPUT: true; the input reads as it did. -/
def deltaThreeSpec : ChangeSpec := { name := "deltaThree", fn := fun _ => fun
  | [d1, d2, d3, d4] => { results := [.lit (.bool true)], args := [d1, d2, d3, d4] }
  | _ => none }
def deltaThreeRow : OpenClaim := { program := "ythehagkjoofjiaa", sum := "bef669998a2cb79ab1474e56f0a3429325f0d8276a163fe90ec0f2869b1a57c2", func := "tephra/tephralaw08.DeltaThree", spec := "deltaThree", inPlace := ["slices.overlaps[tephra/sorted.item[int, tephra/api.Session]]", "slices.overlaps[tephra/sorted.item[string, string]]"], unfollowed := true, recurses := true, apart := false }
def DeltaThreeSaid : Prop := deltaThreeRow.holds Try.pinned (OpenSpec.ofChange deltaThreeSpec)

/-- ITS FALSE NEIGHBOUR: 'it returns false'. Refute it at one input. -/
def deltaThreeWrong : ChangeSpec := { name := "deltaThree", fn := fun _ => fun
  | [d1, d2, d3, d4] => { results := [.lit (.bool false)], args := [d1, d2, d3, d4] }
  | _ => none }
def DeltaThreeWrongFalsely : Prop := deltaThreeRow.holds Try.pinned (OpenSpec.ofChange deltaThreeWrong)

/-- 'tephralaw08.DeltaJoin': WHATEVER THE INPUT: true; the input reads as it did. -/
def deltaJoinSpec : ChangeSpec := { name := "deltaJoin", fn := fun _ => fun
  | [d1, d2, d3] => { results := [.lit (.bool true)], args := [d1, d2, d3] }
  | _ => none }
def deltaJoinRow : OpenClaim := { program := "ythehagkjoofjiaa", sum := "bef669998a2cb79ab1474e56f0a3429325f0d8276a163fe90ec0f2869b1a57c2", func := "tephra/tephralaw08.DeltaJoin", spec := "deltaJoin", inPlace := ["slices.overlaps[tephra/sorted.item[int, tephra/api.Session]]", "slices.overlaps[tephra/sorted.item[string, string]]"], unfollowed := true, recurses := true, apart := false }
def DeltaJoinSaid : Prop := deltaJoinRow.holds Try.pinned (OpenSpec.ofChange deltaJoinSpec)

/-- ITS FALSE NEIGHBOUR: 'it returns false'. Refute it at one input. -/
def deltaJoinWrong : ChangeSpec := { name := "deltaJoin", fn := fun _ => fun
  | [d1, d2, d3] => { results := [.lit (.bool false)], args := [d1, d2, d3] }
  | _ => none }
def DeltaJoinWrongFalsely : Prop := deltaJoinRow.holds Try.pinned (OpenSpec.ofChange deltaJoinWrong)

/-- 'tephralaw08.DeltaMany': WHATEVER THE INPUT: true; the input reads as it did. -/
def deltaManySpec : ChangeSpec := { name := "deltaMany", fn := fun _ => fun
  | [d] => { results := [.lit (.bool true)], args := [d] }
  | _ => none }
def deltaManyRow : OpenClaim := { program := "ythehagkjoofjiaa", sum := "bef669998a2cb79ab1474e56f0a3429325f0d8276a163fe90ec0f2869b1a57c2", func := "tephra/tephralaw08.DeltaMany", spec := "deltaMany", inPlace := ["slices.overlaps[tephra/sorted.item[int, tephra/api.Session]]", "slices.overlaps[tephra/sorted.item[string, string]]"], unfollowed := true, recurses := true, apart := false }
def DeltaManySaid : Prop := deltaManyRow.holds Try.pinned (OpenSpec.ofChange deltaManySpec)

/-- ITS FALSE NEIGHBOUR: 'it returns false'. Refute it at one input. -/
def deltaManyWrong : ChangeSpec := { name := "deltaMany", fn := fun _ => fun
  | [d] => { results := [.lit (.bool false)], args := [d] }
  | _ => none }
def DeltaManyWrongFalsely : Prop := deltaManyRow.holds Try.pinned (OpenSpec.ofChange deltaManyWrong)

/- THE SECOND FORM. 'bulk': how many values and letters a reading holds, each counted each time it is reached (what is shared counts as often as it is met; a slice's spare places count too). A statement '..UptoSaid' is the law's where the arguments, and the package variables that the reading takes, are together of bulk at most 1048576: NARROWER than '..Said'. Prove '..Said' where nothing that the law and all that it calls make is longer than what came in: it says more and counts as full. Else prove '..UptoSaid'. A law counts once. -/
mutual
def uptoBulk {H : Type} : DataW H → Nat
  | .lit (.string bytes) => bytes.length + 1
  | .lit _ => 1
  | .nil => 1
  | .ptr d => uptoBulk d + 1
  | .slice elems spare => uptoBulkAll elems + uptoBulkAll spare + 1
  | .agg parts => uptoBulkAll parts + 1
  | .iface _ d => uptoBulk d + 1
  | .map entries => uptoBulkEntries entries + 1
  | .held _ => 1
def uptoBulkAll {H : Type} : List (DataW H) → Nat
  | [] => 0
  | d :: r => uptoBulk d + uptoBulkAll r
def uptoBulkEntries {H : Type} : List (Lit × DataW H) → Nat
  | [] => 0
  | x :: r => uptoBulkEntry x + uptoBulkEntries r
def uptoBulkEntry {H : Type} : Lit × DataW H → Nat
  | (.string bytes, d) => bytes.length + uptoBulk d + 1
  | (_, d) => uptoBulk d + 1
 end
def uptoSmall : (H : Type) → List (DataW H) → Bool := fun _ ds => decide (uptoBulkAll ds ≤ 1048576)
def OpenSpec.upto (s : _root_.Go.ChangeSpec) : _root_.Go.OpenSpec := { _root_.Go.OpenSpec.ofChange s with cond := some uptoSmall }

/-- 'tephralaw08.DeltaDo', WHERE WHAT IT READS IS OF BULK AT MOST 1048576: true; the input reads as it did. -/
def deltaDoUptoRow : OpenClaim := { program := "ythehagkjoofjiaa", sum := "bef669998a2cb79ab1474e56f0a3429325f0d8276a163fe90ec0f2869b1a57c2", func := "tephra/tephralaw08.DeltaDo", spec := "deltaDo", inPlace := ["slices.overlaps[tephra/sorted.item[int, tephra/api.Session]]", "slices.overlaps[tephra/sorted.item[string, string]]"], unfollowed := true, recurses := true, apart := false, narrowed := true }
def DeltaDoUptoSaid : Prop := deltaDoUptoRow.holds Try.pinned (OpenSpec.upto deltaDoSpec)

/-- 'tephralaw08.DeltaFull', WHERE WHAT IT READS IS OF BULK AT MOST 1048576: true; the input reads as it did. -/
def deltaFullUptoRow : OpenClaim := { program := "ythehagkjoofjiaa", sum := "bef669998a2cb79ab1474e56f0a3429325f0d8276a163fe90ec0f2869b1a57c2", func := "tephra/tephralaw08.DeltaFull", spec := "deltaFull", inPlace := ["slices.overlaps[tephra/sorted.item[int, tephra/api.Session]]", "slices.overlaps[tephra/sorted.item[string, string]]"], unfollowed := true, recurses := true, apart := false, narrowed := true }
def DeltaFullUptoSaid : Prop := deltaFullUptoRow.holds Try.pinned (OpenSpec.upto deltaFullSpec)

/-- 'tephralaw08.DeltaSame', WHERE WHAT IT READS IS OF BULK AT MOST 1048576: true; the input reads as it did. -/
def deltaSameUptoRow : OpenClaim := { program := "ythehagkjoofjiaa", sum := "bef669998a2cb79ab1474e56f0a3429325f0d8276a163fe90ec0f2869b1a57c2", func := "tephra/tephralaw08.DeltaSame", spec := "deltaSame", inPlace := ["slices.overlaps[tephra/sorted.item[int, tephra/api.Session]]", "slices.overlaps[tephra/sorted.item[string, string]]"], unfollowed := true, recurses := true, apart := false, narrowed := true }
def DeltaSameUptoSaid : Prop := deltaSameUptoRow.holds Try.pinned (OpenSpec.upto deltaSameSpec)

/-- 'tephralaw08.DeltaBetween', WHERE WHAT IT READS IS OF BULK AT MOST 1048576: true; the input reads as it did. -/
def deltaBetweenUptoRow : OpenClaim := { program := "ythehagkjoofjiaa", sum := "bef669998a2cb79ab1474e56f0a3429325f0d8276a163fe90ec0f2869b1a57c2", func := "tephra/tephralaw08.DeltaBetween", spec := "deltaBetween", inPlace := ["slices.overlaps[tephra/sorted.item[int, tephra/api.Session]]", "slices.overlaps[tephra/sorted.item[string, string]]"], unfollowed := true, recurses := true, apart := false, narrowed := true }
def DeltaBetweenUptoSaid : Prop := deltaBetweenUptoRow.holds Try.pinned (OpenSpec.upto deltaBetweenSpec)

/-- 'tephralaw08.DeltaThree', WHERE WHAT IT READS IS OF BULK AT MOST 1048576: true; the input reads as it did. -/
def deltaThreeUptoRow : OpenClaim := { program := "ythehagkjoofjiaa", sum := "bef669998a2cb79ab1474e56f0a3429325f0d8276a163fe90ec0f2869b1a57c2", func := "tephra/tephralaw08.DeltaThree", spec := "deltaThree", inPlace := ["slices.overlaps[tephra/sorted.item[int, tephra/api.Session]]", "slices.overlaps[tephra/sorted.item[string, string]]"], unfollowed := true, recurses := true, apart := false, narrowed := true }
def DeltaThreeUptoSaid : Prop := deltaThreeUptoRow.holds Try.pinned (OpenSpec.upto deltaThreeSpec)

/-- 'tephralaw08.DeltaJoin', WHERE WHAT IT READS IS OF BULK AT MOST 1048576: true; the input reads as it did. -/
def deltaJoinUptoRow : OpenClaim := { program := "ythehagkjoofjiaa", sum := "bef669998a2cb79ab1474e56f0a3429325f0d8276a163fe90ec0f2869b1a57c2", func := "tephra/tephralaw08.DeltaJoin", spec := "deltaJoin", inPlace := ["slices.overlaps[tephra/sorted.item[int, tephra/api.Session]]", "slices.overlaps[tephra/sorted.item[string, string]]"], unfollowed := true, recurses := true, apart := false, narrowed := true }
def DeltaJoinUptoSaid : Prop := deltaJoinUptoRow.holds Try.pinned (OpenSpec.upto deltaJoinSpec)

/-- 'tephralaw08.DeltaMany', WHERE WHAT IT READS IS OF BULK AT MOST 1048576: true; the input reads as it did. -/
def deltaManyUptoRow : OpenClaim := { program := "ythehagkjoofjiaa", sum := "bef669998a2cb79ab1474e56f0a3429325f0d8276a163fe90ec0f2869b1a57c2", func := "tephra/tephralaw08.DeltaMany", spec := "deltaMany", inPlace := ["slices.overlaps[tephra/sorted.item[int, tephra/api.Session]]", "slices.overlaps[tephra/sorted.item[string, string]]"], unfollowed := true, recurses := true, apart := false, narrowed := true }
def DeltaManyUptoSaid : Prop := deltaManyUptoRow.holds Try.pinned (OpenSpec.upto deltaManySpec)

end Rows
end Go.Proofs.Ythehagkjoofjiaa
