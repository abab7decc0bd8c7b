/-
  No cell of these rows narrows 'for every input' (looked for: loops, veiled, ifaces, maps, wideKeys, modest, calm, conditions, laid).
  DERIVED. THE GIVEN ROWS OF THIS SEAT. 5 by the template 'for every input the law returns true; each argument reads behind the call as it read before'; 0 by the template 'total and deterministic' (their statements: YtihadekhodlacaaTotals.lean).
  GIVEN WITH THE SEED: the statements are not yours to turn. If you find one false, say at which input.
  Laid BY PROGRAM, IN A SANDBOX (cutbox-rows.mjs): the forced cells as the released guide's own fill.sh prints them over the translation 5b6710c54e845e27… (all of the seat's roots in one cut). By AI agents, Wed Nov 11 2026. No macro, syntax, notation, axiom, sorry.
-/
import Derived.Test.YtihadekhodlacaaChecked
import GoSem.Claim
import GoSem.ClaimJoined
import GoSem.ClaimMapViews
import Derived.JoinedTies
import Derived.KernelRfl
namespace Go.Proofs.Ytihadekhodlacaa
/- THE CELL 'sum', in the pinned program and in every row, IS THE sha256 OF THE DUMP (.gsa) THAT YtihadekhodlacaaProg.lean LOADS. Nothing in Lean hashes anything: it is a label: what it is worth is what the hold of that sum in a sandbox is worth. -/
noncomputable def Try.pinned : Pinned := { name := "ytihadekhodlacaa", sum := "5b6710c54e845e275bc847a477da9625f3e3c5db423e6033e6214bc35850a2d0", checked := Try.checked }
namespace Rows
def none {H : Type} : Left H := { results := [], args := [] }

/-- 'tephralaw16.GhostLead': WHATEVER THE INPUT: true; the input reads as it did. -/
def ghostLeadSpec : ChangeSpec := { name := "ghostLead", fn := fun _ => fun
  | [d1, d2] => { results := [.lit (.bool true)], args := [d1, d2] }
  | _ => none }
def ghostLeadRow : OpenClaim := { program := "ytihadekhodlacaa", sum := "5b6710c54e845e275bc847a477da9625f3e3c5db423e6033e6214bc35850a2d0", func := "tephra/tephralaw16.GhostLead", spec := "ghostLead", inPlace := ["slices.overlaps[tephra/sorted.item[int, int]]"], unfollowed := true, recurses := true, apart := false }
def GhostLeadSaid : Prop := ghostLeadRow.holds Try.pinned (OpenSpec.ofChange ghostLeadSpec)

/-- ITS FALSE NEIGHBOUR: 'it returns false'. Refute it at one input. -/
def ghostLeadWrong : ChangeSpec := { name := "ghostLead", fn := fun _ => fun
  | [d1, d2] => { results := [.lit (.bool false)], args := [d1, d2] }
  | _ => none }
def GhostLeadWrongFalsely : Prop := ghostLeadRow.holds Try.pinned (OpenSpec.ofChange ghostLeadWrong)

/-- 'tephralaw16.GhostKeeps': WHATEVER THE INPUT: true; the input reads as it did. -/
def ghostKeepsSpec : ChangeSpec := { name := "ghostKeeps", fn := fun _ => fun
  | [d1, d2] => { results := [.lit (.bool true)], args := [d1, d2] }
  | _ => none }
def ghostKeepsRow : OpenClaim := { program := "ytihadekhodlacaa", sum := "5b6710c54e845e275bc847a477da9625f3e3c5db423e6033e6214bc35850a2d0", func := "tephra/tephralaw16.GhostKeeps", spec := "ghostKeeps", inPlace := ["slices.overlaps[tephra/sorted.item[int, int]]"], unfollowed := true, recurses := true, apart := false }
def GhostKeepsSaid : Prop := ghostKeepsRow.holds Try.pinned (OpenSpec.ofChange ghostKeepsSpec)

/-- ITS FALSE NEIGHBOUR: 'it returns false'. Refute it at one input. -/
def ghostKeepsWrong : ChangeSpec := { name := "ghostKeeps", fn := fun _ => fun
  | [d1, d2] => { results := [.lit (.bool false)], args := [d1, d2] }
  | _ => none }
def GhostKeepsWrongFalsely : Prop := ghostKeepsRow.holds Try.pinned (OpenSpec.ofChange ghostKeepsWrong)

/-- 'tephralaw16.GhostAhead': WHATEVER THE INPUT: true; the input reads as it did. -/
def ghostAheadSpec : ChangeSpec := { name := "ghostAhead", fn := fun _ => fun
  | [d1, d2] => { results := [.lit (.bool true)], args := [d1, d2] }
  | _ => none }
def ghostAheadRow : OpenClaim := { program := "ytihadekhodlacaa", sum := "5b6710c54e845e275bc847a477da9625f3e3c5db423e6033e6214bc35850a2d0", func := "tephra/tephralaw16.GhostAhead", spec := "ghostAhead", inPlace := ["slices.overlaps[tephra/sorted.item[int, int]]"], unfollowed := true, recurses := true, apart := false }
def GhostAheadSaid : Prop := ghostAheadRow.holds Try.pinned (OpenSpec.ofChange ghostAheadSpec)

/-- ITS FALSE NEIGHBOUR: 'it returns false'. Refute it at one input. -/
def ghostAheadWrong : ChangeSpec := { name := "ghostAhead", fn := fun _ => fun
  | [d1, d2] => { results := [.lit (.bool false)], args := [d1, d2] }
  | _ => none }
def GhostAheadWrongFalsely : Prop := ghostAheadRow.holds Try.pinned (OpenSpec.ofChange ghostAheadWrong)

/-- 'tephralaw16.GhostState': WHATEVER THE INPUT: true; the input reads as it did. -/
def ghostStateSpec : ChangeSpec := { name := "ghostState", fn := fun _ => fun
  | [d1, d2] => { results := [.lit (.bool true)], args := [d1, d2] }
  | _ => none }
def ghostStateRow : OpenClaim := { program := "ytihadekhodlacaa", sum := "5b6710c54e845e275bc847a477da9625f3e3c5db423e6033e6214bc35850a2d0", func := "tephra/tephralaw16.GhostState", spec := "ghostState", inPlace := ["slices.overlaps[tephra/sorted.item[int, int]]", "slices.overlaps[tephra/sorted.item[int, tephra/api.Session]]", "slices.overlaps[tephra/sorted.item[string, string]]"], unfollowed := true, recurses := true, apart := false }
def GhostStateSaid : Prop := ghostStateRow.holds Try.pinned (OpenSpec.ofChange ghostStateSpec)

/-- ITS FALSE NEIGHBOUR: 'it returns false'. Refute it at one input. -/
def ghostStateWrong : ChangeSpec := { name := "ghostState", fn := fun _ => fun
  | [d1, d2] => { results := [.lit (.bool false)], args := [d1, d2] }
  | _ => none }
def GhostStateWrongFalsely : Prop := ghostStateRow.holds Try.pinned (OpenSpec.ofChange ghostStateWrong)

/-- 'tephralaw16.GhostScript': WHATEVER THE INPUT: true; the input reads as it did. -/
def ghostScriptSpec : ChangeSpec := { name := "ghostScript", fn := fun _ => fun
  | [d1, d2] => { results := [.lit (.bool true)], args := [d1, d2] }
  | _ => none }
def ghostScriptRow : OpenClaim := { program := "ytihadekhodlacaa", sum := "5b6710c54e845e275bc847a477da9625f3e3c5db423e6033e6214bc35850a2d0", func := "tephra/tephralaw16.GhostScript", spec := "ghostScript", inPlace := ["slices.overlaps[tephra/sorted.item[int, int]]", "slices.overlaps[tephra/sorted.item[int, tephra/api.Session]]", "slices.overlaps[tephra/sorted.item[string, string]]"], unfollowed := true, recurses := true, apart := false }
def GhostScriptSaid : Prop := ghostScriptRow.holds Try.pinned (OpenSpec.ofChange ghostScriptSpec)

/-- ITS FALSE NEIGHBOUR: 'it returns false'. Refute it at one input. -/
def ghostScriptWrong : ChangeSpec := { name := "ghostScript", fn := fun _ => fun
  | [d1, d2] => { results := [.lit (.bool false)], args := [d1, d2] }
  | _ => none }
def GhostScriptWrongFalsely : Prop := ghostScriptRow.holds Try.pinned (OpenSpec.ofChange ghostScriptWrong)

/- THE SECOND FORM. 'bulk': how many values and letters a reading holds, each counted each time it is reached (what is shared counts as often as it is met; a slice's spare places count too). A statement '..UptoSaid' is the law's where the arguments, and the package variables that the reading takes, are together of bulk at most 1048576: NARROWER than '..Said'. Prove '..Said' where nothing that the law and all that it calls make is longer than what came in: it says more and counts as full. Else prove '..UptoSaid'. A law counts once. -/
mutual
def uptoBulk {H : Type} : DataW H → Nat
  | .lit (.string bytes) => bytes.length + 1
  | .lit _ => 1
  | .nil => 1
  | .ptr d => uptoBulk d + 1
  | .slice elems spare => uptoBulkAll elems + uptoBulkAll spare + 1
  | .agg parts => uptoBulkAll parts + 1
  | .iface _ d => uptoBulk d + 1
  | .map entries => uptoBulkEntries entries + 1
  | .held _ => 1
def uptoBulkAll {H : Type} : List (DataW H) → Nat
  | [] => 0
  | d :: r => uptoBulk d + uptoBulkAll r
def uptoBulkEntries {H : Type} : List (Lit × DataW H) → Nat
  | [] => 0
  | x :: r => uptoBulkEntry x + uptoBulkEntries r
def uptoBulkEntry {H : Type} : Lit × DataW H → Nat
  | (.string bytes, d) => bytes.length + uptoBulk d + 1
  | (_, d) => uptoBulk d + 1
 end
def uptoSmall : (H : Type) → List (DataW H) → Bool := fun _ ds => decide (uptoBulkAll ds ≤ 1048576)
def OpenSpec.upto (s : _root_.Go.ChangeSpec) : _root_.Go.OpenSpec := { _root_.Go.OpenSpec.ofChange s with cond := some uptoSmall }

/-- 'tephralaw16.GhostLead', WHERE WHAT IT READS IS OF BULK AT MOST 1048576: true; the input reads as it did. -/
def ghostLeadUptoRow : OpenClaim := { program := "ytihadekhodlacaa", sum := "5b6710c54e845e275bc847a477da9625f3e3c5db423e6033e6214bc35850a2d0", func := "tephra/tephralaw16.GhostLead", spec := "ghostLead", inPlace := ["slices.overlaps[tephra/sorted.item[int, int]]"], unfollowed := true, recurses := true, apart := false, narrowed := true }
def GhostLeadUptoSaid : Prop := ghostLeadUptoRow.holds Try.pinned (OpenSpec.upto ghostLeadSpec)

/-- 'tephralaw16.GhostKeeps', WHERE WHAT IT READS IS OF BULK AT MOST 1048576: true; the input reads as it did. -/
def ghostKeepsUptoRow : OpenClaim := { program := "ytihadekhodlacaa", sum := "5b6710c54e845e275bc847a477da9625f3e3c5db423e6033e6214bc35850a2d0", func := "tephra/tephralaw16.GhostKeeps", spec := "ghostKeeps", inPlace := ["slices.overlaps[tephra/sorted.item[int, int]]"], unfollowed := true, recurses := true, apart := false, narrowed := true }
def GhostKeepsUptoSaid : Prop := ghostKeepsUptoRow.holds Try.pinned (OpenSpec.upto ghostKeepsSpec)

/-- 'tephralaw16.GhostAhead', WHERE WHAT IT READS IS OF BULK AT MOST 1048576: true; the input reads as it did. -/
def ghostAheadUptoRow : OpenClaim := { program := "ytihadekhodlacaa", sum := "5b6710c54e845e275bc847a477da9625f3e3c5db423e6033e6214bc35850a2d0", func := "tephra/tephralaw16.GhostAhead", spec := "ghostAhead", inPlace := ["slices.overlaps[tephra/sorted.item[int, int]]"], unfollowed := true, recurses := true, apart := false, narrowed := true }
def GhostAheadUptoSaid : Prop := ghostAheadUptoRow.holds Try.pinned (OpenSpec.upto ghostAheadSpec)

/-- 'tephralaw16.GhostState', WHERE WHAT IT READS IS OF BULK AT MOST 1048576: true; the input reads as it did. -/
def ghostStateUptoRow : OpenClaim := { program := "ytihadekhodlacaa", sum := "5b6710c54e845e275bc847a477da9625f3e3c5db423e6033e6214bc35850a2d0", func := "tephra/tephralaw16.GhostState", spec := "ghostState", inPlace := ["slices.overlaps[tephra/sorted.item[int, int]]", "slices.overlaps[tephra/sorted.item[int, tephra/api.Session]]", "slices.overlaps[tephra/sorted.item[string, string]]"], unfollowed := true, recurses := true, apart := false, narrowed := true }
def GhostStateUptoSaid : Prop := ghostStateUptoRow.holds Try.pinned (OpenSpec.upto ghostStateSpec)

/-- 'tephralaw16.GhostScript', WHERE WHAT IT READS IS OF BULK AT MOST 1048576: true; the input reads as it did. -/
def ghostScriptUptoRow : OpenClaim := { program := "ytihadekhodlacaa", sum := "5b6710c54e845e275bc847a477da9625f3e3c5db423e6033e6214bc35850a2d0", func := "tephra/tephralaw16.GhostScript", spec := "ghostScript", inPlace := ["slices.overlaps[tephra/sorted.item[int, int]]", "slices.overlaps[tephra/sorted.item[int, tephra/api.Session]]", "slices.overlaps[tephra/sorted.item[string, string]]"], unfollowed := true, recurses := true, apart := false, narrowed := true }
def GhostScriptUptoSaid : Prop := ghostScriptUptoRow.holds Try.pinned (OpenSpec.upto ghostScriptSpec)

end Rows
end Go.Proofs.Ytihadekhodlacaa
