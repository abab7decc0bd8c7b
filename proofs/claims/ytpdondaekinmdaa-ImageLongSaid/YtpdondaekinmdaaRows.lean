/-
  No cell of these rows narrows 'for every input' (looked for: loops, veiled, ifaces, maps, wideKeys, modest, calm, conditions, laid).
  DERIVED. THE GIVEN ROWS OF THIS SEAT. 6 by the template 'for every input the law returns true; each argument reads behind the call as it read before'; 0 by the template 'total and deterministic' (their statements: YtpdondaekinmdaaTotals.lean).
  GIVEN WITH THE SEED: the statements are not yours to turn. If you find one false, say at which input.
  Laid BY PROGRAM, IN A SANDBOX (cutbox-rows.mjs): the forced cells as the released guide's own fill.sh prints them over the translation 9796c897263339e8… (all of the seat's roots in one cut). By AI agents, Wed Nov 11 2026. No macro, syntax, notation, axiom, sorry.
-/
import Derived.Test.YtpdondaekinmdaaChecked
import GoSem.Claim
import GoSem.ClaimJoined
import GoSem.ClaimMapViews
import Derived.JoinedTies
import Derived.KernelRfl
namespace Go.Proofs.Ytpdondaekinmdaa
/- THE CELL 'sum', in the pinned program and in every row, IS THE sha256 OF THE DUMP (.gsa) THAT YtpdondaekinmdaaProg.lean LOADS. Nothing in Lean hashes anything: it is a label: what it is worth is what the hold of that sum in a sandbox is worth. -/
noncomputable def Try.pinned : Pinned := { name := "ytpdondaekinmdaa", sum := "9796c897263339e8ceb2dcada9438b8d52607e455bb9fef0560898a28f421602", checked := Try.checked }
namespace Rows
def none {H : Type} : Left H := { results := [], args := [] }

/-- 'tephralaw09.ImagePart': WHATEVER THE INPUT: true; the input reads as it did. -/
def imagePartSpec : ChangeSpec := { name := "imagePart", fn := fun _ => fun
  | [d1, d2, d3] => { results := [.lit (.bool true)], args := [d1, d2, d3] }
  | _ => none }
def imagePartRow : OpenClaim := { program := "ytpdondaekinmdaa", sum := "9796c897263339e8ceb2dcada9438b8d52607e455bb9fef0560898a28f421602", func := "tephra/tephralaw09.ImagePart", spec := "imagePart", unfollowed := true, recurses := true, apart := false }
def ImagePartSaid : Prop := imagePartRow.holds Try.pinned (OpenSpec.ofChange imagePartSpec)

/-- ITS FALSE NEIGHBOUR: 'it returns false'. Refute it at one input. -/
def imagePartWrong : ChangeSpec := { name := "imagePart", fn := fun _ => fun
  | [d1, d2, d3] => { results := [.lit (.bool false)], args := [d1, d2, d3] }
  | _ => none }
def ImagePartWrongFalsely : Prop := imagePartRow.holds Try.pinned (OpenSpec.ofChange imagePartWrong)

/-- 'tephralaw09.ImageOrder': WHATEVER THE INPUT: true; the input reads as it did. -/
def imageOrderSpec : ChangeSpec := { name := "imageOrder", fn := fun _ => fun
  | [d1, d2, d3, d4] => { results := [.lit (.bool true)], args := [d1, d2, d3, d4] }
  | _ => none }
def imageOrderRow : OpenClaim := { program := "ytpdondaekinmdaa", sum := "9796c897263339e8ceb2dcada9438b8d52607e455bb9fef0560898a28f421602", func := "tephra/tephralaw09.ImageOrder", spec := "imageOrder", unfollowed := true, recurses := true, apart := false }
def ImageOrderSaid : Prop := imageOrderRow.holds Try.pinned (OpenSpec.ofChange imageOrderSpec)

/-- ITS FALSE NEIGHBOUR: 'it returns false'. Refute it at one input. -/
def imageOrderWrong : ChangeSpec := { name := "imageOrder", fn := fun _ => fun
  | [d1, d2, d3, d4] => { results := [.lit (.bool false)], args := [d1, d2, d3, d4] }
  | _ => none }
def ImageOrderWrongFalsely : Prop := imageOrderRow.holds Try.pinned (OpenSpec.ofChange imageOrderWrong)

/-- 'tephralaw09.ImageFull': WHATEVER THE INPUT: true; the input reads as it did. -/
def imageFullSpec : ChangeSpec := { name := "imageFull", fn := fun _ => fun
  | [d1, d2, d3] => { results := [.lit (.bool true)], args := [d1, d2, d3] }
  | _ => none }
def imageFullRow : OpenClaim := { program := "ytpdondaekinmdaa", sum := "9796c897263339e8ceb2dcada9438b8d52607e455bb9fef0560898a28f421602", func := "tephra/tephralaw09.ImageFull", spec := "imageFull", inPlace := ["slices.overlaps[tephra/sorted.item[int, tephra/api.Session]]", "slices.overlaps[tephra/sorted.item[string, string]]"], unfollowed := true, recurses := true, apart := false }
def ImageFullSaid : Prop := imageFullRow.holds Try.pinned (OpenSpec.ofChange imageFullSpec)

/-- ITS FALSE NEIGHBOUR: 'it returns false'. Refute it at one input. -/
def imageFullWrong : ChangeSpec := { name := "imageFull", fn := fun _ => fun
  | [d1, d2, d3] => { results := [.lit (.bool false)], args := [d1, d2, d3] }
  | _ => none }
def ImageFullWrongFalsely : Prop := imageFullRow.holds Try.pinned (OpenSpec.ofChange imageFullWrong)

/-- 'tephralaw09.ImageAny': WHATEVER THE INPUT: true; the input reads as it did. -/
def imageAnySpec : ChangeSpec := { name := "imageAny", fn := fun _ => fun
  | [d1, d2, d3, d4, d5] => { results := [.lit (.bool true)], args := [d1, d2, d3, d4, d5] }
  | _ => none }
def imageAnyRow : OpenClaim := { program := "ytpdondaekinmdaa", sum := "9796c897263339e8ceb2dcada9438b8d52607e455bb9fef0560898a28f421602", func := "tephra/tephralaw09.ImageAny", spec := "imageAny", inPlace := ["slices.overlaps[tephra/sorted.item[int, tephra/api.Session]]", "slices.overlaps[tephra/sorted.item[string, string]]"], unfollowed := true, recurses := true, apart := false }
def ImageAnySaid : Prop := imageAnyRow.holds Try.pinned (OpenSpec.ofChange imageAnySpec)

/-- ITS FALSE NEIGHBOUR: 'it returns false'. Refute it at one input. -/
def imageAnyWrong : ChangeSpec := { name := "imageAny", fn := fun _ => fun
  | [d1, d2, d3, d4, d5] => { results := [.lit (.bool false)], args := [d1, d2, d3, d4, d5] }
  | _ => none }
def ImageAnyWrongFalsely : Prop := imageAnyRow.holds Try.pinned (OpenSpec.ofChange imageAnyWrong)

/-- 'tephralaw09.ImageLong': WHATEVER THE INPUT: true; the input reads as it did. -/
def imageLongSpec : ChangeSpec := { name := "imageLong", fn := fun _ => fun
  | [d1, d2] => { results := [.lit (.bool true)], args := [d1, d2] }
  | _ => none }
def imageLongRow : OpenClaim := { program := "ytpdondaekinmdaa", sum := "9796c897263339e8ceb2dcada9438b8d52607e455bb9fef0560898a28f421602", func := "tephra/tephralaw09.ImageLong", spec := "imageLong", inPlace := ["slices.overlaps[tephra/sorted.item[int, tephra/api.Session]]", "slices.overlaps[tephra/sorted.item[string, string]]"], unfollowed := true, recurses := true, apart := false }
def ImageLongSaid : Prop := imageLongRow.holds Try.pinned (OpenSpec.ofChange imageLongSpec)

/-- ITS FALSE NEIGHBOUR: 'it returns false'. Refute it at one input. -/
def imageLongWrong : ChangeSpec := { name := "imageLong", fn := fun _ => fun
  | [d1, d2] => { results := [.lit (.bool false)], args := [d1, d2] }
  | _ => none }
def ImageLongWrongFalsely : Prop := imageLongRow.holds Try.pinned (OpenSpec.ofChange imageLongWrong)

/-- 'tephralaw09.ImageDelta': WHATEVER THE INPUT: true; the input reads as it did. -/
def imageDeltaSpec : ChangeSpec := { name := "imageDelta", fn := fun _ => fun
  | [d1, d2, d3] => { results := [.lit (.bool true)], args := [d1, d2, d3] }
  | _ => none }
def imageDeltaRow : OpenClaim := { program := "ytpdondaekinmdaa", sum := "9796c897263339e8ceb2dcada9438b8d52607e455bb9fef0560898a28f421602", func := "tephra/tephralaw09.ImageDelta", spec := "imageDelta", inPlace := ["slices.overlaps[tephra/sorted.item[int, tephra/api.Session]]", "slices.overlaps[tephra/sorted.item[string, string]]"], unfollowed := true, recurses := true, apart := false }
def ImageDeltaSaid : Prop := imageDeltaRow.holds Try.pinned (OpenSpec.ofChange imageDeltaSpec)

/-- ITS FALSE NEIGHBOUR: 'it returns false'. Refute it at one input. -/
def imageDeltaWrong : ChangeSpec := { name := "imageDelta", fn := fun _ => fun
  | [d1, d2, d3] => { results := [.lit (.bool false)], args := [d1, d2, d3] }
  | _ => none }
def ImageDeltaWrongFalsely : Prop := imageDeltaRow.holds Try.pinned (OpenSpec.ofChange imageDeltaWrong)

/- THE SECOND FORM. 'bulk': how many values and letters a reading holds, each counted each time it is reached (what is shared counts as often as it is met; a slice's spare places count too). A statement '..UptoSaid' is the law's where the arguments, and the package variables that the reading takes, are together of bulk at most 1048576: NARROWER than '..Said'. Prove '..Said' where nothing that the law and all that it calls make is longer than what came in: it says more and counts as full. Else prove '..UptoSaid'. A law counts once. -/
mutual
def uptoBulk {H : Type} : DataW H → Nat
  | .lit (.string bytes) => bytes.length + 1
  | .lit _ => 1
  | .nil => 1
  | .ptr d => uptoBulk d + 1
  | .slice elems spare => uptoBulkAll elems + uptoBulkAll spare + 1
  | .agg parts => uptoBulkAll parts + 1
  | .iface _ d => uptoBulk d + 1
  | .map entries => uptoBulkEntries entries + 1
  | .held _ => 1
def uptoBulkAll {H : Type} : List (DataW H) → Nat
  | [] => 0
  | d :: r => uptoBulk d + uptoBulkAll r
def uptoBulkEntries {H : Type} : List (Lit × DataW H) → Nat
  | [] => 0
  | x :: r => uptoBulkEntry x + uptoBulkEntries r
def uptoBulkEntry {H : Type} : Lit × DataW H → Nat
  | (.string bytes, d) => bytes.length + uptoBulk d + 1
  | (_, d) => uptoBulk d + 1
 end
def uptoSmall : (H : Type) → List (DataW H) → Bool := fun _ ds => decide (uptoBulkAll ds ≤ 1048576)
def OpenSpec.upto (s : _root_.Go.ChangeSpec) : _root_.Go.OpenSpec := { _root_.Go.OpenSpec.ofChange s with cond := some uptoSmall }

/-- 'tephralaw09.ImagePart', WHERE WHAT IT READS IS OF BULK AT MOST 1048576: true; the input reads as it did. -/
def imagePartUptoRow : OpenClaim := { program := "ytpdondaekinmdaa", sum := "9796c897263339e8ceb2dcada9438b8d52607e455bb9fef0560898a28f421602", func := "tephra/tephralaw09.ImagePart", spec := "imagePart", unfollowed := true, recurses := true, apart := false, narrowed := true }
def ImagePartUptoSaid : Prop := imagePartUptoRow.holds Try.pinned (OpenSpec.upto imagePartSpec)

/-- 'tephralaw09.ImageOrder', WHERE WHAT IT READS IS OF BULK AT MOST 1048576: true; the input reads as it did. -/
def imageOrderUptoRow : OpenClaim := { program := "ytpdondaekinmdaa", sum := "9796c897263339e8ceb2dcada9438b8d52607e455bb9fef0560898a28f421602", func := "tephra/tephralaw09.ImageOrder", spec := "imageOrder", unfollowed := true, recurses := true, apart := false, narrowed := true }
def ImageOrderUptoSaid : Prop := imageOrderUptoRow.holds Try.pinned (OpenSpec.upto imageOrderSpec)

/-- 'tephralaw09.ImageFull', WHERE WHAT IT READS IS OF BULK AT MOST 1048576: true; the input reads as it did. -/
def imageFullUptoRow : OpenClaim := { program := "ytpdondaekinmdaa", sum := "9796c897263339e8ceb2dcada9438b8d52607e455bb9fef0560898a28f421602", func := "tephra/tephralaw09.ImageFull", spec := "imageFull", inPlace := ["slices.overlaps[tephra/sorted.item[int, tephra/api.Session]]", "slices.overlaps[tephra/sorted.item[string, string]]"], unfollowed := true, recurses := true, apart := false, narrowed := true }
def ImageFullUptoSaid : Prop := imageFullUptoRow.holds Try.pinned (OpenSpec.upto imageFullSpec)

/-- 'tephralaw09.ImageAny', WHERE WHAT IT READS IS OF BULK AT MOST 1048576: true; the input reads as it did. -/
def imageAnyUptoRow : OpenClaim := { program := "ytpdondaekinmdaa", sum := "9796c897263339e8ceb2dcada9438b8d52607e455bb9fef0560898a28f421602", func := "tephra/tephralaw09.ImageAny", spec := "imageAny", inPlace := ["slices.overlaps[tephra/sorted.item[int, tephra/api.Session]]", "slices.overlaps[tephra/sorted.item[string, string]]"], unfollowed := true, recurses := true, apart := false, narrowed := true }
def ImageAnyUptoSaid : Prop := imageAnyUptoRow.holds Try.pinned (OpenSpec.upto imageAnySpec)

/-- 'tephralaw09.ImageLong', WHERE WHAT IT READS IS OF BULK AT MOST 1048576: true; the input reads as it did. -/
def imageLongUptoRow : OpenClaim := { program := "ytpdondaekinmdaa", sum := "9796c897263339e8ceb2dcada9438b8d52607e455bb9fef0560898a28f421602", func := "tephra/tephralaw09.ImageLong", spec := "imageLong", inPlace := ["slices.overlaps[tephra/sorted.item[int, tephra/api.Session]]", "slices.overlaps[tephra/sorted.item[string, string]]"], unfollowed := true, recurses := true, apart := false, narrowed := true }
def ImageLongUptoSaid : Prop := imageLongUptoRow.holds Try.pinned (OpenSpec.upto imageLongSpec)

/-- 'tephralaw09.ImageDelta', WHERE WHAT IT READS IS OF BULK AT MOST 1048576: true; the input reads as it did. -/
def imageDeltaUptoRow : OpenClaim := { program := "ytpdondaekinmdaa", sum := "9796c897263339e8ceb2dcada9438b8d52607e455bb9fef0560898a28f421602", func := "tephra/tephralaw09.ImageDelta", spec := "imageDelta", inPlace := ["slices.overlaps[tephra/sorted.item[int, tephra/api.Session]]", "slices.overlaps[tephra/sorted.item[string, string]]"], unfollowed := true, recurses := true, apart := false, narrowed := true }
def ImageDeltaUptoSaid : Prop := imageDeltaUptoRow.holds Try.pinned (OpenSpec.upto imageDeltaSpec)

end Rows
end Go.Proofs.Ytpdondaekinmdaa
