/-
  No cell of these rows narrows 'for every input' (looked for: loops, veiled, ifaces, maps, wideKeys, modest, calm, conditions, laid).
  DERIVED. THE GIVEN ROWS OF THIS SEAT. 7 by the template 'for every input the law returns true; each argument reads behind the call as it read before'; 0 by the template 'total and deterministic' (their statements: YtllkdgnagjciiaaTotals.lean).
  GIVEN WITH THE SEED: the statements are not yours to turn. If you find one false, say at which input.
  Laid BY PROGRAM, IN A SANDBOX (cutbox-rows.mjs): the forced cells as the released guide's own fill.sh prints them over the translation e7178c9f16bed7c1… (all of the seat's roots in one cut). By AI agents, Wed Nov 11 2026. No macro, syntax, notation, axiom, sorry.
-/
import Derived.Test.YtllkdgnagjciiaaChecked
import GoSem.Claim
import GoSem.ClaimJoined
import GoSem.ClaimMapViews
import Derived.JoinedTies
import Derived.KernelRfl
namespace Go.Proofs.Ytllkdgnagjciiaa
/- THE CELL 'sum', in the pinned program and in every row, IS THE sha256 OF THE DUMP (.gsa) THAT YtllkdgnagjciiaaProg.lean LOADS. Nothing in Lean hashes anything: it is a label: what it is worth is what the hold of that sum in a sandbox is worth. -/
noncomputable def Try.pinned : Pinned := { name := "ytllkdgnagjciiaa", sum := "e7178c9f16bed7c1039c679e0a31b32d059a689b092d363385ba7fa0f64d78fc", checked := Try.checked }
namespace Rows
def none {H : Type} : Left H := { results := [], args := [] }

/-- 'tephralaw01.PackAny': WHATEVER THE INPUT: true; the input reads as it did. -/
def packAnySpec : ChangeSpec := { name := "packAny", fn := fun _ => fun
  | [d1, d2] => { results := [.lit (.bool true)], args := [d1, d2] }
  | _ => none }
def packAnyRow : OpenClaim := { program := "ytllkdgnagjciiaa", sum := "e7178c9f16bed7c1039c679e0a31b32d059a689b092d363385ba7fa0f64d78fc", func := "tephra/tephralaw01.PackAny", spec := "packAny", apart := false }
def PackAnySaid : Prop := packAnyRow.holds Try.pinned (OpenSpec.ofChange packAnySpec)

/-- ITS FALSE NEIGHBOUR: 'it returns false'. Refute it at one input. -/
def packAnyWrong : ChangeSpec := { name := "packAny", fn := fun _ => fun
  | [d1, d2] => { results := [.lit (.bool false)], args := [d1, d2] }
  | _ => none }
def PackAnyWrongFalsely : Prop := packAnyRow.holds Try.pinned (OpenSpec.ofChange packAnyWrong)

/-- 'tephralaw01.PackKeeps': WHATEVER THE INPUT: true; the input reads as it did. -/
def packKeepsSpec : ChangeSpec := { name := "packKeeps", fn := fun _ => fun
  | [d1, d2] => { results := [.lit (.bool true)], args := [d1, d2] }
  | _ => none }
def packKeepsRow : OpenClaim := { program := "ytllkdgnagjciiaa", sum := "e7178c9f16bed7c1039c679e0a31b32d059a689b092d363385ba7fa0f64d78fc", func := "tephra/tephralaw01.PackKeeps", spec := "packKeeps", apart := false }
def PackKeepsSaid : Prop := packKeepsRow.holds Try.pinned (OpenSpec.ofChange packKeepsSpec)

/-- ITS FALSE NEIGHBOUR: 'it returns false'. Refute it at one input. -/
def packKeepsWrong : ChangeSpec := { name := "packKeeps", fn := fun _ => fun
  | [d1, d2] => { results := [.lit (.bool false)], args := [d1, d2] }
  | _ => none }
def PackKeepsWrongFalsely : Prop := packKeepsRow.holds Try.pinned (OpenSpec.ofChange packKeepsWrong)

/-- 'tephralaw01.PackMany': WHATEVER THE INPUT: true; the input reads as it did. -/
def packManySpec : ChangeSpec := { name := "packMany", fn := fun _ => fun
  | [d] => { results := [.lit (.bool true)], args := [d] }
  | _ => none }
def packManyRow : OpenClaim := { program := "ytllkdgnagjciiaa", sum := "e7178c9f16bed7c1039c679e0a31b32d059a689b092d363385ba7fa0f64d78fc", func := "tephra/tephralaw01.PackMany", spec := "packMany", apart := false }
def PackManySaid : Prop := packManyRow.holds Try.pinned (OpenSpec.ofChange packManySpec)

/-- ITS FALSE NEIGHBOUR: 'it returns false'. Refute it at one input. -/
def packManyWrong : ChangeSpec := { name := "packMany", fn := fun _ => fun
  | [d] => { results := [.lit (.bool false)], args := [d] }
  | _ => none }
def PackManyWrongFalsely : Prop := packManyRow.holds Try.pinned (OpenSpec.ofChange packManyWrong)

/-- 'tephralaw01.PackLays': WHATEVER THE INPUT: true; the input reads as it did. -/
def packLaysSpec : ChangeSpec := { name := "packLays", fn := fun _ => fun
  | [d] => { results := [.lit (.bool true)], args := [d] }
  | _ => none }
def packLaysRow : OpenClaim := { program := "ytllkdgnagjciiaa", sum := "e7178c9f16bed7c1039c679e0a31b32d059a689b092d363385ba7fa0f64d78fc", func := "tephra/tephralaw01.PackLays", spec := "packLays", apart := false }
def PackLaysSaid : Prop := packLaysRow.holds Try.pinned (OpenSpec.ofChange packLaysSpec)

/-- ITS FALSE NEIGHBOUR: 'it returns false'. Refute it at one input. -/
def packLaysWrong : ChangeSpec := { name := "packLays", fn := fun _ => fun
  | [d] => { results := [.lit (.bool false)], args := [d] }
  | _ => none }
def PackLaysWrongFalsely : Prop := packLaysRow.holds Try.pinned (OpenSpec.ofChange packLaysWrong)

/-- 'tephralaw01.PackShort': WHATEVER THE INPUT: true; the input reads as it did. -/
def packShortSpec : ChangeSpec := { name := "packShort", fn := fun _ => fun
  | [d1, d2] => { results := [.lit (.bool true)], args := [d1, d2] }
  | _ => none }
def packShortRow : OpenClaim := { program := "ytllkdgnagjciiaa", sum := "e7178c9f16bed7c1039c679e0a31b32d059a689b092d363385ba7fa0f64d78fc", func := "tephra/tephralaw01.PackShort", spec := "packShort", apart := false }
def PackShortSaid : Prop := packShortRow.holds Try.pinned (OpenSpec.ofChange packShortSpec)

/-- ITS FALSE NEIGHBOUR: 'it returns false'. Refute it at one input. -/
def packShortWrong : ChangeSpec := { name := "packShort", fn := fun _ => fun
  | [d1, d2] => { results := [.lit (.bool false)], args := [d1, d2] }
  | _ => none }
def PackShortWrongFalsely : Prop := packShortRow.holds Try.pinned (OpenSpec.ofChange packShortWrong)

/-- 'tephralaw01.PackApart': WHATEVER THE INPUT: true; the input reads as it did. -/
def packApartSpec : ChangeSpec := { name := "packApart", fn := fun _ => fun
  | [d1, d2] => { results := [.lit (.bool true)], args := [d1, d2] }
  | _ => none }
def packApartRow : OpenClaim := { program := "ytllkdgnagjciiaa", sum := "e7178c9f16bed7c1039c679e0a31b32d059a689b092d363385ba7fa0f64d78fc", func := "tephra/tephralaw01.PackApart", spec := "packApart", apart := false }
def PackApartSaid : Prop := packApartRow.holds Try.pinned (OpenSpec.ofChange packApartSpec)

/-- ITS FALSE NEIGHBOUR: 'it returns false'. Refute it at one input. -/
def packApartWrong : ChangeSpec := { name := "packApart", fn := fun _ => fun
  | [d1, d2] => { results := [.lit (.bool false)], args := [d1, d2] }
  | _ => none }
def PackApartWrongFalsely : Prop := packApartRow.holds Try.pinned (OpenSpec.ofChange packApartWrong)

/-- 'tephralaw01.PackTexts': WHATEVER THE INPUT: true; the input reads as it did. -/
def packTextsSpec : ChangeSpec := { name := "packTexts", fn := fun _ => fun
  | [d1, d2] => { results := [.lit (.bool true)], args := [d1, d2] }
  | _ => none }
def packTextsRow : OpenClaim := { program := "ytllkdgnagjciiaa", sum := "e7178c9f16bed7c1039c679e0a31b32d059a689b092d363385ba7fa0f64d78fc", func := "tephra/tephralaw01.PackTexts", spec := "packTexts", apart := false }
def PackTextsSaid : Prop := packTextsRow.holds Try.pinned (OpenSpec.ofChange packTextsSpec)

/-- ITS FALSE NEIGHBOUR: 'it returns false'. Refute it at one input. -/
def packTextsWrong : ChangeSpec := { name := "packTexts", fn := fun _ => fun
  | [d1, d2] => { results := [.lit (.bool false)], args := [d1, d2] }
  | _ => none }
def PackTextsWrongFalsely : Prop := packTextsRow.holds Try.pinned (OpenSpec.ofChange packTextsWrong)

/- THE SECOND FORM. 'bulk': how many values and letters a reading holds, each counted each time it is reached (what is shared counts as often as it is met; a slice's spare places count too). A statement '..UptoSaid' is the law's where the arguments, and the package variables that the reading takes, are together of bulk at most 1048576: NARROWER than '..Said'. Prove '..Said' where nothing that the law and all that it calls make is longer than what came in: it says more and counts as full. Else prove '..UptoSaid'. A law counts once. -/
mutual
def uptoBulk {H : Type} : DataW H → Nat
  | .lit (.string bytes) => bytes.length + 1
  | .lit _ => 1
  | .nil => 1
  | .ptr d => uptoBulk d + 1
  | .slice elems spare => uptoBulkAll elems + uptoBulkAll spare + 1
  | .agg parts => uptoBulkAll parts + 1
  | .iface _ d => uptoBulk d + 1
  | .map entries => uptoBulkEntries entries + 1
  | .held _ => 1
def uptoBulkAll {H : Type} : List (DataW H) → Nat
  | [] => 0
  | d :: r => uptoBulk d + uptoBulkAll r
def uptoBulkEntries {H : Type} : List (Lit × DataW H) → Nat
  | [] => 0
  | x :: r => uptoBulkEntry x + uptoBulkEntries r
def uptoBulkEntry {H : Type} : Lit × DataW H → Nat
  | (.string bytes, d) => bytes.length + uptoBulk d + 1
  | (_, d) => uptoBulk d + 1
 end
def uptoSmall : (H : Type) → List (DataW H) → Bool := fun _ ds => decide (uptoBulkAll ds ≤ 1048576)
def OpenSpec.upto (s : _root_.Go.ChangeSpec) : _root_.Go.OpenSpec := { _root_.Go.OpenSpec.ofChange s with cond := some uptoSmall }

/-- 'tephralaw01.PackAny', WHERE WHAT IT READS IS OF BULK AT MOST 1048576: true; the input reads as it did. -/
def packAnyUptoRow : OpenClaim := { program := "ytllkdgnagjciiaa", sum := "e7178c9f16bed7c1039c679e0a31b32d059a689b092d363385ba7fa0f64d78fc", func := "tephra/tephralaw01.PackAny", spec := "packAny", apart := false, narrowed := true }
def PackAnyUptoSaid : Prop := packAnyUptoRow.holds Try.pinned (OpenSpec.upto packAnySpec)

/-- 'tephralaw01.PackKeeps', WHERE WHAT IT READS IS OF BULK AT MOST 1048576: true; the input reads as it did. -/
def packKeepsUptoRow : OpenClaim := { program := "ytllkdgnagjciiaa", sum := "e7178c9f16bed7c1039c679e0a31b32d059a689b092d363385ba7fa0f64d78fc", func := "tephra/tephralaw01.PackKeeps", spec := "packKeeps", apart := false, narrowed := true }
def PackKeepsUptoSaid : Prop := packKeepsUptoRow.holds Try.pinned (OpenSpec.upto packKeepsSpec)

/-- 'tephralaw01.PackMany', WHERE WHAT IT READS IS OF BULK AT MOST 1048576: true; the input reads as it did. -/
def packManyUptoRow : OpenClaim := { program := "ytllkdgnagjciiaa", sum := "e7178c9f16bed7c1039c679e0a31b32d059a689b092d363385ba7fa0f64d78fc", func := "tephra/tephralaw01.PackMany", spec := "packMany", apart := false, narrowed := true }
def PackManyUptoSaid : Prop := packManyUptoRow.holds Try.pinned (OpenSpec.upto packManySpec)

/-- 'tephralaw01.PackLays', WHERE WHAT IT READS IS OF BULK AT MOST 1048576: true; the input reads as it did. -/
def packLaysUptoRow : OpenClaim := { program := "ytllkdgnagjciiaa", sum := "e7178c9f16bed7c1039c679e0a31b32d059a689b092d363385ba7fa0f64d78fc", func := "tephra/tephralaw01.PackLays", spec := "packLays", apart := false, narrowed := true }
def PackLaysUptoSaid : Prop := packLaysUptoRow.holds Try.pinned (OpenSpec.upto packLaysSpec)

/-- 'tephralaw01.PackShort', WHERE WHAT IT READS IS OF BULK AT MOST 1048576: true; the input reads as it did. -/
def packShortUptoRow : OpenClaim := { program := "ytllkdgnagjciiaa", sum := "e7178c9f16bed7c1039c679e0a31b32d059a689b092d363385ba7fa0f64d78fc", func := "tephra/tephralaw01.PackShort", spec := "packShort", apart := false, narrowed := true }
def PackShortUptoSaid : Prop := packShortUptoRow.holds Try.pinned (OpenSpec.upto packShortSpec)

/-- 'tephralaw01.PackApart', WHERE WHAT IT READS IS OF BULK AT MOST 1048576: true; the input reads as it did. -/
def packApartUptoRow : OpenClaim := { program := "ytllkdgnagjciiaa", sum := "e7178c9f16bed7c1039c679e0a31b32d059a689b092d363385ba7fa0f64d78fc", func := "tephra/tephralaw01.PackApart", spec := "packApart", apart := false, narrowed := true }
def PackApartUptoSaid : Prop := packApartUptoRow.holds Try.pinned (OpenSpec.upto packApartSpec)

/-- 'tephralaw01.PackTexts', WHERE WHAT IT READS IS OF BULK AT MOST 1048576: true; the input reads as it did. -/
def packTextsUptoRow : OpenClaim := { program := "ytllkdgnagjciiaa", sum := "e7178c9f16bed7c1039c679e0a31b32d059a689b092d363385ba7fa0f64d78fc", func := "tephra/tephralaw01.PackTexts", spec := "packTexts", apart := false, narrowed := true }
def PackTextsUptoSaid : Prop := packTextsUptoRow.holds Try.pinned (OpenSpec.upto packTextsSpec)

end Rows
end Go.Proofs.Ytllkdgnagjciiaa
