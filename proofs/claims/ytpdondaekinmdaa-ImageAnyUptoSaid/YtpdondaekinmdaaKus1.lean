/- ARGUMENTS: a slice is no longer than what it reads as. -/
import Derived.Test.YtpdondaekinmdaaKq7
set_option linter.all false
set_option linter.constructorNameAsVariable false
namespace Go.Proofs
open Go Go.KC Go.WideShapes Go.ChangeShapes Go.RowKit
section
variable {H : Type} {enc : TypeId × Value → H} {P : Program} {W : World} {base : Nat} {spare : Nat → Bool} {held : Bool} {B : DataW H → Nat}
/-- A slice is no longer than what it reads as. -/
theorem sliceLen (hB : ∀ es sp, es.length ≤ B (.slice es sp)) {t e : TypeId} {a0 : Option Addr} {len cap : Nat} {x : DataW H} {p : List MemPlace} (hu : P.underlying t = some (.slice e))
    (h : DataW.Trod enc P W base spare held t (.slice a0 len cap) x p) : len ≤ B x := by
  obtain ⟨n, hfu⟩ := h
  rcases DataW.trod_slice hu hfu with ⟨hcs, hx⟩ | ⟨a, len', cap', elems, rest, n', _, hcs, hx, hb, hl, hm, hlen, hel, _, _⟩
  · have e : Value.slice a0 len cap = .slice none 0 0 := by simpa [Value.cells] using hcs
    cases e
    exact Nat.zero_le _
  · have e : Value.slice a0 len cap = .slice (some a) len' cap' := by simpa [Value.cells] using hcs
    cases e
    obtain rfl : x = _ := congrArg Prod.fst hx
    have := hB (elems.map (·.1)) (rest.map (·.1))
    rw [List.length_map] at this
    show len ≤ B (.slice (elems.map (·.1)) (rest.map (·.1)))
    omega
end
end Go.Proofs
