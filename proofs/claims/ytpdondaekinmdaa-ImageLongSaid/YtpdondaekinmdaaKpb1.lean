/- PACK: Reader.Bad. -/
import Derived.Test.YtpdondaekinmdaaKp6
set_option linter.all false
set_option linter.constructorNameAsVariable false
namespace Go.Proofs
open Go Go.KC

theorem Reader_Bad_spec {H : Hp} {b : Nat} {D : List Nat} {bad : Bool} {xs : List UInt8} (h : Rd H b D bad xs) :
    SCalls Try.prog pack_Reader_Bad.id [.pointer (some ⟨b, 0, none⟩)] H fun r H' => r = .bool bad ∧ H' = H := by
  obtain ⟨x, h1, h2, h3, h4⟩ := h
  apply pack_Reader_Bad.calls
  refine ⟨bad, ?_, rfl, rfl⟩
  rw [Addr.add_loc, cell_of h1]; rfl

end Go.Proofs
