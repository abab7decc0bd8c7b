/- STATES: pairs and sessions. -/
import Derived.Test.YtpdondaekinmdaaKm4
set_option linter.all false
set_option linter.constructorNameAsVariable false
namespace Go.Proofs
open Go Go.KC
/-- A session. -/
structure Se where
  client : Int
  seq : Int
  err : Int
  value : ByteArray
  deriving DecidableEq
/-- A pair. -/
structure Pr where
  key : ByteArray
  value : ByteArray
  gone : Bool
  deriving DecidableEq
theorem rowAt_drop {H : Hp} {a : Addr} {v : Value} {vs : List Value} (h : RowAt H a (v :: vs)) : RowAt H (a.add 1) vs := fun j u hj => by
  have h0 := h 0 v rfl
  have hs : a.spot = none := by have := spot_of_cell h0; simpa [Addr.add] using this
  rw [add_add _ _ _ hs, Nat.add_comm]
  exact h (j + 1) u (by simpa using hj)
end Go.Proofs
