/- LAYER 14: the deeds that a law does. -/
import Derived.Test.YtbodlapndgnkgaaKno12
set_option linter.all false
set_option linter.constructorNameAsVariable false
set_option maxRecDepth 100000
namespace Go.Proofs
open Go Go.KC
section
variable {H : Hp} {acts : Sl} {ds : List Ac}
/-- The deeds that a law does. -/
theorem acts_cut {n : Nat} (hr : Rows H acts 20 (ds.map Ac.cells).flatten) (hl : ds.length = acts.len) : Rows H ⟨cutA acts.a acts.cap 0 20, min n acts.len, acts.cap⟩ 20 ((ds.take n).map Ac.cells).flatten := by
  have := Rows.take hr (n := min n acts.len) (by omega)
  have e : (ds.map Ac.cells).flatten.take (min n acts.len * 20) = ((ds.take n).map Ac.cells).flatten := by
    rw [← flat_take (f := Ac.cells) (k := 20) (fun _ => rfl)]
    congr 1
    rw [← hl]; exact congrArg (List.map Ac.cells) List.take_eq_take_min.symm
  rw [e] at this
  exact this
end
end Go.Proofs
