/- DELTAS: Right of rows that may be. -/
import Derived.Test.YthehagkjoofjiaaKd9
import Derived.Test.YthehagkjoofjiaaKx5
set_option linter.all false
set_option linter.constructorNameAsVariable false
namespace Go.Proofs
open Go Go.KC
variable {H : Hp}
theorem DRight_yes {d : Dl} {p s : Sl} (hr : RR H p s d.ps d.xs) (h : 0 ≤ d.from ∧ d.from ≤ d.to ∧ d.to ≤ 1048576 ∧ 0 ≤ d.term ∧ d.term ≤ 1048576) (ok : RowsOk d.ps d.xs 512) (hl : p.len ≤ 100000 ∧ s.len ≤ 100000) :
    SCalls Try.prog delta_Right.id [dlV d p s] H (TellPost H (.bool true)) := by
  apply delta_Right.calls (dFrom := d.from) (dTo := d.to) (dTerm := d.term) (dPairs := p) (dSessions := s)
  intro H1 h1
  obtain ⟨m1, _⟩ := hole_facts h1
  refine Br.yes (decide_eq_true h.1) ?_
  apply delta_Right.k1.step; unfold delta_Right.k1.body
  refine Br.yes (decide_eq_true h.2.1) ?_
  apply delta_Right.k2.step; unfold delta_Right.k2.body
  refine Br.yes (decide_eq_true h.2.2.1) ?_
  apply delta_Right.k3.step; unfold delta_Right.k3.body
  refine Br.yes (decide_eq_true h.2.2.2.1) ?_
  apply delta_Right.k4.step; unfold delta_Right.k4.body
  refine Br.yes (decide_eq_true h.2.2.2.2) ?_
  have := RightRows_spec (most := 512) (hr.mod m1) (by omega) (by omega)
  rw [decide_eq_true ok] at this
  exact bool_step this m1 fun H2 m2 => ⟨rfl, m2⟩
end Go.Proofs
