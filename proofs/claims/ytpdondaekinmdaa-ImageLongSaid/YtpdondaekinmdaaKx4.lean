/- STATES: Some: the walk (as in Ku6). -/
import Derived.Test.YtpdondaekinmdaaKx1
set_option linter.all false
set_option linter.constructorNameAsVariable false
namespace Go.Proofs
open Go Go.KC
section
variable {H : Hp}
/-- The state behind entries of says. -/
def someM (ss : List Sy) : Stt := foldM .zero (ents (ss.take 80) 1 0)
theorem someM_ok (ss : List Sy) : (someM ss).Ok := foldM_ok Stt.zero_ok _
theorem Some_spec {says : Sl} {ss : List Sy} (hr : Rows H says 6 (ss.map Sy.cells).flatten) (hl : ss.length = says.len) :
    SCalls Try.prog tephralaw07_Some.id [.slice says.a says.len says.cap] H (FP H (someM ss)) := by
  apply tephralaw07_Some.calls
  intro H1 e1
  obtain ⟨m1, s1⟩ := hole_facts e1
  refine (Entries_spec (n := 1) (t := 0) (hr.keep m1 fun _ _ e => e) hl).mono ?_
  rintro r H2 ⟨x, rfl, o, hx, f, _⟩
  have hlen : (ents (ss.take 80) 1 0).length ≤ 80 := by rw [ents_length, List.length_take]; omega
  refine ⟨x, rfl, (Fold_spec (st := .zero) (SR.zero _) Stt.zero_ok (Own.rows o) (by omega)).mono ?_⟩
  rintro r1 H3 ⟨p', s', rfl, sr, m3⟩
  exact ⟨_, _, p', s', rfl, p', s', rfl, sr, m1.trans ((Mod.fresh f fun _ h => h).trans m3)⟩

end
end Go.Proofs
