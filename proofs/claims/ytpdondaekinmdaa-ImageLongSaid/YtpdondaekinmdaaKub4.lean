/- STATES: Same. -/
import Derived.Test.YtpdondaekinmdaaKub3
set_option linter.all false
set_option linter.constructorNameAsVariable false
namespace Go.Proofs
open Go Go.KC
section
variable {H : Hp}
theorem Same_spec {i t i' t' : Int} {p s p' s' : Sl} {ps ps' : List Pr} {xs xs' : List Se} (hr : RR H p s ps xs) (hr' : RR H p' s' ps' xs') (hl : (stB i t ps xs).length ≤ 140737488355328) (hl' : (stB i' t' ps' xs').length ≤ 140737488355328) :
    SCalls Try.prog state_Same.id [.agg #[.int .i64 i, .int .i64 t, .slice p.a p.len p.cap, .slice s.a s.len s.cap], .agg #[.int .i64 i', .int .i64 t', .slice p'.a p'.len p'.cap, .slice s'.a s'.len s'.cap]] H (TellPost H (.bool (decide (stB i t ps xs = stB i' t' ps' xs')))) := by
  apply state_Same.calls (aIndex := i) (aTerm := t) (aPairs := p) (aSessions := s) (bIndex := i') (bTerm := t') (bPairs := p') (bSessions := s')
  intro H1 e1 H2 e2
  obtain ⟨m1, s1⟩ := hole_facts e1
  obtain ⟨m2, s2⟩ := hole_facts e2
  refine (Bytes_spec (hr.mod (m1.trans m2)) hl).mono ?_
  rintro r H3 ⟨x, rfl, o3, m3, b3⟩
  have m03 := m1.trans (m2.trans m3)
  refine ⟨x, rfl, b2s_imp (bytes_str o3) ?_, ?_⟩
  · rintro _ rfl
    refine (Bytes_spec (hr'.mod m03) hl').mono ?_
    rintro r H4 ⟨x1, rfl, o4, m4, b4⟩
    refine ⟨x1, rfl, b2s_imp (bytes_str o4) ?_⟩
    rintro _ rfl
    rw [same_bytes]
    exact ⟨rfl, m03.trans m4⟩
  · refine (Bytes_spec (hr'.mod m03) hl').mono ?_
    rintro r H4 ⟨x1, rfl, o4, m4, b4⟩
    have o3' := o3.keep m4 fun _ _ e => e
    refine ⟨x1, rfl, b2s_imp (bytes_str o3') ?_, b2s_imp (bytes_str o4) ?_⟩
    · rintro _ rfl
      refine b2s_imp (bytes_str o4) ?_
      rintro _ rfl
      rw [same_bytes]
      exact ⟨rfl, m03.trans m4⟩
    · rintro _ rfl
      refine b2s_imp (bytes_str o3') ?_
      rintro _ rfl
      rw [same_bytes]
      exact ⟨rfl, m03.trans m4⟩

theorem Same_of {p s p' s' : Sl} {st st' : Stt} (h : SR H p s st) (h' : SR H p' s' st') (ok : st.Ok) (ok' : st'.Ok) :
    SCalls Try.prog state_Same.id [stV st p s, stV st' p' s'] H (TellPost H (.bool (decide (st.bytes = st'.bytes)))) :=
  Same_spec h.rr h'.rr (by have := Stt.bytes_le ok; unfold Stt.bytes at this; omega) (by have := Stt.bytes_le ok'; unfold Stt.bytes at this; omega)
end
end Go.Proofs
