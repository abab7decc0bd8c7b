/- LAYER 13: logs, part 1. -/
import Derived.Test.YtbodlapndgnkgaaKe2
import Derived.Test.YtbodlapndgnkgaaKe4
set_option linter.all false
set_option linter.constructorNameAsVariable false
namespace Go.Proofs
open Go Go.KC

/-- A log's value. -/
def lgv (b t : Int) (x : Sl) : Value := .agg #[.int .i64 b, .int .i64 t, .slice x.a x.len x.cap]
def termAt (b t : Int) (es : List En) (i : Int) : Int × Bool :=
  if i = b then (t, true) else if i < b ∨ i > b + es.length then (0, false) else ((es.getD (i - b - 1).toNat En.zero).term, true)
def tb (p : Int × Bool) : Value := .tuple #[.int .i64 p.1, .bool p.2]
def lastTerm (b t : Int) (es : List En) : Int := (termAt b t es (b + es.length)).1
def newer (b t : Int) (es : List En) (i u : Int) : Bool := decide (u > lastTerm b t es ∨ (u = lastTerm b t es ∧ i ≥ b + es.length))

section
variable {H : Hp} {x : Sl} {es : List En} {b t : Int}
theorem Last_spec (hb : nice b) (hl : x.len ≤ 1000000000) : SCalls Try.prog rlog_Log_Last.id [lgv b t x] H (TellPost H (.int .i64 (b + (x.len : Int)))) := by
  apply rlog_Log_Last.calls
  unfold nice at hb
  refine ⟨?_, Mod.holes _ _ _⟩
  rw [w64_id (by omega) (by omega)]

theorem TermAt_spec {i : Int} (hb : nice b) (hl : x.len ≤ 1000000000) (h : Lr H x es) : SCalls Try.prog rlog_Log_TermAt.id [lgv b t x, .int .i64 i] H (TellPost H (tb (termAt b t es i))) := by
  apply rlog_Log_TermAt.calls
  have hlen := h.len
  have hb' := hb
  unfold nice at hb'
  have m0 : Mod (fun _ => False) H (holes H 1) := Mod.holes _ _ _
  have k1f : ∀ H', (i < b ∨ i > b + es.length) → i ≠ b → Mod (fun _ => False) H H' → rlog_Log_TermAt.k1 J0 b t x i true H' (TellPost H (tb (termAt b t es i))) := by
    intro H' hc hne m
    apply rlog_Log_TermAt.k1.step; unfold rlog_Log_TermAt.k1.body
    refine Br.yes rfl ⟨?_, m⟩
    unfold termAt; rw [if_neg hne, if_pos hc]; rfl
  by_cases h1 : i = b
  · refine Br.yes (beq_iff_eq.2 h1) ⟨?_, m0⟩
    unfold termAt; rw [if_pos h1]; rfl
  refine Br.no (beq_eq_false_iff_ne.2 h1) ?_
  by_cases h2 : i < b
  · exact Br.yes (decide_eq_true h2) (k1f _ (Or.inl h2) h1 m0)
  refine Br.no (decide_eq_false h2) ((Last_spec hb hl).mono ?_)
  rintro r H1 ⟨rfl, m1⟩
  refine ⟨_, rfl, ?_⟩
  by_cases h3 : i > b + (x.len : Int)
  · rw [decide_eq_true h3]; exact k1f _ (Or.inr (by omega)) h1 (m0.trans m1)
  rw [decide_eq_false h3]
  apply rlog_Log_TermAt.k1.step; unfold rlog_Log_TermAt.k1.body
  rw [w64_id (x := i - b) (by omega) (by omega), w64_id (by omega) (by omega)]
  have hj : (i - b - 1).toNat < es.length := by omega
  obtain ⟨a, ha, hrow⟩ := (h.mod (m0.trans m1)).get hj
  refine Br.no rfl ⟨⟨by omega, by omega⟩, vPtr.mk a ha ⟨(es[(i - b - 1).toNat]).term, hrow 1 _ rfl, ?_, m0.trans m1⟩⟩
  unfold termAt; rw [if_neg h1, if_neg (by omega)]
  simp only [tb, List.getD_eq_getElem?_getD, List.getElem?_eq_getElem hj, Option.getD_some]

theorem LastTerm_spec (hb : nice b) (hl : x.len ≤ 100000000) (hn : nice (b + (x.len : Int))) (h : Lr H x es) : SCalls Try.prog rlog_Log_LastTerm.id [lgv b t x] H (TellPost H (.int .i64 (lastTerm b t es))) := by
  apply rlog_Log_LastTerm.calls
  have m0 : Mod (fun _ => False) H (holes H 1) := Mod.holes _ _ _
  have hlen := h.len
  refine (Last_spec hb (by omega)).mono ?_
  rintro r H1 ⟨rfl, m1⟩
  refine ⟨_, rfl, (TermAt_spec hb (by omega) (h.mod (m0.trans m1))).mono ?_⟩
  rintro r H2 ⟨rfl, m2⟩
  refine ⟨_, _, rfl, ?_, m0.trans (m1.trans m2)⟩
  unfold lastTerm; rw [hlen]

theorem Newer_spec {i u : Int} (hb : nice b) (hl : x.len ≤ 100000000) (hn : nice (b + (x.len : Int))) (h : Lr H x es) : SCalls Try.prog rlog_Log_Newer.id [lgv b t x, .int .i64 i, .int .i64 u] H (TellPost H (.bool (newer b t es i u))) := by
  apply rlog_Log_Newer.calls
  have m0 : Mod (fun _ => False) H (holes H 1) := Mod.holes _ _ _
  have hlen := h.len
  refine (LastTerm_spec hb hl hn (h.mod m0)).mono ?_
  rintro r H1 ⟨rfl, m1⟩
  refine ⟨_, rfl, ?_⟩
  unfold newer
  by_cases h1 : u > lastTerm b t es
  · refine Br.yes (decide_eq_true h1) ⟨?_, m0.trans m1⟩
    rw [decide_eq_true (Or.inl h1)]
  refine Br.no (decide_eq_false h1) ((LastTerm_spec hb hl hn (h.mod (m0.trans m1))).mono ?_)
  rintro r H2 ⟨rfl, m2⟩
  refine ⟨_, rfl, ?_⟩
  by_cases h2 : u = lastTerm b t es
  · refine Br.yes (beq_iff_eq.2 h2) ((Last_spec hb (by omega)).mono ?_)
    rintro r H3 ⟨rfl, m3⟩
    refine ⟨_, rfl, congrArg Value.bool (decide_eq_decide.2 ?_), m0.trans (m1.trans (m2.trans m3))⟩
    rw [hlen]; omega
  · refine Br.no (beq_eq_false_iff_ne.2 h2) ⟨?_, m0.trans (m1.trans m2)⟩
    rw [decide_eq_false fun h => h.elim h1 fun h => h2 h.1]

theorem Clone_spec (h : Lr H x es) (hl : x.len ≤ 1000000000) : SCalls Try.prog rlog_Log_Clone.id [lgv b t x] H fun r H' => ∃ y : Sl, r = lgv b t y ∧ Eo H H' y es := by
  apply rlog_Log_Clone.calls
  have m0 : Mod (fun _ => False) H (holes H 2) := Mod.holes _ _ _
  refine (slices_Clone_spec (h.mod m0) hl).mono ?_
  rintro r H1 ⟨y, rfl, hy⟩
  exact ⟨y, rfl, y, rfl, hy.from m0⟩

end
end Go.Proofs
