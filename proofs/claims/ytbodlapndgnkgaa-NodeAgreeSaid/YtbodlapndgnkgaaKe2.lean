/- ENTRIES, part 2: May, Right, Row, Say.Cmd, Entries: the walks. -/
import Derived.Test.YtbodlapndgnkgaaKe3
set_option linter.all false
set_option linter.constructorNameAsVariable false
namespace Go.Proofs
open Go Go.KC

section
variable {H : Hp}
theorem cmds_May_spec {c : Cm} : SCalls Try.prog cmds_May.id [c.val] H (TellPost H (.bool (decide c.May))) := by
  apply cmds_May.calls
  have m0 : Mod (fun _ => False) H (holes H 1) := Mod.holes _ _ _
  have fin : ∀ {v : Bool} {H'}, H' = holes H 1 → v = decide c.May → TellPost H (.bool (decide c.May)) (.bool v) H' := by
    rintro v H' rfl rfl; exact ⟨rfl, m0⟩
  have no : ¬ c.May → false = decide c.May := fun h => (decide_eq_false h).symm
  have iff : ∀ {p : Prop} [Decidable p], (p ↔ c.May) → decide p = decide c.May := fun h => by simp [h]
  have k3t : ¬ c.May → cmds_May.k3 J0 c.op c.client c.seq c.key c.value c.old H true (TellPost H (.bool (decide c.May))) := fun h => by
    apply cmds_May.k3.step
    unfold cmds_May.k3.body
    exact Br.yes rfl (fin rfl (no h))
  have k7 : ∀ b : Bool, (b = true → (decide (c.key.size ≤ 8) = decide c.May)) → (b = false → ¬ c.May) → cmds_May.k7 J0 c.op c.client c.seq c.key c.value c.old H b (TellPost H (.bool (decide c.May))) := by
    intro b h1 h2
    apply cmds_May.k7.step
    unfold cmds_May.k7.body
    refine Br.mk (fun e => fin rfl ?_) (fun e => fin rfl (no (h2 e)))
    rw [← h1 e]
    apply decide_eq_decide.2; omega
  by_cases a1 : c.op < 0
  · refine Br.yes (decide_eq_true a1) ?_
    apply cmds_May.k1.step; unfold cmds_May.k1.body
    refine Br.yes rfl ?_
    apply cmds_May.k2.step; unfold cmds_May.k2.body
    exact Br.yes rfl (k3t fun h => by have := h.1; omega)
  refine Br.no (decide_eq_false a1) ?_
  apply cmds_May.k1.step; unfold cmds_May.k1.body
  by_cases a2 : c.op ≥ 4
  · refine Br.yes (decide_eq_true a2) ?_
    apply cmds_May.k2.step; unfold cmds_May.k2.body
    exact Br.yes rfl (k3t fun h => by have := h.2.1; omega)
  refine Br.no (decide_eq_false a2) ?_
  apply cmds_May.k2.step; unfold cmds_May.k2.body
  by_cases a3 : ((c.value.size : Nat) : Int) > 16
  · exact Br.yes (decide_eq_true a3) (k3t fun h => by have := h.2.2.1; omega)
  refine Br.no (decide_eq_false a3) ?_
  by_cases a4 : ((c.old.size : Nat) : Int) > 16
  · rw [decide_eq_true a4]; exact k3t fun h => by have := h.2.2.2.1; omega
  rw [decide_eq_false a4]
  apply cmds_May.k3.step; unfold cmds_May.k3.body
  refine Br.no rfl ?_
  by_cases a5 : c.op = 0
  · refine Br.yes (beq_iff_eq.2 a5) (fin rfl ?_)
    rw [beq_nil, beq_nil, beq_nil]
    have e : ∀ a b : Int, (a == b) = decide (a = b) := fun a b => by by_cases h : a = b <;> simp [h]
    rw [e, e, e, Bool.and_true]
    simp only [← Bool.decide_and]
    apply iff
    unfold Cm.May
    constructor
    · rintro ⟨h1, h2, h3, h4, h5, h6⟩; exact ⟨by omega, by omega, by omega, by omega, Or.inl ⟨h1, h2, h3, h4, h5, h6⟩⟩
    · rintro ⟨_, _, _, _, h | h⟩
      · exact h
      · exact absurd a5 h.1
  refine Br.no (beq_eq_false_iff_ne.2 a5) ?_
  have notMay : ¬ (0 ≤ c.client ∧ c.client ≤ 3 ∧ 0 ≤ c.seq ∧ c.seq ≤ 1048576 ∧ 0 < c.key.size) → ¬ c.May := by
    rintro h ⟨_, _, _, _, h' | h'⟩
    · exact a5 h'.1
    · exact h ⟨h'.2.1, h'.2.2.1, h'.2.2.2.1, h'.2.2.2.2.1, h'.2.2.2.2.2.1⟩
  have k6f : ¬ (0 ≤ c.client ∧ c.client ≤ 3 ∧ 0 ≤ c.seq ∧ c.seq ≤ 1048576 ∧ 0 < c.key.size) → cmds_May.k6 J0 c.op c.client c.seq c.key c.value c.old H false (TellPost H (.bool (decide c.May))) := by
    intro h
    apply cmds_May.k6.step; unfold cmds_May.k6.body
    exact Br.no rfl (k7 false (fun e => nomatch e) fun _ => notMay h)
  have k5f : ¬ (0 ≤ c.client ∧ c.client ≤ 3 ∧ 0 ≤ c.seq ∧ c.seq ≤ 1048576 ∧ 0 < c.key.size) → cmds_May.k5 J0 c.op c.client c.seq c.key c.value c.old H false (TellPost H (.bool (decide c.May))) := by
    intro h
    apply cmds_May.k5.step; unfold cmds_May.k5.body
    exact Br.no rfl (k6f h)
  have k4f : ¬ (0 ≤ c.client ∧ c.client ≤ 3 ∧ 0 ≤ c.seq ∧ c.seq ≤ 1048576 ∧ 0 < c.key.size) → cmds_May.k4 J0 c.op c.client c.seq c.key c.value c.old H false (TellPost H (.bool (decide c.May))) := by
    intro h
    apply cmds_May.k4.step; unfold cmds_May.k4.body
    exact Br.no rfl (k5f h)
  by_cases a6 : c.client ≥ 0
  · refine Br.yes (decide_eq_true a6) ?_
    by_cases a7 : c.client < 4
    · rw [decide_eq_true a7]
      apply cmds_May.k4.step; unfold cmds_May.k4.body
      refine Br.yes rfl ?_
      by_cases a8 : c.seq ≥ 0
      · rw [decide_eq_true a8]
        apply cmds_May.k5.step; unfold cmds_May.k5.body
        refine Br.yes rfl ?_
        by_cases a9 : c.seq ≤ 1048576
        · rw [decide_eq_true a9]
          apply cmds_May.k6.step; unfold cmds_May.k6.body
          refine Br.yes rfl ?_
          rw [beqL_nil]
          refine k7 _ (fun h => iff ?_) (fun h => notMay ?_)
          · have h' : c.key.size ≠ 0 := by simpa using h
            unfold Cm.May
            constructor
            · intro h8; exact ⟨by omega, by omega, by omega, by omega, Or.inr ⟨a5, a6, by omega, a8, a9, by omega, h8⟩⟩
            · rintro ⟨_, _, _, _, h8 | h8⟩
              · exact absurd h8.1 a5
              · exact h8.2.2.2.2.2.2
          · have h' : c.key.size = 0 := by simpa using h
            omega
        · rw [decide_eq_false a9]; exact k6f (by omega)
      · rw [decide_eq_false a8]; exact k5f (by omega)
    · rw [decide_eq_false a7]; exact k4f (by omega)
  · exact Br.no (decide_eq_false a6) (k4f (by omega))

theorem cmds_Right_spec {e : En} : SCalls Try.prog cmds_Right.id [e.val] H (TellPost H (.bool (decide e.Right))) := by
  apply cmds_Right.calls
  have m0 : Mod (fun _ => False) H (holes H 1) := Mod.holes _ _ _
  have k3f : ¬ (1 ≤ e.index ∧ e.index ≤ 1048576 ∧ 0 ≤ e.term ∧ e.term ≤ 1048576) → cmds_Right.k3 J0 e.index e.term e.cmd.op e.cmd.client e.cmd.seq e.cmd.key e.cmd.value e.cmd.old H false (TellPost H (.bool (decide e.Right))) := by
    intro h
    apply cmds_Right.k3.step; unfold cmds_Right.k3.body
    exact Br.no rfl ⟨congrArg Value.bool (decide_eq_false fun h' => h ⟨h'.1, h'.2.1, h'.2.2.1, h'.2.2.2.1⟩).symm, m0⟩
  have k2f : ¬ (1 ≤ e.index ∧ e.index ≤ 1048576 ∧ 0 ≤ e.term ∧ e.term ≤ 1048576) → cmds_Right.k2 J0 e.index e.term e.cmd.op e.cmd.client e.cmd.seq e.cmd.key e.cmd.value e.cmd.old H false (TellPost H (.bool (decide e.Right))) := by
    intro h
    apply cmds_Right.k2.step; unfold cmds_Right.k2.body
    exact Br.no rfl (k3f h)
  have k1f : ¬ (1 ≤ e.index ∧ e.index ≤ 1048576 ∧ 0 ≤ e.term ∧ e.term ≤ 1048576) → cmds_Right.k1 J0 e.index e.term e.cmd.op e.cmd.client e.cmd.seq e.cmd.key e.cmd.value e.cmd.old H false (TellPost H (.bool (decide e.Right))) := by
    intro h
    apply cmds_Right.k1.step; unfold cmds_Right.k1.body
    exact Br.no rfl (k2f h)
  by_cases a1 : e.index ≥ 1
  · refine Br.yes (decide_eq_true a1) ?_
    by_cases a2 : e.index ≤ 1048576
    · rw [decide_eq_true a2]
      apply cmds_Right.k1.step; unfold cmds_Right.k1.body
      refine Br.yes rfl ?_
      by_cases a3 : e.term ≥ 0
      · rw [decide_eq_true a3]
        apply cmds_Right.k2.step; unfold cmds_Right.k2.body
        refine Br.yes rfl ?_
        by_cases a4 : e.term ≤ 1048576
        · rw [decide_eq_true a4]
          apply cmds_Right.k3.step; unfold cmds_Right.k3.body
          refine Br.yes rfl ((cmds_May_spec (c := e.cmd)).mono ?_)
          rintro r H1 ⟨rfl, m1⟩
          refine ⟨_, rfl, congrArg Value.bool (decide_eq_decide.2 ?_), m0.trans m1⟩
          exact ⟨fun h => ⟨a1, a2, a3, a4, h⟩, fun h => h.2.2.2.2⟩
        · rw [decide_eq_false a4]; exact k3f (by omega)
      · rw [decide_eq_false a3]; exact k2f (by omega)
    · rw [decide_eq_false a2]; exact k1f (by omega)
  · exact Br.no (decide_eq_false a1) (k1f (by omega))
end
end Go.Proofs
