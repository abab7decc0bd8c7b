/- LAYER 06: commands and entries; which may be. -/
import Derived.Test.YtgogmmhkelenkaaKp6
import Derived.Test.YtgogmmhkelenkaaKe2
set_option linter.all false
set_option linter.constructorNameAsVariable false
namespace Go.Proofs
open Go Go.KC

section
variable {H : Hp}
theorem law_may_spec {c : Cm} : SCalls Try.prog tephralaw06_may.id [c.val] H (TellPost H (.bool (decide c.May))) := by
  apply tephralaw06_may.calls
  have m0 : Mod (fun _ => False) H (holes H 1) := Mod.holes _ _ _
  have fin : ∀ {v : Bool} {H'}, H' = holes H 1 → v = decide c.May → TellPost H (.bool (decide c.May)) (.bool v) H' := by
    rintro v H' rfl rfl; exact ⟨rfl, m0⟩
  have no : ¬ c.May → false = decide c.May := fun h => (decide_eq_false h).symm
  have iff : ∀ {p : Prop} [Decidable p], (p ↔ c.May) → decide p = decide c.May := fun h => by simp [h]
  have k3t : ¬ c.May → tephralaw06_may.k3 J0 c.op c.client c.seq c.key c.value c.old H true (TellPost H (.bool (decide c.May))) := fun h => by
    apply tephralaw06_may.k3.step
    unfold tephralaw06_may.k3.body
    exact Br.yes rfl (fin rfl (no h))
  have k10 : ∀ b : Bool, (b = true → (decide (c.key.size ≤ 8) = decide c.May)) → (b = false → ¬ c.May) → tephralaw06_may.k10 J0 c.op c.client c.seq c.key c.value c.old H b (TellPost H (.bool (decide c.May))) := by
    intro b h1 h2
    apply tephralaw06_may.k10.step
    unfold tephralaw06_may.k10.body
    refine Br.mk (fun e => fin rfl ?_) (fun e => fin rfl (no (h2 e)))
    rw [← h1 e]
    apply decide_eq_decide.2; omega
  by_cases a1 : c.op < 0
  · refine Br.yes (decide_eq_true a1) ?_
    apply tephralaw06_may.k1.step; unfold tephralaw06_may.k1.body
    refine Br.yes rfl ?_
    apply tephralaw06_may.k2.step; unfold tephralaw06_may.k2.body
    exact Br.yes rfl (k3t fun h => by have := h.1; omega)
  refine Br.no (decide_eq_false a1) ?_
  apply tephralaw06_may.k1.step; unfold tephralaw06_may.k1.body
  by_cases a2 : c.op > 3
  · refine Br.yes (decide_eq_true a2) ?_
    apply tephralaw06_may.k2.step; unfold tephralaw06_may.k2.body
    exact Br.yes rfl (k3t fun h => by have := h.2.1; omega)
  refine Br.no (decide_eq_false a2) ?_
  apply tephralaw06_may.k2.step; unfold tephralaw06_may.k2.body
  by_cases a3 : ((c.value.size : Nat) : Int) > 16
  · exact Br.yes (decide_eq_true a3) (k3t fun h => by have := h.2.2.1; omega)
  refine Br.no (decide_eq_false a3) ?_
  by_cases a4 : ((c.old.size : Nat) : Int) > 16
  · rw [decide_eq_true a4]; exact k3t fun h => by have := h.2.2.2.1; omega
  rw [decide_eq_false a4]
  apply tephralaw06_may.k3.step; unfold tephralaw06_may.k3.body
  refine Br.no rfl ?_
  by_cases a5 : c.op = 0
  · refine Br.yes (beq_iff_eq.2 a5) ?_
    have k6 : ∀ b : Bool, b = decide (c.client = 0 ∧ c.seq = 0 ∧ c.key.size = 0 ∧ c.value.size = 0) → tephralaw06_may.k6 J0 c.op c.client c.seq c.key c.value c.old H b (TellPost H (.bool (decide c.May))) := by
      intro b hb
      apply tephralaw06_may.k6.step; unfold tephralaw06_may.k6.body
      refine Br.mk (fun e => fin rfl ?_) (fun e => fin rfl (no ?_))
      · rw [e] at hb
        have hb' := of_decide_eq_true hb.symm
        rw [beqL_nil]
        apply iff
        unfold Cm.May
        constructor
        · intro h; exact ⟨by omega, by omega, by omega, by omega, Or.inl ⟨a5, hb'.1, hb'.2.1, hb'.2.2.1, hb'.2.2.2, h⟩⟩
        · rintro ⟨_, _, _, _, h | h⟩
          · exact h.2.2.2.2.2
          · exact absurd a5 h.1
      · rw [e] at hb
        have hb' := of_decide_eq_false hb.symm
        rintro ⟨_, _, _, _, h | h⟩
        · exact hb' ⟨h.2.1, h.2.2.1, h.2.2.2.1, h.2.2.2.2.1⟩
        · exact h.1 a5
    have k5 : ∀ b : Bool, b = decide (c.client = 0 ∧ c.seq = 0 ∧ c.key.size = 0) → tephralaw06_may.k5 J0 c.op c.client c.seq c.key c.value c.old H b (TellPost H (.bool (decide c.May))) := by
      intro b hb
      apply tephralaw06_may.k5.step; unfold tephralaw06_may.k5.body
      refine Br.mk (fun e => k6 _ ?_) (fun e => k6 _ ?_)
      · rw [beqL_nil]; rw [e] at hb; have hb' := of_decide_eq_true hb.symm; apply decide_eq_decide.2; simp [hb']
      · rw [e] at hb; have hb' := of_decide_eq_false hb.symm; exact (decide_eq_false fun h => hb' ⟨h.1, h.2.1, h.2.2.1⟩).symm
    have k4 : ∀ b : Bool, b = decide (c.client = 0 ∧ c.seq = 0) → tephralaw06_may.k4 J0 c.op c.client c.seq c.key c.value c.old H b (TellPost H (.bool (decide c.May))) := by
      intro b hb
      apply tephralaw06_may.k4.step; unfold tephralaw06_may.k4.body
      refine Br.mk (fun e => k5 _ ?_) (fun e => k5 _ ?_)
      · rw [beqL_nil]; rw [e] at hb; have hb' := of_decide_eq_true hb.symm; apply decide_eq_decide.2; simp [hb']
      · rw [e] at hb; have hb' := of_decide_eq_false hb.symm; exact (decide_eq_false fun h => hb' ⟨h.1, h.2.1⟩).symm
    refine Br.mk (fun e => k4 _ ?_) (fun e => k4 _ ?_)
    · have e' := beq_iff_eq.1 e
      by_cases h : c.seq = 0 <;> simp [h, e']
    · have e' := beq_eq_false_iff_ne.1 e
      exact (decide_eq_false fun h => e' h.1).symm
  refine Br.no (beq_eq_false_iff_ne.2 a5) ?_
  have notMay : ¬ (0 ≤ c.client ∧ c.client ≤ 3 ∧ 0 ≤ c.seq ∧ c.seq ≤ 1048576 ∧ 0 < c.key.size) → ¬ c.May := by
    rintro h ⟨_, _, _, _, h' | h'⟩
    · exact a5 h'.1
    · exact h ⟨h'.2.1, h'.2.2.1, h'.2.2.2.1, h'.2.2.2.2.1, h'.2.2.2.2.2.1⟩
  have k9f : ¬ (0 ≤ c.client ∧ c.client ≤ 3 ∧ 0 ≤ c.seq ∧ c.seq ≤ 1048576 ∧ 0 < c.key.size) → tephralaw06_may.k9 J0 c.op c.client c.seq c.key c.value c.old H false (TellPost H (.bool (decide c.May))) := by
    intro h
    apply tephralaw06_may.k9.step; unfold tephralaw06_may.k9.body
    exact Br.no rfl (k10 false (fun e => nomatch e) fun _ => notMay h)
  have k8f : ¬ (0 ≤ c.client ∧ c.client ≤ 3 ∧ 0 ≤ c.seq ∧ c.seq ≤ 1048576 ∧ 0 < c.key.size) → tephralaw06_may.k8 J0 c.op c.client c.seq c.key c.value c.old H false (TellPost H (.bool (decide c.May))) := by
    intro h
    apply tephralaw06_may.k8.step; unfold tephralaw06_may.k8.body
    exact Br.no rfl (k9f h)
  have k7f : ¬ (0 ≤ c.client ∧ c.client ≤ 3 ∧ 0 ≤ c.seq ∧ c.seq ≤ 1048576 ∧ 0 < c.key.size) → tephralaw06_may.k7 J0 c.op c.client c.seq c.key c.value c.old H false (TellPost H (.bool (decide c.May))) := by
    intro h
    apply tephralaw06_may.k7.step; unfold tephralaw06_may.k7.body
    exact Br.no rfl (k8f h)
  by_cases a6 : c.client ≥ 0
  · refine Br.yes (decide_eq_true a6) ?_
    by_cases a7 : c.client < 4
    · rw [decide_eq_true a7]
      apply tephralaw06_may.k7.step; unfold tephralaw06_may.k7.body
      refine Br.yes rfl ?_
      by_cases a8 : c.seq ≥ 0
      · rw [decide_eq_true a8]
        apply tephralaw06_may.k8.step; unfold tephralaw06_may.k8.body
        refine Br.yes rfl ?_
        by_cases a9 : c.seq ≤ 1048576
        · rw [decide_eq_true a9]
          apply tephralaw06_may.k9.step; unfold tephralaw06_may.k9.body
          refine Br.yes rfl ?_
          refine k10 _ (fun h => iff ?_) (fun h => notMay ?_)
          · have h' := of_decide_eq_true h
            unfold Cm.May
            constructor
            · intro h8; exact ⟨by omega, by omega, by omega, by omega, Or.inr ⟨a5, a6, by omega, a8, a9, by omega, h8⟩⟩
            · rintro ⟨_, _, _, _, h8 | h8⟩
              · exact absurd h8.1 a5
              · exact h8.2.2.2.2.2.2
          · have h' := of_decide_eq_false h
            omega
        · rw [decide_eq_false a9]; exact k9f (by omega)
      · rw [decide_eq_false a8]; exact k8f (by omega)
    · rw [decide_eq_false a7]; exact k7f (by omega)
  · exact Br.no (decide_eq_false a6) (k7f (by omega))

theorem law_right_spec {e : En} : SCalls Try.prog tephralaw06_right.id [e.val] H (TellPost H (.bool (decide e.Right))) := by
  apply tephralaw06_right.calls
  have m0 : Mod (fun _ => False) H (holes H 1) := Mod.holes _ _ _
  have k3f : ¬ (1 ≤ e.index ∧ e.index ≤ 1048576 ∧ 0 ≤ e.term ∧ e.term ≤ 1048576) → tephralaw06_right.k3 J0 e.index e.term e.cmd.op e.cmd.client e.cmd.seq e.cmd.key e.cmd.value e.cmd.old H false (TellPost H (.bool (decide e.Right))) := by
    intro h
    apply tephralaw06_right.k3.step; unfold tephralaw06_right.k3.body
    exact Br.no rfl ⟨congrArg Value.bool (decide_eq_false fun h' => h ⟨h'.1, h'.2.1, h'.2.2.1, h'.2.2.2.1⟩).symm, m0⟩
  have k2f : ¬ (1 ≤ e.index ∧ e.index ≤ 1048576 ∧ 0 ≤ e.term ∧ e.term ≤ 1048576) → tephralaw06_right.k2 J0 e.index e.term e.cmd.op e.cmd.client e.cmd.seq e.cmd.key e.cmd.value e.cmd.old H false (TellPost H (.bool (decide e.Right))) := by
    intro h
    apply tephralaw06_right.k2.step; unfold tephralaw06_right.k2.body
    exact Br.no rfl (k3f h)
  have k1f : ¬ (1 ≤ e.index ∧ e.index ≤ 1048576 ∧ 0 ≤ e.term ∧ e.term ≤ 1048576) → tephralaw06_right.k1 J0 e.index e.term e.cmd.op e.cmd.client e.cmd.seq e.cmd.key e.cmd.value e.cmd.old H false (TellPost H (.bool (decide e.Right))) := by
    intro h
    apply tephralaw06_right.k1.step; unfold tephralaw06_right.k1.body
    exact Br.no rfl (k2f h)
  by_cases a1 : e.index > 0
  · refine Br.yes (decide_eq_true a1) ?_
    by_cases a2 : e.index ≤ 1048576
    · rw [decide_eq_true a2]
      apply tephralaw06_right.k1.step; unfold tephralaw06_right.k1.body
      refine Br.yes rfl ?_
      by_cases a3 : e.term ≥ 0
      · rw [decide_eq_true a3]
        apply tephralaw06_right.k2.step; unfold tephralaw06_right.k2.body
        refine Br.yes rfl ?_
        by_cases a4 : e.term ≤ 1048576
        · rw [decide_eq_true a4]
          apply tephralaw06_right.k3.step; unfold tephralaw06_right.k3.body
          refine Br.yes rfl ((law_may_spec (c := e.cmd)).mono ?_)
          rintro r H1 ⟨rfl, m1⟩
          refine ⟨_, rfl, congrArg Value.bool (decide_eq_decide.2 ?_), m0.trans m1⟩
          exact ⟨fun h => ⟨by omega, a2, a3, a4, h⟩, fun h => h.2.2.2.2⟩
        · rw [decide_eq_false a4]; exact k3f (by omega)
      · rw [decide_eq_false a3]; exact k2f (by omega)
    · rw [decide_eq_false a2]; exact k1f (by omega)
  · exact Br.no (decide_eq_false a1) (k1f (by omega))
end
end Go.Proofs
