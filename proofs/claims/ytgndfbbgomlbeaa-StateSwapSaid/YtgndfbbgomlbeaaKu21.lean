/- STATES: the numbers of sessions (as in Ku10). -/
import Derived.Test.YtgndfbbgomlbeaaKu9
set_option linter.all false
set_option linter.constructorNameAsVariable false
namespace Go.Proofs
open Go Go.KC

theorem cmdM_seq {s : Stt} {c : Cm} {n : Int} (hs : Rise s.ss) (hc : c.seq ≤ n) (h : ∀ p ∈ s.ss, p.2.seq ≤ n) : ∀ p ∈ (cmdM s c).1.ss, p.2.seq ≤ n := by
  have new : ∀ p ∈ putL s.ss c.client ⟨c.client, c.seq, (doM s.kv c).2.err, (doM s.kv c).2.value⟩, p.2.seq ≤ n := fun p hp => by
    have := (putL_mem hs c.client ⟨c.client, c.seq, (doM s.kv c).2.err, (doM s.kv c).2.value⟩ p.1 p.2).1 hp
    split at this
    · rw [this]; exact hc
    · exact h p this
  unfold cmdM
  split
  · split
    · split <;> exact h
    · exact new
  · exact new
theorem applyM_seq {s : Stt} {e : En} {n : Int} (hs : Rise s.ss) (hc : e.cmd.seq ≤ n) (h : ∀ p ∈ s.ss, p.2.seq ≤ n) : ∀ p ∈ (applyM s e).1.ss, p.2.seq ≤ n := by
  unfold applyM
  split
  · exact h
  · split
    · exact h
    · split
      · exact h
      · exact cmdM_seq (s := { s with index := e.index, term := e.term }) hs hc h
theorem foldM_seq {n : Int} : ∀ (es : List En) (s : Stt), s.Ok → (∀ e ∈ es, e.cmd.seq ≤ n) → (∀ p ∈ s.ss, p.2.seq ≤ n) → ∀ p ∈ (foldM s es).ss, p.2.seq ≤ n
  | [], _, _, _, h => h
  | e :: es, s, ok, hc, h => foldM_seq es (applyM s e).1 (applyM_ok ok) (fun x hx => hc x (List.mem_cons_of_mem _ hx)) (applyM_seq ok.rs (hc e (by simp)) h)
theorem cmd_seq (s : Sy) : s.cmd.seq ≤ 999 := by
  unfold Sy.cmd
  split
  · show (0 : Int) ≤ 999; omega
  · dsimp only; omega
theorem entsGo_seq (n : Int) : ∀ (l : List Sy) (j : Nat) (t : Int), ∀ e ∈ entsGo n l j t, e.cmd.seq ≤ 999
  | [], _, _, e, h => by simp [entsGo] at h
  | s :: l, j, t, e, h => by
    rcases List.mem_cons.1 h with rfl | h
    · exact cmd_seq s
    · exact entsGo_seq n l _ _ e h
theorem someM_seq (ss : List Sy) : ∀ p ∈ (someM ss).ss, p.2.seq ≤ 999 :=
  foldM_seq _ _ Stt.zero_ok (fun e he => entsGo_seq _ _ _ _ e he) (by simp [Stt.zero])

/-- A command that is new, and what is so behind it. -/
def onceC (c : Cm) : Cm := ⟨c.op, 2, 1000, c.key, c.value, c.old⟩
theorem once_may {c : Cm} (h : c.May) (h0 : c.op ≠ 0) : (onceC c).May := by
  obtain ⟨a1, a2, a3, a4, a5⟩ := h
  rcases a5 with ⟨z, _⟩ | ⟨_, _, _, _, _, b5, b6⟩
  · exact (h0 z).elim
  · exact ⟨a1, a2, a3, a4, Or.inr ⟨h0, by simp [onceC], by simp [onceC], by simp [onceC], by simp [onceC], b5, b6⟩⟩
theorem once_first {s : Stt} {c : Cm} (hs : Rise s.ss) (hq : ∀ p ∈ s.ss, p.2.seq ≤ 999) : cmdM s (onceC c) =
    ({ s with kv := (doM s.kv (onceC c)).1, ss := putL s.ss 2 ⟨2, 1000, (doM s.kv (onceC c)).2.err, (doM s.kv (onceC c)).2.value⟩ }, (doM s.kv (onceC c)).2) := by
  unfold cmdM
  split
  · rename_i x hx
    have := hq _ ((valL_mem hs).1 hx)
    rw [if_neg (by simp only [onceC]; dsimp only at this; omega)]
    rfl
  · rfl

end Go.Proofs
