/- LAYER 14: what a replica does, part 1. -/
import Derived.Test.YtbodlapndgnkgaaKno1
set_option linter.all false
set_option linter.constructorNameAsVariable false
namespace Go.Proofs
open Go Go.KC
section
variable {H : Hp} {n : Nd} {x : Sl}

def nd0 (i : Int) : Nd := ⟨i, 0, -1, 0, 0, [], 0, 0, false, false, false, 0, 0, 0, 0, 0, 0, 0⟩
theorem nOf_spec {i : Int} : SCalls Try.prog node_Of.id [.int .i64 i] H (TellPost H ((nd0 i).val ⟨none, 0, 0⟩)) := by
  apply node_Of.calls
  intro H1 e1
  exact ⟨rfl, (hole_facts e1).1⟩
theorem nClone_spec (h : Lr H x n.es) (hl : n.es.length ≤ 2000000) : SCalls Try.prog node_Node_Clone.id [n.val x] H fun r H' => ∃ y : Sl, r = n.val y ∧ Eo H H' y n.es := by
  apply node_Node_Clone.calls
  intro H1 e1 H2 e2
  obtain ⟨m1, _⟩ := hole_facts e1
  obtain ⟨m2, _⟩ := hole_facts e2
  have m := m1.trans m2
  have hxl := h.len
  refine (Clone_spec (b := n.base) (t := n.bt) (h.mod m) (by omega)).mono ?_
  rintro r H3 ⟨y, rfl, hy⟩
  exact ⟨_, _, y, rfl, y, rfl, hy.from m⟩
def Nd.restart (n : Nd) : Nd := ⟨n.id, n.term, n.vote, n.base, n.bt, n.es, 0, n.base, false, false, false, 0, 0, 0, 0, 0, 0, 0⟩
theorem nRestart_spec (h : Lr H x n.es) (hl : n.es.length ≤ 2000000) : SCalls Try.prog node_Node_Restart.id [n.val x] H fun r H' => ∃ y : Sl, r = n.restart.val y ∧ Eo H H' y n.es := by
  apply node_Node_Restart.calls
  intro H1 e1 H2 e2
  obtain ⟨m1, _⟩ := hole_facts e1
  obtain ⟨m2, _⟩ := hole_facts e2
  have m := m1.trans m2
  have hxl := h.len
  refine (Clone_spec (b := n.base) (t := n.bt) (h.mod m) (by omega)).mono ?_
  rintro r H3 ⟨y, rfl, hy⟩
  exact ⟨_, _, y, rfl, y, rfl, hy.from m⟩
def Nd.compact (n : Nd) (i : Int) : Nd :=
  if i ≤ n.com then { n with base := (Go.Proofs.compact n.base n.bt n.es i).base, bt := (Go.Proofs.compact n.base n.bt n.es i).term, es := (Go.Proofs.compact n.base n.bt n.es i).es } else n
/-- A log's entries that are new since H. -/
def Nw (H H' : Hp) (y : Sl) (es : List En) : Prop := Lr H' y es ∧ Mod (fun _ => False) H H' ∧ ∀ q ∈ y.blk, H.size ≤ q ∧ q < H'.size
theorem Eo.nw {H H' : Hp} {y : Sl} {es : List En} (h : Eo H H' y es) : Nw H H' y es := ⟨h.lr, h.mod, fun q hq => ⟨h.blk q hq, Own.lt h.own q hq⟩⟩
theorem Nw.from {H0 H H' : Hp} {y : Sl} {es : List En} (h : Nw H H' y es) (m : Mod (fun _ => False) H0 H) : Nw H0 H' y es := ⟨h.1, m.trans h.2.1, fun q hq => ⟨Nat.le_trans m.size (h.2.2 q hq).1, (h.2.2 q hq).2⟩⟩
theorem Nw.to {H H' H2 : Hp} {y : Sl} {es : List En} (h : Nw H H' y es) (m : Mod (fun _ => False) H' H2) : Nw H H2 y es := ⟨h.1.mod m, h.2.1.trans m, fun q hq => ⟨(h.2.2 q hq).1, Nat.lt_of_lt_of_le (h.2.2 q hq).2 m.size⟩⟩
theorem nCompact_spec {i : Int} (h : Lr H x n.es) (f : n.Fit) (hi : -5000000 ≤ i ∧ i ≤ 5000000) : SCalls Try.prog node_Node_Compact.id [n.val x, .int .i64 i] H fun r H' => ∃ y : Sl, r = (n.compact i).val y ∧ Nw H H' y (n.compact i).es := by
  obtain ⟨_, fb, fl⟩ := f
  apply node_Node_Compact.calls
  intro H1 e1 H2 e2
  obtain ⟨m1, _⟩ := hole_facts e1
  obtain ⟨m2, _⟩ := hole_facts e2
  have m := m1.trans m2
  refine (nClone_spec (h.mod m) fl).mono ?_
  rintro r H3 ⟨y, rfl, hy⟩
  refine ⟨_, _, _, _, _, y, _, _, _, _, _, _, _, _, _, _, _, _, rfl, ?_⟩
  by_cases c : i ≤ n.com
  · refine Br.yes (decide_eq_true c) ((Compact_spec (b := n.base) (t := n.bt) (by omega) hi (by omega) hy.lr).mono ?_)
    rintro r H4 ⟨z, rfl, hz, mz, bz⟩
    refine ⟨_, _, z, rfl, z, ?_, ?_⟩
    · unfold Nd.compact; rw [if_pos c]
    · unfold Nd.compact; rw [if_pos c]
      have ny := hy.nw
      exact Nw.from ⟨hz, ny.2.1.trans mz, fun q hq => (bz q hq).elim (fun h => ⟨(ny.2.2 q h).1, Nat.lt_of_lt_of_le (ny.2.2 q h).2 mz.size⟩) fun h => ⟨Nat.le_trans ny.2.1.size h.1, h.2⟩⟩ m
  · refine Br.no (decide_eq_false c) ⟨y, ?_, ?_⟩
    · unfold Nd.compact; rw [if_neg c]
    · unfold Nd.compact; rw [if_neg c]
      exact hy.nw.from m

def quo (a b c : Bool) : Bool := (a && b) || (a && c) || (b && c)
theorem quorum_spec {a b c : Bool} : SCalls Try.prog node_quorum.id [.agg #[.bool a, .bool b, .bool c]] H (TellPost H (.bool (quo a b c))) := by
  apply node_quorum.calls
  intro H1 e1
  obtain ⟨m1, _⟩ := hole_facts e1
  have fin : ∀ k : Int, 0 ≤ k ∧ k ≤ 3 → (decide (2 * k > 3) = quo a b c) → node_quorum.l1 J0 a b c H1 k 3 (TellPost H (.bool (quo a b c))) := fun k hk e => by
    apply node_quorum.l1.step; unfold node_quorum.l1.body
    refine Br.no rfl ?_
    rw [w64_id (by omega) (by omega), e]
    exact ⟨rfl, m1⟩
  have step : ∀ (k : Int) (j : Nat) (v : Bool), 0 ≤ k ∧ k ≤ 3 → j < 3 → (#[.bool a, .bool b, .bool c] : Array Value)[((j : Nat) : Int).toNat * 1]? = some (.bool v) →
      node_quorum.l1 J0 a b c H1 (k + if v then 1 else 0) ((j : Int) + 1) (TellPost H (.bool (quo a b c))) → node_quorum.l1 J0 a b c H1 k (j : Int) (TellPost H (.bool (quo a b c))) := fun k j v hk hj hv h => by
    apply node_quorum.l1.step; unfold node_quorum.l1.body
    refine Br.yes (decide_eq_true (by omega)) ⟨v, ⟨⟨by omega, by omega⟩, hv⟩, ?_⟩
    rw [w64_id (x := (j : Int) + 1) (by omega) (by omega), w64_id (x := k + 1) (by omega) (by omega)]
    cases v with
    | true => exact Br.yes rfl (by simpa using h)
    | false => exact Br.no rfl (by simpa using h)
  refine step 0 0 a (by omega) (by omega) rfl ?_
  refine step _ 1 b (by split <;> omega) (by omega) rfl ?_
  refine step _ 2 c (by split <;> split <;> omega) (by omega) rfl ?_
  refine fin _ (by split <;> split <;> split <;> omega) ?_
  cases a <;> cases b <;> cases c <;> rfl

end
end Go.Proofs
