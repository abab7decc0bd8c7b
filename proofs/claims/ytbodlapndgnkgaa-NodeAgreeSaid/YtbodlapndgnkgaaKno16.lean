/- LAYER 14: plain: who campaigns has its own vote; what a step makes. -/
import Derived.Test.YtbodlapndgnkgaaKno20
set_option linter.all false
set_option linter.constructorNameAsVariable false
namespace Go.Proofs
open Go Go.KC
def Nd.flag (n : Nd) (i : Int) : Bool := if i = 0 then n.v0 else if i = 1 then n.v1 else n.v2
/-- Who campaigns voted for itself. -/
def Nd.own (n : Nd) : Prop := n.role = 1 → n.flag n.id = true
theorem own_same {n n' : Nd} (h : n.own) (hi : n'.id = n.id) (hr : n'.role = n.role) (h0 : n'.v0 = n.v0) (h1 : n'.v1 = n.v1) (h2 : n'.v2 = n.v2) : n'.own := by
  unfold Nd.own Nd.flag at *; rw [hi, hr, h0, h1, h2]; exact h
theorem setM_v {n : Nd} {i v : Int} : (n.setM i v).v0 = n.v0 ∧ (n.setM i v).v1 = n.v1 ∧ (n.setM i v).v2 = n.v2 := by unfold Nd.setM; split <;> (try split) <;> exact ⟨rfl, rfl, rfl⟩
theorem setN_v {n : Nd} {i v : Int} : (n.setN i v).v0 = n.v0 ∧ (n.setN i v).v1 = n.v1 ∧ (n.setN i v).v2 = n.v2 := by unfold Nd.setN; split <;> (try split) <;> exact ⟨rfl, rfl, rfl⟩
theorem setM_own {n : Nd} {i v : Int} (h : n.own) : (n.setM i v).own := own_same h setM_keep.1 setM_keep.2.2.2.2.2.2.1 setM_v.1 setM_v.2.1 setM_v.2.2
theorem setN_own {n : Nd} {i v : Int} (h : n.own) : (n.setN i v).own := own_same h setN_keep.1 setN_keep.2.2.2.2.2.2.1 setN_v.1 setN_v.2.1 setN_v.2.2
theorem not1_own {n : Nd} (h : n.role ≠ 1) : n.own := fun e => absurd e h
theorem setV_flag {n : Nd} {j i : Int} (h : n.flag i = true) : (n.setV j).flag i = true := by
  unfold Nd.flag Nd.setV at *
  repeat' split
  all_goals (simp_all)
theorem setV_set {n : Nd} {j : Int} (hj : 0 ≤ j ∧ j < 3) : (n.setV j).flag j = true := by
  have : j = 0 ∨ j = 1 ∨ j = 2 := by omega
  rcases this with rfl | rfl | rfl <;> rfl
theorem quo_two {n : Nd} {i j : Int} (hi : 0 ≤ i ∧ i < 3) (hj : 0 ≤ j ∧ j < 3) (hne : i ≠ j) (h1 : n.flag i = true) (h2 : n.flag j = true) : quo n.v0 n.v1 n.v2 = true := by
  have a : i = 0 ∨ i = 1 ∨ i = 2 := by omega
  have b : j = 0 ∨ j = 1 ∨ j = 2 := by omega
  unfold Nd.flag at h1 h2
  unfold quo
  rcases a with rfl | rfl | rfl <;> rcases b with rfl | rfl | rfl <;> simp_all
theorem lead_role (n : Nd) : n.lead.role = 2 := by unfold Nd.lead; rw [setM_keep.2.2.2.2.2.2.1]
theorem lead_term (n : Nd) : n.lead.term = n.term := by unfold Nd.lead; rw [setM_keep.2.2.2.2.2.1]
theorem got_same (n : Nd) (m : Mg) : (n.got m).id = n.id ∧ (n.got m).role = n.role ∧ (n.got m).term = n.term ∧ (n.got m).v0 = n.v0 ∧ (n.got m).v1 = n.v1 ∧ (n.got m).v2 = n.v2 ∧ (n.got m).vote = n.vote := by
  unfold Nd.got
  split
  · exact ⟨rfl, rfl, rfl, rfl, rfl, rfl, rfl⟩
  split
  · exact ⟨rfl, rfl, rfl, rfl, rfl, rfl, rfl⟩
  split
  · exact ⟨setN_keep.1, setN_keep.2.2.2.2.2.2.1, setN_keep.2.2.2.2.2.1, setN_v.1, setN_v.2.1, setN_v.2.2, setN_keep.2.2.2.2.2.2.2⟩
  split
  · exact ⟨rfl, rfl, rfl, rfl, rfl, rfl, rfl⟩
  · refine ⟨?_, ?_, ?_, ?_, ?_, ?_, ?_⟩
    · show ((n.setM _ _).setN _ _).id = _; rw [setN_keep.1, setM_keep.1]
    · show ((n.setM _ _).setN _ _).role = _; rw [setN_keep.2.2.2.2.2.2.1, setM_keep.2.2.2.2.2.2.1]
    · show ((n.setM _ _).setN _ _).term = _; rw [setN_keep.2.2.2.2.2.1, setM_keep.2.2.2.2.2.1]
    · show ((n.setM _ _).setN _ _).v0 = _; rw [setN_v.1, setM_v.1]
    · show ((n.setM _ _).setN _ _).v1 = _; rw [setN_v.2.1, setM_v.2.1]
    · show ((n.setM _ _).setN _ _).v2 = _; rw [setN_v.2.2, setM_v.2.2]
    · show ((n.setM _ _).setN _ _).vote = _; rw [setN_keep.2.2.2.2.2.2.2, setM_keep.2.2.2.2.2.2.2]
theorem take_same (n : Nd) (m : Mg) : (n.take m).1.id = n.id ∧ (n.take m).1.role = n.role ∧ (n.take m).1.term = n.term ∧ (n.take m).1.vote = n.vote := by
  unfold Nd.take
  split
  · split
    · exact ⟨rfl, rfl, rfl, rfl⟩
    · split <;> exact ⟨rfl, rfl, rfl, rfl⟩
  · split <;> exact ⟨rfl, rfl, rfl, rfl⟩
theorem turn_own {n : Nd} {m : Mg} (h : n.own) : (n.turn m).1.own := by
  unfold Nd.turn
  split
  · dsimp only; split
    · exact own_same h rfl rfl rfl rfl rfl
    · exact h
  split
  · dsimp only; split
    · split
      · exact not1_own (by rw [lead_role]; decide)
      · intro hr
        rw [setV_keep.2.2.2.2.2.2.1] at hr
        rw [setV_keep.1]
        exact setV_flag (h hr)
    · exact h
  split
  · obtain ⟨a, b, c, d, e, f, g⟩ := got_same n m
    exact own_same h a b d e f
  split
  · split
    · refine not1_own ?_
      rw [(take_same _ m).2.1]; show (0 : Int) ≠ 1; decide
    · exact h
  · exact h
theorem seen_own {n : Nd} {m : Mg} (h : n.own) : (n.seen m).own := by
  unfold Nd.seen; split
  · unfold Nd.follow; split <;> exact not1_own (show (0 : Int) ≠ 1 by decide)
  · exact h
theorem step_own {n : Nd} {m : Mg} (h : n.own) : (n.step m).1.own := by
  unfold Nd.step; split
  · exact h
  · exact turn_own (seen_own h)
theorem camp_own {n : Nd} (h : n.own) (hi : 0 ≤ n.id ∧ n.id < 3) : n.camp.1.own := by
  unfold Nd.camp; split
  · exact h
  · intro _
    have : n.id = 0 ∨ n.id = 1 ∨ n.id = 2 := by omega
    unfold Nd.flag
    rcases this with h | h | h <;> simp [h]
theorem submit_own {n : Nd} {c : Cm} (h : n.own) : (n.submit c).1.own := by
  unfold Nd.submit; split
  · exact h
  · exact setM_own (own_same (n' := { n with es := n.es ++ [⟨n.last + 1, n.term, c⟩] }) h rfl rfl rfl rfl rfl)
theorem compact_own {n : Nd} {j : Int} (h : n.own) : (n.compact j).own := by
  unfold Nd.compact; split
  · exact own_same h rfl rfl rfl rfl rfl
  · exact h
def Wd.own (w : Wd) : Prop := ∀ i, 0 ≤ i ∧ i < 3 → (w.nd i).own
theorem put_own {w : Wd} {i : Int} {n : Nd} {ms : List Mg} (h : w.own) (hi : 0 ≤ i ∧ i < 3) (hn : n.own) : (w.put i n ms).own := fun j hj => by
  rw [put_nd hi hj]; split
  · exact hn
  · exact h j hj
theorem act_own {w : Wd} {k : Int} {a : Ac} (h : w.own) (B : w.Bd k) : (w.act a).own := by
  have hi := a.id_in
  have hn := h a.id hi
  unfold Wd.act
  split
  · exact put_own h hi (camp_own hn (by rw [(B.nd _ hi).id]; exact hi))
  split
  · exact put_own h hi (submit_own hn)
  split
  · exact put_own h hi hn
  split
  · exact put_own h hi (compact_own hn)
  split
  · refine put_own h hi ?_
    split
    · exact not1_own (show (0 : Int) ≠ 1 by decide)
    · exact hn
  split
  · exact h
  · rename_i m hm
    have hmb := B.ms m (List.mem_of_getElem? hm)
    exact put_own h hmb.to (step_own (h _ hmb.to))
theorem fold_own : ∀ (ds : List Ac) (w : Wd) (k : Nat), k + ds.length ≤ 1000 → w.Bd k → w.own → (ds.foldl Wd.act w).own
  | [], w, k, _, _, h => h
  | a :: ds, w, k, hk, B, h => by
    rw [List.length_cons] at hk
    have h1 := act_bd (a := a) B (by omega)
    exact fold_own ds (w.act a) (k + 1) (by omega) (by simpa using h1) (act_own h B)
theorem w0_own : w0.own := fun i hi => by
  have : i = 0 ∨ i = 1 ∨ i = 2 := by omega
  rcases this with rfl | rfl | rfl <;> exact not1_own (by decide)
theorem wd_own {ds : List Ac} (h : ds.length ≤ 1000) : (wd ds).own := fold_own ds w0 0 (by omega) w0_bd w0_own

/-- The term a step ends in. -/
theorem seen_term {n : Nd} {m : Mg} : (n.seen m).term = max n.term m.term := by
  unfold Nd.seen Nd.follow
  split
  · first | (dsimp only; omega) | (split <;> dsimp only <;> omega)
  · omega
theorem turn_term (n : Nd) (m : Mg) : (n.turn m).1.term = n.term := by
  unfold Nd.turn
  split
  · dsimp only; split <;> rfl
  split
  · dsimp only; split
    · split
      · rw [lead_term, setV_keep.2.2.2.2.2.1]
      · exact setV_keep.2.2.2.2.2.1
    · rfl
  split
  · exact (got_same n m).2.2.1
  split
  · split
    · rw [(take_same _ m).2.2.1]
    · rfl
  · rfl
/-- A state is told only of an installed one. -/
theorem take_told {n : Nd} {m : Mg} (h : (n.take m).2.2 = true) : m.kind = 4 ∧ ∃ i t, m.st = some (i, t) ∧ (n.take m).1.base = i := by
  unfold Nd.take at h ⊢
  split at h
  · rename_i hk
    refine ⟨hk, ?_⟩
    rw [if_pos hk]
    split at h
    · cases h
    · rename_i i t hs
      refine ⟨i, t, hs, ?_⟩
      split at h
      · cases h
      · rename_i hc
        rw [if_neg hc]
  · split at h <;> cases h
theorem turn_told {n : Nd} {m : Mg} (h : (n.turn m).2.2 = true) : m.kind = 4 ∧ ∃ i t, m.st = some (i, t) ∧ (n.turn m).1.base = i := by
  unfold Nd.turn at h ⊢
  split at h
  · cases h
  split at h
  · cases h
  split at h
  · cases h
  split at h
  · split at h
    · rename_i c0 c1 c3 c24 ct
      have := take_told h
      rw [if_neg c0, if_neg c1, if_neg c3, if_pos c24, if_pos ct]
      exact this
    · cases h
  · cases h
/-- What is answered. -/
def repl (m : Mg) : Int × Bool := if m.kind = 0 then (1, true) else if m.kind = 2 ∨ m.kind = 4 then (3, true) else (0, false)
theorem turn_out (n : Nd) (m : Mg) : ((repl m).2 = false → (n.turn m).2.1 = []) ∧ ((repl m).2 = true → ∃ v j, (n.turn m).2.1 = [ans n m (repl m).1 v j]) := by
  unfold repl Nd.turn
  by_cases c0 : m.kind = 0
  · rw [if_pos c0, if_pos c0]
    exact ⟨(fun h => by cases h), fun _ => ⟨_, _, rfl⟩⟩
  rw [if_neg c0, if_neg c0]
  by_cases c24 : m.kind = 2 ∨ m.kind = 4
  · rw [if_pos c24, if_neg (by omega), if_neg (by omega), if_pos c24]
    refine ⟨(fun h => by cases h), fun _ => ?_⟩
    split
    · exact ⟨_, _, rfl⟩
    · exact ⟨_, _, rfl⟩
  · rw [if_neg c24, if_neg c24]
    refine ⟨fun _ => ?_, (fun h => by cases h)⟩
    split
    · rfl
    split <;> rfl
/-- Who leads behind a vote. -/
theorem turn_vote {n : Nd} {m : Mg} (hk : m.kind = 1) (h : n.own) (hi : 0 ≤ n.id ∧ n.id < 3) (hf : 0 ≤ m.frm ∧ m.frm < 3) (hne : m.frm ≠ n.id) : ((n.turn m).1.role = 2 ↔ n.role = 2 ∨ (m.term = n.term ∧ n.role = 1 ∧ m.ok = true)) := by
  unfold Nd.turn
  rw [if_neg (by omega), if_pos hk]
  dsimp only
  by_cases c : m.term = n.term ∧ n.role = 1 ∧ m.ok = true
  · rw [if_pos c]
    have q := quo_two (n := n.setV m.frm) hf hi hne (setV_set hf) (by rw [← @setV_keep n m.frm |>.1]; rw [setV_keep.1]; exact setV_flag (h c.2.1))
    rw [if_pos q, lead_role]
    exact ⟨fun _ => Or.inr c, fun _ => rfl⟩
  · rw [if_neg c]
    exact ⟨Or.inl, fun h => h.elim id fun h => absurd h c⟩
end Go.Proofs
