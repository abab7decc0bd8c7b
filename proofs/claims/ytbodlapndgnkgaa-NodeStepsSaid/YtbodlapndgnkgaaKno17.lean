/- LAYER 14: NodeSteps. -/
import Derived.Test.YtbodlapndgnkgaaKno16
set_option linter.all false
set_option linter.constructorNameAsVariable false
set_option maxRecDepth 100000
namespace Go.Proofs
open Go Go.KC
theorem MOk.mod {H H' : Hp} {m : Mg} {mx : Sl} {p : Option Addr} (M : MOk H m mx p) (mm : Mod (fun _ => False) H H') : MOk H' m mx p :=
  ⟨M.lr.mod mm, M.st.keep mm fun _ _ e => e, fun q hq => Nat.lt_of_lt_of_le (M.xb q hq) mm.size, fun q hq => Nat.lt_of_lt_of_le (M.pb q hq) mm.size, M.ix, M.ml⟩
section
variable {H : Hp}
theorem reply_spec {n : Nd} {x mx : Sl} {m : Mg} {p : Option Addr} : SCalls Try.prog tephralaw14_reply.id [n.val x, m.val mx p] H (TellPost H (.tuple #[.int .i64 (repl m).1, .bool (repl m).2])) := by
  apply tephralaw14_reply.calls (mKind := m.kind) (mFrom := m.frm) (mTo := m.to) (mTerm := m.term) (mIndex := m.index) (mLogTerm := m.lt) (mOK := m.ok) (mCommit := m.com) (mEntries := mx) (mState := p)
  intro H1 e1 H2 e2
  have mm := (hole_facts e1).1.trans (hole_facts e2).1
  unfold repl
  by_cases c0 : m.kind = 0
  · rw [if_pos c0]; exact Br.yes (by simp [c0]) ⟨rfl, mm⟩
  rw [if_neg c0]
  refine Br.no (by simp [c0]) ?_
  by_cases c2 : m.kind = 2
  · rw [if_pos (Or.inl c2)]; exact Br.yes (by simp [c2]) (Br.yes (by simp [c2]) ⟨rfl, mm⟩)
  refine Br.no (by simp [c2]) ?_
  by_cases c4 : m.kind = 4
  · rw [if_pos (Or.inr c4)]; exact Br.yes (by simp [c4]) ⟨rfl, mm⟩
  · rw [if_neg (by omega)]; exact Br.no (by simp [c4]) ⟨rfl, mm⟩

variable {acts : Sl} {ds : List Ac} {who : UInt8} {n T : Nd} {x y z mx : Sl} {m : Mg} {p q : Option Addr}
theorem steps_bad {H9 : Hp} (mm : Mod (fun _ => False) H H9) (hx : Lr H9 x n.es) (hy : Lr H9 y n.es) (hl : n.es.length ≤ 2000000) (hz : z.len = 0) :
    tephralaw14_NodeSteps.k5 J0 m.kind m.frm m.to m.term m.index m.lt m.ok m.com mx p (who.toNat : Int) n.id n.term n.vote n.base n.bt x n.role n.com n.v0 n.v1 n.v2 n.m0 n.m1 n.m2 n.n0 n.n1 n.n2 n.quiet n.id n.term n.vote n.base n.bt y n.role n.com n.v0 n.v1 n.v2 n.m0 n.m1 n.m2 n.n0 n.n1 n.n2 n.quiet z none H9 true (TellPost H (.bool true)) := by
  have hyl := hy.len
  apply tephralaw14_NodeSteps.k5.step; unfold tephralaw14_NodeSteps.k5.body
  refine Br.yes rfl (Br.yes (by rw [hz]; rfl) ?_)
  apply tephralaw14_NodeSteps.k6.step; unfold tephralaw14_NodeSteps.k6.body
  refine Br.yes rfl ((nSame_spec (b := n.base) (t := n.bt) (b' := n.base) (t' := n.bt) hy hx (by omega)).mono ?_)
  rintro r H10 ⟨rfl, m10⟩
  refine ⟨_, rfl, ?_⟩
  rw [sameL_self]
  apply tephralaw14_NodeSteps.k7.step; unfold tephralaw14_NodeSteps.k7.body
  refine Br.yes rfl ?_
  apply tephralaw14_NodeSteps.k8.step; unfold tephralaw14_NodeSteps.k8.body
  refine Br.yes (by simp) ?_
  apply tephralaw14_NodeSteps.k9.step; unfold tephralaw14_NodeSteps.k9.body
  exact Br.yes (by simp) ⟨by simp, mm.trans m10⟩

/-- What is shown of the answer to a question for a vote, and of a vote. -/
theorem steps_k11 {H7 H12 : Hp} {out : List Mg} (mm : Mod (fun _ => False) H H12) (hx : Lr H12 x n.es) (f : n.Fit) (hi : 0 ≤ n.id ∧ n.id < 3) (ho : n.own) (hb : ¬ m.bad n) (eT : T = ((n.seen m).turn m).1) (mz : MsO H7 H12 z out) (eo : out = ((n.seen m).turn m).2.1) :
    tephralaw14_NodeSteps.k11 J0 m.kind m.frm m.to m.term m.index m.lt m.ok m.com mx p n.id n.term n.vote n.base n.bt x n.role n.com n.v0 n.v1 n.v2 n.m0 n.m1 n.m2 n.n0 n.n1 n.n2 n.quiet T.id T.term T.vote T.base T.bt y T.role T.com T.v0 T.v1 T.v2 T.m0 T.m1 T.m2 T.n0 T.n1 T.n2 T.quiet z H12 false (TellPost H (.bool true)) := by
  have hxl := hx.len
  obtain ⟨fi, fb, fl⟩ := id f
  have hbb : m.to = n.id ∧ 0 ≤ m.frm ∧ m.frm < 3 ∧ m.frm ≠ n.id := by unfold Mg.bad at hb; omega
  obtain ⟨s1, s2, s3, s4, s5, s6, s7⟩ := @seen_keep n m
  have st := @seen_term n m
  apply tephralaw14_NodeSteps.k11.step; unfold tephralaw14_NodeSteps.k11.body
  refine Br.no rfl ?_
  by_cases c0 : m.kind = 0
  · refine Br.yes (by simp [c0]) ?_
    have et : (n.seen m).turn m = (if (n.seen m).asked m = true then { (n.seen m) with vote := m.frm, quiet := 0 } else n.seen m, [ans (n.seen m) m 1 ((n.seen m).asked m) 0], false) := by unfold Nd.turn; rw [if_pos c0]
    rw [et] at eT eo
    subst eo
    have hzl := mz.len
    obtain ⟨mh, ad, hd, hm, hrow, _⟩ := mz.get (j := 0) (by simp)
    have hm : mh.m = ans (n.seen m) m 1 ((n.seen m).asked m) 0 := hm
    rw [Nat.zero_mul, add_zero_of] at hrow
    have k16 : ∀ (H14 : Hp), Mod (fun _ => False) H12 H14 → tephralaw14_NodeSteps.k16 J0 m.kind m.frm m.to m.term m.index m.lt m.ok m.com mx p n.id n.term n.vote n.base n.bt x n.role n.com n.v0 n.v1 n.v2 n.m0 n.m1 n.m2 n.n0 n.n1 n.n2 n.quiet T.id T.term T.vote T.base T.bt y T.role T.com T.v0 T.v1 T.v2 T.m0 T.m1 T.m2 T.n0 T.n1 T.n2 T.quiet z ((n.seen m).asked m) H14 (TellPost H (.bool true)) := by
      intro H14 m14
      apply tephralaw14_NodeSteps.k16.step; unfold tephralaw14_NodeSteps.k16.body
      have h6 := rowAt_keep hrow m14 (fun e => e) 6 (.bool mh.m.ok) rfl
      refine ⟨⟨by omega, by rw [← hzl]; simp⟩, vPtr.mk ad hd ⟨_, h6, ?_⟩⟩
      have e6 : mh.m.ok = (n.seen m).asked m := by rw [hm]; rfl
      rw [e6]
      refine Br.yes (by simp) ?_
      cases hask : (n.seen m).asked m with
      | false => exact Br.yes rfl ⟨rfl, mm.trans m14⟩
      | true =>
        refine Br.no rfl ⟨?_, mm.trans m14⟩
        rw [hask, if_pos rfl] at eT
        rw [eT]; simp
    have k15 : ∀ v : Bool, v = (decide (m.term = (n.seen m).term) && (decide ((n.seen m).vote < 0) || decide ((n.seen m).vote = m.frm))) → tephralaw14_NodeSteps.k15 J0 m.kind m.frm m.to m.term m.index m.lt m.ok m.com mx p n.id n.term n.vote n.base n.bt x n.role n.com n.v0 n.v1 n.v2 n.m0 n.m1 n.m2 n.n0 n.n1 n.n2 n.quiet T.id T.term T.vote T.base T.bt y T.role T.com T.v0 T.v1 T.v2 T.m0 T.m1 T.m2 T.n0 T.n1 T.n2 T.quiet z H12 v (TellPost H (.bool true)) := by
      intro v hv
      apply tephralaw14_NodeSteps.k15.step; unfold tephralaw14_NodeSteps.k15.body
      have ea : (n.seen m).asked m = (v && newer n.base n.bt n.es m.index m.lt) := by unfold Nd.asked; rw [hv, s2, s3, s4]
      cases v with
      | true =>
        refine Br.yes rfl ((Newer_spec (b := n.base) (t := n.bt) (i := m.index) (u := m.lt) (by unfold nice; omega) (by omega) (by unfold nice; omega) hx).mono ?_)
        rintro r H13 ⟨rfl, m13⟩
        refine ⟨_, rfl, ?_⟩
        have := k16 H13 m13
        rw [ea, Bool.true_and] at this
        exact this
      | false =>
        have := k16 H12 (Mod.refl _ _)
        rw [ea, Bool.false_and] at this
        exact Br.no rfl this
    have k12 : ∀ v : Int, v = (n.seen m).vote → tephralaw14_NodeSteps.k12 J0 m.kind m.frm m.to m.term m.index m.lt m.ok m.com mx p n.id n.term n.vote n.base n.bt x n.role n.com n.v0 n.v1 n.v2 n.m0 n.m1 n.m2 n.n0 n.n1 n.n2 n.quiet T.id T.term T.vote T.base T.bt y T.role T.com T.v0 T.v1 T.v2 T.m0 T.m1 T.m2 T.n0 T.n1 T.n2 T.quiet z H12 v (TellPost H (.bool true)) := by
      rintro v rfl
      apply tephralaw14_NodeSteps.k12.step; unfold tephralaw14_NodeSteps.k12.body
      by_cases ct : m.term ≥ n.term
      · have e : m.term = (n.seen m).term := by omega
        refine Br.yes (decide_eq_true ct) ?_
        by_cases cv : (n.seen m).vote < 0
        · refine Br.yes (decide_eq_true cv) ?_
          apply tephralaw14_NodeSteps.k13.step; unfold tephralaw14_NodeSteps.k13.body
          exact k15 true (by rw [decide_eq_true e, decide_eq_true cv]; rfl)
        · refine Br.no (decide_eq_false cv) ?_
          apply tephralaw14_NodeSteps.k13.step; unfold tephralaw14_NodeSteps.k13.body
          exact k15 _ (by rw [decide_eq_true e, decide_eq_false cv]; simp [BEq.beq])
      · refine Br.no (decide_eq_false ct) ?_
        apply tephralaw14_NodeSteps.k14.step; unfold tephralaw14_NodeSteps.k14.body
        exact k15 false (by rw [decide_eq_false (show ¬ m.term = (n.seen m).term by omega)]; rfl)
    by_cases cg : m.term > n.term
    · refine Br.yes (decide_eq_true cg) (k12 (-1) ?_)
      unfold Nd.seen Nd.follow; rw [if_pos cg, if_pos cg]
    · refine Br.no (decide_eq_false cg) (k12 n.vote ?_)
      unfold Nd.seen; rw [if_neg cg]
  refine Br.no (by simp [c0]) ?_
  apply tephralaw14_NodeSteps.k17.step; unfold tephralaw14_NodeSteps.k17.body
  by_cases c1 : m.kind = 1
  rotate_left
  · refine Br.yes (by simpa using c1) ?_
    apply tephralaw14_NodeSteps.k18.step; unfold tephralaw14_NodeSteps.k18.body
    apply tephralaw14_NodeSteps.k19.step; unfold tephralaw14_NodeSteps.k19.body
    apply tephralaw14_NodeSteps.k20.step; unfold tephralaw14_NodeSteps.k20.body
    apply tephralaw14_NodeSteps.k21.step; unfold tephralaw14_NodeSteps.k21.body
    exact ⟨rfl, mm⟩
  have tv := turn_vote (n := n.seen m) c1 (seen_own ho) (by rw [s1]; exact hi) ⟨hbb.2.1, hbb.2.2.1⟩ (by rw [s1]; exact hbb.2.2.2)
  rw [← eT] at tv
  have key : T.role = 2 ↔ (n.role = 2 ∧ m.term ≤ n.term) ∨ (n.role = 1 ∧ m.term = n.term ∧ m.ok = true) := by
    rw [tv, st]
    by_cases cg : m.term > n.term
    · have er : (n.seen m).role = 0 := by unfold Nd.seen Nd.follow; rw [if_pos cg, if_pos cg]
      rw [er]
      constructor
      · rintro (h | h)
        · omega
        · omega
      · rintro (h | h) <;> omega
    · have es : n.seen m = n := by unfold Nd.seen; rw [if_neg cg]
      rw [es]
      constructor
      · rintro (h | ⟨h1, h2, h3⟩)
        · exact Or.inl ⟨h, by omega⟩
        · exact Or.inr ⟨h2, by omega, h3⟩
      · rintro (h | ⟨h1, h2, h3⟩)
        · exact Or.inl h.1
        · exact Or.inr ⟨by omega, h1, h3⟩
  have k27 : ∀ v : Bool, (v = true ↔ T.role = 2) → tephralaw14_NodeSteps.k27 J0 m.kind m.frm m.to m.term m.index m.lt m.ok m.com mx p n.id n.term n.vote n.base n.bt x n.role n.com n.v0 n.v1 n.v2 n.m0 n.m1 n.m2 n.n0 n.n1 n.n2 n.quiet T.id T.term T.vote T.base T.bt y T.role T.com T.v0 T.v1 T.v2 T.m0 T.m1 T.m2 T.n0 T.n1 T.n2 T.quiet H12 v (TellPost H (.bool true)) := by
    intro v hv
    apply tephralaw14_NodeSteps.k27.step; unfold tephralaw14_NodeSteps.k27.body
    refine ⟨?_, mm⟩
    congr 1
    cases v with
    | true => simp [hv.1 rfl]
    | false => have : T.role ≠ 2 := fun h => Bool.noConfusion (hv.2 h); simp [this]
  refine Br.no (by simp [c1]) ?_
  have k22 : ∀ v : Bool, (v = true ↔ n.role = 2 ∧ m.term ≤ n.term) → tephralaw14_NodeSteps.k22 J0 m.kind m.frm m.to m.term m.index m.lt m.ok m.com mx p n.id n.term n.vote n.base n.bt x n.role n.com n.v0 n.v1 n.v2 n.m0 n.m1 n.m2 n.n0 n.n1 n.n2 n.quiet T.id T.term T.vote T.base T.bt y T.role T.com T.v0 T.v1 T.v2 T.m0 T.m1 T.m2 T.n0 T.n1 T.n2 T.quiet H12 v (TellPost H (.bool true)) := by
    intro v hv
    apply tephralaw14_NodeSteps.k22.step; unfold tephralaw14_NodeSteps.k22.body
    cases v with
    | true =>
      refine Br.yes rfl ?_
      apply tephralaw14_NodeSteps.k23.step; unfold tephralaw14_NodeSteps.k23.body
      apply tephralaw14_NodeSteps.k24.step; unfold tephralaw14_NodeSteps.k24.body
      exact k27 true ⟨fun _ => key.2 (Or.inl (hv.1 rfl)), fun _ => rfl⟩
    | false =>
      have nv : ¬ (n.role = 2 ∧ m.term ≤ n.term) := fun h => Bool.noConfusion (hv.2 h)
      have k25 : ∀ u : Bool, (u = true ↔ n.role = 1 ∧ m.term = n.term) → tephralaw14_NodeSteps.k25 J0 m.kind m.frm m.to m.term m.index m.lt m.ok m.com mx p n.id n.term n.vote n.base n.bt x n.role n.com n.v0 n.v1 n.v2 n.m0 n.m1 n.m2 n.n0 n.n1 n.n2 n.quiet T.id T.term T.vote T.base T.bt y T.role T.com T.v0 T.v1 T.v2 T.m0 T.m1 T.m2 T.n0 T.n1 T.n2 T.quiet H12 u (TellPost H (.bool true)) := by
        intro u hu
        apply tephralaw14_NodeSteps.k25.step; unfold tephralaw14_NodeSteps.k25.body
        cases u with
        | true =>
          refine Br.yes rfl ?_
          apply tephralaw14_NodeSteps.k26.step; unfold tephralaw14_NodeSteps.k26.body
          refine k27 m.ok ⟨fun h => key.2 (Or.inr ⟨(hu.1 rfl).1, (hu.1 rfl).2, h⟩), fun h => ?_⟩
          rcases key.1 h with h | h
          · exact absurd h nv
          · exact h.2.2
        | false =>
          refine Br.no rfl ?_
          apply tephralaw14_NodeSteps.k26.step; unfold tephralaw14_NodeSteps.k26.body
          refine k27 false ⟨fun h => (by cases h), fun h => ?_⟩
          rcases key.1 h with h | h
          · exact absurd h nv
          · exact hu.2 ⟨h.1, h.2.1⟩
      refine Br.no rfl ?_
      by_cases cr : n.role = 1
      · exact Br.yes (by simp [cr]) (k25 _ (by simp [cr]))
      · exact Br.no (by simp [cr]) (k25 false (by simp [cr]))
  by_cases cr : n.role = 2
  · exact Br.yes (by simp [cr]) (k22 _ (by simp [cr]))
  · exact Br.no (by simp [cr]) (k22 false (by simp [cr]))

theorem steps_k10 {H7 H12 : Hp} {out : List Mg} (mm : Mod (fun _ => False) H H12) (M : MOk H12 m mx p) (hx : Lr H12 x n.es) (f : n.Fit) (hi : 0 ≤ n.id ∧ n.id < 3) (ho : n.own) (hb : ¬ m.bad n) (eT : T = ((n.seen m).turn m).1) (mz : MsO H7 H12 z out) (eo : out = ((n.seen m).turn m).2.1) (eq' : q = if ((n.seen m).turn m).2.2 = true then p else none) :
    tephralaw14_NodeSteps.k10 J0 m.kind m.frm m.to m.term m.index m.lt m.ok m.com mx p n.id n.term n.vote n.base n.bt x n.role n.com n.v0 n.v1 n.v2 n.m0 n.m1 n.m2 n.n0 n.n1 n.n2 n.quiet T.id T.term T.vote T.base T.bt y T.role T.com T.v0 T.v1 T.v2 T.m0 T.m1 T.m2 T.n0 T.n1 T.n2 T.quiet z q H12 false (TellPost H (.bool true)) := by
  have k11 := steps_k11 (y := y) (mx := mx) (p := p) mm hx f hi ho hb eT mz eo
  apply tephralaw14_NodeSteps.k10.step; unfold tephralaw14_NodeSteps.k10.body
  have et : T.term = (if m.term > n.term then m.term else n.term) := by rw [eT, turn_term, seen_term]; split <;> omega
  refine Br.no rfl (Br.no (by rw [et]; simp) ?_)
  cases ht : ((n.seen m).turn m).2.2 with
  | false =>
    rw [ht, if_neg (by simp)] at eq'
    subst eq'
    exact Br.no rfl k11
  | true =>
    rw [ht, if_pos rfl] at eq'
    subst eq'
    obtain ⟨h4, i, t, hs, hbase⟩ := turn_told ht
    have st := M.st
    rw [hs] at st
    obtain ⟨a, rfl, ps, xs, hrow⟩ := st
    have c := hrow 0 _ rfl
    rw [add_zero_of] at c
    refine Br.yes rfl (Br.no (by simp [h4]) (vPtr.mk a rfl ⟨i, c, ?_⟩))
    have : (T.base != i) = false := by rw [eT, hbase]; simp
    rw [this]
    exact k11

theorem steps_end {H3 H7 H8 H9 : Hp} {i k : Int} (m1 : Mod (fun _ => False) H H3) (M : MOk H m mx p) (m37 : Mod (fun _ => False) H3 H7) (hx : Lr H7 x n.es) (hB : n.Bd i k) (hi : 0 ≤ i ∧ i < 3) (hk : 0 ≤ k ∧ k ≤ 1000) (ho : n.own) (ew : w64 (Int.tmod (who.toNat : Int) 3) = i)
    (sp : SpP H7 p (n.step m) (.tuple #[T.val y, .slice z.a z.len z.cap, .pointer q]) H8) (eT : T = (n.step m).1) (eq' : q = if (n.step m).2.2 = true then p else none) (hy : Nw H7 H8 y (n.step m).1.es) (mz : MsO H7 H8 z (n.step m).2.1) (m89 : Mod (fun _ => False) H8 H9) :
    Br (m.to != w64 (Int.tmod (who.toNat : Int) 3)) (tephralaw14_NodeSteps.k1 J0 m.kind m.frm m.to m.term m.index m.lt m.ok m.com mx p (who.toNat : Int) n.id n.term n.vote n.base n.bt x n.role n.com n.v0 n.v1 n.v2 n.m0 n.m1 n.m2 n.n0 n.n1 n.n2 n.quiet T.id T.term T.vote T.base T.bt y T.role T.com T.v0 T.v1 T.v2 T.m0 T.m1 T.m2 T.n0 T.n1 T.n2 T.quiet z q H9 true (TellPost H (.bool true)))
      (tephralaw14_NodeSteps.k1 J0 m.kind m.frm m.to m.term m.index m.lt m.ok m.com mx p (who.toNat : Int) n.id n.term n.vote n.base n.bt x n.role n.com n.v0 n.v1 n.v2 n.m0 n.m1 n.m2 n.n0 n.n1 n.n2 n.quiet T.id T.term T.vote T.base T.bt y T.role T.com T.v0 T.v1 T.v2 T.m0 T.m1 T.m2 T.n0 T.n1 T.n2 T.quiet z q H9 (decide (m.frm < 0)) (TellPost H (.bool true))) := by
  have f := hB.fit hi (by omega)
  have hid := hB.id
  have m79 := hy.2.1.trans m89
  have m09 := m1.trans (m37.trans m79)
  have mz9 := mz.to m89
  have hzl := mz9.len
  have hx9 := hx.mod m79
  have k5 : ∀ v : Bool, (v = true ↔ m.bad n) → tephralaw14_NodeSteps.k5 J0 m.kind m.frm m.to m.term m.index m.lt m.ok m.com mx p (who.toNat : Int) n.id n.term n.vote n.base n.bt x n.role n.com n.v0 n.v1 n.v2 n.m0 n.m1 n.m2 n.n0 n.n1 n.n2 n.quiet T.id T.term T.vote T.base T.bt y T.role T.com T.v0 T.v1 T.v2 T.m0 T.m1 T.m2 T.n0 T.n1 T.n2 T.quiet z q H9 v (TellPost H (.bool true)) := by
    intro v hv
    cases v with
    | true =>
      have e : n.step m = (n, [], false) := by unfold Nd.step; rw [if_pos (hv.1 rfl)]
      rw [e] at eT eq' hzl hy
      subst eT
      have eq' : q = none := eq'
      subst eq'
      exact steps_bad m09 hx9 (hy.1.mod m89) f.el (by rw [← hzl]; rfl)
    | false =>
      have hb : ¬ m.bad n := fun h => Bool.noConfusion (hv.2 h)
      have e : n.step m = (n.seen m).turn m := by unfold Nd.step; rw [if_neg hb]
      rw [e] at eT eq' hzl hy mz9
      apply tephralaw14_NodeSteps.k5.step; unfold tephralaw14_NodeSteps.k5.body
      refine Br.no rfl (reply_spec.mono ?_)
      rintro r H12 ⟨rfl, m12⟩
      refine ⟨_, _, rfl, ?_⟩
      have mz12 := mz9.to m12
      have k10 := steps_k10 (T := T) (y := y) (q := q) (m09.trans m12) (M.mod (m09.trans m12)) (hx9.mod m12) f (by rw [hid]; exact hi) ho hb eT mz12 rfl eq'
      obtain ⟨o1, o2⟩ := turn_out (n.seen m) m
      cases hrp : (repl m).2 with
      | false =>
        rw [o1 hrp] at hzl
        refine Br.no (by rw [← hzl]; rfl) (Br.no (by rw [← hzl]; rfl) (Br.no rfl k10))
      | true =>
        obtain ⟨v, j, ho'⟩ := o2 hrp
        have mz13 := mz12
        rw [ho'] at hzl mz13
        obtain ⟨mh, ad, hd, hm, hrow, _⟩ := mz13.get (j := 0) (by simp)
        have hm : mh.m = ans (n.seen m) m (repl m).1 v j := hm
        rw [Nat.zero_mul, add_zero_of] at hrow
        have hz1 : z.len = 1 := by rw [← hzl]; rfl
        have c0 := hrow 0 _ rfl
        rw [add_zero_of] at c0
        refine Br.no (by rw [hz1]; rfl) (Br.no (by rw [hz1]; rfl) (Br.yes rfl ⟨⟨by omega, by rw [hz1]; decide⟩, vPtr.mk ad hd ⟨mh.m.kind, c0, ?_⟩⟩))
        refine Br.no (by rw [hm]; simp [ans]) ⟨⟨by omega, by rw [hz1]; decide⟩, vPtr.mk ad hd ⟨mh.m.frm, hrow 1 _ rfl, ?_⟩⟩
        refine Br.no (by rw [hm, ew]; show ((n.seen m).id != i) = false; rw [seen_keep.1, hid]; simp) ⟨⟨by omega, by rw [hz1]; decide⟩, vPtr.mk ad hd ⟨mh.m.to, hrow 2 _ rfl, ?_⟩⟩
        refine Br.no (by rw [hm]; show (m.frm != m.frm) = false; simp) ⟨⟨by omega, by rw [hz1]; decide⟩, vPtr.mk ad hd ⟨mh.m.term, hrow 3 _ rfl, ?_⟩⟩
        have et : (mh.m.term != (if m.term > n.term then m.term else n.term)) = false := by
          rw [hm]; show ((n.seen m).term != _) = false
          have : (n.seen m).term = (if m.term > n.term then m.term else n.term) := by rw [seen_term]; split <;> omega
          rw [this]; simp
        rw [et]
        exact k10
  have k4 : ∀ v : Bool, (v = true ↔ m.to ≠ n.id ∨ m.frm < 0 ∨ m.frm ≥ 3 ∨ m.frm = n.id ∨ m.term < 0) → tephralaw14_NodeSteps.k4 J0 m.kind m.frm m.to m.term m.index m.lt m.ok m.com mx p (who.toNat : Int) n.id n.term n.vote n.base n.bt x n.role n.com n.v0 n.v1 n.v2 n.m0 n.m1 n.m2 n.n0 n.n1 n.n2 n.quiet T.id T.term T.vote T.base T.bt y T.role T.com T.v0 T.v1 T.v2 T.m0 T.m1 T.m2 T.n0 T.n1 T.n2 T.quiet z q H9 v (TellPost H (.bool true)) := by
    intro v hv
    apply tephralaw14_NodeSteps.k4.step; unfold tephralaw14_NodeSteps.k4.body
    cases v with
    | true => exact Br.yes rfl (k5 true (by have := hv.1 rfl; simp only [true_iff]; unfold Mg.bad; omega))
    | false =>
      have hb : ¬ (m.to ≠ n.id ∨ m.frm < 0 ∨ m.frm ≥ 3 ∨ m.frm = n.id ∨ m.term < 0) := fun h => Bool.noConfusion (hv.2 h)
      refine Br.no rfl (k5 _ ?_)
      rw [decide_eq_true_eq]; unfold Mg.bad; omega
  have k3 : ∀ v : Bool, (v = true ↔ m.to ≠ n.id ∨ m.frm < 0 ∨ m.frm ≥ 3 ∨ m.frm = n.id) → tephralaw14_NodeSteps.k3 J0 m.kind m.frm m.to m.term m.index m.lt m.ok m.com mx p (who.toNat : Int) n.id n.term n.vote n.base n.bt x n.role n.com n.v0 n.v1 n.v2 n.m0 n.m1 n.m2 n.n0 n.n1 n.n2 n.quiet T.id T.term T.vote T.base T.bt y T.role T.com T.v0 T.v1 T.v2 T.m0 T.m1 T.m2 T.n0 T.n1 T.n2 T.quiet z q H9 v (TellPost H (.bool true)) := by
    intro v hv
    apply tephralaw14_NodeSteps.k3.step; unfold tephralaw14_NodeSteps.k3.body
    cases v with
    | true => exact Br.yes rfl (k4 true (by have := hv.1 rfl; simp only [true_iff]; omega))
    | false =>
      have hb : ¬ (m.to ≠ n.id ∨ m.frm < 0 ∨ m.frm ≥ 3 ∨ m.frm = n.id) := fun h => Bool.noConfusion (hv.2 h)
      refine Br.no rfl (k4 _ ?_)
      rw [decide_eq_true_eq]; omega
  have k2 : ∀ v : Bool, (v = true ↔ m.to ≠ n.id ∨ m.frm < 0 ∨ m.frm ≥ 3) → tephralaw14_NodeSteps.k2 J0 m.kind m.frm m.to m.term m.index m.lt m.ok m.com mx p (who.toNat : Int) n.id n.term n.vote n.base n.bt x n.role n.com n.v0 n.v1 n.v2 n.m0 n.m1 n.m2 n.n0 n.n1 n.n2 n.quiet T.id T.term T.vote T.base T.bt y T.role T.com T.v0 T.v1 T.v2 T.m0 T.m1 T.m2 T.n0 T.n1 T.n2 T.quiet z q H9 v (TellPost H (.bool true)) := by
    intro v hv
    apply tephralaw14_NodeSteps.k2.step; unfold tephralaw14_NodeSteps.k2.body
    rw [ew]
    cases v with
    | true => exact Br.yes rfl (k3 true (by have := hv.1 rfl; simp only [true_iff]; omega))
    | false =>
      have hb : ¬ (m.to ≠ n.id ∨ m.frm < 0 ∨ m.frm ≥ 3) := fun h => Bool.noConfusion (hv.2 h)
      refine Br.no rfl (k3 _ ?_)
      rw [beq_iff_eq]; omega
  have k1 : ∀ v : Bool, (v = true ↔ m.to ≠ n.id ∨ m.frm < 0) → tephralaw14_NodeSteps.k1 J0 m.kind m.frm m.to m.term m.index m.lt m.ok m.com mx p (who.toNat : Int) n.id n.term n.vote n.base n.bt x n.role n.com n.v0 n.v1 n.v2 n.m0 n.m1 n.m2 n.n0 n.n1 n.n2 n.quiet T.id T.term T.vote T.base T.bt y T.role T.com T.v0 T.v1 T.v2 T.m0 T.m1 T.m2 T.n0 T.n1 T.n2 T.quiet z q H9 v (TellPost H (.bool true)) := by
    intro v hv
    apply tephralaw14_NodeSteps.k1.step; unfold tephralaw14_NodeSteps.k1.body
    cases v with
    | true => exact Br.yes rfl (k2 true (by have := hv.1 rfl; simp only [true_iff]; omega))
    | false =>
      have hb : ¬ (m.to ≠ n.id ∨ m.frm < 0) := fun h => Bool.noConfusion (hv.2 h)
      refine Br.no rfl (k2 _ ?_)
      rw [decide_eq_true_eq]; omega
  rw [ew]
  by_cases c : m.to = i
  · refine Br.no (by simp [c]) (k1 _ ?_)
    rw [decide_eq_true_eq]; omega
  · refine Br.yes (by simpa using c) (k1 true ?_)
    simp only [true_iff]; omega

theorem NodeSteps_spec (hr : Rows H acts 20 (ds.map Ac.cells).flatten) (hl : ds.length = acts.len) (M : MOk H m mx p) :
    SCalls Try.prog tephralaw14_NodeSteps.id [.slice acts.a acts.len acts.cap, m.val mx p, .int .u8 (who.toNat : Int)] H (TellPost H (.bool true)) := by
  have hw8 := who.toNat_lt
  apply tephralaw14_NodeSteps.calls (mKind := m.kind) (mFrom := m.frm) (mTo := m.to) (mTerm := m.term) (mIndex := m.index) (mLogTerm := m.lt) (mOK := m.ok) (mCommit := m.com) (mEntries := mx) (mState := p)
  intro H0 h0
  obtain ⟨m0, _⟩ := hole_facts h0
  refine bool_step (H0 := H) awake14_spec m0 fun H1 m1 => Br.no rfl (wOf_spec.mono ?_)
  rintro r H2 ⟨b, rfl, o2⟩
  have hcap := hr.2.1
  have em : (if (80 : Int) < ((acts.len : Nat) : Int) then 80 else ((acts.len : Nat) : Int)) = ((min 80 acts.len : Nat) : Int) := by split <;> omega
  refine ⟨_, rfl, ?_⟩
  rw [em]
  refine ⟨⟨by omega, by omega⟩, ?_⟩
  have hcut := acts_cut (n := 80) hr hl
  have hdl : (ds.take 80).length = min 80 acts.len := by rw [List.length_take, hl]
  generalize ds.take 80 = es at hcut hdl
  have loop : ∀ (d j : Nat) (H3 : Hp), j + d = es.length → WH H1 H3 b (wd (es.take j)) → tephralaw14_NodeSteps.l1 J0 acts m.kind m.frm m.to m.term m.index m.lt m.ok m.com mx p (who.toNat : Int) (some ⟨b, 0, none⟩) H3 (j : Int) (TellPost H (.bool true)) := by
    intro d
    induction d with
    | succ d ih =>
      intro j H3 hj o3
      have hjl : j < es.length := by omega
      have m3 : Mod (fun _ => False) H1 H3 := by obtain ⟨_, _, _, _, _, o⟩ := o3; exact o.mod
      apply tephralaw14_NodeSteps.l1.step; unfold tephralaw14_NodeSteps.l1.body
      rw [em, Int.toNat_natCast]
      obtain ⟨a, ha, hrow⟩ := row_get (f := Ac.cells) (k := 20) (by omega) Ac.cells_len (hcut.keep (m1.trans m3) fun _ _ e => e) hjl
      refine Br.yes (decide_eq_true (by omega)) ⟨⟨by omega, by omega⟩, vPtr.mk a ha ⟨_, _, _, _, _, _, _, _, _, _, _, _, _, _, _, _, _, es[j].any.x, _, _, hrow, ?_⟩⟩
      refine do_step hjl (by omega) o3 fun H5 o5 => ⟨rfl, ?_⟩
      rw [w64_id (x := (j : Int) + 1) (by omega) (by omega)]
      have := ih (j + 1) H5 (by omega) o5
      simpa using this
    | zero =>
      intro j H3 hj o3
      obtain rfl : j = es.length := by omega
      rw [List.take_length] at o3
      apply tephralaw14_NodeSteps.l1.step; unfold tephralaw14_NodeSteps.l1.body
      rw [em, Int.toNat_natCast]
      have B := wd_bd es (by omega)
      have O := wd_own (ds := es) (by omega)
      obtain ⟨_, _, _, _, _, o⟩ := o3
      have et : w64 (Int.tmod (who.toNat : Int) 3) = ((who.toNat % 3 : Nat) : Int) := by
        have : Int.tmod (who.toNat : Int) 3 = ((who.toNat % 3 : Nat) : Int) := tmod_u8 _ 3 (by omega)
        rw [this, w64_id (by omega) (by omega)]
      have hi : 0 ≤ ((who.toNat % 3 : Nat) : Int) ∧ ((who.toNat % 3 : Nat) : Int) < 3 := by omega
      obtain ⟨x, hx, hlr, _⟩ := o.one hi
      have hB := B.nd _ hi
      have hO := O _ hi
      have hn := hB.fit hi (by omega)
      generalize hnd : (wd es).nd ((who.toNat % 3 : Nat) : Int) = n at hx hlr hn hB hO
      have m03 := m1.trans o.mod
      refine Br.no (decide_eq_false (by omega)) ⟨by omega, vPtr.mk _ rfl ⟨by rw [et]; exact hi, _, _, _, _, _, x, _, _, _, _, _, _, _, _, _, _, _, _, by rw [et]; exact hx, ?_⟩⟩
      intro H6 h6
      obtain ⟨m6, _⟩ := hole_facts h6
      refine (step_spec (m := m) (mx := mx) (p := p) (hlr.mod m6) (M.mod (m03.trans m6)) hn (by have := hB.com; omega) (fun i => by have := hB.mt i; omega) (fun i => by have := hB.nx i; omega)).mono ?_
      rintro r H7 ⟨y, z, rfl, ny, mz⟩
      refine ⟨_, _, _, _, _, y, _, _, _, _, _, _, _, _, _, _, _, _, z, _, rfl, ?_⟩
      intro H8 h8
      obtain ⟨m8, _⟩ := hole_facts h8
      exact steps_end m03 M m6 (hlr.mod m6) hB hi (by omega) hO et ⟨y, z, rfl, ny, mz⟩ rfl rfl ny mz m8
  exact loop es.length 0 H2 (by omega) o2
end
end Go.Proofs
