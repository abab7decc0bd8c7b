/- LAYER 14: what a replica does, part 3: Beat, Campaign, Submit, follow, lead, commit. -/
import Derived.Test.YtbodlapndgnkgaaKno3
set_option linter.all false
set_option linter.constructorNameAsVariable false
namespace Go.Proofs
open Go Go.KC

theorem ids_at {j : Nat} (h : j < 3) : ids.take (j + 1) = ids.take j ++ [(j : Int)] := by
  have hjl : j < ids.length := h
  have hij : ids[j] = (j : Int) := by
    match j, hjl with
    | 0, _ => rfl
    | 1, _ => rfl
    | 2, _ => rfl
  rw [List.take_succ_eq_append_getElem hjl, hij]
theorem ids_few (j : Nat) (p : Int → Bool) : ((ids.take j).filter p).length ≤ 3 := by
  have h1 : ((ids.take j).filter p).length ≤ (ids.take j).length := List.length_filter_le _ _
  have h2 : (ids.take j).length ≤ 3 := by rw [List.length_take]; show min j 3 ≤ 3; omega
  omega
def Nd.beat (n : Nd) (s : Int × Int) : List Mg := if n.role = 2 then (ids.filter (· ≠ n.id)).map fun i => n.sendM i s else []
section
variable {H : Hp} {n : Nd} {x : Sl}
theorem beat_spec {s : Int × Int} {ps xs : Sl} (h : Lr H x n.es) (f : n.Fit) (hn : ∀ i, -2000000 ≤ n.next i ∧ n.next i ≤ 4000000) :
    SCalls Try.prog node_Node_Beat.id [n.val x, .agg #[.int .i64 s.1, .int .i64 s.2, .slice ps.a ps.len ps.cap, .slice xs.a xs.len xs.cap]] H fun r H' => ∃ y : Sl, r = .slice y.a y.len y.cap ∧ MsO H H' y (n.beat s) := by
  apply node_Node_Beat.calls
  intro H1 e1 b hb H2 e2
  obtain ⟨m1, s1⟩ := hole_facts e1
  obtain ⟨g2, m2, s2⟩ := push_facts e2
  rw [← hb] at g2
  have m02 := m1.trans m2
  have z1 := m1.size
  have loop : ∀ (d j : Nat) (H3 : Hp) (out : Sl), j + d = 3 → MsO H H3 out (if n.role = 2 then ((ids.take j).filter (· ≠ n.id)).map (fun i => n.sendM i s) else []) → H2.size ≤ H3.size → (∀ q ∈ out.blk, H2.size ≤ q) → H3[b]? = some (.cells #[.int .i64 s.1, .int .i64 s.2, .slice ps.a ps.len ps.cap, .slice xs.a xs.len xs.cap] T_api_State (0, 0)) →
      node_Node_Beat.l1 J0 n.id n.term n.vote n.base n.bt x n.role n.com n.v0 n.v1 n.v2 n.m0 n.m1 n.m2 n.n0 n.n1 n.n2 n.quiet b H3 out (j : Int) fun r H' => ∃ y : Sl, r = .slice y.a y.len y.cap ∧ MsO H H' y (n.beat s) := by
    intro d
    induction d with
    | zero =>
      intro j H3 out hj h3 hz hbo g3
      obtain rfl : j = 3 := by omega
      apply node_Node_Beat.l1.step; unfold node_Node_Beat.l1.body
      exact Br.no rfl ⟨out, rfl, h3⟩
    | succ d ih =>
      intro j H3 out hj h3 hz hbo g3
      apply node_Node_Beat.l1.step; unfold node_Node_Beat.l1.body
      have e1 : w64 ((j : Int) + 1) = ((j + 1 : Nat) : Int) := by rw [w64_id (by omega) (by omega)]; omega
      have skip : (n.role = 2 → (j : Int) = n.id) → node_Node_Beat.l1 J0 n.id n.term n.vote n.base n.bt x n.role n.com n.v0 n.v1 n.v2 n.m0 n.m1 n.m2 n.n0 n.n1 n.n2 n.quiet b H3 out (w64 ((j : Int) + 1)) fun r H' => ∃ y : Sl, r = .slice y.a y.len y.cap ∧ MsO H H' y (n.beat s) := fun hc => by
        rw [e1]
        refine ih (j + 1) H3 out (by omega) ?_ hz hbo g3
        by_cases hr : n.role = 2
        · rw [if_pos hr] at h3 ⊢
          rw [ids_at (by omega), List.filter_append]
          have : ([(j : Int)].filter (· ≠ n.id)) = [] := by simp [hc hr]
          rw [this, List.append_nil]; exact h3
        · rw [if_neg hr] at h3 ⊢; exact h3
      refine Br.yes (decide_eq_true (by omega)) ?_
      by_cases c0 : (j : Int) = n.id
      · refine Br.no (by simp [c0]) ?_
        apply node_Node_Beat.k1.step; unfold node_Node_Beat.k1.body
        exact Br.no rfl (skip fun _ => c0)
      refine Br.yes (by simpa using c0) ?_
      apply node_Node_Beat.k1.step; unfold node_Node_Beat.k1.body
      by_cases hr : n.role = 2
      rotate_left
      · exact Br.no (by simpa using hr) (skip fun h => absurd h hr)
      refine Br.yes (by simpa using hr) ?_
      have mF := h3.choose_spec.2.2.2.1
      refine (send_spec (i := (j : Int)) (ps := ps) (xs := xs) (h.mod mF) f (by omega) (hn _) g3).mono ?_
      rintro r H4 ⟨mh, rfl, hm, g, hx, hp, m4⟩
      refine ⟨_, _, _, _, _, _, _, _, mh.x, _, rfl, ?_⟩
      have ob : ∀ q ∈ out.blk, q < H3.size := Own.lt h3.choose_spec.2.1
      have z4 := m4.size
      have zF := mF.size
      have hlen : (if n.role = 2 then ((ids.take j).filter (· ≠ n.id)).map (fun i => n.sendM i s) else []).length ≤ 1000 := by
        rw [if_pos hr, List.length_map]
        have := ids_few j (fun i => decide (i ≠ n.id)); omega
      have hbl : b < H2.size := by omega
      refine MsO.snoc (h3.to m4) g (fun q hq => by have := hx q hq; exact ⟨by omega, by omega, fun h => by have := ob q h; omega⟩) (fun q hq => ?_) hlen fun y' H' h' m' b' => ?_
      · rcases hp with hp | hp
        · rw [hp] at hq; cases hq
        · rw [hp] at hq
          have hq : q = b := by simpa [ptrBlk] using hq
          exact ⟨by omega, by omega, fun h => by have := hbo q h; omega⟩
      · rw [e1]
        refine ih (j + 1) H' y' (by omega) ?_ (by have := m'.size; omega) (fun q hq => (b' q hq).elim (hbo q) fun h => by omega) ((m'.get (m4.get g3 fun e => e) fun h => by have := hbo b h; omega))
        rw [if_pos hr] at h' ⊢
        rw [ids_at (by omega), List.filter_append, List.map_append]
        have : ([(j : Int)].filter (· ≠ n.id)) = [(j : Int)] := by simp [c0]
        rw [this, List.map_singleton, ← hm]; exact h'
  have := loop 3 0 H2 ⟨none, 0, 0⟩ (by omega) (by simpa using (MsO.nil H2).from m02) (Nat.le_refl _) (by simp [Sl.blk]) g2
  simpa using this

def Nd.camp (n : Nd) : Nd × List Mg :=
  if n.role = 2 ∨ n.term ≥ 1048576 then (n, [])
  else
    let n' : Nd := { n with term := n.term + 1, vote := n.id, role := 1, quiet := 0, v0 := decide (n.id = 0), v1 := decide (n.id = 1), v2 := decide (n.id = 2) }
    (n', othersL n' ⟨0, 0, 0, 0, n.last, n.lastT, false, 0, [], none⟩)
theorem camp_spec (h : Lr H x n.es) (f : n.Fit) (ht : -1000 ≤ n.term ∧ n.term ≤ 2000000) :
    SCalls Try.prog node_Node_Campaign.id [n.val x] H fun r H' => ∃ y z : Sl, r = .tuple #[n.camp.1.val y, .slice z.a z.len z.cap] ∧ Nw H H' y n.camp.1.es ∧ MsO H H' z n.camp.2 := by
  have ff := f
  obtain ⟨fi, fb, fl⟩ := f
  apply node_Node_Campaign.calls
  intro H1 e1 H2 e2
  obtain ⟨m1, _⟩ := hole_facts e1
  obtain ⟨m2, _⟩ := hole_facts e2
  have m := m1.trans m2
  refine (nClone_spec (h.mod m) fl).mono ?_
  rintro r H3 ⟨y, rfl, hy⟩
  refine ⟨_, _, _, _, _, y, _, _, _, _, _, _, _, _, _, _, _, _, rfl, ?_⟩
  have ny := hy.nw.from m
  have yes : (n.role = 2 ∨ n.term ≥ 1048576) → node_Node_Campaign.k1 J0 H3 n.id n.term n.vote n.base n.bt y n.role n.com n.v0 n.v1 n.v2 n.m0 n.m1 n.m2 n.n0 n.n1 n.n2 n.quiet true fun r H' => ∃ y z : Sl, r = .tuple #[n.camp.1.val y, .slice z.a z.len z.cap] ∧ Nw H H' y n.camp.1.es ∧ MsO H H' z n.camp.2 := fun hc => by
    apply node_Node_Campaign.k1.step; unfold node_Node_Campaign.k1.body
    have e : n.camp = (n, []) := by unfold Nd.camp; rw [if_pos hc]
    rw [e]
    exact Br.yes rfl ⟨y, ⟨none, 0, 0⟩, rfl, ny, (MsO.nil H3).from ny.2.1⟩
  by_cases hr : n.role = 2
  · exact Br.yes (by simpa using hr) (yes (Or.inl hr))
  refine Br.no (by simpa using hr) ?_
  by_cases hT : n.term ≥ 1048576
  · rw [decide_eq_true hT]; exact yes (Or.inr hT)
  rw [decide_eq_false hT]
  apply node_Node_Campaign.k1.step; unfold node_Node_Campaign.k1.body
  have hyl := hy.len
  refine Br.no rfl ⟨fi, ?_⟩
  have go : ∀ (a b c : Bool) {K : Value → Hp → Prop}, a = decide (n.id = 0) → b = decide (n.id = 1) → c = decide (n.id = 2) →
      (∀ r H', (∃ y z : Sl, r = .tuple #[n.camp.1.val y, .slice z.a z.len z.cap] ∧ Nw H H' y n.camp.1.es ∧ MsO H H' z n.camp.2) → K r H') →
      SCalls Try.prog rlog_Log_Last.id [.agg #[.int .i64 n.base, .int .i64 n.bt, .slice y.a y.len y.cap]] H3 fun r1 H4 => ∃ x1 : Int, r1 = .int .i64 x1 ∧
        SCalls Try.prog rlog_Log_LastTerm.id [.agg #[.int .i64 n.base, .int .i64 n.bt, .slice y.a y.len y.cap]] H4 fun r2 H5 => ∃ x2 : Int, r2 = .int .i64 x2 ∧
          SCalls Try.prog node_Node_others.id [.agg #[.int .i64 n.id, .int .i64 (w64 (n.term + 1)), .int .i64 n.id, .int .i64 n.base, .int .i64 n.bt, .slice y.a y.len y.cap, .int .i64 1, .int .i64 n.com, .bool a, .bool b, .bool c, .int .i64 n.m0, .int .i64 n.m1, .int .i64 n.m2, .int .i64 n.n0, .int .i64 n.n1, .int .i64 n.n2, .int .i64 0], .agg #[.int .i64 0, .int .i64 0, .int .i64 0, .int .i64 0, .int .i64 x1, .int .i64 x2, .bool false, .int .i64 0, .slice none 0 0, .pointer none]] H5 fun r3 H6 => ∃ x3 : Sl, r3 = .slice x3.a x3.len x3.cap ∧
            K (.tuple #[.agg #[.int .i64 n.id, .int .i64 (w64 (n.term + 1)), .int .i64 n.id, .int .i64 n.base, .int .i64 n.bt, .slice y.a y.len y.cap, .int .i64 1, .int .i64 n.com, .bool a, .bool b, .bool c, .int .i64 n.m0, .int .i64 n.m1, .int .i64 n.m2, .int .i64 n.n0, .int .i64 n.n1, .int .i64 n.n2, .int .i64 0], .slice x3.a x3.len x3.cap]) H6 := by
    intro a b c K ha hb hc hK
    refine (Last_spec (b := n.base) (t := n.bt) (by unfold nice; omega) (by omega)).mono ?_
    rintro r H4 ⟨rfl, m4⟩
    refine ⟨_, rfl, (LastTerm_spec (b := n.base) (t := n.bt) (by unfold nice; omega) (by omega) (by unfold nice; omega) (hy.lr.mod m4)).mono ?_⟩
    rintro r H5 ⟨rfl, m5⟩
    refine ⟨_, rfl, ?_⟩
    have ew : w64 (n.term + 1) = n.term + 1 := w64_id (by omega) (by omega)
    rw [ew]
    have e : n.camp = ({ n with term := n.term + 1, vote := n.id, role := 1, quiet := 0, v0 := a, v1 := b, v2 := c }, othersL { n with term := n.term + 1, vote := n.id, role := 1, quiet := 0, v0 := a, v1 := b, v2 := c } ⟨0, 0, 0, 0, n.last, n.lastT, false, 0, [], none⟩) := by
      unfold Nd.camp; rw [if_neg (by omega), ha, hb, hc]
    have el : n.base + (y.len : Int) = n.last := by unfold Nd.last; omega
    rw [el]
    refine (others_spec (n := { n with term := n.term + 1, vote := n.id, role := 1, quiet := 0, v0 := a, v1 := b, v2 := c }) (x := y) (m := ⟨0, 0, 0, 0, n.last, n.lastT, false, 0, [], none⟩) rfl rfl).mono ?_
    rintro r H6 ⟨z, rfl, hz⟩
    refine ⟨z, rfl, hK _ _ ⟨y, z, by rw [e], ?_, ?_⟩⟩
    · rw [e]; exact (ny.to (m4.trans m5)).to hz.choose_spec.2.2.2.1
    · rw [e]; exact hz.from (ny.2.1.trans (m4.trans m5))
  exact vSel3 fi (fun e => go true false false (by simp [e]) (by simp [e]) (by simp [e]) fun _ _ h => h) (fun e => go false true false (by simp [e]) (by simp [e]) (by simp [e]) fun _ _ h => h) (fun e => go false false true (by simp [e]) (by simp [e]) (by simp [e]) fun _ _ h => h)

def Nd.setM (n : Nd) (i v : Int) : Nd := if i = 0 then { n with m0 := v } else if i = 1 then { n with m1 := v } else { n with m2 := v }
def Nd.setN (n : Nd) (i v : Int) : Nd := if i = 0 then { n with n0 := v } else if i = 1 then { n with n1 := v } else { n with n2 := v }
def Nd.mt (n : Nd) (i : Int) : Int := if i = 0 then n.m0 else if i = 1 then n.m1 else n.m2
def Nd.submit (n : Nd) (c : Cm) : Nd × Bool :=
  if n.role ≠ 2 ∨ n.last ≥ 1048576 then (n, false)
  else (({ n with es := n.es ++ [⟨n.last + 1, n.term, c⟩] } : Nd).setM n.id (n.last + 1), true)
theorem submit_spec {c : Cm} (h : Lr H x n.es) (f : n.Fit) :
    SCalls Try.prog node_Node_Submit.id [n.val x, c.val] H fun r H' => ∃ y : Sl, r = .tuple #[(n.submit c).1.val y, .bool (n.submit c).2] ∧ Nw H H' y (n.submit c).1.es := by
  obtain ⟨fi, fb, fl⟩ := f
  apply node_Node_Submit.calls
  intro H1 e1 H2 e2 H2' e2'
  obtain ⟨m1, _⟩ := hole_facts e1
  obtain ⟨m2, _⟩ := hole_facts e2
  obtain ⟨m2', _⟩ := hole_facts e2'
  have m := m1.trans (m2.trans m2')
  refine (nClone_spec (h.mod m) fl).mono ?_
  rintro r H3 ⟨y, rfl, hy⟩
  refine ⟨_, _, _, _, _, y, _, _, _, _, _, _, _, _, _, _, _, _, rfl, ?_⟩
  have ny := hy.nw.from m
  have hyl := hy.len
  have yes : ∀ H4, Mod (fun _ => False) H3 H4 → (n.role ≠ 2 ∨ n.last ≥ 1048576) → node_Node_Submit.k1 J0 c.op c.client c.seq c.key c.value c.old n.id n.term n.vote n.base n.bt y n.role n.com n.v0 n.v1 n.v2 n.m0 n.m1 n.m2 n.n0 n.n1 n.n2 n.quiet true H4 fun r H' => ∃ y : Sl, r = .tuple #[(n.submit c).1.val y, .bool (n.submit c).2] ∧ Nw H H' y (n.submit c).1.es := fun H4 m4 hc => by
    apply node_Node_Submit.k1.step; unfold node_Node_Submit.k1.body
    have e : n.submit c = (n, false) := by unfold Nd.submit; rw [if_pos hc]
    rw [e]
    exact Br.yes rfl ⟨y, rfl, ny.to m4⟩
  by_cases hr : n.role = 2
  rotate_left
  · exact Br.yes (by simpa using hr) (yes _ (Mod.refl _ _) (Or.inl hr))
  refine Br.no (by simpa using hr) ((Last_spec (b := n.base) (t := n.bt) (by unfold nice; omega) (by omega)).mono ?_)
  rintro r H4 ⟨rfl, m4⟩
  have el : n.base + (y.len : Int) = n.last := by unfold Nd.last; omega
  refine ⟨_, rfl, ?_⟩
  rw [el]
  by_cases hT : n.last ≥ 1048576
  · rw [decide_eq_true hT]; exact yes _ m4 (Or.inr hT)
  rw [decide_eq_false hT]
  apply node_Node_Submit.k1.step; unfold node_Node_Submit.k1.body
  have e : n.submit c = (({ n with es := n.es ++ [⟨n.last + 1, n.term, c⟩] } : Nd).setM n.id (n.last + 1), true) := by unfold Nd.submit; rw [if_neg (by omega)]
  refine Br.no rfl ((Add_spec (b := n.base) (t := n.bt) (u := n.term) (c := c) (by omega) (by omega) (hy.lr.mod m4)).mono ?_)
  rintro r H5 ⟨z, rfl, hz⟩
  have hzl := hz.len
  rw [List.length_append, List.length_singleton] at hzl
  refine ⟨_, _, z, rfl, (Last_spec (b := n.base) (t := n.bt) (by unfold nice; omega) (by omega)).mono ?_⟩
  rintro r H6 ⟨rfl, m6⟩
  have el2 : n.base + (z.len : Int) = n.last + 1 := by unfold Nd.last; omega
  refine ⟨_, rfl, fi, ?_⟩
  rw [el2]
  have nz : Nw H H6 z (n.es ++ [⟨n.last + 1, n.term, c⟩]) := by
    have := hz.nw
    rw [show n.base + (n.es.length : Int) + 1 = n.last + 1 from rfl] at this
    exact (this.from (ny.2.1.trans m4)).to m6
  refine vSel3 fi (fun e0 => ?_) (fun e0 => ?_) fun e0 => ?_
  all_goals
    refine ⟨z, ?_, ?_⟩
    · rw [e]; unfold Nd.setM; rw [e0]; rfl
    · rw [e]; unfold Nd.setM; rw [e0]; exact nz
end
end Go.Proofs
