/- LAYER 14: what a replica does, part 4: follow, lead, commit: in a block. -/
import Derived.Test.YtbodlapndgnkgaaKno4
set_option linter.all false
set_option linter.constructorNameAsVariable false
namespace Go.Proofs
open Go Go.KC

theorem le_len {a : Nat} {l : List Value} (h : Nat.ble a l.length = true) : a ≤ l.length := Nat.le_of_ble_eq_true h
def Nd.follow (n : Nd) (t : Int) : Nd := if t > n.term then { n with term := t, vote := -1, role := 0 } else { n with role := 0 }
section
variable {H : Hp} {n : Nd} {x : Sl} {b : Nat}
theorem follow_spec {t : Int} (h : NB H b n x) : SCalls Try.prog node_Node_follow.id [.pointer (some ⟨b, 0, none⟩), .int .i64 t] H fun r H' => r = .tuple #[] ∧ NB H' b (n.follow t) x ∧ Mod (· = b) H H' := by
  apply node_Node_follow.calls
  refine ⟨n.term, blk_cell h rfl, ?_⟩
  by_cases c : t > n.term
  · refine Br.yes (decide_eq_true c) ⟨blk_wr h (le_len rfl), fun H1 h1 => ?_⟩
    obtain ⟨g1, m1⟩ := blk_set1 (cs' := ({ n with term := t } : Nd).cells x) h h1 (le_len rfl) rfl
    refine ⟨blk_wr g1 (le_len rfl), fun H2 h2 => ?_⟩
    obtain ⟨g2, m2⟩ := blk_set1 (cs' := ({ n with term := t, vote := -1 } : Nd).cells x) g1 h2 (le_len rfl) rfl
    refine ⟨blk_wr g2 (le_len rfl), fun H3 h3 => ?_⟩
    obtain ⟨g3, m3⟩ := blk_set1 (cs' := ({ n with term := t, vote := -1, role := 0 } : Nd).cells x) g2 h3 (le_len rfl) rfl
    refine ⟨rfl, ?_, m1.trans (m2.trans m3)⟩
    unfold Nd.follow; rw [if_pos c]; exact g3
  · refine Br.no (decide_eq_false c) ⟨blk_wr h (le_len rfl), fun H1 h1 => ?_⟩
    obtain ⟨g1, m1⟩ := blk_set1 (cs' := ({ n with role := 0 } : Nd).cells x) h h1 (le_len rfl) rfl
    refine ⟨rfl, ?_, m1⟩
    unfold Nd.follow; rw [if_neg c]; exact g1

/-- A place of three, by a number. -/
theorem idx_m {i : Int} (hi : 0 ≤ i ∧ i < 3) : ((Addr.mk b 0 none).add 11).add (i.toNat * 1) = (Addr.mk b 0 none).add (11 + i.toNat) := by
  rw [Addr.add_loc, Addr.add_loc, Addr.add_loc, Nat.mul_one]; congr 1; omega
theorem idx_n {i : Int} (hi : 0 ≤ i ∧ i < 3) : ((Addr.mk b 0 none).add 14).add (i.toNat * 1) = (Addr.mk b 0 none).add (14 + i.toNat) := by
  rw [Addr.add_loc, Addr.add_loc, Addr.add_loc, Nat.mul_one]; congr 1; omega
theorem idx_v {i : Int} (hi : 0 ≤ i ∧ i < 3) : ((Addr.mk b 0 none).add 8).add (i.toNat * 1) = (Addr.mk b 0 none).add (8 + i.toNat) := by
  rw [Addr.add_loc, Addr.add_loc, Addr.add_loc, Nat.mul_one]; congr 1; omega
theorem cells_m {i v : Int} (hi : 0 ≤ i ∧ i < 3) : (n.setM i v).cells x = (n.cells x).set (11 + i.toNat) (.int .i64 v) := by
  have : i = 0 ∨ i = 1 ∨ i = 2 := by omega
  rcases this with rfl | rfl | rfl <;> rfl
theorem cells_n {i v : Int} (hi : 0 ≤ i ∧ i < 3) : (n.setN i v).cells x = (n.cells x).set (14 + i.toNat) (.int .i64 v) := by
  have : i = 0 ∨ i = 1 ∨ i = 2 := by omega
  rcases this with rfl | rfl | rfl <;> rfl
theorem NB.setM {i v : Int} (h : NB H b n x) (hi : 0 ≤ i ∧ i < 3) {H' : Hp} (e : H' = Hp.setCell H (((Addr.mk b 0 none).add 11).add (i.toNat * 1)) (.int .i64 v)) : NB H' b (n.setM i v) x ∧ Mod (· = b) H H' := by
  rw [idx_m hi] at e
  exact blk_set1 (cs' := (n.setM i v).cells x) h e (by show 11 + i.toNat < 18; omega) (cells_m hi)
theorem NB.setN {i v : Int} (h : NB H b n x) (hi : 0 ≤ i ∧ i < 3) {H' : Hp} (e : H' = Hp.setCell H (((Addr.mk b 0 none).add 14).add (i.toNat * 1)) (.int .i64 v)) : NB H' b (n.setN i v) x ∧ Mod (· = b) H H' := by
  rw [idx_n hi] at e
  exact blk_set1 (cs' := (n.setN i v).cells x) h e (by show 14 + i.toNat < 18; omega) (cells_n hi)
theorem NB.wrM {i : Int} (h : NB H b n x) (hi : 0 ≤ i ∧ i < 3) : WrAt H (((Addr.mk b 0 none).add 11).add (i.toNat * 1)) 1 := by rw [idx_m hi]; exact blk_wr h (by show 11 + i.toNat + 1 ≤ 18; omega)
theorem NB.wrN {i : Int} (h : NB H b n x) (hi : 0 ≤ i ∧ i < 3) : WrAt H (((Addr.mk b 0 none).add 14).add (i.toNat * 1)) 1 := by rw [idx_n hi]; exact blk_wr h (by show 14 + i.toNat + 1 ≤ 18; omega)
theorem NB.atM {i : Int} (h : NB H b n x) (hi : 0 ≤ i ∧ i < 3) : Hp.cell? H (((Addr.mk b 0 none).add 11).add (i.toNat * 1)) = some (.int .i64 (n.mt i)) := by
  rw [idx_m hi]
  have : i = 0 ∨ i = 1 ∨ i = 2 := by omega
  rcases this with rfl | rfl | rfl <;> exact blk_cell h rfl
theorem NB.atN {i : Int} (h : NB H b n x) (hi : 0 ≤ i ∧ i < 3) : Hp.cell? H (((Addr.mk b 0 none).add 14).add (i.toNat * 1)) = some (.int .i64 (n.next i)) := by
  rw [idx_n hi]
  have : i = 0 ∨ i = 1 ∨ i = 2 := by omega
  rcases this with rfl | rfl | rfl <;> exact blk_cell h rfl

def Nd.lead (n : Nd) : Nd :=
  (({ n with role := 2, es := n.es ++ [⟨n.last + 1, n.term, Cm.zero⟩], m0 := 0, m1 := 0, m2 := 0, n0 := n.last + 1, n1 := n.last + 1, n2 := n.last + 1 } : Nd).setM n.id (n.last + 1))
/-- What is so behind a method that changes a replica in its block: its entries are where they were, or new. -/
def Chg (H : Hp) (b : Nat) (x : Sl) (n' : Nd) (H' : Hp) : Prop := ∃ y : Sl, NB H' b n' y ∧ Lr H' y n'.es ∧ Mod (· = b) H H' ∧ ∀ q ∈ y.blk, q ∈ x.blk ∨ H.size ≤ q ∧ q < H'.size
theorem lead_spec (h : NB H b n x) (hr : Lr H x n.es) (hx : ∀ q ∈ x.blk, q ≠ b) (f : n.Fit) : SCalls Try.prog node_Node_lead.id [.pointer (some ⟨b, 0, none⟩)] H fun r H' => r = .tuple #[] ∧ Chg H b x n.lead H' := by
  obtain ⟨fi, fb, fl⟩ := f
  have hbz := lt_of_get h
  apply node_Node_lead.calls
  refine ⟨blk_wr h (le_len rfl), fun H1 h1 => ?_⟩
  obtain ⟨g1, m1⟩ := blk_set1 (cs' := ({ n with role := 2 } : Nd).cells x) h h1 (le_len rfl) rfl
  have g1 : NB H1 b { n with role := 2 } x := g1
  have hr1 : Lr H1 x n.es := Rows.keep hr m1 hx
  have hxl := hr.len
  refine ⟨_, _, x, g1.log, _, blk_cell g1 rfl, ?_⟩
  refine (Add_spec (b := n.base) (t := n.bt) (u := n.term) (c := Cm.zero) (by omega) (by omega) hr1).mono ?_
  rintro r H2 ⟨z, rfl, hz⟩
  have hzl := hz.len
  rw [List.length_append, List.length_singleton] at hzl
  have el : n.base + (n.es.length : Int) + 1 = n.last + 1 := rfl
  rw [el] at hz
  have nz := hz.nw
  have z1 := m1.size
  have z2 := hz.mod.size
  have g2 := g1.keep hz.mod fun e => e
  refine ⟨_, _, z, rfl, blk_wr g2 (le_len rfl), fun H3 h3 => ?_⟩
  obtain ⟨g3, m3⟩ := blk_set (cs' := ({ n with role := 2, es := n.es ++ [⟨n.last + 1, n.term, Cm.zero⟩] } : Nd).cells z) g2 h3 (le_len rfl) rfl
  have zb : ∀ q ∈ z.blk, q ≠ b := fun q hq => by have := nz.2.2 q hq; omega
  have hr3 : Lr H3 z (n.es ++ [⟨n.last + 1, n.term, Cm.zero⟩]) := Rows.keep nz.1 m3 zb
  have m03 : Mod (· = b) H H3 := m1.trans ((hz.mod.mono fun _ _ e => e.elim).trans m3)
  apply node_Node_lead.k1.step; unfold node_Node_lead.k1.body
  have hll : (z.len : Int) + n.base = n.last + 1 := by unfold Nd.last; omega
  have zsz := m3.size
  -- the loop
  have loop : ∀ (d j : Nat) (H4 : Hp) (n4 : Nd), j + d = 3 → NB H4 b n4 z → Mod (· = b) H3 H4 → n4.base = n.base → n4.bt = n.bt → n4.id = n.id →
      (match j with
        | 0 => n4 = { n with role := 2, es := n.es ++ [⟨n.last + 1, n.term, Cm.zero⟩] }
        | 1 => n4 = { n with role := 2, es := n.es ++ [⟨n.last + 1, n.term, Cm.zero⟩], n0 := n.last + 1, m0 := 0 }
        | 2 => n4 = { n with role := 2, es := n.es ++ [⟨n.last + 1, n.term, Cm.zero⟩], n0 := n.last + 1, m0 := 0, n1 := n.last + 1, m1 := 0 }
        | _ => n4 = { n with role := 2, es := n.es ++ [⟨n.last + 1, n.term, Cm.zero⟩], n0 := n.last + 1, m0 := 0, n1 := n.last + 1, m1 := 0, n2 := n.last + 1, m2 := 0 }) →
      node_Node_lead.l1 J0 ⟨b, 0, none⟩ H4 (j : Int) fun r H' => r = .tuple #[] ∧ Chg H b x n.lead H' := by
    intro d
    induction d with
    | zero =>
      intro j H4 n4 hj g4 m4 hb4 ht4 hi4 e4
      obtain rfl : j = 3 := by omega
      have e4 : n4 = { n with role := 2, es := n.es ++ [⟨n.last + 1, n.term, Cm.zero⟩], n0 := n.last + 1, m0 := 0, n1 := n.last + 1, m1 := 0, n2 := n.last + 1, m2 := 0 } := e4
      subst e4
      apply node_Node_lead.l1.step; unfold node_Node_lead.l1.body
      refine Br.no rfl ⟨_, _, z, g4.log, ?_⟩
      have fin : ∀ H5, Mod (fun _ => False) H4 H5 → ∀ H6, H6 = Hp.setCell H5 (((Addr.mk b 0 none).add 11).add (n.id.toNat * 1)) (.int .i64 (n.last + 1)) → (Value.tuple #[] = .tuple #[] ∧ Chg H b x n.lead H6) := fun H5 m5 H6 h6 => by
        obtain ⟨g6, m6⟩ := (g4.keep m5 fun e => e).setM (v := n.last + 1) fi h6
        have m46 : Mod (· = b) H4 H6 := (m5.mono fun _ _ e => e.elim).trans m6
        have zz := m4.size
        have zz' := m46.size
        refine ⟨rfl, z, g6, ?_, m03.trans (m4.trans m46), fun q hq => Or.inr ?_⟩
        · have e : n.lead.es = n.es ++ [⟨n.last + 1, n.term, Cm.zero⟩] := by
            unfold Nd.lead Nd.setM; split
            · rfl
            · split <;> rfl
          rw [e]
          exact Rows.keep hr3 (m4.trans m46) zb
        · have := nz.2.2 q hq; omega
      refine ⟨⟨_, blk_cell0 g4 rfl, ?_⟩, ?_⟩
      · refine (Last_spec (b := n.base) (t := n.bt) (by unfold nice; omega) (by omega)).mono ?_
        rintro r H5 ⟨rfl, m5⟩
        refine ⟨_, rfl, fi, (g4.keep m5 fun e => e).wrM fi, fun H6 h6 => fin H5 m5 H6 ?_⟩
        rw [h6, show n.base + (z.len : Int) = n.last + 1 by omega]
      · refine (Last_spec (b := n.base) (t := n.bt) (by unfold nice; omega) (by omega)).mono ?_
        rintro r H5 ⟨rfl, m5⟩
        have g5 := g4.keep m5 fun e => e
        refine ⟨_, rfl, _, blk_cell0 g5 rfl, fi, g5.wrM fi, fun H6 h6 => fin H5 m5 H6 ?_⟩
        rw [h6, show n.base + (z.len : Int) = n.last + 1 by omega]
    | succ d ih =>
      intro j H4 n4 hj g4 m4 hb4 ht4 hi4 e4
      apply node_Node_lead.l1.step; unfold node_Node_lead.l1.body
      refine Br.yes (decide_eq_true (by omega)) ⟨_, _, z, g4.log, ?_⟩
      refine (Last_spec (b := n4.base) (t := n4.bt) (by rw [hb4]; unfold nice; omega) (by omega)).mono ?_
      rintro r H5 ⟨rfl, m5⟩
      have g5 := g4.keep m5 fun e => e
      have hj3 : 0 ≤ (j : Int) ∧ (j : Int) < 3 := by omega
      have hv : n4.base + (z.len : Int) = n.last + 1 := by rw [hb4]; omega
      rw [hv]
      refine ⟨_, rfl, hj3, g5.wrN hj3, fun H6 h6 => ?_⟩
      obtain ⟨g6, m6⟩ := g5.setN hj3 h6
      refine ⟨hj3, g6.wrM hj3, fun H7 h7 => ?_⟩
      obtain ⟨g7, m7⟩ := g6.setM hj3 h7
      apply node_Node_lead.k2.step; unfold node_Node_lead.k2.body
      have e1 : w64 ((j : Int) + 1) = ((j + 1 : Nat) : Int) := by rw [w64_id (by omega) (by omega)]; omega
      rw [e1]
      refine ih (j + 1) H7 _ (by omega) g7 (m4.trans ((m5.mono fun _ _ e => e.elim).trans (m6.trans m7))) ?_ ?_ ?_ ?_
      all_goals
        match j, hj3, e4 with
        | 0, _, e4 => first | exact hb4 | exact ht4 | exact hi4 | (rw [e4]; rfl)
        | 1, _, e4 => first | exact hb4 | exact ht4 | exact hi4 | (rw [e4]; rfl)
        | 2, _, e4 => first | exact hb4 | exact ht4 | exact hi4 | (rw [e4]; rfl)
        | j + 3, h, _ => omega
  exact loop 3 0 H3 _ (by omega) g3 (Mod.refl _ _) rfl rfl rfl rfl

/-- Up to where a leader commits. -/
def comGo (n : Nd) : Nat → Int → Int
  | 0, _ => n.com
  | f + 1, i => if i > n.com then (if quo (decide (n.m0 ≥ i)) (decide (n.m1 ≥ i)) (decide (n.m2 ≥ i)) = true ∧ (n.at i).1 = n.term then i else comGo n f (i - 1)) else n.com
def Nd.commit (n : Nd) : Nd := { n with com := comGo n ((n.last - n.com).toNat + 1) n.last }
theorem commit_spec (h : NB H b n x) (hr : Lr H x n.es) (hx : ∀ q ∈ x.blk, q ≠ b) (f : n.Fit) (hc : -10 ≤ n.com) : SCalls Try.prog node_Node_commit.id [.pointer (some ⟨b, 0, none⟩)] H fun r H' => r = .tuple #[] ∧ NB H' b n.commit x ∧ Mod (· = b) H H' := by
  obtain ⟨fi, fb, fl⟩ := f
  have hxl := hr.len
  have hlast : n.base + (x.len : Int) = n.last := by unfold Nd.last; omega
  apply node_Node_commit.calls
  refine ⟨_, _, x, h.log, (Last_spec (b := n.base) (t := n.bt) (by unfold nice; omega) (by omega)).mono ?_⟩
  rintro r H1 ⟨rfl, m1⟩
  refine ⟨_, rfl, ?_⟩
  rw [hlast]
  have loop : ∀ (f : Nat) (i : Int) (H2 : Hp), i ≤ n.last → (i - n.com).toNat < f → Mod (fun _ => False) H H2 → comGo n f i = n.commit.com → node_Node_commit.l1 J0 ⟨b, 0, none⟩ H2 i fun r H' => r = .tuple #[] ∧ NB H' b n.commit x ∧ Mod (· = b) H H' := by
    intro f
    induction f with
    | zero => intro i H2 _ hf; omega
    | succ f ih =>
      intro i H2 hil hf m2 he
      have g2 := h.keep m2 fun e => e
      apply node_Node_commit.l1.step; unfold node_Node_commit.l1.body
      refine ⟨_, blk_cell g2 rfl, ?_⟩
      by_cases hi : i > n.com
      rotate_left
      · refine Br.no (decide_eq_false hi) ⟨rfl, ?_, m2.mono fun _ _ e => e.elim⟩
        have e : comGo n (f + 1) i = n.com := if_neg hi
        rw [e] at he
        have : n.commit = n := by
          have e : n.commit = { n with com := n.commit.com } := rfl
          rw [e, ← he]
        rw [this]; exact g2
      refine Br.yes (decide_eq_true hi) fun H3 h3 => ?_
      obtain ⟨m3, _⟩ := hole_facts h3
      have m03 := m2.trans m3
      have g3 := h.keep m03 fun e => e
      refine ⟨_, _, _, blk_row g3 rfl, ?_⟩
      have e2 : comGo n (f + 1) i = if quo (decide (n.m0 ≥ i)) (decide (n.m1 ≥ i)) (decide (n.m2 ≥ i)) = true ∧ (n.at i).1 = n.term then i else comGo n f (i - 1) := if_pos hi
      have l23 : node_Node_commit.l2 J0 ⟨b, 0, none⟩ i n.m0 n.m1 n.m2 H3 3 (decide (n.m0 ≥ i)) (decide (n.m1 ≥ i)) (decide (n.m2 ≥ i)) fun r H' => r = .tuple #[] ∧ NB H' b n.commit x ∧ Mod (· = b) H H' := by
        apply node_Node_commit.l2.step; unfold node_Node_commit.l2.body
        refine Br.no rfl ⟨_, _, x, g3.log, (TermAt_spec (b := n.base) (t := n.bt) (by unfold nice; omega) (by omega) (hr.mod m03)).mono ?_⟩
        rintro r H4 ⟨rfl, m4⟩
        refine ⟨_, _, rfl, quorum_spec.mono ?_⟩
        rintro r H5 ⟨rfl, m5⟩
        have m05 := m03.trans (m4.trans m5)
        have g5 := h.keep m05 fun e => e
        refine ⟨_, rfl, ?_⟩
        have k1 : ∀ v : Bool, (v = true ↔ quo (decide (n.m0 ≥ i)) (decide (n.m1 ≥ i)) (decide (n.m2 ≥ i)) = true ∧ (n.at i).1 = n.term) → node_Node_commit.k1 J0 ⟨b, 0, none⟩ i (decide (n.m0 ≥ i)) (decide (n.m1 ≥ i)) (decide (n.m2 ≥ i)) H5 v fun r H' => r = .tuple #[] ∧ NB H' b n.commit x ∧ Mod (· = b) H H' := fun v hv => by
          apply node_Node_commit.k1.step; unfold node_Node_commit.k1.body
          cases v with
          | true =>
            rw [if_pos (hv.1 rfl)] at e2
            refine Br.yes rfl ⟨blk_wr g5 (le_len rfl), fun H6 h6 => ?_⟩
            obtain ⟨g6, m6⟩ := blk_set1 (cs' := ({ n with com := i } : Nd).cells x) g5 h6 (le_len rfl) rfl
            refine ⟨rfl, ?_, (m05.mono fun _ _ e => e.elim).trans m6⟩
            have : n.commit = { n with com := i } := by
              have e : n.commit = { n with com := n.commit.com } := rfl
              rw [e2] at he
              rw [e, ← he]
            rw [this]; exact g6
          | false =>
            rw [if_neg fun h => Bool.noConfusion (hv.2 h)] at e2
            refine Br.no rfl ?_
            have : n.last = n.base + n.es.length := rfl
            rw [w64_id (by omega) (by omega)]
            exact ih (i - 1) H5 (by omega) (by omega) m05 (by rw [← e2]; exact he)
        cases hq : quo (decide (n.m0 ≥ i)) (decide (n.m1 ≥ i)) (decide (n.m2 ≥ i)) with
        | true =>
          refine Br.yes rfl ⟨_, blk_cell g5 rfl, k1 _ ?_⟩
          rw [hq]; simp [Nd.at]
        | false => exact Br.no rfl (k1 false (by rw [hq]; simp))
      have step : ∀ (j : Nat) (v : Int) (a c d : Bool), j < 3 → (#[.int .i64 n.m0, .int .i64 n.m1, .int .i64 n.m2] : Array Value)[((j : Nat) : Int).toNat * 1]? = some (.int .i64 v) →
          node_Node_commit.l2 J0 ⟨b, 0, none⟩ i n.m0 n.m1 n.m2 H3 ((j : Int) + 1) (if j = 0 then decide (v ≥ i) else a) (if j = 1 then decide (v ≥ i) else c) (if j = 2 then decide (v ≥ i) else d) (fun r H' => r = .tuple #[] ∧ NB H' b n.commit x ∧ Mod (· = b) H H') →
          node_Node_commit.l2 J0 ⟨b, 0, none⟩ i n.m0 n.m1 n.m2 H3 (j : Int) a c d (fun r H' => r = .tuple #[] ∧ NB H' b n.commit x ∧ Mod (· = b) H H') := by
        intro j v a c d hj hv hK
        apply node_Node_commit.l2.step; unfold node_Node_commit.l2.body
        have hj3 : 0 ≤ (j : Int) ∧ (j : Int) < 3 := by omega
        refine Br.yes (decide_eq_true (by omega)) ⟨v, ⟨hj3, hv⟩, hj3, ?_⟩
        rw [w64_id (x := (j : Int) + 1) (by omega) (by omega)]
        refine vSel3 hj3 (fun e => ?_) (fun e => ?_) fun e => ?_
        · obtain rfl : j = 0 := by omega
          simpa using hK
        · obtain rfl : j = 1 := by omega
          simpa using hK
        · obtain rfl : j = 2 := by omega
          simpa using hK
      refine step 0 n.m0 _ _ _ (by omega) rfl ?_
      refine step 1 n.m1 _ _ _ (by omega) rfl ?_
      refine step 2 n.m2 _ _ _ (by omega) rfl ?_
      simpa using l23
  exact loop _ n.last H1 (Int.le_refl _) (Nat.lt_succ_self _) m1 rfl
end
end Go.Proofs
