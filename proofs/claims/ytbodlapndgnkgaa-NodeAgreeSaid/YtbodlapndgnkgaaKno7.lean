/- LAYER 14: what a replica does, part 6: Step. -/
import Derived.Test.YtbodlapndgnkgaaKno6
set_option linter.all false
set_option linter.constructorNameAsVariable false
namespace Go.Proofs
open Go Go.KC

def Nd.setV (n : Nd) (i : Int) : Nd := if i = 0 then { n with v0 := true } else if i = 1 then { n with v1 := true } else { n with v2 := true }
def Mg.bad (m : Mg) (n : Nd) : Prop := m.to ≠ n.id ∨ m.frm < 0 ∨ m.frm ≥ 3 ∨ m.frm = n.id ∨ m.term < 0 ∨ m.term > 1048576
instance (m : Mg) (n : Nd) : Decidable (m.bad n) := by unfold Mg.bad; infer_instance
def Nd.seen (n : Nd) (m : Mg) : Nd := if m.term > n.term then n.follow m.term else n
def ans (n : Nd) (m : Mg) (k : Int) (ok : Bool) (i : Int) : Mg := ⟨k, n.id, m.frm, n.term, i, 0, ok, 0, [], none⟩
def Nd.asked (n : Nd) (m : Mg) : Bool := decide (m.term = n.term) && (decide (n.vote < 0) || decide (n.vote = m.frm)) && newer n.base n.bt n.es m.index m.lt
/-- A step, once it is known that the message is one, and its term is seen. -/
def Nd.turn (n : Nd) (m : Mg) : Nd × List Mg × Bool :=
  if m.kind = 0 then (if n.asked m = true then { n with vote := m.frm, quiet := 0 } else n, [ans n m 1 (n.asked m) 0], false)
  else if m.kind = 1 then
    (if m.term = n.term ∧ n.role = 1 ∧ m.ok = true then (if quo (n.setV m.frm).v0 (n.setV m.frm).v1 (n.setV m.frm).v2 = true then (n.setV m.frm).lead else n.setV m.frm) else n, [], false)
  else if m.kind = 3 then (n.got m, [], false)
  else if m.kind = 2 ∨ m.kind = 4 then
    if m.term = n.term ∧ n.role ≠ 2 then
      ((({ n with role := 0, quiet := 0 } : Nd).take m).1, [ans n m 3 (({ n with role := 0, quiet := 0 } : Nd).take m).2.1.1 (({ n with role := 0, quiet := 0 } : Nd).take m).2.1.2], (({ n with role := 0, quiet := 0 } : Nd).take m).2.2)
    else (n, [ans n m 3 false 0], false)
  else (n, [], false)
def Nd.step (n : Nd) (m : Mg) : Nd × List Mg × Bool := if m.bad n then (n, [], false) else (n.seen m).turn m
theorem follow_keep {n : Nd} {t : Int} : (n.follow t).id = n.id ∧ (n.follow t).base = n.base ∧ (n.follow t).bt = n.bt ∧ (n.follow t).es = n.es ∧ (n.follow t).com = n.com ∧ (∀ i, (n.follow t).mt i = n.mt i) ∧ ∀ i, (n.follow t).next i = n.next i := by
  unfold Nd.follow; split <;> exact ⟨rfl, rfl, rfl, rfl, rfl, fun _ => rfl, fun _ => rfl⟩
theorem seen_keep {n : Nd} {m : Mg} : (n.seen m).id = n.id ∧ (n.seen m).base = n.base ∧ (n.seen m).bt = n.bt ∧ (n.seen m).es = n.es ∧ (n.seen m).com = n.com ∧ (∀ i, (n.seen m).mt i = n.mt i) ∧ ∀ i, (n.seen m).next i = n.next i := by
  unfold Nd.seen; split
  · exact follow_keep
  · exact ⟨rfl, rfl, rfl, rfl, rfl, fun _ => rfl, fun _ => rfl⟩
theorem setV_keep {n : Nd} {i : Int} : (n.setV i).id = n.id ∧ (n.setV i).base = n.base ∧ (n.setV i).bt = n.bt ∧ (n.setV i).es = n.es ∧ (n.setV i).com = n.com ∧ (n.setV i).term = n.term ∧ (n.setV i).role = n.role ∧ (n.setV i).vote = n.vote := by
  unfold Nd.setV; split
  · exact ⟨rfl, rfl, rfl, rfl, rfl, rfl, rfl, rfl⟩
  · split <;> exact ⟨rfl, rfl, rfl, rfl, rfl, rfl, rfl, rfl⟩
theorem got_es (n : Nd) (m : Mg) : (n.got m).es = n.es := by
  unfold Nd.got
  split
  · rfl
  split
  · rfl
  split
  · exact setN_keep.2.2.2.1
  split
  · rfl
  · show (((n.setM m.frm (max (n.mt m.frm) m.index)).setN m.frm (max (n.mt m.frm) m.index + 1))).es = n.es
    rw [setN_keep.2.2.2.1, setM_keep.2.2.2.1]
section
variable {H0 H : Hp} {n : Nd} {x mx : Sl} {b c : Nat} {m : Mg} {p : Option Addr}
/-- What is so behind a step. -/
def SpP (H0 : Hp) (p : Option Addr) (t : Nd × List Mg × Bool) (r : Value) (H' : Hp) : Prop := ∃ y z : Sl, r = .tuple #[t.1.val y, .slice z.a z.len z.cap, .pointer (if t.2.2 = true then p else none)] ∧ Nw H0 H' y t.1.es ∧ MsO H0 H' z t.2.1
/-- A replica in a block of its own, since H0. -/
structure Ow (H0 H : Hp) (b : Nat) (n : Nd) (x : Sl) : Prop where
  nb : NB H b n x
  lr : Lr H x n.es
  bz : H0.size ≤ b
  mod : Mod (fun _ => False) H0 H
  xb : ∀ q ∈ x.blk, H0.size ≤ q ∧ q < H.size ∧ q ≠ b
theorem Ow.nw (o : Ow H0 H b n x) : Nw H0 H x n.es := ⟨o.lr, o.mod, fun q hq => ⟨(o.xb q hq).1, (o.xb q hq).2.1⟩⟩
theorem Ow.to {H' : Hp} (o : Ow H0 H b n x) (m : Mod (fun _ => False) H H') : Ow H0 H' b n x := ⟨o.nb.keep m fun e => e, o.lr.mod m, o.bz, o.mod.trans m, fun q hq => ⟨(o.xb q hq).1, Nat.lt_of_lt_of_le (o.xb q hq).2.1 m.size, (o.xb q hq).2.2⟩⟩
/-- Only the replica's block changed. -/
theorem Ow.chg {H' : Hp} {n' : Nd} (o : Ow H0 H b n x) (g : NB H' b n' x) (m : Mod (· = b) H H') (he : n'.es = n.es) : Ow H0 H' b n' x :=
  ⟨g, by rw [he]; exact Rows.keep o.lr m fun q hq h => (o.xb q hq).2.2 h, o.bz, o.mod.trans' m fun q hq h => by have := o.bz; omega, fun q hq => ⟨(o.xb q hq).1, Nat.lt_of_lt_of_le (o.xb q hq).2.1 m.size, (o.xb q hq).2.2⟩⟩
/-- The end: the replica, no message. -/
theorem Ow.fin (o : Ow H0 H b n x) : SpP H0 p (n, [], false) (.tuple #[n.val x, .slice none 0 0, .pointer none]) H := ⟨x, ⟨none, 0, 0⟩, rfl, o.nw, (MsO.nil H).from o.mod⟩
/-- The end: the replica, an answer. -/
theorem Ow.fin1 (o : Ow H0 H b n x) {a : Mg} {q : Option Addr} {v : Bool} (he : a.es = []) (hs : a.st = none) (hq : q = if v = true then p else none) {H' : Hp} (e : H' = Array.push H (.cells #[.int .i64 a.kind, .int .i64 a.frm, .int .i64 a.to, .int .i64 a.term, .int .i64 a.index, .int .i64 a.lt, .bool a.ok, .int .i64 a.com, .slice none 0 0, .pointer none] T_node_Msg)) :
    SpP H0 p (n, [a], v) (.tuple #[n.val x, .slice (some (Addr.mk H.size 0 none)) 1 1, .pointer q]) H' := by
  obtain ⟨_, m1, _⟩ := push_facts e
  refine ⟨x, ⟨some (Addr.mk H.size 0 none), 1, 1⟩, by rw [hq], o.nw.to m1, ?_⟩
  exact MsO.one (mh := ⟨a, ⟨none, 0, 0⟩, none⟩) o.mod ⟨by rw [show (Mh.m ⟨a, ⟨none, 0, 0⟩, none⟩).es = [] from he]; exact Lr.nil _, by rw [show (Mh.m ⟨a, ⟨none, 0, 0⟩, none⟩).st = none from hs]; rfl⟩ (by simp [Sl.blk]) rfl e

/-- The message's own bounds. -/
structure MOk (H : Hp) (m : Mg) (mx : Sl) (p : Option Addr) : Prop where
  lr : Lr H mx m.es
  st : StAt H p m.st
  xb : ∀ q ∈ mx.blk, q < H.size
  pb : ∀ q ∈ ptrBlk p, q < H.size
  ix : -9223372036854775808 ≤ m.index ∧ m.index ≤ 9223372036854775807
  ml : mx.len ≤ 9223372036854775807

theorem step_k6 (o : Ow H0 H b n x) (M : MOk H0 m mx p) (f : n.Fit) (hc : -10 ≤ n.com) (hf : 0 ≤ m.frm ∧ m.frm < 3) (hm : -2000000 ≤ n.mt m.frm ∧ n.mt m.frm ≤ 4000000) (hn : -2000000 ≤ n.next m.frm ∧ n.next m.frm ≤ 4000000) :
    node_Node_Step.k6 J0 m.kind m.frm m.to m.term m.index m.lt m.ok m.com mx p b H (SpP H0 p (n.turn m)) := by
  obtain ⟨fi, fb, fl⟩ := id f
  have hxl := o.lr.len
  apply node_Node_Step.k6.step; unfold node_Node_Step.k6.body
  refine ⟨_, blk_cell0 o.nb rfl, _, blk_cell o.nb rfl, ?_⟩
  rintro c rfl H8 h8
  obtain ⟨g8, m8, s8⟩ := push_facts h8
  have g8 : H8[H.size]? = some (.cells ([.int .i64 0, .int .i64 0, .int .i64 0, .int .i64 0, .int .i64 0, .int .i64 0, .bool false, .int .i64 0, .slice none 0 0, .pointer none] : List Value).toArray T_node_Msg (0, 0)) := g8
  refine ⟨blk_wr0 g8 (le_len rfl), fun H9 h9 => ?_⟩
  obtain ⟨a9, m9⟩ := blk_set0 (cs' := (ans n m 0 false 0).cells ⟨none, 0, 0⟩ none) g8 h9 (le_len rfl) rfl
  have a9 : MB H9 H.size (ans n m 0 false 0) ⟨none, 0, 0⟩ none := a9
  have hbz := lt_of_get o.nb
  have m89 : Mod (fun _ => False) H H9 := Mod.fresh (m := fun q => q = H.size) ((m8.mono fun _ _ e => e.elim).trans m9) fun q h => by omega
  have o9 := o.to m89
  have z9 := m89.size
  have s9 : H.size < H9.size := by have := m9.size; omega
  have xc : ∀ q ∈ x.blk, q ≠ H.size := fun q hq => by have := o.xb q hq; omega
  -- the answer's block changes
  have ansc : ∀ {H1 H2 : Hp} {n1 : Nd}, Ow H0 H1 b n1 x → Mod (· = H.size) H1 H2 → Ow H0 H2 b n1 x := fun {H1 H2 n1} o1 m1 =>
    ⟨o1.nb.keep m1 (by omega), Rows.keep o1.lr m1 fun q hq h => xc q hq h, o1.bz, o1.mod.trans' m1 fun q hq h => by have := o.mod.size; omega, fun q hq => ⟨(o1.xb q hq).1, Nat.lt_of_lt_of_le (o1.xb q hq).2.1 m1.size, (o1.xb q hq).2.2⟩⟩
  by_cases k0 : m.kind = 0
  · refine Br.yes (by simp [k0]) ⟨blk_wr0 a9 (le_len rfl), fun H10 h10 => ?_⟩
    have h10' : H10 = Hp.setCell H9 ((Addr.mk H.size 0 none).add 0) (.int .i64 1) := by rw [add_zero_of]; exact h10
    obtain ⟨a10, m10⟩ := blk_set1 (cs' := (ans n m 1 false 0).cells ⟨none, 0, 0⟩ none) a9 h10' (le_len rfl) rfl
    have a10 : MB H10 H.size (ans n m 1 false 0) ⟨none, 0, 0⟩ none := a10
    have o10 := ansc o9 m10
    have e0 : n.turn m = (if n.asked m = true then { n with vote := m.frm, quiet := 0 } else n, [ans n m 1 (n.asked m) 0], false) := by unfold Nd.turn; rw [if_pos k0]
    have k10 : ∀ (H14 : Hp) (v : Bool), v = n.asked m → Ow H0 H14 b n x → MB H14 H.size (ans n m 1 v 0) ⟨none, 0, 0⟩ none → node_Node_Step.k10 J0 m.kind m.frm m.to m.term m.index m.lt m.ok m.com mx p b H.size H14 (SpP H0 p (n.turn m)) := by
      intro H14 v hv o14 a14
      have k11 : ∀ (H17 : Hp) (n' : Nd), Ow H0 H17 b n' x → MB H17 H.size (ans n m 1 v 0) ⟨none, 0, 0⟩ none → n' = (if n.asked m = true then { n with vote := m.frm, quiet := 0 } else n) → node_Node_Step.k11 J0 m.kind m.frm m.to m.term m.index m.lt m.ok m.com mx p b H.size H17 (SpP H0 p (n.turn m)) := by
        intro H17 n' o17 a17 en
        apply node_Node_Step.k11.step; unfold node_Node_Step.k11.body
        have fin : ∀ q : Nat, q = H17.size → ∀ H18 : Hp, H18 = (Array.push H17 (.cells #[.int .i64 1, .int .i64 n.id, .int .i64 m.frm, .int .i64 n.term, .int .i64 0, .int .i64 0, .bool v, .int .i64 0, .slice none 0 0, .pointer none] T_node_Msg)) →
            SpP H0 p (n.turn m) (.tuple #[n'.val x, .slice (some (Addr.mk q 0 none)) 1 1, .pointer none]) H18 := by
          rintro q rfl H18 h18
          rw [e0, ← en, ← hv]
          exact o17.fin1 (a := ans n m 1 v 0) rfl rfl rfl h18
        exact ⟨_, _, _, _, _, x, _, _, _, _, _, _, _, _, _, _, _, _, o17.nb.all, ⟨_, _, _, _, _, _, _, _, ⟨none, 0, 0⟩, _, blk_row0 a17 rfl, fin, fin⟩, ⟨_, _, _, _, _, _, _, _, ⟨none, 0, 0⟩, _, blk_row0 a17 rfl, fin⟩⟩
      apply node_Node_Step.k10.step; unfold node_Node_Step.k10.body
      refine ⟨v, blk_cell a14 rfl, ?_⟩
      cases v with
      | true =>
        refine Br.yes rfl ⟨blk_wr o14.nb (le_len rfl), fun H15 h15 => ?_⟩
        obtain ⟨g15, m15⟩ := blk_set1 (cs' := ({ n with vote := m.frm } : Nd).cells x) o14.nb h15 (le_len rfl) rfl
        have o15 : Ow H0 H15 b { n with vote := m.frm } x := o14.chg g15 m15 rfl
        refine ⟨blk_wr g15 (le_len rfl), fun H16 h16 => ?_⟩
        obtain ⟨g16, m16⟩ := blk_set1 (cs' := ({ n with vote := m.frm, quiet := 0 } : Nd).cells x) g15 h16 (le_len rfl) rfl
        have o16 : Ow H0 H16 b { n with vote := m.frm, quiet := 0 } x := o15.chg g16 m16 rfl
        exact k11 H16 _ o16 (MB.keep a14 (m15.trans m16) (by omega)) (by rw [if_pos hv.symm])
      | false => exact Br.no rfl (k11 H14 n o14 a14 (by rw [if_neg (by rw [← hv]; simp)]))
    have k9 : ∀ v : Bool, v = (decide (m.term = n.term) && (decide (n.vote < 0) || decide (n.vote = m.frm))) → node_Node_Step.k9 J0 m.kind m.frm m.to m.term m.index m.lt m.ok m.com mx p b H.size H10 v (SpP H0 p (n.turn m)) := by
      intro v hv
      apply node_Node_Step.k9.step; unfold node_Node_Step.k9.body
      cases v with
      | true =>
        refine Br.yes rfl ⟨_, _, x, o10.nb.log, (Newer_spec (b := n.base) (t := n.bt) (i := m.index) (u := m.lt) (by unfold nice; omega) (by omega) (by unfold nice; omega) o10.lr).mono ?_⟩
        rintro r H11 ⟨rfl, m11⟩
        have a11 := MB.keep a10 m11 fun e => e
        refine ⟨_, rfl, blk_wr a11 (le_len rfl), fun H12 h12 => ?_⟩
        obtain ⟨a12, m12⟩ := blk_set1 (cs' := (ans n m 1 (newer n.base n.bt n.es m.index m.lt) 0).cells ⟨none, 0, 0⟩ none) a11 h12 (le_len rfl) rfl
        exact k10 H12 _ (by unfold Nd.asked; rw [← hv, Bool.true_and]) (ansc (o10.to m11) m12) a12
      | false =>
        refine Br.no rfl ⟨blk_wr a10 (le_len rfl), fun H12 h12 => ?_⟩
        obtain ⟨a12, m12⟩ := blk_set1 (cs' := (ans n m 1 false 0).cells ⟨none, 0, 0⟩ none) a10 h12 (le_len rfl) rfl
        exact k10 H12 _ (by unfold Nd.asked; rw [← hv, Bool.false_and]) (ansc o10 m12) a12
    refine ⟨_, blk_cell o10.nb rfl, ?_⟩
    by_cases ht : m.term = n.term
    rotate_left
    · refine Br.no (by simpa using ht) ?_
      apply node_Node_Step.k8.step; unfold node_Node_Step.k8.body
      exact k9 false (by simp [ht])
    refine Br.yes (by simpa using ht) ⟨_, blk_cell o10.nb rfl, ?_⟩
    by_cases hv : n.vote < 0
    · refine Br.yes (decide_eq_true hv) ?_
      apply node_Node_Step.k7.step; unfold node_Node_Step.k7.body
      exact k9 true (by simp [ht, hv])
    · refine Br.no (decide_eq_false hv) ⟨_, blk_cell o10.nb rfl, ?_⟩
      apply node_Node_Step.k7.step; unfold node_Node_Step.k7.body
      exact k9 _ (by simp [ht, hv, BEq.beq])
  refine Br.no (by simp [k0]) ?_
  by_cases k1 : m.kind = 1
  · refine Br.yes (by simp [k1]) ⟨_, blk_cell o9.nb rfl, ?_⟩
    have e0 : n.turn m = (if m.term = n.term ∧ n.role = 1 ∧ m.ok = true then (if quo (n.setV m.frm).v0 (n.setV m.frm).v1 (n.setV m.frm).v2 = true then (n.setV m.frm).lead else n.setV m.frm) else n, [], false) := by unfold Nd.turn; rw [if_neg k0, if_pos k1]
    have k13 : ∀ v : Bool, (v = true ↔ m.term = n.term ∧ n.role = 1 ∧ m.ok = true) → node_Node_Step.k13 J0 m.kind m.frm m.to m.term m.index m.lt m.ok m.com mx p b H9 v (SpP H0 p (n.turn m)) := by
      intro v hv
      apply node_Node_Step.k13.step; unfold node_Node_Step.k13.body
      cases v with
      | false =>
        rw [e0, if_neg fun h => Bool.noConfusion (hv.2 h)]
        exact Br.no rfl ⟨_, _, _, _, _, x, _, _, _, _, _, _, _, _, _, _, _, _, o9.nb.all, o9.fin⟩
      | true =>
        rw [e0, if_pos (hv.1 rfl)]
        have hw : WrAt H9 (((Addr.mk b 0 none).add 8).add ((m.frm : Int).toNat * 1)) 1 := by rw [idx_v hf]; exact blk_wr o9.nb (by show 8 + m.frm.toNat + 1 ≤ 18; omega)
        refine Br.yes rfl ⟨hf, hw, fun H21 h21 => ?_⟩
        rw [idx_v hf] at h21
        have hcs : (n.setV m.frm).cells x = (n.cells x).set (8 + m.frm.toNat) (.bool true) := by
          have : m.frm = 0 ∨ m.frm = 1 ∨ m.frm = 2 := by omega
          rcases this with h | h | h <;> (rw [h]; rfl)
        obtain ⟨g21, m21⟩ := blk_set1 (cs' := (n.setV m.frm).cells x) o9.nb h21 (by show 8 + m.frm.toNat < 18; omega) hcs
        obtain ⟨w1, w2, w3, w4, w5, w6, w7, w8⟩ := @setV_keep n m.frm
        have o21 : Ow H0 H21 b (n.setV m.frm) x := o9.chg g21 m21 w4
        refine ⟨_, _, _, blk_row g21 rfl, quorum_spec.mono ?_⟩
        rintro r H22 ⟨rfl, m22⟩
        have o22 := o21.to m22
        refine ⟨_, rfl, ?_⟩
        cases hq : quo (n.setV m.frm).v0 (n.setV m.frm).v1 (n.setV m.frm).v2 with
        | true =>
          refine Br.yes rfl ((lead_spec o22.nb o22.lr (fun q hq => (o22.xb q hq).2.2) (f.same w1 w2 w4)).mono ?_)
          rintro r H23 ⟨rfl, y, g23, l23, m23, b23⟩
          refine ⟨rfl, _, _, _, _, _, y, _, _, _, _, _, _, _, _, _, _, _, _, g23.all, ?_⟩
          rw [if_pos rfl]
          have z23 := m23.size
          have zo := o22.mod.size
          exact ⟨y, ⟨none, 0, 0⟩, rfl, ⟨l23, o22.mod.trans' m23 fun q hq h => by have := o.bz; omega, fun q hq => (b23 q hq).elim (fun h => ⟨(o22.xb q h).1, by have := (o22.xb q h).2.1; omega⟩) fun h => ⟨by omega, h.2⟩⟩, (MsO.nil H23).from (o22.mod.trans' m23 fun q hq h => by have := o.bz; omega)⟩
        | false =>
          rw [if_neg (by simp)]
          exact Br.no rfl ⟨_, _, _, _, _, x, _, _, _, _, _, _, _, _, _, _, _, _, o22.nb.all, o22.fin⟩
    by_cases ht : m.term = n.term
    rotate_left
    · refine Br.no (by simpa using ht) ?_
      apply node_Node_Step.k12.step; unfold node_Node_Step.k12.body
      exact Br.no rfl (k13 false (by simp [ht]))
    refine Br.yes (by simpa using ht) ⟨_, blk_cell o9.nb rfl, ?_⟩
    apply node_Node_Step.k12.step; unfold node_Node_Step.k12.body
    by_cases hr : n.role = 1
    · exact Br.yes (by simpa using hr) (k13 m.ok (by simp [ht, hr]))
    · exact Br.no (by simpa using hr) (k13 false (by simp [hr]))
  refine Br.no (by simp [k1]) ?_
  by_cases k3 : m.kind = 3
  · have e0 : n.turn m = (n.got m, [], false) := by unfold Nd.turn; rw [if_neg k0, if_neg k1, if_pos k3]
    refine Br.yes (by simp [k3]) ((got_spec (mx := mx) (p := p) o9.nb o9.lr (fun q hq => (o9.xb q hq).2.2) f hc hf hm hn).mono ?_)
    rintro r H24 ⟨rfl, g24, m24⟩
    have o24 : Ow H0 H24 b (n.got m) x := o9.chg g24 m24 (got_es n m)
    rw [e0]
    exact ⟨rfl, _, _, _, _, _, x, _, _, _, _, _, _, _, _, _, _, _, _, o24.nb.all, o24.fin⟩
  refine Br.no (by simp [k3]) ?_
  have k14 : ∀ v : Bool, (v = true ↔ m.kind = 2 ∨ m.kind = 4) → node_Node_Step.k14 J0 m.kind m.frm m.to m.term m.index m.lt m.ok m.com mx p b H.size H9 v (SpP H0 p (n.turn m)) := by
    intro v hv
    apply node_Node_Step.k14.step; unfold node_Node_Step.k14.body
    cases v with
    | false =>
      have e0 : n.turn m = (n, [], false) := by unfold Nd.turn; rw [if_neg k0, if_neg k1, if_neg k3, if_neg fun h => Bool.noConfusion (hv.2 h)]
      rw [e0]
      exact Br.no rfl ⟨_, _, _, _, _, x, _, _, _, _, _, _, _, _, _, _, _, _, o9.nb.all, o9.fin⟩
    | true =>
      refine Br.yes rfl ⟨blk_wr0 a9 (le_len rfl), fun H25 h25 => ?_⟩
      have h25' : H25 = Hp.setCell H9 ((Addr.mk H.size 0 none).add 0) (.int .i64 3) := by rw [add_zero_of]; exact h25
      obtain ⟨a25, m25⟩ := blk_set1 (cs' := (ans n m 3 false 0).cells ⟨none, 0, 0⟩ none) a9 h25' (le_len rfl) rfl
      have a25 : MB H25 H.size (ans n m 3 false 0) ⟨none, 0, 0⟩ none := a25
      have o25 := ansc o9 m25
      have k15 : ∀ w : Bool, (w = true ↔ m.term = n.term ∧ n.role ≠ 2) → node_Node_Step.k15 J0 m.kind m.frm m.to m.term m.index m.lt m.ok m.com mx p b H.size H25 w (SpP H0 p (n.turn m)) := by
        intro w hw
        apply node_Node_Step.k15.step; unfold node_Node_Step.k15.body
        cases w with
        | false =>
          have e0 : n.turn m = (n, [ans n m 3 false 0], false) := by unfold Nd.turn; rw [if_neg k0, if_neg k1, if_neg k3, if_pos (hv.1 rfl), if_neg fun h => Bool.noConfusion (hw.2 h)]
          have fin : ∀ q : Nat, q = H25.size → ∀ H18 : Hp, H18 = (Array.push H25 (.cells #[.int .i64 3, .int .i64 n.id, .int .i64 m.frm, .int .i64 n.term, .int .i64 0, .int .i64 0, .bool false, .int .i64 0, .slice none 0 0, .pointer none] T_node_Msg)) →
              SpP H0 p (n.turn m) (.tuple #[n.val x, .slice (some (Addr.mk q 0 none)) 1 1, .pointer none]) H18 := by
            rintro q rfl H18 h18
            rw [e0]
            exact o25.fin1 (a := ans n m 3 false 0) rfl rfl rfl h18
          exact Br.no rfl ⟨_, _, _, _, _, x, _, _, _, _, _, _, _, _, _, _, _, _, o25.nb.all, ⟨_, _, _, _, _, _, _, _, ⟨none, 0, 0⟩, _, blk_row0 a25 rfl, fin, fin⟩, ⟨_, _, _, _, _, _, _, _, ⟨none, 0, 0⟩, _, blk_row0 a25 rfl, fin⟩⟩
        | true =>
          have hw' := hw.1 rfl
          have e0 : n.turn m = ((({ n with role := 0, quiet := 0 } : Nd).take m).1, [ans n m 3 (({ n with role := 0, quiet := 0 } : Nd).take m).2.1.1 (({ n with role := 0, quiet := 0 } : Nd).take m).2.1.2], (({ n with role := 0, quiet := 0 } : Nd).take m).2.2) := by
            unfold Nd.turn; rw [if_neg k0, if_neg k1, if_neg k3, if_pos (hv.1 rfl), if_pos hw']
          refine Br.yes rfl ⟨blk_wr o25.nb (le_len rfl), fun H26 h26 => ?_⟩
          obtain ⟨g26, m26⟩ := blk_set1 (cs' := ({ n with role := 0 } : Nd).cells x) o25.nb h26 (le_len rfl) rfl
          have o26 : Ow H0 H26 b { n with role := 0 } x := o25.chg g26 m26 rfl
          refine ⟨blk_wr g26 (le_len rfl), fun H27 h27 => ?_⟩
          obtain ⟨g27, m27⟩ := blk_set1 (cs' := ({ n with role := 0, quiet := 0 } : Nd).cells x) g26 h27 (le_len rfl) rfl
          have o27 : Ow H0 H27 b { n with role := 0, quiet := 0 } x := o26.chg g27 m27 rfl
          have a27 := MB.keep a25 (m26.trans m27) (show ¬ H.size = b by omega)
          have zo := o.mod.size
          have bz := o.bz
          refine (take_spec (a := ans n m 3 false 0) (m := m) (mx := mx) (p := p) o27.nb o27.lr (fun q hq => ⟨(o27.xb q hq).2.2, xc q hq⟩) a27 rfl (show b ≠ H.size by omega) (M.lr.mod o27.mod) (fun q hq => by have := M.xb q hq; omega) (M.st.keep o27.mod fun _ _ e => e) (fun q hq => by have := M.pb q hq; omega) (f.same rfl rfl rfl) M.ix M.ml).mono ?_
          rintro r H28 ⟨rfl, y, g28, l28, a28, m28, b28⟩
          have m028 : Mod (fun _ => False) H0 H28 := o27.mod.trans' m28 fun q hq h => by omega
          have hq0 : ∀ q ∈ y.blk, H0.size ≤ q ∧ q < H28.size := fun q hq => by
            have zz := m28.size
            have zo27 := o27.mod.size
            rcases b28 q hq with h | h
            · have := o27.xb q h; exact ⟨this.1, by omega⟩
            · exact ⟨by omega, h.2⟩
          have fin : ∀ q : Nat, q = H28.size → ∀ H18 : Hp, H18 = (Array.push H28 (.cells #[.int .i64 3, .int .i64 n.id, .int .i64 m.frm, .int .i64 n.term, .int .i64 (({ n with role := 0, quiet := 0 } : Nd).take m).2.1.2, .int .i64 0, .bool (({ n with role := 0, quiet := 0 } : Nd).take m).2.1.1, .int .i64 0, .slice none 0 0, .pointer none] T_node_Msg)) →
              SpP H0 p (n.turn m) (.tuple #[(({ n with role := 0, quiet := 0 } : Nd).take m).1.val y, .slice (some (Addr.mk q 0 none)) 1 1, .pointer (if (({ n with role := 0, quiet := 0 } : Nd).take m).2.2 = true then p else none)]) H18 := by
            rintro q rfl H18 h18
            rw [e0]
            obtain ⟨_, m18, _⟩ := push_facts h18
            exact ⟨y, ⟨some (Addr.mk H28.size 0 none), 1, 1⟩, rfl, Nw.to ⟨l28, m028, hq0⟩ m18, MsO.one (mh := ⟨ans n m 3 (({ n with role := 0, quiet := 0 } : Nd).take m).2.1.1 (({ n with role := 0, quiet := 0 } : Nd).take m).2.1.2, ⟨none, 0, 0⟩, none⟩) m028 ⟨Lr.nil _, rfl⟩ (by simp [Sl.blk]) rfl h18⟩
          exact ⟨_, rfl, _, _, _, _, _, y, _, _, _, _, _, _, _, _, _, _, _, _, g28.all, ⟨_, _, _, _, _, _, _, _, ⟨none, 0, 0⟩, _, blk_row0 a28 rfl, fin, fin⟩, ⟨_, _, _, _, _, _, _, _, ⟨none, 0, 0⟩, _, blk_row0 a28 rfl, fin⟩⟩
      refine ⟨_, blk_cell o25.nb rfl, ?_⟩
      by_cases ht : m.term = n.term
      · exact Br.yes (by simpa using ht) ⟨_, blk_cell o25.nb rfl, k15 _ (by simp [ht])⟩
      · exact Br.no (by simpa using ht) (k15 false (by simp [ht]))
  by_cases k2 : m.kind = 2
  · refine Br.yes (by simp [k2]) (k14 _ ?_)
    simp [k2]
  · refine Br.no (by simp [k2]) (k14 _ ?_)
    simp [k2]

theorem step_spec (hl : Lr H x n.es) (M : MOk H m mx p) (f : n.Fit) (hc : -10 ≤ n.com) (hm : ∀ i, -2000000 ≤ n.mt i ∧ n.mt i ≤ 4000000) (hn : ∀ i, -2000000 ≤ n.next i ∧ n.next i ≤ 4000000) :
    SCalls Try.prog node_Node_Step.id [n.val x, m.val mx p] H (SpP H p (n.step m)) := by
  apply node_Node_Step.calls (mKind := m.kind) (mFrom := m.frm) (mTo := m.to) (mTerm := m.term) (mIndex := m.index) (mLogTerm := m.lt) (mOK := m.ok) (mCommit := m.com) (mEntries := mx) (mState := p)
  rintro b hb H1 h1 H2 h2 H3 h3
  obtain ⟨g1, m1, s1⟩ := push_facts h1
  rw [← hb] at g1
  have g1 : NB H1 b n x := g1
  obtain ⟨m2, _⟩ := hole_facts h2
  obtain ⟨m3, _⟩ := hole_facts h3
  have m03 := m1.trans (m2.trans m3)
  have g3 := g1.keep (m2.trans m3) fun e => e
  have hbz := lt_of_get g3
  refine ⟨_, _, _, _, _, x, _, _, _, _, _, _, _, _, _, _, _, _, g3.all, (nClone_spec (hl.mod m03) f.el).mono ?_⟩
  rintro r H4 ⟨y, rfl, hy⟩
  have g4 := g3.keep hy.mod fun e => e
  refine ⟨_, _, _, _, _, y, _, _, _, _, _, _, _, _, _, _, _, _, rfl, blk_wr0 g4 (le_len rfl), fun H5 h5 => ?_⟩
  obtain ⟨g5, m5⟩ := blk_set0 (cs' := n.cells y) g4 h5 (le_len rfl) rfl
  have ny := hy.nw
  have z3 := m03.size
  have z5 := m5.size
  have o5 : Ow H H5 b n y := by
    refine ⟨g5, Rows.keep ny.1 m5 fun q hq h => by have := ny.2.2 q hq; omega, by omega, (m03.trans ny.2.1).trans' m5 fun q hq h => by omega, fun q hq => ?_⟩
    have := ny.2.2 q hq
    omega
  refine ⟨_, blk_cell0 g5 rfl, ?_⟩
  have k5 : ∀ v : Bool, (v = true ↔ m.bad n) → node_Node_Step.k5 J0 m.kind m.frm m.to m.term m.index m.lt m.ok m.com mx p b H5 v (SpP H p (n.step m)) := by
    intro v hv
    apply node_Node_Step.k5.step; unfold node_Node_Step.k5.body
    cases v with
    | true =>
      have e : n.step m = (n, [], false) := by unfold Nd.step; rw [if_pos (hv.1 rfl)]
      rw [e]
      exact Br.yes rfl ⟨_, _, _, _, _, y, _, _, _, _, _, _, _, _, _, _, _, _, o5.nb.all, o5.fin⟩
    | false =>
      have hb : ¬ m.bad n := fun h => Bool.noConfusion (hv.2 h)
      have e : n.step m = (n.seen m).turn m := by unfold Nd.step; rw [if_neg hb]
      have hf : 0 ≤ m.frm ∧ m.frm < 3 := by unfold Mg.bad at hb; omega
      rw [e]
      refine Br.no rfl ⟨_, blk_cell o5.nb rfl, ?_⟩
      obtain ⟨s1, s2, s3, s4, s5, s6, s7⟩ := @seen_keep n m
      by_cases ht : m.term > n.term
      · refine Br.yes (decide_eq_true ht) ((follow_spec o5.nb).mono ?_)
        rintro r H6 ⟨rfl, g6, m6⟩
        have es : n.seen m = n.follow m.term := by unfold Nd.seen; rw [if_pos ht]
        rw [← es] at g6
        exact ⟨rfl, step_k6 (o5.chg g6 m6 s4) M (f.same s1 s2 s4) (by rw [s5]; exact hc) hf (by rw [s6]; exact hm _) (by rw [s7]; exact hn _)⟩
      · have es : n.seen m = n := by unfold Nd.seen; rw [if_neg ht]
        rw [es]
        exact Br.no (decide_eq_false ht) (step_k6 o5 M f hc hf (hm _) (hn _))
  have k4 : ∀ v : Bool, (v = true ↔ m.to ≠ n.id ∨ m.frm < 0 ∨ m.frm ≥ 3 ∨ m.frm = n.id ∨ m.term < 0) → node_Node_Step.k4 J0 m.kind m.frm m.to m.term m.index m.lt m.ok m.com mx p b H5 v (SpP H p (n.step m)) := by
    intro v hv
    apply node_Node_Step.k4.step; unfold node_Node_Step.k4.body
    cases v with
    | true => exact Br.yes rfl (k5 true (by have := hv.1 rfl; simp only [true_iff]; unfold Mg.bad; omega))
    | false =>
      have hb : ¬ (m.to ≠ n.id ∨ m.frm < 0 ∨ m.frm ≥ 3 ∨ m.frm = n.id ∨ m.term < 0) := fun h => Bool.noConfusion (hv.2 h)
      refine Br.no rfl (k5 _ ?_)
      rw [decide_eq_true_eq]; unfold Mg.bad; omega
  have k3 : ∀ v : Bool, (v = true ↔ m.to ≠ n.id ∨ m.frm < 0 ∨ m.frm ≥ 3 ∨ m.frm = n.id) → node_Node_Step.k3 J0 m.kind m.frm m.to m.term m.index m.lt m.ok m.com mx p b H5 v (SpP H p (n.step m)) := by
    intro v hv
    apply node_Node_Step.k3.step; unfold node_Node_Step.k3.body
    cases v with
    | true => exact Br.yes rfl (k4 true (by have := hv.1 rfl; simp only [true_iff]; omega))
    | false =>
      have hb : ¬ (m.to ≠ n.id ∨ m.frm < 0 ∨ m.frm ≥ 3 ∨ m.frm = n.id) := fun h => Bool.noConfusion (hv.2 h)
      refine Br.no rfl (k4 _ ?_)
      rw [decide_eq_true_eq]; omega
  have k2 : ∀ v : Bool, (v = true ↔ m.to ≠ n.id ∨ m.frm < 0 ∨ m.frm ≥ 3) → node_Node_Step.k2 J0 m.kind m.frm m.to m.term m.index m.lt m.ok m.com mx p b H5 v (SpP H p (n.step m)) := by
    intro v hv
    apply node_Node_Step.k2.step; unfold node_Node_Step.k2.body
    cases v with
    | true => exact Br.yes rfl (k3 true (by have := hv.1 rfl; simp only [true_iff]; omega))
    | false =>
      have hb : ¬ (m.to ≠ n.id ∨ m.frm < 0 ∨ m.frm ≥ 3) := fun h => Bool.noConfusion (hv.2 h)
      refine Br.no rfl ⟨_, blk_cell0 o5.nb rfl, k3 _ ?_⟩
      rw [beq_iff_eq]; omega
  have k1 : ∀ v : Bool, (v = true ↔ m.to ≠ n.id ∨ m.frm < 0) → node_Node_Step.k1 J0 m.kind m.frm m.to m.term m.index m.lt m.ok m.com mx p b H5 v (SpP H p (n.step m)) := by
    intro v hv
    apply node_Node_Step.k1.step; unfold node_Node_Step.k1.body
    cases v with
    | true => exact Br.yes rfl (k2 true (by have := hv.1 rfl; simp only [true_iff]; omega))
    | false =>
      have hb : ¬ (m.to ≠ n.id ∨ m.frm < 0) := fun h => Bool.noConfusion (hv.2 h)
      refine Br.no rfl (k2 _ ?_)
      rw [decide_eq_true_eq]; omega
  by_cases c0 : m.to = n.id
  · exact Br.no (by simp [c0]) (k1 _ (by rw [decide_eq_true_eq]; omega))
  · exact Br.yes (by simpa using c0) (k1 true (by simp [c0]))
end
end Go.Proofs
