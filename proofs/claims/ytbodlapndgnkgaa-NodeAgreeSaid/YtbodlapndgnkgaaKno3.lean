/- LAYER 14: what a replica does, part 2: messages. -/
import Derived.Test.YtbodlapndgnkgaaKno2
set_option linter.all false
set_option linter.constructorNameAsVariable false
namespace Go.Proofs
open Go Go.KC

theorem Lr.nil (H : Hp) : Lr H ⟨none, 0, 0⟩ [] := ⟨rfl, Nat.le_refl _, fun a ha => (by cases ha), fun _ => rfl⟩
theorem MsO.nil (H : Hp) : MsO H H ⟨none, 0, 0⟩ [] := ⟨[], rfl, by simpa using Own.nil H T_node_Msg 10, by simp [Sl.blk], Mod.refl _ _, by simp⟩
theorem MsO.from {H0 H H' : Hp} {y : Sl} {ms : List Mg} (h : MsO H H' y ms) (m : Mod (fun _ => False) H0 H) : MsO H0 H' y ms := by
  obtain ⟨l, e, o, b, m1, g⟩ := h
  have z := m.size
  exact ⟨l, e, o, fun q hq => Nat.le_trans z (b q hq), m.trans m1, fun h hh => ⟨(g h hh).1, fun q hq => ⟨Nat.le_trans z ((g h hh).2.1 q hq).1, ((g h hh).2.1 q hq).2⟩, fun q hq => ⟨Nat.le_trans z ((g h hh).2.2 q hq).1, ((g h hh).2.2 q hq).2⟩⟩⟩
theorem MsO.to {H H' H2 : Hp} {y : Sl} {ms : List Mg} (h : MsO H H' y ms) (m : Mod (fun _ => False) H' H2) : MsO H H2 y ms := by
  obtain ⟨l, e, o, b, m1, g⟩ := h
  have z := m.size
  exact ⟨l, e, o.keep m fun _ _ e => e, b, m1.trans m, fun h hh => ⟨(g h hh).1.mod m, fun q hq => ⟨((g h hh).2.1 q hq).1, Nat.lt_of_lt_of_le ((g h hh).2.1 q hq).2.1 z, ((g h hh).2.1 q hq).2.2⟩, fun q hq => ⟨((g h hh).2.2 q hq).1, Nat.lt_of_lt_of_le ((g h hh).2.2 q hq).2.1 z, ((g h hh).2.2 q hq).2.2⟩⟩⟩
theorem MsO.len {H H' : Hp} {y : Sl} {ms : List Mg} (h : MsO H H' y ms) : ms.length = y.len := by
  obtain ⟨l, e, o, b, m1, g⟩ := h
  have := (Own.rows o).1
  rw [flat_len10] at this
  rw [← e, List.length_map]; omega
/-- A message is put behind messages that are new. -/
theorem MsO.snoc {H H1 : Hp} {y : Sl} {ms : List Mg} (h : MsO H H1 y ms) {mh : Mh} (g : MgH H1 mh) (hx : ∀ q ∈ mh.x.blk, H.size ≤ q ∧ q < H1.size ∧ q ∉ y.blk) (hp : ∀ q ∈ ptrBlk mh.p, H.size ≤ q ∧ q < H1.size ∧ q ∉ y.blk) (hl : ms.length ≤ 1000)
    {K : Sl → Hp → Prop} (hK : ∀ y' H', MsO H H' y' (ms ++ [mh.m]) → Mod (· ∈ y.blk) H1 H' → (∀ q ∈ y'.blk, q ∈ y.blk ∨ H1.size ≤ q) → K y' H') :
    ∀ b : Nat, b = Array.size H1 → ∀ H2 : Hp, H2 = (Array.push H1 (.cells mh.cells.toArray T_node_Msg)) → vApp Try.prog T_sl_node_Msg y.a y.len y.cap (.slice (some (Addr.mk b 0 none)) 1 1) H2 K := by
  rintro b rfl H2 e2
  have hyl := h.len
  obtain ⟨l, e, o, bb, m1, gg⟩ := h
  obtain ⟨v2, m2, s2⟩ := push_facts e2
  have ol := Own.lt o
  refine msg_app (k := [mh]) (o.keep m2 fun _ _ e => e) ?_ rfl (by simp; omega) fun y' H' o' m' b' => ?_
  · have hs : SrcAt H2 10 1 (.slice (some (Addr.mk H1.size 0 none)) 1 1) mh.cells := by
      rw [e2]; exact cells_src mh.cells 10 (Mh.cells_len mh)
    have e1 : ([mh].map Mh.cells).flatten = mh.cells := by simp
    rw [e1]; exact hs
  · have mF : Mod (fun _ => False) H H' := Mod.fresh ((m1.trans m2).mono (m' := fun q => H.size ≤ q) (fun _ _ e => e.elim) |>.trans (m'.mono fun q _ h => bb q h)) fun _ h => h
    have z1 := m1.size
    have z' := m'.size
    have mm : Mod (· ∈ y.blk) H1 H' := (m2.mono fun _ _ e => e.elim).trans m'
    have nb : ∀ q, q < H1.size → q ∉ y.blk → q ∉ y'.blk := fun q hq hn h => (b' q h).elim hn fun h => by omega
    refine hK y' H' ⟨l ++ [mh], by rw [List.map_append, e]; rfl, o', fun q hq => (b' q hq).elim (bb q) fun h => by omega, mF, fun h hh => ?_⟩ mm fun q hq => (b' q hq).imp id fun h => by omega
    rcases List.mem_append.1 hh with hh | hh
    · obtain ⟨g1, g2, g3⟩ := gg h hh
      exact ⟨g1.keep mm (fun q hq => (g2 q hq).2.2) fun q hq => (g3 q hq).2.2, fun q hq => ⟨(g2 q hq).1, by have := (g2 q hq).2.1; omega, nb q (g2 q hq).2.1 (g2 q hq).2.2⟩, fun q hq => ⟨(g3 q hq).1, by have := (g3 q hq).2.1; omega, nb q (g3 q hq).2.1 (g3 q hq).2.2⟩⟩
    · obtain rfl := List.mem_singleton.1 hh
      exact ⟨g.keep mm (fun q hq => (hx q hq).2.2) fun q hq => (hp q hq).2.2, fun q hq => ⟨(hx q hq).1, by have := (hx q hq).2.1; omega, nb q (hx q hq).2.1 (hx q hq).2.2⟩, fun q hq => ⟨(hp q hq).1, by have := (hp q hq).2.1; omega, nb q (hp q hq).2.1 (hp q hq).2.2⟩⟩
/-- One message, made. -/
theorem MsO.one {H H1 H2 : Hp} (m : Mod (fun _ => False) H H1) {mh : Mh} (g : MgH H1 mh) (hx : mh.x.blk = []) (hp : ptrBlk mh.p = []) (e2 : H2 = Array.push H1 (.cells mh.cells.toArray T_node_Msg)) : MsO H H2 ⟨some (Addr.mk H1.size 0 none), 1, 1⟩ [mh.m] := by
  obtain ⟨v2, m2, s2⟩ := push_facts e2
  refine ⟨[mh], rfl, ⟨by simp [Mh.cells_len], Nat.le_refl _, Or.inr ⟨H1.size, mh.cells.toArray, rfl, v2, by simp [Mh.cells_len], ?_⟩⟩, fun q hq => ?_, m.trans m2, fun h hh => ?_⟩
  · simp only [Nat.one_mul]; exact List.take_of_length_le (Nat.le_of_eq (Mh.cells_len mh))
  · have hq : q = H1.size := by simpa [Sl.blk] using hq
    rw [hq]; exact m.size
  · obtain rfl := List.mem_singleton.1 hh
    exact ⟨g.mod m2, fun q hq => (by rw [hx] at hq; cases hq), fun q hq => (by rw [hp] at hq; cases hq)⟩

def ids : List Int := [0, 1, 2]
def othersL (n : Nd) (m : Mg) : List Mg := (ids.filter (· ≠ n.id)).map fun i => { m with frm := n.id, to := i, term := n.term }
section
variable {H : Hp} {n : Nd} {x : Sl}
theorem others_spec {m : Mg} (he : m.es = []) (hs : m.st = none) : SCalls Try.prog node_Node_others.id [n.val x, m.val ⟨none, 0, 0⟩ none] H fun r H' => ∃ y : Sl, r = .slice y.a y.len y.cap ∧ MsO H H' y (othersL n m) := by
  apply node_Node_others.calls
  intro H1 e1 H2 e2
  obtain ⟨m1, _⟩ := hole_facts e1
  obtain ⟨m2, _⟩ := hole_facts e2
  have m02 := m1.trans m2
  have loop : ∀ (d j : Nat) (H3 : Hp) (out : Sl) (a b c : Int), j + d = 3 → MsO H H3 out (((ids.take j).filter (· ≠ n.id)).map fun i => { m with frm := n.id, to := i, term := n.term }) →
      node_Node_others.l1 J0 n.id n.term n.vote n.base n.bt x n.role n.com n.v0 n.v1 n.v2 n.m0 n.m1 n.m2 n.n0 n.n1 n.n2 n.quiet m.kind m.index m.lt m.ok m.com ⟨none, 0, 0⟩ none H3 out (j : Int) a b c fun r H' => ∃ y : Sl, r = .slice y.a y.len y.cap ∧ MsO H H' y (othersL n m) := by
    intro d
    induction d with
    | zero =>
      intro j H3 out a b c hj h
      obtain rfl : j = 3 := by omega
      apply node_Node_others.l1.step; unfold node_Node_others.l1.body
      exact Br.no rfl ⟨out, rfl, h⟩
    | succ d ih =>
      intro j H3 out a b c hj h
      apply node_Node_others.l1.step; unfold node_Node_others.l1.body
      have hjl : j < ids.length := by show j < 3; omega
      have hij : ids[j] = (j : Int) := by
        match j, hjl with
        | 0, _ => rfl
        | 1, _ => rfl
        | 2, _ => rfl
      have ht : ids.take (j + 1) = ids.take j ++ [(j : Int)] := by rw [List.take_succ_eq_append_getElem hjl, hij]
      have e1 : w64 ((j : Int) + 1) = ((j + 1 : Nat) : Int) := by rw [w64_id (by omega) (by omega)]; omega
      refine Br.yes (decide_eq_true (by omega)) ?_
      by_cases c0 : (j : Int) = n.id
      · refine Br.no (by simp [c0]) ?_
        rw [e1]
        refine ih (j + 1) H3 out a b c (by omega) ?_
        rw [ht, List.filter_append]
        simpa [c0] using h
      · have k1 : node_Node_others.k1 J0 n.id n.term n.vote n.base n.bt x n.role n.com n.v0 n.v1 n.v2 n.m0 n.m1 n.m2 n.n0 n.n1 n.n2 n.quiet m.kind m.index m.lt m.ok m.com ⟨none, 0, 0⟩ none H3 out (j : Int) fun r H' => ∃ y : Sl, r = .slice y.a y.len y.cap ∧ MsO H H' y (othersL n m) := by
          apply node_Node_others.k1.step; unfold node_Node_others.k1.body
          have hlen : (((ids.take j).filter (· ≠ n.id)).map fun i => ({ m with frm := n.id, to := i, term := n.term } : Mg)).length ≤ 1000 := by
            rw [List.length_map]
            have h1 := List.length_filter_le (fun i => decide (i ≠ n.id)) (ids.take j)
            have h2 : (ids.take j).length ≤ 3 := by rw [List.length_take]; show min j 3 ≤ 3; omega
            have h3 : ((ids.take j).filter (· ≠ n.id)).length ≤ (ids.take j).length := List.length_filter_le _ _
            omega
          refine MsO.snoc h (mh := ⟨{ m with frm := n.id, to := (j : Int), term := n.term }, ⟨none, 0, 0⟩, none⟩) ⟨by rw [show ({ m with frm := n.id, to := (j : Int), term := n.term } : Mg).es = [] from he]; exact Lr.nil _, by rw [show ({ m with frm := n.id, to := (j : Int), term := n.term } : Mg).st = none from hs]; rfl⟩ (by simp [Sl.blk]) (by simp [ptrBlk]) hlen fun y' H' h' _ _ => ?_
          rw [e1]
          refine ih (j + 1) H' y' _ _ _ (by omega) ?_
          rw [ht, List.filter_append, List.map_append]
          have : ([(j : Int)].filter (· ≠ n.id)) = [(j : Int)] := by simp [c0]
          rw [this]; exact h'
        exact Br.yes (by simpa using c0) ⟨k1, k1, k1⟩
  exact loop 3 0 H2 ⟨none, 0, 0⟩ _ _ _ (by omega) (by simpa using (MsO.nil H2).from m02)

def Nd.next (n : Nd) (i : Int) : Int := if i = 0 then n.n0 else if i = 1 then n.n1 else n.n2
def Nd.sendM (n : Nd) (i : Int) (s : Int × Int) : Mg :=
  if (n.at (n.next i - 1)).2 = true ∧ (after n.base n.es (n.next i - 1) 4).2 = true then ⟨2, n.id, i, n.term, n.next i - 1, (n.at (n.next i - 1)).1, false, n.com, (after n.base n.es (n.next i - 1) 4).1, none⟩
  else ⟨4, n.id, i, n.term, s.1, s.2, false, n.com, [], some s⟩
theorem send_spec {i : Int} {b : Nat} {s : Int × Int} {ps xs : Sl} (h : Lr H x n.es) (f : n.Fit) (hi : 0 ≤ i ∧ i < 3) (hn : -2000000 ≤ n.next i ∧ n.next i ≤ 4000000) (hs : H[b]? = some (.cells #[.int .i64 s.1, .int .i64 s.2, .slice ps.a ps.len ps.cap, .slice xs.a xs.len xs.cap] T_api_State (0, 0))) :
    SCalls Try.prog node_Node_send.id [n.val x, .int .i64 i, .pointer (some ⟨b, 0, none⟩)] H fun r H' => ∃ mh : Mh, r = mh.m.val mh.x mh.p ∧ mh.m = n.sendM i s ∧ MgH H' mh ∧ (∀ q ∈ mh.x.blk, H.size ≤ q ∧ q < H'.size) ∧ (mh.p = none ∨ mh.p = some ⟨b, 0, none⟩) ∧ Mod (fun _ => False) H H' := by
  obtain ⟨_, fb, fl⟩ := f
  have hxl := h.len
  apply node_Node_send.calls
  intro H1 e1 H2 e2
  obtain ⟨m1, _⟩ := hole_facts e1
  obtain ⟨m2, _⟩ := hole_facts e2
  have m02 := m1.trans m2
  have k1 : ∀ H3, Mod (fun _ => False) H H3 → node_Node_send.k1 J0 n.id n.term n.vote n.base n.bt x n.role n.com n.v0 n.v1 n.v2 n.m0 n.m1 n.m2 n.n0 n.n1 n.n2 n.quiet i ⟨b, 0, none⟩ (n.next i - 1) H3 fun r H' => ∃ mh : Mh, r = mh.m.val mh.x mh.p ∧ mh.m = n.sendM i s ∧ MgH H' mh ∧ (∀ q ∈ mh.x.blk, H.size ≤ q ∧ q < H'.size) ∧ (mh.p = none ∨ mh.p = some ⟨b, 0, none⟩) ∧ Mod (fun _ => False) H H' := by
    intro H3 m3
    apply node_Node_send.k1.step; unfold node_Node_send.k1.body
    refine (After_spec (b := n.base) (t := n.bt) (q := 4) (by omega) (by omega) (by omega) (h.mod m3)).mono ?_
    rintro r H4 ⟨y, rfl, hy, m4, b4⟩
    refine ⟨y, _, rfl, (TermAt_spec (b := n.base) (t := n.bt) (by unfold nice; omega) (by omega) (h.mod (m3.trans m4))).mono ?_⟩
    rintro r H5 ⟨rfl, m5⟩
    refine ⟨_, _, rfl, ?_⟩
    have m05 := m3.trans (m4.trans m5)
    have hs5 := m05.get hs fun e => e
    have z3 := m3.size
    have z5 := m5.size
    have no : ¬ ((n.at (n.next i - 1)).2 = true ∧ (after n.base n.es (n.next i - 1) 4).2 = true) → node_Node_send.k2 J0 n.id n.term n.vote n.base n.bt x n.role n.com n.v0 n.v1 n.v2 n.m0 n.m1 n.m2 n.n0 n.n1 n.n2 n.quiet i ⟨b, 0, none⟩ (n.next i - 1) y H5 (termAt n.base n.bt n.es (n.next i - 1)).1 false fun r H' => ∃ mh : Mh, r = mh.m.val mh.x mh.p ∧ mh.m = n.sendM i s ∧ MgH H' mh ∧ (∀ q ∈ mh.x.blk, H.size ≤ q ∧ q < H'.size) ∧ (mh.p = none ∨ mh.p = some ⟨b, 0, none⟩) ∧ Mod (fun _ => False) H H' := fun hc => by
      apply node_Node_send.k2.step; unfold node_Node_send.k2.body
      have c0 : Hp.cell? H5 ⟨b, 0, none⟩ = some (.int .i64 s.1) := by rw [cell_of hs5]; rfl
      have c1 : Hp.cell? H5 ((Addr.mk b 0 none).add 1) = some (.int .i64 s.2) := by rw [Addr.add_loc, cell_of hs5]; rfl
      have fin : ∃ mh : Mh, (.agg #[.int .i64 4, .int .i64 n.id, .int .i64 i, .int .i64 n.term, .int .i64 s.1, .int .i64 s.2, .bool false, .int .i64 n.com, .slice none 0 0, .pointer (some ⟨b, 0, none⟩)] : Value) = mh.m.val mh.x mh.p ∧ mh.m = n.sendM i s ∧ MgH H5 mh ∧ (∀ q ∈ mh.x.blk, H.size ≤ q ∧ q < H5.size) ∧ (mh.p = none ∨ mh.p = some ⟨b, 0, none⟩) ∧ Mod (fun _ => False) H H5 :=
        ⟨⟨⟨4, n.id, i, n.term, s.1, s.2, false, n.com, [], some s⟩, ⟨none, 0, 0⟩, some ⟨b, 0, none⟩⟩, rfl, by unfold Nd.sendM; rw [if_neg hc], ⟨Lr.nil _, ⟨b, 0, none⟩, rfl, ps, xs, fun j v hj => by rw [Addr.add_loc, cell_of hs5, Nat.zero_add]; simpa using hj⟩, by simp [Sl.blk], Or.inr rfl, m05⟩
      exact Br.no rfl ⟨⟨_, c0, ⟨_, c1, fin⟩, ⟨_, c1, fin⟩, ⟨_, c1, fin⟩⟩, ⟨_, c1, ⟨_, c0, fin⟩, ⟨_, c0, fin⟩⟩, ⟨_, c0, ⟨_, c1, fin⟩, ⟨_, c1, fin⟩⟩⟩
    cases ha : (termAt n.base n.bt n.es (n.next i - 1)).2 with
    | false => exact Br.no rfl (no fun hc => by have h1 : (termAt n.base n.bt n.es (n.next i - 1)).2 = true := hc.1; rw [ha] at h1; cases h1)
    | true =>
      refine Br.yes rfl ?_
      cases hf : (after n.base n.es (n.next i - 1) 4).2 with
      | false => exact no fun hc => by have h1 := hc.2; rw [hf] at h1; cases h1
      | true =>
        apply node_Node_send.k2.step; unfold node_Node_send.k2.body
        refine Br.yes rfl ⟨⟨⟨2, n.id, i, n.term, n.next i - 1, (n.at (n.next i - 1)).1, false, n.com, (after n.base n.es (n.next i - 1) 4).1, none⟩, y, none⟩, rfl, ?_, ⟨hy.mod m5, rfl⟩, fun q hq => ?_, Or.inl rfl, m05⟩
        · unfold Nd.sendM; rw [if_pos ⟨ha, hf⟩]
        · have := b4 q hq; omega
  refine ⟨hi, vSel3 hi (fun e => ?_) (fun e => ?_) fun e => ?_⟩
  all_goals
    intro H3 h3
    obtain ⟨m3, _⟩ := hole_facts h3
    have := k1 H3 (m02.trans m3)
    subst e
    unfold Nd.next at this hn
    simp at this hn
    rw [w64_id (by omega) (by omega)]
    exact this
end
end Go.Proofs
