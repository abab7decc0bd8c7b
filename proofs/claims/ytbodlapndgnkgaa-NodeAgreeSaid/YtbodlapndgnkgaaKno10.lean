/- LAYER 14: a deed: the walk. -/
import Derived.Test.YtbodlapndgnkgaaKno9
set_option linter.all false
set_option linter.constructorNameAsVariable false
namespace Go.Proofs
open Go Go.KC
abbrev Ac.val (a : Ac) : Value := .agg #[.int .u8 (a.op.toNat : Int), .int .u8 (a.who.toNat : Int), .int .u8 (a.at'.toNat : Int), .int .u8 (a.say.op.toNat : Int), .int .u8 (a.say.client.toNat : Int), .int .u8 (a.say.seq.toNat : Int), .int .u8 (a.say.key.toNat : Int), .int .u8 (a.say.value.toNat : Int), .int .u8 (a.say.old.toNat : Int),
  .int .i64 a.any.m.kind, .int .i64 a.any.m.frm, .int .i64 a.any.m.to, .int .i64 a.any.m.term, .int .i64 a.any.m.index, .int .i64 a.any.m.lt, .bool a.any.m.ok, .int .i64 a.any.m.com, .slice a.any.x.a a.any.x.len a.any.x.cap, .pointer a.any.p, .int .u8 (a.more.toNat : Int)]
theorem othersL_len (n : Nd) (m : Mg) : (othersL n m).length ≤ 3 := by unfold othersL; rw [List.length_map]; have := ids_few 3 (fun i => decide (i ≠ n.id)); simpa [ids] using this
theorem camp_len (n : Nd) : n.camp.2.length ≤ 3 := by
  unfold Nd.camp; split
  · simp
  · exact othersL_len _ _
theorem beat_len (n : Nd) (s : Int × Int) : (n.beat s).length ≤ 3 := by
  unfold Nd.beat; split
  · rw [List.length_map]; have := ids_few 3 (fun i => decide (i ≠ n.id)); simpa [ids] using this
  · simp
theorem step_len (n : Nd) (m : Mg) : (n.step m).2.1.length ≤ 1 := by
  unfold Nd.step Nd.turn
  split
  · simp
  split
  · simp
  split
  · simp
  split
  · simp
  split
  · split <;> simp
  · simp
theorem act_len (w : Wd) (a : Ac) : (w.act a).sent.length ≤ w.sent.length + 3 := by
  have h1 := camp_len (w.nd a.id)
  have h2 := beat_len (w.nd a.id) ((w.nd a.id).com, ((w.nd a.id).at (w.nd a.id).com).1)
  unfold Wd.act
  split
  · unfold Wd.put; simp; exact h1
  split
  · unfold Wd.put; simp
  split
  · unfold Wd.put; simp; exact h2
  split
  · unfold Wd.put; simp
  split
  · unfold Wd.put; simp
  split
  · omega
  · rename_i m hm
    have h3 := step_len (w.nd m.to) m
    unfold Wd.put; simp; omega
theorem tmod_u8 (a : UInt8) (n : Nat) (hn : 0 < n) : Int.tmod (a.toNat : Int) (n : Int) = ((a.toNat % n : Nat) : Int) := (Int.ofNat_tmod _ _).symm
section
variable {H0 H : Hp} {b : Nat} {w : Wd} {k : Int}
theorem state_spec {n : Nd} {x : Sl} (h : Lr H x n.es) (f : n.Fit) : SCalls Try.prog tephralaw14_state.id [n.val x] H (TellPost H (.agg #[.int .i64 n.com, .int .i64 (n.at n.com).1, .slice none 0 0, .slice none 0 0])) := by
  obtain ⟨fi, fb, fl⟩ := f
  have hxl := h.len
  apply tephralaw14_state.calls
  intro H1 e1 H2 e2
  obtain ⟨m1, _⟩ := hole_facts e1
  obtain ⟨m2, _⟩ := hole_facts e2
  have m := m1.trans m2
  refine (TermAt_spec (b := n.base) (t := n.bt) (by unfold nice; omega) (by omega) (h.mod m)).mono ?_
  rintro r H3 ⟨rfl, m3⟩
  exact ⟨_, _, rfl, rfl, m.trans m3⟩

theorem Do_keep {a : Ac} {xa xb xc sy : Sl} {l : List Mh} (o : WA H0 H b w xa xb xc sy l) (B : w.Bd k) (hk : 0 ≤ k ∧ k ≤ 100000) (hl : w.sent.length ≤ 500000) :
    SCalls Try.prog tephralaw14_World_Do.id [.pointer (some ⟨b, 0, none⟩), a.val] H fun r H' => r = .tuple #[] ∧ WH H0 H' b (w.act a) ∧ Mod (fun q => q ∈ sy.blk ∨ q = b) H H' := by
  have hid := a.id_in
  have hb8 := a.who.toNat_lt; have ha8 := a.at'.toNat_lt; have ho8 := a.op.toNat_lt; have hm8 := a.more.toNat_lt
  apply tephralaw14_World_Do.calls (w := ⟨b, 0, none⟩) (aAnyEntries := a.any.x)
  intro H1 e1
  obtain ⟨m1, _⟩ := hole_facts e1
  have o1 := o.to m1
  have et : w64 (Int.tmod (a.who.toNat : Int) 3) = a.id := by
    have : Int.tmod (a.who.toNat : Int) 3 = ((a.who.toNat % 3 : Nat) : Int) := tmod_u8 _ 3 (by omega)
    rw [this, w64_id (by omega) (by omega)]; rfl
  rw [et]
  obtain ⟨x, hx, hr, hxq⟩ := o1.one hid
  have hn := B.nd a.id hid
  have ff := hn.fit hid (by omega)
  generalize hnn : w.nd a.id = n at hx hr hxq hn ff
  refine ⟨by omega, hid, _, _, _, _, _, x, _, _, _, _, _, _, _, _, _, _, _, _, hx, fun H2 e2 => ?_⟩
  obtain ⟨m2, _⟩ := hole_facts e2
  have m12 := m1.trans m2
  have o2 := o.to m12
  have hr2 := hr.mod m2
  have eo : Int.tmod (a.op.toNat : Int) 16 = ((a.op.toNat % 16 : Nat) : Int) := tmod_u8 _ 16 (by omega)
  rw [eo]
  have sl := o.len
  have syl : ∀ q ∈ sy.blk, q < H.size := Own.lt o.own
  have hbl : b < H.size := lt_of_get o.blk
  have z12 := m12.size
  -- new entries are apart
  have apart : ∀ {H3 : Hp} {y : Sl} {es : List En}, Nw H2 H3 y es → ∀ q ∈ y.blk, q < H3.size ∧ q ≠ b ∧ q ∉ sy.blk := fun ny q hq => by
    have := ny.2.2 q hq
    exact ⟨this.2, by omega, fun h => by have := syl q h; omega⟩
  have QD : ∀ {w' : Wd}, w' = w.act a → ∀ H', WH H0 H' b w' → Mod (fun q => q ∈ sy.blk ∨ q = b) H H' → (Value.tuple #[] = .tuple #[] ∧ WH H0 H' b (w.act a) ∧ Mod (fun q => q ∈ sy.blk ∨ q = b) H H') := fun e H' h m => ⟨rfl, e ▸ h, m⟩
  refine ⟨by omega, ?_⟩
  by_cases c0 : a.op.toNat % 16 = 0
  · refine Br.yes (by simp [c0]) ((camp_spec hr2 ff (by have := hn.term; omega)).mono ?_)
    rintro r H3 ⟨y, z, rfl, ny, mz⟩
    refine ⟨_, _, _, _, _, y, _, _, _, _, _, _, _, _, _, _, _, _, z, rfl, ?_⟩
    refine Do_k4 (H1 := H2) o hid m12 ny.2.1 ny.1 (apart ny) (Or.inl mz) hl (by have := camp_len n; omega) (QD ?_)
    unfold Wd.act; rw [if_pos c0, hnn]
  refine Br.no (by simp; omega) ?_
  by_cases c1 : a.op.toNat % 16 = 1
  · refine Br.yes (by simp [c1]) ((Say_Cmd_spec (s := a.say)).mono ?_)
    rintro r H4 ⟨rfl, m4⟩
    refine ⟨_, _, _, _, _, _, rfl, (submit_spec (c := a.say.cmd) (hr2.mod m4) ff).mono ?_⟩
    rintro r H5 ⟨y, rfl, ny⟩
    have ny2 := ny.from m4
    refine ⟨_, _, _, _, _, y, _, _, _, _, _, _, _, _, _, _, _, _, _, rfl, ?_⟩
    refine Do_k4 (H1 := H2) o hid m12 ny2.2.1 ny2.1 (apart ny2) (Or.inr ⟨rfl, rfl⟩) hl (by simp) (QD ?_)
    unfold Wd.act; rw [if_neg c0, if_pos c1, hnn]
  refine Br.no (by simp; omega) ?_
  have rest : ∀ v : Bool, (v = true ↔ a.op.toNat % 16 = 2 ∨ a.op.toNat % 16 = 3) →
      tephralaw14_World_Do.k1 J0 ⟨b, 0, none⟩ (a.op.toNat : Int) (a.who.toNat : Int) (a.at'.toNat : Int) (a.say.op.toNat : Int) (a.say.client.toNat : Int) (a.say.seq.toNat : Int) (a.say.key.toNat : Int) (a.say.value.toNat : Int) (a.say.old.toNat : Int) a.any.m.kind a.any.m.frm a.any.m.to a.any.m.term a.any.m.index a.any.m.lt a.any.m.ok a.any.m.com a.any.x a.any.p (a.more.toNat : Int) n.id n.term n.vote n.base n.bt x n.role n.com n.v0 n.v1 n.v2 n.m0 n.m1 n.m2 n.n0 n.n1 n.n2 n.quiet H2 v fun r H' => r = .tuple #[] ∧ WH H0 H' b (w.act a) ∧ Mod (fun q => q ∈ sy.blk ∨ q = b) H H' := by
    intro v hv
    apply tephralaw14_World_Do.k1.step; unfold tephralaw14_World_Do.k1.body
    rw [eo, et]
    have xb2 : ∀ {H3 : Hp}, Mod (fun _ => False) H2 H3 → ∀ q ∈ x.blk, q < H3.size ∧ q ≠ b ∧ q ∉ sy.blk := fun m3 q hq => by
      have := hxq q hq
      have z2 := m2.size
      have z3 := m3.size
      exact ⟨by omega, this.2⟩
    cases v with
    | true =>
      have hc := hv.1 rfl
      refine Br.yes rfl ((state_spec hr2 ff).mono ?_)
      rintro r H6 ⟨rfl, m6⟩
      refine ⟨_, _, ⟨none, 0, 0⟩, ⟨none, 0, 0⟩, rfl, ?_⟩
      refine (beat_spec (s := (n.com, (n.at n.com).1)) (ps := ⟨none, 0, 0⟩) (xs := ⟨none, 0, 0⟩) (hr2.mod m6) ff (fun i => by have := hn.nx i; omega)).mono ?_
      rintro r H7 ⟨z, rfl, mz⟩
      have m7 := mz.choose_spec.2.2.2.1
      refine ⟨z, rfl, ?_⟩
      refine Do_k4 (H1 := H6) o hid (m12.trans m6) m7 ((hr2.mod m6).mod m7) (xb2 (m6.trans m7)) (Or.inl mz) hl (by have := beat_len n (n.com, (n.at n.com).1); omega) (QD ?_)
      unfold Wd.act; rw [if_neg c0, if_neg c1, if_pos hc, hnn]
    | false =>
      have hc : ¬ (a.op.toNat % 16 = 2 ∨ a.op.toNat % 16 = 3) := fun h => Bool.noConfusion (hv.2 h)
      refine Br.no rfl ?_
      by_cases c4 : a.op.toNat % 16 = 4
      · have e3 : w64 (Int.tmod (a.at'.toNat : Int) 3) = ((a.at'.toNat % 3 : Nat) : Int) := by
          have : Int.tmod (a.at'.toNat : Int) 3 = ((a.at'.toNat % 3 : Nat) : Int) := tmod_u8 _ 3 (by omega)
          rw [this, w64_id (by omega) (by omega)]
        have hcm := hn.com
        have ew : w64 (n.com - ((a.at'.toNat % 3 : Nat) : Int)) = n.com - ((a.at'.toNat % 3 : Nat) : Int) := w64_id (by omega) (by omega)
        rw [e3, ew]
        refine Br.yes (by simp [c4]) ⟨by omega, (nCompact_spec (i := n.com - ((a.at'.toNat % 3 : Nat) : Int)) hr2 ff (by omega)).mono ?_⟩
        rintro r H8 ⟨y, rfl, ny⟩
        refine ⟨_, _, _, _, _, y, _, _, _, _, _, _, _, _, _, _, _, _, rfl, ?_⟩
        refine Do_k4 (H1 := H2) o hid m12 ny.2.1 ny.1 (apart ny) (Or.inr ⟨rfl, rfl⟩) hl (by simp) (QD ?_)
        unfold Wd.act; rw [if_neg c0, if_neg c1, if_neg hc, if_pos c4, hnn]
      refine Br.no (by simp; omega) ?_
      by_cases c5 : a.op.toNat % 16 = 5
      · have e4 : Int.tmod (a.at'.toNat : Int) 4 = ((a.at'.toNat % 4 : Nat) : Int) := tmod_u8 _ 4 (by omega)
        rw [e4]
        refine Br.yes (by simp [c5]) ⟨by omega, ?_⟩
        by_cases c6 : a.at'.toNat % 4 = 0
        · refine Br.yes (by simp [c6]) ((nRestart_spec hr2 ff.el).mono ?_)
          rintro r H9 ⟨y, rfl, hy⟩
          have ny := hy.nw
          refine ⟨_, _, _, _, _, y, _, _, _, _, _, _, _, _, _, _, _, _, rfl, ?_⟩
          refine Do_k4 (n := n.restart) (H1 := H2) o hid m12 ny.2.1 ny.1 (apart ny) (Or.inr ⟨rfl, rfl⟩) hl (by simp) (QD ?_)
          unfold Wd.act; rw [if_neg c0, if_neg c1, if_neg hc, if_neg c4, if_pos c5, hnn, if_pos c6]
        · refine Br.no (by simp; omega) ?_
          refine Do_k4 (n := n) (H1 := H2) o hid m12 (Mod.refl _ _) hr2 (xb2 (Mod.refl _ _)) (Or.inr ⟨rfl, rfl⟩) hl (by simp) (QD ?_)
          unfold Wd.act; rw [if_neg c0, if_neg c1, if_neg hc, if_neg c4, if_pos c5, hnn, if_neg c6]
      refine Br.no (by simp; omega) ⟨sy, o2.sentAt, ?_⟩
      have hact : w.act a = match w.sent[a.pick w.sent.length]? with
          | none => w
          | some m => w.put m.to ((w.nd m.to).step m).1 ((w.nd m.to).step m).2.1 := by
        unfold Wd.act; rw [if_neg c0, if_neg c1, if_neg hc, if_neg c4, if_neg c5]; rfl
      by_cases s0 : w.sent.length = 0
      · refine Br.yes (by simp; omega) ⟨rfl, ?_⟩
        have e : w.act a = w := by rw [hact, List.getElem?_eq_none (by omega)]
        rw [e]
        exact ⟨⟨xa, xb, xc, sy, l, o2⟩, m12.mono fun _ _ e => e.elim⟩
      refine Br.no (by simp; omega) ⟨sy, o2.sentAt, sy, o2.sentAt, by split <;> omega, ?_⟩
      have slI : (sy.len : Int) = (w.sent.length : Int) := by omega
      have k3 : ∀ j : Nat, j < w.sent.length → j = a.pick w.sent.length →
          tephralaw14_World_Do.k3 J0 ⟨b, 0, none⟩ (a.op.toNat : Int) (a.who.toNat : Int) (a.at'.toNat : Int) (a.say.op.toNat : Int) (a.say.client.toNat : Int) (a.say.seq.toNat : Int) (a.say.key.toNat : Int) (a.say.value.toNat : Int) (a.say.old.toNat : Int) a.any.m.kind a.any.m.frm a.any.m.to a.any.m.term a.any.m.index a.any.m.lt a.any.m.ok a.any.m.com a.any.x a.any.p (a.more.toNat : Int) n.id n.term n.vote n.base n.bt x n.role n.com n.v0 n.v1 n.v2 n.m0 n.m1 n.m2 n.n0 n.n1 n.n2 n.quiet H2 (j : Int) fun r H' => r = .tuple #[] ∧ WH H0 H' b (w.act a) ∧ Mod (fun q => q ∈ sy.blk ∨ q = b) H H' := by
        intro j hj hjp
        have hjl : j < l.length := by rw [← List.length_map (f := Mh.m), o.sent]; exact hj
        obtain ⟨ad, had, hrow⟩ := row_get (f := Mh.cells) (k := 10) (by omega) Mh.cells_len (Own.rows o2.own) hjl
        have hlm : l[j].m = w.sent[j] := by
          have : (l.map Mh.m)[j]'(by rw [List.length_map]; exact hjl) = w.sent[j] := by simp only [o.sent]
          rwa [List.getElem_map] at this
        have mem : l[j] ∈ l := List.getElem_mem hjl
        have hmB : (l[j].m).Bd k := by rw [hlm]; exact B.ms _ (List.getElem_mem hj)
        have g2 := o2.ms _ mem
        generalize l[j] = mh at hrow hlm g2 hmB
        apply tephralaw14_World_Do.k3.step; unfold tephralaw14_World_Do.k3.body
        refine ⟨sy, o2.sentAt, ⟨by omega, by omega⟩, vPtr.mk ad had ⟨_, _, _, _, _, _, _, _, mh.x, _, hrow, ?_⟩⟩
        intro H10 h10
        obtain ⟨m10, _⟩ := hole_facts h10
        have o10 := o2.to m10
        have hto := hmB.to
        obtain ⟨x', hx', hr', hxq'⟩ := o10.one hto
        have hnt := B.nd mh.m.to hto
        refine ⟨hto, _, _, _, _, _, x', _, _, _, _, _, _, _, _, _, _, _, _, hx', ?_⟩
        have g10 := g2.1.mod m10
        have z10 := m10.size
        have hlen := g10.1.len
        have hle := hmB.le
        have hix := hmB.ix
        refine (step_spec (m := mh.m) (mx := mh.x) (p := mh.p) hr' ⟨g10.1, g10.2, fun q hq => by have := (g2.2.1 q hq).1; omega, fun q hq => by have := (g2.2.2 q hq).1; omega, by omega, by omega⟩ (hnt.fit hto (by omega)) (by have := hnt.com; omega) (fun i => by have := hnt.mt i; omega) (fun i => by have := hnt.nx i; omega)).mono ?_
        rintro r H11 ⟨y, z, rfl, ny, mz⟩
        refine ⟨_, _, _, _, _, y, _, _, _, _, _, _, _, _, _, _, _, _, z, _, rfl, ?_⟩
        refine Do_k4 (H1 := H10) o hto (m12.trans m10) ny.2.1 ny.1 (apart (ny.from m10)) (Or.inl mz) hl (by have := step_len (w.nd mh.m.to) mh.m; omega) (QD ?_)
        rw [hact, ← hjp, List.getElem?_eq_getElem hj, ← hlm]
      apply tephralaw14_World_Do.k2.step; unfold tephralaw14_World_Do.k2.body
      have e8 : Int.tmod (a.more.toNat : Int) 8 = ((a.more.toNat % 8 : Nat) : Int) := tmod_u8 _ 8 (by omega)
      have ew : w64 (a.at'.toNat : Int) = (a.at'.toNat : Int) := w64_id (by omega) (by omega)
      rw [e8, ew]
      refine ⟨by omega, ?_⟩
      by_cases c8 : a.more.toNat % 8 = 0
      · refine Br.yes (by simp [c8]) ⟨sy, o2.sentAt, by omega, ?_⟩
        have et : Int.tmod (a.at'.toNat : Int) ((sy.len : Nat) : Int) = ((a.at'.toNat % w.sent.length : Nat) : Int) := by
          rw [← sl]; exact tmod_u8 _ _ (by omega)
        rw [et]
        exact k3 _ (Nat.mod_lt _ (by omega)) (by unfold Ac.pick; rw [if_pos c8])
      · refine Br.no (by simp; omega) ?_
        have em : (if (12 : Int) < ((sy.len : Nat) : Int) then 12 else ((sy.len : Nat) : Int)) = ((min 12 w.sent.length : Nat) : Int) := by split <;> omega
        have et : Int.tmod (a.at'.toNat : Int) ((min 12 w.sent.length : Nat) : Int) = ((a.at'.toNat % min 12 w.sent.length : Nat) : Int) := tmod_u8 _ _ (by omega)
        have hlt : a.at'.toNat % min 12 w.sent.length < min 12 w.sent.length := Nat.mod_lt _ (by omega)
        rw [em, et, w64_id (x := ((sy.len : Nat) : Int) - 1) (by omega) (by omega), w64_id (by omega) (by omega)]
        have ee : ((sy.len : Nat) : Int) - 1 - ((a.at'.toNat % min 12 w.sent.length : Nat) : Int) = ((w.sent.length - 1 - a.at'.toNat % min 12 w.sent.length : Nat) : Int) := by omega
        rw [ee]
        exact k3 _ (by omega) (by unfold Ac.pick; rw [if_neg c8])
  by_cases c2 : a.op.toNat % 16 = 2
  · refine Br.yes (by simp [c2]) (rest _ ?_)
    simp [c2]
  · refine Br.no (by simp; omega) (rest _ ?_)
    simp only [beq_iff_eq]
    omega
theorem Do_spec {a : Ac} (o : WH H0 H b w) (B : w.Bd k) (hk : 0 ≤ k ∧ k ≤ 100000) (hl : w.sent.length ≤ 500000) :
    SCalls Try.prog tephralaw14_World_Do.id [.pointer (some ⟨b, 0, none⟩), a.val] H fun r H' => r = .tuple #[] ∧ WH H0 H' b (w.act a) := by
  obtain ⟨xa, xb, xc, sy, l, o⟩ := o
  exact (Do_keep o B hk hl).mono fun _ _ h => ⟨h.1, h.2.1⟩
end
end Go.Proofs
