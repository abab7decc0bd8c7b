/- STATES: Apply, Fold: the walks (as Ku6, without Some and Get; for layers that have them not). -/
import Derived.Test.YtpdondaekinmdaaKu5
set_option linter.all false
set_option linter.constructorNameAsVariable false
namespace Go.Proofs
open Go Go.KC

/-- A state in a block of its own. -/
def SB (H : Hp) (b : Nat) (i t : Int) (p s : Sl) : Prop := H[b]? = some (.cells #[.int .i64 i, .int .i64 t, .slice p.a p.len p.cap, .slice s.a s.len s.cap] T_api_State (0, 0))
section
variable {H H' : Hp} {b : Nat} {i t : Int} {p s : Sl}
theorem SB.row (h : SB H b i t p s) : RowAt H (Addr.mk b 0 none) [.int .i64 i, .int .i64 t, .slice p.a p.len p.cap, .slice s.a s.len s.cap] := fun j v hj => by
  rw [Addr.add_loc, cell_of h, Nat.zero_add]
  simpa using hj
theorem SB.at (h : SB H b i t p s) (k : Nat) {v : Value} (hk : (#[.int .i64 i, .int .i64 t, .slice p.a p.len p.cap, .slice s.a s.len s.cap] : Array Value)[k]? = some v) : Hp.cell? H ((Addr.mk b 0 none).add k) = some v := by
  rw [Addr.add_loc, cell_of h, Nat.zero_add]; exact hk
theorem SB.at0 (h : SB H b i t p s) : Hp.cell? H (Addr.mk b 0 none) = some (.int .i64 i) := by rw [cell_of h]; rfl
theorem SB.wr (h : SB H b i t p s) (k : Nat) (hk : k < 4) : WrAt H ((Addr.mk b 0 none).add k) 1 := by rw [Addr.add_loc, Nat.zero_add]; exact wr_one h (by simpa using hk)
theorem SB.wr0 (h : SB H b i t p s) : WrAt H (Addr.mk b 0 none) 1 := wr_one h (by simp)
theorem SB.set0 (h : SB H b i t p s) {n : Int} (e : H' = Hp.setCell H (Addr.mk b 0 none) (.int .i64 n)) : SB H' b n t p s ∧ Mod (· = b) H H' := by
  subst e; exact ⟨by have := get_setCell (o := 0) (.int .i64 n) h; simpa [SB] using this, Mod.setCell H _ _ rfl⟩
theorem SB.set1 (h : SB H b i t p s) {n : Int} (e : H' = Hp.setCell H ((Addr.mk b 0 none).add 1) (.int .i64 n)) : SB H' b i n p s ∧ Mod (· = b) H H' := by
  subst e; rw [Addr.add_loc, Nat.zero_add]; exact ⟨by have := get_setCell (o := 1) (.int .i64 n) h; simpa [SB] using this, Mod.setCell H _ _ rfl⟩
theorem SB.set2 (h : SB H b i t p s) {x : Sl} (e : H' = Hp.setCell H ((Addr.mk b 0 none).add 2) (.slice x.a x.len x.cap)) : SB H' b i t x s ∧ Mod (· = b) H H' := by
  subst e; rw [Addr.add_loc, Nat.zero_add]; exact ⟨by have := get_setCell (o := 2) (.slice x.a x.len x.cap) h; simpa [SB] using this, Mod.setCell H _ _ rfl⟩
theorem SB.set3 (h : SB H b i t p s) {x : Sl} (e : H' = Hp.setCell H ((Addr.mk b 0 none).add 3) (.slice x.a x.len x.cap)) : SB H' b i t p x ∧ Mod (· = b) H H' := by
  subst e; rw [Addr.add_loc, Nat.zero_add]; exact ⟨by have := get_setCell (o := 3) (.slice x.a x.len x.cap) h; simpa [SB] using this, Mod.setCell H _ _ rfl⟩
theorem SB.keep {μ : Nat → Prop} (h : SB H b i t p s) (m : Mod μ H H') (hb : ¬ μ b) : SB H' b i t p s := m.get h hb
end

section
variable {H : Hp}
/-- What is so behind Apply. -/
def AP (H : Hp) (st : Stt) (r : Rp) (v : Value) (H' : Hp) : Prop := ∃ p' s', v = .tuple #[stV st p' s', rpV r] ∧ SR H' p' s' st ∧ Mod (fun _ => False) H H'

theorem Apply_k3 {H0 : Hp} {st : Stt} {e : En} {p s : Sl} {b gX : Nat} {FX : List Nat} {H13 : Hp} {x : Se} (hR : e.Right) (h0 : e.cmd.op ≠ 0) (hb : b = H0.size) (B : SB H13 b e.index e.term p s) (m : Mod (fun q => q = b) H0 H13)
    (sr : SR H13 p s ⟨e.index, e.term, st.kv, st.ss⟩) (ok : st.Ok) (MX0 : MX.Mp H13 gX 0 FX st.ss) (hgX : b < gX) (hFX : ∀ q ∈ FX, gX < q)
    (hv : match valL st.ss e.cmd.client with | some y => x = y ∧ x.seq < e.cmd.seq | none => True) :
    state_Apply.k3 J0 e.index e.term e.cmd.op e.cmd.client e.cmd.seq e.cmd.key e.cmd.value e.cmd.old b (some ⟨gX, 0, none⟩) x.client x.seq x.err x.value H13 false (AP H0 (cmdM ⟨e.index, e.term, st.kv, st.ss⟩ e.cmd).1 (cmdM ⟨e.index, e.term, st.kv, st.ss⟩ e.cmd).2) := by
  have eM : cmdM ⟨e.index, e.term, st.kv, st.ss⟩ e.cmd = (⟨e.index, e.term, (doM st.kv e.cmd).1, putL st.ss e.cmd.client ⟨e.cmd.client, e.cmd.seq, (doM st.kv e.cmd).2.err, (doM st.kv e.cmd).2.value⟩⟩, (doM st.kv e.cmd).2) := by
    unfold cmdM
    dsimp only
    cases hc : valL st.ss e.cmd.client with
    | none => rfl
    | some y =>
      rw [hc] at hv
      obtain ⟨rfl, hlt⟩ := hv
      dsimp only
      rw [if_neg (by omega)]
  rw [eM]
  have okM : (cmdM ⟨e.index, e.term, st.kv, st.ss⟩ e.cmd).1.Ok := (cmdM_ok (s := ⟨e.index, e.term, st.kv, st.ss⟩) ⟨⟨by have := hR.1; show 0 ≤ e.index; omega, hR.2.1⟩, ⟨hR.2.2.1, hR.2.2.2.1⟩, ok.rk, ok.rs, ok.kl, ok.sl, ok.kb, ok.sb⟩ hR.2.2.2.2 h0).1
  rw [eM] at okM
  apply state_Apply.k3.step; unfold state_Apply.k3.body
  refine Br.no rfl ⟨_, _, _, _, B.row, (pairs_spec (kv := st.kv) sr.1 ok.rk (by have := ok.kl; omega)).mono ?_⟩
  rintro r3 H14 ⟨gP, FP, rfl, hgP, MP0, hFP, m14⟩
  have lX := MX0.lt
  have z14 := m14.size
  refine ⟨_, rfl, (do_spec (c := e.cmd) MP0 (by have := ok.kl; omega) ok.rk).mono ?_⟩
  rintro r4 H15 ⟨rfl, ⟨FP', MP1, hFP'⟩, m15⟩
  have z15 := m15.size
  refine ⟨_, _, rfl, fun H16 e16 => ?_⟩
  obtain ⟨m16, s16⟩ := hole_facts e16
  have klen : (doM st.kv e.cmd).1.length ≤ 64 := okM.kl
  refine (rows_spec (MP1.mod m16) (by omega)).mono ?_
  rintro r5 H17 ⟨xp, rfl, oP, bP, m17⟩
  have z17 := m17.size
  -- so far only the pairs' map was changed
  have mA : Mod (fun q => H13.size ≤ q) H13 H17 := (m14.mono fun _ _ e => e.elim).trans ((m15.mono fun q _ h => by
      rcases h with h | h
      · omega
      · have := hFP q h; omega).trans ((m16.mono fun _ _ e => e.elim).trans (m17.mono fun _ _ e => e.elim)))
  have bl := lt_of_get B
  have B17 := B.keep mA (by omega)
  have X17 := MX0.keep mA (by omega) fun q hq => by have := lX.2 q hq; omega
  refine ⟨xp, rfl, B17.wr 2 (by omega), fun H18 e18 => ?_⟩
  obtain ⟨B18, m18⟩ := B17.set2 e18
  have X18 := X17.keep m18 (by omega) fun q hq => by have := hFX q hq; omega
  have z18 := m18.size
  refine (MX.Put_spec (v := ⟨e.cmd.client, e.cmd.seq, (doM st.kv e.cmd).2.err, (doM st.kv e.cmd).2.value⟩) X18 (by have := ok.sl; omega)).mono ?_
  rintro r6 H19 ⟨n, sp, rfl, FX', X19, m19, hFX', _⟩
  have eX : putAt st.ss e.cmd.client ⟨e.cmd.client, e.cmd.seq, (doM st.kv e.cmd).2.err, (doM st.kv e.cmd).2.value⟩ n = putL st.ss e.cmd.client ⟨e.cmd.client, e.cmd.seq, (doM st.kv e.cmd).2.err, (doM st.kv e.cmd).2.value⟩ := by unfold putL; rw [spotOf_eq sp]
  rw [eX] at X19
  generalize hss : putL st.ss e.cmd.client ⟨e.cmd.client, e.cmd.seq, (doM st.kv e.cmd).2.err, (doM st.kv e.cmd).2.value⟩ = ss' at *
  have ssl : ss'.length ≤ 4 := okM.sl
  have z19 := m19.size
  have B19 := B18.keep m19 fun h => h.elim (fun h => by omega) fun h => by have := hFX b h; omega
  refine ⟨_, rfl, B19.wr 3 (by omega), fun H20 e20 => ?_⟩
  obtain ⟨B20, m20⟩ := B19.set3 (x := ⟨none, 0, 0⟩) e20
  have hFX'' : ∀ q ∈ FX', b < q := fun q hq => (hFX' q hq).elim (fun h => by have := hFX q h; omega) fun h => by omega
  have X20 := X19.keep m20 (by omega) fun q hq => by have := hFX'' q hq; omega
  have z20 := m20.size
  -- the row of pairs is other
  have lP := oP.lt
  have hgX13 : gX < H13.size := lX.1
  have P20 : Own H20 xp T_api_Pair 3 ((doM st.kv e.cmd).1.map kvC).flatten := ((oP.keep m18 fun q hq h => by have := bP q hq; omega).keep m19 fun q hq h => by
      have h1 := bP q hq
      rcases h with h | h
      · omega
      · have := lX.2 q h; omega).keep m20 fun q hq h => by have := bP q hq; omega
  have m020 : Mod (fun q => H0.size ≤ q) H0 H20 := ((((m.mono fun q _ h => by omega).trans (mA.mono fun q _ h => by have := m.size; omega)).trans (m18.mono fun q _ h => by omega)).trans (m19.mono fun q _ h => by
      rcases h with h | h
      · omega
      · have := hFX q h; omega)).trans (m20.mono fun q _ h => by omega)
  refine MX.all_st X20 fun fv H21 gs m21 => ?_
  intro fn tm hT
  have hbs : ∀ q ∈ (H20.size :: gX :: FX'), q < H21.size := by obtain ⟨_, _, _, h, _⟩ := gs; exact h
  have z21 := m21.size
  have hxpb : ∀ q ∈ xp.blk, b < q ∧ q < H21.size := fun q hq => ⟨by have := bP q hq; omega, by have := lP q hq; omega⟩
  refine gs.range (rec := state_Apply.r1.rec fn tm H21.size) (fun n i H' => ∃ xs : Sl, SB H' b e.index e.term xp xs ∧ Own H' xs T_api_Session 4 ((ss'.take i).map ssC).flatten ∧ (∀ q ∈ xs.blk, n ≤ q) ∧ Mod (fun q => q = b ∨ H21.size ≤ q) H21 H') (fun _ _ _ => False) ?_ ?_ ?_ (fun _ _ _ _ h _ => h) ?_ ?_ (fun _ _ _ _ h => h.elim)
  · intro n H' hn hn' m
    exact ⟨⟨none, 0, 0⟩, (B20.keep m21 fun e => e).keep m fun e => e, by simpa using Own.nil H' T_api_Session 4, by simp [Sl.blk], m.mono fun _ _ e => e.elim⟩
  · rintro n i H' ⟨xs, w1, w2, w3, w4⟩
    refine Mod.same w4 fun q hq => ⟨hbs q hq, fun h => ?_⟩
    rcases h with h | h
    · simp only [List.mem_cons] at hq
      rcases hq with hq | hq | hq
      · omega
      · omega
      · have := hFX'' q hq; omega
    · have := hbs q hq; omega
  · rintro n i H' H'' ⟨xs, w1, w2, w3, w4⟩ m
    exact ⟨xs, w1.keep m (by omega), w2.keep m (fun q hq h => by have := w3 q hq; omega), w3, w4.trans (m.mono fun q _ h => Or.inr h.1)⟩
  · rintro n i hi H3 hn hn' ⟨xs, w1, w2, w3, w4⟩ hrec
    refine state_Apply.r1.calls (vClient := ss'[i].2.client) (vSeq := ss'[i].2.seq) (vReplyErr := ss'[i].2.err) (vReplyValue := ss'[i].2.value) hrec hT (fun H23 e23 => ?_)
    obtain ⟨m23, s23⟩ := hole_facts e23
    have l23 := m23.get hrec fun e => e
    refine ⟨l23, fun H4 e4 => ?_⟩
    obtain ⟨l4, m4⟩ := rec_facts l23 e4
    have b4 := (w1.keep m23 fun e => e).keep m4 (by omega)
    have o4 := (w2.keep m23 fun _ _ e => e).keep m4 fun q hq h => by have := w3 q hq; have h : q = H21.size + 1 := h; omega
    have z4 := m4.size
    have hlen := rows_len' (by omega) ssC_len (Own.rows w2)
    rw [List.length_take] at hlen
    refine ⟨xs, b4.at 3 rfl, addEl (p := ssC ss'[i]) elSess o4 rfl rfl (by omega) fun ys H6 o6 b6 m6 => ?_⟩
    have c6 := b4.keep m6 fun h => by have := w3 _ h; omega
    refine ⟨c6.wr 3 (by omega), fun H7 e7 => ?_⟩
    obtain ⟨c7, m7⟩ := c6.set3 e7
    have l7 := m7.get (m6.get l4 fun h => by have := w3 _ h; omega) (show ¬ H21.size + 1 = b by omega)
    have b6' : ∀ q ∈ ys.blk, n ≤ q := fun q hq => (b6 q hq).elim (w3 q) fun h => by omega
    obtain ⟨l8, m8⟩ := rec_facts (o' := state_Apply.r1.rec fn tm H21.size .ready none) l7 rfl
    refine ⟨⟨_, _, l7⟩, (m23.mono fun _ _ e => e.elim).trans ((m4.mono fun q _ h => by have h : q = H21.size + 1 := h; omega).trans ((m6.mono fun q _ h => by have := w3 q h; omega).trans ((m7.mono fun q _ h => by have h : q = b := h; omega).trans (m8.mono fun q _ h => by have h : q = H21.size + 1 := h; omega)))), Or.inl ⟨rfl, ⟨ys, c7.keep m8 (by omega), ?_, b6', ?_⟩, l8⟩⟩
    · have e : ((ss'.take (i + 1)).map ssC).flatten = ((ss'.take i).map ssC).flatten ++ ssC ss'[i] := by
        rw [List.take_succ_eq_append_getElem hi]; simp only [List.map_append, List.flatten_append, List.map_cons, List.map_nil, List.flatten_cons, List.flatten_nil, List.append_nil]
      rw [e]
      exact (o6.keep m7 fun q hq h => by have := b6' q hq; have h : q = b := h; omega).keep m8 fun q hq h => by have := b6' q hq; have h : q = H21.size + 1 := h; omega
    · exact w4.trans ((m23.mono fun _ _ e => e.elim).trans ((m4.mono fun q _ h => Or.inr (by have h : q = H21.size + 1 := h; omega)).trans ((m6.mono fun q _ h => Or.inr (by have := w3 q h; omega)).trans ((m7.mono fun q _ h => Or.inl h).trans (m8.mono fun q _ h => Or.inr (by have h : q = H21.size + 1 := h; omega))))))
  · rintro n H29 hn hn' ⟨xs, w1, w2, w3, w4⟩
    rw [List.take_length] at w2
    have fin : AP H0 ⟨e.index, e.term, (doM st.kv e.cmd).1, ss'⟩ (doM st.kv e.cmd).2 (.tuple #[stV ⟨e.index, e.term, (doM st.kv e.cmd).1, ss'⟩ xp xs, rpV (doM st.kv e.cmd).2]) H29 := by
      refine ⟨xp, xs, rfl, ⟨(Own.rows P20).keep (m := fun q => q = b ∨ H21.size ≤ q) ((m21.mono fun _ _ e => e.elim).trans w4) (fun q hq h => by have := hxpb q hq; omega), Own.rows w2⟩, ?_⟩
      exact Mod.fresh ((m020.trans (m21.mono fun _ _ e => e.elim)).trans' w4 fun q hq h => by omega) fun q h => h
    exact jump_none ⟨_, _, _, _, w1.row, fin, fin⟩

theorem Apply_spec {p s : Sl} {st : Stt} {e : En} (h : SR H p s st) (ok : st.Ok) : SCalls Try.prog state_Apply.id [stV st p s, e.val] H (AP H (applyM st e).1 (applyM st e).2) := by
  apply state_Apply.calls (sIndex := st.index) (sTerm := st.term) (sPairs := p) (sSessions := s) (eIndex := e.index) (eTerm := e.term) (eCmdOp := e.cmd.op) (eCmdClient := e.cmd.client) (eCmdSeq := e.cmd.seq) (eCmdKey := e.cmd.key) (eCmdValue := e.cmd.value) (eCmdOld := e.cmd.old)
  intro b hb H1 e1 H2 e2 H3 e3 H4 e4
  obtain ⟨q1, m1, s1⟩ := push_facts e1
  obtain ⟨m2, s2⟩ := hole_facts e2
  obtain ⟨m3, s3⟩ := hole_facts e3
  obtain ⟨m4, s4⟩ := hole_facts e4
  rw [← hb] at q1
  have B1 : SB H1 b st.index st.term p s := q1
  refine (cmds_Right_spec (e := e)).mono ?_
  rintro r H5 ⟨rfl, m5⟩
  have m05 := m1.trans (m2.trans (m3.trans (m4.trans m5)))
  have B5 := (((B1.keep m2 fun e => e).keep m3 fun e => e).keep m4 fun e => e).keep m5 fun e => e
  refine ⟨_, rfl, ?_⟩
  have z5 : H1.size ≤ H5.size := (m2.trans (m3.trans (m4.trans m5))).size
  by_cases hR : e.Right
  rotate_left
  · have eM : applyM st e = (st, ⟨14, noText⟩) := by unfold applyM; rw [if_pos hR]
    rw [eM]
    exact Br.yes (by simp [hR]) ⟨_, _, _, _, B5.row, p, s, rfl, h.mod m05, m05⟩
  refine Br.no (by simp [hR]) ⟨_, B5.at0, ?_⟩
  have hw : w64 (st.index + 1) = st.index + 1 := w64_id (by have := ok.i0; omega) (by have := ok.i0; omega)
  rw [hw]
  have bad : (e.index ≠ st.index + 1 ∨ e.term < st.term) → state_Apply.k1 J0 e.index e.term e.cmd.op e.cmd.client e.cmd.seq e.cmd.key e.cmd.value e.cmd.old b H5 true (AP H (applyM st e).1 (applyM st e).2) := by
    intro hc
    have eM : applyM st e = (st, ⟨8, noText⟩) := by unfold applyM; rw [if_neg (by simpa using hR), if_pos hc]
    rw [eM]
    apply state_Apply.k1.step; unfold state_Apply.k1.body
    exact Br.yes rfl ⟨_, _, _, _, B5.row, p, s, rfl, h.mod m05, m05⟩
  by_cases hi : e.index = st.index + 1
  rotate_left
  · exact Br.yes (by simpa using hi) (bad (Or.inl hi))
  refine Br.no (by simp [hi]) ⟨_, B5.at 1 rfl, ?_⟩
  by_cases ht : e.term < st.term
  · rw [decide_eq_true ht]; exact bad (Or.inr ht)
  rw [decide_eq_false ht]
  have eM0 : applyM st e = if e.cmd.op = 0 then ({ st with index := e.index, term := e.term }, ⟨0, noText⟩) else cmdM { st with index := e.index, term := e.term } e.cmd := by
    unfold applyM; rw [if_neg (by simpa using hR), if_neg (by simp [hi, ht])]
  apply state_Apply.k1.step; unfold state_Apply.k1.body
  have k2 : ∀ H7 : Hp, SB H7 b e.index e.term p s → Mod (fun q => q = b) H H7 → state_Apply.k2 J0 e.index e.term e.cmd.op e.cmd.client e.cmd.seq e.cmd.key e.cmd.value e.cmd.old b H7 (AP H (applyM st e).1 (applyM st e).2) := by
    intro H7 B7 m7
    have mF : Mod (fun _ => False) H H7 := Mod.fresh m7 fun q hq => by omega
    apply state_Apply.k2.step; unfold state_Apply.k2.body
    by_cases h0 : e.cmd.op = 0
    · rw [eM0, if_pos h0]
      exact Br.yes (by simp [h0]) ⟨_, _, _, _, B7.row, p, s, rfl, h.mod mF, mF⟩
    · rw [eM0, if_neg h0]
      refine Br.no (by simp [h0]) ⟨_, _, _, _, B7.row, (sessions_spec (h.mod mF).2 ok.rs (fun q hq => (ok.sb q hq).1) (by have := ok.sl; omega)).mono ?_⟩
      rintro r1 H11 ⟨gX, FX, rfl, hgX, X11, hFX, m11⟩
      have bl := lt_of_get B7
      refine ⟨_, rfl, MX.get_step X11 fun H12 m12 => fun H13 e13 => ?_⟩
      obtain ⟨m13, s13⟩ := hole_facts e13
      have mm : Mod (fun _ => False) H7 H13 := m11.trans (m12.trans m13)
      have B13 := B7.keep mm fun e => e
      have X13 := (X11.mod m12).mod m13
      have m013 : Mod (fun q => q = b) H H13 := m7.trans (mm.mono fun _ _ e => e.elim)
      have mF13 : Mod (fun _ => False) H H13 := mF.trans mm
      have sr13 : SR H13 p s ⟨e.index, e.term, st.kv, st.ss⟩ := h.mod mF13
      rw [MX_get]
      cases hv : valL st.ss e.cmd.client with
      | none =>
        exact Br.no rfl (Apply_k3 (x := ⟨0, 0, 0, ByteArray.mk #[]⟩) hR h0 hb B13 m013 sr13 ok X13 (by omega) hFX (by rw [hv]; trivial))
      | some x =>
        dsimp only
        refine Br.yes rfl ?_
        by_cases hs : x.seq ≥ e.cmd.seq
        · rw [decide_eq_true hs]
          apply state_Apply.k3.step; unfold state_Apply.k3.body
          refine Br.yes rfl ?_
          by_cases he : x.seq = e.cmd.seq
          · have eM : cmdM { st with index := e.index, term := e.term } e.cmd = (⟨e.index, e.term, st.kv, st.ss⟩, ⟨x.err, x.value⟩) := by unfold cmdM; simp only [hv]; rw [if_pos (by omega), if_pos he]
            rw [eM]
            exact Br.yes (by simp [he]) ⟨_, _, _, _, B13.row, ⟨p, s, rfl, sr13, mF13⟩, p, s, rfl, sr13, mF13⟩
          · have eM : cmdM { st with index := e.index, term := e.term } e.cmd = (⟨e.index, e.term, st.kv, st.ss⟩, ⟨12, noText⟩) := by unfold cmdM; simp only [hv]; rw [if_pos (by omega), if_neg he]
            rw [eM]
            exact Br.no (by simp [he]) ⟨_, _, _, _, B13.row, p, s, rfl, sr13, mF13⟩
        · rw [decide_eq_false hs]
          exact Apply_k3 (x := x) hR h0 hb B13 m013 sr13 ok X13 (by omega) hFX (by rw [hv]; exact ⟨rfl, by omega⟩)
  have two : ∀ H6 : Hp, H6 = (Hp.setCell H5 (Addr.mk b 0 none) (.int .i64 e.index)) → WrAt H6 ((Addr.mk b 0 none).add 1) 1 ∧ ∀ H7 : Hp, H7 = (Hp.setCell H6 ((Addr.mk b 0 none).add 1) (.int .i64 e.term)) →
      state_Apply.k2 J0 e.index e.term e.cmd.op e.cmd.client e.cmd.seq e.cmd.key e.cmd.value e.cmd.old b H7 (AP H (applyM st e).1 (applyM st e).2) := by
    intro H6 e6
    obtain ⟨B6, m6⟩ := B5.set0 e6
    refine ⟨B6.wr 1 (by omega), fun H7 e7 => ?_⟩
    obtain ⟨B7, m7⟩ := B6.set1 e7
    exact k2 H7 B7 ((m05.mono fun _ _ e => e.elim).trans (m6.trans m7))
  exact Br.no rfl ⟨⟨B5.wr0, two⟩, B5.wr0, two⟩

/-- A state behind a call. -/
def FP (H : Hp) (st : Stt) (v : Value) (H' : Hp) : Prop := ∃ p' s', v = stV st p' s' ∧ SR H' p' s' st ∧ Mod (fun _ => False) H H'

theorem Fold_spec {p s es : Sl} {st : Stt} {l : List En} (h : SR H p s st) (ok : st.Ok) (hr : Rows H es 8 (l.map En.cells).flatten) (hl : l.length ≤ 1000000) :
    SCalls Try.prog state_Fold.id [stV st p s, .slice es.a es.len es.cap] H (FP H (foldM st l)) := by
  apply state_Fold.calls (sIndex := st.index) (sTerm := st.term) (sPairs := p) (sSessions := s)
  intro H1 e1 H2 e2
  obtain ⟨m1, s1⟩ := hole_facts e1
  obtain ⟨m2, s2⟩ := hole_facts e2
  have hxl := rows_len' (k := 8) (f := En.cells) (by omega) (fun _ => rfl) hr
  have loop : ∀ (d j : Nat) (H3 : Hp) (p s : Sl), j + d = l.length → SR H3 p s (foldM st (l.take j)) → Mod (fun _ => False) H H3 →
      state_Fold.l1 J0 es H3 (j : Int) (foldM st (l.take j)).index (foldM st (l.take j)).term p s (FP H (foldM st l)) := by
    intro d
    induction d with
    | zero =>
      intro j H3 p s hj sr m
      apply state_Fold.l1.step; unfold state_Fold.l1.body
      rw [List.take_of_length_le (by omega)] at sr ⊢
      exact Br.no (by simp; omega) ⟨p, s, rfl, sr, m⟩
    | succ d ih =>
      intro j H3 p s hj sr m
      apply state_Fold.l1.step; unfold state_Fold.l1.body
      have hjl : j < l.length := by omega
      obtain ⟨a, ha, hrow⟩ := row_get' (k := 8) (f := En.cells) (by omega) (fun _ => rfl) (hr.keep m fun _ _ e => e) hjl
      refine Br.yes (by simp; omega) ⟨⟨by omega, by omega⟩, vPtr.mk a ha ⟨l[j].index, l[j].term, l[j].cmd.op, l[j].cmd.client, l[j].cmd.seq, l[j].cmd.key, l[j].cmd.value, l[j].cmd.old, by simpa [En.cells] using hrow, fun H4 e4 => ?_⟩⟩
      obtain ⟨m4, s4⟩ := hole_facts e4
      refine (Apply_spec (e := l[j]) (sr.mod m4) (foldM_ok ok _)).mono ?_
      rintro r H5 ⟨p', s', rfl, sr', m5⟩
      refine ⟨_, _, p', s', _, _, rfl, ?_⟩
      rw [w64_id (x := (j : Int) + 1) (by omega) (by omega)]
      have e : (applyM (foldM st (l.take j)) l[j]).1 = foldM st (l.take (j + 1)) := by rw [List.take_succ_eq_append_getElem hjl, foldM_snoc]
      rw [e] at sr' ⊢
      have := ih (j + 1) H5 p' s' (by omega) sr' (m.trans (m4.trans m5))
      simpa using this
  have := loop l.length 0 H2 p s (by omega) (by simpa [foldM] using (h.mod m1).mod m2) (m1.trans m2)
  simpa [foldM] using this

end
end Go.Proofs
