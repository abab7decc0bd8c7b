/- DELTAS: Join: the walk. -/
import Derived.Test.YthehagkjoofjiaaKd4
set_option linter.all false
set_option linter.constructorNameAsVariable false
namespace Go.Proofs
open Go Go.KC

/-- A delta in a block of its own. -/
def DB (H : Hp) (b : Nat) (f t u : Int) (p s : Sl) : Prop := H[b]? = some (.cells #[.int .i64 f, .int .i64 t, .int .i64 u, .slice p.a p.len p.cap, .slice s.a s.len s.cap] T_delta_Delta (0, 0))
section
variable {H H' : Hp} {b : Nat} {f t u : Int} {p s : Sl}
theorem DB.row (h : DB H b f t u p s) : RowAt H (Addr.mk b 0 none) [.int .i64 f, .int .i64 t, .int .i64 u, .slice p.a p.len p.cap, .slice s.a s.len s.cap] := fun j v hj => by
  rw [Addr.add_loc, cell_of h, Nat.zero_add]
  simpa using hj
theorem DB.at3 (h : DB H b f t u p s) : Hp.cell? H ((Addr.mk b 0 none).add 3) = some (.slice p.a p.len p.cap) := by
  rw [Addr.add_loc, cell_of h, Nat.zero_add]; rfl
theorem DB.wr3 (h : DB H b f t u p s) : WrAt H ((Addr.mk b 0 none).add 3) 1 := by rw [Addr.add_loc, Nat.zero_add]; exact wr_one h (by simp)
theorem DB.set3 (h : DB H b f t u p s) {x : Sl} (e : H' = Hp.setCell H ((Addr.mk b 0 none).add 3) (.slice x.a x.len x.cap)) : DB H' b f t u x s ∧ Mod (· = b) H H' := by
  subst e; rw [Addr.add_loc, Nat.zero_add]; exact ⟨by have := get_setCell (o := 3) (.slice x.a x.len x.cap) h; simpa [DB] using this, Mod.setCell H _ _ rfl⟩
theorem DB.keep {μ : Nat → Prop} (h : DB H b f t u p s) (m : Mod μ H H') (hb : ¬ μ b) : DB H' b f t u p s := m.get h hb
theorem DB.put5 {f' t' u' : Int} {p' s' : Sl} (h : DB H b f t u p s) (e : H' = Hp.setCells H (Addr.mk b 0 none) [.int .i64 f', .int .i64 t', .int .i64 u', .slice p'.a p'.len p'.cap, .slice s'.a s'.len s'.cap] 0) : DB H' b f' t' u' p' s' ∧ Mod (· = b) H H' := by
  subst e
  refine ⟨?_, ⟨Nat.le_of_eq (size_setCells _ _ _).symm, fun q hq hb => get_setCells_ne (fun e => hb e) _ _ _⟩⟩
  have := get_setCells [.int .i64 f', .int .i64 t', .int .i64 u', .slice p'.a p'.len p'.cap, .slice s'.a s'.len s'.cap] 0 0 H _ h (by simp)
  simpa [DB] using this
theorem DB.wr5 (h : DB H b f t u p s) : WrAt H (Addr.mk b 0 none) 5 := fun j hj => by
  have := wr_one (o := j) h (by simpa using hj) 0 (by omega)
  simpa [Addr.add_loc] using this
end
section
variable {H : Hp}
/-- What is so behind Join, and Between. -/
def EP (H : Hp) (r : Dl × Int) (v : Value) (H' : Hp) : Prop := ∃ p x : Sl, v = .tuple #[dlV r.1 p x, .int .i64 r.2] ∧ RR H' p x r.1.ps r.1.xs ∧ Mod (fun _ => False) H H'

theorem Join_k2 {a d : Dl} {p x dp dx ap : Sl} {b : Nat} {H10 : Hp} (hb : H.size ≤ b) (B : DB H10 b a.from d.to d.term ⟨none, 0, 0⟩ ap) (m : Mod (fun q => H.size ≤ q) H H10) (hr : Rows H p 3 (a.ps.map Pr.row).flatten) (hd : Rows H dp 3 (d.ps.map Pr.row).flatten)
    (oa : Own H10 ap T_api_Session 4 (d.xs.map Se.row).flatten) (ha : ∀ q ∈ ap.blk, H.size ≤ q ∧ q ≠ b) (hl : a.ps.length ≤ 1000 ∧ d.ps.length ≤ 1000)
    (hc : ¬ (a.to ≠ d.from ∨ d.term < a.term)) :
    delta_Join.k2 J0 a.from a.to a.term p x d.from d.to d.term dp dx (Addr.mk b 0 none) H10 (EP H (joinD a d)) := by
  have hbz := lt_of_get B
  have mF : Mod (fun _ => False) H H10 := Mod.fresh m fun _ h => h
  apply delta_Join.k2.step; unfold delta_Join.k2.body
  refine PP.seq_st (hr.keep mF fun _ _ e => e) (by omega) (fun fa ba H11 ga hba m11 => ?_) fun hne q hq => Nat.lt_of_lt_of_le (rows_lt (by omega) Pr.row_len hr hne q hq) m.size
  refine PP.seq_st ((hd.keep mF fun _ _ e => e).keep m11 fun _ _ e => e) (by omega) (fun fb bb H12 gb hbb m12 => ?_) fun hne q hq => Nat.lt_of_lt_of_le (rows_lt (by omega) Pr.row_len hd hne q hq) (Nat.le_trans m.size m11.size)
  refine PP.merge_st (ga.mod m12 fun _ _ e => e) gb (by rw [PP.byKey_len]; omega) fun fv H13 gs m13 => ?_
  have m1013 := m11.trans (m12.trans m13)
  have B13 := B.keep m1013 fun e => e
  have o13 := oa.keep m1013 fun _ _ e => e
  have z13 := m1013.size
  have z11 := m11.size
  have z12 := m12.size
  have z10 := m.size
  have la := Own.lt oa
  apply delta_Join.k3.step; unfold delta_Join.k3.body
  intro fn tm hT
  have hbs : ∀ q ∈ (H12.size :: (H12.size + 1) :: (ba ++ bb)), q < H13.size := by obtain ⟨_, _, _, h, _⟩ := gs; exact h
  have hnb : ∀ q ∈ (H12.size :: (H12.size + 1) :: (ba ++ bb)), q ≠ b := by
    intro q hq
    simp only [List.mem_cons, List.mem_append] at hq
    rcases hq with h | h | h | h
    · omega
    · omega
    · rcases hba q h with h' | ⟨c, h'⟩
      · omega
      · have := rows_lt (by omega) Pr.row_len hr c q h'; omega
    · rcases hbb q h with h' | ⟨c, h'⟩
      · omega
      · have := rows_lt (by omega) Pr.row_len hd c q h'; omega
  generalize hM : mergeL (PP.byKey a.ps) (PP.byKey d.ps) = M at gs
  have hMl : M.length ≤ 2000 := by
    have := mergeL_length (PP.byKey a.ps) (PP.byKey d.ps)
    rw [hM, PP.byKey_len, PP.byKey_len] at this
    omega
  refine gs.range (rec := delta_Join.r1.rec fn tm H13.size) (fun n i H' => ∃ xs : Sl, DB H' b a.from d.to d.term xs ap ∧ Own H' xs T_api_Pair 3 (((M.take i).map (·.2)).map Pr.row).flatten ∧ (∀ q ∈ xs.blk, n ≤ q) ∧ Mod (fun q => q = b ∨ H13.size ≤ q) H13 H') (fun _ _ _ => False) ?_ ?_ ?_ (fun _ _ _ _ h _ => h) ?_ ?_ (fun _ _ _ _ h => h.elim)
  · intro n H' hn hn' m
    exact ⟨⟨none, 0, 0⟩, B13.keep m fun e => e, by simpa using Own.nil H' T_api_Pair 3, by simp [Sl.blk], m.mono fun _ _ e => e.elim⟩
  · rintro n i H' ⟨xs, w1, w2, w3, w4⟩
    exact Mod.same w4 fun q hq => ⟨hbs q hq, fun h => h.elim (hnb q hq) fun h => by have := hbs q hq; omega⟩
  · rintro n i H' H'' ⟨xs, w1, w2, w3, w4⟩ m
    exact ⟨xs, w1.keep m (by omega), w2.keep m (fun q hq h => by have := w3 q hq; omega), w3, w4.trans (m.mono fun q _ h => Or.inr h.1)⟩
  · rintro n i hi H14 hn hn' ⟨xs, w1, w2, w3, w4⟩ hrec
    refine delta_Join.r1.calls (vKey := M[i].2.key) (vValue := M[i].2.value) (vGone := M[i].2.gone) hrec hT (fun H15 e15 => ?_)
    obtain ⟨m15, s15⟩ := hole_facts e15
    have l15 := m15.get hrec fun e => e
    refine ⟨l15, fun H16 e16 => ?_⟩
    obtain ⟨l16, m16⟩ := rec_facts l15 e16
    have b16 := (w1.keep m15 fun e => e).keep m16 (by omega)
    have o16 := (w2.keep m15 fun _ _ e => e).keep m16 fun q hq h => by have := w3 q hq; have h : q = H13.size + 1 := h; omega
    have z16 := m16.size
    have hlen := rows_len' (by omega) Pr.row_len (Own.rows w2)
    rw [List.length_map, List.length_take] at hlen
    refine ⟨xs, b16.at3, addEl (p := M[i].2.row) elPair o16 rfl rfl (by omega) fun ys H6 o6 b6 m6 => ?_⟩
    have c6 := b16.keep m6 fun h => by have := w3 _ h; omega
    refine ⟨c6.wr3, fun H7 e7 => ?_⟩
    obtain ⟨c7, m7⟩ := c6.set3 e7
    have l7 := m7.get (m6.get l16 fun h => by have := w3 _ h; omega) (show ¬ H13.size + 1 = b by omega)
    have b6' : ∀ q ∈ ys.blk, n ≤ q := fun q hq => (b6 q hq).elim (w3 q) fun h => by omega
    obtain ⟨l8, m8⟩ := rec_facts (o' := delta_Join.r1.rec fn tm H13.size .ready none) l7 rfl
    refine ⟨⟨_, _, l7⟩, (m15.mono fun _ _ e => e.elim).trans ((m16.mono fun q _ h => by have h : q = H13.size + 1 := h; omega).trans ((m6.mono fun q _ h => by have := w3 q h; omega).trans ((m7.mono fun q _ h => by have h : q = b := h; omega).trans (m8.mono fun q _ h => by have h : q = H13.size + 1 := h; omega)))), Or.inl ⟨rfl, ⟨ys, c7.keep m8 (by omega), ?_, b6', ?_⟩, l8⟩⟩
    · have e : (((M.take (i + 1)).map (·.2)).map Pr.row).flatten = (((M.take i).map (·.2)).map Pr.row).flatten ++ M[i].2.row := by
        rw [List.take_succ_eq_append_getElem hi]; simp only [List.map_append, List.flatten_append, List.map_cons, List.map_nil, List.flatten_cons, List.flatten_nil, List.append_nil]
      rw [e]
      exact (o6.keep m7 fun q hq h => by have := b6' q hq; have h : q = b := h; omega).keep m8 fun q hq h => by have := b6' q hq; have h : q = H13.size + 1 := h; omega
    · exact w4.trans ((m15.mono fun _ _ e => e.elim).trans ((m16.mono fun q _ h => Or.inr (by have h : q = H13.size + 1 := h; omega)).trans ((m6.mono fun q _ h => Or.inr (by have := w3 q h; omega)).trans ((m7.mono fun q _ h => Or.inl h).trans (m8.mono fun q _ h => Or.inr (by have h : q = H13.size + 1 := h; omega))))))
  · rintro n H21 hn hn' ⟨xs, w1, w2, w3, w4⟩
    rw [List.take_length] at w2
    have hmm : M.map (·.2) = mrg a.ps d.ps := by unfold mrg; rw [hM]
    rw [hmm] at w2
    have hxl := rows_len' (by omega) Pr.row_len (Own.rows w2)
    have mT : Mod (fun _ => False) H H21 := Mod.fresh ((m.trans (m1013.mono fun _ _ e => e.elim)).trans (w4.mono (m' := fun q => H.size ≤ q) fun q _ h => by omega)) fun _ h => h
    refine jump_none ⟨xs, w1.at3, ?_⟩
    by_cases hbig : (mrg a.ps d.ps).length > 512
    · have e : joinD a d = (.zero, 4) := by unfold joinD; rw [if_neg hc, if_pos hbig]
      rw [e]
      exact Br.yes (by simp; omega) ⟨⟨none, 0, 0⟩, ⟨none, 0, 0⟩, rfl, RR.nil _, mT⟩
    · have e : joinD a d = (⟨a.from, d.to, d.term, mrg a.ps d.ps, d.xs⟩, 0) := by unfold joinD; rw [if_neg hc, if_neg hbig]
      rw [e]
      refine Br.no (by simp; omega) ⟨_, _, _, xs, ap, w1.row, xs, ap, rfl, ⟨Own.rows w2, (Own.rows o13).keep w4 fun q hq h => ?_⟩, mT⟩
      have := ha q hq
      have := la q hq
      omega
theorem Join_spec {a d : Dl} {p x dp dx : Sl} (hs : RR H p x a.ps a.xs) (hd : RR H dp dx d.ps d.xs) (hl : a.ps.length ≤ 1000 ∧ d.ps.length ≤ 1000 ∧ d.xs.length ≤ 1000) :
    SCalls Try.prog delta_Join.id [dlV a p x, dlV d dp dx] H (EP H (joinD a d)) := by
  apply delta_Join.calls (aFrom := a.from) (aTo := a.to) (aTerm := a.term) (aPairs := p) (aSessions := x) (bFrom := d.from) (bTo := d.to) (bTerm := d.term) (bPairs := dp) (bSessions := dx)
  intro H1 e1 H2 e2 H3 e3
  obtain ⟨m1, _⟩ := hole_facts e1
  obtain ⟨m2, _⟩ := hole_facts e2
  obtain ⟨m3, _⟩ := hole_facts e3
  have m03 := m1.trans (m2.trans m3)
  have hs3 := hs.mod m03
  have hd3 := hd.mod m03
  have z3 := m03.size
  have ld := hd.lens
  have bad : (a.to ≠ d.from ∨ d.term < a.term) → ∀ y : Bool, y = true → delta_Join.k1 J0 a.from a.to a.term p x d.from d.to d.term dp dx H3 y (EP H (joinD a d)) := by
    rintro hc y rfl
    apply delta_Join.k1.step; unfold delta_Join.k1.body
    have e : joinD a d = (.zero, 8) := by unfold joinD; rw [if_pos hc]
    rw [e]
    exact Br.yes rfl ⟨⟨none, 0, 0⟩, ⟨none, 0, 0⟩, rfl, RR.nil _, m03⟩
  by_cases h1 : a.to = d.from
  rotate_left
  · exact Br.yes (by simpa using h1) (bad (Or.inl h1) true rfl)
  refine Br.no (by simp [h1]) ?_
  by_cases h3 : d.term < a.term
  · exact bad (Or.inr h3) _ (decide_eq_true h3)
  rw [decide_eq_false h3]
  have hc : ¬ (a.to ≠ d.from ∨ d.term < a.term) := by omega
  apply delta_Join.k1.step; unfold delta_Join.k1.body
  refine Br.no rfl ⟨?_, fun b hb H7 h7 => ?_⟩
  · refine copyEl elSess hd3.2 (ses_one d.xs) (by omega) fun ap H4 oa hap m4 => ?_
    intro b hb H5 h5
    obtain ⟨q5, m5, s5⟩ := push_facts h5
    rw [← hb] at q5
    have B5 : DB H5 b 0 0 0 ⟨none, 0, 0⟩ ⟨none, 0, 0⟩ := q5
    refine ⟨B5.wr5, fun H6 h6 => ?_⟩
    obtain ⟨B6, m6⟩ := B5.put5 (p' := ⟨none, 0, 0⟩) h6
    have z4 := m4.size
    have lo := Own.lt oa
    refine Join_k2 (by omega) B6 (((m03.trans (m4.trans m5)).mono fun _ _ e => e.elim).trans (m6.mono fun q _ h => by have h : q = b := h; omega)) hs.1 hd.1 ((oa.keep m5 fun _ _ e => e).keep m6 fun q hq h => by have := lo q hq; have h : q = b := h; omega) (fun q hq => ⟨by have := hap q hq; omega, by have := lo q hq; omega⟩) ⟨hl.1, hl.2.1⟩ hc
  · obtain ⟨q7, m7, s7⟩ := push_facts h7
    rw [← hb] at q7
    have B7 : DB H7 b 0 0 0 ⟨none, 0, 0⟩ ⟨none, 0, 0⟩ := q7
    refine copyEl elSess (hd3.mod m7).2 (ses_one d.xs) (by omega) fun ap H8 oa hap m8 => ?_
    have B8 := B7.keep m8 fun e => e
    refine ⟨B8.wr5, fun H9 h9 => ?_⟩
    obtain ⟨B9, m9⟩ := B8.put5 (p' := ⟨none, 0, 0⟩) h9
    have lo := Own.lt oa
    refine Join_k2 (by omega) B9 (((m03.trans (m7.trans m8)).mono fun _ _ e => e.elim).trans (m9.mono fun q _ h => by have h : q = b := h; omega)) hs.1 hd.1 (oa.keep m9 fun q hq h => by have := hap q hq; have h : q = b := h; omega) (fun q hq => ⟨by have := hap q hq; omega, by have := hap q hq; omega⟩) ⟨hl.1, hl.2.1⟩ hc
end
end Go.Proofs
