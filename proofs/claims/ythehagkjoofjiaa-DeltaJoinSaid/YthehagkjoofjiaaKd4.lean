/- DELTAS: Do: the walk. -/
import Derived.Test.YthehagkjoofjiaaKd3
set_option linter.all false
set_option linter.constructorNameAsVariable false
namespace Go.Proofs
open Go Go.KC

/-- A delta, and a state, plain. -/
structure Dl where
  «from» : Int
  to : Int
  term : Int
  ps : List Pr
  xs : List Se
structure Wt where
  index : Int
  term : Int
  ps : List Pr
  xs : List Se
def Dl.zero : Dl := ⟨0, 0, 0, [], []⟩
def Wt.zero : Wt := ⟨0, 0, [], []⟩
def mrg (a b : List Pr) : List Pr := (mergeL (PP.byKey a) (PP.byKey b)).map (·.2)
def stay (l : List Pr) : List Pr := l.filter fun p => !p.gone
def doD (s : Wt) (d : Dl) : Wt × Int :=
  if s.index ≠ d.from ∨ d.to < d.from ∨ d.term < s.term then (.zero, 8)
  else if (stay (mrg s.ps d.ps)).length > 64 then (.zero, 4)
  else (⟨d.to, d.term, stay (mrg s.ps d.ps), d.xs⟩, 0)
def joinD (a b : Dl) : Dl × Int :=
  if a.to ≠ b.from ∨ b.term < a.term then (.zero, 8)
  else if (mrg a.ps b.ps).length > 512 then (.zero, 4)
  else (⟨a.from, b.to, b.term, mrg a.ps b.ps, b.xs⟩, 0)
abbrev wtV (s : Wt) (p x : Sl) : Value := .agg #[.int .i64 s.index, .int .i64 s.term, .slice p.a p.len p.cap, .slice x.a x.len x.cap]
abbrev dlV (d : Dl) (p x : Sl) : Value := .agg #[.int .i64 d.from, .int .i64 d.to, .int .i64 d.term, .slice p.a p.len p.cap, .slice x.a x.len x.cap]

theorem allOne_flat' {α : Type} {f : α → List Value} (h : ∀ a, allOne (f a) = true) : ∀ l : List α, allOne (l.map f).flatten = true
  | [] => rfl
  | a :: l => by
    rw [List.map_cons, List.flatten_cons, allOne_append, h a, allOne_flat' h l]; rfl
theorem rows_lt {H : Hp} {α : Type} {f : α → List Value} {k : Nat} (hk : 0 < k) (hf : ∀ c, (f c).length = k) {x : Sl} {l : List α} (h : Rows H x k (l.map f).flatten) (hl : l ≠ []) : ∀ q ∈ x.blk, q < H.size := by
  intro q hq
  have h0 : 0 < l.length := List.length_pos_iff.2 hl
  obtain ⟨a, ha, hrow⟩ := row_get' hk hf h h0
  have hq' : q = a.block := by
    unfold Sl.blk at hq; rw [ha] at hq; simpa using hq
  obtain ⟨v, hv⟩ : ∃ v, (f l[0])[0]? = some v := ⟨(f l[0])[0]'(by rw [hf]; exact hk), List.getElem?_eq_getElem _⟩
  have hc := hrow 0 v hv
  have hb : ((a.add (0 * k)).add 0).block = a.block := by unfold Addr.add; split <;> (split <;> rfl)
  unfold Hp.cell? at hc
  rw [hb] at hc
  cases hg : H[a.block]? with
  | none => rw [hg] at hc; cases hc
  | some o => rw [hq']; exact lt_of_get hg
/-- A row is copied. -/
theorem copyEl {P : Program} {T e : TypeId} {k : Nat} {H : Hp} {x : Sl} {cs : List Value} {K : Sl → Hp → Prop} (hE : El P T e k) (h : Rows H x k cs) (h1 : allOne cs = true) (hl : x.len ≤ 1000000)
    (hK : ∀ y H', Own H' y e k cs → (∀ q ∈ y.blk, H.size ≤ q) → Mod (fun _ => False) H H' → K y H') : vApp P T none 0 0 (.slice x.a x.len x.cap) H K := by
  obtain ⟨hu, ⟨ti, z, hi, hz, hsz, hby, hby2, hzs, hz1⟩, hkp⟩ := hE
  have hcl := h.1
  have hsrc : SrcAt H k x.len (.slice x.a x.len x.cap) cs := by
    cases hx : x.a with
    | none =>
      have h0 := h.2.2.2 hx
      have h2 := h.2.1
      have : x.len = 0 := by omega
      rw [this] at hcl ⊢
      have he : cs = [] := List.eq_nil_of_length_eq_zero (by simpa using hcl)
      rw [he]; exact rfl
    | some a => exact ⟨hcl, h.2.2.1 a hx⟩
  refine Own.app (x := ⟨none, 0, 0⟩) (e := e) (ti := ti) (z := z) (cs := []) (news := cs) (Own.nil _ _ _) hu hi hz (by rw [hzs, hsz]) hby (by rw [hsz]; exact hsrc) (by rw [hsz, hcl]; rfl) h1 ?_ ?_
  · simp only [srcLen]
    have : (0 + x.len) * ti.bytes ≤ (0 + x.len) * 1000 := Nat.mul_le_mul_left _ hby2
    omega
  · intro y H' q1 q2 q3 q4 _
    rw [hsz, List.nil_append] at q1
    refine hK y H' q1 (fun q hq => ?_) (q3.mono fun q _ hq => by simp [Sl.blk] at hq)
    rcases q4 q hq with h | h
    · simp [Sl.blk] at h
    · omega
theorem prs_one (l : List Pr) : allOne (l.map Pr.row).flatten = true := allOne_flat' (fun _ => rfl) l
theorem ses_one (l : List Se) : allOne (l.map Se.row).flatten = true := allOne_flat' (fun _ => rfl) l

section
variable {H : Hp}
/-- What is so behind Do. -/
def DP (H : Hp) (r : Wt × Int) (v : Value) (H' : Hp) : Prop := ∃ p x : Sl, v = .tuple #[wtV r.1 p x, .int .i64 r.2] ∧ RR H' p x r.1.ps r.1.xs ∧ Mod (fun _ => False) H H'
theorem RR.nil (H : Hp) : RR H ⟨none, 0, 0⟩ ⟨none, 0, 0⟩ [] [] := ⟨⟨rfl, Nat.le_refl _, fun a ha => (by cases ha), fun _ => rfl⟩, ⟨rfl, Nat.le_refl _, fun a ha => (by cases ha), fun _ => rfl⟩⟩
theorem SB.put4 {H H' : Hp} {b : Nat} {i t i' t' : Int} {p s p' s' : Sl} (h : SB H b i t p s) (e : H' = Hp.setCells H (Addr.mk b 0 none) [.int .i64 i', .int .i64 t', .slice p'.a p'.len p'.cap, .slice s'.a s'.len s'.cap] 0) : SB H' b i' t' p' s' ∧ Mod (· = b) H H' := by
  subst e
  refine ⟨?_, ⟨Nat.le_of_eq (size_setCells _ _ _).symm, fun q hq hb => get_setCells_ne (fun e => hb e) _ _ _⟩⟩
  have := get_setCells [.int .i64 i', .int .i64 t', .slice p'.a p'.len p'.cap, .slice s'.a s'.len s'.cap] 0 0 H _ h (by simp)
  simpa [SB] using this
theorem SB.wr4 {b : Nat} {i t : Int} {p s : Sl} (h : SB H b i t p s) : WrAt H (Addr.mk b 0 none) 4 := fun j hj => by
  have := wr_one (o := j) h (by simpa using hj) 0 (by omega)
  simpa [Addr.add_loc] using this

theorem Do_k3 {s : Wt} {d : Dl} {p x dp dx ap : Sl} {b : Nat} {H10 : Hp} (hb : H.size ≤ b) (B : SB H10 b d.to d.term ⟨none, 0, 0⟩ ap) (m : Mod (fun q => H.size ≤ q) H H10) (hr : Rows H p 3 (s.ps.map Pr.row).flatten) (hd : Rows H dp 3 (d.ps.map Pr.row).flatten)
    (oa : Own H10 ap T_api_Session 4 (d.xs.map Se.row).flatten) (ha : ∀ q ∈ ap.blk, H.size ≤ q ∧ q ≠ b) (hl : s.ps.length ≤ 1000 ∧ d.ps.length ≤ 1000)
    (hc : ¬ (s.index ≠ d.from ∨ d.to < d.from ∨ d.term < s.term)) :
    delta_Do.k3 J0 s.index s.term p x d.from d.to d.term dp dx (Addr.mk b 0 none) H10 (DP H (doD s d)) := by
  have hbz := lt_of_get B
  have mF : Mod (fun _ => False) H H10 := Mod.fresh m fun _ h => h
  apply delta_Do.k3.step; unfold delta_Do.k3.body
  refine PP.seq_st (hr.keep mF fun _ _ e => e) (by omega) (fun fa ba H11 ga hba m11 => ?_) fun hne q hq => Nat.lt_of_lt_of_le (rows_lt (by omega) Pr.row_len hr hne q hq) m.size
  refine PP.seq_st ((hd.keep mF fun _ _ e => e).keep m11 fun _ _ e => e) (by omega) (fun fb bb H12 gb hbb m12 => ?_) fun hne q hq => Nat.lt_of_lt_of_le (rows_lt (by omega) Pr.row_len hd hne q hq) (Nat.le_trans m.size m11.size)
  refine PP.merge_st (ga.mod m12 fun _ _ e => e) gb (by rw [PP.byKey_len]; omega) fun fv H13 gs m13 => ?_
  have m1013 := m11.trans (m12.trans m13)
  have B13 := B.keep m1013 fun e => e
  have o13 := oa.keep m1013 fun _ _ e => e
  have z13 := m1013.size
  have z11 := m11.size
  have z12 := m12.size
  have z10 := m.size
  have la := Own.lt oa
  apply delta_Do.k4.step; unfold delta_Do.k4.body
  intro fn tm hT
  have hbs : ∀ q ∈ (H12.size :: (H12.size + 1) :: (ba ++ bb)), q < H13.size := by obtain ⟨_, _, _, h, _⟩ := gs; exact h
  -- the row goes over blocks that are not the variable's
  have hnb : ∀ q ∈ (H12.size :: (H12.size + 1) :: (ba ++ bb)), q ≠ b := by
    intro q hq
    simp only [List.mem_cons, List.mem_append] at hq
    rcases hq with h | h | h | h
    · omega
    · omega
    · rcases hba q h with h' | ⟨c, h'⟩
      · omega
      · have := rows_lt (by omega) Pr.row_len hr c q h'; omega
    · rcases hbb q h with h' | ⟨c, h'⟩
      · omega
      · have := rows_lt (by omega) Pr.row_len hd c q h'; omega
  generalize hM : mergeL (PP.byKey s.ps) (PP.byKey d.ps) = M at gs
  have hMl : M.length ≤ 2000 := by
    have := mergeL_length (PP.byKey s.ps) (PP.byKey d.ps)
    rw [hM, PP.byKey_len, PP.byKey_len] at this
    omega
  refine gs.range (rec := delta_Do.r1.rec fn tm H13.size) (fun n i H' => ∃ xs : Sl, SB H' b d.to d.term xs ap ∧ Own H' xs T_api_Pair 3 ((stay ((M.take i).map (·.2))).map Pr.row).flatten ∧ (∀ q ∈ xs.blk, n ≤ q) ∧ Mod (fun q => q = b ∨ H13.size ≤ q) H13 H') (fun _ _ _ => False) ?_ ?_ ?_ (fun _ _ _ _ h _ => h) ?_ ?_ (fun _ _ _ _ h => h.elim)
  · intro n H' hn hn' m
    exact ⟨⟨none, 0, 0⟩, B13.keep m fun e => e, by simpa [stay] using Own.nil H' T_api_Pair 3, by simp [Sl.blk], m.mono fun _ _ e => e.elim⟩
  · rintro n i H' ⟨xs, w1, w2, w3, w4⟩
    exact Mod.same w4 fun q hq => ⟨hbs q hq, fun h => h.elim (hnb q hq) fun h => by have := hbs q hq; omega⟩
  · rintro n i H' H'' ⟨xs, w1, w2, w3, w4⟩ m
    exact ⟨xs, w1.keep m (by omega), w2.keep m (fun q hq h => by have := w3 q hq; omega), w3, w4.trans (m.mono fun q _ h => Or.inr h.1)⟩
  · rintro n i hi H14 hn hn' ⟨xs, w1, w2, w3, w4⟩ hrec
    refine delta_Do.r1.calls (vKey := M[i].2.key) (vValue := M[i].2.value) (vGone := M[i].2.gone) hrec hT (fun H15 e15 => ?_)
    obtain ⟨m15, s15⟩ := hole_facts e15
    have l15 := m15.get hrec fun e => e
    refine ⟨l15, fun H16 e16 => ?_⟩
    obtain ⟨l16, m16⟩ := rec_facts l15 e16
    have b16 := (w1.keep m15 fun e => e).keep m16 (by omega)
    have o16 := (w2.keep m15 fun _ _ e => e).keep m16 fun q hq h => by have := w3 q hq; have h : q = H13.size + 1 := h; omega
    have z16 := m16.size
    have hlen := rows_len' (by omega) Pr.row_len (Own.rows w2)
    have hll : (stay ((M.take i).map (·.2))).length ≤ 2000 := by
      have h1 : (stay ((M.take i).map (·.2))).length ≤ ((M.take i).map (·.2)).length := List.length_filter_le _ _
      rw [List.length_map, List.length_take] at h1; omega
    have step : stay ((M.take (i + 1)).map (·.2)) = stay ((M.take i).map (·.2)) ++ if M[i].2.gone then [] else [M[i].2] := by
      unfold stay
      rw [List.take_succ_eq_append_getElem hi, List.map_append, List.filter_append]
      cases hg : M[i].2.gone <;> simp [hg]
    cases hg : M[i].2.gone with
    | false =>
      rw [hg] at step
      refine Br.yes rfl ⟨xs, b16.at 2 rfl, ?_⟩
      have := addEl (p := M[i].2.row) elPair o16 rfl rfl (by omega) (K := fun ap2 H18 => WrAt H18 ((Addr.mk b 0 none).add 2) 1 ∧ ∀ H19 : Hp, H19 = (Hp.setCell H18 ((Addr.mk b 0 none).add 2) (.slice ap2.a ap2.len ap2.cap)) → 
          ((∃ st : LoopState, ∃ pd : Option Code, H19[H13.size + 1]? = some (delta_Do.r1.rec fn tm H13.size st pd)) ∧ Mod (fun b => ¬ (H13.size + 2 ≤ b ∧ b < n)) H14 (Array.setIfInBounds H19 (H13.size + 1) (delta_Do.r1.rec fn tm H13.size .ready none)) ∧
            (((Value.bool true) = .bool true ∧ (∃ xs : Sl, SB (Array.setIfInBounds H19 (H13.size + 1) (delta_Do.r1.rec fn tm H13.size .ready none)) b d.to d.term xs ap ∧ Own (Array.setIfInBounds H19 (H13.size + 1) (delta_Do.r1.rec fn tm H13.size .ready none)) xs T_api_Pair 3 ((stay ((M.take (i + 1)).map (·.2))).map Pr.row).flatten ∧ (∀ q ∈ xs.blk, n ≤ q) ∧ Mod (fun q => q = b ∨ H13.size ≤ q) H13 (Array.setIfInBounds H19 (H13.size + 1) (delta_Do.r1.rec fn tm H13.size .ready none))) ∧ (Array.setIfInBounds H19 (H13.size + 1) (delta_Do.r1.rec fn tm H13.size .ready none))[H13.size + 1]? = some (delta_Do.r1.rec fn tm H13.size .ready none)) ∨
              (∃ c, (Value.bool true) = .bool false ∧ False ∧ (Array.setIfInBounds H19 (H13.size + 1) (delta_Do.r1.rec fn tm H13.size .ready none))[H13.size + 1]? = some (delta_Do.r1.rec fn tm H13.size .done (some c)))))) fun ys H6 o6 b6 m6 => ?_
      · rw [show M[i].2.row = [.string M[i].2.key, .string M[i].2.value, .bool false] from by unfold Pr.row; rw [hg]] at this
        exact this
      have c6 := b16.keep m6 fun h => by have := w3 _ h; omega
      refine ⟨c6.wr 2 (by omega), fun H7 e7 => ?_⟩
      obtain ⟨c7, m7⟩ := c6.set2 e7
      have l7 := m7.get (m6.get l16 fun h => by have := w3 _ h; omega) (show ¬ H13.size + 1 = b by omega)
      have b6' : ∀ q ∈ ys.blk, n ≤ q := fun q hq => (b6 q hq).elim (w3 q) fun h => by omega
      obtain ⟨l8, m8⟩ := rec_facts (o' := delta_Do.r1.rec fn tm H13.size .ready none) l7 rfl
      refine ⟨⟨_, _, l7⟩, (m15.mono fun _ _ e => e.elim).trans ((m16.mono fun q _ h => by have h : q = H13.size + 1 := h; omega).trans ((m6.mono fun q _ h => by have := w3 q h; omega).trans ((m7.mono fun q _ h => by have h : q = b := h; omega).trans (m8.mono fun q _ h => by have h : q = H13.size + 1 := h; omega)))), Or.inl ⟨rfl, ⟨ys, c7.keep m8 (by omega), ?_, b6', ?_⟩, l8⟩⟩
      · rw [step, List.map_append, List.flatten_append]
        have := (o6.keep m7 fun q hq h => by have := b6' q hq; have h : q = b := h; omega).keep m8 fun q hq h => by have := b6' q hq; have h : q = H13.size + 1 := h; omega
        simpa using this
      · exact w4.trans ((m15.mono fun _ _ e => e.elim).trans ((m16.mono fun q _ h => Or.inr (by have h : q = H13.size + 1 := h; omega)).trans ((m6.mono fun q _ h => Or.inr (by have := w3 q h; omega)).trans ((m7.mono fun q _ h => Or.inl h).trans (m8.mono fun q _ h => Or.inr (by have h : q = H13.size + 1 := h; omega))))))
    | true =>
      rw [hg] at step
      refine Br.no rfl ?_
      obtain ⟨l8, m8⟩ := rec_facts (o' := delta_Do.r1.rec fn tm H13.size .ready none) l16 rfl
      refine ⟨⟨_, _, l16⟩, (m15.mono fun _ _ e => e.elim).trans ((m16.mono fun q _ h => by have h : q = H13.size + 1 := h; omega).trans (m8.mono fun q _ h => by have h : q = H13.size + 1 := h; omega)), Or.inl ⟨rfl, ⟨xs, b16.keep m8 (by omega), ?_, w3, ?_⟩, l8⟩⟩
      · rw [step]
        have := o16.keep m8 fun q hq h => by have := w3 q hq; have h : q = H13.size + 1 := h; omega
        simpa using this
      · exact w4.trans ((m15.mono fun _ _ e => e.elim).trans ((m16.mono fun q _ h => Or.inr (by have h : q = H13.size + 1 := h; omega)).trans (m8.mono fun q _ h => Or.inr (by have h : q = H13.size + 1 := h; omega))))
  · rintro n H21 hn hn' ⟨xs, w1, w2, w3, w4⟩
    rw [List.take_length] at w2
    have hmm : M.map (·.2) = mrg s.ps d.ps := by unfold mrg; rw [hM]
    rw [hmm] at w2
    have hxl := rows_len' (by omega) Pr.row_len (Own.rows w2)
    have mT : Mod (fun _ => False) H H21 := Mod.fresh ((m.trans (m1013.mono fun _ _ e => e.elim)).trans (w4.mono (m' := fun q => H.size ≤ q) fun q _ h => by omega)) fun _ h => h
    refine jump_none ⟨xs, w1.at 2 rfl, ?_⟩
    by_cases hbig : (stay (mrg s.ps d.ps)).length > 64
    · have e : doD s d = (.zero, 4) := by unfold doD; rw [if_neg hc, if_pos hbig]
      rw [e]
      exact Br.yes (by simp; omega) ⟨⟨none, 0, 0⟩, ⟨none, 0, 0⟩, rfl, RR.nil _, mT⟩
    · have e : doD s d = (⟨d.to, d.term, stay (mrg s.ps d.ps), d.xs⟩, 0) := by unfold doD; rw [if_neg hc, if_neg hbig]
      rw [e]
      refine Br.no (by simp; omega) ⟨_, _, xs, ap, w1.row, xs, ap, rfl, ⟨Own.rows w2, (Own.rows o13).keep w4 fun q hq h => ?_⟩, mT⟩
      have := ha q hq
      have := la q hq
      omega
theorem Do_spec {s : Wt} {d : Dl} {p x dp dx : Sl} (hs : RR H p x s.ps s.xs) (hd : RR H dp dx d.ps d.xs) (hl : s.ps.length ≤ 1000 ∧ d.ps.length ≤ 1000 ∧ d.xs.length ≤ 1000) :
    SCalls Try.prog delta_Do.id [wtV s p x, dlV d dp dx] H (DP H (doD s d)) := by
  apply delta_Do.calls (sIndex := s.index) (sTerm := s.term) (sPairs := p) (sSessions := x) (dFrom := d.from) (dTo := d.to) (dTerm := d.term) (dPairs := dp) (dSessions := dx)
  intro H1 e1 H2 e2 H3 e3
  obtain ⟨m1, _⟩ := hole_facts e1
  obtain ⟨m2, _⟩ := hole_facts e2
  obtain ⟨m3, _⟩ := hole_facts e3
  have m03 := m1.trans (m2.trans m3)
  have hs3 := hs.mod m03
  have hd3 := hd.mod m03
  have z3 := m03.size
  have ld := hd.lens
  have bad : (s.index ≠ d.from ∨ d.to < d.from ∨ d.term < s.term) → ∀ y : Bool, y = true → delta_Do.k2 J0 s.index s.term p x d.from d.to d.term dp dx H3 y (DP H (doD s d)) := by
    rintro hc y rfl
    apply delta_Do.k2.step; unfold delta_Do.k2.body
    have e : doD s d = (.zero, 8) := by unfold doD; rw [if_pos hc]
    rw [e]
    exact Br.yes rfl ⟨⟨none, 0, 0⟩, ⟨none, 0, 0⟩, rfl, RR.nil _, m03⟩
  by_cases h1 : s.index = d.from
  rotate_left
  · refine Br.yes (by simpa using h1) ?_
    apply delta_Do.k1.step; unfold delta_Do.k1.body
    exact Br.yes rfl (bad (Or.inl h1) true rfl)
  refine Br.no (by simp [h1]) ?_
  apply delta_Do.k1.step; unfold delta_Do.k1.body
  by_cases h2 : d.to < d.from
  · exact Br.yes (decide_eq_true h2) (bad (Or.inr (Or.inl h2)) true rfl)
  refine Br.no (decide_eq_false h2) ?_
  by_cases h3 : d.term < s.term
  · exact bad (Or.inr (Or.inr h3)) _ (decide_eq_true h3)
  rw [decide_eq_false h3]
  have hc : ¬ (s.index ≠ d.from ∨ d.to < d.from ∨ d.term < s.term) := by omega
  apply delta_Do.k2.step; unfold delta_Do.k2.body
  refine Br.no rfl ⟨?_, fun b hb H7 h7 => ?_⟩
  · refine copyEl elSess hd3.2 (ses_one d.xs) (by omega) fun ap H4 oa hap m4 => ?_
    intro b hb H5 h5
    obtain ⟨q5, m5, s5⟩ := push_facts h5
    rw [← hb] at q5
    have B5 : SB H5 b 0 0 ⟨none, 0, 0⟩ ⟨none, 0, 0⟩ := q5
    refine ⟨B5.wr4, fun H6 h6 => ?_⟩
    obtain ⟨B6, m6⟩ := B5.put4 (p' := ⟨none, 0, 0⟩) h6
    have z4 := m4.size
    have lo := Own.lt oa
    refine Do_k3 (by omega) B6 (((m03.trans (m4.trans m5)).mono fun _ _ e => e.elim).trans (m6.mono fun q _ h => by have h : q = b := h; omega)) hs.1 hd.1 ((oa.keep m5 fun _ _ e => e).keep m6 fun q hq h => by have := lo q hq; have h : q = b := h; omega) (fun q hq => ⟨by have := hap q hq; omega, by have := lo q hq; omega⟩) ⟨hl.1, hl.2.1⟩ hc
  · obtain ⟨q7, m7, s7⟩ := push_facts h7
    rw [← hb] at q7
    have B7 : SB H7 b 0 0 ⟨none, 0, 0⟩ ⟨none, 0, 0⟩ := q7
    refine copyEl elSess (hd3.mod m7).2 (ses_one d.xs) (by omega) fun ap H8 oa hap m8 => ?_
    have B8 := B7.keep m8 fun e => e
    refine ⟨B8.wr4, fun H9 h9 => ?_⟩
    obtain ⟨B9, m9⟩ := B8.put4 (p' := ⟨none, 0, 0⟩) h9
    have lo := Own.lt oa
    refine Do_k3 (by omega) B9 (((m03.trans (m7.trans m8)).mono fun _ _ e => e.elim).trans (m9.mono fun q _ h => by have h : q = b := h; omega)) hs.1 hd.1 (oa.keep m9 fun q hq h => by have := hap q hq; have h : q = b := h; omega) (fun q hq => ⟨by have := hap q hq; omega, by have := hap q hq; omega⟩) ⟨hl.1, hl.2.1⟩ hc
end
end Go.Proofs
