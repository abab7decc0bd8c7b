/- DELTAS: what is between two states: plain (layer 09). -/
import Derived.Test.YtpdondaekinmdaaKd6
import Derived.Test.YtpdondaekinmdaaKx1
import Derived.Test.YtpdondaekinmdaaKub4
set_option linter.all false
set_option linter.constructorNameAsVariable false
set_option maxRecDepth 100000
namespace Go.Proofs
open Go Go.KC

def Stt.wt (s : Stt) : Wt := ⟨s.index, s.term, s.pairs, s.sess⟩
def prsOfL (l : List (ByteArray × ByteArray)) : List Pr := l.map fun p => ⟨p.1, p.2, false⟩
theorem kvs_prs (l : List (ByteArray × ByteArray)) : kvs (prsOfL l) = l := by
  unfold kvs prsOfL
  rw [List.map_map]
  exact (List.map_congr_left fun p _ => rfl).trans (List.map_id l)
theorem stay_prs (l : List (ByteArray × ByteArray)) : stay (prsOfL l) = prsOfL l := by
  unfold stay prsOfL
  rw [List.filter_eq_self]
  intro p hp
  obtain ⟨q, _, rfl⟩ := List.mem_map.1 hp
  rfl
section
variable {H : Hp}
theorem between_step {a b : Wt} {p x bp bx : Sl} (hs : RR H p x a.ps a.xs) (hd : RR H bp bx b.ps b.xs) (hl : a.ps.length ≤ 1000 ∧ b.ps.length ≤ 1000 ∧ b.xs.length ≤ 1000) {r : Dl × Int} (hr : betweenD a b = r) {K : Int → Int → Int → Sl → Sl → Int → Hp → Prop}
    (hK : ∀ p' x' H', RR H' p' x' r.1.ps r.1.xs → Mod (fun _ => False) H H' → K r.1.from r.1.to r.1.term p' x' r.2 H') :
    SCalls Try.prog delta_Between.id [wtV a p x, wtV b bp bx] H (fun r1 H5 => ∃ From : Int, ∃ To : Int, ∃ Term1 : Int, ∃ Pairs1 : Sl, ∃ Sessions1 : Sl, ∃ x : Int, r1 = .tuple #[.agg #[.int .i64 From, .int .i64 To, .int .i64 Term1, .slice Pairs1.a Pairs1.len Pairs1.cap, .slice Sessions1.a Sessions1.len Sessions1.cap], .int .i64 x] ∧ K From To Term1 Pairs1 Sessions1 x H5) := by
  refine (Between_spec hs hd hl).mono ?_
  rw [hr]
  rintro v H' ⟨p', x', rfl, rr, m⟩
  exact ⟨_, _, _, p', x', _, rfl, hK p' x' H' rr m⟩
end
theorem Rise.filter {κ α : Type} [KO κ] {l : List (κ × α)} (h : Rise l) (f : κ × α → Bool) : Rise (l.filter f) := by
  induction l with
  | nil => exact Rise.nil
  | cons p l ih =>
    rw [List.filter_cons]
    split
    · exact Rise.cons (ih h.tail) fun q hq => h.head (List.mem_filter.1 hq).1
    · exact ih h.tail
theorem mem_byKey {l : List Pr} {k : ByteArray} {p : Pr} : (k, p) ∈ PP.byKey l ↔ p ∈ l ∧ p.key = k := by
  unfold PP.byKey
  rw [List.mem_map]
  constructor
  · rintro ⟨q, hq, e⟩
    injection e with e1 e2
    subst e2; exact ⟨hq, e1⟩
  · rintro ⟨h, rfl⟩; exact ⟨p, h, rfl⟩
theorem byKey_append (a b : List Pr) : PP.byKey (a ++ b) = PP.byKey a ++ PP.byKey b := List.map_append
theorem rise_flat {f : ByteArray × ByteArray → List Pr} (hf : ∀ p, (f p).length ≤ 1 ∧ ∀ q ∈ f p, q.key = p.1) {M : List (ByteArray × ByteArray)} (h : Rise M) : Rise (PP.byKey (M.flatMap f)) := by
  induction M with
  | nil => exact Rise.nil
  | cons p M ih =>
    rw [List.flatMap_cons, byKey_append]
    refine Rise.append ?_ (ih h.tail) ?_
    · intro i j hi hj hij
      have h1 := (hf p).1
      have h2 : (PP.byKey (f p)).length = (f p).length := List.length_map _
      omega
    · rintro ⟨a, u⟩ ha ⟨b, w⟩ hb
      obtain ⟨ha1, rfl⟩ := mem_byKey.1 ha
      obtain ⟨hb1, rfl⟩ := mem_byKey.1 hb
      obtain ⟨q, hq, hw⟩ := List.mem_flatMap.1 hb1
      have := h.head hq
      rw [(hf p).2 u ha1, (hf q).2 w hw]
      exact this
theorem btwP_one (old now : List (ByteArray × ByteArray)) (p : ByteArray × ByteArray) : (btwP old now p).length ≤ 1 ∧ ∀ q ∈ btwP old now p, q.key = p.1 := by
  unfold btwP
  cases valL now p.1 with
  | none => simp
  | some v => dsimp only; split <;> simp
theorem rise_btw {old now : List (ByteArray × ByteArray)} (ho : Rise old) (hn : Rise now) : Rise (PP.byKey (btw old now)) :=
  rise_flat (btwP_one old now) (mergeL_spec old now ho hn).1
theorem rise_prs {l : List (ByteArray × ByteArray)} (h : Rise l) : Rise (PP.byKey (prsOfL l)) := by
  intro i j hi hj hij
  have e : ∀ n (hn : n < (PP.byKey (prsOfL l)).length), ∃ hm : n < l.length, ((PP.byKey (prsOfL l))[n]).1 = l[n].1 := by
    intro n hn
    have hm : n < l.length := by simpa [PP.byKey, prsOfL] using hn
    exact ⟨hm, by simp [PP.byKey, prsOfL]⟩
  obtain ⟨a1, e1⟩ := e i hi
  obtain ⟨a2, e2⟩ := e j hj
  rw [e1, e2]
  exact h i j a1 a2 hij
theorem mem_prs {l : List (ByteArray × ByteArray)} {k : ByteArray} {p : Pr} : (k, p) ∈ PP.byKey (prsOfL l) ↔ ∃ v, (k, v) ∈ l ∧ p = ⟨k, v, false⟩ := by
  rw [mem_byKey]
  unfold prsOfL
  rw [List.mem_map]
  constructor
  · rintro ⟨⟨⟨a, v⟩, h, rfl⟩, rfl⟩; exact ⟨v, h, rfl⟩
  · rintro ⟨v, h, rfl⟩; exact ⟨⟨(k, v), h, rfl⟩, rfl⟩
theorem mem_btw {old now : List (ByteArray × ByteArray)} (ho : Rise old) (hn : Rise now) {k : ByteArray} {p : Pr} :
    (k, p) ∈ PP.byKey (btw old now) ↔ (valL now k = none ∧ (∃ v, valL old k = some v) ∧ p = ⟨k, noText, true⟩) ∨ (∃ v, valL now k = some v ∧ valL old k ≠ some v ∧ p = ⟨k, v, false⟩) := by
  have M := (mergeL_spec old now ho hn).2
  rw [mem_byKey]
  unfold btw
  rw [List.mem_flatMap]
  constructor
  · rintro ⟨⟨⟨a, w⟩, hm, hp⟩, rfl⟩
    have hk := (btwP_one old now (a, w)).2 p hp
    dsimp only at hk
    unfold btwP at hp
    dsimp only at hp
    rw [hk]
    cases hv : valL now a with
    | none =>
      rw [hv] at hp
      refine Or.inl ⟨rfl, ?_, by simpa using hp⟩
      rcases (M a w).1 hm with h | ⟨h, _⟩
      · exact absurd h ((valL_none hn).1 hv w)
      · exact ⟨w, (valL_mem ho).2 h⟩
    | some v =>
      rw [hv] at hp
      dsimp only at hp
      by_cases h : valL old a = some v
      · rw [if_pos h] at hp; cases hp
      · rw [if_neg h] at hp
        exact Or.inr ⟨v, rfl, h, by simpa using hp⟩
  · rintro (⟨h1, ⟨v, h2⟩, rfl⟩ | ⟨v, h1, h2, rfl⟩)
    · refine ⟨⟨(k, v), (M k v).2 (Or.inr ⟨(valL_mem ho).1 h2, (valL_none hn).1 h1⟩), ?_⟩, rfl⟩
      unfold btwP; dsimp only; rw [h1]; simp
    · refine ⟨⟨(k, v), (M k v).2 (Or.inl ((valL_mem hn).1 h1)), ?_⟩, rfl⟩
      unfold btwP; dsimp only; rw [h1]; dsimp only; rw [if_neg h2]; simp
end Go.Proofs

/- STATES: what folds make (as Ku9, over Kx2). -/
set_option linter.all false
set_option linter.constructorNameAsVariable false
namespace Go.Proofs
open Go Go.KC

theorem cmdM_it (s : Stt) (c : Cm) : (cmdM s c).1.index = s.index ∧ (cmdM s c).1.term = s.term := by
  unfold cmdM
  split
  · split
    · split <;> exact ⟨rfl, rfl⟩
    · exact ⟨rfl, rfl⟩
  · exact ⟨rfl, rfl⟩
theorem applyM_next {s : Stt} {e : En} (hr : e.Right) (h1 : e.index = s.index + 1) (h2 : s.term ≤ e.term) : (applyM s e).1.index = e.index ∧ (applyM s e).1.term = e.term := by
  unfold applyM
  rw [if_neg (by simpa using hr), if_neg (by omega)]
  split
  · exact ⟨rfl, rfl⟩
  · exact cmdM_it _ _
theorem applyM_le (s : Stt) (e : En) : (applyM s e).1.index ≤ s.index + 1 := by
  unfold applyM
  split
  · simp; omega
  · split
    · simp; omega
    · split
      · dsimp only; omega
      · rw [(cmdM_it _ _).1]; dsimp only; omega
theorem foldM_le : ∀ (es : List En) (s : Stt), (foldM s es).index ≤ s.index + es.length
  | [], s => by simp [foldM]
  | e :: es, s => by
    have := foldM_le es (applyM s e).1
    have := applyM_le s e
    show (foldM (applyM s e).1 es).index ≤ _
    simp only [List.length_cons]; omega
theorem fold_rows {es : List En} (h : RowsOf es 1) (hl : es.length ≤ 1000) : ∀ j, j ≤ es.length → (foldM .zero (es.take j)).index = (j : Int) ∧ ∀ hj : j < es.length, (foldM .zero (es.take j)).term ≤ es[j].term := by
  intro j
  induction j with
  | zero => intro _; exact ⟨rfl, fun hj => by have := (h 0 hj).1.2.2.1; simpa [foldM, Stt.zero] using this⟩
  | succ j ih =>
    intro hj
    obtain ⟨i1, i2⟩ := ih (by omega)
    have hjl : j < es.length := by omega
    have hi := (h j hjl).2.1
    rw [w64_id (by omega) (by omega)] at hi
    have := applyM_next (h j hjl).1 (by rw [i1]; omega) (i2 hjl)
    rw [List.take_succ_eq_append_getElem hjl, foldM_snoc]
    refine ⟨by rw [this.1, hi]; omega, fun hj' => ?_⟩
    rw [this.2]
    exact (h (j + 1) hj').2.2 (by omega)

section
variable {H : Hp}
theorem fold_step {p s es : Sl} {st : Stt} {l : List En} (h : SR H p s st) (ok : st.Ok) (hr : Rows H es 8 (l.map En.cells).flatten) (hl : l.length ≤ 1000000) {K : Int → Int → Sl → Sl → Hp → Prop}
    (hK : ∀ p' s' H', SR H' p' s' (foldM st l) → Mod (fun _ => False) H H' → K (foldM st l).index (foldM st l).term p' s' H') :
    SCalls Try.prog state_Fold.id [stV st p s, .slice es.a es.len es.cap] H (fun r H1 => ∃ Index : Int, ∃ Term : Int, ∃ Pairs : Sl, ∃ Sessions : Sl, r = .agg #[.int .i64 Index, .int .i64 Term, .slice Pairs.a Pairs.len Pairs.cap, .slice Sessions.a Sessions.len Sessions.cap] ∧ K Index Term Pairs Sessions H1) := by
  refine (Fold_spec h ok hr hl).mono ?_
  rintro r H1 ⟨p', s', rfl, sr, m⟩
  exact ⟨_, _, p', s', rfl, hK p' s' H1 sr m⟩
theorem rows_pre {x : Sl} {es : List En} (h : Rows H x 8 (es.map En.cells).flatten) {n : Nat} (hn : n ≤ x.len) : Rows H ⟨cutA x.a x.cap 0 8, n, x.cap⟩ 8 ((es.take n).map En.cells).flatten := by
  have := Rows.take h hn
  rw [← flat_take (f := En.cells) (k := 8) (fun _ => rfl)] at this
  exact this
theorem rows_cut {x : Sl} {es : List En} (h : Rows H x 8 (es.map En.cells).flatten) {n : Nat} (hn : n ≤ x.len) : Rows H ⟨cutA x.a x.cap n 8, x.len - n, x.cap - n⟩ 8 ((es.drop n).map En.cells).flatten := by
  have := Rows.drop h hn
  rw [← flat_drop (f := En.cells) (k := 8) (fun _ => rfl)] at this
  exact this

end
end Go.Proofs

/- DELTAS: Three; which are right (layer 09). -/
set_option linter.all false
set_option linter.constructorNameAsVariable false
set_option maxRecDepth 100000
namespace Go.Proofs
open Go Go.KC

def Sn (ss : List Sy) (n : Nat) : Stt := foldM .zero ((ents (ss.take 80) 1 0).take n)
def Ln (ss : List Sy) : Nat := (ents (ss.take 80) 1 0).length
theorem Ln_le (ss : List Sy) : Ln ss ≤ 80 := by unfold Ln; rw [ents_length, List.length_take]; omega
theorem Sn_rows (ss : List Sy) : RowsOf (ents (ss.take 80) 1 0) 1 := ents_row (by omega) (by rw [List.length_take]; omega) (by omega) (by rw [List.length_take]; omega)
theorem Sn_ok (ss : List Sy) (n : Nat) : (Sn ss n).Ok := foldM_ok Stt.zero_ok _
theorem Sn_index {ss : List Sy} {n : Nat} (h : n ≤ Ln ss) : (Sn ss n).index = (n : Int) := (fold_rows (Sn_rows ss) (by have := Ln_le ss; unfold Ln at this; omega) n h).1
theorem Sn_term {ss : List Sy} {j : Nat} : ∀ {k : Nat}, j ≤ k → k ≤ Ln ss → (Sn ss j).term ≤ (Sn ss k).term := by
  intro k
  have hL := Ln_le ss
  induction k with
  | zero => intro h _; have : j = 0 := by omega
            subst this; exact Int.le_refl _
  | succ k ih =>
    intro h hk
    by_cases e : j = k + 1
    · subst e; exact Int.le_refl _
    · have h1 := ih (by omega) (by omega)
      have hkl : k < (ents (ss.take 80) 1 0).length := hk
      obtain ⟨i1, i2⟩ := fold_rows (Sn_rows ss) (by unfold Ln at hL; omega) k (by omega)
      have hi := (Sn_rows ss k hkl).2.1
      rw [w64_id (by omega) (by omega)] at hi
      have h2 := applyM_next (Sn_rows ss k hkl).1 (by rw [i1]; omega) (i2 hkl)
      have h3 : (Sn ss (k + 1)).term = (ents (ss.take 80) 1 0)[k].term := by
        unfold Sn
        rw [List.take_succ_eq_append_getElem hkl, foldM_snoc, h2.2]
      rw [h3]
      exact Int.le_trans h1 (i2 hkl)

section
variable {H : Hp}
theorem three_step {says : Sl} {ss : List Sy} {one two : UInt8} (hr : Rows H says 6 (ss.map Sy.cells).flatten) (hl : ss.length = says.len) {K : Int → Int → Sl → Sl → Int → Int → Sl → Sl → Int → Int → Sl → Sl → Hp → Prop}
    (hK : ∀ j k p0 s0 p1 s1 p2 s2 H', j ≤ k → k ≤ Ln ss → SR H' p0 s0 (Sn ss j) → SR H' p1 s1 (Sn ss k) → SR H' p2 s2 (Sn ss (Ln ss)) → Mod (fun _ => False) H H' →
      K (Sn ss j).index (Sn ss j).term p0 s0 (Sn ss k).index (Sn ss k).term p1 s1 (Sn ss (Ln ss)).index (Sn ss (Ln ss)).term p2 s2 H') :
    SCalls Try.prog tephralaw08_Three.id [.slice says.a says.len says.cap, .int .u8 (one.toNat : Int), .int .u8 (two.toNat : Int)] H (fun r1 H2 => ∃ x0Index : Int, ∃ x0Term : Int, ∃ x0Pairs : Sl, ∃ x0Sessions : Sl, ∃ x1Index : Int, ∃ x1Term : Int, ∃ x1Pairs : Sl, ∃ x1Sessions : Sl, ∃ x2Index : Int, ∃ x2Term : Int, ∃ x2Pairs : Sl, ∃ x2Sessions : Sl, r1 = .agg #[.int .i64 x0Index, .int .i64 x0Term, .slice x0Pairs.a x0Pairs.len x0Pairs.cap, .slice x0Sessions.a x0Sessions.len x0Sessions.cap, .int .i64 x1Index, .int .i64 x1Term, .slice x1Pairs.a x1Pairs.len x1Pairs.cap, .slice x1Sessions.a x1Sessions.len x1Sessions.cap, .int .i64 x2Index, .int .i64 x2Term, .slice x2Pairs.a x2Pairs.len x2Pairs.cap, .slice x2Sessions.a x2Sessions.len x2Sessions.cap] ∧
      K x0Index x0Term x0Pairs x0Sessions x1Index x1Term x1Pairs x1Sessions x2Index x2Term x2Pairs x2Sessions H2) := by
  apply tephralaw08_Three.calls
  unfold tephralaw08_Three.vc
  intro H1 h1
  obtain ⟨m1, _⟩ := hole_facts h1
  refine (Entries_spec (n := 1) (t := 0) (hr.keep m1 fun _ _ e => e) hl).mono ?_
  rintro r H2 ⟨x, rfl, o, hx, f, _⟩
  have hel := Ln_le ss
  have eL : Ln ss = x.len := hx.symm
  have m02 : Mod (fun _ => False) H H2 := m1.trans (Mod.fresh f fun _ h => h)
  have R2 : Rows H2 x 8 ((ents (ss.take 80) 1 0).map En.cells).flatten := Own.rows o
  have hcap := R2.2.1
  have c1 : w64 ((x.len : Int) + 1) = ((x.len + 1 : Nat) : Int) := by rw [w64_id (by omega) (by omega)]; omega
  have ca : w64 (one.toNat : Int) = (one.toNat : Int) := w64_id (by omega) (by have := one.toNat_lt; omega)
  have cb : w64 (two.toNat : Int) = (two.toNat : Int) := w64_id (by omega) (by have := two.toNat_lt; omega)
  refine ⟨x, rfl, ?_⟩
  rw [c1, ca, cb, tmodN one (x.len + 1)]
  have hj : one.toNat % (x.len + 1) ≤ x.len := by have := Nat.mod_lt one.toNat (show 0 < x.len + 1 by omega); omega
  generalize one.toNat % (x.len + 1) = j at hj
  have c2 : w64 ((x.len : Int) - (j : Int)) = ((x.len - j : Nat) : Int) := by rw [w64_id (by omega) (by omega)]; omega
  rw [c2]
  have c3 : w64 (((x.len - j : Nat) : Int) + 1) = ((x.len - j + 1 : Nat) : Int) := by rw [w64_id (by omega) (by omega)]; omega
  rw [c3, tmodN two (x.len - j + 1)]
  have hm : two.toNat % (x.len - j + 1) ≤ x.len - j := by have := Nat.mod_lt two.toNat (show 0 < x.len - j + 1 by omega); omega
  generalize two.toNat % (x.len - j + 1) = m at hm
  have c4 : w64 ((j : Int) + (m : Int)) = ((j + m : Nat) : Int) := by rw [w64_id (by omega) (by omega)]; omega
  rw [c4, Int.toNat_natCast, Int.toNat_natCast]
  have tl : ∀ n, ((ents (ss.take 80) 1 0).take n).length ≤ 1000000 := fun n => by
    have h : (ents (ss.take 80) 1 0).length ≤ 80 := hel
    rw [List.length_take]; omega
  refine ⟨by omega, by omega, ⟨by omega, by omega⟩, ⟨by omega, by omega⟩, ?_⟩
  refine fold_step (st := .zero) (SR.zero H2) Stt.zero_ok (rows_pre R2 hj) (tl j) fun p0 s0 H3 sr0 m3 => ?_
  refine fold_step (st := .zero) (SR.zero H3) Stt.zero_ok (rows_pre (R2.keep m3 fun _ _ e => e) (show j + m ≤ x.len by omega)) (tl (j + m)) fun p1 s1 H4 sr1 m4 => ?_
  refine fold_step (st := .zero) (SR.zero H4) Stt.zero_ok (R2.keep (m3.trans m4) fun _ _ e => e) (by have h : (ents (ss.take 80) 1 0).length ≤ 80 := hel; omega) fun p2 s2 H5 sr2 m5 => ?_
  have eA : foldM .zero (ents (ss.take 80) 1 0) = Sn ss (Ln ss) := by unfold Sn Ln; rw [List.take_length]
  rw [eA] at sr2 ⊢
  exact ⟨_, _, p0, s0, _, _, p1, s1, _, _, p2, s2, rfl, hK j (j + m) p0 s0 p1 s1 p2 s2 H5 (by omega) (by omega) ((sr0.mod m4).mod m5) (sr1.mod m5) sr2 (m02.trans (m3.trans (m4.trans m5)))⟩

theorem Stt.lens {s : Stt} (h : s.Ok) : s.wt.ps.length ≤ 1000 ∧ s.wt.xs.length ≤ 1000 := by
  have lk : s.pairs.length = s.kv.length := List.length_map _
  have ls : s.sess.length = s.ss.length := List.length_map _
  have := h.kl
  have := h.sl
  exact ⟨by show s.pairs.length ≤ _; omega, by show s.sess.length ≤ _; omega⟩
theorem btw_len {old now : List (ByteArray × ByteArray)} : (btw old now).length ≤ old.length + now.length := by
  unfold btw
  have h : ∀ l : List (ByteArray × ByteArray), (l.flatMap (btwP old now)).length ≤ l.length := by
    intro l
    induction l with
    | nil => simp
    | cons p l ih => rw [List.flatMap_cons, List.length_append, List.length_cons]; have := (btwP_one old now p).1; omega
  exact Nat.le_trans (h _) (mergeL_length _ _)

end
theorem rowsOk_of {ps : List Pr} {s : Stt} {most : Int} (hr : Rise (PP.byKey ps)) (ho : ∀ p ∈ ps, p.Ok) (hs : s.Ok) (hl : (ps.length : Int) ≤ most) : RowsOk ps s.sess most := by
  refine ⟨fun i hi _ => ⟨ho _ (List.getElem_mem hi), fun h0 => ?_⟩, fun i hi _ => ?_, hl⟩
  · have := hr (i - 1) i (by rw [PP.byKey_len]; omega) (by rw [PP.byKey_len]; omega) (by omega)
    simpa [PP.byKey] using this
  · have hi' : i < s.ss.length := by simpa [Stt.sess] using hi
    have e : ∀ n (hn : n < s.sess.length), s.sess[n] = (s.ss[n]'(by simpa [Stt.sess] using hn)).2 := fun n hn => List.getElem_map _
    have b := hs.sb _ (List.getElem_mem hi')
    refine ⟨?_, fun h0 => ?_⟩
    · rw [e i hi]
      exact ⟨by omega, by omega, b.2.2.2.1, b.2.2.2.2.1, b.2.2.2.2.2.1, b.2.2.2.2.2.2.1, b.2.2.2.2.2.2.2⟩
    · rw [e i hi, e (i - 1) (by omega)]
      have h2 : (s.ss[i - 1]'(by omega)).1 < (s.ss[i]).1 := hs.rs (i - 1) i (by omega) hi' (by omega)
      have b2 := hs.sb _ (List.getElem_mem (show i - 1 < s.ss.length by omega))
      rw [b.1, b2.1]; exact h2

theorem btw_ok {s t : Stt} (os : s.Ok) (ot : t.Ok) : ∀ p ∈ btw s.kv t.kv, p.Ok := by
  intro p hp
  have := (mem_btw os.rk ot.rk (k := p.key) (p := p)).1 (mem_byKey.2 ⟨hp, rfl⟩)
  generalize p.key = k at this
  rcases this with ⟨_, ⟨v, hv⟩, rfl⟩ | ⟨v, hv, _, rfl⟩
  · have := os.kb _ ((valL_mem os.rk).1 hv)
    exact ⟨this.1, this.2.1, (show noText.size ≤ 16 by decide), fun _ => rfl⟩
  · have := ot.kb _ ((valL_mem ot.rk).1 hv)
    exact ⟨this.1, this.2.1, this.2.2, fun e => by cases e⟩

end Go.Proofs
