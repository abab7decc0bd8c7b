/- RANGES OVER ROWS: what it is that a function goes over a row (generic); two rows that rise made one (plain). -/
import Derived.Test.YtihadekhodlacaaKm3
set_option linter.all false
set_option linter.constructorNameAsVariable false
namespace Go.Proofs
open Go Go.KC

/-- The function fv goes over the row l, from any heap in which the blocks bs are as they are in H. What it makes for itself lies from its start on, below n1: it may change that at any time, and whoever is told of a round leaves it alone. -/
def Goes {ι : Type} (P : Program) (enc : ι → List Value) (fv : Fv) (l : List ι) (bs : List Nat) (H : Hp) : Prop :=
  ∃ f, fv.fn = .func f ∧ goFn P f = true ∧ (∀ b ∈ bs, b < H.size) ∧
    ∀ (y : Fv) (H0 : Hp) (J : Nat → Nat → Hp → Prop) (Q : Nat → Hp → Prop), Same bs H H0 → H.size ≤ H0.size →
      (∀ n1 H1, H0.size ≤ n1 → n1 ≤ H1.size → Mod (fun _ => False) H0 H1 → J n1 0 H1) →
      (∀ n1 i H1 H2, J n1 i H1 → Mod (fun b => H0.size ≤ b ∧ b < n1) H1 H2 → J n1 i H2) →
      (∀ n1 H1 H2, Q n1 H1 → Mod (fun b => H0.size ≤ b ∧ b < n1) H1 H2 → Q n1 H2) →
      (∀ n1 i H1, J n1 i H1 → Same bs H0 H1) →
      (∀ n1 i (hi : i < l.length) H1, H0.size ≤ n1 → n1 ≤ H1.size → J n1 i H1 → vInv P (.func y.fn y.fi y.ca) (enc l[i]) H1 fun r H2 =>
        Mod (fun b => ¬ (H0.size ≤ b ∧ b < n1)) H1 H2 ∧ ((r = .bool true ∧ J n1 (i + 1) H2) ∨ (r = .bool false ∧ Q n1 H2))) →
      (∀ n1 H1, J n1 l.length H1 → Q n1 H1) →
      SCalls P f (fv.fi.toList ++ [.func y.fn y.fi y.ca] ++ fv.ca.toList) H0 fun _ H1 => ∃ n1, Q n1 H1

section
variable {ι : Type} {P : Program} {enc : ι → List Value} {fv : Fv} {l : List ι} {bs : List Nat} {H : Hp}
theorem Same.mono {bs cs : List Nat} {H H' : Hp} (h : Same bs H H') (hc : ∀ b ∈ cs, b ∈ bs) : Same cs H H' := fun b hb => h b (hc b hb)
theorem Goes.same {H' : Hp} (h : Goes P enc fv l bs H) (hs : Same bs H H') (hz : H.size ≤ H'.size) : Goes P enc fv l bs H' := by
  obtain ⟨f, h1, h2, h3, h4⟩ := h
  exact ⟨f, h1, h2, fun b hb => Nat.lt_of_lt_of_le (h3 b hb) hz, fun y H0 J Q q1 q2 => h4 y H0 J Q (hs.trans q1) (Nat.le_trans hz q2)⟩
theorem Goes.mod {H' : Hp} (h : Goes P enc fv l bs H) {m : Nat → Prop} (hm : Mod m H H') (hb : ∀ b ∈ bs, ¬ m b) : Goes P enc fv l bs H' := by
  have := h
  obtain ⟨f, h1, h2, h3, h4⟩ := this
  exact h.same (Mod.same hm fun b hx => ⟨h3 b hx, hb b hx⟩) hm.size
theorem Goes.wide {cs : List Nat} (h : Goes P enc fv l bs H) (hc : ∀ b ∈ bs, b ∈ cs) (hl : ∀ b ∈ cs, b < H.size) : Goes P enc fv l cs H := by
  obtain ⟨f, h1, h2, h3, h4⟩ := h
  exact ⟨f, h1, h2, hl, fun y H0 J Q q1 q2 q3 q4 q5 q6 q7 q8 => h4 y H0 J Q (q1.mono hc) q2 q3 q4 q5 (fun n1 i H1 hj => (q6 n1 i H1 hj).mono hc) q7 q8⟩

/-- A range over it, from its record on. J: what is so ahead of the i-th round; Ex: where a round leaves it. -/
theorem Goes.range (hg : Goes P enc fv l bs H) {rec : LoopState → Option Code → Obj} {R : Option Code → Hp → Prop} (J : Nat → Nat → Hp → Prop) (Ex : Code → Nat → Hp → Prop)
    (h0 : ∀ n1 H1, H.size + 2 ≤ n1 → n1 ≤ H1.size → Mod (fun _ => False) H H1 → J n1 0 H1)
    (hsame : ∀ n1 i H1, J n1 i H1 → Same bs H H1)
    (stab : ∀ n1 i H1 H2, J n1 i H1 → Mod (fun b => H.size ≤ b ∧ b < n1) H1 H2 → J n1 i H2)
    (stabE : ∀ c n1 H1 H2, Ex c n1 H1 → Mod (fun b => H.size ≤ b ∧ b < n1) H1 H2 → Ex c n1 H2)
    (body : ∀ n1 i (hi : i < l.length) H1, H.size + 2 ≤ n1 → n1 ≤ H1.size → J n1 i H1 → H1[H.size + 1]? = some (rec .ready none) → YCalls P (H.size + 1) (enc l[i]) H1 fun r H2 =>
      Mod (fun b => ¬ (H.size + 2 ≤ b ∧ b < n1)) H1 H2 ∧ ((r = .bool true ∧ J n1 (i + 1) H2 ∧ H2[H.size + 1]? = some (rec .ready none)) ∨ (∃ c, r = .bool false ∧ Ex c n1 H2 ∧ H2[H.size + 1]? = some (rec .done (some c)))))
    (hN : ∀ n1 H1, H.size + 2 ≤ n1 → n1 ≤ H1.size → J n1 l.length H1 → R none H1) (hE : ∀ c n1 H1, H.size + 2 ≤ n1 → Ex c n1 H1 → R (some c) H1) :
    vRg P (.func fv.fn fv.fi fv.ca) (H.size + 1) (Array.push (Array.push H hole) (rec .ready none)) fun H' => ∃ st : LoopState, ∃ pd : Option Code, H'[H.size + 1]? = some (rec st pd) ∧ st ≠ .busy ∧ ∀ H3 : Hp, H3 = H'.setIfInBounds (H.size + 1) (rec .exhausted pd) → R pd H3 := by
  obtain ⟨f, h1, h2, h3, h4⟩ := hg
  have sz : (Array.push (Array.push H hole) (rec .ready none)).size = H.size + 2 := by simp
  have m2 : Mod (fun _ => False) H (Array.push (Array.push H hole) (rec .ready none)) := Mod.push2 _ _ _
  unfold vRg
  rw [h1]
  simp only [h2]
  have hr0 : (Array.push (Array.push H hole) (rec .ready none))[H.size + 1]? = some (rec .ready none) := push_two
  generalize Array.push (Array.push H hole) (rec .ready none) = H0 at *
  refine (h4 ⟨.yield (H.size + 1), #[], #[]⟩ H0 (fun n1 i H1 => (H.size + 2 ≤ n1 ∧ n1 ≤ H1.size) ∧ J n1 i H1 ∧ H1[H.size + 1]? = some (rec .ready none))
    (fun n1 H1 => (H.size + 2 ≤ n1 ∧ n1 ≤ H1.size) ∧ ((J n1 l.length H1 ∧ H1[H.size + 1]? = some (rec .ready none)) ∨ ∃ c, Ex c n1 H1 ∧ H1[H.size + 1]? = some (rec .done (some c))))
    (Mod.same m2 fun b hb => ⟨h3 b hb, fun e => e⟩) m2.size ?_ ?_ ?_ ?_ ?_ ?_).mono ?_
  · intro n1 H1 hn hn' hm
    exact ⟨⟨by omega, hn'⟩, h0 n1 H1 (by omega) hn' (m2.trans hm), hm.get hr0 fun e => e⟩
  · rintro n1 i H1 H2 ⟨q1, q2, q3⟩ hm
    have hsz := hm.size
    exact ⟨⟨q1.1, by omega⟩, stab n1 i H1 H2 q2 (hm.mono fun b _ hb => ⟨by omega, hb.2⟩), hm.get q3 (by omega)⟩
  · rintro n1 H1 H2 ⟨q0, q⟩ hm
    have hsz := hm.size
    refine ⟨⟨q0.1, by omega⟩, ?_⟩
    rcases q with ⟨q1, q2⟩ | ⟨c, q1, q2⟩
    · exact Or.inl ⟨stab n1 _ H1 H2 q1 (hm.mono fun b _ hb => ⟨by omega, hb.2⟩), hm.get q2 (by omega)⟩
    · exact Or.inr ⟨c, stabE c n1 H1 H2 q1 (hm.mono fun b _ hb => ⟨by omega, hb.2⟩), hm.get q2 (by omega)⟩
  · rintro n1 i H1 ⟨q1, q2, q3⟩
    intro b hb
    rw [hsame n1 i H1 q2 b hb]
    exact (Mod.same (bs := bs) m2 (fun b hb => ⟨h3 b hb, fun e => e⟩) b hb).symm
  · rintro n1 i hi H1 hn hn' ⟨q1, q2, q3⟩
    refine (show vInv P (.func (.yield (H.size + 1)) #[] #[]) (enc l[i]) H1 _ from (body n1 i hi H1 q1.1 hn' q2 q3).mono ?_)
    rintro r H2 ⟨qm, q⟩
    have hsz := qm.size
    have q1' : H.size + 2 ≤ n1 ∧ n1 ≤ H2.size := ⟨q1.1, by omega⟩
    refine ⟨qm.mono fun b _ hb => by rw [sz]; exact hb, ?_⟩
    rcases q with ⟨e, a, b⟩ | ⟨c, e, a, b⟩
    · exact Or.inl ⟨e, q1', a, b⟩
    · exact Or.inr ⟨e, q1', Or.inr ⟨c, a, b⟩⟩
  · rintro n1 H1 ⟨q1, q2, q3⟩
    exact ⟨q1, Or.inl ⟨q2, q3⟩⟩
  · rintro r H1 ⟨n1, q0, q⟩
    rcases q with ⟨q1, q2⟩ | ⟨c, q1, q2⟩
    · refine ⟨.ready, none, q2, by simp, fun H3 e => ?_⟩
      subst e
      exact hN n1 _ q0.1 (by simp; exact q0.2) (stab n1 _ H1 _ q1 ((rec_set _ q2).2.mono fun b _ hb => by have : b = H.size + 1 := hb; omega))
    · refine ⟨.done, some c, q2, by simp, fun H3 e => ?_⟩
      subst e
      exact hE c n1 _ q0.1 (stabE c n1 H1 _ q1 ((rec_set _ q2).2.mono fun b _ hb => by have : b = H.size + 1 := hb; omega))
end

section
variable {ι : Type} {P : Program} {enc : ι → List Value} {fv : Fv} {l : List ι} {bs : List Nat} {H : Hp}
/-- A range over it whose rounds change the blocks W alone; S: what is so of the blocks that there were, ahead of the i-th round. -/
theorem Goes.range' (hg : Goes P enc fv l bs H) {rec : LoopState → Option Code → Obj} {R : Option Code → Hp → Prop} (W : List Nat) (S : Nat → Hp → Prop) (Ex : Code → Hp → Prop) (hW : ∀ b ∈ W, b < H.size ∧ b ∉ bs)
    (hS : ∀ i H1 H2, S i H1 → Mod (fun b => H.size ≤ b) H1 H2 → S i H2) (hE' : ∀ c H1 H2, Ex c H1 → Mod (fun b => H.size ≤ b) H1 H2 → Ex c H2) (h0 : S 0 H)
    (body : ∀ i (hi : i < l.length) H1, Mod (fun b => b ∈ W ∨ H.size ≤ b) H H1 → S i H1 → H1[H.size + 1]? = some (rec .ready none) → YCalls P (H.size + 1) (enc l[i]) H1 fun r H2 =>
      Mod (fun b => b ∈ W ∨ b = H.size + 1) H1 H2 ∧ ((r = .bool true ∧ S (i + 1) H2 ∧ H2[H.size + 1]? = some (rec .ready none)) ∨ (∃ c, r = .bool false ∧ Ex c H2 ∧ H2[H.size + 1]? = some (rec .done (some c)))))
    (hN : ∀ H1, Mod (fun b => b ∈ W ∨ H.size ≤ b) H H1 → S l.length H1 → R none H1) (hE : ∀ c H1, Mod (fun b => b ∈ W ∨ H.size ≤ b) H H1 → Ex c H1 → R (some c) H1) :
    vRg P (.func fv.fn fv.fi fv.ca) (H.size + 1) (Array.push (Array.push H hole) (rec .ready none)) fun H' => ∃ st : LoopState, ∃ pd : Option Code, H'[H.size + 1]? = some (rec st pd) ∧ st ≠ .busy ∧ ∀ H3 : Hp, H3 = H'.setIfInBounds (H.size + 1) (rec .exhausted pd) → R pd H3 := by
  have lt : ∀ b ∈ bs, b < H.size := by obtain ⟨_, _, _, h, _⟩ := hg; exact h
  refine hg.range (rec := rec) (fun _ i H1 => Mod (fun b => b ∈ W ∨ H.size ≤ b) H H1 ∧ S i H1) (fun c _ H1 => Mod (fun b => b ∈ W ∨ H.size ≤ b) H H1 ∧ Ex c H1) ?_ ?_ ?_ ?_ ?_ (fun n H1 _ _ h => hN H1 h.1 h.2) (fun c n H1 _ h => hE c H1 h.1 h.2)
  · intro n H1 _ _ m
    exact ⟨m.mono fun _ _ e => e.elim, hS 0 H H1 h0 (m.mono fun _ _ e => e.elim)⟩
  · rintro n i H1 ⟨m, _⟩
    exact Mod.same m fun b hb => ⟨lt b hb, fun h => h.elim (fun h => (hW b h).2 hb) (fun h => by have := lt b hb; omega)⟩
  · rintro n i H1 H2 ⟨m, s⟩ m2
    exact ⟨m.trans (m2.mono fun b _ h => Or.inr h.1), hS i H1 H2 s (m2.mono fun b _ h => h.1)⟩
  · rintro c n H1 H2 ⟨m, s⟩ m2
    exact ⟨m.trans (m2.mono fun b _ h => Or.inr h.1), hE' c H1 H2 s (m2.mono fun b _ h => h.1)⟩
  · rintro n i hi H1 hn hn' ⟨m, s⟩ hr
    refine (body i hi H1 m s hr).mono ?_
    rintro r H2 ⟨m2, h⟩
    have m3 : Mod (fun b => b ∈ W ∨ H.size ≤ b) H H2 := m.trans (m2.mono fun b _ h => h.imp id fun h => by omega)
    refine ⟨m2.mono fun b _ h hb => h.elim (fun h => by have := (hW b h).1; omega) (fun h => by omega), ?_⟩
    rcases h with ⟨rfl, h1, h2⟩ | ⟨c, rfl, h1, h2⟩
    · exact Or.inl ⟨rfl, ⟨m3, h1⟩, h2⟩
    · exact Or.inr ⟨c, rfl, ⟨m3, h1⟩, h2⟩
end

/-! ### what an act leaves -/
theorem push_facts {H H' : Hp} {o : Obj} (e : H' = Array.push H o) : H'[H.size]? = some o ∧ Mod (fun _ => False) H H' ∧ H'.size = H.size + 1 := by
  subst e; exact ⟨get_push_new _ _, Mod.push _ _ _, by simp⟩
theorem cell_at {H : Hp} {b : Nat} {v : Value} {T : TypeId} (h : H[b]? = some (.cells #[v] T (0, 0))) : Hp.cell? H ⟨b, 0, none⟩ = some v := by rw [cell_of h]; rfl
theorem wr_at {H : Hp} {b : Nat} {v : Value} {T : TypeId} (h : H[b]? = some (.cells #[v] T (0, 0))) : WrAt H ⟨b, 0, none⟩ 1 := wr_one h (by simp)
theorem set_at {H : Hp} {b : Nat} {v w : Value} {T : TypeId} (h : H[b]? = some (.cells #[v] T (0, 0))) : (Hp.setCell H ⟨b, 0, none⟩ w)[b]? = some (.cells #[w] T (0, 0)) := by
  have := get_setCell (o := 0) w h; simpa using this
theorem mod_at (H : Hp) (b : Nat) (w : Value) : Mod (· = b) H (Hp.setCell H ⟨b, 0, none⟩ w) := Mod.setCell H _ _ rfl
theorem spush {H : Hp} {o : Obj} : (Array.push H o).size = H.size + 1 := by simp
theorem set_facts {H H' : Hp} {b : Nat} {v w : Value} {T : TypeId} (h : H[b]? = some (.cells #[v] T (0, 0))) (e : H' = Hp.setCell H ⟨b, 0, none⟩ w) : H'[b]? = some (.cells #[w] T (0, 0)) ∧ Mod (· = b) H H' := by
  subst e; exact ⟨set_at h, mod_at _ _ _⟩
theorem rec_facts {H H' : Hp} {L : Nat} {o o' : Obj} (h : H[L]? = some o) (e : H' = H.setIfInBounds L o') : H'[L]? = some o' ∧ Mod (· = L) H H' := by
  subst e; exact rec_set o' h
theorem hole_facts {H H' : Hp} {n : Nat} (e : H' = holes H n) : Mod (fun _ => False) H H' ∧ H'.size = H.size + n := by
  subst e; exact ⟨Mod.holes _ _ _, size_holes _ _⟩
/-- A range's end where no round left it; where a round returned. -/
theorem jump_none {A B D : Prop} (h : A) : ((none : Option Code) = none → A) ∧ ((none : Option Code) = some .ret → B) ∧ True ∧ ((none : Option Code) = none ∨ D) :=
  ⟨fun _ => h, fun e => (by cases e), trivial, Or.inl rfl⟩
theorem jump_ret {A B D : Prop} (h : B) : ((some .ret : Option Code) = none → A) ∧ ((some .ret : Option Code) = some .ret → B) ∧ True ∧ ((some .ret : Option Code) = none ∨ (some .ret : Option Code) = some .ret ∨ D) :=
  ⟨fun e => (by cases e), fun _ => h, trivial, Or.inr (Or.inl rfl)⟩
theorem drop_cons {ι : Type} {l r : List ι} {j : Nat} {q : ι} (h : l.drop j = q :: r) : ∃ hj : j < l.length, l[j] = q ∧ l.drop (j + 1) = r := by
  have hj : j < l.length := by
    rcases Nat.lt_or_ge j l.length with c | c
    · exact c
    · rw [List.drop_eq_nil_of_le c] at h; cases h
  rw [List.drop_eq_getElem_cons hj] at h
  exact ⟨hj, (List.cons.inj h).1, (List.cons.inj h).2⟩

/-- From the j-th on a row is r. -/
def AtL {ι : Type} (m : List ι) (j : Nat) (r : List ι) : Prop := j ≤ m.length ∧ m.drop j = r
theorem AtL.cons {ι : Type} {m r : List ι} {j : Nat} {q : ι} (h : AtL m j (q :: r)) : ∃ hj : j < m.length, m[j] = q ∧ AtL m (j + 1) r := by
  obtain ⟨hj, e, hd⟩ := drop_cons h.2
  exact ⟨hj, e, hj, hd⟩
theorem AtL.nil {ι : Type} {m : List ι} {j : Nat} (h : AtL m j []) : j = m.length := by
  have := List.drop_eq_nil_iff.1 h.2
  have := h.1
  omega

/-! ### variables in cells -/
/-- The cells of C are as C says, of P is so; nothing below base changed since H0. -/
structure Cs (base : Nat) (H0 : Hp) (bs : List Nat) (P : Hp → Prop) (C : List (Nat × Value × TypeId)) (H : Hp) : Prop where
  blk : C.map (·.1) = bs
  cell : ∀ (i : Nat) x, C[i]? = some x → H[x.1]? = some (.cells #[x.2.1] x.2.2 (0, 0))
  inv : P H
  fr : Mod (fun q => base ≤ q) H0 H
/-- The variables are apart, and lie in [base, N); P looks at others below N alone. -/
structure CsS (N base : Nat) (bs : List Nat) (P : Hp → Prop) : Prop where
  nd : bs.Nodup
  lt : ∀ b ∈ bs, base ≤ b ∧ b < N
  stab : ∀ (H H' : Hp) (μ : Nat → Prop), P H → Mod μ H H' → (∀ q, q < N → q ∉ bs → ¬ μ q) → P H'
section
variable {N base : Nat} {H0 H H' : Hp} {bs : List Nat} {P : Hp → Prop} {C : List (Nat × Value × TypeId)}
theorem Cs.get (s : Cs base H0 bs P C H) (i : Nat) {b : Nat} {v : Value} {T : TypeId} (h : C[i]? = some (b, v, T)) : H[b]? = some (.cells #[v] T (0, 0)) := s.cell i _ h
theorem Cs.at (s : Cs base H0 bs P C H) (i : Nat) {b : Nat} {v : Value} {T : TypeId} (h : C[i]? = some (b, v, T)) : Hp.cell? H ⟨b, 0, none⟩ = some v := cell_at (s.get i h)
theorem Cs.wr (s : Cs base H0 bs P C H) (i : Nat) {b : Nat} {v : Value} {T : TypeId} (h : C[i]? = some (b, v, T)) : WrAt H ⟨b, 0, none⟩ 1 := wr_at (s.get i h)
theorem Cs.mem (s : Cs base H0 bs P C H) {i : Nat} {x : Nat × Value × TypeId} (h : C[i]? = some x) : x.1 ∈ bs := by
  rw [← s.blk]; exact List.mem_map_of_mem (List.mem_of_getElem? h)
theorem Cs.keep {μ : Nat → Prop} (s : Cs base H0 bs P C H) (t : CsS N base bs P) (m : Mod μ H H') (h : ∀ q, q < N → ¬ μ q) (hb : ∀ q, μ q → base ≤ q) : Cs base H0 bs P C H' :=
  ⟨s.blk, fun i x hx => m.get (s.cell i x hx) (h _ (t.lt _ (s.mem hx)).2), t.stab _ _ μ s.inv m fun q hq _ => h q hq, s.fr.trans (m.mono fun q _ hq => hb q hq)⟩
theorem Cs.mod (s : Cs base H0 bs P C H) (t : CsS N base bs P) (m : Mod (fun _ => False) H H') : Cs base H0 bs P C H' := s.keep t m (fun _ _ e => e) fun _ e => e.elim
theorem Cs.up {n : Nat} (s : Cs base H0 bs P C H) (t : CsS N base bs P) (hb : base ≤ n) (hn : N ≤ n) (m : Mod (fun q => n ≤ q) H H') : Cs base H0 bs P C H' := s.keep t m (fun _ _ e => by omega) fun _ e => by omega
theorem Cs.at' {n : Nat} (s : Cs base H0 bs P C H) (t : CsS N base bs P) (hb : base ≤ n) (hn : N ≤ n) (m : Mod (· = n) H H') : Cs base H0 bs P C H' := s.keep t m (fun _ _ e => by omega) fun _ e => by omega
theorem Cs.set (s : Cs base H0 bs P C H) (t : CsS N base bs P) (i : Nat) {b : Nat} {v w : Value} {T : TypeId} (hi : C[i]? = some (b, v, T)) (e : H' = Hp.setCell H ⟨b, 0, none⟩ w) : Cs base H0 bs P (C.set i (b, w, T)) H' ∧ Mod (· = b) H H' := by
  obtain ⟨q, m⟩ := set_facts (s.get i hi) e
  have hbm := s.mem hi
  have hlt := t.lt b hbm
  refine ⟨⟨?_, fun j x hx => ?_, t.stab _ _ _ s.inv m fun q _ hq h => hq (by rw [h]; exact hbm), s.fr.trans (m.mono fun q _ hq => by have hq : q = b := hq; omega)⟩, m⟩
  · rw [List.map_set]
    have : C.map (·.1) = bs := s.blk
    rw [this]
    apply List.ext_getElem?
    intro k
    rw [List.getElem?_set]
    split
    · rename_i hk
      subst hk
      have : bs[i]? = some b := by rw [← s.blk, List.getElem?_map, hi]; rfl
      rw [if_pos (List.getElem?_eq_some_iff.1 this).1, this]
    · rfl
  · rw [List.getElem?_set] at hx
    split at hx
    · rename_i hk
      split at hx
      · cases hx; exact q
      · cases hx
    · rename_i hk
      refine m.get (s.cell j x hx) fun e => hk ?_
      have h1 : bs[i]? = some b := by rw [← s.blk, List.getElem?_map, hi]; rfl
      have h2 : bs[j]? = some b := by rw [← s.blk, List.getElem?_map, hx]; exact congrArg some e
      obtain ⟨g1, g2⟩ := List.getElem?_eq_some_iff.1 h1
      obtain ⟨g3, g4⟩ := List.getElem?_eq_some_iff.1 h2
      have nd := List.pairwise_iff_getElem.1 t.nd
      rcases Nat.lt_trichotomy i j with c | c | c
      · exact (nd i j g1 g3 c (g2.trans g4.symm)).elim
      · exact c
      · exact (nd j i g3 g1 c (g4.trans g2.symm)).elim
/-- What is asked where a variable that is a result is told. -/
theorem Cs.ret (s : Cs base H0 bs P C H) (t : CsS N base bs P) (hb : base = H0.size) (i : Nat) {b : Nat} {v w : Value} {T : TypeId} (hi : C[i]? = some (b, v, T)) {Q : Hp → Prop} (e : H' = Hp.setCell H ⟨b, 0, none⟩ w) (hQ : Hp.cell? H' ⟨b, 0, none⟩ = some w → Mod (fun _ => False) H0 H' → Q H') : Q H' := by
  obtain ⟨q, m⟩ := set_facts (s.get i hi) e
  have hlt := t.lt b (s.mem hi)
  exact hQ (cell_at q) (Mod.fresh (s.fr.trans (m.mono fun q _ hq => by have hq : q = b := hq; omega)) fun q hq => by rw [← hb]; exact hq)
end

structure V (N base : Nat) (H0 : Hp) (bs : List Nat) (P : Hp → Prop) (C : List (Nat × Value × TypeId)) (H : Hp) : Prop where
  s : Cs base H0 bs P C H
  t : CsS N base bs P
  le : N ≤ H.size
  b0 : base = H0.size
  bN : base ≤ N
section
variable {N base : Nat} {H0 H H' : Hp} {bs : List Nat} {P : Hp → Prop} {C : List (Nat × Value × TypeId)}
theorem V.init (H : Hp) : V H.size H.size H [] (fun _ => True) [] H :=
  ⟨⟨rfl, fun i x h => by simp at h, trivial, Mod.refl _ _⟩, ⟨List.nodup_nil, fun b hb => by simp at hb, fun _ _ _ _ _ _ => trivial⟩, Nat.le_refl _, rfl, Nat.le_refl _⟩
theorem V.mod (v : V N base H0 bs P C H) (m : Mod (fun _ => False) H H') : V N base H0 bs P C H' := ⟨v.s.mod v.t m, v.t, Nat.le_trans v.le m.size, v.b0, v.bN⟩
theorem V.keep {μ : Nat → Prop} (v : V N base H0 bs P C H) (m : Mod μ H H') (h : ∀ q, μ q → N ≤ q) : V N base H0 bs P C H' :=
  ⟨v.s.keep v.t m (fun q hq hm => by have := h q hm; omega) fun q hm => by have := h q hm; have := v.bN; omega, v.t, Nat.le_trans v.le m.size, v.b0, v.bN⟩
theorem V.push (v : V N base H0 bs P C H) {b : Nat} {x : Value} {T : TypeId} (hb : b = H.size) (e : H' = Array.push H (.cells #[x] T)) : V (b + 1) base H0 (bs ++ [b]) P (C ++ [(b, x, T)]) H' := by
  obtain ⟨q, m, sz⟩ := push_facts e
  rw [← hb] at q
  have hle := v.le
  have hbN := v.bN
  have s1 := v.s.mod v.t m
  refine ⟨⟨by rw [List.map_append, s1.blk]; rfl, fun i y hy => ?_, s1.inv, s1.fr⟩, ⟨?_, fun c hc => ?_, fun Ha Hb μ hp hm hq => v.t.stab Ha Hb μ hp hm fun q hq1 hq2 => hq q (by omega) ?_⟩, by omega, v.b0, by omega⟩
  · rcases Nat.lt_or_ge i C.length with c | c
    · rw [List.getElem?_append_left c] at hy; exact s1.cell i y hy
    · rw [List.getElem?_append_right c] at hy
      have : i - C.length = 0 := by
        rcases Nat.eq_zero_or_pos (i - C.length) with h | h
        · exact h
        · rw [List.getElem?_eq_none (by simp; omega)] at hy; cases hy
      rw [this] at hy
      simp only [List.getElem?_cons_zero, Option.some.injEq] at hy
      subst hy
      exact q
  · rw [List.nodup_append]
    refine ⟨v.t.nd, by simp, fun a ha c hc => ?_⟩
    simp only [List.mem_singleton] at hc
    have := (v.t.lt a ha).2
    omega
  · rcases List.mem_append.1 hc with hc | hc
    · have := v.t.lt c hc; omega
    · simp only [List.mem_singleton] at hc; omega
  · simp only [List.mem_append, List.mem_singleton]
    rintro (h | h)
    · exact hq2 h
    · omega
/-- More is known: of blocks behind the variables. -/
theorem V.add (v : V N base H0 bs P C H) {n : Nat} {P' : Hp → Prop} (h : P' H) (hN : N ≤ n) (hn : n ≤ H.size) (st : ∀ (Ha Hb : Hp) (μ : Nat → Prop), P' Ha → Mod μ Ha Hb → (∀ q, N ≤ q → q < n → ¬ μ q) → P' Hb) : V n base H0 bs (fun H => P H ∧ P' H) C H := by
  have hbN := v.bN
  refine ⟨⟨v.s.blk, v.s.cell, ⟨v.s.inv, h⟩, v.s.fr⟩, ⟨v.t.nd, fun c hc => by have := v.t.lt c hc; omega, fun Ha Hb μ hp hm hq => ⟨v.t.stab Ha Hb μ hp.1 hm fun q h1 h2 => hq q (by omega) h2, st Ha Hb μ hp.2 hm fun q h1 h2 => hq q h2 fun hb => ?_⟩⟩, hn, v.b0, by omega⟩
  have := (v.t.lt q hb).2
  omega
theorem V.set (v : V N base H0 bs P C H) (i : Nat) {b : Nat} {x w : Value} {T : TypeId} (hi : C[i]? = some (b, x, T)) (e : H' = Hp.setCell H ⟨b, 0, none⟩ w) : V N base H0 bs P (C.set i (b, w, T)) H' ∧ Mod (· = b) H H' := by
  obtain ⟨s, m⟩ := v.s.set v.t i hi e
  exact ⟨⟨s, v.t, Nat.le_trans v.le m.size, v.b0, v.bN⟩, m⟩
theorem V.at (v : V N base H0 bs P C H) (i : Nat) {b : Nat} {x : Value} {T : TypeId} (h : C[i]? = some (b, x, T)) : Hp.cell? H ⟨b, 0, none⟩ = some x := v.s.at i h
theorem V.wr (v : V N base H0 bs P C H) (i : Nat) {b : Nat} {x : Value} {T : TypeId} (h : C[i]? = some (b, x, T)) : WrAt H ⟨b, 0, none⟩ 1 := v.s.wr i h
theorem V.lt (v : V N base H0 bs P C H) (i : Nat) {b : Nat} {x : Value} {T : TypeId} (h : C[i]? = some (b, x, T)) : b < N ∧ base ≤ b := ⟨(v.t.lt b (v.s.mem h)).2, (v.t.lt b (v.s.mem h)).1⟩
/-- A result that lies in a variable is told. -/
theorem V.ret (v : V N base H0 bs P C H) (i : Nat) {b : Nat} {x : Value} {T : TypeId} (hi : C[i]? = some (b, x, T)) {Q : Value → Hp → Prop} {y : Bool} (hw : y = true) (hQ : ∀ H', Mod (fun _ => False) H0 H' → Q (.bool true) H') :
    WrAt H (Addr.mk b 0 none) 1 ∧ ∀ H1 : Hp, H1 = (Hp.setCell H (Addr.mk b 0 none) (.bool y)) → ∃ x : Bool, Hp.cell? H1 (Addr.mk b 0 none) = some (.bool x) ∧ Q (.bool x) H1 := by
  subst hw
  refine ⟨v.wr i hi, fun H1 e => ?_⟩
  exact v.s.ret (Q := fun H1 => ∃ x : Bool, Hp.cell? H1 (Addr.mk b 0 none) = some (.bool x) ∧ Q (.bool x) H1) v.t v.b0 i hi e fun h1 h2 => ⟨true, h1, hQ _ h2⟩
theorem V.fresh (v : V N base H0 bs P C H) : Mod (fun _ => False) H0 H := Mod.fresh v.s.fr fun q hq => by rw [← v.b0]; exact hq
end
/-- Jumps out of a range that a round may leave. -/
theorem jump1_none {A B C D : Prop} {n : Nat} (h : A) : ((none : Option Code) = none → A) ∧ ((none : Option Code) = some .ret → B) ∧ (((none : Option Code) = some (.exit n) → C) ∧ True) ∧ ((none : Option Code) = none ∨ D) :=
  ⟨fun _ => h, fun e => (by cases e), ⟨fun e => (by cases e), trivial⟩, Or.inl rfl⟩
theorem jump1_exit {A B C : Prop} {n : Nat} (h : C) : ((some (.exit n) : Option Code) = none → A) ∧ ((some (.exit n) : Option Code) = some .ret → B) ∧ (((some (.exit n) : Option Code) = some (.exit n) → C) ∧ True) ∧
    ((some (.exit n) : Option Code) = none ∨ (some (.exit n) : Option Code) = some .ret ∨ ∃ i ∈ [n], (some (.exit n) : Option Code) = some (.exit i)) :=
  ⟨fun e => (by cases e), fun e => (by cases e), ⟨fun _ => h, trivial⟩, Or.inr (Or.inr ⟨n, by simp, rfl⟩)⟩

/-! ### append of one element -/
theorem app_one {P : Program} {T e : TypeId} {k gv : Nat} {H : Hp} {x : Sl} {cs p : List Value} {K : Sl → Hp → Prop} (hE : El P T e k) (ho : Own H x e k cs) (hv : Blk H gv e p) (hp : p.length = k) (h1 : allOne p = true) (hl : x.len ≤ 1000000)
    (hK : ∀ x' H', Own H' x' e k (cs ++ p) → x'.len = x.len + 1 → Mod (· ∈ x.blk) H H' → (∀ b ∈ x'.blk, b ∈ x.blk ∨ b = H.size) → K x' H') : vApp P T x.a x.len x.cap (.slice (some ⟨gv, 0, none⟩) 1 1) H K := by
  obtain ⟨hu, ⟨ti, z, hi, hz, hsz, hby, hby2, hzs, hz1⟩, hkp⟩ := hE
  refine Own.app (e := e) (ti := ti) (z := z) (cs := cs) (news := p) (by rw [hsz]; exact ho) hu hi hz (by rw [hzs, hsz]) hby (by rw [hsz]; exact src_one hv hp) (by rw [hsz, hp]; simp [srcLen]) h1 ?_ ?_
  · simp only [srcLen]
    have : (x.len + 1) * ti.bytes ≤ (x.len + 1) * 1000 := Nat.mul_le_mul_left _ hby2
    omega
  · intro x' H' q1 q2 q3 q4 _
    rw [hsz] at q1
    exact hK x' H' q1 q2 q3 q4

/-- A slice without its first element. -/
theorem Rows.tail {H : Hp} {x : Sl} {k : Nat} {p cs : List Value} (h : Rows H x k (p ++ cs)) (hp : p.length = k) (hx : 1 ≤ x.len) : Rows H ⟨cutA x.a x.cap 1 k, x.len - 1, x.cap - 1⟩ k cs := by
  have := h.drop (n := 1) hx
  rw [Nat.one_mul, List.drop_left' hp] at this
  exact this

/-! ### two rows made one -/
section
variable {κ α : Type} [KO κ] [DecidableEq κ]
def mergeL : List (κ × α) → List (κ × α) → List (κ × α)
  | [], r => r
  | p :: la, [] => p :: la
  | p :: la, q :: r => if KO.lt q.1 p.1 then q :: mergeL (p :: la) r else if q.1 = p.1 then (p.1, q.2) :: mergeL la r else p :: mergeL la (q :: r)
termination_by la r => la.length + r.length

theorem mergeL_nil (r : List (κ × α)) : mergeL [] r = r := by rw [mergeL.eq_def]
theorem mergeL_none (la : List (κ × α)) : mergeL la [] = la := by cases la <;> rw [mergeL.eq_def]
theorem mergeL_lt {p q : κ × α} {la r : List (κ × α)} (h : KO.lt q.1 p.1) : mergeL (p :: la) (q :: r) = q :: mergeL (p :: la) r := by rw [mergeL.eq_def]; simp [h]
theorem mergeL_eq {p q : κ × α} {la r : List (κ × α)} (h : q.1 = p.1) : mergeL (p :: la) (q :: r) = (p.1, q.2) :: mergeL la r := by
  rw [mergeL.eq_def]; simp [h, KO.irr]
theorem mergeL_gt {p q : κ × α} {la r : List (κ × α)} (h : ¬ KO.lt q.1 p.1) (h' : q.1 ≠ p.1) : mergeL (p :: la) (q :: r) = p :: mergeL la (q :: r) := by
  rw [mergeL.eq_def]; simp [h, h']

/-- Of two rows that rise: it rises; what it has is what the second one has, and of the first one whose keys the second one has not. -/
theorem mergeL_spec (la lb : List (κ × α)) (ha : Rise la) (hb : Rise lb) : Rise (mergeL la lb) ∧ ∀ k v, (k, v) ∈ mergeL la lb ↔ ((k, v) ∈ lb ∨ ((k, v) ∈ la ∧ ∀ w, (k, w) ∉ lb)) := by
  fun_induction mergeL la lb with
  | case1 r => exact ⟨hb, fun k v => by simp⟩
  | case2 p la => exact ⟨ha, fun k v => by simp⟩
  | case3 p la q r h ih =>
    obtain ⟨i1, i2⟩ := ih ha hb.tail
    have key : ∀ j w, (j, w) ∈ mergeL (p :: la) r → KO.lt q.1 j := fun j w hm => by
      rcases (i2 j w).1 hm with h1 | ⟨h1, _⟩
      · exact hb.head h1
      · rcases List.mem_cons.1 h1 with h1 | h1
        · rw [← congrArg Prod.fst h1] at h; exact h
        · exact KO.trans _ _ _ h (ha.head h1)
    refine ⟨Rise.cons i1 fun s hs => key s.1 s.2 hs, fun k v => ?_⟩
    rw [List.mem_cons, i2 k v]
    have hqa : ∀ w, (q.1, w) ∉ p :: la := fun w hm => by
      rcases List.mem_cons.1 hm with h1 | h1
      · have := congrArg Prod.fst h1; exact KO.ne h this
      · exact KO.irr _ (KO.trans _ _ _ h (Rise.head (q := (q.1, w)) ha h1))
    constructor
    · rintro (h1 | h1 | ⟨h1, h2⟩)
      · exact Or.inl (by rw [h1]; simp)
      · exact Or.inl (List.mem_cons_of_mem _ h1)
      · refine Or.inr ⟨h1, fun w hm => ?_⟩
        rcases List.mem_cons.1 hm with h3 | h3
        · have e := congrArg Prod.fst h3; dsimp only at e; subst e; exact hqa v h1
        · exact h2 w h3
    · rintro (h1 | ⟨h1, h2⟩)
      · rcases List.mem_cons.1 h1 with h1 | h1
        · exact Or.inl h1
        · exact Or.inr (Or.inl h1)
      · exact Or.inr (Or.inr ⟨h1, fun w hm => h2 w (List.mem_cons_of_mem _ hm)⟩)
  | case4 p la q r h h' ih =>
    obtain ⟨i1, i2⟩ := ih ha.tail hb.tail
    have key : ∀ j w, (j, w) ∈ mergeL la r → KO.lt p.1 j := fun j w hm => by
      rcases (i2 j w).1 hm with h1 | ⟨h1, _⟩
      · rw [← h']; exact hb.head h1
      · exact ha.head h1
    refine ⟨Rise.cons i1 fun s hs => key s.1 s.2 hs, fun k v => ?_⟩
    rw [List.mem_cons, i2 k v]
    constructor
    · rintro (h1 | h1 | ⟨h1, h2⟩)
      · exact Or.inl (by rw [h1, ← h']; simp)
      · exact Or.inl (List.mem_cons_of_mem _ h1)
      · refine Or.inr ⟨List.mem_cons_of_mem _ h1, fun w hm => ?_⟩
        rcases List.mem_cons.1 hm with h3 | h3
        · have e := congrArg Prod.fst h3; dsimp only at e; rw [h'] at e; subst e; exact KO.irr _ (Rise.head (p := p) (q := (p.1, v)) ha h1)
        · exact h2 w h3
    · rintro (h1 | ⟨h1, h2⟩)
      · rcases List.mem_cons.1 h1 with h1 | h1
        · exact Or.inl (by rw [← h', ← h1])
        · exact Or.inr (Or.inl h1)
      · rcases List.mem_cons.1 h1 with h1 | h1
        · exact (h2 q.2 (by have := congrArg Prod.fst h1; dsimp only at this; rw [this, ← h']; simp)).elim
        · exact Or.inr (Or.inr ⟨h1, fun w hm => h2 w (List.mem_cons_of_mem _ hm)⟩)
  | case5 p la q r h h' ih =>
    obtain ⟨i1, i2⟩ := ih ha.tail hb
    have hpq : KO.lt p.1 q.1 := by
      rcases KO.tri p.1 q.1 with c | c | c
      · exact c
      · exact (h' c.symm).elim
      · exact (h c).elim
    have key : ∀ j w, (j, w) ∈ mergeL la (q :: r) → KO.lt p.1 j := fun j w hm => by
      rcases (i2 j w).1 hm with h1 | ⟨h1, _⟩
      · rcases List.mem_cons.1 h1 with h1 | h1
        · have := congrArg Prod.fst h1; dsimp only at this; rw [this]; exact hpq
        · exact KO.trans _ _ _ hpq (hb.head h1)
      · exact ha.head h1
    have hpb : ∀ w, (p.1, w) ∉ q :: r := fun w hm => by
      rcases List.mem_cons.1 hm with h1 | h1
      · have := congrArg Prod.fst h1; dsimp only at this; exact h' this.symm
      · exact KO.irr _ (KO.trans _ _ _ hpq (Rise.head (q := (p.1, w)) hb h1))
    refine ⟨Rise.cons i1 fun s hs => key s.1 s.2 hs, fun k v => ?_⟩
    rw [List.mem_cons, i2 k v]
    constructor
    · rintro (h1 | h1 | ⟨h1, h2⟩)
      · have e := congrArg Prod.fst h1; dsimp only at e
        exact Or.inr ⟨by rw [h1]; simp, fun w => by rw [e]; exact hpb w⟩
      · exact Or.inl h1
      · exact Or.inr ⟨List.mem_cons_of_mem _ h1, h2⟩
    · rintro (h1 | ⟨h1, h2⟩)
      · exact Or.inr (Or.inl h1)
      · rcases List.mem_cons.1 h1 with h1 | h1
        · exact Or.inl h1
        · exact Or.inr (Or.inr ⟨h1, h2⟩)
theorem mergeL_self {l : List (κ × α)} (h : Rise l) : mergeL l l = l := by
  obtain ⟨h1, h2⟩ := mergeL_spec l l h h
  refine h1.ext h fun p => ?_
  rw [h2 p.1 p.2]
  exact ⟨fun h => h.elim id fun h => h.1, Or.inl⟩
def hasKey (l : List (κ × α)) (k : κ) : Bool := l.any fun q => decide (q.1 = k)
theorem mergeL_count (la lb : List (κ × α)) (ha : Rise la) (hb : Rise lb) : (mergeL la lb).length = lb.length + (la.filter fun p => !hasKey lb p.1).length := by
  fun_induction mergeL la lb with
  | case1 r => simp
  | case2 p la =>
    have e : (p :: la).filter (fun s => !hasKey ([] : List (κ × α)) s.1) = p :: la := List.filter_eq_self.2 fun _ _ => rfl
    rw [e]; simp
  | case3 p la q r h ih =>
    have e : (p :: la).filter (fun s => !hasKey (q :: r) s.1) = (p :: la).filter (fun s => !hasKey r s.1) := by
      apply List.filter_congr
      intro s hs
      have : q.1 ≠ s.1 := by
        rcases List.mem_cons.1 hs with rfl | hs
        · exact KO.ne h
        · exact KO.ne (KO.trans _ _ _ h (ha.head hs))
      simp [hasKey, this]
    rw [List.length_cons, ih ha hb.tail, e, List.length_cons]; omega
  | case4 p la q r h h' ih =>
    have e : la.filter (fun s => !hasKey (q :: r) s.1) = la.filter (fun s => !hasKey r s.1) := by
      apply List.filter_congr
      intro s hs
      have : q.1 ≠ s.1 := by rw [h']; exact KO.ne (ha.head hs)
      simp [hasKey, this]
    have e2 : (!hasKey (q :: r) p.1) = false := by simp [hasKey, h']
    rw [List.length_cons, ih ha.tail hb.tail, List.filter_cons, e2, e, List.length_cons]; simp; omega
  | case5 p la q r h h' ih =>
    have hpq : KO.lt p.1 q.1 := by
      rcases KO.tri p.1 q.1 with c | c | c
      · exact c
      · exact (h' c.symm).elim
      · exact (h c).elim
    have e2 : (!hasKey (q :: r) p.1) = true := by
      simp only [hasKey, Bool.not_eq_true', List.any_eq_false, decide_eq_true_eq]
      intro s hs
      rcases List.mem_cons.1 hs with rfl | hs
      · exact h'
      · exact (KO.ne (KO.trans _ _ _ hpq (hb.head hs))).symm
    rw [List.length_cons, ih ha.tail hb, List.filter_cons, e2, if_pos rfl]; simp only [List.length_cons]; omega
theorem mergeL_length (la lb : List (κ × α)) : (mergeL la lb).length ≤ la.length + lb.length := by
  fun_induction mergeL la lb with
  | case1 r => simp
  | case2 p la => simp
  | case3 p la q r h ih => simp only [List.length_cons] at *; omega
  | case4 p la q r h h' ih => simp only [List.length_cons] at *; omega
  | case5 p la q r h h' ih => simp only [List.length_cons] at *; omega
end
end Go.Proofs
