/- SORTED MAPS, the plain law: lists of keys that rise, and their values. No program. -/
set_option linter.all false
namespace Go.Proofs

/-- Keys have an order. -/
class KO (κ : Type) where
  lt : κ → κ → Prop
  dec : ∀ a b, Decidable (lt a b)
  irr : ∀ a, ¬ lt a a
  trans : ∀ a b c, lt a b → lt b c → lt a c
  tri : ∀ a b, lt a b ∨ a = b ∨ lt b a

instance {κ : Type} [KO κ] (a b : κ) : Decidable (KO.lt a b) := KO.dec a b
instance : KO Int := ⟨fun a b => a < b, fun a b => inferInstanceAs (Decidable (a < b)), fun a => Int.lt_irrefl a, fun _ _ _ => Int.lt_trans, fun a b => by omega⟩

section
variable {κ α : Type} [KO κ]
theorem KO.asymm {a b : κ} (h : KO.lt a b) : ¬ KO.lt b a := fun k => KO.irr a (KO.trans _ _ _ h k)
theorem KO.ne {a b : κ} (h : KO.lt a b) : a ≠ b := fun e => KO.irr a (by rw [← e] at h; exact h)

/-- The keys rise. -/
def Rise (l : List (κ × α)) : Prop := ∀ i j (hi : i < l.length) (hj : j < l.length), i < j → KO.lt l[i].1 l[j].1

/-- A key's value. -/
def Has (l : List (κ × α)) (k : κ) (v : α) : Prop := (k, v) ∈ l
theorem Rise.one {l : List (κ × α)} (h : Rise l) {k : κ} {v w : α} (a : (k, v) ∈ l) (b : (k, w) ∈ l) : v = w := by
  obtain ⟨i, hi, e1⟩ := List.getElem_of_mem a
  obtain ⟨j, hj, e2⟩ := List.getElem_of_mem b
  rcases Nat.lt_trichotomy i j with c | c | c
  · have := h i j hi hj c; rw [e1, e2] at this; exact (KO.irr _ this).elim
  · subst c; rw [e1] at e2; exact congrArg Prod.snd e2
  · have := h j i hj hi c; rw [e1, e2] at this; exact (KO.irr _ this).elim
theorem Rise.nil : Rise ([] : List (κ × α)) := fun i j hi => by simp at hi
theorem Rise.single (p : κ × α) : Rise [p] := fun i j hi hj h => by simp at hi hj; omega
theorem Rise.tail {p : κ × α} {l : List (κ × α)} (h : Rise (p :: l)) : Rise l := fun i j hi hj hij => by
  have := h (i + 1) (j + 1) (by simp; omega) (by simp; omega) (by omega)
  simpa using this
theorem Rise.head {p q : κ × α} {l : List (κ × α)} (h : Rise (p :: l)) (hq : q ∈ l) : KO.lt p.1 q.1 := by
  obtain ⟨j, hj, rfl⟩ := List.getElem_of_mem hq
  have := h 0 (j + 1) (by simp) (by simp; omega) (by omega)
  simpa using this
theorem Rise.cons {p : κ × α} {l : List (κ × α)} (h : Rise l) (hp : ∀ q ∈ l, KO.lt p.1 q.1) : Rise (p :: l) := by
  intro i j hi hj hij
  obtain ⟨j, rfl⟩ : ∃ m, j = m + 1 := ⟨j - 1, by omega⟩
  cases i with
  | zero => simpa using hp _ (List.getElem_mem (by simpa using hj))
  | succ i => simpa using h i j (by simp at hi; omega) (by simpa using hj) (by omega)
theorem Rise.append {a b : List (κ × α)} (ha : Rise a) (hb : Rise b) (h : ∀ p ∈ a, ∀ q ∈ b, KO.lt p.1 q.1) : Rise (a ++ b) := by
  induction a with
  | nil => simpa using hb
  | cons p a ih =>
    rw [List.cons_append]
    refine Rise.cons (ih ha.tail fun p hp q hq => h p (by simp [hp]) q hq) fun q hq => ?_
    rcases List.mem_append.1 hq with hq | hq
    · exact ha.head hq
    · exact h p (by simp) q hq
theorem Rise.take {l : List (κ × α)} (h : Rise l) (n : Nat) : Rise (l.take n) := fun i j hi hj hij => by
  rw [List.getElem_take, List.getElem_take]; simp at hi hj; exact h i j (by omega) (by omega) hij
theorem Rise.drop {l : List (κ × α)} (h : Rise l) (n : Nat) : Rise (l.drop n) := fun i j hi hj hij => by
  rw [List.getElem_drop, List.getElem_drop]; simp at hi hj; exact h _ _ (by omega) (by omega) (by omega)
theorem Rise.lt_take_drop {l : List (κ × α)} (h : Rise l) {n : Nat} {p q : κ × α} (hp : p ∈ l.take n) (hq : q ∈ l.drop n) : KO.lt p.1 q.1 := by
  obtain ⟨i, hi, rfl⟩ := List.getElem_of_mem hp
  obtain ⟨j, hj, rfl⟩ := List.getElem_of_mem hq
  rw [List.getElem_take, List.getElem_drop]; simp at hi hj
  exact h _ _ (by omega) (by omega) (by omega)

/-- Where a key stands, or would. -/
structure Spot (l : List (κ × α)) (k : κ) (i : Nat) : Prop where
  le : i ≤ l.length
  lo : ∀ a (ha : a < l.length), a < i → KO.lt l[a].1 k
  hi : ∀ a (ha : a < l.length), i ≤ a → ¬ KO.lt l[a].1 k

def atB [DecidableEq κ] (l : List (κ × α)) (k : κ) (i : Nat) : Bool := match l[i]? with | some p => decide (p.1 = k) | none => false

theorem Spot.not {l : List (κ × α)} [DecidableEq κ] {k : κ} {i : Nat} (h : Spot l k i) (hs : Rise l) (hb : atB l k i = false) (v : α) : (k, v) ∉ l := by
  intro hm
  obtain ⟨a, ha, e⟩ := List.getElem_of_mem hm
  have e1 : l[a].1 = k := congrArg Prod.fst e
  by_cases c : a < i
  · have := h.lo a ha c; rw [e1] at this; exact KO.irr _ this
  · by_cases c2 : a = i
    · subst c2; unfold atB at hb; rw [List.getElem?_eq_getElem ha] at hb; simp [e1] at hb
    · have h1 := h.hi i (by omega) (Nat.le_refl _)
      have h2 := hs i a (by omega) ha (by omega)
      rw [e1] at h2; exact h1 h2
theorem Spot.here {l : List (κ × α)} [DecidableEq κ] {k : κ} {i : Nat} (hb : atB l k i = true) : ∃ h : i < l.length, l[i].1 = k := by
  unfold atB at hb
  cases hi : l[i]? with
  | none => rw [hi] at hb; cases hb
  | some p =>
    obtain ⟨h1, h2⟩ := List.getElem?_eq_some_iff.1 hi
    rw [hi] at hb
    exact ⟨h1, by rw [h2]; simpa using hb⟩

/-- The list behind a Put where the key's spot is i. -/
def putAt [DecidableEq κ] (l : List (κ × α)) (k : κ) (v : α) (i : Nat) : List (κ × α) := if atB l k i then l.set i (k, v) else l.take i ++ [(k, v)] ++ l.drop i
/-- .. behind a Del. -/
def delAt [DecidableEq κ] (l : List (κ × α)) (k : κ) (i : Nat) : List (κ × α) := if atB l k i then l.take i ++ l.drop (i + 1) else l

variable [DecidableEq κ]
theorem putAt_rise {l : List (κ × α)} {k : κ} {v : α} {i : Nat} (hs : Rise l) (h : Spot l k i) : Rise (putAt l k v i) := by
  unfold putAt
  cases hb : atB l k i with
  | true =>
    obtain ⟨hi, e⟩ := Spot.here hb
    rw [if_pos rfl]
    intro a b ha hb hab
    rw [List.length_set] at ha hb
    rw [List.getElem_set, List.getElem_set]
    have := hs a b ha hb hab
    split <;> split <;> simp_all
  | false =>
    rw [if_neg (by simp)]
    refine Rise.append (Rise.append (hs.take i) (Rise.single _) fun p hp q hq => ?_) (hs.drop i) fun p hp q hq => ?_
    · simp only [List.mem_singleton] at hq; subst hq
      obtain ⟨a, ha, rfl⟩ := List.getElem_of_mem hp
      rw [List.getElem_take]; simp at ha; exact h.lo a (by omega) (by omega)
    · rcases List.mem_append.1 hp with hp | hp
      · exact hs.lt_take_drop hp hq
      · simp only [List.mem_singleton] at hp; subst hp
        obtain ⟨b, hb', rfl⟩ := List.getElem_of_mem hq
        rw [List.getElem_drop]; simp at hb'
        have h1 := h.hi (i + b) (by omega) (by omega)
        rcases KO.tri (l[i + b]'(by omega)).1 k with c | c | c
        · exact (h1 c).elim
        · by_cases b0 : b = 0
          · subst b0
            unfold atB at hb; rw [List.getElem?_eq_getElem (by omega)] at hb
            simp only [Nat.add_zero] at c
            simp [c] at hb
          · have h2 := hs i (i + b) (by omega) (by omega) (by omega)
            rw [c] at h2
            exact (h.hi i (by omega) (Nat.le_refl _) h2).elim
        · exact c
theorem putAt_mem {l : List (κ × α)} {k : κ} {v : α} {i : Nat} (hs : Rise l) (h : Spot l k i) (j : κ) (w : α) : (j, w) ∈ putAt l k v i ↔ (if j = k then w = v else (j, w) ∈ l) := by
  have hr := putAt_rise (v := v) hs h
  unfold putAt at hr ⊢
  cases hb : atB l k i with
  | true =>
    obtain ⟨hi, e⟩ := Spot.here hb
    rw [if_pos rfl]
    by_cases c : j = k
    · subst c
      rw [if_pos rfl]
      rw [hb, if_pos rfl] at hr
      constructor
      · intro hm
        exact hr.one hm (by rw [List.mem_iff_getElem]; exact ⟨i, by simpa using hi, by simp⟩)
      · rintro rfl
        rw [List.mem_iff_getElem]; exact ⟨i, by simpa using hi, by simp⟩
    · rw [if_neg c]
      constructor
      · intro hm
        obtain ⟨a, ha, ea⟩ := List.getElem_of_mem hm
        rw [List.getElem_set] at ea
        split at ea
        · exact (c (congrArg Prod.fst ea).symm).elim
        · rw [← ea]; exact List.getElem_mem _
      · intro hm
        obtain ⟨a, ha, ea⟩ := List.getElem_of_mem hm
        rw [List.mem_iff_getElem]
        refine ⟨a, by simpa using ha, ?_⟩
        rw [List.getElem_set, if_neg]
        · exact ea
        · rintro rfl
          rw [ea] at e; exact c e
  | false =>
    rw [if_neg (by simp)]
    have hn := h.not hs hb
    have hd : (j, w) ∈ l ↔ (j, w) ∈ l.take i ∨ (j, w) ∈ l.drop i := by rw [← List.mem_append, List.take_append_drop]
    simp only [List.mem_append, List.mem_singleton]
    by_cases c : j = k
    · subst c
      rw [if_pos rfl]
      have := hn w
      rw [hd] at this
      constructor
      · rintro ((h | h) | h)
        · exact (this (Or.inl h)).elim
        · exact congrArg Prod.snd h
        · exact (this (Or.inr h)).elim
      · rintro rfl; exact Or.inl (Or.inr rfl)
    · rw [if_neg c, hd]
      constructor
      · rintro ((h | h) | h)
        · exact Or.inl h
        · exact (c (congrArg Prod.fst h)).elim
        · exact Or.inr h
      · rintro (h | h)
        · exact Or.inl (Or.inl h)
        · exact Or.inr h
theorem putAt_length {l : List (κ × α)} {k : κ} {v : α} {i : Nat} (h : i ≤ l.length) : (putAt l k v i).length = if atB l k i then l.length else l.length + 1 := by
  unfold putAt; split <;> simp; omega
theorem delAt_rise {l : List (κ × α)} {k : κ} {i : Nat} (hs : Rise l) : Rise (delAt l k i) := by
  unfold delAt
  split
  · refine Rise.append (hs.take i) (hs.drop _) fun p hp q hq => ?_
    refine hs.lt_take_drop hp ?_
    obtain ⟨b, hb, rfl⟩ := List.getElem_of_mem hq
    rw [List.getElem_drop]
    rw [List.mem_iff_getElem]
    simp at hb
    exact ⟨b + 1, by simp; omega, by rw [List.getElem_drop]; congr 1; omega⟩
  · exact hs
theorem delAt_mem {l : List (κ × α)} {k : κ} {i : Nat} (hs : Rise l) (h : Spot l k i) (j : κ) (w : α) : (j, w) ∈ delAt l k i ↔ (j ≠ k ∧ (j, w) ∈ l) := by
  unfold delAt
  cases hb : atB l k i with
  | true =>
    obtain ⟨hi, e⟩ := Spot.here hb
    rw [if_pos rfl, List.mem_append]
    constructor
    · rintro (hm | hm)
      · refine ⟨?_, List.mem_of_mem_take hm⟩
        rintro rfl
        have := hs.lt_take_drop hm (q := l[i]) (by rw [List.mem_iff_getElem]; exact ⟨0, by simp; omega, by simp⟩)
        rw [e] at this; exact KO.irr _ this
      · refine ⟨?_, List.mem_of_mem_drop hm⟩
        rintro rfl
        obtain ⟨b, hb', eb⟩ := List.getElem_of_mem hm
        rw [List.getElem_drop] at eb
        simp at hb'
        have := hs i (i + 1 + b) hi (by omega) (by omega)
        rw [e, eb] at this; exact KO.irr _ this
    · rintro ⟨hne, hm⟩
      obtain ⟨a, ha, ea⟩ := List.getElem_of_mem hm
      rcases Nat.lt_trichotomy a i with c | c | c
      · left; rw [List.mem_iff_getElem]; exact ⟨a, by simp; omega, by rw [List.getElem_take]; exact ea⟩
      · subst c; rw [ea] at e; exact (hne e).elim
      · right; rw [List.mem_iff_getElem]; exact ⟨a - (i + 1), by simp; omega, by rw [List.getElem_drop, ← ea]; congr 1; omega⟩
  | false =>
    rw [if_neg (by simp)]
    refine ⟨fun hm => ⟨?_, hm⟩, fun hm => hm.2⟩
    rintro rfl
    exact h.not hs hb w hm

/-- Two rising lists of which each has what the other one has are one. -/
theorem Rise.ext {l m : List (κ × α)} (hl : Rise l) (hm : Rise m) (h : ∀ p, p ∈ l ↔ p ∈ m) : l = m := by
  induction l generalizing m with
  | nil =>
    cases m with
    | nil => rfl
    | cons q m => exact absurd ((h q).2 (by simp)) (by simp)
  | cons p l ih =>
    cases m with
    | nil => exact absurd ((h p).1 (by simp)) (by simp)
    | cons q m =>
      have e : p = q := by
        have h1 := (h p).1 (by simp)
        have h2 := (h q).2 (by simp)
        rcases List.mem_cons.1 h1 with h1 | h1
        · exact h1
        · rcases List.mem_cons.1 h2 with h2 | h2
          · exact h2.symm
          · exact (KO.asymm (hm.head h1) (hl.head h2)).elim
      subst e
      congr 1
      refine ih hl.tail hm.tail fun r => ?_
      have hr := h r
      simp only [List.mem_cons] at hr
      constructor
      · intro h1
        rcases hr.1 (Or.inr h1) with h2 | h2
        · subst h2; exact (KO.irr _ (hl.head h1)).elim
        · exact h2
      · intro h1
        rcases hr.2 (Or.inr h1) with h2 | h2
        · subst h2; exact (KO.irr _ (hm.head h1)).elim
        · exact h2
end
end Go.Proofs
