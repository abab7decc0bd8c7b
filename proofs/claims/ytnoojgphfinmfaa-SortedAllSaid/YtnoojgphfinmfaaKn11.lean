/- ROWS BY KEYS, plain: put, delete, a key's value (as in Ku4). No program in sight. -/
import Derived.Test.YtnoojgphfinmfaaKm4
set_option linter.all false
set_option linter.constructorNameAsVariable false
namespace Go.Proofs
open Go Go.KC

section
variable {κ α : Type} [KO κ] [DecidableEq κ]
def spotOf (l : List (κ × α)) (k : κ) : Nat := (l.takeWhile fun p => decide (KO.lt p.1 k)).length
omit [DecidableEq κ] in
theorem spotOf_eq : ∀ {l : List (κ × α)} {k : κ} {i : Nat}, Spot l k i → i = spotOf l k
  | [], k, i, h => by have := h.le; simp at this; subst this; rfl
  | p :: l, k, i, h => by
    unfold spotOf
    by_cases c : KO.lt p.1 k
    · rw [List.takeWhile_cons_of_pos (by simpa using c)]
      cases i with
      | zero => exact (h.hi 0 (by simp) (Nat.le_refl _) c).elim
      | succ j =>
        have := spotOf_eq (l := l) (k := k) (i := j) ⟨by have := h.le; simp at this; omega, fun a ha hj => h.lo (a + 1) (by simp; omega) (by omega), fun a ha hj => h.hi (a + 1) (by simp; omega) (by omega)⟩
        simp [this, spotOf]
    · rw [List.takeWhile_cons_of_neg (by simpa using c)]
      cases i with
      | zero => rfl
      | succ j => exact (c (h.lo 0 (by simp) (by omega))).elim
omit [DecidableEq κ] in
theorem spotOf_spot : ∀ {l : List (κ × α)} (k : κ), Rise l → Spot l k (spotOf l k)
  | [], k, _ => ⟨by simp [spotOf], fun a ha => by simp at ha, fun a ha => by simp at ha⟩
  | p :: l, k, hs => by
    unfold spotOf
    by_cases c : KO.lt p.1 k
    · rw [List.takeWhile_cons_of_pos (by simpa using c)]
      have ih := spotOf_spot k hs.tail
      unfold spotOf at ih
      refine ⟨by have := ih.le; simp only [List.length_cons]; omega, fun a ha hj => ?_, fun a ha hj => ?_⟩
      · cases a with
        | zero => exact c
        | succ a => exact ih.lo a (by simpa using ha) (by simp only [List.length_cons] at hj; omega)
      · cases a with
        | zero => simp at hj
        | succ a => exact ih.hi a (by simpa using ha) (by simp only [List.length_cons] at hj; omega)
    · rw [List.takeWhile_cons_of_neg (by simpa using c)]
      refine ⟨by simp, fun a ha hj => by simp at hj, fun a ha _ h => ?_⟩
      cases a with
      | zero => exact c h
      | succ a => exact c (KO.trans _ _ _ (hs 0 (a + 1) (by simp) ha (by omega)) h)
/-- The list behind a Put, and behind a Del. -/
def putL (l : List (κ × α)) (k : κ) (v : α) : List (κ × α) := putAt l k v (spotOf l k)
def delL (l : List (κ × α)) (k : κ) : List (κ × α) := delAt l k (spotOf l k)
theorem putL_rise {l : List (κ × α)} (h : Rise l) (k : κ) (v : α) : Rise (putL l k v) := putAt_rise h (spotOf_spot k h)
theorem putL_mem {l : List (κ × α)} (h : Rise l) (k : κ) (v : α) (j : κ) (w : α) : (j, w) ∈ putL l k v ↔ (if j = k then w = v else (j, w) ∈ l) := putAt_mem h (spotOf_spot k h) j w
theorem delL_rise {l : List (κ × α)} (h : Rise l) (k : κ) : Rise (delL l k) := delAt_rise h
theorem delL_mem {l : List (κ × α)} (h : Rise l) (k : κ) (j : κ) (w : α) : (j, w) ∈ delL l k ↔ (j ≠ k ∧ (j, w) ∈ l) := delAt_mem h (spotOf_spot k h) j w
theorem putL_length (l : List (κ × α)) (k : κ) (v : α) (h : Rise l) : (putL l k v).length ≤ l.length + 1 := by
  unfold putL; rw [putAt_length (spotOf_spot k h).le]; split <;> omega
theorem delL_length (l : List (κ × α)) (k : κ) : (delL l k).length ≤ l.length := by
  unfold delL delAt; split
  · simp; omega
  · exact Nat.le_refl _
theorem putL_last {l : List (κ × α)} {p : κ × α} (h : Rise (l ++ [p])) : putL l p.1 p.2 = l ++ [p] := by
  have hl : Rise l := by have := h.take l.length; simpa using this
  have hlt : ∀ q ∈ l, KO.lt q.1 p.1 := fun q hq => by
    have := h.lt_take_drop (n := l.length) (p := q) (q := p) (by simpa using hq) (by simp)
    exact this
  refine Rise.ext (putL_rise hl _ _) h fun q => ?_
  have := putL_mem hl p.1 p.2 q.1 q.2
  rw [show ((q.1, q.2) : κ × α) = q from rfl] at this
  rw [this, List.mem_append, List.mem_singleton]
  by_cases c : q.1 = p.1
  · rw [if_pos c]
    constructor
    · intro e; exact Or.inr (Prod.ext c e)
    · rintro (h1 | h1)
      · exact (KO.ne (hlt q h1) c).elim
      · rw [h1]
  · rw [if_neg c]
    constructor
    · exact Or.inl
    · rintro (h1 | h1)
      · exact h1
      · exact (c (by rw [h1])).elim
/-- Keys that rise, put one by one. -/
def ofL (xs : List (κ × α)) : List (κ × α) := xs.foldl (fun l p => putL l p.1 p.2) []
theorem ofL_snoc (xs : List (κ × α)) (p : κ × α) : ofL (xs ++ [p]) = putL (ofL xs) p.1 p.2 := by unfold ofL; rw [List.foldl_append]; rfl
theorem ofL_rise (xs : List (κ × α)) (h : Rise xs) : ofL xs = xs := by
  have : ∀ n, ofL (xs.take n) = xs.take n := by
    intro n
    induction n with
    | zero => simp [ofL]
    | succ n ih =>
      by_cases hn : n < xs.length
      · rw [List.take_succ_eq_append_getElem hn, ofL_snoc, ih]
        refine putL_last ?_
        have := h.take (n + 1)
        rwa [List.take_succ_eq_append_getElem hn] at this
      · rw [List.take_of_length_le (by omega)] at ih
        rw [List.take_of_length_le (by omega), ih]
  have := this xs.length
  rwa [List.take_length] at this
/-- A key's value. -/
def valL (l : List (κ × α)) (k : κ) : Option α := (l.find? fun p => decide (p.1 = k)).map (·.2)
omit [DecidableEq κ] in
theorem valL_mem [DecidableEq κ] {l : List (κ × α)} (hs : Rise l) {k : κ} {v : α} : valL l k = some v ↔ (k, v) ∈ l := by
  unfold valL
  constructor
  · intro h
    obtain ⟨p, hp, rfl⟩ := Option.map_eq_some_iff.1 h
    have h1 := List.mem_of_find?_eq_some hp
    have h2 := List.find?_some hp
    have h3 : p.1 = k := by simpa using h2
    rw [← h3]; exact h1
  · intro h
    cases hf : l.find? (fun p => decide (p.1 = k)) with
    | none => have := List.find?_eq_none.1 hf _ h; simp at this
    | some p =>
      have h1 := List.mem_of_find?_eq_some hf
      have h2 := List.find?_some hf
      have h3 : p.1 = k := by simpa using h2
      obtain ⟨a, b⟩ := p
      simp only at h3; subst h3
      simp [hs.one h1 h]
theorem valL_none {l : List (κ × α)} (hs : Rise l) {k : κ} : valL l k = none ↔ ∀ v, (k, v) ∉ l := by
  constructor
  · intro h v hv; rw [(valL_mem hs).2 hv] at h; cases h
  · intro h
    cases hv : valL l k with
    | none => rfl
    | some v => exact (h v ((valL_mem hs).1 hv)).elim
theorem opt_ext {x y : Option α} (h : ∀ v, x = some v ↔ y = some v) : x = y := by
  cases x with
  | none => cases y with
    | none => rfl
    | some b => exact ((h b).2 rfl).symm ▸ rfl
  | some a => exact ((h a).1 rfl).symm
theorem valL_put {l : List (κ × α)} (hs : Rise l) (k : κ) (v : α) (j : κ) : valL (putL l k v) j = if j = k then some v else valL l j := by
  refine opt_ext fun w => ?_
  rw [valL_mem (putL_rise hs k v), putL_mem hs]
  split
  · exact ⟨fun h => by rw [h], fun h => by cases h; rfl⟩
  · exact (valL_mem hs).symm
theorem valL_del {l : List (κ × α)} (hs : Rise l) (k : κ) (j : κ) : valL (delL l k) j = if j = k then none else valL l j := by
  refine opt_ext fun w => ?_
  rw [valL_mem (delL_rise hs k), delL_mem hs]
  split
  · rename_i c; exact ⟨fun h => (h.1 c).elim, fun h => by cases h⟩
  · rename_i c; exact ⟨fun h => (valL_mem hs).2 h.2, fun h => ⟨c, (valL_mem hs).1 h⟩⟩
theorem atB_val {l : List (κ × α)} {k : κ} {i : Nat} (hs : Rise l) (h : Spot l k i) : atB l k i = (valL l k).isSome := by
  cases hb : atB l k i with
  | false =>
    have : valL l k = none := (valL_none hs).2 fun v hv => h.not hs hb v hv
    rw [this]; rfl
  | true =>
    unfold atB at hb
    have hi : i < l.length := by
      rcases Nat.lt_or_ge i l.length with c | c
      · exact c
      · rw [List.getElem?_eq_none c] at hb; simp at hb
    rw [List.getElem?_eq_getElem hi] at hb
    have hk : l[i].1 = k := by simpa using hb
    have : valL l k = some l[i].2 := (valL_mem hs).2 (by rw [← hk]; exact List.getElem_mem hi)
    rw [this]; rfl
theorem length_put {l : List (κ × α)} (hs : Rise l) (k : κ) (v : α) : (putL l k v).length = if (valL l k).isSome then l.length else l.length + 1 := by
  unfold putL
  rw [putAt_length (spotOf_spot k hs).le, atB_val hs (spotOf_spot k hs)]
theorem length_del {l : List (κ × α)} (hs : Rise l) (k : κ) : (delL l k).length = if (valL l k).isSome then l.length - 1 else l.length := by
  have h := spotOf_spot k hs
  have e := atB_val hs h
  unfold delL delAt
  rw [e]
  cases hv : (valL l k).isSome with
  | false => simp
  | true =>
    rw [hv] at e
    have hi : spotOf l k < l.length := by
      rcases Nat.lt_or_ge (spotOf l k) l.length with c | c
      · exact c
      · unfold atB at e; rw [List.getElem?_eq_none c] at e; simp at e
    simp only [if_pos]
    simp [List.length_append, List.length_take, List.length_drop]
    omega
end
end Go.Proofs
