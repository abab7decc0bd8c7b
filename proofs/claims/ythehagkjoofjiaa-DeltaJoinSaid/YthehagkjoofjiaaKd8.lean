/- DELTAS: what is between two states, done to the first, is the second (plain). -/
import Derived.Test.YthehagkjoofjiaaKd7
set_option linter.all false
set_option linter.constructorNameAsVariable false
namespace Go.Proofs
open Go Go.KC

theorem Rise.filter {κ α : Type} [KO κ] {l : List (κ × α)} (h : Rise l) (f : κ × α → Bool) : Rise (l.filter f) := by
  induction l with
  | nil => exact Rise.nil
  | cons p l ih =>
    rw [List.filter_cons]
    split
    · exact Rise.cons (ih h.tail) fun q hq => h.head (List.mem_filter.1 hq).1
    · exact ih h.tail
theorem mem_byKey {l : List Pr} {k : ByteArray} {p : Pr} : (k, p) ∈ PP.byKey l ↔ p ∈ l ∧ p.key = k := by
  unfold PP.byKey
  rw [List.mem_map]
  constructor
  · rintro ⟨q, hq, e⟩
    injection e with e1 e2
    subst e2; exact ⟨hq, e1⟩
  · rintro ⟨h, rfl⟩; exact ⟨p, h, rfl⟩
theorem byKey_append (a b : List Pr) : PP.byKey (a ++ b) = PP.byKey a ++ PP.byKey b := List.map_append
theorem rise_flat {f : ByteArray × ByteArray → List Pr} (hf : ∀ p, (f p).length ≤ 1 ∧ ∀ q ∈ f p, q.key = p.1) {M : List (ByteArray × ByteArray)} (h : Rise M) : Rise (PP.byKey (M.flatMap f)) := by
  induction M with
  | nil => exact Rise.nil
  | cons p M ih =>
    rw [List.flatMap_cons, byKey_append]
    refine Rise.append ?_ (ih h.tail) ?_
    · intro i j hi hj hij
      have h1 := (hf p).1
      have h2 : (PP.byKey (f p)).length = (f p).length := List.length_map _
      omega
    · rintro ⟨a, u⟩ ha ⟨b, w⟩ hb
      obtain ⟨ha1, rfl⟩ := mem_byKey.1 ha
      obtain ⟨hb1, rfl⟩ := mem_byKey.1 hb
      obtain ⟨q, hq, hw⟩ := List.mem_flatMap.1 hb1
      have := h.head hq
      rw [(hf p).2 u ha1, (hf q).2 w hw]
      exact this
theorem btwP_one (old now : List (ByteArray × ByteArray)) (p : ByteArray × ByteArray) : (btwP old now p).length ≤ 1 ∧ ∀ q ∈ btwP old now p, q.key = p.1 := by
  unfold btwP
  cases valL now p.1 with
  | none => simp
  | some v => dsimp only; split <;> simp
theorem rise_btw {old now : List (ByteArray × ByteArray)} (ho : Rise old) (hn : Rise now) : Rise (PP.byKey (btw old now)) :=
  rise_flat (btwP_one old now) (mergeL_spec old now ho hn).1
theorem rise_prs {l : List (ByteArray × ByteArray)} (h : Rise l) : Rise (PP.byKey (prsOfL l)) := by
  intro i j hi hj hij
  have e : ∀ n (hn : n < (PP.byKey (prsOfL l)).length), ∃ hm : n < l.length, ((PP.byKey (prsOfL l))[n]).1 = l[n].1 := by
    intro n hn
    have hm : n < l.length := by simpa [PP.byKey, prsOfL] using hn
    exact ⟨hm, by simp [PP.byKey, prsOfL]⟩
  obtain ⟨a1, e1⟩ := e i hi
  obtain ⟨a2, e2⟩ := e j hj
  rw [e1, e2]
  exact h i j a1 a2 hij
theorem mem_prs {l : List (ByteArray × ByteArray)} {k : ByteArray} {p : Pr} : (k, p) ∈ PP.byKey (prsOfL l) ↔ ∃ v, (k, v) ∈ l ∧ p = ⟨k, v, false⟩ := by
  rw [mem_byKey]
  unfold prsOfL
  rw [List.mem_map]
  constructor
  · rintro ⟨⟨⟨a, v⟩, h, rfl⟩, rfl⟩; exact ⟨v, h, rfl⟩
  · rintro ⟨v, h, rfl⟩; exact ⟨⟨(k, v), h, rfl⟩, rfl⟩
theorem mem_btw {old now : List (ByteArray × ByteArray)} (ho : Rise old) (hn : Rise now) {k : ByteArray} {p : Pr} :
    (k, p) ∈ PP.byKey (btw old now) ↔ (valL now k = none ∧ (∃ v, valL old k = some v) ∧ p = ⟨k, noText, true⟩) ∨ (∃ v, valL now k = some v ∧ valL old k ≠ some v ∧ p = ⟨k, v, false⟩) := by
  have M := (mergeL_spec old now ho hn).2
  rw [mem_byKey]
  unfold btw
  rw [List.mem_flatMap]
  constructor
  · rintro ⟨⟨⟨a, w⟩, hm, hp⟩, rfl⟩
    have hk := (btwP_one old now (a, w)).2 p hp
    dsimp only at hk
    unfold btwP at hp
    dsimp only at hp
    rw [hk]
    cases hv : valL now a with
    | none =>
      rw [hv] at hp
      refine Or.inl ⟨rfl, ?_, by simpa using hp⟩
      rcases (M a w).1 hm with h | ⟨h, _⟩
      · exact absurd h ((valL_none hn).1 hv w)
      · exact ⟨w, (valL_mem ho).2 h⟩
    | some v =>
      rw [hv] at hp
      dsimp only at hp
      by_cases h : valL old a = some v
      · rw [if_pos h] at hp; cases hp
      · rw [if_neg h] at hp
        exact Or.inr ⟨v, rfl, h, by simpa using hp⟩
  · rintro (⟨h1, ⟨v, h2⟩, rfl⟩ | ⟨v, h1, h2, rfl⟩)
    · refine ⟨⟨(k, v), (M k v).2 (Or.inr ⟨(valL_mem ho).1 h2, (valL_none hn).1 h1⟩), ?_⟩, rfl⟩
      unfold btwP; dsimp only; rw [h1]; simp
    · refine ⟨⟨(k, v), (M k v).2 (Or.inl ((valL_mem hn).1 h1)), ?_⟩, rfl⟩
      unfold btwP; dsimp only; rw [h1]; dsimp only; rw [if_neg h2]; simp
/-- What is between, done, is the second. -/
theorem stay_btw {old now : List (ByteArray × ByteArray)} (ho : Rise old) (hn : Rise now) : stay (mrg (prsOfL old) (btw old now)) = prsOfL now := by
  have hb := rise_btw ho hn
  have hp := rise_prs ho
  have hq := rise_prs hn
  obtain ⟨hr, hm⟩ := mergeL_spec (PP.byKey (prsOfL old)) (PP.byKey (btw old now)) hp hb
  have e : (mergeL (PP.byKey (prsOfL old)) (PP.byKey (btw old now))).filter (fun q => !q.2.gone) = PP.byKey (prsOfL now) := by
    refine Rise.ext (hr.filter _) hq ?_
    rintro ⟨k, p⟩
    rw [List.mem_filter, hm, mem_prs, mem_prs]
    cases hv : valL now k with
    | none =>
      constructor
      · rintro ⟨h | ⟨h, h'⟩, hg⟩
        · rcases (mem_btw ho hn).1 h with ⟨_, _, rfl⟩ | ⟨v, h1, _, _⟩
          · simp at hg
          · rw [hv] at h1; cases h1
        · obtain ⟨v, h1, rfl⟩ := h
          exact absurd ((mem_btw ho hn).2 (Or.inl ⟨hv, ⟨v, (valL_mem ho).2 h1⟩, rfl⟩)) (h' _)
      · rintro ⟨v, h, _⟩
        exact absurd h ((valL_none hn).1 hv v)
    | some v =>
      have hmem : ∀ w, (k, w) ∈ now ↔ w = v := fun w => by
        rw [← valL_mem hn, hv]
        exact ⟨fun e => by injection e with e; exact e.symm, fun e => by rw [e]⟩
      constructor
      · rintro ⟨h | ⟨h, h'⟩, hg⟩
        · rcases (mem_btw ho hn).1 h with ⟨h1, _, _⟩ | ⟨w, h1, _, rfl⟩
          · rw [hv] at h1; cases h1
          · exact ⟨w, (valL_mem hn).1 h1, rfl⟩
        · obtain ⟨w, h1, rfl⟩ := h
          by_cases hw : w = v
          · subst hw; exact ⟨w, (hmem w).2 rfl, rfl⟩
          · have h2 : valL old k = some w := (valL_mem ho).2 h1
            exact absurd ((mem_btw ho hn).2 (Or.inr ⟨v, hv, by rw [h2]; intro e; injection e with e; exact hw e, rfl⟩)) (h' _)
      · rintro ⟨w, h, rfl⟩
        have := (hmem w).1 h
        subst this
        refine ⟨?_, rfl⟩
        by_cases h2 : valL old k = some w
        · refine Or.inr ⟨⟨w, (valL_mem ho).1 h2, rfl⟩, fun u hu => ?_⟩
          rcases (mem_btw ho hn).1 hu with ⟨h1, _, _⟩ | ⟨u', h1, h3, _⟩
          · rw [hv] at h1; cases h1
          · rw [hv] at h1; injection h1 with h1; subst h1; exact h3 h2
        · exact Or.inl ((mem_btw ho hn).2 (Or.inr ⟨w, hv, h2, rfl⟩))
  unfold stay mrg
  rw [List.filter_map]
  rw [show ((fun p : Pr => !p.gone) ∘ fun q : ByteArray × Pr => q.2) = (fun q : ByteArray × Pr => !q.2.gone) from rfl, e]
  unfold PP.byKey
  rw [List.map_map]
  exact (List.map_congr_left fun p _ => rfl).trans (List.map_id _)
/-- Between, and Do of it. -/
theorem between_do {s t : Stt} (os : s.Ok) (ot : t.Ok) (hi : s.index ≤ t.index) (ht : s.term ≤ t.term) :
    betweenD s.wt t.wt = (⟨s.index, t.index, t.term, btw s.kv t.kv, t.sess⟩, 0) ∧ doD s.wt ⟨s.index, t.index, t.term, btw s.kv t.kv, t.sess⟩ = (t.wt, 0) := by
  have e1 : kvs s.wt.ps = s.kv := kvs_prs s.kv
  have e2 : kvs t.wt.ps = t.kv := kvs_prs t.kv
  constructor
  · unfold betweenD
    rw [if_neg (by simp [Stt.wt]; omega), e1, e2, ofL_rise _ os.rk, ofL_rise _ ot.rk]
    rfl
  · have e : stay (mrg s.wt.ps (btw s.kv t.kv)) = t.pairs := stay_btw os.rk ot.rk
    have hl : t.pairs.length ≤ 64 := by have : t.pairs.length = t.kv.length := List.length_map _; have := ot.kl; omega
    unfold doD
    dsimp only
    rw [if_neg (by simp [Stt.wt]; omega), e, if_neg (by omega)]
    rfl
end Go.Proofs
