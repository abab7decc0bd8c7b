/- SORTED ROWS, plain: the value, and the length, behind a Put and a Del. -/
import Derived.Test.YtihadekhodlacaaKu4
set_option linter.all false
set_option linter.constructorNameAsVariable false
namespace Go.Proofs
open Go Go.KC

section
variable {κ α : Type} [KO κ] [DecidableEq κ]
theorem opt_ext {x y : Option α} (h : ∀ v, x = some v ↔ y = some v) : x = y := by
  cases x with
  | none => cases y with
    | none => rfl
    | some b => exact ((h b).2 rfl).symm ▸ rfl
  | some a => exact ((h a).1 rfl).symm
theorem valL_put {l : List (κ × α)} (hs : Rise l) (k : κ) (v : α) (j : κ) : valL (putL l k v) j = if j = k then some v else valL l j := by
  refine opt_ext fun w => ?_
  rw [valL_mem (putL_rise hs k v), putL_mem hs]
  split
  · exact ⟨fun h => by rw [h], fun h => by cases h; rfl⟩
  · exact (valL_mem hs).symm
theorem valL_del {l : List (κ × α)} (hs : Rise l) (k : κ) (j : κ) : valL (delL l k) j = if j = k then none else valL l j := by
  refine opt_ext fun w => ?_
  rw [valL_mem (delL_rise hs k), delL_mem hs]
  split
  · rename_i c; exact ⟨fun h => (h.1 c).elim, fun h => by cases h⟩
  · rename_i c; exact ⟨fun h => (valL_mem hs).2 h.2, fun h => ⟨c, (valL_mem hs).1 h⟩⟩
theorem atB_val {l : List (κ × α)} {k : κ} {i : Nat} (hs : Rise l) (h : Spot l k i) : atB l k i = (valL l k).isSome := by
  cases hb : atB l k i with
  | false =>
    have : valL l k = none := (valL_none hs).2 fun v hv => h.not hs hb v hv
    rw [this]; rfl
  | true =>
    unfold atB at hb
    have hi : i < l.length := by
      rcases Nat.lt_or_ge i l.length with c | c
      · exact c
      · rw [List.getElem?_eq_none c] at hb; simp at hb
    rw [List.getElem?_eq_getElem hi] at hb
    have hk : l[i].1 = k := by simpa using hb
    have : valL l k = some l[i].2 := (valL_mem hs).2 (by rw [← hk]; exact List.getElem_mem hi)
    rw [this]; rfl
theorem length_put {l : List (κ × α)} (hs : Rise l) (k : κ) (v : α) : (putL l k v).length = if (valL l k).isSome then l.length else l.length + 1 := by
  unfold putL
  rw [putAt_length (spotOf_spot k hs).le, atB_val hs (spotOf_spot k hs)]
theorem length_del {l : List (κ × α)} (hs : Rise l) (k : κ) : (delL l k).length = if (valL l k).isSome then l.length - 1 else l.length := by
  have h := spotOf_spot k hs
  have e := atB_val hs h
  unfold delL delAt
  rw [e]
  cases hv : (valL l k).isSome with
  | false => simp
  | true =>
    rw [hv] at e
    have hi : spotOf l k < l.length := by
      rcases Nat.lt_or_ge (spotOf l k) l.length with c | c
      · exact c
      · unfold atB at e; rw [List.getElem?_eq_none c] at e; simp at e
    simp only [if_pos]
    simp [List.length_append, List.length_take, List.length_drop]
    omega
end
end Go.Proofs
