/- LAYER 13: RlogPrefix. -/
import Derived.Test.YtdfakiaehkfhnaaKr7
set_option linter.all false
set_option linter.constructorNameAsVariable false
namespace Go.Proofs
open Go Go.KC

theorem entsGo_high {n : Int} : ∀ (l : List Sy) (j : Nat) (t : Int), -1000000 ≤ t → t + l.length ≤ 1048576 → ∀ i (hi : i < (entsGo n l j t).length), (entsGo n l j t)[i].term ≤ t + l.length
  | [], _, _, _, _, i, hi => by simp [entsGo] at hi
  | s :: r, j, t, h1, h2, i, hi => by
    simp only [List.length_cons] at h2
    have hu : t ≤ upT s t ∧ upT s t ≤ t + 1 := by
      unfold upT
      split
      · rw [w64_id (by omega) (by omega)]; omega
      · omega
    cases i with
    | zero => show upT s t ≤ _; simp only [List.length_cons]; omega
    | succ i =>
      have hi' : i < (entsGo n r (j + 1) (upT s t)).length := by simpa [entsGo] using hi
      have ih := entsGo_high r (j + 1) (upT s t) (by omega) (by omega) i hi'
      simp only [entsGo, List.getElem_cons_succ, List.length_cons]; omega

theorem RowsOf.app {es fs : List En} {n : Int} (h : RowsOf es n) (k : RowsOf fs (n + es.length)) (hw : ∀ j : Nat, w64 (n + (es.length : Int) + (j : Int)) = w64 (n + ((es.length + j : Nat) : Int)))
    (hj : ∀ (h1 : 0 < es.length) (h2 : 0 < fs.length), (es[es.length - 1]).term ≤ fs[0].term) : RowsOf (es ++ fs) n := by
  intro j hl
  rw [List.length_append] at hl
  by_cases c : j < es.length
  · rw [List.getElem_append_left c]
    obtain ⟨g1, g2, g3⟩ := h j c
    refine ⟨g1, g2, fun h0 => ?_⟩
    rw [List.getElem_append_left (by omega)]; exact g3 h0
  · rw [List.getElem_append_right (by omega)]
    obtain ⟨g1, g2, g3⟩ := k (j - es.length) (by omega)
    refine ⟨g1, ?_, fun h0 => ?_⟩
    · rw [g2, hw]; congr 2; omega
    · by_cases c2 : j = es.length
      · subst c2
        rw [List.getElem_append_left (by omega)]
        simp only [Nat.sub_self]
        exact hj h0 (by omega)
      · rw [List.getElem_append_right (by omega)]
        have := g3 (by omega)
        have e : j - es.length - 1 = j - 1 - es.length := by omega
        simp only [e] at this
        exact this

theorem termAt_mem {b t : Int} {es : List En} (h : Idx b es) {e : En} (he : e ∈ es) : termAt b t es e.index = (e.term, true) := by
  obtain ⟨j, hj, rfl⟩ := List.getElem_of_mem he
  have hi := h j hj
  obtain ⟨g, e⟩ := termAt_of (b := b) (t := t) (es := es) (i := es[j].index) (by omega) (by omega)
  rw [e]
  have e2 : (es[j].index - b - 1).toNat = j := by omega
  simp only [e2]
theorem fold_keep {b t : Int} {cur : List En} : ∀ {new : List En}, (∀ e ∈ new, termAt b t cur e.index = (e.term, true)) → foldM b t cur new = cur
  | [], _ => rfl
  | e :: r, h => by
    show foldM b t (stepM b t cur e) r = cur
    have : stepM b t cur e = cur := by unfold stepM; rw [if_pos (h e (by simp))]
    rw [this]; exact fold_keep fun x hx => h x (by simp [hx])
theorem fold_app {b t : Int} : ∀ {new cur : List En}, (∀ j (hj : j < new.length), new[j].index = b + cur.length + 1 + (j : Int)) → foldM b t cur new = cur ++ new
  | [], cur, _ => by simp [foldM]
  | e :: r, cur, h => by
    show foldM b t (stepM b t cur e) r = _
    have h0 : e.index = b + cur.length + 1 := by have := h 0 (by simp); simpa using this
    have : stepM b t cur e = cur ++ [e] := by
      unfold stepM
      rw [termAt_out (Or.inr (by omega)), if_neg (by simp), List.take_of_length_le (by omega)]
    rw [this, fold_app fun j hj => ?_]
    · simp
    · have := h (j + 1) (by simpa using hj)
      simp only [List.getElem_cons_succ] at this
      rw [this, List.length_append, List.length_singleton]; omega

section
variable {H0 H : Hp} {es mo : List En} {b t : Int}

/-- What a log has that takes another one's. -/
structure Pre (b t : Int) (es mo : List En) (c : Nat) (p : Int) : Prop where
  sm : Sm b t es
  hc : c ≤ es.length
  hp : b ≤ p ∧ p ≤ b + c
  row : RowsOf mo (b + 1 + c)
  len : mo.length ≤ 80
  low : ∀ j (hj : j < mo.length), lastTerm b t es < mo[j].term

theorem Sm.mono (h : Sm b t es) : ∀ (d i : Nat) (hi : i + d < es.length), (es[i]'(by omega)).term ≤ (es[i + d]).term := by
  intro d
  induction d with
  | zero => intro i hi; exact Int.le_refl _
  | succ d ih =>
    intro i hi
    have h1 := ih i (by omega)
    have h2 := (h.row (i + (d + 1)) hi).2.2 (by omega)
    have e : i + (d + 1) - 1 = i + d := by omega
    simp only [e] at h2
    omega
theorem Sm.last_ge (h : Sm b t es) {j : Nat} (hj : j < es.length) : (es[j]).term ≤ lastTerm b t es := by
  have h0 := h.len
  unfold lastTerm
  obtain ⟨g, e⟩ := termAt_of (b := b) (t := t) (es := es) (i := b + es.length) (by omega) (by omega)
  rw [e]
  have := h.mono ((b + es.length - b - 1).toNat - j) j (by omega)
  have e2 : j + ((b + es.length - b - 1).toNat - j) = (b + es.length - b - 1).toNat := by omega
  simp only [e2] at this
  exact this
theorem Sm.last_low (h : Sm b t es) : t ≤ lastTerm b t es := by
  by_cases c : es.length = 0
  · unfold lastTerm
    have : es = [] := List.eq_nil_of_length_eq_zero c
    subst this
    have e : b + ((([] : List En).length : Nat) : Int) = b := by simp
    rw [e, termAt_base]; exact Int.le_refl _
  · have := h.last_ge (j := 0) (by omega); have := h.low 0 (by omega); omega

theorem Pre.rowM {c : Nat} {p : Int} (h : Pre b t es mo c p) : RowsOf (es.take c ++ mo) (b + 1) := by
  have hb := h.sm.hb; have hl := h.sm.len; have hc := h.hc; have hm := h.len
  have hlen : (es.take c).length = c := by rw [List.length_take]; omega
  refine (h.sm.row.take c).app ?_ (fun j => by congr 1; omega) (fun h1 h2 => ?_)
  · rw [hlen]; exact h.row
  · simp only [List.getElem_take]
    have g1 := h.sm.last_ge (j := (es.take c).length - 1) (by omega)
    have g2 := h.low 0 h2
    omega
theorem Pre.idxM {c : Nat} {p : Int} (h : Pre b t es mo c p) : Idx b (es.take c ++ mo) := by
  have hb := h.sm.hb; have hl := h.sm.len; have hm := h.len
  intro j hj
  rw [(h.rowM j hj).2.1, w64_id]
  all_goals
    rw [List.length_append, List.length_take] at hj
    omega
theorem Pre.idxMo {c : Nat} {p : Int} (h : Pre b t es mo c p) {j : Nat} (hj : j < mo.length) : mo[j].index = b + 1 + c + j := by
  have hb := h.sm.hb; have hl := h.sm.len; have hm := h.len; have hc := h.hc
  rw [(h.row j hj).2.1, w64_id (by omega) (by omega)]
theorem Pre.split {c : Nat} {p : Int} (h : Pre b t es mo c p) : (es.take c ++ mo).drop (p - b).toNat = (es.take c).drop (p - b).toNat ++ mo := by
  have hp := h.hp; have hc := h.hc
  rw [List.drop_append_of_le_length (by rw [List.length_take]; omega)]
/-- It takes what is other, and keeps the rest. -/
theorem Pre.merge {c : Nat} {p : Int} (h : Pre b t es mo c p) :
    mergeL b t es p (termAt b t es p).1 ((es.take c ++ mo).drop (p - b).toNat) = (if mo = [] then es else es.take c ++ mo, true) := by
  have hp := h.hp; have hc := h.hc; have hb := h.sm.hb; have hl := h.sm.len
  have hlen : (es.take c).length = c := by rw [List.length_take]; omega
  have hr : RowsOf ((es.take c ++ mo).drop (p - b).toNat) (p + 1) := h.rowM.drop _ _ fun j => by congr 1; omega
  unfold mergeL
  rw [if_pos hr, if_neg (by omega)]
  unfold mergeIn
  have hk : termAt b t es p = ((termAt b t es p).1, true) := by
    by_cases c1 : p = b
    · subst c1; rw [termAt_base]
    · obtain ⟨g, e⟩ := termAt_of (b := b) (t := t) (es := es) (i := p) (by omega) (by omega)
      rw [e]
  rw [if_pos hk, h.split]
  have hf : foldM b t es ((es.take c).drop (p - b).toNat ++ mo) = foldM b t es mo := by
    unfold foldM
    rw [List.foldl_append]
    congr 1
    exact fold_keep fun e he => termAt_mem h.sm.Idx (List.mem_of_mem_take (List.mem_of_mem_drop he))
  rw [hf]
  cases mo with
  | nil => rfl
  | cons e r =>
    rw [if_neg (by simp)]
    congr 1
    show foldM b t (stepM b t es e) r = _
    have hi : e.index = b + 1 + c := by have := h.idxMo (j := 0) (by simp); simpa using this
    have hn : termAt b t es e.index ≠ (e.term, true) := by
      intro he
      have hlow := h.low 0 (by simp)
      simp only [List.getElem_cons_zero] at hlow
      have hkn := termAt_known (b := b) (t := t) (es := es) (i := e.index) (by rw [he])
      obtain ⟨g, e2⟩ := termAt_of (b := b) (t := t) (es := es) (i := e.index) (by omega) hkn.2
      rw [e2] at he
      have h3 := h.sm.last_ge g
      have h4 : es[(e.index - b - 1).toNat].term = e.term := congrArg Prod.fst he
      omega
    have hs : stepM b t es e = es.take c ++ [e] := by
      unfold stepM; rw [if_neg hn, hi]
      have : (b + 1 + (c : Int) - b - 1).toNat = c := by omega
      rw [this]
    rw [hs, fold_app fun j hj => ?_]
    · simp
    · have := h.idxMo (j := j + 1) (by simpa using hj)
      simp only [List.getElem_cons_succ] at this
      rw [this, List.length_append, hlen, List.length_singleton]; omega
/-- What has been taken is taken again. -/
theorem Pre.again {c : Nat} {p : Int} (h : Pre b t es mo c p) :
    mergeL b t (es.take c ++ mo) p (termAt b t es p).1 ((es.take c ++ mo).drop (p - b).toNat) = (es.take c ++ mo, true) := by
  have hp := h.hp; have hc := h.hc; have hb := h.sm.hb; have hl := h.sm.len
  have hr : RowsOf ((es.take c ++ mo).drop (p - b).toNat) (p + 1) := h.rowM.drop _ _ fun j => by congr 1; omega
  unfold mergeL
  rw [if_pos hr, if_neg (by omega)]
  unfold mergeIn
  have hk : termAt b t (es.take c ++ mo) p = ((termAt b t es p).1, true) := by
    by_cases c1 : p = b
    · subst c1; rw [termAt_base, termAt_base]
    · obtain ⟨g, e⟩ := termAt_of (b := b) (t := t) (es := es) (i := p) (by omega) (by omega)
      obtain ⟨g2, e2⟩ := termAt_of (b := b) (t := t) (es := es.take c ++ mo) (i := p) (by omega) (by rw [List.length_append, List.length_take]; omega)
      rw [e, e2]
      rw [List.getElem_append_left (by rw [List.length_take]; omega), List.getElem_take]
  rw [if_pos hk]
  congr 1
  exact fold_keep fun e he => termAt_mem h.idxM (List.mem_of_mem_drop he)
theorem Pre.right {c : Nat} {p : Int} (h : Pre b t es mo c p) : LRight b t (es.take c ++ mo) := by
  have hb := h.sm.hb; have ht := h.sm.ht; have hl := h.sm.len; have hc := h.hc
  refine ⟨hb.1, ht.1, ?_, fun hj => ?_⟩
  · rw [w64_id (by omega) (by omega)]; exact h.rowM
  · by_cases c0 : 0 < c
    · rw [List.getElem_append_left (by rw [List.length_take]; omega), List.getElem_take]
      exact h.sm.low 0 (by omega)
    · have hl0 : (es.take c).length = 0 := by rw [List.length_take]; omega
      rw [List.getElem_append_right (by omega)]
      rw [List.length_append] at hj
      have := h.low (0 - (es.take c).length) (by omega)
      have := h.sm.last_low
      omega
end
end Go.Proofs
