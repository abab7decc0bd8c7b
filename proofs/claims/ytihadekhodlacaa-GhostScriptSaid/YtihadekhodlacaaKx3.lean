/- STATES: what folds make (as Ku9, over Kx2). -/
import Derived.Test.YtihadekhodlacaaKx2
set_option linter.all false
set_option linter.constructorNameAsVariable false
namespace Go.Proofs
open Go Go.KC

theorem cmdM_it (s : Stt) (c : Cm) : (cmdM s c).1.index = s.index ∧ (cmdM s c).1.term = s.term := by
  unfold cmdM
  split
  · split
    · split <;> exact ⟨rfl, rfl⟩
    · exact ⟨rfl, rfl⟩
  · exact ⟨rfl, rfl⟩
theorem applyM_next {s : Stt} {e : En} (hr : e.Right) (h1 : e.index = s.index + 1) (h2 : s.term ≤ e.term) : (applyM s e).1.index = e.index ∧ (applyM s e).1.term = e.term := by
  unfold applyM
  rw [if_neg (by simpa using hr), if_neg (by omega)]
  split
  · exact ⟨rfl, rfl⟩
  · exact cmdM_it _ _
theorem applyM_le (s : Stt) (e : En) : (applyM s e).1.index ≤ s.index + 1 := by
  unfold applyM
  split
  · simp; omega
  · split
    · simp; omega
    · split
      · dsimp only; omega
      · rw [(cmdM_it _ _).1]; dsimp only; omega
theorem foldM_le : ∀ (es : List En) (s : Stt), (foldM s es).index ≤ s.index + es.length
  | [], s => by simp [foldM]
  | e :: es, s => by
    have := foldM_le es (applyM s e).1
    have := applyM_le s e
    show (foldM (applyM s e).1 es).index ≤ _
    simp only [List.length_cons]; omega
theorem fold_rows {es : List En} (h : RowsOf es 1) (hl : es.length ≤ 1000) : ∀ j, j ≤ es.length → (foldM .zero (es.take j)).index = (j : Int) ∧ ∀ hj : j < es.length, (foldM .zero (es.take j)).term ≤ es[j].term := by
  intro j
  induction j with
  | zero => intro _; exact ⟨rfl, fun hj => by have := (h 0 hj).1.2.2.1; simpa [foldM, Stt.zero] using this⟩
  | succ j ih =>
    intro hj
    obtain ⟨i1, i2⟩ := ih (by omega)
    have hjl : j < es.length := by omega
    have hi := (h j hjl).2.1
    rw [w64_id (by omega) (by omega)] at hi
    have := applyM_next (h j hjl).1 (by rw [i1]; omega) (i2 hjl)
    rw [List.take_succ_eq_append_getElem hjl, foldM_snoc]
    refine ⟨by rw [this.1, hi]; omega, fun hj' => ?_⟩
    rw [this.2]
    exact (h (j + 1) hj').2.2 (by omega)

section
variable {H : Hp}
theorem fold_step {p s es : Sl} {st : Stt} {l : List En} (h : SR H p s st) (ok : st.Ok) (hr : Rows H es 8 (l.map En.cells).flatten) (hl : l.length ≤ 1000000) {K : Int → Int → Sl → Sl → Hp → Prop}
    (hK : ∀ p' s' H', SR H' p' s' (foldM st l) → Mod (fun _ => False) H H' → K (foldM st l).index (foldM st l).term p' s' H') :
    SCalls Try.prog state_Fold.id [stV st p s, .slice es.a es.len es.cap] H (fun r H1 => ∃ Index : Int, ∃ Term : Int, ∃ Pairs : Sl, ∃ Sessions : Sl, r = .agg #[.int .i64 Index, .int .i64 Term, .slice Pairs.a Pairs.len Pairs.cap, .slice Sessions.a Sessions.len Sessions.cap] ∧ K Index Term Pairs Sessions H1) := by
  refine (Fold_spec h ok hr hl).mono ?_
  rintro r H1 ⟨p', s', rfl, sr, m⟩
  exact ⟨_, _, p', s', rfl, hK p' s' H1 sr m⟩
theorem rows_pre {x : Sl} {es : List En} (h : Rows H x 8 (es.map En.cells).flatten) {n : Nat} (hn : n ≤ x.len) : Rows H ⟨cutA x.a x.cap 0 8, n, x.cap⟩ 8 ((es.take n).map En.cells).flatten := by
  have := Rows.take h hn
  rw [← flat_take (f := En.cells) (k := 8) (fun _ => rfl)] at this
  exact this
theorem rows_cut {x : Sl} {es : List En} (h : Rows H x 8 (es.map En.cells).flatten) {n : Nat} (hn : n ≤ x.len) : Rows H ⟨cutA x.a x.cap n 8, x.len - n, x.cap - n⟩ 8 ((es.drop n).map En.cells).flatten := by
  have := Rows.drop h hn
  rw [← flat_drop (f := En.cells) (k := 8) (fun _ => rfl)] at this
  exact this

end
end Go.Proofs
