/- STATES: what folds make. -/
import Derived.Test.YtgndfbbgomlbeaaKu8
set_option linter.all false
set_option linter.constructorNameAsVariable false
namespace Go.Proofs
open Go Go.KC

theorem Stt.Ok.right {st : Stt} (ok : st.Ok) : RightM st.index st.term st.pairs st.sess := by
  have lk : st.pairs.length = st.kv.length := List.length_map _
  have ls : st.sess.length = st.ss.length := List.length_map _
  refine ⟨fun p hp => ?_, ok.i0.1, ok.i0.2, ok.t0.1, ok.t0.2, fun i hi _ => ⟨?_, fun h0 => ?_⟩, fun i hi _ => ⟨?_, fun h0 => ?_⟩, ?_⟩
  · obtain ⟨q, _, rfl⟩ := List.mem_map.1 hp; rfl
  · have := ok.kb _ (List.getElem_mem (show i < st.kv.length by omega))
    have e : st.pairs[i] = ⟨(st.kv[i]'(by omega)).1, (st.kv[i]'(by omega)).2, false⟩ := List.getElem_map _
    rw [e]; exact ⟨this.1, this.2.1, this.2.2, fun h => by cases h⟩
  · have e : st.pairs[i] = ⟨(st.kv[i]'(by omega)).1, (st.kv[i]'(by omega)).2, false⟩ := List.getElem_map _
    have e' : st.pairs[i - 1] = ⟨(st.kv[i - 1]'(by omega)).1, (st.kv[i - 1]'(by omega)).2, false⟩ := List.getElem_map _
    rw [e, e']; exact ok.rk (i - 1) i (by omega) (by omega) (by omega)
  · have := ok.sb _ (List.getElem_mem (show i < st.ss.length by omega))
    have e : st.sess[i] = (st.ss[i]'(by omega)).2 := List.getElem_map _
    rw [e]; obtain ⟨a1, a2, a3, a4, a5, a6, a7, a8⟩ := this; exact ⟨by omega, by omega, a4, a5, a6, a7, a8⟩
  · have e : st.sess[i] = (st.ss[i]'(by omega)).2 := List.getElem_map _
    have e' : st.sess[i - 1] = (st.ss[i - 1]'(by omega)).2 := List.getElem_map _
    have h1 := (ok.sb _ (List.getElem_mem (show i < st.ss.length by omega))).1
    have h2 := (ok.sb _ (List.getElem_mem (show i - 1 < st.ss.length by omega))).1
    have h3 : (st.ss[i - 1]'(by omega)).1 < (st.ss[i]'(by omega)).1 := ok.rs (i - 1) i (by omega) (by omega) (by omega)
    rw [e, e', h1, h2]; exact h3
  · rw [lk]; have := ok.kl; omega

theorem cmdM_it (s : Stt) (c : Cm) : (cmdM s c).1.index = s.index ∧ (cmdM s c).1.term = s.term := by
  unfold cmdM
  split
  · split
    · split <;> exact ⟨rfl, rfl⟩
    · exact ⟨rfl, rfl⟩
  · exact ⟨rfl, rfl⟩
theorem applyM_next {s : Stt} {e : En} (hr : e.Right) (h1 : e.index = s.index + 1) (h2 : s.term ≤ e.term) : (applyM s e).1.index = e.index ∧ (applyM s e).1.term = e.term := by
  unfold applyM
  rw [if_neg (by simpa using hr), if_neg (by omega)]
  split
  · exact ⟨rfl, rfl⟩
  · exact cmdM_it _ _
theorem applyM_le (s : Stt) (e : En) : (applyM s e).1.index ≤ s.index + 1 := by
  unfold applyM
  split
  · simp; omega
  · split
    · simp; omega
    · split
      · dsimp only; omega
      · rw [(cmdM_it _ _).1]; dsimp only; omega
theorem foldM_le : ∀ (es : List En) (s : Stt), (foldM s es).index ≤ s.index + es.length
  | [], s => by simp [foldM]
  | e :: es, s => by
    have := foldM_le es (applyM s e).1
    have := applyM_le s e
    show (foldM (applyM s e).1 es).index ≤ _
    simp only [List.length_cons]; omega
theorem fold_rows {es : List En} (h : RowsOf es 1) (hl : es.length ≤ 1000) : ∀ j, j ≤ es.length → (foldM .zero (es.take j)).index = (j : Int) ∧ ∀ hj : j < es.length, (foldM .zero (es.take j)).term ≤ es[j].term := by
  intro j
  induction j with
  | zero => intro _; exact ⟨rfl, fun hj => by have := (h 0 hj).1.2.2.1; simpa [foldM, Stt.zero] using this⟩
  | succ j ih =>
    intro hj
    obtain ⟨i1, i2⟩ := ih (by omega)
    have hjl : j < es.length := by omega
    have hi := (h j hjl).2.1
    rw [w64_id (by omega) (by omega)] at hi
    have := applyM_next (h j hjl).1 (by rw [i1]; omega) (i2 hjl)
    rw [List.take_succ_eq_append_getElem hjl, foldM_snoc]
    refine ⟨by rw [this.1, hi]; omega, fun hj' => ?_⟩
    rw [this.2]
    exact (h (j + 1) hj').2.2 (by omega)
theorem someM_index (ss : List Sy) : (someM ss).index ≤ 80 := by
  have := foldM_le (ents (ss.take 80) 1 0) .zero
  rw [ents_length, List.length_take] at this
  have e : Stt.zero.index = 0 := rfl
  unfold someM; omega

section
variable {H : Hp}
theorem fold_step {p s es : Sl} {st : Stt} {l : List En} (h : SR H p s st) (ok : st.Ok) (hr : Rows H es 8 (l.map En.cells).flatten) (hl : l.length ≤ 1000000) {K : Int → Int → Sl → Sl → Hp → Prop}
    (hK : ∀ p' s' H', SR H' p' s' (foldM st l) → Mod (fun _ => False) H H' → K (foldM st l).index (foldM st l).term p' s' H') :
    SCalls Try.prog state_Fold.id [stV st p s, .slice es.a es.len es.cap] H (fun r H1 => ∃ Index : Int, ∃ Term : Int, ∃ Pairs : Sl, ∃ Sessions : Sl, r = .agg #[.int .i64 Index, .int .i64 Term, .slice Pairs.a Pairs.len Pairs.cap, .slice Sessions.a Sessions.len Sessions.cap] ∧ K Index Term Pairs Sessions H1) := by
  refine (Fold_spec h ok hr hl).mono ?_
  rintro r H1 ⟨p', s', rfl, sr, m⟩
  exact ⟨_, _, p', s', rfl, hK p' s' H1 sr m⟩
theorem some_step {says : Sl} {ss : List Sy} (hr : Rows H says 6 (ss.map Sy.cells).flatten) (hl : ss.length = says.len) {K : Int → Int → Sl → Sl → Hp → Prop}
    (hK : ∀ p' s' H', SR H' p' s' (someM ss) → Mod (fun _ => False) H H' → K (someM ss).index (someM ss).term p' s' H') :
    SCalls Try.prog tephralaw07_Some.id [.slice says.a says.len says.cap] H (fun r H1 => ∃ Index : Int, ∃ Term : Int, ∃ Pairs : Sl, ∃ Sessions : Sl, r = .agg #[.int .i64 Index, .int .i64 Term, .slice Pairs.a Pairs.len Pairs.cap, .slice Sessions.a Sessions.len Sessions.cap] ∧ K Index Term Pairs Sessions H1) := by
  refine (Some_spec hr hl).mono ?_
  rintro r H1 ⟨p', s', rfl, sr, m⟩
  exact ⟨_, _, p', s', rfl, hK p' s' H1 sr m⟩
theorem rows_pre {x : Sl} {es : List En} (h : Rows H x 8 (es.map En.cells).flatten) {n : Nat} (hn : n ≤ x.len) : Rows H ⟨cutA x.a x.cap 0 8, n, x.cap⟩ 8 ((es.take n).map En.cells).flatten := by
  have := Rows.take h hn
  rw [← flat_take (f := En.cells) (k := 8) (fun _ => rfl)] at this
  exact this
theorem rows_cut {x : Sl} {es : List En} (h : Rows H x 8 (es.map En.cells).flatten) {n : Nat} (hn : n ≤ x.len) : Rows H ⟨cutA x.a x.cap n 8, x.len - n, x.cap - n⟩ 8 ((es.drop n).map En.cells).flatten := by
  have := Rows.drop h hn
  rw [← flat_drop (f := En.cells) (k := 8) (fun _ => rfl)] at this
  exact this

end
end Go.Proofs
