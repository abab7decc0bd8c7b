/- DELTAS: rows that may be; how many keys changed. Plain. -/
import Derived.Test.YthehagkjoofjiaaKd15
import Derived.Test.YthehagkjoofjiaaKx5
set_option linter.all false
set_option linter.constructorNameAsVariable false
namespace Go.Proofs
open Go Go.KC

theorem Rise.keys_nodup {κ α : Type} [KO κ] {l : List (κ × α)} (h : Rise l) : (l.map (·.1)).Nodup := by
  refine List.pairwise_iff_getElem.2 fun i j hi hj hij => ?_
  rw [List.length_map] at hi hj
  intro e
  rw [List.getElem_map, List.getElem_map] at e
  have := h i j hi hj hij
  rw [e] at this
  exact KO.irr _ this
theorem nodup_of_keys {κ α : Type} : ∀ {l : List (κ × α)}, (l.map (·.1)).Nodup → l.Nodup
  | [], _ => List.nodup_nil
  | p :: r, h => by
    rw [List.map_cons, List.nodup_cons] at h
    exact List.nodup_cons.2 ⟨fun e => h.1 (List.mem_map_of_mem e), nodup_of_keys h.2⟩
theorem keys_prs (ps : List Pr) : (PP.byKey ps).map (·.1) = ps.map Pr.key := by unfold PP.byKey; rw [List.map_map]; rfl
theorem nodup_byKey {ps : List Pr} (h : Rise (PP.byKey ps)) : (ps.map Pr.key).Nodup := by rw [← keys_prs]; exact h.keys_nodup

theorem rowsOk_of {ps : List Pr} {s : Stt} {most : Int} (hr : Rise (PP.byKey ps)) (ho : ∀ p ∈ ps, p.Ok) (hs : s.Ok) (hl : (ps.length : Int) ≤ most) : RowsOk ps s.sess most := by
  refine ⟨fun i hi _ => ⟨ho _ (List.getElem_mem hi), fun h0 => ?_⟩, fun i hi _ => ?_, hl⟩
  · have := hr (i - 1) i (by rw [PP.byKey_len]; omega) (by rw [PP.byKey_len]; omega) (by omega)
    simpa [PP.byKey] using this
  · have hi' : i < s.ss.length := by simpa [Stt.sess] using hi
    have e : ∀ n (hn : n < s.sess.length), s.sess[n] = (s.ss[n]'(by simpa [Stt.sess] using hn)).2 := fun n hn => List.getElem_map _
    have b := hs.sb _ (List.getElem_mem hi')
    refine ⟨?_, fun h0 => ?_⟩
    · rw [e i hi]
      exact ⟨by omega, by omega, b.2.2.2.1, b.2.2.2.2.1, b.2.2.2.2.2.1, b.2.2.2.2.2.2.1, b.2.2.2.2.2.2.2⟩
    · rw [e i hi, e (i - 1) (by omega)]
      have h2 : (s.ss[i - 1]'(by omega)).1 < (s.ss[i]).1 := hs.rs (i - 1) i (by omega) hi' (by omega)
      have b2 := hs.sb _ (List.getElem_mem (show i - 1 < s.ss.length by omega))
      rw [b.1, b2.1]; exact h2

theorem btw_ok {s t : Stt} (os : s.Ok) (ot : t.Ok) : ∀ p ∈ btw s.kv t.kv, p.Ok := by
  intro p hp
  have := (mem_btw os.rk ot.rk (k := p.key) (p := p)).1 (mem_byKey.2 ⟨hp, rfl⟩)
  generalize p.key = k at this
  rcases this with ⟨_, ⟨v, hv⟩, rfl⟩ | ⟨v, hv, _, rfl⟩
  · have := os.kb _ ((valL_mem os.rk).1 hv)
    exact ⟨this.1, this.2.1, (show noText.size ≤ 16 by decide), fun _ => rfl⟩
  · have := ot.kb _ ((valL_mem ot.rk).1 hv)
    exact ⟨this.1, this.2.1, this.2.2, fun e => by cases e⟩

theorem btw_count {old now : List (ByteArray × ByteArray)} (ho : Rise old) (hn : Rise now) :
    (btw old now).length = now.countP (fun p => decide (valL old p.1 ≠ some p.2)) + old.countP (fun p => decide (valL now p.1 = none)) := by
  let A := (now.filter fun p => decide (valL old p.1 ≠ some p.2)).map fun p => (p.1, (⟨p.1, p.2, false⟩ : Pr))
  let B := (old.filter fun p => decide (valL now p.1 = none)).map fun p => (p.1, (⟨p.1, noText, true⟩ : Pr))
  have perm : (PP.byKey (btw old now)).Perm (A ++ B) := by
    refine (List.perm_ext_iff_of_nodup (nodup_of_keys (rise_btw ho hn).keys_nodup) ?_).2 fun q => ?_
    · rw [List.nodup_append]
      refine ⟨nodup_of_keys ?_, nodup_of_keys ?_, ?_⟩
      · show ((_ : List _).map _).map _ |>.Nodup
        rw [List.map_map]; exact (hn.filter _).keys_nodup
      · show ((_ : List _).map _).map _ |>.Nodup
        rw [List.map_map]; exact (ho.filter _).keys_nodup
      · intro a ha b hb e
        obtain ⟨p, _, rfl⟩ := List.mem_map.1 ha
        obtain ⟨q, _, rfl⟩ := List.mem_map.1 hb
        have := congrArg (fun x : ByteArray × Pr => x.2.gone) e
        simp at this
    · obtain ⟨k, p⟩ := q
      rw [mem_btw ho hn, List.mem_append]
      constructor
      · rintro (⟨h1, ⟨v, hv⟩, rfl⟩ | ⟨v, hv, h2, rfl⟩)
        · exact Or.inr (List.mem_map.2 ⟨(k, v), List.mem_filter.2 ⟨(valL_mem ho).1 hv, decide_eq_true h1⟩, rfl⟩)
        · exact Or.inl (List.mem_map.2 ⟨(k, v), List.mem_filter.2 ⟨(valL_mem hn).1 hv, decide_eq_true h2⟩, rfl⟩)
      · rintro (h | h)
        · obtain ⟨⟨a, v⟩, hf, e⟩ := List.mem_map.1 h
          cases e
          obtain ⟨h1, h2⟩ := List.mem_filter.1 hf
          exact Or.inr ⟨v, (valL_mem hn).2 h1, of_decide_eq_true h2, rfl⟩
        · obtain ⟨⟨a, v⟩, hf, e⟩ := List.mem_map.1 h
          cases e
          obtain ⟨h1, h2⟩ := List.mem_filter.1 hf
          exact Or.inl ⟨of_decide_eq_true h2, ⟨v, (valL_mem ho).2 h1⟩, rfl⟩
  have := perm.length_eq
  rw [PP.byKey_len, List.length_append, List.length_map, List.length_map, ← List.countP_eq_length_filter, ← List.countP_eq_length_filter] at this
  exact this

theorem findP_prs {l : List (ByteArray × ByteArray)} (hl : Rise l) (k : ByteArray) : findP (prsOfL l) k = (valL l k).map fun v => ⟨k, v, false⟩ := by
  cases hv : valL l k with
  | none =>
    rw [Option.map_none, findP_none]
    intro p hp e
    obtain ⟨q, hq, rfl⟩ := List.mem_map.1 hp
    exact (valL_none hl).1 hv q.2 (by rw [← e]; exact hq)
  | some v =>
    have hp : (⟨k, v, false⟩ : Pr) ∈ prsOfL l := List.mem_map.2 ⟨(k, v), (valL_mem hl).1 hv, rfl⟩
    exact findP_some (nodup_byKey (rise_prs hl)) hp
theorem findP_btw {old now : List (ByteArray × ByteArray)} (ho : Rise old) (hn : Rise now) {p : Pr} (hp : p ∈ btw old now) :
    valL now p.key = none ∧ (∃ v, valL old p.key = some v) ∧ p = ⟨p.key, noText, true⟩ ∨ ∃ v, valL now p.key = some v ∧ valL old p.key ≠ some v ∧ p = ⟨p.key, v, false⟩ :=
  (mem_btw ho hn).1 (mem_byKey.2 ⟨hp, rfl⟩)
end Go.Proofs
