/- LAYER 16: what is so of a ghost. -/
import Derived.Test.YtihadekhodlacaaKz2
set_option linter.all false
set_option linter.constructorNameAsVariable false
namespace Go.Proofs
open Go Go.KC

theorem commit_row {es : List En} (h : RowsOf es 1) (hl : es.length ≤ 1000) {j : Nat} (hj : j < es.length) : commitM (es.take j) es[j] = (es.take (j + 1), true) := by
  obtain ⟨_, h2, _⟩ := h j hj
  rw [w64_id (by omega) (by omega)] at h2
  unfold commitM
  rw [List.length_take, if_neg (by omega), if_pos (by omega), List.take_succ_eq_append_getElem hj]

section
variable {H0 H : Hp} {g : Nat} {B : List Nat} {log : List En} {ld : List (Int × Int)} {w : Bool}
theorem Gs.with {H' : Hp} {x : Sl} {es : List En} (s : Gs H0 H g B log ld w) (h : Eo H H' x es) : Gs H0 H' g (x.blk ++ B) log ld w := by
  obtain ⟨F, h1, hf, hF, hlt⟩ := s
  refine ⟨F, h1.mod h.mod, hf.step h.mod fun _ e => e.elim, fun b hb => ⟨(hF b hb).1, fun hB => ?_⟩, fun b hb => ?_⟩
  · rcases List.mem_append.1 hB with hB | hB
    · have := h.blk b hB; have := h1.lt b hb; omega
    · exact (hF b hb).2 hB
  · rcases List.mem_append.1 hb with hb | hb
    · exact h.own.lt b hb
    · exact Nat.lt_of_lt_of_le (hlt b hb) h.mod.size
theorem Gs.write {m : Nat → Prop} {H' : Hp} (s : Gs H0 H g B log ld w) (hm : Mod m H H') (hB : ∀ b, m b → b ∈ B) (h0 : ∀ b, m b → H0.size ≤ b) : Gs H0 H' g B log ld w := by
  obtain ⟨F, h1, hf, hF, hlt⟩ := s
  exact ⟨F, h1.keep hm fun b hb hb2 => (hF b hb).2 (hB b hb2), hf.step hm h0, hF, fun b hb => Nat.lt_of_lt_of_le (hlt b hb) hm.size⟩
theorem Gs.told {K : Sl → Hp → Prop} (s : Gs H0 H g B log ld w) (hl : log.length ≤ 1000000) (hK : ∀ y H', Eo H H' y log → Gs H0 H' g (y.blk ++ B) log ld w → K y H') :
    SCalls Try.prog ghost_Ghost_Log.id [.pointer (some ⟨g, 0, none⟩)] H fun r H' => ∃ y : Sl, r = .slice y.a y.len y.cap ∧ K y H' := by
  obtain ⟨F, h⟩ := s.gh
  refine (Log_spec h hl).mono ?_
  rintro r H' ⟨y, rfl, hy⟩
  exact ⟨y, rfl, hK y H' hy (s.with hy)⟩
theorem Gs.size (s : Gs H0 H g B log ld w) : H0.size ≤ H.size := s.fresh.size

/-- The entries are laid. -/
theorem entries_step {says : Sl} {ss : List Sy} {K : Sl → Hp → Prop} (s : Gs H0 H g [] log ld w) (hr : Rows H says 6 (ss.map Sy.cells).flatten) (hl : ss.length = says.len)
    (hK : ∀ y H', Eo H H' y (ents (ss.take 80) 1 0) → Gs H0 H' g y.blk log ld w → K y H') :
    SCalls Try.prog tephralaw06_Entries.id [.slice says.a says.len says.cap, .int .i64 1, .int .i64 0] H fun r H' => ∃ x : Sl, r = .slice x.a x.len x.cap ∧ K x H' := by
  refine (Entries_spec hr hl).mono ?_
  rintro r H' ⟨x, rfl, h1, h2, h3, h4⟩
  have hE : Eo H H' x (ents (ss.take 80) 1 0) := ⟨h1, h4, h3.mod⟩
  have := s.with hE
  rw [List.append_nil] at this
  exact ⟨x, rfl, hK x H' hE this⟩

theorem ents80 (ss : List Sy) : RowsOf (ents (ss.take 80) 1 0) 1 ∧ (ents (ss.take 80) 1 0).length ≤ 80 := by
  have hl := ents_length (ss.take 80) 1 0
  have h80 : (ss.take 80).length ≤ 80 := by rw [List.length_take]; omega
  exact ⟨ents_row (by omega) (by omega) (by omega) (by omega), by omega⟩
end

end Go.Proofs
