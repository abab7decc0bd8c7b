/- STATES: the model shows a state. -/
import Derived.Test.YtgndfbbgomlbeaaKu9
import Derived.Test.YtgndfbbgomlbeaaKu21
import Derived.Test.YtgndfbbgomlbeaaKu22
set_option linter.all false
set_option linter.constructorNameAsVariable false
namespace Go.Proofs
open Go Go.KC

section
variable {H H' : Hp} {b k s d : Nat} {i t : Int} {kv : List (ByteArray × ByteArray)} {ss : List (Int × Se)}
theorem cell_map {es : Array MapEntry} {c : Nat} {a : Addr} (h : H[a.block]? = some (.map es c)) : Hp.cell? H a = none := by
  unfold Hp.cell?
  simp [h]
/-- No text stands in the model's own words, and no cells in its maps. -/
theorem MD.no_text (M : MD H b k s d i t kv ss) {a : Addr} {v : ByteArray} (h : Hp.cell? H a = some (.string v)) : a.block ≠ b ∧ a.block ≠ k ∧ a.block ≠ s ∧ a.block ≠ d := by
  have hs := spot_of_cell h
  obtain ⟨q, o, sp⟩ := a
  dsimp only at hs
  subst hs
  refine ⟨?_, ?_, ?_, ?_⟩
  · rintro rfl
    rw [cell_of M.mb] at h
    match o with
    | 0 | 1 | 2 | 3 | 4 => simp at h
    | n + 5 => simp at h
  · rintro rfl
    obtain ⟨es, c, h1, _⟩ := M.gk
    rw [cell_map h1] at h; cases h
  · rintro rfl
    obtain ⟨l, h1, _⟩ := M.gs
    rw [cell_map h1] at h; cases h
  · rintro rfl
    obtain ⟨l, h1, _⟩ := M.gd
    rw [cell_map h1] at h; cases h
theorem rows_if {μ : Nat → Prop} {x : Sl} {sz : Nat} {cs : List Value} (h : Rows H x sz cs) (hm : Mod μ H H') (hx : cs ≠ [] → ∀ q ∈ x.blk, ¬ μ q) : Rows H' x sz cs := by
  by_cases c : cs = []
  · subst c; exact ⟨h.1, h.2.1, fun a ha j v hj => by simp at hj, h.2.2.2⟩
  · exact h.keep hm (hx c)
theorem SR.model {μ : Nat → Prop} {p x : Sl} {st : Stt} (h : SR H p x st) (M : MD H b k s d i t kv ss) (m : Mod μ H H') (hμ : ∀ q, μ q → q = b ∨ q = k ∨ q = s ∨ q = d) : SR H' p x st := by
  refine ⟨rows_if h.1 m fun hne q hq hm => ?_, rows_if h.2 m fun hne q hq hm => ?_⟩
  · have hl : 0 < st.kv.length := by
      rcases Nat.eq_zero_or_pos st.kv.length with c | c
      · exact (hne (by rw [List.length_eq_zero_iff.1 c]; rfl)).elim
      · exact c
    obtain ⟨a, ha, hrow⟩ := row_get' (by omega) kvC_len h.1 hl
    have := M.no_text (hrow 0 _ rfl)
    unfold Sl.blk at hq
    rw [ha] at hq
    have e : q = a.block := by simpa using hq
    subst e
    rcases hμ _ hm with e | e | e | e
    · exact this.1 e
    · exact this.2.1 e
    · exact this.2.2.1 e
    · exact this.2.2.2 e
  · have hl : 0 < st.ss.length := by
      rcases Nat.eq_zero_or_pos st.ss.length with c | c
      · exact (hne (by rw [List.length_eq_zero_iff.1 c]; rfl)).elim
      · exact c
    obtain ⟨a, ha, hrow⟩ := row_get' (by omega) ssC_len h.2 hl
    have := M.no_text (hrow 3 _ rfl)
    unfold Sl.blk at hq
    rw [ha] at hq
    have e : q = a.block := by simpa using hq
    subst e
    rcases hμ _ hm with e | e | e | e
    · exact this.1 e
    · exact this.2.1 e
    · exact this.2.2.1 e
    · exact this.2.2.2 e

theorem shows_spec {p x : Sl} {st : Stt} (h : SR H p x st) (ok : st.Ok) (M : MD H b k s d st.index st.term st.kv st.ss) :
    SCalls Try.prog tephralaw07_Model_shows.id [.pointer (some ⟨b, 0, none⟩), stV st p x] H (TellPost H (.bool true)) := by
  have l1 := rows_len' (by omega) kvC_len h.1
  have l2 := rows_len' (by omega) ssC_len h.2
  have kl := ok.kl
  have sl := ok.sl
  apply tephralaw07_Model_shows.calls (m := ⟨b, 0, none⟩) (sIndex := st.index) (sTerm := st.term) (sPairs := p) (sSessions := x)
  intro H1 h1
  obtain ⟨m1, _⟩ := hole_facts h1
  have M1 := M.mod m1
  obtain ⟨es, he, hl⟩ := M1.gk.at
  obtain ⟨es1, he1, hl1⟩ := M1.gs.at
  refine ⟨_, M1.mb.at0, Br.no (by simp) ⟨_, M1.mb.at1, Br.no (by simp) ⟨_, M1.mb.at2, es, he, Br.no (by rw [hl, l1]; simp) ⟨_, M1.mb.at3, es1, he1, ?_⟩⟩⟩⟩
  have loop2 : ∀ (n j : Nat) (H2 : Hp), j + n = st.ss.length → Mod (fun _ => False) H H2 → tephralaw07_Model_shows.l2 J0 (Addr.mk b 0 none) st.index st.term p x H2 (j : Int) (TellPost H (.bool true)) := by
    intro n
    induction n with
    | zero =>
      intro j H2 hj m
      apply tephralaw07_Model_shows.l2.step; unfold tephralaw07_Model_shows.l2.body
      refine Br.no (by simp; omega) ?_
      have := law_Right_spec (i := st.index) (t := st.term) (h.mod m).rr (by omega) (by omega)
      rw [decide_eq_true ok.right] at this
      exact bool_step this m fun H3 m3 => ⟨rfl, m3⟩
    | succ n ih =>
      intro j H2 hj m
      apply tephralaw07_Model_shows.l2.step; unfold tephralaw07_Model_shows.l2.body
      have hjl : j < st.ss.length := by omega
      obtain ⟨a, ha, hrow⟩ := row_get' (by omega) ssC_len (h.mod m).2 hjl
      refine Br.yes (by simp; omega) ⟨⟨by omega, by omega⟩, vPtr.mk a ha ⟨st.ss[j].2.client, st.ss[j].2.seq, st.ss[j].2.err, st.ss[j].2.value, by simpa [ssC] using hrow, fun H3 h3 => ?_⟩⟩
      obtain ⟨m3, _⟩ := hole_facts h3
      have M3 := M.mod (m.trans m3)
      refine ⟨_, M3.mb.at3, _, _, M3.lookS _, ?_⟩
      have hv : valL st.ss st.ss[j].2.client = some st.ss[j].2 := (valL_mem ok.rs).2 (by rw [(ok.sb _ (List.getElem_mem hjl)).1]; exact List.getElem_mem hjl)
      have hD := M3.lookD st.ss[j].2.client
      rw [hv] at hD ⊢
      apply tephralaw07_Model_shows.k4.step; unfold tephralaw07_Model_shows.k4.body
      refine Br.no rfl (Br.no (by simp) ⟨_, M3.mb.at4, _, _, ⟨_, hD⟩, Br.no ?_ ?_⟩)
      · show (!((st.ss[j].2.err == st.ss[j].2.err) && ((st.ss[j].2.value == st.ss[j].2.value) && true))) = false
        rw [Go.Proofs.beq_ba, decide_eq_true rfl]; simp
      · rw [w64_id (x := (j : Int) + 1) (by omega) (by omega)]
        have := ih (j + 1) H3 (by omega) (m.trans m3)
        simpa using this
  have loop1 : ∀ (n j : Nat) (H2 : Hp), j + n = st.kv.length → Mod (fun _ => False) H H2 → tephralaw07_Model_shows.l1 J0 (Addr.mk b 0 none) st.index st.term p x H2 (j : Int) (TellPost H (.bool true)) := by
    intro n
    induction n with
    | zero =>
      intro j H2 hj m
      apply tephralaw07_Model_shows.l1.step; unfold tephralaw07_Model_shows.l1.body
      exact Br.no (by simp; omega) (loop2 st.ss.length 0 H2 (by omega) m)
    | succ n ih =>
      intro j H2 hj m
      apply tephralaw07_Model_shows.l1.step; unfold tephralaw07_Model_shows.l1.body
      have hjl : j < st.kv.length := by omega
      obtain ⟨a, ha, hrow⟩ := row_get' (by omega) kvC_len (h.mod m).1 hjl
      refine Br.yes (by simp; omega) ⟨⟨by omega, by omega⟩, vPtr.mk a ha ⟨st.kv[j].1, st.kv[j].2, false, by simpa [kvC] using hrow, fun H3 h3 => ?_⟩⟩
      obtain ⟨m3, _⟩ := hole_facts h3
      have M3 := M.mod (m.trans m3)
      refine ⟨_, M3.mb.at2, _, _, M3.lookK _, ?_⟩
      have hv : valL st.kv st.kv[j].1 = some st.kv[j].2 := (valL_mem ok.rk).2 (List.getElem_mem hjl)
      rw [hv]
      apply tephralaw07_Model_shows.k2.step; unfold tephralaw07_Model_shows.k2.body
      refine Br.no rfl ?_
      apply tephralaw07_Model_shows.k3.step; unfold tephralaw07_Model_shows.k3.body
      refine Br.no (by show (!(st.kv[j].2.toList == st.kv[j].2.toList)) = false; simp) ?_
      rw [w64_id (x := (j : Int) + 1) (by omega) (by omega)]
      have := ih (j + 1) H3 (by omega) (m.trans m3)
      simpa using this
  apply tephralaw07_Model_shows.k1.step; unfold tephralaw07_Model_shows.k1.body
  exact Br.no (by rw [hl1, l2]; simp) (loop1 st.kv.length 0 H1 (by omega) m1)
end
end Go.Proofs
