/- DELTAS: their bytes, Same; three are joined. -/
import Derived.Test.YthehagkjoofjiaaKd9
set_option linter.all false
set_option linter.constructorNameAsVariable false
namespace Go.Proofs
open Go Go.KC

def dlB (d : Dl) : List UInt8 := be d.from 8 ++ (be d.to 8 ++ (be d.term 8 ++ rowsB d.ps d.xs))
section
variable {H : Hp}
theorem DBytes_spec {d : Dl} {p s : Sl} (hr : RR H p s d.ps d.xs) (hl : (dlB d).length ≤ 140737488355328) :
    SCalls Try.prog delta_Bytes.id [dlV d p s] H (BP H (dlB d)) := by
  apply delta_Bytes.calls (dFrom := d.from) (dTo := d.to) (dTerm := d.term) (dPairs := p) (dSessions := s)
  intro H1 e1 b hb H2 e2
  obtain ⟨m1, s1⟩ := hole_facts e1
  obtain ⟨q2, m2, s2⟩ := push_facts e2
  have hl' : 40 + (prsB d.ps).length + (sesB d.xs).length ≤ 140737488355328 := by unfold dlB at hl; simp only [List.length_append, be_length, rowsB_len] at hl; omega
  have hbz : H.size ≤ b := by omega
  have hF : ∀ g ∈ [b], H.size ≤ g := fun g hg => by simp at hg; omega
  have W2 : WrQ H b [b] [] H2 := ⟨[b], by rw [hb, e2]; exact Wr.new H1, (m1.trans m2).mono fun _ _ e => e.elim, fun g hg => Or.inl hg⟩
  refine W2.num (by simp) fun H3 w3 => ?_
  refine w3.num (by simp only [List.length_append, be_length, List.length_nil]; omega) fun H4 w4 => ?_
  refine w4.num (by simp only [List.length_append, be_length, List.length_nil]; omega) fun H5 w5 => ?_
  apply delta_Bytes.k1.step; unfold delta_Bytes.k1.body
  refine (PutRows_spec w5 (fun H' m => hr.mod (Mod.fresh m hF)) (by simp only [List.length_append, be_length, List.length_nil, rowsB_len]; omega)).mono ?_
  rintro r H6 ⟨rfl, w6⟩
  refine ⟨rfl, ?_⟩
  have m06 := w6.fresh hF
  obtain ⟨F6, W6, _, _⟩ := w6
  refine (Writer_Bytes_spec W6 (by simp only [List.length_append, be_length, List.length_nil, rowsB_len]; omega)).mono ?_
  rintro r H7 ⟨x, rfl, o, m7, hb7⟩
  refine ⟨x, rfl, x, rfl, ?_, m06.trans m7, fun g hg => by have := hb7 g hg; have := m06.size; omega⟩
  unfold dlB
  simpa [List.append_assoc] using o
theorem DSame_spec {d e : Dl} {p s p' s' : Sl} (hr : RR H p s d.ps d.xs) (hr' : RR H p' s' e.ps e.xs) (hl : (dlB d).length ≤ 140737488355328) (hl' : (dlB e).length ≤ 140737488355328) :
    SCalls Try.prog delta_Same.id [dlV d p s, dlV e p' s'] H (TellPost H (.bool (decide (dlB d = dlB e)))) := by
  apply delta_Same.calls (aFrom := d.from) (aTo := d.to) (aTerm := d.term) (aPairs := p) (aSessions := s) (bFrom := e.from) (bTo := e.to) (bTerm := e.term) (bPairs := p') (bSessions := s')
  intro H1 e1 H2 e2
  obtain ⟨m1, s1⟩ := hole_facts e1
  obtain ⟨m2, s2⟩ := hole_facts e2
  refine (DBytes_spec (hr.mod (m1.trans m2)) hl).mono ?_
  rintro r H3 ⟨x, rfl, o3, m3, b3⟩
  have m03 := m1.trans (m2.trans m3)
  refine ⟨x, rfl, b2s_imp (bytes_str o3) ?_, ?_⟩
  · rintro _ rfl
    refine (DBytes_spec (hr'.mod m03) hl').mono ?_
    rintro r H4 ⟨x1, rfl, o4, m4, b4⟩
    refine ⟨x1, rfl, b2s_imp (bytes_str o4) ?_⟩
    rintro _ rfl
    rw [same_bytes]
    exact ⟨rfl, m03.trans m4⟩
  · refine (DBytes_spec (hr'.mod m03) hl').mono ?_
    rintro r H4 ⟨x1, rfl, o4, m4, b4⟩
    have o3' := o3.keep m4 fun _ _ e => e
    refine ⟨x1, rfl, b2s_imp (bytes_str o3') ?_, b2s_imp (bytes_str o4) ?_⟩
    · rintro _ rfl
      refine b2s_imp (bytes_str o4) ?_
      rintro _ rfl
      rw [same_bytes]
      exact ⟨rfl, m03.trans m4⟩
    · rintro _ rfl
      refine b2s_imp (bytes_str o3') ?_
      rintro _ rfl
      rw [same_bytes]
      exact ⟨rfl, m03.trans m4⟩
end

/-- Rows under their keys, once. -/
theorem byKey_mrg {a b : List Pr} (ha : Rise (PP.byKey a)) (hb : Rise (PP.byKey b)) : PP.byKey (mrg a b) = mergeL (PP.byKey a) (PP.byKey b) := by
  unfold mrg
  have h : ∀ q ∈ mergeL (PP.byKey a) (PP.byKey b), q.2.key = q.1 := by
    rintro ⟨k, p⟩ hq
    rcases ((mergeL_spec _ _ ha hb).2 k p).1 hq with h | ⟨h, _⟩
    · exact (mem_byKey.1 h).2
    · exact (mem_byKey.1 h).2
  generalize mergeL (PP.byKey a) (PP.byKey b) = L at h
  unfold PP.byKey
  rw [List.map_map]
  exact (List.map_congr_left fun q hq => by
    show ((q.2).key, q.2) = id q
    rw [h q hq]; rfl).trans (List.map_id _)
theorem rise_mrg {a b : List Pr} (ha : Rise (PP.byKey a)) (hb : Rise (PP.byKey b)) : Rise (PP.byKey (mrg a b)) := by
  rw [byKey_mrg ha hb]; exact (mergeL_spec _ _ ha hb).1
theorem mergeL_assoc {A B C : List (ByteArray × Pr)} (ha : Rise A) (hb : Rise B) (hc : Rise C) : mergeL (mergeL A B) C = mergeL A (mergeL B C) := by
  obtain ⟨r1, m1⟩ := mergeL_spec A B ha hb
  obtain ⟨r2, m2⟩ := mergeL_spec B C hb hc
  obtain ⟨r3, m3⟩ := mergeL_spec _ C r1 hc
  obtain ⟨r4, m4⟩ := mergeL_spec A _ ha r2
  refine Rise.ext r3 r4 ?_
  rintro ⟨k, v⟩
  rw [m3, m4, m1, m2]
  by_cases h : ∃ w, (k, w) ∈ C
  · obtain ⟨w, hw⟩ := h
    constructor
    · rintro (h | ⟨_, h⟩)
      · exact Or.inl (Or.inl h)
      · exact absurd hw (h w)
    · rintro ((h | ⟨_, h⟩) | ⟨_, h⟩)
      · exact Or.inl h
      · exact absurd hw (h w)
      · exact absurd ((m2 k w).2 (Or.inl hw)) (h w)
  · have hn : ∀ w, (k, w) ∉ C := fun w hw => h ⟨w, hw⟩
    constructor
    · rintro (h | ⟨h | ⟨h, h'⟩, _⟩)
      · exact absurd h (hn v)
      · exact Or.inl (Or.inr ⟨h, hn⟩)
      · refine Or.inr ⟨h, fun w hw => ?_⟩
        rcases (m2 k w).1 hw with h1 | ⟨h1, _⟩
        · exact hn w h1
        · exact h' w h1
    · rintro ((h | ⟨h, _⟩) | ⟨h, h'⟩)
      · exact absurd h (hn v)
      · exact Or.inr ⟨Or.inl h, hn⟩
      · exact Or.inr ⟨Or.inr ⟨h, fun w hw => h' w ((m2 k w).2 (Or.inr ⟨hw, hn⟩))⟩, hn⟩
theorem mrg_assoc {a b c : List Pr} (ha : Rise (PP.byKey a)) (hb : Rise (PP.byKey b)) (hc : Rise (PP.byKey c)) : mrg (mrg a b) c = mrg a (mrg b c) := by
  have e1 := byKey_mrg ha hb
  have e2 := byKey_mrg hb hc
  show (mergeL (PP.byKey (mrg a b)) (PP.byKey c)).map (·.2) = (mergeL (PP.byKey a) (PP.byKey (mrg b c))).map (·.2)
  rw [e1, e2, mergeL_assoc ha hb hc]
theorem mrg_len (a b : List Pr) : (mrg a b).length ≤ a.length + b.length := by
  unfold mrg
  rw [List.length_map]
  refine Nat.le_trans (mergeL_length _ _) ?_
  rw [PP.byKey_len, PP.byKey_len]; omega
/-- Rows are short. -/
def Sh (l : List Pr) : Prop := ∀ p ∈ l, p.key.size ≤ 8 ∧ p.value.size ≤ 16
theorem Sh.mrg {a b : List Pr} (ha : Rise (PP.byKey a)) (hb : Rise (PP.byKey b)) (h : Sh a) (h' : Sh b) : Sh (mrg a b) := by
  intro p hp
  have : (p.key, p) ∈ PP.byKey (Go.Proofs.mrg a b) := mem_byKey.2 ⟨hp, rfl⟩
  rw [byKey_mrg ha hb, (mergeL_spec _ _ ha hb).2] at this
  rcases this with g | ⟨g, _⟩
  · exact h' p (mem_byKey.1 g).1
  · exact h p (mem_byKey.1 g).1
theorem Sh.btw {s t : Stt} (os : s.Ok) (ot : t.Ok) : Sh (btw s.kv t.kv) := by
  intro p hp
  have : (p.key, p) ∈ PP.byKey (Go.Proofs.btw s.kv t.kv) := mem_byKey.2 ⟨hp, rfl⟩
  rcases (mem_btw os.rk ot.rk).1 this with ⟨_, ⟨v, h⟩, e⟩ | ⟨v, h, _, e⟩
  · have := os.kb _ ((valL_mem os.rk).1 h)
    rw [e]
    exact ⟨this.2.1, Nat.zero_le _⟩
  · have := ot.kb _ ((valL_mem ot.rk).1 h)
    rw [e]
    exact this.2
theorem applyM_up (s : Stt) (e : En) : s.index ≤ (applyM s e).1.index ∧ s.term ≤ (applyM s e).1.term := by
  unfold applyM
  split
  · exact ⟨Int.le_refl _, Int.le_refl _⟩
  · split
    · exact ⟨Int.le_refl _, Int.le_refl _⟩
    · split
      · dsimp only; omega
      · rw [(cmdM_it _ _).1, (cmdM_it _ _).2]; dsimp only; omega
theorem foldM_up : ∀ (es : List En) (s : Stt), s.index ≤ (foldM s es).index ∧ s.term ≤ (foldM s es).term
  | [], s => ⟨Int.le_refl _, Int.le_refl _⟩
  | e :: es, s => by
    have h1 := foldM_up es (applyM s e).1
    have h2 := applyM_up s e
    exact ⟨Int.le_trans h2.1 h1.1, Int.le_trans h2.2 h1.2⟩
end Go.Proofs
