/- STATES: the law's own Right. -/
import Derived.Test.YtgndfbbgomlbeaaKu8
set_option linter.all false
set_option linter.constructorNameAsVariable false
namespace Go.Proofs
open Go Go.KC
section
variable {H : Hp}
theorem rows_law_spec {p s : Sl} {ps : List Pr} {xs : List Se} {most : Int} (hr : RR H p s ps xs) (hp : p.len ≤ 9223372036854775807) (hs : s.len ≤ 9223372036854775807) :
    SCalls Try.prog tephralaw07_rows.id [.slice p.a p.len p.cap, .slice s.a s.len s.cap, .int .i64 most] H (TellPost H (.bool (decide (RowsOk ps xs most)))) := by
  obtain ⟨lp, ls⟩ := hr.lens
  apply tephralaw07_rows.calls
  have loop2 : ∀ (d j : Nat) (H2 : Hp), j + d = xs.length → Mod (fun _ => False) H H2 → PrsTo ps ps.length → SesTo xs j →
      tephralaw07_rows.l2 J0 p s most H2 (j : Int) (TellPost H (.bool (decide (RowsOk ps xs most)))) := by
    intro d
    induction d with
    | zero =>
      intro j H2 hj m h1 h2
      apply tephralaw07_rows.l2.step; unfold tephralaw07_rows.l2.body
      obtain rfl : j = xs.length := by omega
      refine Br.no (by simp; omega) ⟨?_, m⟩
      rw [← lp]
      congr 1
      refine decide_eq_decide.2 ⟨fun h => ⟨h1, h2, h⟩, fun h => h.2.2⟩
    | succ d ih =>
      intro j H2 hj m h1 h2
      apply tephralaw07_rows.l2.step; unfold tephralaw07_rows.l2.body
      have hjl : j < xs.length := by omega
      obtain ⟨a, ha, hrow⟩ := row_get' (by omega) Se.row_len (hr.mod m).2 hjl
      refine Br.yes (by simp; omega) ⟨⟨by omega, by omega⟩, vPtr.mk a ha ⟨xs[j].client, xs[j].seq, xs[j].err, xs[j].value, by simpa [Se.row] using hrow, fun H3 e3 => ?_⟩⟩
      obtain ⟨m3, s3⟩ := hole_facts e3
      have no : (¬ (xs[j].Ok ∧ ∀ _ : 0 < j, (xs[j - 1]'(by omega)).client < xs[j].client)) → tephralaw07_rows.k2 J0 p s most (j : Int) xs[j].client xs[j].seq xs[j].err xs[j].value H3 true (TellPost H (.bool (decide (RowsOk ps xs most)))) := by
        intro hn
        apply tephralaw07_rows.k2.step; unfold tephralaw07_rows.k2.body
        refine Br.yes rfl ⟨?_, m.trans m3⟩
        rw [decide_eq_false fun h : RowsOk ps xs most => hn (h.2.1 j hjl hjl)]
      have yes : xs[j].Ok → (∀ _ : 0 < j, (xs[j - 1]'(by omega)).client < xs[j].client) → tephralaw07_rows.k2 J0 p s most (j : Int) xs[j].client xs[j].seq xs[j].err xs[j].value H3 false (TellPost H (.bool (decide (RowsOk ps xs most)))) := by
        intro g1 g2
        apply tephralaw07_rows.k2.step; unfold tephralaw07_rows.k2.body
        refine Br.no rfl ?_
        rw [w64_id (x := (j : Int) + 1) (by omega) (by omega)]
        have := ih (j + 1) H3 (by omega) (m.trans m3) h1 (h2.snoc hjl g1 g2)
        simpa using this
      refine Br.mk (fun h => no fun ⟨⟨a1, a2, a3, a4, a5, a6, a7⟩, _⟩ => by have := of_decide_eq_true h; omega) fun h => ?_
      have b1 := of_decide_eq_false h
      refine Br.mk (fun h => no fun ⟨⟨a1, a2, a3, a4, a5, a6, a7⟩, _⟩ => by have := of_decide_eq_true h; omega) fun h => ?_
      have b2 := of_decide_eq_false h
      refine Br.mk (fun h => no fun ⟨⟨a1, a2, a3, a4, a5, a6, a7⟩, _⟩ => by have := of_decide_eq_true h; omega) fun h => ?_
      have b3 := of_decide_eq_false h
      refine Br.mk (fun h => no fun ⟨⟨a1, a2, a3, a4, a5, a6, a7⟩, _⟩ => by have := of_decide_eq_true h; omega) fun h => ?_
      have b4 := of_decide_eq_false h
      refine Br.mk (fun h => no fun ⟨⟨a1, a2, a3, a4, a5, a6, a7⟩, _⟩ => by have := of_decide_eq_true h; omega) fun h => ?_
      have b5 := of_decide_eq_false h
      refine Br.mk (fun h => no fun ⟨⟨a1, a2, a3, a4, a5, a6, a7⟩, _⟩ => by have := of_decide_eq_true h; omega) fun h => ?_
      have b6 := of_decide_eq_false h
      refine Br.mk (fun h => no fun ⟨⟨a1, a2, a3, a4, a5, a6, a7⟩, _⟩ => by have := of_decide_eq_true h; omega) fun h => ?_
      have b7 := of_decide_eq_false h
      have ok : xs[j].Ok := ⟨by omega, by omega, by omega, by omega, by omega, by omega, by omega⟩
      refine Br.mk (fun h => ?_) fun h => yes ok fun h0 => by have := of_decide_eq_false h; omega
      have h0 : 0 < j := by have := of_decide_eq_true h; omega
      rw [w64_id (x := (j : Int) - 1) (by omega) (by omega)]
      refine ⟨⟨by omega, by omega⟩, ?_⟩
      obtain ⟨a1, ha1, hrow1⟩ := row_get' (by omega) Se.row_len (hr.mod (m.trans m3)).2 (show j - 1 < xs.length by omega)
      refine vPtr.mk a1 ha1 ⟨(xs[j - 1]'(by omega)).client, ?_, ?_⟩
      · have := hrow1 0 (.int .i64 (xs[j - 1]'(by omega)).client) rfl
        have e : ((j : Int) - 1).toNat = j - 1 := by omega
        rw [e]
        rwa [add_zero_of] at this
      · by_cases c : (xs[j - 1]'(by omega)).client ≥ xs[j].client
        · rw [decide_eq_true c]; exact no fun ⟨_, g⟩ => by have := g h0; omega
        · rw [decide_eq_false c]; exact yes ok fun _ => by omega
  have loop1 : ∀ (d j : Nat) (H2 : Hp), j + d = ps.length → Mod (fun _ => False) H H2 → PrsTo ps j →
      tephralaw07_rows.l1 J0 p s most H2 (j : Int) (TellPost H (.bool (decide (RowsOk ps xs most)))) := by
    intro d
    induction d with
    | zero =>
      intro j H2 hj m h1
      apply tephralaw07_rows.l1.step; unfold tephralaw07_rows.l1.body
      obtain rfl : j = ps.length := by omega
      exact Br.no (by simp; omega) (loop2 xs.length 0 H2 (by omega) m h1 fun i hi h => by omega)
    | succ d ih =>
      intro j H2 hj m h1
      apply tephralaw07_rows.l1.step; unfold tephralaw07_rows.l1.body
      have hjl : j < ps.length := by omega
      obtain ⟨a, ha, hrow⟩ := row_get' (by omega) Pr.row_len (hr.mod m).1 hjl
      refine Br.yes (by simp; omega) ⟨⟨by omega, by omega⟩, vPtr.mk a ha ⟨ps[j].key, ps[j].value, ps[j].gone, by simpa [Pr.row] using hrow, fun H3 e3 => ?_⟩⟩
      obtain ⟨m3, s3⟩ := hole_facts e3
      have no : (¬ (ps[j].Ok ∧ ∀ _ : 0 < j, KO.lt (ps[j - 1]'(by omega)).key ps[j].key)) → tephralaw07_rows.k1 J0 p s most (j : Int) ps[j].key ps[j].value ps[j].gone H3 true (TellPost H (.bool (decide (RowsOk ps xs most)))) := by
        intro hn
        apply tephralaw07_rows.k1.step; unfold tephralaw07_rows.k1.body
        refine Br.yes rfl ⟨?_, m.trans m3⟩
        rw [decide_eq_false fun h : RowsOk ps xs most => hn (h.1 j hjl hjl)]
      have yes : ps[j].Ok → (∀ _ : 0 < j, KO.lt (ps[j - 1]'(by omega)).key ps[j].key) → tephralaw07_rows.k1 J0 p s most (j : Int) ps[j].key ps[j].value ps[j].gone H3 false (TellPost H (.bool (decide (RowsOk ps xs most)))) := by
        intro g1 g2
        apply tephralaw07_rows.k1.step; unfold tephralaw07_rows.k1.body
        refine Br.no rfl ?_
        rw [w64_id (x := (j : Int) + 1) (by omega) (by omega)]
        have := ih (j + 1) H3 (by omega) (m.trans m3) (h1.snoc hjl g1 g2)
        simpa using this
      have last : ps[j].Ok → Br (decide ((j : Int) > 0)) (((0 : Int) ≤ (w64 ((j : Int) - 1)) ∧ (w64 ((j : Int) - 1)) < ((p.len : Nat) : Int)) ∧ vPtr p.a (fun a1 => ∃ Key1 : ByteArray, Hp.cell? H3 (a1.add (((w64 ((j : Int) - 1)) : Int).toNat * 3)) = some (.string Key1) ∧ 
          tephralaw07_rows.k1 J0 p s most (j : Int) ps[j].key ps[j].value ps[j].gone H3 ((Op.bytesLess (ps[j].key).toList Key1.toList) || ((ps[j].key).toList == Key1.toList)) (TellPost H (.bool (decide (RowsOk ps xs most))))))
          (tephralaw07_rows.k1 J0 p s most (j : Int) ps[j].key ps[j].value ps[j].gone H3 false (TellPost H (.bool (decide (RowsOk ps xs most))))) := by
        intro ok
        refine Br.mk (fun h => ?_) fun h => yes ok fun h0 => by have := of_decide_eq_false h; omega
        have h0 : 0 < j := by have := of_decide_eq_true h; omega
        rw [w64_id (x := (j : Int) - 1) (by omega) (by omega)]
        refine ⟨⟨by omega, by omega⟩, ?_⟩
        obtain ⟨a1, ha1, hrow1⟩ := row_get' (by omega) Pr.row_len (hr.mod (m.trans m3)).1 (show j - 1 < ps.length by omega)
        refine vPtr.mk a1 ha1 ⟨(ps[j - 1]'(by omega)).key, ?_, ?_⟩
        · have := hrow1 0 (.string (ps[j - 1]'(by omega)).key) rfl
          have e : ((j : Int) - 1).toNat = j - 1 := by omega
          rw [e]
          rwa [add_zero_of] at this
        · have tri := KO.tri (ps[j - 1]'(by omega)).key ps[j].key
          have e : ((Op.bytesLess (ps[j].key).toList (ps[j - 1]'(by omega)).key.toList) || ((ps[j].key).toList == (ps[j - 1]'(by omega)).key.toList)) = !decide (KO.lt (ps[j - 1]'(by omega)).key ps[j].key) := by
            rw [beq_list]
            by_cases c : KO.lt (ps[j - 1]'(by omega)).key ps[j].key
            · have c1 : Op.bytesLess (ps[j].key).toList (ps[j - 1]'(by omega)).key.toList = false := by
                have := KO.asymm c
                cases hb : Op.bytesLess (ps[j].key).toList (ps[j - 1]'(by omega)).key.toList with
                | true => exact (this hb).elim
                | false => rfl
              have c2 := (KO.ne c).symm
              rw [c1, decide_eq_false c2, decide_eq_true c]; rfl
            · rw [decide_eq_false c]
              rcases tri with h | h | h
              · exact (c h).elim
              · rw [decide_eq_true h.symm]; simp
              · rw [show Op.bytesLess (ps[j].key).toList (ps[j - 1]'(by omega)).key.toList = true from h]; rfl
          rw [e]
          by_cases c : KO.lt (ps[j - 1]'(by omega)).key ps[j].key
          · rw [decide_eq_true c]; exact yes ok fun _ => c
          · rw [decide_eq_false c]; exact no fun ⟨_, g⟩ => c (g h0)
      refine Br.mk (fun h => no fun ⟨⟨a1, a2, a3, a4⟩, _⟩ => by have := of_decide_eq_true h; omega) fun h => ?_
      have b1 := of_decide_eq_false h
      refine Br.mk (fun h => no fun ⟨⟨a1, a2, a3, a4⟩, _⟩ => by have := of_decide_eq_true h; omega) fun h => ?_
      have b2 := of_decide_eq_false h
      refine Br.mk (fun h => no fun ⟨⟨a1, a2, a3, a4⟩, _⟩ => by have := of_decide_eq_true h; omega) fun h => ?_
      have b3 := of_decide_eq_false h
      refine Br.mk (fun hg => ?_) fun hg => last ⟨by omega, by omega, by omega, fun e => by rw [hg] at e; cases e⟩
      refine Br.mk (fun h => no fun ⟨⟨a1, a2, a3, a4⟩, _⟩ => ?_) fun h => last ⟨by omega, by omega, by omega, fun _ => ?_⟩
      · have := a4 hg; have := of_decide_eq_true h; omega
      · have := of_decide_eq_false h; omega
  exact loop1 ps.length 0 H (by omega) (Mod.refl _ _) fun i hi h => by omega

theorem law_Right_spec {i t : Int} {p s : Sl} {ps : List Pr} {xs : List Se} (hr : RR H p s ps xs) (hp : p.len ≤ 9223372036854775807) (hs : s.len ≤ 9223372036854775807) :
    SCalls Try.prog tephralaw07_Right.id [.agg #[.int .i64 i, .int .i64 t, .slice p.a p.len p.cap, .slice s.a s.len s.cap]] H (TellPost H (.bool (decide (RightM i t ps xs)))) := by
  obtain ⟨lp, ls⟩ := hr.lens
  apply tephralaw07_Right.calls (sIndex := i) (sTerm := t) (sPairs := p) (sSessions := s)
  intro H1 e1
  obtain ⟨m1, _⟩ := hole_facts e1
  have k3 : ∀ (H2 : Hp) (b : Bool), Mod (fun _ => False) H H2 → (∀ p ∈ ps, p.gone = false) → (b = true ↔ 0 ≤ i ∧ i ≤ 1048576 ∧ 0 ≤ t ∧ t ≤ 1048576) → tephralaw07_Right.k3 J0 i t p s H2 b (TellPost H (.bool (decide (RightM i t ps xs)))) := by
    intro H2 b m hg hb
    apply tephralaw07_Right.k3.step; unfold tephralaw07_Right.k3.body
    refine Br.mk (fun h => ?_) (fun h => ?_)
    · have hb := hb.1 h
      refine (rows_law_spec (most := 64) (hr.mod m) hp hs).mono ?_
      rintro r H3 ⟨rfl, m3⟩
      refine ⟨_, rfl, ?_, m.trans m3⟩
      congr 1
      exact decide_eq_decide.2 ⟨fun h => ⟨hg, hb.1, hb.2.1, hb.2.2.1, hb.2.2.2, h⟩, fun h => h.2.2.2.2.2⟩
    · refine ⟨?_, m⟩
      rw [decide_eq_false fun g : RightM i t ps xs => by have := hb.2 ⟨g.2.1, g.2.2.1, g.2.2.2.1, g.2.2.2.2.1⟩; rw [h] at this; cases this]
  have k2 : ∀ (H2 : Hp) (b : Bool), Mod (fun _ => False) H H2 → (∀ p ∈ ps, p.gone = false) → (b = true ↔ 0 ≤ i ∧ i ≤ 1048576 ∧ 0 ≤ t) → tephralaw07_Right.k2 J0 i t p s H2 b (TellPost H (.bool (decide (RightM i t ps xs)))) := by
    intro H2 b m hg hb
    apply tephralaw07_Right.k2.step; unfold tephralaw07_Right.k2.body
    refine Br.mk (fun h => k3 H2 _ m hg ?_) (fun h => k3 H2 _ m hg ?_)
    · have := hb.1 h; simp; omega
    · simp; intro g1 g2 g3; have := hb.2 ⟨g1, g2, g3⟩; rw [h] at this; cases this
  have k1 : ∀ (H2 : Hp) (b : Bool), Mod (fun _ => False) H H2 → (∀ p ∈ ps, p.gone = false) → (b = true ↔ 0 ≤ i ∧ i ≤ 1048576) → tephralaw07_Right.k1 J0 i t p s H2 b (TellPost H (.bool (decide (RightM i t ps xs)))) := by
    intro H2 b m hg hb
    apply tephralaw07_Right.k1.step; unfold tephralaw07_Right.k1.body
    refine Br.mk (fun h => k2 H2 _ m hg ?_) (fun h => k2 H2 _ m hg ?_)
    · have := hb.1 h; simp; omega
    · simp; intro g1 g2; have := hb.2 ⟨g1, g2⟩; rw [h] at this; cases this
  have loop : ∀ (d j : Nat) (H2 : Hp), j + d = ps.length → Mod (fun _ => False) H H2 → (∀ q ∈ ps.take j, q.gone = false) →
      tephralaw07_Right.l1 J0 i t p s H2 (j : Int) (TellPost H (.bool (decide (RightM i t ps xs)))) := by
    intro d
    induction d with
    | zero =>
      intro j H2 hj m hg
      apply tephralaw07_Right.l1.step; unfold tephralaw07_Right.l1.body
      rw [List.take_of_length_le (by omega)] at hg
      refine Br.no (by simp; omega) (Br.mk (fun h => k1 H2 _ m hg ?_) (fun h => k1 H2 _ m hg ?_))
      · have := of_decide_eq_true h; simp; omega
      · have := of_decide_eq_false h; simp; omega
    | succ d ih =>
      intro j H2 hj m hg
      apply tephralaw07_Right.l1.step; unfold tephralaw07_Right.l1.body
      have hjl : j < ps.length := by omega
      obtain ⟨a, ha, hrow⟩ := row_get' (by omega) Pr.row_len (hr.mod m).1 hjl
      refine Br.yes (by simp; omega) ⟨⟨by omega, by omega⟩, vPtr.mk a ha ⟨ps[j].key, ps[j].value, ps[j].gone, by simpa [Pr.row] using hrow, fun H3 e3 => ?_⟩⟩
      obtain ⟨m3, s3⟩ := hole_facts e3
      refine Br.mk (fun h => ⟨?_, m.trans m3⟩) (fun h => ?_)
      · rw [decide_eq_false fun g : RightM i t ps xs => by have := g.1 _ (List.getElem_mem hjl); rw [h] at this; cases this]
      · rw [w64_id (x := (j : Int) + 1) (by omega) (by omega)]
        have := ih (j + 1) H3 (by omega) (m.trans m3) (fun q hq => by
          rw [List.take_succ_eq_append_getElem hjl, List.mem_append, List.mem_singleton] at hq
          rcases hq with hq | rfl
          · exact hg q hq
          · exact h)
        simpa using this
  exact loop ps.length 0 H1 (by omega) m1 (by simp)
end
end Go.Proofs
