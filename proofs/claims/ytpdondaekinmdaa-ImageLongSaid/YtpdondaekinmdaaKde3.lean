/- LAYER 09: a file of a delta: Delta, ReadDelta. -/
import Derived.Test.YtpdondaekinmdaaKbx17
import Derived.Test.YtpdondaekinmdaaKde2
set_option linter.all false
set_option linter.constructorNameAsVariable false
set_option maxRecDepth 100000
namespace Go.Proofs
open Go Go.KC
section
variable {H : Hp} {x : Sl} {bs : List UInt8}
theorem Delta_spec {d : Dl} {p s : Sl} (hr : RR H p s d.ps d.xs) (hl : (dlB d).length ≤ 140737488355328) :
    SCalls Try.prog image_Delta.id [dlV d p s] H (FrPost H [hdB 1 d.from d.to, dlB d]) := by
  apply image_Delta.calls (dFrom := d.from) (dTo := d.to) (dTerm := d.term) (dPairs := p) (dSessions := s)
  unfold image_Delta.vc
  intro H1 e1
  obtain ⟨m1, s1⟩ := hole_facts e1
  refine head_spec.mono ?_
  rintro r H2 ⟨x, rfl, o2, m2, f2⟩
  refine ⟨x, rfl, (DBytes_spec (hr.mod (m1.trans m2)) hl).mono ?_⟩
  rintro r H3 ⟨y, rfl, o3, m3, f3⟩
  refine ⟨y, rfl, ?_⟩
  rintro b rfl H4 h4
  obtain ⟨g4, m4, s4⟩ := push_facts h4
  have m34 := m3.trans m4
  have z1 := m1.size
  have z2 := m2.size
  have z3 := m3.size
  refine (frames_spec (rows := ⟨some (Addr.mk H3.size 0 none), 2, 2⟩) (zs := [x, y]) (l := [hdB 1 d.from d.to, dlB d]) ?_ rfl (fun k z w h1 h2 => ?_) (by simp)).mono ?_
  · subst h4
    refine ⟨rfl, Nat.le_refl _, fun a ha => ?_, fun ha => by simp at ha⟩
    simp at ha
    subst ha
    intro j v hj
    rw [Addr.add_loc, cell_of (get_push_new H3 _), Nat.zero_add]
    simpa [slV] using hj
  · match k, h1, h2 with
    | 0, h1, h2 =>
      simp at h1 h2
      subst h1 h2
      exact keepF (Own.rows o2) m34
    | 1, h1, h2 =>
      simp at h1 h2
      subst h1 h2
      exact keepF (Own.rows o3) m4
  · rintro r H5 h5
    have m04 := ((m1.trans m2).trans m34)
    have z4 := m04.size
    rcases h5 with ⟨hs, w, rfl, o5, m5, f5⟩ | ⟨hs, rfl, m5⟩
    · exact ⟨w, 0, rfl, Or.inl ⟨hs, w, rfl, o5, m04.trans m5, fun q hq => Nat.le_trans z4 (f5 q hq)⟩⟩
    · exact ⟨⟨none, 0, 0⟩, 4, rfl, Or.inr ⟨hs, rfl, m04.trans m5⟩⟩

/-- Bytes are a delta's file. -/
def DfOK (bs : List UInt8) (d : Dl) : Prop := DlRight d ∧ frames bs = ([hdB 1 d.from d.to, dlB d], bs.length)
def DfPost (H : Hp) (bs : List UInt8) (r : Value) (H' : Hp) : Prop :=
  Mod (fun _ => False) H H' ∧ ((∃ (d : Dl) (p s : Sl), DfOK bs d ∧ r = .tuple #[dlV d p s, .int .i64 0] ∧ RR H' p s d.ps d.xs) ∨
  ((∀ d, ¬ DfOK bs d) ∧ r = .tuple #[.agg #[.int .i64 0, .int .i64 0, .int .i64 0, .slice none 0 0, .slice none 0 0], .int .i64 10]))

theorem ReadDelta_spec (hx : Rows H x 1 (bs.map bv)) (hl : bs.length ≤ 8000000) : SCalls Try.prog image_ReadDelta.id [.slice x.a x.len x.cap] H (DfPost H bs) := by
  apply image_ReadDelta.calls
  unfold image_ReadDelta.vc
  intro H1 e1
  obtain ⟨m1, s1⟩ := hole_facts e1
  refine (imgRows_spec (keepF hx m1) hl).mono ?_
  rintro r H2 (⟨hbad, rfl, m2⟩ | ⟨hgood, out, zs, rfl, rl, m2⟩)
  · refine ⟨⟨none, 0, 0⟩, _, _, rfl, Br.yes (by simp) ⟨m1.trans m2, Or.inr ⟨fun d hp => ?_, rfl⟩⟩⟩
    have hR := hp.1
    unfold rowsBad at hbad
    rw [rowsErr_zero.2 (by rw [hp.2]), hp.2] at hbad
    rcases hbad with h | ⟨-, h⟩ | h
    · simp at h
    · simp at h
    · obtain ⟨hi0, hi1, hi2, _⟩ := hR
      exact h (hdOK_hdB (by omega) (by omega) (by omega))
  · refine ⟨out, _, _, rfl, Br.no (by simp) ?_⟩
    have m12 := m1.trans m2
    have hfl := frames_le bs
    have hn2 : (frames bs).1.length = 2 ∧ rowsErr bs = 0 := by
      have h2 : ¬ (0 < (2 : Int) ∧ (rowsErr bs ≠ 0 ∨ ((frames bs).1.length : Int) ≠ 2)) := fun h => hgood (Or.inr (Or.inl h))
      constructor
      · by_cases h : ((frames bs).1.length : Int) = 2
        · omega
        · exact absurd ⟨by omega, Or.inr h⟩ h2
      · by_cases h : rowsErr bs = 0
        · exact h
        · exact absurd ⟨by omega, Or.inl h⟩ h2
    have hend := rowsErr_zero.1 hn2.2
    obtain ⟨y0, y1, hfr⟩ : ∃ y0 y1, (frames bs).1 = [y0, y1] := by
      match h : (frames bs).1, hn2.1 with
      | [a, b], _ => exact ⟨a, b, rfl⟩
    have hfe : frames bs = ([y0, y1], bs.length) := by rw [← hfr, ← hend]
    rw [hfr] at rl hfl
    obtain ⟨z0, z1, hzs⟩ : ∃ z0 z1, zs = [z0, z1] := by
      match h : zs, rl.2.1 with
      | [a, b], _ => exact ⟨a, b, rfl⟩
    subst hzs
    have hol : 2 = out.len := by have := rl.1.1; simpa using this
    obtain ⟨a, ha, hc1⟩ := Rows.get rl.1 (j := 1) (v := slV z1) rfl
    refine ⟨by omega, vPtr.mk a ha ⟨z1, hc1, ?_⟩⟩
    have hy1 := rl.2.2.1 1 z1 y1 rfl rfl
    have hl1 : y1.length ≤ 16384 := hfl y1 (by simp)
    refine (DRead_spec hy1 (rdCntD_small (by omega)) (rl.2.2.2 z1 (by simp))).mono ?_
    rintro r H3 ⟨p, s, rfl, rr, m3⟩
    refine ⟨_, _, _, p, s, _, rfl, ?_⟩
    intro H4 e4
    obtain ⟨m4, s4⟩ := hole_facts e4
    have m34 := m3.trans m4
    have m04 := m12.trans m34
    have no : (rdDl y1).ok = false → ∀ d, ¬ DfOK bs d := fun hno d hp => by
      have h1 := hp.2
      rw [hfe] at h1
      injection h1 with h1 _
      injection h1 with _ h1
      injection h1 with h1 _
      have := rdDl_right hp.1 (by rw [← h1]; omega)
      rw [← h1] at this
      rw [this] at hno
      exact Bool.noConfusion hno
    cases hok : (rdDl y1).ok with
    | false =>
      have q : DfPost H bs (.tuple #[.agg #[.int .i64 0, .int .i64 0, .int .i64 0, .slice none 0 0, .slice none 0 0], .int .i64 10]) H4 := ⟨m04, Or.inr ⟨no hok, rfl⟩⟩
      exact Br.yes rfl ⟨⟨q, q, q⟩, q, q⟩
    | true =>
      refine Br.no rfl ?_
      obtain ⟨hR, hB⟩ := rdDl_ok hok
      generalize (rdDl y1).d = d at *
      have rl4 := rl.keep m34
      obtain ⟨a0, ha0, hc0⟩ := Rows.get rl4.1 (j := 0) (v := slV z0) rfl
      rw [add_zero_of] at hc0
      have hy0 := rl4.2.2.1 0 z0 y0 rfl rfl
      have fin : ∀ H5, Mod (fun _ => False) H4 H5 → Br (!((ByteArray.mk y0.toArray).toList == (ByteArray.mk (hdB 1 d.from d.to).toArray).toList)) (DfPost H bs (.tuple #[.agg #[.int .i64 0, .int .i64 0, .int .i64 0, .slice none 0 0, .slice none 0 0], .int .i64 10]) H5)
          (DfPost H bs (.tuple #[.agg #[.int .i64 d.from, .int .i64 d.to, .int .i64 d.term, .slice p.a p.len p.cap, .slice s.a s.len s.cap], .int .i64 0]) H5) := fun H5 m5 => by
        rw [ba_toList_beq]
        by_cases hh : y0 = hdB 1 d.from d.to
        · rw [decide_eq_true hh]
          refine Br.no rfl ⟨m04.trans m5, Or.inl ⟨d, p, s, ⟨hR, by rw [hfe, hh, hB]⟩, rfl, rr.mod (m4.trans m5)⟩⟩
        · rw [decide_eq_false hh]
          refine Br.yes rfl ⟨m04.trans m5, Or.inr ⟨fun d' hp => hh ?_, rfl⟩⟩
          have h1 := hp.2
          rw [hfe] at h1
          injection h1 with h1 _
          injection h1 with h0 h1
          injection h1 with h1 _
          have e1 := rdDl_right hp.1 (by rw [← h1]; omega)
          have e2 := rdDl_right hR (by rw [hB]; omega)
          rw [hB, h1, e1] at e2
          injection e2 with e2
          rw [h0, e2]
      refine ⟨by omega, vPtr.mk a0 ha0 ⟨⟨z0, hc0, b2s_imp (b2s_rows hy0 rfl) ?_, ?_⟩, ?_⟩⟩
      · rintro s rfl
        refine head_spec.mono ?_
        rintro r H5 ⟨w, rfl, o5, m5, -⟩
        refine ⟨w, rfl, b2s_imp (b2s_rows (Own.rows o5) rfl) ?_⟩
        rintro s rfl
        exact fin _ m5
      · refine head_spec.mono ?_
        rintro r H5 ⟨w, rfl, o5, m5, -⟩
        refine ⟨w, rfl, b2s_imp (b2s_rows (keepF hy0 m5) rfl) ?_, b2s_imp (b2s_rows (Own.rows o5) rfl) ?_⟩
        · rintro s rfl
          refine b2s_imp (b2s_rows (Own.rows o5) rfl) ?_
          rintro s rfl
          exact fin _ m5
        · rintro s rfl
          refine b2s_imp (b2s_rows (keepF hy0 m5) rfl) ?_
          rintro s rfl
          exact fin _ m5
      · refine head_spec.mono ?_
        rintro r H5 ⟨w, rfl, o5, m5, -⟩
        refine ⟨w, rfl, z0, by have := (rl4.keep m5).1; obtain ⟨a', ha', hc'⟩ := Rows.get this (j := 0) (v := slV z0) rfl; rw [add_zero_of] at hc'; rw [ha0] at ha'; injection ha' with ha'; rw [ha']; exact hc', b2s_imp (b2s_rows (keepF hy0 m5) rfl) ?_, b2s_imp (b2s_rows (Own.rows o5) rfl) ?_⟩
        · rintro s rfl
          refine b2s_imp (b2s_rows (Own.rows o5) rfl) ?_
          rintro s rfl
          exact fin _ m5
        · rintro s rfl
          refine b2s_imp (b2s_rows (keepF hy0 m5) rfl) ?_
          rintro s rfl
          exact fin _ m5
end
end Go.Proofs
