/- LAYER 09: a file of a state: Full, ReadFull. -/
import Derived.Test.YtpdondaekinmdaaKbx10
import Derived.Test.YtpdondaekinmdaaKub3
set_option linter.all false
set_option linter.constructorNameAsVariable false
namespace Go.Proofs
open Go Go.KC

theorem RightM.ps {i t : Int} {ps : List Pr} {xs : List Se} (h : RightM i t ps xs) : ∀ p ∈ ps, p.fits := fun p hp => by
  obtain ⟨j, hj, rfl⟩ := List.getElem_of_mem hp
  have := (h.2.2.2.2.2.1 j hj hj).1
  unfold Pr.Ok at this
  exact ⟨by omega, by omega⟩
theorem RightM.xs {i t : Int} {ps : List Pr} {xs : List Se} (h : RightM i t ps xs) : ∀ p ∈ xs, p.fits := fun p hp => by
  obtain ⟨j, hj, rfl⟩ := List.getElem_of_mem hp
  have := (h.2.2.2.2.2.2.1 j hj hj).1
  unfold Se.Ok at this
  exact ⟨by omega, by omega, by omega, by omega⟩
theorem rdSt_right {i t : Int} {ps : List Pr} {xs : List Se} (h : RightM i t ps xs) (hl : (stB i t ps xs).length ≤ 16384) : rdSt (stB i t ps xs) = ⟨i, t, ps, xs, true⟩ := by
  have h1 := prsB_ge ps
  have h2 := sesB_ge xs
  have h3 : (stB i t ps xs).length = 16 + (rowsB ps xs).length := by unfold stB; simp only [List.length_append, be_length]; omega
  have h4 := rowsB_len ps xs
  have hr := h
  obtain ⟨_, hi0, hi1, ht0, ht1, _⟩ := hr
  rw [rdSt_of (by omega) (by omega) h.ps h.xs (by omega), if_pos h]

/-- The bytes of a state's file. -/
def flB (i t : Int) (ps : List Pr) (xs : List Se) : List UInt8 := flatF [hdB 0 i i, stB i t ps xs]
theorem rowsErr_zero {xs : List UInt8} : rowsErr xs = 0 ↔ (frames xs).2 = xs.length := by
  unfold rowsErr
  constructor
  · intro h
    by_cases he : (frames xs).2 = xs.length
    · exact he
    · rw [if_neg he] at h
      exfalso
      have key : ∀ (f : Nat) (xs : List UInt8), xs.length < f → (oneM (xs.drop (frGo f xs).2)).2.2 ≠ 0 := by
        intro f
        induction f with
        | zero => intro xs h; omega
        | succ f ih =>
          intro xs hx
          by_cases h : (oneM xs).2.2 = 0
          · have hok := oneM_ok h
            have e : frGo (f + 1) xs = ((oneM xs).1 :: (frGo f (xs.drop (oneM xs).2.1.toNat)).1, (oneM xs).2.1.toNat + (frGo f (xs.drop (oneM xs).2.1.toNat)).2) := by
              show (if _ then _ else _) = _; rw [if_pos h]
            rw [e]
            have := ih (xs.drop (oneM xs).2.1.toNat) (by rw [List.length_drop]; omega)
            rw [List.drop_drop] at this
            exact this
          · have e : frGo (f + 1) xs = ([], 0) := by show (if _ then _ else _) = _; rw [if_neg h]
            rw [e, List.drop_zero]; exact h
      exact key (xs.length + 1) xs (by omega) h
  · intro h; rw [if_pos h]

section
variable {H : Hp} {x : Sl} {bs : List UInt8}
theorem Full_spec {i t : Int} {p s : Sl} {ps : List Pr} {xs : List Se} (hr : RR H p s ps xs) (hl : (stB i t ps xs).length ≤ 140737488355328) :
    SCalls Try.prog image_Full.id [.agg #[.int .i64 i, .int .i64 t, .slice p.a p.len p.cap, .slice s.a s.len s.cap]] H (FrPost H [hdB 0 i i, stB i t ps xs]) := by
  apply image_Full.calls
  unfold image_Full.vc
  intro H1 e1
  obtain ⟨m1, s1⟩ := hole_facts e1
  refine head_spec.mono ?_
  rintro r H2 ⟨x, rfl, o2, m2, f2⟩
  refine ⟨x, rfl, (Bytes_spec (hr.mod (m1.trans m2)) hl).mono ?_⟩
  rintro r H3 ⟨y, rfl, o3, m3, f3⟩
  refine ⟨y, rfl, ?_⟩
  rintro b rfl H4 h4
  obtain ⟨g4, m4, s4⟩ := push_facts h4
  have m34 := m3.trans m4
  have z1 := m1.size
  have z2 := m2.size
  have z3 := m3.size
  refine (frames_spec (rows := ⟨some (Addr.mk H3.size 0 none), 2, 2⟩) (zs := [x, y]) (l := [hdB 0 i i, stB i t ps xs]) ?_ rfl (fun k z w h1 h2 => ?_) (by simp)).mono ?_
  · subst h4
    refine ⟨rfl, Nat.le_refl _, fun a ha => ?_, fun ha => by simp at ha⟩
    simp at ha
    subst ha
    intro j v hj
    rw [Addr.add_loc, cell_of (get_push_new H3 _), Nat.zero_add]
    simpa [slV] using hj
  · match k, h1, h2 with
    | 0, h1, h2 =>
      simp at h1 h2
      subst h1 h2
      exact keepF (Own.rows o2) m34
    | 1, h1, h2 =>
      simp at h1 h2
      subst h1 h2
      exact keepF (Own.rows o3) m4
  · rintro r H5 h5
    have m04 := ((m1.trans m2).trans m34)
    have z4 := m04.size
    rcases h5 with ⟨hs, w, rfl, o5, m5, f5⟩ | ⟨hs, rfl, m5⟩
    · exact ⟨w, 0, rfl, Or.inl ⟨hs, w, rfl, o5, m04.trans m5, fun q hq => Nat.le_trans z4 (f5 q hq)⟩⟩
    · exact ⟨⟨none, 0, 0⟩, 4, rfl, Or.inr ⟨hs, rfl, m04.trans m5⟩⟩

/-- Bytes are a state's file. -/
def FlOK (bs : List UInt8) (i t : Int) (ps : List Pr) (xs : List Se) : Prop := RightM i t ps xs ∧ frames bs = ([hdB 0 i i, stB i t ps xs], bs.length)
def FlPost (H : Hp) (bs : List UInt8) (r : Value) (H' : Hp) : Prop :=
  Mod (fun _ => False) H H' ∧ ((∃ (i t : Int) (ps : List Pr) (xs : List Se) (p s : Sl), FlOK bs i t ps xs ∧ r = .tuple #[.agg #[.int .i64 i, .int .i64 t, .slice p.a p.len p.cap, .slice s.a s.len s.cap], .int .i64 0] ∧ RR H' p s ps xs) ∨
  ((∀ i t ps xs, ¬ FlOK bs i t ps xs) ∧ r = .tuple #[.agg #[.int .i64 0, .int .i64 0, .slice none 0 0, .slice none 0 0], .int .i64 10]))
theorem frames_le : ∀ (xs : List UInt8), ∀ y ∈ (frames xs).1, y.length ≤ 16384 := by
  have key : ∀ (f : Nat) (xs : List UInt8), ∀ y ∈ (frGo f xs).1, y.length ≤ 16384 := by
    intro f
    induction f with
    | zero => intro xs y hy; simp [frGo] at hy
    | succ f ih =>
      intro xs y hy
      by_cases h : (oneM xs).2.2 = 0
      · have hok := oneM_ok h
        have e : frGo (f + 1) xs = ((oneM xs).1 :: (frGo f (xs.drop (oneM xs).2.1.toNat)).1, (oneM xs).2.1.toNat + (frGo f (xs.drop (oneM xs).2.1.toNat)).2) := by
          show (if _ then _ else _) = _; rw [if_pos h]
        rw [e] at hy
        rcases List.mem_cons.1 hy with rfl | hy
        · rw [hok.2.2.2.2, List.length_take]; omega
        · exact ih _ y hy
      · have e : frGo (f + 1) xs = ([], 0) := by show (if _ then _ else _) = _; rw [if_neg h]
        rw [e] at hy; simp at hy
  exact fun xs => key _ xs

theorem ReadFull_spec (hx : Rows H x 1 (bs.map bv)) (hl : bs.length ≤ 8000000) : SCalls Try.prog image_ReadFull.id [.slice x.a x.len x.cap] H (FlPost H bs) := by
  apply image_ReadFull.calls
  unfold image_ReadFull.vc
  intro H1 e1
  obtain ⟨m1, s1⟩ := hole_facts e1
  refine (imgRows_spec (keepF hx m1) hl).mono ?_
  rintro r H2 (⟨hbad, rfl, m2⟩ | ⟨hgood, out, zs, rfl, rl, m2⟩)
  · refine ⟨⟨none, 0, 0⟩, _, _, rfl, Br.yes (by simp) ⟨m1.trans m2, Or.inr ⟨fun i t ps xs hp => ?_, rfl⟩⟩⟩
    have hR := hp.1
    unfold rowsBad at hbad
    rw [rowsErr_zero.2 (by rw [hp.2]), hp.2] at hbad
    rcases hbad with h | ⟨-, h⟩ | h
    · simp at h
    · simp at h
    · obtain ⟨_, hi0, hi1, _⟩ := hR
      exact h (hdOK_hdB (by omega) (by omega) (by omega))
  · refine ⟨out, _, _, rfl, Br.no (by simp) ?_⟩
    have m12 := m1.trans m2
    have hfl := frames_le bs
    -- two rows
    have hn2 : (frames bs).1.length = 2 ∧ rowsErr bs = 0 := by
      have h2 : ¬ (0 < (2 : Int) ∧ (rowsErr bs ≠ 0 ∨ ((frames bs).1.length : Int) ≠ 2)) := fun h => hgood (Or.inr (Or.inl h))
      constructor
      · by_cases h : ((frames bs).1.length : Int) = 2
        · omega
        · exact absurd ⟨by omega, Or.inr h⟩ h2
      · by_cases h : rowsErr bs = 0
        · exact h
        · exact absurd ⟨by omega, Or.inl h⟩ h2
    have hend := rowsErr_zero.1 hn2.2
    obtain ⟨y0, y1, hfr⟩ : ∃ y0 y1, (frames bs).1 = [y0, y1] := by
      match h : (frames bs).1, hn2.1 with
      | [a, b], _ => exact ⟨a, b, rfl⟩
    have hfe : frames bs = ([y0, y1], bs.length) := by rw [← hfr, ← hend]
    rw [hfr] at rl hfl
    obtain ⟨z0, z1, hzs⟩ : ∃ z0 z1, zs = [z0, z1] := by
      match h : zs, rl.2.1 with
      | [a, b], _ => exact ⟨a, b, rfl⟩
    subst hzs
    have hol : 2 = out.len := by have := rl.1.1; simpa using this
    obtain ⟨a, ha, hc1⟩ := Rows.get rl.1 (j := 1) (v := slV z1) rfl
    refine ⟨by omega, vPtr.mk a ha ⟨z1, hc1, ?_⟩⟩
    have hy1 := rl.2.2.1 1 z1 y1 rfl rfl
    have hl1 : y1.length ≤ 16384 := hfl y1 (by simp)
    refine (Read_spec hy1 (rdCnt_small (by omega)) (rl.2.2.2 z1 (by simp))).mono ?_
    rintro r H3 ⟨p, s, rfl, rr, m3⟩
    refine ⟨_, _, p, s, _, rfl, ?_⟩
    intro H4 e4
    obtain ⟨m4, s4⟩ := hole_facts e4
    have m34 := m3.trans m4
    have m04 := m12.trans m34
    have no : (rdSt y1).ok = false → ∀ i t ps xs, ¬ FlOK bs i t ps xs := fun hno i t ps xs hp => by
      have h1 := hp.2
      rw [hfe] at h1
      injection h1 with h1 _
      injection h1 with _ h1
      injection h1 with h1 _
      have := rdSt_right hp.1 (by rw [← h1]; exact hl1)
      rw [← h1] at this
      rw [this] at hno
      exact Bool.noConfusion hno
    cases hok : (rdSt y1).ok with
    | false =>
      have q : FlPost H bs (.tuple #[.agg #[.int .i64 0, .int .i64 0, .slice none 0 0, .slice none 0 0], .int .i64 10]) H4 := ⟨m04, Or.inr ⟨no hok, rfl⟩⟩
      exact Br.yes rfl ⟨⟨q, q, q⟩, q, q⟩
    | true =>
      refine Br.no rfl ?_
      obtain ⟨hR, hB⟩ := rdSt_ok hok
      generalize rdSt y1 = d at *
      have rl4 := rl.keep m34
      obtain ⟨a0, ha0, hc0⟩ := Rows.get rl4.1 (j := 0) (v := slV z0) rfl
      rw [add_zero_of] at hc0
      have hy0 := rl4.2.2.1 0 z0 y0 rfl rfl
      have fin : ∀ H5, Mod (fun _ => False) H4 H5 → Br (!((ByteArray.mk y0.toArray).toList == (ByteArray.mk (hdB 0 d.i d.i).toArray).toList)) (FlPost H bs (.tuple #[.agg #[.int .i64 0, .int .i64 0, .slice none 0 0, .slice none 0 0], .int .i64 10]) H5)
          (FlPost H bs (.tuple #[.agg #[.int .i64 d.i, .int .i64 d.t, .slice p.a p.len p.cap, .slice s.a s.len s.cap], .int .i64 0]) H5) := fun H5 m5 => by
        rw [ba_toList_beq]
        by_cases hh : y0 = hdB 0 d.i d.i
        · rw [decide_eq_true hh]
          refine Br.no rfl ⟨m04.trans m5, Or.inl ⟨_, _, _, _, p, s, ⟨hR, by rw [hfe, hh, hB]⟩, rfl, rr.mod (m4.trans m5)⟩⟩
        · rw [decide_eq_false hh]
          refine Br.yes rfl ⟨m04.trans m5, Or.inr ⟨fun i t ps xs hp => hh ?_, rfl⟩⟩
          have h1 := hp.2
          rw [hfe] at h1
          injection h1 with h1 _
          injection h1 with h0 h1
          injection h1 with h1 _
          have e1 := rdSt_right hp.1 (by rw [← h1]; exact hl1)
          have e2 := rdSt_right hR (by rw [hB]; exact hl1)
          rw [hB, h1, e1] at e2
          injection e2 with e2
          rw [h0, e2]
      refine ⟨by omega, vPtr.mk a0 ha0 ⟨⟨z0, hc0, b2s_imp (b2s_rows hy0 rfl) ?_, ?_⟩, ?_⟩⟩
      · rintro s rfl
        refine head_spec.mono ?_
        rintro r H5 ⟨w, rfl, o5, m5, -⟩
        refine ⟨w, rfl, b2s_imp (b2s_rows (Own.rows o5) rfl) ?_⟩
        rintro s rfl
        exact fin _ m5
      · refine head_spec.mono ?_
        rintro r H5 ⟨w, rfl, o5, m5, -⟩
        refine ⟨w, rfl, b2s_imp (b2s_rows (keepF hy0 m5) rfl) ?_, b2s_imp (b2s_rows (Own.rows o5) rfl) ?_⟩
        · rintro s rfl
          refine b2s_imp (b2s_rows (Own.rows o5) rfl) ?_
          rintro s rfl
          exact fin _ m5
        · rintro s rfl
          refine b2s_imp (b2s_rows (keepF hy0 m5) rfl) ?_
          rintro s rfl
          exact fin _ m5
      · refine head_spec.mono ?_
        rintro r H5 ⟨w, rfl, o5, m5, -⟩
        refine ⟨w, rfl, z0, by have := (rl4.keep m5).1; obtain ⟨a', ha', hc'⟩ := Rows.get this (j := 0) (v := slV z0) rfl; rw [add_zero_of] at hc'; rw [ha0] at ha'; injection ha' with ha'; rw [ha']; exact hc', b2s_imp (b2s_rows (keepF hy0 m5) rfl) ?_, b2s_imp (b2s_rows (Own.rows o5) rfl) ?_⟩
        · rintro s rfl
          refine b2s_imp (b2s_rows (Own.rows o5) rfl) ?_
          rintro s rfl
          exact fin _ m5
        · rintro s rfl
          refine b2s_imp (b2s_rows (keepF hy0 m5) rfl) ?_
          rintro s rfl
          exact fin _ m5
end
end Go.Proofs
