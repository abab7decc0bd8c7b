/- DELTAS: DeltaBetween. -/
import Derived.Test.YthehagkjoofjiaaKd17
set_option linter.all false
set_option linter.constructorNameAsVariable false
namespace Go.Proofs
open Go Go.KC
variable {H : Hp}

theorem values_step {x : Sl} {ps : List Pr} (hr : Rows H x 3 (ps.map Pr.row).flatten) (hl : ps.length ≤ 9223372036854775806) (hn : (ps.map Pr.key).Nodup) {K : Option Nat → Hp → Prop}
    (hK : ∀ m H', VM H' m ps → Mod (fun _ => False) H H' → K (some m) H') :
    SCalls Try.prog tephralaw08_values.id [.slice x.a x.len x.cap] H fun r H' => ∃ m : Option Nat, r = .map m ∧ K m H' := by
  refine (values_spec hr hl hn).mono ?_
  rintro r H' ⟨m, rfl, vm, mm⟩
  exact ⟨_, rfl, hK m H' vm mm⟩

theorem between_back {ss : List Sy} {j k : Nat} (hjk : j ≤ k) (hk : k ≤ Ln ss) :
    ∃ D x, betweenD (Sn ss k).wt (Sn ss j).wt = (D, x) ∧ (x = 8 ∧ j < k ∨ x = 0 ∧ j = k) := by
  have i0 : (Sn ss j).index = (j : Int) := Sn_index (by omega)
  have i1 : (Sn ss k).index = (k : Int) := Sn_index hk
  by_cases c : j = k
  · subst c
    exact ⟨_, _, (between_do (Sn_ok ss j) (Sn_ok ss j) (Int.le_refl _) (Int.le_refl _)).1, Or.inr ⟨rfl, rfl⟩⟩
  · refine ⟨.zero, 8, ?_, Or.inl ⟨rfl, by omega⟩⟩
    unfold betweenD
    rw [if_pos (Or.inl (by show (Sn ss j).index < (Sn ss k).index; omega))]

theorem DeltaBetween_spec {says : Sl} {ss : List Sy} {one two : UInt8} (hr : Rows H says 6 (ss.map Sy.cells).flatten) (hl : ss.length = says.len) :
    SCalls Try.prog tephralaw08_DeltaBetween.id [.slice says.a says.len says.cap, .int .u8 (one.toNat : Int), .int .u8 (two.toNat : Int)] H (trueQ H) := by
  apply tephralaw08_DeltaBetween.calls
  unfold tephralaw08_DeltaBetween.vc
  refine bool_step (H0 := H) awake08_spec (Mod.refl _ _) fun H1 m1 => Br.no rfl ?_
  refine three_step (hr.keep m1 fun _ _ e => e) hl fun j k p0 s0 p1 s1 p2 s2 H2 hjk hk sr0 sr1 sr2 m2 => ?_
  have ok0 := Sn_ok ss j
  have ok1 := Sn_ok ss k
  have i0 : (Sn ss j).index = (j : Int) := Sn_index (by omega)
  have i1 : (Sn ss k).index = (k : Int) := Sn_index hk
  have ht := Sn_term hjk hk
  have bd := between_do ok0 ok1 (by omega) ht
  have l0 := Stt.lens ok0
  have l1 := Stt.lens ok1
  have kl0 := ok0.kl
  have kl1 := ok1.kl
  have lb := @btw_len (Sn ss j).kv (Sn ss k).kv
  have h1i := ok1.i0
  have h1t := ok1.t0
  have h0i := ok0.i0
  intro H3 h3
  obtain ⟨m3, _⟩ := hole_facts h3
  refine ⟨⟨by omega, by omega⟩, ⟨by omega, by omega⟩, ?_⟩
  have r0 : RR H3 p0 s0 (Sn ss j).wt.ps (Sn ss j).wt.xs := (sr0.mod m3).rr
  have r1 : RR H3 p1 s1 (Sn ss k).wt.ps (Sn ss k).wt.xs := (sr1.mod m3).rr
  refine between_step (a := (Sn ss j).wt) (b := (Sn ss k).wt) r0 r1 ⟨l0.1, l1.1, l1.2⟩ bd.1 fun p4 x4 H4 r4 m4 => ?_
  intro H5 h5
  obtain ⟨m5, _⟩ := hole_facts h5
  refine ⟨⟨by omega, by omega⟩, ⟨by omega, by omega⟩, ?_⟩
  obtain ⟨D, y, hD, hy⟩ := between_back (ss := ss) hjk hk
  have m35 := m4.trans m5
  refine between_step (a := (Sn ss k).wt) (b := (Sn ss j).wt) (r1.mod m35) (r0.mod m35) ⟨l1.1, l0.1, l0.2⟩ hD fun p5 x5 H6 r5 m6 => ?_
  intro H7 h7
  obtain ⟨m7, _⟩ := hole_facts h7
  have m37 := m35.trans (m6.trans m7)
  have m47 := m5.trans (m6.trans m7)
  have m07 := m1.trans (m2.trans (m3.trans m37))
  have r07 := r0.mod m37
  have r17 := r1.mod m37
  have r47 := r4.mod m47
  have rest : tephralaw08_DeltaBetween.k2 J0 (Sn ss j).index (Sn ss j).term p0 s0 (Sn ss k).index (Sn ss k).term p1 s1 (Sn ss (Ln ss)).index (Sn ss (Ln ss)).term p2 s2 (Sn ss j).index (Sn ss k).index (Sn ss k).term p4 x4 D.from D.to D.term p5 x5 y H7 false (trueQ H) := by
    apply tephralaw08_DeltaBetween.k2.step; unfold tephralaw08_DeltaBetween.k2.body
    apply tephralaw08_DeltaBetween.k3.step; unfold tephralaw08_DeltaBetween.k3.body
    refine Br.no rfl ⟨⟨by omega, by omega⟩, ⟨by omega, by omega⟩, ?_⟩
    apply tephralaw08_DeltaBetween.k4.step; unfold tephralaw08_DeltaBetween.k4.body
    refine Br.no (by
      rw [i0, i1]
      rcases hy with ⟨rfl, h⟩ | ⟨rfl, rfl⟩
      · have : ((j : Int) == (k : Int)) = false := by simp; omega
        rw [this]; rfl
      · simp) ⟨⟨by omega, by omega⟩, ?_⟩
    apply tephralaw08_DeltaBetween.k5.step; unfold tephralaw08_DeltaBetween.k5.body
    refine Br.no (by simp) ⟨⟨by omega, by omega⟩, ?_⟩
    apply tephralaw08_DeltaBetween.k6.step; unfold tephralaw08_DeltaBetween.k6.body
    refine Br.no (by simp) ⟨⟨by omega, by omega⟩, ?_⟩
    apply tephralaw08_DeltaBetween.k7.step; unfold tephralaw08_DeltaBetween.k7.body
    refine Br.no (by simp) ?_
    have lens := r47.lens
    have lens1 := r17.lens
    have ls1 : (Sn ss k).wt.xs.length ≤ 1000 := l1.2
    refine bool_step (H0 := H7) (DRight_yes (d := ⟨(Sn ss j).index, (Sn ss k).index, (Sn ss k).term, btw (Sn ss j).kv (Sn ss k).kv, (Sn ss k).sess⟩) r47 ⟨h0i.1, by show (Sn ss j).index ≤ (Sn ss k).index; omega, h1i.2, h1t.1, h1t.2⟩
      (rowsOk_of (rise_btw ok0.rk ok1.rk) (btw_ok ok0 ok1) ok1 (by show ((btw (Sn ss j).kv (Sn ss k).kv).length : Int) ≤ 512; omega)) ⟨?_, ?_⟩) (Mod.refl _ _) fun H8 m8 => ?_
    · have := lens.1; dsimp only at this; omega
    · have := lens.2; have e : (Sn ss k).sess.length ≤ 1000 := ls1; dsimp only at this; omega
    apply tephralaw08_DeltaBetween.k8.step; unfold tephralaw08_DeltaBetween.k8.body
    refine Br.no rfl ⟨⟨by omega, by omega⟩, ⟨by omega, by omega⟩, ?_⟩
    have n0 := nodup_byKey (rise_prs ok0.rk)
    have n1 := nodup_byKey (rise_prs ok1.rk)
    have nb := nodup_byKey (rise_btw ok0.rk ok1.rk)
    refine values_step (ps := prsOfL (Sn ss j).kv) (r07.mod m8).1 (by rw [prs_len]; omega) n0 fun q0 H9 v0 m9 => ?_
    refine values_step (ps := prsOfL (Sn ss k).kv) ((r17.mod m8).mod m9).1 (by rw [prs_len]; omega) n1 fun q1 H10 v1 m10 => ?_
    refine values_step (ps := btw (Sn ss j).kv (Sn ss k).kv) (((r47.mod m8).mod m9).mod m10).1 (by omega) nb fun q2 H11 v2 m11 => ?_
    apply tephralaw08_DeltaBetween.k9.step; unfold tephralaw08_DeltaBetween.k9.body
    refine ⟨q2, _, _, rfl, v2, ?_⟩
    rintro b rfl H12 h12
    obtain ⟨_, mp, _⟩ := push_facts h12
    have rg : RgP H12 H11.size q2 (btw (Sn ss j).kv (Sn ss k).kv) #[] := by rw [h12]; exact RgS.new v2
    have mm := m07.trans (m8.trans (m9.trans (m10.trans m11)))
    exact between_l1 (H0 := H) ok0.rk ok1.rk (by omega) (by omega) (lens.1.symm) (lens.2.symm.trans lens1.2) mm.size _ #[] H12 (Nat.zero_add _) rg
      (MR.mod v0 ((m10.trans m11).trans mp)) (MR.mod v1 (m11.trans mp)) (mm.trans mp)
  refine Br.no rfl ?_
  rcases hy with ⟨rfl, h⟩ | ⟨rfl, h⟩
  · exact Br.yes rfl rest
  · exact Br.no rfl rest
end Go.Proofs
