/- LAYER 14: the document's examples; Of; slices.Equal, Same. -/
import Derived.Test.YtbodlapndgnkgaaKno10
set_option linter.all false
set_option linter.constructorNameAsVariable false
namespace Go.Proofs
open Go Go.KC

theorem MsO.get {H H' : Hp} {z : Sl} {ms : List Mg} (h : MsO H H' z ms) {j : Nat} (hj : j < ms.length) : ∃ (mh : Mh) (a : Addr), z.a = some a ∧ mh.m = ms[j] ∧ RowAt H' (a.add (j * 10)) mh.cells ∧ MgH H' mh ∧ (∀ q ∈ mh.x.blk, q < H'.size) ∧ ∀ q ∈ ptrBlk mh.p, q < H'.size := by
  obtain ⟨l, rfl, o, b, m, g⟩ := h
  rw [List.length_map] at hj
  obtain ⟨a, ha, hr⟩ := row_get (f := Mh.cells) (k := 10) (by omega) Mh.cells_len (Own.rows o) hj
  have gg := g _ (List.getElem_mem hj)
  exact ⟨l[j], a, ha, by rw [List.getElem_map], hr, gg.1, fun q hq => (gg.2.1 q hq).2.1, fun q hq => (gg.2.2 q hq).2.1⟩
def A1 : Nd := (nd0 0).camp.1
def M1 : Mg := ⟨0, 0, 1, 1, 0, 0, false, 0, [], none⟩
theorem aw1 : (nd0 0).camp.2 = [M1, { M1 with to := 2 }] := by rfl
def B1 : Nd := ((nd0 1).step M1).1
def M2 : Mg := ⟨1, 1, 0, 1, 0, 0, true, 0, [], none⟩
theorem aw2 : ((nd0 1).step M1).2.1 = [M2] := by rfl
theorem aw3 : B1.vote = 0 := by rfl
def C1 : Nd := (A1.step M2).1
theorem aw4 : C1.role = 2 ∧ C1.last = 1 := by exact ⟨rfl, rfl⟩
theorem aw5 (s : Int × Int) : (C1.beat s).length = 2 := by rfl
theorem A1_bd : A1.Bd 0 1 := (camp_bd (nd0_bd (by omega)) (by omega)).1
theorem M1_bd : M1.Bd 1 := (camp_bd (nd0_bd (i := 0) (by omega)) (by omega)).2 M1 (by rw [aw1]; exact List.mem_cons_self)
theorem B1_bd : B1.Bd 1 2 := (step_bd ((nd0_bd (i := 1) (by omega)).mono (by omega)) (by omega) M1_bd (by omega)).1
theorem M2_bd : M2.Bd 2 := (step_bd ((nd0_bd (i := 1) (by omega)).mono (by omega)) (by omega) M1_bd (by omega)).2 M2 (by rw [aw2]; exact List.mem_cons_self)
theorem C1_bd : C1.Bd 0 3 := (step_bd (A1_bd.mono (by omega)) (by omega) M2_bd (by omega)).1
section
variable {H : Hp}
/-- A message of a row, taken in. -/
theorem step_one {n : Nd} {x z : Sl} {i k : Int} {ms : List Mg} {H1 H2 : Hp} (hl : Lr H2 x n.es) (hn : n.Bd i k) (hi : 0 ≤ i ∧ i < 3) (hk : 0 ≤ k ∧ k ≤ 100000) {mh : Mh} (g : MgH H2 mh) (gx : ∀ q ∈ mh.x.blk, q < H2.size) (gp : ∀ q ∈ ptrBlk mh.p, q < H2.size) (hm : mh.m.Bd k) :
    SCalls Try.prog node_Node_Step.id [n.val x, mh.m.val mh.x mh.p] H2 (SpP H2 mh.p (n.step mh.m)) := by
  have hlen := g.1.len
  have h1 := hm.le; have h2 := hm.ix
  exact step_spec hl ⟨g.1, g.2, gx, gp, by omega, by omega⟩ (hn.fit hi (by omega)) (by have := hn.com; omega) (fun j => by have := hn.mt j; omega) (fun j => by have := hn.nx j; omega)

theorem aw_k1 {H22 : Hp} {y z out : Sl} {H0 : Hp} {a1 a2 a3 a4 a5 a6 a7 a8 a9 a10 a11 a12 a13 : Int} {b1 b2 b3 : Bool} (m : Mod (fun _ => False) H H22) (hy : Lr H22 y A1.es) (ho : MsO H0 H22 out [M2]) :
    tephralaw14_awake.k1 J0 A1.id A1.term A1.vote A1.base A1.bt y A1.role A1.com A1.v0 A1.v1 A1.v2 A1.m0 A1.m1 A1.m2 A1.n0 A1.n1 A1.n2 A1.quiet out a1 a2 0 a3 a4 z a5 a6 b1 b2 b3 a7 a8 a9 a10 a11 a12 a13 H22 (TellPost H (.bool true)) := by
  have hol := ho.len
  apply tephralaw14_awake.k1.step; unfold tephralaw14_awake.k1.body
  refine Br.no (by simp; rw [← hol]; rfl) ⟨⟨by omega, by rw [← hol]; decide⟩, ?_⟩
  obtain ⟨mh, a, ha, hm, hr, g, gx, gp⟩ := ho.get (j := 0) (by decide)
  have hm : mh.m = M2 := hm
  rw [Nat.zero_mul, add_zero_of] at hr
  refine vPtr.mk a ha ⟨_, _, _, _, _, _, _, _, mh.x, _, hr, ?_⟩
  have k2 : ∀ (H27 : Hp) (u : Sl), Mod (fun _ => False) H22 H27 → Lr H27 u C1.es →
      tephralaw14_awake.k2 J0 A1.id A1.term A1.vote A1.base A1.bt y A1.role A1.com A1.v0 A1.v1 A1.v2 A1.m0 A1.m1 A1.m2 A1.n0 A1.n1 A1.n2 A1.quiet out a1 a2 0 a3 a4 z a5 a6 b1 b2 b3 a7 a8 a9 a10 a11 a12 a13 C1.id C1.term C1.vote C1.base C1.bt u C1.role C1.com C1.v0 C1.v1 C1.v2 C1.m0 C1.m1 C1.m2 C1.n0 C1.n1 C1.n2 C1.quiet H27 (TellPost H (.bool true)) := by
    intro H27 u m27 hu
    have hul := hu.len
    apply tephralaw14_awake.k2.step; unfold tephralaw14_awake.k2.body
    refine Br.yes rfl ⟨⟨by omega, by rw [← hol]; decide⟩, vPtr.mk a ha ⟨mh.m.ok, ?_, ?_⟩⟩
    · exact rowAt_keep hr m27 (fun e => e) 6 (.bool mh.m.ok) rfl
    · rw [hm]
      apply tephralaw14_awake.k3.step; unfold tephralaw14_awake.k3.body
      refine Br.yes rfl ?_
      apply tephralaw14_awake.k4.step; unfold tephralaw14_awake.k4.body
      refine Br.yes rfl ((Last_spec (b := C1.base) (t := C1.bt) (by have := C1_bd.base; have := C1_bd.last; unfold nice; unfold Nd.last at this; omega) (by have := C1_bd.base; have := C1_bd.last; unfold Nd.last at this; omega)).mono ?_)
      rintro r H28 ⟨rfl, m28⟩
      refine ⟨_, rfl, ?_⟩
      have el : C1.base + (u.len : Int) = 1 := by have := aw4.2; unfold Nd.last at this; omega
      rw [el]
      apply tephralaw14_awake.k5.step; unfold tephralaw14_awake.k5.body
      refine Br.yes rfl ((beat_spec (n := C1) (s := (0, 0)) (ps := ⟨none, 0, 0⟩) (xs := ⟨none, 0, 0⟩) (hu.mod m28) (C1_bd.fit (by omega) (by omega)) (fun i => by have := C1_bd.nx i; omega)).mono ?_)
      rintro r H30 ⟨v, rfl, mv⟩
      have hvl := mv.len
      rw [aw5] at hvl
      refine ⟨v, rfl, ?_, m.trans (m27.trans (m28.trans mv.choose_spec.2.2.2.1))⟩
      rw [← hvl]; rfl
  refine ⟨?_, fun H25 h25 => ?_⟩
  · refine (step_one (ms := []) (z := z) (H1 := H) (i := 0) (k := 2) hy (A1_bd.mono (by omega)) (by omega) (by omega) g gx gp (by rw [hm]; exact M2_bd)).mono ?_
    rintro r H23 ⟨u, v, rfl, nu, _⟩
    refine ⟨_, _, _, _, _, u, _, _, _, _, _, _, _, _, _, _, _, _, v, _, rfl, fun H24 h24 => ?_⟩
    obtain ⟨m24, _⟩ := hole_facts h24
    rw [hm]
    exact k2 H24 u (nu.2.1.trans m24) (by have := nu.1.mod m24; rw [hm] at this; exact this)
  · obtain ⟨m25, _⟩ := hole_facts h25
    have z25 := m25.size
    refine (step_one (ms := []) (z := z) (H1 := H) (i := 0) (k := 2) (hy.mod m25) (A1_bd.mono (by omega)) (by omega) (by omega) (g.mod m25) (fun q hq => Nat.lt_of_lt_of_le (gx q hq) z25) (fun q hq => Nat.lt_of_lt_of_le (gp q hq) z25) (by rw [hm]; exact M2_bd)).mono ?_
    rintro r H26 ⟨u, v, rfl, nu, _⟩
    refine ⟨_, _, _, _, _, u, _, _, _, _, _, _, _, _, _, _, _, _, v, _, rfl, ?_⟩
    rw [hm]
    exact k2 H26 u (m25.trans nu.2.1) (by have := nu.1; rw [hm] at this; exact this)

theorem awake14_spec : SCalls Try.prog tephralaw14_awake.id [] H (TellPost H (.bool true)) := by
  apply tephralaw14_awake.calls
  unfold tephralaw14_awake.vc
  refine nOf_spec.mono ?_
  rintro r H1 ⟨rfl, m1⟩
  refine ⟨_, _, _, _, _, ⟨none, 0, 0⟩, _, _, _, _, _, _, _, _, _, _, _, _, rfl, ?_⟩
  refine (camp_spec (n := nd0 0) (Lr.nil H1) ((nd0_bd (by omega)).fit (by omega) (by omega)) (by unfold nd0; dsimp only; omega)).mono ?_
  rintro r H2 ⟨y, x, rfl, ny, mx⟩
  rw [aw1] at mx
  have hxl := mx.len
  refine ⟨_, _, _, _, _, y, _, _, _, _, _, _, _, _, _, _, _, _, x, rfl, fun H3 h3 => ?_⟩
  obtain ⟨m3, _⟩ := hole_facts h3
  refine Br.no (by simp; rw [← hxl]; rfl) ⟨⟨by omega, by rw [← hxl]; decide⟩, ?_⟩
  have mx3 := mx.to m3
  obtain ⟨mh, a, ha, hm, hr, g, gx, gp⟩ := mx3.get (j := 0) (by decide)
  have hm : mh.m = M1 := hm
  rw [Nat.zero_mul, add_zero_of] at hr
  have m03 := m1.trans (ny.2.1.trans m3)
  have hy3 := ny.1.mod m3
  -- the second replica's step, from any heap behind
  have go : ∀ (H4 : Hp), Mod (fun _ => False) H3 H4 → ∀ K : Value → Hp → Prop, (∀ (u v : Sl) (p : Option Addr) H5, Mod (fun _ => False) H3 H5 → Lr H5 y A1.es → MsO H4 H5 v [M2] → K (.tuple #[B1.val u, .slice v.a v.len v.cap, .pointer p]) H5) →
      SCalls Try.prog node_Node_Step.id [(nd0 1).val ⟨none, 0, 0⟩, mh.m.val mh.x mh.p] H4 K := by
    intro H4 m4 K hK
    have z4 := m4.size
    refine (step_one (ms := []) (z := y) (H1 := H) (i := 1) (k := 1) (Lr.nil H4) ((nd0_bd (by omega)).mono (by omega)) (by omega) (by omega) (g.mod m4) (fun q hq => Nat.lt_of_lt_of_le (gx q hq) z4) (fun q hq => Nat.lt_of_lt_of_le (gp q hq) z4) (by rw [hm]; exact M1_bd)).mono ?_
    rintro r H5 ⟨u, v, rfl, nu, mv⟩
    have h5 := mv
    rw [hm, aw2] at h5
    have := hK u v (if ((nd0 1).step mh.m).2.2 = true then mh.p else none) H5 (m4.trans nu.2.1) ((hy3.mod m4).mod nu.2.1) h5
    rw [hm] at this ⊢
    exact this
  have row : ∀ H4, Mod (fun _ => False) H3 H4 → RowAt H4 a mh.cells := fun H4 m4 => rowAt_keep hr m4 fun e => e
  refine vPtr.mk a ha ⟨?_, ⟨_, _, _, _, _, _, _, _, mh.x, _, hr, ?_, ?_⟩, ?_⟩
  · refine nOf_spec.mono ?_
    rintro r H4 ⟨rfl, m4⟩
    refine ⟨_, _, _, _, _, ⟨none, 0, 0⟩, _, _, _, _, _, _, _, _, _, _, _, _, rfl, _, _, _, _, _, _, _, _, mh.x, _, row H4 m4, ?_, fun H7 h7 => ?_⟩
    · refine go H4 m4 _ fun u v p H5 m5 hy5 hv => ?_
      refine ⟨_, _, _, _, _, u, _, _, _, _, _, _, _, _, _, _, _, _, v, _, rfl, fun H6 h6 => ?_⟩
      obtain ⟨m6, _⟩ := hole_facts h6
      exact aw_k1 (m03.trans (m5.trans m6)) (hy5.mod m6) (hv.to m6)
    · obtain ⟨m7, _⟩ := hole_facts h7
      refine go H7 (m4.trans m7) _ fun u v p H5 m5 hy5 hv => ?_
      exact ⟨_, _, _, _, _, u, _, _, _, _, _, _, _, _, _, _, _, _, v, _, rfl, aw_k1 (m03.trans m5) hy5 hv⟩
  · refine nOf_spec.mono ?_
    rintro r H4 ⟨rfl, m4⟩
    refine ⟨_, _, _, _, _, ⟨none, 0, 0⟩, _, _, _, _, _, _, _, _, _, _, _, _, rfl, ?_, fun H7 h7 => ?_⟩
    · refine go H4 m4 _ fun u v p H5 m5 hy5 hv => ?_
      refine ⟨_, _, _, _, _, u, _, _, _, _, _, _, _, _, _, _, _, _, v, _, rfl, fun H6 h6 => ?_⟩
      obtain ⟨m6, _⟩ := hole_facts h6
      exact aw_k1 (m03.trans (m5.trans m6)) (hy5.mod m6) (hv.to m6)
    · obtain ⟨m7, _⟩ := hole_facts h7
      refine go H7 (m4.trans m7) _ fun u v p H5 m5 hy5 hv => ?_
      exact ⟨_, _, _, _, _, u, _, _, _, _, _, _, _, _, _, _, _, _, v, _, rfl, aw_k1 (m03.trans m5) hy5 hv⟩
  · intro H14 h14
    obtain ⟨m14, _⟩ := hole_facts h14
    refine nOf_spec.mono ?_
    rintro r H4 ⟨rfl, m4⟩
    refine ⟨_, _, _, _, _, ⟨none, 0, 0⟩, _, _, _, _, _, _, _, _, _, _, _, _, rfl, ?_⟩
    refine go H4 (m14.trans m4) _ fun u v p H5 m5 hy5 hv => ?_
    exact ⟨_, _, _, _, _, u, _, _, _, _, _, _, _, _, _, _, _, _, v, _, rfl, aw_k1 (m03.trans m5) hy5 hv⟩
  · intro H17 h17
    obtain ⟨m17, _⟩ := hole_facts h17
    refine ⟨?_, _, _, _, _, _, _, _, _, mh.x, _, row H17 m17, ?_⟩
    · refine nOf_spec.mono ?_
      rintro r H4 ⟨rfl, m4⟩
      refine ⟨_, _, _, _, _, ⟨none, 0, 0⟩, _, _, _, _, _, _, _, _, _, _, _, _, rfl, _, _, _, _, _, _, _, _, mh.x, _, row H4 (m17.trans m4), ?_⟩
      refine go H4 (m17.trans m4) _ fun u v p H5 m5 hy5 hv => ?_
      exact ⟨_, _, _, _, _, u, _, _, _, _, _, _, _, _, _, _, _, _, v, _, rfl, aw_k1 (m03.trans m5) hy5 hv⟩
    · refine nOf_spec.mono ?_
      rintro r H4 ⟨rfl, m4⟩
      refine ⟨_, _, _, _, _, ⟨none, 0, 0⟩, _, _, _, _, _, _, _, _, _, _, _, _, rfl, ?_⟩
      refine go H4 (m17.trans m4) _ fun u v p H5 m5 hy5 hv => ?_
      exact ⟨_, _, _, _, _, u, _, _, _, _, _, _, _, _, _, _, _, _, v, _, rfl, aw_k1 (m03.trans m5) hy5 hv⟩

theorem wOf_spec : SCalls Try.prog tephralaw14_Of.id [] H fun r H' => ∃ b : Nat, r = .pointer (some ⟨b, 0, none⟩) ∧ WH H H' b w0 := by
  apply tephralaw14_Of.calls
  refine nOf_spec.mono ?_
  rintro r H1 ⟨rfl, m1⟩
  refine ⟨_, _, _, _, _, ⟨none, 0, 0⟩, _, _, _, _, _, _, _, _, _, _, _, _, rfl, nOf_spec.mono ?_⟩
  rintro r H2 ⟨rfl, m2⟩
  refine ⟨_, _, _, _, _, ⟨none, 0, 0⟩, _, _, _, _, _, _, _, _, _, _, _, _, rfl, nOf_spec.mono ?_⟩
  rintro r H3 ⟨rfl, m3⟩
  refine ⟨_, _, _, _, _, ⟨none, 0, 0⟩, _, _, _, _, _, _, _, _, _, _, _, _, rfl, ?_⟩
  rintro b rfl H4 h4
  obtain ⟨g4, m4, s4⟩ := push_facts h4
  have m03 := m1.trans (m2.trans m3)
  refine ⟨_, rfl, ⟨none, 0, 0⟩, ⟨none, 0, 0⟩, ⟨none, 0, 0⟩, ⟨none, 0, 0⟩, [], g4, m03.size, m03.trans m4, Lr.nil _, Lr.nil _, Lr.nil _, by simp [Sl.blk], by simp [Sl.blk], by simp [Sl.blk], by simpa using Own.nil H4 T_node_Msg 10, by simp [Sl.blk], rfl, by simp⟩
end
end Go.Proofs
