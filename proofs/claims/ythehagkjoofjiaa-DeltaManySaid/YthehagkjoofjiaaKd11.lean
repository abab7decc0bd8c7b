/- DELTAS: DeltaThree. -/
import Derived.Test.YthehagkjoofjiaaKd10
set_option linter.all false
set_option linter.constructorNameAsVariable false
namespace Go.Proofs
open Go Go.KC

abbrev dBt (s t : Stt) : Dl := ⟨s.index, t.index, t.term, btw s.kv t.kv, t.sess⟩
theorem join_of {a b : Dl} (h1 : a.to = b.from) (h2 : a.term ≤ b.term) (h3 : (mrg a.ps b.ps).length ≤ 512) : joinD a b = (⟨a.from, b.to, b.term, mrg a.ps b.ps, b.xs⟩, 0) := by
  unfold joinD
  rw [if_neg (by simp [h1]; omega), if_neg (by omega)]
theorem dlB_le {f t m : Int} {ps : List Pr} {s : Stt} (ok : s.Ok) (hs : Sh ps) (hl : ps.length ≤ 512) : (dlB ⟨f, t, m, ps, s.sess⟩).length ≤ 140737488355328 := by
  have h1 : (prsB ps).length ≤ ps.length * 41 := flat_le Pr.bytes 41 _ fun p hp => by
    have := hs p hp
    rw [Pr.bytes_len]; omega
  have h2 : (sesB s.sess).length ≤ s.sess.length * 48 := flat_le Se.bytes 48 _ fun x hx => by
    obtain ⟨p, hp, rfl⟩ := List.mem_map.1 hx
    have := (ok.sb p hp).2.2.2.2.2.2.2
    rw [Se.bytes_len]; omega
  have h4 : s.sess.length = s.ss.length := List.length_map _
  have := ok.sl
  unfold dlB
  simp only [List.length_append, be_length, rowsB_len]
  omega
section
variable {H : Hp}
theorem join_step {a b : Dl} {p x bp bx : Sl} (hs : RR H p x a.ps a.xs) (hd : RR H bp bx b.ps b.xs) (hl : a.ps.length ≤ 1000 ∧ b.ps.length ≤ 1000 ∧ b.xs.length ≤ 1000) {r : Dl × Int} (hr : joinD a b = r) {K : Int → Int → Int → Sl → Sl → Int → Hp → Prop}
    (hK : ∀ p' x' H', RR H' p' x' r.1.ps r.1.xs → Mod (fun _ => False) H H' → K r.1.from r.1.to r.1.term p' x' r.2 H') :
    SCalls Try.prog delta_Join.id [dlV a p x, dlV b bp bx] H (fun r1 H5 => ∃ From : Int, ∃ To : Int, ∃ Term1 : Int, ∃ Pairs1 : Sl, ∃ Sessions1 : Sl, ∃ x : Int, r1 = .tuple #[.agg #[.int .i64 From, .int .i64 To, .int .i64 Term1, .slice Pairs1.a Pairs1.len Pairs1.cap, .slice Sessions1.a Sessions1.len Sessions1.cap], .int .i64 x] ∧ K From To Term1 Pairs1 Sessions1 x H5) := by
  refine (Join_spec hs hd hl).mono ?_
  rw [hr]
  rintro v H' ⟨p', x', rfl, rr, m⟩
  exact ⟨_, _, _, p', x', _, rfl, hK p' x' H' rr m⟩

theorem threeK {s0 s1 s2 s3 : Stt} (o0 : s0.Ok) (o1 : s1.Ok) (o2 : s2.Ok) (o3 : s3.Ok) (i01 : s0.index ≤ s1.index) (i12 : s1.index ≤ s2.index) (i23 : s2.index ≤ s3.index) (t01 : s0.term ≤ s1.term) (t12 : s1.term ≤ s2.term) (t23 : s2.term ≤ s3.term)
    {p0 x0 p1 x1 p2 x2 p3 x3 : Sl} {H12 : Hp} (m : Mod (fun _ => False) H H12) (r0 : SR H12 p0 x0 s0) (r1 : SR H12 p1 x1 s1) (r2 : SR H12 p2 x2 s2) (r3 : SR H12 p3 x3 s3) :
    tephralaw08_DeltaThree.k1 J0 s0.index s0.term p0 x0 s1.index s1.term p1 x1 s2.index s2.term p2 x2 s3.index s3.term p3 x3 H12 (trueQ H) := by
  apply tephralaw08_DeltaThree.k1.step; unfold tephralaw08_DeltaThree.k1.body
  have b1 : betweenD s0.wt s1.wt = (dBt s0 s1, 0) := (between_do o0 o1 i01 t01).1
  have b2 : betweenD s1.wt s2.wt = (dBt s1 s2, 0) := (between_do o1 o2 i12 t12).1
  have b3 : betweenD s2.wt s3.wt = (dBt s2 s3, 0) := (between_do o2 o3 i23 t23).1
  have l0 := Stt.lens o0
  have l1 := Stt.lens o1
  have l2 := Stt.lens o2
  have l3 := Stt.lens o3
  have kl0 := o0.kl
  have kl1 := o1.kl
  have kl2 := o2.kl
  have kl3 := o3.kl
  have la := @btw_len s0.kv s1.kv
  have lb := @btw_len s1.kv s2.kv
  have lc := @btw_len s2.kv s3.kv
  have ra := rise_btw o0.rk o1.rk
  have rb := rise_btw o1.rk o2.rk
  have rc := rise_btw o2.rk o3.rk
  have ha := Sh.btw o0 o1
  have hb := Sh.btw o1 o2
  have hc := Sh.btw o2 o3
  have rr0 : RR H12 p0 x0 s0.wt.ps s0.wt.xs := r0.rr
  have rr1 : RR H12 p1 x1 s1.wt.ps s1.wt.xs := r1.rr
  have rr2 : RR H12 p2 x2 s2.wt.ps s2.wt.xs := r2.rr
  have rr3 : RR H12 p3 x3 s3.wt.ps s3.wt.xs := r3.rr
  have lab := mrg_len (btw s0.kv s1.kv) (btw s1.kv s2.kv)
  have lbc := mrg_len (btw s1.kv s2.kv) (btw s2.kv s3.kv)
  have labc := mrg_len (mrg (btw s0.kv s1.kv) (btw s1.kv s2.kv)) (btw s2.kv s3.kv)
  have labc' := mrg_len (btw s0.kv s1.kv) (mrg (btw s1.kv s2.kv) (btw s2.kv s3.kv))
  have j1 := join_of (a := dBt s0 s1) (b := dBt s1 s2) rfl t12 (by dsimp only; omega)
  have j2 := join_of (a := dBt s1 s2) (b := dBt s2 s3) rfl t23 (by dsimp only; omega)
  dsimp only at j1 j2
  have j3 := join_of (a := ⟨s0.index, s2.index, s2.term, mrg (btw s0.kv s1.kv) (btw s1.kv s2.kv), s2.sess⟩) (b := dBt s2 s3) rfl t23 (by dsimp only; omega)
  have j4 := join_of (a := dBt s0 s1) (b := ⟨s1.index, s3.index, s3.term, mrg (btw s1.kv s2.kv) (btw s2.kv s3.kv), s3.sess⟩) rfl (Int.le_trans t12 t23) (by dsimp only; omega)
  dsimp only at j3 j4
  refine ⟨by omega, by omega, ?_⟩
  refine between_step (a := s0.wt) (b := s1.wt) rr0 rr1 ⟨l0.1, l1.1, l1.2⟩ b1 fun pa xa H13 ga m13 => ?_
  intro H14 h14
  obtain ⟨m14, _⟩ := hole_facts h14
  have q14 := m13.trans m14
  refine ⟨by omega, by omega, ?_⟩
  refine between_step (a := s1.wt) (b := s2.wt) (rr1.mod q14) (rr2.mod q14) ⟨l1.1, l2.1, l2.2⟩ b2 fun pb xb H15 gb m15 => ?_
  intro H16 h16
  obtain ⟨m16, _⟩ := hole_facts h16
  have q16 := m15.trans m16
  refine ⟨by omega, ?_⟩
  refine between_step (a := s2.wt) (b := s3.wt) ((rr2.mod q14).mod q16) ((rr3.mod q14).mod q16) ⟨l2.1, l3.1, l3.2⟩ b3 fun pc xc H17 gc m17 => ?_
  intro H18 h18
  obtain ⟨m18, _⟩ := hole_facts h18
  have q18 := m17.trans m18
  have fa := ((ga.mod m14).mod q16).mod q18
  have fb := (gb.mod m16).mod q18
  have fc := gc.mod m18
  refine join_step (a := dBt s0 s1) (b := dBt s1 s2) fa fb ⟨by dsimp only; omega, by dsimp only; omega, l2.2⟩ j1 fun pd xd H19 gd m19 => ?_
  intro H20 h20
  obtain ⟨m20, _⟩ := hole_facts h20
  have q20 := m19.trans m20
  refine join_step (a := dBt s1 s2) (b := dBt s2 s3) (fb.mod q20) (fc.mod q20) ⟨by dsimp only; omega, by dsimp only; omega, l3.2⟩ j2 fun pe xe H21 ge m21 => ?_
  intro H22 h22
  obtain ⟨m22, _⟩ := hole_facts h22
  have q22 := m21.trans m22
  refine join_step (a := ⟨s0.index, s2.index, s2.term, mrg (btw s0.kv s1.kv) (btw s1.kv s2.kv), s2.sess⟩) (b := dBt s2 s3) ((gd.mod m20).mod q22) ((fc.mod q20).mod q22) ⟨by dsimp only; omega, by dsimp only; omega, l3.2⟩ j3 fun pf xf H23 gf m23 => ?_
  intro H24 h24
  obtain ⟨m24, _⟩ := hole_facts h24
  have q24 := m23.trans m24
  refine join_step (a := dBt s0 s1) (b := ⟨s1.index, s3.index, s3.term, mrg (btw s1.kv s2.kv) (btw s2.kv s3.kv), s3.sess⟩) (((fa.mod q20).mod q22).mod q24) ((ge.mod m22).mod q24) ⟨by dsimp only; omega, by dsimp only; omega, l3.2⟩ j4 fun pg xg H25 gg m25 => ?_
  intro H26 h26
  obtain ⟨m26, _⟩ := hole_facts h26
  have q26 := m25.trans m26
  refine Br.yes rfl ?_
  apply tephralaw08_DeltaThree.k2.step; unfold tephralaw08_DeltaThree.k2.body
  refine Br.yes rfl ?_
  apply tephralaw08_DeltaThree.k3.step; unfold tephralaw08_DeltaThree.k3.body
  refine Br.yes rfl ?_
  apply tephralaw08_DeltaThree.k4.step; unfold tephralaw08_DeltaThree.k4.body
  refine Br.yes rfl ?_
  apply tephralaw08_DeltaThree.k5.step; unfold tephralaw08_DeltaThree.k5.body
  refine Br.yes rfl ?_
  apply tephralaw08_DeltaThree.k6.step; unfold tephralaw08_DeltaThree.k6.body
  refine Br.yes rfl ?_
  apply tephralaw08_DeltaThree.k7.step; unfold tephralaw08_DeltaThree.k7.body
  refine Br.yes rfl ?_
  have s1' := Sh.mrg ra rb ha hb
  have s2' := Sh.mrg rb rc hb hc
  have e := mrg_assoc ra rb rc
  have hS := DSame_spec (d := ⟨s0.index, s3.index, s3.term, mrg (mrg (btw s0.kv s1.kv) (btw s1.kv s2.kv)) (btw s2.kv s3.kv), s3.sess⟩) (e := ⟨s0.index, s3.index, s3.term, mrg (btw s0.kv s1.kv) (mrg (btw s1.kv s2.kv) (btw s2.kv s3.kv)), s3.sess⟩)
    ((gf.mod m24).mod q26) (gg.mod m26) (dlB_le o3 (Sh.mrg (rise_mrg ra rb) rc s1' hc) (by omega)) (dlB_le o3 (Sh.mrg ra (rise_mrg rb rc) ha s2') (by omega))
  rw [decide_eq_true (by rw [e])] at hS
  exact bool_step hS (m.trans (q14.trans (q16.trans (q18.trans (q20.trans (q22.trans (q24.trans q26))))))) fun H27 m27 => ⟨rfl, m27⟩

theorem DeltaThree_spec {says more : Sl} {ss mm : List Sy} {one two : UInt8} (hr : Rows H says 6 (ss.map Sy.cells).flatten) (hl : ss.length = says.len) (hm : Rows H more 6 (mm.map Sy.cells).flatten) (hml : mm.length = more.len) :
    SCalls Try.prog tephralaw08_DeltaThree.id [.slice says.a says.len says.cap, .slice more.a more.len more.cap, .int .u8 (one.toNat : Int), .int .u8 (two.toNat : Int)] H (trueQ H) := by
  apply tephralaw08_DeltaThree.calls
  unfold tephralaw08_DeltaThree.vc
  refine bool_step (H0 := H) awake08_spec (Mod.refl _ _) fun H1 m1 => Br.no rfl ?_
  refine three_step (hr.keep m1 fun _ _ e => e) hl fun j k p0 s0 p1 s1 p2 s2 H2 hjk hk sr0 sr1 sr2 m2 => ?_
  have ok0 := Sn_ok ss j
  have ok1 := Sn_ok ss k
  have ok2 := Sn_ok ss (Ln ss)
  have i0 : (Sn ss j).index = (j : Int) := Sn_index (by omega)
  have i1 : (Sn ss k).index = (k : Int) := Sn_index hk
  have i2 : (Sn ss (Ln ss)).index = (Ln ss : Int) := Sn_index (Nat.le_refl _)
  have t01 := Sn_term hjk hk
  have t12 := Sn_term (ss := ss) hk (Nat.le_refl _)
  intro H3 h3
  obtain ⟨m3, _⟩ := hole_facts h3
  have m13 := m1.trans (m2.trans m3)
  refine ⟨by omega, by omega, by omega, ?_⟩
  have fin : ∀ (es : List En) (p s : Sl) (H' : Hp), Mod (fun _ => False) H3 H' → SR H' p s (foldM (Sn ss (Ln ss)) es) →
      tephralaw08_DeltaThree.k1 J0 (Sn ss j).index (Sn ss j).term p0 s0 (Sn ss k).index (Sn ss k).term p1 s1 (Sn ss (Ln ss)).index (Sn ss (Ln ss)).term p2 s2 (foldM (Sn ss (Ln ss)) es).index (foldM (Sn ss (Ln ss)) es).term p s H' (trueQ H) := by
    intro es p s H' m sr
    have up := foldM_up es (Sn ss (Ln ss))
    exact threeK ok0 ok1 ok2 (foldM_ok ok2 es) (by omega) (by omega) up.1 t01 t12 up.2 (m13.trans m) ((sr0.mod m3).mod m) ((sr1.mod m3).mod m) ((sr2.mod m3).mod m) sr
  have hel : ∀ n t, (ents (mm.take 80) n t).length ≤ 1000000 := fun n t => by rw [ents_length, List.length_take]; omega
  refine ⟨?_, fun H9 h9 => ?_⟩
  · refine (Entries_spec (n := w64 ((Sn ss (Ln ss)).index + 1)) (t := (Sn ss (Ln ss)).term) (hm.keep m13 fun _ _ e => e) hml).mono ?_
    rintro r H4 ⟨x, rfl, o, hx, f, _⟩
    have m4 : Mod (fun _ => False) H3 H4 := Mod.fresh f fun _ h => h
    refine ⟨x, rfl, ?_, fun H7 h7 => ?_⟩
    · refine fold_step ((sr2.mod m3).mod m4) ok2 (Own.rows o) (hel _ _) fun p s H5 sr m5 => ?_
      intro H6 h6
      obtain ⟨m6, _⟩ := hole_facts h6
      exact fin _ p s H6 (m4.trans (m5.trans m6)) (sr.mod m6)
    · obtain ⟨m7, _⟩ := hole_facts h7
      refine fold_step (((sr2.mod m3).mod m4).mod m7) ok2 ((Own.rows o).keep m7 fun _ _ e => e) (hel _ _) fun p s H8 sr m8 => ?_
      exact fin _ p s H8 (m4.trans (m7.trans m8)) sr
  · obtain ⟨m9, _⟩ := hole_facts h9
    refine (Entries_spec (n := w64 ((Sn ss (Ln ss)).index + 1)) (t := (Sn ss (Ln ss)).term) (hm.keep (m13.trans m9) fun _ _ e => e) hml).mono ?_
    rintro r H10 ⟨x, rfl, o, hx, f, _⟩
    have m10 : Mod (fun _ => False) H9 H10 := Mod.fresh f fun _ h => h
    refine ⟨x, rfl, ?_⟩
    refine fold_step (((sr2.mod m3).mod m9).mod m10) ok2 (Own.rows o) (hel _ _) fun p s H11 sr m11 => ?_
    exact fin _ p s H11 (m9.trans (m10.trans m11)) sr
end
end Go.Proofs
