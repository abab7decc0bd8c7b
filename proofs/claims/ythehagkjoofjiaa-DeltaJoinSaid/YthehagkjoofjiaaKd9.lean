/- DELTAS: Three; DeltaDo. -/
import Derived.Test.YthehagkjoofjiaaKd8
set_option linter.all false
set_option linter.constructorNameAsVariable false
namespace Go.Proofs
open Go Go.KC

/-- The state behind the first n entries. -/
def Sn (ss : List Sy) (n : Nat) : Stt := foldM .zero ((ents (ss.take 80) 1 0).take n)
def Ln (ss : List Sy) : Nat := (ents (ss.take 80) 1 0).length
theorem Ln_le (ss : List Sy) : Ln ss ≤ 80 := by unfold Ln; rw [ents_length, List.length_take]; omega
theorem Sn_rows (ss : List Sy) : RowsOf (ents (ss.take 80) 1 0) 1 := ents_row (by omega) (by rw [List.length_take]; omega) (by omega) (by rw [List.length_take]; omega)
theorem Sn_ok (ss : List Sy) (n : Nat) : (Sn ss n).Ok := foldM_ok Stt.zero_ok _
theorem Sn_index {ss : List Sy} {n : Nat} (h : n ≤ Ln ss) : (Sn ss n).index = (n : Int) := (fold_rows (Sn_rows ss) (by have := Ln_le ss; unfold Ln at this; omega) n h).1
theorem Sn_term {ss : List Sy} {j : Nat} : ∀ {k : Nat}, j ≤ k → k ≤ Ln ss → (Sn ss j).term ≤ (Sn ss k).term := by
  intro k
  have hL := Ln_le ss
  induction k with
  | zero => intro h _; have : j = 0 := by omega
            subst this; exact Int.le_refl _
  | succ k ih =>
    intro h hk
    by_cases e : j = k + 1
    · subst e; exact Int.le_refl _
    · have h1 := ih (by omega) (by omega)
      have hkl : k < (ents (ss.take 80) 1 0).length := hk
      obtain ⟨i1, i2⟩ := fold_rows (Sn_rows ss) (by unfold Ln at hL; omega) k (by omega)
      have hi := (Sn_rows ss k hkl).2.1
      rw [w64_id (by omega) (by omega)] at hi
      have h2 := applyM_next (Sn_rows ss k hkl).1 (by rw [i1]; omega) (i2 hkl)
      have h3 : (Sn ss (k + 1)).term = (ents (ss.take 80) 1 0)[k].term := by
        unfold Sn
        rw [List.take_succ_eq_append_getElem hkl, foldM_snoc, h2.2]
      rw [h3]
      exact Int.le_trans h1 (i2 hkl)

section
variable {H : Hp}
theorem three_step {says : Sl} {ss : List Sy} {one two : UInt8} (hr : Rows H says 6 (ss.map Sy.cells).flatten) (hl : ss.length = says.len) {K : Int → Int → Sl → Sl → Int → Int → Sl → Sl → Int → Int → Sl → Sl → Hp → Prop}
    (hK : ∀ j k p0 s0 p1 s1 p2 s2 H', j ≤ k → k ≤ Ln ss → SR H' p0 s0 (Sn ss j) → SR H' p1 s1 (Sn ss k) → SR H' p2 s2 (Sn ss (Ln ss)) → Mod (fun _ => False) H H' →
      K (Sn ss j).index (Sn ss j).term p0 s0 (Sn ss k).index (Sn ss k).term p1 s1 (Sn ss (Ln ss)).index (Sn ss (Ln ss)).term p2 s2 H') :
    SCalls Try.prog tephralaw08_Three.id [.slice says.a says.len says.cap, .int .u8 (one.toNat : Int), .int .u8 (two.toNat : Int)] H (fun r1 H2 => ∃ x0Index : Int, ∃ x0Term : Int, ∃ x0Pairs : Sl, ∃ x0Sessions : Sl, ∃ x1Index : Int, ∃ x1Term : Int, ∃ x1Pairs : Sl, ∃ x1Sessions : Sl, ∃ x2Index : Int, ∃ x2Term : Int, ∃ x2Pairs : Sl, ∃ x2Sessions : Sl, r1 = .agg #[.int .i64 x0Index, .int .i64 x0Term, .slice x0Pairs.a x0Pairs.len x0Pairs.cap, .slice x0Sessions.a x0Sessions.len x0Sessions.cap, .int .i64 x1Index, .int .i64 x1Term, .slice x1Pairs.a x1Pairs.len x1Pairs.cap, .slice x1Sessions.a x1Sessions.len x1Sessions.cap, .int .i64 x2Index, .int .i64 x2Term, .slice x2Pairs.a x2Pairs.len x2Pairs.cap, .slice x2Sessions.a x2Sessions.len x2Sessions.cap] ∧
      K x0Index x0Term x0Pairs x0Sessions x1Index x1Term x1Pairs x1Sessions x2Index x2Term x2Pairs x2Sessions H2) := by
  apply tephralaw08_Three.calls
  unfold tephralaw08_Three.vc
  intro H1 h1
  obtain ⟨m1, _⟩ := hole_facts h1
  refine (Entries_spec (n := 1) (t := 0) (hr.keep m1 fun _ _ e => e) hl).mono ?_
  rintro r H2 ⟨x, rfl, o, hx, f, _⟩
  have hel := Ln_le ss
  have eL : Ln ss = x.len := hx.symm
  have m02 : Mod (fun _ => False) H H2 := m1.trans (Mod.fresh f fun _ h => h)
  have R2 : Rows H2 x 8 ((ents (ss.take 80) 1 0).map En.cells).flatten := Own.rows o
  have hcap := R2.2.1
  have c1 : w64 ((x.len : Int) + 1) = ((x.len + 1 : Nat) : Int) := by rw [w64_id (by omega) (by omega)]; omega
  have ca : w64 (one.toNat : Int) = (one.toNat : Int) := w64_id (by omega) (by have := one.toNat_lt; omega)
  have cb : w64 (two.toNat : Int) = (two.toNat : Int) := w64_id (by omega) (by have := two.toNat_lt; omega)
  refine ⟨x, rfl, ?_⟩
  rw [c1, ca, cb, tmodN one (x.len + 1)]
  have hj : one.toNat % (x.len + 1) ≤ x.len := by have := Nat.mod_lt one.toNat (show 0 < x.len + 1 by omega); omega
  generalize one.toNat % (x.len + 1) = j at hj
  have c2 : w64 ((x.len : Int) - (j : Int)) = ((x.len - j : Nat) : Int) := by rw [w64_id (by omega) (by omega)]; omega
  rw [c2]
  have c3 : w64 (((x.len - j : Nat) : Int) + 1) = ((x.len - j + 1 : Nat) : Int) := by rw [w64_id (by omega) (by omega)]; omega
  rw [c3, tmodN two (x.len - j + 1)]
  have hm : two.toNat % (x.len - j + 1) ≤ x.len - j := by have := Nat.mod_lt two.toNat (show 0 < x.len - j + 1 by omega); omega
  generalize two.toNat % (x.len - j + 1) = m at hm
  have c4 : w64 ((j : Int) + (m : Int)) = ((j + m : Nat) : Int) := by rw [w64_id (by omega) (by omega)]; omega
  rw [c4, Int.toNat_natCast, Int.toNat_natCast]
  have tl : ∀ n, ((ents (ss.take 80) 1 0).take n).length ≤ 1000000 := fun n => by
    have h : (ents (ss.take 80) 1 0).length ≤ 80 := hel
    rw [List.length_take]; omega
  refine ⟨by omega, by omega, ⟨by omega, by omega⟩, ⟨by omega, by omega⟩, ?_⟩
  refine fold_step (st := .zero) (SR.zero H2) Stt.zero_ok (rows_pre R2 hj) (tl j) fun p0 s0 H3 sr0 m3 => ?_
  refine fold_step (st := .zero) (SR.zero H3) Stt.zero_ok (rows_pre (R2.keep m3 fun _ _ e => e) (show j + m ≤ x.len by omega)) (tl (j + m)) fun p1 s1 H4 sr1 m4 => ?_
  refine fold_step (st := .zero) (SR.zero H4) Stt.zero_ok (R2.keep (m3.trans m4) fun _ _ e => e) (by have h : (ents (ss.take 80) 1 0).length ≤ 80 := hel; omega) fun p2 s2 H5 sr2 m5 => ?_
  have eA : foldM .zero (ents (ss.take 80) 1 0) = Sn ss (Ln ss) := by unfold Sn Ln; rw [List.take_length]
  rw [eA] at sr2 ⊢
  exact ⟨_, _, p0, s0, _, _, p1, s1, _, _, p2, s2, rfl, hK j (j + m) p0 s0 p1 s1 p2 s2 H5 (by omega) (by omega) ((sr0.mod m4).mod m5) (sr1.mod m5) sr2 (m02.trans (m3.trans (m4.trans m5)))⟩

theorem doD_not {s : Wt} {d : Dl} (h : s.index ≠ d.from) : doD s d = (.zero, 8) := by
  unfold doD; rw [if_pos (Or.inl h)]
theorem Stt.lens {s : Stt} (h : s.Ok) : s.wt.ps.length ≤ 1000 ∧ s.wt.xs.length ≤ 1000 := by
  have lk : s.pairs.length = s.kv.length := List.length_map _
  have ls : s.sess.length = s.ss.length := List.length_map _
  have := h.kl
  have := h.sl
  exact ⟨by show s.pairs.length ≤ _; omega, by show s.sess.length ≤ _; omega⟩
theorem btw_len {old now : List (ByteArray × ByteArray)} : (btw old now).length ≤ old.length + now.length := by
  unfold btw
  have h : ∀ l : List (ByteArray × ByteArray), (l.flatMap (btwP old now)).length ≤ l.length := by
    intro l
    induction l with
    | nil => simp
    | cons p l ih => rw [List.flatMap_cons, List.length_append, List.length_cons]; have := (btwP_one old now p).1; omega
  exact Nat.le_trans (h _) (mergeL_length _ _)

theorem DeltaDo_spec {says : Sl} {ss : List Sy} {one two : UInt8} (hr : Rows H says 6 (ss.map Sy.cells).flatten) (hl : ss.length = says.len) :
    SCalls Try.prog tephralaw08_DeltaDo.id [.slice says.a says.len says.cap, .int .u8 (one.toNat : Int), .int .u8 (two.toNat : Int)] H (trueQ H) := by
  apply tephralaw08_DeltaDo.calls
  unfold tephralaw08_DeltaDo.vc
  refine bool_step (H0 := H) awake08_spec (Mod.refl _ _) fun H1 m1 => Br.no rfl ?_
  refine three_step (hr.keep m1 fun _ _ e => e) hl fun j k p0 s0 p1 s1 p2 s2 H2 hjk hk sr0 sr1 sr2 m2 => ?_
  have ok0 := Sn_ok ss j
  have ok1 := Sn_ok ss k
  have ok2 := Sn_ok ss (Ln ss)
  have i0 : (Sn ss j).index = (j : Int) := Sn_index (by omega)
  have i1 : (Sn ss k).index = (k : Int) := Sn_index hk
  have i2 : (Sn ss (Ln ss)).index = (Ln ss : Int) := Sn_index (Nat.le_refl _)
  have ht := Sn_term hjk hk
  have bd := between_do ok0 ok1 (by omega) ht
  have l0 := Stt.lens ok0
  have l1 := Stt.lens ok1
  have l2 := Stt.lens ok2
  have lb : (btw (Sn ss j).kv (Sn ss k).kv).length ≤ 1000 := by have := @btw_len (Sn ss j).kv (Sn ss k).kv; have := ok0.kl; have := ok1.kl; omega
  have hbs := Stt.bytes_le ok1
  intro H3 h3
  obtain ⟨m3, _⟩ := hole_facts h3
  refine ⟨by omega, by omega, ?_⟩
  have r0 : RR H3 p0 s0 (Sn ss j).wt.ps (Sn ss j).wt.xs := (sr0.mod m3).rr
  have r1 : RR H3 p1 s1 (Sn ss k).wt.ps (Sn ss k).wt.xs := (sr1.mod m3).rr
  have r2 : RR H3 p2 s2 (Sn ss (Ln ss)).wt.ps (Sn ss (Ln ss)).wt.xs := (sr2.mod m3).rr
  refine between_step (a := (Sn ss j).wt) (b := (Sn ss k).wt) r0 r1 ⟨l0.1, l1.1, l1.2⟩ bd.1 fun p4 x4 H4 r4 m4 => ?_
  intro H5 h5
  obtain ⟨m5, _⟩ := hole_facts h5
  refine ⟨by omega, ?_⟩
  refine do_step (s := (Sn ss j).wt) (d := ⟨(Sn ss j).index, (Sn ss k).index, (Sn ss k).term, btw (Sn ss j).kv (Sn ss k).kv, (Sn ss k).sess⟩) ((r0.mod m4).mod m5) (r4.mod m5) ⟨l0.1, lb, l1.2⟩ bd.2 fun p6 x6 H6 r6 m6 => ?_
  intro H7 h7
  obtain ⟨m7, _⟩ := hole_facts h7
  have m37 := m4.trans (m5.trans (m6.trans m7))
  refine Br.no rfl ?_
  apply tephralaw08_DeltaDo.k1.step; unfold tephralaw08_DeltaDo.k1.body
  refine Br.no rfl ⟨by omega, ?_⟩
  have hB : (stB (Sn ss k).index (Sn ss k).term (Sn ss k).pairs (Sn ss k).sess).length ≤ 140737488355328 := by unfold Stt.bytes at hbs; omega
  have hS := Same_spec (i := (Sn ss k).index) (t := (Sn ss k).term) (i' := (Sn ss k).index) (t' := (Sn ss k).term) (r6.mod m7) (r1.mod m37) hB hB
  rw [decide_eq_true rfl] at hS
  refine bool_step (H0 := H7) hS (Mod.refl _ _) fun H9 m9 => ?_
  have m39 := m37.trans m9
  apply tephralaw08_DeltaDo.k2.step; unfold tephralaw08_DeltaDo.k2.body
  refine Br.no rfl ⟨by omega, ?_⟩
  by_cases e : Ln ss = j
  · have e' : k = j := by omega
    subst e'
    have bd2 : doD (Sn ss (Ln ss)).wt ⟨(Sn ss k).index, (Sn ss k).index, (Sn ss k).term, btw (Sn ss k).kv (Sn ss k).kv, (Sn ss k).sess⟩ = ((Sn ss k).wt, 0) := by rw [e]; exact bd.2
    refine do_step (s := (Sn ss (Ln ss)).wt) (d := ⟨(Sn ss k).index, (Sn ss k).index, (Sn ss k).term, btw (Sn ss k).kv (Sn ss k).kv, (Sn ss k).sess⟩) (r2.mod m39) (((r4.mod m5).mod (m6.trans m7)).mod m9) ⟨l2.1, lb, l1.2⟩ bd2 fun p10 x10 H10 r10 m10 => ?_
    intro H11 h11
    obtain ⟨m11, _⟩ := hole_facts h11
    exact ⟨by omega, by omega, Br.yes (by rw [e]; simp) ⟨rfl, m1.trans (m2.trans (m3.trans (m39.trans (m10.trans m11))))⟩⟩
  · have hne : (Sn ss (Ln ss)).index ≠ (Sn ss j).index := by rw [i2, i0]; omega
    refine do_step (s := (Sn ss (Ln ss)).wt) (d := ⟨(Sn ss j).index, (Sn ss k).index, (Sn ss k).term, btw (Sn ss j).kv (Sn ss k).kv, (Sn ss k).sess⟩) (r2.mod m39) (((r4.mod m5).mod (m6.trans m7)).mod m9) ⟨l2.1, lb, l1.2⟩ (doD_not hne) fun p10 x10 H10 r10 m10 => ?_
    intro H11 h11
    obtain ⟨m11, _⟩ := hole_facts h11
    have l10 : p10.len = 0 := (r10.lens).1.symm
    refine ⟨by omega, by omega, Br.no (by simpa using hne) (Br.yes rfl ?_)⟩
    apply tephralaw08_DeltaDo.k3.step; unfold tephralaw08_DeltaDo.k3.body
    exact Br.yes rfl ⟨by rw [l10]; rfl, m1.trans (m2.trans (m3.trans (m39.trans (m10.trans m11))))⟩
end
end Go.Proofs
