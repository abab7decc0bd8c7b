/- LAYER 14: NodeAgree: what the law asks, of the invariant; the law. -/
import Derived.Test.YtbodlapndgnkgaaKno32
set_option linter.all false
set_option linter.constructorNameAsVariable false
set_option maxRecDepth 100000
namespace Go.Proofs
open Go Go.KC
theorem fold_El' : ∀ (ds : List Ac) (w : Wd) (k : Nat), k + ds.length ≤ 1000 → w.Bd k → El w → El (ds.foldl Wd.act w)
  | [], w, k, _, _, h => h
  | a :: ds, w, k, hk, B, h => by
    rw [List.length_cons] at hk
    have h1 := act_bd (a := a) B (by omega)
    exact fold_El' ds (w.act a) (k + 1) (by omega) (by simpa using h1) (act_El h B)
theorem wd_El' {ds : List Ac} (h : ds.length ≤ 1000) : El (wd ds) := fold_El' ds w0 0 (by omega) w0_bd w0_El
section
variable {w : Wd} {G L G' L' : Int → List En} {k : Int}
theorem ag_right (A : Ag w G L) (B : w.Bd k) (hk : k ≤ 100000) {i : Int} (hi : in3 i) : LRight (w.nd i).base (w.nd i).bt (w.nd i).es := by
  have o := A.nd i hi
  have ob := o.bb
  have ol := o.len
  have hl := A.last hi
  have hL := (B.nd i hi).last
  have rt := A.rt hi
  have ch := A.ch i hi
  have get : ∀ j (hj : j < (w.nd i).es.length), (G i)[(w.nd i).base.toNat + j]? = some (w.nd i).es[j] := fun j hj => by
    have h : (w.nd i).es[j]? = some (w.nd i).es[j] := List.getElem?_eq_getElem hj
    rw [← h]
    conv => rhs; rw [o.es]
    rw [List.getElem?_drop]
  have bt : ∀ p, (w.nd i).base.toNat = p + 1 → ∃ e, (G i)[p]? = some e ∧ (w.nd i).bt = e.term := fun p hp => by
    have hg : p < (G i).length := by omega
    refine ⟨_, List.getElem?_eq_getElem hg, ?_⟩
    rw [o.bt, hp, tmAt_get (List.getElem?_eq_getElem hg)]
  have bt0 : (w.nd i).base.toNat = 0 → (w.nd i).bt = 0 := fun h => by rw [o.bt, h]; rfl
  refine ⟨ob.1, ?_, fun j hj => ?_, fun h => ?_⟩
  · rcases Nat.eq_zero_or_pos (w.nd i).base.toNat with h | h
    · rw [bt0 h]; exact Int.le_refl _
    · obtain ⟨e, h1, h2⟩ := bt ((w.nd i).base.toNat - 1) (by omega)
      rw [h2]; exact (rt _ e h1).2.2.2.1
  · have q := rt _ _ (get j hj)
    refine ⟨q.2, ?_, fun h0 => ?_⟩
    · rw [q.1, w64_id (x := (w.nd i).base + 1) (by omega) (by omega), w64_id (by omega) (by omega)]
      omega
    · exact ch.mono' A.ltm (get (j - 1) (by omega)) (get j hj) (by omega)
  · have q := get 0 h
    rcases Nat.eq_zero_or_pos (w.nd i).base.toNat with h0 | h0
    · rw [bt0 h0]; exact (rt _ _ q).2.2.2.1
    · obtain ⟨e, h1, h2⟩ := bt ((w.nd i).base.toNat - 1) (by omega)
      rw [h2]
      exact ch.mono' A.ltm h1 q (by omega)
theorem ag_Aq {a : Ac} (A : Ag w G L) (B : w.Bd k) (hk : k ≤ 1000) (hk0 : 0 ≤ k) (A' : Ag (w.act a) G' L') (hp : ∀ t, L t <+: L' t) : Aq w (w.act a) (a.op.toNat : Int) G' G := by
  have B' := act_bd (a := a) B (by omega)
  obtain ⟨ms, es⟩ := act_sent w a
  have ho8 := a.op.toNat_lt
  refine ⟨A'.nd, A.nd, fun i hi => (B'.nd i hi).fit hi (by omega), fun i hi => (B.nd i hi).fit hi (by omega), fun i hi => ag_right A' B' (by omega) hi, fun i hi => ?_, fun i j hi hj => A'.two (A'.cm i hi) (A'.cm j hj), fun i hi => ?_, fun i hi h => ?_⟩
  · rw [A'.last hi]
    exact ⟨(A'.bc i hi).2, (A'.bc i hi).1⟩
  · refine A'.two (A'.cm i hi) (T' := (w.nd i).term) ?_
    rw [es]
    exact (A.cm i hi).mono hp (List.prefix_refl _) (Int.le_refl _)
  · have et : Int.tmod (a.op.toNat : Int) 16 = ((a.op.toNat % 16 : Nat) : Int) := tmod_u8 _ 16 (by omega)
    rw [et]
    by_cases c : a.op.toNat % 16 = 5
    · rw [c]; rfl
    · have := act_com B (a := a) hi c
      omega
end
section
variable {H : Hp} {acts : Sl} {ds : List Ac}
theorem NodeAgree_spec (hr : Rows H acts 20 (ds.map Ac.cells).flatten) (hl : ds.length = acts.len) :
    SCalls Try.prog tephralaw14_NodeAgree.id [.slice acts.a acts.len acts.cap] H (TellPost H (.bool true)) := by
  apply tephralaw14_NodeAgree.calls
  refine bool_step (H0 := H) awake14_spec (Mod.refl _ _) fun H1 m1 => Br.no rfl (wOf_spec.mono ?_)
  rintro r H2 ⟨b0, rfl, o2⟩
  have hcap := hr.2.1
  have em : (if (150 : Int) < ((acts.len : Nat) : Int) then 150 else ((acts.len : Nat) : Int)) = ((min 150 acts.len : Nat) : Int) := by split <;> omega
  refine ⟨_, rfl, ?_⟩
  rw [em]
  refine ⟨⟨by omega, by omega⟩, ?_⟩
  have hcut := acts_cut (n := 150) hr hl
  have hdl : (ds.take 150).length = min 150 acts.len := by rw [List.length_take, hl]
  generalize ds.take 150 = es at hcut hdl
  have loop : ∀ (d j : Nat) (H3 : Hp) (G L : Int → List En), j + d = es.length → WH H1 H3 b0 (wd (es.take j)) → Ag (wd (es.take j)) G L → tephralaw14_NodeAgree.l1 J0 acts (some ⟨b0, 0, none⟩) H3 (j : Int) (TellPost H (.bool true)) := by
    intro d
    induction d with
    | succ d ih =>
      intro j H3 G L hj o4 A
      have hjl : j < es.length := by omega
      have m01 : Mod (fun _ => False) H1 H3 := by obtain ⟨_, _, _, _, _, o⟩ := o4; exact o.mod
      apply tephralaw14_NodeAgree.l1.step; unfold tephralaw14_NodeAgree.l1.body
      rw [em, Int.toNat_natCast]
      obtain ⟨a, ha, hrow⟩ := row_get (f := Ac.cells) (k := 20) (by omega) Ac.cells_len (hcut.keep (m1.trans m01) fun _ _ e => e) hjl
      refine Br.yes (decide_eq_true (by omega)) ⟨⟨by omega, by omega⟩, vPtr.mk a ha ⟨_, _, _, _, _, _, _, _, _, _, _, _, _, _, _, _, _, es[j].any.x, _, _, hrow, fun H5 h5 => vPtr.mk _ rfl ?_⟩⟩
      obtain ⟨m5, _⟩ := hole_facts h5
      have htl : (es.take j).length = j := by rw [List.length_take]; omega
      have B := wd_bd (es.take j) (by omega)
      have Ln := wd_len (es.take j)
      have E := wd_El' (ds := es.take j) (by omega)
      rw [htl] at B Ln
      have ew := wd_take hjl
      have ih := fun H4 G L => ih (j + 1) H4 G L (by omega)
      rw [ew] at ih
      generalize wd (es.take j) = w at o4 A B Ln E ih
      obtain ⟨G', L', A', hp⟩ := act_Ag (a := es[j]) A E B (by omega)
      have q := ag_Aq (k := (j : Int)) A B (by omega) (by omega) A' hp
      obtain ⟨xa, xb, xc, sy, l, o⟩ := wh_to o4 m5
      have hrow3 : RowAt H5 (Addr.mk b0 0 none) (w.a.cells xa ++ (w.b.cells xb ++ w.c.cells xc)) := blk_row0 o.blk rfl
      refine ⟨_, _, _, _, _, xa, _, _, _, _, _, _, _, _, _, _, _, _, _, _, _, _, _, xb, _, _, _, _, _, _, _, _, _, _, _, _, _, _, _, _, _, xc, _, _, _, _, _, _, _, _, _, _, _, _, hrow3, fun H6 h6 => ?_⟩
      obtain ⟨m6, _⟩ := hole_facts h6
      have o6 := o.to m6
      refine (Do_keep (a := es[j]) o6 B (by omega) (by omega)).mono ?_
      rintro r H7 ⟨rfl, o7, mk⟩
      refine ⟨rfl, ?_⟩
      have kp : ∀ {x : Sl} {es : List En}, Lr H6 x es → (∀ q ∈ x.blk, q < H6.size ∧ q ≠ b0 ∧ q ∉ sy.blk) → Lr H7 x es := fun hr hq => Rows.keep hr mk fun q h e => e.elim (hq q h).2.2 (hq q h).2.1
      refine agree_l2 q o7 (kp o6.ra o6.ba) (kp o6.rb o6.bb) (kp o6.rc o6.bc) (fun H9 o9 => ?_) 3 0 H7 rfl (Mod.refl _ _)
      have e : w64 ((j : Int) + 1) = ((j + 1 : Nat) : Int) := by rw [w64_id (by omega) (by omega)]; simp
      rw [e]
      exact ih H9 G' L' o9 A'
    | zero =>
      intro j H3 G L hj o4 A
      have m01 : Mod (fun _ => False) H1 H3 := by obtain ⟨_, _, _, _, _, o⟩ := o4; exact o.mod
      apply tephralaw14_NodeAgree.l1.step; unfold tephralaw14_NodeAgree.l1.body
      rw [em, Int.toNat_natCast]
      exact Br.no (decide_eq_false (by omega)) ⟨rfl, m1.trans m01⟩
  exact loop es.length 0 H2 _ _ (by omega) o2 w0_Ag
end
end Go.Proofs
