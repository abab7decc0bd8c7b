/- LAYER 14: NodeElects, walked (printed by elects2.py). -/
import Derived.Test.YtbodlapndgnkgaaKno22
set_option linter.all false
set_option linter.constructorNameAsVariable false
set_option maxRecDepth 100000
set_option linter.all false
namespace Go.Proofs
open Go Go.KC
section
variable {H1 : Hp} {acts : Sl} {b0 mb : Nat} {x2 op who at_ s1 s2 s3 s4 s5 s6 k1 k2 k3 k4 k5 k6 k7 more : Int} {kb : Bool} {kx : Sl} {kp : Option Addr} {w w' : Wd} {xa xb xc : Sl} {Q : Value → Hp → Prop}
theorem elects_l2 (hne : b0 ≠ mb) (hw : ∀ i, in3 i → (w.nd i).term ≤ (w'.nd i).term ∧ ((w'.nd i).term = (w.nd i).term → 0 ≤ (w.nd i).vote → (w'.nd i).vote = (w.nd i).vote)) (E : El w')
    (hl1 : ∀ H9 g, WH H1 (wo H9 mb) b0 w' → GL H9 mb g → AllLd w'.sent g → tephralaw14_NodeElects.l1 J0 acts (some ⟨b0, 0, none⟩) mb H9 (w64 (x2 + 1)) Q) :
    ∀ (d i : Nat) (H8 : Hp) (g : Int → Option Value), i + d = 3 → WH H1 (wo H8 mb) b0 w' → GL H8 mb g → AllLd w'.sent g →
      tephralaw14_NodeElects.l2 J0 acts (some ⟨b0, 0, none⟩) mb x2 op who at_ s1 s2 s3 s4 s5 s6 k1 k2 k3 k4 k5 k6 kb k7 kx kp more w.a.id w.a.term w.a.vote w.a.base w.a.bt xa w.a.role w.a.com w.a.v0 w.a.v1 w.a.v2 w.a.m0 w.a.m1 w.a.m2 w.a.n0 w.a.n1 w.a.n2 w.a.quiet w.b.id w.b.term w.b.vote w.b.base w.b.bt xb w.b.role w.b.com w.b.v0 w.b.v1 w.b.v2 w.b.m0 w.b.m1 w.b.m2 w.b.n0 w.b.n1 w.b.n2 w.b.quiet w.c.id w.c.term w.c.vote w.c.base w.c.bt xc w.c.role w.c.com w.c.v0 w.c.v1 w.c.v2 w.c.m0 w.c.m1 w.c.m2 w.c.n0 w.c.n1 w.c.n2 w.c.quiet H8 (i : Int) Q := by
  intro d
  induction d with
  | zero =>
    intro i H8 g hi o hg al
    apply tephralaw14_NodeElects.l2.step; unfold tephralaw14_NodeElects.l2.body
    exact Br.no (decide_eq_false (by omega)) (hl1 H8 g o hg al)
  | succ d ih =>
  intro i H8 g hi o hg al
  have hid : in3 (i : Int) := ⟨by omega, by omega⟩
  have hin : (0 : Int) ≤ (i : Int) ∧ (i : Int) < ((3 : Nat) : Int) := ⟨by omega, by omega⟩
  obtain ⟨ht, hv⟩ := hw _ hid
  have nx : ∀ H40 g', Mod (· = mb) H8 H40 → GL H40 mb g' → (g' = g ∨ (w'.nd (i : Int)).role = 2 ∧ g' = upd g (w'.nd (i : Int)).term (some (.int .i64 (i : Int)))) → tephralaw14_NodeElects.l2 J0 acts (some ⟨b0, 0, none⟩) mb x2 op who at_ s1 s2 s3 s4 s5 s6 k1 k2 k3 k4 k5 k6 kb k7 kx kp more w.a.id w.a.term w.a.vote w.a.base w.a.bt xa w.a.role w.a.com w.a.v0 w.a.v1 w.a.v2 w.a.m0 w.a.m1 w.a.m2 w.a.n0 w.a.n1 w.a.n2 w.a.quiet w.b.id w.b.term w.b.vote w.b.base w.b.bt xb w.b.role w.b.com w.b.v0 w.b.v1 w.b.v2 w.b.m0 w.b.m1 w.b.m2 w.b.n0 w.b.n1 w.b.n2 w.b.quiet w.c.id w.c.term w.c.vote w.c.base w.c.bt xc w.c.role w.c.com w.c.v0 w.c.v1 w.c.v2 w.c.m0 w.c.m1 w.c.m2 w.c.n0 w.c.n1 w.c.n2 w.c.quiet H40 (w64 ((i : Int) + 1)) Q := by
    intro H40 g' m' hg' hc
    have e : w64 ((i : Int) + 1) = ((i + 1 : Nat) : Int) := by rw [w64_id (by omega) (by omega)]; simp
    rw [e]
    refine ih (i + 1) H40 g' (by omega) (WH.to o (wo_mod m')) hg' ?_
    rcases hc with rfl | ⟨hr, rfl⟩
    · exact al
    · exact al.put (E.g4 _ hid hr)
  have hf : (w'.nd (i : Int)).role = 2 → ∀ v, g (w'.nd (i : Int)).term = some v → v = .int .i64 (i : Int) := fun hr v hv => by
    obtain ⟨c, rfl, hc⟩ := al _ _ hv
    rw [E.one hc (E.g4 _ hid hr)]
  obtain ⟨ya, yb, yc, sy, l, o'⟩ := o
  obtain ⟨x, hrow, _⟩ := o'.one hid
  have hrow := rowAt_keep hrow wo_of (fun e => hne (by rw [Addr.add_loc] at e; exact e))
  apply tephralaw14_NodeElects.l2.step; unfold tephralaw14_NodeElects.l2.body
  refine Br.yes (decide_eq_true (by omega)) (vPtr.mk _ rfl ⟨hin, _, _, _, _, _, x, _, _, _, _, _, _, _, _, _, _, _, _, hrow, hin, vSel3 hin (fun e => ?_) (fun e => ?_) (fun e => ?_)⟩)
  · have e0 : (i : Int) = 0 := by omega
    have en : w.nd (i : Int) = w.a := by rw [e0]; rfl
    rw [en] at ht hv
    refine ⟨⟨fun H9 e9 H10 e10 => ?_, fun H9 e9 H10 e10 => ?_⟩, fun H9 e9 => ⟨fun H10 e10 => ?_, fun H10 e10 => ⟨?_, ?_⟩⟩, fun H9 e9 => ⟨fun H10 e10 => ?_, fun H10 e10 => ⟨?_, ?_⟩⟩⟩
    all_goals first
      | exact elects_k1 ((hole_facts e9).1.trans (hole_facts e10).1) hg ht hv hf nx
      | exact elects_k6 ((hole_facts e9).1.trans (hole_facts e10).1) hg ht hv hf nx
  · have e0 : (i : Int) = 1 := by omega
    have en : w.nd (i : Int) = w.b := by rw [e0]; rfl
    rw [en] at ht hv
    refine ⟨⟨fun H9 e9 H10 e10 => ?_, fun H9 e9 H10 e10 => ?_⟩, fun H9 e9 => ⟨fun H10 e10 => ?_, fun H10 e10 => ⟨?_, ?_⟩⟩, fun H9 e9 => ⟨fun H10 e10 => ?_, fun H10 e10 => ⟨?_, ?_⟩⟩⟩
    all_goals first
      | exact elects_k1 ((hole_facts e9).1.trans (hole_facts e10).1) hg ht hv hf nx
      | exact elects_k6 ((hole_facts e9).1.trans (hole_facts e10).1) hg ht hv hf nx
  · have e0 : (i : Int) = 2 := by omega
    have en : w.nd (i : Int) = w.c := by rw [e0]; rfl
    rw [en] at ht hv
    refine ⟨⟨fun H9 e9 H10 e10 => ?_, fun H9 e9 H10 e10 => ?_⟩, fun H9 e9 => ⟨fun H10 e10 => ?_, fun H10 e10 => ⟨?_, ?_⟩⟩, fun H9 e9 => ⟨fun H10 e10 => ?_, fun H10 e10 => ⟨?_, ?_⟩⟩⟩
    all_goals first
      | exact elects_k1 ((hole_facts e9).1.trans (hole_facts e10).1) hg ht hv hf nx
      | exact elects_k6 ((hole_facts e9).1.trans (hole_facts e10).1) hg ht hv hf nx
end
section
variable {H : Hp} {acts : Sl} {ds : List Ac}
theorem NodeElects_spec (hr : Rows H acts 20 (ds.map Ac.cells).flatten) (hl : ds.length = acts.len) :
    SCalls Try.prog tephralaw14_NodeElects.id [.slice acts.a acts.len acts.cap] H (TellPost H (.bool true)) := by
  apply tephralaw14_NodeElects.calls
  refine bool_step (H0 := H) awake14_spec (Mod.refl _ _) fun H1 m1 => Br.no rfl (wOf_spec.mono ?_)
  rintro r H2 ⟨b0, rfl, o2⟩
  have hcap := hr.2.1
  have em : (if (150 : Int) < ((acts.len : Nat) : Int) then 150 else ((acts.len : Nat) : Int)) = ((min 150 acts.len : Nat) : Int) := by split <;> omega
  refine ⟨_, rfl, fun mb e3 H3 h3 => ?_⟩
  rw [em]
  refine ⟨⟨by omega, by omega⟩, ?_⟩
  have hcut := acts_cut (n := 150) hr hl
  have hdl : (ds.take 150).length = min 150 acts.len := by rw [List.length_take, hl]
  generalize ds.take 150 = es at hcut hdl
  have hbl : b0 < H2.size := by obtain ⟨_, _, _, _, _, o⟩ := o2; exact lt_of_get o.blk
  have h12 : H1.size ≤ H2.size := by obtain ⟨_, _, _, _, _, o⟩ := o2; exact o.mod.size
  have hne : b0 ≠ mb := by omega
  have m23 : Mod (fun _ => False) H2 (wo H3 mb) := by
    refine ⟨by subst h3; simp [wo], fun q hq _ => ?_⟩
    unfold wo
    rw [Array.getElem?_setIfInBounds, if_neg (by omega), h3, Array.getElem?_push, if_neg (by omega)]
  have g3 : GL H3 mb (fun _ => none) := by subst h3; subst e3; exact ⟨0, GM.new H2⟩
  have loop : ∀ (d j : Nat) (H4 : Hp) (g : Int → Option Value), j + d = es.length → WH H1 (wo H4 mb) b0 (wd (es.take j)) → GL H4 mb g → AllLd (wd (es.take j)).sent g → tephralaw14_NodeElects.l1 J0 acts (some ⟨b0, 0, none⟩) mb H4 (j : Int) (TellPost H (.bool true)) := by
    intro d
    induction d with
    | succ d ih =>
      intro j H4 g hj o4 hg al
      have hjl : j < es.length := by omega
      have m01 : Mod (fun _ => False) H1 (wo H4 mb) := by obtain ⟨_, _, _, _, _, o⟩ := o4; exact o.mod
      have m04 : Mod (fun _ => False) H H4 := (((m1.trans m01).mono (m' := (· = mb)) fun _ _ e => e.elim).trans wo_of).mono fun q hq e => by have := m1.size; omega
      apply tephralaw14_NodeElects.l1.step; unfold tephralaw14_NodeElects.l1.body
      rw [em, Int.toNat_natCast]
      obtain ⟨a, ha, hrow⟩ := row_get (f := Ac.cells) (k := 20) (by omega) Ac.cells_len (hcut.keep m04 fun _ _ e => e) hjl
      refine Br.yes (decide_eq_true (by omega)) ⟨⟨by omega, by omega⟩, vPtr.mk a ha ⟨_, _, _, _, _, _, _, _, _, _, _, _, _, _, _, _, _, es[j].any.x, _, _, hrow, fun H5 h5 => vPtr.mk _ rfl ?_⟩⟩
      obtain ⟨m5, _⟩ := hole_facts h5
      have o5 := WH.to o4 (wo_mod (m5.mono fun _ _ e => e.elim))
      have htl : (es.take j).length = j := by rw [List.length_take]; omega
      have B := wd_bd (es.take j) (by omega)
      have L := wd_len (es.take j)
      have E := wd_El (ds := es.take j) (by omega)
      rw [htl] at B L
      have ew := wd_take hjl
      have E' := wd_El (ds := es.take (j + 1)) (by rw [List.length_take]; omega)
      rw [ew] at E'
      have ih := fun H4 g => ih (j + 1) H4 g (by omega)
      rw [ew] at ih
      generalize wd (es.take j) = w at o5 o4 al B L E E' ih
      have hw := fun i (hi : in3 i) => act_terms (a := es[j]) E B hi
      obtain ⟨xa, xb, xc, sy, l, o⟩ := o5
      have hrow3 : RowAt H5 (Addr.mk b0 0 none) (w.a.cells xa ++ (w.b.cells xb ++ w.c.cells xc)) := rowAt_keep (blk_row0 o.blk rfl) wo_of fun e => hne e
      refine ⟨_, _, _, _, _, xa, _, _, _, _, _, _, _, _, _, _, _, _, _, _, _, _, _, xb, _, _, _, _, _, _, _, _, _, _, _, _, _, _, _, _, _, xc, _, _, _, _, _, _, _, _, _, _, _, _, hrow3, fun H6 h6 => ?_⟩
      obtain ⟨m6, _⟩ := hole_facts h6
      have o6 : WH H1 (wo H6 mb) b0 w := ⟨xa, xb, xc, sy, l, o.to (wo_mod (m6.mono fun _ _ e => e.elim))⟩
      have g6 := hg.keep (m5.trans m6) fun e => e
      obtain ⟨ob, hob, hoh⟩ := g6.obj
      refine (SCalls.beside hob hoh (Do_spec (a := es[j]) o6 B (by omega) (by omega))).mono ?_
      rintro r H7 ⟨⟨rfl, o7⟩, hob7, hsz⟩
      refine ⟨rfl, ?_⟩
      have al' : AllLd (w.act es[j]).sent g := by obtain ⟨ms, e⟩ := act_sent w es[j]; rw [e]; exact al.left
      refine elects_l2 hne hw E' (fun H9 g' o9 g9 al9 => ?_) 3 0 H7 g rfl o7 (g6.same hob hob7) al'
      have e : w64 ((j : Int) + 1) = ((j + 1 : Nat) : Int) := by rw [w64_id (by omega) (by omega)]; simp
      rw [e]
      exact ih H9 g' o9 g9 al9
    | zero =>
      intro j H4 g hj o4 hg al
      have m01 : Mod (fun _ => False) H1 (wo H4 mb) := by obtain ⟨_, _, _, _, _, o⟩ := o4; exact o.mod
      have m04 : Mod (fun _ => False) H H4 := (((m1.trans m01).mono (m' := (· = mb)) fun _ _ e => e.elim).trans wo_of).mono fun q hq e => by have := m1.size; omega
      apply tephralaw14_NodeElects.l1.step; unfold tephralaw14_NodeElects.l1.body
      rw [em, Int.toNat_natCast]
      exact Br.no (decide_eq_false (by omega)) ⟨rfl, m04⟩
  exact loop es.length 0 H3 _ (by omega) (WH.to o2 m23) g3 fun t v e => by injection e
end
end Go.Proofs
