/- LAYER 14: NodeRestart. -/
import Derived.Test.YtbodlapndgnkgaaKno12
set_option linter.all false
set_option linter.constructorNameAsVariable false
set_option maxRecDepth 100000
namespace Go.Proofs
open Go Go.KC
section
variable {H : Hp} {acts : Sl} {ds : List Ac}
/-- The deeds that a law does. -/
theorem acts_cut {n : Nat} (hr : Rows H acts 20 (ds.map Ac.cells).flatten) (hl : ds.length = acts.len) : Rows H ⟨cutA acts.a acts.cap 0 20, min n acts.len, acts.cap⟩ 20 ((ds.take n).map Ac.cells).flatten := by
  have := Rows.take hr (n := min n acts.len) (by omega)
  have e : (ds.map Ac.cells).flatten.take (min n acts.len * 20) = ((ds.take n).map Ac.cells).flatten := by
    rw [← flat_take (f := Ac.cells) (k := 20) (fun _ => rfl)]
    congr 1
    rw [← hl]; exact congrArg (List.map Ac.cells) List.take_eq_take_min.symm
  rw [e] at this
  exact this
theorem restart_true {n : Nd} {x y : Sl} {r : Nd} {H10 : Hp} (m : Mod (fun _ => False) H H10) (hx : Lr H10 x n.es) (hy : Lr H10 y n.es) {z : Sl} (hz : Lr H10 z n.es) (hl : n.es.length ≤ 2000000) (hr : r = n.restart) :
    tephralaw14_NodeRestart.k1 J0 n.id n.term n.vote n.base n.bt x n.role n.com n.v0 n.v1 n.v2 n.m0 n.m1 n.m2 n.n0 n.n1 n.n2 n.quiet r.id r.term r.vote r.base r.bt y r.role r.com r.v0 r.v1 r.v2 r.m0 r.m1 r.m2 r.n0 r.n1 r.n2 r.quiet n.id n.term n.vote n.base n.bt z n.role n.com n.v0 n.v1 n.v2 n.m0 n.m1 n.m2 n.n0 n.n1 n.n2 n.quiet H10 (r.term == n.term) (TellPost H (.bool true)) := by
  subst hr
  have hyl := hy.len
  have hzl := hz.len
  apply tephralaw14_NodeRestart.k1.step; unfold tephralaw14_NodeRestart.k1.body
  refine Br.yes (by simp [Nd.restart]) ?_
  apply tephralaw14_NodeRestart.k2.step; unfold tephralaw14_NodeRestart.k2.body
  refine Br.yes (by simp [Nd.restart]) ((nSame_spec (b := n.base) (t := n.bt) (b' := n.base) (t' := n.bt) hy hx (by omega)).mono ?_)
  rintro _ H11 ⟨rfl, m11⟩
  refine ⟨_, rfl, ?_⟩
  rw [sameL_self]
  apply tephralaw14_NodeRestart.k3.step; unfold tephralaw14_NodeRestart.k3.body
  refine Br.yes rfl ?_
  apply tephralaw14_NodeRestart.k4.step; unfold tephralaw14_NodeRestart.k4.body
  refine Br.yes rfl ?_
  apply tephralaw14_NodeRestart.k5.step; unfold tephralaw14_NodeRestart.k5.body
  refine Br.yes (by simp [Nd.restart]) ?_
  apply tephralaw14_NodeRestart.k6.step; unfold tephralaw14_NodeRestart.k6.body
  refine Br.yes rfl ((nSame_spec (b := n.base) (t := n.bt) (b' := n.base) (t' := n.bt) (hz.mod m11) (hx.mod m11) (by omega)).mono ?_)
  rintro _ H13 ⟨rfl, m13⟩
  refine ⟨_, rfl, ?_⟩
  rw [sameL_self]
  apply tephralaw14_NodeRestart.k7.step; unfold tephralaw14_NodeRestart.k7.body
  refine Br.yes rfl ?_
  apply tephralaw14_NodeRestart.k8.step; unfold tephralaw14_NodeRestart.k8.body
  refine Br.yes (by simp) ⟨by simp, m.trans (m11.trans m13)⟩

theorem NodeRestart_spec {who : UInt8} (hr : Rows H acts 20 (ds.map Ac.cells).flatten) (hl : ds.length = acts.len) :
    SCalls Try.prog tephralaw14_NodeRestart.id [.slice acts.a acts.len acts.cap, .int .u8 (who.toNat : Int)] H (TellPost H (.bool true)) := by
  have hw8 := who.toNat_lt
  apply tephralaw14_NodeRestart.calls
  refine bool_step (H0 := H) awake14_spec (Mod.refl _ _) fun H1 m1 => Br.no rfl (wOf_spec.mono ?_)
  rintro r H2 ⟨b, rfl, o2⟩
  have hcap := hr.2.1
  have em : (if (80 : Int) < ((acts.len : Nat) : Int) then 80 else ((acts.len : Nat) : Int)) = ((min 80 acts.len : Nat) : Int) := by split <;> omega
  refine ⟨_, rfl, ?_⟩
  rw [em]
  refine ⟨⟨by omega, by omega⟩, ?_⟩
  have hcut := acts_cut (n := 80) hr hl
  have hdl : (ds.take 80).length = min 80 acts.len := by rw [List.length_take, hl]
  generalize ds.take 80 = es at hcut hdl
  have loop : ∀ (d j : Nat) (H3 : Hp), j + d = es.length → WH H1 H3 b (wd (es.take j)) → tephralaw14_NodeRestart.l1 J0 acts (who.toNat : Int) (some ⟨b, 0, none⟩) H3 (j : Int) (TellPost H (.bool true)) := by
    intro d
    induction d with
    | succ d ih =>
      intro j H3 hj o3
      have hjl : j < es.length := by omega
      have m3 : Mod (fun _ => False) H1 H3 := by obtain ⟨_, _, _, _, _, o⟩ := o3; exact o.mod
      apply tephralaw14_NodeRestart.l1.step; unfold tephralaw14_NodeRestart.l1.body
      rw [em, Int.toNat_natCast]
      obtain ⟨a, ha, hrow⟩ := row_get (f := Ac.cells) (k := 20) (by omega) Ac.cells_len (hcut.keep (m1.trans m3) fun _ _ e => e) hjl
      refine Br.yes (decide_eq_true (by omega)) ⟨⟨by omega, by omega⟩, vPtr.mk a ha ⟨_, _, _, _, _, _, _, _, _, _, _, _, _, _, _, _, _, es[j].any.x, _, _, hrow, ?_⟩⟩
      refine do_step hjl (by omega) o3 fun H5 o5 => ⟨rfl, ?_⟩
      rw [w64_id (x := (j : Int) + 1) (by omega) (by omega)]
      have := ih (j + 1) H5 (by omega) o5
      simpa using this
    | zero =>
      intro j H3 hj o3
      obtain rfl : j = es.length := by omega
      rw [List.take_length] at o3
      apply tephralaw14_NodeRestart.l1.step; unfold tephralaw14_NodeRestart.l1.body
      rw [em, Int.toNat_natCast]
      have B := wd_bd es (by omega)
      obtain ⟨_, _, _, _, _, o⟩ := o3
      have et : Int.tmod (who.toNat : Int) 3 = ((who.toNat % 3 : Nat) : Int) := tmod_u8 _ 3 (by omega)
      rw [et]
      have hi : 0 ≤ ((who.toNat % 3 : Nat) : Int) ∧ ((who.toNat % 3 : Nat) : Int) < 3 := by omega
      obtain ⟨x, hx, hlr, _⟩ := o.one hi
      have hn := (B.nd _ hi).fit hi (by omega)
      generalize (wd es).nd ((who.toNat % 3 : Nat) : Int) = n at hx hlr hn
      have m03 := m1.trans o.mod
      refine Br.no (decide_eq_false (by omega)) ⟨by omega, vPtr.mk _ rfl ⟨hi, _, _, _, _, _, x, _, _, _, _, _, _, _, _, _, _, _, _, hx, ?_⟩⟩
      intro H6 h6
      obtain ⟨m6, _⟩ := hole_facts h6
      refine (nRestart_spec (hlr.mod m6) hn.el).mono ?_
      rintro r H7 ⟨y, rfl, hy⟩
      refine ⟨_, _, _, _, _, y, _, _, _, _, _, _, _, _, _, _, _, _, rfl, ?_⟩
      intro H8 h8
      obtain ⟨m8, _⟩ := hole_facts h8
      refine (nClone_spec (((hlr.mod m6).mod hy.mod).mod m8) hn.el).mono ?_
      rintro r H9 ⟨z, rfl, hz⟩
      refine ⟨_, _, _, _, _, z, _, _, _, _, _, _, _, _, _, _, _, _, rfl, ?_⟩
      intro H10 h10
      obtain ⟨m10, _⟩ := hole_facts h10
      have m610 := hy.mod.trans (m8.trans (hz.mod.trans m10))
      have m310 := m6.trans m610
      refine Br.yes (by simp [Nd.restart]) (restart_true (m03.trans m310) (hlr.mod m310) (hy.lr.mod (m8.trans (hz.mod.trans m10))) (hz.lr.mod m10) hn.el rfl)
  exact loop es.length 0 H2 (by omega) o2
end
end Go.Proofs
