/- LAYER 14: the law's agree, walked; what two replicas that agree are. -/
import Derived.Test.YtbodlapndgnkgaaKno30
set_option linter.all false
set_option linter.constructorNameAsVariable false
set_option maxRecDepth 100000
namespace Go.Proofs
open Go Go.KC
section
variable {H : Hp} {a b : Nd} {x y : Sl} {ga gb : List En}
theorem behind_spec {bb t i : Int} {es : List En} (hb : nice bb) (hl : x.len ≤ 1000000000) (h : Lr H x es) : SCalls Try.prog tephralaw14_behind.id [lgv bb t x, .int .i64 i] H (TellPost H (tb (termAt bb t es i))) := by
  apply tephralaw14_behind.calls (lBase := bb) (lTerm := t) (lEntries := x)
  intro H1 h1
  obtain ⟨m1, _⟩ := hole_facts h1
  refine (TermAt_spec hb hl (h.mod m1)).mono ?_
  rintro r H2 ⟨rfl, m2⟩
  exact ⟨_, _, rfl, rfl, m1.trans m2⟩
theorem agree_spec (hx : Lr H x a.es) (hy : Lr H y b.es) (fa : a.Fit) (fb : b.Fit) (oa : Of ga a.base a.bt a.es) (ob : Of gb b.base b.bt b.es) (s : Sam ga gb (min a.com b.com).toNat) :
    SCalls Try.prog tephralaw14_agree.id [a.val x, b.val y] H (TellPost H (.bool true)) := by
  apply tephralaw14_agree.calls
  intro H1 h1 H2 h2
  obtain ⟨m1, _⟩ := hole_facts h1
  obtain ⟨m2, _⟩ := hole_facts h2
  obtain ⟨_, fab, fal⟩ := fa
  obtain ⟨_, fbb, fbl⟩ := fb
  have xl := hx.len
  have yl := hy.len
  have la := oa.len
  have lb := ob.len
  have s1 := s.1
  have s2 := s.2.1
  have em : (if b.com < a.com then b.com else a.com) = min a.com b.com := by split <;> omega
  have loop : ∀ (d : Nat) (i : Int) (H3 : Hp), (min a.com b.com + 1 - i).toNat = d → 1 ≤ i → Mod (fun _ => False) H H3 → tephralaw14_agree.l1 J0 a.id a.term a.vote a.base a.bt x a.role a.com a.v0 a.v1 a.v2 a.m0 a.m1 a.m2 a.n0 a.n1 a.n2 a.quiet b.id b.term b.vote b.base b.bt y b.role b.com b.v0 b.v1 b.v2 b.m0 b.m1 b.m2 b.n0 b.n1 b.n2 b.quiet H3 i (TellPost H (.bool true)) := by
    intro d
    induction d with
    | zero =>
      intro i H3 hd hi m3
      apply tephralaw14_agree.l1.step; unfold tephralaw14_agree.l1.body
      rw [em]
      exact Br.no (decide_eq_false (by omega)) ⟨rfl, m3⟩
    | succ d ih =>
      intro i H3 hd hi m3
      apply tephralaw14_agree.l1.step; unfold tephralaw14_agree.l1.body
      rw [em]
      refine Br.yes (decide_eq_true (by omega)) ((behind_spec (bb := a.base) (t := a.bt) (by unfold nice; omega) (by omega) (hx.mod m3)).mono ?_)
      rintro r H4 ⟨rfl, m4⟩
      refine ⟨_, _, rfl, (behind_spec (bb := b.base) (t := b.bt) (by unfold nice; omega) (by omega) ((hy.mod m3).mod m4)).mono ?_⟩
      rintro r H5 ⟨rfl, m5⟩
      refine ⟨_, _, rfl, ?_⟩
      have m35 : Mod (fun _ => False) H H5 := m3.trans (m4.trans m5)
      rw [oa.at, ob.at]
      have hsi := s.le (j := i.toNat) (by omega)
      have next : tephralaw14_agree.l1 J0 a.id a.term a.vote a.base a.bt x a.role a.com a.v0 a.v1 a.v2 a.m0 a.m1 a.m2 a.n0 a.n1 a.n2 a.quiet b.id b.term b.vote b.base b.bt y b.role b.com b.v0 b.v1 b.v2 b.m0 b.m1 b.m2 b.n0 b.n1 b.n2 b.quiet H5 (w64 (i + 1)) (TellPost H (.bool true)) := by
        rw [w64_id (by omega) (by omega)]
        exact ih (i + 1) H5 (by omega) (by omega) m35
      have k2 : tephralaw14_agree.k2 J0 a.id a.term a.vote a.base a.bt x a.role a.com a.v0 a.v1 a.v2 a.m0 a.m1 a.m2 a.n0 a.n1 a.n2 a.quiet b.id b.term b.vote b.base b.bt y b.role b.com b.v0 b.v1 b.v2 b.m0 b.m1 b.m2 b.n0 b.n1 b.n2 b.quiet i H5 false (TellPost H (.bool true)) := by
        apply tephralaw14_agree.k2.step; unfold tephralaw14_agree.k2.body
        refine Br.no rfl ?_
        by_cases c1 : i > a.base
        rotate_left
        · exact Br.no (decide_eq_false c1) next
        refine Br.yes (decide_eq_true c1) ?_
        by_cases c2 : i > b.base
        rotate_left
        · exact Br.no (decide_eq_false c2) next
        refine Br.yes (decide_eq_true c2) ?_
        obtain ⟨j, hj⟩ : ∃ j : Nat, i = a.base + ((j : Nat) : Int) + 1 := ⟨(i - a.base - 1).toNat, by omega⟩
        obtain ⟨j', hj'⟩ : ∃ j : Nat, i = b.base + ((j : Nat) : Int) + 1 := ⟨(i - b.base - 1).toNat, by omega⟩
        have e1 : w64 (w64 (i - a.base) - 1) = ((j : Nat) : Int) := by rw [w64_id (x := i - a.base) (by omega) (by omega), w64_id (by omega) (by omega)]; omega
        have e2 : w64 (w64 (i - b.base) - 1) = ((j' : Nat) : Int) := by rw [w64_id (x := i - b.base) (by omega) (by omega), w64_id (by omega) (by omega)]; omega
        rw [e1, e2, Int.toNat_natCast, Int.toNat_natCast]
        have hj1 : j < a.es.length := by omega
        have hj2 : j' < b.es.length := by omega
        obtain ⟨p, hp, hrow⟩ := (hx.mod m35).get hj1
        obtain ⟨p', hp', hrow'⟩ := (hy.mod m35).get hj2
        refine ⟨⟨by omega, by omega⟩, vPtr.mk p hp ⟨_, _, _, _, _, _, _, _, by simpa [En.cells] using hrow, ⟨by omega, by omega⟩, vPtr.mk p' hp' ⟨_, _, _, _, _, _, _, _, by simpa [En.cells] using hrow', ?_⟩⟩⟩
        have ee : a.es[j] = b.es[j'] := by
          have h1 : a.es[j]? = b.es[j']? := by
            rw [oa.es, ob.es, List.getElem?_drop, List.getElem?_drop]
            have q1 : a.base.toNat + j = i.toNat - 1 := by omega
            have q2 : b.base.toNat + j' = i.toNat - 1 := by omega
            rw [q1, q2]
            exact hsi.get (by omega)
          rw [List.getElem?_eq_getElem hj1, List.getElem?_eq_getElem hj2] at h1
          exact Option.some.inj h1
        have he := en_beq a.es[j] b.es[j']
        rw [decide_eq_true ee] at he
        exact Br.no (congrArg not he) next
      by_cases c1 : a.base ≤ i ∧ i ≤ (ga.length : Int)
      · rw [if_pos c1]
        refine Br.yes rfl ?_
        apply tephralaw14_agree.k1.step; unfold tephralaw14_agree.k1.body
        by_cases c2 : b.base ≤ i ∧ i ≤ (gb.length : Int)
        · rw [if_pos c2]
          refine Br.yes rfl ?_
          have e : (tmAt ga i.toNat != tmAt gb i.toNat) = false := by rw [hsi.tm]; simp
          show tephralaw14_agree.k2 _ _ _ _ _ _ _ _ _ _ _ _ _ _ _ _ _ _ _ _ _ _ _ _ _ _ _ _ _ _ _ _ _ _ _ _ _ _ _ (tmAt ga i.toNat != tmAt gb i.toNat) _
          rw [e]
          exact k2
        · rw [if_neg c2]
          exact Br.no rfl k2
      · rw [if_neg c1]
        refine Br.no rfl ?_
        apply tephralaw14_agree.k1.step; unfold tephralaw14_agree.k1.body
        exact Br.no rfl k2
  exact loop _ 1 H2 rfl (by omega) (m1.trans m2)
end
end Go.Proofs
