/- LAYER 14: NodeVotes. -/
import Derived.Test.YtbodlapndgnkgaaKno13
set_option linter.all false
set_option linter.constructorNameAsVariable false
set_option maxRecDepth 100000
namespace Go.Proofs
open Go Go.KC
section
variable {H : Hp} {acts : Sl} {ds : List Ac}
theorem votes_true {i term vote base bt : Int} {es : List En} {role com : Int} {v0 v1 v2 : Bool} {m0 m1 m2 n0 n1 n2 quiet : Int} {x y z : Sl} {H7 H8 : Hp} {w0 w1 w2 : Bool} {ms : List Mg} {a b : Int} (hi : i = 0 ∨ i = 1 ∨ i = 2)
    (hw0 : w0 = decide (i = 0)) (hw1 : w1 = decide (i = 1)) (hw2 : w2 = decide (i = 2)) (hms : ms = [⟨0, i, a, term + 1, base + es.length, lastTerm base bt es, false, 0, [], none⟩, ⟨0, i, b, term + 1, base + es.length, lastTerm base bt es, false, 0, [], none⟩]) (ha : a ≠ i ∧ b ≠ i ∧ a ≠ b)
    (m : Mod (fun _ => False) H H8) (hx : Lr H8 x es) (mz : MsO H7 H8 z ms) (ht : 0 ≤ term ∧ term ≤ 1000) (hb : 0 ≤ base ∧ base + es.length ≤ 1000) :
    tephralaw14_NodeVotes.k2 J0 i term vote base bt x role com v0 v1 v2 m0 m1 m2 n0 n1 n2 quiet i (term + 1) i base bt y 1 com w0 w1 w2 m0 m1 m2 n0 n1 n2 0 z H8 ((term + 1) != w64 (term + 1)) (TellPost H (.bool true)) := by
  have hzl := mz.len
  have hxl := hx.len
  have hz2 : z.len = 2 := by rw [← hzl, hms]; rfl
  obtain ⟨mh, ad, hd, hm, hrow, _⟩ := mz.get (j := 0) (by rw [hms]; simp)
  obtain ⟨mh', ad', hd', hm', hrow', _⟩ := mz.get (j := 1) (by rw [hms]; simp)
  rw [hd] at hd'
  obtain rfl : ad = ad' := Option.some.inj hd'
  have e0 : mh.m = ⟨0, i, a, term + 1, base + es.length, lastTerm base bt es, false, 0, [], none⟩ := by rw [hm]; subst hms; rfl
  have e1 : mh'.m = ⟨0, i, b, term + 1, base + es.length, lastTerm base bt es, false, 0, [], none⟩ := by rw [hm']; subst hms; rfl
  have keepR : ∀ {H9 : Hp}, Mod (fun _ => False) H8 H9 → RowAt H9 (ad.add (0 * 10)) mh.cells ∧ RowAt H9 (ad.add (1 * 10)) mh'.cells := fun m9 => ⟨rowAt_keep hrow m9 fun e => e, rowAt_keep hrow' m9 fun e => e⟩
  -- the loop
  have round : ∀ (j : Nat) (g : Mh) (c : Int) (H9 : Hp), j < 2 → Mod (fun _ => False) H8 H9 → RowAt H9 (ad.add (j * 10)) g.cells → g.m = ⟨0, i, c, term + 1, base + es.length, lastTerm base bt es, false, 0, [], none⟩ → c ≠ i →
      (∀ H', Mod (fun _ => False) H8 H' → tephralaw14_NodeVotes.l2 J0 i term vote base bt x role com v0 v1 v2 m0 m1 m2 n0 n1 n2 quiet i (term + 1) i base bt y 1 com w0 w1 w2 m0 m1 m2 n0 n1 n2 0 z H' ((j : Int) + 1) (TellPost H (.bool true))) →
      tephralaw14_NodeVotes.l2 J0 i term vote base bt x role com v0 v1 v2 m0 m1 m2 n0 n1 n2 quiet i (term + 1) i base bt y 1 com w0 w1 w2 m0 m1 m2 n0 n1 n2 0 z H9 (j : Int) (TellPost H (.bool true)) := by
    intro j g c H9 hj m9 hr hg hc hK
    obtain ⟨gm, gx, gp⟩ := g
    subst hg
    apply tephralaw14_NodeVotes.l2.step; unfold tephralaw14_NodeVotes.l2.body
    refine Br.yes (decide_eq_true (by omega)) ⟨⟨by omega, by omega⟩, vPtr.mk ad hd ⟨_, _, _, _, _, _, _, _, gx, gp, hr, fun H10 h10 => ?_⟩⟩
    obtain ⟨m10, _⟩ := hole_facts h10
    refine Br.no rfl (Br.no (by simpa using hc) (Br.no (by simp) (Br.no (by simp) ?_)))
    refine (Last_spec (b := base) (t := bt) (by unfold nice; omega) (by omega)).mono ?_
    rintro r H11 ⟨rfl, m11⟩
    refine ⟨_, rfl, Br.no (by simp; omega) ?_⟩
    refine (LastTerm_spec (b := base) (t := bt) (by unfold nice; omega) (by omega) (by unfold nice; omega) (hx.mod (m9.trans (m10.trans m11)))).mono ?_
    rintro r H12 ⟨rfl, m12⟩
    refine ⟨_, rfl, ?_⟩
    apply tephralaw14_NodeVotes.k8.step; unfold tephralaw14_NodeVotes.k8.body
    rw [w64_id (x := (j : Int) + 1) (by omega) (by omega)]
    exact Br.no (by simp) (hK H12 (m9.trans (m10.trans (m11.trans m12))))
  have fin : ∀ H9, Mod (fun _ => False) H8 H9 → tephralaw14_NodeVotes.l2 J0 i term vote base bt x role com v0 v1 v2 m0 m1 m2 n0 n1 n2 quiet i (term + 1) i base bt y 1 com w0 w1 w2 m0 m1 m2 n0 n1 n2 0 z H9 2 (TellPost H (.bool true)) := fun H9 m9 => by
    obtain ⟨r0, r1⟩ := keepR m9
    rw [Nat.zero_mul, add_zero_of] at r0
    rw [Nat.one_mul] at r1
    apply tephralaw14_NodeVotes.l2.step; unfold tephralaw14_NodeVotes.l2.body
    refine Br.no (decide_eq_false (by omega)) ⟨⟨by omega, by omega⟩, vPtr.mk ad hd ⟨mh.m.to, r0 2 _ rfl, ⟨by omega, by omega⟩, vPtr.mk ad hd ⟨mh'.m.to, r1 2 _ rfl, ?_, m.trans m9⟩⟩⟩
    rw [e0, e1]
    have : (a != b) = true := by simpa using ha.2.2
    rw [this]
  have l2 : ∀ H9, Mod (fun _ => False) H8 H9 → tephralaw14_NodeVotes.l2 J0 i term vote base bt x role com v0 v1 v2 m0 m1 m2 n0 n1 n2 quiet i (term + 1) i base bt y 1 com w0 w1 w2 m0 m1 m2 n0 n1 n2 0 z H9 0 (TellPost H (.bool true)) := fun H9 m9 =>
    round 0 mh a H9 (by omega) m9 (keepR m9).1 e0 ha.1 fun H' m' => round 1 mh' b H' (by omega) m' (keepR m').2 e1 ha.2.1 fun H'' m'' => fin H'' m''
  apply tephralaw14_NodeVotes.k2.step; unfold tephralaw14_NodeVotes.k2.body
  refine Br.no (by rw [w64_id (by omega) (by omega)]; simp) ?_
  apply tephralaw14_NodeVotes.k3.step; unfold tephralaw14_NodeVotes.k3.body
  refine Br.no (by simp) ?_
  apply tephralaw14_NodeVotes.k4.step; unfold tephralaw14_NodeVotes.k4.body
  have k7 : tephralaw14_NodeVotes.k7 J0 i term vote base bt x role com v0 v1 v2 m0 m1 m2 n0 n1 n2 quiet i (term + 1) i base bt y 1 com w0 w1 w2 m0 m1 m2 n0 n1 n2 0 z H8 false (TellPost H (.bool true)) := by
    apply tephralaw14_NodeVotes.k7.step; unfold tephralaw14_NodeVotes.k7.body
    exact Br.no rfl (l2 H8 (Mod.refl _ _))
  have k6 : tephralaw14_NodeVotes.k6 J0 i term vote base bt x role com v0 v1 v2 m0 m1 m2 n0 n1 n2 quiet i (term + 1) i base bt y 1 com w0 w1 w2 m0 m1 m2 n0 n1 n2 0 z H8 false (TellPost H (.bool true)) := by
    apply tephralaw14_NodeVotes.k6.step; unfold tephralaw14_NodeVotes.k6.body
    refine Br.no rfl ⟨by omega, ?_⟩
    rcases hi with rfl | rfl | rfl
    · obtain rfl : w2 = false := hw2
      exact ⟨by decide, k7⟩
    · obtain rfl : w0 = false := hw0
      exact ⟨by decide, k7⟩
    · obtain rfl : w1 = false := hw1
      exact ⟨by decide, k7⟩
  have k5 : tephralaw14_NodeVotes.k5 J0 i term vote base bt x role com v0 v1 v2 m0 m1 m2 n0 n1 n2 quiet i (term + 1) i base bt y 1 com w0 w1 w2 m0 m1 m2 n0 n1 n2 0 z H8 false (TellPost H (.bool true)) := by
    apply tephralaw14_NodeVotes.k5.step; unfold tephralaw14_NodeVotes.k5.body
    refine Br.no rfl ⟨by omega, ?_⟩
    rcases hi with rfl | rfl | rfl
    · obtain rfl : w1 = false := hw1
      exact ⟨by decide, k6⟩
    · obtain rfl : w2 = false := hw2
      exact ⟨by decide, k6⟩
    · obtain rfl : w0 = false := hw0
      exact ⟨by decide, k6⟩
  refine Br.no rfl ⟨by omega, ?_⟩
  rcases hi with rfl | rfl | rfl
  · obtain rfl : w0 = true := hw0
    exact k5
  · obtain rfl : w1 = true := hw1
    exact k5
  · obtain rfl : w2 = true := hw2
    exact k5

theorem NodeVotes_spec {who : UInt8} (hr : Rows H acts 20 (ds.map Ac.cells).flatten) (hl : ds.length = acts.len) :
    SCalls Try.prog tephralaw14_NodeVotes.id [.slice acts.a acts.len acts.cap, .int .u8 (who.toNat : Int)] H (TellPost H (.bool true)) := by
  have hw8 := who.toNat_lt
  apply tephralaw14_NodeVotes.calls
  refine bool_step (H0 := H) awake14_spec (Mod.refl _ _) fun H1 m1 => Br.no rfl (wOf_spec.mono ?_)
  rintro r H2 ⟨b, rfl, o2⟩
  have hcap := hr.2.1
  have em : (if (80 : Int) < ((acts.len : Nat) : Int) then 80 else ((acts.len : Nat) : Int)) = ((min 80 acts.len : Nat) : Int) := by split <;> omega
  refine ⟨_, rfl, ?_⟩
  rw [em]
  refine ⟨⟨by omega, by omega⟩, ?_⟩
  have hcut := acts_cut (n := 80) hr hl
  have hdl : (ds.take 80).length = min 80 acts.len := by rw [List.length_take, hl]
  generalize ds.take 80 = es at hcut hdl
  have loop : ∀ (d j : Nat) (H3 : Hp), j + d = es.length → WH H1 H3 b (wd (es.take j)) → tephralaw14_NodeVotes.l1 J0 acts (who.toNat : Int) (some ⟨b, 0, none⟩) H3 (j : Int) (TellPost H (.bool true)) := by
    intro d
    induction d with
    | succ d ih =>
      intro j H3 hj o3
      have hjl : j < es.length := by omega
      have m3 : Mod (fun _ => False) H1 H3 := by obtain ⟨_, _, _, _, _, o⟩ := o3; exact o.mod
      apply tephralaw14_NodeVotes.l1.step; unfold tephralaw14_NodeVotes.l1.body
      rw [em, Int.toNat_natCast]
      obtain ⟨a, ha, hrow⟩ := row_get (f := Ac.cells) (k := 20) (by omega) Ac.cells_len (hcut.keep (m1.trans m3) fun _ _ e => e) hjl
      refine Br.yes (decide_eq_true (by omega)) ⟨⟨by omega, by omega⟩, vPtr.mk a ha ⟨_, _, _, _, _, _, _, _, _, _, _, _, _, _, _, _, _, es[j].any.x, _, _, hrow, ?_⟩⟩
      refine do_step hjl (by omega) o3 fun H5 o5 => ⟨rfl, ?_⟩
      rw [w64_id (x := (j : Int) + 1) (by omega) (by omega)]
      have := ih (j + 1) H5 (by omega) o5
      simpa using this
    | zero =>
      intro j H3 hj o3
      obtain rfl : j = es.length := by omega
      rw [List.take_length] at o3
      apply tephralaw14_NodeVotes.l1.step; unfold tephralaw14_NodeVotes.l1.body
      rw [em, Int.toNat_natCast]
      have B := wd_bd es (by omega)
      obtain ⟨_, _, _, _, _, o⟩ := o3
      have et : Int.tmod (who.toNat : Int) 3 = ((who.toNat % 3 : Nat) : Int) := tmod_u8 _ 3 (by omega)
      rw [et]
      have hi : 0 ≤ ((who.toNat % 3 : Nat) : Int) ∧ ((who.toNat % 3 : Nat) : Int) < 3 := by omega
      obtain ⟨x, hx, hlr, _⟩ := o.one hi
      have hB := B.nd _ hi
      have hn := hB.fit hi (by omega)
      generalize (wd es).nd ((who.toNat % 3 : Nat) : Int) = n at hx hlr hn hB
      have hid := hn.idb
      have hterm := hB.term
      have hlast := hB.last
      have hbase := hB.base
      have m03 := m1.trans o.mod
      refine Br.no (decide_eq_false (by omega)) ⟨by omega, vPtr.mk _ rfl ⟨hi, _, _, _, _, _, x, _, _, _, _, _, _, _, _, _, _, _, _, hx, ?_⟩⟩
      intro H6 h6
      obtain ⟨m6, _⟩ := hole_facts h6
      refine (camp_spec (hlr.mod m6) hn (by omega)).mono ?_
      rintro r H7 ⟨y, z, rfl, ny, mz⟩
      refine ⟨_, _, _, _, _, y, _, _, _, _, _, _, _, _, _, _, _, _, z, rfl, ?_⟩
      intro H8 h8
      obtain ⟨m8, _⟩ := hole_facts h8
      have m38 := m6.trans (ny.2.1.trans m8)
      have mz8 := mz.to m8
      by_cases hr : n.role = 2
      · have e : n.camp = (n, []) := by unfold Nd.camp; rw [if_pos (Or.inl hr)]
        rw [e] at mz8 ⊢
        have hzl := mz8.len
        refine Br.yes (by simp [hr]) (Br.yes (by simp; rw [← hzl]; rfl) ?_)
        apply tephralaw14_NodeVotes.k1.step; unfold tephralaw14_NodeVotes.k1.body
        exact Br.yes (by simp) ⟨by simp [hr], m03.trans m38⟩
      · have e : n.camp = ({ n with term := n.term + 1, vote := n.id, role := 1, quiet := 0, v0 := decide (n.id = 0), v1 := decide (n.id = 1), v2 := decide (n.id = 2) }, othersL { n with term := n.term + 1, vote := n.id, role := 1, quiet := 0, v0 := decide (n.id = 0), v1 := decide (n.id = 1), v2 := decide (n.id = 2) } ⟨0, 0, 0, 0, n.last, n.lastT, false, 0, [], none⟩) := by
          unfold Nd.camp; rw [if_neg (by omega)]
        rw [e] at mz8 ⊢
        have hzl := mz8.len
        unfold Nd.last at hlast
        have hi3 : n.id = 0 ∨ n.id = 1 ∨ n.id = 2 := by omega
        obtain ⟨a, c, hac, hol⟩ : ∃ a c : Int, (a ≠ n.id ∧ c ≠ n.id ∧ a ≠ c) ∧ othersL { n with term := n.term + 1, vote := n.id, role := 1, quiet := 0, v0 := decide (n.id = 0), v1 := decide (n.id = 1), v2 := decide (n.id = 2) } ⟨0, 0, 0, 0, n.last, n.lastT, false, 0, [], none⟩ =
            [⟨0, n.id, a, n.term + 1, n.base + n.es.length, lastTerm n.base n.bt n.es, false, 0, [], none⟩, ⟨0, n.id, c, n.term + 1, n.base + n.es.length, lastTerm n.base n.bt n.es, false, 0, [], none⟩] := by
          unfold othersL ids
          rcases hi3 with h | h | h
          · exact ⟨1, 2, by rw [h]; decide, by simp [h, Nd.last, Nd.lastT]⟩
          · exact ⟨0, 2, by rw [h]; decide, by simp [h, Nd.last, Nd.lastT]⟩
          · exact ⟨0, 1, by rw [h]; decide, by simp [h, Nd.last, Nd.lastT]⟩
        refine Br.no (by simpa using hr) (Br.no (by simp; rw [← hzl, hol]; rfl) ?_)
        exact votes_true (ms := _) hi3 rfl rfl rfl hol hac (m03.trans m38) (hlr.mod m38) mz8 (by omega) (by omega)
  exact loop es.length 0 H2 (by omega) o2
end
end Go.Proofs
