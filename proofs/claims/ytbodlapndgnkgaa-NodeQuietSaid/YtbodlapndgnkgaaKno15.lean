/- LAYER 14: NodeQuiet. -/
import Derived.Test.YtbodlapndgnkgaaKno14
set_option linter.all false
set_option linter.constructorNameAsVariable false
set_option maxRecDepth 100000
namespace Go.Proofs
open Go Go.KC
def cmK : Cm := ⟨1, 0, 0, ByteArray.mk #[107], ByteArray.mk #[], ByteArray.mk #[]⟩
theorem beat_two {n : Nd} {s : Int × Int} (hi : 0 ≤ n.id ∧ n.id < 3) : (n.beat s).length = if n.role = 2 then 2 else 0 := by
  unfold Nd.beat
  split
  · have h3 : n.id = 0 ∨ n.id = 1 ∨ n.id = 2 := by omega
    rw [List.length_map]
    rcases h3 with h | h | h <;> simp [ids, h]
  · rfl
section
variable {H : Hp} {acts : Sl} {ds : List Ac}
theorem quiet_true {n : Nd} {x y v : Sl} {H8 H10 : Hp} {s : Int × Int} {iv : UInt8} (hid : 0 ≤ n.id ∧ n.id < 3) (f : n.Fit) (m : Mod (fun _ => False) H H10) (hx : Lr H10 x n.es) (hy : Lr H10 y (n.submit cmK).1.es) (mv : MsO H8 H10 v (n.beat s)) (hc : 0 ≤ n.com ∧ n.com ≤ 1000) (hl : 0 ≤ n.base ∧ n.last ≤ 1000) :
    tephralaw14_NodeQuiet.k1 J0 (iv.toNat : Int) n.id n.term n.vote n.base n.bt x n.role n.com n.v0 n.v1 n.v2 n.m0 n.m1 n.m2 n.n0 n.n1 n.n2 n.quiet (n.submit cmK).1.id (n.submit cmK).1.term (n.submit cmK).1.vote (n.submit cmK).1.base (n.submit cmK).1.bt y (n.submit cmK).1.role (n.submit cmK).1.com (n.submit cmK).1.v0 (n.submit cmK).1.v1 (n.submit cmK).1.v2 (n.submit cmK).1.m0 (n.submit cmK).1.m1 (n.submit cmK).1.m2 (n.submit cmK).1.n0 (n.submit cmK).1.n1 (n.submit cmK).1.n2 (n.submit cmK).1.quiet (n.submit cmK).2 H10 v (TellPost H (.bool true)) := by
  have hi8 := iv.toNat_lt
  have hxl := hx.len
  have hyl := hy.len
  have hvl := mv.len
  rw [beat_two hid] at hvl
  have hll : n.last = n.base + n.es.length := rfl
  apply tephralaw14_NodeQuiet.k1.step; unfold tephralaw14_NodeQuiet.k1.body
  rw [w64_id (x := n.com + 1) (by omega) (by omega), w64_id (x := (iv.toNat : Int)) (by omega) (by omega), w64_id (x := n.com + 1 + (iv.toNat : Int)) (by omega) (by omega)]
  refine (nCompact_spec (i := n.com + 1 + (iv.toNat : Int)) hx f (by omega)).mono ?_
  have ec : n.compact (n.com + 1 + (iv.toNat : Int)) = n := by unfold Nd.compact; rw [if_neg (by omega)]
  rw [ec]
  rintro r H11 ⟨z, rfl, nz⟩
  refine ⟨_, _, _, _, _, z, _, _, _, _, _, _, _, _, _, _, _, _, rfl, fun H12 h12 => ?_⟩
  obtain ⟨m12, _⟩ := hole_facts h12
  have m02 := nz.2.1.trans m12
  have hzl := nz.1.len
  refine (nSame_spec (b := n.base) (t := n.bt) (b' := n.base) (t' := n.bt) (nz.1.mod m12) (hx.mod m02) (by omega)).mono ?_
  rintro r H13 ⟨rfl, m13⟩
  have m1013 := m02.trans m13
  refine ⟨_, rfl, ?_⟩
  rw [sameL_self]
  refine Br.no rfl ?_
  apply tephralaw14_NodeQuiet.k2.step; unfold tephralaw14_NodeQuiet.k2.body
  refine Br.no (by simp) ?_
  apply tephralaw14_NodeQuiet.k3.step; unfold tephralaw14_NodeQuiet.k3.body
  by_cases hr : n.role = 2
  · have es : n.submit cmK = (({ n with es := n.es ++ [⟨n.last + 1, n.term, cmK⟩] } : Nd).setM n.id (n.last + 1), true) := by unfold Nd.submit; rw [if_neg (by omega)]
    rw [if_pos hr] at hvl
    rw [es] at hy hyl ⊢
    refine Br.no (by simp [hr]) ?_
    apply tephralaw14_NodeQuiet.k4.step; unfold tephralaw14_NodeQuiet.k4.body
    obtain ⟨k1, k2, k3, k4, k5, k6, k7, k8⟩ := @setM_keep { n with es := n.es ++ [⟨n.last + 1, n.term, cmK⟩] } n.id (n.last + 1)
    have hyl2 : y.len = n.es.length + 1 := by rw [← hyl, k4]; simp
    have ml : ((({ n with es := n.es ++ [⟨n.last + 1, n.term, cmK⟩] } : Nd).setM n.id (n.last + 1)).base) + (y.len : Int) = n.last + 1 := by rw [k2, hyl2]; show n.base + _ = _; omega
    have nl : n.base + (x.len : Int) = n.last := by omega
    refine Br.no (by rw [← hvl]; rfl) (Br.yes rfl ?_)
    have mb : nice (({ n with es := n.es ++ [⟨n.last + 1, n.term, cmK⟩] } : Nd).setM n.id (n.last + 1)).base := by rw [k2]; unfold nice; show -1000000000 ≤ n.base ∧ n.base ≤ _; omega
    refine (Last_spec (t := (({ n with es := n.es ++ [⟨n.last + 1, n.term, cmK⟩] } : Nd).setM n.id (n.last + 1)).bt) mb (by omega)).mono ?_
    rintro r H14 ⟨rfl, m14⟩
    refine ⟨_, rfl, (Last_spec (b := n.base) (t := n.bt) (by unfold nice; omega) (by omega)).mono ?_⟩
    rintro r H15 ⟨rfl, m15⟩
    refine ⟨_, rfl, ?_⟩
    rw [ml, nl]
    refine Br.yes (by rw [w64_id (by omega) (by omega)]; simp) ⟨hid, ?_⟩
    have leaf : ∀ q : Int, q = n.last + 1 → ∀ K : Value → Hp → Prop, (∀ H16, Mod (fun _ => False) H H16 → K (.int .i64 (n.last + 1)) H16) → SCalls Try.prog rlog_Log_Last.id [.agg #[.int .i64 (({ n with es := n.es ++ [⟨n.last + 1, n.term, cmK⟩] } : Nd).setM n.id (n.last + 1)).base, .int .i64 (({ n with es := n.es ++ [⟨n.last + 1, n.term, cmK⟩] } : Nd).setM n.id (n.last + 1)).bt, .slice y.a y.len y.cap]] H15 K := fun q hq K hK => by
      refine (Last_spec (t := (({ n with es := n.es ++ [⟨n.last + 1, n.term, cmK⟩] } : Nd).setM n.id (n.last + 1)).bt) mb (by omega)).mono ?_
      rintro r H16 ⟨rfl, m16⟩
      rw [ml]
      exact hK H16 (m.trans (m1013.trans (m14.trans (m15.trans m16))))
    have hv2 : (((v.len : Nat) : Int) == 2) = true := by rw [← hvl]; rfl
    refine vSel3 hid (fun e => ?_) (fun e => ?_) fun e => ?_
    · refine leaf _ rfl _ fun H16 m16 => ⟨_, rfl, Br.yes ?_ (Br.yes hv2 ⟨rfl, m16⟩)⟩
      unfold Nd.setM; rw [e]; simp
    · refine leaf _ rfl _ fun H16 m16 => ⟨_, rfl, Br.yes ?_ (Br.yes hv2 ⟨rfl, m16⟩)⟩
      unfold Nd.setM; rw [e]; simp
    · refine leaf _ rfl _ fun H16 m16 => ⟨_, rfl, Br.yes ?_ (Br.yes hv2 ⟨rfl, m16⟩)⟩
      unfold Nd.setM; rw [e]; simp
  · have es : n.submit cmK = (n, false) := by unfold Nd.submit; rw [if_pos (Or.inl hr)]
    rw [if_neg hr] at hvl
    rw [es] at hy ⊢
    refine Br.no (by simp [hr]) ?_
    apply tephralaw14_NodeQuiet.k4.step; unfold tephralaw14_NodeQuiet.k4.body
    refine Br.no (by rw [← hvl]; rfl) (Br.no rfl (Br.yes rfl ?_))
    have hyl3 : n.es.length = y.len := hy.len
    refine (nSame_spec (b := n.base) (t := n.bt) (b' := n.base) (t' := n.bt) (hy.mod m1013) (hx.mod m1013) (by omega)).mono ?_
    rintro r H26 ⟨rfl, m26⟩
    refine ⟨_, rfl, ?_, m.trans (m1013.trans m26)⟩
    rw [sameL_self]

theorem NodeQuiet_spec {who iv : UInt8} (hr : Rows H acts 20 (ds.map Ac.cells).flatten) (hl : ds.length = acts.len) :
    SCalls Try.prog tephralaw14_NodeQuiet.id [.slice acts.a acts.len acts.cap, .int .u8 (who.toNat : Int), .int .u8 (iv.toNat : Int)] H (TellPost H (.bool true)) := by
  have hw8 := who.toNat_lt
  apply tephralaw14_NodeQuiet.calls
  refine bool_step (H0 := H) awake14_spec (Mod.refl _ _) fun H1 m1 => Br.no rfl (wOf_spec.mono ?_)
  rintro r H2 ⟨b, rfl, o2⟩
  have hcap := hr.2.1
  have em : (if (80 : Int) < ((acts.len : Nat) : Int) then 80 else ((acts.len : Nat) : Int)) = ((min 80 acts.len : Nat) : Int) := by split <;> omega
  refine ⟨_, rfl, ?_⟩
  rw [em]
  refine ⟨⟨by omega, by omega⟩, ?_⟩
  have hcut := acts_cut (n := 80) hr hl
  have hdl : (ds.take 80).length = min 80 acts.len := by rw [List.length_take, hl]
  generalize ds.take 80 = es at hcut hdl
  have loop : ∀ (d j : Nat) (H3 : Hp), j + d = es.length → WH H1 H3 b (wd (es.take j)) → tephralaw14_NodeQuiet.l1 J0 acts (who.toNat : Int) (iv.toNat : Int) (some ⟨b, 0, none⟩) H3 (j : Int) (TellPost H (.bool true)) := by
    intro d
    induction d with
    | succ d ih =>
      intro j H3 hj o3
      have hjl : j < es.length := by omega
      have m3 : Mod (fun _ => False) H1 H3 := by obtain ⟨_, _, _, _, _, o⟩ := o3; exact o.mod
      apply tephralaw14_NodeQuiet.l1.step; unfold tephralaw14_NodeQuiet.l1.body
      rw [em, Int.toNat_natCast]
      obtain ⟨a, ha, hrow⟩ := row_get (f := Ac.cells) (k := 20) (by omega) Ac.cells_len (hcut.keep (m1.trans m3) fun _ _ e => e) hjl
      refine Br.yes (decide_eq_true (by omega)) ⟨⟨by omega, by omega⟩, vPtr.mk a ha ⟨_, _, _, _, _, _, _, _, _, _, _, _, _, _, _, _, _, es[j].any.x, _, _, hrow, ?_⟩⟩
      refine do_step hjl (by omega) o3 fun H5 o5 => ⟨rfl, ?_⟩
      rw [w64_id (x := (j : Int) + 1) (by omega) (by omega)]
      have := ih (j + 1) H5 (by omega) o5
      simpa using this
    | zero =>
      intro j H3 hj o3
      obtain rfl : j = es.length := by omega
      rw [List.take_length] at o3
      apply tephralaw14_NodeQuiet.l1.step; unfold tephralaw14_NodeQuiet.l1.body
      rw [em, Int.toNat_natCast]
      have B := wd_bd es (by omega)
      obtain ⟨_, _, _, _, _, o⟩ := o3
      have et : Int.tmod (who.toNat : Int) 3 = ((who.toNat % 3 : Nat) : Int) := tmod_u8 _ 3 (by omega)
      rw [et]
      have hi : 0 ≤ ((who.toNat % 3 : Nat) : Int) ∧ ((who.toNat % 3 : Nat) : Int) < 3 := by omega
      obtain ⟨x, hx, hlr, _⟩ := o.one hi
      have hB := B.nd _ hi
      have hn := hB.fit hi (by omega)
      generalize (wd es).nd ((who.toNat % 3 : Nat) : Int) = n at hx hlr hn hB
      have m03 := m1.trans o.mod
      refine Br.no (decide_eq_false (by omega)) ⟨by omega, vPtr.mk _ rfl ⟨hi, _, _, _, _, _, x, _, _, _, _, _, _, _, _, _, _, _, _, hx, ?_⟩⟩
      intro H6 h6
      obtain ⟨m6, _⟩ := hole_facts h6
      refine (submit_spec (c := cmK) (hlr.mod m6) hn).mono ?_
      rintro r H7 ⟨y, rfl, ny⟩
      refine ⟨_, _, _, _, _, y, _, _, _, _, _, _, _, _, _, _, _, _, _, rfl, ?_⟩
      intro H8 h8
      obtain ⟨m8, _⟩ := hole_facts h8
      have m38 := m6.trans (ny.2.1.trans m8)
      refine (state_spec (hlr.mod m38) hn).mono ?_
      rintro r H9 ⟨rfl, m9⟩
      refine ⟨_, _, ⟨none, 0, 0⟩, ⟨none, 0, 0⟩, rfl, ?_⟩
      refine (beat_spec (s := (n.com, (n.at n.com).1)) (ps := ⟨none, 0, 0⟩) (xs := ⟨none, 0, 0⟩) (hlr.mod (m38.trans m9)) hn (fun i => by have := hB.nx i; omega)).mono ?_
      rintro r H10 ⟨v, rfl, mv⟩
      have m10 := mv.choose_spec.2.2.2.1
      refine ⟨v, rfl, ?_⟩
      have hcc := hB.com; have hll := hB.last; have hbb := hB.base
      exact quiet_true hn.idb hn (m03.trans (m38.trans (m9.trans m10))) (hlr.mod (m38.trans (m9.trans m10))) (ny.1.mod (m8.trans (m9.trans m10))) mv (by omega) (by omega)
  exact loop es.length 0 H2 (by omega) o2
end
end Go.Proofs
