/- LAYER 13: RlogRight. -/
import Derived.Test.YtdfakiaehkfhnaaKr7
set_option linter.all false
set_option linter.constructorNameAsVariable false
namespace Go.Proofs
open Go Go.KC

section
variable {H0 H : Hp} {es : List En} {b t : Int}

/-- As far as j, a log is right. -/
def RTo (b t : Int) (es : List En) (j : Nat) : Prop := (0 ≤ b ∧ 0 ≤ t) ∧ RowsTo es (w64 (b + 1)) j ∧ ∀ h : 0 < es.length, 0 < j → t ≤ es[0].term
def lastOf (t : Int) (es : List En) (j : Nat) : Int := if j = 0 then t else (es.getD (j - 1) En.zero).term
theorem RTo.all : RTo b t es es.length ↔ LRight b t es := by
  unfold RTo LRight
  rw [RowsTo.all]
  exact ⟨fun ⟨⟨h1, h2⟩, h3, h4⟩ => ⟨h1, h2, h3, fun h => h4 h h⟩, fun ⟨h1, h2, h3, h4⟩ => ⟨⟨h1, h2⟩, h3, fun h _ => h4 h⟩⟩
theorem RTo.succ {j : Nat} (hj : j < es.length) : RTo b t es (j + 1) ↔ RTo b t es j ∧ es[j].Right ∧ es[j].index = w64 (w64 (b + 1) + (j : Int)) ∧ lastOf t es j ≤ es[j].term := by
  unfold RTo lastOf
  rw [RowsTo.succ hj]
  unfold RowAtP
  by_cases c : j = 0
  · subst c
    simp only [if_true]
    constructor
    · rintro ⟨h1, ⟨h2, g1, g2, g3⟩, h3⟩
      exact ⟨⟨h1, h2, fun _ h => absurd h (by omega)⟩, g1, g2, h3 hj (by omega)⟩
    · rintro ⟨⟨h1, h2, _⟩, g1, g2, g3⟩
      exact ⟨h1, ⟨h2, g1, g2, fun h => absurd h (by omega)⟩, fun _ _ => g3⟩
  · simp only [if_neg c]
    have e : (es.getD (j - 1) En.zero).term = (es[j - 1]'(by omega)).term := by
      simp only [List.getD_eq_getElem?_getD, List.getElem?_eq_getElem (show j - 1 < es.length by omega), Option.getD_some]
    rw [e]
    constructor
    · rintro ⟨h1, ⟨h2, g1, g2, g3⟩, h3⟩
      exact ⟨⟨h1, h2, fun h _ => h3 h (by omega)⟩, g1, g2, g3 (by omega)⟩
    · rintro ⟨⟨h1, h2, h3⟩, g1, g2, g3⟩
      exact ⟨h1, ⟨h2, g1, g2, fun _ => g3⟩, fun h _ => h3 h (by omega)⟩

section
variable {rb rt b1 t1 : Int} {rx says y z : Sl} {B T : Int} {tn : En} {H5 : Hp} {Q : Value → Hp → Prop}

theorem RR_l2 {H7 : Hp} {x2 : Int} {b' t' : Int} {w : Sl} (hw : Lr H7 w es) (hl : es.length ≤ 9223372036854775807)
    (hQ : ∀ H', Mod (fun _ => False) H7 H' → tephralaw13_RlogRight.l1 J0 rb rt rx says B T tn.index tn.term tn.cmd.op tn.cmd.client tn.cmd.seq tn.cmd.key tn.cmd.value tn.cmd.old b t y b1 t1 z H5 H' (w64 (x2 + 1)) Q) :
    ∀ (d j : Nat) (H : Hp) (ok : Bool), j + d = es.length → Mod (fun _ => False) H7 H → (ok = true ↔ RTo b' t' es j) →
      tephralaw13_RlogRight.l2 J0 rb rt rx says B T tn.index tn.term tn.cmd.op tn.cmd.client tn.cmd.seq tn.cmd.key tn.cmd.value tn.cmd.old b t y b1 t1 z H5 x2 b' t' w H ok (lastOf t' es j) (j : Int) Q := by
  have hwl := hw.len
  intro d
  induction d with
  | zero =>
    intro j H ok hj m hok
    have hj' : j = es.length := by omega
    subst hj'
    apply tephralaw13_RlogRight.l2.step; unfold tephralaw13_RlogRight.l2.body
    refine Br.no (by simp; omega) (bool_step (H0 := H7) (Right_spec hl (hw.mod m)) m fun H1 m1 => ?_)
    have : decide (LRight b' t' es) = ok := by
      rw [RTo.all] at hok
      cases ok with
      | true => exact decide_eq_true (hok.1 rfl)
      | false => exact decide_eq_false fun h => nomatch hok.2 h
    rw [this]
    exact Br.no (by simp) (hQ H1 m1)
  | succ d ih =>
    intro j H ok hj m hok
    have hjl : j < es.length := by omega
    apply tephralaw13_RlogRight.l2.step; unfold tephralaw13_RlogRight.l2.body
    obtain ⟨a, ha, hrow⟩ := (hw.mod m).get hjl
    have k5 : ∀ (v : Bool) (H' : Hp), Mod (fun _ => False) H7 H' → (v = true ↔ RTo b' t' es j ∧ es[j].Right ∧ es[j].index = w64 (w64 (b' + 1) + (j : Int)) ∧ lastOf t' es j ≤ es[j].term) →
        tephralaw13_RlogRight.k5 J0 rb rt rx says B T tn.index tn.term tn.cmd.op tn.cmd.client tn.cmd.seq tn.cmd.key tn.cmd.value tn.cmd.old b t y b1 t1 z H5 x2 b' t' w (j : Int) es[j].index es[j].term es[j].cmd.op es[j].cmd.client es[j].cmd.seq es[j].cmd.key es[j].cmd.value es[j].cmd.old H' v Q := by
      intro v H' m' hv
      apply tephralaw13_RlogRight.k5.step; unfold tephralaw13_RlogRight.k5.body
      rw [w64_id (x := (j : Int) + 1) (by omega) (by omega)]
      have hL : lastOf t' es (j + 1) = es[j].term := by
        unfold lastOf; rw [if_neg (by omega)]
        simp only [Nat.add_sub_cancel, List.getD_eq_getElem?_getD, List.getElem?_eq_getElem hjl, Option.getD_some]
      have := ih (j + 1) H' v (by omega) m' (hv.trans (RTo.succ hjl).symm)
      rw [hL] at this
      simpa using this
    have k4 : ∀ (v : Bool) (H' : Hp), Mod (fun _ => False) H7 H' → (v = true ↔ RTo b' t' es j ∧ es[j].Right ∧ es[j].index = w64 (w64 (b' + 1) + (j : Int))) →
        tephralaw13_RlogRight.k4 J0 rb rt rx says B T tn.index tn.term tn.cmd.op tn.cmd.client tn.cmd.seq tn.cmd.key tn.cmd.value tn.cmd.old b t y b1 t1 z H5 x2 b' t' w (lastOf t' es j) (j : Int) es[j].index es[j].term es[j].cmd.op es[j].cmd.client es[j].cmd.seq es[j].cmd.key es[j].cmd.value es[j].cmd.old H' v Q := by
      intro v H' m' hv
      apply tephralaw13_RlogRight.k4.step; unfold tephralaw13_RlogRight.k4.body
      refine Br.mk (fun e => k5 _ H' m' ?_) (fun e => k5 false H' m' ⟨(fun h => nomatch h), fun h => by rw [hv.2 ⟨h.1, h.2.1, h.2.2.1⟩] at e; cases e⟩)
      have hh := hv.1 e
      constructor
      · intro h; exact ⟨hh.1, hh.2.1, hh.2.2, of_decide_eq_true h⟩
      · intro h; exact decide_eq_true h.2.2.2
    have k3 : ∀ (v : Bool) (H' : Hp), Mod (fun _ => False) H7 H' → (v = true ↔ RTo b' t' es j ∧ es[j].Right) →
        tephralaw13_RlogRight.k3 J0 rb rt rx says B T tn.index tn.term tn.cmd.op tn.cmd.client tn.cmd.seq tn.cmd.key tn.cmd.value tn.cmd.old b t y b1 t1 z H5 x2 b' t' w (lastOf t' es j) (j : Int) es[j].index es[j].term es[j].cmd.op es[j].cmd.client es[j].cmd.seq es[j].cmd.key es[j].cmd.value es[j].cmd.old v H' Q := by
      intro v H' m' hv
      apply tephralaw13_RlogRight.k3.step; unfold tephralaw13_RlogRight.k3.body
      refine Br.mk (fun e => k4 _ H' m' ?_) (fun e => k4 false H' m' ⟨(fun h => nomatch h), fun h => by rw [hv.2 ⟨h.1, h.2.1⟩] at e; cases e⟩)
      have hh := hv.1 e
      constructor
      · intro h; exact ⟨hh.1, hh.2, beq_iff_eq.1 h⟩
      · intro h; exact beq_iff_eq.2 h.2.2
    refine Br.yes (by simp; omega) ⟨⟨by omega, by omega⟩, vPtr.mk a ha ⟨_, _, _, _, _, _, _, _, by simpa [En.cells] using hrow, Br.mk (fun e => ?_) (fun e => ?_)⟩⟩
    · refine bool_step (H0 := H7) (cmds_Right_spec (e := es[j])) (moreHoles m 1) fun H1 m1 => k3 _ H1 m1 ?_
      constructor
      · intro h; exact ⟨hok.1 e, of_decide_eq_true h⟩
      · intro h; exact decide_eq_true h.2
    · exact k3 false _ (moreHoles m 1) ⟨(fun h => nomatch h), fun h => by rw [hok.2 h.1] at e; cases e⟩
end

theorem RlogRight_spec {says rx : Sl} {rs : List En} {ss : List Sy} {rb rt : Int} {u v c : UInt8} {tn : En} (hraw : Lr H rx rs) (hrl : rs.length ≤ 9223372036854775807) (hr : Rows H says 6 (ss.map Sy.cells).flatten) (hl : ss.length = says.len) :
    SCalls Try.prog tephralaw13_RlogRight.id [lgv rb rt rx, .slice says.a says.len says.cap, .int .u8 (u.toNat : Int), .int .u8 (v.toNat : Int), .int .u8 (c.toNat : Int), tn.val] H (trueQ H) := by
  apply tephralaw13_RlogRight.calls
  unfold tephralaw13_RlogRight.vc
  have hc : c.toNat < 256 := UInt8.toNat_lt _
  rw [w64_id (x := (c.toNat : Int)) (by omega) (by omega)]
  refine awake_step (H0 := H) (Mod.holes _ _ 2) fun H1 m1 => some_step hr hl m1 fun y H2 m2 hE => ?_
  have sm := sm_some ss u v
  have e2 : Lr H2 y _ := hE.lr
  generalize hes : ents (ss.take 80) (((u.toNat % 20 : Nat) : Int) + 1) ((v.toNat % 5 : Nat) : Int) = es at *
  generalize hbb : ((u.toNat % 20 : Nat) : Int) = b at *
  generalize htt : ((v.toNat % 5 : Nat) : Int) = t at *
  have hb := sm.hb
  have hlen := sm.len
  have hyl := e2.len
  have nb : nice b := by unfold nice; omega
  have mh : Mod (fun _ => False) H2 (holes H2 1) := Mod.holes _ _ _
  refine bool_step (H0 := H2) (Right_spec (by omega) (e2.mod mh)) mh fun H3 m3 => ?_
  have hright : LRight b t es := by
    have := sm.right_drop (i := b) (Int.le_refl b) (by omega)
    rw [termAt_base] at this
    simpa using this
  rw [decide_eq_true hright]
  refine Br.no rfl ((Clone_spec (e2.mod m3) (by omega)).mono ?_)
  rintro r H4 ⟨z, rfl, hz⟩
  have hzl := hz.len
  have m24 := m3.trans hz.mod
  have e4 := e2.mod m24
  have m04 := m2.trans m24
  refine ⟨_, _, z, rfl, ?_⟩
  have k1 : ∀ (H5 : Hp) (zs : List En), zs.length ≤ 100 → Lr H5 z zs → Lr H5 y es → Fresh H H5 → tephralaw13_RlogRight.k1 J0 rb rt rx says (u.toNat : Int) (v.toNat : Int) tn.index tn.term tn.cmd.op tn.cmd.client tn.cmd.seq tn.cmd.key tn.cmd.value tn.cmd.old b t y b t z H5 (trueQ H) := by
    intro H5 zs hzs hz5 hy5 F5
    apply tephralaw13_RlogRight.k1.step; unfold tephralaw13_RlogRight.k1.body
    have mp : Mod (fun _ => False) H5 (Array.push H5 (.cells #[.int .i64 rb, .int .i64 rt, .slice rx.a rx.len rx.cap, .int .i64 b, .int .i64 t, .slice z.a z.len z.cap] T_rlog_Log)) := Mod.push _ _ _
    have F6 := F5.step mp fun _ h => h.elim
    have hcells : ∀ (H' : Hp), Mod (fun _ => False) (Array.push H5 (.cells #[.int .i64 rb, .int .i64 rt, .slice rx.a rx.len rx.cap, .int .i64 b, .int .i64 t, .slice z.a z.len z.cap] T_rlog_Log)) H' → H'[H5.size]? = some (.cells #[.int .i64 rb, .int .i64 rt, .slice rx.a rx.len rx.cap, .int .i64 b, .int .i64 t, .slice z.a z.len z.cap] T_rlog_Log (0, 0)) := fun H' m => m.get (get_push_new _ _) fun e => e
    have hz6 := hz5.mod mp
    have hy6 := hy5.mod mp
    have hraw6 : Lr _ rx rs := F6.rows hraw
    generalize Array.push H5 (.cells #[.int .i64 rb, .int .i64 rt, .slice rx.a rx.len rx.cap, .int .i64 b, .int .i64 t, .slice z.a z.len z.cap] T_rlog_Log) = H6 at *
    have loop : ∀ (d j : Nat) (H' : Hp), j + d = 2 → Mod (fun _ => False) H6 H' → tephralaw13_RlogRight.l1 J0 rb rt rx says (u.toNat : Int) (v.toNat : Int) tn.index tn.term tn.cmd.op tn.cmd.client tn.cmd.seq tn.cmd.key tn.cmd.value tn.cmd.old b t y b t z H5 H' (j : Int) (trueQ H) := by
      intro d
      induction d with
      | zero =>
        intro j H' hj m
        apply tephralaw13_RlogRight.l1.step; unfold tephralaw13_RlogRight.l1.body
        have F' := F6.step m fun _ h => h.elim
        refine Br.no (by simp; omega) ((Some_spec (c := u) (d := v) (F'.rows hr) hl).mono ?_)
        rw [hbb, htt, hes]
        rintro r H7 ⟨w, rfl, hw⟩
        exact ⟨_, _, _, rfl, bool_step (H0 := H') (Same_spec (hy6.mod (m.trans hw.mod)) hw.lr (by omega)) hw.mod fun H8 m8 => ⟨congrArg Value.bool sameB_refl, (F'.step m8 fun _ h => h.elim).mod⟩⟩
      | succ d ih =>
        intro j H' hj m
        have next : ∀ H'', Mod (fun _ => False) (holes H' 1) H'' → tephralaw13_RlogRight.l1 J0 rb rt rx says (u.toNat : Int) (v.toNat : Int) tn.index tn.term tn.cmd.op tn.cmd.client tn.cmd.seq tn.cmd.key tn.cmd.value tn.cmd.old b t y b t z H5 H'' (w64 ((j : Int) + 1)) (trueQ H) := by
          intro H'' m''
          rw [w64_id (x := (j : Int) + 1) (by omega) (by omega)]
          have := ih (j + 1) H'' (by omega) (m.trans ((Mod.holes _ _ 1).trans m''))
          simpa using this
        apply tephralaw13_RlogRight.l1.step; unfold tephralaw13_RlogRight.l1.body
        have hg := hcells H' m
        have go : ∀ (b' t' : Int) (w : Sl) (ws : List En), Lr H' w ws → ws.length ≤ 9223372036854775807 → RowAt H' ((Addr.mk (Array.size H5) 0 none).add ((j : Int).toNat * 3)) [.int .i64 b', .int .i64 t', .slice w.a w.len w.cap] →
            ∃ Base2 : Int, ∃ Term2 : Int, ∃ Entries2 : Sl, RowAt H' ((Addr.mk (Array.size H5) 0 none).add ((j : Int).toNat * 3)) [.int .i64 Base2, .int .i64 Term2, .slice Entries2.a Entries2.len Entries2.cap] ∧
              Br (decide (Base2 ≥ 0)) (tephralaw13_RlogRight.k2 J0 rb rt rx says (u.toNat : Int) (v.toNat : Int) tn.index tn.term tn.cmd.op tn.cmd.client tn.cmd.seq tn.cmd.key tn.cmd.value tn.cmd.old b t y b t z H5 H' (j : Int) Base2 Term2 Entries2 (decide (Term2 ≥ 0)) (trueQ H))
                (tephralaw13_RlogRight.k2 J0 rb rt rx says (u.toNat : Int) (v.toNat : Int) tn.index tn.term tn.cmd.op tn.cmd.client tn.cmd.seq tn.cmd.key tn.cmd.value tn.cmd.old b t y b t z H5 H' (j : Int) Base2 Term2 Entries2 false (trueQ H)) := by
          intro b' t' w ws hw hws hrow
          refine ⟨b', t', w, hrow, ?_⟩
          have k2 : ∀ ok : Bool, (ok = true ↔ (0 ≤ b' ∧ 0 ≤ t')) → tephralaw13_RlogRight.k2 J0 rb rt rx says (u.toNat : Int) (v.toNat : Int) tn.index tn.term tn.cmd.op tn.cmd.client tn.cmd.seq tn.cmd.key tn.cmd.value tn.cmd.old b t y b t z H5 H' (j : Int) b' t' w ok (trueQ H) := by
            intro ok hok
            apply tephralaw13_RlogRight.k2.step; unfold tephralaw13_RlogRight.k2.body
            refine RR_l2 (es := ws) (hw.mod (Mod.holes _ _ 1)) hws next ws.length 0 _ ok (by omega) (Mod.refl _ _) ?_
            rw [hok]
            exact ⟨fun h => ⟨h, fun i _ hi => absurd hi (by omega), fun _ h => absurd h (by omega)⟩, fun h => h.1⟩
          refine Br.mk (fun e => k2 _ ⟨fun h => ⟨of_decide_eq_true e, of_decide_eq_true h⟩, fun h => decide_eq_true h.2⟩) (fun e => k2 false ⟨(fun h => nomatch h), fun h => absurd h.1 (of_decide_eq_false e)⟩)
        refine Br.yes (by simp; omega) ⟨⟨by omega, by omega⟩, ?_⟩
        rcases (by omega : j = 0 ∨ j = 1) with rfl | rfl
        · refine go rb rt rx rs (hraw6.mod m) hrl fun i w hi => ?_
          have e : ((0 : Nat) : Int).toNat * 3 = 0 := rfl
          rw [e, add_zero_of, Addr.add_loc, Nat.zero_add, cell_of hg]
          rcases i with _ | _ | _ | i
          · simpa using hi
          · simpa using hi
          · simpa using hi
          · simp at hi
        · refine go b t z zs (hz6.mod m) (by omega) fun i w hi => ?_
          have e : ((1 : Nat) : Int).toNat * 3 = 3 := rfl
          rw [e, Addr.add_loc, Addr.add_loc, Nat.zero_add, cell_of hg]
          rcases i with _ | _ | _ | i
          · simpa using hi
          · simpa using hi
          · simpa using hi
          · simp at hi
    exact loop 2 0 H6 (by omega) (Mod.refl _ _)
  have F4 : Fresh H (holes H4 1) := ((Fresh.refl H).step m04 fun _ h => h.elim).step (Mod.holes (fun _ => False) H4 1) fun _ h => h.elim
  have hz4 := hz.to (Mod.holes (fun _ => False) H4 1)
  have e4' := e4.mod (Mod.holes (fun _ => False) H4 1)
  refine Br.mk (fun h => ?_) (fun h => k1 _ es (by omega) hz4.lr e4' F4)
  have h' : 0 < z.len := by have := of_decide_eq_true h; omega
  have hm : c.toNat % z.len < z.len := Nat.mod_lt _ h'
  rw [tmodN]
  simp only [Int.toNat_natCast]
  obtain ⟨a, ha, hw, hput, mput⟩ := own_put (new := tn.cells) hz4.own hm rfl (by omega)
  rw [← flat_set (f := En.cells) (k := 8) (fun _ => rfl) es _ tn (by omega)] at hput
  have hblk : ∀ g ∈ z.blk, H2.size ≤ g := fun g hg => Nat.le_trans m3.size (hz4.blk g hg)
  have hylt : ∀ g ∈ y.blk, g < H2.size := Own.lt hE.own
  refine ⟨by omega, ⟨by omega, by omega⟩, vPtr.mk a ha ⟨hw, k1 _ (es.set (c.toNat % z.len) tn) (by simp; omega) (Own.rows hput) (Rows.keep e4' mput fun g hg e => ?_) (F4.step mput fun g hg => ?_)⟩⟩
  · have := hblk g e; have := hylt g hg; omega
  · have := hblk g hg; have := m2.size; omega
end
end Go.Proofs
