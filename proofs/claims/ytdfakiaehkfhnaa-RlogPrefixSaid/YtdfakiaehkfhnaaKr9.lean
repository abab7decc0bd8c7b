/- LAYER 13: RlogPrefix, the walk. -/
import Derived.Test.YtdfakiaehkfhnaaKr8
set_option linter.all false
set_option linter.constructorNameAsVariable false
namespace Go.Proofs
open Go Go.KC

section
variable {H0 H : Hp} {es mo : List En} {b t : Int}

theorem Pre.mk' {sb : List Sy} (sm : Sm b t es) (hi : ∀ j (hj : j < es.length), es[j].term ≤ 84) {c : Nat} {p : Int} (hc : c ≤ es.length) (hp : b ≤ p ∧ p ≤ b + c) :
    Pre b t es (ents (sb.take 80) (b + c + 1) (lastTerm b t es + 1)) c p := by
  have hb := sm.hb; have ht := sm.ht; have hl := sm.len
  have hlow := sm.last_low
  have hhigh : lastTerm b t es ≤ 84 := by
    unfold lastTerm
    by_cases c0 : es.length = 0
    · have : es = [] := List.eq_nil_of_length_eq_zero c0
      subst this
      have e : b + ((([] : List En).length : Nat) : Int) = b := by simp
      rw [e, termAt_base]; simp only; omega
    · obtain ⟨g, e⟩ := termAt_of (b := b) (t := t) (es := es) (i := b + es.length) (by omega) (by omega)
      rw [e]; exact hi _ g
  have hl2 : (sb.take 80).length ≤ 80 := by simp; omega
  refine ⟨sm, hc, hp, ?_, by rw [ents_length]; exact hl2, fun j hj => ?_⟩
  · rw [show b + 1 + (c : Int) = b + c + 1 by omega]
    exact ents_row (by omega) (by omega) (by omega) (by omega)
  · have := (entsGo_row (sb.take 80) 0 (lastTerm b t es + 1) (n := b + c + 1) (by omega) (by omega) (by omega) (by omega) j hj).2.2.1
    have e : (ents (sb.take 80) (b + c + 1) (lastTerm b t es + 1))[j] = (entsGo (b + c + 1) (sb.take 80) 0 (lastTerm b t es + 1))[j]'hj := rfl
    rw [e]; omega

theorem eo_step {f : FuncId} {args : List Value} {L : List En} {K : Int → Int → Sl → Hp → Prop} (h : SCalls Try.prog f args H fun r H' => ∃ y : Sl, r = lgv b t y ∧ Eo H H' y L) (hf : Mod (fun _ => False) H0 H)
    (hK : ∀ y H', Mod (fun _ => False) H H' → Mod (fun _ => False) H0 H' → Lr H' y L → K b t y H') :
    SCalls Try.prog f args H fun r H' => ∃ b : Int, ∃ t : Int, ∃ y : Sl, r = .agg #[.int .i64 b, .int .i64 t, .slice y.a y.len y.cap] ∧ K b t y H' := by
  refine h.mono ?_
  rintro r H1 ⟨y, rfl, hE⟩
  exact ⟨b, t, y, rfl, hK y H1 hE.mod (hf.trans hE.mod) hE.lr⟩

theorem RP_l1 {H2 : Hp} {n k : UInt8} {y w : Sl} {c : Nat} {p : Int} (hP : Pre b t es mo c p) (m2 : Mod (fun _ => False) H0 H2) (hy : Lr H2 y es) (hw : Lr H2 w mo) (hc : n.toNat % (y.len + 1) = c) (hp : b + ((k.toNat % (c + 1) : Nat) : Int) = p) :
    ∀ (d j : Nat) (H : Hp) (z : Sl), j + d = mo.length → Mod (fun _ => False) H2 H → Lr H z (es.take c ++ mo.take j) →
      tephralaw13_RlogPrefix.l1 J0 (n.toNat : Int) (k.toNat : Int) b t y w H (j : Int) b t z (trueQ H0) := by
  have hb := hP.sm.hb; have hlen := hP.sm.len; have hml := hP.len; have hce := hP.hc; have hpp := hP.hp
  have hyl := hy.len
  have hwl := hw.len
  have nb : nice b := by unfold nice; omega
  have hn : n.toNat < 256 := UInt8.toNat_lt _
  have hk : k.toNat < 256 := UInt8.toNat_lt _
  have wn : w64 (n.toNat : Int) = (n.toNat : Int) := w64_id (by omega) (by omega)
  have wk : w64 (k.toNat : Int) = (k.toNat : Int) := w64_id (by omega) (by omega)
  have wy : w64 (((y.len : Nat) : Int) + 1) = ((y.len + 1 : Nat) : Int) := by rw [w64_id (by omega) (by omega)]; omega
  have wc : w64 ((c : Int) + 1) = ((c + 1 : Nat) : Int) := by rw [w64_id (by omega) (by omega)]; omega
  have wp : w64 (b + ((k.toNat % (c + 1) : Nat) : Int)) = p := by rw [hp]; exact w64_id (by omega) (by omega)
  intro d
  induction d with
  | zero =>
    intro j H z hj m hz
    rw [show mo.take j = mo from List.take_of_length_le (by omega)] at hz
    have hzl := hz.len
    rw [List.length_append, List.length_take] at hzl
    apply tephralaw13_RlogPrefix.l1.step; unfold tephralaw13_RlogPrefix.l1.body
    rw [wn, wy, tmodN, hc, wc, wk, tmodN, wp]
    refine Br.no (by simp; omega) ⟨by omega, tb_step (H0 := H) (TermAt_spec nb (by unfold nice; omega) (by omega) (hy.mod m)) (Mod.refl _ _) fun H3 m3 => ?_⟩
    have hb1 : (-1000 : Int) ≤ b ∧ b ≤ 1000 := by omega
    have hp1 : (-1000 : Int) ≤ p ∧ p ≤ 1000 := by omega
    have hml2 : (es.take c ++ mo).length ≤ 160 := by rw [List.length_append, List.length_take]; omega
    have haf : after b (es.take c ++ mo) p 1000 = ((es.take c ++ mo).drop (p - b).toNat, true) := by
      unfold after
      rw [if_neg (by rw [List.length_append, List.length_take]; omega), List.take_of_length_le (by rw [List.length_drop]; omega)]
    have hdl : ((es.take c ++ mo).drop (p - b).toNat).length ≤ 1000 := by rw [List.length_drop]; omega
    have fin : ∀ {v : Bool} {H' : Hp}, v = true → Mod (fun _ => False) H H' → trueQ H0 (.bool v) H' := fun h m' => ⟨congrArg Value.bool h, m2.trans (m.trans m')⟩
    have hyH := hy.mod m
    refine sl_tb_step (H0 := H) (After_spec (q := 1000) hb1 hp1 (by omega) (hz.mod m3)) m3 fun w2 H4 _ m4 hw2 => ?_
    rw [haf] at hw2 ⊢
    refine lb_step (H0 := H) (Merge_spec (x := y) (es := es) (z := w2) hb1 hp1 hdl (by omega) (hyH.mod m4) hw2) m4 fun a1 H5 n5 m5 ga => ?_
    rw [hP.merge] at ga ⊢
    refine Br.no rfl ?_
    apply tephralaw13_RlogPrefix.k1.step; unfold tephralaw13_RlogPrefix.k1.body
    have nh5 : Mod (fun _ => False) H4 (holes H5 1) := moreHoles n5 1
    refine Br.no rfl (bool_step (H0 := holes H5 1) (Right_spec (by omega) (hz.mod (moreHoles m5 1))) (Mod.refl _ _) fun H6 m6 => ?_)
    rw [decide_eq_true hP.right]
    have M6 : Mod (fun _ => False) H H6 := (moreHoles m5 1).trans m6
    have ga6 := ga.mod ((Mod.holes (fun _ => False) H5 1).trans m6)
    have hw6 := hw2.mod (nh5.trans m6)
    have gal := ga6.len
    apply tephralaw13_RlogPrefix.k2.step; unfold tephralaw13_RlogPrefix.k2.body
    rw [wn, wy, tmodN, hc, wc, wk, tmodN, wp]
    refine Br.no rfl (Br.mk (fun h => ?_) (fun h => ?_))
    · have h' : (z.len : Int) = (c : Int) := beq_iff_eq.1 h
      have hmo : mo = [] := List.eq_nil_of_length_eq_zero (by omega)
      rw [if_pos hmo] at ga6
      have ga6 : Lr H6 a1 es := ga6
      have gal := ga6.len
      exact bool_step (H0 := H) (Same_spec ga6 (hyH.mod M6) (by omega)) M6 fun H7 m7 => fin sameB_refl m7
    · have h' : (z.len : Int) ≠ (c : Int) := beq_eq_false_iff_ne.1 h
      have hmo : mo ≠ [] := fun e => by rw [e] at hzl; simp at hzl; omega
      rw [if_neg hmo] at ga6
      have ga6 : Lr H6 a1 (es.take c ++ mo) := ga6
      have gal := ga6.len
      refine lb_step (H0 := H6) (Merge_spec (x := a1) (es := es.take c ++ mo) (z := w2) hb1 hp1 hdl (by omega) ga6 hw6) (Mod.refl _ _) fun a2 H7 _ m7 g7 => ?_
      rw [hP.again] at g7 ⊢
      have mh : Mod (fun _ => False) H7 (holes H7 1) := Mod.holes _ _ _
      have M7 := M6.trans (m7.trans mh)
      refine bool_step (H0 := holes H7 1) (Same_spec (ga6.mod (m7.trans mh)) (hz.mod M7) (by omega)) (Mod.refl _ _) fun H8 m8 => ?_
      rw [sameB_refl]
      refine Br.yes rfl ?_
      apply tephralaw13_RlogPrefix.k3.step; unfold tephralaw13_RlogPrefix.k3.body
      exact Br.yes rfl (bool_step (H0 := H) (Same_spec (ga6.mod (m7.trans (mh.trans m8))) (g7.mod (mh.trans m8)) (by omega)) (M7.trans m8) fun H9 m9 => fin sameB_refl m9)
  | succ d ih =>
    intro j H z hj m hz
    apply tephralaw13_RlogPrefix.l1.step; unfold tephralaw13_RlogPrefix.l1.body
    have hjl : j < mo.length := by omega
    obtain ⟨a, ha, hrow⟩ := (hw.mod m).get hjl
    refine Br.yes (by simp; omega) ⟨⟨by omega, by omega⟩, vPtr.mk a ha ⟨_, _, _, _, _, _, _, _, by simpa [En.cells] using hrow, eo_step (H0 := H2) (Add_spec (c := mo[j].cmd) (u := mo[j].term) (by omega) (by simp; omega) (hz.mod (Mod.holes _ _ 1))) (moreHoles m 1) fun z' H' _ m' hz' => ?_⟩⟩
    rw [w64_id (x := (j : Int) + 1) (by omega) (by omega)]
    have hidx := hP.idxMo hjl
    have hlz : ((es.take c ++ mo.take j).length : Int) = c + j := by rw [List.length_append, List.length_take, List.length_take]; omega
    have e : es.take c ++ mo.take j ++ [⟨b + ((es.take c ++ mo.take j).length : Int) + 1, mo[j].term, mo[j].cmd⟩] = es.take c ++ mo.take (j + 1) := by
      rw [hlz, show b + ((c : Int) + (j : Int)) + 1 = mo[j].index by omega, List.append_assoc, List.take_succ_eq_append_getElem hjl]
    rw [e] at hz'
    have := ih (j + 1) H' z' (by omega) m' hz'
    simpa using this

theorem RP_l2 {H2 : Hp} {n k : UInt8} {y w : Sl} {c : Nat} {p : Int} (hP : Pre b t es mo c p) (m2 : Mod (fun _ => False) H0 H2) (hy : Lr H2 y es) (hw : Lr H2 w mo) (hc : n.toNat % (y.len + 1) = c) (hp : b + ((k.toNat % (c + 1) : Nat) : Int) = p) :
    ∀ (d j : Nat) (H : Hp) (z : Sl), j + d = mo.length → Mod (fun _ => False) H2 H → Lr H z (es.take c ++ mo.take j) →
      tephralaw13_RlogPrefix.l2 J0 (n.toNat : Int) (k.toNat : Int) b t y w H (j : Int) b t z (trueQ H0) := by
  have hb := hP.sm.hb; have hlen := hP.sm.len; have hml := hP.len; have hce := hP.hc; have hpp := hP.hp
  have hyl := hy.len
  have hwl := hw.len
  have nb : nice b := by unfold nice; omega
  have hn : n.toNat < 256 := UInt8.toNat_lt _
  have hk : k.toNat < 256 := UInt8.toNat_lt _
  have wn : w64 (n.toNat : Int) = (n.toNat : Int) := w64_id (by omega) (by omega)
  have wk : w64 (k.toNat : Int) = (k.toNat : Int) := w64_id (by omega) (by omega)
  have wy : w64 (((y.len : Nat) : Int) + 1) = ((y.len + 1 : Nat) : Int) := by rw [w64_id (by omega) (by omega)]; omega
  have wc : w64 ((c : Int) + 1) = ((c + 1 : Nat) : Int) := by rw [w64_id (by omega) (by omega)]; omega
  have wp : w64 (b + ((k.toNat % (c + 1) : Nat) : Int)) = p := by rw [hp]; exact w64_id (by omega) (by omega)
  intro d
  induction d with
  | zero =>
    intro j H z hj m hz
    rw [show mo.take j = mo from List.take_of_length_le (by omega)] at hz
    have hzl := hz.len
    rw [List.length_append, List.length_take] at hzl
    apply tephralaw13_RlogPrefix.l2.step; unfold tephralaw13_RlogPrefix.l2.body
    rw [wn, wy, tmodN, hc, wc, wk, tmodN, wp]
    refine Br.no (by simp; omega) ⟨by omega, tb_step (H0 := H) (TermAt_spec nb (by unfold nice; omega) (by omega) (hy.mod m)) (Mod.refl _ _) fun H3 m3 => ?_⟩
    have hb1 : (-1000 : Int) ≤ b ∧ b ≤ 1000 := by omega
    have hp1 : (-1000 : Int) ≤ p ∧ p ≤ 1000 := by omega
    have hml2 : (es.take c ++ mo).length ≤ 160 := by rw [List.length_append, List.length_take]; omega
    have haf : after b (es.take c ++ mo) p 1000 = ((es.take c ++ mo).drop (p - b).toNat, true) := by
      unfold after
      rw [if_neg (by rw [List.length_append, List.length_take]; omega), List.take_of_length_le (by rw [List.length_drop]; omega)]
    have hdl : ((es.take c ++ mo).drop (p - b).toNat).length ≤ 1000 := by rw [List.length_drop]; omega
    have fin : ∀ {v : Bool} {H' : Hp}, v = true → Mod (fun _ => False) H H' → trueQ H0 (.bool v) H' := fun h m' => ⟨congrArg Value.bool h, m2.trans (m.trans m')⟩
    have hyH := hy.mod m
    refine sl_tb_step (H0 := H) (After_spec (q := 1000) hb1 hp1 (by omega) (hz.mod m3)) m3 fun w2 H4 _ m4 hw2 => ?_
    rw [haf] at hw2 ⊢
    refine lb_step (H0 := H) (Merge_spec (x := y) (es := es) (z := w2) hb1 hp1 hdl (by omega) (hyH.mod m4) hw2) m4 fun a1 H5 n5 m5 ga => ?_
    rw [hP.merge] at ga ⊢
    refine Br.no rfl ?_
    apply tephralaw13_RlogPrefix.k4.step; unfold tephralaw13_RlogPrefix.k4.body
    have nh5 : Mod (fun _ => False) H4 (holes H5 1) := moreHoles n5 1
    refine Br.no rfl (bool_step (H0 := holes H5 1) (Right_spec (by omega) (hz.mod (moreHoles m5 1))) (Mod.refl _ _) fun H6 m6 => ?_)
    rw [decide_eq_true hP.right]
    have M6 : Mod (fun _ => False) H H6 := (moreHoles m5 1).trans m6
    have ga6 := ga.mod ((Mod.holes (fun _ => False) H5 1).trans m6)
    have hw6 := hw2.mod (nh5.trans m6)
    have gal := ga6.len
    apply tephralaw13_RlogPrefix.k5.step; unfold tephralaw13_RlogPrefix.k5.body
    rw [wn, wy, tmodN, hc, wc, wk, tmodN, wp]
    refine Br.no rfl (Br.mk (fun h => ?_) (fun h => ?_))
    · have h' : (z.len : Int) = (c : Int) := beq_iff_eq.1 h
      have hmo : mo = [] := List.eq_nil_of_length_eq_zero (by omega)
      rw [if_pos hmo] at ga6
      have ga6 : Lr H6 a1 es := ga6
      have gal := ga6.len
      exact bool_step (H0 := H) (Same_spec ga6 (hyH.mod M6) (by omega)) M6 fun H7 m7 => fin sameB_refl m7
    · have h' : (z.len : Int) ≠ (c : Int) := beq_eq_false_iff_ne.1 h
      have hmo : mo ≠ [] := fun e => by rw [e] at hzl; simp at hzl; omega
      rw [if_neg hmo] at ga6
      have ga6 : Lr H6 a1 (es.take c ++ mo) := ga6
      have gal := ga6.len
      refine lb_step (H0 := H6) (Merge_spec (x := a1) (es := es.take c ++ mo) (z := w2) hb1 hp1 hdl (by omega) ga6 hw6) (Mod.refl _ _) fun a2 H7 _ m7 g7 => ?_
      rw [hP.again] at g7 ⊢
      have mh : Mod (fun _ => False) H7 (holes H7 1) := Mod.holes _ _ _
      have M7 := M6.trans (m7.trans mh)
      refine bool_step (H0 := holes H7 1) (Same_spec (ga6.mod (m7.trans mh)) (hz.mod M7) (by omega)) (Mod.refl _ _) fun H8 m8 => ?_
      rw [sameB_refl]
      refine Br.yes rfl ?_
      apply tephralaw13_RlogPrefix.k6.step; unfold tephralaw13_RlogPrefix.k6.body
      exact Br.yes rfl (bool_step (H0 := H) (Same_spec (ga6.mod (m7.trans (mh.trans m8))) (g7.mod (mh.trans m8)) (by omega)) (M7.trans m8) fun H9 m9 => fin sameB_refl m9)
  | succ d ih =>
    intro j H z hj m hz
    apply tephralaw13_RlogPrefix.l2.step; unfold tephralaw13_RlogPrefix.l2.body
    have hjl : j < mo.length := by omega
    obtain ⟨a, ha, hrow⟩ := (hw.mod m).get hjl
    refine Br.yes (by simp; omega) ⟨⟨by omega, by omega⟩, vPtr.mk a ha ⟨_, _, _, _, _, _, _, _, by simpa [En.cells] using hrow, eo_step (H0 := H2) (Add_spec (c := mo[j].cmd) (u := mo[j].term) (by omega) (by simp; omega) (hz.mod (Mod.holes _ _ 1))) (moreHoles m 1) fun z' H' _ m' hz' => ?_⟩⟩
    rw [w64_id (x := (j : Int) + 1) (by omega) (by omega)]
    have hidx := hP.idxMo hjl
    have hlz : ((es.take c ++ mo.take j).length : Int) = c + j := by rw [List.length_append, List.length_take, List.length_take]; omega
    have e : es.take c ++ mo.take j ++ [⟨b + ((es.take c ++ mo.take j).length : Int) + 1, mo[j].term, mo[j].cmd⟩] = es.take c ++ mo.take (j + 1) := by
      rw [hlz, show b + ((c : Int) + (j : Int)) + 1 = mo[j].index by omega, List.append_assoc, List.take_succ_eq_append_getElem hjl]
    rw [e] at hz'
    have := ih (j + 1) H' z' (by omega) m' hz'
    simpa using this


theorem RlogPrefix_spec {says more : Sl} {ss sb : List Sy} {u v n k : UInt8} (hr : Rows H says 6 (ss.map Sy.cells).flatten) (hl : ss.length = says.len) (hrm : Rows H more 6 (sb.map Sy.cells).flatten) (hlm : sb.length = more.len) :
    SCalls Try.prog tephralaw13_RlogPrefix.id [.slice says.a says.len says.cap, .slice more.a more.len more.cap, .int .u8 (u.toNat : Int), .int .u8 (v.toNat : Int), .int .u8 (n.toNat : Int), .int .u8 (k.toNat : Int)] H (trueQ H) := by
  apply tephralaw13_RlogPrefix.calls
  unfold tephralaw13_RlogPrefix.vc
  have hn : n.toNat < 256 := UInt8.toNat_lt _
  rw [w64_id (x := (n.toNat : Int)) (by omega) (by omega)]
  refine awake_step (H0 := H) (Mod.refl _ _) fun H1 m1 => some_step hr hl m1 fun y H2 m2 hE => ?_
  have sm := sm_some ss u v
  have hl2 : (ss.take 80).length ≤ 80 := by simp; omega
  have hi : ∀ j (hj : j < (ents (ss.take 80) (((u.toNat % 20 : Nat) : Int) + 1) ((v.toNat % 5 : Nat) : Int)).length), (ents (ss.take 80) (((u.toNat % 20 : Nat) : Int) + 1) ((v.toNat % 5 : Nat) : Int))[j].term ≤ 84 := fun j hj => by
    have := entsGo_high (n := ((u.toNat % 20 : Nat) : Int) + 1) (ss.take 80) 0 ((v.toNat % 5 : Nat) : Int) (by omega) (by omega) j hj
    have e : (ents (ss.take 80) (((u.toNat % 20 : Nat) : Int) + 1) ((v.toNat % 5 : Nat) : Int))[j] = (entsGo (((u.toNat % 20 : Nat) : Int) + 1) (ss.take 80) 0 ((v.toNat % 5 : Nat) : Int))[j]'hj := rfl
    rw [e]; omega
  have e2 : Lr H2 y _ := hE.lr
  generalize ents (ss.take 80) (((u.toNat % 20 : Nat) : Int) + 1) ((v.toNat % 5 : Nat) : Int) = es at *
  generalize ((u.toNat % 20 : Nat) : Int) = b at *
  generalize ((v.toNat % 5 : Nat) : Int) = t at *
  have hb := sm.hb
  have hlen := sm.len
  have hyl := e2.len
  have nb : nice b := by unfold nice; omega
  have wy : w64 (((y.len : Nat) : Int) + 1) = ((y.len + 1 : Nat) : Int) := by rw [w64_id (by omega) (by omega)]; omega
  rw [wy, tmodN]
  simp only [Int.toNat_natCast]
  have hyc := e2.2.1
  have hcm : n.toNat % (y.len + 1) < y.len + 1 := Nat.mod_lt _ (by omega)
  have hp : b ≤ b + ((k.toNat % (n.toNat % (y.len + 1) + 1) : Nat) : Int) ∧ b + ((k.toNat % (n.toNat % (y.len + 1) + 1) : Nat) : Int) ≤ b + ((n.toNat % (y.len + 1) : Nat) : Int) := by
    have := Nat.mod_lt k.toNat (show n.toNat % (y.len + 1) + 1 > 0 by omega); omega
  have hP : ∀ sb, Pre b t es (ents (List.take 80 sb) (b + ((n.toNat % (y.len + 1) : Nat) : Int) + 1) (lastTerm b t es + 1)) (n.toNat % (y.len + 1)) (b + ((k.toNat % (n.toNat % (y.len + 1) + 1) : Nat) : Int)) := fun sb => Pre.mk' sm hi (by omega) hp
  have hhigh : lastTerm b t es ≤ 1000 ∧ 0 ≤ lastTerm b t es := by
    have h1 := sm.last_low; have h2 := sm.ht
    refine ⟨?_, by omega⟩
    unfold lastTerm
    by_cases c0 : es.length = 0
    · have : es = [] := List.eq_nil_of_length_eq_zero c0
      subst this
      have e : b + ((([] : List En).length : Nat) : Int) = b := by simp
      rw [e, termAt_base]; simp only; omega
    · obtain ⟨g, e⟩ := termAt_of (b := b) (t := t) (es := es) (i := b + es.length) (by omega) (by omega)
      rw [e]; have := hi _ g; simp only; omega
  refine ⟨by omega, ⟨by omega, by omega⟩, ?_, ?_⟩
  · have mh : Mod (fun _ => False) H2 (holes H2 1) := Mod.holes _ _ _
    refine copy_app (x := ⟨cutA y.a y.cap 0 8, n.toNat % (y.len + 1), y.cap⟩) (es := es.take (n.toNat % (y.len + 1))) ((e2.mod mh).pre (by omega)) (by simp only; omega) fun ap H3 hap => ?_
    have hapl := hap.len
    rw [List.length_take] at hapl
    have m3 := mh.trans hap.mod
    refine int_step (H0 := H3) (Last_spec (x := ap) nb (by omega)) (Mod.holes _ _ 1) fun H5 m5 => int_step (H0 := H3) (LastTerm_spec nb (by omega) (by unfold nice; omega) (e2.mod (m3.trans m5))) m5 fun H6 m6 => ?_
    rw [show b + (ap.len : Int) = b + ((n.toNat % (y.len + 1) : Nat) : Int) by omega, w64_id (x := b + ((n.toNat % (y.len + 1) : Nat) : Int) + 1) (by omega) (by omega), w64_id (x := lastTerm b t es + 1) (by omega) (by omega)]
    refine es_step (H0 := H3) (hrm.keep (m2.trans (m3.trans m6)) fun _ _ e => e) hlm m6 fun w H7 _ m7 hw => ?_
    refine RP_l1 (hP sb) (m2.trans (m3.trans m7)) (e2.mod (m3.trans m7)) hw rfl rfl (ents (List.take 80 sb) (b + ((n.toNat % (y.len + 1) : Nat) : Int) + 1) (lastTerm b t es + 1)).length 0 H7 ap (by omega) (Mod.refl _ _) ?_
    rw [List.take_zero, List.append_nil]; exact hap.lr.mod m7
  · have mh : Mod (fun _ => False) H2 (holes H2 2) := Mod.holes _ _ _
    refine copy_app (x := ⟨cutA y.a y.cap 0 8, n.toNat % (y.len + 1), y.cap⟩) (es := es.take (n.toNat % (y.len + 1))) ((e2.mod mh).pre (by omega)) (by simp only; omega) fun ap H3 hap => ?_
    have hapl := hap.len
    rw [List.length_take] at hapl
    have m3 := mh.trans hap.mod
    refine int_step (H0 := H3) (Last_spec (x := ap) nb (by omega)) (Mod.refl _ _) fun H5 m5 => int_step (H0 := H3) (LastTerm_spec nb (by omega) (by unfold nice; omega) (e2.mod (m3.trans m5))) m5 fun H6 m6 => ?_
    rw [show b + (ap.len : Int) = b + ((n.toNat % (y.len + 1) : Nat) : Int) by omega, w64_id (x := b + ((n.toNat % (y.len + 1) : Nat) : Int) + 1) (by omega) (by omega), w64_id (x := lastTerm b t es + 1) (by omega) (by omega)]
    refine es_step (H0 := H3) (hrm.keep (m2.trans (m3.trans m6)) fun _ _ e => e) hlm m6 fun w H7 _ m7 hw => ?_
    refine RP_l2 (hP sb) (m2.trans (m3.trans m7)) (e2.mod (m3.trans m7)) hw rfl rfl (ents (List.take 80 sb) (b + ((n.toNat % (y.len + 1) : Nat) : Int) + 1) (lastTerm b t es + 1)).length 0 H7 ap (by omega) (Mod.refl _ _) ?_
    rw [List.take_zero, List.append_nil]; exact hap.lr.mod m7
end
end Go.Proofs
