/- LAYER 13: RlogCompact, RlogAt. -/
import Derived.Test.YtdfakiaehkfhnaaKr4
set_option linter.all false
set_option linter.constructorNameAsVariable false
namespace Go.Proofs
open Go Go.KC

section
variable {H : Hp} {es : List En} {b t : Int}

theorem termAt_known {i : Int} (h : (termAt b t es i).2 = true) : b ≤ i ∧ i ≤ b + es.length := by
  unfold termAt at h
  by_cases h1 : i = b
  · omega
  · rw [if_neg h1] at h
    by_cases h2 : i < b ∨ i > b + es.length
    · rw [if_pos h2] at h; cases h
    · omega
theorem termAt_of {i : Int} (h1 : b < i) (h2 : i ≤ b + es.length) : ∃ hj : (i - b - 1).toNat < es.length, termAt b t es i = (es[(i - b - 1).toNat].term, true) := by
  have hj : (i - b - 1).toNat < es.length := by omega
  refine ⟨hj, ?_⟩
  unfold termAt; rw [if_neg (by omega), if_neg (by omega)]
  simp only [List.getD_eq_getElem?_getD, List.getElem?_eq_getElem hj, Option.getD_some]
theorem termAt_base : termAt b t es b = (t, true) := by unfold termAt; rw [if_pos rfl]
theorem termAt_out {i : Int} (h : i < b ∨ i > b + es.length) : termAt b t es i = (0, false) := by
  unfold termAt; rw [if_neg (by omega), if_pos h]

/-- What is behind an index is known of a log that begins there. -/
theorem termAt_drop {i j : Int} (h1 : b ≤ i) (h2 : i ≤ b + es.length) (hj : i ≤ j) : termAt i (termAt b t es i).1 (es.drop (i - b).toNat) j = termAt b t es j := by
  have hl : ((es.drop (i - b).toNat).length : Int) = es.length - (i - b) := by rw [List.length_drop]; omega
  by_cases c1 : j = i
  · subst c1
    rw [termAt_base]
    by_cases c2 : j = b
    · subst c2; rw [termAt_base]
    · obtain ⟨hj', e⟩ := termAt_of (b := b) (t := t) (es := es) (i := j) (by omega) h2
      rw [e]
  · by_cases c2 : j ≤ b + es.length
    · obtain ⟨g1, e1⟩ := termAt_of (b := i) (t := (termAt b t es i).1) (es := es.drop (i - b).toNat) (i := j) (by omega) (by omega)
      obtain ⟨g2, e2⟩ := termAt_of (b := b) (t := t) (es := es) (i := j) (by omega) c2
      rw [e1, e2]
      simp only [List.getElem_drop]
      have e : (i - b).toNat + (j - i - 1).toNat = (j - b - 1).toNat := by omega
      simp only [e]
    · rw [termAt_out (b := i) (Or.inr (by omega)), termAt_out (b := b) (Or.inr (by omega))]
theorem Sm.term_nonneg (h : Sm b t es) (i : Int) : 0 ≤ (termAt b t es i).1 := by
  have ht := h.ht
  by_cases c1 : i = b
  · subst c1; rw [termAt_base]; exact ht.1
  · by_cases c2 : i < b ∨ i > b + es.length
    · rw [termAt_out c2]; exact Int.le_refl 0
    · obtain ⟨g, e⟩ := termAt_of (b := b) (t := t) (es := es) (i := i) (by omega) (by omega)
      rw [e]; have := h.low _ g; simp only; omega
theorem Sm.right_drop (h : Sm b t es) {i : Int} (h1 : b ≤ i) (h2 : i ≤ b + es.length) : LRight i (termAt b t es i).1 (es.drop (i - b).toNat) := by
  have hb := h.hb; have hl := h.len
  refine ⟨by omega, h.term_nonneg i, ?_, fun hd => ?_⟩
  · rw [w64_id (by omega) (by omega)]
    exact h.row.drop _ _ fun j => by congr 1; omega
  · have hk : (i - b).toNat < es.length := by rw [List.length_drop] at hd; omega
    simp only [List.getElem_drop, Nat.add_zero]
    by_cases c1 : i = b
    · subst c1; rw [termAt_base]
      exact h.low _ hk
    · obtain ⟨g, e⟩ := termAt_of (b := b) (t := t) (es := es) (i := i) (by omega) h2
      rw [e]
      have := (h.row _ hk).2.2 (by omega)
      have e2 : (i - b).toNat - 1 = (i - b - 1).toNat := by omega
      simp only [e2] at this
      exact this
theorem compact_compact {i j : Int} (h1 : b ≤ i) (h2 : i ≤ b + es.length) (hj : i ≤ j) (hk : (termAt b t es j).2 = true) :
    compact i (termAt b t es i).1 (es.drop (i - b).toNat) j = compact b t es j := by
  unfold compact
  rw [termAt_drop h1 h2 hj, if_pos hk, if_pos hk, List.drop_drop]
  have := termAt_known hk
  have e : (i - b).toNat + (j - i).toNat = (j - b).toNat := by omega
  rw [e]

theorem lg_step {H0 : Hp} {f : FuncId} {args : List Value} {m : Lgm} {K : Int → Int → Sl → Hp → Prop} (h : SCalls Try.prog f args H fun r H' => ∃ y : Sl, r = lgv m.base m.term y ∧ Lr H' y m.es ∧ Mod (fun _ => False) H H') (hf : Mod (fun _ => False) H0 H)
    (hK : ∀ y H', Mod (fun _ => False) H H' → Mod (fun _ => False) H0 H' → Lr H' y m.es → K m.base m.term y H') :
    SCalls Try.prog f args H fun r H' => ∃ b : Int, ∃ t : Int, ∃ y : Sl, r = .agg #[.int .i64 b, .int .i64 t, .slice y.a y.len y.cap] ∧ K b t y H' := by
  refine h.mono ?_
  rintro r H1 ⟨y, rfl, hl, m1⟩
  exact ⟨_, _, y, rfl, hK y H1 m1 (hf.trans m1) hl⟩

theorem sameB_refl : sameB b t es b t es = true := decide_eq_true ⟨rfl, rfl, rfl⟩

theorem RlogCompact_spec {says : Sl} {ss : List Sy} {u v : UInt8} {i j : Int} (hr : Rows H says 6 (ss.map Sy.cells).flatten) (hl : ss.length = says.len) (hi : -128 ≤ i ∧ i ≤ 127) (hj : -128 ≤ j ∧ j ≤ 127) :
    SCalls Try.prog tephralaw13_RlogCompact.id [.slice says.a says.len says.cap, .int .u8 (u.toNat : Int), .int .u8 (v.toNat : Int), .int .i8 i, .int .i8 j] H (trueQ H) := by
  apply tephralaw13_RlogCompact.calls
  unfold tephralaw13_RlogCompact.vc
  rw [w64_id (x := i) (by omega) (by omega), w64_id (x := j) (by omega) (by omega)]
  refine awake_step (H0 := H) (Mod.refl _ _) fun H1 m1 => some_step hr hl m1 fun y H2 m2 hE => ?_
  have sm := sm_some ss u v
  have e2 : Lr H2 y _ := hE.lr
  generalize ents (ss.take 80) (((u.toNat % 20 : Nat) : Int) + 1) ((v.toNat % 5 : Nat) : Int) = es at *
  generalize ((u.toNat % 20 : Nat) : Int) = b at *
  generalize ((v.toNat % 5 : Nat) : Int) = t at *
  have hb := sm.hb
  have hlen := sm.len
  have hyl := e2.len
  have nb : nice b := by unfold nice; omega
  have ni : nice i := by unfold nice; omega
  have nj : nice j := by unfold nice; omega
  have mh : Mod (fun _ => False) H2 (holes H2 1) := Mod.holes _ _ _
  refine lg_step (H0 := H2) (Compact_spec (by omega) (by omega) (by omega) (e2.mod mh)) mh fun z H3 _ m3 hz => ?_
  have e3 := e2.mod m3
  have fin : ∀ {v : Bool} {H' : Hp}, v = true → Mod (fun _ => False) H3 H' → trueQ H (.bool v) H' := fun h m => ⟨congrArg Value.bool h, m2.trans (m3.trans m)⟩
  have mh3 : Mod (fun _ => False) H3 (holes H3 1) := Mod.holes _ _ _
  refine tb_step (H0 := H3) (TermAt_spec nb ni (by omega) (e3.mod mh3)) mh3 fun H4 m4 => ?_
  cases hk : (termAt b t es i).2 with
  | false =>
    have ec : compact b t es i = ⟨b, t, es⟩ := by unfold compact; rw [hk]; rfl
    rw [ec] at hz ⊢
    exact Br.yes rfl (bool_step (H0 := H3) (Same_spec (e3.mod m4) (hz.mod m4) (by omega)) m4 fun H5 m5 => fin sameB_refl m5)
  | true =>
    obtain ⟨hk1, hk2⟩ := termAt_known hk
    have ec : compact b t es i = ⟨i, (termAt b t es i).1, es.drop (i - b).toNat⟩ := by unfold compact; rw [if_pos hk]
    rw [ec] at hz ⊢
    have hzl := hz.len
    have hzl' : (z.len : Int) = es.length - (i - b) := by simp only [List.length_drop] at hzl; omega
    have tj : i ≤ j → termAt i (termAt b t es i).1 (es.drop (i - b).toNat) j = termAt b t es j := fun h => termAt_drop hk1 hk2 h
    have nl : nice (i + (z.len : Int)) := by unfold nice; omega
    have nl2 : nice (b + (y.len : Int)) := by unfold nice; omega
    simp only at hz ⊢
    have LA : ∀ {H' : Hp}, SCalls Try.prog rlog_Log_Last.id [lgv b t y] H' (TellPost H' (.int .i64 (b + (y.len : Int)))) := Last_spec nb (by omega)
    have LB : ∀ {H' : Hp}, SCalls Try.prog rlog_Log_Last.id [lgv i (termAt b t es i).1 z] H' (TellPost H' (.int .i64 (i + (z.len : Int)))) := Last_spec ni (by omega)
    have elt : lastTerm i (termAt b t es i).1 (es.drop (i - b).toNat) = lastTerm b t es := by
      unfold lastTerm
      have e : i + ((es.drop (i - b).toNat).length : Int) = b + es.length := by rw [List.length_drop]; omega
      rw [e, termAt_drop hk1 hk2 hk2]
    refine Br.no rfl (tb_step (H0 := H3) (TermAt_spec nb nj (by omega) (e3.mod m4)) m4 fun H5 m5 => tb_step (H0 := H3) (TermAt_spec ni nj (by omega) (hz.mod m5)) m5 fun H6 m6 => ?_)
    have k1 : ∀ (H' : Hp), Mod (fun _ => False) H3 H' → tephralaw13_RlogCompact.k1 J0 i j b t y i (termAt b t es i).1 z (termAt b t es j).2 false H' (trueQ H) := by
      intro H' m
      apply tephralaw13_RlogCompact.k1.step; unfold tephralaw13_RlogCompact.k1.body
      rw [w64_id (x := i) (by omega) (by omega), w64_id (x := j) (by omega) (by omega)]
      refine Br.no rfl (lg_step (H0 := H') (Compact_spec (by omega) (by omega) (by rw [List.length_drop]; omega) (hz.mod m)) (Mod.refl _ _) fun p H7 _ m7 hp => lg_step (H0 := H7) (Compact_spec (by omega) (by omega) (by omega) (e3.mod (m.trans m7))) (Mod.refl _ _) fun q H8 _ m8 hq => ?_)
      have hpl := hp.len
      have hpb : (compact i (termAt b t es i).1 (es.drop (i - b).toNat) j).es.length ≤ 80 := by
        unfold compact; split
        · simp; omega
        · simp; omega
      refine bool_step (H0 := H8) (Same_spec (hp.mod m8) hq (by omega)) (Mod.refl _ _) fun H9 m9 => ?_
      have M := m.trans (m7.trans (m8.trans m9))
      refine Br.mk (fun _ => ⟨fin rfl M, fin rfl M⟩) fun hs => Br.mk (fun _ => fin rfl M) fun hlt => ?_
      have hij : i ≤ j := by have := of_decide_eq_false hlt; omega
      cases hx : (termAt b t es j).2 with
      | false => exact fin rfl M
      | true =>
        rw [compact_compact hk1 hk2 hij hx, sameB_refl] at hs
        cases hs
    refine Br.no (by simp) (int_step LB m6 fun H7 m7 => int_step LA m7 fun H8 m8 => Br.no (by rw [bne_eq_false_iff_eq]; omega) ?_)
    refine int_step (LastTerm_spec ni (by omega) nl (hz.mod m8)) m8 fun H9 m9 => int_step (LastTerm_spec nb (by omega) nl2 (e3.mod m9)) m9 fun H10 m10 => Br.no (by rw [bne_eq_false_iff_eq]; exact elt) ?_
    refine bool_step (Right_spec (by rw [List.length_drop]; omega) (hz.mod m10)) m10 fun H11 m11 => ?_
    rw [decide_eq_true (sm.right_drop hk1 hk2)]
    refine Br.no rfl (Br.mk (fun h => ?_) (fun h => ?_))
    · have h' := of_decide_eq_true h
      rw [termAt_out (b := i) (Or.inl h')]
      exact Br.no rfl (Br.no (by simp; omega) (k1 H11 m11))
    · have h' := of_decide_eq_false h
      rw [tj (by omega)]
      refine Br.yes (by simp; omega) (Br.no (by simp) ?_)
      rw [beq_self_eq_true]
      exact k1 H11 m11
end
end Go.Proofs
