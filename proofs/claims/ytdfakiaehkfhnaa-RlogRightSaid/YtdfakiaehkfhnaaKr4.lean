/- LAYER 13: steps of the laws; RlogNewer, RlogCompact, RlogAt. -/
import Derived.Test.YtdfakiaehkfhnaaKr3
set_option linter.all false
set_option linter.constructorNameAsVariable false
namespace Go.Proofs
open Go Go.KC

section
variable {H0 H : Hp} {x z : Sl} {es new : List En} {b t : Int}

theorem int_step {f : FuncId} {args : List Value} {n : Int} {K : Int → Hp → Prop} (h : SCalls Try.prog f args H (TellPost H (.int .i64 n))) (hf : Mod (fun _ => False) H0 H) (hK : ∀ H', Mod (fun _ => False) H0 H' → K n H') :
    SCalls Try.prog f args H fun r H' => ∃ x : Int, r = .int .i64 x ∧ K x H' := by
  refine h.mono ?_
  rintro r H1 ⟨rfl, m1⟩
  exact ⟨n, rfl, hK H1 (hf.trans m1)⟩
theorem tb_step {f : FuncId} {args : List Value} {p : Int × Bool} {K : Int → Bool → Hp → Prop} (h : SCalls Try.prog f args H (TellPost H (tb p))) (hf : Mod (fun _ => False) H0 H) (hK : ∀ H', Mod (fun _ => False) H0 H' → K p.1 p.2 H') :
    SCalls Try.prog f args H fun r H' => ∃ x : Int, ∃ y : Bool, r = .tuple #[.int .i64 x, .bool y] ∧ K x y H' := by
  refine h.mono ?_
  rintro r H1 ⟨rfl, m1⟩
  exact ⟨p.1, p.2, rfl, hK H1 (hf.trans m1)⟩
theorem awake_step {Q : Value → Hp → Prop} {K : Hp → Prop} (m : Mod (fun _ => False) H0 H) (hK : ∀ H', Mod (fun _ => False) H0 H' → K H') :
    SCalls Try.prog tephralaw13_awake.id [] H fun r H1 => ∃ x : Bool, r = .bool x ∧ Br (!x) (Q (.bool false) H1) (K H1) := by
  refine awake13_spec.mono ?_
  rintro r H1 ⟨rfl, m1⟩
  exact ⟨_, rfl, Br.no rfl (hK H1 (m.trans m1))⟩

/-- A log that says make, and what is known of it. -/
structure Sm (b t : Int) (es : List En) : Prop where
  hb : 0 ≤ b ∧ b ≤ 19
  ht : 0 ≤ t ∧ t ≤ 4
  len : es.length ≤ 80
  row : RowsOf es (b + 1)
  low : ∀ j (hj : j < es.length), t ≤ es[j].term
theorem Sm.idx (h : Sm b t es) {j : Nat} (hj : j < es.length) : es[j].index = b + 1 + (j : Int) := by
  have h1 := h.hb; have h2 := h.len
  rw [(h.row j hj).2.1, w64_id (by omega) (by omega)]
theorem sm_some (ss : List Sy) (c d : UInt8) : Sm ((c.toNat % 20 : Nat) : Int) ((d.toNat % 5 : Nat) : Int) (ents (ss.take 80) (((c.toNat % 20 : Nat) : Int) + 1) ((d.toNat % 5 : Nat) : Int)) := by
  have hl : (ss.take 80).length ≤ 80 := by simp; omega
  refine ⟨by omega, by omega, by rw [ents_length]; exact hl, ents_row (by omega) (by omega) (by omega) (by omega), fun j hj => ?_⟩
  exact (entsGo_row (ss.take 80) 0 _ (by omega) (by omega) (by omega) (by omega) j hj).2.2.1

theorem some_step {says : Sl} {ss : List Sy} {c d : UInt8} {K : Int → Int → Sl → Hp → Prop} (hr : Rows H0 says 6 (ss.map Sy.cells).flatten) (hl : ss.length = says.len) (m : Mod (fun _ => False) H0 H)
    (hK : ∀ y H', Mod (fun _ => False) H0 H' → Eo H H' y (ents (ss.take 80) (((c.toNat % 20 : Nat) : Int) + 1) ((d.toNat % 5 : Nat) : Int)) → K ((c.toNat % 20 : Nat) : Int) ((d.toNat % 5 : Nat) : Int) y H') :
    SCalls Try.prog tephralaw13_Some.id [.slice says.a says.len says.cap, .int .u8 (c.toNat : Int), .int .u8 (d.toNat : Int)] H fun r H' => ∃ b : Int, ∃ t : Int, ∃ y : Sl, r = .agg #[.int .i64 b, .int .i64 t, .slice y.a y.len y.cap] ∧ K b t y H' := by
  refine (Some_spec (hr.keep m fun _ _ e => e) hl).mono ?_
  rintro r H1 ⟨y, rfl, hE⟩
  exact ⟨_, _, y, rfl, hK y H1 (m.trans hE.mod) hE⟩

/-- Which entries' indexes follow one another. -/
def Idx (b : Int) (es : List En) : Prop := ∀ j (hj : j < es.length), es[j].index = b + 1 + (j : Int)
theorem Sm.Idx (h : Sm b t es) : Idx b es := fun _ hj => h.idx hj
theorem term_spec {i : Int} (hb : nice b) (he : es.length ≤ 100000) (hI : Idx b es) (hx : Lr H x es) : SCalls Try.prog tephralaw13_term.id [lgv b t x, .int .i64 i] H (TellPost H (tb (termAt b t es i))) := by
  apply tephralaw13_term.calls
  have hxl := hx.len
  unfold nice at hb
  have m0 : Mod (fun _ => False) H (holes H 1) := Mod.holes _ _ _
  by_cases h1 : i = b
  · refine Br.yes (beq_iff_eq.2 h1) ⟨?_, m0⟩
    unfold termAt; rw [if_pos h1]; rfl
  refine Br.no (beq_eq_false_iff_ne.2 h1) ?_
  have loop : ∀ (d j : Nat) (H1 : Hp), j + d = es.length → Mod (fun _ => False) H H1 → (i < b + 1 ∨ b + (j : Int) < i) → tephralaw13_term.l1 J0 b t x i H1 (j : Int) (TellPost H (tb (termAt b t es i))) := by
    intro d
    induction d with
    | zero =>
      intro j H1 hj m hn
      apply tephralaw13_term.l1.step; unfold tephralaw13_term.l1.body
      refine Br.no (by simp; omega) ⟨?_, m⟩
      unfold termAt; rw [if_neg h1, if_pos (by omega)]; rfl
    | succ d ih =>
      intro j H1 hj m hn
      apply tephralaw13_term.l1.step; unfold tephralaw13_term.l1.body
      have hjl : j < es.length := by omega
      obtain ⟨a, ha, hrow⟩ := (hx.mod m).get hjl
      refine Br.yes (by simp; omega) ⟨⟨by omega, by omega⟩, vPtr.mk a ha ⟨_, _, _, _, _, _, _, _, by simpa [En.cells] using hrow, ?_⟩⟩
      have m' := moreHoles m 1
      have hi := hI j hjl
      by_cases h2 : es[j].index = i
      · refine Br.yes (beq_iff_eq.2 h2) ⟨?_, m'⟩
        unfold termAt; rw [if_neg h1, if_neg (by omega)]
        have e : (i - b - 1).toNat = j := by omega
        simp only [tb, e, List.getD_eq_getElem?_getD, List.getElem?_eq_getElem hjl, Option.getD_some]
      · refine Br.no (beq_eq_false_iff_ne.2 h2) ?_
        rw [w64_id (x := (j : Int) + 1) (by omega) (by omega)]
        have := ih (j + 1) _ (by omega) m' (by omega)
        simpa using this
  exact loop es.length 0 _ (by omega) m0 (by omega)

theorem lgl (h : Lr H x es) : x.len = es.length := h.len.symm

theorem newer_total (T1 L1 T2 L2 : Int) : (decide (T2 > T1 ∨ (T2 = T1 ∧ L2 ≥ L1)) = true ∨ decide (T1 > T2 ∨ (T1 = T2 ∧ L1 ≥ L2)) = true) := by
  rw [decide_eq_true_eq, decide_eq_true_eq]; omega

theorem RlogNewer_spec {a c : Sl} {sa sb : List Sy} {u v : UInt8} (ha : Rows H a 6 (sa.map Sy.cells).flatten) (hla : sa.length = a.len) (hc : Rows H c 6 (sb.map Sy.cells).flatten) (hlc : sb.length = c.len) :
    SCalls Try.prog tephralaw13_RlogNewer.id [.slice a.a a.len a.cap, .slice c.a c.len c.cap, .int .u8 (u.toNat : Int), .int .u8 (v.toNat : Int)] H (trueQ H) := by
  apply tephralaw13_RlogNewer.calls
  unfold tephralaw13_RlogNewer.vc
  refine awake_step (H0 := H) (Mod.refl _ _) fun H1 m1 => some_step (c := 0) (d := u) ha hla m1 fun y H2 m2 hE => some_step (c := 0) (d := v) hc hlc m2 fun w H3 m3 hF => ?_
  have s1 := sm_some sa 0 u
  have s2 := sm_some sb 0 v
  have e1 : Lr H2 y _ := hE.lr
  have f1 : Lr H3 w _ := hF.lr
  have e2 := e1.mod hF.mod
  rw [show ((UInt8.toNat 0 % 20 : Nat) : Int) = 0 from rfl] at *
  generalize ents (sa.take 80) (0 + 1) ((u.toNat % 5 : Nat) : Int) = es at *
  generalize ents (sb.take 80) (0 + 1) ((v.toNat % 5 : Nat) : Int) = fs at *
  generalize ((u.toNat % 5 : Nat) : Int) = t at *
  generalize ((v.toNat % 5 : Nat) : Int) = q at *
  have n0 : nice 0 := by unfold nice; omega
  have l1 := s1.len
  have l2 := s2.len
  have hy := e2.len
  have hw := f1.len
  have ny : nice (0 + (y.len : Int)) := by unfold nice; omega
  have nw : nice (0 + (w.len : Int)) := by unfold nice; omega
  have LA : ∀ {H' : Hp}, SCalls Try.prog rlog_Log_Last.id [lgv 0 t y] H' (TellPost H' (.int .i64 (0 + (y.len : Int)))) := Last_spec n0 (by omega)
  have LB : ∀ {H' : Hp}, SCalls Try.prog rlog_Log_Last.id [lgv 0 q w] H' (TellPost H' (.int .i64 (0 + (w.len : Int)))) := Last_spec n0 (by omega)
  have TA : ∀ {H' : Hp}, Mod (fun _ => False) H3 H' → SCalls Try.prog rlog_Log_LastTerm.id [lgv 0 t y] H' (TellPost H' (.int .i64 (lastTerm 0 t es))) := fun m => LastTerm_spec n0 (by omega) ny (e2.mod m)
  have TB : ∀ {H' : Hp}, Mod (fun _ => False) H3 H' → SCalls Try.prog rlog_Log_LastTerm.id [lgv 0 q w] H' (TellPost H' (.int .i64 (lastTerm 0 q fs))) := fun m => LastTerm_spec n0 (by omega) nw (f1.mod m)
  refine int_step LB (Mod.holes (fun _ => False) H3 2) fun H4 m4 => int_step (TB m4) m4 fun H5 m5 => bool_step (Newer_spec n0 (by omega) ny (e2.mod m5)) m5 fun H6 m6 =>
    int_step LA m6 fun H7 m7 => int_step (TA m7) m7 fun H8 m8 => bool_step (Newer_spec n0 (by omega) nw (f1.mod m8)) m8 fun H9 m9 => ?_
  have hp : newer 0 t es (0 + (w.len : Int)) (lastTerm 0 q fs) = decide (lastTerm 0 q fs > lastTerm 0 t es ∨ (lastTerm 0 q fs = lastTerm 0 t es ∧ w.len ≥ y.len)) := by
    unfold newer; apply decide_eq_decide.2; omega
  have hq : newer 0 q fs (0 + (y.len : Int)) (lastTerm 0 t es) = decide (lastTerm 0 t es > lastTerm 0 q fs ∨ (lastTerm 0 t es = lastTerm 0 q fs ∧ y.len ≥ w.len)) := by
    unfold newer; apply decide_eq_decide.2; omega
  have fin : ∀ {v : Bool} {H' : Hp}, v = true → Mod (fun _ => False) H3 H' → trueQ H (.bool v) H' := fun h m => ⟨congrArg Value.bool h, m3.trans m⟩
  rw [hp, hq]
  by_cases c1 : lastTerm 0 q fs > lastTerm 0 t es ∨ (lastTerm 0 q fs = lastTerm 0 t es ∧ w.len ≥ y.len)
  · rw [decide_eq_true c1]
    refine Br.yes rfl (Br.yes rfl (int_step LA m9 fun H10 m10 => int_step LB m10 fun H11 m11 => Br.mk (fun h => ?_) (fun h => fin ?_ m11)))
    · have h' : (0 + (y.len : Int)) = 0 + (w.len : Int) := beq_iff_eq.1 h
      refine int_step (TA m11) m11 fun H12 m12 => int_step (TB m12) m12 fun H13 m13 => fin ?_ m13
      rw [beq_int]
      by_cases c2 : lastTerm 0 t es = lastTerm 0 q fs
      · rw [decide_eq_true c2, decide_eq_true (by omega)]; rfl
      · rw [decide_eq_false c2, decide_eq_false (by omega)]; rfl
    · have h' : (0 + (y.len : Int)) ≠ 0 + (w.len : Int) := beq_eq_false_iff_ne.1 h
      rw [decide_eq_false (by omega)]; rfl
  · rw [decide_eq_false c1, decide_eq_true (by omega)]
    refine Br.no rfl (Br.yes rfl (Br.no rfl (int_step LA m9 fun H10 m10 => int_step LB m10 fun H11 m11 => Br.mk (fun h => ?_) (fun h => fin rfl m11))))
    have h' : (0 + (y.len : Int)) = 0 + (w.len : Int) := beq_iff_eq.1 h
    refine int_step (TA m11) m11 fun H12 m12 => int_step (TB m12) m12 fun H13 m13 => fin ?_ m13
    rw [beq_int, decide_eq_false (by omega)]; rfl
end
end Go.Proofs
