/- LAYER 13: RlogAt. -/
import Derived.Test.YtdfakiaehkfhnaaKr5
set_option linter.all false
set_option linter.constructorNameAsVariable false
namespace Go.Proofs
open Go Go.KC

section
variable {H : Hp} {es : List En} {b t : Int}

theorem sl_tb_step {H0 : Hp} {f : FuncId} {args : List Value} {p : List En × Bool} {K : Sl → Bool → Hp → Prop} (h : SCalls Try.prog f args H fun r H' => ∃ y : Sl, r = .tuple #[.slice y.a y.len y.cap, .bool p.2] ∧ Lr H' y p.1 ∧ Mod (fun _ => False) H H') (hf : Mod (fun _ => False) H0 H)
    (hK : ∀ y H', Mod (fun _ => False) H H' → Mod (fun _ => False) H0 H' → Lr H' y p.1 → K y p.2 H') :
    SCalls Try.prog f args H fun r H' => ∃ y : Sl, ∃ v : Bool, r = .tuple #[.slice y.a y.len y.cap, .bool v] ∧ K y v H' := by
  refine h.mono ?_
  rintro r H1 ⟨y, rfl, hl, m1⟩
  exact ⟨y, _, rfl, hK y H1 m1 (hf.trans m1) hl⟩

theorem RlogAt_spec {says : Sl} {ss : List Sy} {u v : UInt8} {i q : Int} (hr : Rows H says 6 (ss.map Sy.cells).flatten) (hl : ss.length = says.len) (hi : -128 ≤ i ∧ i ≤ 127) (hq : -128 ≤ q ∧ q ≤ 127) :
    SCalls Try.prog tephralaw13_RlogAt.id [.slice says.a says.len says.cap, .int .u8 (u.toNat : Int), .int .u8 (v.toNat : Int), .int .i8 i, .int .i8 q] H (trueQ H) := by
  apply tephralaw13_RlogAt.calls
  unfold tephralaw13_RlogAt.vc
  rw [w64_id (x := i) (by omega) (by omega), w64_id (x := q) (by omega) (by omega)]
  refine awake_step (H0 := H) (Mod.refl _ _) fun H1 m1 => some_step hr hl m1 fun y H2 m2 hE => ?_
  have sm := sm_some ss u v
  have e2 : Lr H2 y _ := hE.lr
  generalize ents (ss.take 80) (((u.toNat % 20 : Nat) : Int) + 1) ((v.toNat % 5 : Nat) : Int) = es at *
  generalize ((u.toNat % 20 : Nat) : Int) = b at *
  generalize ((v.toNat % 5 : Nat) : Int) = t at *
  have hb := sm.hb
  have hlen := sm.len
  have hyl := e2.len
  have nb : nice b := by unfold nice; omega
  have ni : nice i := by unfold nice; omega
  have nl : nice (b + (y.len : Int)) := by unfold nice; omega
  have mh : Mod (fun _ => False) H2 (holes H2 1) := Mod.holes _ _ _
  have LA : ∀ {H' : Hp}, SCalls Try.prog rlog_Log_Last.id [lgv b t y] H' (TellPost H' (.int .i64 (b + (y.len : Int)))) := Last_spec nb (by omega)
  have ek : (after b es i q).2 = (termAt b t es i).2 := by
    unfold after
    by_cases c : i < b ∨ i > b + es.length
    · rw [if_pos c, termAt_out c]
    · rw [if_neg c]
      by_cases c1 : i = b
      · subst c1; rw [termAt_base]
      · obtain ⟨_, e⟩ := termAt_of (b := b) (t := t) (es := es) (i := i) (by omega) (by omega)
        rw [e]
  have elast : (termAt b t es (b + (y.len : Int))).1 = lastTerm b t es := by unfold lastTerm; rw [hyl]
  refine tb_step (H0 := H2) (TermAt_spec nb ni (by omega) (e2.mod mh)) mh fun H3 m3 => tb_step (H0 := H2) (term_spec nb (by omega) sm.Idx (e2.mod m3)) m3 fun H4 m4 =>
    sl_tb_step (H0 := H2) (After_spec (by omega) (by omega) (by omega) (e2.mod m4)) m4 fun z H5 _ m5 hz => ?_
  have e5 := e2.mod m5
  have fin : ∀ {v : Bool} {H' : Hp}, v = true → Mod (fun _ => False) H5 H' → trueQ H (.bool v) H' := fun h m => ⟨congrArg Value.bool h, m2.trans (m5.trans m)⟩
  refine int_step (H0 := H5) LA (Mod.refl _ _) fun H6 m6 => tb_step (H0 := H5) (term_spec nb (by omega) sm.Idx (e5.mod m6)) m6 fun H7 m7 => ?_
  rw [ek, elast]
  refine Br.no (by simp) (Br.no (by simp) (Br.no (by simp) (int_step (H0 := H5) LA m7 fun H8 m8 => ?_)))
  rw [w64_id (x := b + (y.len : Int)) (by omega) (by omega)]
  refine Br.no (by simp) (int_step (H0 := H5) (LastTerm_spec nb (by omega) nl (e5.mod m8)) m8 fun H9 m9 => ?_)
  rw [bne_self_eq_false]
  apply tephralaw13_RlogAt.k1.step; unfold tephralaw13_RlogAt.k1.body
  rw [w64_id (x := i) (by omega) (by omega), w64_id (x := q) (by omega) (by omega)]
  refine Br.no rfl ?_
  have hzl := hz.len
  cases hk : (termAt b t es i).2 with
  | false =>
    have : (after b es i q).1 = [] := by
      unfold after at ek ⊢
      by_cases c : i < b ∨ i > b + es.length
      · rw [if_pos c]
      · rw [if_neg c, hk] at ek; cases ek
    rw [this] at hzl
    refine Br.yes rfl (fin ?_ m9)
    simp at hzl ⊢; omega
  | true =>
    obtain ⟨k1, k2⟩ := termAt_known hk
    have ea : (after b es i q).1 = (es.drop (i - b).toNat).take (max 0 q).toNat := by
      unfold after; rw [if_neg (by omega)]
    rw [ea] at hz hzl
    rw [List.length_take, List.length_drop] at hzl
    refine Br.no rfl (int_step (H0 := H5) LA m9 fun H10 m10 => Br.no ?_ ?_)
    · rw [w64_id (x := b + (y.len : Int) - i) (by omega) (by omega), bne_eq_false_iff_eq]
      split <;> split <;> omega
    have loop : ∀ (d j : Nat) (H' : Hp), j + d = z.len → Mod (fun _ => False) H5 H' → tephralaw13_RlogAt.l1 J0 (v.toNat : Int) i b t y z (lastTerm b t es) H' (j : Int) (trueQ H) := by
      intro d
      induction d with
      | zero =>
        intro j H' hj m
        apply tephralaw13_RlogAt.l1.step; unfold tephralaw13_RlogAt.l1.body
        have t8 := tmodN v 8
        rw [show ((8 : Nat) : Int) = 8 from rfl] at t8
        rw [w64_id (x := i) (by omega) (by omega), t8, w64_id (x := ((v.toNat % 8 : Nat) : Int)) (by omega) (by omega)]
        refine Br.no (by simp; omega) ⟨by omega, bool_step (H0 := H5) (Newer_spec nb (by omega) nl (e5.mod m)) m fun H11 m11 => ⟨by omega, ?_⟩⟩
        have hn : newer b t es i ((v.toNat % 8 : Nat) : Int) = decide (((v.toNat % 8 : Nat) : Int) > lastTerm b t es ∨ (((v.toNat % 8 : Nat) : Int) = lastTerm b t es ∧ i ≥ b + (y.len : Int))) := by
          unfold newer; apply decide_eq_decide.2; omega
        rw [hn]
        by_cases c1 : ((v.toNat % 8 : Nat) : Int) > lastTerm b t es
        · refine Br.yes (decide_eq_true c1) ?_
          apply tephralaw13_RlogAt.k2.step; unfold tephralaw13_RlogAt.k2.body
          exact fin (by rw [decide_eq_true (Or.inl c1)]; rfl) m11
        refine Br.no (decide_eq_false c1) ⟨by omega, ?_⟩
        by_cases c2 : ((v.toNat % 8 : Nat) : Int) = lastTerm b t es
        · refine Br.yes (beq_iff_eq.2 c2) (int_step (H0 := H5) LA m11 fun H12 m12 => ?_)
          apply tephralaw13_RlogAt.k3.step; unfold tephralaw13_RlogAt.k3.body
          refine fin ?_ m12
          rw [beq_iff_eq]; apply decide_eq_decide.2; omega
        · refine Br.no (beq_eq_false_iff_ne.2 c2) ?_
          apply tephralaw13_RlogAt.k3.step; unfold tephralaw13_RlogAt.k3.body
          exact fin (by rw [decide_eq_false (by omega)]; rfl) m11
      | succ d ih =>
        intro j H' hj m
        apply tephralaw13_RlogAt.l1.step; unfold tephralaw13_RlogAt.l1.body
        rw [w64_id (x := i) (by omega) (by omega), w64_id (x := i - b) (by omega) (by omega), w64_id (x := i - b + (j : Int)) (by omega) (by omega)]
        have hj1 : j < ((es.drop (i - b).toNat).take (max 0 q).toNat).length := by rw [List.length_take, List.length_drop]; omega
        have hj2 : (i - b).toNat + j < es.length := by rw [List.length_take, List.length_drop] at hj1; omega
        obtain ⟨a1, ha1, hrow1⟩ := (hz.mod m).get hj1
        obtain ⟨a2, ha2, hrow2⟩ := (e5.mod (moreHoles m 1)).get hj2
        have heq : ((es.drop (i - b).toNat).take (max 0 q).toNat)[j] = es[(i - b).toNat + j] := by
          rw [List.getElem_take, List.getElem_drop]
        rw [heq] at hrow1
        have e3 : (i - b + (j : Int)).toNat = (i - b).toNat + j := by omega
        refine Br.yes (by simp; omega) ⟨⟨by omega, by omega⟩, vPtr.mk a1 ha1 ⟨_, _, _, _, _, _, _, _, by simpa [En.cells] using hrow1, ⟨by omega, by omega⟩, vPtr.mk a2 ha2 ⟨_, _, _, _, _, _, _, _, by rw [e3]; simpa [En.cells] using hrow2, ?_⟩⟩⟩
        have he := en_beq es[(i - b).toNat + j] es[(i - b).toNat + j]
        rw [decide_eq_true rfl] at he
        refine Br.no (congrArg not he) ?_
        rw [w64_id (x := (j : Int) + 1) (by omega) (by omega)]
        have := ih (j + 1) _ (by omega) (moreHoles m 1)
        simpa using this
    exact loop z.len 0 H10 (by omega) m10
end
end Go.Proofs
