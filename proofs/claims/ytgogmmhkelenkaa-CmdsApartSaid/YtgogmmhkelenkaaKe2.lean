/- ENTRIES, part 2: May, Right, Row, Say.Cmd, Entries: the walks. -/
import Derived.Test.YtgogmmhkelenkaaT06
import Derived.Test.YtgogmmhkelenkaaKe1
set_option linter.all false
set_option linter.constructorNameAsVariable false
namespace Go.Proofs
open Go Go.KC

section
variable {H : Hp}
theorem cmds_May_spec {c : Cm} : SCalls Try.prog cmds_May.id [c.val] H (TellPost H (.bool (decide c.May))) := by
  apply cmds_May.calls
  have m0 : Mod (fun _ => False) H (holes H 1) := Mod.holes _ _ _
  have fin : ∀ {v : Bool} {H'}, H' = holes H 1 → v = decide c.May → TellPost H (.bool (decide c.May)) (.bool v) H' := by
    rintro v H' rfl rfl; exact ⟨rfl, m0⟩
  have no : ¬ c.May → false = decide c.May := fun h => (decide_eq_false h).symm
  have iff : ∀ {p : Prop} [Decidable p], (p ↔ c.May) → decide p = decide c.May := fun h => by simp [h]
  have k3t : ¬ c.May → cmds_May.k3 J0 c.op c.client c.seq c.key c.value c.old H true (TellPost H (.bool (decide c.May))) := fun h => by
    apply cmds_May.k3.step
    unfold cmds_May.k3.body
    exact Br.yes rfl (fin rfl (no h))
  have k7 : ∀ b : Bool, (b = true → (decide (c.key.size ≤ 8) = decide c.May)) → (b = false → ¬ c.May) → cmds_May.k7 J0 c.op c.client c.seq c.key c.value c.old H b (TellPost H (.bool (decide c.May))) := by
    intro b h1 h2
    apply cmds_May.k7.step
    unfold cmds_May.k7.body
    refine Br.mk (fun e => fin rfl ?_) (fun e => fin rfl (no (h2 e)))
    rw [← h1 e]
    apply decide_eq_decide.2; omega
  by_cases a1 : c.op < 0
  · refine Br.yes (decide_eq_true a1) ?_
    apply cmds_May.k1.step; unfold cmds_May.k1.body
    refine Br.yes rfl ?_
    apply cmds_May.k2.step; unfold cmds_May.k2.body
    exact Br.yes rfl (k3t fun h => by have := h.1; omega)
  refine Br.no (decide_eq_false a1) ?_
  apply cmds_May.k1.step; unfold cmds_May.k1.body
  by_cases a2 : c.op ≥ 4
  · refine Br.yes (decide_eq_true a2) ?_
    apply cmds_May.k2.step; unfold cmds_May.k2.body
    exact Br.yes rfl (k3t fun h => by have := h.2.1; omega)
  refine Br.no (decide_eq_false a2) ?_
  apply cmds_May.k2.step; unfold cmds_May.k2.body
  by_cases a3 : ((c.value.size : Nat) : Int) > 16
  · exact Br.yes (decide_eq_true a3) (k3t fun h => by have := h.2.2.1; omega)
  refine Br.no (decide_eq_false a3) ?_
  by_cases a4 : ((c.old.size : Nat) : Int) > 16
  · rw [decide_eq_true a4]; exact k3t fun h => by have := h.2.2.2.1; omega
  rw [decide_eq_false a4]
  apply cmds_May.k3.step; unfold cmds_May.k3.body
  refine Br.no rfl ?_
  by_cases a5 : c.op = 0
  · refine Br.yes (beq_iff_eq.2 a5) (fin rfl ?_)
    rw [beq_nil, beq_nil, beq_nil]
    have e : ∀ a b : Int, (a == b) = decide (a = b) := fun a b => by by_cases h : a = b <;> simp [h]
    rw [e, e, e, Bool.and_true]
    simp only [← Bool.decide_and]
    apply iff
    unfold Cm.May
    constructor
    · rintro ⟨h1, h2, h3, h4, h5, h6⟩; exact ⟨by omega, by omega, by omega, by omega, Or.inl ⟨h1, h2, h3, h4, h5, h6⟩⟩
    · rintro ⟨_, _, _, _, h | h⟩
      · exact h
      · exact absurd a5 h.1
  refine Br.no (beq_eq_false_iff_ne.2 a5) ?_
  have notMay : ¬ (0 ≤ c.client ∧ c.client ≤ 3 ∧ 0 ≤ c.seq ∧ c.seq ≤ 1048576 ∧ 0 < c.key.size) → ¬ c.May := by
    rintro h ⟨_, _, _, _, h' | h'⟩
    · exact a5 h'.1
    · exact h ⟨h'.2.1, h'.2.2.1, h'.2.2.2.1, h'.2.2.2.2.1, h'.2.2.2.2.2.1⟩
  have k6f : ¬ (0 ≤ c.client ∧ c.client ≤ 3 ∧ 0 ≤ c.seq ∧ c.seq ≤ 1048576 ∧ 0 < c.key.size) → cmds_May.k6 J0 c.op c.client c.seq c.key c.value c.old H false (TellPost H (.bool (decide c.May))) := by
    intro h
    apply cmds_May.k6.step; unfold cmds_May.k6.body
    exact Br.no rfl (k7 false (fun e => nomatch e) fun _ => notMay h)
  have k5f : ¬ (0 ≤ c.client ∧ c.client ≤ 3 ∧ 0 ≤ c.seq ∧ c.seq ≤ 1048576 ∧ 0 < c.key.size) → cmds_May.k5 J0 c.op c.client c.seq c.key c.value c.old H false (TellPost H (.bool (decide c.May))) := by
    intro h
    apply cmds_May.k5.step; unfold cmds_May.k5.body
    exact Br.no rfl (k6f h)
  have k4f : ¬ (0 ≤ c.client ∧ c.client ≤ 3 ∧ 0 ≤ c.seq ∧ c.seq ≤ 1048576 ∧ 0 < c.key.size) → cmds_May.k4 J0 c.op c.client c.seq c.key c.value c.old H false (TellPost H (.bool (decide c.May))) := by
    intro h
    apply cmds_May.k4.step; unfold cmds_May.k4.body
    exact Br.no rfl (k5f h)
  by_cases a6 : c.client ≥ 0
  · refine Br.yes (decide_eq_true a6) ?_
    by_cases a7 : c.client < 4
    · rw [decide_eq_true a7]
      apply cmds_May.k4.step; unfold cmds_May.k4.body
      refine Br.yes rfl ?_
      by_cases a8 : c.seq ≥ 0
      · rw [decide_eq_true a8]
        apply cmds_May.k5.step; unfold cmds_May.k5.body
        refine Br.yes rfl ?_
        by_cases a9 : c.seq ≤ 1048576
        · rw [decide_eq_true a9]
          apply cmds_May.k6.step; unfold cmds_May.k6.body
          refine Br.yes rfl ?_
          rw [beqL_nil]
          refine k7 _ (fun h => iff ?_) (fun h => notMay ?_)
          · have h' : c.key.size ≠ 0 := by simpa using h
            unfold Cm.May
            constructor
            · intro h8; exact ⟨by omega, by omega, by omega, by omega, Or.inr ⟨a5, a6, by omega, a8, a9, by omega, h8⟩⟩
            · rintro ⟨_, _, _, _, h8 | h8⟩
              · exact absurd h8.1 a5
              · exact h8.2.2.2.2.2.2
          · have h' : c.key.size = 0 := by simpa using h
            omega
        · rw [decide_eq_false a9]; exact k6f (by omega)
      · rw [decide_eq_false a8]; exact k5f (by omega)
    · rw [decide_eq_false a7]; exact k4f (by omega)
  · exact Br.no (decide_eq_false a6) (k4f (by omega))

theorem cmds_Right_spec {e : En} : SCalls Try.prog cmds_Right.id [e.val] H (TellPost H (.bool (decide e.Right))) := by
  apply cmds_Right.calls
  have m0 : Mod (fun _ => False) H (holes H 1) := Mod.holes _ _ _
  have k3f : ¬ (1 ≤ e.index ∧ e.index ≤ 1048576 ∧ 0 ≤ e.term ∧ e.term ≤ 1048576) → cmds_Right.k3 J0 e.index e.term e.cmd.op e.cmd.client e.cmd.seq e.cmd.key e.cmd.value e.cmd.old H false (TellPost H (.bool (decide e.Right))) := by
    intro h
    apply cmds_Right.k3.step; unfold cmds_Right.k3.body
    exact Br.no rfl ⟨congrArg Value.bool (decide_eq_false fun h' => h ⟨h'.1, h'.2.1, h'.2.2.1, h'.2.2.2.1⟩).symm, m0⟩
  have k2f : ¬ (1 ≤ e.index ∧ e.index ≤ 1048576 ∧ 0 ≤ e.term ∧ e.term ≤ 1048576) → cmds_Right.k2 J0 e.index e.term e.cmd.op e.cmd.client e.cmd.seq e.cmd.key e.cmd.value e.cmd.old H false (TellPost H (.bool (decide e.Right))) := by
    intro h
    apply cmds_Right.k2.step; unfold cmds_Right.k2.body
    exact Br.no rfl (k3f h)
  have k1f : ¬ (1 ≤ e.index ∧ e.index ≤ 1048576 ∧ 0 ≤ e.term ∧ e.term ≤ 1048576) → cmds_Right.k1 J0 e.index e.term e.cmd.op e.cmd.client e.cmd.seq e.cmd.key e.cmd.value e.cmd.old H false (TellPost H (.bool (decide e.Right))) := by
    intro h
    apply cmds_Right.k1.step; unfold cmds_Right.k1.body
    exact Br.no rfl (k2f h)
  by_cases a1 : e.index ≥ 1
  · refine Br.yes (decide_eq_true a1) ?_
    by_cases a2 : e.index ≤ 1048576
    · rw [decide_eq_true a2]
      apply cmds_Right.k1.step; unfold cmds_Right.k1.body
      refine Br.yes rfl ?_
      by_cases a3 : e.term ≥ 0
      · rw [decide_eq_true a3]
        apply cmds_Right.k2.step; unfold cmds_Right.k2.body
        refine Br.yes rfl ?_
        by_cases a4 : e.term ≤ 1048576
        · rw [decide_eq_true a4]
          apply cmds_Right.k3.step; unfold cmds_Right.k3.body
          refine Br.yes rfl ((cmds_May_spec (c := e.cmd)).mono ?_)
          rintro r H1 ⟨rfl, m1⟩
          refine ⟨_, rfl, congrArg Value.bool (decide_eq_decide.2 ?_), m0.trans m1⟩
          exact ⟨fun h => ⟨a1, a2, a3, a4, h⟩, fun h => h.2.2.2.2⟩
        · rw [decide_eq_false a4]; exact k3f (by omega)
      · rw [decide_eq_false a3]; exact k2f (by omega)
    · rw [decide_eq_false a2]; exact k1f (by omega)
  · exact Br.no (decide_eq_false a1) (k1f (by omega))

theorem Say_Cmd_spec {s : Sy} : SCalls Try.prog tephralaw06_Say_Cmd.id [s.val] H (TellPost H s.cmd.val) := by
  apply tephralaw06_Say_Cmd.calls
  have m0 : Mod (fun _ => False) H (holes H 3) := Mod.holes _ _ _
  have t4 := tmodN s.op 4
  have tc := tmodN s.client 4
  have ts := tmodN s.seq 40
  have tk := tmodN s.key 8
  have tv := tmodN s.value 10
  have tv2 := tmodN s.value 2
  have to := tmodN s.old 10
  have to2 := tmodN s.old 2
  have w : ∀ n : Nat, n < 100 → IntKind.u8.wrap ((n : Int) + 1) = ((n + 1 : Nat) : Int) := fun n h => by rw [wrapu8]; omega
  have w6 : ∀ n : Nat, n < 100 → w64 ((n : Nat) : Int) = (n : Int) := fun n h => w64_id (by omega) (by omega)
  have e8 : letters.size = 8 := rfl
  have e10 : digits.size = 10 := rfl
  have e1 : (ByteArray.mk #[107]).size = 1 := rfl
  have e2 : (ByteArray.mk #[118]).size = 1 := rfl
  have hk1 := keyOf_size s.key
  have hv1 := txt_size s.value
  have ho1 := txt_size s.old
  unfold keyOf at hk1
  unfold txt at hv1 ho1
  rw [ByteArray.size_append] at hk1 hv1 ho1
  unfold tephralaw06_Say_Cmd.vc
  simp only [show (4 : Int) = ((4 : Nat) : Int) from rfl, show (40 : Int) = ((40 : Nat) : Int) from rfl, show (8 : Int) = ((8 : Nat) : Int) from rfl, show (10 : Int) = ((10 : Nat) : Int) from rfl, show (2 : Int) = ((2 : Nat) : Int) from rfl]
  rw [t4, tk, tv, tv2]
  rw [w (s.key.toNat % 8) (by omega), w (s.value.toNat % 10) (by omega), w6 (s.op.toNat % 4) (by omega)]
  refine ⟨by omega, by omega, by omega, by omega, by omega, ⟨by omega, ?_⟩, ⟨by omega, by omega⟩, ?_, by omega, ⟨by omega, ?_⟩, by omega, by omega, ⟨by omega, ?_⟩, ⟨by omega, by omega⟩, ?_, ?_⟩
  · show _ ≤ ((letters.size : Nat) : Int); omega
  · show (ByteArray.mk #[107]).size + (letters.extract _ _).size ≤ _; simp only [Int.toNat_natCast]; omega
  · rw [e2]; omega
  · show _ ≤ ((digits.size : Nat) : Int); omega
  · show _ + (digits.extract _ _).size ≤ _; simp only [Int.toNat_natCast]; omega
  · have k1 : ∀ y : ByteArray, (y = if s.op.toNat % 4 = 2 then ByteArray.mk #[] else txt s.value) → s.op.toNat % 4 ≠ 0 →
        tephralaw06_Say_Cmd.k1 J0 (s.op.toNat : Int) (s.client.toNat : Int) (s.seq.toNat : Int) (s.key.toNat : Int) (s.value.toNat : Int) (s.old.toNat : Int) H y (TellPost H s.cmd.val) := by
      intro y hy h0
      apply tephralaw06_Say_Cmd.k1.step; unfold tephralaw06_Say_Cmd.k1.body
      simp only [show (4 : Int) = ((4 : Nat) : Int) from rfl, show (40 : Int) = ((40 : Nat) : Int) from rfl, show (8 : Int) = ((8 : Nat) : Int) from rfl, show (10 : Int) = ((10 : Nat) : Int) from rfl, show (2 : Int) = ((2 : Nat) : Int) from rfl]
      rw [t4, tc, ts, tk, to, to2]
      rw [w (s.key.toNat % 8) (by omega), w (s.old.toNat % 10) (by omega), w6 (s.op.toNat % 4) (by omega), w6 (s.client.toNat % 4) (by omega), w6 (s.seq.toNat % 40) (by omega)]
      simp only [Int.toNat_natCast]
      refine Br.mk (fun h => ⟨by omega, ⟨by omega, by rw [e2]; omega⟩, by omega, by omega, ⟨by omega, by show _ ≤ ((digits.size : Nat) : Int); omega⟩, ⟨by omega, by omega⟩, by show _ + (digits.extract _ _).size ≤ _; omega, ?_⟩) (fun h => ?_)
      · have h3 : s.op.toNat % 4 = 3 := by have := beq_iff_eq.1 h; omega
        refine ⟨?_, m0⟩
        rw [hy]
        unfold Sy.cmd
        rw [if_neg h0, if_pos h3]
        rfl
      · have h3 : s.op.toNat % 4 ≠ 3 := fun e => by have := beq_eq_false_iff_ne.1 h; omega
        refine ⟨?_, m0⟩
        rw [hy]
        unfold Sy.cmd
        rw [if_neg h0, if_neg h3]
        rfl
    refine Br.mk (fun h => ?_) (fun h => ?_)
    · have h0 : s.op.toNat % 4 = 0 := by have := beq_iff_eq.1 h; omega
      refine ⟨?_, m0⟩
      unfold Sy.cmd
      rw [if_pos h0]
      rfl
    · have h0 : s.op.toNat % 4 ≠ 0 := fun e => by have := beq_eq_false_iff_ne.1 h; omega
      refine Br.mk (fun h => ?_) (fun h => ?_)
      · have h2 : s.op.toNat % 4 = 2 := by have := beq_iff_eq.1 h; omega
        exact k1 _ (by rw [if_pos h2]) h0
      · have h2 : s.op.toNat % 4 ≠ 2 := fun e => by have := beq_eq_false_iff_ne.1 h; omega
        refine k1 _ ?_ h0
        rw [if_neg h2]
        simp only [Int.toNat_natCast]
        rfl

theorem Row_loop {H0 : Hp} {x : Sl} {es : List En} {n : Int} (hr : Rows H0 x 8 (es.map En.cells).flatten) (hl : es.length = x.len) (hx : x.len ≤ 9223372036854775807) :
    ∀ (d j : Nat) (H : Hp), j + d = x.len → Mod (fun _ => False) H0 H → (∀ i (hi : i < es.length), i < j → es[i].Right ∧ es[i].index = w64 (n + (i : Int)) ∧ ∀ h0 : 0 < i, (es[i - 1]'(by omega)).term ≤ es[i].term) →
      cmds_Row.l1 J0 x n H (j : Int) (TellPost H0 (.bool (decide (RowsOf es n)))) := by
  intro d
  induction d with
  | zero =>
    intro j H hj hm hp
    apply cmds_Row.l1.step
    unfold cmds_Row.l1.body
    refine Br.no (by simp; omega) ⟨?_, hm⟩
    rw [decide_eq_true (show RowsOf es n from fun i hi => hp i hi (by omega))]
  | succ d ih =>
    intro j H hj hm hp
    apply cmds_Row.l1.step
    unfold cmds_Row.l1.body
    have hjl : j < es.length := by omega
    have hrH : Rows H x 8 (es.map En.cells).flatten := hr.keep hm fun _ _ e => e
    obtain ⟨a, ha, hrow⟩ := row_get (k := 8) (f := En.cells) (by omega) (fun _ => rfl) hrH hjl
    refine Br.yes (by simp; omega) ⟨⟨by omega, by omega⟩, vPtr.mk a ha ⟨_, _, _, _, _, _, _, _, by simpa [En.cells] using hrow, (cmds_Right_spec (e := es[j])).mono ?_⟩⟩
    rintro r H1 ⟨rfl, m1⟩
    have m1' : Mod (fun _ => False) H0 H1 := hm.trans ((Mod.holes (fun _ => False) H 1).trans m1)
    refine ⟨_, rfl, ?_⟩
    by_cases h1 : es[j].Right
    · rw [decide_eq_true h1]
      refine Br.no rfl ?_
      by_cases h2 : es[j].index = w64 (n + (j : Int))
      · refine Br.no (by simp [h2]) ?_
        have next : (∀ h0 : 0 < j, (es[j - 1]'(by omega)).term ≤ es[j].term) → cmds_Row.l1 J0 x n H1 (w64 ((j : Int) + 1)) (TellPost H0 (.bool (decide (RowsOf es n)))) := by
          intro h3
          rw [w64_id (x := (j : Int) + 1) (by omega) (by omega)]
          have := ih (j + 1) H1 (by omega) m1' (fun i hi hij => by
            by_cases hc : i < j
            · exact hp i hi hc
            · obtain rfl : i = j := by omega
              exact ⟨h1, h2, h3⟩)
          simpa using this
        by_cases h0 : 0 < j
        · refine Br.yes (by simp; omega) ?_
          rw [w64_id (x := (j : Int) - 1) (by omega) (by omega)]
          refine ⟨⟨by omega, by omega⟩, ?_⟩
          have hrH1 : Rows H1 x 8 (es.map En.cells).flatten := hr.keep m1' fun _ _ e => e
          obtain ⟨a1, ha1, hrow1⟩ := row_get (k := 8) (f := En.cells) (by omega) (fun _ => rfl) hrH1 (show j - 1 < es.length by omega)
          refine vPtr.mk a1 ha1 ⟨(es[j - 1]'(by omega)).term, ?_, ?_⟩
          · have := hrow1 1 (.int .i64 (es[j - 1]'(by omega)).term) rfl
            have e : ((j : Int) - 1).toNat = j - 1 := by omega
            rw [e]; exact this
          · by_cases h3 : es[j].term < (es[j - 1]'(by omega)).term
            · refine Br.yes (decide_eq_true h3) ⟨?_, m1'⟩
              rw [decide_eq_false fun hR : RowsOf es n => by have := (hR j hjl).2.2 h0; omega]
            · exact Br.no (decide_eq_false h3) (next fun _ => by omega)
        · exact Br.no (by simp; omega) (next fun h => absurd h h0)
      · refine Br.yes (by simpa using h2) ⟨?_, m1'⟩
        rw [decide_eq_false fun hR : RowsOf es n => h2 (hR j hjl).2.1]
    · rw [decide_eq_false h1]
      refine Br.yes rfl ⟨?_, m1'⟩
      rw [decide_eq_false fun hR : RowsOf es n => h1 (hR j hjl).1]

theorem Row_spec {x : Sl} {es : List En} {n : Int} (hr : Rows H x 8 (es.map En.cells).flatten) (hl : es.length = x.len) (hx : x.len ≤ 9223372036854775807) :
    SCalls Try.prog cmds_Row.id [.slice x.a x.len x.cap, .int .i64 n] H (TellPost H (.bool (decide (RowsOf es n)))) := by
  apply cmds_Row.calls
  exact Row_loop hr hl hx x.len 0 H (by omega) (Mod.refl _ _) (fun i _ h => absurd h (by omega))

theorem und_ents : Try.prog.underlying T_sl_api_Entry = some (.slice T_api_Entry) := by kernel_rfl

theorem inf_en : (Try.prog.info? T_api_Entry).map (fun i => (i.zero, i.size, i.bytes)) = some (some En.zero.val, 8, 88) := by kernel_rfl

theorem en_info : ∃ ti, Try.prog.info? T_api_Entry = some ti ∧ ti.zero = some En.zero.val ∧ ti.size = 8 ∧ ti.bytes = 88 := by
  have h := inf_en
  cases hi : Try.prog.info? T_api_Entry with
  | none => rw [hi] at h; simp at h
  | some ti => rw [hi] at h; simp at h; exact ⟨ti, rfl, h.1, h.2.1, h.2.2⟩

/-- An entry is laid behind entries. -/
theorem ents_app {H H1 : Hp} {x : Sl} {es : List En} {e : En} {K : Sl → Hp → Prop} (h : Own H x T_api_Entry 8 (es.map En.cells).flatten) (hm : Mod (fun _ => False) H H1) (hl : x.len ≤ 1000000)
    (hK : ∀ x' H', Own H' x' T_api_Entry 8 ((es ++ [e]).map En.cells).flatten → x'.len = x.len + 1 → Mod (· ∈ x.blk) H H' → (∀ b ∈ x'.blk, b ∈ x.blk ∨ H.size ≤ b) → K x' H') :
    vApp Try.prog T_sl_api_Entry x.a x.len x.cap (.slice (some (Addr.mk (Array.size H1) 0 none)) 1 1) (Array.push H1 (.cells e.cells.toArray T_api_Entry)) K := by
  obtain ⟨ti, hi, hz, hsz, hby⟩ := en_info
  have m1 : Mod (fun _ => False) H (Array.push H1 (.cells e.cells.toArray T_api_Entry)) := hm.trans (Mod.push _ _ _)
  have h' := h.keep m1 (fun _ _ e => e)
  refine Own.app (e := T_api_Entry) (ti := ti) (z := En.zero.val) (cs := (es.map En.cells).flatten) (news := e.cells) (by rw [hsz]; exact h') und_ents hi hz (by rw [hsz]; rfl) (by omega) (by rw [hsz]; exact cells_src _ 8 rfl) (by rw [hsz]; rfl) (by have := allOne_ents [e]; simpa using this) (by simp only [srcLen]; rw [hby]; omega) ?_
  intro x' H2 ho hxl hmod hblk _
  rw [hsz] at ho
  refine hK x' H2 (by rw [List.map_append, List.flatten_append]; simpa using ho) hxl ((m1.mono fun _ _ e => e.elim).trans hmod) fun b hb => (hblk b hb).imp id fun h => by have := m1.size; omega

theorem Entries_loop {H0 : Hp} {says : Sl} {ss : List Sy} {n : Int} (hr : Rows H0 says 6 (ss.map Sy.cells).flatten) (hl : ss.length = says.len) {Q : Value → Hp → Prop} {L : List En}
    (hQ : ∀ (x : Sl) H', Own H' x T_api_Entry 8 (L.map En.cells).flatten → x.len = L.length → Fresh H0 H' → (∀ g ∈ x.blk, H0.size ≤ g) → Q (.slice x.a x.len x.cap) H') :
    ∀ (d j : Nat) (H : Hp) (t : Int) (out : Sl) (pre : List En), j + d = min 80 says.len → Fresh H0 H → Own H out T_api_Entry 8 (pre.map En.cells).flatten → out.len = pre.length → pre.length = j → (∀ g ∈ out.blk, H0.size ≤ g) →
      pre ++ entsGo n ((ss.take (min 80 says.len)).drop j) j t = L → tephralaw06_Entries.l1 J0 says n H t out (j : Int) Q := by
  have e : (if (80 : Int) < ((says.len : Nat) : Int) then (80 : Int) else ((says.len : Nat) : Int)).toNat = min 80 says.len := min_toNat 80 says.len
  intro d
  induction d with
  | zero =>
    intro j H t out pre hj hf ho hol hpl hb hL
    apply tephralaw06_Entries.l1.step
    unfold tephralaw06_Entries.l1.body
    rw [e]
    rw [List.drop_eq_nil_of_le (by simp; omega)] at hL
    rw [show entsGo n [] j t = [] from rfl, List.append_nil] at hL
    subst hL
    exact Br.no (by simp; omega) (hQ out H ho hol hf hb)
  | succ d ih =>
    intro j H t out pre hj hf ho hol hpl hb hL
    apply tephralaw06_Entries.l1.step
    unfold tephralaw06_Entries.l1.body
    rw [e]
    have hjl : j < ss.length := by omega
    obtain ⟨a, ha, hrow⟩ := row_get (k := 6) (f := Sy.cells) (by omega) (fun _ => rfl) (hf.rows hr) hjl
    have hdrop : (ss.take (min 80 says.len)).drop j = ss[j] :: (ss.take (min 80 says.len)).drop (j + 1) := by
      rw [List.drop_eq_getElem_cons (by simp; omega)]; simp
    rw [hdrop] at hL
    have hL' : pre ++ (⟨w64 (n + (j : Int)), upT ss[j] t, ss[j].cmd⟩ :: entsGo n ((ss.take (min 80 says.len)).drop (j + 1)) (j + 1) (upT ss[j] t)) = L := hL
    have k1 : tephralaw06_Entries.k1 J0 says n H out (j : Int) (ss[j].op.toNat : Int) (ss[j].client.toNat : Int) (ss[j].seq.toNat : Int) (ss[j].key.toNat : Int) (ss[j].value.toNat : Int) (ss[j].old.toNat : Int) (upT ss[j] t) Q := by
      apply tephralaw06_Entries.k1.step
      unfold tephralaw06_Entries.k1.body
      refine (Say_Cmd_spec (s := ss[j])).mono ?_
      rintro r H2 ⟨rfl, m2⟩
      refine ⟨_, _, _, _, _, _, rfl, ?_⟩
      have m2' : Mod (fun _ => False) H H2 := (Mod.holes _ _ _).trans m2
      refine ents_app (e := ⟨w64 (n + (j : Int)), upT ss[j] t, ss[j].cmd⟩) ho m2' (by omega) ?_
      intro x' H3 ho' hxl hm hblk
      rw [w64_id (x := (j : Int) + 1) (by omega) (by omega)]
      have := ih (j + 1) H3 (upT ss[j] t) x' (pre ++ [⟨w64 (n + (j : Int)), upT ss[j] t, ss[j].cmd⟩]) (by omega) (hf.step hm fun g hg => hb g hg) ho' (by simp; omega) (by simp; omega)
        (fun g hg => (hblk g hg).elim (hb g) fun h => Nat.le_trans hf.size h) (by rw [List.append_assoc]; exact hL')
      simpa using this
    refine Br.yes (by simp; omega) ⟨⟨by omega, by omega⟩, vPtr.mk a (by rw [cutA_zero]; exact ha) ⟨_, _, _, _, _, _, by simpa [Sy.cells] using hrow, Br.mk (fun h => ?_) (fun h => ?_)⟩⟩
    · have h' := of_decide_eq_true h
      have eu : upT ss[j] t = w64 (t + 1) := by unfold upT; rw [if_pos (by omega)]
      rw [← eu]; exact k1
    · have h' := of_decide_eq_false h
      have eu : upT ss[j] t = t := by unfold upT; rw [if_neg (by omega)]
      rw [eu] at k1; exact k1

theorem Entries_spec {says : Sl} {ss : List Sy} {n t : Int} (hr : Rows H says 6 (ss.map Sy.cells).flatten) (hl : ss.length = says.len) :
    SCalls Try.prog tephralaw06_Entries.id [.slice says.a says.len says.cap, .int .i64 n, .int .i64 t] H fun r H' => ∃ x : Sl, r = .slice x.a x.len x.cap ∧ Own H' x T_api_Entry 8 ((ents (ss.take 80) n t).map En.cells).flatten ∧ x.len = (ents (ss.take 80) n t).length ∧ Fresh H H' ∧ ∀ g ∈ x.blk, H.size ≤ g := by
  apply tephralaw06_Entries.calls
  have hx := hr.2.1
  refine ⟨⟨by split <;> omega, by split <;> omega⟩, ?_⟩
  have e80 : ss.take (min 80 says.len) = ss.take 80 := by
    by_cases h : 80 ≤ says.len
    · rw [Nat.min_eq_left h]
    · rw [Nat.min_eq_right (by omega), List.take_of_length_le (by omega), List.take_of_length_le (by omega)]
  refine Entries_loop hr hl (L := ents (ss.take 80) n t) (fun x H' h1 h2 h3 h4 => ⟨x, rfl, h1, h2, h3, h4⟩) (min 80 says.len) 0 H t ⟨none, 0, 0⟩ [] (by omega) (Mod.refl _ _) (Own.nil _ _ _) rfl rfl (fun g hg => by simp [Sl.blk] at hg) ?_
  rw [e80]; rfl

theorem say_step {H0 : Hp} {s : Sy} {K : Int → Int → Int → ByteArray → ByteArray → ByteArray → Hp → Prop} (hf : Mod (fun _ => False) H0 H) (hK : ∀ H', Mod (fun _ => False) H0 H' → K s.cmd.op s.cmd.client s.cmd.seq s.cmd.key s.cmd.value s.cmd.old H') :
    SCalls Try.prog tephralaw06_Say_Cmd.id [s.val] H fun r H' => ∃ a : Int, ∃ b : Int, ∃ c : Int, ∃ d : ByteArray, ∃ e : ByteArray, ∃ f : ByteArray, r = .agg #[.int .i64 a, .int .i64 b, .int .i64 c, .string d, .string e, .string f] ∧ K a b c d e f H' := by
  refine Say_Cmd_spec.mono ?_
  rintro r H1 ⟨rfl, m1⟩
  exact ⟨_, _, _, _, _, _, rfl, hK H1 (hf.trans m1)⟩

theorem bool_step {H0 : Hp} {f : FuncId} {args : List Value} {b : Bool} {K : Bool → Hp → Prop} (h : SCalls Try.prog f args H (TellPost H (.bool b))) (hf : Mod (fun _ => False) H0 H) (hK : ∀ H', Mod (fun _ => False) H0 H' → K b H') :
    SCalls Try.prog f args H fun r H' => ∃ x : Bool, r = .bool x ∧ K x H' := by
  refine h.mono ?_
  rintro r H1 ⟨rfl, m1⟩
  exact ⟨b, rfl, hK H1 (hf.trans m1)⟩
end

end Go.Proofs
