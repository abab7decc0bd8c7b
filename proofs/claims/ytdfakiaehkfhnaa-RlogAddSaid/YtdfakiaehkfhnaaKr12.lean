/- LAYER 13: RlogAdd. -/
import Derived.Test.YtdfakiaehkfhnaaKr3
set_option linter.all false
set_option linter.constructorNameAsVariable false
namespace Go.Proofs
open Go Go.KC

section
variable {H0 H : Hp} {x z : Sl} {es new : List En} {b t : Int}

theorem int_step {f : FuncId} {args : List Value} {n : Int} {K : Int → Hp → Prop} (h : SCalls Try.prog f args H (TellPost H (.int .i64 n))) (hf : Mod (fun _ => False) H0 H) (hK : ∀ H', Mod (fun _ => False) H0 H' → K n H') :
    SCalls Try.prog f args H fun r H' => ∃ x : Int, r = .int .i64 x ∧ K x H' := by
  refine h.mono ?_
  rintro r H1 ⟨rfl, m1⟩
  exact ⟨n, rfl, hK H1 (hf.trans m1)⟩
theorem tb_step {f : FuncId} {args : List Value} {p : Int × Bool} {K : Int → Bool → Hp → Prop} (h : SCalls Try.prog f args H (TellPost H (tb p))) (hf : Mod (fun _ => False) H0 H) (hK : ∀ H', Mod (fun _ => False) H0 H' → K p.1 p.2 H') :
    SCalls Try.prog f args H fun r H' => ∃ x : Int, ∃ y : Bool, r = .tuple #[.int .i64 x, .bool y] ∧ K x y H' := by
  refine h.mono ?_
  rintro r H1 ⟨rfl, m1⟩
  exact ⟨p.1, p.2, rfl, hK H1 (hf.trans m1)⟩
theorem awake_step {Q : Value → Hp → Prop} {K : Hp → Prop} (m : Mod (fun _ => False) H0 H) (hK : ∀ H', Mod (fun _ => False) H0 H' → K H') :
    SCalls Try.prog tephralaw13_awake.id [] H fun r H1 => ∃ x : Bool, r = .bool x ∧ Br (!x) (Q (.bool false) H1) (K H1) := by
  refine awake13_spec.mono ?_
  rintro r H1 ⟨rfl, m1⟩
  exact ⟨_, rfl, Br.no rfl (hK H1 (m.trans m1))⟩

/-- A log that says make, and what is known of it. -/
structure Sm (b t : Int) (es : List En) : Prop where
  hb : 0 ≤ b ∧ b ≤ 19
  ht : 0 ≤ t ∧ t ≤ 4
  len : es.length ≤ 80
  row : RowsOf es (b + 1)
  low : ∀ j (hj : j < es.length), t ≤ es[j].term
theorem Sm.idx (h : Sm b t es) {j : Nat} (hj : j < es.length) : es[j].index = b + 1 + (j : Int) := by
  have h1 := h.hb; have h2 := h.len
  rw [(h.row j hj).2.1, w64_id (by omega) (by omega)]
theorem sm_some (ss : List Sy) (c d : UInt8) : Sm ((c.toNat % 20 : Nat) : Int) ((d.toNat % 5 : Nat) : Int) (ents (ss.take 80) (((c.toNat % 20 : Nat) : Int) + 1) ((d.toNat % 5 : Nat) : Int)) := by
  have hl : (ss.take 80).length ≤ 80 := by simp; omega
  refine ⟨by omega, by omega, by rw [ents_length]; exact hl, ents_row (by omega) (by omega) (by omega) (by omega), fun j hj => ?_⟩
  exact (entsGo_row (ss.take 80) 0 _ (by omega) (by omega) (by omega) (by omega) j hj).2.2.1

theorem some_step {says : Sl} {ss : List Sy} {c d : UInt8} {K : Int → Int → Sl → Hp → Prop} (hr : Rows H0 says 6 (ss.map Sy.cells).flatten) (hl : ss.length = says.len) (m : Mod (fun _ => False) H0 H)
    (hK : ∀ y H', Mod (fun _ => False) H0 H' → Eo H H' y (ents (ss.take 80) (((c.toNat % 20 : Nat) : Int) + 1) ((d.toNat % 5 : Nat) : Int)) → K ((c.toNat % 20 : Nat) : Int) ((d.toNat % 5 : Nat) : Int) y H') :
    SCalls Try.prog tephralaw13_Some.id [.slice says.a says.len says.cap, .int .u8 (c.toNat : Int), .int .u8 (d.toNat : Int)] H fun r H' => ∃ b : Int, ∃ t : Int, ∃ y : Sl, r = .agg #[.int .i64 b, .int .i64 t, .slice y.a y.len y.cap] ∧ K b t y H' := by
  refine (Some_spec (hr.keep m fun _ _ e => e) hl).mono ?_
  rintro r H1 ⟨y, rfl, hE⟩
  exact ⟨_, _, y, rfl, hK y H1 (m.trans hE.mod) hE⟩


end

theorem lastTerm_snoc (b t : Int) (es : List En) (e : En) : lastTerm b t (es ++ [e]) = e.term := by
  have hl : (es ++ [e]).length = es.length + 1 := by simp
  unfold lastTerm termAt
  rw [hl, if_neg (by omega), if_neg (by omega)]
  dsimp only
  rw [show (b + ((es.length + 1 : Nat) : Int) - b - 1).toNat = es.length by omega]
  simp
theorem Sm.lt {es : List En} {b t : Int} (h : Sm b t es) : 0 ≤ lastTerm b t es ∧ lastTerm b t es ≤ 1048576 := by
  have ht := h.ht
  unfold lastTerm termAt
  by_cases c : es.length = 0
  · rw [if_pos (by omega)]; dsimp only; omega
  · rw [if_neg (by omega), if_neg (by omega)]
    dsimp only
    have hj : (b + (es.length : Int) - b - 1).toNat < es.length := by omega
    rw [List.getD_eq_getElem?_getD, List.getElem?_eq_getElem hj, Option.getD_some]
    have := (h.row _ hj).1
    exact ⟨this.2.2.1, this.2.2.2.1⟩
theorem after_one (b : Int) (es : List En) (e : En) : after b (es ++ [e]) (b + (es.length : Int)) 5 = ([e], true) := by
  unfold after
  rw [if_neg (by simp; omega)]
  rw [show (b + (es.length : Int) - b).toNat = es.length by omega, List.drop_left]
  rfl

section
variable {H0 H : Hp} {says Entries y2 : Sl} {c d : UInt8} {ss : List Sy} {es : List En} {e : En} {s : Sy}
/-- What is asked behind the entry's comparison. -/
theorem add_tail (hr : Rows H0 says 6 (ss.map Sy.cells).flatten) (hl : ss.length = says.len) (m : Mod (fun _ => False) H0 H) (he : es = ents (ss.take 80) (((c.toNat % 20 : Nat) : Int) + 1) ((d.toNat % 5 : Nat) : Int))
    (hx : Lr H Entries es) (hy : Lr H y2 (es ++ [e])) (ht : e.term = lastTerm ((c.toNat % 20 : Nat) : Int) ((d.toNat % 5 : Nat) : Int) es + 1) :
    SCalls Try.prog rlog_Log_Last.id [.agg #[.int .i64 ((c.toNat % 20 : Nat) : Int), .int .i64 ((d.toNat % 5 : Nat) : Int), .slice y2.a y2.len y2.cap]] H (fun r16 H18 => ∃ x8 : Int, r16 = .int .i64 x8 ∧ 
 SCalls Try.prog rlog_Log_Last.id [.agg #[.int .i64 ((c.toNat % 20 : Nat) : Int), .int .i64 ((d.toNat % 5 : Nat) : Int), .slice Entries.a Entries.len Entries.cap]] H18 (fun r17 H19 => ∃ x9 : Int, r17 = .int .i64 x9 ∧ 
 Br (x8 == (w64 (x9 + 1))) (
 SCalls Try.prog rlog_Log_Last.id [.agg #[.int .i64 ((c.toNat % 20 : Nat) : Int), .int .i64 ((d.toNat % 5 : Nat) : Int), .slice y2.a y2.len y2.cap]] H19 (fun r18 H20 => ∃ x10 : Int, r18 = .int .i64 x10 ∧ 
 SCalls Try.prog rlog_Log_LastTerm.id [.agg #[.int .i64 ((c.toNat % 20 : Nat) : Int), .int .i64 ((d.toNat % 5 : Nat) : Int), .slice y2.a y2.len y2.cap]] H20 (fun r19 H21 => ∃ x11 : Int, r19 = .int .i64 x11 ∧ 
 SCalls Try.prog rlog_Log_Newer.id [.agg #[.int .i64 ((c.toNat % 20 : Nat) : Int), .int .i64 ((d.toNat % 5 : Nat) : Int), .slice y2.a y2.len y2.cap], .int .i64 x10, .int .i64 x11] H21 (fun r20 H22 => ∃ x12 : Bool, r20 = .bool x12 ∧ 
 Br x12 (
 SCalls Try.prog rlog_Log_Last.id [.agg #[.int .i64 ((c.toNat % 20 : Nat) : Int), .int .i64 ((d.toNat % 5 : Nat) : Int), .slice Entries.a Entries.len Entries.cap]] H22 (fun r21 H23 => ∃ x13 : Int, r21 = .int .i64 x13 ∧ 
 SCalls Try.prog rlog_Log_LastTerm.id [.agg #[.int .i64 ((c.toNat % 20 : Nat) : Int), .int .i64 ((d.toNat % 5 : Nat) : Int), .slice Entries.a Entries.len Entries.cap]] H23 (fun r22 H24 => ∃ x14 : Int, r22 = .int .i64 x14 ∧ 
 SCalls Try.prog rlog_Log_Newer.id [.agg #[.int .i64 ((c.toNat % 20 : Nat) : Int), .int .i64 ((d.toNat % 5 : Nat) : Int), .slice y2.a y2.len y2.cap], .int .i64 x13, .int .i64 x14] H24 (fun r23 H25 => ∃ x15 : Bool, r23 = .bool x15 ∧ 
 Br (!x15) (
 SCalls Try.prog rlog_Log_Last.id [.agg #[.int .i64 ((c.toNat % 20 : Nat) : Int), .int .i64 ((d.toNat % 5 : Nat) : Int), .slice y2.a y2.len y2.cap]] H25 (fun r24 H26 => ∃ x16 : Int, r24 = .int .i64 x16 ∧ 
 SCalls Try.prog rlog_Log_LastTerm.id [.agg #[.int .i64 ((c.toNat % 20 : Nat) : Int), .int .i64 ((d.toNat % 5 : Nat) : Int), .slice y2.a y2.len y2.cap]] H26 (fun r25 H27 => ∃ x17 : Int, r25 = .int .i64 x17 ∧ 
 SCalls Try.prog rlog_Log_Newer.id [.agg #[.int .i64 ((c.toNat % 20 : Nat) : Int), .int .i64 ((d.toNat % 5 : Nat) : Int), .slice Entries.a Entries.len Entries.cap], .int .i64 x16, .int .i64 x17] H27 (fun r26 H28 => ∃ x18 : Bool, r26 = .bool x18 ∧ 
 Br x18 (
 SCalls Try.prog tephralaw13_Some.id [.slice says.a says.len says.cap, .int .u8 (c.toNat : Int), .int .u8 (d.toNat : Int)] H28 (fun r27 H29 => ∃ Base5 : Int, ∃ Term6 : Int, ∃ Entries5 : Sl, r27 = .agg #[.int .i64 Base5, .int .i64 Term6, .slice Entries5.a Entries5.len Entries5.cap] ∧ 
 SCalls Try.prog tephralaw13_Same.id [.agg #[.int .i64 ((c.toNat % 20 : Nat) : Int), .int .i64 ((d.toNat % 5 : Nat) : Int), .slice Entries.a Entries.len Entries.cap], .agg #[.int .i64 Base5, .int .i64 Term6, .slice Entries5.a Entries5.len Entries5.cap]] H29 (fun r28 H30 => ∃ x19 : Bool, r28 = .bool x19 ∧ (trueQ H0) (.bool x19) H30)))
 ((trueQ H0) (.bool false) H28)))))
 ((trueQ H0) (.bool false) H25)))))
 ((trueQ H0) (.bool false) H22)))))
 ((trueQ H0) (.bool false) H19))) := by
  have S : Sm ((c.toNat % 20 : Nat) : Int) ((d.toNat % 5 : Nat) : Int) es := by rw [he]; exact sm_some ss c d
  have hlt := S.lt
  have hel := S.len
  have hxl := hx.len
  have hyl := hy.len
  have hyl' : y2.len = es.length + 1 := by rw [← hyl]; simp
  have nb : nice ((c.toNat % 20 : Nat) : Int) := by unfold nice; omega
  have nx : nice (((c.toNat % 20 : Nat) : Int) + (Entries.len : Int)) := by unfold nice; omega
  have ny : nice (((c.toNat % 20 : Nat) : Int) + (y2.len : Int)) := by unfold nice; omega
  have hls := lastTerm_snoc ((c.toNat % 20 : Nat) : Int) ((d.toNat % 5 : Nat) : Int) es e
  have hB : (((c.toNat % 20 : Nat) : Int)) ≤ 19 ∧ 0 ≤ ((c.toNat % 20 : Nat) : Int) := by omega
  refine int_step (H0 := H) (Last_spec nb (by omega)) (Mod.refl _ _) fun H1 m1 => ?_
  refine int_step (H0 := H) (Last_spec nb (by omega)) m1 fun H2 m2 => ?_
  refine Br.yes (by rw [w64_id (by omega) (by omega)]; simp; omega) ?_
  refine int_step (H0 := H) (Last_spec nb (by omega)) m2 fun H3 m3 => ?_
  refine int_step (H0 := H) (LastTerm_spec nb (by omega) ny (hy.mod m3)) m3 fun H4 m4 => ?_
  refine bool_step (H0 := H) (Newer_spec nb (by omega) ny (hy.mod m4)) m4 fun H5 m5 => Br.yes ?_ ?_
  · unfold newer; exact decide_eq_true (Or.inr ⟨rfl, by rw [hyl]; exact Int.le_refl _⟩)
  refine int_step (H0 := H) (Last_spec nb (by omega)) m5 fun H6 m6 => ?_
  refine int_step (H0 := H) (LastTerm_spec nb (by omega) nx (hx.mod m6)) m6 fun H7 m7 => ?_
  refine bool_step (H0 := H) (Newer_spec nb (by omega) ny (hy.mod m7)) m7 fun H8 m8 => Br.yes ?_ ?_
  · unfold newer; rw [hls, ht, decide_eq_false (by omega)]; rfl
  refine int_step (H0 := H) (Last_spec nb (by omega)) m8 fun H9 m9 => ?_
  refine int_step (H0 := H) (LastTerm_spec nb (by omega) ny (hy.mod m9)) m9 fun H10 m10 => ?_
  refine bool_step (H0 := H) (Newer_spec nb (by omega) nx (hx.mod m10)) m10 fun H11 m11 => Br.yes ?_ ?_
  · unfold newer; rw [hls, ht]; exact decide_eq_true (Or.inl (by omega))
  refine some_step (H0 := H) (hr.keep m fun _ _ e => e) hl m11 fun y H12 m12 hE => ?_
  rw [← he] at hE
  refine bool_step (H0 := H) (Same_spec (hx.mod m12) hE.lr (by omega)) m12 fun H13 m13 => ⟨?_, m.trans m13⟩
  unfold sameB
  rw [decide_eq_true ⟨rfl, rfl, rfl⟩]

theorem RlogAdd_spec {H : Hp} (hr : Rows H says 6 (ss.map Sy.cells).flatten) (hl : ss.length = says.len) :
    SCalls Try.prog tephralaw13_RlogAdd.id [.slice says.a says.len says.cap, .int .u8 (c.toNat : Int), .int .u8 (d.toNat : Int), s.val] H (trueQ H) := by
  apply tephralaw13_RlogAdd.calls (sOp := (s.op.toNat : Int)) (sClient := (s.client.toNat : Int)) (sSeq := (s.seq.toNat : Int)) (sKey := (s.key.toNat : Int)) (sValue := (s.value.toNat : Int)) (sOld := (s.old.toNat : Int))
  unfold tephralaw13_RlogAdd.vc
  refine awake_step (H0 := H) (Mod.holes _ _ _) fun H1 m1 => ?_
  refine some_step (H0 := H) hr hl m1 fun x H2 m2 hE => ?_
  obtain ⟨es, he⟩ : ∃ es, es = ents (ss.take 80) (((c.toNat % 20 : Nat) : Int) + 1) ((d.toNat % 5 : Nat) : Int) := ⟨_, rfl⟩
  rw [← he] at hE
  have S : Sm ((c.toNat % 20 : Nat) : Int) ((d.toNat % 5 : Nat) : Int) es := by rw [he]; exact sm_some ss c d
  have hlt := S.lt
  have hel := S.len
  have hx := hE.lr
  have hxl := hx.len
  have nb : nice ((c.toNat % 20 : Nat) : Int) := by unfold nice; omega
  have nx : nice (((c.toNat % 20 : Nat) : Int) + (x.len : Int)) := by unfold nice; omega
  obtain ⟨e, hee⟩ : ∃ e : En, e = ⟨((c.toNat % 20 : Nat) : Int) + es.length + 1, w64 (lastTerm ((c.toNat % 20 : Nat) : Int) ((d.toNat % 5 : Nat) : Int) es + 1), s.cmd⟩ := ⟨_, rfl⟩
  have ht : e.term = lastTerm ((c.toNat % 20 : Nat) : Int) ((d.toNat % 5 : Nat) : Int) es + 1 := by rw [hee]; exact w64_id (by omega) (by omega)
  have lt_st : ∀ {H' : Hp} {K : Int → Hp → Prop}, Mod (fun _ => False) H2 H' → (∀ H'', Mod (fun _ => False) H2 H'' → K (lastTerm ((c.toNat % 20 : Nat) : Int) ((d.toNat % 5 : Nat) : Int) es) H'') →
      SCalls Try.prog rlog_Log_LastTerm.id [.agg #[.int .i64 ((c.toNat % 20 : Nat) : Int), .int .i64 ((d.toNat % 5 : Nat) : Int), .slice x.a x.len x.cap]] H' fun r H' => ∃ n : Int, r = .int .i64 n ∧ K n H' := fun m hK =>
    int_step (LastTerm_spec nb (by omega) nx (hx.mod m)) m hK
  have last_st : ∀ {H' : Hp} {K : Int → Hp → Prop}, Mod (fun _ => False) H2 H' → (∀ H'', Mod (fun _ => False) H2 H'' → K (((c.toNat % 20 : Nat) : Int) + (x.len : Int)) H'') →
      SCalls Try.prog rlog_Log_Last.id [.agg #[.int .i64 ((c.toNat % 20 : Nat) : Int), .int .i64 ((d.toNat % 5 : Nat) : Int), .slice x.a x.len x.cap]] H' fun r H' => ∃ n : Int, r = .int .i64 n ∧ K n H' := fun m hK =>
    int_step (Last_spec nb (by omega)) m hK
  have cmd_st : ∀ {H' : Hp} {K : Int → Int → Int → ByteArray → ByteArray → ByteArray → Hp → Prop}, Mod (fun _ => False) H2 H' → (∀ H'', Mod (fun _ => False) H2 H'' → K s.cmd.op s.cmd.client s.cmd.seq s.cmd.key s.cmd.value s.cmd.old H'') →
      SCalls Try.prog tephralaw06_Say_Cmd.id [.agg #[.int .u8 (s.op.toNat : Int), .int .u8 (s.client.toNat : Int), .int .u8 (s.seq.toNat : Int), .int .u8 (s.key.toNat : Int), .int .u8 (s.value.toNat : Int), .int .u8 (s.old.toNat : Int)]] H' fun r H' => ∃ a : Int, ∃ b : Int, ∃ c : Int, ∃ d : ByteArray, ∃ e : ByteArray, ∃ f : ByteArray, r = .agg #[.int .i64 a, .int .i64 b, .int .i64 c, .string d, .string e, .string f] ∧ K a b c d e f H' := fun m hK => say_step (s := s) (H0 := H2) m hK
  have add_st : ∀ {H' : Hp} {K : Int → Int → Sl → Hp → Prop}, Mod (fun _ => False) H2 H' → (∀ y H'', Mod (fun _ => False) H2 H'' → Lr H'' y (es ++ [e]) → K ((c.toNat % 20 : Nat) : Int) ((d.toNat % 5 : Nat) : Int) y H'') →
      SCalls Try.prog rlog_Log_Add.id [.agg #[.int .i64 ((c.toNat % 20 : Nat) : Int), .int .i64 ((d.toNat % 5 : Nat) : Int), .slice x.a x.len x.cap], .int .i64 (w64 (lastTerm ((c.toNat % 20 : Nat) : Int) ((d.toNat % 5 : Nat) : Int) es + 1)), .agg #[.int .i64 s.cmd.op, .int .i64 s.cmd.client, .int .i64 s.cmd.seq, .string s.cmd.key, .string s.cmd.value, .string s.cmd.old]] H'
        fun r H' => ∃ a : Int, ∃ b : Int, ∃ z : Sl, r = .agg #[.int .i64 a, .int .i64 b, .slice z.a z.len z.cap] ∧ K a b z H' := fun {H' K} m hK => by
    refine (Add_spec (c := s.cmd) (by omega) (by omega) (hx.mod m)).mono ?_
    rintro r H'' ⟨y, rfl, hy⟩
    rw [← hee] at hy
    exact ⟨_, _, y, rfl, hK y H'' (m.trans hy.mod) hy.lr⟩
  have k1 : ∀ {H' : Hp} {y : Sl}, Mod (fun _ => False) H2 H' → Lr H' y (es ++ [e]) → tephralaw13_RlogAdd.k1 J0 says (c.toNat : Int) (d.toNat : Int) (s.op.toNat : Int) (s.client.toNat : Int) (s.seq.toNat : Int) (s.key.toNat : Int) (s.value.toNat : Int) (s.old.toNat : Int) ((c.toNat % 20 : Nat) : Int) ((d.toNat % 5 : Nat) : Int) x ((c.toNat % 20 : Nat) : Int) ((d.toNat % 5 : Nat) : Int) y H' (trueQ H) := by
    intro H' y m hy
    apply tephralaw13_RlogAdd.k1.step; unfold tephralaw13_RlogAdd.k1.body
    refine int_step (H0 := H') (Last_spec nb (by omega)) (Mod.refl _ _) fun H3 m3 => ?_
    rw [← hxl]
    refine (After_spec (by omega) (by omega) (by simp; omega) (hy.mod m3)).mono ?_
    rintro r H4 ⟨z, rfl, hz, m4⟩
    rw [after_one] at hz ⊢
    refine ⟨z, _, rfl, ?_⟩
    have hzl : 1 = z.len := hz.len
    obtain ⟨a, ha, _⟩ := hz.get (j := 0) (by simp)
    have row : ∀ {H5 : Hp}, Mod (fun _ => False) H4 H5 → RowAt H5 a e.cells := fun m5 => by
      obtain ⟨a', ha', h'⟩ := (hz.mod m5).get (j := 0) (by simp)
      rw [ha] at ha'; cases ha'
      have e0 : a.add (0 * 8) = a := by rw [Nat.zero_mul]; cases a; rfl
      rw [e0] at h'
      simpa using h'
    have m24 := m.trans (m3.trans m4)
    apply tephralaw13_RlogAdd.k2.step; unfold tephralaw13_RlogAdd.k2.body
    refine Br.yes rfl (Br.yes (by rw [← hzl]; rfl) ⟨by omega, vPtr.mk a ha ?_⟩)
    have hc : ((e.index == w64 (((c.toNat % 20 : Nat) : Int) + (es.length : Int) + 1)) && ((e.term == w64 (lastTerm ((c.toNat % 20 : Nat) : Int) ((d.toNat % 5 : Nat) : Int) es + 1)) && (((e.cmd.op == s.cmd.op) && ((e.cmd.client == s.cmd.client) && ((e.cmd.seq == s.cmd.seq) && ((e.cmd.key == s.cmd.key) && ((e.cmd.value == s.cmd.value) && ((e.cmd.old == s.cmd.old) && true)))))) && true))) = true := by
      rw [w64_id (x := ((c.toNat % 20 : Nat) : Int) + (es.length : Int) + 1) (by omega) (by omega)]
      have := en_beq e ⟨((c.toNat % 20 : Nat) : Int) + (es.length : Int) + 1, w64 (lastTerm ((c.toNat % 20 : Nat) : Int) ((d.toNat % 5 : Nat) : Int) es + 1), s.cmd⟩
      exact this.trans (decide_eq_true hee)
    have lt4 : ∀ {H' : Hp} {K : Int → Hp → Prop}, Mod (fun _ => False) H4 H' → (∀ H'', Mod (fun _ => False) H4 H'' → K (lastTerm ((c.toNat % 20 : Nat) : Int) ((d.toNat % 5 : Nat) : Int) es) H'') →
        SCalls Try.prog rlog_Log_LastTerm.id [.agg #[.int .i64 ((c.toNat % 20 : Nat) : Int), .int .i64 ((d.toNat % 5 : Nat) : Int), .slice x.a x.len x.cap]] H' fun r H' => ∃ n : Int, r = .int .i64 n ∧ K n H' := fun m hK =>
      int_step (LastTerm_spec nb (by omega) nx (hx.mod (m24.trans m))) m hK
    have last4 : ∀ {H' : Hp} {K : Int → Hp → Prop}, Mod (fun _ => False) H4 H' → (∀ H'', Mod (fun _ => False) H4 H'' → K (((c.toNat % 20 : Nat) : Int) + (es.length : Int)) H'') →
        SCalls Try.prog rlog_Log_Last.id [.agg #[.int .i64 ((c.toNat % 20 : Nat) : Int), .int .i64 ((d.toNat % 5 : Nat) : Int), .slice x.a x.len x.cap]] H' fun r H' => ∃ n : Int, r = .int .i64 n ∧ K n H' := fun m hK => by
      rw [hxl] at hK; exact int_step (Last_spec nb (by omega)) m hK
    have cmd4 : ∀ {H' : Hp} {K : Int → Int → Int → ByteArray → ByteArray → ByteArray → Hp → Prop}, Mod (fun _ => False) H4 H' → (∀ H'', Mod (fun _ => False) H4 H'' → K s.cmd.op s.cmd.client s.cmd.seq s.cmd.key s.cmd.value s.cmd.old H'') →
        SCalls Try.prog tephralaw06_Say_Cmd.id [.agg #[.int .u8 (s.op.toNat : Int), .int .u8 (s.client.toNat : Int), .int .u8 (s.seq.toNat : Int), .int .u8 (s.key.toNat : Int), .int .u8 (s.value.toNat : Int), .int .u8 (s.old.toNat : Int)]] H' fun r H' => ∃ a : Int, ∃ b : Int, ∃ c : Int, ∃ d : ByteArray, ∃ e : ByteArray, ∃ f : ByteArray, r = .agg #[.int .i64 a, .int .i64 b, .int .i64 c, .string d, .string e, .string f] ∧ K a b c d e f H' := fun m hK => say_step (s := s) (H0 := H4) m hK
    have tl : ∀ {H5 : Hp}, Mod (fun _ => False) H4 H5 → Lr H5 x es ∧ Lr H5 y (es ++ [e]) ∧ Mod (fun _ => False) H H5 := fun m5 => ⟨hx.mod (m24.trans m5), hy.mod (m3.trans (m4.trans m5)), m2.trans (m24.trans m5)⟩
    repeat' first
      | with_reducible apply And.intro
      | with_reducible refine last4 (by first | assumption | exact Mod.refl _ _ | exact Mod.holes _ _ _ | exact Mod.trans (by assumption) (Mod.holes _ _ _)) fun H' m' => ?_
      | with_reducible refine lt4 (by first | assumption | exact Mod.refl _ _ | exact Mod.holes _ _ _ | exact Mod.trans (by assumption) (Mod.holes _ _ _)) fun H' m' => ?_
      | with_reducible refine cmd4 (by first | assumption | exact Mod.refl _ _ | exact Mod.holes _ _ _ | exact Mod.trans (by assumption) (Mod.holes _ _ _)) fun H' m' => ?_
      | with_reducible refine ⟨e.index, e.term, e.cmd.op, e.cmd.client, e.cmd.seq, e.cmd.key, e.cmd.value, e.cmd.old, row (by first | assumption | exact Mod.refl _ _ | exact Mod.holes _ _ _ | exact Mod.trans (by assumption) (Mod.holes _ _ _)), ?_⟩
      | with_reducible refine Br.yes hc ?_
      | with_reducible exact add_tail hr hl (tl (by first | assumption | exact Mod.refl _ _ | exact Mod.holes _ _ _ | exact Mod.trans (by assumption) (Mod.holes _ _ _))).2.2 he (tl (by first | assumption | exact Mod.refl _ _ | exact Mod.holes _ _ _ | exact Mod.trans (by assumption) (Mod.holes _ _ _))).1 (tl (by first | assumption | exact Mod.refl _ _ | exact Mod.holes _ _ _ | exact Mod.trans (by assumption) (Mod.holes _ _ _))).2.1 ht
  repeat' first
    | with_reducible apply And.intro
    | with_reducible refine lt_st (by first | assumption | exact Mod.refl _ _ | exact Mod.holes _ _ _ | exact Mod.trans (by assumption) (Mod.holes _ _ _)) fun H' m' => ?_
    | with_reducible refine cmd_st (by first | assumption | exact Mod.refl _ _ | exact Mod.holes _ _ _ | exact Mod.trans (by assumption) (Mod.holes _ _ _)) fun H' m' => ?_
    | with_reducible refine add_st (by first | assumption | exact Mod.refl _ _ | exact Mod.holes _ _ _ | exact Mod.trans (by assumption) (Mod.holes _ _ _)) fun y H' m' hy => ?_
    | with_reducible exact k1 (by first | assumption | exact Mod.refl _ _ | exact Mod.holes _ _ _ | exact Mod.trans (by assumption) (Mod.holes _ _ _)) (by assumption)
    | with_reducible exact k1 (by first | assumption | exact Mod.refl _ _ | exact Mod.holes _ _ _ | exact Mod.trans (by assumption) (Mod.holes _ _ _)) (Lr.mod (by assumption) (Mod.holes _ _ _))
end
end Go.Proofs
