/- STATES: StateApply. -/
import Derived.Test.YtgndfbbgomlbeaaKu23
set_option linter.all false
set_option linter.constructorNameAsVariable false
namespace Go.Proofs
open Go Go.KC

theorem entsGo_term (n : Int) : ∀ (l : List Sy) (j : Nat) (t : Int), 0 ≤ t → t + l.length ≤ 1000 → ∀ e ∈ entsGo n l j t, e.term ≤ t + l.length
  | [], _, _, _, _, e, h => by simp [entsGo] at h
  | s :: l, j, t, h0, h1, e, h => by
    simp only [List.length_cons] at h1 ⊢
    have hu : t ≤ upT s t ∧ upT s t ≤ t + 1 := by
      unfold upT
      split
      · rw [w64_id (by omega) (by omega)]; omega
      · omega
    rcases List.mem_cons.1 h with rfl | h
    · show upT s t ≤ _; omega
    · have := entsGo_term n l _ _ (by omega) (by omega) e h
      omega
/-- The law's own entries. -/
def xKey (k : Nat) : ByteArray := ByteArray.mk #[UInt8.ofNat (33 + k)]
def xOne (n k : Nat) : En := ⟨(n : Int) + 1, 90, ⟨1, 3, 100 + (k : Int), xKey k, ByteArray.mk #[120], noText⟩⟩
def xEs (es : List En) : Nat → List En
  | 0 => es
  | k + 1 => xEs es k ++ [xOne (es.length + k) k]
theorem xEs_len (es : List En) : ∀ k, (xEs es k).length = es.length + k
  | 0 => rfl
  | k + 1 => by show (xEs es k ++ _).length = _; rw [List.length_append, xEs_len es k]; rfl
theorem xEs_row {es : List En} (h : RowsOf es 1) (ht : ∀ e ∈ es, e.term ≤ 90) (hl : es.length ≤ 80) : ∀ k, k ≤ 70 → RowsOf (xEs es k) 1 ∧ ∀ e ∈ xEs es k, e.term ≤ 90
  | 0, _ => ⟨h, ht⟩
  | k + 1, hk => by
    obtain ⟨h1, h2⟩ := xEs_row h ht hl k (by omega)
    have hlen := xEs_len es k
    refine ⟨fun j hj => ?_, fun e he => ?_⟩
    · have hj' : j < (xEs es k).length + 1 := by simpa [xEs] using hj
      by_cases c : j < (xEs es k).length
      · have e : (xEs es (k + 1))[j] = (xEs es k)[j] := List.getElem_append_left c
        rw [e]
        refine ⟨(h1 j c).1, (h1 j c).2.1, fun h0 => ?_⟩
        have e' : (xEs es (k + 1))[j - 1]'(by omega) = (xEs es k)[j - 1]'(by omega) := List.getElem_append_left (by omega)
        rw [e']; exact (h1 j c).2.2 h0
      · obtain rfl : j = (xEs es k).length := by omega
        have e : (xEs es (k + 1))[(xEs es k).length] = xOne (es.length + k) k := by
          have h : ∀ (l : List En) (a : En) (h : l.length < (l ++ [a]).length), (l ++ [a])[l.length] = a := fun l a h => by simp
          exact h _ _ _
        rw [e]
        refine ⟨⟨?_, ?_, ?_, ?_, ?_⟩, ?_, fun h0 => ?_⟩
        · show (1 : Int) ≤ ((es.length + k : Nat) : Int) + 1; omega
        · show ((es.length + k : Nat) : Int) + 1 ≤ 1048576; omega
        · show (0 : Int) ≤ 90; omega
        · show (90 : Int) ≤ 1048576; omega
        · refine ⟨by show (0 : Int) ≤ 1; omega, by show (1 : Int) ≤ 3; omega, by show (1 : Nat) ≤ 16; omega, by show (0 : Nat) ≤ 16; omega, Or.inr ⟨by show (1 : Int) ≠ 0; omega, by show (0 : Int) ≤ 3; omega, by show (3 : Int) ≤ 3; omega, ?_, ?_, by show (0 : Nat) < 1; omega, by show (1 : Nat) ≤ 8; omega⟩⟩
          · show (0 : Int) ≤ 100 + (k : Int); omega
          · show 100 + (k : Int) ≤ 1048576; omega
        · show ((es.length + k : Nat) : Int) + 1 = w64 (1 + ((xEs es k).length : Int))
          rw [w64_id (by omega) (by omega), hlen]; omega
        · have e' : (xEs es (k + 1))[(xEs es k).length - 1]'(by omega) = (xEs es k)[(xEs es k).length - 1]'(by omega) := List.getElem_append_left (by omega)
          rw [e']
          exact h2 _ (List.getElem_mem _)
    · rcases List.mem_append.1 he with h | h
      · exact h2 e h
      · simp at h; subst h; show (90 : Int) ≤ 90; omega

section
variable {H0 H : Hp} {b k s d : Nat}
theorem get_match {st : Stt} {key : ByteArray} {H : Hp} {p x : Sl} (h : SR H p x st) (ok : st.Ok) {K : Int → ByteArray → Hp → Prop}
    (hK : ∀ H', Mod (fun _ => False) H H' → K (match valL st.kv key with | some _ => 0 | none => 6) ((valL st.kv key).getD noText) H') :
    SCalls Try.prog state_Get.id [stV st p x, .string key] H (fun r6 H21 => ∃ Err2 : Int, ∃ Valuev2 : ByteArray, r6 = .agg #[.int .i64 Err2, .string Valuev2] ∧ K Err2 Valuev2 H21) := by
  have := ok.kl
  refine (Get_spec (key := key) h (by omega) ok.rk).mono ?_
  rintro r H' ⟨rfl, m⟩
  have := hK H' m
  cases hv : valL st.kv key <;> rw [hv] at this <;> exact ⟨_, _, rfl, this⟩

/-- The loop over the entries. -/
theorem apply_l2 {E : List En} (hE : RowsOf E 1) (hl : E.length ≤ 1000) {x : Sl} {Hx : Hp} (hr : Rows Hx x 8 (E.map En.cells).flatten) (hx : ∀ q ∈ x.blk, q ≠ b ∧ q ≠ k ∧ q ≠ s ∧ q ≠ d)
    (hb : H0.size ≤ b ∧ H0.size ≤ k ∧ H0.size ≤ s ∧ H0.size ≤ d) (m0 : Mod (fun _ => False) H0 Hx) :
    ∀ (n j : Nat) (H : Hp) (p a : Sl), j + n = E.length → SR H p a (foldM .zero (E.take j)) → MD H b k s d (foldM .zero (E.take j)).index (foldM .zero (E.take j)).term (foldM .zero (E.take j)).kv (foldM .zero (E.take j)).ss →
      Mod (fun q => q = b ∨ q = k ∨ q = s ∨ q = d) Hx H → tephralaw07_StateApply.l2 J0 b x H (j : Int) (foldM .zero (E.take j)).index (foldM .zero (E.take j)).term p a (trueQ H0) := by
  intro n
  have hxl := rows_len' (k := 8) (f := En.cells) (by omega) (fun _ => rfl) hr
  have hm0 : ∀ {H : Hp}, Mod (fun q => q = b ∨ q = k ∨ q = s ∨ q = d) Hx H → Mod (fun _ => False) H0 H := fun m => m0.trans' m fun q hq h => by omega
  induction n with
  | zero =>
    intro j H p a hj sr M m
    apply tephralaw07_StateApply.l2.step; unfold tephralaw07_StateApply.l2.body
    exact Br.no (by simp; omega) ⟨rfl, hm0 m⟩
  | succ n ih =>
    intro j H p a hj sr M m
    have hjl : j < E.length := by omega
    have ok := foldM_ok Stt.zero_ok (E.take j)
    obtain ⟨hi, ht⟩ := fold_rows hE hl j (by omega)
    have ht := ht hjl
    have hnext : foldM .zero (E.take (j + 1)) = (applyM (foldM .zero (E.take j)) E[j]).1 := by
      rw [List.take_succ_eq_append_getElem hjl, foldM_snoc]
    have ihn := ih (j + 1)
    rw [hnext] at ihn
    have hR := (hE j hjl).1
    have hidx : E[j].index = (foldM .zero (E.take j)).index + 1 := by rw [(hE j hjl).2.1, hi, w64_id (by omega) (by omega)]; omega
    generalize foldM .zero (E.take j) = st at sr M ok hi ht ihn hidx
    apply tephralaw07_StateApply.l2.step; unfold tephralaw07_StateApply.l2.body
    obtain ⟨ad, ha, hrow⟩ := row_get' (k := 8) (f := En.cells) (by omega) (fun _ => rfl) (hr.keep m fun q hq e => by have := hx q hq; omega) hjl
    generalize E[j] = e at hrow hR ht ihn hidx
    refine Br.yes (by simp; omega) ⟨⟨by omega, by omega⟩, vPtr.mk ad ha ⟨e.index, e.term, e.cmd.op, e.cmd.client, e.cmd.seq, e.cmd.key, e.cmd.value, e.cmd.old, by simpa [En.cells] using hrow, fun H13 h13 => ?_⟩⟩
    obtain ⟨m13, _⟩ := hole_facts h13
    refine apply_step (e := e) (sr.mod m13) ok fun p1 a1 H14 sr1 m14 => ?_
    have ok1 := applyM_ok (e := e) ok
    intro H15 h15 H16 h16
    obtain ⟨m15, _⟩ := hole_facts h15
    obtain ⟨m16, _⟩ := hole_facts h16
    have m1416 := m14.trans (m15.trans m16)
    have M16 := M.mod (m13.trans m1416)
    have sr16 := (sr1.mod m15).mod m16
    refine (Model_apply_spec M16 ok hR hidx ht).mono ?_
    rintro r H17 ⟨rfl, M17, m17⟩
    refine ⟨_, _, rfl, ?_⟩
    have sr17 := sr16.model M16 m17 fun q h => h
    generalize hst : (applyM st e).1 = t at sr17 M17 ok1 ihn
    generalize (applyM st e).2 = rp
    refine Br.no (by show (!((rp.err == rp.err) && ((rp.value == rp.value) && true))) = false; rw [Go.Proofs.beq_ba, decide_eq_true rfl]; simp) ?_
    refine bool_step (H0 := H17) (shows_spec sr17 ok1 M17) (Mod.refl _ _) fun H18 m18 => Br.no rfl ?_
    have hlens := (sr17.mod m18).rr.lens
    have lp : t.pairs.length = t.kv.length := List.length_map _
    have ls : t.sess.length = t.ss.length := List.length_map _
    have kl := ok1.kl
    have sl := ok1.sl
    have hRt := Right_spec (i := t.index) (t := t.term) (sr17.mod m18).rr (by omega) (by omega)
    rw [decide_eq_true ok1.right] at hRt
    refine bool_step (H0 := H18) hRt (Mod.refl _ _) fun H19 m19 => ?_
    have m1719 := m18.trans m19
    have M19 := M17.mod m1719
    have sr19 := sr17.mod m1719
    have mm : Mod (fun q => q = b ∨ q = k ∨ q = s ∨ q = d) Hx H19 := m.trans (((m13.trans m1416).mono fun _ _ h => h.elim).trans (m17.trans (m1719.mono fun _ _ h => h.elim)))
    apply tephralaw07_StateApply.k1.step; unfold tephralaw07_StateApply.k1.body
    refine Br.no rfl ⟨_, M19.mb.at2, _, _, M19.lookK e.cmd.key, ?_⟩
    apply tephralaw07_StateApply.k2.step; unfold tephralaw07_StateApply.k2.body
    have next : ∀ H', Mod (fun _ => False) H19 H' → tephralaw07_StateApply.l2 J0 b x H' (w64 ((j : Int) + 1)) t.index t.term p1 a1 (trueQ H0) := fun H' m' => by
      rw [w64_id (by omega) (by omega)]
      have := ihn H' p1 a1 (by omega) (sr19.mod m') (M19.mod m') (mm.trans (m'.mono fun _ _ h => h.elim))
      simpa using this
    cases hv : valL t.kv e.cmd.key with
    | none =>
      refine Br.no rfl ?_
      apply tephralaw07_StateApply.k3.step; unfold tephralaw07_StateApply.k3.body
      refine Br.no rfl (Br.yes rfl ?_)
      refine get_match sr19 ok1 fun H23 m23 => ?_
      rw [hv]
      exact Br.no rfl (next H23 m23)
    | some v =>
      refine Br.yes rfl ?_
      refine get_match sr19 ok1 fun H21 m21 => ?_
      rw [hv]
      apply tephralaw07_StateApply.k3.step; unfold tephralaw07_StateApply.k3.body
      refine Br.no ?_ (Br.no rfl (next H21 m21))
      show (!(((0 : Int) == 0) && ((v == v) && true))) = false
      rw [Go.Proofs.beq_ba, decide_eq_true rfl]; simp
end

section
variable {H : Hp}
theorem StateApply_spec {says : Sl} {ss : List Sy} {many : UInt8} (hr : Rows H says 6 (ss.map Sy.cells).flatten) (hl : ss.length = says.len) :
    SCalls Try.prog tephralaw07_StateApply.id [.slice says.a says.len says.cap, .int .u8 (many.toNat : Int)] H (trueQ H) := by
  apply tephralaw07_StateApply.calls
  unfold tephralaw07_StateApply.vc
  refine bool_step (H0 := H) awake07_spec (Mod.refl _ _) fun H1 m1 => Br.no rfl ?_
  rintro b rfl H2 h2 b1 rfl H3 h3 b2 rfl H4 h4 b3 rfl H5 h5 H6 h6
  obtain ⟨g2, m2, s2⟩ := push_facts h2
  obtain ⟨g3, m3, s3⟩ := push_facts h3
  obtain ⟨g4, m4, s4⟩ := push_facts h4
  obtain ⟨g5, m5, s5⟩ := push_facts h5
  obtain ⟨m6, s6⟩ := hole_facts h6
  have n2 : GM ekS H2 H1.size (fun _ => none) 0 := by rw [h2]; exact GM.new H1
  have n3 : MF ekI H3 H2.size (fun _ => none) 0 := by rw [h3]; exact MF.new H2
  have n4 : MF ekI H4 H3.size (fun _ => none) 0 := by rw [h4]; exact MF.new H3
  have M6 : MD H6 H4.size H1.size H2.size H3.size 0 0 [] [] :=
    ⟨m6.get g5 (fun e => e), ((n2.mod (m3.trans (m4.trans (m5.trans m6)))).congr (fun _ => rfl) rfl), ((n3.mod (m4.trans (m5.trans m6))).congr fun _ => rfl), ((n4.mod (m5.trans m6)).congr fun _ => rfl), ⟨by omega, by omega, by omega, by omega, by omega, by omega⟩⟩
  have m16 := m2.trans (m3.trans (m4.trans (m5.trans m6)))
  have m06 := m1.trans m16
  have s06 := m1.size
  refine (Entries_spec (n := 1) (t := 0) (hr.keep m06 fun _ _ e => e) hl).mono ?_
  rintro r H7 ⟨x, rfl, o, hx, f, hfr⟩
  refine ⟨x, rfl, ?_⟩
  have hes : (ents (ss.take 80) 1 0).length ≤ 80 := by rw [ents_length, List.length_take]; omega
  have hrow : RowsOf (ents (ss.take 80) 1 0) 1 := ents_row (by omega) (by rw [List.length_take]; omega) (by omega) (by rw [List.length_take]; omega)
  have hterm : ∀ e ∈ ents (ss.take 80) 1 0, e.term ≤ 90 := fun e he => by
    have h80 : (ss.take 80).length ≤ 80 := by rw [List.length_take]; omega
    have := entsGo_term 1 (ss.take 80) 0 0 (by omega) (by omega) e he
    omega
  have m67 : Mod (fun _ => False) H6 H7 := Mod.fresh f fun _ h => h
  generalize ents (ss.take 80) 1 0 = es at o hx hes hrow hterm
  have tm : Int.tmod (many.toNat : Int) 70 = ((many.toNat % 70 : Nat) : Int) := tmodN many 70
  have hN : many.toNat % 70 < 70 := Nat.mod_lt _ (by omega)
  have loop1 : ∀ (n k : Nat) (H8 : Hp) (y : Sl), k + n = many.toNat % 70 → Own H8 y T_api_Entry 8 ((xEs es k).map En.cells).flatten → y.len = (xEs es k).length → (∀ q ∈ y.blk, H6.size ≤ q) → Mod (fun _ => False) H6 H8 →
      tephralaw07_StateApply.l1 J0 (many.toNat : Int) H4.size H8 y (k : Int) (trueQ H) := by
    intro n
    induction n with
    | zero =>
      intro k H8 y hk o8 hy hfr8 m8
      apply tephralaw07_StateApply.l1.step; unfold tephralaw07_StateApply.l1.body
      rw [tm, w64_id (x := ((many.toNat % 70 : Nat) : Int)) (by omega) (by omega)]
      refine ⟨by omega, Br.no (by simp; omega) ?_⟩
      obtain ⟨hE, _⟩ := xEs_row hrow hterm hes k (by omega)
      have hlen := xEs_len es k
      have := apply_l2 (H0 := H) (b := H4.size) (k := H1.size) (s := H2.size) (d := H3.size) hE (by omega) (Own.rows o8) (fun q hq => by have := hfr8 q hq; omega) ⟨by omega, by omega, by omega, by omega⟩ (m06.trans m8)
        (xEs es k).length 0 H8 ⟨none, 0, 0⟩ ⟨none, 0, 0⟩ (by omega) (SR.zero H8) (M6.mod m8) (Mod.refl _ _)
      exact this
    | succ n ih =>
      intro k H8 y hk o8 hy hfr8 m8
      apply tephralaw07_StateApply.l1.step; unfold tephralaw07_StateApply.l1.body
      rw [tm, w64_id (x := ((many.toNat % 70 : Nat) : Int)) (by omega) (by omega)]
      have hlen := xEs_len es k
      refine ⟨by omega, Br.yes (by simp; omega) ?_⟩
      rintro b4 rfl H9 h9
      obtain ⟨g9, m9, s9⟩ := push_facts h9
      have ec : (#[.int .u8 (IntKind.u8.wrap (w64 ((33 : Int) + (k : Int))))] : Array Value) = (([UInt8.ofNat (33 + k)] : List UInt8).map bv).toArray := by
        rw [w64_id (by omega) (by omega)]
        have e1 : ((UInt8.ofNat (33 + k)).toNat : Int) = IntKind.u8.wrap ((33 : Int) + (k : Int)) := by
          rw [wrapu8, UInt8.toNat_ofNat']
          omega
        show _ = #[Value.int .u8 ((UInt8.ofNat (33 + k)).toNat : Int)]
        rw [e1]
      have R : Rows H9 ⟨some (Addr.mk H8.size 0 none), 1, 1⟩ 1 (([UInt8.ofNat (33 + k)] : List UInt8).map bv) := by
        rw [h9, ec]
        exact ⟨by simp, Nat.le_refl _, fun a ha => by cases ha; exact (cells_src (([UInt8.ofNat (33 + k)] : List UInt8).map bv) 1 (by simp)).2, fun e => nomatch e⟩
      refine b2s_imp (b2s_rows R rfl) ?_
      rintro _ rfl
      rintro b5 rfl H10 h10
      obtain ⟨_, m10, _⟩ := push_facts h10
      have ev : (#[.int .i64 (w64 (((y.len : Nat) : Int) + 1)), .int .i64 90, .int .i64 1, .int .i64 3, .int .i64 (w64 ((100 : Int) + (k : Int))), .string (ByteArray.mk [UInt8.ofNat (33 + k)].toArray), .string (ByteArray.mk #[120]), .string (ByteArray.mk #[])] : Array Value) = (xOne (es.length + k) k).cells.toArray := by
        rw [w64_id (by omega) (by omega), w64_id (by omega) (by omega), hy, hlen]
        rfl
      rw [ev] at h10
      subst h10
      refine ents_app (o8.keep m9 fun _ _ e => e) (Mod.refl _ _) (by omega) fun y' H11 o11 hl11 m11 hb11 => ?_
      rw [w64_id (x := (k : Int) + 1) (by omega) (by omega)]
      have := ih (k + 1) H11 y' (by omega) o11 (by rw [xEs_len, hl11, hy, hlen]; omega) (fun q hq => by
        rcases hb11 q hq with h | h
        · exact hfr8 q h
        · have := m8.size; omega) ((m8.trans m9).trans' m11 fun q hq h => by have := hfr8 q h; omega)
      simpa using this
  exact loop1 (many.toNat % 70) 0 H7 x (by omega) o hx (fun q hq => hfr q hq) m67
end
end Go.Proofs
