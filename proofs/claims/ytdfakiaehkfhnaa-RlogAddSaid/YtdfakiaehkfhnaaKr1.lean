/- LAYER 13: logs, part 1. -/
import Derived.Test.YtdfakiaehkfhnaaKe2
import Derived.Test.YtdfakiaehkfhnaaKe4
set_option linter.all false
set_option linter.constructorNameAsVariable false
namespace Go.Proofs
open Go Go.KC

/-- A log's value. -/
def lgv (b t : Int) (x : Sl) : Value := .agg #[.int .i64 b, .int .i64 t, .slice x.a x.len x.cap]
def termAt (b t : Int) (es : List En) (i : Int) : Int × Bool :=
  if i = b then (t, true) else if i < b ∨ i > b + es.length then (0, false) else ((es.getD (i - b - 1).toNat En.zero).term, true)
def tb (p : Int × Bool) : Value := .tuple #[.int .i64 p.1, .bool p.2]
def lastTerm (b t : Int) (es : List En) : Int := (termAt b t es (b + es.length)).1
def newer (b t : Int) (es : List En) (i u : Int) : Bool := decide (u > lastTerm b t es ∨ (u = lastTerm b t es ∧ i ≥ b + es.length))

section
variable {H : Hp} {x : Sl} {es : List En} {b t : Int}
theorem Last_spec (hb : nice b) (hl : x.len ≤ 1000000) : SCalls Try.prog rlog_Log_Last.id [lgv b t x] H (TellPost H (.int .i64 (b + (x.len : Int)))) := by
  apply rlog_Log_Last.calls
  unfold nice at hb
  refine ⟨?_, Mod.holes _ _ _⟩
  rw [w64_id (by omega) (by omega)]

theorem TermAt_spec {i : Int} (hb : nice b) (hi : nice i) (hl : x.len ≤ 1000000) (h : Lr H x es) : SCalls Try.prog rlog_Log_TermAt.id [lgv b t x, .int .i64 i] H (TellPost H (tb (termAt b t es i))) := by
  apply rlog_Log_TermAt.calls
  have hlen := h.len
  have hb' := hb; have hi' := hi
  unfold nice at hb' hi'
  have m0 : Mod (fun _ => False) H (holes H 1) := Mod.holes _ _ _
  have k1f : ∀ H', (i < b ∨ i > b + es.length) → i ≠ b → Mod (fun _ => False) H H' → rlog_Log_TermAt.k1 J0 b t x i true H' (TellPost H (tb (termAt b t es i))) := by
    intro H' hc hne m
    apply rlog_Log_TermAt.k1.step; unfold rlog_Log_TermAt.k1.body
    refine Br.yes rfl ⟨?_, m⟩
    unfold termAt; rw [if_neg hne, if_pos hc]; rfl
  by_cases h1 : i = b
  · refine Br.yes (beq_iff_eq.2 h1) ⟨?_, m0⟩
    unfold termAt; rw [if_pos h1]; rfl
  refine Br.no (beq_eq_false_iff_ne.2 h1) ?_
  by_cases h2 : i < b
  · exact Br.yes (decide_eq_true h2) (k1f _ (Or.inl h2) h1 m0)
  refine Br.no (decide_eq_false h2) ((Last_spec hb hl).mono ?_)
  rintro r H1 ⟨rfl, m1⟩
  refine ⟨_, rfl, ?_⟩
  by_cases h3 : i > b + (x.len : Int)
  · rw [decide_eq_true h3]; exact k1f _ (Or.inr (by omega)) h1 (m0.trans m1)
  rw [decide_eq_false h3]
  apply rlog_Log_TermAt.k1.step; unfold rlog_Log_TermAt.k1.body
  rw [w64_id (x := i - b) (by omega) (by omega), w64_id (by omega) (by omega)]
  have hj : (i - b - 1).toNat < es.length := by omega
  obtain ⟨a, ha, hrow⟩ := (h.mod (m0.trans m1)).get hj
  refine Br.no rfl ⟨⟨by omega, by omega⟩, vPtr.mk a ha ⟨(es[(i - b - 1).toNat]).term, hrow 1 _ rfl, ?_, m0.trans m1⟩⟩
  unfold termAt; rw [if_neg h1, if_neg (by omega)]
  simp only [tb, List.getD_eq_getElem?_getD, List.getElem?_eq_getElem hj, Option.getD_some]

theorem LastTerm_spec (hb : nice b) (hl : x.len ≤ 100000) (hn : nice (b + (x.len : Int))) (h : Lr H x es) : SCalls Try.prog rlog_Log_LastTerm.id [lgv b t x] H (TellPost H (.int .i64 (lastTerm b t es))) := by
  apply rlog_Log_LastTerm.calls
  have m0 : Mod (fun _ => False) H (holes H 1) := Mod.holes _ _ _
  have hlen := h.len
  refine (Last_spec hb (by omega)).mono ?_
  rintro r H1 ⟨rfl, m1⟩
  refine ⟨_, rfl, (TermAt_spec hb hn (by omega) (h.mod (m0.trans m1))).mono ?_⟩
  rintro r H2 ⟨rfl, m2⟩
  refine ⟨_, _, rfl, ?_, m0.trans (m1.trans m2)⟩
  unfold lastTerm; rw [hlen]

theorem Newer_spec {i u : Int} (hb : nice b) (hl : x.len ≤ 100000) (hn : nice (b + (x.len : Int))) (h : Lr H x es) : SCalls Try.prog rlog_Log_Newer.id [lgv b t x, .int .i64 i, .int .i64 u] H (TellPost H (.bool (newer b t es i u))) := by
  apply rlog_Log_Newer.calls
  have m0 : Mod (fun _ => False) H (holes H 1) := Mod.holes _ _ _
  have hlen := h.len
  refine (LastTerm_spec hb hl hn (h.mod m0)).mono ?_
  rintro r H1 ⟨rfl, m1⟩
  refine ⟨_, rfl, ?_⟩
  unfold newer
  by_cases h1 : u > lastTerm b t es
  · refine Br.yes (decide_eq_true h1) ⟨?_, m0.trans m1⟩
    rw [decide_eq_true (Or.inl h1)]
  refine Br.no (decide_eq_false h1) ((LastTerm_spec hb hl hn (h.mod (m0.trans m1))).mono ?_)
  rintro r H2 ⟨rfl, m2⟩
  refine ⟨_, rfl, ?_⟩
  by_cases h2 : u = lastTerm b t es
  · refine Br.yes (beq_iff_eq.2 h2) ((Last_spec hb (by omega)).mono ?_)
    rintro r H3 ⟨rfl, m3⟩
    refine ⟨_, rfl, congrArg Value.bool (decide_eq_decide.2 ?_), m0.trans (m1.trans (m2.trans m3))⟩
    rw [hlen]; omega
  · refine Br.no (beq_eq_false_iff_ne.2 h2) ⟨?_, m0.trans (m1.trans m2)⟩
    rw [decide_eq_false fun h => h.elim h1 fun h => h2 h.1]

theorem Clone_spec (h : Lr H x es) (hl : x.len ≤ 1000000) : SCalls Try.prog rlog_Log_Clone.id [lgv b t x] H fun r H' => ∃ y : Sl, r = lgv b t y ∧ Eo H H' y es := by
  apply rlog_Log_Clone.calls
  have m0 : Mod (fun _ => False) H (holes H 2) := Mod.holes _ _ _
  refine (slices_Clone_spec (h.mod m0) hl).mono ?_
  rintro r H1 ⟨y, rfl, hy⟩
  exact ⟨y, rfl, y, rfl, hy.from m0⟩

/-- A log that says make. -/
theorem Some_spec {ss : List Sy} {c d : UInt8} (hr : Rows H x 6 (ss.map Sy.cells).flatten) (hl : ss.length = x.len) :
    SCalls Try.prog tephralaw13_Some.id [.slice x.a x.len x.cap, .int .u8 (c.toNat : Int), .int .u8 (d.toNat : Int)] H fun r H' => ∃ y : Sl, r = lgv ((c.toNat % 20 : Nat) : Int) ((d.toNat % 5 : Nat) : Int) y ∧
      Eo H H' y (ents (ss.take 80) (((c.toNat % 20 : Nat) : Int) + 1) ((d.toNat % 5 : Nat) : Int)) := by
  apply tephralaw13_Some.calls
  unfold tephralaw13_Some.vc
  have m0 : Mod (fun _ => False) H (holes H 1) := Mod.holes _ _ _
  have t1 := tmodN c 20
  have t2 := tmodN d 5
  rw [show ((20 : Nat) : Int) = 20 from rfl] at t1
  rw [show ((5 : Nat) : Int) = 5 from rfl] at t2
  rw [t1, t2, w64_id (x := ((c.toNat % 20 : Nat) : Int)) (by omega) (by omega), w64_id (x := ((d.toNat % 5 : Nat) : Int)) (by omega) (by omega), w64_id (x := ((c.toNat % 20 : Nat) : Int) + 1) (by omega) (by omega)]
  refine ⟨by omega, by omega, (Entries_spec (hr.keep m0 fun _ _ e => e) hl).mono ?_⟩
  rintro r H1 ⟨y, rfl, ho, hyl, hf, hb⟩
  exact ⟨y, rfl, y, rfl, ho, fun g hg => Nat.le_trans m0.size (hb g hg), m0.trans hf.mod⟩

def sameB (b t : Int) (es : List En) (b' t' : Int) (es' : List En) : Bool := decide (b = b' ∧ t = t' ∧ es = es')
theorem Same_loop {H0 : Hp} (m0 : Mod (fun _ => False) H0 H) {x' : Sl} {es' : List En} {b' t' : Int} (hb : b = b') (ht : t = t') (h : Lr H x es) (h' : Lr H x' es') (hl : x.len = x'.len) (hx : x.len ≤ 1000000) : ∀ (d j : Nat), j + d = x.len → es.take j = es'.take j →
    tephralaw13_Same.l1 J0 b t x b' t' x' H (j : Int) (TellPost H0 (.bool (sameB b t es b' t' es'))) := by
  have e1 := h.len
  have e2 := h'.len
  intro d
  induction d with
  | zero =>
    intro j hj hp
    apply tephralaw13_Same.l1.step; unfold tephralaw13_Same.l1.body
    refine Br.no (by simp; omega) ⟨?_, m0⟩
    rw [List.take_of_length_le (by omega), List.take_of_length_le (by omega)] at hp
    unfold sameB; rw [decide_eq_true ⟨hb, ht, hp⟩]
  | succ d ih =>
    intro j hj hp
    apply tephralaw13_Same.l1.step; unfold tephralaw13_Same.l1.body
    have hj1 : j < es.length := by omega
    have hj2 : j < es'.length := by omega
    obtain ⟨a, ha, hrow⟩ := h.get hj1
    obtain ⟨a', ha', hrow'⟩ := h'.get hj2
    refine Br.yes (by simp; omega) ⟨⟨by omega, by omega⟩, vPtr.mk a ha ⟨_, _, _, _, _, _, _, _, by simpa [En.cells] using hrow, ⟨by omega, by omega⟩, vPtr.mk a' ha' ⟨_, _, _, _, _, _, _, _, by simpa [En.cells] using hrow', ?_⟩⟩⟩
    have he := en_beq es[j] es'[j]
    by_cases hc : es[j] = es'[j]
    · rw [decide_eq_true hc] at he
      refine Br.no (congrArg not he) ?_
      rw [w64_id (x := (j : Int) + 1) (by omega) (by omega)]
      have := ih (j + 1) (by omega) (by rw [List.take_succ_eq_append_getElem hj1, List.take_succ_eq_append_getElem hj2, hp, hc])
      simpa using this
    · rw [decide_eq_false hc] at he
      refine Br.yes (congrArg not he) ⟨?_, m0⟩
      unfold sameB
      rw [decide_eq_false fun h => hc (by have := h.2.2; subst this; rfl)]

theorem Same_spec {x' : Sl} {es' : List En} {b' t' : Int} (h : Lr H x es) (h' : Lr H x' es') (hx : x.len ≤ 1000000) : SCalls Try.prog tephralaw13_Same.id [lgv b t x, lgv b' t' x'] H (TellPost H (.bool (sameB b t es b' t' es'))) := by
  apply tephralaw13_Same.calls
  have m0 : Mod (fun _ => False) H (holes H 2) := Mod.holes _ _ _
  have e1 := h.len
  have e2 := h'.len
  have no : ¬ (b = b' ∧ t = t' ∧ es = es') → false = sameB b t es b' t' es' := fun h => (decide_eq_false h).symm
  have k2 : ∀ z : Bool, (z = true → ¬ (b = b' ∧ t = t' ∧ es = es')) → (z = false → b = b' ∧ t = t' ∧ x.len = x'.len) → tephralaw13_Same.k2 J0 b t x b' t' x' H z (TellPost H (.bool (sameB b t es b' t' es'))) := by
    intro z h1 h2
    apply tephralaw13_Same.k2.step; unfold tephralaw13_Same.k2.body
    refine Br.mk (fun e => ⟨congrArg Value.bool (no (h1 e)), m0⟩) (fun e => ?_)
    obtain ⟨g1, g2, g3⟩ := h2 e
    exact Same_loop m0 g1 g2 (h.mod m0) (h'.mod m0) g3 hx x.len 0 (by omega) (by simp)
  have k1 : ∀ z : Bool, (z = true → ¬ (b = b' ∧ t = t' ∧ es = es')) → (z = false → b = b' ∧ t = t') → tephralaw13_Same.k1 J0 b t x b' t' x' H z (TellPost H (.bool (sameB b t es b' t' es'))) := by
    intro z h1 h2
    apply tephralaw13_Same.k1.step; unfold tephralaw13_Same.k1.body
    refine Br.mk (fun e => k2 true (fun _ => h1 e) (fun e => nomatch e)) (fun e => k2 _ (fun hne => ?_) (fun hne => ⟨(h2 e).1, (h2 e).2, ?_⟩))
    · have : (x.len : Int) ≠ x'.len := by simpa using hne
      rintro ⟨_, _, rfl⟩; omega
    · have : (x.len : Int) = x'.len := by simpa using hne
      omega
  refine Br.mk (fun e => k1 true (fun _ h => by simp [h.1] at e) (fun e => nomatch e)) (fun e => k1 _ (fun e' h => by simp [h.2.1] at e') (fun e' => ⟨by simpa using e, by simpa using e'⟩))
end
end Go.Proofs
