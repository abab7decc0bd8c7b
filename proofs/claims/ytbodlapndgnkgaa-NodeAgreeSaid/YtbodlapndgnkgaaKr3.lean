/- LAYER 13: logs, part 3: Add, After, Compact, Right, term; awake; RlogNewer. -/
import Derived.Test.YtbodlapndgnkgaaKr2
set_option linter.all false
set_option linter.constructorNameAsVariable false
namespace Go.Proofs
open Go Go.KC

section
variable {H0 H : Hp} {x z : Sl} {es new : List En} {b t : Int}

theorem Add_spec {u : Int} {c : Cm} (hb : -5000000 ≤ b ∧ b ≤ 5000000) (he : es.length ≤ 10000000) (hx : Lr H x es) :
    SCalls Try.prog rlog_Log_Add.id [lgv b t x, .int .i64 u, c.val] H fun r H' => ∃ y : Sl, r = lgv b t y ∧ Eo H H' y (es ++ [⟨b + es.length + 1, u, c⟩]) := by
  apply rlog_Log_Add.calls
  have hb' : nice b := by unfold nice; omega
  have hxl := hx.len
  have m0 : Mod (fun _ => False) H (holes H 3) := Mod.holes _ _ _
  refine (Clone_spec (hx.mod m0) (by omega)).mono ?_
  rintro r H1 ⟨y, rfl, hy⟩
  have hyl := hy.len
  refine ⟨_, _, _, rfl, (Last_spec hb' (by omega)).mono ?_⟩
  rintro r H2 ⟨rfl, m2⟩
  refine ⟨_, rfl, ?_⟩
  rw [w64_id (x := b + (y.len : Int) + 1) (by omega) (by omega), show b + (y.len : Int) + 1 = b + (es.length : Int) + 1 by omega]
  exact Eo.app (e := ⟨b + es.length + 1, u, c⟩) (hy.from m0) m2 (by omega) fun x' H' hE => ⟨x', rfl, hE⟩

/-- The entries behind an index, so many at most. -/
def after (b : Int) (es : List En) (i most : Int) : List En × Bool :=
  if i < b ∨ i > b + es.length then ([], false) else ((es.drop (i - b).toNat).take (max 0 most).toNat, true)
theorem After_spec {i q : Int} (hb : -5000000 ≤ b ∧ b ≤ 5000000) (hi : -5000000 ≤ i ∧ i ≤ 5000000) (he : es.length ≤ 10000000) (hx : Lr H x es) :
    SCalls Try.prog rlog_Log_After.id [lgv b t x, .int .i64 i, .int .i64 q] H fun r H' => ∃ y : Sl, r = .tuple #[.slice y.a y.len y.cap, .bool (after b es i q).2] ∧ Lr H' y (after b es i q).1 ∧ Mod (fun _ => False) H H' ∧ ∀ g ∈ y.blk, H.size ≤ g ∧ g < H'.size := by
  apply rlog_Log_After.calls
  have hb' : nice b := by unfold nice; omega
  have hxl := hx.len
  have hxc := hx.2.1
  have m0 : Mod (fun _ => False) H (holes H 1) := Mod.holes _ _ _
  have k1f : ∀ H', Mod (fun _ => False) H H' → (i < b ∨ i > b + es.length) → rlog_Log_After.k1 J0 b t x i q true H' fun r H' => ∃ y : Sl, r = .tuple #[.slice y.a y.len y.cap, .bool (after b es i q).2] ∧ Lr H' y (after b es i q).1 ∧ Mod (fun _ => False) H H' ∧ ∀ g ∈ y.blk, H.size ≤ g ∧ g < H'.size := by
    intro H' m hc
    apply rlog_Log_After.k1.step; unfold rlog_Log_After.k1.body
    unfold after; rw [if_pos hc]
    exact Br.yes rfl ⟨⟨none, 0, 0⟩, rfl, ⟨rfl, Nat.le_refl _, (fun a ha => nomatch ha), (fun _ => rfl)⟩, m, fun g hg => by simp [Sl.blk] at hg⟩
  by_cases h1 : i < b
  · exact Br.yes (decide_eq_true h1) (k1f _ m0 (Or.inl h1))
  refine Br.no (decide_eq_false h1) ((Last_spec hb' (by omega)).mono ?_)
  rintro r H1 ⟨rfl, m1⟩
  refine ⟨_, rfl, ?_⟩
  have m1' := m0.trans m1
  by_cases h2 : i > b + (x.len : Int)
  · rw [decide_eq_true h2]; exact k1f _ m1' (Or.inr (by omega))
  rw [decide_eq_false h2]
  apply rlog_Log_After.k1.step; unfold rlog_Log_After.k1.body
  have hc : ¬ (i < b ∨ i > b + es.length) := by omega
  unfold after; rw [if_neg hc]
  rw [w64_id (x := i - b) (by omega) (by omega)]
  have hcut := hx.cut (n := (i - b).toNat) (by omega)
  have hmin : (if (if q > 0 then q else 0) < ((x.len - (i - b).toNat : Nat) : Int) then (if q > 0 then q else 0) else ((x.len - (i - b).toNat : Nat) : Int)).toNat = min (max 0 q).toNat (x.len - (i - b).toNat) := by
    split <;> split <;> omega
  have hpre := hcut.pre (n := min (max 0 q).toNat (x.len - (i - b).toNat)) (by simp only; omega)
  rw [hmin]
  refine Br.no rfl ⟨⟨by omega, by omega⟩, ⟨by split <;> split <;> omega, by split <;> split <;> omega⟩, (slices_Clone_spec (hpre.mod m1') (by simp only; omega)).mono ?_⟩
  rintro r H2 ⟨y, rfl, hy⟩
  refine ⟨y, rfl, y, rfl, ?_, m1'.trans hy.mod, fun g hg => ⟨Nat.le_trans m1'.size (hy.blk g hg), Own.lt hy.own g hg⟩⟩
  have e : (es.drop (i - b).toNat).take (min (max 0 q).toNat (x.len - (i - b).toNat)) = (es.drop (i - b).toNat).take (max 0 q).toNat := by
    rw [← List.take_take]
    rw [List.take_of_length_le (l := es.drop (i - b).toNat) (by simp; omega)]
  rw [← e]; exact hy.lr

structure Lgm where
  base : Int
  term : Int
  es : List En
def compact (b t : Int) (es : List En) (i : Int) : Lgm :=
  if (termAt b t es i).2 then ⟨i, (termAt b t es i).1, es.drop (i - b).toNat⟩ else ⟨b, t, es⟩
theorem Compact_spec {i : Int} (hb : -5000000 ≤ b ∧ b ≤ 5000000) (hi : -5000000 ≤ i ∧ i ≤ 5000000) (he : es.length ≤ 10000000) (hx : Lr H x es) :
    SCalls Try.prog rlog_Log_Compact.id [lgv b t x, .int .i64 i] H fun r H' => ∃ y : Sl, r = lgv (compact b t es i).base (compact b t es i).term y ∧ Lr H' y (compact b t es i).es ∧ Mod (fun _ => False) H H' ∧ ∀ g ∈ y.blk, g ∈ x.blk ∨ (H.size ≤ g ∧ g < H'.size) := by
  apply rlog_Log_Compact.calls
  have hb' : nice b := by unfold nice; omega
  have hxl := hx.len
  have m0 : Mod (fun _ => False) H (holes H 2) := Mod.holes _ _ _
  refine (TermAt_spec hb' (by omega) (hx.mod m0)).mono ?_
  rintro r H1 ⟨rfl, m1⟩
  have m1' := m0.trans m1
  refine ⟨_, _, rfl, ?_⟩
  unfold compact
  cases hc : (termAt b t es i).2 with
  | false =>
    exact Br.yes rfl ⟨x, rfl, hx.mod m1', m1', fun g hg => Or.inl hg⟩
  | true =>
    have hk : b ≤ i ∧ i ≤ b + es.length := by
      unfold termAt at hc
      by_cases h1 : i = b
      · omega
      · rw [if_neg h1] at hc
        by_cases h2 : i < b ∨ i > b + es.length
        · rw [if_pos h2] at hc; cases hc
        · omega
    rw [w64_id (x := i - b) (by omega) (by omega)]
    have hcut := hx.cut (n := (i - b).toNat) (by omega)
    refine Br.no rfl ⟨⟨by omega, by omega⟩, (slices_Clone_spec (hcut.mod m1') (by simp only; omega)).mono ?_⟩
    rintro r H2 ⟨y, rfl, hy⟩
    exact ⟨y, rfl, y, rfl, hy.lr, m1'.trans hy.mod, fun g hg => Or.inr ⟨Nat.le_trans m1'.size (hy.blk g hg), Own.lt hy.own g hg⟩⟩

/-- Which logs are right. -/
def LRight (b t : Int) (es : List En) : Prop := 0 ≤ b ∧ 0 ≤ t ∧ RowsOf es (w64 (b + 1)) ∧ ∀ h : 0 < es.length, t ≤ es[0].term
instance : Decidable (LRight b t es) := by unfold LRight; infer_instance
theorem Right_spec (hl : es.length ≤ 9223372036854775807) (hx : Lr H x es) : SCalls Try.prog rlog_Right.id [lgv b t x] H (TellPost H (.bool (decide (LRight b t es)))) := by
  apply rlog_Right.calls
  have hxl := hx.len
  have m0 : Mod (fun _ => False) H (holes H 1) := Mod.holes _ _ _
  by_cases h1 : b ≥ 0
  · refine Br.yes (decide_eq_true h1) ?_
    by_cases h2 : t ≥ 0
    · refine Br.yes (decide_eq_true h2) (bool_step (H0 := H) (Row_spec (hx.mod m0) hxl (by omega)) m0 fun H1 m1 => ?_)
      by_cases h3 : RowsOf es (w64 (b + 1))
      · rw [decide_eq_true h3]
        refine Br.yes rfl ?_
        by_cases h4 : x.len = 0
        · refine Br.yes (by simp [h4]) ⟨?_, m1⟩
          rw [decide_eq_true ⟨h1, h2, h3, fun h => by omega⟩]
        · refine Br.no (by simp; omega) ⟨⟨by omega, by omega⟩, ?_⟩
          have hj : 0 < es.length := by omega
          obtain ⟨a, ha, hrow⟩ := (hx.mod m1).get hj
          have hc := hrow 1 (.int .i64 (es[0]).term) rfl
          rw [Nat.zero_mul, add_zero_of] at hc
          refine vPtr.mk a ha ⟨_, hc, congrArg Value.bool (decide_eq_decide.2 ⟨fun h => ⟨h1, h2, h3, fun _ => h⟩, fun h => h.2.2.2 hj⟩), m1⟩
      · rw [decide_eq_false h3]
        refine Br.no rfl ⟨?_, m1⟩
        rw [decide_eq_false fun h => h3 h.2.2.1]
    · refine Br.no (decide_eq_false h2) ⟨?_, m0⟩
      rw [decide_eq_false fun h => h2 h.2.1]
  · refine Br.no (decide_eq_false h1) ⟨?_, m0⟩
    rw [decide_eq_false fun h => h1 h.1]

end
end Go.Proofs
