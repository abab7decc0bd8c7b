/- THE CORE, part 7: part 6 is what the model does. Generic. -/
import Derived.Test.YtgogmmhkelenkaaKc6
import Derived.Laws.Append
set_option linter.all false
set_option linter.constructorNameAsVariable false
namespace Go.KC

theorem exV_any {z : Value} {K : Value → Prop} (h : exV z K) : ∃ v, K v := by
  unfold exV at h
  split at h <;> (obtain ⟨x, hx⟩ := h; exact ⟨_, hx⟩)

theorem exVs_any : ∀ {zs : List Value} {K : List Value → Prop}, exVs zs K → ∃ vs, vs.length = zs.length ∧ K vs
  | [], K, h => ⟨[], rfl, h⟩
  | z :: r, K, h => by
    obtain ⟨v, hv⟩ := exV_any h
    obtain ⟨vs, hl, hvs⟩ := exVs_any hv
    exact ⟨v :: vs, by simp [hl], hvs⟩

theorem exT_any {P : Program} {t : TypeId} {K : Value → Prop} (h : exT P t K) : ∃ v, K v := by
  unfold exT at h
  split at h
  · split at h
    · obtain ⟨vs, _, hvs⟩ := exVs_any h; exact ⟨_, hvs⟩
    · exact exV_any h
    · exact h.elim
  · exact h.elim

theorem exTs_any {P : Program} : ∀ {ts : List TypeId} {K : List Value → Prop}, exTs P ts K → ∃ vs, K vs
  | [], K, h => ⟨[], h⟩
  | t :: r, K, h => by
    obtain ⟨v, hv⟩ := exT_any h
    obtain ⟨vs, hvs⟩ := exTs_any hv
    exact ⟨v :: vs, hvs⟩

theorem exR_any {P : Program} {t : TypeId} {K : Value → Prop} (h : exR P t K) : ∃ v, K v := by
  unfold exR at h
  split at h
  · obtain ⟨vs, hvs⟩ := exTs_any h; exact ⟨_, hvs⟩
  · exact exT_any h

def QF : Exit → Act → World → Prop := fun _ _ _ => False

theorem wp_value {P : Program} {o : Oper} {a : Act} {w w' : World} {v : Value} {K : Act → World → Prop} {Q : Exit → Act → World → Prop}
    (h : (execOp a.eval o).run P w = .ok (.value v) w') (hk : K (a.put o.dst v) w') : o.wp P a w K Q := by
  unfold Oper.wp; rw [h]; exact hk
theorem wp_skip' {P : Program} {o : Oper} {a : Act} {w w' : World} {K : Act → World → Prop} {Q : Exit → Act → World → Prop}
    (h : (execOp a.eval o).run P w = .ok .skip w') (hk : K (a.put o.dst undef) w') : o.wp P a w K Q := by
  unfold Oper.wp; rw [h]; exact hk

theorem wp_any {P : Program} {o : Oper} {a : Act} {w : World} {K K' : Act → World → Prop} {Q : Exit → Act → World → Prop}
    (h : o.wp P a w K QF) (hk : ∀ a' w', K a' w' → K' a' w') : o.wp P a w K' Q := by
  unfold Oper.wp at *
  generalize (execOp a.eval o).run P w = r at *
  cases r with
  | ok n w' =>
    cases n <;> simp only [Oper.upon] at h ⊢ <;>
      first
        | exact hk _ _ h
        | exact Calls.mono h (fun e w'' he => by cases e <;> first | exact hk _ _ he | exact he.elim | exact (by obtain ⟨_, _, hf⟩ := he; exact hf.elim))
        | exact Rows.mono h (fun _ _ he => hk _ _ he)
  | halt x w' => cases x <;> simp only [Oper.upon] at h ⊢ <;> exact h.elim

theorem row_load {P : Program} {w : World} {a : Addr} {vs : List Value} (h : RowAt w.heap a vs) : (loadCells a vs.length).run P w = .ok vs.toArray w :=
  run_loadCells_list w a vs fun j v hv => h j v hv

theorem RowAt.hides {M : Nat → Prop} {h H : Hp} (hh : Hides M h H) {a : Addr} {vs : List Value} (hr : RowAt H a vs) : RowAt h a vs :=
  fun j v hv => (hh.cell (hr j v hv)).2

theorem run_sizeOf' {P : Program} {t : TypeId} {ti : TypeInfo} (h : P.info? t = some ti) (w : World) : (sizeOf t).run P w = .ok ti.size w := by
  simp [sizeOf, typeInfo, h]
theorem run_zero' {P : Program} {t : TypeId} {ti : TypeInfo} {z : Value} (h : P.info? t = some ti) (hz : ti.zero = some z) (w : World) : (zeroValue t).run P w = .ok z w := by
  simp [zeroValue, typeInfo, h, hz]
theorem run_isAgg' {P : Program} {t : TypeId} {d : TypeDesc} (h : P.underlying t = some d) (w : World) : (isAgg t).run P w = .ok (isAggD d) w := by
  unfold isAgg
  cases d <;> simp [run_underlying h, isAggD]

theorem vLoad_run {P : Program} {M : Nat → Prop} {t : TypeId} {a : Addr} {H : Hp} {K : Value → Prop} (h : vLoad P t a H K) :
    ∃ v, K v ∧ ∀ w, (∀ b v, Hp.cell? H b = some v → Hp.cell? w.heap b = some v) → (Instr.loadAt t (.pointer (some a))).run P w = .ok v w := by
  unfold vLoad at h
  split at h <;> (first | exact h.elim | skip)
  rename_i d ti hd hi
  split at h <;> (first | exact h.elim | skip)
  · rename_i cs ha hz
    split at h <;> (first | exact h.elim | skip)
    rename_i hsz
    obtain ⟨vs, hl, hr, hK⟩ := exVs_any h
    refine ⟨_, hK, fun w hw => ?_⟩
    have hn : vs.length = ti.size := by rw [hl, Array.length_toList]; exact Nat.eq_of_beq_eq_true hsz
    have := row_load (P := P) (w := w) (a := a) (vs := vs) fun j v hv => hw _ _ (hr j v hv)
    rw [hn] at this
    simp [Instr.loadAt, Instr.sureAddr, loadVar, run_isAgg' hd, ha, run_sizeOf' hi, this]
  · rename_i z ha hz
    obtain ⟨v, hc, hK⟩ := exV_any h
    refine ⟨v, hK, fun w hw => ?_⟩
    have : w.cell? a = some v := hw a v hc
    simp [Instr.loadAt, Instr.sureAddr, loadVar, run_isAgg' hd, ha, this]

theorem add_add (a : Addr) (i j : Nat) (h : a.spot = none) : (a.add i).add j = a.add (i + j) := by
  obtain ⟨b, o, s⟩ := a
  dsimp only at h
  subst h
  simp [Addr.add_loc, Nat.add_assoc]

theorem cell?_setCell' (H : Hp) (p q : Addr) (v : Value) (h : (Hp.cell? H q).isSome = true) : (Hp.cell? (Hp.setCell H p v) q).isSome = true := by
  unfold Hp.cell? at *
  by_cases hb : q.block = p.block
  · rw [hb] at h ⊢
    cases ho : H[p.block]? with
    | none => simp [ho] at h
    | some o =>
      cases o with
      | cells c e fz =>
        rw [Hp.getElem?_setCell_same H p v ho]
        simp only [ho] at h
        dsimp only
        cases hq : q.spot.isSome
        · rw [hq] at h
          simp only [Bool.false_eq_true, if_false] at h ⊢
          split
          · exact h
          · rw [Array.getElem?_setIfInBounds]
            split
            · split
              · rfl
              · rename_i h1 h2; rw [← h1, Array.getElem?_eq_none (by omega)] at h; simp at h
            · exact h
        · rw [hq] at h; simp at h
      | _ => simp [ho] at h
  · rw [Hp.getElem?_setCell_ne H p v hb]
    exact h

theorem frozen?_setCell' (H : Hp) (p q : Addr) (v : Value) : Hp.frozen? (Hp.setCell H p v) q = Hp.frozen? H q := by
  unfold Hp.frozen?
  by_cases hb : q.block = p.block
  · rw [hb]
    cases ho : H[p.block]? with
    | none => simp [Hp.setCell, Array.getElem?_modify, ho]
    | some o =>
      cases o with
      | cells c e fz => rw [Hp.getElem?_setCell_same H p v ho]
      | _ => simp [Hp.setCell, Array.getElem?_modify, ho]
  · rw [Hp.getElem?_setCell_ne H p v hb]

theorem WrAt.setCell {H : Hp} {a p : Addr} {n : Nat} {v : Value} (h : WrAt H a n) : WrAt (Hp.setCell H p v) a n :=
  fun j hj => ⟨cell?_setCell' H p _ v (h j hj).1, (frozen?_setCell' H p _ v).trans (h j hj).2⟩

/-- A run of stores. -/
theorem run_stores {P : Program} (a : Addr) : ∀ (vs : List Value) (i : Nat) (w : World), allOne vs = true → (∀ j, i ≤ j → j < i + vs.length → (Hp.cell? w.heap (a.add j)).isSome = true ∧ Hp.frozen? w.heap (a.add j) = false) →
    (storeCells a vs i).run P w = .ok () { w with heap := Hp.setCells w.heap a vs i }
  | [], i, w, _, _ => by simp [storeCells, Hp.setCells]
  | v :: r, i, w, h1, h => by
    simp only [allOne, Bool.and_eq_true] at h1
    obtain ⟨hc, hf⟩ := h i (Nat.le_refl _) (by simp)
    have hs := run_store P w (a.add i) v .plain h1.1
    cases hcell : Hp.cell? w.heap (a.add i) with
    | none => simp [hcell] at hc
    | some u =>
      have hcw : w.cell? (a.add i) = some u := hcell
      have hfw : w.frozen? (a.add i) = false := hf
      simp only [hcw, hfw, Bool.false_eq_true, if_false] at hs
      have ih := run_stores (P := P) a r (i + 1) (w.setCell (a.add i) v) h1.2 fun j hj1 hj2 => by
        obtain ⟨q1, q2⟩ := h j (by omega) (by simp; omega)
        exact ⟨cell?_setCell' _ _ _ _ q1, (frozen?_setCell' _ _ _ _).trans q2⟩
      unfold storeCells
      simp only [Sem.run_bind, hs, Result.andThen_ok, ih]
      rfl
end Go.KC
