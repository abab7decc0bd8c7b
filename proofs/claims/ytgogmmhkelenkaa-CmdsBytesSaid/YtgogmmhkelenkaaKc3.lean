/- THE CORE, part 3: what part 2 says of the pure operations is what the model does. Generic. -/
import Derived.Test.YtgogmmhkelenkaaKc2
import Derived.Laws.StructEq
set_option linter.all false
set_option linter.constructorNameAsVariable false
namespace Go.KC
variable {P : Program}

theorem partV_run {t : TypeId} {cs : Array Value} {off : Nat} {v : Value} (h : eqS.partV P t cs off = some v) (w : World) :
    (part t cs off).run P w = .ok v w := by
  unfold eqS.partV at h
  split at h
  · rename_i d ti hd hi
    unfold part
    cases d <;> simp_all [isAgg, isAggD, run_underlying hd, sizeOf, typeInfo]
  · cases h

theorem vPart_part {t : TypeId} {cs : Array Value} {off : Nat} {K : Value → Prop} (h : vPart P t cs.toList off K) :
    ∃ v, K v ∧ eqS.partV P t cs off = some v := by
  unfold vPart at h
  unfold eqS.partV
  split at h
  · rename_i d ti hd hi
    split at h
    · rename_i ha
      refine ⟨_, h, ?_⟩
      simp only [ha, Option.some.injEq, Value.agg.injEq]
      apply Array.ext'
      simp [List.extract_eq_take_drop]
    · rename_i ha
      split at h
      · rename_i v hv
        refine ⟨v, h, ?_⟩
        rw [Array.getElem?_toList] at hv
        simpa [ha] using hv
      · exact h.elim
  · exact h.elim

theorem eqS_run : ∀ (d D : Nat), d ≤ D → ∀ (t : TypeId) (x y : Value) (b : Bool), eqS P d t x y = some b → ∀ w, (Op.equalIn D t x y).run P w = .ok b w := by
  intro d
  induction d with
  | zero => intro D _ t x y b h; simp [eqS] at h
  | succ d ih =>
    intro D hD t x y b h w
    obtain ⟨D, rfl⟩ : ∃ e, D = e + 1 := ⟨D - 1, by omega⟩
    unfold eqS at h
    split at h
    · rename_i hu; simp at h; simp [Op.equalIn, run_underlying hu, h]
    · rename_i hu; split at h
      · rename_i hk; simp at h; simp [Op.equalIn, run_underlying hu, hk, h]
      · cases h
    · rename_i hu; simp at h; simp [Op.equalIn, run_underlying hu, h]
    · rename_i fs xs ys hu
      split at h
      · cases h
      · rename_i hst
        have hf : P.fieldsOf t = fs := by simp [Program.fieldsOf, hu]
        rw [run_equalIn_struct (P := P) w D t xs ys (by rw [hf]; exact hu) hst, hf]
        have key : ∀ (l : List Field) (b : Bool), eqS.eqFs P (eqS P d) l xs ys = some b → ∀ w, (Op.eqFields D xs ys l).run P w = .ok b w := by
          intro l
          induction l with
          | nil => intro b h w; simp [eqS.eqFs] at h; simp [Op.eqFields, ← h]
          | cons f r ihr =>
            intro b h w
            unfold eqS.eqFs at h
            split at h
            · cases h
            · rename_i hn
              split at h
              · rename_i pa pb ha hb
                split at h
                · rename_i p q hp hq
                  simp only [Option.some.injEq] at h
                  subst h
                  have e1 := ih D (by omega) f.type pa pb p hp w
                  have hn' : f.name ≠ "_" := by simpa using hn
                  rw [Op.eqFields]
                  simp only [if_pos hn', Sem.run_bind, partV_run ha, partV_run hb, Result.andThen_ok, e1]
                  cases p
                  · simp
                  · simpa using ihr q hq w
                · cases h
              · cases h
        exact key fs.toList b h w
    · cases h

theorem run_guard_agg {op : BinOp} {t : TypeId} {x y : Operand} {a b : Array Value} (h : P.eqGuardType P.depth t = false) (w : World) :
    (eqGuard op t x y (.agg a) (.agg b)).run P w = .ok () w := by
  unfold eqGuard
  cases op <;> simp [h]

/-- A value that is no struct, array or nil interface is not looked into. -/
theorem run_guard_leaf {op : BinOp} {t : TypeId} {x y : Operand} {a b : Value} (h : match a with | .agg _ | .nilIface => False | _ => True) (w : World) :
    (eqGuard op t x y a b).run P w = .ok () w := by
  unfold eqGuard
  cases op <;> (first | rfl | (cases a <;> first | exact h.elim | (cases b <;> rfl)))

theorem eq_ptr {t e : TypeId} {p : Option Addr} (D : Nat) (hu : P.underlying t = some (.pointer e)) (w : World) :
    (Op.equalIn (D + 1) t (.pointer p) (.pointer none)).run P w = .ok p.isNone w := by
  cases p <;> simp [Op.equalIn, run_underlying hu]
theorem eq_slice {t e : TypeId} {a : Option Addr} {l c l' c' : Nat} (D : Nat) (hu : P.underlying t = some (.slice e)) (w : World) :
    (Op.equalIn (D + 1) t (.slice a l c) (.slice none l' c')).run P w = .ok a.isNone w := by
  cases a <;> simp [Op.equalIn, run_underlying hu]
theorem eq_bool {t : TypeId} {a b : Bool} (D : Nat) (hu : P.underlying t = some .bool) (w : World) :
    (Op.equalIn (D + 1) t (.bool a) (.bool b)).run P w = .ok (a == b) w := by
  simp [Op.equalIn, run_underlying hu]

def eqKind : Value → Value → Bool
  | .pointer _, .pointer none => true
  | .slice _ _ _, _ | .bool _, _ | .agg _, _ => true
  | _, _ => false

theorem vEq_run {op : BinOp} {t : TypeId} {xo yo : Operand} {x y : Value} {K : Bool → Prop} (h : vEq P t x y K) :
    ∃ b, K b ∧ (∀ w, (eqGuard op t xo yo x y).run P w = .ok () w ∧ (Op.equal t x y).run P w = .ok b w) ∧
      eqKind x y = true := by
  unfold vEq at h
  split at h
  · rename_i p
    split at h
    · rename_i hu
      exact ⟨_, h, fun w => ⟨run_guard_leaf (by trivial) w, eq_ptr 9999 hu w⟩, rfl⟩
    · exact h.elim
  · split at h
    · rename_i hu
      exact ⟨_, h, fun w => ⟨run_guard_leaf (by trivial) w, eq_slice 9999 hu w⟩, rfl⟩
    · exact h.elim
  · split at h
    · rename_i hu
      exact ⟨_, h, fun w => ⟨run_guard_leaf (by trivial) w, eq_bool 9999 hu w⟩, rfl⟩
    · exact h.elim
  · split at h
    · exact h.elim
    · rename_i hg
      split at h
      · rename_i b hb
        exact ⟨b, h, fun w => ⟨run_guard_agg hg w, eqS_run 8 10000 (by omega) t _ _ b hb w⟩, rfl⟩
      · exact h.elim
  · exact h.elim

theorem bin_eql {t : TypeId} {x y : Value} (hx : eqKind x y = true) : binOp .eql t x y = (do pure (.bool (← Op.equal t x y))) := by
  cases x <;> (try (simp [eqKind] at hx; done)) <;> cases y <;> (first | rfl | (rename_i p q; cases q <;> first | rfl | (simp [eqKind] at hx; done)) | (simp [eqKind] at hx; done))
theorem bin_neq {t : TypeId} {x y : Value} (hx : eqKind x y = true) : binOp .neq t x y = (do pure (.bool (!(← Op.equal t x y)))) := by
  cases x <;> (try (simp [eqKind] at hx; done)) <;> cases y <;> (first | rfl | (rename_i p q; cases q <;> first | rfl | (simp [eqKind] at hx; done)) | (simp [eqKind] at hx; done))

theorem vBin_run {op : BinOp} {t : TypeId} {xo yo : Operand} {x y : Value} {K : Value → Prop} (h : vBin P op t x y K) :
    ∃ v, K v ∧ ∀ w, (do eqGuard op t xo yo x y; binOp op t x y : Sem Value).run P w = .ok v w := by
  unfold vBin at h
  split at h
  · rename_i k a k' b
    have hg : ∀ w, (eqGuard op t xo yo (.int k a) (.int k' b)).run P w = .ok () w := fun w => run_guard_leaf trivial w
    split at h
    · obtain ⟨hb, h⟩ := h
      refine ⟨_, h, fun w => ?_⟩
      simp [hg, binOp, Op.shift, show ¬ b < 0 by omega]
    · obtain ⟨hb, h⟩ := h
      refine ⟨_, h, fun w => ?_⟩
      simp [hg, binOp, Op.shift, show ¬ b < 0 by omega]
    · split at h
      · rename_i hk
        subst hk
        split at h <;> (first | exact h.elim | skip)
        all_goals first
          | (refine ⟨_, h, fun w => ?_⟩; simp [hg, binOp, Op.intArith, Op.intBits, Op.intCmp]; done)
          | (obtain ⟨hb, h⟩ := h; refine ⟨_, h, fun w => ?_⟩; simp [hg, binOp, Op.intDiv, hb]; done)
      · exact h.elim
  · rename_i a b
    have hg : ∀ w, (eqGuard op t xo yo (.string a) (.string b)).run P w = .ok () w := fun w => run_guard_leaf trivial w
    split at h <;> (first | exact h.elim | skip)
    · obtain ⟨hb, h⟩ := h
      refine ⟨_, h, fun w => ?_⟩
      have : ¬ ((a.size + b.size : Nat) : Int) > IntKind.i64.max := by
        show ¬ ((a.size + b.size : Nat) : Int) > 2 ^ 63 - 1
        omega
      simp only [Sem.run_bind, hg, Result.andThen_ok, binOp, Op.stringOp, if_neg this, Sem.run_pure]
    all_goals (refine ⟨_, h, fun w => ?_⟩; simp only [Sem.run_bind, hg, Result.andThen_ok, binOp, Op.stringOp, Sem.run_pure])
  · rename_i x y h1 h2
    split at h <;> (first | exact h.elim | skip)
    · obtain ⟨b, hK, hr, hx⟩ := vEq_run (op := .eql) (xo := xo) (yo := yo) h
      refine ⟨_, hK, fun w => ?_⟩
      obtain ⟨r1, r2⟩ := hr w
      simp only [Sem.run_bind, r1, Result.andThen_ok, bin_eql hx, r2, Sem.run_pure]
    · obtain ⟨b, hK, hr, hx⟩ := vEq_run (op := .neq) (xo := xo) (yo := yo) h
      refine ⟨_, hK, fun w => ?_⟩
      obtain ⟨r1, r2⟩ := hr w
      simp only [Sem.run_bind, r1, Result.andThen_ok, bin_neq hx, r2, Sem.run_pure]
end Go.KC
