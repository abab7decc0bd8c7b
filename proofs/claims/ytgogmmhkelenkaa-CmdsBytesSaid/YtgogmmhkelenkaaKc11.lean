/- THE CORE, part 11: a region that draws its order. Generic. -/
import Derived.Test.YtgogmmhkelenkaaKc10
set_option linter.all false
set_option linter.constructorNameAsVariable false
namespace Go.KC
variable {P : Program} {M0 : Nat → Prop} {w0 : World} {bs : List Nat} {M : Nat → Prop} {s : VS} {a : Act} {w : World}

def wpOpC (P : Program) (Mf : Nat → Prop) (ops : Array Oper) (i : Nat) (K : Act → World → Prop) (a : Act) (w : World) : Prop :=
  match ops[i]? with
  | none => K a w
  | some o => WpC P Mf ops o K a w

def wpAnyC (P : Program) (Mf : Nat → Prop) (ops : Array Oper) (QN : Act → World → Prop) : Nat → Array Bool → Act → World → Prop
  | 0, listed, a, w => Region.ready .any ops listed = [] ∧ QN a w
  | fuel + 1, listed, a, w =>
    (Region.ready .any ops listed = [] → QN a w) ∧
    ∀ i ∈ Region.ready .any ops listed, wpOpC P Mf ops i (wpAnyC P Mf ops QN fuel (listed.setIfInBounds i true)) a w

theorem wpOpC_mono {Mf : Nat → Prop} {ops : Array Oper} {i : Nat} {K K' : Act → World → Prop} (hk : ∀ a w, K a w → K' a w) (h : wpOpC P Mf ops i K a w) : wpOpC P Mf ops i K' a w := by
  unfold wpOpC at *
  split
  · rename_i hi; simp only [hi] at h; exact hk _ _ h
  · rename_i o hi; simp only [hi] at h; exact h.mono hk

theorem wpAnyC_any (rd : Option Nat) {Mf : Nat → Prop} {ops : Array Oper} {QN : Act → World → Prop} {Q : Exit → Act → World → Prop} (hQ : ∀ a w, QN a w → Q .normal a w) : ∀ (fuel : Nat) (listed : Array Bool) (a : Act) (w : World),
    wpAnyC P Mf ops QN fuel listed a w → wpAnyIn (FW rd) 0 P .any ops Q fuel listed a w
  | 0, listed, a, w, h => ⟨h.1, hQ _ _ h.2⟩
  | fuel + 1, listed, a, w, h => by
    refine ⟨fun e => hQ _ _ (h.1 e), fun i hi => ?_⟩
    have h1 := h.2 i hi
    unfold wpOpC at h1
    unfold wpOpIn
    split
    · rename_i ho; simp only [ho] at h1; exact wpAnyC_any rd hQ fuel _ _ _ h1
    · rename_i o ho
      simp only [ho] at h1
      unfold WpC at h1
      split
      · rename_i hw; rw [if_pos hw] at h1; exact (h1.2.mono fun a' w' h2 => wpAnyC_any rd hQ fuel _ _ _ h2.2).wpIn rd h1.1
      · rename_i hw; rw [if_neg hw] at h1; exact ⟨fun _ _ => trivial, wpAnyC_any rd hQ fuel _ _ _ h1⟩

/-- What may have happened meanwhile. -/
def RL (lvl : Nat) (Mf : Nat → Prop) (w w' : World) : Prop :=
  match lvl with
  | 0 => Grow w w'
  | 1 => KeepM Mf w w'
  | _ => True

theorem RL.refl (lvl : Nat) (Mf : Nat → Prop) (w : World) : RL lvl Mf w w := by
  unfold RL; split
  · exact .refl w
  · exact fun _ _ => rfl
  · trivial
theorem RL.trans {lvl : Nat} {Mf : Nat → Prop} {w w' w'' : World} (h : RL lvl Mf w w') (k : RL lvl Mf w' w'') : RL lvl Mf w w'' := by
  unfold RL at *; split
  · exact fun b o hb => k b o (h b o hb)
  · exact fun b hb => (k b hb).trans (h b hb)
  · trivial
theorem RL.of_chg {lvl c : Nat} {Mf : Nat → Prop} {w w' : World} (h : Chg c Mf w w') (hc : c ≤ lvl) : RL lvl Mf w w' := by
  unfold RL; split
  · exact h.1 (by omega)
  · exact h.2 hc
  · trivial

/-- The operation yields v, now and as long as no more than lvl has happened. -/
def YieldsR (P : Program) (lvl : Nat) (Mf : Nat → Prop) (ops : Array Oper) (o : Oper) (v : Value) (a : Act) (w : World) : Prop :=
  (Region.wanted o (yielded ops a.tmps) = true ∧ (∀ c, o.op ≠ .defer c) ∧ ∀ w', RL lvl Mf w w' → (execOp a.eval o).run P w' = .ok (.value v) w') ∨
  (Region.wanted o (yielded ops a.tmps) = false ∧ v = undef)

theorem YieldsR.later {lvl : Nat} {Mf : Nat → Prop} {ops : Array Oper} {o : Oper} {v : Value} {w' : World} (h : YieldsR P lvl Mf ops o v a w) (hw : RL lvl Mf w w') : YieldsR P lvl Mf ops o v a w' :=
  h.imp (fun ⟨h1, h0, h2⟩ => ⟨h1, h0, fun w'' hh => h2 w'' (hw.trans hh)⟩) id

theorem YieldsR.of_same {lvl : Nat} {Mf : Nat → Prop} {ops : Array Oper} {o : Oper} {v : Value} {a' : Act} (hy : YieldsR P lvl Mf ops o v a w) (he : execOp a'.eval o = execOp a.eval o)
    (hw : Region.wanted o (yielded ops a'.tmps) = Region.wanted o (yielded ops a.tmps)) : YieldsR P lvl Mf ops o v a' w := by
  unfold YieldsR at *
  rw [he, hw]
  exact hy

theorem YieldsR.wpOpC {lvl : Nat} {Mf : Nat → Prop} {ops : Array Oper} {i : Nat} {o : Oper} {v : Value} {K : Act → World → Prop} (hi : ops[i]? = some o) (hy : YieldsR P lvl Mf ops o v a w) (h : K (a.put o.dst v) w) :
    wpOpC P Mf ops i K a w := by
  unfold Go.KC.wpOpC
  simp only [hi]
  unfold WpC
  rcases hy with ⟨hw, hd, hv⟩ | ⟨hw, rfl⟩
  · rw [if_pos hw]
    exact ⟨hd, .of (wp_value (hv w (.refl _ _ _)) ⟨.refl _ _ _, h⟩)⟩
  · rw [if_neg (by simp [hw])]
    exact h

/-- An operation that stands apart from one that was taken first. -/
theorem wp_put {o : Oper} {dst : Option Tmp} {v : Value} {K K' : Act → World → Prop} (he : execOp (a.put dst v).eval o = execOp a.eval o) (hk : ∀ a' w', (∀ u, a' = (a.put dst v).put o.dst u → K a' w' → K' (a.put o.dst u) w'))
    (hd : ∀ d u w', K (({ a.put dst v with defers := d :: (a.put dst v).defers } : Act).put o.dst u) w' → K' (({ a with defers := d :: a.defers } : Act).put o.dst u) w')
    (h : WpE P o (a.put dst v) w K QF) : WpE P o a w K' QF := by
  unfold WpE at *
  rw [he] at h
  generalize (execOp a.eval o).run P w = r at *
  cases r with
  | ok n w' =>
    cases n <;> simp only [Oper.uponIn] at h ⊢
    case value u => exact hk _ _ u rfl h
    case skip => exact hk _ _ undef rfl h
    case defer d => exact hd _ _ _ h
    case enter f args => exact ⟨h.1, CallsIn.mono h.2 fun e w'' he => by cases e <;> first | exact hk _ _ _ rfl he | exact he.elim | exact (by obtain ⟨_, _, hf⟩ := he; exact hf.elim)⟩
    case round l f tm x y => exact ⟨h.1, RoundIn.mono h.2 fun e w'' he => by cases e <;> first | exact hk _ _ _ rfl he | exact he.elim | exact (by obtain ⟨_, _, hf⟩ := he; exact hf.elim)⟩
    case row row args => exact ⟨h.1, RowsIn.mono h.2 fun u w'' he => hk _ _ _ rfl he⟩
  | halt x w' => cases x <;> simp only [Oper.uponIn] at h ⊢ <;> exact h.elim

theorem wpOpC_put {lvl : Nat} {Mf : Nat → Prop} {ops : Array Oper} {j : Nat} {oi oj : Oper} {v : Value} (hj : ops[j]? = some oj) (hap : oi.apart ops oj = true) (hc : clsOf oj.op ≤ lvl)
    (hsi : ∀ cs b, oi.op ≠ .select cs b) (hsj : ∀ cs b, oj.op ≠ .select cs b) {K : Act → World → Prop}
    (hy : YieldsR P lvl Mf ops oi v a w) (h : wpOpC P Mf ops j K (a.put oi.dst v) w) :
    wpOpC P Mf ops j (fun a' w' => YieldsR P lvl Mf ops oi v a' w' ∧ K (a'.put oi.dst v) w') a w := by
  obtain ⟨h1, h2, h3⟩ := Oper.apart_spec hap
  have keep : ∀ (a : Act) (w : World), YieldsR P lvl Mf ops oi v a w → ∀ u, YieldsR P lvl Mf ops oi v (a.put oj.dst u) w := fun a w hy u =>
    hy.of_same (execOp_put oi hsi a oj.dst u h3) (wanted_put oi a oj.dst u h3)
  unfold wpOpC at *
  simp only [hj] at *
  unfold WpC at *
  rw [wanted_put oj a oi.dst v h1] at h
  split
  · rename_i hw
    rw [if_pos hw] at h
    refine ⟨h.1, wp_put (execOp_put oj hsj a oi.dst v h1) (fun a' w' u ha' hh => ?_) (fun d u w' hh => ?_) h.2⟩
    · subst ha'
      exact ⟨hh.1, keep a w' (hy.later (.of_chg hh.1 hc)) u, by rw [← Act.put_comm a v u h2]; exact hh.2⟩
    · refine ⟨hh.1, keep _ _ ((hy.later (.of_chg hh.1 hc)).of_same (a' := { a with defers := d :: a.defers }) rfl rfl) _, ?_⟩
      rw [← Act.put_comm _ v u h2, ← Act.put_defers]
      exact hh.2
  · rename_i hw
    rw [if_neg hw] at h
    exact ⟨keep a w hy _, by rw [← Act.put_comm a v undef h2]; exact h⟩

theorem wpAnyC_first {lvl : Nat} {Mf : Nat → Prop} {ops : Array Oper} {QN : Act → World → Prop} {i : Nat} {oi : Oper} {v : Value} {B : Nat → Bool} (hi : ops[i]? = some oi) (hsel : ∀ (j : Nat) (o : Oper) cs b, ops[j]? = some o → o.op ≠ .select cs b) :
    ∀ (fuel : Nat) (listed : Array Bool) (a : Act) (w : World),
      (∀ j oj, ops[j]? = some oj → j ≠ i → listed.getD j true = false → B j = false → (∀ e ∈ oj.after, Region.binds .any e = true → e.on ≠ i) → oi.apart ops oj = true ∧ clsOf oj.op ≤ lvl) →
      (∀ j, B j = true → listed.getD j true = false ∧ ∃ oj, ops[j]? = some oj ∧ ∃ e ∈ oj.after, Region.binds .any e = true ∧ (e.on = i ∨ B e.on = true)) →
      i ∈ Region.ready .any ops listed → YieldsR P lvl Mf ops oi v a w →
      wpAnyC P Mf ops QN fuel (listed.setIfInBounds i true) (a.put oi.dst v) w → wpAnyC P Mf ops QN (fuel + 1) listed a w := by
  intro fuel
  induction fuel with
  | zero =>
    intro listed a w _ _ hr hy H
    refine ⟨fun h => (by rw [h] at hr; cases hr), fun j hj => ?_⟩
    by_cases hji : j = i
    · subst hji; exact hy.wpOpC hi H
    · have := ready_mono hj hji
      rw [H.1] at this
      cases this
  | succ fuel ih =>
    intro listed a w hfree hB hr hy H
    refine ⟨fun h => (by rw [h] at hr; cases hr), fun j hj => ?_⟩
    by_cases hji : j = i
    · subst hji; exact hy.wpOpC hi H
    · have h1 := H.2 j (ready_mono hj hji)
      obtain ⟨hjun, oj, hoj, hall⟩ := mem_ready.1 hj
      have hnot : ∀ e ∈ oj.after, Region.binds .any e = true → e.on ≠ i := fun e he hb heq => by
        have h1 := hall e he hb
        have h0 := (mem_ready.1 hr).1
        rw [heq] at h1
        rcases Nat.lt_or_ge i listed.size with h' | h'
        · simp [h'] at h0 h1; rw [h0] at h1; cases h1
        · simp [Array.getElem?_eq_none h'] at h1
      have hnB : B j = false := by
        cases hb : B j with
        | false => rfl
        | true =>
          obtain ⟨_, oj', ho', e, he, hbd, h4⟩ := hB j hb
          rw [hoj] at ho'; cases ho'
          rcases h4 with h4 | h4
          · exact (hnot e he hbd h4).elim
          · have h5 := (hB _ h4).1
            have h6 := hall e he hbd
            rcases Nat.lt_or_ge e.on listed.size with h' | h'
            · simp [h'] at h5 h6; rw [h5] at h6; cases h6
            · simp [Array.getElem?_eq_none h'] at h6
      obtain ⟨hap, hcl⟩ := hfree j oj hoj hji hjun hnB hnot
      have h2 := wpOpC_put hoj hap hcl (fun cs b => hsel i oi cs b hi) (fun cs b => hsel j oj cs b hoj) hy h1
      have hB' : ∀ k, B k = true → (listed.setIfInBounds j true).getD k true = false ∧ ∃ oj, ops[k]? = some oj ∧ ∃ e ∈ oj.after, Region.binds .any e = true ∧ (e.on = i ∨ B e.on = true) := fun k hk => by
        refine ⟨?_, (hB k hk).2⟩
        have hjk : j ≠ k := by rintro rfl; rw [hnB] at hk; cases hk
        rw [getD_set_ne true hjk]; exact (hB k hk).1
      have hfree' : ∀ k ok, ops[k]? = some ok → k ≠ i → (listed.setIfInBounds j true).getD k true = false → B k = false →
          (∀ e ∈ ok.after, Region.binds .any e = true → e.on ≠ i) → oi.apart ops ok = true ∧ clsOf ok.op ≤ lvl := fun k ok hk hki hun hb hno => by
        refine hfree k ok hk hki ?_ hb hno
        by_cases hjk : j = k
        · subst hjk; exact hjun
        · rw [getD_set_ne true hjk] at hun; exact hun
      refine wpOpC_mono (fun a' w' h3 => ih (listed.setIfInBounds j true) a' w' hfree' hB' (ready_mono hr (Ne.symm hji)) h3.1 ?_) h2
      rw [Array.setIfInBounds_comm _ _ hji]
      exact h3.2

end Go.KC
