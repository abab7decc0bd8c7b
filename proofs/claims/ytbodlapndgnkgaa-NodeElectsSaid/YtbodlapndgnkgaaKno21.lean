/- LAYER 14: a call beside a block that it does not see; a map of leaders beside the world. -/
import Derived.Test.YtbodlapndgnkgaaKno19
import Derived.Test.YtbodlapndgnkgaaKgm1
set_option linter.all false
set_option linter.constructorNameAsVariable false
set_option maxRecDepth 100000
namespace Go.Proofs
open Go Go.KC
/-- A call that answers without a block leaves the block alone. -/
theorem SCalls.beside {P : Program} {f : FuncId} {args : List Value} {H : Hp} {Q : Value → Hp → Prop} {mb : Nat} {o : Obj} (hb : H[mb]? = some o) (ho : o ≠ hole)
    (h : SCalls P f args (H.setIfInBounds mb hole) Q) : SCalls P f args H fun r H' => Q r (H'.setIfInBounds mb hole) ∧ H'[mb]? = some o ∧ H.size ≤ H'.size := by
  intro M w hh
  have hlt : mb < H.size := lt_of_get hb
  obtain ⟨hm, hw⟩ := hh.of_some hb ho
  have hs := hh.size
  refine (h (fun b => M b ∨ b = mb) w ⟨by rw [Array.size_setIfInBounds]; exact hs, ?_, ?_, ?_⟩).mono ?_
  · rintro b (hb' | rfl)
    · exact hh.lt b hb'
    · omega
  · intro b hn
    rw [Array.getElem?_setIfInBounds, if_neg (fun e => hn (Or.inr e.symm))]
    exact hh.same b fun e => hn (Or.inl e)
  · rintro b hb'
    rw [Array.getElem?_setIfInBounds]
    by_cases e : mb = b
    · rw [if_pos e, if_pos (e ▸ hlt)]
    · rw [if_neg e]
      exact hh.hid b (hb'.resolve_right fun x => e x.symm)
  · rintro e w' ⟨r, H', M', he, ha, hM, hd, hq⟩
    have hsz := ha.size
    have hsz' := hd.size
    have hlt' : mb < H'.size := by omega
    have hmb : M' mb := (hM mb (by omega)).2 (Or.inr rfl)
    refine ⟨r, H'.setIfInBounds mb o, fun b => M' b ∧ b ≠ mb, he, ⟨ha.strm, ha.size, fun b hb' => ha.keep b (Or.inl hb')⟩, ?_, ⟨by rw [Array.size_setIfInBounds]; exact hsz', fun b hb' => hd.lt b hb'.1, ?_, ?_⟩, ?_, ?_, ?_⟩
    · intro b hb'
      have := hM b hb'
      constructor
      · rintro ⟨h1, h2⟩; exact (this.1 h1).resolve_right h2
      · intro h1; exact ⟨this.2 (Or.inl h1), fun e => hm (e ▸ h1)⟩
    · intro b hn
      rw [Array.getElem?_setIfInBounds]
      by_cases e : mb = b
      · subst e; rw [if_pos rfl, if_pos hlt', ha.keep mb (Or.inr rfl), hw]
      · rw [if_neg e]
        exact hd.same b fun x => hn ⟨x, fun y => e y.symm⟩
    · rintro b ⟨h1, h2⟩
      rw [Array.getElem?_setIfInBounds, if_neg fun e => h2 e.symm]
      exact hd.hid b h1
    · have e : (H'.setIfInBounds mb o).setIfInBounds mb hole = H' := by
        apply Array.ext_getElem?
        intro i
        rw [Array.getElem?_setIfInBounds, Array.getElem?_setIfInBounds]
        by_cases e : mb = i
        · subst e
          rw [if_pos rfl, Array.size_setIfInBounds, if_pos hlt', hd.hid mb hmb]
        · rw [if_neg e, if_neg e]
      rw [e]; exact hq
    · rw [Array.getElem?_setIfInBounds, if_pos rfl, if_pos hlt']
    · rw [Array.size_setIfInBounds]; omega
/-- The heap without a block. -/
def wo (H : Hp) (mb : Nat) : Hp := H.setIfInBounds mb hole
theorem wo_to {H : Hp} {mb : Nat} : Mod (· = mb) H (wo H mb) := ⟨by simp [wo], fun b _ hb => by unfold wo; rw [Array.getElem?_setIfInBounds, if_neg (fun e => hb e.symm)]⟩
theorem wo_of {H : Hp} {mb : Nat} : Mod (· = mb) (wo H mb) H := ⟨by simp [wo], fun b _ hb => by unfold wo; rw [Array.getElem?_setIfInBounds, if_neg (fun e => hb e.symm)]⟩
theorem wo_mod {H H' : Hp} {mb : Nat} (h : Mod (· = mb) H H') : Mod (fun _ => False) (wo H mb) (wo H' mb) := ⟨by have := h.size; simpa [wo] using this, fun b hb _ => by
  have hb' : b < H.size := by simpa [wo] using hb
  have := h.size
  unfold wo
  rw [Array.getElem?_setIfInBounds, Array.getElem?_setIfInBounds]
  by_cases e : mb = b
  · rw [if_pos e, if_pos e, if_pos (by omega), if_pos (by omega)]
  · rw [if_neg e, if_neg e]; exact h.keep b hb' fun x => e x.symm⟩
theorem WH.to {H0 H H' : Hp} {b : Nat} {w : Wd} (o : WH H0 H b w) (m : Mod (fun _ => False) H H') : WH H0 H' b w := by
  obtain ⟨xa, xb, xc, sy, l, o⟩ := o
  exact ⟨xa, xb, xc, sy, l, o.to m⟩
/-- The leaders that a law has seen. -/
def GL (H : Hp) (r : Nat) (f : Int → Option Value) : Prop := ∃ n, GM (fun k : Int => .int .i64 k) H r f n
theorem GL.keep {m : Nat → Prop} {H H' : Hp} {r : Nat} {f : Int → Option Value} (h : GL H r f) (hm : Mod m H H') (hr : ¬ m r) : GL H' r f := by
  obtain ⟨n, h⟩ := h; exact ⟨n, h.keep hm hr⟩
theorem GL.obj {H : Hp} {r : Nat} {f : Int → Option Value} (h : GL H r f) : ∃ o, H[r]? = some o ∧ o ≠ hole := by
  obtain ⟨n, es, c, h1, _⟩ := h
  exact ⟨_, h1, fun e => by unfold hole at e; injection e⟩
theorem GL.same {H H' : Hp} {r : Nat} {f : Int → Option Value} (h : GL H r f) {o : Obj} (h1 : H[r]? = some o) (h2 : H'[r]? = some o) : GL H' r f := by
  obtain ⟨n, es, c, h3, h4⟩ := h
  exact ⟨n, es, c, by rw [h2, ← h1]; exact h3, h4⟩
/-- Each one was elected. -/
def AllLd (s : List Mg) (f : Int → Option Value) : Prop := ∀ t v, f t = some v → ∃ i, v = .int .i64 i ∧ Ld s t i
theorem AllLd.left {s ms : List Mg} {f : Int → Option Value} (h : AllLd s f) : AllLd (s ++ ms) f := fun t v e => by
  obtain ⟨i, a, b⟩ := h t v e; exact ⟨i, a, b.left⟩
theorem AllLd.put {s : List Mg} {f : Int → Option Value} (h : AllLd s f) {t i : Int} (hl : Ld s t i) : AllLd s (upd f t (some (.int .i64 i))) := fun t' v e => by
  unfold upd at e
  split at e
  · rename_i c; subst c
    exact ⟨i, (Option.some.inj e).symm, hl⟩
  · exact h t' v e
theorem fold_El : ∀ (ds : List Ac) (w : Wd) (k : Nat), k + ds.length ≤ 1000 → w.Bd k → El w → El (ds.foldl Wd.act w)
  | [], w, k, _, _, h => h
  | a :: ds, w, k, hk, B, h => by
    rw [List.length_cons] at hk
    have h1 := act_bd (a := a) B (by omega)
    exact fold_El ds (w.act a) (k + 1) (by omega) (by simpa using h1) (act_El h B)
theorem wd_El {ds : List Ac} (h : ds.length ≤ 1000) : El (wd ds) := fold_El ds w0 0 (by omega) w0_bd w0_El
end Go.Proofs
