/- LAYER 14: plain: who takes entries, or a state, keeps what all agree on. -/
import Derived.Test.YtbodlapndgnkgaaKno28
set_option linter.all false
set_option linter.constructorNameAsVariable false
namespace Go.Proofs
open Go Go.KC
theorem Chn.mono' {L : Int → List En} {g : List En} (h : Chn L g) (ltm : ∀ t, ∀ e ∈ L t, e.term ≤ t) {x y : Nat} {e f : En} (hx : g[x]? = some e) (hy : g[y]? = some f) (hxy : x ≤ y) : e.term ≤ f.term := by
  have s := h y f hy
  exact ltm _ e (List.mem_of_getElem? (i := x) (by rw [← s.get (by omega)]; exact hx))
theorem sam_take {g : List En} {q k : Nat} (h1 : k ≤ q) (h2 : k ≤ g.length) : Sam (g.take q) g k := ⟨by rw [List.length_take]; omega, h2, by rw [List.take_take, Nat.min_eq_left h1]⟩
section
variable {w : Wd} {G L : Int → List En} {m : Mg} {k : Int} {n : Nd}
theorem tk_Pt {n' : Nd} {g' : List En} {ok : Bool} {ix : Int} (S : Sn w G L m.to n) (ht : n'.term = n.term) (hr : n'.role = 0) (nd : Of g' n'.base n'.bt n'.es) (bc : n'.base ≤ n'.com ∧ n'.com ≤ (g'.length : Int)) (ch : Chn L g') (tms : ∀ e ∈ g', e.term ≤ n.term)
    (rt : ∀ (k : Nat) (e : En), g'[k]? = some e → e.index = (k : Int) + 1 ∧ e.Right) (kp : ∀ t k, Sam (G m.to) (L t) k → (t = n.term ∨ (L n.term ≠ [] → Sam (L n.term) (L t) k)) → Sam g' (L t) k)
    (cm : CmP w.sent L g' n.term n'.com) (m3 : ok = true → ∀ k : Nat, (k : Int) ≤ ix → Sam g' (L n.term) k) : Pt w G L L m.to n' [ans n m 3 ok ix] g' := by
  have hp : ∀ t, L t <+: L t := fun t => List.prefix_refl _
  refine ⟨by rw [ht]; exact S.tm, fun h => by omega, fun t => Or.inl rfl, fun h => by omega, nd, bc, ch, by rw [ht]; exact tms, rt, by rw [ht]; exact kp, by rw [ht]; exact cm.mono hp (List.prefix_refl _) (Int.le_refl _), fun h => by omega, ?_, ?_, ?_, ?_, ?_, ?_⟩
  all_goals
    intro m' h
    have e0 : m' = ans n m 3 ok ix := by simpa using h
    subst e0
  · exact ⟨S.id, by rw [ht]; exact Int.le_refl _⟩
  · intro h; have h : (3 : Int) = 0 := h; omega
  · intro h; have h : (3 : Int) = 1 := h; omega
  · intro _ o
    rw [ht]
    exact ⟨rfl, m3 o⟩
  · intro h; have h : (3 : Int) = 2 := h; omega
  · intro h; have h : (3 : Int) = 4 := h; omega
theorem stay_Pt {n' : Nd} {ok : Bool} {ix : Int} (A : Ag w G L) (hi : in3 m.to) (S : Sn w G L m.to n) (ht : n'.term = n.term) (hr : n'.role = n.role ∨ n'.role = 0) (hb : n'.base = n.base) (hbt : n'.bt = n.bt) (he : n'.es = n.es) (hc : n'.com = n.com) (hmt : ∀ j, n'.mt j = n.mt j)
    (m3 : ok = true → ∀ k : Nat, (k : Int) ≤ ix → Sam (G m.to) (L n.term) k) : Pt w G L L m.to n' [ans n m 3 ok ix] (G m.to) := by
  refine S.pt A hi ht hr hb hbt he hc hmt ?_ ?_ ?_ ?_
  all_goals
    intro m' h
    have e0 : m' = ans n m 3 ok ix := by simpa using h
    subst e0
  · exact ⟨S.id, Int.le_refl _⟩
  · exact Or.inr rfl
  · intro h; have h : (3 : Int) = 1 := h; omega
  · intro _ o; exact ⟨rfl, m3 o⟩
theorem merged_Pt {es' : List En} {q p : Nat} {G' : List En} {T : Int} {n' : Nd} {c : Int} (A : Ag w G L) (hi : in3 m.to) (S : Sn w G L m.to n) (hT : n.term = T) (hne : L T ≠ []) (hcm : CmP w.sent L (L T) T c) (o : Of G' n.base n.bt es')
    (hd : (G' = G m.to ∧ Sam (G m.to) (L T) q) ∨ (G' = (L T).take q ∧ ∀ k, Sam (G m.to) (L T) k → k ≤ q)) (hpq : p ≤ q) (hpl : p ≤ (L T).length)
    (ht : n'.term = n.term) (hr : n'.role = 0) (hb : n'.base = n.base) (hbt : n'.bt = n.bt) (he : n'.es = es') (hc : n'.com = max n.com (min c (p : Int))) : Pt w G L L m.to n' [ans n m 3 true (p : Int)] G' := by
  subst hT
  have sT : ∀ k, Sam (G m.to) (L n.term) k → Sam G' (L n.term) k := fun k s => by
    rcases hd with ⟨e, _⟩ | ⟨e, h⟩
    · rw [e]; exact s
    · rw [e]; exact sam_take (h k s) s.2.1
  have sp : Sam G' (L n.term) p := by
    rcases hd with ⟨e, h⟩ | ⟨e, h⟩
    · rw [e]; exact h.le hpq
    · rw [e]; exact sam_take hpq hpl
  have hcom := A.lead S.cm (Int.le_refl _) hne
  have hbc := S.bc
  refine tk_Pt S ht hr (by rw [hb, hbt, he]; exact o) ?_ ?_ ?_ ?_ ?_ ?_ ?_
  · have h1 := (sT _ hcom).1
    have h2 := sp.1
    rw [hb, hc]
    omega
  · rcases hd with ⟨e, _⟩ | ⟨e, _⟩
    · rw [e]; exact A.ch m.to hi
    · rw [e]; exact (A.lch _).take _
  · intro e he
    rcases hd with ⟨h, _⟩ | ⟨h, _⟩
    · rw [h] at he; exact Int.le_trans (A.tms m.to hi e he) S.tm
    · rw [h] at he; exact A.ltm _ e (List.mem_of_mem_take he)
  · intro k e he
    rcases hd with ⟨h, _⟩ | ⟨h, _⟩
    · rw [h] at he; exact A.rt hi k e he
    · rw [h, List.getElem?_take] at he
      split at he
      · exact A.lrt _ k e he
      · cases he
  · intro t k s h
    have a : Sam (L n.term) (L t) k := by
      rcases h with rfl | h
      · exact Sam.refl s.2.1
      · exact h hne
    exact (sT k (s.trans a.symm)).trans a
  · rw [hc]
    by_cases c1 : min c (p : Int) ≤ n.com
    · have e : max n.com (min c (p : Int)) = n.com := by omega
      rw [e]
      rcases S.cm with h | ⟨t, k, a, b, d, e⟩
      · exact Or.inl h
      · exact Or.inr ⟨t, k, a, b, d, (sT _ hcom).trans (hcom.symm.trans e)⟩
    · have e : max n.com (min c (p : Int)) = min c (p : Int) := by omega
      rw [e]
      rcases hcm.le (c' := min c (p : Int)) (by omega) with h | ⟨t, k, a, b, d, e⟩
      · exact Or.inl h
      · exact Or.inr ⟨t, k, a, b, d, (sp.le (by omega)).trans e⟩
  · intro _ k hk
    exact sp.le (by omega)
theorem take_Pt (A : Ag w G L) (hm : m ∈ w.sent) (hi : in3 m.to) (S : Sn w G L m.to n) (hk : m.kind = 2 ∨ m.kind = 4) (B : m.Bd k) (hk2 : k ≤ 1000000) : ∃ g', Pt w G L L m.to (n.turn m).1 (n.turn m).2.1 g' := by
  have o := S.nd
  have ob := o.bb
  have ol := o.len
  have hbc := S.bc
  unfold Nd.turn
  rw [if_neg (by omega), if_neg (by omega), if_neg (by omega), if_pos hk]
  by_cases c : m.term = n.term ∧ n.role ≠ 2
  rotate_left
  · rw [if_neg c]
    exact ⟨_, stay_Pt A hi S rfl (Or.inl rfl) rfl rfl rfl rfl (fun _ => rfl) fun h => by cases h⟩
  rw [if_pos c]
  obtain ⟨hT, _⟩ := c
  have stay : ∀ (ok : Bool) (ix : Int), (ok = true → ∀ k : Nat, (k : Int) ≤ ix → Sam (G m.to) (L n.term) k) → Pt w G L L m.to { n with role := 0, quiet := 0 } [ans n m 3 ok ix] (G m.to) :=
    fun ok ix h => stay_Pt (n' := { n with role := 0, quiet := 0 }) A hi S rfl (Or.inr rfl) rfl rfl rfl rfl (fun _ => rfl) h
  rcases hk with hk | hk
  · have et : ({ n with role := 0, quiet := 0 } : Nd).take m = if (mergeL n.base n.bt n.es m.index m.lt m.es).2 = true then ({ n with role := 0, quiet := 0, es := (mergeL n.base n.bt n.es m.index m.lt m.es).1, com := max n.com (min m.com (w64 (m.index + m.es.length))) }, (true, w64 (m.index + m.es.length)), false) else ({ n with role := 0, quiet := 0 }, (false, ({ n with role := 0, quiet := 0 } : Nd).last), false) := by
      unfold Nd.take
      rw [if_neg (by omega)]
    rw [et]
    obtain ⟨hne, ⟨p, z, hp, hes, hpz, hlt⟩, hcm⟩ := A.snd m hm hk
    rw [hT] at hne hes hpz hlt hcm
    have lch := A.lch n.term
    have elen : m.es.length = z := by rw [hes, List.length_take, List.length_drop]; omega
    have hle := B.le
    have ew : w64 (m.index + m.es.length) = ((p + z : Nat) : Int) := by rw [w64_id (by omega) (by omega)]; omega
    have get : ∀ j (hj : j < m.es.length), (L n.term)[p + j]? = some m.es[j] := fun j hj => by
      have h : m.es[j]? = some m.es[j] := List.getElem?_eq_getElem hj
      rw [← h]
      rw [hes, List.getElem?_take, if_pos (by omega), List.getElem?_drop]
    have hR : RowsOf m.es (m.index + 1) := fun j hj => by
      have h := A.lrt n.term _ _ (get j hj)
      refine ⟨h.2, ?_, fun h0 => ?_⟩
      · rw [h.1, hp, w64_id (by omega) (by omega)]; omega
      · exact lch.mono' A.ltm (get (j - 1) (by omega)) (get j hj) (by omega)
    have hix := fun k e h => (A.lrt n.term k e h).1
    have fin : ∀ es' : List En, ∀ q G', Of G' n.base n.bt es' → ((G' = G m.to ∧ Sam (G m.to) (L n.term) q) ∨ (G' = (L n.term).take q ∧ ∀ k, Sam (G m.to) (L n.term) k → k ≤ q)) → p + z ≤ q → mergeL n.base n.bt n.es m.index m.lt m.es = (es', true) →
        ∃ g', Pt w G L L m.to { n with role := 0, quiet := 0, es := (mergeL n.base n.bt n.es m.index m.lt m.es).1, com := max n.com (min m.com (w64 (m.index + m.es.length))) } [ans n m 3 true (w64 (m.index + m.es.length))] g' := by
      intro es' q G' oo hd hq e
      rw [ew]
      refine ⟨G', merged_Pt A hi S rfl hne hcm oo hd hq hpz rfl rfl rfl rfl ?_ rfl⟩
      show (mergeL n.base n.bt n.es m.index m.lt m.es).1 = es'
      rw [e]
    by_cases cb : m.index < n.base
    · have hcom := A.lead S.cm (Int.le_refl _) hne
      have sb : Sam (G m.to) (L n.term) n.base.toNat := hcom.le (by omega)
      have sb2 := sb.2.1
      have em : mergeL n.base n.bt n.es m.index m.lt m.es = (foldM n.base n.bt n.es (m.es.drop (n.base - m.index).toNat), true) := by
        unfold mergeL; rw [if_pos hR, if_pos cb]
        unfold mergeIn
        have : termAt n.base n.bt n.es n.base = (n.bt, true) := by unfold termAt; rw [if_pos rfl]
        rw [if_pos this]
      have ed : m.es.drop (n.base - m.index).toNat = ((L n.term).drop n.base.toNat).take (z - (n.base - m.index).toNat) := by
        rw [hes, List.drop_take, List.drop_drop]
        congr 2; omega
      obtain ⟨G', h1, h2⟩ := fold_log lch hix (z - (n.base - m.index).toNat) n.base.toNat (G m.to) n.es o (A.ch m.to hi) sb (by omega) (by omega)
      rw [ed] at em
      have e2 : (mergeL n.base n.bt n.es m.index m.lt m.es).2 = true := by rw [em]
      rw [if_pos e2]
      exact fin _ _ G' h1 h2 (by omega) em
    · by_cases cm : termAt n.base n.bt n.es m.index = (m.lt, true)
      · have em : mergeL n.base n.bt n.es m.index m.lt m.es = (foldM n.base n.bt n.es m.es, true) := by
          unfold mergeL; rw [if_pos hR, if_neg cb]
          unfold mergeIn
          rw [if_pos cm]
        have sp : Sam (G m.to) (L n.term) p := by
          rw [o.at] at cm
          split at cm
          · rename_i h2
            have cm := (Prod.mk.inj cm).1
            have e3 : m.index.toNat = p := by omega
            rw [e3, hlt] at cm
            cases p with
            | zero => exact Sam.zero
            | succ p =>
              have hg : p < (G m.to).length := by omega
              have hl : p < (L n.term).length := by omega
              rw [tmAt_get (List.getElem?_eq_getElem hg), tmAt_get (List.getElem?_eq_getElem hl)] at cm
              exact (A.ch m.to hi).meet lch (List.getElem?_eq_getElem hg) (List.getElem?_eq_getElem hl) cm
          · simp at cm
        obtain ⟨G', h1, h2⟩ := fold_log lch hix z p (G m.to) n.es o (A.ch m.to hi) sp (by omega) hpz
        rw [← hes] at h1
        have e2 : (mergeL n.base n.bt n.es m.index m.lt m.es).2 = true := by rw [em]
        rw [if_pos e2]
        exact fin _ _ G' h1 h2 (by omega) em
      · have em : mergeL n.base n.bt n.es m.index m.lt m.es = (n.es, false) := by
          unfold mergeL; rw [if_pos hR, if_neg cb]
          unfold mergeIn
          rw [if_neg cm]
        have e2 : ¬ (mergeL n.base n.bt n.es m.index m.lt m.es).2 = true := by rw [em]; simp
        rw [if_neg e2]
        exact ⟨_, stay false _ fun h => by cases h⟩
  · cases hst : m.st with
    | none =>
      have et : ({ n with role := 0, quiet := 0 } : Nd).take m = ({ n with role := 0, quiet := 0 }, (false, ({ n with role := 0, quiet := 0 } : Nd).last), false) := by
        unfold Nd.take; rw [if_pos hk, hst]
      rw [et]
      exact ⟨_, stay false _ fun h => by cases h⟩
    | some st =>
      obtain ⟨x, t⟩ := st
      obtain ⟨hne, h0, hxl, htm, hcm⟩ := A.ins m hm hk x t hst
      rw [hT] at hne hxl htm hcm
      have hcom := A.lead S.cm (Int.le_refl _) hne
      have et : ({ n with role := 0, quiet := 0 } : Nd).take m = if x ≤ n.com ∨ ((n.at x).2 = true ∧ (n.at x).1 = t) then ({ n with role := 0, quiet := 0 }, (true, x), false) else ({ n with role := 0, quiet := 0, base := x, bt := t, es := [], com := x }, (true, x), true) := by
        unfold Nd.take; rw [if_pos hk, hst]
        rfl
      rw [et]
      have ata : (n.at x).2 = true → (n.at x).1 = t → Sam (G m.to) (L n.term) x.toNat := by
        unfold Nd.at
        rw [o.at]
        split
        · rename_i h2
          intro _ e
          have e : tmAt (G m.to) x.toNat = t := e
          rw [htm] at e
          generalize hq : x.toNat = p at *
          cases p with
          | zero => exact Sam.zero
          | succ p =>
            have hg : p < (G m.to).length := by omega
            have hl : p < (L n.term).length := by omega
            rw [tmAt_get (List.getElem?_eq_getElem hg), tmAt_get (List.getElem?_eq_getElem hl)] at e
            exact (A.ch m.to hi).meet (A.lch n.term) (List.getElem?_eq_getElem hg) (List.getElem?_eq_getElem hl) e
        · intro h; simp at h
      by_cases cx : x ≤ n.com ∨ ((n.at x).2 = true ∧ (n.at x).1 = t)
      · rw [if_pos cx]
        refine ⟨_, stay true x fun _ k hk => ?_⟩
        rcases cx with cx | ⟨c1, c2⟩
        · exact hcom.le (by omega)
        · exact (ata c1 c2).le (by omega)
      · rw [if_neg cx]
        have mx : ∀ k, Sam (G m.to) (L n.term) k → k ≤ x.toNat := fun k s => by
          by_cases c3 : k ≤ x.toNat
          · exact c3
          · exfalso
            apply cx
            right
            have s1 := s.le (j := x.toNat) (by omega)
            have hx := s1.1
            unfold Nd.at
            rw [o.at, if_pos (by omega)]
            exact ⟨rfl, by show tmAt _ _ = t; rw [s1.tm, htm]⟩
        refine ⟨(L n.term).take x.toNat, tk_Pt (n' := { n with role := 0, quiet := 0, base := x, bt := t, es := [], com := x }) S rfl rfl ?_ ?_ ((A.lch _).take _) (fun e he => A.ltm _ e (List.mem_of_mem_take he)) ?_ ?_ ?_ fun _ k hk => by
          have hk : (k : Int) ≤ x := hk
          exact sam_take (by omega) (by omega)⟩
        · refine ⟨⟨h0, by show x ≤ _; rw [List.length_take]; omega⟩, ?_, ?_⟩
          · show t = tmAt _ x.toNat
            rw [htm]; exact (sam_take (Nat.le_refl _) (by omega)).symm.tm
          · show [] = List.drop x.toNat _
            rw [List.drop_eq_nil_of_le (by rw [List.length_take]; omega)]
        · refine ⟨Int.le_refl _, ?_⟩
          show x ≤ _
          rw [List.length_take]; omega
        · intro k e he
          rw [List.getElem?_take] at he
          split at he
          · exact A.lrt _ k e he
          · cases he
        · intro t' k s h
          have a : Sam (L n.term) (L t') k := by
            rcases h with rfl | h
            · exact Sam.refl s.2.1
            · exact h hne
          exact (sam_take (mx k (s.trans a.symm)) a.1).trans a
        · show CmP _ _ _ _ x
          rcases hcm with h | ⟨t', k, a, b, d, e⟩
          · exact Or.inl h
          · exact Or.inr ⟨t', k, a, b, d, (sam_take (Nat.le_refl _) (by omega)).trans e⟩
end
end Go.Proofs
