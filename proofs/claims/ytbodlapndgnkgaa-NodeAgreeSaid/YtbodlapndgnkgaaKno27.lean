/- LAYER 14: plain: the deeds that keep a log, and a leader's: each keeps what all agree on. -/
import Derived.Test.YtbodlapndgnkgaaKno26
set_option linter.all false
set_option linter.constructorNameAsVariable false
namespace Go.Proofs
open Go Go.KC
theorem CmP.term {s : List Mg} {L : Int → List En} {g : List En} {T T' c : Int} (h : CmP s L g T c) (hT : T ≤ T') : CmP s L g T' c := by
  rcases h with h | ⟨t, k, a, b, d, e⟩
  · exact Or.inl h
  · exact Or.inr ⟨t, k, a, b, Int.le_trans d hT, e⟩
theorem CmP.le {s : List Mg} {L : Int → List En} {g : List En} {T c c' : Int} (h : CmP s L g T c) (hc : c' ≤ c) : CmP s L g T c' := by
  rcases h with h | ⟨t, k, a, b, d, e⟩
  · exact Or.inl (by omega)
  · exact Or.inr ⟨t, k, a, by omega, d, e.le (by omega)⟩
section
variable {w : Wd} {G L : Int → List En} {i : Int}
/-- A leader has what is committed in its term or ahead of it. -/
theorem Ag.lead (A : Ag w G L) {g : List En} {T T' c : Int} (h : CmP w.sent L g T' c) (hT : T' ≤ T) (hn : L T ≠ []) : Sam g (L T) c.toNat := by
  rcases h with h | ⟨t, k, a, b, d, e⟩
  · have : c.toNat = 0 := by omega
    rw [this]; exact Sam.zero
  · by_cases c1 : t = T
    · subst c1; exact e
    · have := A.pp T t k hn (by omega) (a.ch _)
      exact e.trans (this.symm.le (by omega))
theorem Ag.rt (A : Ag w G L) (hi : in3 i) (k : Nat) (e : En) (h : (G i)[k]? = some e) : e.index = (k : Int) + 1 ∧ e.Right := by
  have s := A.ch i hi k e h
  exact A.lrt e.term k e (by rw [← s.get (Nat.lt_succ_self k)]; exact h)
theorem Ag.last (A : Ag w G L) (hi : in3 i) : (w.nd i).last = ((G i).length : Int) := (A.nd i hi).len
theorem Ag.lastT (A : Ag w G L) (hi : in3 i) : (w.nd i).lastT = tmAt (G i) (G i).length := by
  have o := A.nd i hi
  have hb := o.bb
  have hl := o.len
  unfold Nd.lastT lastTerm
  rw [o.at, hl, if_pos ⟨by omega, by omega⟩]
  rfl
theorem pt_same {n' : Nd} {ms : List Mg} (A : Ag w G L) (hi : in3 i) (tm : (w.nd i).term ≤ n'.term) (r1 : n'.role = 1 → ((w.nd i).role = 1 ∧ n'.term = (w.nd i).term ∨ (w.nd i).term < n'.term))
    (r2 : n'.role = 2 → (w.nd i).role = 2 ∧ n'.term = (w.nd i).term) (nd : Of (G i) n'.base n'.bt n'.es) (bc : n'.base ≤ n'.com ∧ n'.com ≤ ((G i).length : Int)) (cm : CmP w.sent L (G i) n'.term n'.com)
    (mt : n'.role = 2 → ∀ j, in3 j → ∀ k : Nat, 1 ≤ k → (k : Int) ≤ n'.mt j → AK w.sent L j n'.term k)
    (mf : ∀ m ∈ ms, m.frm = i ∧ m.term ≤ n'.term)
    (m0 : ∀ m ∈ ms, m.kind = 0 → n'.role = 1 ∧ (w.nd i).term < n'.term ∧ m.index = ((G i).length : Int) ∧ m.lt = tmAt (G i) (G i).length)
    (m1 : ∀ m ∈ ms, m.kind = 1 → m.ok = true → in3 m.to ∧ m.to ≠ i ∧ m.term ≤ (w.nd m.to).term ∧ ((w.nd m.to).role = 1 → (w.nd m.to).term = m.term →
      tmAt (G i) (G i).length < tmAt (G m.to) (G m.to).length ∨ tmAt (G i) (G i).length = tmAt (G m.to) (G m.to).length ∧ (G i).length ≤ (G m.to).length))
    (m3 : ∀ m ∈ ms, m.kind = 3 → m.ok = true → m.term = n'.term ∧ ∀ k : Nat, (k : Int) ≤ m.index → Sam (G i) (L n'.term) k)
    (m2 : ∀ m ∈ ms, m.kind = 2 → SndOk w.sent L m) (m4 : ∀ m ∈ ms, m.kind = 4 → InsOk w.sent L m) : Pt w G L L i n' ms (G i) := by
  have hp : ∀ t, L t <+: L t := fun t => List.prefix_refl _
  exact ⟨tm, fun h => ⟨rfl, r1 h⟩, fun t => Or.inl rfl, fun h => by rw [(r2 h).2]; exact A.rl i hi (r2 h).1, nd, bc, A.ch i hi, fun e he => Int.le_trans (A.tms i hi e he) tm, A.rt hi, fun t k s _ => s,
    cm.mono hp (List.prefix_refl _) (Int.le_refl _), fun h j hj k hk hkm => (mt h j hj k hk hkm).mono hp, mf, m0, m1, m3, fun m hm k => (m2 m hm k).mono hp, fun m hm k => (m4 m hm k).mono hp⟩
theorem no_mem {p : Mg → Prop} : ∀ m ∈ ([] : List Mg), p m := fun m h => by cases h
theorem pt_none {n' : Nd} (A : Ag w G L) (hi : in3 i) (tm : (w.nd i).term ≤ n'.term) (r1 : n'.role = 1 → ((w.nd i).role = 1 ∧ n'.term = (w.nd i).term ∨ (w.nd i).term < n'.term))
    (r2 : n'.role = 2 → (w.nd i).role = 2 ∧ n'.term = (w.nd i).term) (nd : Of (G i) n'.base n'.bt n'.es) (bc : n'.base ≤ n'.com ∧ n'.com ≤ ((G i).length : Int)) (cm : CmP w.sent L (G i) n'.term n'.com)
    (mt : n'.role = 2 → ∀ j, in3 j → ∀ k : Nat, 1 ≤ k → (k : Int) ≤ n'.mt j → AK w.sent L j n'.term k) : Pt w G L L i n' [] (G i) :=
  pt_same A hi tm r1 r2 nd bc cm mt no_mem no_mem no_mem no_mem no_mem no_mem
theorem pt_id (A : Ag w G L) (hi : in3 i) : Pt w G L L i (w.nd i) [] (G i) :=
  pt_none A hi (Int.le_refl _) (fun h => Or.inl ⟨h, rfl⟩) (fun h => ⟨h, rfl⟩) (A.nd i hi) (A.bc i hi) (A.cm i hi) (A.mt i hi)
theorem camp_Pt {k : Int} (A : Ag w G L) (B : w.Bd k) (hi : in3 i) : Pt w G L L i (w.nd i).camp.1 (w.nd i).camp.2 (G i) := by
  have hid := (B.nd i hi).id
  unfold Nd.camp
  split
  · exact pt_id A hi
  · refine pt_same A hi (by show _ ≤ (w.nd i).term + 1; omega) (fun _ => Or.inr (by show _ < (w.nd i).term + 1; omega)) (fun h => by simp at h) (A.nd i hi) (A.bc i hi) ((A.cm i hi).term (by show _ ≤ (w.nd i).term + 1; omega)) (fun h => by simp at h) ?_ ?_ ?_ ?_ ?_ ?_
    all_goals
      intro m hm
      obtain ⟨j, hj, rfl⟩ := List.mem_map.1 hm
    · exact ⟨hid, Int.le_refl _⟩
    · exact fun _ => ⟨rfl, by show _ < (w.nd i).term + 1; omega, A.last hi, A.lastT hi⟩
    · exact fun h => by simp at h
    · exact fun h => by simp at h
    · exact fun h => by simp at h
    · exact fun h => by simp at h
theorem beat_Pt {k : Int} (A : Ag w G L) (B : w.Bd k) (hi : in3 i) : Pt w G L L i (w.nd i) ((w.nd i).beat ((w.nd i).com, ((w.nd i).at (w.nd i).com).1)) (G i) := by
  have hid := (B.nd i hi).id
  have o := A.nd i hi
  have hb := o.bb
  have hl := o.len
  have hbc := A.bc i hi
  unfold Nd.beat
  split
  · rename_i hr
    obtain ⟨hg, hne⟩ := A.rl i hi hr
    have hcm := A.cm i hi
    have hne' : L (w.nd i).term ≠ [] := hg ▸ hne
    refine pt_same A hi (Int.le_refl _) (fun h => Or.inl ⟨h, rfl⟩) (fun h => ⟨h, rfl⟩) (A.nd i hi) (A.bc i hi) (A.cm i hi) (A.mt i hi) ?_ ?_ ?_ ?_ ?_ ?_
    all_goals
      intro m hm
      obtain ⟨j, hj, rfl⟩ := List.mem_map.1 hm
      unfold Nd.sendM
    · split <;> exact ⟨hid, Int.le_refl _⟩
    · split <;> exact fun h => by simp at h
    · split <;> exact fun h => by simp at h
    · split <;> exact fun h => by simp at h
    · split
      · rename_i c
        intro _
        unfold Nd.at at c ⊢
        rw [o.at] at c ⊢
        by_cases c2 : (w.nd i).base ≤ (w.nd i).next j - 1 ∧ (w.nd i).next j - 1 ≤ ((G i).length : Int)
        · rw [if_pos c2]
          refine ⟨hne', ⟨((w.nd i).next j - 1).toNat, min 4 ((G i).length - ((w.nd i).next j - 1).toNat), by show (w.nd i).next j - 1 = _; omega, ?_, ?_, ?_⟩, by show CmP _ _ (L (w.nd i).term) (w.nd i).term (w.nd i).com; rw [← hg]; exact hcm⟩
          · show (after _ _ _ 4).1 = ((L (w.nd i).term).drop _).take _
            unfold after
            rw [if_neg (by omega), ← hg, o.es, List.drop_drop]
            have e1 : (w.nd i).base.toNat + ((w.nd i).next j - 1 - (w.nd i).base).toNat = ((w.nd i).next j - 1).toNat := by omega
            rw [e1]
            show List.take 4 _ = _
            rw [List.take_eq_take_min, List.length_drop]
          · show _ ≤ (L (w.nd i).term).length
            rw [← hg]; omega
          · show tmAt _ _ = tmAt (L (w.nd i).term) _
            rw [← hg]
        · rw [if_neg c2] at c; exact absurd c.1 (by simp)
      · exact fun h => by simp at h
    · split
      · exact fun h => by simp at h
      · intro _ x t e
        have e := Option.some.inj e
        have e1 := (Prod.mk.inj e).1
        have e2 := (Prod.mk.inj e).2
        subst e1
        unfold Nd.at at e2
        rw [o.at, if_pos hbc] at e2
        refine ⟨hne', by omega, ?_, ?_, ?_⟩
        · show _ ≤ ((L (w.nd i).term).length : Int)
          rw [← hg]; exact hbc.2
        · show t = tmAt (L (w.nd i).term) _
          rw [← hg]; exact e2.symm
        · show CmP _ _ (L (w.nd i).term) (w.nd i).term _
          rw [← hg]; exact hcm
  · exact pt_id A hi
theorem compact_Pt {k j : Int} (A : Ag w G L) (hi : in3 i) : Pt w G L L i ((w.nd i).compact j) [] (G i) := by
  have o := A.nd i hi
  have hb := o.bb
  have hl := o.len
  have hbc := A.bc i hi
  unfold Nd.compact
  split
  · rename_i hj
    unfold Go.Proofs.compact
    rw [o.at]
    by_cases c : (w.nd i).base ≤ j ∧ j ≤ ((G i).length : Int)
    · rw [if_pos c, if_pos rfl]
      refine pt_none A hi (Int.le_refl _) (fun h => Or.inl ⟨h, rfl⟩) (fun h => ⟨h, rfl⟩) ⟨⟨by show 0 ≤ j; omega, c.2⟩, rfl, ?_⟩ ⟨hj, hbc.2⟩ (A.cm i hi) (A.mt i hi)
      show List.drop _ (w.nd i).es = (G i).drop j.toNat
      rw [o.es, List.drop_drop]; congr 1; omega
    · rw [if_neg c, if_neg (by simp)]
      exact pt_none A hi (Int.le_refl _) (fun h => Or.inl ⟨h, rfl⟩) (fun h => ⟨h, rfl⟩) (A.nd i hi) (A.bc i hi) (A.cm i hi) (A.mt i hi)
  · exact pt_id A hi
theorem restart_Pt (A : Ag w G L) (hi : in3 i) : Pt w G L L i (w.nd i).restart [] (G i) := by
  have hbc := A.bc i hi
  exact pt_none A hi (Int.le_refl _) (fun h => by simp [Nd.restart] at h) (fun h => by simp [Nd.restart] at h) (A.nd i hi) ⟨Int.le_refl _, by show (w.nd i).base ≤ _; omega⟩ ((A.cm i hi).le hbc.1) (fun h => by simp [Nd.restart] at h)
/-- A leader's log, with one entry more. -/
theorem app_Pt {n' : Nd} {e : En} {k : Int} (A : Ag w G L) (E : El w) (E' : El (w.put i n' [])) (B : w.Bd k) (hk : k ≤ 1000000) (hi : in3 i) (ht : n'.term = (w.nd i).term) (hr' : n'.role = 2) (hr : (w.nd i).role = 2 ∨ (w.nd i).role = 1)
    (hb : n'.base = (w.nd i).base) (hbt : n'.bt = (w.nd i).bt) (hc : n'.com = (w.nd i).com) (he : n'.es = (w.nd i).es ++ [e]) (h1 : e.index = (w.nd i).last + 1) (h2 : e.term = (w.nd i).term) (hm : e.cmd.May)
    (hmt : ∀ j, in3 j → n'.mt j ≤ (if j = i then (w.nd i).last + 1 else if (w.nd i).role = 2 then (w.nd i).mt j else 0)) :
    Pt w G L (fun t => if t = (w.nd i).term then G i ++ [e] else L t) i n' [] (G i ++ [e]) := by
  have o := A.nd i hi
  have ob := o.bb
  have ol := o.len
  have hlast := A.last hi
  have Bn := B.nd i hi
  have hT := Bn.term
  have hL := Bn.last
  have g4 := E'.g4 i hi (by rw [put_nd hi hi, if_pos rfl]; exact hr')
  rw [put_nd hi hi, if_pos rfl, ht] at g4
  have L0 : (w.nd i).role = 1 → L (w.nd i).term = [] := fun r => by
    by_cases c : L (w.nd i).term = []
    · exact c
    · exfalso
      obtain ⟨c0, hc0, h⟩ := A.ld _ c
      have : c0 = i := E'.one (t := (w.nd i).term) h.left g4
      subst this
      exact (A.lc _ c0 hc0 c h).2 rfl r
  have lp : L (w.nd i).term <+: G i ++ [e] := by
    rcases hr with hr | hr
    · rw [(A.rl i hi hr).1]
      exact List.prefix_append _ _
    · rw [L0 hr]; exact List.nil_prefix
  have hp : ∀ t, L t <+: (fun t => if t = (w.nd i).term then G i ++ [e] else L t) t := fun t => by
    dsimp only
    by_cases c : t = (w.nd i).term
    · rw [if_pos c, c]; exact lp
    · rw [if_neg c]; exact List.prefix_refl _
  have gp : G i <+: G i ++ [e] := List.prefix_append _ _
  have hne : G i ++ [e] ≠ [] := by simp
  have get : ∀ (k : Nat) (x : En), (G i ++ [e])[k]? = some x → (G i)[k]? = some x ∨ k = (G i).length ∧ x = e := fun k x h => by
    rw [List.getElem?_append] at h
    split at h
    · exact Or.inl h
    · rename_i c
      right
      have hlt := (List.getElem?_eq_some_iff.1 h).1
      have : k - (G i).length = 0 := by simpa using hlt
      rw [this] at h
      exact ⟨by omega, by simpa using h.symm⟩
  refine ⟨by rw [ht]; exact Int.le_refl _, fun h => by omega, ?_, fun _ => ⟨by rw [ht]; simp, hne⟩, ?_, ?_, ?_, ?_, ?_, fun t k s _ => s.ext' gp, ?_, ?_, no_mem, no_mem, no_mem, no_mem, no_mem, no_mem⟩
  · intro t
    by_cases c : t = (w.nd i).term
    · refine Or.inr ⟨by rw [ht]; exact c, hr', by rw [if_pos c], by rw [c]; exact lp, fun hn => ?_⟩
      refine ⟨?_, ht.symm, gp⟩
      rcases hr with hr | hr
      · have := A.rl i hi hr
        rw [c, ← this.1] at hn
        exact absurd hn this.2
      · exact hr
    · exact Or.inl (by rw [if_neg c])
  · rw [hb, hbt, he]
    refine ⟨⟨ob.1, by rw [List.length_append]; simp; omega⟩, ?_, ?_⟩
    · rw [o.bt]; exact (Sam.pre gp (by omega)).tm
    · rw [o.es, List.drop_append_of_le_length (by omega)]
  · rw [hb, hc, List.length_append]
    have := A.bc i hi
    exact ⟨this.1, by simp; omega⟩
  · intro k x h
    rcases get k x h with h | ⟨rfl, rfl⟩
    · exact ((A.ch i hi k x h).ext' gp).ext (hp _)
    · have : (fun t => if t = (w.nd i).term then G i ++ [x] else L t) x.term = G i ++ [x] := by dsimp only; rw [if_pos h2]
      rw [this]
      exact Sam.refl (by simp)
  · intro x hx
    rw [ht]
    rcases List.mem_append.1 hx with hx | hx
    · exact A.tms i hi x hx
    · have : x = e := by simpa using hx
      rw [this, h2]; exact Int.le_refl _
  · intro k x h
    rcases get k x h with h | ⟨rfl, rfl⟩
    · exact A.rt hi k x h
    · refine ⟨by rw [h1]; omega, ?_⟩
      unfold En.Right
      exact ⟨by omega, by omega, by omega, by omega, hm⟩
  · rw [ht, hc]; exact (A.cm i hi).mono hp gp (Int.le_refl _)
  · intro _ j hj k hk1 hkm
    have := hmt j hj
    rw [ht]
    by_cases c : j = i
    · rw [if_pos c] at this
      rw [c]
      refine Or.inr ⟨g4, by dsimp only; rw [if_pos rfl]; exact hne, ?_⟩
      dsimp only
      rw [if_pos rfl, List.length_append]; simp; omega
    · rw [if_neg c] at this
      by_cases c2 : (w.nd i).role = 2
      · rw [if_pos c2] at this
        exact (A.mt i hi c2 j hj k hk1 (by omega)).mono hp
      · rw [if_neg c2] at this; omega
end
end Go.Proofs
