/- LAYER 14: plain: a step, but for what takes entries, keeps what all agree on. -/
import Derived.Test.YtbodlapndgnkgaaKno27
set_option linter.all false
set_option linter.constructorNameAsVariable false
namespace Go.Proofs
open Go Go.KC
theorem setM_mt_ne {n : Nd} {i j v : Int} (hi : in3 i) (hj : in3 j) (h : j ≠ i) : (n.setM i v).mt j = n.mt j := by
  unfold in3 at *
  have h1 : i = 0 ∨ i = 1 ∨ i = 2 := by omega
  have h2 : j = 0 ∨ j = 1 ∨ j = 2 := by omega
  rcases h1 with rfl | rfl | rfl <;> rcases h2 with rfl | rfl | rfl <;> first | exact absurd rfl h | rfl
theorem setN_mt {n : Nd} {i j v : Int} : (n.setN i v).mt j = n.mt j := by unfold Nd.setN; split; · rfl
                                                                          split <;> rfl
theorem setV_mt {n : Nd} {i j : Int} : (n.setV i).mt j = n.mt j := by unfold Nd.setV; split; · rfl
                                                                      split <;> rfl
theorem comGo_is (n : Nd) : ∀ (f : Nat) (i : Int), comGo n f i = n.com ∨ n.com < comGo n f i ∧ comGo n f i ≤ i ∧ quo (decide (n.m0 ≥ comGo n f i)) (decide (n.m1 ≥ comGo n f i)) (decide (n.m2 ≥ comGo n f i)) = true ∧ (n.at (comGo n f i)).1 = n.term
  | 0, i => Or.inl rfl
  | f + 1, i => by
    unfold comGo
    split
    · split
      · rename_i h h2
        exact Or.inr ⟨by omega, Int.le_refl _, h2⟩
      · rcases comGo_is n f (i - 1) with h | h
        · exact Or.inl h
        · exact Or.inr ⟨h.1, by omega, h.2.2⟩
    · exact Or.inl rfl
theorem quo_mt {n : Nd} {c : Int} (h : quo (decide (n.m0 ≥ c)) (decide (n.m1 ≥ c)) (decide (n.m2 ≥ c)) = true) : ∃ v v', in3 v ∧ in3 v' ∧ v ≠ v' ∧ c ≤ n.mt v ∧ c ≤ n.mt v' := by
  have : (n.m0 ≥ c ∧ n.m1 ≥ c) ∨ (n.m0 ≥ c ∧ n.m2 ≥ c) ∨ (n.m1 ≥ c ∧ n.m2 ≥ c) := by
    unfold quo at h
    simp at h
    omega
  rcases this with ⟨a, b⟩ | ⟨a, b⟩ | ⟨a, b⟩
  · exact ⟨0, 1, by unfold in3; omega, by unfold in3; omega, by omega, a, b⟩
  · exact ⟨0, 2, by unfold in3; omega, by unfold in3; omega, by omega, a, b⟩
  · exact ⟨1, 2, by unfold in3; omega, by unfold in3; omega, by omega, a, b⟩
section
variable {w : Wd} {G L : Int → List En} {m : Mg} {k : Int}
/-- What a replica that has seen a message's term still is. -/
structure Sn (w : Wd) (G L : Int → List En) (i : Int) (n : Nd) : Prop where
  id : n.id = i
  tm : (w.nd i).term ≤ n.term
  r1 : n.role = 1 → (w.nd i).role = 1 ∧ n.term = (w.nd i).term ∧ n = w.nd i
  r2 : n.role = 2 → (w.nd i).role = 2 ∧ n.term = (w.nd i).term ∧ n = w.nd i
  nd : Of (G i) n.base n.bt n.es
  bc : n.base ≤ n.com ∧ n.com ≤ ((G i).length : Int)
  cm : CmP w.sent L (G i) n.term n.com
  mt : n.role = 2 → ∀ j, in3 j → ∀ k : Nat, 1 ≤ k → (k : Int) ≤ n.mt j → AK w.sent L j n.term k
theorem seen_Sn (A : Ag w G L) (B : w.Bd k) {i : Int} (hi : in3 i) : Sn w G L i ((w.nd i).seen m) := by
  have hid := (B.nd i hi).id
  rcases seen_vote (n := w.nd i) (m := m) with ⟨e, _⟩ | ⟨h1, h2, h3, h4⟩
  · rw [e]
    exact ⟨hid, Int.le_refl _, fun h => ⟨h, rfl, rfl⟩, fun h => ⟨h, rfl, rfl⟩, A.nd i hi, A.bc i hi, A.cm i hi, A.mt i hi⟩
  · obtain ⟨a, b, c, d, e, f, g⟩ := seen_keep (n := w.nd i) (m := m)
    refine ⟨by rw [a]; exact hid, by omega, fun h => by omega, fun h => by omega, by rw [b, c, d]; exact A.nd i hi, by rw [b, e]; exact A.bc i hi, ?_, fun h => by omega⟩
    rw [e, h2]; exact (A.cm i hi).term (by omega)
/-- The same replica, but for what no one asks. -/
theorem Sn.pt {i : Int} {n n' : Nd} (S : Sn w G L i n) (A : Ag w G L) (hi : in3 i) (ht : n'.term = n.term) (hr : n'.role = n.role ∨ n'.role = 0) (hb : n'.base = n.base) (hbt : n'.bt = n.bt) (he : n'.es = n.es) (hc : n'.com = n.com) (hm : ∀ j, n'.mt j = n.mt j) {ms : List Mg}
    (mf : ∀ m ∈ ms, m.frm = i ∧ m.term ≤ n.term) (m0 : ∀ m ∈ ms, m.kind = 1 ∨ m.kind = 3)
    (m1 : ∀ m ∈ ms, m.kind = 1 → m.ok = true → in3 m.to ∧ m.to ≠ i ∧ m.term ≤ (w.nd m.to).term ∧ ((w.nd m.to).role = 1 → (w.nd m.to).term = m.term →
      tmAt (G i) (G i).length < tmAt (G m.to) (G m.to).length ∨ tmAt (G i) (G i).length = tmAt (G m.to) (G m.to).length ∧ (G i).length ≤ (G m.to).length))
    (m3 : ∀ m ∈ ms, m.kind = 3 → m.ok = true → m.term = n.term ∧ ∀ k : Nat, (k : Int) ≤ m.index → Sam (G i) (L n.term) k) : Pt w G L L i n' ms (G i) := by
  refine pt_same A hi (by rw [ht]; exact S.tm) (fun h => ?_) (fun h => ?_) (by rw [hb, hbt, he]; exact S.nd) (by rw [hb, hc]; exact S.bc) (by rw [ht, hc]; exact S.cm) (fun h j hj k hk hkm => ?_) (by rw [ht]; exact mf) (fun m hm h => by have := m0 m hm; omega) m1 (by rw [ht]; exact m3) (fun m hm h => by have := m0 m hm; omega) (fun m hm h => by have := m0 m hm; omega)
  · have := S.r1 (by omega); rw [ht]; exact Or.inl ⟨this.1, this.2.1⟩
  · have := S.r2 (by omega); rw [ht]; exact ⟨this.1, this.2.1⟩
  · rw [ht]; exact S.mt (by omega) j hj k hk (by rw [← hm]; exact hkm)
theorem Sn.pt0 {i : Int} {n n' : Nd} (S : Sn w G L i n) (A : Ag w G L) (hi : in3 i) (ht : n'.term = n.term) (hr : n'.role = n.role ∨ n'.role = 0) (hb : n'.base = n.base) (hbt : n'.bt = n.bt) (he : n'.es = n.es) (hc : n'.com = n.com) (hm : ∀ j, n'.mt j = n.mt j) : Pt w G L L i n' [] (G i) :=
  S.pt A hi ht hr hb hbt he hc hm no_mem no_mem no_mem no_mem
theorem Sn.lastT {i : Int} {n : Nd} (S : Sn w G L i n) : lastTerm n.base n.bt n.es = tmAt (G i) (G i).length := by
  have o := S.nd
  have hb := o.bb
  have hl := o.len
  unfold lastTerm
  rw [o.at, hl, if_pos ⟨by omega, by omega⟩]
  rfl
theorem ask_Pt {n : Nd} (A : Ag w G L) (hm : m ∈ w.sent) (hi : in3 m.to) (S : Sn w G L m.to n) (hk : m.kind = 0) (hf : m.frm ≠ m.to) : Pt w G L L m.to (n.turn m).1 (n.turn m).2.1 (G m.to) := by
  unfold Nd.turn
  rw [if_pos hk]
  dsimp only
  have mf : ∀ m' ∈ [ans n m 1 (n.asked m) 0], m'.frm = m.to ∧ m'.term ≤ n.term := fun m' h => by
    have : m' = ans n m 1 (n.asked m) 0 := by simpa using h
    subst this
    exact ⟨S.id, Int.le_refl _⟩
  have m0 : ∀ m' ∈ [ans n m 1 (n.asked m) 0], m'.kind = 1 ∨ m'.kind = 3 := fun m' h => by
    have : m' = ans n m 1 (n.asked m) 0 := by simpa using h
    subst this
    exact Or.inl rfl
  have m3 : ∀ m' ∈ [ans n m 1 (n.asked m) 0], m'.kind = 3 → m'.ok = true → m'.term = n.term ∧ ∀ k : Nat, (k : Int) ≤ m'.index → Sam (G m.to) (L n.term) k := fun m' h e => by
    have : m' = ans n m 1 (n.asked m) 0 := by simpa using h
    subst this
    have e : (1 : Int) = 3 := e
    omega
  have m1 : ∀ m' ∈ [ans n m 1 (n.asked m) 0], m'.kind = 1 → m'.ok = true → in3 m'.to ∧ m'.to ≠ m.to ∧ m'.term ≤ (w.nd m'.to).term ∧ ((w.nd m'.to).role = 1 → (w.nd m'.to).term = m'.term →
      tmAt (G m.to) (G m.to).length < tmAt (G m'.to) (G m'.to).length ∨ tmAt (G m.to) (G m.to).length = tmAt (G m'.to) (G m'.to).length ∧ (G m.to).length ≤ (G m'.to).length) := fun m' h _ ok => by
    have : m' = ans n m 1 (n.asked m) 0 := by simpa using h
    subst this
    have ok : n.asked m = true := ok
    unfold Nd.asked newer at ok
    simp only [Bool.and_eq_true, decide_eq_true_eq] at ok
    obtain ⟨⟨a, _⟩, c⟩ := ok
    have q := A.mtm m hm
    refine ⟨q.1, hf, by show n.term ≤ _; rw [← a]; exact q.2, fun r1 t1 => ?_⟩
    have t1 : (w.nd m.frm).term = n.term := t1
    obtain ⟨x, y⟩ := A.ask m hm hk r1 (by rw [t1, a])
    rw [S.lastT, x, y, S.nd.len] at c
    show tmAt (G m.to) (G m.to).length < tmAt (G m.frm) (G m.frm).length ∨ tmAt (G m.to) (G m.to).length = tmAt (G m.frm) (G m.frm).length ∧ (G m.to).length ≤ (G m.frm).length
    rcases c with c | ⟨c1, c2⟩
    · exact Or.inl c
    · exact Or.inr ⟨c1.symm, by omega⟩
  split
  · exact S.pt (n' := { n with vote := m.frm, quiet := 0 }) A hi rfl (Or.inl rfl) rfl rfl rfl rfl (fun _ => rfl) mf m0 m1 m3
  · exact S.pt A hi rfl (Or.inl rfl) rfl rfl rfl rfl (fun _ => rfl) mf m0 m1 m3
theorem vote_Pt {n : Nd} (A : Ag w G L) (E : El w) (E' : El (w.put m.to (n.turn m).1 [])) (B : w.Bd k) (hk2 : k ≤ 1000000) (hi : in3 m.to) (hfr : in3 m.frm) (S : Sn w G L m.to n) (hk : m.kind = 1) : ∃ L' g', (∀ t, L t <+: L' t) ∧ Pt w G L L' m.to (n.turn m).1 (n.turn m).2.1 g' := by
  have same : ∀ t, L t <+: L t := fun t => List.prefix_refl _
  have ee : n.turn m = (if m.term = n.term ∧ n.role = 1 ∧ m.ok = true then (if quo (n.setV m.frm).v0 (n.setV m.frm).v1 (n.setV m.frm).v2 = true then (n.setV m.frm).lead else n.setV m.frm) else n, [], false) := by
    unfold Nd.turn
    rw [if_neg (by omega), if_pos hk]
  rw [ee] at E' ⊢
  dsimp only at E' ⊢
  obtain ⟨a1, a2, a3, a4, a5, a6, a7, a8⟩ := setV_keep (n := n) (i := m.frm)
  by_cases c : m.term = n.term ∧ n.role = 1 ∧ m.ok = true
  · rw [if_pos c] at E' ⊢
    by_cases c2 : quo (n.setV m.frm).v0 (n.setV m.frm).v1 (n.setV m.frm).v2 = true
    · rw [if_pos c2] at E' ⊢
      obtain ⟨b1, b2, b3⟩ := S.r1 c.2.1
      have hid := S.id
      generalize hv : n.setV m.frm = v at *
      have hmt0 : ∀ j, in3 j → v.lead.mt j = if j = m.to then v.last + 1 else 0 := fun j hj => by
        unfold Nd.lead
        rw [a1, hid]
        by_cases e : j = m.to
        · rw [if_pos e, e]; exact setM_mt hi
        · rw [if_neg e, setM_mt_ne hi hj e]
          unfold Nd.mt; dsimp only
          split; · rfl
          split <;> rfl
      have P := app_Pt (n' := v.lead) (e := ⟨v.last + 1, v.term, Cm.zero⟩) A E E' B hk2 hi (by rw [lead_term, a6, b2]) (lead_role v) (Or.inr b1) (by unfold Nd.lead; rw [setM_keep.2.1, ← b3]; exact a2) (by unfold Nd.lead; rw [setM_keep.2.2.1, ← b3]; exact a3)
        (by unfold Nd.lead; rw [setM_keep.2.2.2.2.1, ← b3]; exact a5) (by unfold Nd.lead; rw [setM_keep.2.2.2.1, ← b3, ← a4]) (by show v.last + 1 = _; unfold Nd.last; rw [← b3, a2, a4]) (by show v.term = _; rw [a6, b2]) (by show Cm.zero.May; decide)
        (fun j hj => by
          rw [hmt0 j hj]
          have el : v.last = (w.nd m.to).last := by unfold Nd.last; rw [← b3, a2, a4]
          rw [el]
          by_cases e : j = m.to
          · rw [if_pos e, if_pos e]; exact Int.le_refl _
          · rw [if_neg e, if_neg e]; split <;> omega)
      exact ⟨_, _, P.pre, P⟩
    · rw [if_neg c2]
      exact ⟨L, _, same, S.pt0 A hi a6 (Or.inl a7) a2 a3 a4 a5 fun _ => setV_mt⟩
  · rw [if_neg c]
    exact ⟨L, _, same, S.pt0 A hi rfl (Or.inl rfl) rfl rfl rfl rfl fun _ => rfl⟩
theorem got_Pt {n : Nd} (A : Ag w G L) (hm : m ∈ w.sent) (hi : in3 m.to) (hfr : in3 m.frm) (S : Sn w G L m.to n) (hk : m.kind = 3) : Pt w G L L m.to (n.turn m).1 (n.turn m).2.1 (G m.to) := by
  have ee : n.turn m = (n.got m, [], false) := by
    unfold Nd.turn
    rw [if_neg (by omega), if_neg (by omega), if_pos hk]
  rw [ee]
  dsimp only
  have id0 : Pt w G L L m.to n [] (G m.to) := S.pt0 A hi rfl (Or.inl rfl) rfl rfl rfl rfl fun _ => rfl
  unfold Nd.got
  split
  · exact id0
  rename_i ht
  split
  · exact id0
  rename_i hr
  have hr : n.role = 2 := by omega
  have ht : m.term = n.term := by omega
  split
  · obtain ⟨a1, a2, a3, a4, a5, a6, a7, a8⟩ := setN_keep (n := n) (i := m.frm) (v := max 1 (max (min (n.next m.frm - 1) (w64 (m.index + 1))) (n.mt m.frm + 1)))
    exact S.pt0 A hi a6 (Or.inl a7) a2 a3 a4 a5 fun _ => setN_mt
  rename_i hok
  split
  · exact id0
  rename_i hix
  have hok : m.ok = true := by simpa using hok
  obtain ⟨b1, b2, b3⟩ := S.r2 hr
  obtain ⟨gl, gne⟩ := A.rl m.to hi b1
  have mtn : ∀ j, in3 j → ((n.setM m.frm (max (n.mt m.frm) m.index)).setN m.frm (max (n.mt m.frm) m.index + 1)).mt j = if j = m.frm then max (n.mt m.frm) m.index else n.mt j := fun j hj => by
    rw [setN_mt]
    by_cases e : j = m.frm
    · rw [if_pos e, e]; exact setM_mt hfr
    · rw [if_neg e]; exact setM_mt_ne hfr hj e
  have ak : ∀ j, in3 j → ∀ k : Nat, 1 ≤ k → (k : Int) ≤ (if j = m.frm then max (n.mt m.frm) m.index else n.mt j) → AK w.sent L j n.term k := fun j hj k hk1 hkm => by
    by_cases e : j = m.frm
    · rw [if_pos e] at hkm
      by_cases e2 : (k : Int) ≤ n.mt m.frm
      · exact S.mt hr j hj k hk1 (by rw [e]; exact e2)
      · exact Or.inl ⟨m, hm, hk, hok, e.symm, ht, by omega⟩
    · rw [if_neg e] at hkm
      exact S.mt hr j hj k hk1 hkm
  obtain ⟨a1, a2, a3, a4, a5, a6, a7, a8⟩ := setM_keep (n := n) (i := m.frm) (v := max (n.mt m.frm) m.index)
  obtain ⟨d1, d2, d3, d4, d5, d6, d7, d8⟩ := setN_keep (n := n.setM m.frm (max (n.mt m.frm) m.index)) (i := m.frm) (v := max (n.mt m.frm) m.index + 1)
  rw [a2] at d2; rw [a3] at d3; rw [a4] at d4; rw [a5] at d5; rw [a6] at d6; rw [a7] at d7
  generalize (n.setM m.frm (max (n.mt m.frm) m.index)).setN m.frm (max (n.mt m.frm) m.index + 1) = q at *
  have o := S.nd
  have ob := o.bb
  have ol := o.len
  have hbc := S.bc
  have hlq : q.last = ((G m.to).length : Int) := by unfold Nd.last; rw [d2, d4]; exact ol
  have key : q.commit.com = n.com ∨ n.com < q.commit.com ∧ q.commit.com ≤ ((G m.to).length : Int) ∧ CmP w.sent L (G m.to) n.term q.commit.com := by
    rcases comGo_is q ((q.last - q.com).toNat + 1) q.last with h | ⟨h1, h2, h3, h4⟩
    · exact Or.inl (by show comGo _ _ _ = _; rw [h]; exact d5)
    · right
      show n.com < comGo q _ _ ∧ _ ∧ _
      have ecom : q.commit.com = comGo q ((q.last - q.com).toNat + 1) q.last := rfl
      rw [← ecom] at h1 h2 h3 h4 ⊢
      generalize q.commit.com = c at *
      rw [d5] at h1
      rw [hlq] at h2
      refine ⟨h1, h2, Or.inr ⟨n.term, c.toNat, ⟨?_, ?_⟩, by omega, Int.le_refl _, ?_⟩⟩
      · unfold Nd.at at h4
        rw [d2, d3, d4, d6, o.at, if_pos ⟨by omega, h2⟩] at h4
        have h4 : tmAt (G m.to) c.toNat = n.term := h4
        have e1 : c.toNat = (c.toNat - 1) + 1 := by omega
        have hlt : c.toNat - 1 < (G m.to).length := by omega
        rw [e1, tmAt_get (List.getElem?_eq_getElem hlt)] at h4
        rw [b2, ← gl]
        exact ⟨c.toNat - 1, _, e1, List.getElem?_eq_getElem hlt, by rw [h4, b2]⟩
      · obtain ⟨v, v', hv, hv', hne, x, y⟩ := quo_mt h3
        rw [mtn v hv] at x
        rw [mtn v' hv'] at y
        exact ⟨v, v', hv, hv', hne, ak v hv _ (by omega) (by omega), ak v' hv' _ (by omega) (by omega)⟩
      · rw [b2, ← gl]; exact Sam.refl (by omega)
  refine pt_none A hi (by show _ ≤ q.term; rw [d6]; exact S.tm) (fun h => ?_) (fun _ => ⟨b1, by show q.term = _; rw [d6, b2]⟩) (by show Of _ q.base q.bt q.es; rw [d2, d3, d4]; exact o) ⟨?_, ?_⟩ ?_ (fun _ j hj k hk1 hkm => ?_)
  · have h : q.role = 1 := h
    omega
  · show q.base ≤ _
    rw [d2]
    rcases key with h | h <;> omega
  · rcases key with h | h <;> omega
  · show CmP _ _ _ q.term _
    rw [d6]
    rcases key with h | h
    · rw [h]; exact S.cm
    · exact h.2.2
  · show AK _ _ _ q.term _
    rw [d6]
    have hkm : (k : Int) ≤ q.mt j := hkm
    rw [mtn j hj] at hkm
    exact ak j hj k hk1 hkm
end
end Go.Proofs
