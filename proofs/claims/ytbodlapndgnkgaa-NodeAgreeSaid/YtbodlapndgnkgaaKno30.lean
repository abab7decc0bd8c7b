/- LAYER 14: plain: every deed keeps what all agree on; what is committed is the same on all. -/
import Derived.Test.YtbodlapndgnkgaaKno29
set_option linter.all false
set_option linter.constructorNameAsVariable false
namespace Go.Proofs
open Go Go.KC
section
variable {w : Wd} {G L : Int → List En} {k : Int}
theorem ag_of {i : Int} {n' : Nd} {ms : List Mg} (A : Ag w G L) (E : El w) (E' : El (w.put i n' ms)) (hi : in3 i) (h : ∃ L' g', Pt w G L L' i n' ms g') : ∃ G' L', Ag (w.put i n' ms) G' L' ∧ ∀ t, L t <+: L' t := by
  obtain ⟨L', g', P⟩ := h
  exact ⟨_, L', put_Ag A E E' hi P, P.pre⟩
theorem step_Pt (A : Ag w G L) (E : El w) (B : w.Bd k) (hk : k ≤ 1000000) {m : Mg} (hm : m ∈ w.sent) (E' : El (w.put m.to ((w.nd m.to).step m).1 ((w.nd m.to).step m).2.1)) : ∃ L' g', Pt w G L L' m.to ((w.nd m.to).step m).1 ((w.nd m.to).step m).2.1 g' := by
  have mb := B.ms m hm
  have hi : in3 m.to := mb.to
  have hf : in3 m.frm := mb.frm
  have S := seen_Sn (m := m) A B hi
  by_cases c : m.bad (w.nd m.to)
  · have e : (w.nd m.to).step m = (w.nd m.to, [], false) := by unfold Nd.step; rw [if_pos c]
    rw [e]
    exact ⟨L, _, pt_id A hi⟩
  · have e : (w.nd m.to).step m = ((w.nd m.to).seen m).turn m := by unfold Nd.step; rw [if_neg c]
    rw [e] at E' ⊢
    have hne : m.frm ≠ m.to := fun h => c (by
      have := (B.nd m.to hi).id
      unfold Mg.bad; omega)
    by_cases k0 : m.kind = 0
    · exact ⟨L, _, ask_Pt A hm hi S k0 hne⟩
    by_cases k1 : m.kind = 1
    · have em : (((w.nd m.to).seen m).turn m).2.1 = [] := by unfold Nd.turn; rw [if_neg k0, if_pos k1]
      obtain ⟨L', g', _, P⟩ := vote_Pt A E (by rw [em] at E'; exact E') B hk hi hf S k1
      exact ⟨L', g', P⟩
    by_cases k3 : m.kind = 3
    · exact ⟨L, _, got_Pt A hm hi hf S k3⟩
    by_cases k24 : m.kind = 2 ∨ m.kind = 4
    · obtain ⟨g', P⟩ := take_Pt A hm hi S k24 mb hk
      exact ⟨L, g', P⟩
    · have et : ((w.nd m.to).seen m).turn m = ((w.nd m.to).seen m, [], false) := by unfold Nd.turn; rw [if_neg k0, if_neg k1, if_neg k3, if_neg k24]
      rw [et]
      exact ⟨L, _, S.pt0 A hi rfl (Or.inl rfl) rfl rfl rfl rfl fun _ => rfl⟩
theorem act_Ag {a : Ac} (A : Ag w G L) (E : El w) (B : w.Bd k) (hk : k ≤ 1000000) : ∃ G' L', Ag (w.act a) G' L' ∧ ∀ t, L t <+: L' t := by
  have E' := act_El (a := a) E B
  have hi : in3 a.id := a.id_in
  have Bn := B.nd a.id hi
  unfold Wd.act at E' ⊢
  by_cases c0 : a.op.toNat % 16 = 0
  · rw [if_pos c0] at E' ⊢
    exact ag_of A E E' hi ⟨L, _, camp_Pt A B hi⟩
  rw [if_neg c0] at E' ⊢
  by_cases c1 : a.op.toNat % 16 = 1
  · rw [if_pos c1] at E' ⊢
    refine ag_of A E E' hi ?_
    unfold Nd.submit at E' ⊢
    by_cases c : (w.nd a.id).role ≠ 2 ∨ (w.nd a.id).last ≥ 1048576
    · rw [if_pos c]
      exact ⟨L, _, pt_id A hi⟩
    · rw [if_neg c] at E' ⊢
      dsimp only at E' ⊢
      have hid := Bn.id
      have hr : (w.nd a.id).role = 2 := by omega
      refine ⟨_, _, app_Pt (e := ⟨(w.nd a.id).last + 1, (w.nd a.id).term, a.say.cmd⟩) A E E' B hk hi ?_ ?_ (Or.inl hr) ?_ ?_ ?_ ?_ rfl rfl a.say.may fun j hj => ?_⟩
      · rw [setM_keep.2.2.2.2.2.1]
      · rw [setM_keep.2.2.2.2.2.2.1]; exact hr
      · rw [setM_keep.2.1]
      · rw [setM_keep.2.2.1]
      · rw [setM_keep.2.2.2.2.1]
      · rw [setM_keep.2.2.2.1]
      · rw [hid]
        by_cases e : j = a.id
        · rw [if_pos e, e, setM_mt hi]; exact Int.le_refl _
        · rw [if_neg e, if_pos hr, setM_mt_ne hi hj e]; exact Int.le_refl _
  rw [if_neg c1] at E' ⊢
  by_cases c2 : a.op.toNat % 16 = 2 ∨ a.op.toNat % 16 = 3
  · rw [if_pos c2] at E' ⊢
    exact ag_of A E E' hi ⟨L, _, beat_Pt A B hi⟩
  rw [if_neg c2] at E' ⊢
  by_cases c4 : a.op.toNat % 16 = 4
  · rw [if_pos c4] at E' ⊢
    exact ag_of A E E' hi ⟨L, _, compact_Pt (k := 0) A hi⟩
  rw [if_neg c4] at E' ⊢
  by_cases c5 : a.op.toNat % 16 = 5
  · rw [if_pos c5] at E' ⊢
    refine ag_of A E E' hi ?_
    split
    · exact ⟨L, _, restart_Pt A hi⟩
    · exact ⟨L, _, pt_id A hi⟩
  rw [if_neg c5] at E' ⊢
  cases hm : w.sent[a.pick w.sent.length]? with
  | none => exact ⟨G, L, A, fun t => List.prefix_refl _⟩
  | some m =>
    rw [hm] at E'
    dsimp only at E' ⊢
    have hmem := List.mem_of_getElem? hm
    exact ag_of A E E' (B.ms m hmem).to (step_Pt A E B hk hmem E')
/-- Two that have committed have the same. -/
theorem Ag.two (A : Ag w G L) {g h : List En} {T T' c c' : Int} (a : CmP w.sent L g T c) (b : CmP w.sent L h T' c') : Sam g h (min c c').toNat := by
  have z : ∀ x : Int, x ≤ 0 → Sam g h x.toNat := fun x hx => by
    have : x.toNat = 0 := by omega
    rw [this]; exact Sam.zero
  rcases a with a | ⟨t1, k1, a1, a2, a3, a4⟩
  · exact z _ (by omega)
  rcases b with b | ⟨t2, k2, b1, b2, b3, b4⟩
  · exact z _ (by omega)
  have ne : ∀ {t k}, Cmt w.sent L t k → L t ≠ [] := fun h e => by
    obtain ⟨j, x, rfl, hx, _⟩ := h.1
    rw [e] at hx; simp at hx
  have x1 := a4.le (j := (min c c').toNat) (by omega)
  have x2 := b4.le (j := (min c c').toNat) (by omega)
  rcases Int.lt_trichotomy t1 t2 with h | h | h
  · have p := (A.pp t2 t1 k1 (ne b1) h (a1.ch _)).le (j := (min c c').toNat) (by omega)
    exact (x1.trans p.symm).trans x2.symm
  · subst h; exact x1.trans x2.symm
  · have p := (A.pp t1 t2 k2 (ne a1) h (b1.ch _)).le (j := (min c c').toNat) (by omega)
    exact (x1.trans p).trans x2.symm
theorem w0_Ag : Ag w0 (fun _ => []) (fun _ => []) := by
  have n0 : ∀ v, in3 v → w0.nd v = nd0 v := fun v hv => by
    unfold in3 at hv
    have : v = 0 ∨ v = 1 ∨ v = 2 := by omega
    rcases this with rfl | rfl | rfl <;> rfl
  have ak : ∀ v t k, ¬ AK w0.sent (fun _ => []) v t k := fun v t k h => by
    rcases h with ⟨m, hm, _⟩ | ⟨_, h, _⟩
    · cases hm
    · exact h rfl
  refine ⟨fun v hv => ?_, fun v hv => ?_, fun _ _ => Chn.nil, fun _ => Chn.nil, fun _ _ e h => (List.not_mem_nil h).elim, fun _ e h => (List.not_mem_nil h).elim, fun _ k e h => by simp at h, fun _ h => absurd rfl h, fun _ _ _ h => absurd rfl h, fun v hv h => ?_, fun v t k _ h => absurd h (ak v t k), fun v t k _ h => absurd h (ak v t k), fun c v t k _ _ _ _ _ h => absurd h (ak v t k), fun _ _ _ h => absurd rfl h, fun v hv => ?_, fun m h => (by cases h), fun m h => (by cases h), fun m h => (by cases h), fun m h => (by cases h), fun m h => (by cases h), fun v hv h => ?_⟩
  · rw [n0 v hv]; exact ⟨⟨Int.le_refl _, Int.le_refl _⟩, rfl, rfl⟩
  · rw [n0 v hv]; exact ⟨Int.le_refl _, Int.le_refl _⟩
  · rw [n0 v hv] at h; simp [nd0] at h
  · rw [n0 v hv]; exact Or.inl (Int.le_refl _)
  · rw [n0 v hv] at h; simp [nd0] at h
/-- What is committed does not fall, but where one starts anew. -/
theorem step_com (n : Nd) (m : Mg) : n.com ≤ (n.step m).1.com := by
  unfold Nd.step
  split
  · exact Int.le_refl _
  have e : (n.seen m).com = n.com := seen_keep.2.2.2.2.1
  rw [← e]
  generalize n.seen m = n
  unfold Nd.turn
  split
  · dsimp only; split <;> exact Int.le_refl _
  split
  · dsimp only
    split
    · split
      · unfold Nd.lead; rw [setM_keep.2.2.2.2.1]; show _ ≤ (n.setV m.frm).com; rw [setV_keep.2.2.2.2.1]; exact Int.le_refl _
      · rw [setV_keep.2.2.2.2.1]; exact Int.le_refl _
    · exact Int.le_refl _
  split
  · show n.com ≤ (n.got m).com
    unfold Nd.got
    split
    · exact Int.le_refl _
    split
    · exact Int.le_refl _
    split
    · rw [setN_keep.2.2.2.2.1]; exact Int.le_refl _
    split
    · exact Int.le_refl _
    · have h := comGo_in ((n.setM m.frm (max (n.mt m.frm) m.index)).setN m.frm (max (n.mt m.frm) m.index + 1)) ((((n.setM m.frm (max (n.mt m.frm) m.index)).setN m.frm (max (n.mt m.frm) m.index + 1)).last - ((n.setM m.frm (max (n.mt m.frm) m.index)).setN m.frm (max (n.mt m.frm) m.index + 1)).com).toNat + 1) ((n.setM m.frm (max (n.mt m.frm) m.index)).setN m.frm (max (n.mt m.frm) m.index + 1)).last
      have e : ((n.setM m.frm (max (n.mt m.frm) m.index)).setN m.frm (max (n.mt m.frm) m.index + 1)).com = n.com := by rw [setN_keep.2.2.2.2.1, setM_keep.2.2.2.2.1]
      rw [e] at h
      show n.com ≤ comGo _ _ _
      rw [e]
      rcases h with h | h <;> omega
  split
  · split
    · show n.com ≤ (({ n with role := 0, quiet := 0 } : Nd).take m).1.com
      unfold Nd.take
      split
      · split
        · exact Int.le_refl _
        · split
          · exact Int.le_refl _
          · rename_i h; show n.com ≤ _; have : ¬ _ ≤ n.com := fun x => h (Or.inl x); dsimp only; omega
      · split
        · show n.com ≤ max n.com _; omega
        · exact Int.le_refl _
    · exact Int.le_refl _
  · exact Int.le_refl _
theorem act_com (B : w.Bd k) {a : Ac} {i : Int} (hi : in3 i) (h5 : a.op.toNat % 16 ≠ 5) : (w.nd i).com ≤ ((w.act a).nd i).com := by
  have go : ∀ {j : Int} {n' : Nd} {ms : List Mg}, in3 j → (w.nd j).com ≤ n'.com → (w.nd i).com ≤ ((w.put j n' ms).nd i).com := fun {j n' ms} hj h => by
    rw [put_nd hj hi]
    split
    · rename_i e; rw [e]; exact h
    · exact Int.le_refl _
  have hid : in3 a.id := a.id_in
  unfold Wd.act
  split
  · refine go hid ?_
    unfold Nd.camp; split <;> exact Int.le_refl _
  split
  · refine go hid ?_
    unfold Nd.submit; split
    · exact Int.le_refl _
    · dsimp only; rw [setM_keep.2.2.2.2.1]; exact Int.le_refl _
  split
  · exact go hid (Int.le_refl _)
  split
  · refine go hid ?_
    unfold Nd.compact; split <;> exact Int.le_refl _
  split
  · exact Int.le_refl _
  · rename_i m hm
    exact go (B.ms m (List.mem_of_getElem? hm)).to (step_com _ _)
end
end Go.Proofs
