/- LAYER 14: plain: three replicas, deed by deed: numbers stay small. -/
import Derived.Test.YtbodlapndgnkgaaKno7
set_option linter.all false
set_option linter.constructorNameAsVariable false
namespace Go.Proofs
open Go Go.KC

structure Nd.Bd (n : Nd) (i k : Int) : Prop where
  id : n.id = i
  term : 0 ≤ n.term ∧ n.term ≤ k
  base : 0 ≤ n.base
  last : n.last ≤ k
  com : 0 ≤ n.com ∧ n.com ≤ k
  mt : ∀ j, 0 ≤ n.mt j ∧ n.mt j ≤ k
  nx : ∀ j, 0 ≤ n.next j ∧ n.next j ≤ k + 1
structure Mg.Bd (m : Mg) (k : Int) : Prop where
  frm : 0 ≤ m.frm ∧ m.frm < 3
  to : 0 ≤ m.to ∧ m.to < 3
  term : 0 ≤ m.term ∧ m.term ≤ k
  ix : -1 ≤ m.index
  le : m.index + m.es.length ≤ k
  com : 0 ≤ m.com ∧ m.com ≤ k
  st : ∀ s, m.st = some s → 0 ≤ s.1 ∧ s.1 ≤ k
theorem Nd.Bd.mono {n : Nd} {i k l : Int} (h : n.Bd i k) (hk : k ≤ l) : n.Bd i l := ⟨h.id, by have := h.term; omega, h.base, by have := h.last; omega, by have := h.com; omega, fun j => by have := h.mt j; omega, fun j => by have := h.nx j; omega⟩
theorem Mg.Bd.mono {m : Mg} {k l : Int} (h : m.Bd k) (hk : k ≤ l) : m.Bd l := ⟨h.frm, h.to, by have := h.term; omega, h.ix, by have := h.le; omega, by have := h.com; omega, fun s hs => by have := h.st s hs; omega⟩
theorem mem_ids {i : Int} (h : i ∈ ids) : 0 ≤ i ∧ i < 3 := by simp [ids] at h; omega
theorem nd0_bd {i : Int} (hi : 0 ≤ i ∧ i < 3) : (nd0 i).Bd i 0 := ⟨rfl, ⟨Int.le_refl _, Int.le_refl _⟩, Int.le_refl _, Int.le_refl _, ⟨Int.le_refl _, Int.le_refl _⟩, fun j => by unfold Nd.mt nd0; simp, fun j => by unfold Nd.next nd0; simp⟩
theorem last_of {n n' : Nd} (hb : n'.base = n.base) (he : n'.es.length = n.es.length) : n'.last = n.last := by unfold Nd.last; rw [hb, he]
section
variable {n : Nd} {i k : Int}
theorem camp_bd (h : n.Bd i k) (hi : 0 ≤ i ∧ i < 3) : n.camp.1.Bd i (k + 1) ∧ ∀ m ∈ n.camp.2, m.Bd (k + 1) := by
  unfold Nd.camp
  split
  · exact ⟨h.mono (by omega), fun m hm => by cases hm⟩
  · have h1 := h.term; have h2 := h.last; have h3 := h.com
    have hl : 0 ≤ n.last := by have := h.base; unfold Nd.last; omega
    refine ⟨⟨h.id, by dsimp only; omega, h.base, by show n.last ≤ k + 1; omega, by dsimp only; omega, fun j => by have := h.mt j; show 0 ≤ n.mt j ∧ n.mt j ≤ _; omega, fun j => by have := h.nx j; show 0 ≤ n.next j ∧ n.next j ≤ _; omega⟩, fun m hm => ?_⟩
    obtain ⟨j, hj, rfl⟩ := List.mem_map.1 hm
    have hj3 := mem_ids (List.mem_filter.1 hj).1
    have hid := h.id
    exact ⟨by dsimp only; omega, hj3, by dsimp only; omega, by dsimp only; omega, by dsimp only; simp; omega, by dsimp only; omega, fun s hs => by cases hs⟩
theorem setM_bd {v : Int} (h : n.Bd i k) (hv : 0 ≤ v ∧ v ≤ k) (j : Int) : (n.setM j v).Bd i k := by
  obtain ⟨k1, k2, k3, k4, k5, k6, k7, k8⟩ := @setM_keep n j v
  refine ⟨by rw [k1]; exact h.id, by rw [k6]; exact h.term, by rw [k2]; exact h.base, by rw [last_of k2 (by rw [k4])]; exact h.last, by rw [k5]; exact h.com, fun q => ?_, fun q => ?_⟩
  · have a := h.mt 0; have b := h.mt 1; have c := h.mt 2
    unfold Nd.mt at a b c ⊢
    simp at a b c
    unfold Nd.setM
    repeat' split
    all_goals (try dsimp only) <;> omega
  · have := h.nx q
    have e : (n.setM j v).next q = n.next q := by unfold Nd.setM; split <;> (try split) <;> rfl
    rw [e]; exact this
theorem setN_bd {v : Int} (h : n.Bd i k) (hv : 0 ≤ v ∧ v ≤ k + 1) (j : Int) : (n.setN j v).Bd i k := by
  obtain ⟨k1, k2, k3, k4, k5, k6, k7, k8⟩ := @setN_keep n j v
  refine ⟨by rw [k1]; exact h.id, by rw [k6]; exact h.term, by rw [k2]; exact h.base, by rw [last_of k2 (by rw [k4])]; exact h.last, by rw [k5]; exact h.com, fun q => ?_, fun q => ?_⟩
  · have := h.mt q
    have e : (n.setN j v).mt q = n.mt q := by unfold Nd.setN; split <;> (try split) <;> rfl
    rw [e]; exact this
  · have a := h.nx 0; have b := h.nx 1; have c := h.nx 2
    unfold Nd.next at a b c ⊢
    simp at a b c
    unfold Nd.setN
    repeat' split
    all_goals (try dsimp only) <;> omega
theorem last_nn (h : n.Bd i k) : 0 ≤ n.last := by have := h.base; unfold Nd.last; omega
theorem add_bd {e : En} (h : n.Bd i k) : ({ n with es := n.es ++ [e] } : Nd).Bd i (k + 1) := by
  have h2 := h.last
  have g : n.Bd i (k + 1) := h.mono (by omega)
  refine ⟨g.id, g.term, g.base, ?_, g.com, g.mt, g.nx⟩
  unfold Nd.last at h2 ⊢
  simp; omega
theorem submit_bd {c : Cm} (h : n.Bd i k) : (n.submit c).1.Bd i (k + 1) := by
  unfold Nd.submit
  split
  · exact h.mono (by omega)
  · have := h.last; have := last_nn h
    exact setM_bd (v := n.last + 1) (add_bd h) (by omega) _
theorem lead_bd (h : n.Bd i k) : n.lead.Bd i (k + 1) := by
  have h1 := h.last; have h2 := last_nn h
  have g := add_bd (e := ⟨n.last + 1, n.term, Cm.zero⟩) h
  have g2 : ({ n with role := 2, es := n.es ++ [⟨n.last + 1, n.term, Cm.zero⟩], m0 := 0, m1 := 0, m2 := 0, n0 := n.last + 1, n1 := n.last + 1, n2 := n.last + 1 } : Nd).Bd i (k + 1) := by
    refine ⟨g.id, g.term, g.base, g.last, g.com, fun j => ?_, fun j => ?_⟩
    · unfold Nd.mt; dsimp only; split <;> (try split) <;> omega
    · unfold Nd.next; dsimp only; split <;> (try split) <;> omega
  exact setM_bd g2 (by omega) _
theorem after_len {b : Int} {es : List En} {j q : Int} (h : b ≤ j) : ((after b es j q).1.length : Int) + j ≤ max j (b + es.length) := by
  unfold after
  split
  · simp; omega
  · rw [List.length_take, List.length_drop]; omega
theorem sendM_bd {j : Int} {s : Int × Int} (h : n.Bd i k) (hi : 0 ≤ i ∧ i < 3) (hj : 0 ≤ j ∧ j < 3) (hs : 0 ≤ s.1 ∧ s.1 ≤ k) : (n.sendM j s).Bd k := by
  have h1 := h.nx j; have h2 := h.last; have h3 := h.id
  unfold Nd.sendM
  split
  · rename_i hc
    refine ⟨by dsimp only; omega, hj, h.term, by dsimp only; omega, ?_, h.com, fun s hs => by cases hs⟩
    dsimp only
    have hb : n.base ≤ n.next j - 1 ∧ n.next j - 1 ≤ n.base + n.es.length := by
      have := hc.2
      unfold after at this
      split at this
      · cases this
      · omega
    have := after_len (es := n.es) (q := 4) hb.1
    unfold Nd.last at h2
    omega
  · exact ⟨by dsimp only; omega, hj, h.term, by dsimp only; omega, by dsimp only; simp; omega, h.com, fun s' hs' => by cases hs'; exact hs⟩
theorem beat_bd {s : Int × Int} (h : n.Bd i k) (hi : 0 ≤ i ∧ i < 3) (hs : 0 ≤ s.1 ∧ s.1 ≤ k) : ∀ m ∈ n.beat s, m.Bd k := fun m hm => by
  unfold Nd.beat at hm
  split at hm
  · obtain ⟨j, hj, rfl⟩ := List.mem_map.1 hm
    exact sendM_bd h hi (mem_ids (List.mem_filter.1 hj).1) hs
  · cases hm
theorem termAt_in {b t : Int} {es : List En} {j : Int} (h : (termAt b t es j).2 = true) : b ≤ j ∧ j ≤ b + es.length := by
  unfold termAt at h
  split at h
  · omega
  · split at h
    · cases h
    · omega
theorem compact_bd {j : Int} (h : n.Bd i k) : (n.compact j).Bd i k := by
  unfold Nd.compact
  split
  · unfold compact
    split
    · rename_i hc
      have := termAt_in hc
      have h1 := h.base; have h2 := h.last
      refine ⟨h.id, h.term, by dsimp only; omega, ?_, h.com, h.mt, h.nx⟩
      unfold Nd.last at h2 ⊢
      simp; omega
    · exact ⟨h.id, h.term, h.base, h.last, h.com, h.mt, h.nx⟩
  · exact h
theorem restart_bd (h : n.Bd i k) : n.restart.Bd i k := by
  have h1 := h.base; have h2 := h.last
  have := last_nn h
  refine ⟨h.id, h.term, h.base, h.last, ?_, fun j => ?_, fun j => ?_⟩
  · unfold Nd.restart; dsimp only; unfold Nd.last at h2; omega
  · unfold Nd.restart Nd.mt; simp; omega
  · unfold Nd.restart Nd.next; simp; omega
theorem comGo_in (n : Nd) : ∀ (f : Nat) (i : Int), comGo n f i = n.com ∨ n.com < comGo n f i ∧ comGo n f i ≤ i
  | 0, i => Or.inl rfl
  | f + 1, i => by
    unfold comGo
    split
    · split
      · exact Or.inr ⟨by omega, Int.le_refl _⟩
      · rcases comGo_in n f (i - 1) with h | h
        · exact Or.inl h
        · exact Or.inr ⟨h.1, by omega⟩
    · exact Or.inl rfl
theorem commit_bd (h : n.Bd i k) : n.commit.Bd i k := by
  refine ⟨h.id, h.term, h.base, h.last, ?_, h.mt, h.nx⟩
  have h1 := h.com; have h2 := h.last
  show 0 ≤ comGo n _ _ ∧ comGo n _ _ ≤ k
  rcases comGo_in n ((n.last - n.com).toNat + 1) n.last with h | h <;> omega
theorem got_bd {m : Mg} (h : n.Bd i k) (hm : m.Bd k) (hk : k ≤ 1000000) : (n.got m).Bd i k := by
  have h1 := h.mt m.frm; have h2 := h.nx m.frm; have h3 := h.last
  have hl := last_nn h
  have hi := hm.ix; have hi2 := hm.le
  unfold Nd.got
  split
  · exact h
  split
  · exact h
  split
  · refine setN_bd h ?_ _
    rw [w64_id (by omega) (by omega)]; omega
  split
  · exact h
  · refine commit_bd (setN_bd (setM_bd h (by omega) _) (by omega) _)
theorem seen_bd {m : Mg} (h : n.Bd i k) (hm : m.Bd k) : (n.seen m).Bd i k := by
  obtain ⟨s1, s2, s3, s4, s5, s6, s7⟩ := @seen_keep n m
  refine ⟨by rw [s1]; exact h.id, ?_, by rw [s2]; exact h.base, by rw [last_of s2 (by rw [s4])]; exact h.last, by rw [s5]; exact h.com, fun j => by rw [s6]; exact h.mt j, fun j => by rw [s7]; exact h.nx j⟩
  have := h.term; have := hm.term
  unfold Nd.seen Nd.follow
  split <;> (try split) <;> (try dsimp only) <;> omega
theorem stepM_last {b t : Int} {es : List En} {e : En} (he : b < e.index) : b + ((stepM b t es e).length : Int) ≤ max (b + es.length) e.index := by
  unfold stepM
  split
  · omega
  · rw [List.length_append, List.length_take, List.length_singleton]; omega
theorem foldM_last {b t : Int} : ∀ (new : List En) (es : List En) (p l : Int), (∀ e ∈ new, b < e.index ∧ e.index ≤ l) → b + es.length ≤ l → b + ((foldM b t es new).length : Int) ≤ l
  | [], es, p, l, h, hl => hl
  | e :: r, es, p, l, h, hl => by
    have he := h e (List.mem_cons_self)
    have := stepM_last (t := t) (es := es) he.1
    exact foldM_last r (stepM b t es e) p l (fun e' h' => h e' (List.mem_cons_of_mem _ h')) (by omega)
theorem rows_ix {new : List En} {p : Int} (hp : -1000000 ≤ p ∧ p ≤ 1000000) (hl : new.length ≤ 2000000) (h : RowsOf new (p + 1)) {j : Nat} (hj : j < new.length) : new[j].index = p + 1 + j := by
  have := (h j hj).2.1
  rw [w64_id (by omega) (by omega)] at this
  exact this
theorem merge_last {b t p u : Int} {es new : List En} {l : Int} (hb : 0 ≤ b ∧ b + es.length ≤ l) (hp : -1 ≤ p ∧ p + new.length ≤ l) (hl : l ≤ 1000000) : b + ((mergeL b t es p u new).1.length : Int) ≤ l := by
  unfold mergeL
  split
  rotate_left
  · exact hb.2
  rename_i hR
  have ix : ∀ j (hj : j < new.length), new[j].index = p + 1 + j := fun j hj => rows_ix (by omega) (by omega) hR hj
  have key : ∀ d : Nat, (b - p).toNat ≤ d → ∀ e ∈ new.drop d, b < e.index ∧ e.index ≤ l := fun d hd e he => by
    obtain ⟨j, hj, rfl⟩ := List.getElem_of_mem he
    rw [List.length_drop] at hj
    rw [List.getElem_drop, ix (d + j) (by omega)]
    omega
  split
  · unfold mergeIn
    split
    · exact foldM_last _ _ p l (key _ (Nat.le_refl _)) hb.2
    · exact hb.2
  · unfold mergeIn
    split
    · refine foldM_last _ _ p l (fun e he => ?_) hb.2
      have := key 0 (by omega) e (by simpa using he)
      exact this
    · exact hb.2
theorem take_bd {m : Mg} (h : n.Bd i k) (hm : m.Bd k) (hk : k ≤ 1000000) : (n.take m).1.Bd i k ∧ -1 ≤ (n.take m).2.1.2 ∧ (n.take m).2.1.2 ≤ k := by
  have h1 := h.last; have hl := last_nn h; have hi := hm.ix; have hi2 := hm.le; have hc := h.com; have hc2 := hm.com
  unfold Nd.take
  split
  · split
    · exact ⟨h, by dsimp only; omega, by dsimp only; omega⟩
    · rename_i s1 s2 hs
      have hs' := hm.st _ hs
      dsimp only at hs'
      split
      · exact ⟨h, by dsimp only; omega, by dsimp only; omega⟩
      · exact ⟨⟨h.id, h.term, hs'.1, by unfold Nd.last; simp; exact hs'.2, hs', h.mt, h.nx⟩, by dsimp only; omega, by dsimp only; omega⟩
  · have hw : w64 (m.index + (m.es.length : Int)) = m.index + (m.es.length : Int) := w64_id (by omega) (by omega)
    rw [hw]
    split
    · refine ⟨⟨h.id, h.term, h.base, ?_, by dsimp only; omega, h.mt, h.nx⟩, by dsimp only; omega, by dsimp only; omega⟩
      exact merge_last ⟨h.base, by have := h.last; unfold Nd.last at this; exact this⟩ ⟨hi, hi2⟩ hk
    · exact ⟨h, by dsimp only; omega, by dsimp only; omega⟩
theorem ans_bd {m : Mg} {q j : Int} {v : Bool} (h : n.Bd i k) (hi : 0 ≤ i ∧ i < 3) (hm : m.Bd k) (hj : -1 ≤ j ∧ j ≤ k) : (ans n m q v j).Bd k := by
  have := h.id; have := h.com
  exact ⟨by show 0 ≤ n.id ∧ n.id < 3; omega, hm.frm, h.term, hj.1, by show j + (([] : List En).length : Int) ≤ k; simp; exact hj.2, by show (0 : Int) ≤ 0 ∧ (0 : Int) ≤ k; omega, fun s hs => by cases hs⟩
theorem role_bd {r q : Int} (h : n.Bd i k) : ({ n with role := r, quiet := q } : Nd).Bd i k := ⟨h.id, h.term, h.base, h.last, h.com, h.mt, h.nx⟩
theorem vote_bd {r q : Int} (h : n.Bd i k) : ({ n with vote := r, quiet := q } : Nd).Bd i k := ⟨h.id, h.term, h.base, h.last, h.com, h.mt, h.nx⟩
theorem setV_bd {j : Int} (h : n.Bd i k) : (n.setV j).Bd i k := by
  unfold Nd.setV; split <;> (try split) <;> exact ⟨h.id, h.term, h.base, h.last, h.com, h.mt, h.nx⟩
theorem turn_bd {m : Mg} (h : n.Bd i k) (hi : 0 ≤ i ∧ i < 3) (hm : m.Bd k) (hk : 0 ≤ k ∧ k ≤ 1000000) : (n.turn m).1.Bd i (k + 1) ∧ ∀ a ∈ (n.turn m).2.1, a.Bd (k + 1) := by
  have g := h.mono (show k ≤ k + 1 by omega)
  unfold Nd.turn
  split
  · refine ⟨?_, fun a ha => ?_⟩
    · dsimp only; split
      · exact vote_bd g
      · exact g
    · obtain rfl := List.mem_singleton.1 ha
      exact (ans_bd h hi hm (by omega)).mono (by omega)
  split
  · refine ⟨?_, fun a ha => by cases ha⟩
    dsimp only; split
    · split
      · exact lead_bd (setV_bd h)
      · exact setV_bd g
    · exact g
  split
  · exact ⟨(got_bd h hm hk.2).mono (by omega), fun a ha => by cases ha⟩
  split
  · split
    · have ht := take_bd (role_bd (r := 0) (q := 0) h) hm hk.2
      refine ⟨ht.1.mono (by omega), fun a ha => ?_⟩
      obtain rfl := List.mem_singleton.1 ha
      exact (ans_bd h hi hm ht.2).mono (by omega)
    · refine ⟨g, fun a ha => ?_⟩
      obtain rfl := List.mem_singleton.1 ha
      exact (ans_bd h hi hm (by omega)).mono (by omega)
  · exact ⟨g, fun a ha => by cases ha⟩
theorem step_bd {m : Mg} (h : n.Bd i k) (hi : 0 ≤ i ∧ i < 3) (hm : m.Bd k) (hk : 0 ≤ k ∧ k ≤ 1000000) : (n.step m).1.Bd i (k + 1) ∧ ∀ a ∈ (n.step m).2.1, a.Bd (k + 1) := by
  unfold Nd.step
  split
  · exact ⟨h.mono (by omega), fun a ha => by cases ha⟩
  · exact turn_bd (seen_bd h hm) hi hm hk
theorem Nd.Bd.fit (h : n.Bd i k) (hi : 0 ≤ i ∧ i < 3) (hk : k ≤ 1000000) : n.Fit := by
  have h1 := h.base; have h2 := h.last; have h3 := h.id
  unfold Nd.last at h2
  exact ⟨by omega, by omega, by omega⟩
end
end Go.Proofs
