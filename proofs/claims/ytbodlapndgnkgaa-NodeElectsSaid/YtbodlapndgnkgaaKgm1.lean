/- GO'S MAPS: what a map has; looked up, put, deleted, counted. Generic. -/
import Derived.Test.YtbodlapndgnkgaaKl2
import Derived.Test.YtbodlapndgnkgaaKh2
set_option linter.all false
set_option linter.constructorNameAsVariable false
set_option linter.unusedSectionVars false
namespace Go.Proofs
open Go Go.KC

/-- Keys of a kind, as values. -/
structure KE {κ : Type} [DecidableEq κ] (d : TypeDesc) (ek : κ → Value) : Prop where
  same : ∀ a b, Instr.sameNow d (ek a) (ek b) = some (decide (a = b))
  inj : ∀ a b, ek a = ek b → a = b
theorem keInt : KE (κ := Int) (.int .i64) fun k => .int .i64 k := ⟨fun a b => by
    show (if IntKind.i64 = IntKind.i64 then some (a == b) else none) = _
    rw [if_pos rfl]; by_cases h : a = b <;> simp [h], fun a b h => by injection h⟩

section
variable {κ : Type} [DecidableEq κ] {d : TypeDesc} {ek : κ → Value}
theorem findNow_key (hk : KE d ek) {k : κ} : ∀ (l : List MapEntry) (i : Nat), (∀ e ∈ l, ∃ j, e.key = ek j) →
    (Instr.findNow d (ek k) l i = some none ∧ ∀ e ∈ l, e.key ≠ ek k) ∨ ∃ j e, Instr.findNow d (ek k) l i = some (some (i + j, e.val)) ∧ l[j]? = some e ∧ e.key = ek k
  | [], _, _ => Or.inl ⟨rfl, by simp⟩
  | e :: l, i, h => by
    obtain ⟨j, hj⟩ := h e (by simp)
    unfold Instr.findNow
    rw [hj, hk.same]
    by_cases c : k = j
    · subst c
      rw [decide_eq_true rfl]
      exact Or.inr ⟨0, e, rfl, rfl, hj⟩
    · rw [decide_eq_false c]
      dsimp only
      rcases findNow_key hk l (i + 1) fun x hx => h x (List.mem_cons_of_mem _ hx) with ⟨h1, h2⟩ | ⟨n, x, h1, h2, h3⟩
      · refine Or.inl ⟨h1, fun x hx => ?_⟩
        rcases List.mem_cons.1 hx with rfl | hx
        · rw [hj]; exact fun e => c (hk.inj _ _ e).symm
        · exact h2 x hx
      · exact Or.inr ⟨n + 1, x, by rw [h1]; congr 3; omega, h2, h3⟩

/-- The map in block r has, for each key, what f says; n keys. -/
def GM (ek : κ → Value) (H : Hp) (r : Nat) (f : κ → Option Value) (n : Nat) : Prop :=
  ∃ (es : Array MapEntry) (c : Nat), H[r]? = some (.map es c) ∧ es.size = n ∧ (∀ (i : Nat) (e : MapEntry), es[i]? = some e → ∃ k, e.key = ek k ∧ f k = some e.val) ∧ (∀ k v, f k = some v → ∃ (i : Nat) (e : MapEntry), es[i]? = some e ∧ e.key = ek k) ∧
    ∀ (i j : Nat) (a b : MapEntry), i < j → es[i]? = some a → es[j]? = some b → a.key ≠ b.key
def upd (f : κ → Option Value) (k : κ) (v : Option Value) : κ → Option Value := fun j => if j = k then v else f j
variable {H H' : Hp} {r n : Nat} {f : κ → Option Value} {P : Program} {t e : TypeId}
theorem GM.keep {m : Nat → Prop} (h : GM ek H r f n) (hm : Mod m H H') (hr : ¬ m r) : GM ek H' r f n := by
  obtain ⟨es, c, h1, h2⟩ := h
  exact ⟨es, c, hm.get h1 hr, h2⟩
theorem GM.mod (h : GM ek H r f n) (hm : Mod (fun _ => False) H H') : GM ek H' r f n := h.keep hm fun e => e
theorem GM.lt (h : GM ek H r f n) : r < H.size := by obtain ⟨es, c, h1, _⟩ := h; exact lt_of_get h1
theorem GM.new (H : Hp) : GM ek (Array.push H (.map #[] 0)) H.size (fun _ => none) 0 :=
  ⟨#[], 0, get_push_new _ _, rfl, fun i e h => by simp at h, fun k v h => by simp at h, fun i j a b _ h => by simp at h⟩
theorem GM.at (h : GM ek H r f n) : ∃ es, MapAt H (some r) es ∧ es.length = n := by
  obtain ⟨es, c, h1, h2, _⟩ := h
  exact ⟨es.toList, ⟨c, by simpa using h1⟩, by simpa using h2⟩
theorem arr_list {es : Array MapEntry} {i : Nat} {x : MapEntry} : es.toList[i]? = some x ↔ es[i]? = some x := by rw [Array.getElem?_toList]
theorem GM.look (hk : KE d ek) (h : GM ek H r f n) (hd : keyD P t = some (d, e)) {z : Value} (hz : ∃ ti, P.info? e = some ti ∧ ti.zero = some z) (k : κ) : LookIs P t H (some r) (ek k) ((f k).getD z) (f k).isSome := by
  obtain ⟨es, c, h1, h2, h3, h4, h5⟩ := h
  refine ⟨es.toList, d, e, ⟨c, by simpa using h1⟩, hd, ?_⟩
  rcases findNow_key hk (k := k) es.toList 0 (fun x hx => by obtain ⟨i, hi⟩ := List.mem_iff_getElem?.1 hx; obtain ⟨j, hj, _⟩ := h3 i x (arr_list.1 hi); exact ⟨j, hj⟩) with ⟨g1, g2⟩ | ⟨j, x, g1, g2, g3⟩
  · rw [g1]
    have hn : f k = none := by
      cases hf : f k with
      | none => rfl
      | some v => obtain ⟨i, x, hi, hx⟩ := h4 k v hf; exact (g2 x (List.mem_iff_getElem?.2 ⟨i, arr_list.2 hi⟩) hx).elim
    rw [hn]
    exact ⟨hz, rfl⟩
  · rw [g1]
    obtain ⟨k', hk', hv⟩ := h3 j x (arr_list.1 g2)
    have : k' = k := hk.inj _ _ (by rw [← hk', g3])
    subst this
    rw [hv]
    exact ⟨rfl, rfl⟩
theorem setB_get {o : Obj} (h : r < H.size) : (H.setIfInBounds r o)[r]? = some o := by rw [Array.getElem?_setIfInBounds, if_pos rfl, if_pos h]
theorem setB_mod (o : Obj) : Mod (· = r) H (H.setIfInBounds r o) := ⟨by simp, fun b _ hb => by rw [Array.getElem?_setIfInBounds, if_neg (fun e => hb e.symm)]⟩
theorem GM.put (hk : KE d ek) (h : GM ek H r f n) (hd : keyD P t = some (d, e)) (k : κ) (v : Value) {K : Hp → Prop} (hK : ∀ H', GM ek H' r (upd f k (some v)) (if (f k).isSome then n else n + 1) → Mod (· = r) H H' → K H') :
    vMapPut P t (some r) (ek k) v H K := by
  have hr := h.lt
  obtain ⟨es, c, h1, h2, h3, h4, h5⟩ := h
  refine ⟨r, es, c, d, e, rfl, h1, hd, ?_⟩
  rcases findNow_key hk (k := k) es.toList 0 (fun x hx => by obtain ⟨i, hi⟩ := List.mem_iff_getElem?.1 hx; obtain ⟨j, hj, _⟩ := h3 i x (arr_list.1 hi); exact ⟨j, hj⟩) with ⟨g1, g2⟩ | ⟨j, x, g1, g2, g3⟩
  · rw [g1]
    have hn : f k = none := by
      cases hf : f k with
      | none => rfl
      | some v => obtain ⟨i, x, hi, hx⟩ := h4 k v hf; exact (g2 x (List.mem_iff_getElem?.2 ⟨i, arr_list.2 hi⟩) hx).elim
    refine hK _ ⟨_, _, setB_get hr, ?_, fun i x hx => ?_, fun k' v' hv => ?_, fun i j a b hij ha hb => ?_⟩ (setB_mod _)
    · rw [hn]; simp [h2]
    · rw [Array.getElem?_push] at hx
      split at hx
      · cases hx; exact ⟨k, rfl, by simp [upd]⟩
      · obtain ⟨k', q1, q2⟩ := h3 i x hx
        refine ⟨k', q1, ?_⟩
        unfold upd
        rw [if_neg]
        · exact q2
        · rintro rfl; rw [hn] at q2; cases q2
    · unfold upd at hv
      split at hv
      · rename_i hkk
        exact ⟨es.size, _, by rw [Array.getElem?_push, if_pos rfl], by rw [hkk]⟩
      · obtain ⟨i, x, q1, q2⟩ := h4 k' v' hv
        refine ⟨i, x, ?_, q2⟩
        have := (Array.getElem?_eq_some_iff.1 q1).1
        rw [Array.getElem?_push, if_neg (by omega)]; exact q1
    · rw [Array.getElem?_push] at ha hb
      split at ha
      · rename_i hi
        split at hb
        · omega
        · have := (Array.getElem?_eq_some_iff.1 hb).1; omega
      · split at hb
        · cases hb
          exact g2 a (List.mem_iff_getElem?.2 ⟨i, arr_list.2 ha⟩)
        · exact h5 i j a b hij ha hb
  · rw [g1]
    have g2' := arr_list.1 g2
    obtain ⟨k', hk', hv⟩ := h3 j x g2'
    have : k' = k := hk.inj _ _ (by rw [← hk', g3])
    subst this
    have key : ∀ (i : Nat) (y : MapEntry), (es.modify (0 + j) fun e => { e with key := ek k', val := v })[i]? = some y → ∃ y0 : MapEntry, es[i]? = some y0 ∧ y.key = y0.key ∧ y.val = if i = j then v else y0.val := by
      intro i y hy
      rw [Nat.zero_add, Array.getElem?_modify] at hy
      split at hy
      · rename_i hij
        subst hij
        rw [g2'] at hy
        cases hy
        exact ⟨x, g2', g3.symm, by simp⟩
      · exact ⟨y, hy, rfl, by rw [if_neg (by omega)]⟩
    refine hK _ ⟨_, _, setB_get hr, ?_, fun i y hy => ?_, fun k2 v' hv' => ?_, fun i j' a b hij ha hb => ?_⟩ (setB_mod _)
    · rw [hv]; simp [h2]
    · obtain ⟨y0, q1, q2, q3⟩ := key i y hy
      obtain ⟨k2, q4, q5⟩ := h3 i y0 q1
      refine ⟨k2, by rw [q2, q4], ?_⟩
      unfold upd
      by_cases c : i = j
      · subst c
        rw [g2'] at q1; cases q1
        have : k2 = k' := hk.inj _ _ (by rw [← q4, hk'])
        rw [if_pos this, q3, if_pos rfl]
      · rw [if_neg, q3, if_neg c, q5]
        rintro rfl
        rcases Nat.lt_or_gt_of_ne c with c | c
        · exact h5 i j _ _ c q1 g2' (by rw [q4, hk'])
        · exact h5 j i _ _ c g2' q1 (by rw [q4, hk'])
    · have back : ∀ (i : Nat) (y0 : MapEntry), es[i]? = some y0 → ∃ y : MapEntry, (es.modify (0 + j) fun e => { e with key := ek k', val := v })[i]? = some y ∧ y.key = y0.key := by
        intro i y0 hy
        rw [Nat.zero_add, Array.getElem?_modify]
        split
        · rename_i hij; subst hij; rw [g2'] at hy; cases hy; rw [g2']; exact ⟨_, rfl, g3.symm⟩
        · exact ⟨y0, hy, rfl⟩
      unfold upd at hv'
      split at hv'
      · rename_i c
        obtain ⟨y, q1, q2⟩ := back j x g2'
        exact ⟨j, y, q1, by rw [q2, hk', c]⟩
      · obtain ⟨i, y0, q1, q2⟩ := h4 k2 v' hv'
        obtain ⟨y, q3, q4⟩ := back i y0 q1
        exact ⟨i, y, q3, by rw [q4, q2]⟩
    · obtain ⟨a0, q1, q2, _⟩ := key i a ha
      obtain ⟨b0, q3, q4, _⟩ := key j' b hb
      rw [q2, q4]
      exact h5 i j' a0 b0 hij q1 q3
theorem GM.del (hk : KE d ek) (h : GM ek H r f n) (hd : keyD P t = some (d, e)) (k : κ) {K : Hp → Prop} (hK : ∀ H', GM ek H' r (upd f k none) (if (f k).isSome then n - 1 else n) → Mod (· = r) H H' → K H') :
    vMapDel P t (some r) (ek k) H K := by
  have hr := h.lt
  obtain ⟨es, c, h1, h2, h3, h4, h5⟩ := h
  refine ⟨r, es, c, d, e, rfl, h1, hd, ?_⟩
  rcases findNow_key hk (k := k) es.toList 0 (fun x hx => by obtain ⟨i, hi⟩ := List.mem_iff_getElem?.1 hx; obtain ⟨j, hj, _⟩ := h3 i x (arr_list.1 hi); exact ⟨j, hj⟩) with ⟨g1, g2⟩ | ⟨j, x, g1, g2, g3⟩
  · rw [g1]
    have hn : f k = none := by
      cases hf : f k with
      | none => rfl
      | some v => obtain ⟨i, x, hi, hx⟩ := h4 k v hf; exact (g2 x (List.mem_iff_getElem?.2 ⟨i, arr_list.2 hi⟩) hx).elim
    have ef : upd f k none = f := by
      funext j; unfold upd; split
      · rename_i c; rw [c, hn]
      · rfl
    refine hK _ ⟨_, _, setB_get hr, by rw [hn]; exact h2, ?_, ?_, h5⟩ (setB_mod _)
    · rw [ef]; exact h3
    · rw [ef]; exact h4
  · rw [g1]
    have g2' := arr_list.1 g2
    have hj := (Array.getElem?_eq_some_iff.1 g2').1
    obtain ⟨k', hk', hv⟩ := h3 j x g2'
    have : k' = k := hk.inj _ _ (by rw [← hk', g3])
    subst this
    have ee : es.eraseIdxIfInBounds (0 + j) = es.eraseIdx j hj := by unfold Array.eraseIdxIfInBounds; rw [dif_pos (by omega)]; congr 1; omega
    have key : ∀ i, (es.eraseIdx j hj)[i]? = if i < j then es[i]? else es[i + 1]? := fun i => by rw [Array.getElem?_eraseIdx]
    dsimp only
    rw [ee]
    refine hK _ ⟨_, _, setB_get hr, ?_, fun i y hy => ?_, fun k2 v' hv' => ?_, fun i j' a b hij ha hb => ?_⟩ (setB_mod _)
    · rw [hv]; simp [h2]
    · rw [key] at hy
      obtain ⟨i', hi', hne⟩ : ∃ i' : Nat, es[i']? = some y ∧ i' ≠ j := by
        split at hy
        · exact ⟨i, hy, by omega⟩
        · exact ⟨i + 1, hy, by omega⟩
      obtain ⟨k2, q1, q2⟩ := h3 i' y hi'
      refine ⟨k2, q1, ?_⟩
      unfold upd
      rw [if_neg]
      · exact q2
      · rintro rfl
        rcases Nat.lt_or_gt_of_ne hne with c | c
        · exact h5 i' j _ _ c hi' g2' (by rw [q1, hk'])
        · exact h5 j i' _ _ c g2' hi' (by rw [q1, hk'])
    · unfold upd at hv'
      split at hv'
      · cases hv'
      · rename_i hne
        obtain ⟨i, y, q1, q2⟩ := h4 k2 v' hv'
        have hij : i ≠ j := fun c => by
          subst c; rw [g2'] at q1; cases q1
          exact hne (hk.inj _ _ (by rw [← q2, hk']))
        rcases Nat.lt_or_gt_of_ne hij with c | c
        · exact ⟨i, y, by rw [key, if_pos c]; exact q1, q2⟩
        · exact ⟨i - 1, y, by rw [key, if_neg (by omega), show i - 1 + 1 = i by omega]; exact q1, q2⟩
    · rw [key] at ha hb
      have pick : ∀ (i : Nat) (y : MapEntry), (if i < j then es[i]? else es[i + 1]?) = some y → es[if i < j then i else i + 1]? = some y := fun i y h => by
        split at h
        · rename_i c; rw [if_pos c]; exact h
        · rename_i c; rw [if_neg c]; exact h
      refine h5 _ _ a b ?_ (pick i a ha) (pick j' b hb)
      split <;> split <;> omega
end
end Go.Proofs
