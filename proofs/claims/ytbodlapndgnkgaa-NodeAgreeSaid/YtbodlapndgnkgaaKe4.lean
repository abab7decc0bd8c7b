/- ENTRIES, part 4: slices of entries; slices.Clone. -/
import Derived.Test.YtbodlapndgnkgaaKe3
set_option linter.all false
set_option linter.constructorNameAsVariable false
namespace Go.Proofs
open Go Go.KC

theorem Fresh.refl (H : Hp) : Fresh H H := Mod.refl _ _

/-- A slice has entries. -/
def Lr (H : Hp) (x : Sl) (es : List En) : Prop := Rows H x 8 (es.map En.cells).flatten

theorem Lr.len {H : Hp} {x : Sl} {es : List En} (h : Lr H x es) : es.length = x.len := by
  have := h.1; rw [flat_length (f := En.cells) (k := 8) (fun _ => rfl)] at this
  exact Nat.eq_of_mul_eq_mul_right (by omega) this

theorem Lr.get {H : Hp} {x : Sl} {es : List En} (h : Lr H x es) {j : Nat} (hj : j < es.length) : ∃ a, x.a = some a ∧ RowAt H (a.add (j * 8)) (es[j]).cells :=
  row_get (k := 8) (f := En.cells) (by omega) (fun _ => rfl) h hj

theorem Lr.mod {H H' : Hp} {x : Sl} {es : List En} (h : Lr H x es) (m : Mod (fun _ => False) H H') : Lr H' x es := Rows.keep h m fun _ _ e => e

theorem Lr.cut {H : Hp} {x : Sl} {es : List En} (h : Lr H x es) {n : Nat} (hn : n ≤ x.len) : Lr H ⟨cutA x.a x.cap n 8, x.len - n, x.cap - n⟩ (es.drop n) := by
  have := Rows.drop h hn
  rw [← flat_drop (f := En.cells) (k := 8) (fun _ => rfl)] at this
  exact this

theorem Lr.pre {H : Hp} {x : Sl} {es : List En} (h : Lr H x es) {n : Nat} (hn : n ≤ x.len) : Lr H ⟨cutA x.a x.cap 0 8, n, x.cap⟩ (es.take n) := by
  have := Rows.take h hn
  rw [← flat_take (f := En.cells) (k := 8) (fun _ => rfl)] at this
  exact this

/-- Numbers that are not great. -/
def nice (n : Int) : Prop := -1000000000 ≤ n ∧ n ≤ 1000000000
/-- Entries that one holds alone, new since H. -/
structure Eo (H H' : Hp) (x : Sl) (es : List En) : Prop where
  own : Own H' x T_api_Entry 8 (es.map En.cells).flatten
  blk : ∀ g ∈ x.blk, H.size ≤ g
  mod : Mod (fun _ => False) H H'
theorem Eo.lr {H H' : Hp} {x : Sl} {es : List En} (h : Eo H H' x es) : Lr H' x es := Own.rows h.own
theorem Eo.len {H H' : Hp} {x : Sl} {es : List En} (h : Eo H H' x es) : es.length = x.len := h.lr.len
theorem Eo.from {H0 H H' : Hp} {x : Sl} {es : List En} (h : Eo H H' x es) (m : Mod (fun _ => False) H0 H) : Eo H0 H' x es := ⟨h.own, fun g hg => Nat.le_trans m.size (h.blk g hg), m.trans h.mod⟩
theorem Eo.to {H H' H2 : Hp} {x : Sl} {es : List En} (h : Eo H H' x es) (m : Mod (fun _ => False) H' H2) : Eo H H2 x es := ⟨h.own.keep m fun _ _ e => e, h.blk, h.mod.trans m⟩

section
variable {H : Hp} {x : Sl} {es : List En}
theorem slices_Clone_spec (h : Lr H x es) (hl : x.len ≤ 1000000000) : SCalls Try.prog slices_Clone_sl_api_Entry_api_Entry.id [.slice x.a x.len x.cap] H fun r H' => ∃ y : Sl, r = .slice y.a y.len y.cap ∧ Eo H H' y es := by
  apply slices_Clone_sl_api_Entry_api_Entry.calls
  have hlen := h.len
  refine Br.mk (fun hn => ?_) (fun hn => ?_)
  · have ha : x.a = none := by cases hx : x.a <;> simp_all
    have h0 := h.2.2.2 ha
    have h2 := h.2.1
    have he : es = [] := List.eq_nil_of_length_eq_zero (by omega)
    refine ⟨⟨none, 0, 0⟩, rfl, ?_, fun g hg => by simp [Sl.blk] at hg, Mod.refl _ _⟩
    rw [he]; exact Own.nil _ _ _
  · obtain ⟨ti, hi, hz, hsz, hby⟩ := en_info
    have mp : Mod (fun _ => False) H (Array.push H (.cells #[] T_api_Entry)) := Mod.push _ _ _
    have hsrc : SrcAt (Array.push H (.cells #[] T_api_Entry)) 8 x.len (.slice x.a x.len x.cap) (es.map En.cells).flatten := by
      cases hx : x.a with
      | none => rw [hx] at hn; simp at hn
      | some a => exact ⟨by rw [flat_length (f := En.cells) (k := 8) (fun _ => rfl)]; omega, (h.mod mp).2.2.1 a hx⟩
    refine Own.app (x := ⟨some (Addr.mk (Array.size H) 0 none), 0, 0⟩) (e := T_api_Entry) (ti := ti) (z := En.zero.val) (cs := []) (news := (es.map En.cells).flatten)
      ⟨by simp, Nat.le_refl _, Or.inr ⟨H.size, #[], rfl, get_push_new _ _, by simp, by simp⟩⟩ und_ents hi hz (by rw [hsz]; rfl) (by omega) (by rw [hsz]; exact hsrc)
      (by rw [hsz, flat_length (f := En.cells) (k := 8) (fun _ => rfl)]; simp only [srcLen]; omega) (allOne_ents es) (by simp only [srcLen]; rw [hby]; omega) ?_
    intro y H2 hy hyl hm hyb _
    rw [hsz, List.nil_append] at hy
    have F : Fresh H H2 := ((Fresh.refl H).step mp fun _ h => h.elim).step hm fun g hg => by simp [Sl.blk] at hg; omega
    refine ⟨y, rfl, hy, fun g hg => ?_, F.mod⟩
    rcases hyb g hg with h | h
    · simp [Sl.blk] at h; omega
    · have := mp.size; omega
end

theorem own_pre {H : Hp} {x : Sl} {e : TypeId} {k n : Nat} {cs : List Value} (h : Own H x e k cs) (hn : n ≤ x.len) : Own H ⟨x.a, n, x.cap⟩ e k (cs.take (n * k)) := by
  obtain ⟨h1, h2, h3⟩ := h
  have hk : n * k ≤ x.len * k := Nat.mul_le_mul_right _ hn
  have hl : (cs.take (n * k)).length = n * k := by rw [List.length_take]; omega
  refine ⟨hl, by simp only; omega, ?_⟩
  rcases h3 with h3 | ⟨g, cur, ha, hg, hs, ht⟩
  · exact Or.inl h3
  · refine Or.inr ⟨g, cur, ha, hg, hs, ?_⟩
    rw [hl]
    conv => rhs; rw [← ht]
    rw [List.take_take]; congr 1; omega

theorem Eo.pre {H H' : Hp} {x : Sl} {es : List En} (h : Eo H H' x es) {n : Nat} (hn : n ≤ x.len) : Eo H H' ⟨x.a, n, x.cap⟩ (es.take n) := by
  refine ⟨?_, h.blk, h.mod⟩
  rw [flat_take (f := En.cells) (k := 8) (fun _ => rfl)]
  exact own_pre h.own hn

/-- An entry is laid behind entries that are new. -/
theorem Eo.app {H H1 H2 : Hp} {x : Sl} {es : List En} {e : En} {K : Sl → Hp → Prop} (h : Eo H H1 x es) (hm : Mod (fun _ => False) H1 H2) (hl : x.len ≤ 1000000000) (hK : ∀ x' H', Eo H H' x' (es ++ [e]) → K x' H') :
    vApp Try.prog T_sl_api_Entry x.a x.len x.cap (.slice (some (Addr.mk (Array.size H2) 0 none)) 1 1) (Array.push H2 (.cells e.cells.toArray T_api_Entry)) K := by
  refine ents_app h.own hm hl fun x' H' ho _ m hb => hK x' H' ⟨ho, fun g hg => ?_, ?_⟩
  · rcases hb g hg with h' | h'
    · exact h.blk g h'
    · exact Nat.le_trans h.mod.size h'
  · exact ((Fresh.refl H).step h.mod fun _ h => h.elim).step m (fun g hg => h.blk g hg) |>.mod

theorem copy_app {H : Hp} {x : Sl} {es : List En} {K : Sl → Hp → Prop} (h : Lr H x es) (hl : x.len ≤ 1000000000) (hK : ∀ y H', Eo H H' y es → K y H') :
    vApp Try.prog T_sl_api_Entry none 0 0 (.slice x.a x.len x.cap) H K := by
  obtain ⟨ti, hi, hz, hsz, hby⟩ := en_info
  have hlen := h.len
  have hsrc : SrcAt H 8 x.len (.slice x.a x.len x.cap) (es.map En.cells).flatten := by
    cases hx : x.a with
    | none =>
      have h0 := h.2.2.2 hx
      have h2 := h.2.1
      have he : es = [] := List.eq_nil_of_length_eq_zero (by omega)
      rw [he]; exact rfl
    | some a => exact ⟨by rw [flat_length (f := En.cells) (k := 8) (fun _ => rfl)]; omega, h.2.2.1 a hx⟩
  refine Own.app (x := ⟨none, 0, 0⟩) (e := T_api_Entry) (ti := ti) (z := En.zero.val) (cs := []) (news := (es.map En.cells).flatten) (Own.nil _ _ _) und_ents hi hz (by rw [hsz]; rfl) (by omega) (by rw [hsz]; exact hsrc)
    (by rw [hsz, flat_length (f := En.cells) (k := 8) (fun _ => rfl)]; simp only [srcLen]; omega) (allOne_ents es) (by simp only [srcLen]; rw [hby]; omega) ?_
  intro y H2 hy hyl hm hyb _
  rw [hsz, List.nil_append] at hy
  refine hK y H2 ⟨hy, fun g hg => ?_, hm.mono fun g _ hg => by simp [Sl.blk] at hg⟩
  rcases hyb g hg with h | h
  · simp [Sl.blk] at h
  · omega

end Go.Proofs
