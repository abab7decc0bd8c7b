/- HEAPS, part 1: what stays, rows of cells that one holds alone, append to them. Generic. -/
import Derived.Test.YtbodlapndgnkgaaKc13
set_option linter.all false
set_option linter.constructorNameAsVariable false
namespace Go.KC

/-- Behind H' stands all that stood in H, but what m names. -/
structure Mod (m : Nat → Prop) (H H' : Hp) : Prop where
  size : H.size ≤ H'.size
  keep : ∀ b, b < H.size → ¬ m b → H'[b]? = H[b]?

theorem Mod.refl (m : Nat → Prop) (H : Hp) : Mod m H H := ⟨Nat.le_refl _, fun _ _ _ => rfl⟩
theorem Mod.trans {m : Nat → Prop} {H H1 H2 : Hp} (h : Mod m H H1) (k : Mod m H1 H2) : Mod m H H2 :=
  ⟨Nat.le_trans h.size k.size, fun b hb hm => (k.keep b (Nat.lt_of_lt_of_le hb h.size) hm).trans (h.keep b hb hm)⟩
/-- Two steps; what the second one may turn is new, or the first one's. -/
theorem Mod.trans' {m m' : Nat → Prop} {H H1 H2 : Hp} (h : Mod m H H1) (k : Mod m' H1 H2) (hm : ∀ b, b < H.size → m' b → m b) : Mod m H H2 :=
  ⟨Nat.le_trans h.size k.size, fun b hb hn => (k.keep b (Nat.lt_of_lt_of_le hb h.size) (fun e => hn (hm b hb e))).trans (h.keep b hb hn)⟩
theorem Mod.mono {m m' : Nat → Prop} {H H' : Hp} (h : Mod m H H') (hm : ∀ b, b < H.size → m b → m' b) : Mod m' H H' :=
  ⟨h.size, fun b hb hn => h.keep b hb (fun e => hn (hm b hb e))⟩
theorem Mod.get {m : Nat → Prop} {H H' : Hp} (h : Mod m H H') {b : Nat} {o : Obj} (hb : H[b]? = some o) (hn : ¬ m b) : H'[b]? = some o :=
  (h.keep b (Array.getElem?_eq_some_iff.1 hb).1 hn).trans hb

theorem lt_of_get {H : Hp} {b : Nat} {o : Obj} (h : H[b]? = some o) : b < H.size := (Array.getElem?_eq_some_iff.1 h).1

theorem get_push {H : Hp} {b : Nat} {o : Obj} (x : Obj) (h : H[b]? = some o) : (Array.push H x)[b]? = some o := by
  have := lt_of_get h
  rw [Array.getElem?_push, if_neg (by omega)]; exact h
theorem get_push_new (H : Hp) (x : Obj) : (Array.push H x)[H.size]? = some x := by rw [Array.getElem?_push, if_pos rfl]
theorem Mod.push (m : Nat → Prop) (H : Hp) (x : Obj) : Mod m H (Array.push H x) :=
  ⟨by simp, fun b hb _ => by rw [Array.getElem?_push, if_neg (by omega)]⟩
theorem size_holes (H : Hp) : ∀ n, (holes H n).size = H.size + n
  | 0 => rfl
  | n + 1 => by simp [holes, size_holes H n]; omega
theorem Mod.holes (m : Nat → Prop) (H : Hp) : ∀ n, Mod m H (holes H n)
  | 0 => .refl m H
  | n + 1 => (Mod.holes m H n).trans (.push m _ _)

theorem cell_of {H : Hp} {b o : Nat} {c : Array Value} {e : TypeId} {fz : Nat × Nat} (h : H[b]? = some (.cells c e fz)) : Hp.cell? H ⟨b, o, none⟩ = c[o]? := by
  simp [Hp.cell?, h]
theorem frozen_of {H : Hp} {b o : Nat} {c : Array Value} {e : TypeId} (h : H[b]? = some (.cells c e (0, 0))) : Hp.frozen? H ⟨b, o, none⟩ = false := by
  simp [Hp.frozen?, h]

theorem get_setCell {H : Hp} {b o : Nat} {c : Array Value} {e : TypeId} {fz : Nat × Nat} (v : Value) (h : H[b]? = some (.cells c e fz)) :
    (Hp.setCell H ⟨b, o, none⟩ v)[b]? = some (.cells (c.setIfInBounds o v) e fz) := by
  have := Hp.getElem?_setCell_same H ⟨b, o, none⟩ v h
  simpa using this
theorem get_setCell_ne {H : Hp} {p : Addr} {g : Nat} (v : Value) (hg : g ≠ p.block) : (Hp.setCell H p v)[g]? = H[g]? := Hp.getElem?_setCell_ne H p v hg
theorem Mod.setCell {m : Nat → Prop} (H : Hp) (p : Addr) (v : Value) (hp : m p.block) : Mod m H (Hp.setCell H p v) :=
  ⟨by rw [Hp.size_setCell]; exact Nat.le_refl _, fun b _ hn => Hp.getElem?_setCell_ne H p v (fun e => hn (e ▸ hp))⟩

theorem wr_one {H : Hp} {b o : Nat} {c : Array Value} {e : TypeId} (h : H[b]? = some (.cells c e (0, 0))) (ho : o < c.size) : WrAt H ⟨b, o, none⟩ 1 := fun j hj => by
  obtain rfl : j = 0 := by omega
  rw [Addr.add_loc, cell_of h, frozen_of h]
  simp [ho]

/-- A run of stores into one block. -/
theorem get_setCells {b : Nat} {e : TypeId} {fz : Nat × Nat} : ∀ (vs : List Value) (o j : Nat) (H : Hp) (c : Array Value), H[b]? = some (.cells c e fz) → o + j + vs.length ≤ c.size →
    (Hp.setCells H ⟨b, o, none⟩ vs j)[b]? = some (.cells (c.toList.take (o + j) ++ vs ++ c.toList.drop (o + j + vs.length)).toArray e fz)
  | [], o, j, H, c, h, _ => by simpa [Hp.setCells] using h
  | v :: r, o, j, H, c, h, hl => by
    simp only [List.length_cons] at hl
    have h1 := get_setCell (o := o + j) v h
    have h2 := get_setCells r o (j + 1) (Hp.setCell H ⟨b, o + j, none⟩ v) _ h1 (by simp; omega)
    simp only [Hp.setCells, Addr.add_loc]
    rw [h2]
    congr 2
    apply congrArg
    have hlt : o + j < c.toList.length := by simp; omega
    simp only [Array.toList_setIfInBounds]
    apply List.ext_getElem?
    intro n
    simp only [List.getElem?_append, List.getElem?_take, List.getElem?_drop, List.getElem?_set, List.length_append, List.length_take, List.length_set, List.length_cons]
    have hm : min (o + (j + 1)) c.toList.length = o + j + 1 := by omega
    have hm' : min (o + j) c.toList.length = o + j := by omega
    rw [hm, hm']
    by_cases c1 : n < o + j
    · simp [c1, show n < o + j + 1 by omega, show n < o + (j + 1) by omega, show o + j ≠ n by omega, show n < o + j + 1 + r.length by omega, show n < o + j + (r.length + 1) by omega]
    · by_cases c2 : n = o + j
      · subst c2
        have hcs : o + j < c.size := by simpa using hlt
        simp [show o + j < o + (j + 1) by omega, hcs]
        intro h; omega
      · simp only [show ¬ n < o + j + 1 by omega, c1, if_false, show o + j + 1 + r.length = o + j + (r.length + 1) by omega, show ¬ o + j = o + (j + 1) + r.length + (n - (o + j + (r.length + 1))) by omega]
        split
        · have : n - (o + j) = (n - (o + j + 1)) + 1 := by omega
          rw [this, List.getElem?_cons_succ]
        · congr 1; omega

theorem get_setCells_ne {p : Addr} {g : Nat} (hg : g ≠ p.block) : ∀ (vs : List Value) (j : Nat) (H : Hp), (Hp.setCells H p vs j)[g]? = H[g]?
  | [], _, _ => rfl
  | v :: r, j, H => by
    have hb : (p.add j).block = p.block := by unfold Addr.add; split <;> rfl
    show (Hp.setCells (Hp.setCell H (p.add j) v) p r (j + 1))[g]? = _
    rw [get_setCells_ne hg r (j + 1), Hp.getElem?_setCell_ne _ _ _ (by rw [hb]; exact hg)]
theorem size_setCells {p : Addr} : ∀ (vs : List Value) (j : Nat) (H : Hp), (Hp.setCells H p vs j).size = H.size
  | [], _, _ => rfl
  | v :: r, j, H => by
    show (Hp.setCells (Hp.setCell H (p.add j) v) p r (j + 1)).size = _
    rw [size_setCells r (j + 1), Hp.size_setCell]

/-- A slice that one holds alone: nil, or at the head of a block of its own; its first cells are cs. -/
def Own (H : Hp) (x : Sl) (e : TypeId) (sz : Nat) (cs : List Value) : Prop :=
  cs.length = x.len * sz ∧ x.len ≤ x.cap ∧
  ((x.a = none ∧ x.cap = 0) ∨ ∃ g cur, x.a = some ⟨g, 0, none⟩ ∧ H[g]? = some (.cells cur e (0, 0)) ∧ cur.size = x.cap * sz ∧ cur.toList.take cs.length = cs)

def Sl.blk (x : Sl) : List Nat := match x.a with | some a => [a.block] | none => []

theorem Own.lt {H : Hp} {x : Sl} {e : TypeId} {sz : Nat} {cs : List Value} (h : Own H x e sz cs) : ∀ b ∈ x.blk, b < H.size := by
  intro b hb
  obtain ⟨_, _, h | ⟨g, cur, ha, hg, _⟩⟩ := h
  · simp [Sl.blk, h.1] at hb
  · simp [Sl.blk, ha] at hb; subst hb; exact lt_of_get hg

theorem Own.keep {m : Nat → Prop} {H H' : Hp} {x : Sl} {e : TypeId} {sz : Nat} {cs : List Value} (h : Own H x e sz cs) (hm : Mod m H H') (hx : ∀ b ∈ x.blk, ¬ m b) : Own H' x e sz cs := by
  obtain ⟨h1, h2, h3⟩ := h
  refine ⟨h1, h2, ?_⟩
  rcases h3 with h3 | ⟨g, cur, ha, hg, r⟩
  · exact Or.inl h3
  · exact Or.inr ⟨g, cur, ha, hm.get hg (hx g (by simp [Sl.blk, ha])), r⟩

theorem Own.nil (H : Hp) (e : TypeId) (sz : Nat) : Own H ⟨none, 0, 0⟩ e sz [] := ⟨by simp, Nat.le_refl _, Or.inl ⟨rfl, rfl⟩⟩

theorem Own.row {H : Hp} {x : Sl} {e : TypeId} {sz : Nat} {cs : List Value} (h : Own H x e sz cs) {a : Addr} (ha : x.a = some a) : RowAt H a cs := by
  obtain ⟨h1, h2, h3 | ⟨g, cur, hg0, hg, hs, ht⟩⟩ := h
  · rw [h3.1] at ha; cases ha
  · rw [hg0] at ha; cases ha
    intro j v hj
    rw [Addr.add_loc, cell_of hg, Nat.zero_add]
    rw [← ht, List.getElem?_take] at hj
    split at hj
    · simpa using hj
    · cases hj

/-- It can be read as a source. -/
theorem Own.src {H : Hp} {x : Sl} {e : TypeId} {sz : Nat} {cs : List Value} (h : Own H x e sz cs) : SrcAt H sz x.len (.slice x.a x.len x.cap) cs := by
  cases ha : x.a with
  | none =>
    obtain ⟨h1, h2, h3 | ⟨g, cur, hg0, _⟩⟩ := h
    · have : x.len = 0 := by omega
      rw [this] at h1
      exact List.eq_nil_of_length_eq_zero (by omega)
    · rw [hg0] at ha; cases ha
  | some a => exact ⟨h.1, h.row ha⟩

theorem take_two (a b c : List Value) : (a ++ (b ++ c)).take (a.length + b.length) = a ++ b := by
  rw [← List.append_assoc, ← List.length_append]; exact List.take_left

/-- APPEND TO A SLICE THAT ONE HOLDS ALONE. -/
theorem Own.app {P : Program} {H : Hp} {x : Sl} {e t : TypeId} {ti : TypeInfo} {z : Value} {cs news : List Value} {src : Value} {K : Sl → Hp → Prop} (h : Own H x e ti.size cs)
    (hu : P.underlying t = some (.slice e)) (hi : P.info? e = some ti) (hz : ti.zero = some z) (hzs : z.cells.size = ti.size) (hby : 0 < ti.bytes)
    (hs : SrcAt H ti.size (srcLen src) src news) (hl : news.length = srcLen src * ti.size) (h1 : allOne news = true) (hb : (x.len + srcLen src) * ti.bytes ≤ 140737488355328)
    (hK : ∀ x' H', Own H' x' e ti.size (cs ++ news) → x'.len = x.len + srcLen src → Mod (· ∈ x.blk) H H' → (∀ b ∈ x'.blk, b ∈ x.blk ∨ b = H.size) → (0 < x'.len → x'.a ≠ none) → K x' H') :
    vApp P t x.a x.len x.cap src H K := by
  have hsrc := h.src
  obtain ⟨g1, g2, g3⟩ := h
  refine ⟨e, ti, z, news, hu, hi, hz, hby, hs, h1, fun hc => ?_, fun hc => ?_⟩
  · rcases g3 with ⟨ha, hcap⟩ | ⟨g, cur, ha, hg, hsz, ht⟩
    · rw [ha]
      have e1 : x.len = 0 := by omega
      have e2 : srcLen src = 0 := by omega
      refine hK ⟨none, x.len + srcLen src, x.cap⟩ H ?_ rfl (.refl _ _) (fun b hb => by simp [Sl.blk] at hb) (fun h => by simp only at h; omega)
      rw [e1] at g1; rw [e2] at hl
      have c0 : cs = [] := List.eq_nil_of_length_eq_zero (by omega)
      have n0 : news = [] := List.eq_nil_of_length_eq_zero (by omega)
      subst c0; subst n0
      exact ⟨by simp [e1, e2], by simp only; omega, Or.inl ⟨rfl, hcap⟩⟩
    · rw [ha]
      have hfit : x.len * ti.size + news.length ≤ cur.size := by rw [hl, hsz, ← Nat.add_mul]; exact Nat.mul_le_mul_right _ hc
      simp only [Addr.add_loc, Nat.zero_add]
      refine ⟨fun j hj => ?_, ?_⟩
      · rw [Addr.add_loc, cell_of hg, frozen_of hg]
        exact ⟨by simp; omega, rfl⟩
      · have hget := get_setCells news (x.len * ti.size) 0 H cur hg (by simpa using hfit)
        refine hK ⟨some ⟨g, 0, none⟩, x.len + srcLen src, x.cap⟩ _ ?_ rfl ⟨by rw [size_setCells]; exact Nat.le_refl _, fun b _ hn => get_setCells_ne (by intro e; exact hn (by simp [Sl.blk, ha, e])) _ _ _⟩ (fun b hb => Or.inl (by simpa [Sl.blk, ha] using hb)) (fun _ => by simp)
        refine ⟨by rw [List.length_append, g1, hl, ← Nat.add_mul], hc, Or.inr ⟨g, _, rfl, hget, ?_, ?_⟩⟩
        · simp; omega
        · simp only [Nat.add_zero]
          rw [g1] at ht
          rw [List.length_append, ht, ← g1]
          rw [List.append_assoc]
          exact take_two _ _ _
  · refine ⟨cs, hsrc, hb, fun c' hc1 hc2 => ?_⟩
    refine hK ⟨some ⟨H.size, 0, none⟩, x.len + srcLen src, c'⟩ _ ?_ rfl (.push _ _ _) (fun b hb => Or.inr (by simpa [Sl.blk] using hb)) (fun _ => by simp)
    refine ⟨by rw [List.length_append, g1, hl, ← Nat.add_mul], hc1, Or.inr ⟨H.size, _, rfl, get_push_new _ _, ?_, ?_⟩⟩
    · have : (Builtin.zeroCells z.cells (c' - (x.len + srcLen src))).size = (c' - (x.len + srcLen src)) * ti.size := by rw [size_zeroCells', hzs]
      simp only [List.size_toArray, List.length_append, g1, hl, Array.length_toList, this, ← Nat.add_mul]
      congr 1; omega
    · rw [List.length_append, List.append_assoc]; exact take_two _ _ _
where
  size_zeroCells' (z : Array Value) (n : Nat) : (Builtin.zeroCells z n).size = n * z.size := by simp [Builtin.zeroCells]

end Go.KC
