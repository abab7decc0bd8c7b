/- SORTED MAPS: what their walks have in common, generic over the program. -/
import Derived.Test.YtihadekhodlacaaKm1
import Derived.Test.YtihadekhodlacaaKm2
set_option linter.all false
set_option linter.constructorNameAsVariable false
namespace Go.Proofs
open Go Go.KC

/-! ### texts as keys -/
theorem bl_irr : ∀ l : List UInt8, Op.bytesLess l l = false
  | [] => rfl
  | a :: r => by simp [Op.bytesLess, bl_irr r]
theorem bl_trans : ∀ a b c : List UInt8, Op.bytesLess a b = true → Op.bytesLess b c = true → Op.bytesLess a c = true
  | _, [], _, h, _ => by cases ‹List UInt8› <;> simp [Op.bytesLess] at h
  | [], b :: y, [], _, k => by simp [Op.bytesLess] at k
  | [], b :: y, c :: z, _, _ => rfl
  | a :: x, b :: y, [], _, k => by simp [Op.bytesLess] at k
  | a :: x, b :: y, c :: z, h, k => by
    simp only [Op.bytesLess, Bool.or_eq_true, decide_eq_true_eq, Bool.and_eq_true, beq_iff_eq] at h k ⊢
    rcases h with h | ⟨rfl, h⟩ <;> rcases k with k | ⟨rfl, k⟩
    · exact Or.inl (UInt8.lt_trans h k)
    · exact Or.inl h
    · exact Or.inl k
    · exact Or.inr ⟨rfl, bl_trans x y z h k⟩
theorem bl_tri : ∀ a b : List UInt8, Op.bytesLess a b = true ∨ a = b ∨ Op.bytesLess b a = true
  | [], [] => Or.inr (Or.inl rfl)
  | [], _ :: _ => Or.inl rfl
  | _ :: _, [] => Or.inr (Or.inr rfl)
  | a :: x, b :: y => by
    simp only [Op.bytesLess, Bool.or_eq_true, decide_eq_true_eq, Bool.and_eq_true, beq_iff_eq]
    rcases UInt8.lt_or_lt_of_ne (a := a) (b := b) |> fun h => (Decidable.em (a = b)).elim Or.inr (fun hn => Or.inl (h hn)) with h | h
    · rcases h with h | h
      · exact Or.inl (Or.inl h)
      · exact Or.inr (Or.inr (Or.inl h))
    · subst h
      rcases bl_tri x y with h | h | h
      · exact Or.inl (Or.inr ⟨rfl, h⟩)
      · subst h; exact Or.inr (Or.inl rfl)
      · exact Or.inr (Or.inr (Or.inr ⟨rfl, h⟩))
theorem toList_data (s : ByteArray) : s.toList = s.data.toList := by
  have : ∀ n i (r : List UInt8), s.size - i = n → ByteArray.toList.loop s i r = r.reverse ++ s.data.toList.drop i := by
    intro n
    induction n with
    | zero =>
      intro i r h
      unfold ByteArray.toList.loop
      rw [if_neg (by omega), List.drop_eq_nil_of_le (by rw [ba_len]; omega), List.append_nil]
    | succ n ih =>
      intro i r h
      unfold ByteArray.toList.loop
      rw [if_pos (by omega), ih _ _ (by omega)]
      have hi : i < s.data.toList.length := by rw [ba_len]; omega
      rw [List.drop_eq_getElem_cons hi]
      have : s.get! i = s.data.toList[i] := by
        have hi' : i < s.data.size := by simpa using hi
        show s.data[i]! = _
        rw [getElem!_pos s.data i hi']; simp
      rw [this]; simp
  unfold ByteArray.toList
  rw [this s.size 0 [] (by omega)]; simp
theorem ba_toList_inj {a b : ByteArray} (h : a.toList = b.toList) : a = b := by
  rw [toList_data, toList_data] at h
  exact ByteArray.ext (Array.ext' h)
instance : KO ByteArray := ⟨fun a b => Op.bytesLess a.toList b.toList = true, fun a b => inferInstanceAs (Decidable (Op.bytesLess a.toList b.toList = true)), fun a => by rw [bl_irr]; simp, fun _ _ _ => bl_trans _ _ _, fun a b => by
  rcases bl_tri a.toList b.toList with h | h | h
  · exact Or.inl h
  · exact Or.inr (Or.inl (ba_toList_inj h))
  · exact Or.inr (Or.inr h)⟩

/-! ### slices.overlaps tells 'false' of a new element -/
theorem ov_tells {P : Program} {ov : FuncId} {fn : Func} {tS tR e : TypeId} {k : Nat} (hf : P.funcs[ov]? = some fn) (hname : (fn.name == "runtime.NumGoroutine") = false) (hb : fn.body.isNone = true) (hn : Extern.findNext fn = none)
    (he : Extern.find fn = some (Extern.SlicesOverlaps.overlaps #[tS, tS] #[tR])) (hE : El P tS e k) {H : Hp} {gv : Nat} {ev : TypeId} {p : List Value} (hv : Blk H gv ev p) (b : Addr) (lb cb : Nat) (hbn : b.block ≠ gv)
    (hbl : ∃ c, H[b.block]? = some (.cells c e (0, 0)) ∧ c.size ≠ 0) : ExtTells P ov [.slice (some ⟨gv, 0, none⟩) 1 1, .slice (some b) lb cb] H (.bool false) := by
  intro M w hh
  obtain ⟨c, hc, hc0⟩ := hbl
  obtain ⟨_, hv'⟩ := hh.of_some hv (by simp [hole])
  obtain ⟨_, hc'⟩ := hh.of_some hc (by simp [hole])
  obtain ⟨ti, z, hi, _, hsz, _⟩ := hE.inf
  have := Lib.run_overlaps_apart w tS tR e hE.und k (fun w => by rw [← hsz]; exact run_sizeOf' hi w) ⟨gv, 0, none⟩ b 1 1 lb cb (Ne.symm hbn) ev e p.length c.size
    (by simp [World.shape?, hv']) (by simp [World.shape?, hc']) hc0 (by simp [World.frozen?, hv']) (by simp [World.frozen?, hv'])
  rw [run_callFunc_extern hf hname hb hn he]
  rw [show ([.slice (some ⟨gv, 0, none⟩) 1 1, .slice (some b) lb cb] : List Value).toArray = #[.slice (some ⟨gv, 0, none⟩) 1 1, .slice (some b) lb cb] from rfl, this]
  rfl

/-! ### elements -/
theorem flat_take' {α : Type} {f : α → List Value} {k : Nat} (hf : ∀ c, (f c).length = k) (l : List α) (n : Nat) : (l.map f).flatten.take (n * k) = ((l.take n).map f).flatten := by
  induction l generalizing n with
  | nil => simp
  | cons a l ih =>
    cases n with
    | zero => simp
    | succ n =>
      simp only [List.map_cons, List.flatten_cons, List.take_succ_cons]
      rw [List.take_append, hf, List.take_of_length_le (by rw [hf, Nat.succ_mul]; omega), show (n + 1) * k - k = n * k by rw [Nat.succ_mul]; omega, ih]
theorem flat_drop' {α : Type} {f : α → List Value} {k : Nat} (hf : ∀ c, (f c).length = k) (l : List α) (n : Nat) : (l.map f).flatten.drop (n * k) = ((l.drop n).map f).flatten := by
  induction l generalizing n with
  | nil => simp
  | cons a l ih =>
    cases n with
    | zero => simp
    | succ n =>
      simp only [List.map_cons, List.flatten_cons, List.drop_succ_cons]
      rw [List.drop_append, hf, List.drop_eq_nil_of_le (by rw [hf, Nat.succ_mul]; omega), List.nil_append, show (n + 1) * k - k = n * k by rw [Nat.succ_mul]; omega, ih]
theorem flat_len' {α : Type} {f : α → List Value} {k : Nat} (hf : ∀ c, (f c).length = k) : ∀ l : List α, (l.map f).flatten.length = l.length * k
  | [] => by simp
  | a :: l => by simp only [List.map_cons, List.flatten_cons, List.length_append, hf, flat_len' hf l, List.length_cons, Nat.succ_mul]; omega
theorem row_get' {α : Type} {f : α → List Value} {k : Nat} (hk : 0 < k) (hf : ∀ c, (f c).length = k) {H : Hp} {x : Sl} {cs : List α} (h : Rows H x k (cs.map f).flatten) {j : Nat} (hj : j < cs.length) :
    ∃ a, x.a = some a ∧ RowAt H (a.add (j * k)) (f cs[j]) := by
  obtain ⟨h1, h2, h3, h4⟩ := h
  rw [flat_len' hf] at h1
  have hl : cs.length = x.len := Nat.eq_of_mul_eq_mul_right hk h1
  cases ha : x.a with
  | none => have := h4 ha; omega
  | some a =>
    refine ⟨a, rfl, fun i v hi => ?_⟩
    have hik : i < k := by rw [← hf cs[j]]; exact (List.getElem?_eq_some_iff.1 hi).1
    have hd : (cs.map f).flatten.drop (j * k) = f cs[j] ++ ((cs.drop (j + 1)).map f).flatten := by
      rw [flat_drop' hf, List.drop_eq_getElem_cons hj, List.map_cons, List.flatten_cons]
    have hg : (cs.map f).flatten[j * k + i]? = some v := by
      rw [← List.getElem?_drop, hd, List.getElem?_append_left (by rw [hf]; exact hik)]; exact hi
    have hc := h3 a ha (j * k + i) v hg
    have h0 := h3 a ha 0 _ (List.getElem?_eq_getElem (by rw [flat_len' hf]; exact Nat.mul_pos (by omega) hk))
    have hs : a.spot = none := by have := spot_of_cell h0; simpa [Addr.add] using this
    rw [add_add _ _ _ hs]; exact hc
theorem rows_len' {α : Type} {f : α → List Value} {k : Nat} (hk : 0 < k) (hf : ∀ c, (f c).length = k) {H : Hp} {x : Sl} {cs : List α} (h : Rows H x k (cs.map f).flatten) : cs.length = x.len := by
  have := h.1; rw [flat_len' hf] at this
  exact Nat.eq_of_mul_eq_mul_right hk this
theorem allOne_flat {α : Type} {f : α → List Value} (hf : ∀ c, allOne (f c) = true) : ∀ l : List α, allOne (l.map f).flatten = true
  | [] => rfl
  | a :: l => by simp [allOne_append, hf, allOne_flat hf l]
theorem flat_set' {α : Type} {f : α → List Value} {k : Nat} (hf : ∀ c, (f c).length = k) (l : List α) (i : Nat) (c : α) (hi : i < l.length) :
    ((l.set i c).map f).flatten = (l.map f).flatten.take (i * k) ++ f c ++ (l.map f).flatten.drop (i * k + k) := by
  rw [flat_take' hf, show i * k + k = (i + 1) * k by rw [Nat.succ_mul], flat_drop' hf]
  rw [List.set_eq_take_append_cons_drop, if_pos hi]
  simp

theorem setCell_cells (H : Hp) (a : Addr) (v : Value) : Hp.setCell H a v = Hp.setCells H a [v] 0 := by
  show _ = Hp.setCell H (a.add 0) v
  rw [add_zero_of]

theorem splice_take {A new : List Value} {n off : Nat} (h1 : off + new.length ≤ n) (h2 : n ≤ A.length) : splice off new (A.take n) = (splice off new A).take n := by
  unfold splice
  have e1 : (A.take off ++ new).length = off + new.length := by rw [List.length_append, List.length_take]; omega
  rw [List.take_append, List.take_of_length_le (l := A.take off ++ new) (by omega), e1, List.take_take, Nat.min_eq_left (by omega), List.drop_take]

/-- A part of an element of a slice that one holds alone is set. -/
theorem own_put_at {H : Hp} {x : Sl} {e : TypeId} {k i o : Nat} {cs new : List Value} (h : Own H x e k cs) (hi : i < x.len) (ho : o + new.length ≤ k) :
    ∃ a, x.a = some a ∧ WrAt H ((a.add (i * k)).add o) new.length ∧ Own (Hp.setCells H ((a.add (i * k)).add o) new 0) x e k (splice (i * k + o) new cs) ∧ Mod (· ∈ x.blk) H (Hp.setCells H ((a.add (i * k)).add o) new 0) := by
  obtain ⟨h1, h2, ⟨ha, hc⟩ | ⟨g, cur, ha, hg, hs, ht⟩⟩ := h
  · omega
  have hik : i * k + k ≤ x.len * k := by rw [← Nat.succ_mul]; exact Nat.mul_le_mul_right _ hi
  have hck : x.len * k ≤ x.cap * k := Nat.mul_le_mul_right _ h2
  have hB : Blk H g e cur.toList := by unfold Blk; rw [Array.toArray_toList]; exact hg
  have hcl : cur.toList.length = x.cap * k := by simpa using hs
  refine ⟨_, ha, ?_⟩
  rw [Addr.add_loc, Addr.add_loc, Nat.zero_add]
  refine ⟨hB.wr (by omega), ⟨?_, h2, Or.inr ⟨g, _, ha, hB.write (new := new) (off := i * k + o) (by omega), ?_, ?_⟩⟩, ⟨by rw [size_setCells]; exact Nat.le_refl _, fun b _ hn => get_setCells_ne (by intro e; exact hn (by simp [Sl.blk, ha, e])) _ _ _⟩⟩
  · rw [splice_length (by omega)]; exact h1
  · simp only [List.size_toArray]; rw [splice_length (by omega)]; exact hcl
  · show (splice (i * k + o) new cur.toList).take _ = _
    rw [splice_length (by omega)]
    have q := splice_take (A := cur.toList) (n := cs.length) (off := i * k + o) (new := new) (by omega) (by omega)
    rw [ht] at q
    exact q.symm

/-- One cell of a block of cells is set; all else of it is as it was. -/
theorem setCell_get {H : Hp} {g o b : Nat} {v : Value} {c : Array Value} {e : TypeId} {fz : Nat × Nat} (h : H[g]? = some (.cells c e fz)) : (Hp.setCell H ⟨g, o, none⟩ v)[g]? = some (.cells (c.setIfInBounds o v) e fz) := get_setCell v h

/-- A record is set. -/
theorem rec_set {H : Hp} {L : Nat} {o : Obj} (o' : Obj) (h : H[L]? = some o) : (H.setIfInBounds L o')[L]? = some o' ∧ Mod (· = L) H (H.setIfInBounds L o') := by
  have hl := lt_of_get h
  refine ⟨by simp [hl], ⟨by simp, fun b _ hn => by rw [Array.getElem?_setIfInBounds_ne (fun e => hn e.symm)]⟩⟩
theorem push_two {H : Hp} {o p : Obj} : (Array.push (Array.push H o) p)[Array.size H + 1]? = some p := by
  have := get_push_new (Array.push H o) p
  simpa using this
theorem Mod.push2 {m : Nat → Prop} (H : Hp) (o p : Obj) : Mod m H (Array.push (Array.push H o) p) := (Mod.push m H o).trans (Mod.push m _ p)

/-- What stands in these blocks is the same. -/
def Same (bs : List Nat) (H H' : Hp) : Prop := ∀ b ∈ bs, H'[b]? = H[b]?
theorem Mod.same {m : Nat → Prop} {H H' : Hp} {bs : List Nat} (h : Mod m H H') (hb : ∀ b ∈ bs, b < H.size ∧ ¬ m b) : Same bs H H' := fun b hx => h.keep b (hb b hx).1 (hb b hx).2
theorem Same.refl (bs : List Nat) (H : Hp) : Same bs H H := fun _ _ => rfl
theorem Same.trans {bs : List Nat} {H H1 H2 : Hp} (h : Same bs H H1) (k : Same bs H1 H2) : Same bs H H2 := fun b hb => (k b hb).trans (h b hb)
theorem Same.cell {bs : List Nat} {H H' : Hp} (h : Same bs H H') {a : Addr} (ha : a.block ∈ bs) : Hp.cell? H' a = Hp.cell? H a := by
  unfold Hp.cell?; rw [h _ ha]
theorem Rows.same {H H' : Hp} {x : Sl} {sz : Nat} {cs : List Value} (h : Rows H x sz cs) (hs : Same x.blk H H') : Rows H' x sz cs :=
  ⟨h.1, h.2.1, fun a ha j v hj => by
    have hb : (a.add j).block = a.block := by unfold Addr.add; split <;> rfl
    rw [hs.cell (by rw [hb]; simp [Sl.blk, ha])]; exact h.2.2.1 a ha j v hj, h.2.2.2⟩
theorem Own.same {H H' : Hp} {x : Sl} {e : TypeId} {sz : Nat} {cs : List Value} (h : Own H x e sz cs) (hs : Same x.blk H H') : Own H' x e sz cs := by
  obtain ⟨h1, h2, h3⟩ := h
  refine ⟨h1, h2, ?_⟩
  rcases h3 with h3 | ⟨g, cur, ha, hg, r⟩
  · exact Or.inl h3
  · exact Or.inr ⟨g, cur, ha, (hs g (by simp [Sl.blk, ha])).trans hg, r⟩
end Go.Proofs
