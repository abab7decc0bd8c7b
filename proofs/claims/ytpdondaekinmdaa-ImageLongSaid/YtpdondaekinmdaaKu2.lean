/- SORTED MAPS: sorted_Map_string_string: the walks (printed by the own program smtpl.py). -/
import Derived.Test.YtpdondaekinmdaaT09
import Derived.Test.YtpdondaekinmdaaKm4
set_option linter.all false
set_option linter.constructorNameAsVariable false
set_option maxRecDepth 100000
namespace Go.Proofs.MP
open Go Go.KC Go.Proofs

abbrev It := ByteArray × ByteArray
def cells (p : It) : List Value := [.string p.1, .string p.2]
abbrev items (l : List It) : List Value := (l.map cells).flatten
theorem cells_len (p : It) : (cells p).length = 2 := rfl
theorem cells_one (p : It) : allOne (cells p) = true := rfl
theorem el_und : Try.prog.underlying T_sl_sorted_item_string_string = some (.slice T_sorted_item_string_string) := by kernel_rfl
theorem el_inf : (Try.prog.info? T_sorted_item_string_string).map (fun i => (i.zero, i.size, i.bytes)) = some (some (.agg #[.string (ByteArray.mk #[]), .string (ByteArray.mk #[])]), 2, 32) := by kernel_rfl
theorem el : El Try.prog T_sl_sorted_item_string_string T_sorted_item_string_string 2 := by
  refine ⟨el_und, ?_, by omega⟩
  have h := el_inf
  cases hi : Try.prog.info? T_sorted_item_string_string with
  | none => rw [hi] at h; simp at h
  | some ti =>
    rw [hi] at h; simp at h
    exact ⟨ti, _, rfl, h.1, h.2.1, by omega, by omega, rfl, rfl⟩

/-- A map in cell o of block g; F are the blocks of its row. -/
def Mp (H : Hp) (g o : Nat) (F : List Nat) (l : List It) : Prop :=
  ∃ (x : Sl) (c : Array Value) (e : TypeId), H[g]? = some (.cells c e (0, 0)) ∧ c[o]? = some (.slice x.a x.len x.cap) ∧ Own H x T_sorted_item_string_string 2 (items l) ∧ F = x.blk ∧ g ∉ F ∧ Rise l ∧ l.length ≤ 100000
/-- Its row, as one reads it. -/
def Ro (H : Hp) (x : Sl) (l : List It) : Prop := Rows H x 2 (items l)

section
variable {H : Hp} {g o : Nat} {F : List Nat} {l : List It}
theorem Mp.keep {m : Nat → Prop} {H' : Hp} (h : Mp H g o F l) (hm : Mod m H H') (hg : ¬ m g) (hF : ∀ b ∈ F, ¬ m b) : Mp H' g o F l := by
  obtain ⟨x, c, e, h1, h2, h3, rfl, h5, h6, h7⟩ := h
  exact ⟨x, c, e, hm.get h1 hg, h2, h3.keep hm hF, rfl, h5, h6, h7⟩
theorem Mp.mod {H' : Hp} (h : Mp H g o F l) (hm : Mod (fun _ => False) H H') : Mp H' g o F l := h.keep hm (fun e => e) fun _ _ e => e
theorem Mp.same {H' : Hp} (h : Mp H g o F l) (hs : Same (g :: F) H H') : Mp H' g o F l := by
  obtain ⟨x, c, e, h1, h2, h3, rfl, h5, h6, h7⟩ := h
  exact ⟨x, c, e, (hs g (by simp)).trans h1, h2, Own.same h3 (fun b hb => hs b (by simp [hb])), rfl, h5, h6, h7⟩
theorem Mp.lt (h : Mp H g o F l) : g < H.size ∧ ∀ b ∈ F, b < H.size := by
  obtain ⟨x, c, e, h1, h2, h3, rfl, h5, h6, h7⟩ := h
  exact ⟨lt_of_get h1, h3.lt⟩
theorem Mp.rise (h : Mp H g o F l) : Rise l := by obtain ⟨x, c, e, _, _, _, _, _, h6, _⟩ := h; exact h6
theorem Mp.cell (h : Mp H g o F l) : ∃ x : Sl, Hp.cell? H ⟨g, o, none⟩ = some (.slice x.a x.len x.cap) ∧ Ro H x l ∧ x.len = l.length := by
  obtain ⟨x, c, e, h1, h2, h3, rfl, h5, h6, h7⟩ := h
  exact ⟨x, by rw [cell_of h1]; exact h2, Own.rows h3, (rows_len' (by omega) cells_len (Own.rows h3)).symm⟩
theorem Mp.new (H : Hp) (e : TypeId) : Mp (Array.push H (.cells #[.slice none 0 0] e)) H.size 0 [] [] :=
  ⟨⟨none, 0, 0⟩, #[.slice none 0 0], e, get_push_new _ _, rfl, Own.nil _ _ _, rfl, by simp, Rise.nil, by simp⟩
theorem Ro.mod {H' : Hp} {x : Sl} (h : Ro H x l) (hm : Mod (fun _ => False) H H') : Ro H' x l := Rows.keep h hm fun _ _ e => e
theorem Ro.keep {m : Nat → Prop} {H' : Hp} {x : Sl} (h : Ro H x l) (hm : Mod m H H') (hx : ∀ b ∈ x.blk, ¬ m b) : Ro H' x l := Rows.keep h hm hx

theorem cmp_spec {x y : ByteArray} : SCalls Try.prog cmp_Compare_string.id [.string x, .string y] H (TellPost H (.int .i64 (if KO.lt x y then -1 else if KO.lt y x then 1 else 0))) := by
  have nan : ∀ {H : Hp} (x : ByteArray), SCalls Try.prog cmp_isNaN_string.id [.string x] H (TellPost H (.bool false)) := fun {H} x => by
    apply cmp_isNaN_string.calls
    exact ⟨by simp, Mod.refl _ _⟩
  have bs : ∀ {H0 H : Hp} {x : ByteArray} {K : Bool → Hp → Prop}, Mod (fun _ => False) H0 H → (∀ H', Mod (fun _ => False) H0 H' → K false H') → SCalls Try.prog cmp_isNaN_string.id [.string x] H fun r H' => ∃ x : Bool, r = .bool x ∧ K x H' := fun hm hK =>
    (nan _).mono fun r H1 ⟨e, m1⟩ => ⟨false, e, hK H1 (hm.trans m1)⟩
  apply cmp_Compare_string.calls
  refine bs (H0 := H) (Mod.refl _ _) fun H1 m1 => bs m1 fun H2 m2 => Br.no rfl (Br.no rfl ?_)
  by_cases h1 : KO.lt x y
  · exact Br.yes h1 ⟨by rw [if_pos h1], m2⟩
  refine Br.no (by simpa [KO.lt] using h1) ?_
  rw [if_neg h1]
  by_cases h2 : KO.lt y x
  · refine Br.yes ?_ ⟨by rw [if_pos h2], m2⟩
    have e1 : Op.bytesLess x.toList y.toList = false := by simpa [KO.lt] using h1
    have e2 : (x.toList == y.toList) = false := by
      rw [beq_eq_false_iff_ne]; intro e; exact KO.ne h2 (ba_toList_inj e).symm
    rw [e1, e2]; rfl
  · refine Br.no ?_ ⟨by rw [if_neg h2], m2⟩
    have e3 : x = y := by rcases KO.tri x y with c | c | c; exact (h1 c).elim; exact c; exact (h2 c).elim
    subst e3; simp

theorem find1_spec {p : It} {k : ByteArray} : SCalls Try.prog sorted_Map_string_string_find_1.id [.agg #[.string p.1, .string p.2], .string k] H (TellPost H (.int .i64 (if KO.lt p.1 k then -1 else if KO.lt k p.1 then 1 else 0))) := by
  apply sorted_Map_string_string_find_1.calls
  have m0 : Mod (fun _ => False) H (holes H 1) := Mod.holes _ _ _
  refine (cmp_spec (x := p.1) (y := k)).mono ?_
  rintro r H1 ⟨rfl, m1⟩
  exact ⟨_, rfl, rfl, m0.trans m1⟩
theorem go1 : goFn Try.prog sorted_Map_string_string_find_1.id = true := by kernel_rfl
theorem inv_of {args : List Value} {Q : Value → Hp → Prop} (h : SCalls Try.prog sorted_Map_string_string_find_1.id args H Q) : vInv Try.prog (.func (.func sorted_Map_string_string_find_1.id) #[] #[]) args H Q := by
  unfold vInv
  simp only [go1]
  simpa using h

theorem spot_lt {l : List It} {k : ByteArray} {h : Nat} (hs : Rise l) (hh : h < l.length) (hk : KO.lt l[h].1 k) : ∀ a (ha : a < l.length), a < h + 1 → KO.lt l[a].1 k := fun a ha hah => by
  by_cases c : a = h
  · subst c; exact hk
  · exact KO.trans _ _ _ (hs a h ha hh (by omega)) hk
theorem spot_ge {l : List It} {k : ByteArray} {h : Nat} (hs : Rise l) (hh : h < l.length) (hk : ¬ KO.lt l[h].1 k) : ∀ a (ha : a < l.length), h ≤ a → ¬ KO.lt l[a].1 k := fun a ha hah hl => by
  by_cases c : a = h
  · subst c; exact hk hl
  · exact hk (KO.trans _ _ _ (hs h a hh ha (by omega)) hl)

def FindPost (H : Hp) (l : List It) (k : ByteArray) (r : Value) (H' : Hp) : Prop :=
  ∃ i : Nat, Spot l k i ∧ r = .tuple #[.int .i64 (i : Int), .bool (atB l k i)] ∧ Mod (fun _ => False) H H'

theorem search_loop {x : Sl} {k : ByteArray} (hr : Ro H x l) (hs : Rise l) (hl : l.length ≤ 1000000) :
    ∀ (d i j : Nat) (H1 : Hp), j - i ≤ d → i ≤ j → j ≤ l.length → Mod (fun _ => False) H H1 → (∀ a (ha : a < l.length), a < i → KO.lt l[a].1 k) → (∀ a (ha : a < l.length), j ≤ a → ¬ KO.lt l[a].1 k) →
      slices_BinarySearchFunc_sl_sorted_item_string_string_sorted_item_string_string_string.l1 J0 x k ⟨.func sorted_Map_string_string_find_1.id, #[], #[]⟩ H1 (i : Int) (j : Int) (FindPost H l k) := by
  have hxl : l.length = x.len := rows_len' (by omega) cells_len hr
  have fin : ∀ (i : Nat) (H1 : Hp), i ≤ l.length → Mod (fun _ => False) H H1 → (∀ a (ha : a < l.length), a < i → KO.lt l[a].1 k) → (∀ a (ha : a < l.length), i ≤ a → ¬ KO.lt l[a].1 k) →
      slices_BinarySearchFunc_sl_sorted_item_string_string_sorted_item_string_string_string.l1 J0 x k ⟨.func sorted_Map_string_string_find_1.id, #[], #[]⟩ H1 (i : Int) (i : Int) (FindPost H l k) := by
    intro i H1 hi m lo hi2
    apply slices_BinarySearchFunc_sl_sorted_item_string_string_sorted_item_string_string_string.l1.step
    unfold slices_BinarySearchFunc_sl_sorted_item_string_string_sorted_item_string_string_string.l1.body
    refine Br.no (by simp) ?_
    by_cases hc : i < l.length
    · refine Br.yes (by simp; omega) ⟨⟨by omega, by omega⟩, ?_⟩
      obtain ⟨a, ha, hrow⟩ := row_get' (by omega) cells_len (hr.mod m) hc
      refine vPtr.mk a ha ⟨_, _, by simpa [cells] using hrow, inv_of ((find1_spec (p := l[i]) (k := k)).mono ?_)⟩
      rintro r H2 ⟨rfl, m2⟩
      refine ⟨_, rfl, i, ⟨hi, lo, hi2⟩, ?_, m.trans m2⟩
      have h1 := hi2 i hc (Nat.le_refl _)
      congr 3
      unfold atB
      rw [List.getElem?_eq_getElem hc, if_neg h1]
      by_cases h2 : l[i].1 = k
      · rw [if_neg (by rw [h2]; exact KO.irr _)]; simp [h2]
      · rw [if_pos (by rcases KO.tri l[i].1 k with c | c | c; exact (h1 c).elim; exact (h2 c).elim; exact c)]; simp [h2]
    · refine Br.no (by simp; omega) ⟨i, ⟨hi, lo, hi2⟩, ?_, m⟩
      unfold atB; rw [List.getElem?_eq_none (by omega)]
  intro d
  induction d with
  | zero =>
    intro i j H1 hd hij hj m lo hi
    obtain rfl : i = j := by omega
    exact fin i H1 hj m lo hi
  | succ d ih =>
    intro i j H1 hd hij hj m lo hi
    by_cases hc : i = j
    · subst hc; exact fin i H1 hj m lo hi
    apply slices_BinarySearchFunc_sl_sorted_item_string_string_sorted_item_string_string_string.l1.step
    unfold slices_BinarySearchFunc_sl_sorted_item_string_string_sorted_item_string_string_string.l1.body
    have eh : w64 (Int.fdiv (IntKind.u64.wrap (w64 ((i : Int) + (j : Int)))) (2 ^ 1)) = (((i + j) / 2 : Nat) : Int) := by
      rw [w64_id (x := (i : Int) + (j : Int)) (by omega) (by omega)]
      have e1 : IntKind.u64.wrap ((i : Int) + (j : Int)) = (i : Int) + (j : Int) := by
        unfold IntKind.wrap
        simp only [IntKind.bits, IntKind.signed, Bool.false_and, Bool.false_eq_true, if_false, show (2 : Int) ^ 64 = 18446744073709551616 from rfl]
        omega
      rw [e1, show (2 : Int) ^ 1 = 2 from rfl, Int.fdiv_eq_ediv_of_nonneg _ (by omega), w64_id (by omega) (by omega)]
      omega
    rw [eh]
    have hh : (i + j) / 2 < j := by omega
    have hh2 : i ≤ (i + j) / 2 := by omega
    generalize (i + j) / 2 = h at *
    have hhl : h < l.length := by omega
    obtain ⟨a, ha, hrow⟩ := row_get' (by omega) cells_len (hr.mod m) hhl
    refine Br.yes (by simp; omega) ⟨by omega, ⟨by omega, by omega⟩, vPtr.mk a ha ⟨_, _, by simpa [cells] using hrow, inv_of ((find1_spec (p := l[h]) (k := k)).mono ?_)⟩⟩
    rintro r H2 ⟨rfl, m2⟩
    refine ⟨_, rfl, ?_⟩
    by_cases h1 : KO.lt l[h].1 k
    · rw [if_pos h1]
      refine Br.yes rfl ?_
      rw [w64_id (x := (h : Int) + 1) (by omega) (by omega)]
      have := ih (h + 1) j H2 (by omega) (by omega) hj (m.trans m2) (spot_lt hs hhl h1) hi
      simpa using this
    · rw [if_neg h1]
      refine Br.no (by split <;> rfl) ?_
      exact ih i h H2 (by omega) (by omega) (by omega) (m.trans m2) lo (spot_ge hs hhl h1)

theorem find_spec {k : ByteArray} (h : Mp H g o F l) : SCalls Try.prog sorted_Map_string_string_find.id [.pointer (some ⟨g, o, none⟩), .string k] H (FindPost H l k) := by
  apply sorted_Map_string_string_find.calls
  obtain ⟨x, hc, hr, hxl⟩ := h.cell
  have hl : l.length ≤ 100000 := by obtain ⟨_, _, _, _, _, _, _, _, _, h7⟩ := h; exact h7
  refine ⟨x, hc, ?_⟩
  have hb : SCalls Try.prog slices_BinarySearchFunc_sl_sorted_item_string_string_sorted_item_string_string_string.id [.slice x.a x.len x.cap, .string k, .func (.func sorted_Map_string_string_find_1.id) #[] #[]] H (FindPost H l k) := by
    apply slices_BinarySearchFunc_sl_sorted_item_string_string_sorted_item_string_string_string.calls (cmp := ⟨.func sorted_Map_string_string_find_1.id, #[], #[]⟩)
    have := search_loop (k := k) hr h.rise (by omega) x.len 0 x.len H (by omega) (by omega) (by omega) (Mod.refl _ _) (fun a ha h => absurd h (by omega)) (fun a ha h => absurd h (by omega))
    exact this
  refine hb.mono ?_
  rintro r H1 ⟨i, h1, rfl, m⟩
  exact ⟨_, _, rfl, i, h1, rfl, m⟩

/-- A key's value, and whether it has one. -/
def get (l : List It) (k : ByteArray) : ByteArray × Bool := match l.find? (fun p => decide (p.1 = k)) with | some p => (p.2, true) | none => (ByteArray.mk #[], false)
theorem get_mem {l : List It} (hs : Rise l) {k : ByteArray} {v : ByteArray} (h : (k, v) ∈ l) : get l k = (v, true) := by
  unfold get
  cases hf : l.find? (fun p => decide (p.1 = k)) with
  | none => have := List.find?_eq_none.1 hf _ h; simp at this
  | some p =>
    have h1 := List.mem_of_find?_eq_some hf
    have h2 := List.find?_some hf
    have h3 : p.1 = k := by simpa using h2
    obtain ⟨a, b⟩ := p
    simp only at h3; subst h3
    simp only [hs.one h1 h]
theorem get_not {l : List It} {k : ByteArray} (h : ∀ v, (k, v) ∉ l) : get l k = (ByteArray.mk #[], false) := by
  unfold get
  have : l.find? (fun p => decide (p.1 = k)) = none := by
    rw [List.find?_eq_none]
    rintro ⟨a, b⟩ hp
    intro e
    have : a = k := by simpa using e
    subst this; exact h b hp
  rw [this]
theorem get_cases {l : List It} (hs : Rise l) (k : ByteArray) : (∃ v, (k, v) ∈ l ∧ get l k = (v, true)) ∨ ((∀ v, (k, v) ∉ l) ∧ get l k = (ByteArray.mk #[], false)) := by
  by_cases h : ∃ v, (k, v) ∈ l
  · obtain ⟨v, hv⟩ := h; exact Or.inl ⟨v, hv, get_mem hs hv⟩
  · have h' : ∀ v, (k, v) ∉ l := fun v hv => h ⟨v, hv⟩
    exact Or.inr ⟨h', get_not h'⟩

theorem Get_spec {k : ByteArray} (h : Mp H g o F l) : SCalls Try.prog sorted_Map_string_string_Get.id [.pointer (some ⟨g, o, none⟩), .string k] H (TellPost H (.tuple #[.string (get l k).1, .bool (get l k).2])) := by
  apply sorted_Map_string_string_Get.calls
  have mh : Mod (fun _ => False) H (H) := Mod.refl _ _
  refine (find_spec (h.mod mh)).mono ?_
  rintro r H1 ⟨i, h1, rfl, m⟩
  replace m := mh.trans m
  refine ⟨_, _, rfl, ?_⟩
  have h' := h.mod m
  obtain ⟨x, hc, hr, hxl⟩ := h'.cell
  cases hb : atB l k i with
  | true =>
    obtain ⟨hi, hk⟩ := Spot.here hb
    obtain ⟨a, ha, hrow⟩ := row_get' (by omega) cells_len hr hi
    refine Br.yes rfl ⟨x, hc, ⟨by omega, by omega⟩, vPtr.mk a ha ⟨l[i].2, hrow 1 _ rfl, ?_, m⟩⟩
    rw [get_mem h.rise (v := l[i].2) (by rw [← hk]; exact List.getElem_mem hi)]
  | false =>
    refine Br.no rfl ⟨?_, m⟩
    rw [get_not (h1.not h.rise hb)]

theorem Len_spec (h : Mp H g o F l) : SCalls Try.prog sorted_Map_string_string_Len.id [.pointer (some ⟨g, o, none⟩)] H (TellPost H (.int .i64 (l.length : Int))) := by
  apply sorted_Map_string_string_Len.calls
  obtain ⟨x, hc, _, hxl⟩ := h.cell
  exact ⟨x, hc, by rw [hxl], Mod.refl _ _⟩

/-- What is behind a change of a map. -/
def ChPost (H : Hp) (g o : Nat) (F : List Nat) (H' : Hp) (l' : List It) : Prop :=
  ∃ F', Mp H' g o F' l' ∧ Mod (fun b => b = g ∨ b ∈ F) H H' ∧ (∀ b ∈ F', b ∈ F ∨ H.size ≤ b) ∧
    ∀ c e, H[g]? = some (.cells c e (0, 0)) → ∃ v, H'[g]? = some (.cells (c.setIfInBounds o v) e (0, 0))

theorem set_same {c : Array Value} {o : Nat} {v : Value} (h : c[o]? = some v) : c.setIfInBounds o v = c := by
  obtain ⟨h1, h2⟩ := Array.getElem?_eq_some_iff.1 h
  apply Array.ext
  · simp
  · intro i hi1 hi2
    rw [Array.getElem_setIfInBounds]
    split
    · rename_i e; subst e; exact h2.symm
    · rfl

theorem ov_ok {H : Hp} {gv : Nat} {ev : TypeId} {p : List Value} (hv : Blk H gv ev p) (b : Addr) (lb cb : Nat) (hbn : b.block ≠ gv) (hbl : ∃ c, H[b.block]? = some (.cells c T_sorted_item_string_string (0, 0)) ∧ c.size ≠ 0) : ExtTells Try.prog 86 [.slice (some ⟨gv, 0, none⟩) 1 1, .slice (some b) lb cb] H (.bool false) :=
  ov_tells (fn := Try.f86) (tR := T_bool) Try.func86 (by kernel_rfl) (by kernel_rfl) (by kernel_rfl) (by kernel_rfl) el hv b lb cb hbn hbl

theorem ins_vc {s : Sl} {i : Int} {v : Sl} {H : Hp} {Q : Value → Hp → Prop} : slices_Insert_sl_sorted_item_string_string_sorted_item_string_string.vc J0 s i v H Q = insVC Try.prog T_sl_sorted_item_string_string 2 86 slices_rotateRight_sorted_item_string_string.id s i v H Q := by kernel_rfl
theorem ins_calls {x : Sl} {n gv : Nat} {p : It} (ho : Own H x T_sorted_item_string_string 2 (items l)) (hn : n ≤ x.len) (hl : x.len ≤ 1000000) (hv : Blk H gv T_sorted_item_string_string (cells p)) (hgv : gv ∉ x.blk) :
    SCalls Try.prog slices_Insert_sl_sorted_item_string_string_sorted_item_string_string.id [.slice x.a x.len x.cap, .int .i64 (n : Int), .slice (some (Addr.mk gv 0 none)) 1 1] H fun r H' =>
      ∃ y : Sl, r = .slice y.a y.len y.cap ∧ Own H' y T_sorted_item_string_string 2 (items (l.take n ++ [p] ++ l.drop n)) ∧ Mod (· ∈ x.blk) H H' ∧ ∀ b ∈ y.blk, b ∈ x.blk ∨ b = H.size := by
  apply slices_Insert_sl_sorted_item_string_string_sorted_item_string_string.calls (v := ⟨some (Addr.mk gv 0 none), 1, 1⟩)
  rw [ins_vc]
  refine ins_spec (e := T_sorted_item_string_string) (ev := T_sorted_item_string_string) (p := cells p) (cs := items l) (n := n) el ho hn hl (cells_len p) (cells_one p) (allOne_flat cells_one l) hv hgv (fun b lb cb h1 h2 => ov_ok hv b lb cb h1 h2) fun y H' hy hm hb => ⟨y, rfl, ?_, hm, hb⟩
  rw [flat_take' cells_len, flat_drop' cells_len] at hy
  simpa [items] using hy

theorem Put_spec {k : ByteArray} {v : ByteArray} (h : Mp H g o F l) (hl : l.length < 100000) :
    SCalls Try.prog sorted_Map_string_string_Put.id [.pointer (some ⟨g, o, none⟩), .string k, .string v] H fun r H' => ∃ i, Spot l k i ∧ r = .bool (!atB l k i) ∧ ChPost H g o F H' (putAt l k v i) := by
  apply sorted_Map_string_string_Put.calls
  have mh : Mod (fun _ => False) H (H) := Mod.refl _ _
  refine (find_spec (h.mod mh)).mono ?_
  rintro r H1 ⟨i, h1, rfl, m⟩
  replace m := mh.trans m
  refine ⟨_, _, rfl, ?_⟩
  have hrise := h.rise
  have h' := h.mod m
  obtain ⟨x, c, e, g1, g2, g3, rfl, g5, g6, g7⟩ := h'
  have hoc : o < c.size := (Array.getElem?_eq_some_iff.1 g2).1
  have hxl : l.length = x.len := rows_len' (by omega) cells_len (Own.rows g3)
  have hplen : (putAt l k v i).length ≤ 100000 := by rw [putAt_length h1.le]; split <;> omega
  have hpr := putAt_rise (v := v) hrise h1
  cases hb : atB l k i with
  | true =>
    obtain ⟨hi, hk⟩ := Spot.here hb
    obtain ⟨a, ha, hw, hown, hmod⟩ := own_put_at (i := i) (o := 1) (new := [.string v]) g3 (by omega) (by simp)
    refine Br.yes rfl ⟨x, by rw [cell_of g1]; exact g2, ⟨by omega, by omega⟩, vPtr.mk a ha ⟨hw, ?_⟩⟩
    rw [setCell_cells]
    have e1 : putAt l k v i = l.set i (k, v) := by unfold putAt; rw [hb, if_pos rfl]
    have e2 : splice (i * 2 + 1) [.string v] (items l) = items (l.set i (k, v)) := by
      show _ = ((l.set i (k, v)).map cells).flatten
      rw [flat_set' cells_len l i (k, v) hi]
      have hd : (items l).drop (i * 2) = cells l[i] ++ (items l).drop (i * 2 + 2) := by
        show ((l.map cells).flatten).drop (i * 2) = _ ++ ((l.map cells).flatten).drop (i * 2 + 2)
        rw [flat_drop' cells_len, show i * 2 + 2 = (i + 1) * 2 by omega, flat_drop' cells_len, List.drop_eq_getElem_cons hi, List.map_cons, List.flatten_cons]
      have hlen : (items l).length = l.length * 2 := flat_len' cells_len l
      have ht : (items l).take (i * 2 + 1) = (items l).take (i * 2) ++ [.string k] := by
        rw [List.take_add, hd]
        simp [cells, hk]
      unfold splice
      rw [ht]
      simp [cells, items]
    rw [e2, ← e1] at hown
    refine ⟨i, h1, by rw [hb]; rfl, x.blk, ⟨x, c, e, hmod.get g1 g5, g2, hown, rfl, g5, hpr, hplen⟩, (m.mono fun _ _ e => e.elim : Mod (fun b => b = g ∨ b ∈ x.blk) H H1).trans (hmod.mono fun b _ hb => Or.inr hb), fun b hb => Or.inl hb, fun c' e' hc' => ?_⟩
    have hc1 := m.get hc' fun e => e
    rw [g1] at hc1; cases hc1
    exact ⟨_, by rw [set_same g2]; exact hmod.get g1 g5⟩
  | false =>
    have e1 : putAt l k v i = l.take i ++ [(k, v)] ++ l.drop i := by unfold putAt; rw [hb, if_neg (by simp)]
    have mp : Mod (fun _ => False) H1 (Array.push H1 (.cells #[.string k, .string v] T_sorted_item_string_string)) := Mod.push _ _ _
    have hlt1 := lt_of_get g1
    have hxlt : ∀ b ∈ x.blk, b < H1.size := g3.lt
    have hB : Blk (Array.push H1 (.cells #[.string k, .string v] T_sorted_item_string_string)) H1.size T_sorted_item_string_string (cells (k, v)) := get_push_new _ _
    refine Br.no rfl ⟨x, by rw [cell_of g1]; exact g2, (ins_calls (p := (k, v)) (n := i) (gv := H1.size) (g3.keep mp fun _ _ e => e) (by have := h1.le; omega) (by omega) hB (fun hb => by have := hxlt _ hb; omega)).mono ?_⟩
    rintro r H2 ⟨y, rfl, hy, hm2, hyb⟩
    have hg2 : H2[g]? = some (.cells c e (0, 0)) := hm2.get (mp.get g1 fun e => e) g5
    have hgy : g ∉ y.blk := fun hgy => by
      rcases hyb g hgy with hh | hh
      · exact g5 hh
      · simp at hh; omega
    have ms : Mod (· = g) H2 (Hp.setCell H2 ⟨g, o, none⟩ (.slice y.a y.len y.cap)) := Mod.setCell _ _ _ rfl
    refine ⟨y, rfl, wr_one hg2 hoc, i, h1, by rw [hb]; rfl, y.blk, ⟨y, _, e, get_setCell _ hg2, by simp [hoc], ?_, rfl, hgy, hpr, hplen⟩, ?_, fun b hb => ?_, fun c' e' hc' => ?_⟩
    · rw [e1]; exact hy.keep ms fun b hb e => hgy (e ▸ hb)
    · have a1 : Mod (fun b => b = g ∨ b ∈ x.blk) H H1 := m.mono fun _ _ e => e.elim
      have a2 : Mod (fun b => b = g ∨ b ∈ x.blk) H1 H2 := (mp.mono fun _ _ e => e.elim).trans (hm2.mono fun b _ hb => Or.inr hb)
      exact a1.trans (a2.trans (ms.mono fun b _ hb => Or.inl hb))
    · have hms := m.size
      rcases hyb b hb with hh | hh
      · exact Or.inl hh
      · right; simp at hh; omega
    · have hc1 := m.get hc' fun e => e
      rw [g1] at hc1; cases hc1
      exact ⟨_, get_setCell _ hg2⟩

/-! ### going over it -/
def allV (b : Nat) : Value := .func (.func 70) #[] #[.pointer (some ⟨b, 0, none⟩)]
theorem goA : goFn Try.prog sorted_Map_string_string_All_1.id = true := by kernel_rfl
theorem All_spec : SCalls Try.prog sorted_Map_string_string_All.id [.pointer (some ⟨g, o, none⟩)] H fun r H' => ∃ T, r = allV H.size ∧ H' = Array.push H (.cells #[.pointer (some ⟨g, o, none⟩)] T) := by
  apply sorted_Map_string_string_All.calls
  exact ⟨_, rfl, rfl⟩

theorem All1_spec {y : Fv} {b : Nat} {x : Sl} {Q : Value → Hp → Prop} (hb : Hp.cell? H ⟨b, 0, none⟩ = some (.pointer (some ⟨g, o, none⟩))) (hx : Hp.cell? H ⟨g, o, none⟩ = some (.slice x.a x.len x.cap)) (hl : l.length = x.len) (hl2 : l.length ≤ 100000)
    (J : Nat → Hp → Prop) (h0 : J 0 H) (hr : ∀ i H', J i H' → Ro H' x l) (hst : ∀ i H', J i H' → J i (holes H' 1))
    (hs : ∀ i (hi : i < l.length) H', J i H' → vInv Try.prog (.func y.fn y.fi y.ca) [.string l[i].1, .string l[i].2] H' fun r H'' => (r = .bool true ∧ J (i + 1) H'') ∨ (r = .bool false ∧ Q (.tuple #[]) H''))
    (he : ∀ H', J l.length H' → Q (.tuple #[]) H') : SCalls Try.prog sorted_Map_string_string_All_1.id [.func y.fn y.fi y.ca, .pointer (some ⟨b, 0, none⟩)] H Q := by
  apply sorted_Map_string_string_All_1.calls
  refine ⟨_, hb, vPtr.mk _ rfl ⟨x, hx, ?_⟩⟩
  have loop : ∀ (d i : Nat) (H' : Hp), i + d = l.length → J i H' → sorted_Map_string_string_All_1.l1 J0 y x H' (i : Int) Q := by
    intro d
    induction d with
    | zero =>
      intro i H' hi hj
      apply sorted_Map_string_string_All_1.l1.step; unfold sorted_Map_string_string_All_1.l1.body
      obtain rfl : i = l.length := by omega
      exact Br.no (by simp; omega) (he H' hj)
    | succ d ih =>
      intro i H' hi hj
      apply sorted_Map_string_string_All_1.l1.step; unfold sorted_Map_string_string_All_1.l1.body
      have hil : i < l.length := by omega
      obtain ⟨a, ha, hrow⟩ := row_get' (by omega) cells_len (hr i H' hj) hil
      refine Br.yes (by simp; omega) ⟨⟨by omega, by omega⟩, vPtr.mk a ha ⟨l[i].1, l[i].2, by simpa [cells] using hrow, (hs i hil _ (hst i H' hj)).imp ?_⟩⟩
      rintro r H'' (⟨rfl, h⟩ | ⟨rfl, h⟩)
      · refine ⟨true, rfl, Br.no rfl ?_⟩
        rw [w64_id (x := (i : Int) + 1) (by omega) (by omega)]
        have := ih (i + 1) H'' (by omega) h
        simpa using this
      · exact ⟨false, rfl, Br.yes rfl h⟩
  exact loop l.length 0 H (by omega) h0

/-- A range over the map, from its record on. -/
theorem range_all {b L : Nat} {x : Sl} {Q : Hp → Prop} (hb : Hp.cell? H ⟨b, 0, none⟩ = some (.pointer (some ⟨g, o, none⟩))) (hx : Hp.cell? H ⟨g, o, none⟩ = some (.slice x.a x.len x.cap)) (hl : l.length = x.len) (hl2 : l.length ≤ 100000)
    (J : Nat → Hp → Prop) (h0 : J 0 H) (hr : ∀ i H', J i H' → Ro H' x l) (hst : ∀ i H', J i H' → J i (holes H' 1))
    (hs : ∀ i (hi : i < l.length) H', J i H' → YCalls Try.prog L [.string l[i].1, .string l[i].2] H' fun r H'' => (r = .bool true ∧ J (i + 1) H'') ∨ (r = .bool false ∧ Q H''))
    (he : ∀ H', J l.length H' → Q H') : vRg Try.prog (allV b) L H Q := by
  unfold vRg allV
  simp only [show goFn Try.prog 70 = true from goA]
  exact All1_spec (y := ⟨.yield L, #[], #[]⟩) (Q := fun _ H' => Q H') hb hx hl hl2 J h0 hr hst hs he

/-! ### steps -/
theorem put_step {Bl : Nat → Prop} {k : ByteArray} {v : ByteArray} {K : Bool → Hp → Prop} (h : Mp H g o F l) (hd : ∀ b, Bl b → b < H.size ∧ b ≠ g ∧ b ∉ F) (hl : l.length < 100000)
    (hK : ∀ i H' F', Spot l k i → Mp H' g o F' (putAt l k v i) → Mod (fun b => ¬ Bl b) H H' → (∀ b, Bl b → b < H'.size ∧ b ≠ g ∧ b ∉ F') → (∀ b ∈ F', b ∈ F ∨ H.size ≤ b) → K (!atB l k i) H') :
    SCalls Try.prog sorted_Map_string_string_Put.id [.pointer (some ⟨g, o, none⟩), .string k, .string v] H fun r H' => ∃ x : Bool, r = .bool x ∧ K x H' := by
  refine (Put_spec h hl).mono ?_
  rintro r H' ⟨i, h1, rfl, F', h2, h3, h4, _⟩
  refine ⟨_, rfl, hK i H' F' h1 h2 (h3.mono fun b _ hb hB => ?_) (fun b hB => ?_) h4⟩
  · obtain ⟨q1, q2, q3⟩ := hd b hB
    exact hb.elim q2 q3
  · obtain ⟨q1, q2, q3⟩ := hd b hB
    exact ⟨Nat.lt_of_lt_of_le q1 h3.size, q2, fun hb => (h4 b hb).elim q3 fun h => by omega⟩
theorem get_step {k : ByteArray} {K : ByteArray → Bool → Hp → Prop} (h : Mp H g o F l) (hK : ∀ H', Mod (fun _ => False) H H' → K (get l k).1 (get l k).2 H') :
    SCalls Try.prog sorted_Map_string_string_Get.id [.pointer (some ⟨g, o, none⟩), .string k] H fun r H' => ∃ x : ByteArray, ∃ y : Bool, r = .tuple #[.string x, .bool y] ∧ K x y H' := by
  refine (Get_spec h).mono ?_
  rintro r H' ⟨rfl, m⟩
  exact ⟨_, _, rfl, hK H' m⟩
theorem len_step {K : Int → Hp → Prop} (h : Mp H g o F l) (hK : ∀ H', Mod (fun _ => False) H H' → K (l.length : Int) H') :
    SCalls Try.prog sorted_Map_string_string_Len.id [.pointer (some ⟨g, o, none⟩)] H fun r H' => ∃ x : Int, r = .int .i64 x ∧ K x H' := by
  refine (Len_spec h).mono ?_
  rintro r H' ⟨rfl, m⟩
  exact ⟨_, rfl, hK H' m⟩
theorem all_step {K : Fv → Hp → Prop} (hK : ∀ T, K ⟨.func 70, #[], #[.pointer (some ⟨H.size, 0, none⟩)]⟩ (Array.push H (.cells #[.pointer (some ⟨g, o, none⟩)] T))) :
    SCalls Try.prog sorted_Map_string_string_All.id [.pointer (some ⟨g, o, none⟩)] H fun r H' => ∃ x : Fv, r = .func x.fn x.fi x.ca ∧ K x H' := by
  refine All_spec.mono ?_
  rintro r H' ⟨T, rfl, rfl⟩
  exact ⟨⟨.func 70, #[], #[.pointer (some ⟨H.size, 0, none⟩)]⟩, rfl, hK T⟩

/-- What is told of a round. -/
def args (p : It) : List Value := [.string p.1, .string p.2]
theorem goes {b : Nat} {T : TypeId} (h : Mp H g o F l) (hb : H[b]? = some (.cells #[.pointer (some ⟨g, o, none⟩)] T (0, 0))) : Goes Try.prog args ⟨.func 70, #[], #[.pointer (some ⟨b, 0, none⟩)]⟩ l (b :: g :: F) H := by
  have hlt := h.lt
  refine ⟨70, rfl, goA, fun q hq => ?_, fun y H0 J Q hs hz j0 js qs jb body fin => ?_⟩
  · rcases List.mem_cons.1 hq with rfl | hq
    · exact lt_of_get hb
    · rcases List.mem_cons.1 hq with rfl | hq
      · exact hlt.1
      · exact hlt.2 q hq
  have hm0 : Mp H0 g o F l := h.same (hs.mono fun q hq => List.mem_cons_of_mem _ hq)
  have hb0 : Hp.cell? H0 ⟨b, 0, none⟩ = some (.pointer (some ⟨g, o, none⟩)) := by
    rw [cell_of (show H0[b]? = _ from (hs b (by simp)).trans hb)]; rfl
  obtain ⟨x, hx, hr, hxl, hxF⟩ : ∃ x : Sl, Hp.cell? H0 ⟨g, o, none⟩ = some (.slice x.a x.len x.cap) ∧ Ro H0 x l ∧ x.len = l.length ∧ F = x.blk := by
    obtain ⟨x, c, e, h1, h2, h3, rfl, h5, h6, h7⟩ := hm0
    exact ⟨x, by rw [cell_of h1]; exact h2, Own.rows h3, (rows_len' (by omega) cells_len (Own.rows h3)).symm, rfl⟩
  have hl2 : l.length ≤ 100000 := by obtain ⟨_, _, _, _, _, _, _, _, _, h7⟩ := hm0; exact h7
  refine All1_spec (y := y) (b := b) (g := g) (o := o) (l := l) (x := x) (Q := fun _ H1 => ∃ n1, Q n1 H1) hb0 hx (by rw [hxl]) hl2 (fun i H1 => J H0.size i H1 ∧ H0.size ≤ H1.size)
    ⟨j0 _ _ (Nat.le_refl _) (Nat.le_refl _) (Mod.refl _ _), Nat.le_refl _⟩ (fun i H1 hj => Rows.same hr ((jb _ _ _ hj.1).mono fun q hq => by rw [hxF]; simp [hq])) (fun i H1 hj => ?_) (fun i hi H1 hj => ?_) (fun H1 hj => ⟨_, fin _ _ hj.1⟩)
  · have mh : Mod (fun _ => False) H1 (holes H1 1) := Mod.holes _ _ _
    exact ⟨js _ i H1 _ hj.1 (mh.mono fun _ _ e => e.elim), Nat.le_trans hj.2 mh.size⟩
  · refine (body H0.size i hi H1 (Nat.le_refl _) hj.2 hj.1).imp ?_
    rintro r H2 ⟨hm, ⟨rfl, hj2⟩ | ⟨rfl, hq⟩⟩
    · exact Or.inl ⟨rfl, hj2, Nat.le_trans hj.2 hm.size⟩
    · exact Or.inr ⟨rfl, _, hq⟩
theorem all_goes (h : Mp H g o F l) : SCalls Try.prog sorted_Map_string_string_All.id [.pointer (some ⟨g, o, none⟩)] H fun r H' => ∃ fv : Fv, r = .func fv.fn fv.fi fv.ca ∧ Goes Try.prog args fv l (H.size :: g :: F) H' ∧ Mod (fun _ => False) H H' := by
  refine All_spec.mono ?_
  rintro r H' ⟨T, rfl, rfl⟩
  exact ⟨⟨.func 70, #[], #[.pointer (some ⟨H.size, 0, none⟩)]⟩, rfl, goes (h.mod (Mod.push _ _ _)) (get_push_new _ _), Mod.push _ _ _⟩

theorem all_st {K : Fv → Hp → Prop} (h : Mp H g o F l) (hK : ∀ fv H', Goes Try.prog args fv l (H.size :: g :: F) H' → Mod (fun _ => False) H H' → K fv H') : SCalls Try.prog sorted_Map_string_string_All.id [.pointer (some ⟨g, o, none⟩)] H fun r H' => ∃ x : Fv, r = .func x.fn x.fi x.ca ∧ K x H' := by
  refine (all_goes h).mono ?_
  rintro r H' ⟨fv, rfl, h1, h2⟩
  exact ⟨fv, rfl, hK fv H' h1 h2⟩

theorem Mp.stab {N n : Nat} (hg : N ≤ g ∧ g < n) (hF : ∀ q ∈ F, N ≤ q ∧ q < n) (Ha Hb : Hp) (μ : Nat → Prop) (h : Mp Ha g o F l) (m : Mod μ Ha Hb) (hq : ∀ q, N ≤ q → q < n → ¬ μ q) : Mp Hb g o F l :=
  h.keep m (hq g hg.1 hg.2) fun q h => hq q (hF q h).1 (hF q h).2

/-- A range over the map, whole. Jn: what is so ahead of the i-th round; Ex: where it is left. -/
theorem range_use {b : Nat} {rec : LoopState → Option Code → Obj} {R : Option Code → Hp → Prop} (Jn : Nat → Hp → Prop) (Ex : Code → Hp → Prop) (hm : Mp H g o F l) (hb : Hp.cell? H ⟨b, 0, none⟩ = some (.pointer (some ⟨g, o, none⟩)))
    (h0 : Jn 0 H) (hJ : ∀ i H', Jn i H' → Same (g :: F) H H')
    (stab : ∀ i H' H'', Jn i H' → Mod (· = H.size + 1) H' H'' → Jn i H'') (stabE : ∀ c H' H'', Ex c H' → Mod (· = H.size + 1) H' H'' → Ex c H'')
    (body : ∀ i (hi : i < l.length) H', Jn i H' → H'[H.size + 1]? = some (rec .ready none) → YCalls Try.prog (H.size + 1) [.string l[i].1, .string l[i].2] H' fun r H'' =>
      (r = .bool true ∧ Jn (i + 1) H'' ∧ H''[H.size + 1]? = some (rec .ready none)) ∨ (∃ c, r = .bool false ∧ Ex c H'' ∧ H''[H.size + 1]? = some (rec .done (some c))))
    (hN : ∀ H', Jn l.length H' → R none H') (hE : ∀ c H', Ex c H' → R (some c) H') :
    vRg Try.prog (allV b) (H.size + 1) (Array.push (Array.push H hole) (rec .ready none)) fun H' => ∃ st : LoopState, ∃ pd : Option Code, H'[H.size + 1]? = some (rec st pd) ∧ st ≠ .busy ∧ ∀ H3 : Hp, H3 = H'.setIfInBounds (H.size + 1) (rec .exhausted pd) → R pd H3 := by
  obtain ⟨x, hx, hr, hxl, hxF⟩ : ∃ x : Sl, Hp.cell? H ⟨g, o, none⟩ = some (.slice x.a x.len x.cap) ∧ Ro H x l ∧ x.len = l.length ∧ F = x.blk := by
    obtain ⟨x, c, e, h1, h2, h3, rfl, h5, h6, h7⟩ := hm
    exact ⟨x, by rw [cell_of h1]; exact h2, Own.rows h3, (rows_len' (by omega) cells_len (Own.rows h3)).symm, rfl⟩
  have hl2 : l.length ≤ 100000 := by obtain ⟨_, _, _, _, _, _, _, _, _, h7⟩ := hm; exact h7
  have m2 : Mod (fun _ => False) H (Array.push (Array.push H hole) (rec .ready none)) := Mod.push2 _ _ _
  have keepc : ∀ {a : Addr} {v : Value}, Hp.cell? H a = some v → Hp.cell? (Array.push (Array.push H hole) (rec .ready none)) a = some v := fun {a v} hc => by
    unfold Hp.cell? at hc ⊢
    cases hg : H[a.block]? with
    | none => rw [hg] at hc; cases hc
    | some ob => rw [m2.get hg fun e => e]; rw [hg] at hc; exact hc
  refine range_all (l := l) (x := x) (keepc hb) (keepc hx) (by rw [hxl]) hl2 (fun i H' => Jn i H' ∧ H'[H.size + 1]? = some (rec .ready none) ∧ Ro H' x l) ⟨stab 0 H _ h0 (m2.mono fun _ _ e => e.elim), push_two, hr.mod m2⟩ (fun i H' h => h.2.2) (fun i H' h => ?_) (fun i hi H' h => ?_) (fun H' h => ?_)
  · have mh : Mod (fun _ => False) H' (holes H' 1) := Mod.holes _ _ _
    exact ⟨stab i H' _ h.1 (mh.mono fun _ _ e => e.elim), mh.get h.2.1 (fun e => e), h.2.2.mod mh⟩
  · refine (body i hi H' h.1 h.2.1).mono ?_
    rintro r H'' (⟨rfl, h1, h2⟩ | ⟨c, rfl, h1, h2⟩)
    · exact Or.inl ⟨rfl, h1, h2, Rows.same hr fun b hb => hJ _ _ h1 b (by rw [hxF]; simp [hb])⟩
    · refine Or.inr ⟨rfl, .done, some c, h2, by simp, fun H3 e => ?_⟩
      subst e
      exact hE c _ (stabE c H'' _ h1 (rec_set _ h2).2)
  · refine ⟨.ready, none, h.2.1, by simp, fun H3 e => ?_⟩
    subst e
    exact hN _ (stab _ H' _ h.1 (rec_set _ h.2.1).2)

theorem del_vc {s : Sl} {i j : Int} {H : Hp} {Q : Value → Hp → Prop} : slices_Delete_sl_sorted_item_string_string_sorted_item_string_string.vc J0 s i j H Q = delVC Try.prog T_sl_sorted_item_string_string 2 s i j H Q := by kernel_rfl
theorem delc {x : Sl} {n : Nat} (ho : Own H x T_sorted_item_string_string 2 (items l)) (hn : n < x.len) (hl : x.len ≤ 1000000) :
    SCalls Try.prog slices_Delete_sl_sorted_item_string_string_sorted_item_string_string.id [.slice x.a x.len x.cap, .int .i64 (n : Int), .int .i64 ((n + 1 : Nat) : Int)] H fun r H' =>
      ∃ y : Sl, r = .slice y.a y.len y.cap ∧ Own H' y T_sorted_item_string_string 2 (items (l.take n ++ l.drop (n + 1))) ∧ Mod (· ∈ x.blk) H H' ∧ ∀ b ∈ y.blk, b ∈ x.blk := by
  apply slices_Delete_sl_sorted_item_string_string_sorted_item_string_string.calls
  rw [del_vc]
  refine del_spec (e := T_sorted_item_string_string) (cs := items l) (n := n) el ho hn hl (allOne_flat cells_one l) fun y H' hy hm hb => ⟨y, rfl, ?_, hm, hb⟩
  rw [flat_take' cells_len, flat_drop' cells_len] at hy
  simpa [items] using hy

theorem Del_spec {k : ByteArray} (h : Mp H g o F l) :
    SCalls Try.prog sorted_Map_string_string_Del.id [.pointer (some ⟨g, o, none⟩), .string k] H fun r H' => ∃ i, Spot l k i ∧ r = .bool (atB l k i) ∧ ChPost H g o F H' (delAt l k i) := by
  apply sorted_Map_string_string_Del.calls
  refine (find_spec h).mono ?_
  rintro r H1 ⟨i, h1, rfl, m⟩
  refine ⟨_, _, rfl, ?_⟩
  have hrise := h.rise
  have h' := h.mod m
  have h'' := h'
  obtain ⟨x, c, e, g1, g2, g3, rfl, g5, g6, g7⟩ := h'
  have hoc : o < c.size := (Array.getElem?_eq_some_iff.1 g2).1
  have hxl : l.length = x.len := rows_len' (by omega) cells_len (Own.rows g3)
  have hdr := delAt_rise (k := k) (i := i) hrise
  cases hb : atB l k i with
  | true =>
    obtain ⟨hi, hk⟩ := Spot.here hb
    have e1 : delAt l k i = l.take i ++ l.drop (i + 1) := by unfold delAt; rw [hb, if_pos rfl]
    have hdl : (delAt l k i).length ≤ 100000 := by rw [e1]; simp; omega
    refine Br.yes rfl ⟨x, by rw [cell_of g1]; exact g2, ?_⟩
    rw [w64_id (x := (i : Int) + 1) (by omega) (by omega)]
    refine (delc (n := i) g3 (by omega) (by omega)).mono ?_
    rintro r H2 ⟨y, rfl, hy, hm2, hyb⟩
    have hg2 : H2[g]? = some (.cells c e (0, 0)) := hm2.get g1 g5
    have hgy : g ∉ y.blk := fun hgy => g5 (hyb g hgy)
    have ms : Mod (· = g) H2 (Hp.setCell H2 ⟨g, o, none⟩ (.slice y.a y.len y.cap)) := Mod.setCell _ _ _ rfl
    refine ⟨y, rfl, wr_one hg2 hoc, i, h1, by rw [hb], y.blk, ⟨y, _, e, get_setCell _ hg2, by simp [hoc], ?_, rfl, hgy, hdr, hdl⟩, ?_, fun b hb => Or.inl (hyb b hb), fun c' e' hc' => ?_⟩
    · rw [e1]; exact hy.keep ms fun b hb e => hgy (e ▸ hb)
    · have a1 : Mod (fun b => b = g ∨ b ∈ x.blk) H H1 := m.mono fun _ _ e => e.elim
      exact a1.trans ((hm2.mono fun b _ hb => Or.inr hb).trans (ms.mono fun b _ hb => Or.inl hb))
    · have hc1 := m.get hc' fun e => e
      rw [g1] at hc1; cases hc1
      exact ⟨_, get_setCell _ hg2⟩
  | false =>
    have e1 : delAt l k i = l := by unfold delAt; rw [hb, if_neg (by simp)]
    refine Br.no rfl ⟨i, h1, by rw [hb], x.blk, by rw [e1]; exact h'', m.mono (fun _ _ e => e.elim), fun b hb => Or.inl hb, fun c' e' hc' => ?_⟩
    have hc1 := m.get hc' fun e => e
    rw [g1] at hc1; cases hc1
    exact ⟨_, by rw [set_same g2]; exact g1⟩

end
end Go.Proofs.MP

