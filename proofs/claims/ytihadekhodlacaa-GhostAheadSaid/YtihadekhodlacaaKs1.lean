/- SORTED, of numbers: find, Get; Put of a key behind all others. -/
import Derived.Test.YtihadekhodlacaaKe4
set_option linter.all false
set_option linter.constructorNameAsVariable false
namespace Go.Proofs
open Go Go.KC

abbrev It := Int × Int
def itc (p : It) : List Value := [.int .i64 p.1, .int .i64 p.2]
/-- Keys rise. -/
def Rising (l : List It) : Prop := ∀ i j (hi : i < l.length) (hj : j < l.length), i < j → l[i].1 < l[j].1
/-- A key's value. -/
def getI (l : List It) (k : Int) : Int × Bool := match l.find? (fun p => p.1 == k) with | some p => (p.2, true) | none => (0, false)

section
variable {H : Hp}
theorem cmp_spec {x y : Int} : SCalls Try.prog cmp_Compare_int.id [.int .i64 x, .int .i64 y] H (TellPost H (.int .i64 (if x < y then -1 else if x > y then 1 else 0))) := by
  have nan : ∀ {H : Hp} (x : Int), SCalls Try.prog cmp_isNaN_int.id [.int .i64 x] H (TellPost H (.bool false)) := fun {H} x => by
    apply cmp_isNaN_int.calls
    exact ⟨by simp, Mod.refl _ _⟩
  apply cmp_Compare_int.calls
  refine bool_step (H0 := H) (nan x) (Mod.refl _ _) fun H1 m1 => bool_step (H0 := H) (nan y) m1 fun H2 m2 => Br.no rfl (Br.no rfl ?_)
  by_cases h1 : x < y
  · exact Br.yes (decide_eq_true h1) ⟨by rw [if_pos h1], m2⟩
  refine Br.no (decide_eq_false h1) ?_
  by_cases h2 : x > y
  · exact Br.yes (decide_eq_true h2) ⟨by rw [if_neg h1, if_pos h2], m2⟩
  · exact Br.no (decide_eq_false h2) ⟨by rw [if_neg h1, if_neg h2], m2⟩

theorem find1_spec {p : It} {k : Int} : SCalls Try.prog sorted_Map_int_int_find_1.id [.agg #[.int .i64 p.1, .int .i64 p.2], .int .i64 k] H (TellPost H (.int .i64 (if p.1 < k then -1 else if p.1 > k then 1 else 0))) := by
  apply sorted_Map_int_int_find_1.calls
  have m0 : Mod (fun _ => False) H (holes H 1) := Mod.holes _ _ _
  refine (cmp_spec (x := p.1) (y := k)).mono ?_
  rintro r H1 ⟨rfl, m1⟩
  exact ⟨_, rfl, rfl, m0.trans m1⟩

theorem go39 : goFn Try.prog sorted_Map_int_int_find_1.id = true := by kernel_rfl
theorem inv_of {args : List Value} {Q : Value → Hp → Prop} (h : SCalls Try.prog sorted_Map_int_int_find_1.id args H Q) : vInv Try.prog (.func (.func sorted_Map_int_int_find_1.id) #[] #[]) args H Q := by
  unfold vInv
  simp only [go39]
  simpa using h

theorem items_get {x : Sl} {l : List It} (h : Rows H x 2 (l.map itc).flatten) {j : Nat} (hj : j < l.length) : ∃ a, x.a = some a ∧ RowAt H (a.add (j * 2)) (itc l[j]) :=
  row_get (k := 2) (f := itc) (by omega) (fun _ => rfl) h hj
theorem items_len {x : Sl} {l : List It} (h : Rows H x 2 (l.map itc).flatten) : l.length = x.len := by
  have := h.1; rw [flat_length (f := itc) (k := 2) (fun _ => rfl)] at this
  exact Nat.eq_of_mul_eq_mul_right (by omega) this

/-- Where a key stands, or would. -/
def FindPost (H : Hp) (l : List It) (k : Int) (r : Value) (H' : Hp) : Prop :=
  ∃ i : Nat, i ≤ l.length ∧ (∀ a (ha : a < l.length), a < i → l[a].1 < k) ∧ (∀ a (ha : a < l.length), i ≤ a → k ≤ l[a].1) ∧
    r = .tuple #[.int .i64 (i : Int), .bool (decide (∃ h : i < l.length, l[i].1 = k))] ∧ Mod (fun _ => False) H H'

theorem search_loop {x : Sl} {l : List It} {k : Int} (hr : Rows H x 2 (l.map itc).flatten) (hs : Rising l) (hl : l.length ≤ 1000000) :
    ∀ (d i j : Nat) (H1 : Hp), j - i ≤ d → i ≤ j → j ≤ l.length → Mod (fun _ => False) H H1 → (∀ a (ha : a < l.length), a < i → l[a].1 < k) → (∀ a (ha : a < l.length), j ≤ a → k ≤ l[a].1) →
      slices_BinarySearchFunc_sl_sorted_item_int_int_sorted_item_int_int_int.l1 J0 x k (.func (.func sorted_Map_int_int_find_1.id) #[] #[]) H1 (i : Int) (j : Int) (FindPost H l k) := by
  have hxl := items_len hr
  have fin : ∀ (i : Nat) (H1 : Hp), i ≤ l.length → Mod (fun _ => False) H H1 → (∀ a (ha : a < l.length), a < i → l[a].1 < k) → (∀ a (ha : a < l.length), i ≤ a → k ≤ l[a].1) →
      slices_BinarySearchFunc_sl_sorted_item_int_int_sorted_item_int_int_int.l1 J0 x k (.func (.func sorted_Map_int_int_find_1.id) #[] #[]) H1 (i : Int) (i : Int) (FindPost H l k) := by
    intro i H1 hi m lo hi2
    apply slices_BinarySearchFunc_sl_sorted_item_int_int_sorted_item_int_int_int.l1.step
    unfold slices_BinarySearchFunc_sl_sorted_item_int_int_sorted_item_int_int_int.l1.body
    refine Br.no (by simp) ?_
    by_cases hc : i < l.length
    · refine Br.yes (by simp; omega) ⟨⟨by omega, by omega⟩, ?_⟩
      obtain ⟨a, ha, hrow⟩ := items_get (hr.keep m fun _ _ e => e) hc
      refine vPtr.mk a ha ⟨_, _, by simpa [itc] using hrow, inv_of ((find1_spec (p := l[i]) (k := k)).mono ?_)⟩
      rintro r H2 ⟨rfl, m2⟩
      refine ⟨_, rfl, i, hi, lo, hi2, ?_, m.trans m2⟩
      have h1 := hi2 i hc (Nat.le_refl _)
      congr 3
      by_cases h2 : l[i].1 = k
      · rw [if_neg (by omega), if_neg (by omega), decide_eq_true ⟨hc, h2⟩]; rfl
      · rw [if_neg (by omega), if_pos (by omega), decide_eq_false fun ⟨_, h⟩ => h2 h]; rfl
    · refine Br.no (by simp; omega) ⟨i, hi, lo, hi2, ?_, m⟩
      rw [decide_eq_false fun ⟨h, _⟩ => hc h]
  intro d
  induction d with
  | zero =>
    intro i j H1 hd hij hj m lo hi
    obtain rfl : i = j := by omega
    exact fin i H1 hj m lo hi
  | succ d ih =>
    intro i j H1 hd hij hj m lo hi
    by_cases hc : i = j
    · subst hc; exact fin i H1 hj m lo hi
    apply slices_BinarySearchFunc_sl_sorted_item_int_int_sorted_item_int_int_int.l1.step
    unfold slices_BinarySearchFunc_sl_sorted_item_int_int_sorted_item_int_int_int.l1.body
    have eh : w64 (Int.fdiv (IntKind.u64.wrap (w64 ((i : Int) + (j : Int)))) (2 ^ 1)) = (((i + j) / 2 : Nat) : Int) := by
      rw [w64_id (x := (i : Int) + (j : Int)) (by omega) (by omega)]
      have e1 : IntKind.u64.wrap ((i : Int) + (j : Int)) = (i : Int) + (j : Int) := by
        unfold IntKind.wrap
        simp only [IntKind.bits, IntKind.signed, Bool.false_and, Bool.false_eq_true, if_false, show (2 : Int) ^ 64 = 18446744073709551616 from rfl]
        omega
      rw [e1, show (2 : Int) ^ 1 = 2 from rfl, Int.fdiv_eq_ediv_of_nonneg _ (by omega), w64_id (by omega) (by omega)]
      omega
    rw [eh]
    have hh : (i + j) / 2 < j := by omega
    have hh2 : i ≤ (i + j) / 2 := by omega
    generalize (i + j) / 2 = h at *
    have hhl : h < l.length := by omega
    obtain ⟨a, ha, hrow⟩ := items_get (hr.keep m fun _ _ e => e) hhl
    refine Br.yes (by simp; omega) ⟨by omega, ⟨by omega, by omega⟩, vPtr.mk a ha ⟨_, _, by simpa [itc] using hrow, inv_of ((find1_spec (p := l[h]) (k := k)).mono ?_)⟩⟩
    rintro r H2 ⟨rfl, m2⟩
    refine ⟨_, rfl, ?_⟩
    by_cases h1 : l[h].1 < k
    · rw [if_pos h1]
      refine Br.yes rfl ?_
      rw [w64_id (x := (h : Int) + 1) (by omega) (by omega)]
      have := ih (h + 1) j H2 (by omega) (by omega) hj (m.trans m2) (fun a ha hah => ?_) hi
      · simpa using this
      · by_cases c : a = h
        · subst c; exact h1
        · have := hs a h ha hhl (by omega); omega
    · rw [if_neg h1]
      refine Br.no (by split <;> rfl) ?_
      refine ih i h H2 (by omega) (by omega) (by omega) (m.trans m2) lo fun a ha hah => ?_
      by_cases c : a = h
      · subst c; omega
      · have := hs h a hhl ha (by omega); omega

theorem find_spec {g : Addr} {x : Sl} {l : List It} {k : Int} (hg : Hp.cell? H g = some (.slice x.a x.len x.cap)) (hr : Rows H x 2 (l.map itc).flatten) (hs : Rising l) (hl : l.length ≤ 1000000) :
    SCalls Try.prog sorted_Map_int_int_find.id [.pointer (some g), .int .i64 k] H (FindPost H l k) := by
  apply sorted_Map_int_int_find.calls
  have hxl := items_len hr
  refine ⟨x, hg, ?_⟩
  have hb : SCalls Try.prog slices_BinarySearchFunc_sl_sorted_item_int_int_sorted_item_int_int_int.id [.slice x.a x.len x.cap, .int .i64 k, .func (.func sorted_Map_int_int_find_1.id) #[] #[]] H (FindPost H l k) := by
    apply slices_BinarySearchFunc_sl_sorted_item_int_int_sorted_item_int_int_int.calls
    have := search_loop (k := k) hr hs hl x.len 0 x.len H (by omega) (by omega) (by omega) (Mod.refl _ _) (fun a ha h => absurd h (by omega)) (fun a ha h => absurd h (by omega))
    exact this
  refine hb.mono ?_
  rintro r H1 ⟨i, h1, h2, h3, rfl, m⟩
  exact ⟨_, _, rfl, i, h1, h2, h3, rfl, m⟩

theorem getI_found {l : List It} (hs : Rising l) {i : Nat} (hi : i < l.length) {k : Int} (hk : l[i].1 = k) : getI l k = (l[i].2, true) := by
  have : l.find? (fun p => p.1 == k) = some l[i] := by
    rw [List.find?_eq_some_iff_getElem]
    refine ⟨by simp [hk], i, hi, rfl, fun j hj => ?_⟩
    have := hs j i (by omega) hi hj
    simp; omega
  unfold getI; rw [this]
theorem getI_not {l : List It} {k : Int} (h : ∀ p ∈ l, p.1 ≠ k) : getI l k = (0, false) := by
  have : l.find? (fun p => p.1 == k) = none := by
    rw [List.find?_eq_none]
    intro p hp; simpa using h p hp
  unfold getI; rw [this]

theorem FindPost.not {l : List It} {k : Int} {i : Nat} (lo : ∀ a (ha : a < l.length), a < i → l[a].1 < k) (hi : ∀ a (ha : a < l.length), i ≤ a → k ≤ l[a].1) (hs : Rising l) (h : ¬ ∃ h : i < l.length, l[i].1 = k) : ∀ p ∈ l, p.1 ≠ k := by
  intro p hp e
  obtain ⟨a, ha, rfl⟩ := List.getElem_of_mem hp
  by_cases c : a < i
  · have := lo a ha c; omega
  · by_cases c2 : a = i
    · subst c2; exact h ⟨ha, e⟩
    · have h1 := hi i (by omega) (Nat.le_refl _)
      have h2 := hs i a (by omega) ha (by omega)
      omega

theorem Get_spec {g : Addr} {x : Sl} {l : List It} {k : Int} (hg : Hp.cell? H g = some (.slice x.a x.len x.cap)) (hr : Rows H x 2 (l.map itc).flatten) (hs : Rising l) (hl : l.length ≤ 1000000) :
    SCalls Try.prog sorted_Map_int_int_Get.id [.pointer (some g), .int .i64 k] H fun r H' => r = .tuple #[.int .i64 (getI l k).1, .bool (getI l k).2] ∧ Mod (fun _ => False) H H' := by
  apply sorted_Map_int_int_Get.calls
  have hxl := items_len hr
  refine (find_spec hg hr hs hl).mono ?_
  rintro r H1 ⟨i, h1, h2, h3, rfl, m⟩
  refine ⟨_, _, rfl, ?_⟩
  by_cases hc : ∃ h : i < l.length, l[i].1 = k
  · obtain ⟨hi, hk⟩ := id hc
    rw [decide_eq_true hc]
    obtain ⟨a, ha, hrow⟩ := items_get (hr.keep m fun _ _ e => e) hi
    have hcell : Hp.cell? H1 g = some (.slice x.a x.len x.cap) := by
      unfold Hp.cell? at hg ⊢
      cases hb : H[g.block]? with
      | none => rw [hb] at hg; cases hg
      | some o => rw [m.get hb fun e => e]; rw [hb] at hg; exact hg
    refine Br.yes rfl ⟨x, hcell, ⟨by omega, by omega⟩, vPtr.mk a ha ⟨l[i].2, hrow 1 _ rfl, ?_, m⟩⟩
    rw [getI_found hs hi hk]
  · rw [decide_eq_false hc]
    refine Br.no rfl ⟨?_, m⟩
    rw [getI_not (FindPost.not h2 h3 hs hc)]

theorem und_items : Try.prog.underlying T_sl_sorted_item_int_int = some (.slice T_sorted_item_int_int) := by kernel_rfl
theorem inf_item : (Try.prog.info? T_sorted_item_int_int).map (fun i => (i.zero, i.size, i.bytes)) = some (some (.agg #[.int .i64 0, .int .i64 0]), 2, 16) := by kernel_rfl
theorem item_info : ∃ ti, Try.prog.info? T_sorted_item_int_int = some ti ∧ ti.zero = some (.agg #[.int .i64 0, .int .i64 0]) ∧ ti.size = 2 ∧ ti.bytes = 16 := by
  have h := inf_item
  cases hi : Try.prog.info? T_sorted_item_int_int with
  | none => rw [hi] at h; simp at h
  | some ti => rw [hi] at h; simp at h; exact ⟨ti, rfl, h.1, h.2.1, h.2.2⟩

/-- A key behind all others is laid at the end. -/
theorem Insert_end {x v : Sl} {l : List It} {p : It} (ho : Own H x T_sorted_item_int_int 2 (l.map itc).flatten) (hl : l.length ≤ 1000000) (hv : SrcAt H 2 1 (.slice v.a v.len v.cap) (itc p)) (hvl : v.len = 1) :
    SCalls Try.prog slices_Insert_sl_sorted_item_int_int_sorted_item_int_int.id [.slice x.a x.len x.cap, .int .i64 ((x.len : Nat) : Int), .slice v.a v.len v.cap] H fun r H' =>
      ∃ y : Sl, r = .slice y.a y.len y.cap ∧ Own H' y T_sorted_item_int_int 2 ((l ++ [p]).map itc).flatten ∧ Mod (· ∈ x.blk) H H' ∧ ∀ b ∈ y.blk, b ∈ x.blk ∨ b = H.size := by
  apply slices_Insert_sl_sorted_item_int_int_sorted_item_int_int.calls
  unfold slices_Insert_sl_sorted_item_int_int_sorted_item_int_int.vc
  have hxl := items_len (Own.rows ho)
  obtain ⟨ti, hi, hz, hsz, hby⟩ := item_info
  refine ⟨⟨by omega, by omega⟩, Br.no (by simp [hvl]) (Br.yes (by simp) ?_)⟩
  refine Own.app (e := T_sorted_item_int_int) (ti := ti) (z := .agg #[.int .i64 0, .int .i64 0]) (cs := (l.map itc).flatten) (news := itc p) (by rw [hsz]; exact ho) und_items hi hz (by rw [hsz]; rfl) (by omega) (by rw [hsz]; simp only [srcLen, hvl]; rw [hvl] at hv; exact hv)
    (by rw [hsz]; simp only [srcLen, hvl]; rfl) rfl (by simp only [srcLen, hvl]; rw [hby]; omega) ?_
  intro y H2 hy hyl hm hyb _
  rw [hsz] at hy
  exact ⟨y, rfl, by rw [List.map_append, List.flatten_append]; simpa using hy, hm, hyb⟩
end
end Go.Proofs
