/- LAYER 14: logs compared; deeds behind one another; deeds of an argument. -/
import Derived.Test.YtbodlapndgnkgaaKno11
import Derived.Test.YtbodlapndgnkgaaKq7
set_option linter.all false
set_option linter.constructorNameAsVariable false
set_option maxRecDepth 100000
namespace Go.Proofs
open Go Go.KC
section
variable {H : Hp} {x y : Sl} {es es' : List En}
theorem Equal_spec (h : Lr H x es) (h' : Lr H y es') (hx : x.len ≤ 9223372036854775807) : SCalls Try.prog slices_Equal_sl_api_Entry_api_Entry.id [.slice x.a x.len x.cap, .slice y.a y.len y.cap] H (TellPost H (.bool (decide (es = es')))) := by
  have e1 := h.len
  have e2 := h'.len
  apply slices_Equal_sl_api_Entry_api_Entry.calls
  by_cases hl : x.len = y.len
  rotate_left
  · refine Br.yes (by simp; omega) ⟨?_, Mod.refl _ _⟩
    rw [decide_eq_false fun e => hl (by rw [← e1, ← e2, e])]
  refine Br.no (by simp; omega) ?_
  have loop : ∀ (d j : Nat), j + d = x.len → es.take j = es'.take j → slices_Equal_sl_api_Entry_api_Entry.l1 J0 x y H (j : Int) (TellPost H (.bool (decide (es = es')))) := by
    intro d
    induction d with
    | zero =>
      intro j hj hp
      apply slices_Equal_sl_api_Entry_api_Entry.l1.step; unfold slices_Equal_sl_api_Entry_api_Entry.l1.body
      refine Br.no (by simp; omega) ⟨?_, Mod.refl _ _⟩
      rw [List.take_of_length_le (by omega), List.take_of_length_le (by omega)] at hp
      rw [decide_eq_true hp]
    | succ d ih =>
      intro j hj hp
      apply slices_Equal_sl_api_Entry_api_Entry.l1.step; unfold slices_Equal_sl_api_Entry_api_Entry.l1.body
      have hj1 : j < es.length := by omega
      have hj2 : j < es'.length := by omega
      obtain ⟨a, ha, hrow⟩ := h.get hj1
      obtain ⟨a', ha', hrow'⟩ := h'.get hj2
      refine Br.yes (by simp; omega) ⟨⟨by omega, by omega⟩, vPtr.mk a ha ⟨_, _, _, _, _, _, _, _, by simpa [En.cells] using hrow, ⟨by omega, by omega⟩, vPtr.mk a' ha' ⟨_, _, _, _, _, _, _, _, by simpa [En.cells] using hrow', ?_⟩⟩⟩
      have he := en_beq es[j] es'[j]
      by_cases hc : es[j] = es'[j]
      · rw [decide_eq_true hc] at he
        refine Br.no (congrArg not he) ?_
        rw [w64_id (x := (j : Int) + 1) (by omega) (by omega)]
        have := ih (j + 1) (by omega) (by rw [List.take_succ_eq_append_getElem hj1, List.take_succ_eq_append_getElem hj2, hp, hc])
        simpa using this
      · rw [decide_eq_false hc] at he
        refine Br.yes (congrArg not he) ⟨?_, Mod.refl _ _⟩
        rw [decide_eq_false fun h => hc (by subst h; rfl)]
  have := loop x.len 0 (by omega) rfl
  simpa using this
def sameL (b t : Int) (es : List En) (b' t' : Int) (es' : List En) : Bool := decide (b = b' ∧ t = t' ∧ es = es')
theorem nSame_spec {b t b' t' : Int} (h : Lr H x es) (h' : Lr H y es') (hx : x.len ≤ 9223372036854775807) : SCalls Try.prog node_Same.id [.agg #[.int .i64 b, .int .i64 t, .slice x.a x.len x.cap], .agg #[.int .i64 b', .int .i64 t', .slice y.a y.len y.cap]] H (TellPost H (.bool (sameL b t es b' t' es'))) := by
  apply node_Same.calls (aBase := b) (aTerm := t) (aEntries := x) (bBase := b') (bTerm := t') (bEntries := y)
  intro H1 e1 H2 e2
  obtain ⟨m1, _⟩ := hole_facts e1
  obtain ⟨m2, _⟩ := hole_facts e2
  have m := m1.trans m2
  have k1 : ∀ v : Bool, (v = true ↔ b = b' ∧ t = t') → node_Same.k1 J0 b t x b' t' y H2 v (TellPost H (.bool (sameL b t es b' t' es'))) := by
    intro v hv
    apply node_Same.k1.step; unfold node_Same.k1.body
    cases v with
    | true =>
      refine Br.yes rfl ((Equal_spec (h.mod m) (h'.mod m) hx).mono ?_)
      rintro r H3 ⟨rfl, m3⟩
      refine ⟨_, rfl, ?_, m.trans m3⟩
      have := hv.1 rfl
      congr 1
      exact decide_eq_decide.2 ⟨fun h => ⟨this.1, this.2, h⟩, fun h => h.2.2⟩
    | false =>
      refine Br.no rfl ⟨?_, m⟩
      have : sameL b t es b' t' es' = false := decide_eq_false fun h => Bool.noConfusion (hv.2 ⟨h.1, h.2.1⟩)
      rw [this]
  by_cases hb : b = b'
  · refine Br.yes (by simp [hb]) (k1 _ ?_)
    simp [hb]
  · exact Br.no (by simp [hb]) (k1 false (by simp [hb]))
theorem sameL_self {b t : Int} {es : List En} : sameL b t es b t es = true := decide_eq_true ⟨rfl, rfl, rfl⟩
end

/-- Deeds, one behind the other. -/
def wd (ds : List Ac) : Wd := ds.foldl Wd.act w0
theorem wd_snoc (ds : List Ac) (a : Ac) : wd (ds ++ [a]) = (wd ds).act a := by unfold wd; rw [List.foldl_append]; rfl
theorem fold_bd : ∀ (ds : List Ac) (w : Wd) (k : Nat), k + ds.length ≤ 1000 → w.Bd k → (ds.foldl Wd.act w).Bd ((k + ds.length : Nat) : Int)
  | [], w, k, _, h => h
  | a :: ds, w, k, hk, h => by
    rw [List.length_cons] at hk ⊢
    have h1 := act_bd (a := a) h (by omega)
    have := fold_bd ds (w.act a) (k + 1) (by omega) (by simpa using h1)
    rw [show k + (ds.length + 1) = k + 1 + ds.length by omega]
    exact this
theorem wd_bd (ds : List Ac) (h : ds.length ≤ 1000) : (wd ds).Bd ds.length := by
  have := fold_bd ds w0 0 (by omega) w0_bd
  unfold wd
  simpa using this
theorem fold_len : ∀ (ds : List Ac) (w : Wd), (ds.foldl Wd.act w).sent.length ≤ w.sent.length + 3 * ds.length
  | [], w => Nat.le_refl _
  | a :: ds, w => by
    have h1 := fold_len ds (w.act a)
    have h2 := act_len w a
    rw [List.length_cons]
    show (ds.foldl Wd.act (w.act a)).sent.length ≤ _
    omega
theorem wd_len (ds : List Ac) : (wd ds).sent.length ≤ 3 * ds.length := by
  have := fold_len ds w0
  have e : w0.sent.length = 0 := rfl
  unfold wd; omega
theorem Ac.cells_len (a : Ac) : a.cells.length = 20 := rfl
theorem wd_take {ds : List Ac} {j : Nat} (hj : j < ds.length) : wd (ds.take (j + 1)) = (wd (ds.take j)).act ds[j] := by
  rw [List.take_succ_eq_append_getElem hj, wd_snoc]
theorem min_len {n : Nat} {m : Nat} : (if (m : Int) < ((n : Nat) : Int) then (m : Int) else ((n : Nat) : Int)) = ((min m n : Nat) : Int) := by split <;> omega
/-- A deed of a row. -/
theorem do_step {H0 H3 : Hp} {b : Nat} {ds : List Ac} {j : Nat} (hj : j < ds.length) (hj2 : j < 500) (o : WH H0 H3 b (wd (ds.take j))) {K : Value → Hp → Prop} (hK : ∀ H5, WH H0 H5 b (wd (ds.take (j + 1))) → K (.tuple #[]) H5) :
    ∀ H4 : Hp, H4 = (holes H3 1) → SCalls Try.prog tephralaw14_World_Do.id [.pointer (some ⟨b, 0, none⟩), ds[j].val] H4 K := by
  intro H4 h4
  obtain ⟨m4, _⟩ := hole_facts h4
  obtain ⟨xa, xb, xc, sy, l, o⟩ := o
  have htl : (ds.take j).length = j := by rw [List.length_take]; omega
  have B := wd_bd (ds.take j) (by omega)
  have L := wd_len (ds.take j)
  rw [htl] at B L
  refine (Do_spec (a := ds[j]) ⟨xa, xb, xc, sy, l, o.to m4⟩ B (by omega) (by omega)).mono ?_
  rintro r H5 ⟨rfl, o5⟩
  rw [← wd_take hj] at o5
  exact hK H5 o5

open Go.WideShapes Go.ChangeShapes Go.RowKit
def kAc : List CK := [.it .u8, .it .u8, .it .u8, .it .u8, .it .u8, .it .u8, .it .u8, .it .u8, .it .u8, .it .i64, .it .i64, .it .i64, .it .i64, .it .i64, .it .i64, .bo, .it .i64, .sl, .pt, .it .u8]
theorem Fits.cons_inv {m : Nat} {k : CK} {ks : List CK} : ∀ {r : List Value}, Fits m (k :: ks) r → ∃ v vs, r = v :: vs ∧ k.has m v ∧ Fits m ks vs
  | [], h => h.elim
  | v :: vs, h => ⟨v, vs, rfl, h.1, h.2⟩
theorem Fits.nil_inv {m : Nat} : ∀ {r : List Value}, Fits m [] r → r = []
  | [], _ => rfl
  | _ :: _, h => h.elim
theorem acOf {m : Nat} {r : List Value} (h : Fits m kAc r) : ∃ a : Ac, r = a.cells := by
  obtain ⟨v0, r0, rfl, ⟨n0, rfl, w0⟩, h0⟩ := Fits.cons_inv h
  obtain ⟨v1, r1, rfl, ⟨n1, rfl, w1⟩, h1⟩ := Fits.cons_inv h0
  obtain ⟨v2, r2, rfl, ⟨n2, rfl, w2⟩, h2⟩ := Fits.cons_inv h1
  obtain ⟨v3, r3, rfl, ⟨n3, rfl, w3⟩, h3⟩ := Fits.cons_inv h2
  obtain ⟨v4, r4, rfl, ⟨n4, rfl, w4⟩, h4⟩ := Fits.cons_inv h3
  obtain ⟨v5, r5, rfl, ⟨n5, rfl, w5⟩, h5⟩ := Fits.cons_inv h4
  obtain ⟨v6, r6, rfl, ⟨n6, rfl, w6⟩, h6⟩ := Fits.cons_inv h5
  obtain ⟨v7, r7, rfl, ⟨n7, rfl, w7⟩, h7⟩ := Fits.cons_inv h6
  obtain ⟨v8, r8, rfl, ⟨n8, rfl, w8⟩, h8⟩ := Fits.cons_inv h7
  obtain ⟨v9, r9, rfl, ⟨n9, rfl, _⟩, h9⟩ := Fits.cons_inv h8
  obtain ⟨v10, r10, rfl, ⟨n10, rfl, _⟩, h10⟩ := Fits.cons_inv h9
  obtain ⟨v11, r11, rfl, ⟨n11, rfl, _⟩, h11⟩ := Fits.cons_inv h10
  obtain ⟨v12, r12, rfl, ⟨n12, rfl, _⟩, h12⟩ := Fits.cons_inv h11
  obtain ⟨v13, r13, rfl, ⟨n13, rfl, _⟩, h13⟩ := Fits.cons_inv h12
  obtain ⟨v14, r14, rfl, ⟨n14, rfl, _⟩, h14⟩ := Fits.cons_inv h13
  obtain ⟨v15, r15, rfl, ⟨b15, rfl⟩, h15⟩ := Fits.cons_inv h14
  obtain ⟨v16, r16, rfl, ⟨n16, rfl, _⟩, h16⟩ := Fits.cons_inv h15
  obtain ⟨v17, r17, rfl, ⟨s17, rfl⟩, h17⟩ := Fits.cons_inv h16
  obtain ⟨v18, r18, rfl, ⟨p18, rfl⟩, h18⟩ := Fits.cons_inv h17
  obtain ⟨v19, r19, rfl, ⟨n19, rfl, w19⟩, h19⟩ := Fits.cons_inv h18
  obtain rfl := Fits.nil_inv h19
  obtain ⟨c0, rfl⟩ := u8_of w0
  obtain ⟨c1, rfl⟩ := u8_of w1
  obtain ⟨c2, rfl⟩ := u8_of w2
  obtain ⟨c3, rfl⟩ := u8_of w3
  obtain ⟨c4, rfl⟩ := u8_of w4
  obtain ⟨c5, rfl⟩ := u8_of w5
  obtain ⟨c6, rfl⟩ := u8_of w6
  obtain ⟨c7, rfl⟩ := u8_of w7
  obtain ⟨c8, rfl⟩ := u8_of w8
  obtain ⟨c19, rfl⟩ := u8_of w19
  exact ⟨⟨c0, c1, c2, ⟨c3, c4, c5, c6, c7, c8⟩, ⟨⟨n9, n10, n11, n12, n13, n14, b15, n16, [], none⟩, s17, p18⟩, c19⟩, rfl⟩
theorem acsOf {m : Nat} {rows : List (List Value)} (h : ∀ r ∈ rows, Fits m kAc r) : ∃ ds : List Ac, rows = ds.map Ac.cells := by
  obtain ⟨ds, h1, _⟩ := rows_list (f := Ac.cells) (p := fun _ => True) (rows := rows) fun r hr => by
    obtain ⟨s, hs⟩ := acOf (h r hr)
    exact ⟨s, hs, trivial⟩
  exact ⟨ds, h1⟩
end Go.Proofs
