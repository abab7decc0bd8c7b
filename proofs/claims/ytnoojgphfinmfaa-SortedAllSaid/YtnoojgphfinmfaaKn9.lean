/- LAYER 05: Back, From: what they go over. -/
import Derived.Test.YtnoojgphfinmfaaKn12
set_option linter.all false
set_option linter.constructorNameAsVariable false
namespace Go.Proofs.MI
open Go Go.KC Go.Proofs

/-- A map that one reads: its row may be a part of another one's. -/
structure Rm (H : Hp) (g : Nat) (x : Sl) (l : List It) : Prop where
  at_ : ∃ (c : Array Value) (e : TypeId) (fz : Nat × Nat), H[g]? = some (.cells c e fz) ∧ c[0]? = some (.slice x.a x.len x.cap)
  row : Ro H x l
  len : l.length ≤ 100000
section
variable {H : Hp} {g : Nat} {x : Sl} {F : List Nat} {l : List It}
theorem Rm.cell (h : Rm H g x l) : Hp.cell? H ⟨g, 0, none⟩ = some (.slice x.a x.len x.cap) := by
  obtain ⟨c, e, fz, h1, h2⟩ := h.at_
  rw [cell_of h1]; exact h2
theorem Rm.same {H' : Hp} (h : Rm H g x l) (hs : Same (g :: x.blk) H H') : Rm H' g x l := by
  obtain ⟨c, e, fz, h1, h2⟩ := h.at_
  exact ⟨⟨c, e, fz, (hs g (by simp)).trans h1, h2⟩, Rows.same h.row (hs.mono fun q hq => List.mem_cons_of_mem _ hq), h.len⟩
theorem Rm.lt (h : Rm H g x l) : g < H.size := by obtain ⟨c, e, fz, h1, h2⟩ := h.at_; exact lt_of_get h1
theorem Rm.xl (h : Rm H g x l) : x.len = l.length := (rows_len' (by omega) cells_len h.row).symm
theorem Mp.rm (h : Mp H g 0 F l) : ∃ x, Rm H g x l ∧ F = x.blk := by
  obtain ⟨x, c, e, h1, h2, h3, rfl, h5, h6, h7⟩ := h
  exact ⟨x, ⟨⟨c, e, _, h1, h2⟩, Own.rows h3, h7⟩, rfl⟩

theorem goesR {b : Nat} {T : TypeId} (h : Rm H g x l) (hF : ∀ q ∈ x.blk, q < H.size) (hb : H[b]? = some (.cells #[.pointer (some ⟨g, 0, none⟩)] T (0, 0))) : Goes Try.prog args ⟨.func 30, #[], #[.pointer (some ⟨b, 0, none⟩)]⟩ l (b :: g :: x.blk) H := by
  have hlt := h.lt
  refine ⟨30, rfl, goA, fun q hq => ?_, fun y H0 J Q hs hz j0 js qs jb body fin => ?_⟩
  · rcases List.mem_cons.1 hq with rfl | hq
    · exact lt_of_get hb
    · rcases List.mem_cons.1 hq with rfl | hq
      · exact hlt
      · exact hF q hq
  have hm0 : Rm H0 g x l := h.same (hs.mono fun q hq => List.mem_cons_of_mem _ hq)
  have hb0 : Hp.cell? H0 ⟨b, 0, none⟩ = some (.pointer (some ⟨g, 0, none⟩)) := by
    rw [cell_of (show H0[b]? = _ from (hs b (by simp)).trans hb)]; rfl
  refine All1_spec (y := y) (b := b) (g := g) (o := 0) (l := l) (x := x) (Q := fun _ H1 => ∃ n1, Q n1 H1) hb0 hm0.cell (by rw [h.xl]) h.len (fun i H1 => J H0.size i H1 ∧ H0.size ≤ H1.size)
    ⟨j0 _ _ (Nat.le_refl _) (Nat.le_refl _) (Mod.refl _ _), Nat.le_refl _⟩ (fun i H1 hj => Rows.same hm0.row ((jb _ _ _ hj.1).mono fun q hq => by simp [hq])) (fun i H1 hj => ?_) (fun i hi H1 hj => ?_) (fun H1 hj => ⟨_, fin _ _ hj.1⟩)
  · have mh : Mod (fun _ => False) H1 (holes H1 1) := Mod.holes _ _ _
    exact ⟨js _ i H1 _ hj.1 (mh.mono fun _ _ e => e.elim), Nat.le_trans hj.2 mh.size⟩
  · refine (body H0.size i hi H1 (Nat.le_refl _) hj.2 hj.1).imp ?_
    rintro r H2 ⟨hm, ⟨rfl, hj2⟩ | ⟨rfl, hq⟩⟩
    · exact Or.inl ⟨rfl, hj2, Nat.le_trans hj.2 hm.size⟩
    · exact Or.inr ⟨rfl, _, hq⟩

theorem goBk : goFn Try.prog sorted_Map_int_int_Back_1.id = true := by kernel_rfl
theorem Back1_spec {y : Fv} {b : Nat} {Q : Value → Hp → Prop} (hl : l.length = x.len) (hl2 : l.length ≤ 100000) (J : Nat → Hp → Prop) (h0 : J 0 H)
    (hb : ∀ i H', J i H' → Hp.cell? H' ⟨b, 0, none⟩ = some (.pointer (some ⟨g, 0, none⟩))) (hx : ∀ i H', J i H' → Hp.cell? H' ⟨g, 0, none⟩ = some (.slice x.a x.len x.cap)) (hr : ∀ i H', J i H' → Ro H' x l)
    (hs : ∀ i (hi : i < l.reverse.length) H', J i H' → vInv Try.prog (.func y.fn y.fi y.ca) [.int .i64 l.reverse[i].1, .int .i64 l.reverse[i].2] H' fun r H'' => (r = .bool true ∧ J (i + 1) H'') ∨ (r = .bool false ∧ Q (.tuple #[]) H''))
    (he : ∀ H', J l.length H' → Q (.tuple #[]) H') : SCalls Try.prog sorted_Map_int_int_Back_1.id [.func y.fn y.fi y.ca, .pointer (some ⟨b, 0, none⟩)] H Q := by
  apply sorted_Map_int_int_Back_1.calls
  refine ⟨_, hb 0 H h0, vPtr.mk _ rfl ⟨x, hx 0 H h0, ?_⟩⟩
  have loop : ∀ (n : Nat) (H' : Hp), n ≤ l.length → J (l.length - n) H' → sorted_Map_int_int_Back_1.l1 J0 y ⟨b, 0, none⟩ H' ((n : Int) - 1) Q := by
    intro n
    induction n with
    | zero =>
      intro H' hn hj
      apply sorted_Map_int_int_Back_1.l1.step; unfold sorted_Map_int_int_Back_1.l1.body
      exact Br.no (by simp) (he H' hj)
    | succ n ih =>
      intro H' hn hj
      apply sorted_Map_int_int_Back_1.l1.step; unfold sorted_Map_int_int_Back_1.l1.body
      have hnl : n < l.length := by omega
      have e0 : ((n + 1 : Nat) : Int) - 1 = (n : Int) := by omega
      rw [e0]
      obtain ⟨a, ha, hrow⟩ := row_get' (by omega) cells_len (hr _ H' hj) hnl
      have hi : l.length - (n + 1) < l.reverse.length := by rw [List.length_reverse]; omega
      have er : l.reverse[l.length - (n + 1)] = l[n] := by
        rw [List.getElem_reverse]; congr 1; omega
      have h2 := hs (l.length - (n + 1)) hi H' hj
      rw [er] at h2
      refine Br.yes (by simp) ⟨_, hb _ H' hj, vPtr.mk _ rfl ⟨x, hx _ H' hj, ⟨by omega, by omega⟩, vPtr.mk a ha ⟨l[n].1, ?_, _, hb _ H' hj, vPtr.mk _ rfl ⟨x, hx _ H' hj, ⟨by omega, by omega⟩, vPtr.mk a ha ⟨l[n].2, ?_, h2.imp ?_⟩⟩⟩⟩⟩
      · have := hrow 0 (.int .i64 l[n].1) rfl
        rwa [add_zero_of] at this
      · exact hrow 1 (.int .i64 l[n].2) rfl
      · rintro r H'' (⟨rfl, h⟩ | ⟨rfl, h⟩)
        · refine ⟨true, rfl, Br.no rfl ?_⟩
          rw [w64_id (x := (n : Int) - 1) (by omega) (by omega)]
          exact ih H'' (by omega) (by rw [show l.length - n = l.length - (n + 1) + 1 by omega]; exact h)
        · exact ⟨false, rfl, Br.yes rfl h⟩
  rw [← hl, w64_id (x := (l.length : Int) - 1) (by omega) (by omega)]
  exact loop l.length H (Nat.le_refl _) (by rw [Nat.sub_self]; exact h0)

theorem goesB {b : Nat} {T : TypeId} (h : Rm H g x l) (hF : ∀ q ∈ x.blk, q < H.size) (hb : H[b]? = some (.cells #[.pointer (some ⟨g, 0, none⟩)] T (0, 0))) : Goes Try.prog args ⟨.func 31, #[], #[.pointer (some ⟨b, 0, none⟩)]⟩ l.reverse (b :: g :: x.blk) H := by
  have hlt := h.lt
  refine ⟨31, rfl, goBk, fun q hq => ?_, fun y H0 J Q hs hz j0 js qs jb body fin => ?_⟩
  · rcases List.mem_cons.1 hq with rfl | hq
    · exact lt_of_get hb
    · rcases List.mem_cons.1 hq with rfl | hq
      · exact hlt
      · exact hF q hq
  have hm0 : Rm H0 g x l := h.same (hs.mono fun q hq => List.mem_cons_of_mem _ hq)
  have hb0 : H0[b]? = some (.cells #[.pointer (some ⟨g, 0, none⟩)] T (0, 0)) := (hs b (by simp)).trans hb
  refine Back1_spec (y := y) (b := b) (g := g) (l := l) (x := x) (Q := fun _ H1 => ∃ n1, Q n1 H1) (by rw [h.xl]) h.len (fun i H1 => J H0.size i H1 ∧ H0.size ≤ H1.size)
    ⟨j0 _ _ (Nat.le_refl _) (Nat.le_refl _) (Mod.refl _ _), Nat.le_refl _⟩ (fun i H1 hj => ?_) (fun i H1 hj => ?_) (fun i H1 hj => Rows.same hm0.row ((jb _ _ _ hj.1).mono fun q hq => by simp [hq])) (fun i hi H1 hj => ?_) (fun H1 hj => ⟨_, fin _ _ (by rw [List.length_reverse]; exact hj.1)⟩)
  · rw [cell_of (show H1[b]? = _ from (jb _ _ _ hj.1 b (by simp)).trans hb0)]; rfl
  · exact (hm0.same ((jb _ _ _ hj.1).mono fun q hq => List.mem_cons_of_mem _ hq)).cell
  · refine (body H0.size i hi H1 (Nat.le_refl _) hj.2 hj.1).imp ?_
    rintro r H2 ⟨hm, ⟨rfl, hj2⟩ | ⟨rfl, hq⟩⟩
    · exact Or.inl ⟨rfl, hj2, Nat.le_trans hj.2 hm.size⟩
    · exact Or.inr ⟨rfl, _, hq⟩

theorem back_st {K : Fv → Hp → Prop} (h : Mp H g 0 F l) (hK : ∀ fv H', Goes Try.prog args fv l.reverse (H.size :: g :: F) H' → Mod (fun _ => False) H H' → K fv H') : SCalls Try.prog sorted_Map_int_int_Back.id [.pointer (some ⟨g, 0, none⟩)] H fun r H' => ∃ x : Fv, r = .func x.fn x.fi x.ca ∧ K x H' := by
  apply sorted_Map_int_int_Back.calls
  rintro b rfl H1 h1
  obtain ⟨q1, m1, s1⟩ := push_facts h1
  obtain ⟨x, hx, rfl⟩ := (h.mod m1).rm
  exact ⟨⟨.func 31, #[], #[.pointer (some ⟨H.size, 0, none⟩)]⟩, rfl, hK _ H1 (goesB hx (fun q hq => by have := (h.mod m1).lt; exact this.2 q hq) q1) m1⟩
theorem from_st {k : Int} {K : Fv → Hp → Prop} (h : Mp H g 0 F l) (hK : ∀ i fv B H', Spot l k i → Goes Try.prog args fv (l.drop i) B H' → (∀ q ∈ B, H.size ≤ q ∨ q ∈ F) → Mod (fun _ => False) H H' → K fv H') :
    SCalls Try.prog sorted_Map_int_int_From.id [.pointer (some ⟨g, 0, none⟩), .int .i64 k] H fun r H' => ∃ x : Fv, r = .func x.fn x.fi x.ca ∧ K x H' := by
  apply sorted_Map_int_int_From.calls
  refine (find_spec (k := k) h).mono ?_
  rintro r H1 ⟨i, sp, rfl, m1⟩
  have h1 := h.mod m1
  obtain ⟨x, hx, hF⟩ := h1.rm
  have hlt := h1.lt
  have hil := sp.le
  have hxl := hx.xl
  refine ⟨_, _, rfl, x, hx.cell, ⟨by omega, by omega⟩, fun b hb H2 h2 => ?_⟩
  obtain ⟨q2, m2, s2⟩ := push_facts h2
  rw [← hb] at q2
  refine ⟨wr_at q2, fun H3 h3 => ?_⟩
  rw [Int.toNat_natCast] at h3
  obtain ⟨q3, m3⟩ := set_facts q2 h3
  have m13 : Mod (fun _ => False) H1 H3 := Mod.fresh ((m2.mono fun _ _ e => e.elim).trans m3) fun q h => by have h : q = b := h; omega
  have z3 := m13.size
  have z1 := m1.size
  have hrow : Ro H3 ⟨cutA x.a x.cap i 2, x.len - i, x.cap - i⟩ (l.drop i) := by
    have := Rows.drop (hx.row.mod m13) (n := i) (by omega)
    have e : (items l).drop (i * 2) = items (l.drop i) := flat_drop' cells_len l i
    rw [e] at this
    exact this
  have hRm : Rm H3 b ⟨cutA x.a x.cap i 2, x.len - i, x.cap - i⟩ (l.drop i) := ⟨⟨_, _, _, q3, rfl⟩, hrow, by rw [List.length_drop]; have := hx.len; omega⟩
  refine All_spec.mono ?_
  rintro r H4 ⟨T, rfl, rfl⟩
  have mp : Mod (fun _ => False) H3 (Array.push H3 (.cells #[.pointer (some ⟨b, 0, none⟩)] T)) := Mod.push _ _ _
  have hsub : ∀ q ∈ Sl.blk ⟨cutA x.a x.cap i 2, x.len - i, x.cap - i⟩, q ∈ F := fun q hq => by rw [hF]; exact cutA_blk x _ _ _ _ _ q hq
  have hb3 : b < H3.size := lt_of_get q3
  refine ⟨⟨.func 30, #[], #[.pointer (some ⟨H3.size, 0, none⟩)]⟩, rfl, ⟨.func 30, #[], #[.pointer (some ⟨H3.size, 0, none⟩)]⟩, rfl, hK i _ _ _ sp (goesR (hRm.same (Mod.same mp fun q hq => ⟨?_, fun e => e⟩)) (fun q hq => by have := hlt.2 q (hsub q hq); have := mp.size; omega) (get_push_new _ _)) (fun q hq => ?_) (m1.trans (m13.trans mp))⟩
  · rcases List.mem_cons.1 hq with rfl | hq
    · exact hb3
    · have := hlt.2 q (hsub q hq); omega
  · simp only [List.mem_cons] at hq
    rcases hq with rfl | rfl | hq
    · exact Or.inl (by omega)
    · exact Or.inl (by omega)
    · exact Or.inr (hsub q hq)
end
end Go.Proofs.MI
