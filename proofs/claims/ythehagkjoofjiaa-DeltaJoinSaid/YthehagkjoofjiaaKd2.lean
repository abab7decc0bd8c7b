/- DELTAS: pairs by their keys: what seq goes over. -/
import Derived.Test.YthehagkjoofjiaaKx2
set_option linter.all false
set_option linter.constructorNameAsVariable false
namespace Go.Proofs.PP
open Go Go.KC Go.Proofs

abbrev It := ByteArray × Pr
def cells (p : It) : List Value := [.string p.1, .string p.2.key, .string p.2.value, .bool p.2.gone]
abbrev items (l : List It) : List Value := (l.map cells).flatten
theorem cells_len (p : It) : (cells p).length = 4 := rfl
theorem cells_one (p : It) : allOne (cells p) = true := rfl
theorem el_inf : (Try.prog.info? T_sorted_item_string_api_Pair).map (fun i => (i.zero, i.size, i.bytes)) = some (some (.agg #[.string (ByteArray.mk #[]), .string (ByteArray.mk #[]), .string (ByteArray.mk #[]), .bool false]), 4, 56) := by kernel_rfl
theorem el : El Try.prog T_sl_sorted_item_string_api_Pair T_sorted_item_string_api_Pair 4 := by
  refine ⟨by kernel_rfl, ?_, by omega⟩
  have h := el_inf
  cases hi : Try.prog.info? T_sorted_item_string_api_Pair with
  | none => rw [hi] at h; simp at h
  | some ti =>
    rw [hi] at h; simp at h
    exact ⟨ti, _, rfl, h.1, h.2.1, by omega, by omega, rfl, rfl⟩
def args (p : It) : List Value := [.string p.1, .agg #[.string p.2.key, .string p.2.value, .bool p.2.gone]]
def byKey (ps : List Pr) : List It := ps.map fun p => (p.key, p)
theorem byKey_len (ps : List Pr) : (byKey ps).length = ps.length := List.length_map _

section
variable {H : Hp}
theorem goS : goFn Try.prog delta_seq_1.id = true := by kernel_rfl
theorem Seq1_spec {y : Fv} {b : Nat} {x : Sl} {ps : List Pr} {Q : Value → Hp → Prop} (hb : Hp.cell? H ⟨b, 0, none⟩ = some (.slice x.a x.len x.cap)) (hl : ps.length = x.len) (hl2 : ps.length ≤ 100000)
    (J : Nat → Hp → Prop) (h0 : J 0 H) (hr : ∀ i H', J i H' → Rows H' x 3 (ps.map Pr.row).flatten) (hst : ∀ i H', J i H' → J i (holes H' 1))
    (hs : ∀ i (hi : i < (byKey ps).length) H', J i H' → vInv Try.prog (.func y.fn y.fi y.ca) (args (byKey ps)[i]) H' fun r H'' => (r = .bool true ∧ J (i + 1) H'') ∨ (r = .bool false ∧ Q (.tuple #[]) H''))
    (he : ∀ H', J ps.length H' → Q (.tuple #[]) H') : SCalls Try.prog delta_seq_1.id [.func y.fn y.fi y.ca, .pointer (some ⟨b, 0, none⟩)] H Q := by
  apply delta_seq_1.calls
  refine ⟨x, hb, ?_⟩
  have loop : ∀ (d i : Nat) (H' : Hp), i + d = ps.length → J i H' → delta_seq_1.l1 J0 y x H' (i : Int) Q := by
    intro d
    induction d with
    | zero =>
      intro i H' hi hj
      apply delta_seq_1.l1.step; unfold delta_seq_1.l1.body
      obtain rfl : i = ps.length := by omega
      exact Br.no (by simp; omega) (he H' hj)
    | succ d ih =>
      intro i H' hi hj
      apply delta_seq_1.l1.step; unfold delta_seq_1.l1.body
      have hil : i < ps.length := by omega
      obtain ⟨a, ha, hrow⟩ := row_get' (by omega) Pr.row_len (hr i H' hj) hil
      have hib : i < (byKey ps).length := by rw [byKey_len]; exact hil
      have e : (byKey ps)[i] = (ps[i].key, ps[i]) := List.getElem_map _
      refine Br.yes (by simp; omega) ⟨⟨by omega, by omega⟩, vPtr.mk a ha ⟨ps[i].key, ps[i].value, ps[i].gone, by simpa [Pr.row] using hrow, fun H2 e2 => ?_⟩⟩
      have h2 := hs i hib H2 (by rw [e2]; exact hst i H' hj)
      rw [e] at h2
      refine h2.imp ?_
      rintro r H'' (⟨rfl, h⟩ | ⟨rfl, h⟩)
      · refine ⟨true, rfl, Br.no rfl ?_⟩
        rw [w64_id (x := (i : Int) + 1) (by omega) (by omega)]
        have := ih (i + 1) H'' (by omega) h
        simpa using this
      · exact ⟨false, rfl, Br.yes rfl h⟩
  exact loop ps.length 0 H (by omega) h0
theorem seq_st {x : Sl} {ps : List Pr} {K : Fv → Hp → Prop} (h : Rows H x 3 (ps.map Pr.row).flatten) (hl : ps.length ≤ 100000) (hK : ∀ fv bs H', Goes Try.prog args fv (byKey ps) bs H' → (∀ q ∈ bs, H.size ≤ q ∨ (ps ≠ [] ∧ q ∈ x.blk)) → Mod (fun _ => False) H H' → K fv H') (hx : ps ≠ [] → ∀ q ∈ x.blk, q < H.size) :
    SCalls Try.prog delta_seq.id [.slice x.a x.len x.cap] H fun r H' => ∃ f : Fv, r = .func f.fn f.fi f.ca ∧ K f H' := by
  apply delta_seq.calls
  rintro b rfl H1 h1
  obtain ⟨q1, m1, s1⟩ := push_facts h1
  have hxl := rows_len' (by omega) Pr.row_len h
  -- of no pairs the row is not asked
  let bs : List Nat := H.size :: (if ps = [] then [] else x.blk)
  have hbs : ∀ q ∈ bs, q < H1.size := by
    intro q hq
    rcases List.mem_cons.1 hq with rfl | hq
    · omega
    · split at hq
      · cases hq
      · rename_i c; have := hx c q hq; omega
  refine ⟨⟨.func 33, #[], #[.pointer (some ⟨H.size, 0, none⟩)]⟩, rfl, hK _ bs H1 ⟨33, rfl, goS, hbs, fun y H0 J Q hs hz j0 js qs jb body fin => ?_⟩ (fun q hq => ?_) m1⟩
  · have hb0 : Hp.cell? H0 ⟨H.size, 0, none⟩ = some (.slice x.a x.len x.cap) := by
      rw [cell_of (show H0[H.size]? = _ from (hs H.size (by simp [bs])).trans q1)]; rfl
    have hrow : ∀ {H'}, Same bs H0 H' → Rows H' x 3 (ps.map Pr.row).flatten := by
      intro H' hs'
      by_cases c : ps = []
      · subst c
        refine ⟨h.1, h.2.1, fun a ha j v hj => by simp at hj, h.2.2.2⟩
      · refine Rows.same (h.keep m1 fun _ _ e => e) fun q hq => ?_
        have hqb : q ∈ bs := by simp only [bs, if_neg c]; exact List.mem_cons_of_mem _ hq
        exact (hs' q hqb).trans (hs q hqb)
    refine Seq1_spec (y := y) (b := H.size) (x := x) (ps := ps) (Q := fun _ H1 => ∃ n1, Q n1 H1) hb0 hxl hl (fun i H1 => J H0.size i H1 ∧ H0.size ≤ H1.size)
      ⟨j0 _ _ (Nat.le_refl _) (Nat.le_refl _) (Mod.refl _ _), Nat.le_refl _⟩ (fun i H1 hj => hrow (jb _ _ _ hj.1)) (fun i H1 hj => ?_) (fun i hi H1 hj => ?_) (fun H1 hj => ⟨_, fin _ _ (by rw [byKey_len]; exact hj.1)⟩)
    · have mh : Mod (fun _ => False) H1 (holes H1 1) := Mod.holes _ _ _
      exact ⟨js _ i H1 _ hj.1 (mh.mono fun _ _ e => e.elim), Nat.le_trans hj.2 mh.size⟩
    · refine (body H0.size i hi H1 (Nat.le_refl _) hj.2 hj.1).imp ?_
      rintro r H2 ⟨hm, ⟨rfl, hj2⟩ | ⟨rfl, hq⟩⟩
      · exact Or.inl ⟨rfl, hj2, Nat.le_trans hj.2 hm.size⟩
      · exact Or.inr ⟨rfl, _, hq⟩
  · rcases List.mem_cons.1 hq with rfl | hq
    · exact Or.inl (Nat.le_refl _)
    · split at hq
      · cases hq
      · rename_i c; exact Or.inr ⟨c, hq⟩
end
end Go.Proofs.PP
