/- LAYER 01: PackApart, the walk. -/
import Derived.Test.YtllkdgnagjciiaaKp13
set_option linter.all false
set_option linter.constructorNameAsVariable false
namespace Go.Proofs
open Go Go.KC

section
variable {H0 : Hp}

/-- Three writers, apart from one another. -/
structure Three (H0 H : Hp) (x y z : Nat) (xs ys zs : List UInt8) : Prop where
  f : Fresh H0 H
  w : ∃ X Y Z, Wr H x X xs ∧ Wr H y Y ys ∧ Wr H z Z zs ∧ (∀ g ∈ X, H0.size ≤ g ∧ g ∉ Y ∧ g ∉ Z) ∧ (∀ g ∈ Y, H0.size ≤ g ∧ g ∉ Z) ∧ (∀ g ∈ Z, H0.size ≤ g)

theorem Three.keep {H H' : Hp} {x y z : Nat} {xs ys zs : List UInt8} (h : Three H0 H x y z xs ys zs) (m : Mod (fun _ => False) H H') : Three H0 H' x y z xs ys zs := by
  obtain ⟨f, X, Y, Z, h1, h2, h3, r⟩ := h
  exact ⟨f.step m fun _ h => h.elim, X, Y, Z, h1.keep m fun _ _ e => e, h2.keep m fun _ _ e => e, h3.keep m fun _ _ e => e, r⟩

theorem Three.layX {H : Hp} {x y z : Nat} {xs ys zs : List UInt8} {p : Pt} {Q : Value → Hp → Prop} (h : Three H0 H x y z xs ys zs) (hb : xs.length + 8 + p.text.size ≤ 140737488355328)
    (hQ : ∀ H', Three H0 H' x y z (xs ++ p.bytes) ys zs → Q (.tuple #[]) H') : SCalls Try.prog tephralaw01_lay.id [.pointer (some ⟨x, 0, none⟩), p.val] H Q := by
  obtain ⟨f, X, Y, Z, h1, h2, h3, dX, dY, dZ⟩ := h
  refine (lay_spec h1 hb).mono ?_
  rintro r H' ⟨rfl, F', w', m, hF'⟩
  refine hQ H' ⟨f.step m fun g hg => (dX g hg).1, F', Y, Z, w', h2.keep m fun g hg e => (dX g e).2.1 hg, h3.keep m fun g hg e => (dX g e).2.2 hg, fun g hg => ?_, dY, dZ⟩
  rcases hF' g hg with h | h
  · exact dX g h
  · exact ⟨Nat.le_trans f.size h, fun e => by have := h2.lt g e; omega, fun e => by have := h3.lt g e; omega⟩
theorem Three.layY {H : Hp} {x y z : Nat} {xs ys zs : List UInt8} {p : Pt} {Q : Value → Hp → Prop} (h : Three H0 H x y z xs ys zs) (hb : ys.length + 8 + p.text.size ≤ 140737488355328)
    (hQ : ∀ H', Three H0 H' x y z xs (ys ++ p.bytes) zs → Q (.tuple #[]) H') : SCalls Try.prog tephralaw01_lay.id [.pointer (some ⟨y, 0, none⟩), p.val] H Q := by
  obtain ⟨f, X, Y, Z, h1, h2, h3, dX, dY, dZ⟩ := h
  refine (lay_spec h2 hb).mono ?_
  rintro r H' ⟨rfl, F', w', m, hF'⟩
  refine hQ H' ⟨f.step m fun g hg => (dY g hg).1, X, F', Z, h1.keep m fun g hg e => (dX g hg).2.1 e, w', h3.keep m fun g hg e => (dY g e).2 hg, fun g hg => ⟨(dX g hg).1, fun e => ?_, (dX g hg).2.2⟩, fun g hg => ?_, dZ⟩
  · rcases hF' g e with h | h
    · exact (dX g hg).2.1 h
    · have := h1.lt g hg; omega
  · rcases hF' g hg with h | h
    · exact dY g h
    · exact ⟨Nat.le_trans f.size h, fun e => by have := h3.lt g e; omega⟩
theorem Three.layZ {H : Hp} {x y z : Nat} {xs ys zs : List UInt8} {p : Pt} {Q : Value → Hp → Prop} (h : Three H0 H x y z xs ys zs) (hb : zs.length + 8 + p.text.size ≤ 140737488355328)
    (hQ : ∀ H', Three H0 H' x y z xs ys (zs ++ p.bytes) → Q (.tuple #[]) H') : SCalls Try.prog tephralaw01_lay.id [.pointer (some ⟨z, 0, none⟩), p.val] H Q := by
  obtain ⟨f, X, Y, Z, h1, h2, h3, dX, dY, dZ⟩ := h
  refine (lay_spec h3 hb).mono ?_
  rintro r H' ⟨rfl, F', w', m, hF'⟩
  refine hQ H' ⟨f.step m fun g hg => dZ g hg, X, Y, F', h1.keep m fun g hg e => (dX g hg).2.2 e, h2.keep m fun g hg e => (dY g hg).2 e, w', fun g hg => ⟨(dX g hg).1, (dX g hg).2.1, fun e => ?_⟩, fun g hg => ⟨(dY g hg).1, fun e => ?_⟩, fun g hg => ?_⟩
  · rcases hF' g e with h | h
    · exact (dX g hg).2.2 h
    · have := h1.lt g hg; omega
  · rcases hF' g e with h | h
    · exact (dY g hg).2 h
    · have := h2.lt g hg; omega
  · rcases hF' g hg with h | h
    · exact dZ g h
    · exact Nat.le_trans f.size h

theorem Three.bytesX {H : Hp} {x y z : Nat} {xs ys zs : List UInt8} {K : Sl → Hp → Prop} (h : Three H0 H x y z xs ys zs) (hb : xs.length ≤ 140737488355328)
    (hK : ∀ x3 H', Mod (fun _ => False) H H' → Three H0 H' x y z xs ys zs → Rows H' x3 1 (xs.map bv) → K x3 H') :
    SCalls Try.prog pack_Writer_Bytes.id [.pointer (some ⟨x, 0, none⟩)] H fun r H' => ∃ x3 : Sl, r = .slice x3.a x3.len x3.cap ∧ K x3 H' := by
  obtain ⟨X, Y, Z, h1, h2, h3, -⟩ := h.w
  refine (Writer_Bytes_spec h1 hb).mono ?_
  rintro r H' ⟨x3, rfl, ho, m, -⟩
  exact ⟨x3, rfl, hK x3 H' m (h.keep m) (Own.rows ho)⟩
theorem Three.bytesY {H : Hp} {x y z : Nat} {xs ys zs : List UInt8} {K : Sl → Hp → Prop} (h : Three H0 H x y z xs ys zs) (hb : ys.length ≤ 140737488355328)
    (hK : ∀ x3 H', Mod (fun _ => False) H H' → Three H0 H' x y z xs ys zs → Rows H' x3 1 (ys.map bv) → K x3 H') :
    SCalls Try.prog pack_Writer_Bytes.id [.pointer (some ⟨y, 0, none⟩)] H fun r H' => ∃ x3 : Sl, r = .slice x3.a x3.len x3.cap ∧ K x3 H' := by
  obtain ⟨X, Y, Z, h1, h2, h3, -⟩ := h.w
  refine (Writer_Bytes_spec h2 hb).mono ?_
  rintro r H' ⟨x3, rfl, ho, m, -⟩
  exact ⟨x3, rfl, hK x3 H' m (h.keep m) (Own.rows ho)⟩
theorem Three.bytesZ {H : Hp} {x y z : Nat} {xs ys zs : List UInt8} {K : Sl → Hp → Prop} (h : Three H0 H x y z xs ys zs) (hb : zs.length ≤ 140737488355328)
    (hK : ∀ x3 H', Mod (fun _ => False) H H' → Fresh H0 H' → Rows H' x3 1 (zs.map bv) → K x3 H') :
    SCalls Try.prog pack_Writer_Bytes.id [.pointer (some ⟨z, 0, none⟩)] H fun r H' => ∃ x3 : Sl, r = .slice x3.a x3.len x3.cap ∧ K x3 H' := by
  obtain ⟨X, Y, Z, h1, h2, h3, -⟩ := h.w
  refine (Writer_Bytes_spec h3 hb).mono ?_
  rintro r H' ⟨x3, rfl, ho, m, -⟩
  exact ⟨x3, rfl, hK x3 H' m (h.keep m).f (Own.rows ho)⟩

theorem keepF {H H' : Hp} {x : Sl} {cs : List Value} (h : Rows H x 1 cs) (m : Mod (fun _ => False) H H') : Rows H' x 1 cs := h.keep m fun _ _ e => e

variable {a b : Sl} {aps bs : List Pt}

/-- The end: whichever is read first. -/
theorem PP_end {H H1 : Hp} {xs ys : List UInt8} {y z : Nat} (ey : y = H1.size + 1) (ez : z = H1.size + 2) (h : Three H0 H H1.size y z xs ys (xs ++ ys)) (hx : xs.length ≤ 70000000) (hy : ys.length ≤ 70000000) (Q : Value → Hp → Prop)
    (hQ : ∀ H', Fresh H0 H' → Q (.bool true) H') (hd : (decide (((min 60 b.len : Nat) : Int) < ((min 60 b.len : Nat) : Int))) = false) :
    tephralaw01_PackApart.l2 J0 b H1 H ((min 60 b.len : Nat) : Int) Q := by
  have e : (if (60 : Int) < ((b.len : Nat) : Int) then (60 : Int) else ((b.len : Nat) : Int)).toNat = min 60 b.len := min_toNat 60 b.len
  have s1 : Array.size (Array.push H1 (.cells #[.slice none 0 0] T_pack_Writer)) = y := by rw [ey]; simp
  have s2 : Array.size (Array.push (Array.push H1 (.cells #[.slice none 0 0] T_pack_Writer)) (.cells #[.slice none 0 0] T_pack_Writer)) = z := by rw [ez]; simp
  have hz : (xs ++ ys).length ≤ 140737488355328 := by rw [List.length_append]; omega
  have hx' : xs.length ≤ 140737488355328 := by omega
  have hy' : ys.length ≤ 140737488355328 := by omega
  have hsz : (ByteArray.mk xs.toArray).size + (ByteArray.mk ys.toArray).size ≤ 9223372036854775807 := by rw [ba_size, ba_size]; omega
  have heq : ((ByteArray.mk xs.toArray ++ ByteArray.mk ys.toArray).toList == (ByteArray.mk (xs ++ ys).toArray).toList) = true := by rw [ba_append]; exact beq_self_eq_true _
  apply tephralaw01_PackApart.l2.step
  unfold tephralaw01_PackApart.l2.body
  rw [e, s2, s1]
  refine Br.no hd (h.bytesX hx' fun x3 H8 m8 h8 r8 => ⟨?_, ?_⟩)
  · refine b2s_imp (b2s_rows r8 rfl) ?_
    rintro _ rfl
    refine h8.bytesY hy' fun x4 H9 m9 h9 r9 => ⟨?_, ?_⟩
    · refine b2s_imp (b2s_rows r9 rfl) ?_
      rintro _ rfl
      refine ⟨hsz, h9.bytesZ hz fun x5 H10 m10 f10 r10 => ?_⟩
      refine b2s_imp (b2s_rows r10 rfl) ?_
      rintro _ rfl
      rw [heq]; exact hQ _ f10
    · refine h9.bytesZ hz fun x5 H10 m10 f10 r10 => ⟨?_, ?_⟩
      · refine b2s_imp (b2s_rows (keepF r9 m10) rfl) ?_
        rintro _ rfl
        refine ⟨hsz, b2s_imp (b2s_rows r10 rfl) ?_⟩
        rintro _ rfl
        rw [heq]; exact hQ _ f10
      · refine b2s_imp (b2s_rows r10 rfl) ?_
        rintro _ rfl
        refine b2s_imp (b2s_rows (keepF r9 m10) rfl) ?_
        rintro _ rfl
        exact ⟨hsz, by rw [heq]; exact hQ _ f10⟩
  · refine h8.bytesY hy' fun x7 H12 m12 h12 r12 => ⟨?_, ?_, ?_⟩
    · have r3 := keepF r8 m12
      refine b2s_imp (b2s_rows r3 rfl) ?_
      rintro _ rfl
      refine ⟨?_, ?_⟩
      · refine b2s_imp (b2s_rows r12 rfl) ?_
        rintro _ rfl
        refine ⟨hsz, h12.bytesZ hz fun x5 H10 m10 f10 r10 => ?_⟩
        refine b2s_imp (b2s_rows r10 rfl) ?_
        rintro _ rfl
        rw [heq]; exact hQ _ f10
      · refine h12.bytesZ hz fun x5 H10 m10 f10 r10 => ⟨?_, ?_⟩
        · refine b2s_imp (b2s_rows (keepF r12 m10) rfl) ?_
          rintro _ rfl
          refine ⟨hsz, b2s_imp (b2s_rows r10 rfl) ?_⟩
          rintro _ rfl
          rw [heq]; exact hQ _ f10
        · refine b2s_imp (b2s_rows r10 rfl) ?_
          rintro _ rfl
          refine b2s_imp (b2s_rows (keepF r12 m10) rfl) ?_
          rintro _ rfl
          exact ⟨hsz, by rw [heq]; exact hQ _ f10⟩
    · refine b2s_imp (b2s_rows r12 rfl) ?_
      rintro _ rfl
      refine ⟨?_, ?_⟩
      · refine b2s_imp (b2s_rows (keepF r8 m12) rfl) ?_
        rintro _ rfl
        refine ⟨hsz, h12.bytesZ hz fun x5 H10 m10 f10 r10 => ?_⟩
        refine b2s_imp (b2s_rows r10 rfl) ?_
        rintro _ rfl
        rw [heq]; exact hQ _ f10
      · refine h12.bytesZ hz fun x5 H10 m10 f10 r10 => ⟨?_, ?_⟩
        · refine b2s_imp (b2s_rows (keepF (keepF r8 m12) m10) rfl) ?_
          rintro _ rfl
          refine ⟨hsz, b2s_imp (b2s_rows r10 rfl) ?_⟩
          rintro _ rfl
          rw [heq]; exact hQ _ f10
        · refine b2s_imp (b2s_rows r10 rfl) ?_
          rintro _ rfl
          refine b2s_imp (b2s_rows (keepF (keepF r8 m12) m10) rfl) ?_
          rintro _ rfl
          exact ⟨hsz, by rw [heq]; exact hQ _ f10⟩
    · refine h12.bytesZ hz fun x5 H10 m10 f10 r10 => ?_
      have q3 := keepF (keepF r8 m12) m10
      have q7 := keepF r12 m10
      refine ⟨?_, ?_, ?_⟩
      · refine b2s_imp (b2s_rows q3 rfl) ?_
        rintro _ rfl
        refine ⟨?_, ?_⟩
        · refine b2s_imp (b2s_rows q7 rfl) ?_
          rintro _ rfl
          refine ⟨hsz, b2s_imp (b2s_rows r10 rfl) ?_⟩
          rintro _ rfl
          rw [heq]; exact hQ _ f10
        · refine b2s_imp (b2s_rows r10 rfl) ?_
          rintro _ rfl
          refine b2s_imp (b2s_rows q7 rfl) ?_
          rintro _ rfl
          exact ⟨hsz, by rw [heq]; exact hQ _ f10⟩
      · refine b2s_imp (b2s_rows q7 rfl) ?_
        rintro _ rfl
        refine ⟨?_, ?_⟩
        · refine b2s_imp (b2s_rows q3 rfl) ?_
          rintro _ rfl
          refine ⟨hsz, b2s_imp (b2s_rows r10 rfl) ?_⟩
          rintro _ rfl
          rw [heq]; exact hQ _ f10
        · refine b2s_imp (b2s_rows r10 rfl) ?_
          rintro _ rfl
          refine b2s_imp (b2s_rows q3 rfl) ?_
          rintro _ rfl
          exact ⟨hsz, by rw [heq]; exact hQ _ f10⟩
      · refine b2s_imp (b2s_rows r10 rfl) ?_
        rintro _ rfl
        refine ⟨?_, ?_⟩
        · refine b2s_imp (b2s_rows q3 rfl) ?_
          rintro _ rfl
          refine b2s_imp (b2s_rows q7 rfl) ?_
          rintro _ rfl
          exact ⟨hsz, by rw [heq]; exact hQ _ f10⟩
        · refine b2s_imp (b2s_rows q7 rfl) ?_
          rintro _ rfl
          refine b2s_imp (b2s_rows q3 rfl) ?_
          rintro _ rfl
          exact ⟨hsz, by rw [heq]; exact hQ _ f10⟩

theorem partsLen {cs : List Pt} (hok : ∀ p ∈ cs, p.ok) (j : Nat) : (laidParts (cs.take j)).length ≤ 1048584 * j := by
  have := laidParts_length (l := cs.take j) fun p hp => hok p (List.mem_of_mem_take hp)
  have h2 : (cs.take j).length ≤ j := by simp; omega
  exact Nat.le_trans this (Nat.mul_le_mul_left _ h2)

theorem PP_l2 {H1 : Hp} {y z : Nat} {xs : List UInt8} (ey : y = H1.size + 1) (ez : z = H1.size + 2) (hr : Rows H0 b 3 (bs.map Pt.cells).flatten) (hl : bs.length = b.len) (hok : ∀ p ∈ bs, p.ok) (hx : xs.length ≤ 70000000) :
    ∀ (d j : Nat) (H : Hp), j + d = min 60 b.len → Three H0 H H1.size y z xs (laidParts (bs.take j)) (xs ++ laidParts (bs.take j)) →
      tephralaw01_PackApart.l2 J0 b H1 H (j : Int) fun r H' => r = .bool true ∧ Mod (fun _ => False) H0 H' := by
  have e : (if (60 : Int) < ((b.len : Nat) : Int) then (60 : Int) else ((b.len : Nat) : Int)).toNat = min 60 b.len := min_toNat 60 b.len
  have s1 : Array.size (Array.push H1 (.cells #[.slice none 0 0] T_pack_Writer)) = y := by rw [ey]; simp
  have s2 : Array.size (Array.push (Array.push H1 (.cells #[.slice none 0 0] T_pack_Writer)) (.cells #[.slice none 0 0] T_pack_Writer)) = z := by rw [ez]; simp
  intro d
  induction d with
  | zero =>
    intro j H hj h
    have hj' : j = min 60 b.len := by omega
    subst hj'
    have := partsLen hok (min 60 b.len)
    exact PP_end ey ez h hx (by omega) _ (fun H' f => ⟨rfl, f.mod⟩) (by simp)
  | succ d ih =>
    intro j H hj h
    apply tephralaw01_PackApart.l2.step
    unfold tephralaw01_PackApart.l2.body
    rw [e, s2, s1]
    have hjl : j < bs.length := by omega
    have hlj := partsLen hok j
    have hts := (hok _ (List.getElem_mem hjl)).2
    obtain ⟨a, ha, hrow⟩ := part_get (h.f.rows hr) hjl
    have m0 : Mod (fun _ => False) H (holes H 1) := Mod.holes _ _ _
    refine Br.yes (by simp; omega) ⟨⟨by omega, by omega⟩, vPtr.mk a (by rw [cutA_zero]; exact ha) ⟨_, _, _, by simpa [Pt.cells] using hrow, (h.keep m0).layY (p := bs[j]) (by omega) fun H2 h2 => ⟨rfl, h2.layZ (p := bs[j]) (by rw [List.length_append]; omega) fun H3 h3 => ⟨rfl, ?_⟩⟩⟩⟩
    rw [List.append_assoc, laidParts_succ hjl] at h3
    rw [w64_id (x := (j : Int) + 1) (by omega) (by omega)]
    have := ih (j + 1) H3 (by omega) h3
    simpa using this

theorem PP_l1 {H1 : Hp} {y z : Nat} (ey : y = H1.size + 1) (ez : z = H1.size + 2) (hr : Rows H0 a 3 (aps.map Pt.cells).flatten) (hl : aps.length = a.len) (hok : ∀ p ∈ aps, p.ok)
    (hrb : Rows H0 b 3 (bs.map Pt.cells).flatten) (hlb : bs.length = b.len) (hokb : ∀ p ∈ bs, p.ok) :
    ∀ (d j : Nat) (H : Hp), j + d = min 60 a.len → Three H0 H H1.size y z (laidParts (aps.take j)) [] (laidParts (aps.take j)) →
      tephralaw01_PackApart.l1 J0 a b H1 H (j : Int) fun r H' => r = .bool true ∧ Mod (fun _ => False) H0 H' := by
  have e : (if (60 : Int) < ((a.len : Nat) : Int) then (60 : Int) else ((a.len : Nat) : Int)).toNat = min 60 a.len := min_toNat 60 a.len
  have s2 : Array.size (Array.push (Array.push H1 (.cells #[.slice none 0 0] T_pack_Writer)) (.cells #[.slice none 0 0] T_pack_Writer)) = z := by rw [ez]; simp
  have hbc := hrb.2.1
  intro d
  induction d with
  | zero =>
    intro j H hj h
    apply tephralaw01_PackApart.l1.step
    unfold tephralaw01_PackApart.l1.body
    rw [e]
    have hlj := partsLen hok j
    refine Br.no (by simp; omega) ⟨⟨by split <;> omega, by split <;> omega⟩, ?_⟩
    have e0 : laidParts (bs.take 0) = [] := rfl
    exact PP_l2 (xs := laidParts (aps.take j)) ey ez hrb hlb hokb (by omega) (min 60 b.len) 0 H (by omega) (by rw [e0, List.append_nil]; exact h)
  | succ d ih =>
    intro j H hj h
    apply tephralaw01_PackApart.l1.step
    unfold tephralaw01_PackApart.l1.body
    rw [e, s2]
    have hjl : j < aps.length := by omega
    have hlj := partsLen hok j
    have hts := (hok _ (List.getElem_mem hjl)).2
    obtain ⟨a0, ha, hrow⟩ := part_get (h.f.rows hr) hjl
    have m0 : Mod (fun _ => False) H (holes H 1) := Mod.holes _ _ _
    refine Br.yes (by simp; omega) ⟨⟨by omega, by omega⟩, vPtr.mk a0 (by rw [cutA_zero]; exact ha) ⟨_, _, _, by simpa [Pt.cells] using hrow, (h.keep m0).layX (p := aps[j]) (by omega) fun H2 h2 => ⟨rfl, h2.layZ (p := aps[j]) (by omega) fun H3 h3 => ⟨rfl, ?_⟩⟩⟩⟩
    rw [laidParts_succ hjl] at h3
    rw [w64_id (x := (j : Int) + 1) (by omega) (by omega)]
    have := ih (j + 1) H3 (by omega) h3
    simpa using this

theorem PackApart_spec (hr : Rows H0 a 3 (aps.map Pt.cells).flatten) (hl : aps.length = a.len) (hok : ∀ p ∈ aps, p.ok)
    (hrb : Rows H0 b 3 (bs.map Pt.cells).flatten) (hlb : bs.length = b.len) (hokb : ∀ p ∈ bs, p.ok) :
    SCalls Try.prog tephralaw01_PackApart.id [.slice a.a a.len a.cap, .slice b.a b.len b.cap] H0 fun r H' => r = .bool true ∧ Mod (fun _ => False) H0 H' := by
  apply tephralaw01_PackApart.calls
  have hx := hr.2.1
  refine awake_spec.mono ?_
  rintro r H1 ⟨rfl, m1⟩
  refine ⟨_, rfl, Br.no rfl ⟨⟨by split <;> omega, by split <;> omega⟩, ?_⟩⟩
  have f0 : Fresh H0 H0 := Mod.refl _ _
  have f1 := f0.step m1 fun _ h => h.elim
  have p1 : Mod (fun _ => False) H1 (Array.push H1 (.cells #[.slice none 0 0] T_pack_Writer)) := Mod.push _ _ _
  have p2 : Mod (fun _ => False) (Array.push H1 (.cells #[.slice none 0 0] T_pack_Writer)) (Array.push (Array.push H1 (.cells #[.slice none 0 0] T_pack_Writer)) (.cells #[.slice none 0 0] T_pack_Writer)) := Mod.push _ _ _
  have p3 : Mod (fun _ => False) (Array.push (Array.push H1 (.cells #[.slice none 0 0] T_pack_Writer)) (.cells #[.slice none 0 0] T_pack_Writer)) (Array.push (Array.push (Array.push H1 (.cells #[.slice none 0 0] T_pack_Writer)) (.cells #[.slice none 0 0] T_pack_Writer)) (.cells #[.slice none 0 0] T_pack_Writer)) := Mod.push _ _ _
  have hs := m1.size
  have w1 := (Wr.new H1).keep (p2.trans p3) fun _ _ e => e
  have w2 := (Wr.new (Array.push H1 (.cells #[.slice none 0 0] T_pack_Writer))).keep p3 fun _ _ e => e
  have w3 := Wr.new (Array.push (Array.push H1 (.cells #[.slice none 0 0] T_pack_Writer)) (.cells #[.slice none 0 0] T_pack_Writer))
  have z1 : Array.size (Array.push H1 (.cells #[.slice none 0 0] T_pack_Writer)) = H1.size + 1 := by simp
  have z2 : Array.size (Array.push (Array.push H1 (.cells #[.slice none 0 0] T_pack_Writer)) (.cells #[.slice none 0 0] T_pack_Writer)) = H1.size + 2 := by simp
  rw [z1] at w2
  rw [z2] at w3
  refine PP_l1 rfl rfl hr hl hok hrb hlb hokb (min 60 a.len) 0 _ (by omega) ⟨f1.step (p1.trans (p2.trans p3)) fun _ h => h.elim, [H1.size], [H1.size + 1], [H1.size + 2], w1, w2, w3, ?_, ?_, ?_⟩
  · intro g hg; simp at hg; subst hg; simp; omega
  · intro g hg; simp at hg; subst hg; simp; omega
  · intro g hg; simp at hg; subst hg; omega
end
end Go.Proofs
