/- LAYER 09: a file's rows; entries of a file: ReadPart. -/
import Derived.Test.YtpdondaekinmdaaKb6
import Derived.Test.YtpdondaekinmdaaKe5
set_option linter.all false
set_option linter.constructorNameAsVariable false
namespace Go.Proofs
open Go Go.KC

theorem frGo_len : ∀ (f : Nat) (xs : List UInt8), (frGo f xs).1.length ≤ (frGo f xs).2 ∧ (frGo f xs).2 ≤ xs.length
  | 0, xs => ⟨Nat.le_refl _, Nat.zero_le _⟩
  | f + 1, xs => by
    by_cases h : (oneM xs).2.2 = 0
    · have hok := oneM_ok h
      have ih := frGo_len f (xs.drop (oneM xs).2.1.toNat)
      rw [List.length_drop] at ih
      have e : frGo (f + 1) xs = ((oneM xs).1 :: (frGo f (xs.drop (oneM xs).2.1.toNat)).1, (oneM xs).2.1.toNat + (frGo f (xs.drop (oneM xs).2.1.toNat)).2) := by
        show (if _ then _ else _) = _; rw [if_pos h]
      rw [e, List.length_cons]
      show _ ≤ (oneM xs).2.1.toNat + _ ∧ (oneM xs).2.1.toNat + _ ≤ _
      omega
    · have e : frGo (f + 1) xs = ([], 0) := by show (if _ then _ else _) = _; rw [if_neg h]
      rw [e]; exact ⟨Nat.le_refl _, Nat.zero_le _⟩
theorem frames_len (xs : List UInt8) : (frames xs).1.length ≤ (frames xs).2 ∧ (frames xs).2 ≤ xs.length := frGo_len _ _

/-- What a first row says: whether it is read whole, and its kind. -/
def hdRd (y : List UInt8) : Int × Bool × List UInt8 :=
  ((rdByte false y).1, (rdNum (rdNum (rdByte false y).2.1 (rdByte false y).2.2).2.1 (rdNum (rdByte false y).2.1 (rdByte false y).2.2).2.2).2)
def hdOK (k : Int) (y : List UInt8) : Prop := (hdRd y).2.1 = false ∧ (hdRd y).2.2 = [] ∧ (hdRd y).1 = k
instance (k : Int) (y : List UInt8) : Decidable (hdOK k y) := by unfold hdOK; exact inferInstance
theorem hdOK_inv {k : Int} {y : List UInt8} (h : hdOK k y) : ∃ f t, y = hdB k f t ∧ (-9223372036854775808 ≤ f ∧ f ≤ 9223372036854775807) ∧ (-9223372036854775808 ≤ t ∧ t ≤ 9223372036854775807) := by
  obtain ⟨h1, h2, h3⟩ := h
  unfold hdRd at h1 h2 h3
  dsimp only at h1 h2 h3
  obtain ⟨i1, i2, i3⟩ := rdNum_inv h1
  obtain ⟨j1, j2, j3⟩ := rdNum_inv i1
  obtain ⟨-, c, k2, k3⟩ := rdByte_inv j1
  rw [h2, List.append_nil] at i2
  refine ⟨_, _, ?_, j3, i3⟩
  have ec : byteAt k 0 = c := by
    have : (byteAt k 0).toNat = c.toNat := by
      have := byteAt_toNat k 0
      have hk : k = (c.toNat : Int) := by rw [← h3]; exact k2
      have hc := c.toNat_lt
      rw [hk] at this
      simp [Int.fdiv_one] at this
      rw [hk]; omega
    exact UInt8.toNat_inj.1 this
  unfold hdB
  rw [ec, List.append_assoc, ← i2, ← j2]
  exact k3
theorem hdOK_hdB {k f t : Int} (hk : 0 ≤ k ∧ k ≤ 255) (hf : -9223372036854775808 ≤ f ∧ f ≤ 9223372036854775807) (ht : -9223372036854775808 ≤ t ∧ t ≤ 9223372036854775807) : hdOK k (hdB k f t) := by
  have e1 : rdByte false (hdB k f t) = (k, false, be f 8 ++ be t 8) := by
    unfold hdB
    rw [List.append_assoc, List.singleton_append, rdByte_one]
    have := byteAt_toNat k 0
    simp [Int.fdiv_one] at this
    rw [this, Int.emod_eq_of_lt hk.1 (by omega)]
  have e2 : rdNum false (be f 8 ++ be t 8) = (f, false, be t 8) := rdNum_be hf.1 hf.2 _
  have e3 : rdNum false (be t 8) = (t, false, []) := by have := rdNum_be ht.1 ht.2 []; rwa [List.append_nil] at this
  have e : hdRd (hdB k f t) = (k, false, []) := by
    unfold hdRd; rw [e1]; dsimp only; rw [e2]; dsimp only; rw [e3]
  unfold hdOK; rw [e]; exact ⟨rfl, rfl, rfl⟩
theorem hdB_inj {k f t k' f' t' : Int} (hk : 0 ≤ k ∧ k ≤ 255) (hf : -9223372036854775808 ≤ f ∧ f ≤ 9223372036854775807) (ht : -9223372036854775808 ≤ t ∧ t ≤ 9223372036854775807)
    (hk' : 0 ≤ k' ∧ k' ≤ 255) (hf' : -9223372036854775808 ≤ f' ∧ f' ≤ 9223372036854775807) (ht' : -9223372036854775808 ≤ t' ∧ t' ≤ 9223372036854775807) (h : hdB k f t = hdB k' f' t') : k = k' ∧ f = f' ∧ t = t' := by
  unfold hdB at h
  rw [List.append_assoc, List.append_assoc, List.singleton_append, List.singleton_append, List.cons.injEq] at h
  obtain ⟨h1, h2⟩ := h
  obtain ⟨h3, h4⟩ := List.append_inj h2 (by rw [be_length, be_length])
  refine ⟨?_, by rw [← numOf_be8 hf.1 hf.2, h3, numOf_be8 hf'.1 hf'.2], by rw [← numOf_be8 ht.1 ht.2, h4, numOf_be8 ht'.1 ht'.2]⟩
  have a := byteAt_toNat k 0
  have b := byteAt_toNat k' 0
  rw [h1, b] at a
  simp [Int.fdiv_one] at a
  omega

section
variable {H : Hp} {x : Sl} {xs : List UInt8}
/-- Rows of bytes as they lie. -/
def RlAt (H : Hp) (out : Sl) (zs : List Sl) (l : List (List UInt8)) : Prop :=
  Rows H out 1 (zs.map slV) ∧ zs.length = l.length ∧ (∀ (i : Nat) (z : Sl) (y : List UInt8), zs[i]? = some z → l[i]? = some y → Rows H z 1 (y.map bv)) ∧ ∀ z ∈ zs, ∀ q ∈ z.blk, q < H.size
theorem RlAt.keep {H H' : Hp} {out : Sl} {zs : List Sl} {l : List (List UInt8)} (h : RlAt H out zs l) (m : Mod (fun _ => False) H H') : RlAt H' out zs l :=
  ⟨keepF h.1 m, h.2.1, fun i z y hz hy => keepF (h.2.2.1 i z y hz hy) m, fun z hz q hq => Nat.lt_of_lt_of_le (h.2.2.2 z hz q hq) m.size⟩
def rowsBad (xs : List UInt8) (k : Int) (many : Int) : Prop :=
  (frames xs).1 = [] ∨ (0 < many ∧ (rowsErr xs ≠ 0 ∨ ((frames xs).1.length : Int) ≠ many)) ∨ ¬ hdOK k ((frames xs).1.headD [])
def RsPost (H : Hp) (xs : List UInt8) (k many : Int) (r : Value) (H' : Hp) : Prop :=
  (rowsBad xs k many ∧ r = .tuple #[.slice none 0 0, .int .i64 0, .int .i64 10] ∧ Mod (fun _ => False) H H') ∨
  (¬ rowsBad xs k many ∧ ∃ (out : Sl) (zs : List Sl), r = .tuple #[.slice out.a out.len out.cap, .int .i64 ((frames xs).2 : Int), .int .i64 0] ∧ RlAt H' out zs (frames xs).1 ∧ Mod (fun _ => False) H H')

theorem imgRows_spec {k many : Int} (hx : Rows H x 1 (xs.map bv)) (hl : xs.length ≤ 900000) : SCalls Try.prog image_rows.id [.slice x.a x.len x.cap, .int .i64 k, .int .i64 many] H (RsPost H xs k many) := by
  apply image_rows.calls
  unfold image_rows.vc
  refine (frRows_spec hx hl).mono ?_
  rintro r H1 ⟨out, zs, rfl, o1, n1, z1, b1, m1⟩
  refine ⟨out, _, _, rfl, ?_⟩
  have hol : zs.length = out.len := by have := (Own.rows o1).1; simpa using this
  have bad : rowsBad xs k many → image_rows.k1 J0 k H1 out ((frames xs).2 : Int) true (RsPost H xs k many) := fun hb => by
    apply image_rows.k1.step
    unfold image_rows.k1.body
    exact Br.yes rfl (Or.inl ⟨hb, rfl, m1⟩)
  have good : (frames xs).1 ≠ [] → ¬ (0 < many ∧ (rowsErr xs ≠ 0 ∨ ((frames xs).1.length : Int) ≠ many)) → image_rows.k1 J0 k H1 out ((frames xs).2 : Int) false (RsPost H xs k many) := fun h1 h2 => by
    apply image_rows.k1.step
    unfold image_rows.k1.body
    refine Br.no rfl ?_
    obtain ⟨y, hy⟩ : ∃ y, (frames xs).1[0]? = some y := ⟨_, List.getElem?_eq_getElem (List.length_pos_iff.2 h1)⟩
    have hpos := List.length_pos_iff.2 h1
    obtain ⟨z, hz⟩ : ∃ z, zs[0]? = some z := ⟨_, List.getElem?_eq_getElem (by omega)⟩
    have hyd : (frames xs).1.headD [] = y := by
      cases hf : (frames xs).1 with
      | nil => exact absurd hf h1
      | cons a b => rw [hf] at hy; simpa using hy
    obtain ⟨a, ha, hc⟩ := Rows.get (Own.rows o1) (j := 0) (v := slV z) (by rw [List.getElem?_map, hz]; rfl)
    rw [add_zero_of] at hc
    refine ⟨by omega, vPtr.mk a ha ⟨z, hc, ?_⟩⟩
    refine (Of_spec (D := z.blk) (z1 0 z y hz hy) (fun _ h => h) (b1 z (List.mem_of_getElem? hz))).mono ?_
    rintro r H2 ⟨rfl, m2, d2⟩
    have f2 : Fresh H1 H2 := Mod.mono m2 fun _ _ h => h.elim
    refine ⟨_, rfl, (Reader_Byte_spec d2).mono ?_⟩
    rintro r H3 ⟨rfl, m3, d3⟩
    have f3 := f2.step m3 fun g hg => by omega
    refine ⟨_, rfl, (Reader_Num_spec d3).mono ?_⟩
    rintro r H4 ⟨rfl, m4, d4⟩
    have f4 := f3.step m4 fun g hg => by omega
    refine ⟨_, rfl, (Reader_Num_spec d4).mono ?_⟩
    rintro r H5 ⟨rfl, m5, d5⟩
    have f5 := f4.step m5 fun g hg => by omega
    refine ⟨_, rfl, (Reader_Done_spec d5).mono ?_⟩
    rintro r H6 ⟨rfl, rfl⟩
    refine ⟨_, rfl, ?_⟩
    have m6 := m1.trans f5.mod
    have rl : RlAt H6 out zs (frames xs).1 := RlAt.keep ⟨Own.rows o1, n1, z1, b1⟩ f5.mod
    have hw := rdByte_range false y
    have hdef : hdOK k y ↔ (rdNum (rdNum (rdByte false y).2.1 (rdByte false y).2.2).2.1 (rdNum (rdByte false y).2.1 (rdByte false y).2.2).2.2).2.1 = false ∧ (rdNum (rdNum (rdByte false y).2.1 (rdByte false y).2.2).2.1 (rdNum (rdByte false y).2.1 (rdByte false y).2.2).2.2).2.2 = [] ∧ (rdByte false y).1 = k := Iff.rfl
    have hb : rowsBad xs k many ↔ ¬ hdOK k y := by
      unfold rowsBad; rw [hyd]
      exact ⟨fun h => (h.resolve_left h1).resolve_left h2, fun h => Or.inr (Or.inr h)⟩
    rw [w64_id (x := (rdByte false y).1) (by omega) (by omega)]
    generalize hc0 : (rdByte false y).1 = c at *
    generalize (rdNum (rdNum (rdByte false y).2.1 (rdByte false y).2.2).2.1 (rdNum (rdByte false y).2.1 (rdByte false y).2.2).2.2).2 = p at *
    obtain ⟨p1, p2⟩ := p
    dsimp only at hdef ⊢
    have fin : ∀ b : Bool, (b = true ↔ ¬ hdOK k y) → image_rows.k2 J0 out ((frames xs).2 : Int) H6 b (RsPost H xs k many) := fun b hbb => by
      apply image_rows.k2.step
      unfold image_rows.k2.body
      cases b with
      | true => exact Br.yes rfl (Or.inl ⟨hb.2 (hbb.1 rfl), rfl, m6⟩)
      | false => exact Br.no rfl (Or.inr ⟨fun h => by have := hbb.2 (hb.1 h); exact Bool.noConfusion this, out, zs, rfl, rl, m6⟩)
    refine Br.mk (fun h => fin true ?_) fun h => fin _ ?_
    · refine ⟨fun _ hh => ?_, fun _ => rfl⟩
      rw [hdef] at hh
      rw [hh.1, hh.2.1] at h
      exact Bool.noConfusion h
    · have hp : p1 = false ∧ p2 = [] := by
        cases p1 <;> cases p2 <;> simp_all
      rw [hdef, bne_iff_ne]
      simp [hp.1, hp.2]
  refine Br.mk (fun h => bad (Or.inl ?_)) fun h => ?_
  · exact List.length_eq_zero_iff.1 (by simp at h; omega)
  have hne : (frames xs).1 ≠ [] := fun hh => by rw [hh] at n1; simp at n1; subst n1; simp at hol; simp [← hol] at h
  refine Br.mk (fun h2 => ?_) fun h2 => good hne fun hh => by simp at h2; omega
  have h2' : 0 < many := of_decide_eq_true h2
  refine Br.mk (fun h3 => bad (Or.inr (Or.inl ⟨h2', Or.inl (by simpa using h3)⟩))) fun h3 => ?_
  have h3' : rowsErr xs = 0 := by simpa using h3
  by_cases h4 : ((frames xs).1.length : Int) ≠ many
  · have : (((out.len : Nat) : Int) != many) = true := by rw [bne_iff_ne, ← hol, n1]; exact h4
    rw [this]
    exact bad (Or.inr (Or.inl ⟨h2', Or.inr h4⟩))
  · have : (((out.len : Nat) : Int) != many) = false := by rw [← hol, n1]; simpa using h4
    rw [this]
    exact good hne fun hh => hh.2.elim (fun h => h h3') h4
end
end Go.Proofs
