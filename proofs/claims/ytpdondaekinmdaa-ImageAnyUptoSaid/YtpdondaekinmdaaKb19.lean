/- LAYER 09: ImageAny: a round. -/
import Derived.Test.YtpdondaekinmdaaKb18
import Derived.Test.YtpdondaekinmdaaKde3
set_option linter.all false
set_option linter.constructorNameAsVariable false
set_option maxRecDepth 100000
namespace Go.Proofs
open Go Go.KC

theorem DfOK.flat {bs : List UInt8} {d : Dl} (h : DfOK bs d) : flatF [hdB 1 d.from d.to, dlB d] = bs ∧ Small [hdB 1 d.from d.to, dlB d] := by
  have h1 := flat_frames bs
  have h2 := frames_small bs
  rw [h.2] at h1 h2
  exact ⟨by rw [h1]; exact List.take_length, h2⟩
section
variable {H : Hp} {bs : List UInt8} {x : Sl}
/-- What is read, in one form. -/
theorem full_told {H1 : Hp} (hx : Rows H1 x 1 (bs.map bv)) (hl : bs.length ≤ 8000000) {K : Int → Int → Sl → Sl → Int → Hp → Prop}
    (hK : ∀ i t ps xs p s g H', RR H' p s ps xs → Mod (fun _ => False) H1 H' → (stB i t ps xs).length ≤ 16384 → (g = 0 ∧ FlOK bs i t ps xs ∨ g = 10) → K i t p s g H') :
    SCalls Try.prog image_ReadFull.id [.slice x.a x.len x.cap] H1 fun r H' => ∃ i t : Int, ∃ p s : Sl, ∃ g : Int, r = .tuple #[.agg #[.int .i64 i, .int .i64 t, .slice p.a p.len p.cap, .slice s.a s.len s.cap], .int .i64 g] ∧ K i t p s g H' := by
  refine (ReadFull_spec hx hl).mono ?_
  rintro r H2 ⟨m, ⟨i, t, ps, xs, p, s, hp, rfl, rr⟩ | ⟨-, rfl⟩⟩
  · exact ⟨i, t, p, s, 0, rfl, hK i t ps xs p s 0 H2 rr m (hp.flat.2 _ (by simp)) (Or.inl ⟨rfl, hp⟩)⟩
  · exact ⟨0, 0, ⟨none, 0, 0⟩, ⟨none, 0, 0⟩, 10, rfl, hK 0 0 [] [] _ _ 10 H2 (RR.nil _) m (by decide) (Or.inr rfl)⟩
theorem delta_told {H1 : Hp} (hx : Rows H1 x 1 (bs.map bv)) (hl : bs.length ≤ 8000000) {K : Int → Int → Int → Sl → Sl → Int → Hp → Prop}
    (hK : ∀ d p s g H', RR H' p s d.ps d.xs → Mod (fun _ => False) H1 H' → (dlB d).length ≤ 16384 → (g = 0 ∧ DfOK bs d ∨ g = 10) → K d.from d.to d.term p s g H') :
    SCalls Try.prog image_ReadDelta.id [.slice x.a x.len x.cap] H1 fun r H' => ∃ f t u : Int, ∃ p s : Sl, ∃ g : Int, r = .tuple #[.agg #[.int .i64 f, .int .i64 t, .int .i64 u, .slice p.a p.len p.cap, .slice s.a s.len s.cap], .int .i64 g] ∧ K f t u p s g H' := by
  refine (ReadDelta_spec hx hl).mono ?_
  rintro r H2 ⟨m, ⟨d, p, s, hp, rfl, rr⟩ | ⟨-, rfl⟩⟩
  · exact ⟨_, _, _, p, s, 0, rfl, hK d p s 0 H2 rr m (hp.flat.2 _ (by simp)) (Or.inl ⟨rfl, hp⟩)⟩
  · exact ⟨0, 0, 0, ⟨none, 0, 0⟩, ⟨none, 0, 0⟩, 10, rfl, hK .zero _ _ 10 H2 (RR.nil _) m (by decide) (Or.inr rfl)⟩
theorem part_told {H1 : Hp} {fv : Int} (hf : -9223372036854775808 ≤ fv ∧ fv ≤ 9223372036854775807) (hx : Rows H1 x 1 (bs.map bv)) (hl : bs.length ≤ 8000000) {K : Sl → Int → Int → Hp → Prop}
    (hK : ∀ es n out g H', Rows H' out 8 (es.map En.cells).flatten → es.length = out.len → Mod (fun _ => False) H1 H' → (g = 0 ∧ PtOK bs fv es n ∨ g = 10) → K out (n : Int) g H') :
    SCalls Try.prog image_ReadPart.id [.slice x.a x.len x.cap, .int .i64 fv] H1 fun r H' => ∃ out : Sl, ∃ n g : Int, r = .tuple #[.slice out.a out.len out.cap, .int .i64 n, .int .i64 g] ∧ K out n g H' := by
  refine (ReadPart_spec hf hx hl).mono ?_
  rintro r H2 ⟨m, ⟨es, n, out, hp, rfl, o, hl, -⟩ | ⟨-, rfl⟩⟩
  · exact ⟨out, _, 0, rfl, hK es n out 0 H2 (Own.rows o) hl m (Or.inl ⟨rfl, hp⟩)⟩
  · exact ⟨⟨none, 0, 0⟩, ((0 : Nat) : Int), 10, rfl, hK [] 0 ⟨none, 0, 0⟩ 10 H2 ⟨rfl, Nat.le_refl _, fun a ha => (by cases ha), fun _ => rfl⟩ rfl m (Or.inr rfl)⟩

variable {fv : UInt8} {b : Nat} {k : Int} {Q : Value → Hp → Prop}
/-- The third part of a round. -/
theorem any_k9 {i1 i2 i3 i4 i5 : Int} {p1 p2 p3 p4 : Sl} {H0 H19 : Hp} {out : Sl} {es : List En} {n : Nat} {g : Int} (hx : Rows H0 x 1 (bs.map bv)) (hl : bs.length ≤ 8000000) (m : Mod (fun _ => False) H0 H19)
    (ho : Rows H19 out 8 (es.map En.cells).flatten) (hol : es.length = out.len) (hg : g = 0 ∧ PtOK bs (fv.toNat : Int) es n ∨ g = 10) (hn : ∀ H', Mod (fun _ => False) H0 H' → tephralaw09_ImageAny.l1 J0 (fv.toNat : Int) b H' (w64 (k + 1)) Q) :
    tephralaw09_ImageAny.k9 J0 (fv.toNat : Int) b k x i1 i2 p1 p2 i3 i4 i5 p3 p4 out (n : Int) g false H19 Q := by
  have hf8 := fv.toNat_lt
  have hxl : bs.length = x.len := by have := hx.1; simpa using this
  apply tephralaw09_ImageAny.k9.step
  unfold tephralaw09_ImageAny.k9.body
  have nx := hn H19 m
  refine Br.no rfl ?_
  rcases hg with ⟨rfl, hp⟩ | rfl
  rotate_left
  · exact Br.no rfl ⟨⟨⟨nx, nx⟩, nx⟩, nx⟩
  obtain ⟨f1, f2, f3⟩ := hp.flat
  have e1 : w64 (w64 (fv.toNat : Int) + 1) = w64 ((fv.toNat : Int) + 1) := by rw [w64_id (x := (fv.toNat : Int)) (by omega) (by omega)]
  rw [e1]
  refine Br.yes rfl (bool_step (Row_spec ho hol (by omega)) (Mod.refl _ _) fun H20 m20 => ?_)
  have hrow : RowsOf es (w64 ((fv.toNat : Int) + 1)) := hp.2
  rw [decide_eq_true hrow]
  have m020 := m.trans m20
  refine Br.no rfl (Br.no (decide_eq_false (by omega)) ⟨⟨by omega, by have := hx.2.1; omega⟩, ?_⟩)
  rw [w64_id (x := (fv.toNat : Int)) (by omega) (by omega)]
  have hfine : Fine es := RowsOf.fine hrow
  have cut : ∀ H', Mod (fun _ => False) H0 H' → Rows H' ⟨cutA x.a x.cap 0 1, n, x.cap⟩ 1 ((bs.take n).map bv) := fun H' m' => by
    have := Rows.take (hx.keep m' fun _ _ e => e) (n := n) (by omega)
    rw [Nat.mul_one, ← List.map_take] at this
    exact this
  have fin : ∀ H', Mod (fun _ => False) H0 H' → Br (!((ByteArray.mk (ptB (fv.toNat : Int) es).toArray).toList == (ByteArray.mk (bs.take n).toArray).toList)) (Q (.bool false) H') (tephralaw09_ImageAny.l1 J0 (fv.toNat : Int) b H' (w64 (k + 1)) Q) := fun H' m' => by
    rw [f1]
    exact Br.no (by simp) (hn H' m')
  refine ⟨?_, b2s_imp (b2s_rows (cut H20 m020) (Int.toNat_natCast _)) ?_⟩
  · refine (part_spec (fv := (fv.toNat : Int)) (ho.keep m20 fun _ _ e => e) hol hfine (by omega)).mono ?_
    rintro r H21 ⟨w, rfl, o21, m21, -⟩
    have m021 := m020.trans m21
    refine ⟨w, rfl, b2s_imp (b2s_rows (Own.rows o21) rfl) ?_, b2s_imp (b2s_rows (cut H21 m021) (Int.toNat_natCast _)) ?_⟩
    · rintro s rfl
      refine b2s_imp (b2s_rows (cut H21 m021) (Int.toNat_natCast _)) ?_
      rintro s rfl
      exact fin H21 m021
    · rintro s rfl
      refine b2s_imp (b2s_rows (Own.rows o21) rfl) ?_
      rintro s rfl
      exact fin H21 m021
  · rintro s rfl
    refine (part_spec (fv := (fv.toNat : Int)) (ho.keep m20 fun _ _ e => e) hol hfine (by omega)).mono ?_
    rintro r H21 ⟨w, rfl, o21, m21, -⟩
    refine ⟨w, rfl, b2s_imp (b2s_rows (Own.rows o21) rfl) ?_⟩
    rintro s rfl
    exact fin H21 (m020.trans m21)

theorem any_k8 {i1 i2 : Int} {p1 p2 p3 p4 y : Sl} {d : Dl} {g7 : Int} {H0 H17 : Hp} {out : Sl} {es : List En} {n : Nat} {g : Int} (hx : Rows H0 x 1 (bs.map bv)) (hl : bs.length ≤ 8000000) (m : Mod (fun _ => False) H0 H17)
    (rd : RR H17 p3 p4 d.ps d.xs) (hd : g7 = 0 ∧ DfOK bs d ∨ g7 = 10) (hy : Small [hdB 1 d.from d.to, dlB d] → Rows H17 y 1 ((flatF [hdB 1 d.from d.to, dlB d]).map bv)) (hdl : (dlB d).length ≤ 16384)
    (ho : Rows H17 out 8 (es.map En.cells).flatten) (hol : es.length = out.len) (hg : g = 0 ∧ PtOK bs (fv.toNat : Int) es n ∨ g = 10) (hn : ∀ H', Mod (fun _ => False) H0 H' → tephralaw09_ImageAny.l1 J0 (fv.toNat : Int) b H' (w64 (k + 1)) Q) :
    tephralaw09_ImageAny.k8 J0 (fv.toNat : Int) b k x i1 i2 p1 p2 d.from d.to d.term p3 p4 g7 out (n : Int) g y false H17 Q := by
  apply tephralaw09_ImageAny.k8.step
  unfold tephralaw09_ImageAny.k8.body
  refine Br.no rfl ?_
  rcases hd with ⟨rfl, hd⟩ | rfl
  rotate_left
  · exact Br.no rfl (any_k9 hx hl m ho hol hg hn)
  have lens := rd.lens
  have h1 := prsB_ge d.ps
  have h2 := sesB_ge d.xs
  have h3 := dlB_len d
  refine Br.yes rfl (bool_step (DRight_spec (d := d) rd (by omega) (by omega)) (Mod.refl _ _) fun H18 m18 => ?_)
  rw [decide_eq_true hd.1]
  have m018 := m.trans m18
  refine Br.no rfl (b2s_imp (b2s_rows ((hy hd.flat.2).keep m18 fun _ _ e => e) rfl) ?_)
  rintro s rfl
  refine b2s_imp (b2s_rows (hx.keep m018 fun _ _ e => e) rfl) ?_
  rintro s rfl
  rw [hd.flat.1]
  have e : (!((ByteArray.mk bs.toArray).toList == (ByteArray.mk bs.toArray).toList)) = false := by simp
  rw [e]
  exact any_k9 hx hl m018 (ho.keep m18 fun _ _ e => e) hol hg hn

theorem any_k5 {i t : Int} {ps : List Pr} {xs : List Se} {g6 : Int} {p1 p2 p3 p4 : Sl} {d : Dl} {g7 : Int} {H0 H13 : Hp} {out : Sl} {es : List En} {n : Nat} {g : Int} (hx : Rows H0 x 1 (bs.map bv)) (hl : bs.length ≤ 8000000) (m : Mod (fun _ => False) H0 H13)
    (rs : RR H13 p1 p2 ps xs) (hs : g6 = 0 ∧ FlOK bs i t ps xs ∨ g6 = 10) (hsl : (stB i t ps xs).length ≤ 16384)
    (rd : RR H13 p3 p4 d.ps d.xs) (hd : g7 = 0 ∧ DfOK bs d ∨ g7 = 10) (hdl : (dlB d).length ≤ 16384)
    (ho : Rows H13 out 8 (es.map En.cells).flatten) (hol : es.length = out.len) (hg : g = 0 ∧ PtOK bs (fv.toNat : Int) es n ∨ g = 10) (hn : ∀ H', Mod (fun _ => False) H0 H' → tephralaw09_ImageAny.l1 J0 (fv.toNat : Int) b H' (w64 (k + 1)) Q) :
    tephralaw09_ImageAny.k5 J0 (fv.toNat : Int) b k x i t p1 p2 g6 d.from d.to d.term p3 p4 g7 H13 out (n : Int) g false Q := by
  apply tephralaw09_ImageAny.k5.step
  unfold tephralaw09_ImageAny.k5.body
  refine Br.no rfl ((Full_spec (i := i) (t := t) rs (by omega)).mono ?_)
  intro r H14 h14
  obtain ⟨y, e, hr, m14, hy⟩ : ∃ (y : Sl) (e : Int), r = .tuple #[.slice y.a y.len y.cap, .int .i64 e] ∧ Mod (fun _ => False) H13 H14 ∧ (Small [hdB 0 i i, stB i t ps xs] → Rows H14 y 1 ((flatF [hdB 0 i i, stB i t ps xs]).map bv)) := by
    rcases h14 with ⟨hS, y, rfl, o, m, -⟩ | ⟨hS, rfl, m⟩
    · exact ⟨y, 0, rfl, m, fun _ => Own.rows o⟩
    · exact ⟨⟨none, 0, 0⟩, 4, rfl, m, fun h => absurd h hS⟩
  subst hr
  refine ⟨y, e, rfl, (Delta_spec (d := d) (rd.mod m14) (by omega)).mono ?_⟩
  intro r H15 h15
  obtain ⟨z, f, hr, m15, hz⟩ : ∃ (y : Sl) (e : Int), r = .tuple #[.slice y.a y.len y.cap, .int .i64 e] ∧ Mod (fun _ => False) H14 H15 ∧ (Small [hdB 1 d.from d.to, dlB d] → Rows H15 y 1 ((flatF [hdB 1 d.from d.to, dlB d]).map bv)) := by
    rcases h15 with ⟨hS, y, rfl, o, m, -⟩ | ⟨hS, rfl, m⟩
    · exact ⟨y, 0, rfl, m, fun _ => Own.rows o⟩
    · exact ⟨⟨none, 0, 0⟩, 4, rfl, m, fun h => absurd h hS⟩
  subst hr
  refine ⟨z, f, rfl, ?_⟩
  have m1315 := m14.trans m15
  have m015 := m.trans m1315
  rcases hs with ⟨rfl, hs⟩ | rfl
  rotate_left
  · refine Br.no rfl ?_
    apply tephralaw09_ImageAny.k7.step
    unfold tephralaw09_ImageAny.k7.body
    exact any_k8 hx hl m015 (rd.mod m1315) hd hz hdl (ho.keep m1315 fun _ _ e => e) hol hg hn
  have lens := rs.lens
  have h1 := prsB_ge ps
  have h2 := sesB_ge xs
  have h3 : (stB i t ps xs).length = 16 + (rowsB ps xs).length := by unfold stB; simp only [List.length_append, be_length]; omega
  have h4 := rowsB_len ps xs
  refine Br.yes rfl (bool_step (Right_spec (i := i) (t := t) (rs.mod m1315) (by omega) (by omega)) (Mod.refl _ _) fun H16 m16 => ?_)
  rw [decide_eq_true hs.1]
  have m016 := m015.trans m16
  refine Br.no rfl (b2s_imp (b2s_rows (((hy hs.flat.2).keep m15 fun _ _ e => e).keep m16 fun _ _ e => e) rfl) ?_)
  rintro s rfl
  refine b2s_imp (b2s_rows (hx.keep m016 fun _ _ e => e) rfl) ?_
  rintro s rfl
  rw [hs.flat.1]
  have e : (!((ByteArray.mk bs.toArray).toList == (ByteArray.mk bs.toArray).toList)) = false := by simp
  rw [e]
  apply tephralaw09_ImageAny.k6.step
  unfold tephralaw09_ImageAny.k6.body
  exact any_k8 hx hl m016 (rd.mod (m1315.trans m16)) hd (fun h => (hz h).keep m16 fun _ _ e => e) hdl (ho.keep (m1315.trans m16) fun _ _ e => e) hol hg hn
end
end Go.Proofs
