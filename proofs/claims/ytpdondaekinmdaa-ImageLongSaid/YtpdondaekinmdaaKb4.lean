/- LAYER 09: frames: Rows. -/
import Derived.Test.YtpdondaekinmdaaKb3
set_option linter.all false
set_option linter.constructorNameAsVariable false
namespace Go.Proofs
open Go Go.KC

/-- The frames that bytes begin with, and where they end. -/
def frames (xs : List UInt8) : List (List UInt8) × Nat := frGo (xs.length + 1) xs
/-- What is known on the way. -/
def FrAt (xs : List UInt8) (a : Nat) (l : List (List UInt8)) : Prop :=
  a ≤ xs.length ∧ ∃ f, xs.length - a < f ∧ frames xs = (l ++ (frGo f (xs.drop a)).1, a + (frGo f (xs.drop a)).2)
theorem FrAt.start (xs : List UInt8) : FrAt xs 0 [] := ⟨by omega, xs.length + 1, by omega, by simp [frames]⟩
theorem FrAt.next {xs : List UInt8} {a : Nat} {l : List (List UInt8)} (h : FrAt xs a l) (ho : (oneM (xs.drop a)).2.2 = 0) : FrAt xs (a + (oneM (xs.drop a)).2.1.toNat) (l ++ [(oneM (xs.drop a)).1]) := by
  obtain ⟨h1, f, h2, h3⟩ := h
  have hok := oneM_ok ho
  rw [List.length_drop] at hok
  cases f with
  | zero => omega
  | succ f =>
    refine ⟨by omega, f, by omega, ?_⟩
    rw [h3]
    have e : frGo (f + 1) (xs.drop a) = ((oneM (xs.drop a)).1 :: (frGo f ((xs.drop a).drop (oneM (xs.drop a)).2.1.toNat)).1, (oneM (xs.drop a)).2.1.toNat + (frGo f ((xs.drop a).drop (oneM (xs.drop a)).2.1.toNat)).2) := by
      show (if _ then _ else _) = _; rw [if_pos ho]
    rw [e, List.drop_drop]
    simp [Nat.add_assoc]
theorem FrAt.stop {xs : List UInt8} {a : Nat} {l : List (List UInt8)} (h : FrAt xs a l) (ho : (oneM (xs.drop a)).2.2 ≠ 0) : frames xs = (l, a) := by
  obtain ⟨h1, f, h2, h3⟩ := h
  cases f with
  | zero => omega
  | succ f =>
    have e : frGo (f + 1) (xs.drop a) = ([], 0) := by show (if _ then _ else _) = _; rw [if_neg ho]
    rw [h3, e]; simp

def slV (z : Sl) : Value := .slice z.a z.len z.cap
theorem sl_inf : (Try.prog.info? T_sl_uint8).map (fun i => (i.zero, i.size, i.bytes)) = some (some (.slice none 0 0), 1, 24) := by kernel_rfl
theorem elSl : El Try.prog T_sl_sl_uint8 T_sl_uint8 1 := by
  refine ⟨by kernel_rfl, ?_, by omega⟩
  have h := sl_inf
  cases hi : Try.prog.info? T_sl_uint8 with
  | none => rw [hi] at h; simp at h
  | some ti =>
    rw [hi] at h; simp at h
    exact ⟨ti, _, rfl, h.1, h.2.1, by omega, by omega, rfl, rfl⟩

/-- A row of rows of bytes, laid since H. -/
structure Sls (H H' : Hp) (out : Sl) (zs : List Sl) (l : List (List UInt8)) (ne : List Nat) : Prop where
  own : Own H' out T_sl_uint8 1 (zs.map slV)
  len : zs.length = l.length
  is : ∀ (i : Nat) (z : Sl) (y : List UInt8), zs[i]? = some z → l[i]? = some y → Own H' z T_uint8 1 (y.map bv)
  zb : ∀ z ∈ zs, ∀ q ∈ z.blk, H.size ≤ q ∧ q < H'.size ∧ q ∉ ne ∧ q ∉ out.blk
  ob : ∀ q ∈ out.blk, H.size ≤ q ∧ q ∉ ne
theorem Sls.keep {H H' H'' : Hp} {out : Sl} {zs : List Sl} {l : List (List UInt8)} {ne : List Nat} (s : Sls H H' out zs l ne) {μ : Nat → Prop} (m : Mod μ H' H'') (hμ : ∀ q, μ q → q ∈ ne ∨ H'.size ≤ q) : Sls H H'' out zs l ne := by
  have lo := Own.lt s.own
  refine ⟨s.own.keep m fun q hq h => ?_, s.len, fun i z y hz hy => (s.is i z y hz hy).keep m fun q hq h => ?_, fun z hz q hq => ?_, s.ob⟩
  · have := lo q hq
    rcases hμ q h with h | h
    · exact (s.ob q hq).2 h
    · omega
  · have := s.zb z (List.mem_of_getElem? hz) q hq
    rcases hμ q h with h | h
    · exact this.2.2.1 h
    · omega
  · have := s.zb z hz q hq
    exact ⟨this.1, Nat.lt_of_lt_of_le this.2.1 m.size, this.2.2⟩

section
variable {H : Hp} {x : Sl} {xs : List UInt8}
def rowsErr (xs : List UInt8) : Int := if (frames xs).2 = xs.length then 0 else (oneM (xs.drop (frames xs).2)).2.2
/-- What Rows answers. -/
def RwPost (H : Hp) (xs : List UInt8) (r : Value) (H' : Hp) : Prop :=
  ∃ (out : Sl) (zs : List Sl), r = .tuple #[.slice out.a out.len out.cap, .int .i64 ((frames xs).2 : Int), .int .i64 (rowsErr xs)] ∧ Own H' out T_sl_uint8 1 (zs.map slV) ∧ zs.length = (frames xs).1.length ∧
    (∀ (i : Nat) (z : Sl) (y : List UInt8), zs[i]? = some z → (frames xs).1[i]? = some y → Rows H' z 1 (y.map bv)) ∧ (∀ z ∈ zs, ∀ q ∈ z.blk, q < H'.size) ∧ Mod (fun _ => False) H H'
theorem frRows_spec (hx : Rows H x 1 (xs.map bv)) (hl : xs.length ≤ 8000000) : SCalls Try.prog frame_Rows.id [.slice x.a x.len x.cap] H (RwPost H xs) := by
  apply frame_Rows.calls
  unfold frame_Rows.vc
  have hxl : xs.length = x.len := by have := hx.1; simpa using this
  rintro b1 rfl H1 h1 b2 rfl H2 h2
  obtain ⟨g1, m1, s1⟩ := push_facts h1
  obtain ⟨g2, m2, s2⟩ := push_facts h2
  refine ⟨wr_at g2, fun H3 h3 => ?_⟩
  have g3 : H3[H1.size]? = some (.cells #[.int .i64 0] T_int (0, 0)) := by rw [h3]; have := get_setCell (o := 0) (.int .i64 0) g2; simpa using this
  have m3 : Mod (· = H1.size) H2 H3 := by rw [h3]; exact Mod.setCell H2 _ _ rfl
  have z3 := m3.size
  apply frame_All.calls
  unfold frame_All.vc
  rintro b4 rfl H4 h4
  obtain ⟨g4, m4, s4⟩ := push_facts h4
  refine ⟨⟨.func 88, #[], #[.pointer (some (Addr.mk H3.size 0 none))]⟩, rfl, ?_⟩
  intro fn tm hT
  have goF : goFn Try.prog 88 = true := by kernel_rfl
  have sz : (Array.push (Array.push H4 hole) (frame_Rows.r1.rec fn tm H4.size .ready none)).size = H4.size + 2 := by simp
  have mp : Mod (fun _ => False) H4 (Array.push (Array.push H4 hole) (frame_Rows.r1.rec fn tm H4.size .ready none)) := Mod.push2 _ _ _
  have gr : (Array.push (Array.push H4 hole) (frame_Rows.r1.rec fn tm H4.size .ready none))[H4.size + 1]? = some (frame_Rows.r1.rec fn tm H4.size .ready none) := push_two
  unfold vRg
  dsimp only
  rw [goF]
  dsimp only
  generalize Array.push (Array.push H4 hole) (frame_Rows.r1.rec fn tm H4.size .ready none) = H5 at sz mp gr
  have m05 : Mod (fun _ => False) H H5 := ((m1.trans m2).trans' m3 fun q hq e => by omega).trans (m4.trans mp)
  -- the blocks that are the walk's own
  let ne : List Nat := [H.size, H1.size, H3.size, H4.size + 1]
  refine All1_spec (y := ⟨.yield (H4.size + 1), #[], #[]⟩) (b := Addr.mk H3.size 0 none) (x := x) (xs := xs) (by omega)
    (fun a H' => ∃ out zs l, H'[H.size]? = some (.cells #[.slice out.a out.len out.cap] T_sl_sl_uint8 (0, 0)) ∧ H'[H1.size]? = some (.cells #[.int .i64 (a : Int)] T_int (0, 0)) ∧ H'[H3.size]? = some (.cells #[.slice x.a x.len x.cap] T_sl_uint8 (0, 0)) ∧
      H'[H4.size + 1]? = some (frame_Rows.r1.rec fn tm H4.size .ready none) ∧ Sls H H' out zs l ne ∧ FrAt xs a l ∧ Mod (fun _ => False) H H' ∧ H5.size ≤ H'.size ∧ 9 * l.length ≤ a)
    ?_ ?_ ?_ ?_
  · -- at the start
    refine ⟨⟨none, 0, 0⟩, [], [], (mp.get (m4.get (m3.get (m2.get g1 fun e => e) (by omega)) fun e => e) fun e => e), mp.get (m4.get g3 fun e => e) fun e => e, mp.get g4 fun e => e, gr, ⟨Own.nil _ _ _, rfl, fun i z y hz => by simp at hz, fun z hz => by simp at hz, fun q hq => by simp [Sl.blk] at hq⟩, FrAt.start xs, m05, Nat.le_refl _, by simp⟩
  · rintro a H' ⟨out, zs, l, j1, j2, j3, j4, j5, j6, j7, j8, j9⟩
    exact ⟨j6.1, hx.keep j7 fun _ _ e => e, by rw [cell_of j3]; rfl⟩
  · -- a round
    rintro a H' H'' z ⟨out, zs, l, j1, j2, j3, j4, j5, j6, j7, j8, j9⟩ m hone oz hz
    have hok := oneM_ok hone
    rw [List.length_drop] at hok
    have k1 := m.get j1 fun e => e
    have k2 := m.get j2 fun e => e
    have k3 := m.get j3 fun e => e
    have k4 := m.get j4 fun e => e
    have zz := m.size
    have ll := j5.len
    have ol := (Own.rows j5.own).1
    show YCalls Try.prog (H4.size + 1) _ H'' _
    refine frame_Rows.r1.calls k4 hT ?_
    refine ⟨k4, fun H6 h6 => ?_⟩
    obtain ⟨q4, m6⟩ := rec_facts k4 h6
    have q1 := m6.get k1 (by omega)
    have q2 := m6.get k2 (by omega)
    have q3 := m6.get k3 (by omega)
    refine ⟨out, by rw [cell_of q1]; rfl, ?_⟩
    rintro b3 rfl H7 h7
    obtain ⟨g7, m7, s7⟩ := push_facts h7
    have z6 := m6.size
    have lout := Own.lt j5.own
    have hxa : xs.length ≤ 8000000 := hl
    have hol : out.len ≤ 1000000 := by
      have e1 : (zs.map slV).length = out.len * 1 := ol
      rw [List.length_map, ll] at e1
      have := j6.1
      omega
    have own7 : Own H7 out T_sl_uint8 1 (zs.map slV) := ((j5.own.keep m fun _ _ e => e).keep m6 fun q hq h => (j5.ob q hq).2 (by simp [ne]; right; right; right; exact h)).keep m7 fun _ _ e => e
    refine app_one elSl own7 (show Blk H7 H6.size T_sl_uint8 [slV z] from g7) rfl rfl hol fun ap H8 o8 hal m8 b8 => ?_
    have lz : ∀ q ∈ z.blk, H'.size ≤ q ∧ q < H''.size := fun q hq => ⟨hz q hq, Own.lt oz q hq⟩
    have nout : ∀ q ∈ out.blk, H.size ≤ q ∧ q ∉ ne ∧ q < H'.size := fun q hq => ⟨(j5.ob q hq).1, (j5.ob q hq).2, lout q hq⟩
    have hne : ∀ q ∈ ne, q < H5.size := fun q hq => by
      simp only [ne, List.mem_cons, List.not_mem_nil, or_false] at hq
      omega
    have w1 : H8[H.size]? = some (.cells #[.slice out.a out.len out.cap] T_sl_sl_uint8 (0, 0)) := m8.get (m7.get q1 fun e => e) fun h => (nout _ h).2.1 (by simp [ne])
    refine ⟨wr_at w1, fun H9 h9 => ?_⟩
    have m9 : Mod (· = H.size) H8 H9 := by rw [h9]; exact Mod.setCell H8 _ _ rfl
    have v1 : H9[H.size]? = some (.cells #[.slice ap.a ap.len ap.cap] T_sl_sl_uint8 (0, 0)) := by rw [h9]; have := get_setCell (o := 0) (.slice ap.a ap.len ap.cap) w1; simpa using this
    have w2 : H9[H1.size]? = some (.cells #[.int .i64 (a : Int)] T_int (0, 0)) := m9.get (m8.get (m7.get q2 fun e => e) fun h => (nout _ h).2.1 (by simp [ne])) (by omega)
    refine ⟨wr_at w2, fun H10 h10 => ?_⟩
    have m10 : Mod (· = H1.size) H9 H10 := by rw [h10]; exact Mod.setCell H9 _ _ rfl
    have v2 : H10[H1.size]? = some (.cells #[.int .i64 ((a + (oneM (xs.drop a)).2.1.toNat : Nat) : Int)] T_int (0, 0)) := by
      rw [h10]; have := get_setCell (o := 0) (.int .i64 ((a + (oneM (xs.drop a)).2.1.toNat : Nat) : Int)) w2; simpa using this
    have v4 : H10[H4.size + 1]? = some (frame_Rows.r1.rec fn tm H4.size .busy none) := m10.get (m9.get (m8.get (m7.get q4 fun e => e) fun h => (nout _ h).2.1 (by simp [ne])) (by omega)) (by omega)
    refine ⟨⟨.busy, none, v4⟩, rfl, ?_⟩
    obtain ⟨u4, m11⟩ := rec_facts v4 (rfl : H10.setIfInBounds (H4.size + 1) (frame_Rows.r1.rec fn tm H4.size .ready none) = _)
    have v3 : H10[H3.size]? = some (.cells #[.slice x.a x.len x.cap] T_sl_uint8 (0, 0)) := m10.get (m9.get (m8.get (m7.get q3 fun e => e) fun h => (nout _ h).2.1 (by simp [ne])) (by omega)) (by omega)
    have z8 := m8.size
    have z9 := m9.size
    have z10 := m10.size
    have z11 := m11.size
    -- what has changed since the round began
    have mall : Mod (fun q => q ∈ ne ∨ q ∈ out.blk) H'' (H10.setIfInBounds (H4.size + 1) (frame_Rows.r1.rec fn tm H4.size .ready none)) :=
      (m6.mono fun q _ h => Or.inl (by simp [ne]; right; right; right; exact h)).trans ((m7.mono fun _ _ h => h.elim).trans ((m8.mono fun q _ h => Or.inr h).trans ((m9.mono fun q _ h => Or.inl (by simp [ne]; left; exact h)).trans ((m10.mono fun q _ h => Or.inl (by simp [ne]; right; left; exact h)).trans (m11.mono fun q _ h => Or.inl (by simp [ne]; right; right; right; exact h))))))
    refine ⟨ap, zs ++ [z], l ++ [(oneM (xs.drop a)).1], m11.get (m10.get v1 (by omega)) (by omega), m11.get v2 (by omega), m11.get v3 (by omega), u4, ⟨?_, by simp [ll], fun i z' y' hz' hy' => ?_, fun z' hz' q hq => ?_, fun q hq => ?_⟩, j6.next hone, ?_, by omega, by simp; omega⟩
    · rw [List.map_append]
      have lap := Own.lt o8
      have nap : ∀ q ∈ ap.blk, q ∉ ne := fun q hq h => by
        rcases b8 q hq with h' | h'
        · exact (nout q h').2.1 h
        · have := hne q h; omega
      refine ((o8.keep m9 fun q hq h => nap q hq (by simp [ne]; left; exact h)).keep m10 fun q hq h => nap q hq (by simp [ne]; right; left; exact h)).keep m11 fun q hq h => nap q hq (by simp [ne]; right; right; right; exact h)
    · by_cases hi : i < zs.length
      · rw [List.getElem?_append_left hi] at hz'
        rw [List.getElem?_append_left (by omega)] at hy'
        have hb := j5.zb z' (List.mem_of_getElem? hz')
        exact ((j5.is i z' y' hz' hy').keep m fun _ _ e => e).keep mall fun q hq h => h.elim (hb q hq).2.2.1 (hb q hq).2.2.2
      · have hi' : i = zs.length := by
          have := (List.getElem?_eq_some_iff.1 hz').1
          simp at this; omega
        subst hi'
        rw [List.getElem?_append_right (Nat.le_refl _), Nat.sub_self] at hz'
        rw [List.getElem?_append_right (by omega), ll, Nat.sub_self] at hy'
        simp at hz' hy'
        subst hz'; subst hy'
        refine oz.keep mall fun q hq h => ?_
        have := lz q hq
        rcases h with h | h
        · have := hne q h; omega
        · have := (nout q h).2.2; omega
    · have hsz : (H10.setIfInBounds (H4.size + 1) (frame_Rows.r1.rec fn tm H4.size .ready none)).size = H10.size := by simp
      rcases List.mem_append.1 hz' with h | h
      · have hb := j5.zb z' h q hq
        refine ⟨hb.1, by omega, hb.2.2.1, fun h' => ?_⟩
        rcases b8 q h' with h' | h'
        · exact hb.2.2.2 h'
        · omega
      · have : z' = z := by simpa using h
        subst this
        have := lz q hq
        have hj := j7.size
        refine ⟨by omega, by omega, fun h' => by have := hne q h'; omega, fun h' => ?_⟩
        rcases b8 q h' with h' | h'
        · have := (nout q h').2.2; omega
        · omega
    · rcases b8 q hq with h' | h'
      · exact ⟨(nout q h').1, (nout q h').2.1⟩
      · exact ⟨by have := j7.size; omega, fun h => by have := hne q h; omega⟩
    · have hneH : ∀ q ∈ ne, H.size ≤ q := fun q hq => by
        simp only [ne, List.mem_cons, List.not_mem_nil, or_false] at hq
        omega
      exact (j7.trans m).trans' mall fun q hq h => by
        rcases h with h | h
        · have := hneH q h; omega
        · have := (nout q h).1; omega
  · -- the end
    rintro a H' H'' ⟨out, zs, l, j1, j2, j3, j4, j5, j6, j7, j8, j9⟩ m hbad
    have hfr := j6.stop hbad
    have k1 := m.get j1 fun e => e
    have k2 := m.get j2 fun e => e
    have k4 := m.get j4 fun e => e
    refine ⟨.ready, none, k4, by simp, fun H12 h12 => ⟨fun _ => ?_, fun e => (by cases e), trivial, Or.inl rfl⟩⟩
    obtain ⟨q4, m12⟩ := rec_facts k4 h12
    have q1 := m12.get k1 (by omega)
    have q2 := m12.get k2 (by omega)
    have s12 : Sls H H12 out zs l ne := (j5.keep m fun q h => h.elim).keep m12 fun q h => Or.inl (by simp [ne]; right; right; right; exact h)
    have m012 : Mod (fun _ => False) H H12 := (j7.trans m).trans' m12 fun q hq e => by omega
    have fin : ∀ {H' : Hp} {e : Int}, e = rowsErr xs → Mod (fun _ => False) H12 H' → RwPost H xs (.tuple #[.slice out.a out.len out.cap, .int .i64 (a : Int), .int .i64 e]) H' := fun {H' e} he mf => by
      have s' := s12.keep mf fun q h => h.elim
      refine ⟨out, zs, by rw [he, hfr], s'.own, by rw [hfr]; exact s'.len, fun i z y hz hy => Own.rows (s'.is i z y hz (by rw [hfr] at hy; exact hy)), fun z hz q hq => (s'.zb z hz q hq).2.1, m012.trans mf⟩
    refine ⟨(a : Int), by rw [cell_of q2]; rfl, ?_⟩
    by_cases hend : a = xs.length
    · refine Br.yes (by rw [hend, hxl]; simp) ⟨out, by rw [cell_of q1]; rfl, (a : Int), by rw [cell_of q2]; rfl, fin ?_ (Mod.refl _ _)⟩
      unfold rowsErr; rw [hfr, if_pos hend]
    · refine Br.no (by simp; omega) ⟨(a : Int), by rw [cell_of q2]; rfl, ⟨by omega, by have := j6.1; omega⟩, ?_⟩
      rw [Int.toNat_natCast]
      have hcut := Rows.drop (hx.keep m012 fun _ _ e => e) (show a ≤ x.len by have := j6.1; omega)
      rw [Nat.mul_one, ← List.map_drop] at hcut
      refine (One_spec hcut (by simp; omega)).mono ?_
      rintro r H13 ⟨z, rfl, oz, m13, _⟩
      have p1 := m13.get q1 fun e => e
      have p2 := m13.get q2 fun e => e
      refine ⟨z, _, _, rfl, out, by rw [cell_of p1]; rfl, (a : Int), by rw [cell_of p2]; rfl, fin ?_ m13⟩
      unfold rowsErr; rw [hfr, if_neg hend]
end
end Go.Proofs
