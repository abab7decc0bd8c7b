/- LAYER 05: SortedMerge. -/
import Derived.Test.YtnoojgphfinmfaaKn4
set_option linter.all false
set_option linter.constructorNameAsVariable false
namespace Go.Proofs
open Go Go.KC

theorem ofL_key {xs : List Ac} {p : Int × Int} (h : p ∈ ofL xs) : ∃ a ∈ xs, a.key = p.1 := by
  have : ∀ (xs : List Ac) (l : List (Int × Int)), p ∈ xs.foldl (fun l a => putL l a.key a.value) l → p ∈ l ∨ ∃ a ∈ xs, a.key = p.1 := by
    intro xs
    induction xs with
    | nil => intro l h; exact Or.inl h
    | cons a xs ih =>
      intro l h
      rw [List.foldl_cons] at h
      rcases ih _ h with h | ⟨c, h1, h2⟩
      · have : p.1 = a.key ∨ p ∈ l := by
          unfold putL putAt at h
          split at h
          · rcases List.mem_or_eq_of_mem_set h with h | h
            · exact Or.inr h
            · exact Or.inl (by rw [h])
          · simp only [List.mem_append, List.mem_singleton] at h
            rcases h with (h | h) | h
            · exact Or.inr (List.mem_of_mem_take h)
            · exact Or.inl (by rw [h])
            · exact Or.inr (List.mem_of_mem_drop h)
        rcases this with h | h
        · exact Or.inr ⟨a, by simp, h.symm⟩
        · exact Or.inl h
      · exact Or.inr ⟨c, by simp [h1], h2⟩
  rcases this xs [] h with h | h
  · simp at h
  · exact h
theorem ofL_bd {xs : List Ac} (ok : ∀ a ∈ xs, a.ok) {p : Int × Int} (h : p ∈ ofL xs) : -128 ≤ p.1 ∧ p.1 ≤ 127 := by
  obtain ⟨a, ha, e⟩ := ofL_key h
  have := (ok a ha).2.1
  omega
theorem get_snd {l : List (Int × Int)} (hs : Rise l) (k : Int) : (MI.get l k).2 = hasKey l k := by
  by_cases h : ∃ v, (k, v) ∈ l
  · obtain ⟨v, hv⟩ := h
    rw [MI.get_mem hs hv]
    symm
    simp only [hasKey, List.any_eq_true, decide_eq_true_eq]
    exact ⟨_, hv, rfl⟩
  · have h' : ∀ v, (k, v) ∉ l := fun v hv => h ⟨v, hv⟩
    rw [MI.get_not h']
    symm
    simp only [hasKey, List.any_eq_false, decide_eq_true_eq]
    rintro ⟨a, b⟩ hs rfl
    exact h' b hs
def lastK (M : List (Int × Int)) : Nat → Int
  | 0 => -1000
  | i + 1 => (M.getD i (0, 0)).1

abbrev cellsM (b1 b2 b3 b4 b5 b6 b7 gx gy : Nat) (stop n last seen : Int) : List (Nat × Value × TypeId) := [(b1, .int .u8 stop, T_uint8), (b2, .bool false, T_bool), (b3, .pointer (some ⟨gx, 0, none⟩), T_p_sorted_Map_int_int), (b4, .pointer (some ⟨gy, 0, none⟩), T_p_sorted_Map_int_int), (b5, .int .i64 n, T_int), (b6, .int .i64 last, T_int), (b7, .int .i64 seen, T_int)]
section
variable {H : Hp}
theorem SortedMerge_spec {a b : Sl} {xs ys : List Ac} {stop : Int} (hra : Rows H a 3 (xs.map Ac.cells).flatten) (oka : ∀ a ∈ xs, a.ok) (hrb : Rows H b 3 (ys.map Ac.cells).flatten) (okb : ∀ a ∈ ys, a.ok) (hst : 0 ≤ stop ∧ stop ≤ 255) :
    SCalls Try.prog tephralaw05_SortedMerge.id [.slice a.a a.len a.cap, .slice b.a b.len b.cap, .int .u8 stop] H fun r H' => r = .bool true ∧ Mod (fun _ => False) H H' := by
  apply tephralaw05_SortedMerge.calls
  intro b1 hb1 H1 e1
  have v1 := (V.init H).push hb1 e1
  intro b2 hb2 H2 e2
  have v2 := v1.push hb2 e2
  refine awake05_spec.mono ?_
  rintro r H3 ⟨rfl, m3⟩
  have v3 := v2.mod m3
  refine ⟨true, rfl, Br.no rfl ?_⟩
  refine Of_st (Fresh.rows (v3.fresh.mono fun _ _ e => e.elim) hra) oka fun H5 Fx Mx hFx m5 hx60 => ?_
  have lx5 := Mx.lt
  have le3 := v3.le
  have v5 := (v3.mod m5).add (n := H5.size) Mx (v3.mod m5).le (Nat.le_refl _) (MI.Mp.stab ⟨le3, lx5.1⟩ fun q hq => ⟨by have := hFx q hq; omega, lx5.2 q hq⟩)
  refine Of_st (Fresh.rows (v5.fresh.mono fun _ _ e => e.elim) hrb) okb fun H6 Fy My hFy m6 hy60 => ?_
  have ly6 := My.lt
  have le5 := v5.le
  have v6 := (v5.mod m6).add (n := H6.size) My (v5.mod m6).le (Nat.le_refl _) (MI.Mp.stab ⟨le5, ly6.1⟩ fun q hq => ⟨by have := hFy q hq; omega, ly6.2 q hq⟩)
  have kbx : ∀ p ∈ ofL (xs.take 60), -128 ≤ p.1 := fun p hp => (ofL_bd (fun a ha => oka a (List.mem_of_mem_take ha)) hp).1
  have kby : ∀ p ∈ ofL (ys.take 60), -128 ≤ p.1 := fun p hp => (ofL_bd (fun a ha => okb a (List.mem_of_mem_take ha)) hp).1
  generalize ofL (xs.take 60) = lx at *
  generalize ofL (ys.take 60) = ly at *
  intro b3 hb3 H7 e7
  have v7 := v6.push hb3 e7
  intro b4 hb4 H8 e8
  have v8 := v7.push hb4 e8
  refine ⟨v8.wr 2 rfl, fun H9 e9 => ?_⟩
  obtain ⟨v9, _⟩ := v8.set 2 rfl e9
  refine ⟨v9.wr 3 rfl, fun H10 e10 => ?_⟩
  obtain ⟨v10, _⟩ := v9.set 3 rfl e10
  intro b5 hb5 H11 e11
  have v11 := v10.push hb5 e11
  intro b6 hb6 H12 e12
  have v12 := v11.push hb6 e12
  intro b7 hb7 H13 e13
  have v13 := v12.push hb7 e13
  refine ⟨v13.wr 4 rfl, fun H14 e14 => ?_⟩
  obtain ⟨v14, _⟩ := v13.set 4 rfl e14
  refine ⟨v14.wr 5 rfl, fun H15 e15 => ?_⟩
  obtain ⟨v15, _⟩ := v14.set 5 rfl e15
  refine ⟨v15.wr 6 rfl, fun H16 e16 => ?_⟩
  obtain ⟨v16, _⟩ := v15.set 6 rfl e16
  have o1 := (v7.lt 2 rfl).1
  have v0 : V (b7 + 1) H.size H [b1, b2, b3, b4, b5, b6, b7] (fun H => ((fun _ => True) H ∧ MI.Mp H H3.size 0 Fx lx) ∧ MI.Mp H H5.size 0 Fy ly) (cellsM b1 b2 b3 b4 b5 b6 b7 H3.size H5.size stop 0 (-1000) 0) H16 := v16
  have ob : ∀ q ∈ [b2, b5, b6, b7], q < b7 + 1 ∧ q ≠ H3.size ∧ q ∉ Fx ∧ q ≠ H5.size ∧ q ∉ Fy := by
    have z6 := v6.le
    have := v7.le
    have := v8.le
    have := v9.le
    have := v10.le
    have := v11.le
    have := v12.le
    have := v13.le
    have z2 := (v2.lt 1 rfl).1
    intro q hq
    have hqq : b2 = q ∨ H6.size ≤ q ∧ q < b7 + 1 := by
      simp at hq
      rcases hq with rfl | rfl | rfl | rfl
      · exact Or.inl rfl
      · right; omega
      · right; omega
      · right; omega
    have hs5 := m5.size
    have hs6 := m6.size
    rcases hqq with rfl | hqq
    · exact ⟨by omega, by omega, fun h => by have := hFx _ h; omega, by omega, fun h => by have := hFy _ h; omega⟩
    · exact ⟨by omega, by omega, fun h => by have := lx5.2 _ h; omega, by omega, fun h => by have := ly6.2 _ h; omega⟩
  clear v1 v2 v3 v5 v6 v7 v8 v9 v10 v11 v12 v13 v14 v15 v16 e1 e2 e7 e8 e9 e10 e11 e12 e13 e14 e15 e16
  have rx := v0.s.inv.1.2.rise
  have ry := v0.s.inv.2.rise
  obtain ⟨rM, hM⟩ := mergeL_spec lx ly rx ry
  have hcnt := mergeL_count lx ly rx ry
  have hlenM := mergeL_length lx ly
  -- the blocks that a range reads are others
  have notin : ∀ {Ha Hb Hc : Hp}, b7 < Ha.size → b7 < Hb.size → b7 < Hc.size → ∀ q ∈ [b2, b5, b6, b7], q ∉ (Hc.size :: (Hc.size + 1) :: ((Ha.size :: H3.size :: Fx) ++ (Hb.size :: H5.size :: Fy))) := by
    intro Ha Hb Hc h1 h2 h3 q hq h
    obtain ⟨o1, o2, o3, o4, o5⟩ := ob q hq
    simp only [List.mem_cons, List.mem_append] at h
    rcases h with h | h | (h | h | h) | (h | h | h)
    · omega
    · omega
    · omega
    · exact o2 h
    · exact o3 h
    · omega
    · exact o4 h
    · exact o5 h
  -- the third range
  have k4 : ∀ (fv : Fv) (H' : Hp) (bs : List Nat) (last : Int), V (b7 + 1) H.size H [b1, b2, b3, b4, b5, b6, b7] (fun H => ((fun _ => True) H ∧ MI.Mp H H3.size 0 Fx lx) ∧ MI.Mp H H5.size 0 Fy ly) (cellsM b1 b2 b3 b4 b5 b6 b7 H3.size H5.size stop ly.length last 0) H' → Goes Try.prog MI.args fv (mergeL lx ly) bs H' → b7 ∉ bs →
      tephralaw05_SortedMerge.k4 J0 b1 b2 b4 b5 b7 fv H' fun r H' => r = .bool true ∧ Mod (fun _ => False) H H' := by
    intro fv H' bs last v g hbs
    apply tephralaw05_SortedMerge.k4.step; unfold tephralaw05_SortedMerge.k4.body
    intro fn tm hT
    have hle := v.le
    have ew : w64 (Int.tmod stop 70) = Int.tmod stop 70 := w64_id (by have := Int.tmod_nonneg 70 hst.1; omega) (by have := Int.tmod_lt_of_pos stop (show (0 : Int) < 70 by omega); omega)
    have t0 := Int.tmod_nonneg 70 hst.1
    have t1 := Int.tmod_lt_of_pos stop (show (0 : Int) < 70 by omega)
    have ew1 : w64 (Int.tmod stop 70 + 1) = Int.tmod stop 70 + 1 := w64_id (by omega) (by omega)
    -- the end
    have fin : ∀ (Ha : Hp) (seen : Int), seen ≤ Int.tmod stop 70 + 1 → V (b7 + 1) H.size H [b1, b2, b3, b4, b5, b6, b7] (fun H => ((fun _ => True) H ∧ MI.Mp H H3.size 0 Fx lx) ∧ MI.Mp H H5.size 0 Fy ly) (cellsM b1 b2 b3 b4 b5 b6 b7 H3.size H5.size stop ly.length last seen) Ha →
        ∀ Hb, Mod (fun _ => False) Ha Hb → WrAt Hb (Addr.mk b2 0 none) 1 ∧ ∀ H1 : Hp, H1 = (Hp.setCell Hb (Addr.mk b2 0 none) (.bool (decide (seen ≤ w64 (w64 (Int.tmod stop 70) + 1))))) → ∃ x : Bool, Hp.cell? H1 (Addr.mk b2 0 none) = some (.bool x) ∧ (Value.bool x = .bool true ∧ Mod (fun _ => False) H H1) := by
      intro Ha seen hs v Hb mb
      have hv : decide (seen ≤ w64 (w64 (Int.tmod stop 70) + 1)) = true := by rw [ew, ew1]; exact decide_eq_true hs
      exact (v.mod mb).ret 1 rfl (Q := fun r H' => r = .bool true ∧ Mod (fun _ => False) H H') hv fun H' m => ⟨rfl, m⟩
    refine g.range' (rec := tephralaw05_SortedMerge.r3.rec fn tm H'.size) [b7]
      (fun i H1 => (i : Int) ≤ Int.tmod stop 70 ∧ V (b7 + 1) H.size H [b1, b2, b3, b4, b5, b6, b7] (fun H => ((fun _ => True) H ∧ MI.Mp H H3.size 0 Fx lx) ∧ MI.Mp H H5.size 0 Fy ly) (cellsM b1 b2 b3 b4 b5 b6 b7 H3.size H5.size stop ly.length last (i : Int)) H1)
      (fun c H1 => c = .exit 4 ∧ V (b7 + 1) H.size H [b1, b2, b3, b4, b5, b6, b7] (fun H => ((fun _ => True) H ∧ MI.Mp H H3.size 0 Fx lx) ∧ MI.Mp H H5.size 0 Fy ly) (cellsM b1 b2 b3 b4 b5 b6 b7 H3.size H5.size stop ly.length last (Int.tmod stop 70 + 1)) H1)
      (fun q hq => by simp at hq; subst hq; exact ⟨by omega, hbs⟩) (fun i Ha Hb s m => ⟨s.1, s.2.keep m fun q hq => by omega⟩) (fun c Ha Hb s m => ⟨s.1, s.2.keep m fun q hq => by omega⟩) ⟨by simpa using t0, v⟩ (fun i hi Ha m s hl => ?_) (fun Ha m s => ?_) (fun c Ha m s => ?_)
    · obtain ⟨hile, s⟩ := s
      refine tephralaw05_SortedMerge.r3.calls hl hT ⟨hl, fun H11 e11 => ?_⟩
      obtain ⟨l11, m11⟩ := rec_facts hl e11
      have s11 := s.keep m11 fun q hq => by have hq : q = H'.size + 1 := hq; omega
      refine ⟨_, s11.at 6 rfl, s11.wr 6 rfl, fun H12 e12 => ?_⟩
      rw [w64_id (x := (i : Int) + 1) (by omega) (by omega)] at e12
      obtain ⟨s12, m12⟩ := s11.set 6 rfl e12
      have l12 := m12.get l11 (by omega)
      have mm : Mod (fun q => q ∈ [b7] ∨ q = H'.size + 1) Ha H12 := (m11.mono fun q _ h => Or.inr h).trans (m12.mono fun q _ h => Or.inl (by simpa using h))
      refine ⟨_, s12.at 6 rfl, _, s12.at 0 rfl, by omega, ?_⟩
      rw [ew]
      by_cases hc : (i : Int) + 1 > Int.tmod stop 70
      · refine Br.yes (decide_eq_true hc) ⟨⟨_, _, l12⟩, ?_⟩
        obtain ⟨l13, m13⟩ := rec_facts (o' := tephralaw05_SortedMerge.r3.rec fn tm H'.size .done (some (.exit 4))) l12 rfl
        refine ⟨mm.trans (m13.mono fun q _ h => Or.inr h), Or.inr ⟨_, rfl, ⟨rfl, ?_⟩, l13⟩⟩
        have e : (i : Int) + 1 = Int.tmod stop 70 + 1 := by omega
        rw [e] at s12
        exact s12.keep m13 fun q hq => by have hq : q = H'.size + 1 := hq; omega
      · refine Br.no (decide_eq_false hc) ⟨⟨_, _, l12⟩, ?_⟩
        obtain ⟨l13, m13⟩ := rec_facts (o' := tephralaw05_SortedMerge.r3.rec fn tm H'.size .ready none) l12 rfl
        exact ⟨mm.trans (m13.mono fun q _ h => Or.inr h), Or.inl ⟨rfl, ⟨by omega, s12.keep m13 fun q hq => by have hq : q = H'.size + 1 := hq; omega⟩, l13⟩⟩
    · obtain ⟨hile, s⟩ := s
      refine jump1_none ⟨_, s.at 3 rfl, ⟨_, s.at 4 rfl, MI.len_step s.s.inv.2 fun Hb mb => Br.yes (beq_self_eq_true _) ?_⟩, MI.len_step s.s.inv.2 fun Hb mb => ⟨_, (s.mod mb).at 4 rfl, Br.yes (beq_self_eq_true _) ?_⟩⟩
      all_goals exact ⟨_, (s.mod mb).at 6 rfl, _, (s.mod mb).at 0 rfl, by omega, fin Ha _ (by omega) s Hb mb⟩
    · obtain ⟨rfl, s⟩ := s
      refine jump1_exit ⟨_, s.at 3 rfl, ⟨_, s.at 4 rfl, MI.len_step s.s.inv.2 fun Hb mb => Br.yes (beq_self_eq_true _) ?_⟩, MI.len_step s.s.inv.2 fun Hb mb => ⟨_, (s.mod mb).at 4 rfl, Br.yes (beq_self_eq_true _) ?_⟩⟩
      all_goals exact ⟨_, (s.mod mb).at 6 rfl, _, (s.mod mb).at 0 rfl, by omega, fin Ha _ (by omega) s Hb mb⟩
  -- the first and the second range
  have k1 : ∀ (fv : Fv) (H' : Hp) (bs : List Nat), V (b7 + 1) H.size H [b1, b2, b3, b4, b5, b6, b7] (fun H => ((fun _ => True) H ∧ MI.Mp H H3.size 0 Fx lx) ∧ MI.Mp H H5.size 0 Fy ly) (cellsM b1 b2 b3 b4 b5 b6 b7 H3.size H5.size stop 0 (-1000) 0) H' → Goes Try.prog MI.args fv (mergeL lx ly) bs H' → (∀ q ∈ [b2, b5, b6, b7], q ∉ bs) →
      tephralaw05_SortedMerge.k1 J0 b1 b2 b3 b4 b5 b6 b7 fv H' fun r H' => r = .bool true ∧ Mod (fun _ => False) H H' := by
    intro fv H' bs v g hbs
    apply tephralaw05_SortedMerge.k1.step; unfold tephralaw05_SortedMerge.k1.body
    intro fn tm hT
    have hle := v.le
    generalize hMM : mergeL lx ly = M at *
    refine g.range' (rec := tephralaw05_SortedMerge.r1.rec fn tm H'.size) [b5, b6] (fun i H1 => V (b7 + 1) H.size H [b1, b2, b3, b4, b5, b6, b7] (fun H => ((fun _ => True) H ∧ MI.Mp H H3.size 0 Fx lx) ∧ MI.Mp H H5.size 0 Fy ly) (cellsM b1 b2 b3 b4 b5 b6 b7 H3.size H5.size stop (i : Int) (lastK M i) 0) H1) (fun _ _ => False)
      (fun q hq => ⟨by have := (ob q (by simp at hq ⊢; omega)).1; omega, hbs q (by simp at hq ⊢; omega)⟩) (fun i Ha Hb s m => s.keep m fun q hq => by omega) (fun _ _ _ h _ => h) v (fun i hi Ha m s hl => ?_) (fun Ha m s => ?_) (fun _ _ _ h => h.elim)
    · refine tephralaw05_SortedMerge.r1.calls hl hT ⟨hl, fun H11 e11 => ?_⟩
      obtain ⟨l11, m11⟩ := rec_facts hl e11
      have s11 := s.keep m11 fun q hq => by have hq : q = H'.size + 1 := hq; omega
      have hmem := (hM M[i].1 M[i].2).1 (List.getElem_mem hi)
      -- the last part of a round
      have k2 : ∀ Hb, Mod (fun _ => False) H11 Hb → tephralaw05_SortedMerge.k2 J0 b2 b5 b6 (H'.size + 1) (tephralaw05_SortedMerge.r1.rec fn tm H'.size) M[i].1 M[i].2 M[i].2 true Hb fun r H2 =>
          Mod (fun b => b ∈ [b5, b6] ∨ b = H'.size + 1) Ha H2 ∧ ((r = .bool true ∧ V (b7 + 1) H.size H [b1, b2, b3, b4, b5, b6, b7] (fun H => ((fun _ => True) H ∧ MI.Mp H H3.size 0 Fx lx) ∧ MI.Mp H H5.size 0 Fy ly) (cellsM b1 b2 b3 b4 b5 b6 b7 H3.size H5.size stop ((i + 1 : Nat) : Int) (lastK M (i + 1)) 0) H2 ∧ H2[H'.size + 1]? = some (tephralaw05_SortedMerge.r1.rec fn tm H'.size .ready none)) ∨
            (∃ c, r = .bool false ∧ False ∧ H2[H'.size + 1]? = some (tephralaw05_SortedMerge.r1.rec fn tm H'.size .done (some c)))) := by
        intro Hb mb
        have sb := s11.mod mb
        have lb := mb.get l11 fun e => e
        apply tephralaw05_SortedMerge.k2.step; unfold tephralaw05_SortedMerge.k2.body
        refine Br.no rfl ?_
        apply tephralaw05_SortedMerge.k3.step; unfold tephralaw05_SortedMerge.k3.body
        have hlast : lastK M i < M[i].1 := by
          cases i with
          | zero =>
            have : -128 ≤ M[0].1 := by
              rcases hmem with h | ⟨h, _⟩
              · exact kby _ h
              · exact kbx _ h
            show (-1000 : Int) < _
            omega
          | succ i =>
            show (M.getD i (0, 0)).1 < _
            rw [List.getD_eq_getElem?_getD, List.getElem?_eq_getElem (by omega), Option.getD_some]
            exact rM i (i + 1) (by omega) hi (by omega)
        refine Br.no (by simp) ⟨_, sb.at 5 rfl, Br.no (decide_eq_false (by omega)) ⟨sb.wr 5 rfl, fun H12 e12 => ?_⟩⟩
        obtain ⟨s12, m12⟩ := sb.set 5 rfl e12
        refine ⟨_, s12.at 4 rfl, s12.wr 4 rfl, fun H13 e13 => ?_⟩
        rw [w64_id (x := (i : Int) + 1) (by omega) (by omega)] at e13
        obtain ⟨s13, m13⟩ := s12.set 4 rfl e13
        have o5 := (ob b5 (by simp)).1
        have o6 := (ob b6 (by simp)).1
        have l13 := m13.get (m12.get lb (by omega)) (show ¬ H'.size + 1 = b5 by omega)
        obtain ⟨l14, m14⟩ := rec_facts (o' := tephralaw05_SortedMerge.r1.rec fn tm H'.size .ready none) l13 rfl
        have s14 := s13.keep m14 fun q hq => by have hq : q = H'.size + 1 := hq; omega
        refine ⟨⟨_, _, l13⟩, (m11.mono fun q _ h => Or.inr h).trans ((mb.mono fun _ _ e => e.elim).trans ((m12.mono fun q _ h => Or.inl (by have h : q = b6 := h; simp [h])).trans ((m13.mono fun q _ h => Or.inl (by have h : q = b5 := h; simp [h])).trans (m14.mono fun q _ h => Or.inr h)))), Or.inl ⟨rfl, ?_, l14⟩⟩
        have e : lastK M (i + 1) = M[i].1 := by show (M.getD i (0, 0)).1 = _; rw [List.getD_eq_getElem?_getD, List.getElem?_eq_getElem hi, Option.getD_some]
        rw [e]
        exact s14
      refine ⟨_, s11.at 3 rfl, MI.get_step s11.s.inv.2 fun H26 m26 => ?_⟩
      rcases hmem with h | ⟨h, hno⟩
      · rw [MI.get_mem ry h]
        exact Br.no rfl (k2 H26 m26)
      · rw [MI.get_not hno]
        have s26 := s11.mod m26
        refine Br.yes rfl ⟨_, s26.at 2 rfl, MI.get_step s26.s.inv.1.2 fun H27 m27 => ?_⟩
        rw [MI.get_mem rx h]
        exact k2 H27 (m26.trans m27)
    · refine jump_none ⟨_, s.at 2 rfl, MI.all_st s.s.inv.1.2 fun fx Hb gx mb => ?_⟩
      have sb := s.mod mb
      have hleb := sb.le
      have hlea := s.le
      intro fn1 tm1 hT1
      have hk : ∀ i, (lx.take i).length = min i lx.length := fun i => List.length_take
      refine gx.range' (rec := tephralaw05_SortedMerge.r2.rec fn1 tm1 Hb.size) [b5] (fun i H1 => V (b7 + 1) H.size H [b1, b2, b3, b4, b5, b6, b7] (fun H => ((fun _ => True) H ∧ MI.Mp H H3.size 0 Fx lx) ∧ MI.Mp H H5.size 0 Fy ly) (cellsM b1 b2 b3 b4 b5 b6 b7 H3.size H5.size stop ((M.length - ((lx.take i).filter fun p => !hasKey ly p.1).length : Nat) : Int) (lastK M M.length) 0) H1) (fun _ _ => False)
        (fun q hq => by
          simp at hq; subst hq
          obtain ⟨o1, o2, o3, o4, o5⟩ := ob q (by simp)
          refine ⟨by omega, fun h => ?_⟩
          simp only [List.mem_cons] at h
          rcases h with h | h | h
          · omega
          · exact o2 h
          · exact o3 h) (fun i Ha Hb s m => s.keep m fun q hq => by omega) (fun _ _ _ h _ => h) (by simpa using sb) (fun i hi Hc m s hl => ?_) (fun Hc m s => ?_) (fun _ _ _ h => h.elim)
      · refine tephralaw05_SortedMerge.r2.calls hl hT1 ⟨hl, fun H11 e11 => ?_⟩
        obtain ⟨l11, m11⟩ := rec_facts hl e11
        have s11 := s.keep m11 fun q hq => by have hq : q = Hb.size + 1 := hq; omega
        refine ⟨_, s11.at 3 rfl, MI.get_step s11.s.inv.2 fun H26 m26 => ?_⟩
        have s26 := s11.mod m26
        have l26 := m26.get l11 fun e => e
        have mm : Mod (fun q => q ∈ [b5] ∨ q = Hb.size + 1) Hc H26 := (m11.mono fun q _ h => Or.inr h).trans (m26.mono fun _ _ e => e.elim)
        rw [get_snd ry]
        have hf : ((lx.take (i + 1)).filter fun p => !hasKey ly p.1).length = ((lx.take i).filter fun p => !hasKey ly p.1).length + (if hasKey ly lx[i].1 then 0 else 1) := by
          rw [List.take_succ_eq_append_getElem hi, List.filter_append, List.length_append, List.filter_cons]
          cases hasKey ly lx[i].1 <;> simp
        have hf2 : ((lx.take (i + 1)).filter fun p => !hasKey ly p.1).length ≤ (lx.filter fun p => !hasKey ly p.1).length := (List.Sublist.filter _ (List.take_sublist _ _)).length_le
        cases hh : hasKey ly lx[i].1 with
        | true =>
          refine Br.no rfl ⟨⟨_, _, l26⟩, ?_⟩
          obtain ⟨l13, m13⟩ := rec_facts (o' := tephralaw05_SortedMerge.r2.rec fn1 tm1 Hb.size .ready none) l26 rfl
          refine ⟨mm.trans (m13.mono fun q _ h => Or.inr h), Or.inl ⟨rfl, ?_, l13⟩⟩
          rw [hf, hh, if_pos rfl, Nat.add_zero]
          exact s26.keep m13 fun q hq => by have hq : q = Hb.size + 1 := hq; omega
        | false =>
          refine Br.yes rfl ⟨_, s26.at 4 rfl, s26.wr 4 rfl, fun H12 e12 => ?_⟩
          rw [hh, if_neg (by simp)] at hf
          have ew : w64 (((M.length - ((lx.take i).filter fun p => !hasKey ly p.1).length : Nat) : Int) - 1) = ((M.length - ((lx.take (i + 1)).filter fun p => !hasKey ly p.1).length : Nat) : Int) := by
            rw [w64_id (by omega) (by omega)]; omega
          rw [ew] at e12
          obtain ⟨s12, m12⟩ := s26.set 4 rfl e12
          have o5 := (ob b5 (by simp)).1
          have l12 := m12.get l26 (by omega)
          obtain ⟨l13, m13⟩ := rec_facts (o' := tephralaw05_SortedMerge.r2.rec fn1 tm1 Hb.size .ready none) l12 rfl
          exact ⟨⟨_, _, l12⟩, mm.trans ((m12.mono fun q _ h => Or.inl (by simpa using h)).trans (m13.mono fun q _ h => Or.inr h)), Or.inl ⟨rfl, s12.keep m13 fun q hq => by have hq : q = Hb.size + 1 := hq; omega, l13⟩⟩
      · rw [List.take_length, show M.length - (lx.filter fun p => !hasKey ly p.1).length = ly.length by omega] at s
        have hlec := s.le
        refine jump_none ⟨_, s.at 2 rfl, MI.all_st s.s.inv.1.2 fun fa He ga me => ?_, _, s.at 3 rfl, MI.all_st s.s.inv.1.2 fun fa He ga me => ?_⟩
        · have se := s.mod me
          refine ⟨_, se.at 3 rfl, MI.all_st se.s.inv.2 fun fb Hf gb mf => ?_⟩
          have sf := se.mod mf
          have h1 := se.le
          have h2 := sf.le
          refine MI.merge_st (ga.mod mf fun _ _ e => e) gb (by omega) fun f3 Hg gg mg => ?_
          rw [hMM] at gg
          exact k4 f3 Hg _ _ (sf.mod mg) gg (notin (Ha := Hc) (Hb := He) (Hc := Hf) (by omega) (by omega) (by omega) b7 (by simp))
        · have se := s.mod me
          refine MI.all_st se.s.inv.2 fun fb Hf gb mf => ?_
          have sf := se.mod mf
          have h1 := se.le
          have h2 := sf.le
          refine MI.merge_st (ga.mod mf fun _ _ e => e) gb (by omega) fun f3 Hg gg mg => ?_
          rw [hMM] at gg
          exact k4 f3 Hg _ _ (sf.mod mg) gg (notin (Ha := Hc) (Hb := He) (Hc := Hf) (by omega) (by omega) (by omega) b7 (by simp))
  have h16 := v0.le
  refine ⟨_, v0.at 2 rfl, MI.all_st v0.s.inv.1.2 fun fa Ha ga ma => ?_, _, v0.at 3 rfl, MI.all_st v0.s.inv.1.2 fun fa Ha ga ma => ?_⟩
  · have sa := v0.mod ma
    refine ⟨_, sa.at 3 rfl, MI.all_st sa.s.inv.2 fun fb Hb gb mb => ?_⟩
    have sb := sa.mod mb
    have h1 := sa.le
    have h2 := sb.le
    refine MI.merge_st (ga.mod mb fun _ _ e => e) gb (by omega) fun fc Hc gc mc => ?_
    exact k1 fc Hc _ (sb.mod mc) gc (notin (Ha := H16) (Hb := Ha) (Hc := Hb) (by omega) (by omega) (by omega))
  · have sa := v0.mod ma
    refine MI.all_st sa.s.inv.2 fun fb Hb gb mb => ?_
    have sb := sa.mod mb
    have h1 := sa.le
    have h2 := sb.le
    refine MI.merge_st (ga.mod mb fun _ _ e => e) gb (by omega) fun fc Hc gc mc => ?_
    exact k1 fc Hc _ (sb.mod mc) gc (notin (Ha := H16) (Hb := Ha) (Hc := Hb) (by omega) (by omega) (by omega))
end
end Go.Proofs
