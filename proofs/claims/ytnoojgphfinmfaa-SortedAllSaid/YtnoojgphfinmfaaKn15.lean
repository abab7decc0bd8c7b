/- LAYER 05: SortedAll, its beginning. -/
import Derived.Test.YtnoojgphfinmfaaKn14
set_option linter.all false
set_option linter.constructorNameAsVariable false
namespace Go.Proofs
open Go Go.KC
section
variable {H : Hp}
theorem Of_st2 {acts : Sl} {xs : List Ac} {K : Option Addr → Hp → Prop} (hr : Rows H acts 3 (xs.map Ac.cells).flatten) (ok : ∀ a ∈ xs, a.ok)
    (hK : ∀ H' F, MI.Mp H' H.size 0 F (ofA (xs.take 60)) → (∀ b ∈ F, H.size < b) → Mod (fun _ => False) H H' → K (some ⟨H.size, 0, none⟩) H') :
    SCalls Try.prog tephralaw05_Of.id [.slice acts.a acts.len acts.cap] H fun r H' => ∃ x : Option Addr, r = .pointer x ∧ K x H' := by
  refine (Of_spec hr ok).mono ?_
  rintro r H' ⟨rfl, m, F, h1, h2⟩
  exact ⟨_, rfl, hK H' F h1 h2 (Mod.fresh m fun _ h => h)⟩

theorem SortedAll_spec {acts : Sl} {xs0 : List Ac} {fromv stop : Int} (hr : Rows H acts 3 (xs0.map Ac.cells).flatten) (ok : ∀ a ∈ xs0, a.ok) (hf : -128 ≤ fromv ∧ fromv ≤ 127) (hs : 0 ≤ stop ∧ stop ≤ 255) :
    SCalls Try.prog tephralaw05_SortedAll.id [.slice acts.a acts.len acts.cap, .int .i8 fromv, .int .u8 stop] H (TellPost H (.bool true)) := by
  apply tephralaw05_SortedAll.calls
  intro b hb H1 h1 b1 hb1 H2 h2
  obtain ⟨q1, m1, s1⟩ := push_facts h1
  rw [← hb] at q1
  obtain ⟨q2, m2, s2⟩ := push_facts h2
  rw [← hb1] at q2
  refine awake05_spec.mono ?_
  rintro r H3 ⟨rfl, m3⟩
  have z3 := m3.size
  refine ⟨_, rfl, Br.no rfl ?_⟩
  refine Of_st2 (((hr.keep m1 fun _ _ e => e).keep m2 fun _ _ e => e).keep m3 fun _ _ e => e) ok fun H5 F M5 hF m5 => ?_
  have hl60 := ofA_len2 (xs0.take 60)
  have hx60 : (xs0.take 60).length ≤ 60 := by rw [List.length_take]; omega
  generalize ofA (xs0.take 60) = ln at M5 hl60
  obtain ⟨rn, hln⟩ := hl60
  have z5 := m5.size
  have lM := M5.lt
  intro b2 hb2 H6 h6
  obtain ⟨q6, m6, s6⟩ := push_facts h6
  rw [← hb2] at q6
  refine ⟨wr_at q6, fun H7 h7 => ?_⟩
  obtain ⟨q7, m7⟩ := set_facts q6 h7
  have z7 := m7.size
  intro b3 hb3 H8 h8
  obtain ⟨q8, m8, s8⟩ := push_facts h8
  rw [← hb3] at q8
  have m57 : Mod (fun q => q = b2) H5 H7 := (m6.mono fun _ _ e => e.elim).trans m7
  have c0 : H8[b]? = some (.cells #[.int .u8 stop] T_uint8 (0, 0)) := m8.get (m57.get (m5.get (m3.get (m2.get q1 fun e => e) fun e => e) fun e => e) (by omega)) fun e => e
  have c1 : H8[b1]? = some (.cells #[.bool false] T_bool (0, 0)) := m8.get (m57.get (m5.get (m3.get q2 fun e => e) fun e => e) (by omega)) fun e => e
  have M8 : MI.Mp H8 H3.size 0 F ln := (M5.keep m57 (by omega) fun q hq h => by have := lM.2 q hq; omega).mod m8
  have m08 : Mod (fun q => H.size ≤ q) H H8 := ((m1.trans (m2.trans (m3.trans m5))).mono fun _ _ e => e.elim).trans ((m57.mono fun q _ h => by have h : q = b2 := h; omega).trans (m8.mono fun _ _ e => e.elim))
  have a8 : AF H H8 b b1 b2 H3.size b3 F ln stop := ⟨c0, c1, m8.get q7 fun e => e, M8, fun q h => by
    rcases h with rfl | rfl | rfl | rfl | h
    · omega
    · omega
    · omega
    · omega
    · have := lM.2 q h; have := hF q h; omega, by omega, m08⟩
  refine ⟨_, cell_at a8.c2, ?_⟩
  refine MI.all_st a8.m fun fv H9 gs m9 => ?_
  intro fn tm hT
  have a9 := a8.keep m9 fun _ h => h.elim
  have q9 := m9.get q8 fun e => e
  have z9 := m9.size
  have hbs : ∀ q ∈ (H8.size :: H3.size :: F), q < H9.size ∧ q ≠ b3 := by
    obtain ⟨_, _, _, h, _⟩ := gs
    intro q hq
    refine ⟨h q hq, ?_⟩
    simp only [List.mem_cons] at hq
    rcases hq with h | h | h
    · omega
    · omega
    · have := lM.2 q h; omega
  refine gs.range (rec := tephralaw05_SortedAll.r1.rec fn tm H9.size) (fun n i H' => ∃ xs : Sl, KS H' b3 xs (ln.take i) ∧ (∀ q ∈ xs.blk, n ≤ q) ∧ Mod (fun q => q = b3 ∨ H9.size ≤ q) H9 H') (fun _ _ _ => False) ?_ ?_ ?_ (fun _ _ _ _ h _ => h) ?_ ?_ (fun _ _ _ _ h => h.elim)
  · intro n H' hn hn' m
    exact ⟨⟨none, 0, 0⟩, ⟨m.get q9 fun e => e, by simpa using Own.nil H' T_int 1, by simp [Sl.blk]⟩, by simp [Sl.blk], m.mono fun _ _ e => e.elim⟩
  · rintro n i H' ⟨xs, w1, w3, w4⟩
    exact Mod.same w4 fun q hq => ⟨(hbs q hq).1, fun h => h.elim (hbs q hq).2 fun h => by have := (hbs q hq).1; omega⟩
  · rintro n i H' H'' ⟨xs, w1, w3, w4⟩ m
    exact ⟨xs, w1.keep m (by omega) (fun q hq h => by have := w3 q hq; omega), w3, w4.trans (m.mono fun q _ h => Or.inr h.1)⟩
  · rintro n i hi H10 hn hn' ⟨xs, w1, w3, w4⟩ hrec
    refine tephralaw05_SortedAll.r1.calls hrec hT ⟨hrec, fun H11 e11 => ?_⟩
    obtain ⟨l11, m11⟩ := rec_facts hrec e11
    have a11 := (a9.keep w4 fun q h => by have := a9.n; omega).keep m11 fun q h => by have h : q = H9.size + 1 := h; have := a9.n; omega
    refine ⟨_, cell_at a11.c2, MI.get_step a11.m fun H12 m12 => ?_⟩
    have a12 := a11.keep m12 fun _ h => h.elim
    have k12 := (w1.keep m11 (by omega) fun q hq h => by have := w3 q hq; have h : q = H9.size + 1 := h; omega).keep m12 (fun e => e) fun _ _ e => e
    have l12 := m12.get l11 fun e => e
    have hv : valL ln ln[i].1 = some ln[i].2 := (valL_mem rn).2 (List.getElem_mem hi)
    rw [MI_get2, hv]
    have z11 := m11.size
    have z12 := m12.size
    have hxl := kLen k12.o
    rw [List.length_take] at hxl
    -- the key is put behind
    have add : ∀ b4 : Nat, b4 = Array.size H12 → ∀ H15 : Hp, H15 = (Array.push H12 (.cells #[.int .i64 ln[i].1] T_int)) → vApp Try.prog T_sl_int xs.a xs.len xs.cap (.slice (some (Addr.mk b4 0 none)) 1 1) H15 (fun ap H16 => WrAt H16 (Addr.mk b3 0 none) 1 ∧ ∀ H17 : Hp, H17 = (Hp.setCell H16 (Addr.mk b3 0 none) (.slice ap.a ap.len ap.cap)) →
        ((∃ st : LoopState, ∃ pd : Option Code, H17[H9.size + 1]? = some (tephralaw05_SortedAll.r1.rec fn tm H9.size st pd)) ∧ Mod (fun b => ¬ (H9.size + 2 ≤ b ∧ b < n)) H10 (Array.setIfInBounds H17 (H9.size + 1) (tephralaw05_SortedAll.r1.rec fn tm H9.size .ready none)) ∧
          (((Value.bool true) = .bool true ∧ (∃ xs : Sl, KS (Array.setIfInBounds H17 (H9.size + 1) (tephralaw05_SortedAll.r1.rec fn tm H9.size .ready none)) b3 xs (ln.take (i + 1)) ∧ (∀ q ∈ xs.blk, n ≤ q) ∧ Mod (fun q => q = b3 ∨ H9.size ≤ q) H9 (Array.setIfInBounds H17 (H9.size + 1) (tephralaw05_SortedAll.r1.rec fn tm H9.size .ready none))) ∧ (Array.setIfInBounds H17 (H9.size + 1) (tephralaw05_SortedAll.r1.rec fn tm H9.size .ready none))[H9.size + 1]? = some (tephralaw05_SortedAll.r1.rec fn tm H9.size .ready none)) ∨
            (∃ c, (Value.bool true) = .bool false ∧ False ∧ (Array.setIfInBounds H17 (H9.size + 1) (tephralaw05_SortedAll.r1.rec fn tm H9.size .ready none))[H9.size + 1]? = some (tephralaw05_SortedAll.r1.rec fn tm H9.size .done (some c)))))) := by
      rintro b4 rfl H15 e15
      obtain ⟨v5, m15, s5⟩ := push_facts e15
      refine app_one (p := [.int .i64 ln[i].1]) elInt2 (k12.o.keep m15 fun _ _ e => e) v5 rfl rfl (by omega) fun ys H16 o16 _ m16 b16 => ?_
      have ys' : ∀ q ∈ ys.blk, n ≤ q := fun q hq => (b16 q hq).elim (w3 q) fun h => by omega
      have c16 := m16.get (m15.get k12.c fun e => e) fun h => by have := w3 _ h; omega
      refine ⟨wr_at c16, fun H17 h17 => ?_⟩
      obtain ⟨s17, m17⟩ := set_facts c16 h17
      have l17 := m17.get (m16.get (m15.get l12 fun e => e) fun h => by have := w3 _ h; omega) (show ¬ H9.size + 1 = b3 by omega)
      obtain ⟨l18, m18⟩ := rec_facts (o' := tephralaw05_SortedAll.r1.rec fn tm H9.size .ready none) l17 rfl
      have o18 : Own (Array.setIfInBounds H17 (H9.size + 1) (tephralaw05_SortedAll.r1.rec fn tm H9.size .ready none)) ys T_int 1 (kVs (ln.take (i + 1))) := by
        have e : kVs (ln.take (i + 1)) = kVs (ln.take i) ++ [.int .i64 ln[i].1] := by rw [List.take_succ_eq_append_getElem hi, kVs, List.map_append]; rfl
        rw [e]
        have := (o16.keep m17 fun q hq h => by have := ys' q hq; have h : q = b3 := h; omega).keep m18 fun q hq h => by have := ys' q hq; have h : q = H9.size + 1 := h; omega
        exact this
      refine ⟨⟨_, _, l17⟩, (m11.mono fun q _ h => by have h : q = H9.size + 1 := h; omega).trans ((m12.mono fun _ _ e => e.elim).trans ((m15.mono fun _ _ e => e.elim).trans ((m16.mono fun q _ h => by have := w3 q h; omega).trans ((m17.mono fun q _ h => by have h : q = b3 := h; omega).trans (m18.mono fun q _ h => by have h : q = H9.size + 1 := h; omega))))), Or.inl ⟨rfl, ⟨ys, ⟨m18.get s17 (by omega), o18, fun q hq => by have := ys' q hq; omega⟩, ys', ?_⟩, l18⟩⟩
      exact w4.trans ((m11.mono fun q _ h => Or.inr (by have h : q = H9.size + 1 := h; omega)).trans ((m12.mono fun _ _ e => e.elim).trans ((m15.mono fun _ _ e => e.elim).trans ((m16.mono fun q _ h => Or.inr (by have := w3 q h; omega)).trans ((m17.mono fun q _ h => Or.inl h).trans (m18.mono fun q _ h => Or.inr (by have h : q = H9.size + 1 := h; omega)))))))
    refine Br.no rfl ?_
    rw [show ((some ln[i].2).getD 0 != ln[i].2) = false from by simp]
    apply tephralaw05_SortedAll.k1.step; unfold tephralaw05_SortedAll.k1.body
    refine Br.no rfl ⟨xs, cell_at k12.c, ?_⟩
    by_cases h0 : 0 < i
    · have hw : w64 ((xs.len : Int) - 1) = ((i - 1 : Nat) : Int) := by rw [w64_id (by omega) (by omega)]; omega
      refine Br.yes (by simp; omega) ⟨xs, cell_at k12.c, xs, cell_at k12.c, ?_⟩
      rw [hw]
      have hi1 : i - 1 < (ln.take i).length := by rw [List.length_take]; omega
      obtain ⟨p, hp, hcell⟩ := kRow (Own.rows k12.o) hi1
      have e1 : (ln.take i)[i - 1] = ln[i - 1] := List.getElem_take
      rw [e1] at hcell
      have hlt : ln[i - 1].1 < ln[i].1 := rn (i - 1) i (by omega) hi (by omega)
      refine ⟨⟨by omega, by omega⟩, vPtr.mk p hp ⟨ln[i - 1].1, by rw [Int.toNat_natCast, Nat.mul_one]; exact hcell, Br.no (by simp; omega) ⟨xs, cell_at k12.c, add⟩⟩⟩
    · exact Br.no (by simp; omega) ⟨xs, cell_at k12.c, add⟩
  · rintro n H22 hn hn' ⟨xs, w1, w3, w4⟩
    rw [List.take_length] at w1
    have a22 := a9.keep w4 fun q h => by have := a9.n; omega
    have hxl := kLen w1.o
    refine jump_none ⟨xs, cell_at w1.c, ?_⟩
    intro b6 hb6 H23 h23
    obtain ⟨q23, m23, s23⟩ := push_facts h23
    rw [← hb6] at q23
    refine ⟨wr_at q23, fun H24 h24 => ?_⟩
    obtain ⟨q24, m24⟩ := set_facts q23 h24
    have m2224 : Mod (fun _ => False) H22 H24 := Mod.fresh ((m23.mono fun _ _ e => e.elim).trans m24) fun q h => by have h : q = b6 := h; omega
    have a24 := a22.keep m2224 fun _ h => h.elim
    refine ⟨_, cell_at a24.c2, MI.back_st a24.m fun fv1 H25 gs1 m25 => ?_⟩
    intro fn1 tm1 hT1
    have a25 := a24.keep m25 fun _ h => h.elim
    have k25 := (w1.keep m2224 (fun e => e) fun _ _ e => e).keep m25 (fun e => e) fun _ _ e => e
    have q25 := m25.get q24 fun e => e
    have l6 := lt_of_get q25
    have lk := Own.lt k25.o
    have lk22 := Own.lt w1.o
    have l3 := lt_of_get w1.c
    have l3' := lt_of_get k25.c
    have z2224 := m2224.size
    have z25 := m25.size
    have kk : ∀ {H' : Hp}, Mod (fun q => q ∈ [b6] ∨ H25.size ≤ q) H25 H' → AF H H' b b1 b2 H3.size b3 F ln stop ∧ KS H' b3 xs ln := by
      intro H' m
      have := a22.n
      have := a25.n
      exact ⟨a25.keep m fun q h => by simp at h; omega, k25.keep m (fun h => by simp at h; omega) fun q hq h => by have := lk22 q hq; have := lk q hq; simp at h; omega⟩
    have l24 : b6 < H24.size := lt_of_get q24
    refine gs1.range' (rec := tephralaw05_SortedAll.r2.rec fn1 tm1 H25.size) [b6] (fun i H' => H'[b6]? = some (.cells #[.int .i64 ((ln.length : Int) - i)] T_int (0, 0))) (fun _ _ => False) ?_ ?_ (fun _ _ _ h _ => h.elim) ?_ ?_ ?_ (fun _ _ _ h => h.elim)
    · intro q hq
      simp at hq; subst hq
      refine ⟨l6, fun h => ?_⟩
      simp only [List.mem_cons] at h
      rcases h with h | h | h
      · omega
      · have := (a22.lt H3.size (by simp)).2; have := a22.n; omega
      · have := (a22.lt _ (Or.inr (Or.inr (Or.inr (Or.inr h))))).2; have := a22.n; omega
    · intro i Ha Hb h m
      exact m.get h (by omega)
    · rw [← hxl] at q25; simpa using q25
    · intro i hi H26 m26 s26 hrec
      rw [List.length_reverse] at hi
      refine tephralaw05_SortedAll.r2.calls hrec hT1 ⟨hrec, fun H27 e27 => ?_⟩
      obtain ⟨l27, m27⟩ := rec_facts hrec e27
      have s27 := m27.get s26 (by omega)
      refine ⟨_, cell_at s27, wr_at s27, fun H28 h28 => ?_⟩
      obtain ⟨s28, m28⟩ := set_facts s27 h28
      have hw : w64 ((ln.length : Int) - (i : Int) - 1) = ((ln.length - 1 - i : Nat) : Int) := by rw [w64_id (by omega) (by omega)]; omega
      rw [hw] at s28
      have m2528 : Mod (fun q => q ∈ [b6] ∨ H25.size ≤ q) H25 H28 := m26.trans ((m27.mono fun q _ h => by have h : q = H25.size + 1 := h; right; omega).trans (m28.mono fun q _ h => by have h : q = b6 := h; simp [h]))
      obtain ⟨a28, k28⟩ := kk m2528
      have hxl28 := kLen k28.o
      have hil : ln.length - 1 - i < ln.length := by omega
      obtain ⟨p, hp, hcell⟩ := kRow (Own.rows k28.o) hil
      have l28 := m28.get l27 (show ¬ H25.size + 1 = b6 by omega)
      have er : ln.reverse[i] = ln[ln.length - 1 - i] := List.getElem_reverse _
      rw [er]
      refine ⟨_, cell_at s28, Br.no (by simp) ⟨xs, cell_at k28.c, _, cell_at s28, ⟨by omega, by omega⟩, vPtr.mk p hp ⟨ln[ln.length - 1 - i].1, by rw [Int.toNat_natCast, Nat.mul_one]; exact hcell, Br.no (by simp) ?_⟩⟩⟩
      obtain ⟨l29, m29⟩ := rec_facts (o' := tephralaw05_SortedAll.r2.rec fn1 tm1 H25.size .ready none) l28 rfl
      refine ⟨⟨_, _, l28⟩, (m27.mono fun q _ h => Or.inr h).trans ((m28.mono fun q _ h => Or.inl (by have h : q = b6 := h; simp [h])).trans (m29.mono fun q _ h => Or.inr h)), Or.inl ⟨rfl, ?_, l29⟩⟩
      have := m29.get s28 (by omega)
      rw [this]
      congr 5
      omega
    · intro H32 m32 s32
      rw [List.length_reverse] at s32
      obtain ⟨a32, k32⟩ := kk m32
      have z32 := m32.size
      refine jump_none ?_
      intro b7 hb7 H33 h33
      obtain ⟨q33, m33, s33⟩ := push_facts h33
      rw [← hb7] at q33
      refine ⟨wr_at q33, fun H34 h34 => ?_⟩
      obtain ⟨q34, m34⟩ := set_facts q33 h34
      have m3234 : Mod (fun _ => False) H32 H34 := Mod.fresh ((m33.mono fun _ _ e => e.elim).trans m34) fun q h => by have h : q = b7 := h; omega
      have lk32 := Own.lt k32.o
      have hn22 := a22.n
      have s34 := m3234.get s32 fun e => e
      rw [Int.sub_self] at s34
      exact All_l1 (by omega) rn hs hf ⟨Nat.le_refl _, by omega, by omega⟩ ⟨by omega, by omega, fun h => by have := lk32 _ h; omega⟩ ln.length 0 H34 (by omega) (a32.keep m3234 fun _ h => h.elim) (k32.keep m3234 (fun e => e) fun _ _ e => e) s34 (by simpa using q34) fun i hi h => by omega
end
end Go.Proofs
