/- LAYER 05: SortedAll. -/
import Derived.Test.YtnoojgphfinmfaaKn9
import Derived.Test.YtnoojgphfinmfaaKe1
set_option linter.all false
set_option linter.constructorNameAsVariable false
namespace Go.Proofs
open Go Go.KC

theorem int_inf2 : (Try.prog.info? T_int).map (fun i => (i.zero, i.size, i.bytes)) = some (some (.int .i64 0), 1, 8) := by kernel_rfl
theorem elInt2 : El Try.prog T_sl_int T_int 1 := by
  refine ⟨by kernel_rfl, ?_, by omega⟩
  have h := int_inf2
  cases hi : Try.prog.info? T_int with
  | none => rw [hi] at h; simp at h
  | some ti =>
    rw [hi] at h; simp at h
    exact ⟨ti, _, rfl, h.1, h.2.1, by omega, by omega, rfl, rfl⟩
abbrev kVs (l : List (Int × Int)) : List Value := l.map fun p => Value.int .i64 p.1
theorem kRow {H : Hp} {x : Sl} {l : List (Int × Int)} (h : Rows H x 1 (kVs l)) {i : Nat} (hi : i < l.length) : ∃ a, x.a = some a ∧ Hp.cell? H (a.add i) = some (.int .i64 l[i].1) :=
  h.get (j := i) (by simp [hi])
theorem kLen {H : Hp} {x : Sl} {e : TypeId} {l : List (Int × Int)} (h : Own H x e 1 (kVs l)) : l.length = x.len := by
  have := h.1; simpa using this

/-- What stays while keys are gone over. -/
structure AF (H H' : Hp) (b b1 b2 g N : Nat) (F : List Nat) (ln : List (Int × Int)) (stop : Int) : Prop where
  c0 : H'[b]? = some (.cells #[.int .u8 stop] T_uint8 (0, 0))
  c1 : H'[b1]? = some (.cells #[.bool false] T_bool (0, 0))
  c2 : H'[b2]? = some (.cells #[.pointer (some ⟨g, 0, none⟩)] T_p_sorted_Map_int_int (0, 0))
  m : MI.Mp H' g 0 F ln
  lt : ∀ q, (q = b ∨ q = b1 ∨ q = b2 ∨ q = g ∨ q ∈ F) → H.size ≤ q ∧ q < N
  n : N ≤ H'.size
  h : Mod (fun q => H.size ≤ q) H H'
theorem AF.keep {H H' H'' : Hp} {b b1 b2 g N : Nat} {F : List Nat} {ln : List (Int × Int)} {stop : Int} {μ : Nat → Prop} (a : AF H H' b b1 b2 g N F ln stop) (m : Mod μ H' H'') (hμ : ∀ q, μ q → N ≤ q) : AF H H'' b b1 b2 g N F ln stop := by
  have no : ∀ q, (q = b ∨ q = b1 ∨ q = b2 ∨ q = g ∨ q ∈ F) → ¬ μ q := fun q h hm => by have := (a.lt q h).2; have := hμ q hm; omega
  have hHN : H.size ≤ N := by have := a.lt b (Or.inl rfl); omega
  exact ⟨m.get a.c0 (no b (by simp)), m.get a.c1 (no b1 (by simp)), m.get a.c2 (no b2 (by simp)), a.m.keep m (no g (by simp)) fun q hq => no q (by simp [hq]), a.lt, Nat.le_trans a.n m.size, a.h.trans (m.mono fun q _ h => by have := hμ q h; omega)⟩
/-- The keys that were found. -/
structure KS (H' : Hp) (b3 : Nat) (xs : Sl) (ln : List (Int × Int)) : Prop where
  c : H'[b3]? = some (.cells #[.slice xs.a xs.len xs.cap] T_sl_int (0, 0))
  o : Own H' xs T_int 1 (kVs ln)
  f : ∀ q ∈ xs.blk, b3 < q
theorem KS.keep {H' H'' : Hp} {b3 : Nat} {xs : Sl} {ln : List (Int × Int)} {μ : Nat → Prop} (k : KS H' b3 xs ln) (m : Mod μ H' H'') (h1 : ¬ μ b3) (h2 : ∀ q ∈ xs.blk, ¬ μ q) : KS H'' b3 xs ln := ⟨m.get k.c h1, k.o.keep m h2, k.f⟩

theorem MI_get2 (l : List (Int × Int)) (k : Int) : MI.get l k = ((valL l k).getD 0, (valL l k).isSome) := by
  unfold MI.get valL
  cases l.find? (fun p => decide (p.1 = k)) <;> rfl
theorem ofA_len2 : ∀ (xs : List Ac), Rise (ofA xs) ∧ (ofA xs).length ≤ xs.length := by
  intro xs
  have : ∀ n, Rise (ofA (xs.take n)) ∧ (ofA (xs.take n)).length ≤ n := by
    intro n
    induction n with
    | zero => simp [ofA]; exact Rise.nil
    | succ n ih =>
      by_cases hn : n < xs.length
      · rw [List.take_succ_eq_append_getElem hn, ofA_snoc]
        exact ⟨putL_rise ih.1 _ _, by have := putL_length (ofA (xs.take n)) xs[n].key xs[n].value ih.1; omega⟩
      · rw [List.take_of_length_le (by omega)] at ih ⊢
        exact ⟨ih.1, by omega⟩
  have := this xs.length
  rwa [List.take_length] at this

section
variable {H : Hp} {b b1 b2 g N : Nat} {F : List Nat} {ln : List (Int × Int)} {stop fromv : Int}
/-- The last lines. -/
theorem All_k5 {b3 b6 b7 b8 at0 seen : Nat} {H45 : Hp} {xs : Sl} (a : AF H H45 b b1 b2 g N F ln stop) (ks : KS H45 b3 xs ln) (k6 : H45[b6]? = some (.cells #[.int .i64 0] T_int (0, 0))) (k7 : H45[b7]? = some (.cells #[.int .i64 (at0 : Int)] T_int (0, 0))) (k8 : H45[b8]? = some (.cells #[.int .i64 (seen : Int)] T_int (0, 0)))
    (hl : ln.length ≤ 1000) (hat : at0 ≤ ln.length) (hs : 0 ≤ stop ∧ stop ≤ 255) (hseen : (seen : Int) = if Int.tmod stop 70 + 1 < (ln.length : Int) - at0 then Int.tmod stop 70 + 1 else (ln.length : Int) - at0) :
    tephralaw05_SortedAll.k5 J0 b b1 b2 b3 b6 b7 b8 H45 (TellPost H (.bool true)) := by
  apply tephralaw05_SortedAll.k5.step; unfold tephralaw05_SortedAll.k5.body
  have hxl := kLen ks.o
  have ht : 0 ≤ Int.tmod stop 70 ∧ Int.tmod stop 70 < 70 := ⟨Int.tmod_nonneg _ hs.1, Int.tmod_lt_of_pos _ (by omega)⟩
  have w1 : w64 (Int.tmod stop 70) = Int.tmod stop 70 := w64_id (by omega) (by omega)
  have w2 : w64 (Int.tmod stop 70 + 1) = Int.tmod stop 70 + 1 := w64_id (by omega) (by omega)
  have w3 : w64 (((xs.len : Nat) : Int) - (at0 : Int)) = (ln.length : Int) - at0 := by rw [← hxl]; exact w64_id (by omega) (by omega)
  have val : ((seen : Int) == (if (w64 ((w64 ((Int.tmod stop 70))) + 1)) < (w64 (((xs.len : Nat) : Int) - (at0 : Int))) then (w64 ((w64 ((Int.tmod stop 70))) + 1)) else (w64 (((xs.len : Nat) : Int) - (at0 : Int))))) = true := by
    rw [w1, w2, w3, hseen]; simp
  have done : ∀ {H46 H47 : Hp} {x : Bool}, Mod (fun _ => False) H45 H46 → x = true → H47 = Hp.setCell H46 (Addr.mk b1 0 none) (.bool x) → ∃ x59 : Bool, Hp.cell? H47 (Addr.mk b1 0 none) = some (.bool x59) ∧ TellPost H (.bool true) (.bool x59) H47 := by
    intro H46 H47 x m hx h47
    have a' := a.keep m fun _ h => h.elim
    obtain ⟨s47, m47⟩ := set_facts a'.c1 h47
    rw [hx] at s47
    exact ⟨true, cell_at s47, rfl, Mod.fresh (a'.h.trans (m47.mono fun q _ h => by have h : q = b1 := h; have := (a.lt b1 (by simp)).1; omega)) fun q h => h⟩
  refine ⟨_, cell_at k6, Br.yes rfl ⟨_, cell_at a.c2, ⟨xs, cell_at ks.c, ?_⟩, ?_⟩⟩
  · refine MI.len_step a.m fun H46 m46 => Br.yes (by rw [hxl]; simp) ?_
    have a' := a.keep m46 fun _ h => h.elim
    exact ⟨_, cell_at (m46.get k8 fun e => e), xs, cell_at (m46.get ks.c fun e => e), _, cell_at (m46.get k7 fun e => e), _, cell_at a'.c0, by omega, wr_at a'.c1, fun H47 h47 => done m46 val h47⟩
  · refine MI.len_step a.m fun H46 m46 => ⟨xs, cell_at (m46.get ks.c fun e => e), Br.yes (by rw [hxl]; simp) ?_⟩
    have a' := a.keep m46 fun _ h => h.elim
    exact ⟨_, cell_at (m46.get k8 fun e => e), xs, cell_at (m46.get ks.c fun e => e), _, cell_at (m46.get k7 fun e => e), _, cell_at a'.c0, by omega, wr_at a'.c1, fun H47 h47 => done m46 val h47⟩

/-- From: the fourth way. -/
theorem All_k3 {b3 b6 b7 at0 : Nat} {H35 : Hp} {xs : Sl} (a : AF H H35 b b1 b2 g N F ln stop) (ks : KS H35 b3 xs ln) (k6 : H35[b6]? = some (.cells #[.int .i64 0] T_int (0, 0))) (k7 : H35[b7]? = some (.cells #[.int .i64 (at0 : Int)] T_int (0, 0)))
    (hl : ln.length ≤ 1000) (hat : at0 ≤ ln.length) (hs : 0 ≤ stop ∧ stop ≤ 255) (sp : Spot ln fromv at0) (hf : -128 ≤ fromv ∧ fromv ≤ 127) (h37 : N ≤ b3 ∧ N ≤ b6 ∧ N ≤ b7) :
    tephralaw05_SortedAll.k3 J0 fromv b b1 b2 b3 b6 b7 H35 (TellPost H (.bool true)) := by
  apply tephralaw05_SortedAll.k3.step; unfold tephralaw05_SortedAll.k3.body
  intro b8 hb8 H37 h37'
  obtain ⟨q37, m37, s37⟩ := push_facts h37'
  rw [← hb8] at q37
  refine ⟨wr_at q37, fun H38 h38 => ?_⟩
  obtain ⟨q38, m38⟩ := set_facts q37 h38
  have m3538 : Mod (fun _ => False) H35 H38 := Mod.fresh ((m37.mono fun _ _ e => e.elim).trans m38) fun q h => by have h : q = b8 := h; omega
  have a38 := a.keep m3538 fun _ h => h.elim
  have wf : w64 fromv = fromv := w64_id (by omega) (by omega)
  refine ⟨_, cell_at a38.c2, ?_⟩
  rw [wf]
  refine MI.from_st (k := fromv) a38.m fun i fv B H39 sp' gs hB m39 => ?_
  have ei : i = at0 := by rw [spotOf_eq sp', spotOf_eq sp]
  subst ei
  intro fn tm hT
  have a39 := a38.keep m39 fun _ h => h.elim
  have ks39 := (ks.keep m3538 (fun e => e) fun _ _ e => e).keep m39 (fun e => e) fun _ _ e => e
  have k639 := m39.get (m3538.get k6 fun e => e) fun e => e
  have k739 := m39.get (m3538.get k7 fun e => e) fun e => e
  have k839 := m39.get q38 fun e => e
  have lk := Own.lt ks39.o
  have z39 := m39.size
  have l3 := lt_of_get ks39.c
  have l6 := lt_of_get k639
  have l7 := lt_of_get k739
  have l8 := lt_of_get k839
  have hn := a39.n
  have hxl := kLen ks39.o
  have ht : 0 ≤ Int.tmod stop 70 ∧ Int.tmod stop 70 < 70 := ⟨Int.tmod_nonneg _ hs.1, Int.tmod_lt_of_pos _ (by omega)⟩
  have w1 : w64 (Int.tmod stop 70) = Int.tmod stop 70 := w64_id (by omega) (by omega)
  have n35 : ∀ {q}, q < H35.size → q ≠ b8 := fun h => by omega
  have l3' := lt_of_get ks.c
  have l6' := lt_of_get k6
  have l7' := lt_of_get k7
  have lk' := Own.lt ks.o
  have hdl : (ln.drop i).length = ln.length - i := List.length_drop
  -- what is so while the range goes
  have kk : ∀ {H' : Hp}, Mod (fun q => q ∈ [b8] ∨ H39.size ≤ q) H39 H' → AF H H' b b1 b2 g N F ln stop ∧ KS H' b3 xs ln ∧ H'[b6]? = some (.cells #[.int .i64 0] T_int (0, 0)) ∧ H'[b7]? = some (.cells #[.int .i64 (i : Int)] T_int (0, 0)) := by
    intro H' m
    have := a.n
    exact ⟨a39.keep m fun q h => by simp at h; omega, ks39.keep m (fun h => by simp at h; omega) fun q hq h => by have := lk' q hq; simp at h; have := lk q hq; omega, m.get k639 fun h => by simp at h; omega, m.get k739 fun h => by simp at h; omega⟩
  refine gs.range' (rec := tephralaw05_SortedAll.r3.rec fn tm H39.size) [b8] (fun j H' => H'[b8]? = some (.cells #[.int .i64 (j : Int)] T_int (0, 0)) ∧ (j : Int) ≤ Int.tmod stop 70)
    (fun c H' => c = .exit 6 ∧ ∃ j : Nat, H'[b8]? = some (.cells #[.int .i64 (j : Int)] T_int (0, 0)) ∧ (j : Int) = Int.tmod stop 70 + 1 ∧ j ≤ ln.length - i) ?_ ?_ ?_ ⟨k839, by simpa using ht.1⟩ ?_ ?_ ?_
  · intro q hq
    simp at hq; subst hq
    refine ⟨l8, fun h => ?_⟩
    rcases hB q h with h | h
    · have := lt_of_get q38; omega
    · have := (a.lt q (by simp [h])).2; have := a.n; omega
  · rintro j Ha Hb ⟨h1, h2⟩ m
    exact ⟨m.get h1 (by omega), h2⟩
  · rintro c Ha Hb ⟨h1, j, h2, h3⟩ m
    exact ⟨h1, j, m.get h2 (by omega), h3⟩
  · rintro j hj H40 m40 ⟨s40, hjs⟩ hrec
    have hjl : i + j < ln.length := by omega
    refine tephralaw05_SortedAll.r3.calls hrec hT ⟨hrec, fun H41 e41 => ?_⟩
    obtain ⟨l41, m41⟩ := rec_facts hrec e41
    have m3941 : Mod (fun q => q ∈ [b8] ∨ H39.size ≤ q) H39 H41 := m40.trans (m41.mono fun q _ h => by have h : q = H39.size + 1 := h; right; omega)
    obtain ⟨a41, ks41, k641, k741⟩ := kk m3941
    have s41 := m41.get s40 (by omega)
    have hw : w64 ((i : Int) + (j : Int)) = ((i + j : Nat) : Int) := by rw [w64_id (by omega) (by omega)]; omega
    refine ⟨_, cell_at k741, _, cell_at s41, xs, cell_at ks41.c, ?_⟩
    rw [hw]
    obtain ⟨p, hp, hcell⟩ := kRow (Own.rows ks41.o) hjl
    refine Br.no (by simp; omega) ⟨xs, cell_at ks41.c, _, cell_at k741, _, cell_at s41, ?_⟩
    rw [hw]
    refine ⟨⟨by omega, by omega⟩, vPtr.mk p hp ⟨ln[i + j].1, by rw [Int.toNat_natCast, Nat.mul_one]; exact hcell, ?_⟩⟩
    have ed : (ln.drop i)[j] = ln[i + j] := List.getElem_drop
    rw [ed]
    apply tephralaw05_SortedAll.k4.step; unfold tephralaw05_SortedAll.k4.body
    refine Br.no (by simp) ⟨_, cell_at s41, wr_at s41, fun H43 h43 => ?_⟩
    obtain ⟨s43, m43⟩ := set_facts s41 h43
    rw [w64_id (x := (j : Int) + 1) (by omega) (by omega)] at s43
    have m3943 : Mod (fun q => q ∈ [b8] ∨ H39.size ≤ q) H39 H43 := m3941.trans (m43.mono fun q _ h => by have h : q = b8 := h; simp [h])
    obtain ⟨a43, ks43, k643, k743⟩ := kk m3943
    have l43 := m43.get l41 (show ¬ H39.size + 1 = b8 by omega)
    have mm : ∀ {o : Obj}, Mod (fun q => q ∈ [b8] ∨ q = H39.size + 1) H40 (Array.setIfInBounds H43 (H39.size + 1) o) := (m41.mono fun q _ h => Or.inr h).trans ((m43.mono fun q _ h => Or.inl (by have h : q = b8 := h; simp [h])).trans ((rec_facts (o' := _) l43 rfl).2.mono fun q _ h => Or.inr h))
    refine ⟨_, cell_at s43, _, cell_at a43.c0, by omega, ?_⟩
    rw [w1]
    by_cases hst : (j : Int) + 1 > Int.tmod stop 70
    · refine Br.yes (decide_eq_true hst) ⟨⟨_, _, l43⟩, mm, Or.inr ⟨_, rfl, ⟨rfl, j + 1, ?_, by omega, by omega⟩, (rec_facts (o' := _) l43 rfl).1⟩⟩
      have := (rec_facts (o' := tephralaw05_SortedAll.r3.rec fn tm H39.size .done (some (.exit 6))) l43 rfl).2.get s43 (by omega)
      simpa using this
    · refine Br.no (decide_eq_false hst) ⟨⟨_, _, l43⟩, mm, Or.inl ⟨rfl, ⟨?_, by omega⟩, (rec_facts (o' := _) l43 rfl).1⟩⟩
      have := (rec_facts (o' := tephralaw05_SortedAll.r3.rec fn tm H39.size .ready none) l43 rfl).2.get s43 (by omega)
      simpa using this
  · rintro H' m' ⟨s', hj⟩
    obtain ⟨a', ks', k6', k7'⟩ := kk m'
    refine jump1_none (All_k5 a' ks' k6' k7' s' hl hat hs ?_)
    rw [hdl] at hj ⊢
    rw [if_neg (by omega)]; omega
  · rintro c H' m' ⟨rfl, j, s', hj, hjl⟩
    obtain ⟨a', ks', k6', k7'⟩ := kk m'
    refine jump1_exit (All_k5 a' ks' k6' k7' s' hl hat hs ?_)
    split <;> omega

/-- The place at which one begins. -/
theorem All_l1 {b3 b6 b7 : Nat} {xs : Sl} (hl : ln.length ≤ 1000) (hr : Rise ln) (hs : 0 ≤ stop ∧ stop ≤ 255) (hf : -128 ≤ fromv ∧ fromv ≤ 127) (h37 : N ≤ b3 ∧ N ≤ b6 ∧ N ≤ b7) (hne : b7 ≠ b3 ∧ b7 ≠ b6 ∧ b7 ∉ xs.blk) :
    ∀ (d at0 : Nat) (H35 : Hp), at0 + d = ln.length → AF H H35 b b1 b2 g N F ln stop → KS H35 b3 xs ln → H35[b6]? = some (.cells #[.int .i64 0] T_int (0, 0)) → H35[b7]? = some (.cells #[.int .i64 (at0 : Int)] T_int (0, 0)) →
      (∀ i (hi : i < ln.length), i < at0 → ln[i].1 < fromv) → tephralaw05_SortedAll.l1 J0 fromv b b1 b2 b3 b6 b7 H35 (TellPost H (.bool true)) := by
  intro d
  have wf : w64 fromv = fromv := w64_id (by omega) (by omega)
  induction d with
  | zero =>
    intro at0 H35 hd a ks k6 k7 hlo
    apply tephralaw05_SortedAll.l1.step; unfold tephralaw05_SortedAll.l1.body
    have hxl := kLen ks.o
    refine ⟨_, cell_at k7, xs, cell_at ks.c, Br.no (by simp; omega) (All_k3 a ks k6 k7 hl (by omega) hs ⟨by omega, fun i hi h => hlo i hi h, fun i hi h => by omega⟩ hf h37)⟩
  | succ d ih =>
    intro at0 H35 hd a ks k6 k7 hlo
    apply tephralaw05_SortedAll.l1.step; unfold tephralaw05_SortedAll.l1.body
    have hxl := kLen ks.o
    have hal : at0 < ln.length := by omega
    obtain ⟨p, hp, hcell⟩ := kRow (Own.rows ks.o) hal
    refine ⟨_, cell_at k7, xs, cell_at ks.c, Br.yes (by simp; omega) ⟨xs, cell_at ks.c, _, cell_at k7, ⟨by omega, by omega⟩, vPtr.mk p hp ⟨ln[at0].1, by simpa using hcell, ?_⟩⟩⟩
    rw [wf]
    by_cases hlt : ln[at0].1 < fromv
    · refine Br.yes (decide_eq_true hlt) ?_
      apply tephralaw05_SortedAll.k2.step; unfold tephralaw05_SortedAll.k2.body
      refine ⟨_, cell_at k7, wr_at k7, fun H36 h36 => ?_⟩
      obtain ⟨s36, m36⟩ := set_facts k7 h36
      rw [w64_id (x := (at0 : Int) + 1) (by omega) (by omega)] at s36
      refine ih (at0 + 1) H36 (by omega) (a.keep m36 fun q h => by have h : q = b7 := h; omega) (ks.keep m36 (fun h => hne.1 (by have h : b3 = b7 := h; exact h.symm)) fun q hq h => hne.2.2 (by have h : q = b7 := h; rw [← h]; exact hq)) (m36.get k6 fun h => hne.2.1 (by have h : b6 = b7 := h; exact h.symm)) (by simpa using s36) fun i hi h => ?_
      by_cases c : i = at0
      · subst c; exact hlt
      · exact hlo i hi (by omega)
    · refine Br.no (decide_eq_false hlt) (All_k3 a ks k6 k7 hl (by omega) hs ⟨by omega, fun i hi h => hlo i hi h, fun i hi h hc => ?_⟩ hf h37)
      have hc : ln[i].1 < fromv := hc
      by_cases c : i = at0
      · subst c; exact hlt hc
      · have : ln[at0].1 < ln[i].1 := hr at0 i hal hi (by omega)
        omega
end
end Go.Proofs
