/- LAYER 05: SortedDel. -/
import Derived.Test.YtnoojgphfinmfaaKn12
import Derived.Test.YtnoojgphfinmfaaKgm1
import Derived.Test.YtnoojgphfinmfaaKe1
set_option linter.all false
set_option linter.constructorNameAsVariable false
namespace Go.Proofs
open Go Go.KC

theorem MI_get' (l : List (Int × Int)) (k : Int) : MI.get l k = ((valL l k).getD 0, (valL l k).isSome) := by
  unfold MI.get valL
  cases l.find? (fun p => decide (p.1 = k)) <;> rfl
theorem keyD_ib : keyD Try.prog T_map_int_bool = some (.int .i64, T_bool) := by kernel_rfl
theorem bool_inf : (Try.prog.info? T_bool).map (fun i => i.zero) = some (some (.bool false)) := by kernel_rfl
theorem bool_zero : ∃ ti, Try.prog.info? T_bool = some ti ∧ ti.zero = some (.bool false) := by
  have h := bool_inf
  cases hi : Try.prog.info? T_bool with
  | none => rw [hi] at h; simp at h
  | some ti => rw [hi] at h; simp at h; exact ⟨ti, rfl, h⟩

theorem ofA_len : ∀ (xs : List Ac), Rise (ofA xs) ∧ (ofA xs).length ≤ xs.length := by
  intro xs
  have : ∀ n, Rise (ofA (xs.take n)) ∧ (ofA (xs.take n)).length ≤ n := by
    intro n
    induction n with
    | zero => simp [ofA]; exact Rise.nil
    | succ n ih =>
      by_cases hn : n < xs.length
      · rw [List.take_succ_eq_append_getElem hn, ofA_snoc]
        exact ⟨putL_rise ih.1 _ _, by have := putL_length (ofA (xs.take n)) xs[n].key xs[n].value ih.1; omega⟩
      · rw [List.take_of_length_le (by omega)] at ih ⊢
        exact ⟨ih.1, by omega⟩
  have := this xs.length
  rwa [List.take_length] at this

theorem rise_filter {κ α : Type} [KO κ] (f : κ × α → Bool) : ∀ l : List (κ × α), Rise l → Rise (l.filter f)
  | [], h => h
  | p :: l, h => by
    rw [List.filter_cons]
    split
    · exact (rise_filter f l h.tail).cons fun q hq => h.head (List.mem_filter.1 hq).1
    · exact rise_filter f l h.tail
/-- What is left when some keys are taken away. -/
def leftL (l : List (Int × Int)) (gone : List Int) : List (Int × Int) := l.filter fun p => decide (p.1 ∉ gone)
theorem leftL_del {l : List (Int × Int)} (hs : Rise l) (gone : List Int) (k : Int) : delL (leftL l gone) k = leftL l (gone ++ [k]) := by
  refine Rise.ext (delL_rise (rise_filter _ l hs) k) (rise_filter _ l hs) fun p => ?_
  have := delL_mem (l := leftL l gone) (rise_filter _ l hs) k p.1 p.2
  rw [show ((p.1, p.2) : Int × Int) = p from rfl] at this
  rw [this]
  unfold leftL
  simp only [List.mem_filter, decide_eq_true_eq, List.mem_append, List.mem_singleton, not_or]
  constructor
  · rintro ⟨h1, h2, h3⟩; exact ⟨h2, h3, h1⟩
  · rintro ⟨h1, h2, h3⟩; exact ⟨h3, h1, h2⟩
theorem leftL_val {l : List (Int × Int)} (hs : Rise l) (gone : List Int) {p : Int × Int} (hp : p ∈ l) : valL (leftL l gone) p.1 = if p.1 ∈ gone then none else some p.2 := by
  split
  · rename_i c
    refine (valL_none (rise_filter _ l hs)).2 fun v hv => ?_
    have := (List.mem_filter.1 hv).2
    simp at this
    exact this c
  · rename_i c
    refine (valL_mem (rise_filter _ l hs)).2 (List.mem_filter.2 ⟨hp, by simpa using c⟩)
def tookF (gone : List Int) : Int → Option Value := fun k => if k ∈ gone then some (.bool true) else none
theorem tookF_put (gone : List Int) (k : Int) : upd (tookF gone) k (some (.bool true)) = tookF (gone ++ [k]) := by
  funext j; unfold upd tookF
  by_cases c : j = k
  · subst c; simp
  · simp [c]

section
variable {H : Hp}
theorem Of_st' {acts : Sl} {xs : List Ac} {K : Option Addr → Hp → Prop} (hr : Rows H acts 3 (xs.map Ac.cells).flatten) (ok : ∀ a ∈ xs, a.ok)
    (hK : ∀ H' F, MI.Mp H' H.size 0 F (ofA (xs.take 60)) → (∀ b ∈ F, H.size < b) → Mod (fun _ => False) H H' → K (some ⟨H.size, 0, none⟩) H') :
    SCalls Try.prog tephralaw05_Of.id [.slice acts.a acts.len acts.cap] H fun r H' => ∃ x : Option Addr, r = .pointer x ∧ K x H' := by
  refine (Of_spec hr ok).mono ?_
  rintro r H' ⟨rfl, m, F, h1, h2⟩
  exact ⟨_, rfl, hK H' F h1 h2 (Mod.fresh m fun _ h => h)⟩

theorem SortedDel_spec {acts gone : Sl} {xs : List Ac} {ks : List Int} (hr : Rows H acts 3 (xs.map Ac.cells).flatten) (ok : ∀ a ∈ xs, a.ok) (hg : Rows H gone 1 (ks.map fun n => Value.int .i8 n)) (hks : ∀ n ∈ ks, -128 ≤ n ∧ n ≤ 127) :
    SCalls Try.prog tephralaw05_SortedDel.id [.slice acts.a acts.len acts.cap, .slice gone.a gone.len gone.cap] H (TellPost H (.bool true)) := by
  apply tephralaw05_SortedDel.calls
  unfold tephralaw05_SortedDel.vc
  have hgl : ks.length = gone.len := by have := hg.1; simpa using this
  have hgcap := hg.2.1
  have e : (if (60 : Int) < ((gone.len : Nat) : Int) then (60 : Int) else ((gone.len : Nat) : Int)).toNat = min 60 gone.len := min_toNat 60 gone.len
  intro b hb H1 h1
  obtain ⟨q1, m1, s1⟩ := push_facts h1
  rw [← hb] at q1
  refine awake05_spec.mono ?_
  rintro r H2 ⟨rfl, m2⟩
  have z2 := m2.size
  refine ⟨_, rfl, Br.no rfl ?_⟩
  refine Of_st' ((hr.keep m1 fun _ _ e => e).keep m2 fun _ _ e => e) ok fun H4 Fm Mm hFm m4 => ?_
  refine Of_st' (((hr.keep m1 fun _ _ e => e).keep m2 fun _ _ e => e).keep m4 fun _ _ e => e) ok fun H5 Fn Mn hFn m5 => ?_
  have hl60 := ofA_len (xs.take 60)
  have hx60 : (xs.take 60).length ≤ 60 := by rw [List.length_take]; omega
  generalize ofA (xs.take 60) = ln at Mm Mn hl60
  obtain ⟨rn, hln⟩ := hl60
  have z4 := m4.size
  have z5 := m5.size
  have lM := Mm.lt
  have lN := Mn.lt
  intro b1 hb1 H6 h6
  obtain ⟨q6, m6, s6⟩ := push_facts h6
  rw [← hb1] at q6
  refine ⟨wr_at q6, fun H7 h7 => ?_⟩
  obtain ⟨q7, m7⟩ := set_facts q6 h7
  have z7 := m7.size
  intro b2 hb2 H8 h8
  have m8 : Mod (fun _ => False) H7 H8 := by rw [h8]; exact Mod.push _ _ _
  have s8 : H8.size = H7.size + 1 := by rw [h8]; simp
  have G8 : GM (fun k : Int => Value.int .i64 k) H8 b2 (tookF []) 0 := by
    have : GM (fun k : Int => Value.int .i64 k) H8 b2 (fun _ => none) 0 := by rw [hb2, h8]; exact GM.new H7
    rwa [show (fun _ : Int => (none : Option Value)) = tookF [] from by funext j; simp [tookF]] at this
  intro b3 hb3 H9 h9
  obtain ⟨q9, m9, s9⟩ := push_facts h9
  rw [← hb3] at q9
  refine ⟨wr_at q9, fun H10 h10 => ?_⟩
  obtain ⟨q10, m10⟩ := set_facts q9 h10
  have z10 := m10.size
  refine ⟨⟨by split <;> omega, by split <;> omega⟩, ?_⟩
  -- what is so before the keys are taken away
  have n1 : b1 = H5.size := hb1
  have m57 : Mod (fun q => q = b1) H5 H7 := (m6.mono fun _ _ e => e.elim).trans m7
  have m710 : Mod (fun q => q = b3) H7 H10 := (m8.mono fun _ _ e => e.elim).trans ((m9.mono fun _ _ e => e.elim).trans m10)
  have m510 : Mod (fun q => q = b1 ∨ q = b3) H5 H10 := (m57.mono fun _ _ h => Or.inl h).trans (m710.mono fun _ _ h => Or.inr h)
  have hm : H2.size ≠ b1 ∧ H2.size ≠ b3 := by omega
  have Mm10 : MI.Mp H10 H2.size 0 Fm ln := (Mm.mod m5).keep m510 (by omega) fun q hq h => by have := lM.2 q hq; omega
  have Mn10 : MI.Mp H10 H4.size 0 Fn ln := Mn.keep m510 (by omega) fun q hq h => by have := lN.2 q hq; omega
  have c1 : H10[b1]? = some (.cells #[.pointer (some ⟨H2.size, 0, none⟩)] T_p_sorted_Map_int_int (0, 0)) := m710.get q7 (by omega)
  have c0 : H10[b]? = some (.cells #[.bool false] T_bool (0, 0)) := m510.get (m5.get (m4.get (m2.get q1 fun e => e) fun e => e) fun e => e) (by omega)
  have G10 : GM (fun k : Int => Value.int .i64 k) H10 b2 (tookF []) 0 := (G8.mod m9).keep m10 (by omega)
  have m010 : Mod (fun q => H.size ≤ q) H H10 := ((m1.trans (m2.trans (m4.trans m5))).mono fun _ _ e => e.elim).trans (m510.mono fun q _ h => by omega)
  have lf : ∀ q ∈ Fm, H2.size < q ∧ q < H4.size := fun q hq => ⟨hFm q hq, lM.2 q hq⟩
  have lfn : ∀ q ∈ Fn, H4.size < q ∧ q < H5.size := fun q hq => ⟨hFn q hq, lN.2 q hq⟩
  -- the end: all keys are gone over
  have fin : ∀ (H11 : Hp) (F : List Nat) (n : Nat), MI.Mp H11 H2.size 0 F (leftL ln (ks.take 60)) → (∀ q ∈ F, q ∈ Fm ∨ H10.size ≤ q) → MI.Mp H11 H4.size 0 Fn ln → GM (fun k : Int => Value.int .i64 k) H11 b2 (tookF (ks.take 60)) n →
      H11[b1]? = some (.cells #[.pointer (some ⟨H2.size, 0, none⟩)] T_p_sorted_Map_int_int (0, 0)) → H11[b]? = some (.cells #[.bool false] T_bool (0, 0)) → H11[b3]? = some (.cells #[.map (some b2)] T_map_int_bool (0, 0)) → Mod (fun q => H.size ≤ q) H H11 → H10.size ≤ H11.size →
      tephralaw05_SortedDel.l1 J0 gone b (some ⟨H4.size, 0, none⟩) b1 b3 H11 ((min 60 gone.len : Nat) : Int) (TellPost H (.bool true)) := by
    intro H11 F n M11 hF N11 G11 k1 k0 k3 mH zH
    apply tephralaw05_SortedDel.l1.step; unfold tephralaw05_SortedDel.l1.body
    rw [e]
    refine Br.no (by simp) ?_
    intro b4 hb4 H14 h14
    obtain ⟨q14, m14, s14⟩ := push_facts h14
    rw [← hb4] at q14
    refine ⟨wr_at q14, fun H15 h15 => ?_⟩
    obtain ⟨q15, m15⟩ := set_facts q14 h15
    have lM11 := M11.lt
    have m1115 : Mod (fun _ => False) H11 H15 := Mod.fresh ((m14.mono fun _ _ e => e.elim).trans m15) fun q h => by have h : q = b4 := h; omega
    have z15 := m1115.size
    refine MI.all_st (N11.mod m1115) fun fv H16 gs m16 => ?_
    intro fn tm hT
    have z16 := m16.size
    have m1116 := m1115.trans m16
    have q16 := m16.get q15 fun e => e
    have M16 := M11.mod m1116
    have N16 := N11.mod m1116
    have G16 := G11.mod m1116
    have k16 := m1116.get k1 fun e => e
    have k016 := m1116.get k0 fun e => e
    have k316 := m1116.get k3 fun e => e
    have lM16 := M16.lt
    have z16' : H15.size ≤ H16.size := m16.size
    have hz15 : H14.size ≤ H15.size := m15.size
    have hb4z : b4 < H15.size := by omega
    refine gs.range' (rec := tephralaw05_SortedDel.r1.rec fn tm H16.size) [b4] (fun i H' => H'[b4]? = some (.cells #[.int .i64 ((leftL (ln.take i) (ks.take 60)).length : Int)] T_int (0, 0))) (fun _ _ => False) ?_ ?_ (fun _ _ _ h _ => h.elim) ?_ ?_ ?_ (fun _ _ _ h => h.elim)
    · intro q hq
      simp at hq; subst hq
      refine ⟨by omega, fun h => ?_⟩
      simp only [List.mem_cons] at h
      rcases h with h | h | h
      · omega
      · omega
      · have := lfn _ h; omega
    · intro i Ha Hb h m
      exact m.get h (by omega)
    · simpa [leftL] using q16
    · intro i hi H17 m17 s17 hrec
      have kk : ∀ {H'}, Mod (fun q => q ∈ [b4] ∨ H16.size ≤ q) H16 H' → MI.Mp H' H2.size 0 F (leftL ln (ks.take 60)) ∧ GM (fun k : Int => Value.int .i64 k) H' b2 (tookF (ks.take 60)) n ∧ H'[b1]? = some (.cells #[.pointer (some ⟨H2.size, 0, none⟩)] T_p_sorted_Map_int_int (0, 0)) ∧ H'[b3]? = some (.cells #[.map (some b2)] T_map_int_bool (0, 0)) := by
        intro H' m
        have lG := G16.lt
        refine ⟨M16.keep m (fun h => by simp at h; omega) fun q hq h => ?_, G16.keep m fun h => by simp at h; omega, m.get k16 fun h => by simp at h; omega, m.get k316 fun h => by simp at h; omega⟩
        have := lM11.2 q hq
        simp at h; omega
      refine tephralaw05_SortedDel.r1.calls hrec hT ⟨hrec, fun H18 e18 => ?_⟩
      obtain ⟨l18, m18⟩ := rec_facts hrec e18
      have m1618 : Mod (fun q => q ∈ [b4] ∨ H16.size ≤ q) H16 H18 := m17.trans (m18.mono fun q _ h => by have h : q = H16.size + 1 := h; right; omega)
      obtain ⟨g1, g2, g3, g4⟩ := kk m1618
      have s18 := m18.get s17 (by omega)
      refine ⟨_, cell_at g3, MI.get_step g1 fun H19 m19 => ?_⟩
      have m1619 := m1618.trans (m19.mono fun _ _ e => e.elim)
      obtain ⟨g1, g2, g3, g4⟩ := kk m1619
      have s19 := m19.get s18 fun e => e
      have l19 := m19.get l18 fun e => e
      rw [MI_get', leftL_val rn (ks.take 60) (List.getElem_mem hi)]
      have look := g2.look keInt keyD_ib bool_zero ln[i].1
      have hlk : (tookF (ks.take 60) ln[i].1).getD (.bool false) = .bool (decide (ln[i].1 ∈ ks.take 60)) := by
        unfold tookF; by_cases c : ln[i].1 ∈ ks.take 60 <;> simp [c]
      rw [hlk] at look
      refine ⟨_, cell_at g4, decide (ln[i].1 ∈ ks.take 60), ⟨_, look⟩, ?_⟩
      have step : leftL (ln.take (i + 1)) (ks.take 60) = leftL (ln.take i) (ks.take 60) ++ if ln[i].1 ∈ ks.take 60 then [] else [ln[i]] := by
        unfold leftL
        rw [List.take_succ_eq_append_getElem hi, List.filter_append]
        by_cases c : ln[i].1 ∈ ks.take 60 <;> simp [c]
      have ends : ∀ {μ : Nat → Prop} {H20 : Hp}, Mod μ H19 H20 → (∀ q, μ q → q = b4) → H20[b4]? = some (.cells #[.int .i64 ((leftL (ln.take (i + 1)) (ks.take 60)).length : Int)] T_int (0, 0)) →
          (∃ st : LoopState, ∃ pd : Option Code, H20[H16.size + 1]? = some (tephralaw05_SortedDel.r1.rec fn tm H16.size st pd)) ∧ Mod (fun q => q ∈ [b4] ∨ q = H16.size + 1) H17 (Array.setIfInBounds H20 (H16.size + 1) (tephralaw05_SortedDel.r1.rec fn tm H16.size .ready none)) ∧
          (((Value.bool true) = .bool true ∧ (Array.setIfInBounds H20 (H16.size + 1) (tephralaw05_SortedDel.r1.rec fn tm H16.size .ready none))[b4]? = some (.cells #[.int .i64 ((leftL (ln.take (i + 1)) (ks.take 60)).length : Int)] T_int (0, 0)) ∧ (Array.setIfInBounds H20 (H16.size + 1) (tephralaw05_SortedDel.r1.rec fn tm H16.size .ready none))[H16.size + 1]? = some (tephralaw05_SortedDel.r1.rec fn tm H16.size .ready none)) ∨
            (∃ c, (Value.bool true) = .bool false ∧ False ∧ (Array.setIfInBounds H20 (H16.size + 1) (tephralaw05_SortedDel.r1.rec fn tm H16.size .ready none))[H16.size + 1]? = some (tephralaw05_SortedDel.r1.rec fn tm H16.size .done (some c)))) := by
        intro μ H20 m20 hμ s20
        have l20 := m20.get l19 fun h => by have := hμ _ h; omega
        obtain ⟨l21, m21⟩ := rec_facts (o' := tephralaw05_SortedDel.r1.rec fn tm H16.size .ready none) l20 rfl
        exact ⟨⟨_, _, l20⟩, (m18.mono fun q _ h => Or.inr h).trans ((m19.mono fun _ _ e => e.elim).trans ((m20.mono fun q _ h => Or.inl (by simp [hμ q h])).trans (m21.mono fun q _ h => Or.inr h))), Or.inl ⟨rfl, m21.get s20 (by omega), l21⟩⟩
      by_cases c : ln[i].1 ∈ ks.take 60
      · rw [if_pos c]
        simp only [c, if_true, List.append_nil] at step
        refine Br.no (by simp [c]) (Br.no rfl ?_)
        apply tephralaw05_SortedDel.k1.step; unfold tephralaw05_SortedDel.k1.body
        refine Br.no rfl (Br.no rfl ?_)
        obtain ⟨r1, r2, r3⟩ := ends (Mod.refl (fun _ => False) H19) (fun _ h => h.elim) (by rw [step]; exact s19)
        refine ⟨r1, r2, ?_⟩
        rcases r3 with h | ⟨_, h, _⟩
        · exact Or.inl h
        · cases h
      · rw [if_neg c]
        simp only [c, if_false] at step
        refine Br.no (by simp [c]) (Br.yes rfl ?_)
        apply tephralaw05_SortedDel.k1.step; unfold tephralaw05_SortedDel.k1.body
        refine Br.no (by simp) (Br.yes rfl ⟨_, cell_at s19, wr_at s19, fun H21 h21 => ?_⟩)
        obtain ⟨s21, m21⟩ := set_facts s19 h21
        have hcnt : (leftL (ln.take i) (ks.take 60)).length ≤ 60 := by
          have h1 : (leftL (ln.take i) (ks.take 60)).length ≤ (ln.take i).length := List.length_filter_le _ _
          rw [List.length_take] at h1; omega
        obtain ⟨r1, r2, r3⟩ := ends m21 (fun _ h => h) (by
          rw [step, List.length_append, List.length_singleton]
          rw [w64_id (by omega) (by omega)] at s21
          exact_mod_cast s21)
        refine ⟨r1, r2, ?_⟩
        rcases r3 with h | ⟨_, h, _⟩
        · exact Or.inl h
        · cases h
    · intro H' m' s'
      have lG := G16.lt
      have M' : MI.Mp H' H2.size 0 F (leftL ln (ks.take 60)) := M16.keep m' (fun h => by simp at h; omega) fun q hq h => by have := lM11.2 q hq; simp at h; omega
      have k1' := m'.get k16 fun h => by simp at h; omega
      have k0' := m'.get k016 fun h => by simp at h; omega
      rw [List.take_length] at s'
      have mT : Mod (fun q => H.size ≤ q) H H' := mH.trans ((m1116.mono fun _ _ e => e.elim).trans (m'.mono fun q _ h => by simp at h; omega))
      have done : ∀ {H24 H25 : Hp} {x : Bool}, Mod (fun _ => False) H' H24 → x = true → H25 = Hp.setCell H24 (Addr.mk b 0 none) (.bool x) → ∃ x23 : Bool, Hp.cell? H25 (Addr.mk b 0 none) = some (.bool x23) ∧ TellPost H (.bool true) (.bool x23) H25 := by
        intro H24 H25 x m24 hx h25
        obtain ⟨s25, m25⟩ := set_facts (m24.get k0' fun e => e) h25
        rw [hx] at s25
        exact ⟨true, cell_at s25, rfl, Mod.fresh (mT.trans ((m24.mono fun _ _ e => e.elim).trans (m25.mono fun q _ h => by have h : q = b := h; omega))) fun q h => h⟩
      refine jump_none ⟨_, cell_at k1', ⟨_, cell_at s', ?_⟩, ?_⟩
      · refine MI.len_step M' fun H24 m24 => ⟨wr_at (m24.get k0' fun e => e), fun H25 h25 => ?_⟩
        exact done m24 (by simp) h25
      · refine MI.len_step M' fun H24 m24 => ⟨_, cell_at (m24.get s' fun e => e), wr_at (m24.get k0' fun e => e), fun H25 h25 => ?_⟩
        exact done m24 (by simp) h25
  have loop : ∀ (d j : Nat) (H11 : Hp) (F : List Nat) (n : Nat), j + d = min 60 gone.len → MI.Mp H11 H2.size 0 F (leftL ln (ks.take j)) → (∀ q ∈ F, q ∈ Fm ∨ H10.size ≤ q) → MI.Mp H11 H4.size 0 Fn ln → GM (fun k : Int => Value.int .i64 k) H11 b2 (tookF (ks.take j)) n →
      H11[b1]? = some (.cells #[.pointer (some ⟨H2.size, 0, none⟩)] T_p_sorted_Map_int_int (0, 0)) → H11[b]? = some (.cells #[.bool false] T_bool (0, 0)) → H11[b3]? = some (.cells #[.map (some b2)] T_map_int_bool (0, 0)) → Mod (fun q => H.size ≤ q) H H11 → H10.size ≤ H11.size →
      tephralaw05_SortedDel.l1 J0 gone b (some ⟨H4.size, 0, none⟩) b1 b3 H11 (j : Int) (TellPost H (.bool true)) := by
    intro d
    induction d with
    | zero =>
      intro j H11 F n hj M11 hF N11 G11 k1 k0 k3 mH zH
      have et : ks.take j = ks.take 60 := by
        by_cases h : 60 ≤ gone.len
        · rw [show j = 60 by omega]
        · rw [List.take_of_length_le (by omega), List.take_of_length_le (by omega)]
      rw [et] at M11 G11
      rw [show j = min 60 gone.len by omega]
      exact fin H11 F n M11 hF N11 G11 k1 k0 k3 mH zH
    | succ d ih =>
      intro j H11 F n hj M11 hF N11 G11 k1 k0 k3 mH zH
      apply tephralaw05_SortedDel.l1.step; unfold tephralaw05_SortedDel.l1.body
      rw [e]
      have hjl : j < ks.length := by omega
      obtain ⟨a, ha, hcell⟩ := Rows.get (hg.keep (Mod.fresh mH fun _ h => h) fun _ _ e => e) (j := j) (v := .int .i8 ks[j]) (by rw [List.getElem?_map, List.getElem?_eq_getElem hjl]; rfl)
      have hb8 := hks _ (List.getElem_mem hjl)
      have wk : w64 ks[j] = ks[j] := w64_id (by omega) (by omega)
      refine Br.yes (by simp; omega) ⟨⟨by omega, by omega⟩, vPtr.mk a (by rw [cutA_zero]; exact ha) ⟨ks[j], by simpa using hcell, _, cell_at k1, ?_⟩⟩
      rw [wk]
      refine (MI.Del_spec (k := ks[j]) M11).mono ?_
      rintro r H12 ⟨i, sp, rfl, F', M12, m12, n12, _⟩
      have eM : delAt (leftL ln (ks.take j)) ks[j] i = leftL ln (ks.take (j + 1)) := by
        rw [List.take_succ_eq_append_getElem hjl, ← leftL_del rn]; unfold delL; rw [spotOf_eq sp]
      rw [eM] at M12
      have z12 := m12.size
      have nF : ∀ q, (q = H2.size ∨ q ∈ F) → q ≠ b ∧ q ≠ b1 ∧ q ≠ b2 ∧ q ≠ b3 ∧ q ≠ H4.size ∧ q ∉ Fn ∧ H.size ≤ q := fun q h => by
        rcases h with h | h
        · exact ⟨by omega, by omega, by omega, by omega, by omega, fun h' => by have := lfn q h'; omega, by omega⟩
        · rcases hF q h with h' | h'
          · have := lf q h'
            exact ⟨by omega, by omega, by omega, by omega, by omega, fun h' => by have := lfn q h'; omega, by omega⟩
          · exact ⟨by omega, by omega, by omega, by omega, by omega, fun h' => by have := lfn q h'; omega, by omega⟩
      have k1' := m12.get k1 fun h => (nF _ h).2.1 rfl
      have k0' := m12.get k0 fun h => (nF _ h).1 rfl
      have k3' := m12.get k3 fun h => (nF _ h).2.2.2.1 rfl
      have N12 := N11.keep m12 (fun h => (nF _ h).2.2.2.2.1 rfl) fun q hq h => (nF q h).2.2.2.2.2.1 hq
      have G12 := G11.keep m12 fun h => (nF _ h).2.2.1 rfl
      refine ⟨_, rfl, _, cell_at k3', G12.put keInt keyD_ib ks[j] (.bool true) fun H13 G13 m13 => ?_⟩
      rw [tookF_put, ← List.take_succ_eq_append_getElem hjl] at G13
      have z13 := m13.size
      have lM12 := M12.lt
      rw [w64_id (x := (j : Int) + 1) (by omega) (by omega)]
      have := ih (j + 1) H13 F' _ (by omega) (M12.keep m13 (by omega) fun q hq h => by
          have h : q = b2 := h
          rcases n12 q hq with h' | h'
          · exact (nF q (Or.inr h')).2.2.1 h
          · have := G12.lt; omega) (fun q hq => (n12 q hq).elim (hF q) fun h => Or.inr (by omega)) (N12.keep m13 (by omega) fun q hq h => by have := lfn q hq; have h : q = b2 := h; omega) G13
        (m13.get k1' (by omega)) (m13.get k0' (by omega)) (m13.get k3' (by omega)) (mH.trans ((m12.mono fun q _ h => (nF q h).2.2.2.2.2.2).trans (m13.mono fun q _ h => by have h : q = b2 := h; omega))) (by omega)
      simpa using this
  have := loop (min 60 gone.len) 0 H10 Fm 0 (by omega) (by rw [show leftL ln (ks.take 0) = ln from by unfold leftL; rw [List.filter_eq_self]; intro p _; simp]; exact Mm10) (fun q hq => Or.inl hq) Mn10 (by simpa using G10) c1 c0 q10 m010 (Nat.le_refl _)
  simpa using this
end
end Go.Proofs
