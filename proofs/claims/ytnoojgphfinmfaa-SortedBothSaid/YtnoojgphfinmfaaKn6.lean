/- LAYER 05: rows of keys; SortedBoth. -/
import Derived.Test.YtnoojgphfinmfaaKn5
set_option linter.all false
set_option linter.constructorNameAsVariable false
namespace Go.Proofs
open Go Go.KC

theorem int_inf : (Try.prog.info? T_int).map (fun i => (i.zero, i.size, i.bytes)) = some (some (.int .i64 0), 1, 8) := by kernel_rfl
theorem elInt : El Try.prog T_sl_int T_int 1 := by
  refine ⟨by kernel_rfl, ?_, by omega⟩
  have h := int_inf
  cases hi : Try.prog.info? T_int with
  | none => rw [hi] at h; simp at h
  | some ti =>
    rw [hi] at h; simp at h
    exact ⟨ti, _, rfl, h.1, h.2.1, by omega, by omega, rfl, rfl⟩
abbrev keyVs (l : List (Int × Int)) : List Value := l.map fun p => Value.int .i64 p.1
theorem keys_eq {l m : List (Int × Int)} (hl : Rise l) (hm : Rise m) (h : ∀ k, (∃ v, (k, v) ∈ l) ↔ ∃ v, (k, v) ∈ m) : l.map (·.1) = m.map (·.1) := by
  have rise : ∀ {l : List (Int × Int)}, Rise l → Rise (l.map fun p => (p.1, ())) := fun {l} hl i j hi hj hij => by
    simp only [List.length_map] at hi hj
    simpa using hl i j hi hj hij
  have := (rise hl).ext (rise hm) fun p => by
    have := h p.1
    simp only [List.mem_map]
    constructor
    · rintro ⟨q, hq, rfl⟩
      obtain ⟨v, hv⟩ := this.1 ⟨q.2, hq⟩
      exact ⟨_, hv, rfl⟩
    · rintro ⟨q, hq, rfl⟩
      obtain ⟨v, hv⟩ := this.2 ⟨q.2, hq⟩
      exact ⟨_, hv, rfl⟩
  have e := congrArg (List.map Prod.fst) this
  simpa [Function.comp_def] using e
theorem keyRow {H : Hp} {x : Sl} {l : List (Int × Int)} (h : Rows H x 1 (keyVs l)) {i : Nat} (hi : i < l.length) : ∃ a, x.a = some a ∧ Hp.cell? H (a.add i) = some (.int .i64 l[i].1) :=
  h.get (j := i) (by simp [hi])
theorem keyLen {H : Hp} {x : Sl} {e : TypeId} {l : List (Int × Int)} (h : Own H x e 1 (keyVs l)) : l.length = x.len := by
  have := h.1; simpa using this

section
variable {H : Hp}
/-- A round that puts a key behind a row. -/
theorem addKey {N base : Nat} {H0 : Hp} {bs : List Nat} {P : Hp → Prop} {C : List (Nat × Value × TypeId)} {b : Nat} {xs : Sl} {l : List (Int × Int)} {p : Int × Int} {i : Nat} {K : Sl → Hp → Prop} (v : V N base H0 bs P C H) (hi : C[i]? = some (b, .slice xs.a xs.len xs.cap, T_sl_int))
    (o : Own H xs T_int 1 (keyVs l)) (hb : ∀ q ∈ xs.blk, N ≤ q) (hl : l.length ≤ 1000)
    (hK : ∀ (ys : Sl) (H' : Hp), V N base H0 bs P C H' → Own H' ys T_int 1 (keyVs (l ++ [p])) → (∀ q ∈ ys.blk, q ∈ xs.blk ∨ H.size ≤ q) → Mod (· ∈ xs.blk) H H' → K ys H') :
    ∀ b4 : Nat, b4 = Array.size H → ∀ H15 : Hp, H15 = (Array.push H (.cells #[.int .i64 p.1] T_int)) → vApp Try.prog T_sl_int xs.a xs.len xs.cap (.slice (some (Addr.mk b4 0 none)) 1 1) H15 K := by
  rintro b4 rfl H15 e15
  obtain ⟨v5, m5, s5⟩ := push_facts e15
  have hlen := keyLen o
  refine app_one (p := [.int .i64 p.1]) elInt (o.keep m5 fun _ _ e => e) v5 rfl rfl (by omega) fun ys H6 o6 _ m6 b6 => ?_
  refine hK ys H6 ((v.mod m5).keep m6 fun q hq => hb q hq) (by simpa [keyVs] using o6) (fun q hq => (b6 q hq).imp id fun h => by omega) ((m5.mono fun _ _ e => e.elim).trans m6)

set_option maxHeartbeats 4000000 in
theorem SortedBoth_spec {a b : Sl} {xs ys : List Ac} (hra : Rows H a 3 (xs.map Ac.cells).flatten) (oka : ∀ a ∈ xs, a.ok) (hrb : Rows H b 3 (ys.map Ac.cells).flatten) (okb : ∀ a ∈ ys, a.ok) :
    SCalls Try.prog tephralaw05_SortedBoth.id [.slice a.a a.len a.cap, .slice b.a b.len b.cap] H fun r H' => r = .bool true ∧ Mod (fun _ => False) H H' := by
  apply tephralaw05_SortedBoth.calls
  refine awake05_spec.mono ?_
  rintro r H3 ⟨rfl, m3⟩
  have v3 := (V.init H).mod m3
  refine ⟨true, rfl, Br.no rfl ?_⟩
  refine Of_st (Fresh.rows (v3.fresh.mono fun _ _ e => e.elim) hra) oka fun H5 Fx Mx hFx m5 hx60 => ?_
  have lx5 := Mx.lt
  have le3 := v3.le
  have v5 := (v3.mod m5).add (n := H5.size) Mx (v3.mod m5).le (Nat.le_refl _) (MI.Mp.stab ⟨le3, lx5.1⟩ fun q hq => ⟨by have := hFx q hq; omega, lx5.2 q hq⟩)
  refine Of_st (Fresh.rows (v5.fresh.mono fun _ _ e => e.elim) hrb) okb fun H6 Fy My hFy m6 hy60 => ?_
  have ly6 := My.lt
  have le5 := v5.le
  have v6 := (v5.mod m6).add (n := H6.size) My (v5.mod m6).le (Nat.le_refl _) (MI.Mp.stab ⟨le5, ly6.1⟩ fun q hq => ⟨by have := hFy q hq; omega, ly6.2 q hq⟩)
  generalize ofL (xs.take 60) = lx at *
  generalize ofL (ys.take 60) = ly at *
  intro b1 hb1 H7 e7
  have v7 := v6.push hb1 e7
  intro b2 hb2 H8 e8
  have v8 := v7.push hb2 e8
  have z6 := v6.le
  have o1 := (v8.lt 0 rfl).1
  have z7 := v7.le
  have hs5 := m5.size
  have hs6 := m6.size
  have ob : ∀ q ∈ [b1, b2], q < b2 + 1 ∧ q ≠ H3.size ∧ q ∉ Fx ∧ q ≠ H5.size ∧ q ∉ Fy := by
    intro q hq
    have hqq : H6.size ≤ q ∧ q < b2 + 1 := by
      simp at hq
      rcases hq with rfl | rfl <;> omega
    exact ⟨by omega, by omega, fun h => by have := lx5.2 _ h; omega, by omega, fun h => by have := ly6.2 _ h; omega⟩
  have rx := v8.s.inv.1.2.rise
  have ry := v8.s.inv.2.rise
  obtain ⟨rM, hM⟩ := mergeL_spec lx ly rx ry
  obtain ⟨rM', hM'⟩ := mergeL_spec ly lx ry rx
  have hcnt := mergeL_count lx ly rx ry
  have hcnt' := mergeL_count ly lx ry rx
  have hlenM := mergeL_length lx ly
  have hlenM' := mergeL_length ly lx
  have hkeys : (mergeL lx ly).map (·.1) = (mergeL ly lx).map (·.1) := keys_eq rM rM' fun k => by
    constructor
    · rintro ⟨v, hv⟩
      rcases (hM k v).1 hv with h | ⟨h, _⟩
      · by_cases hx : ∃ w, (k, w) ∈ lx
        · obtain ⟨w, hw⟩ := hx; exact ⟨w, (hM' k w).2 (Or.inl hw)⟩
        · exact ⟨v, (hM' k v).2 (Or.inr ⟨h, fun w hw => hx ⟨w, hw⟩⟩)⟩
      · exact ⟨v, (hM' k v).2 (Or.inl h)⟩
    · rintro ⟨v, hv⟩
      rcases (hM' k v).1 hv with h | ⟨h, _⟩
      · by_cases hx : ∃ w, (k, w) ∈ ly
        · obtain ⟨w, hw⟩ := hx; exact ⟨w, (hM k w).2 (Or.inl hw)⟩
        · exact ⟨v, (hM k v).2 (Or.inr ⟨h, fun w hw => hx ⟨w, hw⟩⟩)⟩
      · exact ⟨v, (hM k v).2 (Or.inl h)⟩
  have hlk : (mergeL lx ly).length = (mergeL ly lx).length := by have := congrArg List.length hkeys; simpa using this
  generalize hMM : mergeL lx ly = M at *
  generalize hMM' : mergeL ly lx = M' at *
  have notin : ∀ {Ha Hb Hc : Hp}, b2 < Ha.size → b2 < Hb.size → b2 < Hc.size → ∀ q ∈ [b1, b2], q ∉ (Hc.size :: (Hc.size + 1) :: ((Ha.size :: H3.size :: Fx) ++ (Hb.size :: H5.size :: Fy))) ∧ q ∉ (Hc.size :: (Hc.size + 1) :: ((Ha.size :: H5.size :: Fy) ++ (Hb.size :: H3.size :: Fx))) := by
    intro Ha Hb Hc h1 h2 h3 q hq
    obtain ⟨o1, o2, o3, o4, o5⟩ := ob q hq
    constructor <;> intro h <;> simp only [List.mem_cons, List.mem_append] at h
    · rcases h with h | h | (h | h | h) | (h | h | h)
      · omega
      · omega
      · omega
      · exact o2 h
      · exact o3 h
      · omega
      · exact o4 h
      · exact o5 h
    · rcases h with h | h | (h | h | h) | (h | h | h)
      · omega
      · omega
      · omega
      · exact o4 h
      · exact o5 h
      · omega
      · exact o2 h
      · exact o3 h
  refine MI.all_st v8.s.inv.1.2 fun fa Ha ga ma => ?_
  have va := v8.mod ma
  refine MI.all_st va.s.inv.2 fun fb Hb gb mb => ?_
  have vb := va.mod mb
  have za := va.le
  have zb := vb.le
  have z8 := v8.le
  refine MI.merge_st (ga.mod mb fun _ _ e => e) gb (by omega) fun fc Hc gc mc => ?_
  rw [hMM] at gc
  have vc := vb.mod mc
  have zc := vc.le
  intro fn tm hT
  refine gc.range (rec := tephralaw05_SortedBoth.r1.rec fn tm Hc.size) (fun n i H1 => ∃ xs : Sl, V (b2 + 1) H.size H [b1, b2] (fun H => ((fun _ => True) H ∧ MI.Mp H H3.size 0 Fx lx) ∧ MI.Mp H H5.size 0 Fy ly) [(b1, .slice xs.a xs.len xs.cap, T_sl_int), (b2, .slice none 0 0, T_sl_int)] H1 ∧
      Own H1 xs T_int 1 (keyVs (M.take i)) ∧ (∀ q ∈ xs.blk, n ≤ q) ∧ Mod (fun q => q = b1 ∨ Hc.size ≤ q) Hc H1) (fun _ _ _ => False) ?_ ?_ ?_ (fun _ _ _ _ h _ => h) ?_ ?_ (fun _ _ _ _ h => h.elim)
  · intro n H1 hn hn' m
    exact ⟨⟨none, 0, 0⟩, vc.mod m, by simpa using Own.nil H1 T_int 1, by simp [Sl.blk], m.mono fun _ _ e => e.elim⟩
  · rintro n i H1 ⟨xs, w1, w2, w3, w4⟩
    have hbs : ∀ q ∈ (Hb.size :: (Hb.size + 1) :: ((H8.size :: H3.size :: Fx) ++ (Ha.size :: H5.size :: Fy))), q < Hc.size := by obtain ⟨_, _, _, h, _⟩ := gc; exact h
    exact Mod.same w4 fun q hq => ⟨hbs q hq, fun h => h.elim (fun h => (notin (Ha := H8) (Hb := Ha) (Hc := Hb) (by omega) (by omega) (by omega) b1 (by simp)).1 (by rw [← h]; exact hq)) fun h => by have := hbs q hq; omega⟩
  · rintro n i H1 H2 ⟨xs, w1, w2, w3, w4⟩ m
    exact ⟨xs, w1.keep m fun q hq => by omega, w2.keep m (fun q hq h => by have := w3 q hq; omega), w3, w4.trans (m.mono fun q _ h => Or.inr h.1)⟩
  · rintro n i hi H1 hn hn' ⟨xs, w1, w2, w3, w4⟩ hl
    refine tephralaw05_SortedBoth.r1.calls hl hT ⟨hl, fun H10 e10 => ?_⟩
    obtain ⟨l10, m10⟩ := rec_facts hl e10
    have x10 := w1.keep m10 fun q hq => by have hq : q = Hc.size + 1 := hq; omega
    have y10 := w2.keep m10 fun q hq h => by have := w3 q hq; have h : q = Hc.size + 1 := h; omega
    have z10 := m10.size
    refine ⟨_, x10.at 0 rfl, addKey (p := M[i]) x10 (i := 0) rfl y10 (fun q hq => by have := w3 q hq; omega) (by rw [List.length_take]; omega) fun ys H12 x12 y12 b12 m12 => ⟨x12.wr 0 rfl, fun H13 e13 => ?_⟩⟩
    have l12 := m12.get l10 fun h => by have := w3 _ h; omega
    obtain ⟨x13, m13⟩ := x12.set 0 rfl e13
    have l13 := m13.get l12 (show ¬ Hc.size + 1 = b1 by omega)
    have b12' : ∀ q ∈ ys.blk, n ≤ q := fun q hq => (b12 q hq).elim (w3 q) fun h => by omega
    obtain ⟨l14, m14⟩ := rec_facts (o' := tephralaw05_SortedBoth.r1.rec fn tm Hc.size .ready none) l13 rfl
    refine ⟨⟨_, _, l13⟩, (m10.mono fun q _ h => by have h : q = Hc.size + 1 := h; omega).trans ((m12.mono fun q _ h => by have := w3 q h; omega).trans ((m13.mono fun q _ h => by have h : q = b1 := h; omega).trans (m14.mono fun q _ h => by have h : q = Hc.size + 1 := h; omega))), Or.inl ⟨rfl, ⟨ys, x13.keep m14 fun q hq => by have hq : q = Hc.size + 1 := hq; omega, ?_, b12', ?_⟩, l14⟩⟩
    · rw [List.take_succ_eq_append_getElem hi]
      exact (y12.keep m13 fun q hq h => by have := b12' q hq; have h : q = b1 := h; omega).keep m14 fun q hq h => by have := b12' q hq; have h : q = Hc.size + 1 := h; omega
    · exact w4.trans ((m10.mono fun q _ h => Or.inr (by have h : q = Hc.size + 1 := h; omega)).trans ((m12.mono fun q _ h => Or.inr (by have := w3 q h; omega)).trans ((m13.mono fun q _ h => Or.inl h).trans (m14.mono fun q _ h => Or.inr (by have h : q = Hc.size + 1 := h; omega)))))
  rintro n H15 hn hn' ⟨ps, w1, w2, w3, w4⟩
  rw [List.take_length] at w2
  have lps := w2.lt
  have hpl := keyLen w2
  have v15 := w1.add (n := H15.size) (P' := fun Hz => Own Hz ps T_int 1 (keyVs M)) w2 w1.le (Nat.le_refl _) fun Ha Hb μ h m hq => h.keep m fun q hb => hq q (by have := w3 q hb; omega) (lps q hb)
  clear w1 w2 gc va vb vc
  refine jump_none (MI.all_st v15.s.inv.1.2 fun fa Hd ga ma => ?_)
  have va := v15.mod ma
  refine MI.all_st va.s.inv.1.1.2 fun fb He gb mb => ?_
  have vb := va.mod mb
  have z15 := v15.le
  have zd := va.le
  have ze := vb.le
  refine MI.merge_st (ga.mod mb fun _ _ e => e) gb (by omega) fun fc Hf gc mc => ?_
  rw [hMM'] at gc
  have vc := vb.mod mc
  have zf := vc.le
  have hH15 : b2 < H15.size := by have := w4.size; omega
  intro fn1 tm1 hT1
  refine gc.range (rec := tephralaw05_SortedBoth.r2.rec fn1 tm1 Hf.size) (fun n i H1 => ∃ xs : Sl, V H15.size H.size H [b1, b2] (fun H => (((fun _ => True) H ∧ MI.Mp H H3.size 0 Fx lx) ∧ MI.Mp H H5.size 0 Fy ly) ∧ Own H ps T_int 1 (keyVs M)) [(b1, .slice ps.a ps.len ps.cap, T_sl_int), (b2, .slice xs.a xs.len xs.cap, T_sl_int)] H1 ∧
      Own H1 xs T_int 1 (keyVs (M'.take i)) ∧ (∀ q ∈ xs.blk, n ≤ q) ∧ Mod (fun q => q = b2 ∨ Hf.size ≤ q) Hf H1) (fun _ _ _ => False) ?_ ?_ ?_ (fun _ _ _ _ h _ => h) ?_ ?_ (fun _ _ _ _ h => h.elim)
  · intro n H1 hn hn' m
    exact ⟨⟨none, 0, 0⟩, vc.mod m, by simpa using Own.nil H1 T_int 1, by simp [Sl.blk], m.mono fun _ _ e => e.elim⟩
  · rintro n i H1 ⟨xs, w1, w2, w3, w4⟩
    have hbs : ∀ q ∈ (He.size :: (He.size + 1) :: ((H15.size :: H5.size :: Fy) ++ (Hd.size :: H3.size :: Fx))), q < Hf.size := by obtain ⟨_, _, _, h, _⟩ := gc; exact h
    exact Mod.same w4 fun q hq => ⟨hbs q hq, fun h => h.elim (fun h => (notin (Ha := H15) (Hb := Hd) (Hc := He) (by omega) (by omega) (by omega) b2 (by simp)).2 (by rw [← h]; exact hq)) fun h => by have := hbs q hq; omega⟩
  · rintro n i H1 H2 ⟨xs, w1, w2, w3, w4⟩ m
    exact ⟨xs, w1.keep m fun q hq => by omega, w2.keep m (fun q hq h => by have := w3 q hq; omega), w3, w4.trans (m.mono fun q _ h => Or.inr h.1)⟩
  · rintro n i hi H1 hn hn' ⟨xs, w1, w2, w3, w4⟩ hl
    refine tephralaw05_SortedBoth.r2.calls hl hT1 ⟨hl, fun H10 e10 => ?_⟩
    obtain ⟨l10, m10⟩ := rec_facts hl e10
    have x10 := w1.keep m10 fun q hq => by have hq : q = Hf.size + 1 := hq; omega
    have y10 := w2.keep m10 fun q hq h => by have := w3 q hq; have h : q = Hf.size + 1 := h; omega
    have z10 := m10.size
    refine ⟨_, x10.at 1 rfl, addKey (p := M'[i]) x10 (i := 1) rfl y10 (fun q hq => by have := w3 q hq; omega) (by rw [List.length_take]; omega) fun ys H12 x12 y12 b12 m12 => ⟨x12.wr 1 rfl, fun H13 e13 => ?_⟩⟩
    have l12 := m12.get l10 fun h => by have := w3 _ h; omega
    obtain ⟨x13, m13⟩ := x12.set 1 rfl e13
    have l13 := m13.get l12 (show ¬ Hf.size + 1 = b2 by omega)
    have b12' : ∀ q ∈ ys.blk, n ≤ q := fun q hq => (b12 q hq).elim (w3 q) fun h => by omega
    obtain ⟨l14, m14⟩ := rec_facts (o' := tephralaw05_SortedBoth.r2.rec fn1 tm1 Hf.size .ready none) l13 rfl
    refine ⟨⟨_, _, l13⟩, (m10.mono fun q _ h => by have h : q = Hf.size + 1 := h; omega).trans ((m12.mono fun q _ h => by have := w3 q h; omega).trans ((m13.mono fun q _ h => by have h : q = b2 := h; omega).trans (m14.mono fun q _ h => by have h : q = Hf.size + 1 := h; omega))), Or.inl ⟨rfl, ⟨ys, x13.keep m14 fun q hq => by have hq : q = Hf.size + 1 := hq; omega, ?_, b12', ?_⟩, l14⟩⟩
    · rw [List.take_succ_eq_append_getElem hi]
      exact (y12.keep m13 fun q hq h => by have := b12' q hq; have h : q = b2 := h; omega).keep m14 fun q hq h => by have := b12' q hq; have h : q = Hf.size + 1 := h; omega
    · exact w4.trans ((m10.mono fun q _ h => Or.inr (by have h : q = Hf.size + 1 := h; omega)).trans ((m12.mono fun q _ h => Or.inr (by have := w3 q h; omega)).trans ((m13.mono fun q _ h => Or.inl h).trans (m14.mono fun q _ h => Or.inr (by have h : q = Hf.size + 1 := h; omega)))))
  rintro n H25 hn hn' ⟨qs, w1, w2, w3, w4⟩
  rw [List.take_length] at w2
  have lqs := w2.lt
  have hql := keyLen w2
  have v25 := w1.add (n := H25.size) (P' := fun Hz => Own Hz qs T_int 1 (keyVs M')) w2 w1.le (Nat.le_refl _) fun Ha Hb μ h m hq => h.keep m fun q hb => hq q (by have := w3 q hb; omega) (lqs q hb)
  clear w1 w2 gc va vb vc v15 v3 v5 v6 v7 v8
  -- the end
  obtain ⟨B, hB⟩ : ∃ B : Hp → Prop, B = fun Hx => V H25.size H.size H [b1, b2] (fun H => ((((fun _ => True) H ∧ MI.Mp H H3.size 0 Fx lx) ∧ MI.Mp H H5.size 0 Fy ly) ∧ Own H ps T_int 1 (keyVs M)) ∧ Own H qs T_int 1 (keyVs M')) [(b1, .slice ps.a ps.len ps.cap, T_sl_int), (b2, .slice qs.a qs.len qs.cap, T_sl_int)] Hx := ⟨_, rfl⟩
  have B0 : B H25 := by rw [hB]; exact v25
  have Bp : ∀ {Hx}, B Hx → Hp.cell? Hx ⟨b1, 0, none⟩ = some (.slice ps.a ps.len ps.cap) := fun {Hx} h => by rw [hB] at h; exact h.at 0 rfl
  have Bq : ∀ {Hx}, B Hx → Hp.cell? Hx ⟨b2, 0, none⟩ = some (.slice qs.a qs.len qs.cap) := fun {Hx} h => by rw [hB] at h; exact h.at 1 rfl
  have Bx : ∀ {Hx} {K : Int → Hp → Prop}, B Hx → (∀ Hy, B Hy → K (lx.length : Int) Hy) → SCalls Try.prog sorted_Map_int_int_Len.id [.pointer (some ⟨H3.size, 0, none⟩)] Hx fun r H' => ∃ x : Int, r = .int .i64 x ∧ K x H' := fun {Hx K} h hK => by
    rw [hB] at h
    exact MI.len_step h.s.inv.1.1.1.2 fun Hy my => hK Hy (by rw [hB]; exact h.mod my)
  have By : ∀ {Hx} {K : Int → Hp → Prop}, B Hx → (∀ Hy, B Hy → K (ly.length : Int) Hy) → SCalls Try.prog sorted_Map_int_int_Len.id [.pointer (some ⟨H5.size, 0, none⟩)] Hx fun r H' => ∃ x : Int, r = .int .i64 x ∧ K x H' := fun {Hx K} h hK => by
    rw [hB] at h
    exact MI.len_step h.s.inv.1.1.2 fun Hy my => hK Hy (by rw [hB]; exact h.mod my)
  have k1 : ∀ (c : Bool) (Hx : Hp), B Hx → c = false → tephralaw05_SortedBoth.k1 J0 b1 b2 c Hx fun r H' => r = .bool true ∧ Mod (fun _ => False) H H' := by
    rintro c Hx hx rfl
    apply tephralaw05_SortedBoth.k1.step; unfold tephralaw05_SortedBoth.k1.body
    refine Br.no rfl ⟨_, Bp hx, ?_⟩
    have loop : ∀ (d j : Nat), j + d = M.length → tephralaw05_SortedBoth.l1 J0 b1 b2 ps Hx (j : Int) fun r H' => r = .bool true ∧ Mod (fun _ => False) H H' := by
      intro d
      induction d with
      | zero =>
        intro j hj
        apply tephralaw05_SortedBoth.l1.step; unfold tephralaw05_SortedBoth.l1.body
        rw [hB] at hx
        exact Br.no (by simp; omega) ⟨rfl, hx.fresh⟩
      | succ d ih =>
        intro j hj
        apply tephralaw05_SortedBoth.l1.step; unfold tephralaw05_SortedBoth.l1.body
        have hx' := hx
        rw [hB] at hx'
        obtain ⟨a1, ha1, hc1⟩ := keyRow (Own.rows hx'.s.inv.1.2) (i := j) (by omega)
        obtain ⟨a2, ha2, hc2⟩ := keyRow (Own.rows hx'.s.inv.2) (i := j) (by omega)
        have he : M[j].1 = M'[j].1 := by
          have h1 : (M.map (·.1))[j]? = some M[j].1 := by simp [List.getElem?_eq_getElem (show j < M.length by omega)]
          have h2 : (M'.map (·.1))[j]? = some M'[j].1 := by simp [List.getElem?_eq_getElem (show j < M'.length by omega)]
          rw [hkeys, h2] at h1
          exact (Option.some.inj h1).symm
        refine Br.yes (by simp; omega) ⟨_, Bp hx, ⟨by omega, by omega⟩, vPtr.mk a1 ha1 ⟨_, by simpa using hc1, _, Bq hx, ⟨by omega, by omega⟩, vPtr.mk a2 ha2 ⟨_, by simpa using hc2, Br.no (by rw [he]; simp) ?_⟩⟩⟩
        rw [w64_id (x := (j : Int) + 1) (by omega) (by omega)]
        have := ih (j + 1) (by omega)
        simpa using this
    exact loop M.length 0 (by omega)
  have g1 : ∀ x : Int, x = (lx.length : Int) → ∀ y : Int, y = (ly.length : Int) → decide (((ps.len : Nat) : Int) > w64 (x + y)) = false := by
    rintro x rfl y rfl
    rw [w64_id (by omega) (by omega)]
    exact decide_eq_false (by omega)
  have g2 : ∀ x : Int, x = (lx.length : Int) → ∀ y : Int, y = (ly.length : Int) → decide (((ps.len : Nat) : Int) < (if y > x then y else x)) = false := by
    rintro x rfl y rfl
    exact decide_eq_false (by split <;> omega)
  refine jump_none ⟨_, Bp B0, _, Bq B0, Br.no (by simp; omega) ?_⟩
  repeat' first
    | refine And.intro ?_ ?_
    | refine Exists.intro _ (And.intro (Bp (by assumption)) ?_)
    | refine Br.no (g1 _ rfl _ rfl) ?_
    | (refine Bx (by assumption) fun _ _ => ?_)
    | (refine By (by assumption) fun _ _ => ?_)
    | exact k1 _ _ (by assumption) (g2 _ rfl _ rfl)
end
end Go.Proofs
