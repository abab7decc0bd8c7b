/- SORTED MAPS: sorted_Merge_string_string: the walk (printed by the own program mgtpl.py). -/
import Derived.Test.YtpdondaekinmdaaKu2
import Derived.Test.YtpdondaekinmdaaKe1
set_option linter.all false
set_option linter.constructorNameAsVariable false
set_option maxRecDepth 100000
namespace Go.Proofs.MP
open Go Go.KC Go.Proofs

section
variable {H : Hp}
theorem goM : goFn Try.prog sorted_Merge_string_string_1.id = true := by kernel_rfl
theorem ca_ne {q b : Nat} (h : q < b) : q ≠ b := Nat.ne_of_lt h

theorem merge1_goes {fa fb : Fv} {la lb : List It} {ba bb : List Nat} {ca cb : Nat} {Ta Tb : TypeId} (ga : Goes Try.prog args fa la ba H) (gb : Goes Try.prog args fb lb bb H) (hl : lb.length ≤ 100000)
    (hca : H[ca]? = some (.cells #[.func fa.fn fa.fi fa.ca] Ta (0, 0))) (hcb : H[cb]? = some (.cells #[.func fb.fn fb.fi fb.ca] Tb (0, 0))) :
    Goes Try.prog args ⟨.func 69, #[], #[.pointer (some ⟨cb, 0, none⟩), .pointer (some ⟨ca, 0, none⟩)]⟩ (mergeL la lb) (ca :: cb :: (ba ++ bb)) H := by
  have lta : ∀ b ∈ ba, b < H.size := by obtain ⟨_, _, _, h, _⟩ := ga; exact h
  have ltb : ∀ b ∈ bb, b < H.size := by obtain ⟨_, _, _, h, _⟩ := gb; exact h
  refine ⟨69, rfl, goM, fun q hq => ?_, fun y H0 J Q hs hz j0 js qs jb body fin => ?_⟩
  · rcases List.mem_cons.1 hq with rfl | hq
    · exact lt_of_get hca
    · rcases List.mem_cons.1 hq with rfl | hq
      · exact lt_of_get hcb
      · rcases List.mem_append.1 hq with hq | hq
        · exact lta q hq
        · exact ltb q hq
  refine sorted_Merge_string_string_1.calls (yield := y) (cap0 := ⟨cb, 0, none⟩) (cap1 := ⟨ca, 0, none⟩) ?_
  generalize hm : mergeL la lb = m at *
  have ca0 : H0[ca]? = _ := (hs ca (by simp)).trans hca
  have cb0 : H0[cb]? = _ := (hs cb (by simp)).trans hcb
  have cal := lt_of_get ca0
  have cbl := lt_of_get cb0
  have ga0 : Goes Try.prog args fa la ba H0 := ga.same (hs.mono fun q hq => by simp [hq]) hz
  have gb0 : Goes Try.prog args fb lb bb H0 := gb.same (hs.mono fun q hq => by simp [hq]) hz
  intro b hb H1 e1 b1 hb1 H2 e2
  obtain ⟨y1, m1, s1⟩ := push_facts e1
  obtain ⟨r2, m2, s2⟩ := push_facts e2
  rw [← hb] at y1
  rw [← hb1] at r2
  have y2 := m2.get y1 fun e => e
  have m02 := m1.trans m2
  clear e1 e2 y1
  refine ⟨fb, cell_at (m02.get cb0 fun e => e), fun fn tm hT => ?_⟩
  have gb2 := gb0.mod m02 fun _ _ e => e
  refine gb2.range (rec := sorted_Merge_string_string_1.r1.rec fn tm H2.size) (fun n i H' => ∃ xs : Sl, H'[b1]? = some (.cells #[.slice xs.a xs.len xs.cap] T_sl_sorted_item_string_string (0, 0)) ∧ Own H' xs T_sorted_item_string_string 2 (items (lb.take i)) ∧ (∀ q ∈ xs.blk, n ≤ q) ∧ Mod (fun q => q = b1 ∨ H2.size ≤ q) H2 H')
    (fun _ _ _ => False) ?_ ?_ ?_ (fun _ _ _ _ h _ => h) ?_ ?_ (fun _ _ _ _ h => h.elim)
  · intro n H' hn hn' mq
    exact ⟨⟨none, 0, 0⟩, mq.get r2 fun e => e, Own.nil _ _ _, by simp [Sl.blk], mq.mono fun _ _ e => e.elim⟩
  · rintro n i H' ⟨xs, q1, q2, q3, q4⟩
    exact Mod.same q4 fun q hq => ⟨by have := ltb q hq; omega, by have := ltb q hq; omega⟩
  · rintro n i H' H'' ⟨xs, q1, q2, q3, q4⟩ mq
    exact ⟨xs, mq.get q1 (by omega), q2.keep mq (fun q hq h => by have := q3 q hq; omega), q3, q4.trans (mq.mono fun q _ h => Or.inr h.1)⟩
  · rintro n i hi H3 hn hn' ⟨xs, q1, q2, q3, q4⟩ hrec
    refine sorted_Merge_string_string_1.r1.calls hrec hT ⟨hrec, fun H4 e4 => ?_⟩
    obtain ⟨l4, m4⟩ := rec_facts hrec e4
    have b1s : b1 < H2.size := by omega
    have q14 := m4.get q1 (by omega)
    have q24 := q2.keep m4 fun q hq h => by have := q3 q hq; have h : q = H2.size + 1 := h; omega
    refine ⟨xs, cell_at q14, fun b2 hb2 H5 e5 => ?_⟩
    obtain ⟨v5, m5, s5⟩ := push_facts e5
    have q25 := q24.keep m5 fun _ _ e => e
    have hlen := rows_len' (by omega) cells_len (Own.rows q2)
    rw [List.length_take] at hlen
    have hxl := q24.lt
    have hs4 := m4.size
    rw [hb2]
    refine app_one (p := cells lb[i]) el q25 v5 rfl rfl (by omega) fun x' H6 o6 _ m6 b6 => ?_
    have q16 := m6.get (m5.get q14 fun e => e) (fun h => by have := q3 _ h; omega)
    refine ⟨wr_at q16, fun H7 e7 => ?_⟩
    obtain ⟨q17, m7⟩ := set_facts q16 e7
    have l7 := m7.get (m6.get (m5.get l4 fun e => e) (fun h => by have := q3 _ h; omega)) (show ¬ H2.size + 1 = b1 by omega)
    refine ⟨⟨_, _, l7⟩, ?_⟩
    obtain ⟨l8, m8⟩ := rec_facts (o' := sorted_Merge_string_string_1.r1.rec fn tm H2.size .ready none) l7 rfl
    have hx' : ∀ q ∈ x'.blk, n ≤ q := fun q hq => by
      rcases b6 q hq with h | h
      · exact q3 q h
      · omega
    have hs5 := m5.size
    refine ⟨?_, Or.inl ⟨rfl, ⟨x', m8.get q17 (by omega), ?_, hx', ?_⟩, l8⟩⟩
    · exact (m4.mono fun q _ h => by have h : q = H2.size + 1 := h; omega).trans ((m5.mono fun _ _ e => e.elim).trans ((m6.mono fun q _ h => by have := q3 q h; omega).trans ((m7.mono fun q _ h => by have h : q = b1 := h; omega).trans (m8.mono fun q _ h => by have h : q = H2.size + 1 := h; omega))))
    · have e : items (lb.take (i + 1)) = items (lb.take i) ++ cells lb[i] := by
        rw [List.take_succ_eq_append_getElem hi]; simp only [items, List.map_append, List.flatten_append, List.map_cons, List.map_nil, List.flatten_cons, List.flatten_nil, List.append_nil]
      rw [e]
      exact (o6.keep m7 fun q hq h => by have := hx' q hq; have h : q = b1 := h; omega).keep m8 fun q hq h => by have := hx' q hq; have h : q = H2.size + 1 := h; omega
    · exact q4.trans ((m4.mono fun q _ h => Or.inr (by have h : q = H2.size + 1 := h; omega)).trans ((m5.mono fun _ _ e => e.elim).trans ((m6.mono fun q _ h => Or.inr (by have := q3 q h; omega)).trans ((m7.mono fun q _ h => Or.inl h).trans (m8.mono fun q _ h => Or.inr (by have h : q = H2.size + 1 := h; omega))))))
  · rintro nA H9 hnA _ ⟨xs, q1, q2, q3, q4⟩
    refine jump_none ?_
    rw [List.take_length] at q2
    have hs9 := q4.size
    have ca9 := q4.get (m02.get ca0 fun e => e) (by omega)
    have y9 := q4.get y2 (by omega)
    have xl9 := q2.lt
    have m09 : Mod (fun _ => False) H0 H9 := m02.trans' q4 fun q hq h => by omega
    have ga9 := ga0.mod m09 fun _ _ e => e
    refine ⟨fa, cell_at ca9, fun fn1 tm1 hT1 => ?_⟩
    clear hT gb2 gb0
    have J2ok : ∀ (n : Nat) (j : Nat) (H' : Hp), J n j H' → Same ba H9 H' := fun n j H' hj q hq => by
      rw [jb n j H' hj q (by simp [hq])]
      exact (Mod.same m09 (bs := ba) (fun q hq => ⟨by have := lta q hq; omega, fun e => e⟩) q hq).symm
    refine ga9.range (rec := sorted_Merge_string_string_1.r2.rec fn1 tm1 H9.size) (fun n i H' => ∃ (j : Nat) (xs : Sl) (r : List It), J n j H' ∧ AtL m j (mergeL (la.drop i) r) ∧ H'[b1]? = some (.cells #[.slice xs.a xs.len xs.cap] T_sl_sorted_item_string_string (0, 0)) ∧ Rows H' xs 2 (items r) ∧
        H'[b]? = some (.cells #[.func y.fn y.fi y.ca] T_func_string_string_bool (0, 0)) ∧ (∀ q ∈ xs.blk, H2.size ≤ q ∧ q < H9.size) ∧ r.length ≤ 100000)
      (fun c n H' => c = .ret ∧ Q n H') ?_ ?_ ?_ ?_ ?_ ?_ ?_
    · intro n' H' hn hn' mq
      exact ⟨0, xs, lb, j0 _ _ (by omega) hn' (m09.trans mq), ⟨Nat.zero_le _, by rw [List.drop_zero, List.drop_zero, hm]⟩, mq.get q1 fun e => e, (Own.rows q2).keep mq fun _ _ e => e, mq.get y9 fun e => e, fun q hq => ⟨by have := q3 q hq; omega, xl9 q hq⟩, hl⟩
    · rintro n i H' ⟨j, xs, r, p1, p2⟩
      exact J2ok n j H' p1
    · rintro n i H' H'' ⟨j, xs, r, p1, p2, p3, p4, p5, p6, p7⟩ mq
      exact ⟨j, xs, r, js n j H' H'' p1 (mq.mono fun q _ h => ⟨by omega, h.2⟩), p2, mq.get p3 (by omega), p4.keep mq (fun q hq h => by have := p6 q hq; omega), mq.get p5 (by omega), p6, p7⟩
    · rintro c n H' H'' ⟨rfl, hq⟩ mq
      exact ⟨rfl, qs n H' H'' hq (mq.mono fun q _ h => ⟨by omega, h.2⟩)⟩
    · -- a round
      rintro n i hi H3 hn hn' ⟨j, xs, r, p1, p2, p3, p4, p5, p6, p7⟩ hrec
      refine sorted_Merge_string_string_1.r2.calls hrec hT1 ⟨hrec, fun H11 e11 => ?_⟩
      obtain ⟨l11, m11⟩ := rec_facts hrec e11
      clear e11
      have hd : la.drop i = la[i] :: la.drop (i + 1) := List.drop_eq_getElem_cons hi
      rw [hd] at p2
      generalize hp : la[i] = p at *
      -- a round, whatever is asked of its end
      have main : ∀ Qr : Value → Hp → Prop, (∀ (b' : Bool) (j : Nat) (xs : Sl) (r : List It) (H' : Hp), Mod (fun q => ¬ (H9.size + 2 ≤ q ∧ q < n)) H3 H' → H'[H9.size + 1]? = some (sorted_Merge_string_string_1.r2.rec fn1 tm1 H9.size .busy none) → ((b' = true ∧ J n j H' ∧ AtL m j (mergeL (la.drop (i + 1)) r) ∧ H'[b1]? = some (.cells #[.slice xs.a xs.len xs.cap] T_sl_sorted_item_string_string (0, 0)) ∧ Rows H' xs 2 (items r) ∧ H'[b]? = some (.cells #[.func y.fn y.fi y.ca] T_func_string_string_bool (0, 0)) ∧ (∀ q ∈ xs.blk, H2.size ≤ q ∧ q < H9.size) ∧ r.length ≤ 100000) ∨ (b' = false ∧ Q n H')) →
          ∀ H'' : Hp, H'' = H'.setIfInBounds (H9.size + 1) (sorted_Merge_string_string_1.r2.rec fn1 tm1 H9.size (match b' with | true => .ready | false => .done) (match b' with | true => none | false => some .ret)) → Qr (.bool b') H'') →
          sorted_Merge_string_string_1.l1 J0 b b1 (H9.size + 1) (sorted_Merge_string_string_1.r2.rec fn1 tm1 H9.size) p.1 p.2 H11 Qr := by
        intro Qr oc
        have yld : ∀ (z : It) (j : Nat) (xs : Sl) (r R : List It) (H' : Hp), Mod (fun q => ¬ (H9.size + 2 ≤ q ∧ q < n)) H3 H' → H'[H9.size + 1]? = some (sorted_Merge_string_string_1.r2.rec fn1 tm1 H9.size .busy none) → J n j H' → AtL m j (z :: R) →
            H'[b1]? = some (.cells #[.slice xs.a xs.len xs.cap] T_sl_sorted_item_string_string (0, 0)) → Rows H' xs 2 (items r) → H'[b]? = some (.cells #[.func y.fn y.fi y.ca] T_func_string_string_bool (0, 0)) → (∀ q ∈ xs.blk, H2.size ≤ q ∧ q < H9.size) → ∀ Q' : Value → Hp → Prop,
            (∀ (b' : Bool) Hx, Mod (fun q => ¬ (H9.size + 2 ≤ q ∧ q < n)) H3 Hx → Hx[H9.size + 1]? = some (sorted_Merge_string_string_1.r2.rec fn1 tm1 H9.size .busy none) → ((b' = true ∧ J n (j + 1) Hx ∧ AtL m (j + 1) R ∧ Hx[b1]? = some (.cells #[.slice xs.a xs.len xs.cap] T_sl_sorted_item_string_string (0, 0)) ∧ Rows Hx xs 2 (items r) ∧
              Hx[b]? = some (.cells #[.func y.fn y.fi y.ca] T_func_string_string_bool (0, 0))) ∨ (b' = false ∧ Q n Hx)) → Q' (.bool b') Hx) →
            vInv Try.prog (.func y.fn y.fi y.ca) (args z) H' Q' := by
          intro z j xs r R H' mm l' p1 p2 p3 p4 p5 p6 Q' hQ
          obtain ⟨hj, ez, hd'⟩ := p2.cons
          have hms := mm.size
          have := body n j hj H' (by omega) (by omega) p1
          rw [ez] at this
          refine this.imp ?_
          rintro rv Hx ⟨m2, h2⟩
          have keepq : ∀ q, H0.size ≤ q → q < n → ¬ ¬ (H0.size ≤ q ∧ q < n) := fun q h1 h2 h => h ⟨h1, h2⟩
          have l2 := m2.get l' (keepq _ (by omega) (by omega))
          have mm2 : Mod (fun q => ¬ (H9.size + 2 ≤ q ∧ q < n)) H3 Hx := mm.trans (m2.mono fun q _ h h' => h ⟨by omega, h'.2⟩)
          rcases h2 with ⟨rfl, h2⟩ | ⟨rfl, h2⟩
          · exact hQ true Hx mm2 l2 (Or.inl ⟨rfl, h2, hd', m2.get p3 (keepq _ (by omega) (by omega)), p4.keep m2 (fun q hq => keepq _ (by have := p6 q hq; omega) (by have := p6 q hq; omega)), m2.get p5 (keepq _ (by omega) (by omega))⟩)
          · exact hQ false Hx mm2 l2 (Or.inr ⟨rfl, h2⟩)
        have k4 : ∀ (x : Bool) (j : Nat) (xs : Sl) (r : List It) (H' : Hp), Mod (fun q => ¬ (H9.size + 2 ≤ q ∧ q < n)) H3 H' → H'[H9.size + 1]? = some (sorted_Merge_string_string_1.r2.rec fn1 tm1 H9.size .busy none) → J n j H' → AtL m j (mergeL (p :: la.drop (i + 1)) r) → H'[b1]? = some (.cells #[.slice xs.a xs.len xs.cap] T_sl_sorted_item_string_string (0, 0)) → Rows H' xs 2 (items r) → H'[b]? = some (.cells #[.func y.fn y.fi y.ca] T_func_string_string_bool (0, 0)) → (∀ q ∈ xs.blk, H2.size ≤ q ∧ q < H9.size) → r.length ≤ 100000 →
            (∀ q r', r = q :: r' → ¬ KO.lt q.1 p.1) → (x = true ↔ ∃ q r', r = q :: r' ∧ q.1 = p.1) → sorted_Merge_string_string_1.k4 J0 b b1 (H9.size + 1) (sorted_Merge_string_string_1.r2.rec fn1 tm1 H9.size) p.1 p.2 H' x Qr := by
          intro x j xs r H' mm l' p1 p2 p3 p4 p5 p6 p7 hnl hx
          apply sorted_Merge_string_string_1.k4.step; unfold sorted_Merge_string_string_1.k4.body
          cases x with
          | true =>
            obtain ⟨q, r', rfl, hq⟩ := hx.1 rfl
            have hlen := rows_len' (by omega) cells_len p4
            simp only [List.length_cons] at hlen p7
            obtain ⟨a, ha, hrow⟩ := row_get' (by omega) cells_len p4 (j := 0) (by simp)
            rw [Nat.zero_mul, add_zero_of] at hrow
            refine Br.yes rfl ⟨xs, cell_at p3, ⟨by omega, by omega⟩, vPtr.mk a ha ⟨q.2, hrow 1 _ rfl, xs, cell_at p3, ⟨by omega, by omega⟩, wr_at p3, fun H15 e15 => ⟨y, ?_, ?_⟩⟩⟩
            · obtain ⟨_, m15⟩ := set_facts p3 e15
              exact cell_at (m15.get p5 (by omega))
            · obtain ⟨b15, m15⟩ := set_facts p3 e15
              have m15' : Mod (fun q => H0.size ≤ q ∧ q < n) H' H15 := m15.mono fun q _ h => by have h : q = b1 := h; omega
              have t4 := p4.keep m15 fun q hq h => by have := p6 q hq; have h : q = b1 := h; omega
              have p6' : ∀ q ∈ Sl.blk ⟨cutA xs.a xs.cap 1 2, xs.len - 1, xs.cap - 1⟩, H2.size ≤ q ∧ q < H9.size := fun q hq => p6 q (cutA_blk xs _ _ _ _ _ q hq)
              refine yld (p.1, q.2) j ⟨cutA xs.a xs.cap 1 2, xs.len - 1, xs.cap - 1⟩ r' _ H15 (mm.trans (m15.mono fun q _ h => by have h : q = b1 := h; omega)) (m15.get l' (by omega)) (js n j H' H15 p1 m15') (by rw [mergeL_eq hq] at p2; exact p2) b15
                (Rows.tail (p := cells q) (by simpa [items] using t4) rfl (by omega)) (m15.get p5 (by omega)) p6' _ fun b' Hx g1 g2 g3 => ⟨b', rfl, ?_⟩
              cases b' with
              | true =>
                rcases g3 with ⟨_, c1, c2, c3, c4, c5⟩ | ⟨e, _⟩
                · exact Br.no rfl ⟨⟨_, _, g2⟩, oc true _ _ _ Hx g1 g2 (Or.inl ⟨rfl, c1, c2, c3, c4, c5, p6', by omega⟩) _ rfl⟩
                · cases e
              | false =>
                rcases g3 with ⟨e, _⟩ | ⟨_, g3⟩
                · cases e
                · exact Br.yes rfl ⟨⟨_, _, g2⟩, oc false 0 xs [] Hx g1 g2 (Or.inr ⟨rfl, g3⟩) _ rfl⟩
          | false =>
            have hne : ∀ q r', r = q :: r' → q.1 ≠ p.1 := fun q r' e h => by have := hx.2 ⟨q, r', e, h⟩; cases this
            have e2 : mergeL (p :: la.drop (i + 1)) r = p :: mergeL (la.drop (i + 1)) r := by
              cases r with
              | nil => rw [mergeL_none, mergeL_none]
              | cons q r' => exact mergeL_gt (hnl q r' rfl) (hne q r' rfl)
            refine Br.no rfl ⟨y, cell_at p5, ?_⟩
            refine yld p j xs r _ H' mm l' p1 (by rw [e2] at p2; exact p2) p3 p4 p5 p6 _ fun b' Hx g1 g2 g3 => ⟨b', rfl, ?_⟩
            cases b' with
            | true =>
              rcases g3 with ⟨_, c1, c2, c3, c4, c5⟩ | ⟨e, _⟩
              · exact Br.no rfl ⟨⟨_, _, g2⟩, oc true _ _ _ Hx g1 g2 (Or.inl ⟨rfl, c1, c2, c3, c4, c5, p6, p7⟩) _ rfl⟩
              · cases e
            | false =>
              rcases g3 with ⟨e, _⟩ | ⟨_, g3⟩
              · cases e
              · exact Br.yes rfl ⟨⟨_, _, g2⟩, oc false 0 xs [] Hx g1 g2 (Or.inr ⟨rfl, g3⟩) _ rfl⟩
        have k3 : ∀ (j : Nat) (xs : Sl) (r : List It) (H' : Hp), Mod (fun q => ¬ (H9.size + 2 ≤ q ∧ q < n)) H3 H' → H'[H9.size + 1]? = some (sorted_Merge_string_string_1.r2.rec fn1 tm1 H9.size .busy none) → J n j H' → AtL m j (mergeL (p :: la.drop (i + 1)) r) → H'[b1]? = some (.cells #[.slice xs.a xs.len xs.cap] T_sl_sorted_item_string_string (0, 0)) → Rows H' xs 2 (items r) → H'[b]? = some (.cells #[.func y.fn y.fi y.ca] T_func_string_string_bool (0, 0)) → (∀ q ∈ xs.blk, H2.size ≤ q ∧ q < H9.size) → r.length ≤ 100000 →
            (∀ q r', r = q :: r' → ¬ KO.lt q.1 p.1) → sorted_Merge_string_string_1.k3 J0 b b1 (H9.size + 1) (sorted_Merge_string_string_1.r2.rec fn1 tm1 H9.size) p.1 p.2 H' Qr := by
          intro j xs r H' mm l' p1 p2 p3 p4 p5 p6 p7 hnl
          apply sorted_Merge_string_string_1.k3.step; unfold sorted_Merge_string_string_1.k3.body
          have hlen := rows_len' (by omega) cells_len p4
          refine ⟨xs, cell_at p3, ?_⟩
          cases r with
          | nil =>
            simp only [List.length_nil] at hlen
            exact Br.no (by simp; omega) (k4 false j xs [] H' mm l' p1 p2 p3 p4 p5 p6 p7 hnl ⟨fun e => (by cases e), by rintro ⟨_, _, e, _⟩; cases e⟩)
          | cons q r' =>
            simp only [List.length_cons] at hlen
            obtain ⟨a, ha, hrow⟩ := row_get' (by omega) cells_len p4 (j := 0) (by simp)
            rw [Nat.zero_mul, add_zero_of] at hrow
            have hk := hrow 0 _ rfl
            rw [add_zero_of] at hk
            refine Br.yes (by simp; omega) ⟨xs, cell_at p3, ⟨by omega, by omega⟩, vPtr.mk a ha ⟨q.1, hk, k4 _ j xs (q :: r') H' mm l' p1 p2 p3 p4 p5 p6 p7 hnl ⟨fun e => ⟨q, r', rfl, of_decide_eq_true (by rw [← beq_list]; exact e)⟩, fun ⟨q', r'', e, h⟩ => ?_⟩⟩⟩
            cases e
            exact (by rw [beq_list]; exact decide_eq_true h)
        -- the inner loop
        have inner : ∀ (r : List It) (j : Nat) (xs : Sl) (H' : Hp), Mod (fun q => ¬ (H9.size + 2 ≤ q ∧ q < n)) H3 H' → H'[H9.size + 1]? = some (sorted_Merge_string_string_1.r2.rec fn1 tm1 H9.size .busy none) → J n j H' → AtL m j (mergeL (p :: la.drop (i + 1)) r) → H'[b1]? = some (.cells #[.slice xs.a xs.len xs.cap] T_sl_sorted_item_string_string (0, 0)) → Rows H' xs 2 (items r) → H'[b]? = some (.cells #[.func y.fn y.fi y.ca] T_func_string_string_bool (0, 0)) → (∀ q ∈ xs.blk, H2.size ≤ q ∧ q < H9.size) → r.length ≤ 100000 →
            sorted_Merge_string_string_1.l1 J0 b b1 (H9.size + 1) (sorted_Merge_string_string_1.r2.rec fn1 tm1 H9.size) p.1 p.2 H' Qr := by
          intro r
          induction r with
          | nil =>
            intro j xs H' mm l' p1 p2 p3 p4 p5 p6 p7
            apply sorted_Merge_string_string_1.l1.step; unfold sorted_Merge_string_string_1.l1.body
            have hlen := rows_len' (by omega) cells_len p4
            simp only [List.length_nil] at hlen
            exact ⟨xs, cell_at p3, Br.no (by simp; omega) (k3 j xs [] H' mm l' p1 p2 p3 p4 p5 p6 p7 fun _ _ e => by cases e)⟩
          | cons q r' ih =>
            intro j xs H' mm l' p1 p2 p3 p4 p5 p6 p7
            apply sorted_Merge_string_string_1.l1.step; unfold sorted_Merge_string_string_1.l1.body
            have hlen := rows_len' (by omega) cells_len p4
            simp only [List.length_cons] at hlen p7
            obtain ⟨a, ha, hrow⟩ := row_get' (by omega) cells_len p4 (j := 0) (by simp)
            rw [Nat.zero_mul, add_zero_of] at hrow
            have hk := hrow 0 _ rfl
            rw [add_zero_of] at hk
            refine ⟨xs, cell_at p3, Br.yes (by simp; omega) ⟨xs, cell_at p3, ⟨by omega, by omega⟩, vPtr.mk a ha ⟨q.1, hk, ?_⟩⟩⟩
            by_cases hlt : KO.lt q.1 p.1
            · refine Br.yes hlt ?_
              apply sorted_Merge_string_string_1.k1.step; unfold sorted_Merge_string_string_1.k1.body
              refine ⟨y, cell_at p5, xs, cell_at p3, ⟨by omega, by omega⟩, vPtr.mk a ha ⟨q.1, hk, xs, cell_at p3, ⟨by omega, by omega⟩, vPtr.mk a ha ⟨q.2, hrow 1 _ rfl, ?_⟩⟩⟩
              refine yld q j xs (q :: r') _ H' mm l' p1 (by rw [mergeL_lt hlt] at p2; exact p2) p3 p4 p5 p6 _ fun b' Hx g1 g2 g3 => ⟨b', rfl, ?_⟩
              cases b' with
              | true =>
                rcases g3 with ⟨_, c1, c2, c3, c4, c5⟩ | ⟨e, _⟩
                · refine Br.no rfl ?_
                  apply sorted_Merge_string_string_1.k2.step; unfold sorted_Merge_string_string_1.k2.body
                  refine ⟨xs, cell_at c3, ⟨by omega, by omega⟩, wr_at c3, fun H15 e15 => ?_⟩
                  obtain ⟨b15, m15⟩ := set_facts c3 e15
                  have m15' : Mod (fun q => H0.size ≤ q ∧ q < n) Hx H15 := m15.mono fun q _ h => by have h : q = b1 := h; omega
                  have t4 := c4.keep m15 fun q hq h => by have := p6 q hq; have h : q = b1 := h; omega
                  exact ih (j + 1) ⟨cutA xs.a xs.cap 1 2, xs.len - 1, xs.cap - 1⟩ H15 (g1.trans (m15.mono fun q _ h => by have h : q = b1 := h; omega)) (m15.get g2 (by omega)) (js n _ Hx H15 c1 m15') c2 b15
                    (Rows.tail (p := cells q) (by simpa [items] using t4) rfl (by omega)) (m15.get c5 (by omega)) (fun q hq => p6 q (cutA_blk xs _ _ _ _ _ q hq)) (by omega)
                · cases e
              | false =>
                rcases g3 with ⟨e, _⟩ | ⟨_, g3⟩
                · cases e
                · exact Br.yes rfl ⟨⟨_, _, g2⟩, oc false 0 xs [] Hx g1 g2 (Or.inr ⟨rfl, g3⟩) _ rfl⟩
            · exact Br.no (by cases hc : Op.bytesLess q.1.toList p.1.toList with | true => exact (hlt hc).elim | false => rfl) (k3 j xs (q :: r') H' mm l' p1 p2 p3 p4 p5 p6 (by simpa using p7) fun q' r'' e => by cases e; exact hlt)
        have m11' : Mod (fun q => H0.size ≤ q ∧ q < n) H3 H11 := m11.mono fun q _ h => by have h : q = H9.size + 1 := h; omega
        exact inner r j xs H11 (m11.mono fun q _ h => by have h : q = H9.size + 1 := h; omega) l11 (js n j H3 H11 p1 m11') p2 (m11.get p3 (by omega)) (p4.keep m11 fun q hq h => by have := p6 q hq; have h : q = H9.size + 1 := h; omega) (m11.get p5 (by omega)) p6 p7
      refine main _ fun b' j xs r H' mm hl' hc H'' e'' => ?_
      obtain ⟨l8, m8⟩ := rec_facts hl' e''
      have m8' : Mod (fun q => H0.size ≤ q ∧ q < n) H' H'' := m8.mono fun q _ h => by have h : q = H9.size + 1 := h; omega
      refine ⟨mm.trans (m8.mono fun q _ h => by have h : q = H9.size + 1 := h; omega), ?_⟩
      rcases hc with ⟨rfl, c1, c2, c3, c4, c5, c6, c7⟩ | ⟨rfl, hq⟩
      · exact Or.inl ⟨rfl, ⟨j, xs, r, js n j H' H'' c1 m8', c2, m8.get c3 (by omega), c4.keep m8 (fun q hq h => by have := c6 q hq; have h : q = H9.size + 1 := h; omega), m8.get c5 (by omega), c6, c7⟩, l8⟩
      · exact Or.inr ⟨.ret, rfl, ⟨rfl, qs n H' H'' hq m8'⟩, l8⟩
    · -- the rest
      rintro n H19 hn hn' ⟨j, xs, r, p1, p2, p3, p4, p5, p6, p7⟩
      rw [List.drop_length, mergeL_nil] at p2
      refine jump_none ⟨xs, cell_at p3, ?_⟩
      have hlen := rows_len' (by omega) cells_len p4
      have last : ∀ (d t : Nat) (H' : Hp), t + d = r.length → n ≤ H'.size → J n (j + t) H' → AtL m (j + t) (r.drop t) → Rows H' xs 2 (items r) → H'[b]? = some (.cells #[.func y.fn y.fi y.ca] T_func_string_string_bool (0, 0)) → sorted_Merge_string_string_1.l2 J0 b xs H' (t : Int) fun _ H1 => ∃ n1, Q n1 H1 := by
        intro d
        induction d with
        | zero =>
          intro t H' ht hsz q1 q2 q3 q4
          apply sorted_Merge_string_string_1.l2.step; unfold sorted_Merge_string_string_1.l2.body
          rw [List.drop_eq_nil_of_le (by omega)] at q2
          rw [q2.nil] at q1
          exact Br.no (by simp; omega) ⟨n, fin n H' q1⟩
        | succ d ih =>
          intro t H' ht hsz q1 q2 q3 q4
          apply sorted_Merge_string_string_1.l2.step; unfold sorted_Merge_string_string_1.l2.body
          have htr : t < r.length := by omega
          obtain ⟨a, ha, hrow⟩ := row_get' (by omega) cells_len q3 htr
          rw [List.drop_eq_getElem_cons htr] at q2
          obtain ⟨hj, ez, q2'⟩ := q2.cons
          refine Br.yes (by simp; omega) ⟨⟨by omega, by omega⟩, vPtr.mk a ha ⟨r[t].1, r[t].2, by simpa [cells] using hrow, fun H21 e21 => ⟨y, ?_, ?_⟩⟩⟩
          · exact cell_at ((hole_facts e21).1.get q4 fun e => e)
          · obtain ⟨m21, s21⟩ := hole_facts e21
            have bd := body n (j + t) hj H21 (by omega) (by omega) (js n _ H' H21 q1 (m21.mono fun _ _ e => e.elim))
            rw [ez] at bd
            refine bd.imp ?_
            rintro rv Hx ⟨m2, h2⟩
            have hms := m2.size
            have keepq : ∀ q, H0.size ≤ q → q < n → ¬ ¬ (H0.size ≤ q ∧ q < n) := fun q h1 h2 h => h ⟨h1, h2⟩
            rcases h2 with ⟨rfl, h2⟩ | ⟨rfl, h2⟩
            · refine ⟨true, rfl, Br.no rfl ?_⟩
              rw [w64_id (x := (t : Int) + 1) (by omega) (by omega)]
              have := ih (t + 1) Hx (by omega) (by omega) h2 q2' ((q3.keep m21 fun _ _ e => e).keep m2 (fun q hq => keepq _ (by have := p6 q hq; omega) (by have := p6 q hq; omega))) (m2.get (m21.get q4 fun e => e) (keepq _ (by omega) (by omega)))
              simpa using this
            · exact ⟨false, rfl, Br.yes rfl ⟨n, h2⟩⟩
      have := last r.length 0 H19 (by omega) hn' p1 p2 p4 p5
      simpa using this
    · rintro c n H' hn ⟨rfl, hq⟩
      exact jump_ret ⟨n, hq⟩

theorem merge_goes {fa fb : Fv} {la lb : List It} {ba bb : List Nat} (ga : Goes Try.prog args fa la ba H) (gb : Goes Try.prog args fb lb bb H) (hl : lb.length ≤ 100000) :
    SCalls Try.prog sorted_Merge_string_string.id [.func fa.fn fa.fi fa.ca, .func fb.fn fb.fi fb.ca] H fun r H' => ∃ fv : Fv, r = .func fv.fn fv.fi fv.ca ∧ Goes Try.prog args fv (mergeL la lb) (H.size :: (H.size + 1) :: (ba ++ bb)) H' ∧ Mod (fun _ => False) H H' := by
  apply sorted_Merge_string_string.calls
  intro b hb H1 e1 b1 hb1 H2 e2
  obtain ⟨y1, m1, s1⟩ := push_facts e1
  obtain ⟨r2, m2, s2⟩ := push_facts e2
  subst hb; subst hb1
  have y2 := m2.get y1 fun e => e
  have m02 := m1.trans m2
  have g := merge1_goes (ga.mod m02 fun _ _ e => e) (gb.mod m02 fun _ _ e => e) hl y2 r2
  rw [s1] at g ⊢
  exact ⟨_, rfl, g, m02⟩
theorem merge_st {fa fb : Fv} {la lb : List It} {ba bb : List Nat} {K : Fv → Hp → Prop} (ga : Goes Try.prog args fa la ba H) (gb : Goes Try.prog args fb lb bb H) (hl : lb.length ≤ 100000)
    (hK : ∀ fv H', Goes Try.prog args fv (mergeL la lb) (H.size :: (H.size + 1) :: (ba ++ bb)) H' → Mod (fun _ => False) H H' → K fv H') :
    SCalls Try.prog sorted_Merge_string_string.id [.func fa.fn fa.fi fa.ca, .func fb.fn fb.fi fb.ca] H fun r H' => ∃ x : Fv, r = .func x.fn x.fi x.ca ∧ K x H' := by
  refine (merge_goes ga gb hl).mono ?_
  rintro r H' ⟨fv, rfl, h1, h2⟩
  exact ⟨fv, rfl, hK fv H' h1 h2⟩
end
end Go.Proofs.MP

