/- DELTAS: Between: the walk. -/
import Derived.Test.YtpdondaekinmdaaKde2
import Derived.Test.YtpdondaekinmdaaKu5
import Derived.Test.YtpdondaekinmdaaKd1
set_option linter.all false
set_option linter.constructorNameAsVariable false
set_option maxRecDepth 100000
namespace Go.Proofs
open Go Go.KC

/-- What pairs say of their keys. -/
def kvs (ps : List Pr) : List (ByteArray × ByteArray) := ps.map fun p => (p.key, p.value)
def btwP (old now : List (ByteArray × ByteArray)) (p : ByteArray × ByteArray) : List Pr := match valL now p.1 with
  | none => [⟨p.1, noText, true⟩]
  | some v => if valL old p.1 = some v then [] else [⟨p.1, v, false⟩]
def btw (old now : List (ByteArray × ByteArray)) : List Pr := (mergeL old now).flatMap (btwP old now)
def betweenD (a b : Wt) : Dl × Int :=
  if b.index < a.index ∨ b.term < a.term then (.zero, 8) else (⟨a.index, b.index, b.term, btw (ofL (kvs a.ps)) (ofL (kvs b.ps)), b.xs⟩, 0)
theorem ofL_ok (xs : List (ByteArray × ByteArray)) : Rise (ofL xs) ∧ (ofL xs).length ≤ xs.length := by
  have : ∀ n, Rise (ofL (xs.take n)) ∧ (ofL (xs.take n)).length ≤ n := by
    intro n
    induction n with
    | zero => simp [ofL]; exact Rise.nil
    | succ n ih =>
      by_cases hn : n < xs.length
      · rw [List.take_succ_eq_append_getElem hn, ofL_snoc]
        exact ⟨putL_rise ih.1 _ _, by have := putL_length (ofL (xs.take n)) xs[n].1 xs[n].2 ih.1; omega⟩
      · rw [List.take_of_length_le (by omega)] at ih ⊢
        exact ⟨ih.1, by omega⟩
  have := this xs.length
  rwa [List.take_length] at this
theorem MP_put {H : Hp} {g : Nat} {F : List Nat} {l : List (ByteArray × ByteArray)} {k v : ByteArray} {K : Bool → Hp → Prop} (h : MP.Mp H g 0 F l) (hl : l.length < 100000)
    (hK : ∀ x H' F', MP.Mp H' g 0 F' (putL l k v) → Mod (fun b => b = g ∨ b ∈ F) H H' → (∀ b ∈ F', b ∈ F ∨ H.size ≤ b) → K x H') :
    SCalls Try.prog sorted_Map_string_string_Put.id [.pointer (some ⟨g, 0, none⟩), .string k, .string v] H fun r H' => ∃ x : Bool, r = .bool x ∧ K x H' := by
  refine (MP.Put_spec (k := k) (v := v) h hl).mono ?_
  rintro r H' ⟨i, sp, rfl, F', h1, h2, h3, _⟩
  have e : putAt l k v i = putL l k v := by unfold putL; rw [spotOf_eq sp]
  rw [e] at h1
  exact ⟨_, rfl, hK _ H' F' h1 h2 h3⟩

section
variable {H : Hp}
/-- The third range: what is other. -/
theorem Btw_end {a b : Wt} {d : Nat} {ap : Sl} {b2 b3 : Nat} {H26 : Hp} {F2 F3 : List Nat} (hd : H.size ≤ d) (B : DB H26 d a.index b.index b.term ⟨none, 0, 0⟩ ap) (m : Mod (fun q => H.size ≤ q) H H26)
    (oa : Own H26 ap T_api_Session 4 (b.xs.map Se.row).flatten) (ha : ∀ q ∈ ap.blk, H.size ≤ q ∧ q ≠ d) (M2 : MP.Mp H26 b2 0 F2 (ofL (kvs a.ps))) (M3 : MP.Mp H26 b3 0 F3 (ofL (kvs b.ps))) (hn2 : b2 ≠ d ∧ d ∉ F2) (hn3 : b3 ≠ d ∧ d ∉ F3)
    (hl : a.ps.length ≤ 1000 ∧ b.ps.length ≤ 1000) (hc : ¬ (b.index < a.index ∨ b.term < a.term)) :
    SCalls Try.prog sorted_Map_string_string_All.id [.pointer (some (Addr.mk b2 0 none))] H26 (fun r4 H27 => ∃ x5 : Fv, r4 = .func x5.fn x5.fi x5.ca ∧ 
 SCalls Try.prog sorted_Map_string_string_All.id [.pointer (some (Addr.mk b3 0 none))] H27 (fun r5 H28 => ∃ x6 : Fv, r5 = .func x6.fn x6.fi x6.ca ∧ 
 SCalls Try.prog sorted_Merge_string_string.id [.func x5.fn x5.fi x5.ca, .func x6.fn x6.fi x6.ca] H28 (fun r6 H29 => ∃ x7 : Fv, r6 = .func x7.fn x7.fi x7.ca ∧ 
 ∀ fn2 : FuncId, ∀ tm2 : Array Value, TmOf (delta_Between.r3.fr (Addr.mk d 0 none) b2 b3) tm2 → vRg Try.prog (.func x7.fn x7.fi x7.ca) (Array.size H29 + 1) (Array.push (Array.push H29 hole) (delta_Between.r3.rec fn2 tm2 (Array.size H29) .ready none)) (fun H40 => ∃ st2 : LoopState, ∃ pd2 : Option Code, H40[(Array.size H29 + 1)]? = some (delta_Between.r3.rec fn2 tm2 (Array.size H29) st2 pd2) ∧ st2 ≠ .busy ∧ ∀ H41 : Hp, H41 = (Array.setIfInBounds H40 (Array.size H29 + 1) (delta_Between.r3.rec fn2 tm2 (Array.size H29) .exhausted pd2)) → ((pd2 = none → ∃ From : Int, ∃ To : Int, ∃ Term : Int, ∃ Pairs2 : Sl, ∃ Sessions : Sl, RowAt H41 (Addr.mk d 0 none) [.int .i64 From, .int .i64 To, .int .i64 Term, .slice Pairs2.a Pairs2.len Pairs2.cap, .slice Sessions.a Sessions.len Sessions.cap] ∧ EP H (betweenD a b) (.tuple #[.agg #[.int .i64 From, .int .i64 To, .int .i64 Term, .slice Pairs2.a Pairs2.len Pairs2.cap, .slice Sessions.a Sessions.len Sessions.cap], .int .i64 0]) H41) ∧ (pd2 = some .ret → EP H (betweenD a b) (.tuple #[.agg #[.int .i64 0, .int .i64 0, .int .i64 0, .slice none 0 0, .slice none 0 0], .int .i64 0]) H41) ∧ (True) ∧ (pd2 = none ∨ pd2 = some .ret ∨ ∃ i ∈ ([] : List Nat), pd2 = some (.exit i))))))) := by
  have hbz := lt_of_get B
  have r2 := ofL_ok (kvs a.ps)
  have r3 := ofL_ok (kvs b.ps)
  have k2 : (kvs a.ps).length = a.ps.length := List.length_map _
  have k3 : (kvs b.ps).length = b.ps.length := List.length_map _
  have l2 := M2.lt
  have l3 := M3.lt
  refine MP.all_st M2 fun f2 H27 g2 m27 => ?_
  refine MP.all_st (M3.mod m27) fun f3 H28 g3 m28 => ?_
  refine MP.merge_st (g2.mod m28 fun _ _ e => e) g3 (by omega) fun fv H29 gs m29 => ?_
  have mm := m27.trans (m28.trans m29)
  have B29 := B.keep mm fun e => e
  have o29 := oa.keep mm fun _ _ e => e
  have N2 := M2.mod mm
  have N3 := M3.mod mm
  have z27 := m27.size
  have z28 := m28.size
  have z29 := m29.size
  have la := Own.lt oa
  have z26 := m.size
  intro fn tm hT
  have hbs : ∀ q ∈ (H28.size :: (H28.size + 1) :: ((H26.size :: b2 :: F2) ++ (H27.size :: b3 :: F3))), q < H29.size := by obtain ⟨_, _, _, h, _⟩ := gs; exact h
  have hnb : ∀ q ∈ (H28.size :: (H28.size + 1) :: ((H26.size :: b2 :: F2) ++ (H27.size :: b3 :: F3))), q ≠ d := by
    intro q hq
    simp only [List.mem_cons, List.mem_append] at hq
    rcases hq with h | h | (h | h | h) | (h | h | h)
    · omega
    · omega
    · omega
    · rw [h]; exact hn2.1
    · exact fun e => hn2.2 (e ▸ h)
    · omega
    · rw [h]; exact hn3.1
    · exact fun e => hn3.2 (e ▸ h)
  generalize hOld : ofL (kvs a.ps) = old at *
  generalize hNow : ofL (kvs b.ps) = now at *
  generalize hM : mergeL old now = M at gs
  have hMl : M.length ≤ 2000 := by
    have := mergeL_length old now
    rw [hM] at this
    omega
  have one : ∀ p, (btwP old now p).length ≤ 1 := by
    intro p; unfold btwP
    split
    · simp
    · split <;> simp
  have cnt : ∀ l : List (ByteArray × ByteArray), (l.flatMap (btwP old now)).length ≤ l.length := by
    intro l
    induction l with
    | nil => simp
    | cons p l ih => have := one p; rw [List.flatMap_cons, List.length_append, List.length_cons]; omega
  refine gs.range (rec := delta_Between.r3.rec fn tm H29.size) (fun n i H' => ∃ xs : Sl, DB H' d a.index b.index b.term xs ap ∧ Own H' xs T_api_Pair 3 (((M.take i).flatMap (btwP old now)).map Pr.row).flatten ∧ (∀ q ∈ xs.blk, n ≤ q) ∧ Mod (fun q => q = d ∨ H29.size ≤ q) H29 H') (fun _ _ _ => False) ?_ ?_ ?_ (fun _ _ _ _ h _ => h) ?_ ?_ (fun _ _ _ _ h => h.elim)
  · intro n H' hn hn' m
    exact ⟨⟨none, 0, 0⟩, B29.keep m fun e => e, by simpa using Own.nil H' T_api_Pair 3, by simp [Sl.blk], m.mono fun _ _ e => e.elim⟩
  · rintro n i H' ⟨xs, w1, w2, w3, w4⟩
    exact Mod.same w4 fun q hq => ⟨hbs q hq, fun h => h.elim (hnb q hq) fun h => by have := hbs q hq; omega⟩
  · rintro n i H' H'' ⟨xs, w1, w2, w3, w4⟩ m
    exact ⟨xs, w1.keep m (by omega), w2.keep m (fun q hq h => by have := w3 q hq; omega), w3, w4.trans (m.mono fun q _ h => Or.inr h.1)⟩
  · rintro n i hi H30 hn hn' ⟨xs, w1, w2, w3, w4⟩ hrec
    refine delta_Between.r3.calls hrec hT ⟨hrec, fun H31 e31 => ?_⟩
    obtain ⟨l31, m31⟩ := rec_facts hrec e31
    have hs31 : Mod (fun q => q = d ∨ H29.size ≤ q) H29 H31 := w4.trans (m31.mono fun q _ h => Or.inr (by have h : q = H29.size + 1 := h; omega))
    have P3 := N3.keep hs31 (fun h => h.elim hn3.1 fun h => by omega) fun q hq h => h.elim (fun e => hn3.2 (e ▸ hq)) fun h => by have := l3.2 q hq; omega
    have P2 := N2.keep hs31 (fun h => h.elim hn2.1 fun h => by omega) fun q hq h => h.elim (fun e => hn2.2 (e ▸ hq)) fun h => by have := l2.2 q hq; omega
    refine MP.get_step P3 fun H32 m32 => MP.get_step (P2.mod m32) fun H33 m33 => ?_
    have b33 := ((w1.keep m31 (by omega)).keep m32 fun e => e).keep m33 fun e => e
    have o33 := ((w2.keep m31 fun q hq h => by have := w3 q hq; have h : q = H29.size + 1 := h; omega).keep m32 fun _ _ e => e).keep m33 fun _ _ e => e
    have l33 := m33.get (m32.get l31 fun e => e) fun e => e
    have m3033 : Mod (fun q => q = H29.size + 1) H30 H33 := m31.trans ((m32.trans m33).mono fun _ _ e => e.elim)
    have z33 := m3033.size
    have hlen := rows_len' (by omega) Pr.row_len (Own.rows w2)
    have hc1 := cnt (M.take i)
    rw [List.length_take] at hc1
    have step : (M.take (i + 1)).flatMap (btwP old now) = (M.take i).flatMap (btwP old now) ++ btwP old now M[i] := by
      rw [List.take_succ_eq_append_getElem hi, List.flatMap_append]; simp
    -- the end of a round: a pair more, or none
    have add : ∀ p : Pr, btwP old now M[i] = [p] → ∀ b4 : Nat, b4 = Array.size H33 → ∀ H34 : Hp, H34 = (Array.push H33 (.cells p.row.toArray T_api_Pair)) → 
        vApp Try.prog T_sl_api_Pair xs.a xs.len xs.cap (.slice (some (Addr.mk b4 0 none)) 1 1) H34 (fun ap2 H35 => WrAt H35 ((Addr.mk d 0 none).add 3) 1 ∧ ∀ H36 : Hp, H36 = (Hp.setCell H35 ((Addr.mk d 0 none).add 3) (.slice ap2.a ap2.len ap2.cap)) → 
          ((∃ st : LoopState, ∃ pd : Option Code, H36[H29.size + 1]? = some (delta_Between.r3.rec fn tm H29.size st pd)) ∧ Mod (fun b => ¬ (H29.size + 2 ≤ b ∧ b < n)) H30 (Array.setIfInBounds H36 (H29.size + 1) (delta_Between.r3.rec fn tm H29.size .ready none)) ∧
            (((Value.bool true) = .bool true ∧ (∃ xs : Sl, DB (Array.setIfInBounds H36 (H29.size + 1) (delta_Between.r3.rec fn tm H29.size .ready none)) d a.index b.index b.term xs ap ∧ Own (Array.setIfInBounds H36 (H29.size + 1) (delta_Between.r3.rec fn tm H29.size .ready none)) xs T_api_Pair 3 (((M.take (i + 1)).flatMap (btwP old now)).map Pr.row).flatten ∧ (∀ q ∈ xs.blk, n ≤ q) ∧ Mod (fun q => q = d ∨ H29.size ≤ q) H29 (Array.setIfInBounds H36 (H29.size + 1) (delta_Between.r3.rec fn tm H29.size .ready none))) ∧ (Array.setIfInBounds H36 (H29.size + 1) (delta_Between.r3.rec fn tm H29.size .ready none))[H29.size + 1]? = some (delta_Between.r3.rec fn tm H29.size .ready none)) ∨
              (∃ c, (Value.bool true) = .bool false ∧ False ∧ (Array.setIfInBounds H36 (H29.size + 1) (delta_Between.r3.rec fn tm H29.size .ready none))[H29.size + 1]? = some (delta_Between.r3.rec fn tm H29.size .done (some c)))))) := by
      intro p hp
      refine addEl (p := p.row) elPair o33 rfl (by rfl) (by omega) fun ys H6 o6 b6 m6 => ?_
      have c6 := b33.keep m6 fun h => by have := w3 _ h; omega
      refine ⟨c6.wr3, fun H7 e7 => ?_⟩
      obtain ⟨c7, m7⟩ := c6.set3 e7
      have l7 := m7.get (m6.get l33 fun h => by have := w3 _ h; omega) (show ¬ H29.size + 1 = d by omega)
      have b6' : ∀ q ∈ ys.blk, n ≤ q := fun q hq => (b6 q hq).elim (w3 q) fun h => by omega
      obtain ⟨l8, m8⟩ := rec_facts (o' := delta_Between.r3.rec fn tm H29.size .ready none) l7 rfl
      refine ⟨⟨_, _, l7⟩, (m3033.mono fun q _ h => by omega).trans ((m6.mono fun q _ h => by have := w3 q h; omega).trans ((m7.mono fun q _ h => by have h : q = d := h; omega).trans (m8.mono fun q _ h => by have h : q = H29.size + 1 := h; omega))), Or.inl ⟨rfl, ⟨ys, c7.keep m8 (by omega), ?_, b6', ?_⟩, l8⟩⟩
      · rw [step, hp, List.map_append, List.flatten_append]
        have := (o6.keep m7 fun q hq h => by have := b6' q hq; have h : q = d := h; omega).keep m8 fun q hq h => by have := b6' q hq; have h : q = H29.size + 1 := h; omega
        simpa using this
      · exact w4.trans ((m3033.mono fun q _ h => Or.inr (by omega)).trans ((m6.mono fun q _ h => Or.inr (by have := w3 q h; omega)).trans ((m7.mono fun q _ h => Or.inl h).trans (m8.mono fun q _ h => Or.inr (by have h : q = H29.size + 1 := h; omega)))))
    rw [MP_get, MP_get]
    cases hv : valL now M[i].1 with
    | none =>
      refine Br.yes rfl ⟨xs, b33.at3, ?_⟩
      exact add ⟨M[i].1, noText, true⟩ (by unfold btwP; rw [hv])
    | some v =>
      refine Br.no rfl ?_
      cases hw : valL old M[i].1 with
      | none =>
        have hp : btwP old now M[i] = [⟨M[i].1, v, false⟩] := by unfold btwP; rw [hv]; dsimp only; rw [hw, if_neg (by simp)]
        refine Br.yes rfl ?_
        apply delta_Between.k3.step; unfold delta_Between.k3.body
        exact Br.yes rfl ⟨xs, b33.at3, add _ hp⟩
      | some w =>
        refine Br.no rfl ?_
        rw [beq_list]
        by_cases c : w = v
        · rw [decide_eq_true c]
          apply delta_Between.k3.step; unfold delta_Between.k3.body
          refine Br.no rfl ?_
          have hp : btwP old now M[i] = [] := by unfold btwP; rw [hv]; dsimp only; rw [hw, c, if_pos rfl]
          obtain ⟨l8, m8⟩ := rec_facts (o' := delta_Between.r3.rec fn tm H29.size .ready none) l33 rfl
          refine ⟨⟨_, _, l33⟩, (m3033.mono fun q _ h => by omega).trans (m8.mono fun q _ h => by have h : q = H29.size + 1 := h; omega), Or.inl ⟨rfl, ⟨xs, b33.keep m8 (by omega), ?_, w3, ?_⟩, l8⟩⟩
          · rw [step, hp, List.append_nil]
            exact o33.keep m8 fun q hq h => by have := w3 q hq; have h : q = H29.size + 1 := h; omega
          · exact w4.trans ((m3033.mono fun q _ h => Or.inr (by omega)).trans (m8.mono fun q _ h => Or.inr (by have h : q = H29.size + 1 := h; omega)))
        · rw [decide_eq_false c]
          have hp : btwP old now M[i] = [⟨M[i].1, v, false⟩] := by unfold btwP; rw [hv]; dsimp only; rw [hw, if_neg (by simpa using c)]
          apply delta_Between.k3.step; unfold delta_Between.k3.body
          exact Br.yes rfl ⟨xs, b33.at3, add _ hp⟩
  · rintro n H41 hn hn' ⟨xs, w1, w2, w3, w4⟩
    rw [List.take_length] at w2
    have hmm : M.flatMap (btwP old now) = btw old now := by unfold btw; rw [hM]
    rw [hmm] at w2
    have mT : Mod (fun _ => False) H H41 := Mod.fresh ((m.trans (mm.mono fun _ _ e => e.elim)).trans (w4.mono (m' := fun q => H.size ≤ q) fun q _ h => by omega)) fun _ h => h
    have e : betweenD a b = (⟨a.index, b.index, b.term, btw old now, b.xs⟩, 0) := by unfold betweenD; rw [if_neg hc, hOld, hNow]
    rw [e]
    refine jump_none ⟨_, _, _, xs, ap, w1.row, xs, ap, rfl, ⟨Own.rows w2, (Own.rows o29).keep w4 fun q hq h => ?_⟩, mT⟩
    have := ha q hq
    have := la q hq
    omega

/-- A map is filled with what pairs say: a round of r1. -/
theorem Btw_fill1 {ps : List Pr} {H13 : Hp} {fv : Fv} {bs : List Nat} {b2 : Nat} {R : Option Code → Hp → Prop} (gs : Goes Try.prog PP.args fv (PP.byKey ps) bs H13) (M0 : MP.Mp H13 b2 0 [] []) (hb : ∀ q ∈ bs, q ≠ b2) (hl : ps.length ≤ 1000) {fn : FuncId} {tm : Array Value} (hT : TmOf (delta_Between.r1.fr b2) tm)
    (hR : ∀ H' F, MP.Mp H' b2 0 F (ofL (kvs ps)) → (∀ q ∈ F, H13.size ≤ q) → Mod (fun q => q = b2 ∨ H13.size ≤ q) H13 H' → R none H') :
    vRg Try.prog (.func fv.fn fv.fi fv.ca) (H13.size + 1) (Array.push (Array.push H13 hole) (delta_Between.r1.rec fn tm H13.size .ready none)) fun H' => ∃ st : LoopState, ∃ pd : Option Code, H'[H13.size + 1]? = some (delta_Between.r1.rec fn tm H13.size st pd) ∧ st ≠ .busy ∧ ∀ H3 : Hp, H3 = H'.setIfInBounds (H13.size + 1) (delta_Between.r1.rec fn tm H13.size .exhausted pd) → R pd H3 := by
  have hbs : ∀ q ∈ bs, q < H13.size := by obtain ⟨_, _, _, h, _⟩ := gs; exact h
  have lb := M0.lt.1
  refine gs.range (rec := delta_Between.r1.rec fn tm H13.size) (fun n i H' => ∃ F, MP.Mp H' b2 0 F (ofL ((kvs ps).take i)) ∧ (∀ q ∈ F, n ≤ q) ∧ Mod (fun q => q = b2 ∨ H13.size ≤ q) H13 H') (fun _ _ _ => False) ?_ ?_ ?_ (fun _ _ _ _ h _ => h) ?_ ?_ (fun _ _ _ _ h => h.elim)
  · intro n H' hn hn' m
    exact ⟨[], by simpa [ofL] using M0.mod m, by simp, m.mono fun _ _ e => e.elim⟩
  · rintro n i H' ⟨F, w1, w2, w3⟩
    exact Mod.same w3 fun q hq => ⟨hbs q hq, fun h => h.elim (hb q hq) fun h => by have := hbs q hq; omega⟩
  · rintro n i H' H'' ⟨F, w1, w2, w3⟩ m
    exact ⟨F, w1.keep m (by omega) (fun q hq h => by have := w2 q hq; omega), w2, w3.trans (m.mono fun q _ h => Or.inr h.1)⟩
  · rintro n i hi H14 hn hn' ⟨F, w1, w2, w3⟩ hrec
    have hil : i < ps.length := by rw [PP.byKey_len] at hi; exact hi
    have hik : i < (kvs ps).length := by unfold kvs; rw [List.length_map]; exact hil
    have e0 : (PP.byKey ps)[i] = (ps[i].key, ps[i]) := List.getElem_map _
    have e1 : (kvs ps)[i] = (ps[i].key, ps[i].value) := List.getElem_map _
    rw [e0]
    refine delta_Between.r1.calls (vKey := ps[i].key) (vValue := ps[i].value) (vGone := ps[i].gone) hrec hT (fun H15 e15 => ?_)
    obtain ⟨m15, s15⟩ := hole_facts e15
    have l15 := m15.get hrec fun e => e
    refine ⟨l15, fun H16 e16 => ?_⟩
    obtain ⟨l16, m16⟩ := rec_facts l15 e16
    have w16 := (w1.mod m15).keep m16 (by omega) fun q hq h => by have := w2 q hq; have h : q = H13.size + 1 := h; omega
    have hlen := ofL_ok ((kvs ps).take i)
    have hk : ((kvs ps).take i).length ≤ 1000 := by rw [List.length_take]; unfold kvs; rw [List.length_map]; omega
    refine MP_put w16 (by omega) fun x H17 F' w17 m17 f17 => ?_
    have z16 := m16.size
    have l17 := m17.get l16 fun h => h.elim (fun h => by omega) fun h => by have := w2 _ h; omega
    obtain ⟨l18, m18⟩ := rec_facts (o' := delta_Between.r1.rec fn tm H13.size .ready none) l17 rfl
    have f' : ∀ q ∈ F', n ≤ q := fun q hq => (f17 q hq).elim (w2 q) fun h => by omega
    have e2 : ofL ((kvs ps).take (i + 1)) = putL (ofL ((kvs ps).take i)) ps[i].key ps[i].value := by
      rw [List.take_succ_eq_append_getElem hik, ofL_snoc, e1]
    refine ⟨⟨_, _, l17⟩, (m15.mono fun _ _ e => e.elim).trans ((m16.mono fun q _ h => by have h : q = H13.size + 1 := h; omega).trans ((m17.mono fun q _ h => h.elim (fun h => by omega) fun h => by have := w2 q h; omega).trans (m18.mono fun q _ h => by have h : q = H13.size + 1 := h; omega))), Or.inl ⟨rfl, ⟨F', ?_, f', ?_⟩, l18⟩⟩
    · rw [e2]
      exact w17.keep m18 (by omega) fun q hq h => by have := f' q hq; have h : q = H13.size + 1 := h; omega
    · exact w3.trans ((m15.mono fun _ _ e => e.elim).trans ((m16.mono fun q _ h => Or.inr (by have h : q = H13.size + 1 := h; omega)).trans ((m17.mono fun q _ h => h.elim (fun h => Or.inl h) fun h => Or.inr (by have := w2 q h; omega)).trans (m18.mono fun q _ h => Or.inr (by have h : q = H13.size + 1 := h; omega)))))
  · rintro n H' hn hn' ⟨F, w1, w2, w3⟩
    have e : (kvs ps).take (PP.byKey ps).length = kvs ps := List.take_of_length_le (by rw [PP.byKey_len]; unfold kvs; rw [List.length_map]; exact Nat.le_refl _)
    rw [e] at w1
    exact hR H' F w1 (fun q hq => by have := w2 q hq; omega) w3
/-- A map is filled with what pairs say: a round of r2. -/
theorem Btw_fill2 {ps : List Pr} {H13 : Hp} {fv : Fv} {bs : List Nat} {b2 : Nat} {R : Option Code → Hp → Prop} (gs : Goes Try.prog PP.args fv (PP.byKey ps) bs H13) (M0 : MP.Mp H13 b2 0 [] []) (hb : ∀ q ∈ bs, q ≠ b2) (hl : ps.length ≤ 1000) {fn : FuncId} {tm : Array Value} (hT : TmOf (delta_Between.r2.fr b2) tm)
    (hR : ∀ H' F, MP.Mp H' b2 0 F (ofL (kvs ps)) → (∀ q ∈ F, H13.size ≤ q) → Mod (fun q => q = b2 ∨ H13.size ≤ q) H13 H' → R none H') :
    vRg Try.prog (.func fv.fn fv.fi fv.ca) (H13.size + 1) (Array.push (Array.push H13 hole) (delta_Between.r2.rec fn tm H13.size .ready none)) fun H' => ∃ st : LoopState, ∃ pd : Option Code, H'[H13.size + 1]? = some (delta_Between.r2.rec fn tm H13.size st pd) ∧ st ≠ .busy ∧ ∀ H3 : Hp, H3 = H'.setIfInBounds (H13.size + 1) (delta_Between.r2.rec fn tm H13.size .exhausted pd) → R pd H3 := by
  have hbs : ∀ q ∈ bs, q < H13.size := by obtain ⟨_, _, _, h, _⟩ := gs; exact h
  have lb := M0.lt.1
  refine gs.range (rec := delta_Between.r2.rec fn tm H13.size) (fun n i H' => ∃ F, MP.Mp H' b2 0 F (ofL ((kvs ps).take i)) ∧ (∀ q ∈ F, n ≤ q) ∧ Mod (fun q => q = b2 ∨ H13.size ≤ q) H13 H') (fun _ _ _ => False) ?_ ?_ ?_ (fun _ _ _ _ h _ => h) ?_ ?_ (fun _ _ _ _ h => h.elim)
  · intro n H' hn hn' m
    exact ⟨[], by simpa [ofL] using M0.mod m, by simp, m.mono fun _ _ e => e.elim⟩
  · rintro n i H' ⟨F, w1, w2, w3⟩
    exact Mod.same w3 fun q hq => ⟨hbs q hq, fun h => h.elim (hb q hq) fun h => by have := hbs q hq; omega⟩
  · rintro n i H' H'' ⟨F, w1, w2, w3⟩ m
    exact ⟨F, w1.keep m (by omega) (fun q hq h => by have := w2 q hq; omega), w2, w3.trans (m.mono fun q _ h => Or.inr h.1)⟩
  · rintro n i hi H14 hn hn' ⟨F, w1, w2, w3⟩ hrec
    have hil : i < ps.length := by rw [PP.byKey_len] at hi; exact hi
    have hik : i < (kvs ps).length := by unfold kvs; rw [List.length_map]; exact hil
    have e0 : (PP.byKey ps)[i] = (ps[i].key, ps[i]) := List.getElem_map _
    have e1 : (kvs ps)[i] = (ps[i].key, ps[i].value) := List.getElem_map _
    rw [e0]
    refine delta_Between.r2.calls (vKey1 := ps[i].key) (vValue1 := ps[i].value) (vGone1 := ps[i].gone) hrec hT (fun H15 e15 => ?_)
    obtain ⟨m15, s15⟩ := hole_facts e15
    have l15 := m15.get hrec fun e => e
    refine ⟨l15, fun H16 e16 => ?_⟩
    obtain ⟨l16, m16⟩ := rec_facts l15 e16
    have w16 := (w1.mod m15).keep m16 (by omega) fun q hq h => by have := w2 q hq; have h : q = H13.size + 1 := h; omega
    have hlen := ofL_ok ((kvs ps).take i)
    have hk : ((kvs ps).take i).length ≤ 1000 := by rw [List.length_take]; unfold kvs; rw [List.length_map]; omega
    refine MP_put w16 (by omega) fun x H17 F' w17 m17 f17 => ?_
    have z16 := m16.size
    have l17 := m17.get l16 fun h => h.elim (fun h => by omega) fun h => by have := w2 _ h; omega
    obtain ⟨l18, m18⟩ := rec_facts (o' := delta_Between.r2.rec fn tm H13.size .ready none) l17 rfl
    have f' : ∀ q ∈ F', n ≤ q := fun q hq => (f17 q hq).elim (w2 q) fun h => by omega
    have e2 : ofL ((kvs ps).take (i + 1)) = putL (ofL ((kvs ps).take i)) ps[i].key ps[i].value := by
      rw [List.take_succ_eq_append_getElem hik, ofL_snoc, e1]
    refine ⟨⟨_, _, l17⟩, (m15.mono fun _ _ e => e.elim).trans ((m16.mono fun q _ h => by have h : q = H13.size + 1 := h; omega).trans ((m17.mono fun q _ h => h.elim (fun h => by omega) fun h => by have := w2 q h; omega).trans (m18.mono fun q _ h => by have h : q = H13.size + 1 := h; omega))), Or.inl ⟨rfl, ⟨F', ?_, f', ?_⟩, l18⟩⟩
    · rw [e2]
      exact w17.keep m18 (by omega) fun q hq h => by have := f' q hq; have h : q = H13.size + 1 := h; omega
    · exact w3.trans ((m15.mono fun _ _ e => e.elim).trans ((m16.mono fun q _ h => Or.inr (by have h : q = H13.size + 1 := h; omega)).trans ((m17.mono fun q _ h => h.elim (fun h => Or.inl h) fun h => Or.inr (by have := w2 q h; omega)).trans (m18.mono fun q _ h => Or.inr (by have h : q = H13.size + 1 := h; omega)))))
  · rintro n H' hn hn' ⟨F, w1, w2, w3⟩
    have e : (kvs ps).take (PP.byKey ps).length = kvs ps := List.take_of_length_le (by rw [PP.byKey_len]; unfold kvs; rw [List.length_map]; exact Nat.le_refl _)
    rw [e] at w1
    exact hR H' F w1 (fun q hq => by have := w2 q hq; omega) w3
theorem Between_k2 {a b : Wt} {p x bp bx ap : Sl} {d : Nat} {H10 : Hp} (hd : H.size ≤ d) (B : DB H10 d a.index b.index b.term ⟨none, 0, 0⟩ ap) (m : Mod (fun q => H.size ≤ q) H H10) (hr : Rows H p 3 (a.ps.map Pr.row).flatten) (hr' : Rows H bp 3 (b.ps.map Pr.row).flatten)
    (oa : Own H10 ap T_api_Session 4 (b.xs.map Se.row).flatten) (ha : ∀ q ∈ ap.blk, H.size ≤ q ∧ q ≠ d) (hl : a.ps.length ≤ 1000 ∧ b.ps.length ≤ 1000) (hc : ¬ (b.index < a.index ∨ b.term < a.term)) :
    delta_Between.k2 J0 a.index a.term p x b.index b.term bp bx (Addr.mk d 0 none) H10 (EP H (betweenD a b)) := by
  have hbz := lt_of_get B
  have mF : Mod (fun _ => False) H H10 := Mod.fresh m fun _ h => h
  have lo := Own.lt oa
  have z10 := m.size
  apply delta_Between.k2.step; unfold delta_Between.k2.body
  intro b2 hb2 H11 h11 b3 hb3 H12 h12
  obtain ⟨q11, m11, s11⟩ := push_facts h11
  obtain ⟨q12, m12, s12⟩ := push_facts h12
  have M2 : MP.Mp H12 b2 0 [] [] := by
    have : MP.Mp H11 b2 0 [] [] := by rw [hb2, h11]; exact MP.Mp.new H10 T_sorted_Map_string_string
    exact this.mod m12
  have M3 : MP.Mp H12 b3 0 [] [] := by rw [hb3, h12]; exact MP.Mp.new H11 T_sorted_Map_string_string
  have m1012 := m11.trans m12
  refine PP.seq_st ((hr.keep mF fun _ _ e => e).keep m1012 fun _ _ e => e) (by omega) (fun fa ba H13 ga hba m13 => ?_) fun hne q hq => by have := rows_lt (by omega) Pr.row_len hr hne q hq; omega
  intro fn tm hT
  have z13 := m13.size
  have old : ∀ {ps : List Pr} {x : Sl} {Hx : Hp} {bs : List Nat}, Rows H x 3 (ps.map Pr.row).flatten → (∀ q ∈ bs, Hx.size ≤ q ∨ (ps ≠ [] ∧ q ∈ x.blk)) → H12.size ≤ Hx.size → ∀ q ∈ bs, q ≠ b2 ∧ q ≠ b3 ∧ q ≠ d := by
    intro ps x Hx bs hr hb hz q hq
    rcases hb q hq with h | ⟨h1, h2⟩
    · omega
    · have := rows_lt (by omega) Pr.row_len hr h1 q h2; omega
  refine Btw_fill1 ga (M2.mod m13) (fun q hq => (old hr hba (Nat.le_refl _) q hq).1) hl.1 hT fun H19 F2 P2 f2 m19 => ?_
  have z19 := m19.size
  have l2 := P2.lt
  have mF19 : Mod (fun q => q = b2 ∨ H12.size ≤ q) H12 H19 := (m13.mono fun _ _ e => e.elim).trans (m19.mono fun q _ h => h.imp id fun h => by omega)
  have mT19 : Mod (fun _ => False) H H19 := Mod.fresh ((m.trans (m1012.mono fun _ _ e => e.elim)).trans (mF19.mono (m' := fun q => H.size ≤ q) fun q _ h => by omega)) fun _ h => h
  have P3 := M3.keep mF19 (by omega) fun q hq => by simp at hq
  refine jump_none ?_
  refine PP.seq_st (hr'.keep mT19 fun _ _ e => e) (by omega) (fun fb bb H20 gb hbb m20 => ?_) fun hne q hq => by have := rows_lt (by omega) Pr.row_len hr' hne q hq; omega
  intro fn1 tm1 hT1
  have z20 := m20.size
  refine Btw_fill2 gb (P3.mod m20) (fun q hq => (old hr' hbb (by omega) q hq).2.1) hl.2 hT1 fun H26 F3 R3 f3 m26 => ?_
  have z26 := m26.size
  have mF26 : Mod (fun q => q = b3 ∨ H19.size ≤ q) H19 H26 := (m20.mono fun _ _ e => e.elim).trans (m26.mono fun q _ h => h.imp id fun h => by omega)
  have R2 := P2.keep mF26 (by omega) fun q hq h => by have := l2.2 q hq; have := f2 q hq; omega
  have mAll : Mod (fun q => q = b2 ∨ q = b3 ∨ H12.size ≤ q) H12 H26 := (mF19.mono fun q _ h => by omega).trans (mF26.mono fun q _ h => by omega)
  have B26 := (B.keep m1012 fun e => e).keep mAll (by omega)
  have o26 := (oa.keep m1012 fun _ _ e => e).keep mAll fun q hq h => by have := lo q hq; omega
  refine jump_none ?_
  exact Btw_end hd B26 ((m.trans (m1012.mono fun _ _ e => e.elim)).trans (mAll.mono fun q _ h => by omega)) o26 ha R2 R3 ⟨by omega, fun h => by have := f2 _ h; omega⟩ ⟨by omega, fun h => by have := f3 _ h; omega⟩ hl hc
theorem Between_spec {a b : Wt} {p x bp bx : Sl} (hs : RR H p x a.ps a.xs) (hd : RR H bp bx b.ps b.xs) (hl : a.ps.length ≤ 1000 ∧ b.ps.length ≤ 1000 ∧ b.xs.length ≤ 1000) :
    SCalls Try.prog delta_Between.id [wtV a p x, wtV b bp bx] H (EP H (betweenD a b)) := by
  apply delta_Between.calls (aIndex := a.index) (aTerm := a.term) (aPairs := p) (aSessions := x) (bIndex := b.index) (bTerm := b.term) (bPairs := bp) (bSessions := bx)
  intro H1 e1 H2 e2 H3 e3
  obtain ⟨m1, _⟩ := hole_facts e1
  obtain ⟨m2, _⟩ := hole_facts e2
  obtain ⟨m3, _⟩ := hole_facts e3
  have m03 := m1.trans (m2.trans m3)
  have hs3 := hs.mod m03
  have hd3 := hd.mod m03
  have z3 := m03.size
  have ld := hd.lens
  have bad : (b.index < a.index ∨ b.term < a.term) → ∀ y : Bool, y = true → delta_Between.k1 J0 a.index a.term p x b.index b.term bp bx H3 y (EP H (betweenD a b)) := by
    rintro hc y rfl
    apply delta_Between.k1.step; unfold delta_Between.k1.body
    have e : betweenD a b = (.zero, 8) := by unfold betweenD; rw [if_pos hc]
    rw [e]
    exact Br.yes rfl ⟨⟨none, 0, 0⟩, ⟨none, 0, 0⟩, rfl, RR.nil _, m03⟩
  by_cases h1 : b.index < a.index
  · exact Br.yes (decide_eq_true h1) (bad (Or.inl h1) true rfl)
  refine Br.no (decide_eq_false h1) ?_
  by_cases h3 : b.term < a.term
  · exact bad (Or.inr h3) _ (decide_eq_true h3)
  rw [decide_eq_false h3]
  have hc : ¬ (b.index < a.index ∨ b.term < a.term) := by omega
  apply delta_Between.k1.step; unfold delta_Between.k1.body
  refine Br.no rfl ⟨?_, fun b1 hb H7 h7 => ?_⟩
  · refine copyEl elSess hd3.2 (ses_one b.xs) (by omega) fun ap H4 oa hap m4 => ?_
    intro b1 hb H5 h5
    obtain ⟨q5, m5, s5⟩ := push_facts h5
    rw [← hb] at q5
    have B5 : DB H5 b1 0 0 0 ⟨none, 0, 0⟩ ⟨none, 0, 0⟩ := q5
    refine ⟨B5.wr5, fun H6 h6 => ?_⟩
    obtain ⟨B6, m6⟩ := B5.put5 (p' := ⟨none, 0, 0⟩) h6
    have z4 := m4.size
    have lo := Own.lt oa
    refine Between_k2 (by omega) B6 (((m03.trans (m4.trans m5)).mono fun _ _ e => e.elim).trans (m6.mono fun q _ h => by have h : q = b1 := h; omega)) hs.1 hd.1 ((oa.keep m5 fun _ _ e => e).keep m6 fun q hq h => by have := lo q hq; have h : q = b1 := h; omega) (fun q hq => ⟨by have := hap q hq; omega, by have := lo q hq; omega⟩) ⟨hl.1, hl.2.1⟩ hc
  · obtain ⟨q7, m7, s7⟩ := push_facts h7
    rw [← hb] at q7
    have B7 : DB H7 b1 0 0 0 ⟨none, 0, 0⟩ ⟨none, 0, 0⟩ := q7
    refine copyEl elSess (hd3.mod m7).2 (ses_one b.xs) (by omega) fun ap H8 oa hap m8 => ?_
    have B8 := B7.keep m8 fun e => e
    refine ⟨B8.wr5, fun H9 h9 => ?_⟩
    obtain ⟨B9, m9⟩ := B8.put5 (p' := ⟨none, 0, 0⟩) h9
    have lo := Own.lt oa
    refine Between_k2 (by omega) B9 (((m03.trans (m7.trans m8)).mono fun _ _ e => e.elim).trans (m9.mono fun q _ h => by have h : q = b1 := h; omega)) hs.1 hd.1 (oa.keep m9 fun q hq h => by have := hap q hq; have h : q = b1 := h; omega) (fun q hq => ⟨by have := hap q hq; omega, by have := hap q hq; omega⟩) ⟨hl.1, hl.2.1⟩ hc
end
end Go.Proofs
