/- LAYER 14: what a replica does, part 5: got, take. -/
import Derived.Test.YtbodlapndgnkgaaKno5
set_option linter.all false
set_option linter.constructorNameAsVariable false
namespace Go.Proofs
open Go Go.KC

def Nd.got (n : Nd) (m : Mg) : Nd :=
  if m.term ≠ n.term then n else if n.role ≠ 2 then n
  else if m.ok = false then n.setN m.frm (max 1 (max (min (n.next m.frm - 1) (w64 (m.index + 1))) (n.mt m.frm + 1)))
  else if m.index < 0 ∨ m.index > n.last then n
  else ((n.setM m.frm (max (n.mt m.frm) m.index)).setN m.frm (max (n.mt m.frm) m.index + 1)).commit
theorem setM_mt {n : Nd} {i v : Int} (hi : 0 ≤ i ∧ i < 3) : (n.setM i v).mt i = v := by
  have : i = 0 ∨ i = 1 ∨ i = 2 := by omega
  rcases this with rfl | rfl | rfl <;> rfl
theorem setM_keep {n : Nd} {i v : Int} : (n.setM i v).id = n.id ∧ (n.setM i v).base = n.base ∧ (n.setM i v).bt = n.bt ∧ (n.setM i v).es = n.es ∧ (n.setM i v).com = n.com ∧ (n.setM i v).term = n.term ∧ (n.setM i v).role = n.role ∧ (n.setM i v).vote = n.vote := by
  unfold Nd.setM; split
  · exact ⟨rfl, rfl, rfl, rfl, rfl, rfl, rfl, rfl⟩
  · split <;> exact ⟨rfl, rfl, rfl, rfl, rfl, rfl, rfl, rfl⟩
theorem setN_keep {n : Nd} {i v : Int} : (n.setN i v).id = n.id ∧ (n.setN i v).base = n.base ∧ (n.setN i v).bt = n.bt ∧ (n.setN i v).es = n.es ∧ (n.setN i v).com = n.com ∧ (n.setN i v).term = n.term ∧ (n.setN i v).role = n.role ∧ (n.setN i v).vote = n.vote := by
  unfold Nd.setN; split
  · exact ⟨rfl, rfl, rfl, rfl, rfl, rfl, rfl, rfl⟩
  · split <;> exact ⟨rfl, rfl, rfl, rfl, rfl, rfl, rfl, rfl⟩
theorem Nd.Fit.same {n n' : Nd} (f : n.Fit) (hi : n'.id = n.id) (hb : n'.base = n.base) (he : n'.es = n.es) : n'.Fit := ⟨by rw [hi]; exact f.idb, by rw [hb]; exact f.bb, by rw [he]; exact f.el⟩
section
variable {H : Hp} {n : Nd} {x mx : Sl} {b c : Nat} {m : Mg} {p : Option Addr}
theorem got_spec (h : NB H b n x) (hr : Lr H x n.es) (hx : ∀ q ∈ x.blk, q ≠ b) (f : n.Fit) (hc : -10 ≤ n.com) (hf : 0 ≤ m.frm ∧ m.frm < 3) (hm : -2000000 ≤ n.mt m.frm ∧ n.mt m.frm ≤ 4000000) (hn : -2000000 ≤ n.next m.frm ∧ n.next m.frm ≤ 4000000) :
    SCalls Try.prog node_Node_got.id [.pointer (some ⟨b, 0, none⟩), m.val mx p] H fun r H' => r = .tuple #[] ∧ NB H' b (n.got m) x ∧ Mod (· = b) H H' := by
  obtain ⟨fi, fb, fl⟩ := id f
  have hxl := hr.len
  apply node_Node_got.calls (mKind := m.kind) (mFrom := m.frm) (mTo := m.to) (mTerm := m.term) (mIndex := m.index) (mLogTerm := m.lt) (mOK := m.ok) (mCommit := m.com) (mEntries := mx) (mState := p)
  intro H1 e1
  obtain ⟨m1, _⟩ := hole_facts e1
  have g1 := h.keep m1 fun e => e
  have m1b : Mod (· = b) H H1 := m1.mono fun _ _ e => e.elim
  refine ⟨_, blk_cell g1 rfl, ?_⟩
  by_cases h1 : m.term = n.term
  rotate_left
  · refine Br.yes (by simpa using h1) ⟨rfl, ?_, m1b⟩
    have : n.got m = n := by unfold Nd.got; rw [if_pos h1]
    rw [this]; exact g1
  refine Br.no (by simp [h1]) ⟨_, blk_cell g1 rfl, ?_⟩
  by_cases h2 : n.role = 2
  rotate_left
  · refine Br.yes (by simpa using h2) ⟨rfl, ?_, m1b⟩
    have : n.got m = n := by unfold Nd.got; rw [if_neg (by simp [h1]), if_pos h2]
    rw [this]; exact g1
  refine Br.no (by simp [h2]) ?_
  apply node_Node_got.k1.step; unfold node_Node_got.k1.body
  cases hok : m.ok with
  | false =>
    refine Br.yes rfl ⟨hf, _, g1.atM hf, hf, _, g1.atN hf, hf, g1.wrN hf, fun H2 h2' => ?_⟩
    obtain ⟨g2, m2⟩ := g1.setN hf h2'
    refine ⟨rfl, ?_, m1b.trans m2⟩
    have e : n.got m = n.setN m.frm (max 1 (max (min (n.next m.frm - 1) (w64 (m.index + 1))) (n.mt m.frm + 1))) := by
      unfold Nd.got; rw [if_neg (by simp [h1]), if_neg (by simp [h2]), if_pos hok]
    rw [e]
    have ev : (if (1 : Int) > (if (if (w64 (m.index + 1)) < (w64 (n.next m.frm - 1)) then (w64 (m.index + 1)) else (w64 (n.next m.frm - 1))) > (w64 (n.mt m.frm + 1)) then (if (w64 (m.index + 1)) < (w64 (n.next m.frm - 1)) then (w64 (m.index + 1)) else (w64 (n.next m.frm - 1))) else (w64 (n.mt m.frm + 1))) then 1 else (if (if (w64 (m.index + 1)) < (w64 (n.next m.frm - 1)) then (w64 (m.index + 1)) else (w64 (n.next m.frm - 1))) > (w64 (n.mt m.frm + 1)) then (if (w64 (m.index + 1)) < (w64 (n.next m.frm - 1)) then (w64 (m.index + 1)) else (w64 (n.next m.frm - 1))) else (w64 (n.mt m.frm + 1)))) = max 1 (max (min (n.next m.frm - 1) (w64 (m.index + 1))) (n.mt m.frm + 1)) := by
      rw [w64_id (x := n.next m.frm - 1) (by omega) (by omega), w64_id (x := n.mt m.frm + 1) (by omega) (by omega)]
      generalize w64 (m.index + 1) = a
      by_cases c1 : a < n.next m.frm - 1
      · simp only [if_pos c1]
        by_cases c2 : a > n.mt m.frm + 1
        · simp only [if_pos c2]; split <;> omega
        · simp only [if_neg c2]; split <;> omega
      · simp only [if_neg c1]
        by_cases c2 : n.next m.frm - 1 > n.mt m.frm + 1
        · simp only [if_pos c2]; split <;> omega
        · simp only [if_neg c2]; split <;> omega
    rw [← ev]; exact g2
  | true =>
    refine Br.no rfl ?_
    by_cases h3 : m.index < 0
    · have e : n.got m = n := by unfold Nd.got; rw [if_neg (by simp [h1]), if_neg (by simp [h2]), if_neg (by simp [hok]), if_pos (Or.inl h3)]
      have fin : (Value.tuple #[] = .tuple #[] ∧ NB H1 b (n.got m) x ∧ Mod (· = b) H H1) := ⟨rfl, by rw [e]; exact g1, m1b⟩
      exact Br.yes (decide_eq_true h3) ⟨fin, fin⟩
    refine Br.no (decide_eq_false h3) ⟨_, _, x, g1.log, (Last_spec (b := n.base) (t := n.bt) (by unfold nice; omega) (by omega)).mono ?_⟩
    rintro r H3 ⟨rfl, m3⟩
    have hlast : n.base + (x.len : Int) = n.last := by unfold Nd.last; omega
    rw [hlast]
    refine ⟨_, rfl, ?_⟩
    have m13 := m1.trans m3
    have g3 := g1.keep m3 fun e => e
    by_cases h4 : m.index > n.last
    · refine Br.yes (decide_eq_true h4) ⟨rfl, ?_, m13.mono fun _ _ e => e.elim⟩
      have e : n.got m = n := by unfold Nd.got; rw [if_neg (by simp [h1]), if_neg (by simp [h2]), if_neg (by simp [hok]), if_pos (Or.inr h4)]
      rw [e]; exact g3
    refine Br.no (decide_eq_false h4) ?_
    have hlb : n.last ≤ 4000000 := by unfold Nd.last; omega
    apply node_Node_got.k2.step; unfold node_Node_got.k2.body
    refine ⟨hf, _, g3.atM hf, hf, g3.wrM hf, fun H4 h4' => ?_⟩
    obtain ⟨g4, m4⟩ := g3.setM hf h4'
    have ev : (if m.index > n.mt m.frm then m.index else n.mt m.frm) = max (n.mt m.frm) m.index := by split <;> omega
    rw [ev] at g4
    apply node_Node_got.k3.step; unfold node_Node_got.k3.body
    have e3 := g4.atM hf
    rw [setM_mt hf] at e3
    refine ⟨hf, _, e3, hf, g4.wrN hf, fun H5 h5 => ?_⟩
    obtain ⟨g5, m5⟩ := g4.setN hf h5
    rw [w64_id (by omega) (by omega)] at g5
    obtain ⟨k1, k2, k3, k4, k5, k6, k7, k8⟩ := @setM_keep n m.frm (max (n.mt m.frm) m.index)
    obtain ⟨l1, l2, l3, l4, l5, l6, l7, l8⟩ := @setN_keep (n.setM m.frm (max (n.mt m.frm) m.index)) m.frm (max (n.mt m.frm) m.index + 1)
    have m35 : Mod (· = b) H H5 := (m13.mono fun _ _ e => e.elim).trans (m4.trans m5)
    refine (commit_spec g5 (by rw [l4, k4]; exact Rows.keep hr m35 hx) hx (f.same (by rw [l1, k1]) (by rw [l2, k2]) (by rw [l4, k4])) (by rw [l5, k5]; exact hc)).mono ?_
    rintro r H6 ⟨rfl, g6, m6⟩
    refine ⟨rfl, rfl, ?_, m35.trans m6⟩
    have e : n.got m = ((n.setM m.frm (max (n.mt m.frm) m.index)).setN m.frm (max (n.mt m.frm) m.index + 1)).commit := by
      unfold Nd.got; rw [if_neg (by simp [h1]), if_neg (by simp [h2]), if_neg (by simp [hok]), if_neg (by omega)]
    rw [e]; exact g6

/-- What a follower takes: the replica, what it answers, whether a state was installed. -/
def Nd.take (n : Nd) (m : Mg) : Nd × (Bool × Int) × Bool :=
  if m.kind = 4 then
    match m.st with
    | none => (n, (false, n.last), false)
    | some (i, t) =>
      if i ≤ n.com ∨ ((n.at i).2 = true ∧ (n.at i).1 = t) then (n, (true, i), false)
      else ({ n with base := i, bt := t, es := [], com := i }, (true, i), true)
  else if (mergeL n.base n.bt n.es m.index m.lt m.es).2 = true then
    ({ n with es := (mergeL n.base n.bt n.es m.index m.lt m.es).1, com := max n.com (min m.com (w64 (m.index + m.es.length))) }, (true, w64 (m.index + m.es.length)), false)
  else (n, (false, n.last), false)
def AnsP (H : Hp) (b c : Nat) (x : Sl) (p : Option Addr) (a : Mg) (t : Nd × (Bool × Int) × Bool) (r : Value) (H' : Hp) : Prop :=
  r = .pointer (if t.2.2 = true then p else none) ∧ ∃ y : Sl, NB H' b t.1 y ∧ Lr H' y t.1.es ∧ MB H' c { a with ok := t.2.1.1, index := t.2.1.2 } ⟨none, 0, 0⟩ none ∧ Mod (fun q => q = b ∨ q = c) H H' ∧ ∀ q ∈ y.blk, q ∈ x.blk ∨ H.size ≤ q ∧ q < H'.size
theorem take_spec {a : Mg} (h : NB H b n x) (hr : Lr H x n.es) (hx : ∀ q ∈ x.blk, q ≠ b ∧ q ≠ c) (ha : MB H c a ⟨none, 0, 0⟩ none) (hao : a.ok = false) (hbc : b ≠ c) (hm : Lr H mx m.es) (hmx : ∀ q ∈ mx.blk, q ≠ b ∧ q ≠ c) (hs : StAt H p m.st) (hp : ∀ q ∈ ptrBlk p, q ≠ b ∧ q ≠ c)
    (f : n.Fit) (hi : -9223372036854775808 ≤ m.index ∧ m.index ≤ 9223372036854775807) (hml : mx.len ≤ 9223372036854775807) :
    SCalls Try.prog node_Node_take.id [.pointer (some ⟨b, 0, none⟩), m.val mx p, .pointer (some ⟨c, 0, none⟩)] H (AnsP H b c x p a (n.take m)) := by
  obtain ⟨fi, fb, fl⟩ := id f
  have hxl := hr.len
  have hbz := lt_of_get h
  have hcz := lt_of_get ha
  apply node_Node_take.calls (mKind := m.kind) (mFrom := m.frm) (mTo := m.to) (mTerm := m.term) (mIndex := m.index) (mLogTerm := m.lt) (mOK := m.ok) (mCommit := m.com) (mEntries := mx) (mState := p)
  intro H1 e1
  obtain ⟨m1, _⟩ := hole_facts e1
  have g1 := h.keep m1 fun e => e
  refine ⟨_, _, x, g1.log, (Last_spec (b := n.base) (t := n.bt) (by unfold nice; omega) (by omega)).mono ?_⟩
  rintro r H2 ⟨rfl, m2⟩
  have hlast : n.base + (x.len : Int) = n.last := by unfold Nd.last; omega
  rw [hlast]
  have m12 := m1.trans m2
  have g2 := h.keep m12 fun e => e
  have a2 := ha.keep m12 fun e => e
  refine ⟨_, rfl, blk_wr a2 (le_len rfl), fun H3 h3 => ?_⟩
  obtain ⟨a3, m3⟩ := blk_set1 (cs' := ({ a with index := n.last } : Mg).cells ⟨none, 0, 0⟩ none) a2 h3 (le_len rfl) rfl
  have m03 : Mod (fun q => q = b ∨ q = c) H H3 := (m12.mono fun _ _ e => e.elim).trans (m3.mono fun _ _ e => Or.inr e)
  have g3 : NB H3 b n x := h.keep m03 |> fun _ => (h.keep m12 fun e => e).keep m3 hbc
  have r3 : Lr H3 x n.es := Rows.keep hr m03 fun q hq h => by have := hx q hq; omega
  have keepP : ∀ {H' : Hp}, Mod (fun q => q = b ∨ q = c) H H' → StAt H' p m.st := fun mm => hs.keep mm fun q hq h => by have := hp q hq; omega
  have z3 := m03.size
  -- nothing taken
  have quit : ∀ H', Mod (fun _ => False) H3 H' → n.take m = (n, (false, n.last), false) → AnsP H b c x p a (n.take m) (.pointer none) H' := fun H' m' e => by
    rw [e]
    refine ⟨rfl, x, g3.keep m' fun e => e, r3.mod m', ?_, m03.trans (m'.mono fun _ _ e => e.elim), fun q hq => Or.inl hq⟩
    have : ({ a with ok := false, index := n.last } : Mg) = { a with index := n.last } := by rw [← hao]
    show MB H' c { a with ok := false, index := n.last } ⟨none, 0, 0⟩ none
    rw [this]; exact MB.keep a3 m' fun e => e
  by_cases hk : m.kind = 4
  · refine Br.yes (by simp [hk]) ?_
    cases hst : m.st with
    | none =>
      have hpn : p = none := by rw [hst] at hs; exact hs
      subst hpn
      exact Br.yes rfl (quit H3 (Mod.refl _ _) (by unfold Nd.take; rw [if_pos hk, hst]))
    | some s =>
      obtain ⟨i, t⟩ := s
      have sp := fun {H' : Hp} mm => (keepP (H' := H') mm)
      rw [hst] at sp hs
      obtain ⟨sb, rfl, ps, xs, _⟩ := hs
      have hsb := hp sb.block (by simp [ptrBlk])
      have cell : ∀ {H' : Hp}, Mod (fun q => q = b ∨ q = c) H H' → Hp.cell? H' sb = some (.int .i64 i) ∧ Hp.cell? H' (sb.add 1) = some (.int .i64 t) := fun mm => by
        obtain ⟨b', e, ps, xs, g⟩ := sp mm
        injection e with e
        subst e
        exact ⟨by have := g 0 _ rfl; rwa [add_zero_of] at this, g 1 _ rfl⟩
      refine Br.no rfl (vPtr.mk _ rfl ⟨i, (cell m03).1, blk_wr a3 (le_len rfl), fun H4 h4 => ?_⟩)
      obtain ⟨a4, m4⟩ := blk_set1 (cs' := ({ a with ok := true, index := n.last } : Mg).cells ⟨none, 0, 0⟩ none) a3 h4 (le_len rfl) rfl
      refine ⟨blk_wr a4 (le_len rfl), fun H5 h5 => ?_⟩
      obtain ⟨a5, m5⟩ := blk_set1 (cs' := ({ a with ok := true, index := i } : Mg).cells ⟨none, 0, 0⟩ none) a4 h5 (le_len rfl) rfl
      have m45 := m4.trans m5
      have m05 : Mod (fun q => q = b ∨ q = c) H H5 := m03.trans (m45.mono fun _ _ e => Or.inr e)
      have g5 := g3.keep m45 hbc
      have r5 : Lr H5 x n.es := Rows.keep hr m05 fun q hq h => by have := hx q hq; omega
      refine ⟨_, _, x, g5.log, vPtr.mk _ rfl ⟨i, (cell m05).1, (TermAt_spec (b := n.base) (t := n.bt) (i := i) (by unfold nice; omega) (by omega) r5).mono ?_⟩⟩
      rintro r H6 ⟨rfl, m6⟩
      have m06 := m05.trans (m6.mono fun _ _ e => e.elim)
      have g6 := g5.keep m6 fun e => e
      have a6 : MB H6 c { a with ok := true, index := i } ⟨none, 0, 0⟩ none := MB.keep a5 m6 fun e => e
      refine ⟨_, _, rfl, ?_⟩
      apply node_Node_take.k1.step; unfold node_Node_take.k1.body
      refine vPtr.mk _ rfl ⟨i, (cell m06).1, _, blk_cell g6 rfl, ?_⟩
      have old : (i ≤ n.com ∨ ((n.at i).2 = true ∧ (n.at i).1 = t)) → node_Node_take.k2 J0 ⟨b, 0, none⟩ m.kind m.frm m.to m.term m.index m.lt m.ok m.com mx (some sb) H6 true (AnsP H b c x (some sb) a (n.take m)) := fun hc => by
        apply node_Node_take.k2.step; unfold node_Node_take.k2.body
        have e : n.take m = (n, (true, i), false) := by unfold Nd.take; rw [if_pos hk, hst]; simp only; rw [if_pos hc]
        rw [e]
        exact Br.yes rfl ⟨rfl, x, g6, r5.mod m6, a6, m06, fun q hq => Or.inl hq⟩
      have new : ¬ (i ≤ n.com ∨ ((n.at i).2 = true ∧ (n.at i).1 = t)) → node_Node_take.k2 J0 ⟨b, 0, none⟩ m.kind m.frm m.to m.term m.index m.lt m.ok m.com mx (some sb) H6 false (AnsP H b c x (some sb) a (n.take m)) := fun hc => by
        apply node_Node_take.k2.step; unfold node_Node_take.k2.body
        have e : n.take m = ({ n with base := i, bt := t, es := [], com := i }, (true, i), true) := by unfold Nd.take; rw [if_pos hk, hst]; simp only; rw [if_neg hc]
        rw [e]
        refine Br.no rfl (vPtr.mk _ rfl ⟨i, (cell m06).1, vPtr.mk _ rfl ⟨t, (cell m06).2, blk_wr g6 (le_len rfl), fun H7 h7 => ?_⟩⟩)
        obtain ⟨g7, m7⟩ := blk_set (cs' := ({ n with base := i, bt := t, es := [] } : Nd).cells ⟨none, 0, 0⟩) g6 h7 (le_len rfl) rfl
        apply node_Node_take.k3.step; unfold node_Node_take.k3.body
        have m07 := m06.trans (m7.mono fun _ _ e => Or.inl e)
        refine vPtr.mk _ rfl ⟨i, (cell m07).1, blk_wr g7 (le_len rfl), fun H8 h8 => ?_⟩
        obtain ⟨g8, m8⟩ := blk_set1 (cs' := ({ n with base := i, bt := t, es := [], com := i } : Nd).cells ⟨none, 0, 0⟩) g7 h8 (le_len rfl) rfl
        exact ⟨rfl, ⟨none, 0, 0⟩, g8, Lr.nil _, MB.keep a6 (m7.trans m8) fun e => hbc e.symm, m07.trans (m8.mono fun _ _ e => Or.inl e), by simp [Sl.blk]⟩
      by_cases h1 : i ≤ n.com
      · exact Br.yes (decide_eq_true h1) (old (Or.inl h1))
      refine Br.no (decide_eq_false h1) ?_
      cases h2 : (termAt n.base n.bt n.es i).2 with
      | false => exact Br.no rfl (new fun hc => hc.elim h1 fun h => by have h' : (termAt n.base n.bt n.es i).2 = true := h.1; rw [h2] at h'; cases h')
      | true =>
        refine Br.yes rfl (vPtr.mk _ rfl ⟨t, (cell m06).2, ?_⟩)
        by_cases h3 : (termAt n.base n.bt n.es i).1 = t
        · rw [show ((termAt n.base n.bt n.es i).1 == t) = true by simp [h3]]
          exact old (Or.inr ⟨h2, h3⟩)
        · rw [show ((termAt n.base n.bt n.es i).1 == t) = false by simp [h3]]
          exact new fun hc => hc.elim h1 fun h => h3 h.2
  · refine Br.no (by simp [hk]) ?_
    apply node_Node_take.k4.step; unfold node_Node_take.k4.body
    have hmL : m.es.length = mx.len := hm.len
    have mer : ∀ H4, Mod (fun _ => False) H3 H4 → ∀ K : Value → Hp → Prop, (∀ (y : Sl) H5, Lr H5 y (mergeL n.base n.bt n.es m.index m.lt m.es).1 → Mod (fun _ => False) H4 H5 → ((mergeL n.base n.bt n.es m.index m.lt m.es).2 = true → ∀ q ∈ y.blk, H4.size ≤ q ∧ q < H5.size) → K (.tuple #[lgv n.base n.bt y, .bool (mergeL n.base n.bt n.es m.index m.lt m.es).2]) H5) →
        SCalls Try.prog rlog_Log_Merge.id [.agg #[.int .i64 n.base, .int .i64 n.bt, .slice x.a x.len x.cap], .int .i64 m.index, .int .i64 m.lt, .slice mx.a mx.len mx.cap] H4 K := fun H4 m4 K hK => by
      have hm3 : Lr H3 mx m.es := Rows.keep hm m03 fun q hq h => by have := hmx q hq; omega
      have hm4 : Lr H4 mx m.es := hm3.mod m4
      refine (Merge_any (b := n.base) (t := n.bt) (u := m.lt) (by omega) hi hml (by omega) (r3.mod m4) hm4).mono ?_
      rintro r H5 ⟨y, rfl, hy, my, fy⟩
      exact hK y H5 hy my fy
    have k5 : ∀ (y : Sl) H5, Mod (fun _ => False) H3 H5 → Lr H5 y (mergeL n.base n.bt n.es m.index m.lt m.es).1 → ((mergeL n.base n.bt n.es m.index m.lt m.es).2 = true → ∀ q ∈ y.blk, H3.size ≤ q ∧ q < H5.size) →
        node_Node_take.k5 J0 ⟨b, 0, none⟩ m.kind m.frm m.to m.term m.index m.lt m.ok m.com mx p ⟨c, 0, none⟩ (mergeL n.base n.bt n.es m.index m.lt m.es).2 n.base n.bt y H5 (AnsP H b c x p a (n.take m)) := fun y H5 m5 hy fy => by
      apply node_Node_take.k5.step; unfold node_Node_take.k5.body
      cases hM : (mergeL n.base n.bt n.es m.index m.lt m.es).2 with
      | false => exact Br.yes rfl (quit H5 m5 (by unfold Nd.take; rw [if_neg hk, if_neg (by rw [hM]; simp)]))
      | true =>
        have fy := fy hM
        have g5 := g3.keep m5 fun e => e
        have a5 : MB H5 c { a with index := n.last } ⟨none, 0, 0⟩ none := MB.keep a3 m5 fun e => e
        have z5 := m5.size
        have yb : ∀ q ∈ y.blk, q ≠ b ∧ q ≠ c := fun q hq => by have := fy q hq; omega
        refine Br.no rfl ⟨blk_wr g5 (le_len rfl), fun H6 h6 => ?_⟩
        obtain ⟨g6, m6⟩ := blk_set (cs' := ({ n with es := (mergeL n.base n.bt n.es m.index m.lt m.es).1 } : Nd).cells y) g5 h6 (le_len rfl) rfl
        have a6 := MB.keep a5 m6 fun e => hbc e.symm
        have fin : WrAt H6 ((Addr.mk c 0 none).add 6) 1 ∧ ∀ H15 : Hp, H15 = (Hp.setCell H6 ((Addr.mk c 0 none).add 6) (.bool true)) → WrAt H15 ((Addr.mk c 0 none).add 4) 1 ∧ ∀ H16 : Hp, H16 = (Hp.setCell H15 ((Addr.mk c 0 none).add 4) (.int .i64 (w64 (m.index + ((mx.len : Nat) : Int))))) →
            node_Node_take.k6 J0 ⟨b, 0, none⟩ m.kind m.frm m.to m.term m.index m.lt m.ok m.com mx p ⟨c, 0, none⟩ n.base n.bt y H16 (AnsP H b c x p a (n.take m)) := by
          refine ⟨blk_wr a6 (le_len rfl), fun H7 h7 => ?_⟩
          obtain ⟨a7, m7⟩ := blk_set1 (cs' := ({ a with ok := true, index := n.last } : Mg).cells ⟨none, 0, 0⟩ none) a6 h7 (le_len rfl) rfl
          refine ⟨blk_wr a7 (le_len rfl), fun H8 h8 => ?_⟩
          obtain ⟨a8, m8⟩ := blk_set1 (cs' := ({ a with ok := true, index := w64 (m.index + ((mx.len : Nat) : Int)) } : Mg).cells ⟨none, 0, 0⟩ none) a7 h8 (le_len rfl) rfl
          have g8 : NB H8 b { n with es := (mergeL n.base n.bt n.es m.index m.lt m.es).1 } y := NB.keep g6 (m7.trans m8) hbc
          apply node_Node_take.k6.step; unfold node_Node_take.k6.body
          refine ⟨_, blk_cell g8 rfl, _, blk_cell a8 rfl, blk_wr g8 (le_len rfl), fun H9 h9 => ?_⟩
          have ev : (if (if w64 (m.index + ((mx.len : Nat) : Int)) < m.com then w64 (m.index + ((mx.len : Nat) : Int)) else m.com) > n.com then (if w64 (m.index + ((mx.len : Nat) : Int)) < m.com then w64 (m.index + ((mx.len : Nat) : Int)) else m.com) else n.com) = max n.com (min m.com (w64 (m.index + (m.es.length : Int)))) := by
            rw [hmL]
            by_cases c1 : w64 (m.index + (mx.len : Int)) < m.com
            · simp only [if_pos c1]; split <;> omega
            · simp only [if_neg c1]; split <;> omega
          obtain ⟨g9, m9⟩ := blk_set1 (cs' := ({ n with es := (mergeL n.base n.bt n.es m.index m.lt m.es).1, com := max n.com (min m.com (w64 (m.index + (m.es.length : Int)))) } : Nd).cells y) g8 h9 (le_len rfl) (by rw [← ev]; rfl)
          have e : n.take m = ({ n with es := (mergeL n.base n.bt n.es m.index m.lt m.es).1, com := max n.com (min m.com (w64 (m.index + m.es.length))) }, (true, w64 (m.index + m.es.length)), false) := by
            unfold Nd.take; rw [if_neg hk, if_pos hM]
          rw [e]
          have m59 : Mod (fun q => q = b ∨ q = c) H5 H9 := (m6.mono fun _ _ e => Or.inl e).trans ((m7.mono fun _ _ e => Or.inr e).trans ((m8.mono fun _ _ e => Or.inr e).trans (m9.mono fun _ _ e => Or.inl e)))
          refine ⟨rfl, y, g9, Rows.keep hy m59 fun q hq h => by have := yb q hq; omega, ?_, m03.trans ((m5.mono fun _ _ e => e.elim).trans m59), fun q hq => Or.inr ⟨by have := fy q hq; omega, by have := fy q hq; have := m59.size; omega⟩⟩
          have : MB H9 c { a with ok := true, index := w64 (m.index + ((mx.len : Nat) : Int)) } ⟨none, 0, 0⟩ none := MB.keep a8 m9 fun e => hbc e.symm
          rw [← hmL] at this
          exact this
        exact ⟨⟨fin, fin⟩, ⟨fin, fin⟩, fin⟩
    refine ⟨_, _, x, g3.log, ?_, fun H4 h4 => ?_⟩
    · refine mer H3 (Mod.refl _ _) _ fun y H5 hy my fy => ?_
      refine ⟨_, _, y, _, rfl, fun H6 h6 => ?_⟩
      obtain ⟨m6, _⟩ := hole_facts h6
      exact k5 y H6 (my.trans m6) (hy.mod m6) fun h q hq => ⟨(fy h q hq).1, Nat.lt_of_lt_of_le (fy h q hq).2 m6.size⟩
    · obtain ⟨m4, _⟩ := hole_facts h4
      refine mer H4 m4 _ fun y H5 hy my fy => ?_
      exact ⟨_, _, y, _, rfl, k5 y H5 (m4.trans my) hy fun h q hq => ⟨Nat.le_trans m4.size (fy h q hq).1, (fy h q hq).2⟩⟩
end
end Go.Proofs
