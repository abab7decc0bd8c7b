/- LAYER 14: plain: logs that agree; what a merge makes of a whole log. -/
import Derived.Test.YtbodlapndgnkgaaKno19
set_option linter.all false
set_option linter.constructorNameAsVariable false
namespace Go.Proofs
open Go Go.KC
/-- The first k entries are there, and the same. -/
def Sam (g h : List En) (k : Nat) : Prop := k ≤ g.length ∧ k ≤ h.length ∧ g.take k = h.take k
theorem Sam.symm {g h : List En} {k : Nat} (a : Sam g h k) : Sam h g k := ⟨a.2.1, a.1, a.2.2.symm⟩
theorem Sam.trans {g h l : List En} {k : Nat} (a : Sam g h k) (b : Sam h l k) : Sam g l k := ⟨a.1, b.2.1, a.2.2.trans b.2.2⟩
theorem Sam.le {g h : List En} {k j : Nat} (a : Sam g h k) (hj : j ≤ k) : Sam g h j := ⟨Nat.le_trans hj a.1, Nat.le_trans hj a.2.1, by
  have := congrArg (List.take j) a.2.2
  rwa [List.take_take, List.take_take, Nat.min_eq_left hj] at this⟩
theorem Sam.refl {g : List En} {k : Nat} (h : k ≤ g.length) : Sam g g k := ⟨h, h, rfl⟩
theorem Sam.get {g h : List En} {k i : Nat} (a : Sam g h k) (hi : i < k) : g[i]? = h[i]? := by
  have := congrArg (fun l => l[i]?) a.2.2
  simpa [List.getElem?_take, hi] using this
theorem Sam.zero {g h : List En} : Sam g h 0 := ⟨Nat.zero_le _, Nat.zero_le _, rfl⟩
theorem pre_take {g g' : List En} (h : g <+: g') {k : Nat} (hk : k ≤ g.length) : g'.take k = g.take k := by
  obtain ⟨r, rfl⟩ := h
  rw [List.take_append_of_le_length hk]
theorem Sam.pre {g g' : List En} (h : g <+: g') {k : Nat} (hk : k ≤ g.length) : Sam g g' k := ⟨hk, Nat.le_trans hk h.length_le, (pre_take h hk).symm⟩
theorem Sam.succ {g h : List En} {k : Nat} {e : En} (a : Sam g h k) (h1 : g[k]? = some e) (h2 : h[k]? = some e) : Sam g h (k + 1) := by
  have l1 := (List.getElem?_eq_some_iff.1 h1).1
  have l2 := (List.getElem?_eq_some_iff.1 h2).1
  exact ⟨l1, l2, by rw [List.take_add_one, List.take_add_one, a.2.2, h1, h2]⟩
theorem Sam.all {g h : List En} (a : Sam g h g.length) : h.take g.length = g := by rw [← a.2.2, List.take_length]
/-- Each entry stands where its term's leader has it, and all ahead of it too. -/
def Chn (L : Int → List En) (g : List En) : Prop := ∀ k e, g[k]? = some e → Sam g (L e.term) (k + 1)
theorem Chn.meet {L : Int → List En} {g h : List En} (a : Chn L g) (b : Chn L h) {k : Nat} {e f : En} (h1 : g[k]? = some e) (h2 : h[k]? = some f) (ht : e.term = f.term) : Sam g h (k + 1) :=
  (a k e h1).trans (ht ▸ (b k f h2).symm)
theorem Chn.nil {L : Int → List En} : Chn L [] := fun k e h => by simp at h
theorem Chn.take {L : Int → List En} {g : List En} (a : Chn L g) (n : Nat) : Chn L (g.take n) := fun k e h => by
  rw [List.getElem?_take] at h
  split at h
  · have := a k e h
    refine Sam.trans ?_ this
    have hl := (List.getElem?_eq_some_iff.1 h).1
    exact ⟨by rw [List.length_take]; omega, hl, by rw [List.take_take, Nat.min_eq_left (by omega)]⟩
  · cases h
theorem Chn.mono {L L' : Int → List En} {g : List En} (a : Chn L g) (h : ∀ t, L t <+: L' t) : Chn L' g := fun k e hk => by
  have := a k e hk
  exact this.trans (Sam.pre (h _) this.2.1)
/-- The term of an entry, counted from one; of none, 0. -/
def tmAt (g : List En) : Nat → Int
  | 0 => 0
  | k + 1 => match g[k]? with
    | some e => e.term
    | none => 0
theorem tmAt_get {g : List En} {k : Nat} {e : En} (h : g[k]? = some e) : tmAt g (k + 1) = e.term := by unfold tmAt; simp only [h]
theorem Sam.tm {g h : List En} {k : Nat} (a : Sam g h k) : tmAt g k = tmAt h k := by
  cases k with
  | zero => rfl
  | succ k =>
    have e := a.get (Nat.lt_succ_self k)
    show (match g[k]? with | some e => e.term | none => 0) = (match h[k]? with | some e => e.term | none => 0)
    rw [e]
/-- What a replica keeps of a whole log. -/
structure Of (G : List En) (b t : Int) (es : List En) : Prop where
  bb : 0 ≤ b ∧ b ≤ (G.length : Int)
  bt : t = tmAt G b.toNat
  es : es = G.drop b.toNat
theorem Of.len {G : List En} {b t : Int} {es : List En} (o : Of G b t es) : b + (es.length : Int) = (G.length : Int) := by
  have := o.bb
  rw [o.es, List.length_drop]; omega
theorem Of.at {G : List En} {b t : Int} {es : List En} (o : Of G b t es) (i : Int) : termAt b t es i = if b ≤ i ∧ i ≤ (G.length : Int) then (tmAt G i.toNat, true) else (0, false) := by
  have hb := o.bb
  have hl := o.len
  unfold termAt
  by_cases c : i = b
  · rw [if_pos c, if_pos (by omega), c, o.bt]
  · rw [if_neg c]
    by_cases c2 : i < b ∨ i > b + es.length
    · rw [if_pos c2, if_neg (by omega)]
    · rw [if_neg c2, if_pos (by omega)]
      obtain ⟨j, rfl⟩ : ∃ j : Nat, i = b + ((j : Nat) : Int) + 1 := ⟨(i - b - 1).toNat, by omega⟩
      have e1 : (b + ((j : Nat) : Int) + 1 - b - 1).toNat = j := by omega
      have e2 : (b + ((j : Nat) : Int) + 1).toNat = (b.toNat + j) + 1 := by omega
      rw [e1, e2]
      have hj : b.toNat + j < G.length := by omega
      rw [tmAt_get (List.getElem?_eq_getElem hj), List.getD_eq_getElem?_getD, o.es, List.getElem?_drop, List.getElem?_eq_getElem hj]
      rfl
/-- A merge of a leader's entries: the log stays, or it is the leader's up to there. -/
theorem fold_log {L : Int → List En} {b t : Int} {hh : List En} (hL : Chn L hh) (hix : ∀ (k : Nat) (e : En), hh[k]? = some e → e.index = (k : Int) + 1) : ∀ (n i : Nat) (G es : List En), Of G b t es → Chn L G → Sam G hh i → b ≤ (i : Int) → i + n ≤ hh.length →
    ∃ G', Of G' b t (foldM b t es ((hh.drop i).take n)) ∧ ((G' = G ∧ Sam G hh (i + n)) ∨ (G' = hh.take (i + n) ∧ ∀ k, Sam G hh k → k ≤ i + n))
  | 0, i, G, es, o, _, s, _, _ => ⟨G, o, Or.inl ⟨rfl, s⟩⟩
  | n + 1, i, G, es, o, hG, s, hbi, hn => by
    have hi : i < hh.length := by omega
    have hb := o.bb
    have hl := o.len
    have hg := s.1
    have hget : hh[i]? = some hh[i] := List.getElem?_eq_getElem hi
    have hidx := hix i _ hget
    rw [List.drop_eq_getElem_cons hi, List.take_succ_cons]
    show ∃ G', Of G' b t (foldM b t (stepM b t es hh[i]) ((hh.drop (i + 1)).take n)) ∧ _
    by_cases c : termAt b t es hh[i].index = (hh[i].term, true)
    · have e : stepM b t es hh[i] = es := by unfold stepM; rw [if_pos c]
      rw [e]
      have s1 : Sam G hh (i + 1) := by
        rw [o.at, hidx] at c
        split at c
        · rename_i h2
          have hgl : i < G.length := by omega
          have c := (Prod.mk.inj c).1
          have e3 : ((i : Int) + 1).toNat = i + 1 := by omega
          rw [e3, tmAt_get (List.getElem?_eq_getElem hgl)] at c
          exact hG.meet hL (List.getElem?_eq_getElem hgl) hget c
        · simp at c
      obtain ⟨G', h1, h2⟩ := fold_log hL hix n (i + 1) G es o hG s1 (by omega) (by omega)
      have ee : i + 1 + n = i + (n + 1) := by omega
      rw [ee] at h2
      exact ⟨G', h1, h2⟩
    · have e : stepM b t es hh[i] = es.take (i - b.toNat) ++ [hh[i]] := by
        unfold stepM; rw [if_neg c, hidx]
        congr 2; omega
      have o1 : Of (hh.take (i + 1)) b t (es.take (i - b.toNat) ++ [hh[i]]) := by
        have el : (hh.take (i + 1)).length = i + 1 := by rw [List.length_take]; omega
        refine ⟨⟨hb.1, by omega⟩, ?_, ?_⟩
        · rw [o.bt]
          have : Sam G (hh.take (i + 1)) b.toNat := by
            refine (s.le (by omega)).trans ⟨by omega, by omega, ?_⟩
            rw [List.take_take, Nat.min_eq_left (by omega)]
          exact this.tm
        · rw [o.es, List.take_drop]
          have e4 : b.toNat + (i - b.toNat) = i := by omega
          rw [e4, s.2.2, List.take_add_one, hget]
          rw [List.drop_append_of_le_length (by rw [List.length_take]; omega)]
          rfl
      have ml : ∀ k, Sam G hh k → k ≤ i := fun k hk => by
        by_cases c3 : k ≤ i
        · exact c3
        · exfalso
          apply c
          have s1 := hk.le (j := i + 1) (by omega)
          have hgl : i < G.length := s1.1
          rw [o.at, hidx, if_pos (by omega)]
          have e3 : ((i : Int) + 1).toNat = i + 1 := by omega
          rw [e3, s1.tm, tmAt_get hget]
      rw [e]
      have sx : Sam (hh.take (i + 1)) hh (i + 1) := ⟨by rw [List.length_take]; omega, by omega, by rw [List.take_take, Nat.min_self]⟩
      obtain ⟨G', h1, h2⟩ := fold_log hL hix n (i + 1) _ _ o1 (hL.take _) sx (by omega) (by omega)
      have ee : i + 1 + n = i + (n + 1) := by omega
      rw [ee] at h2
      refine ⟨G', h1, Or.inr ⟨?_, fun k hk => by have := ml k hk; omega⟩⟩
      rcases h2 with ⟨rfl, h3⟩ | ⟨h3, _⟩
      · have := h3.1
        rw [List.length_take] at this
        have en : n = 0 := by omega
        subst en; rfl
      · exact h3
end Go.Proofs
