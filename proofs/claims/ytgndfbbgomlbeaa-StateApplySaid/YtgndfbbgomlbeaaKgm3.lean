/- GO'S MAPS: an entry is set (its place taken, then its value laid). Generic. -/
import Derived.Test.YtgndfbbgomlbeaaKgm2
set_option linter.all false
set_option linter.constructorNameAsVariable false
set_option linter.unusedSectionVars false
namespace Go.Proofs
open Go Go.KC

section
variable {κ : Type} [DecidableEq κ] {d : TypeDesc} {ek : κ → Value}
variable {H H' : Hp} {r : Nat} {l : List (κ × Value)} {P : Program} {t e : TypeId}
def setM : List (κ × Value) → κ → Value → List (κ × Value)
  | [], k, v => [(k, v)]
  | p :: r, k, v => if k = p.1 then (k, v) :: r else p :: setM r k v
theorem getL_setM (k : κ) (v : Value) (j : κ) : ∀ (l : List (κ × Value)), getL (setM l k v) j = if j = k then some v else getL l j
  | [] => rfl
  | p :: r => by
    unfold setM
    by_cases c : k = p.1
    · rw [if_pos c]
      show (if j = k then _ else getL r j) = if j = k then _ else (if j = p.1 then _ else getL r j)
      by_cases cj : j = k
      · rw [if_pos cj, if_pos cj]
      · rw [if_neg cj, if_neg cj, if_neg (by rw [← c]; exact cj)]
    · rw [if_neg c]
      show (if j = p.1 then _ else getL (setM r k v) j) = if j = k then _ else (if j = p.1 then _ else getL r j)
      rw [getL_setM k v j r]
      by_cases cj : j = p.1
      · rw [if_pos cj, if_neg (by rw [cj]; exact fun h => c h.symm), if_pos cj]
      · rw [if_neg cj, if_neg cj]
theorem setM_len (k : κ) (v : Value) : ∀ (l : List (κ × Value)), (setM l k v).length = if (getL l k).isSome then l.length else l.length + 1
  | [] => rfl
  | p :: r => by
    unfold setM getL
    by_cases c : k = p.1
    · rw [if_pos c, if_pos c]; rfl
    · rw [if_neg c, if_neg c, List.length_cons, setM_len k v r, List.length_cons]
      split <;> rfl
theorem entAtM (hk : KE d ek) (k : κ) : ∀ (l : List (κ × Value)) (i j : Nat),
    (getL l k = none ∧ Instr.findNow d (ek k) (entsM ek i l) j = some none ∧ ∀ v, setM l k v = l ++ [(k, v)]) ∨
    ∃ n v0, l[n]? = some (k, v0) ∧ getL l k = some v0 ∧ Instr.findNow d (ek k) (entsM ek i l) j = some (some (j + n, v0)) ∧ ∀ v, setM l k v = l.set n (k, v)
  | [], _, _ => Or.inl ⟨rfl, rfl, fun _ => rfl⟩
  | p :: r, i, j => by
    have e : Instr.findNow d (ek k) (entsM ek i (p :: r)) j = match Instr.sameNow d (ek k) (ek p.1) with
      | some true => some (some (j, p.2))
      | some false => Instr.findNow d (ek k) (entsM ek (i + 1) r) (j + 1)
      | none => none := rfl
    rw [e, hk.same]
    unfold getL setM
    by_cases c : k = p.1
    · refine Or.inr ⟨0, p.2, by rw [c]; rfl, by rw [if_pos c], by rw [decide_eq_true c]; rfl, fun v => by rw [if_pos c]; rfl⟩
    · rw [decide_eq_false c, if_neg c]
      rcases entAtM hk k r (i + 1) (j + 1) with ⟨h1, h2, h3⟩ | ⟨n, v0, h1, h2, h3, h4⟩
      · exact Or.inl ⟨h1, h2, fun v => by rw [if_neg c, h3 v]; rfl⟩
      · refine Or.inr ⟨n + 1, v0, by rw [List.getElem?_cons_succ]; exact h1, h2, ?_, fun v => by rw [if_neg c, h4 v]; rfl⟩
        show Instr.findNow d (ek k) (entsM ek (i + 1) r) (j + 1) = _
        rw [h3]; congr 3; omega

theorem findIdx_born {es : Array MapEntry} {n : Nat} (h : ∀ (j : Nat) (x : MapEntry), es[j]? = some x → x.born = j) (hn : n < es.size) : es.findIdx? (fun e => (e.born : Int) == (n : Int)) = some n := by
  rw [Array.findIdx?_eq_some_iff_getElem]
  refine ⟨hn, ?_, fun j hj => ?_⟩
  · have := h n _ (Array.getElem?_eq_getElem hn); simp [this]
  · have := h j _ (Array.getElem?_eq_getElem (Nat.lt_trans hj hn)); simp [this]; omega
theorem MR.ent (hk : KE d ek) (h : MR ek H r l) (hd : keyD P t = some (d, e)) {z : Value} (hz : ∃ ti, P.info? e = some ti ∧ ti.zero = some z) (k : κ) (v : Value) {K : Hp → Prop} (hK : ∀ H', MR ek H' r (setM l k v) → Mod (· = r) H H' → K H') :
    vMapEnt P t (some r) (ek k) H fun _ st H1 => vEntSt (some r) st v H1 K := by
  have hget : ∀ (l : List (κ × Value)) (j : Nat), ((entsM ek 0 l).toArray)[j]? = (l[j]?).map fun p => { key := ek p.1, val := p.2, born := j } := fun l j => by
    rw [List.getElem?_toArray, entsM_get, Nat.zero_add]
  refine ⟨r, _, _, d, e, rfl, h, hd, ?_⟩
  rcases entAtM hk k l 0 0 with ⟨h1, h2, h3⟩ | ⟨n, v0, h1, h2, h3, h4⟩
  · rw [h2]
    obtain ⟨ti, hi, hz⟩ := hz
    refine ⟨ti, z, hi, hz, r, _, _, l.length, rfl, setB_get h.lt, ?_, ?_⟩
    · refine findIdx_born (n := l.length) (fun j x hx => ?_) (by simp [entsM_len])
      rw [Array.getElem?_push] at hx
      split at hx
      · rename_i hj; cases hx; simpa [entsM_len] using hj.symm
      · rw [hget] at hx
        obtain ⟨p, _, rfl⟩ := Option.map_eq_some_iff.1 hx; rfl
    · refine hK _ ?_ ((setB_mod _).trans (setB_mod _))
      unfold MR
      rw [setB_get (by rw [Array.size_setIfInBounds]; exact h.lt), h3 v]
      congr 2
      · apply Array.ext_getElem?
        intro j
        rw [Array.getElem?_modify, hget, Array.getElem?_push, List.size_toArray, entsM_len]
        by_cases c : j = l.length
        · subst c; simp
        · rw [if_neg (fun h => c h.symm), if_neg c, hget]
          rcases Nat.lt_or_ge j l.length with c1 | c1
          · rw [List.getElem?_append_left c1]
          · rw [List.getElem?_eq_none c1, List.getElem?_eq_none (by simp; omega)]
      · simp
  · rw [h3, Nat.zero_add]
    have hn : n < l.length := (List.getElem?_eq_some_iff.1 h1).1
    refine ⟨{ key := ek k, val := v0, born := n }, by rw [hget, h1]; rfl, r, _, _, n, rfl, setB_get h.lt, ?_, ?_⟩
    · refine findIdx_born (fun j x hx => ?_) (by simp [entsM_len]; exact hn)
      rw [Array.getElem?_modify, hget] at hx
      split at hx
      · obtain ⟨y, hy, rfl⟩ := Option.map_eq_some_iff.1 hx
        obtain ⟨p, _, rfl⟩ := Option.map_eq_some_iff.1 hy; rfl
      · obtain ⟨p, _, rfl⟩ := Option.map_eq_some_iff.1 hx; rfl
    · refine hK _ ?_ ((setB_mod _).trans (setB_mod _))
      unfold MR
      rw [setB_get (by rw [Array.size_setIfInBounds]; exact h.lt), h4 v]
      congr 2
      · apply Array.ext_getElem?
        intro j
        rw [Array.getElem?_modify, Array.getElem?_modify, hget, hget]
        by_cases c : n = j
        · subst c
          rw [if_pos rfl, if_pos rfl, h1, List.getElem?_set_self hn]; rfl
        · rw [if_neg c, if_neg c, List.getElem?_set_ne c]
      · simp

/-- The map in block r has, for each key, what f says; n keys; none was ever taken away. -/
def MF (ek : κ → Value) (H : Hp) (r : Nat) (f : κ → Option Value) (n : Nat) : Prop := ∃ l, MR ek H r l ∧ (∀ k, getL l k = f k) ∧ l.length = n
variable {f g : κ → Option Value} {n : Nat}
theorem MF.keep {m : Nat → Prop} (h : MF ek H r f n) (hm : Mod m H H') (hr : ¬ m r) : MF ek H' r f n := by
  obtain ⟨l, h1, h2⟩ := h; exact ⟨l, h1.keep hm hr, h2⟩
theorem MF.mod (h : MF ek H r f n) (hm : Mod (fun _ => False) H H') : MF ek H' r f n := h.keep hm fun e => e
theorem MF.lt (h : MF ek H r f n) : r < H.size := by obtain ⟨l, h1, _⟩ := h; exact h1.lt
theorem MF.congr (h : MF ek H r f n) (e : ∀ k, f k = g k) : MF ek H r g n := by
  obtain ⟨l, h1, h2, h3⟩ := h; exact ⟨l, h1, fun k => (h2 k).trans (e k), h3⟩
theorem MF.new (H : Hp) : MF ek (Array.push H (.map #[] 0)) H.size (fun _ => none) 0 := ⟨[], MR.new H, fun _ => rfl, rfl⟩
theorem MF.at (h : MF ek H r f n) : ∃ es, MapAt H (some r) es ∧ es.length = n := by
  obtain ⟨l, h1, _, h3⟩ := h
  obtain ⟨es, h, h'⟩ := h1.at
  exact ⟨es, h, h'.trans h3⟩
theorem MF.look (hk : KE d ek) (h : MF ek H r f n) (hd : keyD P t = some (d, e)) {z : Value} (hz : ∃ ti, P.info? e = some ti ∧ ti.zero = some z) (k : κ) : LookIs P t H (some r) (ek k) ((f k).getD z) (f k).isSome := by
  obtain ⟨l, h1, h2, _⟩ := h
  rw [← h2]; exact h1.look hk hd hz k
theorem MF.ent (hk : KE d ek) (h : MF ek H r f n) (hd : keyD P t = some (d, e)) {z : Value} (hz : ∃ ti, P.info? e = some ti ∧ ti.zero = some z) (k : κ) (v : Value) {K : Hp → Prop}
    (hK : ∀ H', MF ek H' r (upd f k (some v)) (if (f k).isSome then n else n + 1) → Mod (· = r) H H' → K H') :
    vMapEnt P t (some r) (ek k) H fun _ st H1 => vEntSt (some r) st v H1 K := by
  obtain ⟨l, h1, h2, h3⟩ := h
  refine h1.ent hk hd hz k v fun H' m mm => hK H' ⟨_, m, fun j => ?_, ?_⟩ mm
  · rw [getL_setM, h2]; rfl
  · rw [setM_len, h2, h3]
end
end Go.Proofs
