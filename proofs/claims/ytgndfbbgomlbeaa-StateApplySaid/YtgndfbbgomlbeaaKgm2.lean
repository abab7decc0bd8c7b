/- GO'S MAPS AS ROWS: put, looked up, gone over. Generic. -/
import Derived.Test.YtgndfbbgomlbeaaKgm1
set_option linter.all false
set_option linter.constructorNameAsVariable false
set_option linter.unusedSectionVars false
namespace Go.Proofs
open Go Go.KC

theorem keyStr : KE (κ := ByteArray) .string fun k => .string k := ⟨fun a b => by
    show some (a == b) = _
    by_cases h : a = b
    · rw [h, ba_beq, decide_eq_true rfl]
    · rw [decide_eq_false h]
      cases e : a == b with
      | true => exact (h (KC.beq_ba e)).elim
      | false => rfl, fun a b h => by injection h⟩

section
variable {κ : Type} [DecidableEq κ] {d : TypeDesc} {ek : κ → Value}
def entsM (ek : κ → Value) : Nat → List (κ × Value) → List MapEntry
  | _, [] => []
  | i, p :: r => { key := ek p.1, val := p.2, born := i } :: entsM ek (i + 1) r
theorem entsM_get : ∀ (l : List (κ × Value)) (i j : Nat), (entsM ek i l)[j]? = (l[j]?).map fun p => { key := ek p.1, val := p.2, born := i + j }
  | [], _, _ => rfl
  | p :: r, i, 0 => rfl
  | p :: r, i, j + 1 => by
    show (entsM ek (i + 1) r)[j]? = _
    rw [entsM_get r (i + 1) j, List.getElem?_cons_succ]
    cases r[j]? with
    | none => rfl
    | some q => simp only [Option.map_some]; congr 2; omega
theorem entsM_len : ∀ (l : List (κ × Value)) (i : Nat), (entsM ek i l).length = l.length
  | [], _ => rfl
  | _ :: r, i => by show (entsM ek (i + 1) r).length + 1 = _; rw [entsM_len r]; rfl
theorem entsM_push (p : κ × Value) : ∀ (l : List (κ × Value)) (i : Nat), entsM ek i (l ++ [p]) = entsM ek i l ++ [{ key := ek p.1, val := p.2, born := i + l.length }]
  | [], _ => rfl
  | q :: r, i => by
    show _ :: entsM ek (i + 1) (r ++ [p]) = _ :: (entsM ek (i + 1) r ++ _)
    rw [entsM_push p r (i + 1), List.length_cons, show i + 1 + r.length = i + (r.length + 1) by omega]

def getL : List (κ × Value) → κ → Option Value
  | [], _ => none
  | p :: r, k => if k = p.1 then some p.2 else getL r k
theorem getL_none {k : κ} : ∀ {l : List (κ × Value)}, getL l k = none ↔ ∀ p ∈ l, p.1 ≠ k
  | [] => by simp [getL]
  | p :: r => by
    unfold getL
    split
    · rename_i h; simp [h]
    · rename_i h
      rw [getL_none, List.forall_mem_cons]
      exact ⟨fun g => ⟨fun e => h e.symm, g⟩, fun g => g.2⟩

/-- The map in block r has this row of keys and values, in the order in which they came. -/
def MR (ek : κ → Value) (H : Hp) (r : Nat) (l : List (κ × Value)) : Prop := H[r]? = some (.map (entsM ek 0 l).toArray l.length)
variable {H H' : Hp} {r b : Nat} {l : List (κ × Value)} {P : Program} {t e : TypeId}
theorem MR.keep {m : Nat → Prop} (h : MR ek H r l) (hm : Mod m H H') (hr : ¬ m r) : MR ek H' r l := hm.get h hr
theorem MR.mod (h : MR ek H r l) (hm : Mod (fun _ => False) H H') : MR ek H' r l := h.keep hm fun e => e
theorem MR.lt (h : MR ek H r l) : r < H.size := lt_of_get h
theorem MR.new (H : Hp) : MR ek (Array.push H (.map #[] 0)) H.size [] := get_push_new _ _
theorem MR.at (h : MR ek H r l) : ∃ es, MapAt H (some r) es ∧ es.length = l.length := ⟨entsM ek 0 l, ⟨_, h⟩, entsM_len _ _⟩
theorem findNow_entsM (hk : KE d ek) (k : κ) : ∀ (l : List (κ × Value)) (i j : Nat), (∃ v n, getL l k = some v ∧ Instr.findNow d (ek k) (entsM ek i l) j = some (some (n, v))) ∨ getL l k = none ∧ Instr.findNow d (ek k) (entsM ek i l) j = some none
  | [], _, _ => Or.inr ⟨rfl, rfl⟩
  | p :: r, i, j => by
    have e : Instr.findNow d (ek k) (entsM ek i (p :: r)) j = match Instr.sameNow d (ek k) (ek p.1) with
      | some true => some (some (j, p.2))
      | some false => Instr.findNow d (ek k) (entsM ek (i + 1) r) (j + 1)
      | none => none := rfl
    rw [e, hk.same]
    unfold getL
    by_cases c : k = p.1
    · rw [decide_eq_true c, if_pos c]; exact Or.inl ⟨_, _, rfl, rfl⟩
    · rw [decide_eq_false c, if_neg c]; exact findNow_entsM hk k r (i + 1) (j + 1)
theorem MR.look (hk : KE d ek) (h : MR ek H r l) (hd : keyD P t = some (d, e)) {z : Value} (hz : ∃ ti, P.info? e = some ti ∧ ti.zero = some z) (k : κ) : LookIs P t H (some r) (ek k) ((getL l k).getD z) (getL l k).isSome := by
  refine ⟨entsM ek 0 l, d, e, ⟨_, h⟩, hd, ?_⟩
  rcases findNow_entsM hk k l 0 0 with ⟨v, n, h1, h2⟩ | ⟨h1, h2⟩
  · rw [h1, h2]; exact ⟨rfl, rfl⟩
  · rw [h1, h2]; exact ⟨hz, rfl⟩
theorem MR.put (hk : KE d ek) (h : MR ek H r l) (hd : keyD P t = some (d, e)) (k : κ) (v : Value) (hn : getL l k = none) {K : Hp → Prop} (hK : ∀ H', MR ek H' r (l ++ [(k, v)]) → Mod (· = r) H H' → K H') :
    vMapPut P t (some r) (ek k) v H K := by
  refine ⟨r, _, _, d, e, rfl, h, hd, ?_⟩
  rcases findNow_entsM hk k l 0 0 with ⟨w, n, h1, h2⟩ | ⟨h1, h2⟩
  · rw [hn] at h1; cases h1
  · rw [h2]
    refine hK _ ?_ (setB_mod _)
    unfold MR
    rw [setB_get h.lt]
    congr 2
    · rw [entsM_push, List.push_toArray, Nat.zero_add]
    · simp

/-- A range over it, on its way: S are those that were there. -/
structure RgS (ek : κ → Value) (H : Hp) (b r : Nat) (l : List (κ × Value)) (S : Array Nat) : Prop where
  map : MR ek H r l
  it : H[b]? = some (.mapIter (some r) l.length S l.length)
  nd : S.toList.Nodup
  lt : ∀ i ∈ S.toList, i < l.length
theorem RgS.keep {m : Nat → Prop} {S : Array Nat} (h : RgS ek H b r l S) (hm : Mod m H H') (hr : ¬ m r) (hb : ¬ m b) : RgS ek H' b r l S := ⟨h.map.keep hm hr, hm.get h.it hb, h.nd, h.lt⟩
theorem RgS.start (h : MR ek H r l) (hb : H[b]? = some (.mapIter (some r) l.length #[] l.length)) : RgS ek H b r l #[] := ⟨h, hb, by simp, by simp⟩
theorem RgS.new (h : MR ek H r l) : RgS ek (Array.push H (.mapIter (some r) l.length #[] l.length)) H.size r l #[] :=
  .start ((KC.Mod.push (fun _ => False) _ _).get h (fun e => e)) (get_push_new _ _)
theorem nodup_len : ∀ {n : Nat} {S : List Nat}, S.Nodup → (∀ i ∈ S, i < n) → S.length ≤ n
  | 0, [], _, _ => Nat.le_refl _
  | 0, a :: _, _, h => absurd (h a (by simp)) (by omega)
  | n + 1, S, hn, h => by
    have h1 : (S.erase n).length ≤ n := nodup_len (hn.erase n) fun i hi => by
      have := (hn.mem_erase_iff).1 hi
      have := h i this.2; omega
    by_cases c : n ∈ S
    · have := List.length_erase_of_mem c; omega
    · rw [List.erase_of_not_mem c] at h1; omega
theorem RgS.size {S : Array Nat} (h : RgS ek H b r l S) : S.size ≤ l.length := by simpa using nodup_len h.nd h.lt
theorem find_born (k : κ → Value) : ∀ (l : List (κ × Value)) (i j : Nat) (p : κ × Value), l[j]? = some p → (entsM k i l).find? (·.born == i + j) = some { key := k p.1, val := p.2, born := i + j }
  | [], _, _, _, h => by simp at h
  | q :: r, i, 0, p, h => by
    rw [List.getElem?_cons_zero] at h; cases h
    unfold entsM
    exact List.find?_cons_of_pos (by simp)
  | q :: r, i, j + 1, p, h => by
    rw [List.getElem?_cons_succ] at h
    have := find_born k r (i + 1) j p h
    unfold entsM
    rw [List.find?_cons_of_neg]
    · rw [show i + (j + 1) = i + 1 + j by omega]; exact this
    · simp
/-- A STEP OF A RANGE. -/
theorem RgS.step {S : Array Nat} (h : RgS ek H b r l S) {Body : MapEntry → Hp → Prop} {End : Prop}
    (hb : ∀ (i : Nat) (k : κ) (v : Value), l[i]? = some (k, v) → i ∉ S.toList → ∀ H', RgS ek H' b r l (S.push i) → Mod (· = b) H H' → ∀ e1 : MapEntry, e1.key = ek k → e1.val = v → Body e1 H')
    (he : (∀ i, i < l.length → i ∈ S.toList) → End) :
    (Addr.mk b 0 none).off = 0 ∧ ∃ n : Nx, NxAt H (Addr.mk b 0 none).block n ∧ (∀ e ∈ n.es.toList, n.seen.contains e.born = false → (∀ H15 : Hp, H15 = (Nx.step n H (Addr.mk b 0 none).block e) → (Addr.mk b 0 none).off = 0 ∧ ∃ e1 : MapEntry, EntAt H15 (Addr.mk b 0 none).block e1 ∧ Body e1 H15)) ∧ (Nx.over n = true → End) := by
  have hlb := lt_of_get h.it
  have hrb : r ≠ b := by
    intro e
    have h1 := h.map
    have h2 := h.it
    unfold MR at h1
    rw [e, h2] at h1
    cases h1
  refine ⟨rfl, ⟨r, l.length, S, l.length, (entsM ek 0 l).toArray, l.length⟩, ⟨h.it, h.map, ?_⟩, fun e hm hs H' hH => ⟨rfl, ?_⟩, fun ho => he fun i hi => ?_⟩
  · cases hl : l with
    | nil => simp [entsM]
    | cons p q =>
      have : (entsM ek 0 (p :: q)).toArray.all (fun x => decide (x.born ≥ (p :: q).length)) = false := by
        rw [List.all_toArray]
        show ((decide ((0 : Nat) ≥ (p :: q).length)) && _) = false
        rw [show decide ((0 : Nat) ≥ (p :: q).length) = false from by simp]
        rfl
      simp only [this, Bool.and_false]
  · obtain ⟨i, hi⟩ := List.mem_iff_getElem?.1 hm
    dsimp only at hi hs
    rw [entsM_get, Nat.zero_add] at hi
    obtain ⟨p, hp, rfl⟩ := Option.map_eq_some_iff.1 hi
    dsimp only at hs
    have hiS : i ∉ S.toList := by
      intro e
      have : S.contains i = true := by simpa using e
      rw [this] at hs; cases hs
    have hil : i < l.length := (List.getElem?_eq_some_iff.1 hp).1
    have hit : H'[b]? = some (.mapIter (some r) l.length (S.push i) l.length) := by rw [hH]; exact setB_get hlb
    have hmr : MR ek H' r l := by
      rw [hH]; show (H.setIfInBounds b _)[r]? = _
      rw [Array.getElem?_setIfInBounds, if_neg (fun e => hrb e.symm)]; exact h.map
    refine ⟨{ key := ek p.1, val := p.2, born := i }, ⟨r, l.length, S.push i, i, _, l.length, hit, by simp, hmr, ?_⟩, hb i p.1 p.2 hp hiS H' ⟨hmr, hit, ?_, ?_⟩ (by rw [hH]; exact setB_mod _) _ rfl rfl⟩
    · have := find_born ek l 0 i p hp
      rw [Nat.zero_add] at this
      rw [← this, List.find?_toArray]
    · rw [Array.toList_push, List.nodup_append]
      exact ⟨h.nd, by simp, fun a ha c hc => by simp at hc; subst hc; rintro rfl; exact hiS ha⟩
    · intro j hj
      rw [Array.toList_push, List.mem_append] at hj
      rcases hj with hj | hj
      · exact h.lt j hj
      · simp at hj; omega
  · unfold Nx.over at ho
    dsimp only at ho
    rw [List.all_toArray, List.all_eq_true] at ho
    have hg : (entsM ek 0 l)[i]? = some { key := ek l[i].1, val := l[i].2, born := i } := by rw [entsM_get, List.getElem?_eq_getElem hi, Nat.zero_add]; rfl
    have := ho _ (List.mem_of_getElem? hg)
    dsimp only at this
    rw [Bool.or_eq_true] at this
    rcases this with h1 | h1
    · simpa using h1
    · simp at h1; omega

/-- Of those that were there: how many are so. -/
def cntS (c : Nat → Bool) (S : Array Nat) : Nat := S.toList.countP c
theorem cntS_push (c : Nat → Bool) (S : Array Nat) (i : Nat) : cntS c (S.push i) = cntS c S + (if c i then 1 else 0) := by
  unfold cntS
  rw [Array.toList_push, List.countP_append, List.countP_singleton]
theorem cntS_le (c : Nat → Bool) {S : Array Nat} (h : RgS ek H b r l S) : cntS c S ≤ l.length := Nat.le_trans List.countP_le_length (by simpa using h.size)
theorem cntS_all (c : Nat → Bool) {S : Array Nat} (h : RgS ek H b r l S) (ha : ∀ i, i < l.length → i ∈ S.toList) : cntS c S = (List.range l.length).countP c := by
  unfold cntS
  refine List.Perm.countP_eq _ ?_
  refine (List.perm_ext_iff_of_nodup h.nd List.nodup_range).2 fun i => ?_
  rw [List.mem_range]
  exact ⟨h.lt i, ha i⟩
theorem countP_range {α : Type} (c : α → Bool) : ∀ (l : List α), (List.range l.length).countP (fun i => ((l[i]?).map c).getD false) = l.countP c
  | [] => rfl
  | p :: r => by
    rw [List.length_cons, List.range_succ_eq_map, List.countP_cons, List.countP_cons, List.countP_map, ← countP_range c r]
    congr 1
end

end Go.Proofs
