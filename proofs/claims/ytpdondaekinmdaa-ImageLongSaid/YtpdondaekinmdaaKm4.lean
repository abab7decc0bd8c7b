/- SORTED MAPS, the plain law: lists of keys that rise, and their values. No program. -/
import Derived.Test.YtpdondaekinmdaaKl2
import Derived.Lib.Overlaps
set_option linter.all false
namespace Go.Proofs

/-- Keys have an order. -/
class KO (κ : Type) where
  lt : κ → κ → Prop
  dec : ∀ a b, Decidable (lt a b)
  irr : ∀ a, ¬ lt a a
  trans : ∀ a b c, lt a b → lt b c → lt a c
  tri : ∀ a b, lt a b ∨ a = b ∨ lt b a

instance {κ : Type} [KO κ] (a b : κ) : Decidable (KO.lt a b) := KO.dec a b
instance : KO Int := ⟨fun a b => a < b, fun a b => inferInstanceAs (Decidable (a < b)), fun a => Int.lt_irrefl a, fun _ _ _ => Int.lt_trans, fun a b => by omega⟩

section
variable {κ α : Type} [KO κ]
theorem KO.asymm {a b : κ} (h : KO.lt a b) : ¬ KO.lt b a := fun k => KO.irr a (KO.trans _ _ _ h k)
theorem KO.ne {a b : κ} (h : KO.lt a b) : a ≠ b := fun e => KO.irr a (by rw [← e] at h; exact h)

/-- The keys rise. -/
def Rise (l : List (κ × α)) : Prop := ∀ i j (hi : i < l.length) (hj : j < l.length), i < j → KO.lt l[i].1 l[j].1

/-- A key's value. -/
def Has (l : List (κ × α)) (k : κ) (v : α) : Prop := (k, v) ∈ l
theorem Rise.one {l : List (κ × α)} (h : Rise l) {k : κ} {v w : α} (a : (k, v) ∈ l) (b : (k, w) ∈ l) : v = w := by
  obtain ⟨i, hi, e1⟩ := List.getElem_of_mem a
  obtain ⟨j, hj, e2⟩ := List.getElem_of_mem b
  rcases Nat.lt_trichotomy i j with c | c | c
  · have := h i j hi hj c; rw [e1, e2] at this; exact (KO.irr _ this).elim
  · subst c; rw [e1] at e2; exact congrArg Prod.snd e2
  · have := h j i hj hi c; rw [e1, e2] at this; exact (KO.irr _ this).elim
theorem Rise.nil : Rise ([] : List (κ × α)) := fun i j hi => by simp at hi
theorem Rise.single (p : κ × α) : Rise [p] := fun i j hi hj h => by simp at hi hj; omega
theorem Rise.tail {p : κ × α} {l : List (κ × α)} (h : Rise (p :: l)) : Rise l := fun i j hi hj hij => by
  have := h (i + 1) (j + 1) (by simp; omega) (by simp; omega) (by omega)
  simpa using this
theorem Rise.head {p q : κ × α} {l : List (κ × α)} (h : Rise (p :: l)) (hq : q ∈ l) : KO.lt p.1 q.1 := by
  obtain ⟨j, hj, rfl⟩ := List.getElem_of_mem hq
  have := h 0 (j + 1) (by simp) (by simp; omega) (by omega)
  simpa using this
theorem Rise.cons {p : κ × α} {l : List (κ × α)} (h : Rise l) (hp : ∀ q ∈ l, KO.lt p.1 q.1) : Rise (p :: l) := by
  intro i j hi hj hij
  obtain ⟨j, rfl⟩ : ∃ m, j = m + 1 := ⟨j - 1, by omega⟩
  cases i with
  | zero => simpa using hp _ (List.getElem_mem (by simpa using hj))
  | succ i => simpa using h i j (by simp at hi; omega) (by simpa using hj) (by omega)
theorem Rise.append {a b : List (κ × α)} (ha : Rise a) (hb : Rise b) (h : ∀ p ∈ a, ∀ q ∈ b, KO.lt p.1 q.1) : Rise (a ++ b) := by
  induction a with
  | nil => simpa using hb
  | cons p a ih =>
    rw [List.cons_append]
    refine Rise.cons (ih ha.tail fun p hp q hq => h p (by simp [hp]) q hq) fun q hq => ?_
    rcases List.mem_append.1 hq with hq | hq
    · exact ha.head hq
    · exact h p (by simp) q hq
theorem Rise.take {l : List (κ × α)} (h : Rise l) (n : Nat) : Rise (l.take n) := fun i j hi hj hij => by
  rw [List.getElem_take, List.getElem_take]; simp at hi hj; exact h i j (by omega) (by omega) hij
theorem Rise.drop {l : List (κ × α)} (h : Rise l) (n : Nat) : Rise (l.drop n) := fun i j hi hj hij => by
  rw [List.getElem_drop, List.getElem_drop]; simp at hi hj; exact h _ _ (by omega) (by omega) (by omega)
theorem Rise.lt_take_drop {l : List (κ × α)} (h : Rise l) {n : Nat} {p q : κ × α} (hp : p ∈ l.take n) (hq : q ∈ l.drop n) : KO.lt p.1 q.1 := by
  obtain ⟨i, hi, rfl⟩ := List.getElem_of_mem hp
  obtain ⟨j, hj, rfl⟩ := List.getElem_of_mem hq
  rw [List.getElem_take, List.getElem_drop]; simp at hi hj
  exact h _ _ (by omega) (by omega) (by omega)

/-- Where a key stands, or would. -/
structure Spot (l : List (κ × α)) (k : κ) (i : Nat) : Prop where
  le : i ≤ l.length
  lo : ∀ a (ha : a < l.length), a < i → KO.lt l[a].1 k
  hi : ∀ a (ha : a < l.length), i ≤ a → ¬ KO.lt l[a].1 k

def atB [DecidableEq κ] (l : List (κ × α)) (k : κ) (i : Nat) : Bool := match l[i]? with | some p => decide (p.1 = k) | none => false

theorem Spot.not {l : List (κ × α)} [DecidableEq κ] {k : κ} {i : Nat} (h : Spot l k i) (hs : Rise l) (hb : atB l k i = false) (v : α) : (k, v) ∉ l := by
  intro hm
  obtain ⟨a, ha, e⟩ := List.getElem_of_mem hm
  have e1 : l[a].1 = k := congrArg Prod.fst e
  by_cases c : a < i
  · have := h.lo a ha c; rw [e1] at this; exact KO.irr _ this
  · by_cases c2 : a = i
    · subst c2; unfold atB at hb; rw [List.getElem?_eq_getElem ha] at hb; simp [e1] at hb
    · have h1 := h.hi i (by omega) (Nat.le_refl _)
      have h2 := hs i a (by omega) ha (by omega)
      rw [e1] at h2; exact h1 h2
theorem Spot.here {l : List (κ × α)} [DecidableEq κ] {k : κ} {i : Nat} (hb : atB l k i = true) : ∃ h : i < l.length, l[i].1 = k := by
  unfold atB at hb
  cases hi : l[i]? with
  | none => rw [hi] at hb; cases hb
  | some p =>
    obtain ⟨h1, h2⟩ := List.getElem?_eq_some_iff.1 hi
    rw [hi] at hb
    exact ⟨h1, by rw [h2]; simpa using hb⟩

/-- The list behind a Put where the key's spot is i. -/
def putAt [DecidableEq κ] (l : List (κ × α)) (k : κ) (v : α) (i : Nat) : List (κ × α) := if atB l k i then l.set i (k, v) else l.take i ++ [(k, v)] ++ l.drop i
/-- .. behind a Del. -/
def delAt [DecidableEq κ] (l : List (κ × α)) (k : κ) (i : Nat) : List (κ × α) := if atB l k i then l.take i ++ l.drop (i + 1) else l

variable [DecidableEq κ]
theorem putAt_rise {l : List (κ × α)} {k : κ} {v : α} {i : Nat} (hs : Rise l) (h : Spot l k i) : Rise (putAt l k v i) := by
  unfold putAt
  cases hb : atB l k i with
  | true =>
    obtain ⟨hi, e⟩ := Spot.here hb
    rw [if_pos rfl]
    intro a b ha hb hab
    rw [List.length_set] at ha hb
    rw [List.getElem_set, List.getElem_set]
    have := hs a b ha hb hab
    split <;> split <;> simp_all
  | false =>
    rw [if_neg (by simp)]
    refine Rise.append (Rise.append (hs.take i) (Rise.single _) fun p hp q hq => ?_) (hs.drop i) fun p hp q hq => ?_
    · simp only [List.mem_singleton] at hq; subst hq
      obtain ⟨a, ha, rfl⟩ := List.getElem_of_mem hp
      rw [List.getElem_take]; simp at ha; exact h.lo a (by omega) (by omega)
    · rcases List.mem_append.1 hp with hp | hp
      · exact hs.lt_take_drop hp hq
      · simp only [List.mem_singleton] at hp; subst hp
        obtain ⟨b, hb', rfl⟩ := List.getElem_of_mem hq
        rw [List.getElem_drop]; simp at hb'
        have h1 := h.hi (i + b) (by omega) (by omega)
        rcases KO.tri (l[i + b]'(by omega)).1 k with c | c | c
        · exact (h1 c).elim
        · by_cases b0 : b = 0
          · subst b0
            unfold atB at hb; rw [List.getElem?_eq_getElem (by omega)] at hb
            simp only [Nat.add_zero] at c
            simp [c] at hb
          · have h2 := hs i (i + b) (by omega) (by omega) (by omega)
            rw [c] at h2
            exact (h.hi i (by omega) (Nat.le_refl _) h2).elim
        · exact c
theorem putAt_mem {l : List (κ × α)} {k : κ} {v : α} {i : Nat} (hs : Rise l) (h : Spot l k i) (j : κ) (w : α) : (j, w) ∈ putAt l k v i ↔ (if j = k then w = v else (j, w) ∈ l) := by
  have hr := putAt_rise (v := v) hs h
  unfold putAt at hr ⊢
  cases hb : atB l k i with
  | true =>
    obtain ⟨hi, e⟩ := Spot.here hb
    rw [if_pos rfl]
    by_cases c : j = k
    · subst c
      rw [if_pos rfl]
      rw [hb, if_pos rfl] at hr
      constructor
      · intro hm
        exact hr.one hm (by rw [List.mem_iff_getElem]; exact ⟨i, by simpa using hi, by simp⟩)
      · rintro rfl
        rw [List.mem_iff_getElem]; exact ⟨i, by simpa using hi, by simp⟩
    · rw [if_neg c]
      constructor
      · intro hm
        obtain ⟨a, ha, ea⟩ := List.getElem_of_mem hm
        rw [List.getElem_set] at ea
        split at ea
        · exact (c (congrArg Prod.fst ea).symm).elim
        · rw [← ea]; exact List.getElem_mem _
      · intro hm
        obtain ⟨a, ha, ea⟩ := List.getElem_of_mem hm
        rw [List.mem_iff_getElem]
        refine ⟨a, by simpa using ha, ?_⟩
        rw [List.getElem_set, if_neg]
        · exact ea
        · rintro rfl
          rw [ea] at e; exact c e
  | false =>
    rw [if_neg (by simp)]
    have hn := h.not hs hb
    have hd : (j, w) ∈ l ↔ (j, w) ∈ l.take i ∨ (j, w) ∈ l.drop i := by rw [← List.mem_append, List.take_append_drop]
    simp only [List.mem_append, List.mem_singleton]
    by_cases c : j = k
    · subst c
      rw [if_pos rfl]
      have := hn w
      rw [hd] at this
      constructor
      · rintro ((h | h) | h)
        · exact (this (Or.inl h)).elim
        · exact congrArg Prod.snd h
        · exact (this (Or.inr h)).elim
      · rintro rfl; exact Or.inl (Or.inr rfl)
    · rw [if_neg c, hd]
      constructor
      · rintro ((h | h) | h)
        · exact Or.inl h
        · exact (c (congrArg Prod.fst h)).elim
        · exact Or.inr h
      · rintro (h | h)
        · exact Or.inl (Or.inl h)
        · exact Or.inr h
theorem putAt_length {l : List (κ × α)} {k : κ} {v : α} {i : Nat} (h : i ≤ l.length) : (putAt l k v i).length = if atB l k i then l.length else l.length + 1 := by
  unfold putAt; split <;> simp; omega
theorem delAt_rise {l : List (κ × α)} {k : κ} {i : Nat} (hs : Rise l) : Rise (delAt l k i) := by
  unfold delAt
  split
  · refine Rise.append (hs.take i) (hs.drop _) fun p hp q hq => ?_
    refine hs.lt_take_drop hp ?_
    obtain ⟨b, hb, rfl⟩ := List.getElem_of_mem hq
    rw [List.getElem_drop]
    rw [List.mem_iff_getElem]
    simp at hb
    exact ⟨b + 1, by simp; omega, by rw [List.getElem_drop]; congr 1; omega⟩
  · exact hs
theorem delAt_mem {l : List (κ × α)} {k : κ} {i : Nat} (hs : Rise l) (h : Spot l k i) (j : κ) (w : α) : (j, w) ∈ delAt l k i ↔ (j ≠ k ∧ (j, w) ∈ l) := by
  unfold delAt
  cases hb : atB l k i with
  | true =>
    obtain ⟨hi, e⟩ := Spot.here hb
    rw [if_pos rfl, List.mem_append]
    constructor
    · rintro (hm | hm)
      · refine ⟨?_, List.mem_of_mem_take hm⟩
        rintro rfl
        have := hs.lt_take_drop hm (q := l[i]) (by rw [List.mem_iff_getElem]; exact ⟨0, by simp; omega, by simp⟩)
        rw [e] at this; exact KO.irr _ this
      · refine ⟨?_, List.mem_of_mem_drop hm⟩
        rintro rfl
        obtain ⟨b, hb', eb⟩ := List.getElem_of_mem hm
        rw [List.getElem_drop] at eb
        simp at hb'
        have := hs i (i + 1 + b) hi (by omega) (by omega)
        rw [e, eb] at this; exact KO.irr _ this
    · rintro ⟨hne, hm⟩
      obtain ⟨a, ha, ea⟩ := List.getElem_of_mem hm
      rcases Nat.lt_trichotomy a i with c | c | c
      · left; rw [List.mem_iff_getElem]; exact ⟨a, by simp; omega, by rw [List.getElem_take]; exact ea⟩
      · subst c; rw [ea] at e; exact (hne e).elim
      · right; rw [List.mem_iff_getElem]; exact ⟨a - (i + 1), by simp; omega, by rw [List.getElem_drop, ← ea]; congr 1; omega⟩
  | false =>
    rw [if_neg (by simp)]
    refine ⟨fun hm => ⟨?_, hm⟩, fun hm => hm.2⟩
    rintro rfl
    exact h.not hs hb w hm

/-- Two rising lists of which each has what the other one has are one. -/
theorem Rise.ext {l m : List (κ × α)} (hl : Rise l) (hm : Rise m) (h : ∀ p, p ∈ l ↔ p ∈ m) : l = m := by
  induction l generalizing m with
  | nil =>
    cases m with
    | nil => rfl
    | cons q m => exact absurd ((h q).2 (by simp)) (by simp)
  | cons p l ih =>
    cases m with
    | nil => exact absurd ((h p).1 (by simp)) (by simp)
    | cons q m =>
      have e : p = q := by
        have h1 := (h p).1 (by simp)
        have h2 := (h q).2 (by simp)
        rcases List.mem_cons.1 h1 with h1 | h1
        · exact h1
        · rcases List.mem_cons.1 h2 with h2 | h2
          · exact h2.symm
          · exact (KO.asymm (hm.head h1) (hl.head h2)).elim
      subst e
      congr 1
      refine ih hl.tail hm.tail fun r => ?_
      have hr := h r
      simp only [List.mem_cons] at hr
      constructor
      · intro h1
        rcases hr.1 (Or.inr h1) with h2 | h2
        · subst h2; exact (KO.irr _ (hl.head h1)).elim
        · exact h2
      · intro h1
        rcases hr.2 (Or.inr h1) with h2 | h2
        · subst h2; exact (KO.irr _ (hm.head h1)).elim
        · exact h2
end
end Go.Proofs

/- SORTED MAPS: slices.Insert, slices.Delete, on a slice that one holds alone, generic over the program. -/
set_option linter.all false
set_option linter.constructorNameAsVariable false
namespace Go.Proofs
open Go Go.KC

def Blk (H : Hp) (g : Nat) (e : TypeId) (l : List Value) : Prop := H[g]? = some (.cells l.toArray e (0, 0))
def splice (off : Nat) (new l : List Value) : List Value := l.take off ++ new ++ l.drop (off + new.length)
theorem splice_length {off : Nat} {new l : List Value} (h : off + new.length ≤ l.length) : (splice off new l).length = l.length := by
  unfold splice; simp; omega
theorem Blk.write {H : Hp} {g off : Nat} {e : TypeId} {new l : List Value} (h : Blk H g e l) (hl : off + new.length ≤ l.length) : Blk (Hp.setCells H ⟨g, off, none⟩ new 0) g e (splice off new l) := by
  have := get_setCells new off 0 H l.toArray h (by simpa using hl)
  simpa [Blk, splice] using this
theorem Blk.wr {H : Hp} {g off n : Nat} {e : TypeId} {l : List Value} (h : Blk H g e l) (hl : off + n ≤ l.length) : WrAt H ⟨g, off, none⟩ n := fun j hj => by
  rw [Addr.add_loc, cell_of h, frozen_of h]
  exact ⟨by simp; omega, rfl⟩
theorem Blk.row {H : Hp} {g off : Nat} {e : TypeId} {l cs : List Value} (h : Blk H g e l) (hc : ∀ j v, cs[j]? = some v → l[off + j]? = some v) : RowAt H ⟨g, off, none⟩ cs := fun j v hj => by
  rw [Addr.add_loc, cell_of h]
  simpa using hc j v hj
theorem Blk.keep {m : Nat → Prop} {H H' : Hp} {g : Nat} {e : TypeId} {l : List Value} (h : Blk H g e l) (hm : Mod m H H') (hg : ¬ m g) : Blk H' g e l := hm.get h hg
theorem cutA_some {g n k cap : Nat} (h : n < cap) : cutA (some ⟨g, 0, none⟩) cap n k = some ⟨g, n * k, none⟩ := by
  unfold cutA; rw [if_neg (by omega)]; simp [Addr.add_loc]

/-- What of a program a slice's elements ask. -/
structure El (P : Program) (T e : TypeId) (k : Nat) : Prop where
  und : P.underlying T = some (.slice e)
  inf : ∃ ti z, P.info? e = some ti ∧ ti.zero = some z ∧ ti.size = k ∧ 0 < ti.bytes ∧ ti.bytes ≤ 1000 ∧ z.cells.size = k ∧ allOne z.cells.toList = true
  pos : 0 < k

theorem allOne_append {a b : List Value} : allOne (a ++ b) = (allOne a && allOne b) := by
  induction a with
  | nil => rfl
  | cons v r ih => simp [allOne, ih, Bool.and_assoc]
theorem allOne_iff {l : List Value} : allOne l = true ↔ ∀ v ∈ l, v.oneCell' = true := by
  induction l with
  | nil => simp [allOne]
  | cons v r ih => simp [allOne, ih]
theorem allOne_zero {z : Array Value} (h : allOne z.toList = true) (hz : 0 < z.size) (n : Nat) : allOne (Builtin.zeroCells z n).toList = true := by
  rw [allOne_iff] at h ⊢
  intro v hv
  unfold Builtin.zeroCells at hv
  simp only [Array.toList_map, List.mem_map] at hv
  obtain ⟨i, _, rfl⟩ := hv
  refine h _ ?_
  have hi : i % z.size < z.size := Nat.mod_lt _ hz
  rw [getElem!_pos z _ hi]
  exact Array.getElem_mem_toList hi
theorem zero_length (z : Array Value) (n : Nat) : (Builtin.zeroCells z n).toList.length = n * z.size := by simp [Builtin.zeroCells]

/-- The cells of an element that was laid by itself, as a slice of one. -/
theorem src_one {H : Hp} {g : Nat} {e : TypeId} {p : List Value} {k : Nat} (h : Blk H g e p) (hp : p.length = k) : SrcAt H k 1 (.slice (some ⟨g, 0, none⟩) 1 1) p :=
  ⟨by rw [hp]; simp, h.row fun j v hj => by simpa using hj⟩

def insVC (P : Program) (T : TypeId) (k : Nat) (ov rot : FuncId) (s : Sl) (i : Int) (v : Sl) (H : Hp) (Q : Value → Hp → Prop) : Prop :=
 ((0 : Int) ≤ i ∧ i ≤ ((s.len : Nat) : Int)) ∧ 
 Br (((v.len : Nat) : Int) == 0) (Q (.slice s.a s.len s.cap) H)
 (
 Br (i == ((s.len : Nat) : Int)) (
 vApp P T s.a s.len s.cap (.slice v.a v.len v.cap) H (fun ap H1 => Q (.slice ap.a ap.len ap.cap) H1))
 (
 Br (decide ((w64 (((s.len : Nat) : Int) + ((v.len : Nat) : Int))) > ((s.cap : Nat) : Int))) (((0 : Int) ≤ i ∧ i ≤ ((s.cap : Nat) : Int)) ∧ 
 vAppZ P T (cutA s.a s.cap 0 k) ((i : Int).toNat) s.cap (w64 ((w64 (((s.len : Nat) : Int) + ((v.len : Nat) : Int))) - i)) H (fun ap1 H2 => ((0 : Int) ≤ i ∧ i ≤ ((ap1.len : Nat) : Int)) ∧ 
 vCopy P T (cutA ap1.a ap1.cap ((i : Int).toNat) k) (ap1.len - ((i : Int).toNat)) (.slice v.a v.len v.cap) H2 (fun n H3 => ((0 : Int) ≤ (w64 (i + ((v.len : Nat) : Int))) ∧ (w64 (i + ((v.len : Nat) : Int))) ≤ ((ap1.len : Nat) : Int)) ∧ ((0 : Int) ≤ i ∧ i ≤ ((s.len : Nat) : Int)) ∧ 
 vCopy P T (cutA ap1.a ap1.cap (((w64 (i + ((v.len : Nat) : Int))) : Int).toNat) k) (ap1.len - (((w64 (i + ((v.len : Nat) : Int))) : Int).toNat)) (.slice (cutA s.a s.cap ((i : Int).toNat) k) (s.len - ((i : Int).toNat)) (s.cap - ((i : Int).toNat))) H3 (fun n1 H4 => Q (.slice ap1.a ap1.len ap1.cap) H4))))
 (((0 : Int) ≤ (w64 (((s.len : Nat) : Int) + ((v.len : Nat) : Int))) ∧ (w64 (((s.len : Nat) : Int) + ((v.len : Nat) : Int))) ≤ ((s.cap : Nat) : Int)) ∧ ((0 : Int) ≤ (w64 (i + ((v.len : Nat) : Int))) ∧ (w64 (i + ((v.len : Nat) : Int))) ≤ (((((w64 (((s.len : Nat) : Int) + ((v.len : Nat) : Int))) : Int).toNat) : Nat) : Int)) ∧ 
 ExtC P ov [.slice v.a v.len v.cap, .slice (cutA (cutA s.a s.cap 0 k) s.cap (((w64 (i + ((v.len : Nat) : Int))) : Int).toNat) k) ((((w64 (((s.len : Nat) : Int) + ((v.len : Nat) : Int))) : Int).toNat) - (((w64 (i + ((v.len : Nat) : Int))) : Int).toNat)) (s.cap - (((w64 (i + ((v.len : Nat) : Int))) : Int).toNat))] H (fun r H5 => ∃ x : Bool, r = .bool x ∧ 
 Br (!x) (((0 : Int) ≤ (w64 (i + ((v.len : Nat) : Int))) ∧ (w64 (i + ((v.len : Nat) : Int))) ≤ (((((w64 (((s.len : Nat) : Int) + ((v.len : Nat) : Int))) : Int).toNat) : Nat) : Int)) ∧ ((0 : Int) ≤ i ∧ i ≤ (((((w64 (((s.len : Nat) : Int) + ((v.len : Nat) : Int))) : Int).toNat) : Nat) : Int)) ∧ 
 vCopy P T (cutA (cutA s.a s.cap 0 k) s.cap (((w64 (i + ((v.len : Nat) : Int))) : Int).toNat) k) ((((w64 (((s.len : Nat) : Int) + ((v.len : Nat) : Int))) : Int).toNat) - (((w64 (i + ((v.len : Nat) : Int))) : Int).toNat)) (.slice (cutA (cutA s.a s.cap 0 k) s.cap ((i : Int).toNat) k) ((((w64 (((s.len : Nat) : Int) + ((v.len : Nat) : Int))) : Int).toNat) - ((i : Int).toNat)) (s.cap - ((i : Int).toNat))) H5 (fun n2 H6 => ((0 : Int) ≤ i ∧ i ≤ (((((w64 (((s.len : Nat) : Int) + ((v.len : Nat) : Int))) : Int).toNat) : Nat) : Int)) ∧ 
 vCopy P T (cutA (cutA s.a s.cap 0 k) s.cap ((i : Int).toNat) k) ((((w64 (((s.len : Nat) : Int) + ((v.len : Nat) : Int))) : Int).toNat) - ((i : Int).toNat)) (.slice v.a v.len v.cap) H6 (fun n3 H7 => Q (.slice (cutA s.a s.cap 0 k) (((w64 (((s.len : Nat) : Int) + ((v.len : Nat) : Int))) : Int).toNat) s.cap) H7)))
 (((0 : Int) ≤ ((s.len : Nat) : Int) ∧ ((s.len : Nat) : Int) ≤ (((((w64 (((s.len : Nat) : Int) + ((v.len : Nat) : Int))) : Int).toNat) : Nat) : Int)) ∧ 
 vCopy P T (cutA (cutA s.a s.cap 0 k) s.cap ((((s.len : Nat) : Int) : Int).toNat) k) ((((w64 (((s.len : Nat) : Int) + ((v.len : Nat) : Int))) : Int).toNat) - ((((s.len : Nat) : Int) : Int).toNat)) (.slice v.a v.len v.cap) H5 (fun n4 H8 => ((0 : Int) ≤ i ∧ i ≤ (((((w64 (((s.len : Nat) : Int) + ((v.len : Nat) : Int))) : Int).toNat) : Nat) : Int)) ∧ 
 SCalls P rot [.slice (cutA (cutA s.a s.cap 0 k) s.cap ((i : Int).toNat) k) ((((w64 (((s.len : Nat) : Int) + ((v.len : Nat) : Int))) : Int).toNat) - ((i : Int).toNat)) (s.cap - ((i : Int).toNat)), .int .i64 ((v.len : Nat) : Int)] H8 (fun r1 H9 => r1 = .tuple #[] ∧ Q (.slice (cutA s.a s.cap 0 k) (((w64 (((s.len : Nat) : Int) + ((v.len : Nat) : Int))) : Int).toNat) s.cap) H9)))))))

def delVC (P : Program) (T : TypeId) (k : Nat) (s : Sl) (i : Int) (j : Int) (H : Hp) (Q : Value → Hp → Prop) : Prop :=
 ((0 : Int) ≤ ((s.len : Nat) : Int) ∧ ((s.len : Nat) : Int) ≤ ((s.cap : Nat) : Int)) ∧ ((0 : Int) ≤ j ∧ j ≤ ((((((s.len : Nat) : Int) : Int).toNat) : Nat) : Int)) ∧ ((0 : Int) ≤ i ∧ i ≤ ((((j : Int).toNat) : Nat) : Int)) ∧ 
 Br (i == j) (Q (.slice s.a s.len s.cap) H)
 (((0 : Int) ≤ i ∧ i ≤ ((s.cap : Nat) : Int)) ∧ ((0 : Int) ≤ j ∧ j ≤ ((s.len : Nat) : Int)) ∧ 
 vApp P T (cutA s.a s.cap 0 k) ((i : Int).toNat) s.cap (.slice (cutA s.a s.cap ((j : Int).toNat) k) (s.len - ((j : Int).toNat)) (s.cap - ((j : Int).toNat))) H (fun ap H1 => ((0 : Int) ≤ ((s.len : Nat) : Int) ∧ ((s.len : Nat) : Int) ≤ ((ap.cap : Nat) : Int)) ∧ ((0 : Int) ≤ ((ap.len : Nat) : Int) ∧ ((ap.len : Nat) : Int) ≤ ((((((s.len : Nat) : Int) : Int).toNat) : Nat) : Int)) ∧ 
 vClear P T (cutA ap.a ap.cap ((((ap.len : Nat) : Int) : Int).toNat) k) (((((s.len : Nat) : Int) : Int).toNat) - ((((ap.len : Nat) : Int) : Int).toNat)) H1 (fun H2 => Q (.slice ap.a ap.len ap.cap) H2)))


theorem ins_spec {P : Program} {T e : TypeId} {k : Nat} {ov rot : FuncId} {s : Sl} {n gv : Nat} {ev : TypeId} {p cs : List Value} {H : Hp} {Q : Value → Hp → Prop} (hE : El P T e k) (ho : Own H s e k cs) (hn : n ≤ s.len) (hl : s.len ≤ 1000000)
    (hp : p.length = k) (hp1 : allOne p = true) (hc1 : allOne cs = true) (hv : Blk H gv ev p) (hgv : gv ∉ s.blk)
    (hov : ∀ (b : Addr) (lb cb : Nat), b.block ≠ gv → (∃ c, H[b.block]? = some (.cells c e (0, 0)) ∧ c.size ≠ 0) → ExtTells P ov [.slice (some ⟨gv, 0, none⟩) 1 1, .slice (some b) lb cb] H (.bool false))
    (hQ : ∀ (y : Sl) H', Own H' y e k (cs.take (n * k) ++ p ++ cs.drop (n * k)) → Mod (· ∈ s.blk) H H' → (∀ b ∈ y.blk, b ∈ s.blk ∨ b = H.size) → Q (.slice y.a y.len y.cap) H') :
    insVC P T k ov rot s (n : Int) ⟨some ⟨gv, 0, none⟩, 1, 1⟩ H Q := by
  obtain ⟨hu, ⟨ti, z, hi, hz, hsz, hby, hby2, hzs, hz1⟩, hkp⟩ := hE
  have hcap := ho.2.1
  have hlen := ho.1
  have hb : ∀ m : Nat, m ≤ 2000000 → m * ti.bytes ≤ 140737488355328 := fun m hm => by
    have := Nat.mul_le_mul hm hby2; omega
  unfold insVC
  rw [show ((n : Int)).toNat = n from Int.toNat_natCast n]
  refine ⟨⟨by omega, by omega⟩, Br.no (by simp) ?_⟩
  by_cases h1 : n = s.len
  · -- at the end
    refine Br.yes (by simp [h1]) ?_
    refine Own.app (e := e) (ti := ti) (z := z) (cs := cs) (news := p) (by rw [hsz]; exact ho) hu hi hz (by rw [hzs, hsz]) hby (by rw [hsz]; exact src_one hv hp) (by rw [hsz, hp]; simp [srcLen]) hp1 (hb _ (by simp [srcLen]; omega)) ?_
    intro y H' hy hyl hm hyb _
    rw [hsz] at hy
    refine hQ y H' ?_ hm hyb
    have e1 : cs.take (n * k) = cs := List.take_of_length_le (by rw [hlen, h1]; exact Nat.le_refl _)
    have e2 : cs.drop (n * k) = [] := List.drop_eq_nil_of_le (by rw [hlen, h1]; exact Nat.le_refl _)
    rw [e1, e2, List.append_nil]; exact hy
  refine Br.no (by simp; omega) ?_
  have hnl : n < s.len := by omega
  have w1 : w64 ((s.len : Int) + ((1 : Nat) : Int)) = ((s.len + 1 : Nat) : Int) := by rw [w64_id (by omega) (by omega)]; omega
  have w2 : w64 ((n : Int) + ((1 : Nat) : Int)) = ((n + 1 : Nat) : Int) := by rw [w64_id (by omega) (by omega)]; omega
  have w3 : w64 (((s.len + 1 : Nat) : Int) - (n : Int)) = ((s.len + 1 - n : Nat) : Int) := by rw [w64_id (by omega) (by omega)]; omega
  dsimp only
  simp only [w1, w2, w3, Int.toNat_natCast]
  obtain ⟨g, cur, ha, hg, hcs, ht⟩ : ∃ g cur, s.a = some ⟨g, 0, none⟩ ∧ H[g]? = some (.cells cur e (0, 0)) ∧ cur.size = s.cap * k ∧ cur.toList.take cs.length = cs := by
    rcases ho.2.2 with h | h
    · omega
    · exact h
  have hB : Blk H g e cur.toList := by unfold Blk; rw [Array.toArray_toList]; exact hg
  have hcl : cur.toList.length = s.cap * k := by simpa using hcs
  have hgb : g ∈ s.blk := by simp [Sl.blk, ha]
  have hgg : gv ≠ g := fun e => hgv (e ▸ hgb)
  have hnk : n * k + k ≤ s.len * k := by rw [← Nat.succ_mul]; exact Nat.mul_le_mul_right _ hnl
  have hck : s.len * k ≤ s.cap * k := Nat.mul_le_mul_right _ hcap
  have hrow : ∀ j v, (cs.drop (n * k))[j]? = some v → cur.toList[n * k + j]? = some v := fun j v hj => by
    rw [List.getElem?_drop, ← ht, List.getElem?_take] at hj
    split at hj
    · exact hj
    · cases hj
  have hdl : (cs.drop (n * k)).length = (s.len - n) * k := by rw [List.length_drop, hlen, ← Nat.sub_mul]
  have hd1 : allOne (cs.drop (n * k)) = true := by
    rw [allOne_iff] at hc1 ⊢
    exact fun v hv => hc1 v (List.mem_of_mem_drop hv)
  have hsub : (s.len - n) * k = s.len * k - n * k := Nat.sub_mul _ _ _
  by_cases h2 : s.len + 1 > s.cap
  · -- a new block
    have hcapl : s.cap = s.len := by omega
    refine Br.yes (by simp; omega) ⟨⟨by omega, by omega⟩, ?_⟩
    rw [cutA_zero]
    refine ⟨e, ti, z, hu, hi, hz, hby, by omega, by omega, by omega, ?_, allOne_zero hz1 (by omega) _, fun hc => ?_, fun _ => ⟨cs.take (n * k), ?_, fun c' hc1' hc2' => ?_⟩⟩
    · rw [Int.toNat_natCast]; exact hb _ (by omega)
    · rw [Int.toNat_natCast] at hc; omega
    · rw [ha, hsz]
      refine ⟨by rw [List.length_take, hlen]; omega, fun j v hj => ?_⟩
      rw [List.getElem?_take] at hj
      split at hj
      · exact (ho.row ha) j v hj
      · cases hj
    rw [Int.toNat_natCast] at hc1' ⊢
    have hn1 : n + (s.len + 1 - n) = s.len + 1 := by omega
    rw [hn1] at hc1' ⊢
    dsimp only
    -- the block as it is laid
    have hL0 : ∃ L0, L0 = cs.take (n * k) ++ (Builtin.zeroCells z.cells (s.len + 1 - n)).toList ++ (Builtin.zeroCells z.cells (c' - (s.len + 1))).toList := ⟨_, rfl⟩
    obtain ⟨L0, hL0⟩ := hL0
    rw [← hL0]
    have hLl : L0.length = c' * k := by
      rw [hL0, List.length_append, List.length_append, List.length_take, zero_length, zero_length, hzs, hlen]
      have e1 : (s.len + 1 - n) * k = (s.len + 1) * k - n * k := Nat.sub_mul _ _ _
      have e2 : (c' - (s.len + 1)) * k = c' * k - (s.len + 1) * k := Nat.sub_mul _ _ _
      have e3 : (s.len + 1) * k = s.len * k + k := Nat.succ_mul _ _
      have e4 : (s.len + 1) * k ≤ c' * k := Nat.mul_le_mul_right _ hc1'
      omega
    have hLt : L0.take (n * k) = cs.take (n * k) := by
      rw [hL0, List.append_assoc, List.take_append_of_le_length (by rw [List.length_take, hlen]; omega), List.take_take, Nat.min_self]
    have m1 : Mod (fun _ => False) H (Array.push H (.cells L0.toArray e)) := Mod.push _ _ _
    have B1 : Blk (Array.push H (.cells L0.toArray e)) H.size e L0 := get_push_new _ _
    have ltg := lt_of_get hg
    have ltv := lt_of_get hv
    generalize Array.push H (.cells L0.toArray e) = H2 at m1 B1
    have e3 : (s.len + 1) * k = s.len * k + k := Nat.succ_mul _ _
    have e4 : (s.len + 1) * k ≤ c' * k := Nat.mul_le_mul_right _ hc1'
    have e5 : (n + 1) * k = n * k + k := Nat.succ_mul _ _
    refine ⟨⟨by omega, by omega⟩, ?_⟩
    rw [cutA_some (by omega : n < c')]
    refine ⟨e, ti, p, hu, hi, ?_, hp1, ?_⟩
    · have hm1 : Nat.min (srcLen (.slice (some ⟨gv, 0, none⟩) 1 1)) (s.len + 1 - n) = 1 := (Nat.min_eq_left (by omega) : min 1 (s.len + 1 - n) = 1)
      rw [hm1, hsz]; exact src_one (hv.keep m1 fun h => h) hp
    refine ⟨B1.wr (by omega), ?_⟩
    have B2 := B1.write (new := p) (off := n * k) (by omega)
    have m2 : Mod (· = H.size) H2 (Hp.setCells H2 ⟨H.size, n * k, none⟩ p 0) := ⟨by rw [size_setCells]; exact Nat.le_refl _, fun b _ hn => get_setCells_ne (fun e => hn e) _ _ _⟩
    generalize Hp.setCells H2 ⟨H.size, n * k, none⟩ p 0 = H3 at B2 m2
    refine ⟨⟨by omega, by omega⟩, ⟨by omega, by omega⟩, ?_⟩
    have hBo : Blk H3 g e cur.toList := (hB.keep m1 fun h => h).keep m2 (fun (h : g = H.size) => by omega)
    rw [cutA_some (by omega : n + 1 < c'), ha, cutA_some (by omega : n < s.cap)]
    refine ⟨e, ti, cs.drop (n * k), hu, hi, ?_, hd1, ?_⟩
    · have hm1 : Nat.min (srcLen (.slice (some ⟨g, n * k, none⟩) (s.len - n) (s.cap - n))) (s.len + 1 - (n + 1)) = s.len - n := by simp [srcLen]
      rw [hm1, hsz]; exact ⟨hdl, hBo.row hrow⟩
    have hs2 : (splice (n * k) p L0).length = L0.length := splice_length (by omega)
    refine ⟨B2.wr (by omega), ?_⟩
    have B3 := B2.write (new := cs.drop (n * k)) (off := (n + 1) * k) (by rw [hs2]; omega)
    have m3 : Mod (· = H.size) H3 (Hp.setCells H3 ⟨H.size, (n + 1) * k, none⟩ (cs.drop (n * k)) 0) := ⟨by rw [size_setCells]; exact Nat.le_refl _, fun b _ hn => get_setCells_ne (fun e => hn e) _ _ _⟩
    refine hQ ⟨some ⟨H.size, 0, none⟩, s.len + 1, c'⟩ _ ⟨?_, hc1', Or.inr ⟨H.size, _, rfl, B3, ?_, ?_⟩⟩ ?_ (fun b hb => Or.inr (by simpa [Sl.blk] using hb))
    · simp only [List.length_append, List.length_take, hdl, hp, hlen]; omega
    · simp only [List.size_toArray]; rw [splice_length (by rw [hs2]; omega), hs2]; exact hLl
    · have hfl : (cs.take (n * k) ++ p ++ cs.drop (n * k)).length = (s.len + 1) * k := by simp only [List.length_append, List.length_take, hdl, hp, hlen]; omega
      have hs1 : splice (n * k) p L0 = cs.take (n * k) ++ p ++ L0.drop (n * k + k) := by unfold splice; rw [hLt, hp]
      show (splice ((n + 1) * k) (cs.drop (n * k)) (splice (n * k) p L0)).take _ = _
      unfold splice at hs1 ⊢
      rw [hs1]
      have ht1 : (cs.take (n * k) ++ p ++ L0.drop (n * k + k)).take ((n + 1) * k) = cs.take (n * k) ++ p := by
        rw [List.take_append_of_le_length (by simp only [List.length_append, List.length_take, hlen, hp]; omega), List.take_of_length_le (by simp only [List.length_append, List.length_take, hlen, hp]; omega)]
      rw [ht1, List.take_append_of_le_length (by simp only [List.length_append, List.length_take, hdl, hp, hlen]; omega), List.take_of_length_le (by simp only [List.length_append, List.length_take, hdl, hp, hlen]; omega)]
    · refine (m1.mono fun _ _ h => h.elim).trans' (m2.trans m3) fun b hb hb2 => ?_
      have hb2' : b = H.size := hb2
      omega
  · -- in place
    have hc2 : s.len + 1 ≤ s.cap := by omega
    refine Br.no (by simp; omega) ⟨⟨by omega, by omega⟩, ⟨by omega, by omega⟩, ?_⟩
    rw [ha, cutA_zero, cutA_some (by omega : n < s.cap)]
    have e3 : (s.len + 1) * k = s.len * k + k := Nat.succ_mul _ _
    have e4 : (s.len + 1) * k ≤ s.cap * k := Nat.mul_le_mul_right _ hc2
    have e5 : (n + 1) * k = n * k + k := Nat.succ_mul _ _
    have hov' : ∃ b : Addr, b.block = g ∧ cutA (some ⟨g, 0, none⟩) s.cap (n + 1) k = some b := by
      by_cases hx : n + 1 < s.cap
      · exact ⟨_, rfl, cutA_some hx⟩
      · refine ⟨⟨g, 0, none⟩, rfl, ?_⟩
        unfold cutA; rw [if_pos (by omega)]
    obtain ⟨b0, hb0, hb1⟩ := hov'
    rw [hb1]
    refine ⟨.bool false, hov b0 _ _ (by rw [hb0]; exact Ne.symm hgg) ⟨cur, by rw [hb0]; exact hg, by rw [hcs]; omega⟩, false, rfl, Br.yes rfl ⟨⟨by omega, by omega⟩, ⟨by omega, by omega⟩, ?_⟩⟩
    have hn1c : n + 1 < s.cap := by omega
    rw [cutA_some hn1c] at hb1
    cases hb1
    have hm1 : Nat.min (srcLen (.slice (some ⟨g, n * k, none⟩) (s.len + 1 - n) (s.cap - n))) (s.len + 1 - (n + 1)) = s.len - n := (Nat.min_eq_right (by omega) : min (s.len + 1 - n) (s.len + 1 - (n + 1)) = _).trans (by omega)
    have hm2 : Nat.min (srcLen (.slice (some ⟨gv, 0, none⟩) 1 1)) (s.len + 1 - n) = 1 := (Nat.min_eq_left (by omega) : min 1 (s.len + 1 - n) = 1)
    refine ⟨e, ti, cs.drop (n * k), hu, hi, ?_, hd1, hB.wr (by omega), ?_⟩
    · rw [hm1, hsz]; exact ⟨hdl, hB.row hrow⟩
    have B2 := hB.write (new := cs.drop (n * k)) (off := (n + 1) * k) (by omega)
    have m2 : Mod (· = g) H (Hp.setCells H ⟨g, (n + 1) * k, none⟩ (cs.drop (n * k)) 0) := ⟨by rw [size_setCells]; exact Nat.le_refl _, fun b _ hn => get_setCells_ne (fun e => hn e) _ _ _⟩
    generalize Hp.setCells H ⟨g, (n + 1) * k, none⟩ (cs.drop (n * k)) 0 = H3 at B2 m2
    refine ⟨⟨by omega, by omega⟩, ?_⟩
    have hs2 : (splice ((n + 1) * k) (cs.drop (n * k)) cur.toList).length = cur.toList.length := splice_length (by omega)
    refine ⟨e, ti, p, hu, hi, ?_, hp1, B2.wr (by omega), ?_⟩
    · rw [hm2, hsz]; exact src_one (hv.keep m2 hgg) hp
    have B3 := B2.write (new := p) (off := n * k) (by omega)
    have m3 : Mod (· = g) H3 (Hp.setCells H3 ⟨g, n * k, none⟩ p 0) := ⟨by rw [size_setCells]; exact Nat.le_refl _, fun b _ hn => get_setCells_ne (fun e => hn e) _ _ _⟩
    refine hQ ⟨some ⟨g, 0, none⟩, s.len + 1, s.cap⟩ _ ⟨?_, hc2, Or.inr ⟨g, _, rfl, B3, ?_, ?_⟩⟩ ((m2.trans m3).mono fun b _ hb => by rw [hb]; exact hgb) (fun b hb => Or.inl (by simp [Sl.blk] at hb; rw [hb]; exact hgb))
    · simp only [List.length_append, List.length_take, hdl, hp, hlen]; omega
    · simp only [List.size_toArray]; rw [splice_length (by omega), hs2]; exact hcl
    · have hct : cur.toList.take (n * k) = cs.take (n * k) := by rw [← ht, List.take_take]; congr 1; omega
      have hfl : (cs.take (n * k) ++ p ++ cs.drop (n * k)).length = (s.len + 1) * k := by simp only [List.length_append, List.length_take, hdl, hp, hlen]; omega
      show (splice (n * k) p (splice ((n + 1) * k) (cs.drop (n * k)) cur.toList)).take _ = _
      unfold splice
      have q1 : (cur.toList.take ((n + 1) * k)).length = (n + 1) * k := by rw [List.length_take]; omega
      have q2 : (List.take ((n + 1) * k) cur.toList ++ cs.drop (n * k) ++ cur.toList.drop ((n + 1) * k + (cs.drop (n * k)).length)).take (n * k) = cs.take (n * k) := by
        rw [List.append_assoc, List.take_append_of_le_length (by omega), List.take_take, Nat.min_eq_left (by omega), hct]
      have q3 : (List.take ((n + 1) * k) cur.toList ++ cs.drop (n * k) ++ cur.toList.drop ((n + 1) * k + (cs.drop (n * k)).length)).drop (n * k + p.length) = cs.drop (n * k) ++ cur.toList.drop ((n + 1) * k + (cs.drop (n * k)).length) := by
        rw [List.append_assoc, hp, ← e5, List.drop_append_of_le_length (by omega), List.drop_eq_nil_of_le (by omega), List.nil_append]
      rw [q2, q3, ← List.append_assoc, List.take_append_of_le_length (by omega), List.take_of_length_le (by omega)]

theorem del_spec {P : Program} {T e : TypeId} {k : Nat} {s : Sl} {n : Nat} {cs : List Value} {H : Hp} {Q : Value → Hp → Prop} (hE : El P T e k) (ho : Own H s e k cs) (hn : n < s.len) (hl : s.len ≤ 1000000) (hc1 : allOne cs = true)
    (hQ : ∀ (y : Sl) H', Own H' y e k (cs.take (n * k) ++ cs.drop ((n + 1) * k)) → Mod (· ∈ s.blk) H H' → (∀ b ∈ y.blk, b ∈ s.blk) → Q (.slice y.a y.len y.cap) H') :
    delVC P T k s (n : Int) ((n + 1 : Nat) : Int) H Q := by
  obtain ⟨hu, ⟨ti, z, hi, hz, hsz, hby, hby2, hzs, hz1⟩, hkp⟩ := hE
  have hcap := ho.2.1
  have hlen := ho.1
  obtain ⟨g, cur, ha, hg, hcs, ht⟩ : ∃ g cur, s.a = some ⟨g, 0, none⟩ ∧ H[g]? = some (.cells cur e (0, 0)) ∧ cur.size = s.cap * k ∧ cur.toList.take cs.length = cs := by
    rcases ho.2.2 with h | h
    · omega
    · exact h
  have hB : Blk H g e cur.toList := by unfold Blk; rw [Array.toArray_toList]; exact hg
  have hcl : cur.toList.length = s.cap * k := by simpa using hcs
  have hgb : g ∈ s.blk := by simp [Sl.blk, ha]
  have hnk : (n + 1) * k ≤ s.len * k := Nat.mul_le_mul_right _ hn
  have hck : s.len * k ≤ s.cap * k := Nat.mul_le_mul_right _ hcap
  have e5 : (n + 1) * k = n * k + k := Nat.succ_mul _ _
  have hsub : (s.len - (n + 1)) * k = s.len * k - (n + 1) * k := Nat.sub_mul _ _ _
  have hdl : (cs.drop ((n + 1) * k)).length = (s.len - (n + 1)) * k := by rw [List.length_drop, hlen, ← Nat.sub_mul]
  have hrow : ∀ j v, (cs.drop ((n + 1) * k))[j]? = some v → cur.toList[(n + 1) * k + j]? = some v := fun j v hj => by
    rw [List.getElem?_drop, ← ht, List.getElem?_take] at hj
    split at hj
    · exact hj
    · cases hj
  have hd1 : allOne (cs.drop ((n + 1) * k)) = true := by
    rw [allOne_iff] at hc1 ⊢
    exact fun v hv => hc1 v (List.mem_of_mem_drop hv)
  unfold delVC
  simp only [Int.toNat_natCast]
  refine ⟨⟨by omega, by omega⟩, ⟨by omega, by omega⟩, ⟨by omega, by omega⟩, Br.no (by simp; omega) ⟨⟨by omega, by omega⟩, ⟨by omega, by omega⟩, ?_⟩⟩
  rw [cutA_zero]
  -- the source
  have hsrc : SrcAt H k (s.len - (n + 1)) (.slice (cutA s.a s.cap (n + 1) k) (s.len - (n + 1)) (s.cap - (n + 1))) (cs.drop ((n + 1) * k)) := by
    by_cases hx : n + 1 < s.cap
    · rw [ha, cutA_some hx]; exact ⟨hdl, hB.row hrow⟩
    · have : cutA s.a s.cap (n + 1) k = some ⟨g, 0, none⟩ := by unfold cutA; rw [if_pos (by omega), ha]
      rw [this]
      have h0 : cs.drop ((n + 1) * k) = [] := List.eq_nil_of_length_eq_zero (by rw [hdl, show s.len - (n + 1) = 0 by omega]; simp)
      rw [h0]
      exact ⟨by rw [show s.len - (n + 1) = 0 by omega]; simp, fun j v hj => by simp at hj⟩
  refine ⟨e, ti, z, cs.drop ((n + 1) * k), hu, hi, hz, hby, by rw [hsz]; exact hsrc, hd1, fun _ => ?_, fun hc => ?_⟩
  · have hs1 : n + srcLen (.slice (cutA s.a s.cap (n + 1) k) (s.len - (n + 1)) (s.cap - (n + 1))) = s.len - 1 := by simp only [srcLen]; omega
    rw [hs1, ha, hsz]
    simp only [Addr.add_loc, Nat.zero_add]
    refine ⟨hB.wr (by omega), ⟨by omega, by omega⟩, ⟨by omega, by omega⟩, ?_⟩
    have B2 := hB.write (new := cs.drop ((n + 1) * k)) (off := n * k) (by omega)
    have m2 : Mod (· = g) H (Hp.setCells H ⟨g, n * k, none⟩ (cs.drop ((n + 1) * k)) 0) := ⟨by rw [size_setCells]; exact Nat.le_refl _, fun b _ hn => get_setCells_ne (fun e => hn e) _ _ _⟩
    generalize Hp.setCells H ⟨g, n * k, none⟩ (cs.drop ((n + 1) * k)) 0 = H2 at B2 m2
    have hs2 : (splice (n * k) (cs.drop ((n + 1) * k)) cur.toList).length = cur.toList.length := splice_length (by omega)
    rw [show s.len - (s.len - 1) = 1 by omega, cutA_some (by omega : s.len - 1 < s.cap)]
    have e6 : (s.len - 1) * k = s.len * k - k := by rw [Nat.sub_mul, Nat.one_mul]
    have zl : (Builtin.zeroCells z.cells 1).toList.length = k := by rw [zero_length, hzs, Nat.one_mul]
    refine ⟨e, ti, z, hu, hi, hz, allOne_zero hz1 (by omega) _, fun h => by omega, fun _ => ⟨B2.wr (by rw [zl, hs2]; omega), ?_⟩⟩
    have B3 := B2.write (new := (Builtin.zeroCells z.cells 1).toList) (off := (s.len - 1) * k) (by rw [zl, hs2]; omega)
    have m3 : Mod (· = g) H2 (Hp.setCells H2 ⟨g, (s.len - 1) * k, none⟩ (Builtin.zeroCells z.cells 1).toList 0) := ⟨by rw [size_setCells]; exact Nat.le_refl _, fun b _ hn => get_setCells_ne (fun e => hn e) _ _ _⟩
    refine hQ ⟨some ⟨g, 0, none⟩, s.len - 1, s.cap⟩ _ ⟨?_, by simp only; omega, Or.inr ⟨g, _, rfl, B3, ?_, ?_⟩⟩ ((m2.trans m3).mono fun b _ hb => by rw [hb]; exact hgb) (fun b hb => by simp [Sl.blk] at hb; rw [hb]; exact hgb)
    · simp only [List.length_append, List.length_take, hdl, hlen]; omega
    · simp only [List.size_toArray]; rw [splice_length (by rw [zl, hs2]; omega), hs2]; exact hcl
    · have hct : cur.toList.take (n * k) = cs.take (n * k) := by rw [← ht, List.take_take]; congr 1; omega
      have hfl : (cs.take (n * k) ++ cs.drop ((n + 1) * k)).length = (s.len - 1) * k := by simp only [List.length_append, List.length_take, hdl, hlen]; omega
      show (splice ((s.len - 1) * k) _ (splice (n * k) (cs.drop ((n + 1) * k)) cur.toList)).take _ = _
      rw [hfl]
      have q1 : (splice (n * k) (cs.drop ((n + 1) * k)) cur.toList).take ((s.len - 1) * k) = cs.take (n * k) ++ cs.drop ((n + 1) * k) := by
        unfold splice
        rw [hct, List.take_append_of_le_length (by omega), List.take_of_length_le (by omega)]
      have q2 : ∀ L : List Value, L.length = s.cap * k → (splice ((s.len - 1) * k) (Builtin.zeroCells z.cells 1).toList L).take ((s.len - 1) * k) = L.take ((s.len - 1) * k) := fun L hL => by
        unfold splice
        rw [List.append_assoc, List.take_append_of_le_length (by rw [List.length_take]; omega), List.take_take, Nat.min_self]
      rw [q2 _ (by rw [hs2]; exact hcl), q1]
  · simp only [srcLen] at hc; omega
end Go.Proofs

/- SORTED MAPS: what their walks have in common, generic over the program. -/
set_option linter.all false
set_option linter.constructorNameAsVariable false
namespace Go.Proofs
open Go Go.KC

/-! ### texts as keys -/
theorem bl_irr : ∀ l : List UInt8, Op.bytesLess l l = false
  | [] => rfl
  | a :: r => by simp [Op.bytesLess, bl_irr r]
theorem bl_trans : ∀ a b c : List UInt8, Op.bytesLess a b = true → Op.bytesLess b c = true → Op.bytesLess a c = true
  | _, [], _, h, _ => by cases ‹List UInt8› <;> simp [Op.bytesLess] at h
  | [], b :: y, [], _, k => by simp [Op.bytesLess] at k
  | [], b :: y, c :: z, _, _ => rfl
  | a :: x, b :: y, [], _, k => by simp [Op.bytesLess] at k
  | a :: x, b :: y, c :: z, h, k => by
    simp only [Op.bytesLess, Bool.or_eq_true, decide_eq_true_eq, Bool.and_eq_true, beq_iff_eq] at h k ⊢
    rcases h with h | ⟨rfl, h⟩ <;> rcases k with k | ⟨rfl, k⟩
    · exact Or.inl (UInt8.lt_trans h k)
    · exact Or.inl h
    · exact Or.inl k
    · exact Or.inr ⟨rfl, bl_trans x y z h k⟩
theorem bl_tri : ∀ a b : List UInt8, Op.bytesLess a b = true ∨ a = b ∨ Op.bytesLess b a = true
  | [], [] => Or.inr (Or.inl rfl)
  | [], _ :: _ => Or.inl rfl
  | _ :: _, [] => Or.inr (Or.inr rfl)
  | a :: x, b :: y => by
    simp only [Op.bytesLess, Bool.or_eq_true, decide_eq_true_eq, Bool.and_eq_true, beq_iff_eq]
    rcases UInt8.lt_or_lt_of_ne (a := a) (b := b) |> fun h => (Decidable.em (a = b)).elim Or.inr (fun hn => Or.inl (h hn)) with h | h
    · rcases h with h | h
      · exact Or.inl (Or.inl h)
      · exact Or.inr (Or.inr (Or.inl h))
    · subst h
      rcases bl_tri x y with h | h | h
      · exact Or.inl (Or.inr ⟨rfl, h⟩)
      · subst h; exact Or.inr (Or.inl rfl)
      · exact Or.inr (Or.inr (Or.inr ⟨rfl, h⟩))
theorem toList_data (s : ByteArray) : s.toList = s.data.toList := by
  have : ∀ n i (r : List UInt8), s.size - i = n → ByteArray.toList.loop s i r = r.reverse ++ s.data.toList.drop i := by
    intro n
    induction n with
    | zero =>
      intro i r h
      unfold ByteArray.toList.loop
      rw [if_neg (by omega), List.drop_eq_nil_of_le (by rw [ba_len]; omega), List.append_nil]
    | succ n ih =>
      intro i r h
      unfold ByteArray.toList.loop
      rw [if_pos (by omega), ih _ _ (by omega)]
      have hi : i < s.data.toList.length := by rw [ba_len]; omega
      rw [List.drop_eq_getElem_cons hi]
      have : s.get! i = s.data.toList[i] := by
        have hi' : i < s.data.size := by simpa using hi
        show s.data[i]! = _
        rw [getElem!_pos s.data i hi']; simp
      rw [this]; simp
  unfold ByteArray.toList
  rw [this s.size 0 [] (by omega)]; simp
theorem ba_toList_inj {a b : ByteArray} (h : a.toList = b.toList) : a = b := by
  rw [toList_data, toList_data] at h
  exact ByteArray.ext (Array.ext' h)
instance : KO ByteArray := ⟨fun a b => Op.bytesLess a.toList b.toList = true, fun a b => inferInstanceAs (Decidable (Op.bytesLess a.toList b.toList = true)), fun a => by rw [bl_irr]; simp, fun _ _ _ => bl_trans _ _ _, fun a b => by
  rcases bl_tri a.toList b.toList with h | h | h
  · exact Or.inl h
  · exact Or.inr (Or.inl (ba_toList_inj h))
  · exact Or.inr (Or.inr h)⟩

/-! ### slices.overlaps tells 'false' of a new element -/
theorem ov_tells {P : Program} {ov : FuncId} {fn : Func} {tS tR e : TypeId} {k : Nat} (hf : P.funcs[ov]? = some fn) (hname : (fn.name == "runtime.NumGoroutine") = false) (hb : fn.body.isNone = true) (hn : Extern.findNext fn = none)
    (he : Extern.find fn = some (Extern.SlicesOverlaps.overlaps #[tS, tS] #[tR])) (hE : El P tS e k) {H : Hp} {gv : Nat} {ev : TypeId} {p : List Value} (hv : Blk H gv ev p) (b : Addr) (lb cb : Nat) (hbn : b.block ≠ gv)
    (hbl : ∃ c, H[b.block]? = some (.cells c e (0, 0)) ∧ c.size ≠ 0) : ExtTells P ov [.slice (some ⟨gv, 0, none⟩) 1 1, .slice (some b) lb cb] H (.bool false) := by
  intro M w hh
  obtain ⟨c, hc, hc0⟩ := hbl
  obtain ⟨_, hv'⟩ := hh.of_some hv (by simp [hole])
  obtain ⟨_, hc'⟩ := hh.of_some hc (by simp [hole])
  obtain ⟨ti, z, hi, _, hsz, _⟩ := hE.inf
  have := Lib.run_overlaps_apart w tS tR e hE.und k (fun w => by rw [← hsz]; exact run_sizeOf' hi w) ⟨gv, 0, none⟩ b 1 1 lb cb (Ne.symm hbn) ev e p.length c.size
    (by simp [World.shape?, hv']) (by simp [World.shape?, hc']) hc0 (by simp [World.frozen?, hv']) (by simp [World.frozen?, hv'])
  rw [run_callFunc_extern hf hname hb hn he]
  rw [show ([.slice (some ⟨gv, 0, none⟩) 1 1, .slice (some b) lb cb] : List Value).toArray = #[.slice (some ⟨gv, 0, none⟩) 1 1, .slice (some b) lb cb] from rfl, this]
  rfl

/-! ### elements -/
theorem flat_take' {α : Type} {f : α → List Value} {k : Nat} (hf : ∀ c, (f c).length = k) (l : List α) (n : Nat) : (l.map f).flatten.take (n * k) = ((l.take n).map f).flatten := by
  induction l generalizing n with
  | nil => simp
  | cons a l ih =>
    cases n with
    | zero => simp
    | succ n =>
      simp only [List.map_cons, List.flatten_cons, List.take_succ_cons]
      rw [List.take_append, hf, List.take_of_length_le (by rw [hf, Nat.succ_mul]; omega), show (n + 1) * k - k = n * k by rw [Nat.succ_mul]; omega, ih]
theorem flat_drop' {α : Type} {f : α → List Value} {k : Nat} (hf : ∀ c, (f c).length = k) (l : List α) (n : Nat) : (l.map f).flatten.drop (n * k) = ((l.drop n).map f).flatten := by
  induction l generalizing n with
  | nil => simp
  | cons a l ih =>
    cases n with
    | zero => simp
    | succ n =>
      simp only [List.map_cons, List.flatten_cons, List.drop_succ_cons]
      rw [List.drop_append, hf, List.drop_eq_nil_of_le (by rw [hf, Nat.succ_mul]; omega), List.nil_append, show (n + 1) * k - k = n * k by rw [Nat.succ_mul]; omega, ih]
theorem flat_len' {α : Type} {f : α → List Value} {k : Nat} (hf : ∀ c, (f c).length = k) : ∀ l : List α, (l.map f).flatten.length = l.length * k
  | [] => by simp
  | a :: l => by simp only [List.map_cons, List.flatten_cons, List.length_append, hf, flat_len' hf l, List.length_cons, Nat.succ_mul]; omega
theorem row_get' {α : Type} {f : α → List Value} {k : Nat} (hk : 0 < k) (hf : ∀ c, (f c).length = k) {H : Hp} {x : Sl} {cs : List α} (h : Rows H x k (cs.map f).flatten) {j : Nat} (hj : j < cs.length) :
    ∃ a, x.a = some a ∧ RowAt H (a.add (j * k)) (f cs[j]) := by
  obtain ⟨h1, h2, h3, h4⟩ := h
  rw [flat_len' hf] at h1
  have hl : cs.length = x.len := Nat.eq_of_mul_eq_mul_right hk h1
  cases ha : x.a with
  | none => have := h4 ha; omega
  | some a =>
    refine ⟨a, rfl, fun i v hi => ?_⟩
    have hik : i < k := by rw [← hf cs[j]]; exact (List.getElem?_eq_some_iff.1 hi).1
    have hd : (cs.map f).flatten.drop (j * k) = f cs[j] ++ ((cs.drop (j + 1)).map f).flatten := by
      rw [flat_drop' hf, List.drop_eq_getElem_cons hj, List.map_cons, List.flatten_cons]
    have hg : (cs.map f).flatten[j * k + i]? = some v := by
      rw [← List.getElem?_drop, hd, List.getElem?_append_left (by rw [hf]; exact hik)]; exact hi
    have hc := h3 a ha (j * k + i) v hg
    have h0 := h3 a ha 0 _ (List.getElem?_eq_getElem (by rw [flat_len' hf]; exact Nat.mul_pos (by omega) hk))
    have hs : a.spot = none := by have := spot_of_cell h0; simpa [Addr.add] using this
    rw [add_add _ _ _ hs]; exact hc
theorem rows_len' {α : Type} {f : α → List Value} {k : Nat} (hk : 0 < k) (hf : ∀ c, (f c).length = k) {H : Hp} {x : Sl} {cs : List α} (h : Rows H x k (cs.map f).flatten) : cs.length = x.len := by
  have := h.1; rw [flat_len' hf] at this
  exact Nat.eq_of_mul_eq_mul_right hk this
theorem allOne_flat {α : Type} {f : α → List Value} (hf : ∀ c, allOne (f c) = true) : ∀ l : List α, allOne (l.map f).flatten = true
  | [] => rfl
  | a :: l => by simp [allOne_append, hf, allOne_flat hf l]
theorem flat_set' {α : Type} {f : α → List Value} {k : Nat} (hf : ∀ c, (f c).length = k) (l : List α) (i : Nat) (c : α) (hi : i < l.length) :
    ((l.set i c).map f).flatten = (l.map f).flatten.take (i * k) ++ f c ++ (l.map f).flatten.drop (i * k + k) := by
  rw [flat_take' hf, show i * k + k = (i + 1) * k by rw [Nat.succ_mul], flat_drop' hf]
  rw [List.set_eq_take_append_cons_drop, if_pos hi]
  simp

theorem setCell_cells (H : Hp) (a : Addr) (v : Value) : Hp.setCell H a v = Hp.setCells H a [v] 0 := by
  show _ = Hp.setCell H (a.add 0) v
  rw [add_zero_of]

theorem splice_take {A new : List Value} {n off : Nat} (h1 : off + new.length ≤ n) (h2 : n ≤ A.length) : splice off new (A.take n) = (splice off new A).take n := by
  unfold splice
  have e1 : (A.take off ++ new).length = off + new.length := by rw [List.length_append, List.length_take]; omega
  rw [List.take_append, List.take_of_length_le (l := A.take off ++ new) (by omega), e1, List.take_take, Nat.min_eq_left (by omega), List.drop_take]

/-- A part of an element of a slice that one holds alone is set. -/
theorem own_put_at {H : Hp} {x : Sl} {e : TypeId} {k i o : Nat} {cs new : List Value} (h : Own H x e k cs) (hi : i < x.len) (ho : o + new.length ≤ k) :
    ∃ a, x.a = some a ∧ WrAt H ((a.add (i * k)).add o) new.length ∧ Own (Hp.setCells H ((a.add (i * k)).add o) new 0) x e k (splice (i * k + o) new cs) ∧ Mod (· ∈ x.blk) H (Hp.setCells H ((a.add (i * k)).add o) new 0) := by
  obtain ⟨h1, h2, ⟨ha, hc⟩ | ⟨g, cur, ha, hg, hs, ht⟩⟩ := h
  · omega
  have hik : i * k + k ≤ x.len * k := by rw [← Nat.succ_mul]; exact Nat.mul_le_mul_right _ hi
  have hck : x.len * k ≤ x.cap * k := Nat.mul_le_mul_right _ h2
  have hB : Blk H g e cur.toList := by unfold Blk; rw [Array.toArray_toList]; exact hg
  have hcl : cur.toList.length = x.cap * k := by simpa using hs
  refine ⟨_, ha, ?_⟩
  rw [Addr.add_loc, Addr.add_loc, Nat.zero_add]
  refine ⟨hB.wr (by omega), ⟨?_, h2, Or.inr ⟨g, _, ha, hB.write (new := new) (off := i * k + o) (by omega), ?_, ?_⟩⟩, ⟨by rw [size_setCells]; exact Nat.le_refl _, fun b _ hn => get_setCells_ne (by intro e; exact hn (by simp [Sl.blk, ha, e])) _ _ _⟩⟩
  · rw [splice_length (by omega)]; exact h1
  · simp only [List.size_toArray]; rw [splice_length (by omega)]; exact hcl
  · show (splice (i * k + o) new cur.toList).take _ = _
    rw [splice_length (by omega)]
    have q := splice_take (A := cur.toList) (n := cs.length) (off := i * k + o) (new := new) (by omega) (by omega)
    rw [ht] at q
    exact q.symm

/-- One cell of a block of cells is set; all else of it is as it was. -/
theorem setCell_get {H : Hp} {g o b : Nat} {v : Value} {c : Array Value} {e : TypeId} {fz : Nat × Nat} (h : H[g]? = some (.cells c e fz)) : (Hp.setCell H ⟨g, o, none⟩ v)[g]? = some (.cells (c.setIfInBounds o v) e fz) := get_setCell v h

/-- A record is set. -/
theorem rec_set {H : Hp} {L : Nat} {o : Obj} (o' : Obj) (h : H[L]? = some o) : (H.setIfInBounds L o')[L]? = some o' ∧ Mod (· = L) H (H.setIfInBounds L o') := by
  have hl := lt_of_get h
  refine ⟨by simp [hl], ⟨by simp, fun b _ hn => by rw [Array.getElem?_setIfInBounds_ne (fun e => hn e.symm)]⟩⟩
theorem push_two {H : Hp} {o p : Obj} : (Array.push (Array.push H o) p)[Array.size H + 1]? = some p := by
  have := get_push_new (Array.push H o) p
  simpa using this
theorem Mod.push2 {m : Nat → Prop} (H : Hp) (o p : Obj) : Mod m H (Array.push (Array.push H o) p) := (Mod.push m H o).trans (Mod.push m _ p)

/-- What stands in these blocks is the same. -/
def Same (bs : List Nat) (H H' : Hp) : Prop := ∀ b ∈ bs, H'[b]? = H[b]?
theorem Mod.same {m : Nat → Prop} {H H' : Hp} {bs : List Nat} (h : Mod m H H') (hb : ∀ b ∈ bs, b < H.size ∧ ¬ m b) : Same bs H H' := fun b hx => h.keep b (hb b hx).1 (hb b hx).2
theorem Same.refl (bs : List Nat) (H : Hp) : Same bs H H := fun _ _ => rfl
theorem Same.trans {bs : List Nat} {H H1 H2 : Hp} (h : Same bs H H1) (k : Same bs H1 H2) : Same bs H H2 := fun b hb => (k b hb).trans (h b hb)
theorem Same.cell {bs : List Nat} {H H' : Hp} (h : Same bs H H') {a : Addr} (ha : a.block ∈ bs) : Hp.cell? H' a = Hp.cell? H a := by
  unfold Hp.cell?; rw [h _ ha]
theorem Rows.same {H H' : Hp} {x : Sl} {sz : Nat} {cs : List Value} (h : Rows H x sz cs) (hs : Same x.blk H H') : Rows H' x sz cs :=
  ⟨h.1, h.2.1, fun a ha j v hj => by
    have hb : (a.add j).block = a.block := by unfold Addr.add; split <;> rfl
    rw [hs.cell (by rw [hb]; simp [Sl.blk, ha])]; exact h.2.2.1 a ha j v hj, h.2.2.2⟩
theorem Own.same {H H' : Hp} {x : Sl} {e : TypeId} {sz : Nat} {cs : List Value} (h : Own H x e sz cs) (hs : Same x.blk H H') : Own H' x e sz cs := by
  obtain ⟨h1, h2, h3⟩ := h
  refine ⟨h1, h2, ?_⟩
  rcases h3 with h3 | ⟨g, cur, ha, hg, r⟩
  · exact Or.inl h3
  · exact Or.inr ⟨g, cur, ha, (hs g (by simp [Sl.blk, ha])).trans hg, r⟩
end Go.Proofs

/- RANGES OVER ROWS: what it is that a function goes over a row (generic); two rows that rise made one (plain). -/
set_option linter.all false
set_option linter.constructorNameAsVariable false
namespace Go.Proofs
open Go Go.KC

/-- The function fv goes over the row l, from any heap in which the blocks bs are as they are in H. What it makes for itself lies from its start on, below n1: it may change that at any time, and whoever is told of a round leaves it alone. -/
def Goes {ι : Type} (P : Program) (enc : ι → List Value) (fv : Fv) (l : List ι) (bs : List Nat) (H : Hp) : Prop :=
  ∃ f, fv.fn = .func f ∧ goFn P f = true ∧ (∀ b ∈ bs, b < H.size) ∧
    ∀ (y : Fv) (H0 : Hp) (J : Nat → Nat → Hp → Prop) (Q : Nat → Hp → Prop), Same bs H H0 → H.size ≤ H0.size →
      (∀ n1 H1, H0.size ≤ n1 → n1 ≤ H1.size → Mod (fun _ => False) H0 H1 → J n1 0 H1) →
      (∀ n1 i H1 H2, J n1 i H1 → Mod (fun b => H0.size ≤ b ∧ b < n1) H1 H2 → J n1 i H2) →
      (∀ n1 H1 H2, Q n1 H1 → Mod (fun b => H0.size ≤ b ∧ b < n1) H1 H2 → Q n1 H2) →
      (∀ n1 i H1, J n1 i H1 → Same bs H0 H1) →
      (∀ n1 i (hi : i < l.length) H1, H0.size ≤ n1 → n1 ≤ H1.size → J n1 i H1 → vInv P (.func y.fn y.fi y.ca) (enc l[i]) H1 fun r H2 =>
        Mod (fun b => ¬ (H0.size ≤ b ∧ b < n1)) H1 H2 ∧ ((r = .bool true ∧ J n1 (i + 1) H2) ∨ (r = .bool false ∧ Q n1 H2))) →
      (∀ n1 H1, J n1 l.length H1 → Q n1 H1) →
      SCalls P f (fv.fi.toList ++ [.func y.fn y.fi y.ca] ++ fv.ca.toList) H0 fun _ H1 => ∃ n1, Q n1 H1

section
variable {ι : Type} {P : Program} {enc : ι → List Value} {fv : Fv} {l : List ι} {bs : List Nat} {H : Hp}
theorem Same.mono {bs cs : List Nat} {H H' : Hp} (h : Same bs H H') (hc : ∀ b ∈ cs, b ∈ bs) : Same cs H H' := fun b hb => h b (hc b hb)
theorem Goes.same {H' : Hp} (h : Goes P enc fv l bs H) (hs : Same bs H H') (hz : H.size ≤ H'.size) : Goes P enc fv l bs H' := by
  obtain ⟨f, h1, h2, h3, h4⟩ := h
  exact ⟨f, h1, h2, fun b hb => Nat.lt_of_lt_of_le (h3 b hb) hz, fun y H0 J Q q1 q2 => h4 y H0 J Q (hs.trans q1) (Nat.le_trans hz q2)⟩
theorem Goes.mod {H' : Hp} (h : Goes P enc fv l bs H) {m : Nat → Prop} (hm : Mod m H H') (hb : ∀ b ∈ bs, ¬ m b) : Goes P enc fv l bs H' := by
  have := h
  obtain ⟨f, h1, h2, h3, h4⟩ := this
  exact h.same (Mod.same hm fun b hx => ⟨h3 b hx, hb b hx⟩) hm.size
theorem Goes.wide {cs : List Nat} (h : Goes P enc fv l bs H) (hc : ∀ b ∈ bs, b ∈ cs) (hl : ∀ b ∈ cs, b < H.size) : Goes P enc fv l cs H := by
  obtain ⟨f, h1, h2, h3, h4⟩ := h
  exact ⟨f, h1, h2, hl, fun y H0 J Q q1 q2 q3 q4 q5 q6 q7 q8 => h4 y H0 J Q (q1.mono hc) q2 q3 q4 q5 (fun n1 i H1 hj => (q6 n1 i H1 hj).mono hc) q7 q8⟩

/-- A range over it, from its record on. J: what is so ahead of the i-th round; Ex: where a round leaves it. -/
theorem Goes.range (hg : Goes P enc fv l bs H) {rec : LoopState → Option Code → Obj} {R : Option Code → Hp → Prop} (J : Nat → Nat → Hp → Prop) (Ex : Code → Nat → Hp → Prop)
    (h0 : ∀ n1 H1, H.size + 2 ≤ n1 → n1 ≤ H1.size → Mod (fun _ => False) H H1 → J n1 0 H1)
    (hsame : ∀ n1 i H1, J n1 i H1 → Same bs H H1)
    (stab : ∀ n1 i H1 H2, J n1 i H1 → Mod (fun b => H.size ≤ b ∧ b < n1) H1 H2 → J n1 i H2)
    (stabE : ∀ c n1 H1 H2, Ex c n1 H1 → Mod (fun b => H.size ≤ b ∧ b < n1) H1 H2 → Ex c n1 H2)
    (body : ∀ n1 i (hi : i < l.length) H1, H.size + 2 ≤ n1 → n1 ≤ H1.size → J n1 i H1 → H1[H.size + 1]? = some (rec .ready none) → YCalls P (H.size + 1) (enc l[i]) H1 fun r H2 =>
      Mod (fun b => ¬ (H.size + 2 ≤ b ∧ b < n1)) H1 H2 ∧ ((r = .bool true ∧ J n1 (i + 1) H2 ∧ H2[H.size + 1]? = some (rec .ready none)) ∨ (∃ c, r = .bool false ∧ Ex c n1 H2 ∧ H2[H.size + 1]? = some (rec .done (some c)))))
    (hN : ∀ n1 H1, H.size + 2 ≤ n1 → n1 ≤ H1.size → J n1 l.length H1 → R none H1) (hE : ∀ c n1 H1, H.size + 2 ≤ n1 → Ex c n1 H1 → R (some c) H1) :
    vRg P (.func fv.fn fv.fi fv.ca) (H.size + 1) (Array.push (Array.push H hole) (rec .ready none)) fun H' => ∃ st : LoopState, ∃ pd : Option Code, H'[H.size + 1]? = some (rec st pd) ∧ st ≠ .busy ∧ ∀ H3 : Hp, H3 = H'.setIfInBounds (H.size + 1) (rec .exhausted pd) → R pd H3 := by
  obtain ⟨f, h1, h2, h3, h4⟩ := hg
  have sz : (Array.push (Array.push H hole) (rec .ready none)).size = H.size + 2 := by simp
  have m2 : Mod (fun _ => False) H (Array.push (Array.push H hole) (rec .ready none)) := Mod.push2 _ _ _
  unfold vRg
  rw [h1]
  simp only [h2]
  have hr0 : (Array.push (Array.push H hole) (rec .ready none))[H.size + 1]? = some (rec .ready none) := push_two
  generalize Array.push (Array.push H hole) (rec .ready none) = H0 at *
  refine (h4 ⟨.yield (H.size + 1), #[], #[]⟩ H0 (fun n1 i H1 => (H.size + 2 ≤ n1 ∧ n1 ≤ H1.size) ∧ J n1 i H1 ∧ H1[H.size + 1]? = some (rec .ready none))
    (fun n1 H1 => (H.size + 2 ≤ n1 ∧ n1 ≤ H1.size) ∧ ((J n1 l.length H1 ∧ H1[H.size + 1]? = some (rec .ready none)) ∨ ∃ c, Ex c n1 H1 ∧ H1[H.size + 1]? = some (rec .done (some c))))
    (Mod.same m2 fun b hb => ⟨h3 b hb, fun e => e⟩) m2.size ?_ ?_ ?_ ?_ ?_ ?_).mono ?_
  · intro n1 H1 hn hn' hm
    exact ⟨⟨by omega, hn'⟩, h0 n1 H1 (by omega) hn' (m2.trans hm), hm.get hr0 fun e => e⟩
  · rintro n1 i H1 H2 ⟨q1, q2, q3⟩ hm
    have hsz := hm.size
    exact ⟨⟨q1.1, by omega⟩, stab n1 i H1 H2 q2 (hm.mono fun b _ hb => ⟨by omega, hb.2⟩), hm.get q3 (by omega)⟩
  · rintro n1 H1 H2 ⟨q0, q⟩ hm
    have hsz := hm.size
    refine ⟨⟨q0.1, by omega⟩, ?_⟩
    rcases q with ⟨q1, q2⟩ | ⟨c, q1, q2⟩
    · exact Or.inl ⟨stab n1 _ H1 H2 q1 (hm.mono fun b _ hb => ⟨by omega, hb.2⟩), hm.get q2 (by omega)⟩
    · exact Or.inr ⟨c, stabE c n1 H1 H2 q1 (hm.mono fun b _ hb => ⟨by omega, hb.2⟩), hm.get q2 (by omega)⟩
  · rintro n1 i H1 ⟨q1, q2, q3⟩
    intro b hb
    rw [hsame n1 i H1 q2 b hb]
    exact (Mod.same (bs := bs) m2 (fun b hb => ⟨h3 b hb, fun e => e⟩) b hb).symm
  · rintro n1 i hi H1 hn hn' ⟨q1, q2, q3⟩
    refine (show vInv P (.func (.yield (H.size + 1)) #[] #[]) (enc l[i]) H1 _ from (body n1 i hi H1 q1.1 hn' q2 q3).mono ?_)
    rintro r H2 ⟨qm, q⟩
    have hsz := qm.size
    have q1' : H.size + 2 ≤ n1 ∧ n1 ≤ H2.size := ⟨q1.1, by omega⟩
    refine ⟨qm.mono fun b _ hb => by rw [sz]; exact hb, ?_⟩
    rcases q with ⟨e, a, b⟩ | ⟨c, e, a, b⟩
    · exact Or.inl ⟨e, q1', a, b⟩
    · exact Or.inr ⟨e, q1', Or.inr ⟨c, a, b⟩⟩
  · rintro n1 H1 ⟨q1, q2, q3⟩
    exact ⟨q1, Or.inl ⟨q2, q3⟩⟩
  · rintro r H1 ⟨n1, q0, q⟩
    rcases q with ⟨q1, q2⟩ | ⟨c, q1, q2⟩
    · refine ⟨.ready, none, q2, by simp, fun H3 e => ?_⟩
      subst e
      exact hN n1 _ q0.1 (by simp; exact q0.2) (stab n1 _ H1 _ q1 ((rec_set _ q2).2.mono fun b _ hb => by have : b = H.size + 1 := hb; omega))
    · refine ⟨.done, some c, q2, by simp, fun H3 e => ?_⟩
      subst e
      exact hE c n1 _ q0.1 (stabE c n1 H1 _ q1 ((rec_set _ q2).2.mono fun b _ hb => by have : b = H.size + 1 := hb; omega))
end

section
variable {ι : Type} {P : Program} {enc : ι → List Value} {fv : Fv} {l : List ι} {bs : List Nat} {H : Hp}
/-- A range over it whose rounds change the blocks W alone; S: what is so of the blocks that there were, ahead of the i-th round. -/
theorem Goes.range' (hg : Goes P enc fv l bs H) {rec : LoopState → Option Code → Obj} {R : Option Code → Hp → Prop} (W : List Nat) (S : Nat → Hp → Prop) (Ex : Code → Hp → Prop) (hW : ∀ b ∈ W, b < H.size ∧ b ∉ bs)
    (hS : ∀ i H1 H2, S i H1 → Mod (fun b => H.size ≤ b) H1 H2 → S i H2) (hE' : ∀ c H1 H2, Ex c H1 → Mod (fun b => H.size ≤ b) H1 H2 → Ex c H2) (h0 : S 0 H)
    (body : ∀ i (hi : i < l.length) H1, Mod (fun b => b ∈ W ∨ H.size ≤ b) H H1 → S i H1 → H1[H.size + 1]? = some (rec .ready none) → YCalls P (H.size + 1) (enc l[i]) H1 fun r H2 =>
      Mod (fun b => b ∈ W ∨ b = H.size + 1) H1 H2 ∧ ((r = .bool true ∧ S (i + 1) H2 ∧ H2[H.size + 1]? = some (rec .ready none)) ∨ (∃ c, r = .bool false ∧ Ex c H2 ∧ H2[H.size + 1]? = some (rec .done (some c)))))
    (hN : ∀ H1, Mod (fun b => b ∈ W ∨ H.size ≤ b) H H1 → S l.length H1 → R none H1) (hE : ∀ c H1, Mod (fun b => b ∈ W ∨ H.size ≤ b) H H1 → Ex c H1 → R (some c) H1) :
    vRg P (.func fv.fn fv.fi fv.ca) (H.size + 1) (Array.push (Array.push H hole) (rec .ready none)) fun H' => ∃ st : LoopState, ∃ pd : Option Code, H'[H.size + 1]? = some (rec st pd) ∧ st ≠ .busy ∧ ∀ H3 : Hp, H3 = H'.setIfInBounds (H.size + 1) (rec .exhausted pd) → R pd H3 := by
  have lt : ∀ b ∈ bs, b < H.size := by obtain ⟨_, _, _, h, _⟩ := hg; exact h
  refine hg.range (rec := rec) (fun _ i H1 => Mod (fun b => b ∈ W ∨ H.size ≤ b) H H1 ∧ S i H1) (fun c _ H1 => Mod (fun b => b ∈ W ∨ H.size ≤ b) H H1 ∧ Ex c H1) ?_ ?_ ?_ ?_ ?_ (fun n H1 _ _ h => hN H1 h.1 h.2) (fun c n H1 _ h => hE c H1 h.1 h.2)
  · intro n H1 _ _ m
    exact ⟨m.mono fun _ _ e => e.elim, hS 0 H H1 h0 (m.mono fun _ _ e => e.elim)⟩
  · rintro n i H1 ⟨m, _⟩
    exact Mod.same m fun b hb => ⟨lt b hb, fun h => h.elim (fun h => (hW b h).2 hb) (fun h => by have := lt b hb; omega)⟩
  · rintro n i H1 H2 ⟨m, s⟩ m2
    exact ⟨m.trans (m2.mono fun b _ h => Or.inr h.1), hS i H1 H2 s (m2.mono fun b _ h => h.1)⟩
  · rintro c n H1 H2 ⟨m, s⟩ m2
    exact ⟨m.trans (m2.mono fun b _ h => Or.inr h.1), hE' c H1 H2 s (m2.mono fun b _ h => h.1)⟩
  · rintro n i hi H1 hn hn' ⟨m, s⟩ hr
    refine (body i hi H1 m s hr).mono ?_
    rintro r H2 ⟨m2, h⟩
    have m3 : Mod (fun b => b ∈ W ∨ H.size ≤ b) H H2 := m.trans (m2.mono fun b _ h => h.imp id fun h => by omega)
    refine ⟨m2.mono fun b _ h hb => h.elim (fun h => by have := (hW b h).1; omega) (fun h => by omega), ?_⟩
    rcases h with ⟨rfl, h1, h2⟩ | ⟨c, rfl, h1, h2⟩
    · exact Or.inl ⟨rfl, ⟨m3, h1⟩, h2⟩
    · exact Or.inr ⟨c, rfl, ⟨m3, h1⟩, h2⟩
end

/-! ### what an act leaves -/
theorem push_facts {H H' : Hp} {o : Obj} (e : H' = Array.push H o) : H'[H.size]? = some o ∧ Mod (fun _ => False) H H' ∧ H'.size = H.size + 1 := by
  subst e; exact ⟨get_push_new _ _, Mod.push _ _ _, by simp⟩
theorem cell_at {H : Hp} {b : Nat} {v : Value} {T : TypeId} (h : H[b]? = some (.cells #[v] T (0, 0))) : Hp.cell? H ⟨b, 0, none⟩ = some v := by rw [cell_of h]; rfl
theorem wr_at {H : Hp} {b : Nat} {v : Value} {T : TypeId} (h : H[b]? = some (.cells #[v] T (0, 0))) : WrAt H ⟨b, 0, none⟩ 1 := wr_one h (by simp)
theorem set_at {H : Hp} {b : Nat} {v w : Value} {T : TypeId} (h : H[b]? = some (.cells #[v] T (0, 0))) : (Hp.setCell H ⟨b, 0, none⟩ w)[b]? = some (.cells #[w] T (0, 0)) := by
  have := get_setCell (o := 0) w h; simpa using this
theorem mod_at (H : Hp) (b : Nat) (w : Value) : Mod (· = b) H (Hp.setCell H ⟨b, 0, none⟩ w) := Mod.setCell H _ _ rfl
theorem spush {H : Hp} {o : Obj} : (Array.push H o).size = H.size + 1 := by simp
theorem set_facts {H H' : Hp} {b : Nat} {v w : Value} {T : TypeId} (h : H[b]? = some (.cells #[v] T (0, 0))) (e : H' = Hp.setCell H ⟨b, 0, none⟩ w) : H'[b]? = some (.cells #[w] T (0, 0)) ∧ Mod (· = b) H H' := by
  subst e; exact ⟨set_at h, mod_at _ _ _⟩
theorem rec_facts {H H' : Hp} {L : Nat} {o o' : Obj} (h : H[L]? = some o) (e : H' = H.setIfInBounds L o') : H'[L]? = some o' ∧ Mod (· = L) H H' := by
  subst e; exact rec_set o' h
theorem hole_facts {H H' : Hp} {n : Nat} (e : H' = holes H n) : Mod (fun _ => False) H H' ∧ H'.size = H.size + n := by
  subst e; exact ⟨Mod.holes _ _ _, size_holes _ _⟩
/-- A range's end where no round left it; where a round returned. -/
theorem jump_none {A B D : Prop} (h : A) : ((none : Option Code) = none → A) ∧ ((none : Option Code) = some .ret → B) ∧ True ∧ ((none : Option Code) = none ∨ D) :=
  ⟨fun _ => h, fun e => (by cases e), trivial, Or.inl rfl⟩
theorem jump_ret {A B D : Prop} (h : B) : ((some .ret : Option Code) = none → A) ∧ ((some .ret : Option Code) = some .ret → B) ∧ True ∧ ((some .ret : Option Code) = none ∨ (some .ret : Option Code) = some .ret ∨ D) :=
  ⟨fun e => (by cases e), fun _ => h, trivial, Or.inr (Or.inl rfl)⟩
theorem drop_cons {ι : Type} {l r : List ι} {j : Nat} {q : ι} (h : l.drop j = q :: r) : ∃ hj : j < l.length, l[j] = q ∧ l.drop (j + 1) = r := by
  have hj : j < l.length := by
    rcases Nat.lt_or_ge j l.length with c | c
    · exact c
    · rw [List.drop_eq_nil_of_le c] at h; cases h
  rw [List.drop_eq_getElem_cons hj] at h
  exact ⟨hj, (List.cons.inj h).1, (List.cons.inj h).2⟩

/-- From the j-th on a row is r. -/
def AtL {ι : Type} (m : List ι) (j : Nat) (r : List ι) : Prop := j ≤ m.length ∧ m.drop j = r
theorem AtL.cons {ι : Type} {m r : List ι} {j : Nat} {q : ι} (h : AtL m j (q :: r)) : ∃ hj : j < m.length, m[j] = q ∧ AtL m (j + 1) r := by
  obtain ⟨hj, e, hd⟩ := drop_cons h.2
  exact ⟨hj, e, hj, hd⟩
theorem AtL.nil {ι : Type} {m : List ι} {j : Nat} (h : AtL m j []) : j = m.length := by
  have := List.drop_eq_nil_iff.1 h.2
  have := h.1
  omega

/-! ### variables in cells -/
/-- The cells of C are as C says, of P is so; nothing below base changed since H0. -/
structure Cs (base : Nat) (H0 : Hp) (bs : List Nat) (P : Hp → Prop) (C : List (Nat × Value × TypeId)) (H : Hp) : Prop where
  blk : C.map (·.1) = bs
  cell : ∀ (i : Nat) x, C[i]? = some x → H[x.1]? = some (.cells #[x.2.1] x.2.2 (0, 0))
  inv : P H
  fr : Mod (fun q => base ≤ q) H0 H
/-- The variables are apart, and lie in [base, N); P looks at others below N alone. -/
structure CsS (N base : Nat) (bs : List Nat) (P : Hp → Prop) : Prop where
  nd : bs.Nodup
  lt : ∀ b ∈ bs, base ≤ b ∧ b < N
  stab : ∀ (H H' : Hp) (μ : Nat → Prop), P H → Mod μ H H' → (∀ q, q < N → q ∉ bs → ¬ μ q) → P H'
section
variable {N base : Nat} {H0 H H' : Hp} {bs : List Nat} {P : Hp → Prop} {C : List (Nat × Value × TypeId)}
theorem Cs.get (s : Cs base H0 bs P C H) (i : Nat) {b : Nat} {v : Value} {T : TypeId} (h : C[i]? = some (b, v, T)) : H[b]? = some (.cells #[v] T (0, 0)) := s.cell i _ h
theorem Cs.at (s : Cs base H0 bs P C H) (i : Nat) {b : Nat} {v : Value} {T : TypeId} (h : C[i]? = some (b, v, T)) : Hp.cell? H ⟨b, 0, none⟩ = some v := cell_at (s.get i h)
theorem Cs.wr (s : Cs base H0 bs P C H) (i : Nat) {b : Nat} {v : Value} {T : TypeId} (h : C[i]? = some (b, v, T)) : WrAt H ⟨b, 0, none⟩ 1 := wr_at (s.get i h)
theorem Cs.mem (s : Cs base H0 bs P C H) {i : Nat} {x : Nat × Value × TypeId} (h : C[i]? = some x) : x.1 ∈ bs := by
  rw [← s.blk]; exact List.mem_map_of_mem (List.mem_of_getElem? h)
theorem Cs.keep {μ : Nat → Prop} (s : Cs base H0 bs P C H) (t : CsS N base bs P) (m : Mod μ H H') (h : ∀ q, q < N → ¬ μ q) (hb : ∀ q, μ q → base ≤ q) : Cs base H0 bs P C H' :=
  ⟨s.blk, fun i x hx => m.get (s.cell i x hx) (h _ (t.lt _ (s.mem hx)).2), t.stab _ _ μ s.inv m fun q hq _ => h q hq, s.fr.trans (m.mono fun q _ hq => hb q hq)⟩
theorem Cs.mod (s : Cs base H0 bs P C H) (t : CsS N base bs P) (m : Mod (fun _ => False) H H') : Cs base H0 bs P C H' := s.keep t m (fun _ _ e => e) fun _ e => e.elim
theorem Cs.up {n : Nat} (s : Cs base H0 bs P C H) (t : CsS N base bs P) (hb : base ≤ n) (hn : N ≤ n) (m : Mod (fun q => n ≤ q) H H') : Cs base H0 bs P C H' := s.keep t m (fun _ _ e => by omega) fun _ e => by omega
theorem Cs.at' {n : Nat} (s : Cs base H0 bs P C H) (t : CsS N base bs P) (hb : base ≤ n) (hn : N ≤ n) (m : Mod (· = n) H H') : Cs base H0 bs P C H' := s.keep t m (fun _ _ e => by omega) fun _ e => by omega
theorem Cs.set (s : Cs base H0 bs P C H) (t : CsS N base bs P) (i : Nat) {b : Nat} {v w : Value} {T : TypeId} (hi : C[i]? = some (b, v, T)) (e : H' = Hp.setCell H ⟨b, 0, none⟩ w) : Cs base H0 bs P (C.set i (b, w, T)) H' ∧ Mod (· = b) H H' := by
  obtain ⟨q, m⟩ := set_facts (s.get i hi) e
  have hbm := s.mem hi
  have hlt := t.lt b hbm
  refine ⟨⟨?_, fun j x hx => ?_, t.stab _ _ _ s.inv m fun q _ hq h => hq (by rw [h]; exact hbm), s.fr.trans (m.mono fun q _ hq => by have hq : q = b := hq; omega)⟩, m⟩
  · rw [List.map_set]
    have : C.map (·.1) = bs := s.blk
    rw [this]
    apply List.ext_getElem?
    intro k
    rw [List.getElem?_set]
    split
    · rename_i hk
      subst hk
      have : bs[i]? = some b := by rw [← s.blk, List.getElem?_map, hi]; rfl
      rw [if_pos (List.getElem?_eq_some_iff.1 this).1, this]
    · rfl
  · rw [List.getElem?_set] at hx
    split at hx
    · rename_i hk
      split at hx
      · cases hx; exact q
      · cases hx
    · rename_i hk
      refine m.get (s.cell j x hx) fun e => hk ?_
      have h1 : bs[i]? = some b := by rw [← s.blk, List.getElem?_map, hi]; rfl
      have h2 : bs[j]? = some b := by rw [← s.blk, List.getElem?_map, hx]; exact congrArg some e
      obtain ⟨g1, g2⟩ := List.getElem?_eq_some_iff.1 h1
      obtain ⟨g3, g4⟩ := List.getElem?_eq_some_iff.1 h2
      have nd := List.pairwise_iff_getElem.1 t.nd
      rcases Nat.lt_trichotomy i j with c | c | c
      · exact (nd i j g1 g3 c (g2.trans g4.symm)).elim
      · exact c
      · exact (nd j i g3 g1 c (g4.trans g2.symm)).elim
/-- What is asked where a variable that is a result is told. -/
theorem Cs.ret (s : Cs base H0 bs P C H) (t : CsS N base bs P) (hb : base = H0.size) (i : Nat) {b : Nat} {v w : Value} {T : TypeId} (hi : C[i]? = some (b, v, T)) {Q : Hp → Prop} (e : H' = Hp.setCell H ⟨b, 0, none⟩ w) (hQ : Hp.cell? H' ⟨b, 0, none⟩ = some w → Mod (fun _ => False) H0 H' → Q H') : Q H' := by
  obtain ⟨q, m⟩ := set_facts (s.get i hi) e
  have hlt := t.lt b (s.mem hi)
  exact hQ (cell_at q) (Mod.fresh (s.fr.trans (m.mono fun q _ hq => by have hq : q = b := hq; omega)) fun q hq => by rw [← hb]; exact hq)
end

structure V (N base : Nat) (H0 : Hp) (bs : List Nat) (P : Hp → Prop) (C : List (Nat × Value × TypeId)) (H : Hp) : Prop where
  s : Cs base H0 bs P C H
  t : CsS N base bs P
  le : N ≤ H.size
  b0 : base = H0.size
  bN : base ≤ N
section
variable {N base : Nat} {H0 H H' : Hp} {bs : List Nat} {P : Hp → Prop} {C : List (Nat × Value × TypeId)}
theorem V.init (H : Hp) : V H.size H.size H [] (fun _ => True) [] H :=
  ⟨⟨rfl, fun i x h => by simp at h, trivial, Mod.refl _ _⟩, ⟨List.nodup_nil, fun b hb => by simp at hb, fun _ _ _ _ _ _ => trivial⟩, Nat.le_refl _, rfl, Nat.le_refl _⟩
theorem V.mod (v : V N base H0 bs P C H) (m : Mod (fun _ => False) H H') : V N base H0 bs P C H' := ⟨v.s.mod v.t m, v.t, Nat.le_trans v.le m.size, v.b0, v.bN⟩
theorem V.keep {μ : Nat → Prop} (v : V N base H0 bs P C H) (m : Mod μ H H') (h : ∀ q, μ q → N ≤ q) : V N base H0 bs P C H' :=
  ⟨v.s.keep v.t m (fun q hq hm => by have := h q hm; omega) fun q hm => by have := h q hm; have := v.bN; omega, v.t, Nat.le_trans v.le m.size, v.b0, v.bN⟩
theorem V.push (v : V N base H0 bs P C H) {b : Nat} {x : Value} {T : TypeId} (hb : b = H.size) (e : H' = Array.push H (.cells #[x] T)) : V (b + 1) base H0 (bs ++ [b]) P (C ++ [(b, x, T)]) H' := by
  obtain ⟨q, m, sz⟩ := push_facts e
  rw [← hb] at q
  have hle := v.le
  have hbN := v.bN
  have s1 := v.s.mod v.t m
  refine ⟨⟨by rw [List.map_append, s1.blk]; rfl, fun i y hy => ?_, s1.inv, s1.fr⟩, ⟨?_, fun c hc => ?_, fun Ha Hb μ hp hm hq => v.t.stab Ha Hb μ hp hm fun q hq1 hq2 => hq q (by omega) ?_⟩, by omega, v.b0, by omega⟩
  · rcases Nat.lt_or_ge i C.length with c | c
    · rw [List.getElem?_append_left c] at hy; exact s1.cell i y hy
    · rw [List.getElem?_append_right c] at hy
      have : i - C.length = 0 := by
        rcases Nat.eq_zero_or_pos (i - C.length) with h | h
        · exact h
        · rw [List.getElem?_eq_none (by simp; omega)] at hy; cases hy
      rw [this] at hy
      simp only [List.getElem?_cons_zero, Option.some.injEq] at hy
      subst hy
      exact q
  · rw [List.nodup_append]
    refine ⟨v.t.nd, by simp, fun a ha c hc => ?_⟩
    simp only [List.mem_singleton] at hc
    have := (v.t.lt a ha).2
    omega
  · rcases List.mem_append.1 hc with hc | hc
    · have := v.t.lt c hc; omega
    · simp only [List.mem_singleton] at hc; omega
  · simp only [List.mem_append, List.mem_singleton]
    rintro (h | h)
    · exact hq2 h
    · omega
/-- More is known: of blocks behind the variables. -/
theorem V.add (v : V N base H0 bs P C H) {n : Nat} {P' : Hp → Prop} (h : P' H) (hN : N ≤ n) (hn : n ≤ H.size) (st : ∀ (Ha Hb : Hp) (μ : Nat → Prop), P' Ha → Mod μ Ha Hb → (∀ q, N ≤ q → q < n → ¬ μ q) → P' Hb) : V n base H0 bs (fun H => P H ∧ P' H) C H := by
  have hbN := v.bN
  refine ⟨⟨v.s.blk, v.s.cell, ⟨v.s.inv, h⟩, v.s.fr⟩, ⟨v.t.nd, fun c hc => by have := v.t.lt c hc; omega, fun Ha Hb μ hp hm hq => ⟨v.t.stab Ha Hb μ hp.1 hm fun q h1 h2 => hq q (by omega) h2, st Ha Hb μ hp.2 hm fun q h1 h2 => hq q h2 fun hb => ?_⟩⟩, hn, v.b0, by omega⟩
  have := (v.t.lt q hb).2
  omega
theorem V.set (v : V N base H0 bs P C H) (i : Nat) {b : Nat} {x w : Value} {T : TypeId} (hi : C[i]? = some (b, x, T)) (e : H' = Hp.setCell H ⟨b, 0, none⟩ w) : V N base H0 bs P (C.set i (b, w, T)) H' ∧ Mod (· = b) H H' := by
  obtain ⟨s, m⟩ := v.s.set v.t i hi e
  exact ⟨⟨s, v.t, Nat.le_trans v.le m.size, v.b0, v.bN⟩, m⟩
theorem V.at (v : V N base H0 bs P C H) (i : Nat) {b : Nat} {x : Value} {T : TypeId} (h : C[i]? = some (b, x, T)) : Hp.cell? H ⟨b, 0, none⟩ = some x := v.s.at i h
theorem V.wr (v : V N base H0 bs P C H) (i : Nat) {b : Nat} {x : Value} {T : TypeId} (h : C[i]? = some (b, x, T)) : WrAt H ⟨b, 0, none⟩ 1 := v.s.wr i h
theorem V.lt (v : V N base H0 bs P C H) (i : Nat) {b : Nat} {x : Value} {T : TypeId} (h : C[i]? = some (b, x, T)) : b < N ∧ base ≤ b := ⟨(v.t.lt b (v.s.mem h)).2, (v.t.lt b (v.s.mem h)).1⟩
/-- A result that lies in a variable is told. -/
theorem V.ret (v : V N base H0 bs P C H) (i : Nat) {b : Nat} {x : Value} {T : TypeId} (hi : C[i]? = some (b, x, T)) {Q : Value → Hp → Prop} {y : Bool} (hw : y = true) (hQ : ∀ H', Mod (fun _ => False) H0 H' → Q (.bool true) H') :
    WrAt H (Addr.mk b 0 none) 1 ∧ ∀ H1 : Hp, H1 = (Hp.setCell H (Addr.mk b 0 none) (.bool y)) → ∃ x : Bool, Hp.cell? H1 (Addr.mk b 0 none) = some (.bool x) ∧ Q (.bool x) H1 := by
  subst hw
  refine ⟨v.wr i hi, fun H1 e => ?_⟩
  exact v.s.ret (Q := fun H1 => ∃ x : Bool, Hp.cell? H1 (Addr.mk b 0 none) = some (.bool x) ∧ Q (.bool x) H1) v.t v.b0 i hi e fun h1 h2 => ⟨true, h1, hQ _ h2⟩
theorem V.fresh (v : V N base H0 bs P C H) : Mod (fun _ => False) H0 H := Mod.fresh v.s.fr fun q hq => by rw [← v.b0]; exact hq
end
/-- Jumps out of a range that a round may leave. -/
theorem jump1_none {A B C D : Prop} {n : Nat} (h : A) : ((none : Option Code) = none → A) ∧ ((none : Option Code) = some .ret → B) ∧ (((none : Option Code) = some (.exit n) → C) ∧ True) ∧ ((none : Option Code) = none ∨ D) :=
  ⟨fun _ => h, fun e => (by cases e), ⟨fun e => (by cases e), trivial⟩, Or.inl rfl⟩
theorem jump1_exit {A B C : Prop} {n : Nat} (h : C) : ((some (.exit n) : Option Code) = none → A) ∧ ((some (.exit n) : Option Code) = some .ret → B) ∧ (((some (.exit n) : Option Code) = some (.exit n) → C) ∧ True) ∧
    ((some (.exit n) : Option Code) = none ∨ (some (.exit n) : Option Code) = some .ret ∨ ∃ i ∈ [n], (some (.exit n) : Option Code) = some (.exit i)) :=
  ⟨fun e => (by cases e), fun e => (by cases e), ⟨fun _ => h, trivial⟩, Or.inr (Or.inr ⟨n, by simp, rfl⟩)⟩

/-! ### append of one element -/
theorem app_one {P : Program} {T e : TypeId} {k gv : Nat} {H : Hp} {x : Sl} {cs p : List Value} {K : Sl → Hp → Prop} (hE : El P T e k) (ho : Own H x e k cs) (hv : Blk H gv e p) (hp : p.length = k) (h1 : allOne p = true) (hl : x.len ≤ 1000000)
    (hK : ∀ x' H', Own H' x' e k (cs ++ p) → x'.len = x.len + 1 → Mod (· ∈ x.blk) H H' → (∀ b ∈ x'.blk, b ∈ x.blk ∨ b = H.size) → K x' H') : vApp P T x.a x.len x.cap (.slice (some ⟨gv, 0, none⟩) 1 1) H K := by
  obtain ⟨hu, ⟨ti, z, hi, hz, hsz, hby, hby2, hzs, hz1⟩, hkp⟩ := hE
  refine Own.app (e := e) (ti := ti) (z := z) (cs := cs) (news := p) (by rw [hsz]; exact ho) hu hi hz (by rw [hzs, hsz]) hby (by rw [hsz]; exact src_one hv hp) (by rw [hsz, hp]; simp [srcLen]) h1 ?_ ?_
  · simp only [srcLen]
    have : (x.len + 1) * ti.bytes ≤ (x.len + 1) * 1000 := Nat.mul_le_mul_left _ hby2
    omega
  · intro x' H' q1 q2 q3 q4 _
    rw [hsz] at q1
    exact hK x' H' q1 q2 q3 q4

/-- A slice without its first element. -/
theorem Rows.tail {H : Hp} {x : Sl} {k : Nat} {p cs : List Value} (h : Rows H x k (p ++ cs)) (hp : p.length = k) (hx : 1 ≤ x.len) : Rows H ⟨cutA x.a x.cap 1 k, x.len - 1, x.cap - 1⟩ k cs := by
  have := h.drop (n := 1) hx
  rw [Nat.one_mul, List.drop_left' hp] at this
  exact this

/-! ### two rows made one -/
section
variable {κ α : Type} [KO κ] [DecidableEq κ]
def mergeL : List (κ × α) → List (κ × α) → List (κ × α)
  | [], r => r
  | p :: la, [] => p :: la
  | p :: la, q :: r => if KO.lt q.1 p.1 then q :: mergeL (p :: la) r else if q.1 = p.1 then (p.1, q.2) :: mergeL la r else p :: mergeL la (q :: r)
termination_by la r => la.length + r.length

theorem mergeL_nil (r : List (κ × α)) : mergeL [] r = r := by rw [mergeL.eq_def]
theorem mergeL_none (la : List (κ × α)) : mergeL la [] = la := by cases la <;> rw [mergeL.eq_def]
theorem mergeL_lt {p q : κ × α} {la r : List (κ × α)} (h : KO.lt q.1 p.1) : mergeL (p :: la) (q :: r) = q :: mergeL (p :: la) r := by rw [mergeL.eq_def]; simp [h]
theorem mergeL_eq {p q : κ × α} {la r : List (κ × α)} (h : q.1 = p.1) : mergeL (p :: la) (q :: r) = (p.1, q.2) :: mergeL la r := by
  rw [mergeL.eq_def]; simp [h, KO.irr]
theorem mergeL_gt {p q : κ × α} {la r : List (κ × α)} (h : ¬ KO.lt q.1 p.1) (h' : q.1 ≠ p.1) : mergeL (p :: la) (q :: r) = p :: mergeL la (q :: r) := by
  rw [mergeL.eq_def]; simp [h, h']

/-- Of two rows that rise: it rises; what it has is what the second one has, and of the first one whose keys the second one has not. -/
theorem mergeL_spec (la lb : List (κ × α)) (ha : Rise la) (hb : Rise lb) : Rise (mergeL la lb) ∧ ∀ k v, (k, v) ∈ mergeL la lb ↔ ((k, v) ∈ lb ∨ ((k, v) ∈ la ∧ ∀ w, (k, w) ∉ lb)) := by
  fun_induction mergeL la lb with
  | case1 r => exact ⟨hb, fun k v => by simp⟩
  | case2 p la => exact ⟨ha, fun k v => by simp⟩
  | case3 p la q r h ih =>
    obtain ⟨i1, i2⟩ := ih ha hb.tail
    have key : ∀ j w, (j, w) ∈ mergeL (p :: la) r → KO.lt q.1 j := fun j w hm => by
      rcases (i2 j w).1 hm with h1 | ⟨h1, _⟩
      · exact hb.head h1
      · rcases List.mem_cons.1 h1 with h1 | h1
        · rw [← congrArg Prod.fst h1] at h; exact h
        · exact KO.trans _ _ _ h (ha.head h1)
    refine ⟨Rise.cons i1 fun s hs => key s.1 s.2 hs, fun k v => ?_⟩
    rw [List.mem_cons, i2 k v]
    have hqa : ∀ w, (q.1, w) ∉ p :: la := fun w hm => by
      rcases List.mem_cons.1 hm with h1 | h1
      · have := congrArg Prod.fst h1; exact KO.ne h this
      · exact KO.irr _ (KO.trans _ _ _ h (Rise.head (q := (q.1, w)) ha h1))
    constructor
    · rintro (h1 | h1 | ⟨h1, h2⟩)
      · exact Or.inl (by rw [h1]; simp)
      · exact Or.inl (List.mem_cons_of_mem _ h1)
      · refine Or.inr ⟨h1, fun w hm => ?_⟩
        rcases List.mem_cons.1 hm with h3 | h3
        · have e := congrArg Prod.fst h3; dsimp only at e; subst e; exact hqa v h1
        · exact h2 w h3
    · rintro (h1 | ⟨h1, h2⟩)
      · rcases List.mem_cons.1 h1 with h1 | h1
        · exact Or.inl h1
        · exact Or.inr (Or.inl h1)
      · exact Or.inr (Or.inr ⟨h1, fun w hm => h2 w (List.mem_cons_of_mem _ hm)⟩)
  | case4 p la q r h h' ih =>
    obtain ⟨i1, i2⟩ := ih ha.tail hb.tail
    have key : ∀ j w, (j, w) ∈ mergeL la r → KO.lt p.1 j := fun j w hm => by
      rcases (i2 j w).1 hm with h1 | ⟨h1, _⟩
      · rw [← h']; exact hb.head h1
      · exact ha.head h1
    refine ⟨Rise.cons i1 fun s hs => key s.1 s.2 hs, fun k v => ?_⟩
    rw [List.mem_cons, i2 k v]
    constructor
    · rintro (h1 | h1 | ⟨h1, h2⟩)
      · exact Or.inl (by rw [h1, ← h']; simp)
      · exact Or.inl (List.mem_cons_of_mem _ h1)
      · refine Or.inr ⟨List.mem_cons_of_mem _ h1, fun w hm => ?_⟩
        rcases List.mem_cons.1 hm with h3 | h3
        · have e := congrArg Prod.fst h3; dsimp only at e; rw [h'] at e; subst e; exact KO.irr _ (Rise.head (p := p) (q := (p.1, v)) ha h1)
        · exact h2 w h3
    · rintro (h1 | ⟨h1, h2⟩)
      · rcases List.mem_cons.1 h1 with h1 | h1
        · exact Or.inl (by rw [← h', ← h1])
        · exact Or.inr (Or.inl h1)
      · rcases List.mem_cons.1 h1 with h1 | h1
        · exact (h2 q.2 (by have := congrArg Prod.fst h1; dsimp only at this; rw [this, ← h']; simp)).elim
        · exact Or.inr (Or.inr ⟨h1, fun w hm => h2 w (List.mem_cons_of_mem _ hm)⟩)
  | case5 p la q r h h' ih =>
    obtain ⟨i1, i2⟩ := ih ha.tail hb
    have hpq : KO.lt p.1 q.1 := by
      rcases KO.tri p.1 q.1 with c | c | c
      · exact c
      · exact (h' c.symm).elim
      · exact (h c).elim
    have key : ∀ j w, (j, w) ∈ mergeL la (q :: r) → KO.lt p.1 j := fun j w hm => by
      rcases (i2 j w).1 hm with h1 | ⟨h1, _⟩
      · rcases List.mem_cons.1 h1 with h1 | h1
        · have := congrArg Prod.fst h1; dsimp only at this; rw [this]; exact hpq
        · exact KO.trans _ _ _ hpq (hb.head h1)
      · exact ha.head h1
    have hpb : ∀ w, (p.1, w) ∉ q :: r := fun w hm => by
      rcases List.mem_cons.1 hm with h1 | h1
      · have := congrArg Prod.fst h1; dsimp only at this; exact h' this.symm
      · exact KO.irr _ (KO.trans _ _ _ hpq (Rise.head (q := (p.1, w)) hb h1))
    refine ⟨Rise.cons i1 fun s hs => key s.1 s.2 hs, fun k v => ?_⟩
    rw [List.mem_cons, i2 k v]
    constructor
    · rintro (h1 | h1 | ⟨h1, h2⟩)
      · have e := congrArg Prod.fst h1; dsimp only at e
        exact Or.inr ⟨by rw [h1]; simp, fun w => by rw [e]; exact hpb w⟩
      · exact Or.inl h1
      · exact Or.inr ⟨List.mem_cons_of_mem _ h1, h2⟩
    · rintro (h1 | ⟨h1, h2⟩)
      · exact Or.inr (Or.inl h1)
      · rcases List.mem_cons.1 h1 with h1 | h1
        · exact Or.inl h1
        · exact Or.inr (Or.inr ⟨h1, h2⟩)
theorem mergeL_self {l : List (κ × α)} (h : Rise l) : mergeL l l = l := by
  obtain ⟨h1, h2⟩ := mergeL_spec l l h h
  refine h1.ext h fun p => ?_
  rw [h2 p.1 p.2]
  exact ⟨fun h => h.elim id fun h => h.1, Or.inl⟩
def hasKey (l : List (κ × α)) (k : κ) : Bool := l.any fun q => decide (q.1 = k)
theorem mergeL_count (la lb : List (κ × α)) (ha : Rise la) (hb : Rise lb) : (mergeL la lb).length = lb.length + (la.filter fun p => !hasKey lb p.1).length := by
  fun_induction mergeL la lb with
  | case1 r => simp
  | case2 p la =>
    have e : (p :: la).filter (fun s => !hasKey ([] : List (κ × α)) s.1) = p :: la := List.filter_eq_self.2 fun _ _ => rfl
    rw [e]; simp
  | case3 p la q r h ih =>
    have e : (p :: la).filter (fun s => !hasKey (q :: r) s.1) = (p :: la).filter (fun s => !hasKey r s.1) := by
      apply List.filter_congr
      intro s hs
      have : q.1 ≠ s.1 := by
        rcases List.mem_cons.1 hs with rfl | hs
        · exact KO.ne h
        · exact KO.ne (KO.trans _ _ _ h (ha.head hs))
      simp [hasKey, this]
    rw [List.length_cons, ih ha hb.tail, e, List.length_cons]; omega
  | case4 p la q r h h' ih =>
    have e : la.filter (fun s => !hasKey (q :: r) s.1) = la.filter (fun s => !hasKey r s.1) := by
      apply List.filter_congr
      intro s hs
      have : q.1 ≠ s.1 := by rw [h']; exact KO.ne (ha.head hs)
      simp [hasKey, this]
    have e2 : (!hasKey (q :: r) p.1) = false := by simp [hasKey, h']
    rw [List.length_cons, ih ha.tail hb.tail, List.filter_cons, e2, e, List.length_cons]; simp; omega
  | case5 p la q r h h' ih =>
    have hpq : KO.lt p.1 q.1 := by
      rcases KO.tri p.1 q.1 with c | c | c
      · exact c
      · exact (h' c.symm).elim
      · exact (h c).elim
    have e2 : (!hasKey (q :: r) p.1) = true := by
      simp only [hasKey, Bool.not_eq_true', List.any_eq_false, decide_eq_true_eq]
      intro s hs
      rcases List.mem_cons.1 hs with rfl | hs
      · exact h'
      · exact (KO.ne (KO.trans _ _ _ hpq (hb.head hs))).symm
    rw [List.length_cons, ih ha.tail hb, List.filter_cons, e2, if_pos rfl]; simp only [List.length_cons]; omega
theorem mergeL_length (la lb : List (κ × α)) : (mergeL la lb).length ≤ la.length + lb.length := by
  fun_induction mergeL la lb with
  | case1 r => simp
  | case2 p la => simp
  | case3 p la q r h ih => simp only [List.length_cons] at *; omega
  | case4 p la q r h h' ih => simp only [List.length_cons] at *; omega
  | case5 p la q r h h' ih => simp only [List.length_cons] at *; omega
end
end Go.Proofs
