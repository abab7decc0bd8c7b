/- STATES, plain: what commands do. No program in sight. -/
import Derived.Test.YtpdondaekinmdaaKu1
import Derived.Test.YtpdondaekinmdaaKe1
set_option linter.all false
set_option linter.constructorNameAsVariable false
namespace Go.Proofs
open Go Go.KC

section
variable {κ α : Type} [KO κ] [DecidableEq κ]
def spotOf (l : List (κ × α)) (k : κ) : Nat := (l.takeWhile fun p => decide (KO.lt p.1 k)).length
omit [DecidableEq κ] in
theorem spotOf_eq : ∀ {l : List (κ × α)} {k : κ} {i : Nat}, Spot l k i → i = spotOf l k
  | [], k, i, h => by have := h.le; simp at this; subst this; rfl
  | p :: l, k, i, h => by
    unfold spotOf
    by_cases c : KO.lt p.1 k
    · rw [List.takeWhile_cons_of_pos (by simpa using c)]
      cases i with
      | zero => exact (h.hi 0 (by simp) (Nat.le_refl _) c).elim
      | succ j =>
        have := spotOf_eq (l := l) (k := k) (i := j) ⟨by have := h.le; simp at this; omega, fun a ha hj => h.lo (a + 1) (by simp; omega) (by omega), fun a ha hj => h.hi (a + 1) (by simp; omega) (by omega)⟩
        simp [this, spotOf]
    · rw [List.takeWhile_cons_of_neg (by simpa using c)]
      cases i with
      | zero => rfl
      | succ j => exact (c (h.lo 0 (by simp) (by omega))).elim
omit [DecidableEq κ] in
theorem spotOf_spot : ∀ {l : List (κ × α)} (k : κ), Rise l → Spot l k (spotOf l k)
  | [], k, _ => ⟨by simp [spotOf], fun a ha => by simp at ha, fun a ha => by simp at ha⟩
  | p :: l, k, hs => by
    unfold spotOf
    by_cases c : KO.lt p.1 k
    · rw [List.takeWhile_cons_of_pos (by simpa using c)]
      have ih := spotOf_spot k hs.tail
      unfold spotOf at ih
      refine ⟨by have := ih.le; simp only [List.length_cons]; omega, fun a ha hj => ?_, fun a ha hj => ?_⟩
      · cases a with
        | zero => exact c
        | succ a => exact ih.lo a (by simpa using ha) (by simp only [List.length_cons] at hj; omega)
      · cases a with
        | zero => simp at hj
        | succ a => exact ih.hi a (by simpa using ha) (by simp only [List.length_cons] at hj; omega)
    · rw [List.takeWhile_cons_of_neg (by simpa using c)]
      refine ⟨by simp, fun a ha hj => by simp at hj, fun a ha _ h => ?_⟩
      cases a with
      | zero => exact c h
      | succ a => exact c (KO.trans _ _ _ (hs 0 (a + 1) (by simp) ha (by omega)) h)
/-- The list behind a Put, and behind a Del. -/
def putL (l : List (κ × α)) (k : κ) (v : α) : List (κ × α) := putAt l k v (spotOf l k)
def delL (l : List (κ × α)) (k : κ) : List (κ × α) := delAt l k (spotOf l k)
theorem putL_rise {l : List (κ × α)} (h : Rise l) (k : κ) (v : α) : Rise (putL l k v) := putAt_rise h (spotOf_spot k h)
theorem putL_mem {l : List (κ × α)} (h : Rise l) (k : κ) (v : α) (j : κ) (w : α) : (j, w) ∈ putL l k v ↔ (if j = k then w = v else (j, w) ∈ l) := putAt_mem h (spotOf_spot k h) j w
theorem delL_rise {l : List (κ × α)} (h : Rise l) (k : κ) : Rise (delL l k) := delAt_rise h
theorem delL_mem {l : List (κ × α)} (h : Rise l) (k : κ) (j : κ) (w : α) : (j, w) ∈ delL l k ↔ (j ≠ k ∧ (j, w) ∈ l) := delAt_mem h (spotOf_spot k h) j w
theorem putL_length (l : List (κ × α)) (k : κ) (v : α) (h : Rise l) : (putL l k v).length ≤ l.length + 1 := by
  unfold putL; rw [putAt_length (spotOf_spot k h).le]; split <;> omega
theorem delL_length (l : List (κ × α)) (k : κ) : (delL l k).length ≤ l.length := by
  unfold delL delAt; split
  · simp; omega
  · exact Nat.le_refl _
theorem putL_last {l : List (κ × α)} {p : κ × α} (h : Rise (l ++ [p])) : putL l p.1 p.2 = l ++ [p] := by
  have hl : Rise l := by have := h.take l.length; simpa using this
  have hlt : ∀ q ∈ l, KO.lt q.1 p.1 := fun q hq => by
    have := h.lt_take_drop (n := l.length) (p := q) (q := p) (by simpa using hq) (by simp)
    exact this
  refine Rise.ext (putL_rise hl _ _) h fun q => ?_
  have := putL_mem hl p.1 p.2 q.1 q.2
  rw [show ((q.1, q.2) : κ × α) = q from rfl] at this
  rw [this, List.mem_append, List.mem_singleton]
  by_cases c : q.1 = p.1
  · rw [if_pos c]
    constructor
    · intro e; exact Or.inr (Prod.ext c e)
    · rintro (h1 | h1)
      · exact (KO.ne (hlt q h1) c).elim
      · rw [h1]
  · rw [if_neg c]
    constructor
    · exact Or.inl
    · rintro (h1 | h1)
      · exact h1
      · exact (c (by rw [h1])).elim
/-- Keys that rise, put one by one. -/
def ofL (xs : List (κ × α)) : List (κ × α) := xs.foldl (fun l p => putL l p.1 p.2) []
theorem ofL_snoc (xs : List (κ × α)) (p : κ × α) : ofL (xs ++ [p]) = putL (ofL xs) p.1 p.2 := by unfold ofL; rw [List.foldl_append]; rfl
theorem ofL_rise (xs : List (κ × α)) (h : Rise xs) : ofL xs = xs := by
  have : ∀ n, ofL (xs.take n) = xs.take n := by
    intro n
    induction n with
    | zero => simp [ofL]
    | succ n ih =>
      by_cases hn : n < xs.length
      · rw [List.take_succ_eq_append_getElem hn, ofL_snoc, ih]
        refine putL_last ?_
        have := h.take (n + 1)
        rwa [List.take_succ_eq_append_getElem hn] at this
      · rw [List.take_of_length_le (by omega)] at ih
        rw [List.take_of_length_le (by omega), ih]
  have := this xs.length
  rwa [List.take_length] at this
/-- A key's value. -/
def valL (l : List (κ × α)) (k : κ) : Option α := (l.find? fun p => decide (p.1 = k)).map (·.2)
omit [DecidableEq κ] in
theorem valL_mem [DecidableEq κ] {l : List (κ × α)} (hs : Rise l) {k : κ} {v : α} : valL l k = some v ↔ (k, v) ∈ l := by
  unfold valL
  constructor
  · intro h
    obtain ⟨p, hp, rfl⟩ := Option.map_eq_some_iff.1 h
    have h1 := List.mem_of_find?_eq_some hp
    have h2 := List.find?_some hp
    have h3 : p.1 = k := by simpa using h2
    rw [← h3]; exact h1
  · intro h
    cases hf : l.find? (fun p => decide (p.1 = k)) with
    | none => have := List.find?_eq_none.1 hf _ h; simp at this
    | some p =>
      have h1 := List.mem_of_find?_eq_some hf
      have h2 := List.find?_some hf
      have h3 : p.1 = k := by simpa using h2
      obtain ⟨a, b⟩ := p
      simp only at h3; subst h3
      simp [hs.one h1 h]
theorem valL_none {l : List (κ × α)} (hs : Rise l) {k : κ} : valL l k = none ↔ ∀ v, (k, v) ∉ l := by
  constructor
  · intro h v hv; rw [(valL_mem hs).2 hv] at h; cases h
  · intro h
    cases hv : valL l k with
    | none => rfl
    | some v => exact (h v ((valL_mem hs).1 hv)).elim
end

/-- What is told. -/
structure Rp where
  err : Int
  value : ByteArray
  deriving DecidableEq
def noText : ByteArray := ByteArray.mk #[]

/-- A state: keys that rise, and sessions by their clients, that rise. -/
structure Stt where
  index : Int
  term : Int
  kv : List (ByteArray × ByteArray)
  ss : List (Int × Se)
def Stt.zero : Stt := ⟨0, 0, [], []⟩
def Stt.pairs (s : Stt) : List Pr := s.kv.map fun p => ⟨p.1, p.2, false⟩
def Stt.sess (s : Stt) : List Se := s.ss.map (·.2)

/-- What a command does. -/
def doM (kv : List (ByteArray × ByteArray)) (c : Cm) : List (ByteArray × ByteArray) × Rp :=
  match valL kv c.key with
  | none => if c.op = 1 then (if 64 ≤ kv.length then (kv, ⟨4, noText⟩) else (putL kv c.key c.value, ⟨0, noText⟩)) else (kv, ⟨6, noText⟩)
  | some old => if c.op = 3 ∧ old ≠ c.old then (kv, ⟨11, old⟩) else if c.op = 2 then (delL kv c.key, ⟨0, old⟩) else (putL kv c.key c.value, ⟨0, old⟩)

/-- A command that is no empty one, at its place. -/
def cmdM (s : Stt) (c : Cm) : Stt × Rp :=
  match valL s.ss c.client with
  | some x => if c.seq ≤ x.seq then (if x.seq = c.seq then (s, ⟨x.err, x.value⟩) else (s, ⟨12, noText⟩)) else
    ({ s with kv := (doM s.kv c).1, ss := putL s.ss c.client ⟨c.client, c.seq, (doM s.kv c).2.err, (doM s.kv c).2.value⟩ }, (doM s.kv c).2)
  | none => ({ s with kv := (doM s.kv c).1, ss := putL s.ss c.client ⟨c.client, c.seq, (doM s.kv c).2.err, (doM s.kv c).2.value⟩ }, (doM s.kv c).2)

def applyM (s : Stt) (e : En) : Stt × Rp :=
  if ¬ e.Right then (s, ⟨14, noText⟩)
  else if e.index ≠ s.index + 1 ∨ e.term < s.term then (s, ⟨8, noText⟩)
  else if e.cmd.op = 0 then ({ s with index := e.index, term := e.term }, ⟨0, noText⟩)
  else cmdM { s with index := e.index, term := e.term } e.cmd
def foldM (s : Stt) (es : List En) : Stt := es.foldl (fun s e => (applyM s e).1) s
theorem foldM_snoc (s : Stt) (es : List En) (e : En) : foldM s (es ++ [e]) = (applyM (foldM s es) e).1 := by unfold foldM; rw [List.foldl_append]; rfl
theorem foldM_append (s : Stt) (es fs : List En) : foldM s (es ++ fs) = foldM (foldM s es) fs := by unfold foldM; rw [List.foldl_append]

/-- What is so of each state that commands make. -/
structure Stt.Ok (s : Stt) : Prop where
  i0 : 0 ≤ s.index ∧ s.index ≤ 1048576
  t0 : 0 ≤ s.term ∧ s.term ≤ 1048576
  rk : Rise s.kv
  rs : Rise s.ss
  kl : s.kv.length ≤ 64
  sl : s.ss.length ≤ 4
  kb : ∀ p ∈ s.kv, 1 ≤ p.1.size ∧ p.1.size ≤ 8 ∧ p.2.size ≤ 16
  sb : ∀ p ∈ s.ss, p.2.client = p.1 ∧ 0 ≤ p.1 ∧ p.1 ≤ 3 ∧ 0 ≤ p.2.seq ∧ p.2.seq ≤ 1048576 ∧ 0 ≤ p.2.err ∧ p.2.err ≤ 14 ∧ p.2.value.size ≤ 16
theorem Stt.zero_ok : Stt.zero.Ok := ⟨⟨by simp [Stt.zero], by simp [Stt.zero]⟩, ⟨by simp [Stt.zero], by simp [Stt.zero]⟩, Rise.nil, Rise.nil, by simp [Stt.zero], by simp [Stt.zero], fun p hp => by simp [Stt.zero] at hp, fun p hp => by simp [Stt.zero] at hp⟩

/-- Four keys at most. -/
theorem four_keys {α : Type} {l : List (Int × α)} (h : Rise l) (hb : ∀ p ∈ l, 0 ≤ p.1 ∧ p.1 ≤ 3) : l.length ≤ 4 := by
  have key : ∀ n (hn : n < l.length), (n : Int) ≤ l[n].1 := by
    intro n
    induction n with
    | zero => intro hn; have := (hb _ (List.getElem_mem hn)).1; simpa using this
    | succ n ih =>
      intro hn
      have h1 := ih (by omega)
      have h2 : l[n].1 < l[n + 1].1 := h n (n + 1) (by omega) hn (by omega)
      omega
  rcases Nat.lt_or_ge 4 l.length with c | c
  · have h1 := key 4 c
    have h2 := (hb _ (List.getElem_mem c)).2
    omega
  · exact c
theorem doM_ok {kv : List (ByteArray × ByteArray)} {c : Cm} (rk : Rise kv) (kl : kv.length ≤ 64) (kb : ∀ p ∈ kv, 1 ≤ p.1.size ∧ p.1.size ≤ 8 ∧ p.2.size ≤ 16) (hk : 1 ≤ c.key.size ∧ c.key.size ≤ 8) (hv : c.value.size ≤ 16) :
    Rise (doM kv c).1 ∧ (doM kv c).1.length ≤ 64 ∧ (∀ p ∈ (doM kv c).1, 1 ≤ p.1.size ∧ p.1.size ≤ 8 ∧ p.2.size ≤ 16) ∧ 0 ≤ (doM kv c).2.err ∧ (doM kv c).2.err ≤ 14 ∧ (doM kv c).2.value.size ≤ 16 := by
  have put : ∀ p ∈ putL kv c.key c.value, 1 ≤ p.1.size ∧ p.1.size ≤ 8 ∧ p.2.size ≤ 16 := fun p hp => by
    have := (putL_mem rk c.key c.value p.1 p.2).1 hp
    split at this
    · rename_i e; rw [e, this]; exact ⟨hk.1, hk.2, hv⟩
    · exact kb p this
  have n0 : noText.size ≤ 16 := by show (0 : Nat) ≤ 16; omega
  unfold doM
  cases hval : valL kv c.key with
  | none =>
    dsimp only
    split
    · split
      · exact ⟨rk, kl, kb, by simp, by simp, n0⟩
      · exact ⟨putL_rise rk _ _, (by have := putL_length kv c.key c.value rk; omega : (putL kv c.key c.value).length ≤ 64), put, by simp, by simp, n0⟩
    · exact ⟨rk, kl, kb, by simp, by simp, n0⟩
  | some old =>
    have ho := (kb _ ((valL_mem rk).1 hval)).2.2
    dsimp only at ho ⊢
    split
    · exact ⟨rk, kl, kb, by simp, by simp, ho⟩
    · split
      · exact ⟨delL_rise rk _, (by have := delL_length kv c.key; omega : (delL kv c.key).length ≤ 64), fun p hp => kb p ((delL_mem rk c.key p.1 p.2).1 hp).2, by simp, by simp, ho⟩
      · refine ⟨putL_rise rk _ _, ?_, put, by simp, by simp, ho⟩
        unfold putL
        rw [putAt_length (spotOf_spot _ rk).le, if_pos]
        · exact kl
        · cases hb : atB kv c.key (spotOf kv c.key) with
          | true => rfl
          | false => exact ((spotOf_spot c.key rk).not rk hb old ((valL_mem rk).1 hval)).elim
theorem cmdM_ok {s : Stt} {c : Cm} (h : s.Ok) (hc : c.May) (hop : c.op ≠ 0) : (cmdM s c).1.Ok ∧ (cmdM s c).1.index = s.index ∧ (cmdM s c).1.term = s.term := by
  obtain ⟨_, _, hv, ho, hm⟩ := hc
  rcases hm with ⟨h0, _⟩ | ⟨_, c0, c1, q0, q1, k0, k1⟩
  · exact (hop h0).elim
  obtain ⟨d1, d2, d3, d4, d5, d6⟩ := doM_ok (c := c) h.rk h.kl h.kb ⟨k0, k1⟩ hv
  have new : (⟨s.index, s.term, (doM s.kv c).1, putL s.ss c.client ⟨c.client, c.seq, (doM s.kv c).2.err, (doM s.kv c).2.value⟩⟩ : Stt).Ok := by
    have sb : ∀ p ∈ putL s.ss c.client ⟨c.client, c.seq, (doM s.kv c).2.err, (doM s.kv c).2.value⟩, p.2.client = p.1 ∧ 0 ≤ p.1 ∧ p.1 ≤ 3 ∧ 0 ≤ p.2.seq ∧ p.2.seq ≤ 1048576 ∧ 0 ≤ p.2.err ∧ p.2.err ≤ 14 ∧ p.2.value.size ≤ 16 := fun p hp => by
      have := (putL_mem h.rs c.client ⟨c.client, c.seq, (doM s.kv c).2.err, (doM s.kv c).2.value⟩ p.1 p.2).1 hp
      split at this
      · rename_i e; rw [e, this]; exact ⟨rfl, c0, c1, q0, q1, d4, d5, d6⟩
      · exact h.sb p this
    exact ⟨h.i0, h.t0, d1, putL_rise h.rs _ _, d2, four_keys (putL_rise h.rs _ _) fun p hp => ⟨(sb p hp).2.1, (sb p hp).2.2.1⟩, d3, sb⟩
  unfold cmdM
  split
  · split
    · split
      · exact ⟨h, rfl, rfl⟩
      · exact ⟨h, rfl, rfl⟩
    · exact ⟨new, rfl, rfl⟩
  · exact ⟨new, rfl, rfl⟩
theorem applyM_ok {s : Stt} {e : En} (h : s.Ok) : (applyM s e).1.Ok := by
  unfold applyM
  split
  · exact h
  · rename_i hr
    have hr : e.Right := Decidable.not_not.1 hr
    split
    · exact h
    · rename_i hc
      have h' : (⟨e.index, e.term, s.kv, s.ss⟩ : Stt).Ok := ⟨⟨by have := hr.1; dsimp only; omega, hr.2.1⟩, ⟨hr.2.2.1, hr.2.2.2.1⟩, h.rk, h.rs, h.kl, h.sl, h.kb, h.sb⟩
      split
      · exact h'
      · rename_i h0
        exact (cmdM_ok h' hr.2.2.2.2 h0).1
theorem foldM_ok {s : Stt} (h : s.Ok) (es : List En) : (foldM s es).Ok := by
  induction es generalizing s with
  | nil => exact h
  | cons e es ih => exact ih (applyM_ok h)
end Go.Proofs
