/- ENTRIES, part 1: commands, entries and says; rows of them. No program in sight. -/
import Derived.Test.YtbodlapndgnkgaaKh2
set_option linter.all false
set_option linter.constructorNameAsVariable false
namespace Go.Proofs
open Go Go.KC

structure Cm where
  op : Int
  client : Int
  seq : Int
  key : ByteArray
  value : ByteArray
  old : ByteArray
def Cm.cells (c : Cm) : List Value := [.int .i64 c.op, .int .i64 c.client, .int .i64 c.seq, .string c.key, .string c.value, .string c.old]
def Cm.val (c : Cm) : Value := .agg #[.int .i64 c.op, .int .i64 c.client, .int .i64 c.seq, .string c.key, .string c.value, .string c.old]
structure En where
  index : Int
  term : Int
  cmd : Cm
def En.cells (e : En) : List Value := [.int .i64 e.index, .int .i64 e.term, .int .i64 e.cmd.op, .int .i64 e.cmd.client, .int .i64 e.cmd.seq, .string e.cmd.key, .string e.cmd.value, .string e.cmd.old]
def En.val (e : En) : Value := .agg #[.int .i64 e.index, .int .i64 e.term, .int .i64 e.cmd.op, .int .i64 e.cmd.client, .int .i64 e.cmd.seq, .string e.cmd.key, .string e.cmd.value, .string e.cmd.old]
instance : DecidableEq Cm := fun a b => decidable_of_iff (a.op = b.op ∧ a.client = b.client ∧ a.seq = b.seq ∧ a.key = b.key ∧ a.value = b.value ∧ a.old = b.old)
  ⟨fun ⟨h1, h2, h3, h4, h5, h6⟩ => by cases a; cases b; simp only at h1 h2 h3 h4 h5 h6; subst h1; subst h2; subst h3; subst h4; subst h5; subst h6; rfl, fun h => by subst h; exact ⟨rfl, rfl, rfl, rfl, rfl, rfl⟩⟩
instance : DecidableEq En := fun a b => decidable_of_iff (a.index = b.index ∧ a.term = b.term ∧ a.cmd = b.cmd)
  ⟨fun ⟨h1, h2, h3⟩ => by cases a; cases b; simp only at h1 h2 h3; subst h1; subst h2; subst h3; rfl, fun h => by subst h; exact ⟨rfl, rfl, rfl⟩⟩
def Cm.zero : Cm := ⟨0, 0, 0, .mk #[], .mk #[], .mk #[]⟩
def En.zero : En := ⟨0, 0, .zero⟩

/-- Which commands may be. -/
def Cm.May (c : Cm) : Prop :=
  0 ≤ c.op ∧ c.op ≤ 3 ∧ c.value.size ≤ 16 ∧ c.old.size ≤ 16 ∧
  ((c.op = 0 ∧ c.client = 0 ∧ c.seq = 0 ∧ c.key.size = 0 ∧ c.value.size = 0 ∧ c.old.size = 0) ∨
   (c.op ≠ 0 ∧ 0 ≤ c.client ∧ c.client ≤ 3 ∧ 0 ≤ c.seq ∧ c.seq ≤ 1048576 ∧ 0 < c.key.size ∧ c.key.size ≤ 8))
instance (c : Cm) : Decidable c.May := by unfold Cm.May; infer_instance
def En.Right (e : En) : Prop := 1 ≤ e.index ∧ e.index ≤ 1048576 ∧ 0 ≤ e.term ∧ e.term ≤ 1048576 ∧ e.cmd.May
instance (e : En) : Decidable e.Right := by unfold En.Right; infer_instance

theorem ba_nil {s : ByteArray} : s = ByteArray.mk #[] ↔ s.size = 0 := by
  constructor
  · rintro rfl; rfl
  · intro h
    apply ByteArray.ext
    exact Array.eq_empty_of_size_eq_zero h
theorem beq_ba (s t : ByteArray) : (s == t) = decide (s = t) := by
  have e : (s == t) = (s.data == t.data) := by cases s; cases t; rfl
  rw [e]
  by_cases h : s = t
  · subst h; simp
  · rw [decide_eq_false h]; exact beq_eq_false_iff_ne.2 fun e => h (ByteArray.ext e)
theorem beq_nil (s : ByteArray) : (s == ByteArray.mk #[]) = decide (s.size = 0) := by
  rw [beq_ba]; exact decide_eq_decide.2 ba_nil
theorem beqL_nil (s : ByteArray) : (s.toList == (ByteArray.mk #[]).toList) = decide (s.size = 0) := by
  rw [ByteArray.toList_eq, ByteArray.toList_eq]
  by_cases h : s.size = 0
  · rw [decide_eq_true h, ba_nil.2 h]; rfl
  · rw [decide_eq_false h]
    refine beq_eq_false_iff_ne.2 fun e => h ?_
    have := congrArg List.length e
    rw [ba_len] at this
    simpa using this
theorem beq_list (s t : ByteArray) : (s.toList == t.toList) = decide (s = t) := by
  rw [ByteArray.toList_eq, ByteArray.toList_eq]
  by_cases h : s = t
  · subst h; simp
  · rw [decide_eq_false h]
    refine beq_eq_false_iff_ne.2 fun e => h ?_
    exact ByteArray.ext (Array.toList_inj.1 e)

structure Sy where
  op : UInt8
  client : UInt8
  seq : UInt8
  key : UInt8
  value : UInt8
  old : UInt8

def Sy.cells (s : Sy) : List Value := [.int .u8 (s.op.toNat : Int), .int .u8 (s.client.toNat : Int), .int .u8 (s.seq.toNat : Int), .int .u8 (s.key.toNat : Int), .int .u8 (s.value.toNat : Int), .int .u8 (s.old.toNat : Int)]

def Sy.val (s : Sy) : Value := .agg #[.int .u8 (s.op.toNat : Int), .int .u8 (s.client.toNat : Int), .int .u8 (s.seq.toNat : Int), .int .u8 (s.key.toNat : Int), .int .u8 (s.value.toNat : Int), .int .u8 (s.old.toNat : Int)]

def letters : ByteArray := ByteArray.mk #[97, 98, 99, 100, 101, 102, 103, 104]

def digits : ByteArray := ByteArray.mk #[48, 49, 50, 51, 52, 53, 54, 55, 56, 57]

def txt (c : UInt8) : ByteArray := (ByteArray.mk #[118]).extract 0 (c.toNat % 2) ++ digits.extract (c.toNat % 10) (c.toNat % 10 + 1)

theorem txt_size (c : UInt8) : 1 ≤ (txt c).size ∧ (txt c).size ≤ 2 := by
  have e1 : (ByteArray.mk #[118]).size = 1 := rfl
  have e2 : digits.size = 10 := rfl
  unfold txt
  rw [ByteArray.size_append, ByteArray.size_extract, ByteArray.size_extract, e1, e2]
  omega

def keyOf (c : UInt8) : ByteArray := ByteArray.mk #[107] ++ letters.extract (c.toNat % 8) (c.toNat % 8 + 1)

theorem keyOf_size (c : UInt8) : (keyOf c).size = 2 := by
  have e1 : (ByteArray.mk #[107]).size = 1 := rfl
  have e2 : letters.size = 8 := rfl
  unfold keyOf
  rw [ByteArray.size_append, ByteArray.size_extract, e1, e2]
  omega

/-- A say's command. -/
def Sy.cmd (s : Sy) : Cm :=
  if s.op.toNat % 4 = 0 then Cm.zero else
  { op := (s.op.toNat % 4 : Nat), client := (s.client.toNat % 4 : Nat), seq := (s.seq.toNat % 40 : Nat), key := keyOf s.key,
    value := if s.op.toNat % 4 = 2 then ByteArray.mk #[] else txt s.value, old := if s.op.toNat % 4 = 3 then txt s.old else ByteArray.mk #[] }

theorem Sy.may (s : Sy) : s.cmd.May := by
  have e0 : (ByteArray.mk #[]).size = 0 := rfl
  have hv := txt_size s.value
  have ho := txt_size s.old
  have hk := keyOf_size s.key
  unfold Sy.cmd
  split
  · exact ⟨by decide, by decide, by decide, by decide, Or.inl ⟨rfl, rfl, rfl, rfl, rfl, rfl⟩⟩
  · rename_i h
    refine ⟨by simp only; omega, by simp only; omega, ?_, ?_, Or.inr ⟨?_, ?_, ?_, ?_, ?_, ?_, ?_⟩⟩
    · simp only; split <;> omega
    · simp only; split <;> omega
    · simp only; omega
    · simp only; omega
    · simp only; omega
    · simp only; omega
    · simp only; omega
    · simp only; omega
    · simp only; omega

theorem tmodN (c : UInt8) (k : Nat) : Int.tmod (c.toNat : Int) (k : Int) = ((c.toNat % k : Nat) : Int) := by
  rw [Int.tmod_eq_emod_of_nonneg (by omega)]; rfl

/-- A row of cells of a slice whose elements are of k cells each. -/
theorem row_get {α : Type} {f : α → List Value} {k : Nat} (hk : 0 < k) (hf : ∀ c, (f c).length = k) {H : Hp} {x : Sl} {cs : List α} (h : Rows H x k (cs.map f).flatten) {j : Nat} (hj : j < cs.length) :
    ∃ a, x.a = some a ∧ RowAt H (a.add (j * k)) (f cs[j]) := by
  have key : ∀ (l : List α) (j : Nat) (hj : j < l.length) (i : Nat) (v : Value), (f l[j])[i]? = some v → (l.map f).flatten[j * k + i]? = some v := by
    intro l
    induction l with
    | nil => intro j hj; simp at hj
    | cons p t ih =>
      intro j hj i v hv
      have hp := hf p
      rw [List.map_cons, List.flatten_cons]
      cases j with
      | zero =>
        have hv' : (f p)[i]? = some v := hv
        rw [Nat.zero_mul, Nat.zero_add, List.getElem?_append_left (List.getElem?_eq_some_iff.1 hv').1]; exact hv'
      | succ j =>
        rw [List.getElem?_append_right (by rw [hp, Nat.add_mul]; omega), hp, show (j + 1) * k + i - k = j * k + i by rw [Nat.add_mul]; omega]
        exact ih j (by simpa using hj) i v hv
  have hfl : ∀ l : List α, (l.map f).flatten.length = l.length * k := by
    intro l
    induction l with
    | nil => simp
    | cons p t ih => rw [List.map_cons, List.flatten_cons, List.length_append, ih, hf, List.length_cons, Nat.add_mul]; omega
  have hl : cs.length = x.len := by
    have := h.1; rw [hfl] at this; exact Nat.eq_of_mul_eq_mul_right hk this
  cases ha : x.a with
  | none => have h1 := h.2.2.2 ha; have h2 := h.2.1; omega
  | some a =>
    refine ⟨a, rfl, fun i v hv => ?_⟩
    have h1 := h.2.2.1 a ha (j * k + i) v (key cs j hj i v hv)
    obtain ⟨u, hu⟩ : ∃ u, (f cs[j])[0]? = some u := ⟨(f cs[j])[0]'(by rw [hf]; exact hk), List.getElem?_eq_getElem _⟩
    have h0 := h.2.2.1 a ha (j * k + 0) _ (key cs j hj 0 _ hu)
    have hs := spot_of_cell h0
    by_cases hz : j * k = 0
    · rw [hz] at h1 ⊢; rw [Nat.zero_add] at h1; rw [add_zero_of]; exact h1
    · have : (a.add (j * k)).add i = a.add (j * k + i) := by
        obtain ⟨b, o, s⟩ := a
        by_cases hi : i = 0
        · subst hi; rw [add_zero_of]; rfl
        · unfold Addr.add
          rw [if_neg hz, if_neg hi, if_neg (by omega)]
          simp [Nat.add_assoc]
      rw [this]; exact h1

theorem flat_length {α : Type} {f : α → List Value} {k : Nat} (hf : ∀ c, (f c).length = k) : ∀ l : List α, (l.map f).flatten.length = l.length * k
  | [] => by simp
  | p :: t => by rw [List.map_cons, List.flatten_cons, List.length_append, flat_length hf t, hf, List.length_cons, Nat.add_mul]; omega

/-- Entries stand behind one another. -/
def RowsOf (es : List En) (n : Int) : Prop := ∀ j (hj : j < es.length), es[j].Right ∧ es[j].index = w64 (n + (j : Int)) ∧ ∀ h0 : 0 < j, (es[j - 1]'(by omega)).term ≤ es[j].term
instance (es : List En) (n : Int) : Decidable (RowsOf es n) := by unfold RowsOf; infer_instance

def upT (s : Sy) (t : Int) : Int := if s.op.toNat > 230 then w64 (t + 1) else t

/-- The entries that says are: the j-th one on, of a term on. -/
def entsGo (n : Int) : List Sy → Nat → Int → List En
  | [], _, _ => []
  | s :: r, j, t => ⟨w64 (n + (j : Int)), upT s t, s.cmd⟩ :: entsGo n r (j + 1) (upT s t)

def ents (l : List Sy) (n t : Int) : List En := entsGo n l 0 t

theorem entsGo_length (n : Int) : ∀ (l : List Sy) (j : Nat) (t : Int), (entsGo n l j t).length = l.length
  | [], _, _ => rfl
  | s :: r, j, t => by simp [entsGo, entsGo_length n r]

theorem ents_length (l : List Sy) (n t : Int) : (ents l n t).length = l.length := entsGo_length n l 0 t

theorem allOne_ents : ∀ l : List En, allOne (l.map En.cells).flatten = true
  | [] => rfl
  | e :: r => by
    rw [List.map_cons, List.flatten_cons]
    show allOne (_ :: _ :: _ :: _ :: _ :: _ :: _ :: _ :: (r.map En.cells).flatten) = true
    simp [allOne, Value.oneCell', allOne_ents r]

theorem cells_src {H : Hp} {e : TypeId} (cs : List Value) (k : Nat) (hk : cs.length = k) : SrcAt (Array.push H (.cells cs.toArray e)) k 1 (.slice (some (Addr.mk (Array.size H) 0 none)) 1 1) cs := by
  refine ⟨by omega, fun j v hj => ?_⟩
  rw [Addr.add_loc, cell_of (get_push_new H _), Nat.zero_add]
  simpa using hj

/-- What says are, may be. -/
theorem entsGo_row {n : Int} : ∀ (l : List Sy) (j : Nat) (t : Int), 1 ≤ n + (j : Int) → n + (j : Int) + l.length ≤ 1048577 → 0 ≤ t → t + l.length ≤ 1048576 →
    ∀ i (hi : i < (entsGo n l j t).length), (entsGo n l j t)[i].Right ∧ (entsGo n l j t)[i].index = n + (j : Int) + (i : Int) ∧ t ≤ (entsGo n l j t)[i].term ∧ ∀ h0 : 0 < i, ((entsGo n l j t)[i - 1]'(by omega)).term ≤ (entsGo n l j t)[i].term
  | [], _, _, _, _, _, _, i, hi => by simp [entsGo] at hi
  | s :: r, j, t, h1, h2, h3, h4, i, hi => by
    simp only [List.length_cons] at h2 h4
    have e1 : w64 (n + (j : Int)) = n + (j : Int) := w64_id (by omega) (by omega)
    have hu : t ≤ upT s t ∧ upT s t ≤ t + 1 := by
      unfold upT
      split
      · rw [w64_id (by omega) (by omega)]; omega
      · omega
    cases i with
    | zero =>
      refine ⟨⟨?_, ?_, ?_, ?_, s.may⟩, ?_, hu.1, fun h => absurd h (by omega)⟩
      · show 1 ≤ w64 _; rw [e1]; omega
      · show w64 _ ≤ _; rw [e1]; omega
      · show 0 ≤ upT s t; omega
      · show upT s t ≤ _; omega
      · show w64 _ = _; rw [e1]; simp
    | succ i =>
      have hi' : i < (entsGo n r (j + 1) (upT s t)).length := by simpa [entsGo] using hi
      have ih := entsGo_row r (j + 1) (upT s t) (by omega) (by omega) (by omega) (by omega) i hi'
      refine ⟨ih.1, by have := ih.2.1; simp only [entsGo, List.getElem_cons_succ]; omega, by have := ih.2.2.1; simp only [entsGo, List.getElem_cons_succ]; omega, fun _ => ?_⟩
      cases i with
      | zero => exact ih.2.2.1
      | succ i => exact ih.2.2.2 (by omega)

theorem ents_row {l : List Sy} {n t : Int} (h1 : 1 ≤ n) (h2 : n + l.length ≤ 1048577) (h3 : 0 ≤ t) (h4 : t + l.length ≤ 1048576) : RowsOf (ents l n t) n := by
  intro j hj
  have := entsGo_row l 0 t (by omega) (by omega) h3 h4 j hj
  have hl := ents_length l n t
  refine ⟨this.1, ?_, this.2.2.2⟩
  rw [w64_id (by omega) (by omega)]
  have e := this.2.1
  rw [show n + ((0 : Nat) : Int) + (j : Int) = n + (j : Int) by omega] at e
  exact e

theorem flat_take {α : Type} {f : α → List Value} {k : Nat} (hf : ∀ c, (f c).length = k) (l : List α) (n : Nat) : ((l.take n).map f).flatten = (l.map f).flatten.take (n * k) := by
  induction l generalizing n with
  | nil => simp
  | cons p t ih =>
    cases n with
    | zero => simp
    | succ n =>
      rw [List.take_succ_cons, List.map_cons, List.flatten_cons, List.map_cons, List.flatten_cons, ih, List.take_append, hf, show (n + 1) * k - k = n * k by rw [Nat.add_mul]; omega, List.take_of_length_le (l := f p) (by rw [hf, Nat.add_mul]; omega)]

theorem flat_drop {α : Type} {f : α → List Value} {k : Nat} (hf : ∀ c, (f c).length = k) (l : List α) (n : Nat) : ((l.drop n).map f).flatten = (l.map f).flatten.drop (n * k) := by
  induction l generalizing n with
  | nil => simp
  | cons p t ih =>
    cases n with
    | zero => simp
    | succ n =>
      rw [List.drop_succ_cons, List.map_cons, List.flatten_cons, ih, List.drop_append, hf, show (n + 1) * k - k = n * k by rw [Nat.add_mul]; omega, List.drop_of_length_le (l := f p) (by rw [hf, Nat.add_mul]; omega), List.nil_append]

theorem RowsOf.take {es : List En} {n : Int} (h : RowsOf es n) (k : Nat) : RowsOf (es.take k) n := by
  intro j hj
  have hj' : j < es.length := by simp at hj; omega
  have := h j hj'
  simp only [List.getElem_take]
  exact this

theorem RowsOf.drop {es : List En} {n : Int} (h : RowsOf es n) (k : Nat) (m : Int) (hm : ∀ j : Nat, w64 (n + ((k + j : Nat) : Int)) = w64 (m + (j : Int))) : RowsOf (es.drop k) m := by
  intro j hj
  have hj' : k + j < es.length := by simp at hj; omega
  have := h (k + j) hj'
  simp only [List.getElem_drop]
  refine ⟨this.1, by rw [this.2.1, hm], fun h0 => ?_⟩
  have h1 := this.2.2 (by omega)
  have e : k + j - 1 = k + (j - 1) := by omega
  simp only [e] at h1
  exact h1

theorem beq_int (a b : Int) : (a == b) = decide (a = b) := by by_cases h : a = b <;> simp [h]

/-- Entries compared, part by part. -/
theorem en_beq (a b : En) : ((a.index == b.index) && ((a.term == b.term) && (((a.cmd.op == b.cmd.op) && ((a.cmd.client == b.cmd.client) && ((a.cmd.seq == b.cmd.seq) && ((a.cmd.key == b.cmd.key) && ((a.cmd.value == b.cmd.value) && ((a.cmd.old == b.cmd.old) && true)))))) && true))) = decide (a = b) := by
  rw [beq_int, beq_int, beq_int, beq_int, beq_int, beq_ba, beq_ba, beq_ba]
  simp only [Bool.and_true, ← Bool.decide_and]
  apply decide_eq_decide.2
  constructor
  · rintro ⟨h1, h2, h3, h4, h5, h6, h7, h8⟩
    rcases a with ⟨_, _, _, _, _, _, _, _⟩
    rcases b with ⟨_, _, _, _, _, _, _, _⟩
    simp only at h1 h2 h3 h4 h5 h6 h7 h8
    subst h1; subst h2; subst h3; subst h4; subst h5; subst h6; subst h7; subst h8; rfl
  · rintro rfl; exact ⟨rfl, rfl, rfl, rfl, rfl, rfl, rfl, rfl⟩

section
variable {H : Hp}
theorem rows_new {e : TypeId} (cs : List Value) (k : Nat) (hk : cs.length = k) : Rows (Array.push H (.cells cs.toArray e)) ⟨some (Addr.mk (Array.size H) 0 none), 1, 1⟩ k cs :=
  ⟨by rw [hk]; simp, Nat.le_refl _, fun a ha => by cases ha; exact (cells_src cs k hk).2, fun e => nomatch e⟩

theorem moreHoles {H0 : Hp} (h : Mod (fun _ => False) H0 H) (n : Nat) : Mod (fun _ => False) H0 (holes H n) := h.trans (Mod.holes _ _ n)

def trueQ (H0 : Hp) (r : Value) (H' : Hp) : Prop := r = .bool true ∧ Mod (fun _ => False) H0 H'
end

/-- An element of a slice that one holds alone is set. -/
theorem own_put {H : Hp} {x : Sl} {e : TypeId} {k : Nat} {cs new : List Value} {i : Nat} (h : Own H x e k cs) (hi : i < x.len) (hn : new.length = k) (hk : 0 < k) :
    ∃ a, x.a = some a ∧ WrAt H (a.add (i * k)) k ∧ Own (Hp.setCells H (a.add (i * k)) new 0) x e k (cs.take (i * k) ++ new ++ cs.drop (i * k + k)) ∧ Mod (· ∈ x.blk) H (Hp.setCells H (a.add (i * k)) new 0) := by
  obtain ⟨h1, h2, ⟨ha, hc⟩ | ⟨g, cur, ha, hg, hs, ht⟩⟩ := h
  · omega
  have hik : i * k + k ≤ x.len * k := by rw [← Nat.succ_mul]; exact Nat.mul_le_mul_right _ hi
  have hck : x.len * k ≤ x.cap * k := Nat.mul_le_mul_right _ h2
  refine ⟨_, ha, ?_, ?_, ?_⟩
  · rw [Addr.add_loc, Nat.zero_add]
    intro j hj
    rw [Addr.add_loc, cell_of hg, frozen_of hg]
    exact ⟨by simp; omega, rfl⟩
  · rw [Addr.add_loc, Nat.zero_add]
    have hset := get_setCells new (i * k) 0 H cur hg (by omega)
    refine ⟨by simp; omega, h2, Or.inr ⟨g, _, ha, hset, ?_, ?_⟩⟩
    · simp; omega
    · simp only [Nat.add_zero]
      have hl : (cs.take (i * k) ++ new ++ cs.drop (i * k + k)).length = cs.length := by simp; omega
      rw [hl, ← ht, hn]
      apply List.ext_getElem?
      intro n
      simp only [List.getElem?_take, List.getElem?_append, List.getElem?_drop, List.length_append, List.length_take, hn]
      have e1 : min (i * k) cur.toList.length = i * k := by simp; omega
      have e3 : min cs.length cur.toList.length = cs.length := by simp; omega
      have e2 : min (i * k) cs.length = i * k := by omega
      rw [e3, e1, e2]
      by_cases c1 : n < cs.length
      · rw [if_pos c1]
        by_cases c2 : n < i * k
        · simp only [c2, show n < i * k + k by omega, if_true, c1]
        · by_cases c3 : n < i * k + k
          · simp only [c2, c3, if_true, if_false]
          · simp only [c3, if_false, show i * k + k + (n - (i * k + k)) = n by omega, c1, if_true]
      · rw [if_neg c1]
        have c3 : ¬ n < i * k + k := by omega
        simp only [c3, if_false, show i * k + k + (n - (i * k + k)) = n by omega, c1]
  · rw [Addr.add_loc, Nat.zero_add]
    refine ⟨by rw [size_setCells]; exact Nat.le_refl _, fun b _ hn => get_setCells_ne (by intro e; exact hn (by simp [Sl.blk, ha, e])) _ _ _⟩

theorem flat_set {α : Type} {f : α → List Value} {k : Nat} (hf : ∀ c, (f c).length = k) (l : List α) (i : Nat) (c : α) (hi : i < l.length) :
    ((l.set i c).map f).flatten = (l.map f).flatten.take (i * k) ++ f c ++ (l.map f).flatten.drop (i * k + k) := by
  rw [← flat_take hf, show i * k + k = (i + 1) * k by rw [Nat.add_mul]; omega, ← flat_drop hf]
  rw [List.set_eq_take_append_cons_drop, if_pos hi]
  simp

def RowAtP (es : List En) (n : Int) (j : Nat) (hj : j < es.length) : Prop := es[j].Right ∧ es[j].index = w64 (n + (j : Int)) ∧ ∀ h0 : 0 < j, (es[j - 1]'(by omega)).term ≤ es[j].term

def RowsTo (es : List En) (n : Int) (j : Nat) : Prop := ∀ i (hi : i < es.length), i < j → RowAtP es n i hi

theorem RowsTo.succ {es : List En} {n : Int} {j : Nat} (hj : j < es.length) : RowsTo es n (j + 1) ↔ RowsTo es n j ∧ RowAtP es n j hj := by
  constructor
  · intro h; exact ⟨fun i hi hij => h i hi (by omega), h j hj (by omega)⟩
  · rintro ⟨h1, h2⟩ i hi hij
    by_cases hc : i < j
    · exact h1 i hi hc
    · obtain rfl : i = j := by omega
      exact h2

theorem RowsTo.all {es : List En} {n : Int} : RowsTo es n es.length ↔ RowsOf es n :=
  ⟨fun h i hi => h i hi hi, fun h i hi _ => h i hi⟩

end Go.Proofs
