/- ARGUMENTS OPENED: rows of numbers, truths and texts (structs too), slices of such. Generic. -/
import Derived.Test.YtbodlapndgnkgaaKl1
import Derived.OpenShut
set_option linter.all false
set_option linter.constructorNameAsVariable false
namespace Go.KC
open Go.WideShapes Go.ChangeShapes Go.RowKit Go.Proofs

inductive CK
  | bo | it (k : IntKind) | st | sl | pt
/-- What a cell of that kind is; texts are of m bytes at most. -/
def CK.has (m : Nat) : CK → Value → Prop
  | .bo, v => ∃ x : Bool, v = .bool x
  | .it k, v => ∃ n, v = .int k n ∧ (Lit.int k n).wf = true
  | .st, v => ∃ s : ByteArray, v = .string s ∧ s.size ≤ maxLen ∧ s.size ≤ m
  | .sl, v => ∃ x : Sl, v = .slice x.a x.len x.cap
  | .pt, v => ∃ p : Option Addr, v = .pointer p
theorem CK.has.mono {m m' : Nat} (hm : m ≤ m') : ∀ {k : CK} {v : Value}, k.has m v → k.has m' v
  | .bo, _, h => h
  | .it _, _, h => h
  | .st, _, ⟨s, h1, h2, h3⟩ => ⟨s, h1, h2, Nat.le_trans h3 hm⟩
  | .sl, _, h => h
  | .pt, _, h => h
def Fits (m : Nat) : List CK → List Value → Prop
  | [], [] => True
  | k :: ks, v :: vs => k.has m v ∧ Fits m ks vs
  | _, _ => False
theorem Fits.mono {m m' : Nat} (hm : m ≤ m') : ∀ {ks : List CK} {vs : List Value}, Fits m ks vs → Fits m' ks vs
  | [], [], _ => trivial
  | _ :: _, _ :: _, h => ⟨h.1.mono hm, h.2.mono hm⟩
  | [], _ :: _, h => h.elim
  | _ :: _, [], h => h.elim
theorem Fits.length {m : Nat} : ∀ {ks : List CK} {vs : List Value}, Fits m ks vs → vs.length = ks.length
  | [], [], _ => rfl
  | _ :: _, _ :: _, h => by simp [h.2.length]
  | [], _ :: _, h => h.elim
  | _ :: _, [], h => h.elim
theorem Fits.append {m : Nat} : ∀ {ks js : List CK} {vs ws : List Value}, Fits m ks vs → Fits m js ws → Fits m (ks ++ js) (vs ++ ws)
  | [], _, [], _, _, h => h
  | _ :: _, _, _ :: _, _, h, k => ⟨h.1, h.2.append k⟩
  | [], _, _ :: _, _, h, _ => h.elim
  | _ :: _, _, [], _, h, _ => h.elim

/-- The kinds of the cells of a row's parts that follow one another. -/
def laidKinds (sub : TypeId → Option (List CK)) (P : Program) (total : Nat) : List Field → Nat → Option (List CK)
  | [], off => if off = total then some [] else none
  | f :: r, off => match sub f.type with
    | none => none
    | some ks => if f.offset = off ∧ P.cellsOf f.type = ks.length then (laidKinds sub P total r (off + ks.length)).map (ks ++ ·) else none
/-- The kinds of a type's cells. -/
def flat (P : Program) : Nat → TypeId → Option (List CK)
  | 0, _ => none
  | d + 1, t => match P.underlying t with
    | some .bool => some [.bo]
    | some (.int k) => some [.it k]
    | some .string => some [.st]
    | some (.struct fs) => laidKinds (flat P d) P (P.cellsOf t) fs.toList 0
    | some (.slice _) => some [.sl]
    | some (.pointer _) => some [.pt]
    | _ => none

/-- A measure that is no less of the whole than of a part. -/
structure BulkOf {H : Type} (B : DataW H → Nat) : Prop where
  str : ∀ bs : List UInt8, bs.length ≤ maxLen → bs.length ≤ B (.lit (.string bs))
  agg : ∀ ps d, d ∈ ps → B d ≤ B (.agg ps)
  sl : ∀ es sp d, d ∈ es → B d ≤ B (.slice es sp)

section
variable {H : Type} {enc : TypeId × Value → H} {P : Program} {W : World} {base : Nat} {spare : Nat → Bool} {held : Bool} {B : DataW H → Nat}

theorem laid_fits {m n : Nat} {total : Nat} {cs : List Value} {xs : List (DataW H × List MemPlace)} {sub : TypeId → Option (List CK)} (htot : cs.length = total)
    (hsub : ∀ (u : TypeId) (ks : List CK) (c : List Value) (x : DataW H × List MemPlace), sub u = some ks → DataW.trod enc P W base spare held n u c = some x → x ∈ xs → Fits m ks c) :
    ∀ (fs : List Field) (off i : Nat) (ks : List CK), laidKinds sub P total fs off = some ks → (∀ (k : Nat) (f : Field), fs[k]? = some f → DataW.trod enc P W base spare held n f.type ((cs.drop f.offset).take (P.cellsOf f.type)) = xs[i + k]?) → i + fs.length ≤ xs.length →
      Fits m ks (cs.drop off)
  | [], off, _, ks, h, _, _ => by
    simp only [laidKinds] at h
    split at h
    · rename_i he
      cases h
      rw [List.drop_eq_nil_of_le (by omega)]
      trivial
    · cases h
  | f :: r, off, i, ks, h, hx, hi => by
    simp only [laidKinds] at h
    split at h
    · cases h
    · rename_i k1 hk1
      split at h
      · rename_i hc
        obtain ⟨hoff, hlen⟩ := hc
        cases hr : laidKinds sub P total r (off + k1.length) with
        | none => rw [hr] at h; cases h
        | some k2 =>
          rw [hr] at h
          cases h
          have h0 := hx 0 f rfl
          rw [Nat.add_zero, List.getElem?_eq_getElem (by simp at hi; omega)] at h0
          have f1 := hsub _ _ _ _ hk1 h0 (List.getElem_mem _)
          rw [hoff, hlen] at f1
          have f2 := laid_fits htot hsub r (off + k1.length) (i + 1) k2 hr (fun k g hg => by
            have := hx (k + 1) g hg
            rw [show i + (k + 1) = i + 1 + k by omega] at this; exact this) (by simp at hi; omega)
          have e : cs.drop off = (cs.drop off).take k1.length ++ cs.drop (off + k1.length) := by
            rw [← List.drop_drop, List.take_append_drop]
          rw [e]
          exact f1.append f2
      · cases h

theorem flat_fits (hB : BulkOf B) : ∀ (d : Nat) (t : TypeId) (ks : List CK) (n : Nat) (cs : List Value) (x : DataW H × List MemPlace), flat P d t = some ks → DataW.trod enc P W base spare held n t cs = some x → Fits (B x.1) ks cs
  | 0, _, _, _, _, _, h, _ => by cases h
  | d + 1, t, ks, n, cs, x, h, hx => by
    simp only [flat] at h
    split at h
    · rename_i hu
      cases h
      obtain ⟨b, rfl, rfl⟩ := DataW.trod_bool hu hx
      exact ⟨⟨b, rfl⟩, trivial⟩
    · rename_i k hu
      cases h
      obtain ⟨v, rfl, rfl, hw⟩ := DataW.trod_int hu hx
      exact ⟨⟨v, rfl, hw⟩, trivial⟩
    · rename_i hu
      cases h
      obtain ⟨s, rfl, rfl, hw⟩ := DataW.trod_string hu hx
      have e : s.data.toList.length = s.size := ba_len s
      exact ⟨⟨s, rfl, hw, by have := hB.str s.data.toList (by omega); simpa [e] using this⟩, trivial⟩
    · rename_i fs hu
      obtain ⟨xs, m, rfl, rfl, hl, hxl, hf⟩ := DataW.trod_struct hu hx
      have := laid_fits (enc := enc) (P := P) (W := W) (base := base) (spare := spare) (held := held) (m := B (.agg (xs.map (·.1)))) (n := m) (xs := xs) (cs := cs) hl
        (fun u k1 c y hu1 hy hm => (flat_fits hB d u k1 m c y hu1 hy).mono (hB.agg _ _ (List.mem_map_of_mem hm))) fs.toList 0 0 ks h
        (fun k f hf' => by rw [Nat.zero_add]; exact hf k f (by simpa using hf')) (by simp [hxl])
      simpa using this
    · rename_i e hu
      cases h
      rcases DataW.trod_slice hu hx with ⟨rfl, _⟩ | ⟨a, len, cap, _, _, _, _, rfl, _⟩
      · exact ⟨⟨⟨none, 0, 0⟩, rfl⟩, trivial⟩
      · exact ⟨⟨⟨some a, len, cap⟩, rfl⟩, trivial⟩
    · rename_i e hu
      cases h
      rcases DataW.trod_pointer hu hx with ⟨rfl, _⟩ | ⟨a, _, _, _, _, rfl, _⟩
      · exact ⟨⟨none, rfl⟩, trivial⟩
      · exact ⟨⟨some a, rfl⟩, trivial⟩
    · cases h

theorem mapM_some_at {α β : Type} {f : α → Option β} : ∀ {l : List α} {r : List β}, l.mapM f = some r → ∀ (i : Nat) (a : α), l[i]? = some a → f a = r[i]?
  | [], _, _, _, _, h => by simp at h
  | a :: l, r, h, i, b, hb => by
    simp only [List.mapM_cons, Option.bind_eq_bind, Option.pure_def, Option.bind_eq_some_iff, Option.some.injEq] at h
    obtain ⟨y, hy, ys, hys, rfl⟩ := h
    cases i with
    | zero => simp at hb; subst hb; simpa using hy
    | succ i => simp at hb; simpa using mapM_some_at hys i b hb

theorem cells_row {a : Addr} {n : Nat} {c : List Value} (h : W.cells? base a n = some c) : RowAt W.heap a c := by
  intro j v hj
  unfold World.cells? at h
  split at h
  · have hl : c.length = n := by
      have := mapM_some_length h
      simpa using this
    have hjn : j < n := by have := (List.getElem?_eq_some_iff.1 hj).1; omega
    have := mapM_some_at h j j (by simp [hjn])
    rw [hj] at this
    exact this
  · cases h

theorem add_of_cell {a : Addr} {j k : Nat} {v : Value} (h : Hp.cell? W.heap (a.add j) = some v) : (a.add j).add k = a.add (j + k) := by
  have hs := spot_of_cell h
  by_cases hj : j = 0
  · subst hj
    rw [add_zero_of, Nat.zero_add]
  · obtain ⟨b, o, s⟩ := a
    by_cases hk : k = 0
    · subst hk; rw [add_zero_of]; rfl
    · simp [Addr.add, hj, hk, Nat.add_assoc]

/-- A SLICE, OPENED: a row for each of its elements. -/
theorem openSlice (hB : BulkOf B) {t e : TypeId} {ks : List CK} {d : Nat} {a0 : Option Addr} {len cap : Nat} {x : DataW H} {p : List MemPlace} (hu : P.underlying t = some (.slice e)) (hf : flat P d e = some ks) (hc : P.cellsOf e = ks.length) (hpos : 0 < ks.length)
    (h : DataW.Trod enc P W base spare held t (.slice a0 len cap) x p) :
    ∃ rows : List (List Value), rows.length = len ∧ cap ≤ maxLen ∧ Go.Proofs.Rows W.heap ⟨a0, len, cap⟩ ks.length rows.flatten ∧ ∀ r ∈ rows, Fits (B x) ks r := by
  obtain ⟨n, hfu⟩ := h
  rcases DataW.trod_slice hu hfu with ⟨hcs, hx⟩ | ⟨a, len', cap', elems, rest, n', _, hcs, hx, hb, hl, hm, hlen, hel, _, _⟩
  · have e : Value.slice a0 len cap = .slice none 0 0 := by simpa [Value.cells] using hcs
    cases e
    exact ⟨[], rfl, by simp [maxLen], ⟨by simp, Nat.le_refl _, (fun a ha => nomatch ha), (fun _ => rfl)⟩, fun r hr => nomatch hr⟩
  · have e : Value.slice a0 len cap = .slice (some a) len' cap' := by simpa [Value.cells] using hcs
    cases e
    obtain rfl : x = _ := congrArg Prod.fst hx
    have key : ∀ i, i < len → ∃ c, W.cells? base (a.add (i * ks.length)) ks.length = some c ∧ Fits (B (.slice (elems.map (·.1)) (rest.map (·.1)))) ks c := by
      intro i hi
      have h1 := hel i hi
      rw [hc, List.getElem?_eq_getElem (by omega)] at h1
      obtain ⟨c, h2, h3⟩ := Option.bind_eq_some_iff.1 h1
      exact ⟨c, h2, (flat_fits hB d e ks n' c _ hf h3).mono (hB.sl _ _ _ (List.mem_map_of_mem (List.getElem_mem _)))⟩
    have build : ∀ k, k ≤ len → ∃ rs : List (List Value), rs.length = k ∧ (∀ r ∈ rs, Fits (B (.slice (elems.map (·.1)) (rest.map (·.1)))) ks r) ∧ RowAt W.heap a rs.flatten ∧ rs.flatten.length = k * ks.length := by
      intro k
      induction k with
      | zero => intro _; exact ⟨[], rfl, (fun r hr => nomatch hr), (fun j v hj => by simp at hj), by simp⟩
      | succ k ih =>
        intro hk
        obtain ⟨rows, h1, h2, h3, h4⟩ := ih (by omega)
        obtain ⟨c, g1, g2⟩ := key k (by omega)
        have gl := g2.length
        have gr := cells_row g1
        refine ⟨rows ++ [c], by simp [h1], fun r hr => ?_, fun j v hj => ?_, by simp [h4, gl, Nat.add_mul]⟩
        · rcases List.mem_append.1 hr with hr | hr
          · exact h2 r hr
          · simp at hr; subst hr; exact g2
        · rw [List.flatten_append, List.getElem?_append] at hj
          split at hj
          · exact h3 j v hj
          · rename_i hlt
            simp only [List.flatten_cons, List.flatten_nil, List.append_nil] at hj
            rw [h4] at hlt hj
            obtain ⟨u, hu0⟩ : ∃ u, c[0]? = some u := ⟨c[0]'(by omega), List.getElem?_eq_getElem _⟩
            have hcell := gr 0 u hu0
            have e1 := gr _ v hj
            have e0 : (a.add (k * ks.length)).add 0 = a.add (k * ks.length) := add_zero_of _
            rw [e0] at hcell
            rw [add_of_cell hcell] at e1
            rw [show k * ks.length + (j - k * ks.length) = j by omega] at e1
            exact e1
    obtain ⟨rows, h1, h2, h3, h4⟩ := build len (Nat.le_refl _)
    exact ⟨rows, h1, hm, ⟨h4, hl, (fun a1 ha1 => by cases ha1; exact h3), fun e => nomatch e⟩, h2⟩

/-- Rows that are each of a form, as a list of what they are of. -/
theorem rows_list {α : Type} {f : α → List Value} {p : α → Prop} : ∀ {rows : List (List Value)}, (∀ r ∈ rows, ∃ c, r = f c ∧ p c) → ∃ cs : List α, rows = cs.map f ∧ ∀ c ∈ cs, p c
  | [], _ => ⟨[], rfl, fun c hc => nomatch hc⟩
  | r :: rows, h => by
    obtain ⟨cs, h1, h2⟩ := rows_list (rows := rows) fun r hr => h r (by simp [hr])
    obtain ⟨c, h3, h4⟩ := h r (by simp)
    refine ⟨c :: cs, by simp [h1, h3], fun x hx => ?_⟩
    rcases List.mem_cons.1 hx with rfl | hx
    · exact h4
    · exact h2 x hx

/-- A struct, or a number, a truth, a text: its cells. -/
theorem openFlat (hB : BulkOf B) {t : TypeId} {ks : List CK} {d : Nat} {v : Value} {x : DataW H} {p : List MemPlace} (hf : flat P d t = some ks) (h : DataW.Trod enc P W base spare held t v x p) : Fits (B x) ks v.cells.toList := by
  obtain ⟨n, hfu⟩ := h
  exact flat_fits hB d t ks n _ _ hf hfu

theorem sliceLt {r : Reach} {b0 : Nat} {t e : TypeId} (hu : P.underlying t = some (.slice e)) {a : Addr} {len cap : Nat} (h : Value.okWide P W r b0 t (.slice (some a) len cap)) : a.block < W.heap.size := by
  simp only [Value.okWide, hu, Cell.okWide, Cell.ok] at h
  obtain ⟨_, _, _, _, row, cells, hs, _⟩ := h
  unfold World.shape? at hs
  cases hg : W.heap[a.block]? with
  | none => rw [hg] at hs; cases hs
  | some o => exact (Array.getElem?_eq_some_iff.1 hg).1
end

theorem u8_of {n : Int} (h : (Lit.int .u8 n).wf = true) : ∃ c : UInt8, n = (c.toNat : Int) := by
  have h1 : (decide (0 ≤ n) && decide (n ≤ 255)) = true := h
  simp at h1
  refine ⟨UInt8.ofNat n.toNat, ?_⟩
  have h2 : n.toNat < UInt8.size := by show n.toNat < 256; omega
  rw [UInt8.toNat_ofNat_of_lt' h2]
  omega
theorem i64_of {n : Int} (h : (Lit.int .i64 n).wf = true) : -9223372036854775808 ≤ n ∧ n ≤ 9223372036854775807 := by
  have h1 : (decide (-9223372036854775808 ≤ n) && decide (n ≤ 9223372036854775807)) = true := h
  simpa using h1

theorem flatten_one {α : Type} (f : α → Value) : ∀ cs : List α, (cs.map fun c => [f c]).flatten = cs.map f
  | [] => rfl
  | c :: t => by simp only [List.map_cons, List.flatten_cons]; rw [flatten_one f t]; rfl

/-- Bytes. -/
theorem bytesOf {m : Nat} {rows : List (List Value)} (h : ∀ r ∈ rows, Fits m [.it .u8] r) : ∃ cs : List UInt8, rows.flatten = cs.map bv := by
  obtain ⟨cs, rfl, _⟩ := rows_list (f := fun c : UInt8 => [bv c]) (p := fun _ => True) (rows := rows) fun r hr => by
    have hf := h r hr
    match r, hf with
    | [v], ⟨⟨n, e, hw⟩, _⟩ =>
      obtain ⟨c, rfl⟩ := u8_of hw
      exact ⟨c, by rw [e]; rfl, trivial⟩
  exact ⟨cs, flatten_one bv cs⟩

def structB (d : Option TypeDesc) : Bool := match d with
  | some (.struct _) => true
  | _ => false
theorem structB_of {d : Option TypeDesc} (h : structB d = true) : ∃ fs, d = some (.struct fs) := by
  unfold structB at h
  split at h
  · exact ⟨_, rfl⟩
  · cases h

end Go.KC
