/- STATES: arguments opened. -/
import Derived.Test.YtgndfbbgomlbeaaKq7
import Derived.Test.YtgndfbbgomlbeaaKu17
set_option linter.all false
set_option linter.constructorNameAsVariable false
namespace Go.Proofs
open Go Go.KC Go.WideShapes Go.ChangeShapes Go.RowKit

/-- The parts of a struct: their types and places. -/
def partsAt (d : Option TypeDesc) : List (TypeId × Nat) := match d with
  | some (.struct fs) => fs.toList.map fun f => (f.type, f.offset)
  | _ => []
theorem partsAt_of {d : Option TypeDesc} {q : TypeId × Nat} {l : List (TypeId × Nat)} (h : partsAt d = q :: l) : ∃ fs : Array Field, d = some (.struct fs) ∧ fs.toList.map (fun f => (f.type, f.offset)) = q :: l := by
  unfold partsAt at h
  split at h
  · exact ⟨_, rfl, h⟩
  · cases h
abbrev kPr : List CK := [.st, .st, .bo]
abbrev kSe : List CK := [.it .i64, .it .i64, .it .i64, .st]
theorem prOf' {m : Nat} : ∀ {r : List Value}, Fits m kPr r → ∃ p : Pr, r = p.row ∧ p.key.size ≤ m ∧ p.value.size ≤ m
  | [a, b, c], ⟨⟨s1, e1, _, h1⟩, ⟨s2, e2, _, h2⟩, ⟨g, e3⟩, _⟩ => by
    subst e1; subst e2; subst e3
    exact ⟨⟨s1, s2, g⟩, rfl, h1, h2⟩
theorem fits4 {m : Nat} {k1 k2 k3 k4 : CK} : ∀ {r : List Value}, Fits m [k1, k2, k3, k4] r → ∃ a b c d, r = [a, b, c, d] ∧ k1.has m a ∧ k2.has m b ∧ k3.has m c ∧ k4.has m d
  | [a, b, c, d], ⟨h1, h2, h3, h4, _⟩ => ⟨a, b, c, d, rfl, h1, h2, h3, h4⟩
theorem seOf' {m : Nat} {r : List Value} (h : Fits m kSe r) : ∃ x : Se, r = x.row ∧ (-9223372036854775808 ≤ x.client ∧ x.client ≤ 9223372036854775807) ∧ (-9223372036854775808 ≤ x.seq ∧ x.seq ≤ 9223372036854775807) ∧ (-9223372036854775808 ≤ x.err ∧ x.err ≤ 9223372036854775807) ∧ x.value.size ≤ m := by
  obtain ⟨a, b, c, d, rfl, ⟨n1, e1, w1⟩, ⟨n2, e2, w2⟩, ⟨n3, e3, w3⟩, ⟨s1, e4, _, h1⟩⟩ := fits4 h
  subst e1; subst e2; subst e3; subst e4
  exact ⟨⟨n1, n2, n3, s1⟩, rfl, i64_of w1, i64_of w2, i64_of w3, h1⟩
theorem prsOf {m : Nat} {rows : List (List Value)} (hm : m ≤ 1048576) (h : ∀ r ∈ rows, Fits m kPr r) : ∃ ps : List Pr, rows = ps.map Pr.row ∧ ∀ p ∈ ps, p.small :=
  rows_list (f := Pr.row) (p := Pr.small) (rows := rows) fun r hr => by
    obtain ⟨p, h1, h2, h3⟩ := prOf' (h r hr)
    exact ⟨p, h1, by omega, by omega⟩
theorem sesOf {m : Nat} {rows : List (List Value)} (hm : m ≤ 1048576) (h : ∀ r ∈ rows, Fits m kSe r) : ∃ xs : List Se, rows = xs.map Se.row ∧ ∀ x ∈ xs, x.small :=
  rows_list (f := Se.row) (p := Se.small) (rows := rows) fun r hr => by
    obtain ⟨x, h1, h2, h3, h4, h5⟩ := seOf' (h r hr)
    exact ⟨x, h1, h2, h3, h4, by omega⟩

section
variable {H : Type} {enc : TypeId × Value → H} {P : Program} {W : World} {base : Nat} {spare : Nat → Bool} {held : Bool} {B : DataW H → Nat}
/-- A slice is no longer than what it reads as. -/
theorem sliceLen (hB : ∀ es sp, es.length ≤ B (.slice es sp)) {t e : TypeId} {a0 : Option Addr} {len cap : Nat} {x : DataW H} {p : List MemPlace} (hu : P.underlying t = some (.slice e))
    (h : DataW.Trod enc P W base spare held t (.slice a0 len cap) x p) : len ≤ B x := by
  obtain ⟨n, hfu⟩ := h
  rcases DataW.trod_slice hu hfu with ⟨hcs, hx⟩ | ⟨a, len', cap', elems, rest, n', _, hcs, hx, hb, hl, hm, hlen, hel, _, _⟩
  · have e : Value.slice a0 len cap = .slice none 0 0 := by simpa [Value.cells] using hcs
    cases e
    exact Nat.zero_le _
  · have e : Value.slice a0 len cap = .slice (some a) len' cap' := by simpa [Value.cells] using hcs
    cases e
    obtain rfl : x = _ := congrArg Prod.fst hx
    have := hB (elems.map (·.1)) (rest.map (·.1))
    rw [List.length_map] at this
    show len ≤ B (.slice (elems.map (·.1)) (rest.map (·.1)))
    omega

theorem openState (hB : BulkOf B) {t tn tp te ts tf : TypeId} {cs : Array Value} {x : DataW H} {p : List MemPlace} (hp : partsAt (P.underlying t) = [(tn, 0), (tn, 1), (tp, 2), (ts, 3)]) (hct : P.cellsOf t = 4) (hcn : P.cellsOf tn = 1) (hcp : P.cellsOf tp = 1) (hcs : P.cellsOf ts = 1)
    (hn : P.underlying tn = some (.int .i64)) (hpp : P.underlying tp = some (.slice te)) (hs : P.underlying ts = some (.slice tf)) (hf : flat P 3 te = some kPr) (hc : P.cellsOf te = 3) (hf' : flat P 3 tf = some kSe) (hc' : P.cellsOf tf = 4)
    (h : DataW.Trod enc P W base spare held t (.agg cs) x p) :
    ∃ (i u : Int) (a : Option Addr) (len cap : Nat) (rows : List (List Value)) (a' : Option Addr) (len' cap' : Nat) (rows' : List (List Value)), cs = #[.int .i64 i, .int .i64 u, .slice a len cap, .slice a' len' cap'] ∧ (-9223372036854775808 ≤ i ∧ i ≤ 9223372036854775807) ∧ (-9223372036854775808 ≤ u ∧ u ≤ 9223372036854775807) ∧
      Go.Proofs.Rows W.heap ⟨a, len, cap⟩ 3 rows.flatten ∧ (∀ r ∈ rows, Fits (B x) kPr r) ∧ Go.Proofs.Rows W.heap ⟨a', len', cap'⟩ 4 rows'.flatten ∧ ∀ r ∈ rows', Fits (B x) kSe r := by
  obtain ⟨fs, hu, hm⟩ := partsAt_of hp
  obtain ⟨n, htr⟩ := h
  obtain ⟨xs, n', _, hx, hl, hxl, hfd⟩ := DataW.trod_struct hu htr
  have hcl : cs.toList.length = 4 := by rw [← hct]; exact hl
  obtain ⟨v0, v1, v2, v3, hcv⟩ : ∃ v0 v1 v2 v3, cs.toList = [v0, v1, v2, v3] := by
    match hcc : cs.toList, hcl with
    | [a, b, c, d], _ => exact ⟨a, b, c, d, rfl⟩
  have hcs0 : cs = #[v0, v1, v2, v3] := by rw [← Array.toArray_toList (xs := cs), hcv]
  have hfl : fs.toList.length = 4 := by have := congrArg List.length hm; simpa using this
  have part : ∀ (i : Nat) (q : TypeId × Nat), [(tn, 0), (tn, 1), (tp, 2), (ts, 3)][i]? = some q → ∃ y, xs[i]? = some y ∧ DataW.trod enc P W base spare held n' q.1 ((cs.toList.drop q.2).take (P.cellsOf q.1)) = some y := by
    intro i q hq
    rw [← hm, List.getElem?_map] at hq
    obtain ⟨f, hf1, rfl⟩ := Option.map_eq_some_iff.1 hq
    have hi : i < xs.length := by have := (List.getElem?_eq_some_iff.1 hf1).1; rw [hxl]; simpa using this
    refine ⟨xs[i], List.getElem?_eq_getElem hi, ?_⟩
    have := hfd i f (by simpa using hf1)
    rw [List.getElem?_eq_getElem hi] at this
    exact this
  obtain ⟨y0, _, t0⟩ := part 0 (tn, 0) rfl
  obtain ⟨y1, _, t1⟩ := part 1 (tn, 1) rfl
  obtain ⟨y2, g2, t2⟩ := part 2 (tp, 2) rfl
  obtain ⟨y3, g3, t3⟩ := part 3 (ts, 3) rfl
  simp only [hcv, hcn, hcs, hcp] at t0 t1 t2 t3
  obtain ⟨b, e0, _, w0⟩ := DataW.trod_int hn t0
  obtain ⟨u, e1, _, w1⟩ := DataW.trod_int hn t1
  obtain rfl : v0 = .int .i64 b := by simpa using e0
  obtain rfl : v1 = .int .i64 u := by simpa using e1
  obtain ⟨a, len, cap, rfl⟩ : ∃ a len cap, v2 = .slice a len cap := by
    rcases DataW.trod_slice hpp t2 with ⟨e, _⟩ | ⟨a, len, cap, _, _, _, _, e, _⟩
    · exact ⟨none, 0, 0, by simpa using e⟩
    · exact ⟨some a, len, cap, by simpa using e⟩
  obtain ⟨a', len', cap', rfl⟩ : ∃ a len cap, v3 = .slice a len cap := by
    rcases DataW.trod_slice hs t3 with ⟨e, _⟩ | ⟨a, len, cap, _, _, _, _, e, _⟩
    · exact ⟨none, 0, 0, by simpa using e⟩
    · exact ⟨some a, len, cap, by simpa using e⟩
  obtain ⟨rows, r1, r2, r3, r4⟩ := openSlice (B := B) hB (x := y2.1) (p := y2.2) hpp hf hc (by decide) ⟨n', by simpa [Value.cells] using t2⟩
  obtain ⟨rows', r1', r2', r3', r4'⟩ := openSlice (B := B) hB (x := y3.1) (p := y3.2) hs hf' hc' (by decide) ⟨n', by simpa [Value.cells] using t3⟩
  have hxa : x = .agg (xs.map (·.1)) := congrArg Prod.fst hx
  refine ⟨b, u, a, len, cap, rows, a', len', cap', rows', hcs0, i64_of w0, i64_of w1, r3, fun r hr => (r4 r hr).mono ?_, r3', fun r hr => (r4' r hr).mono ?_⟩
  · rw [hxa]
    exact hB.agg _ _ (List.mem_map_of_mem (List.mem_of_getElem? g2))
  · rw [hxa]
    exact hB.agg _ _ (List.mem_map_of_mem (List.mem_of_getElem? g3))
end
end Go.Proofs
