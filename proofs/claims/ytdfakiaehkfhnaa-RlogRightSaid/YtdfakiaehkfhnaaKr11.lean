/- LAYER 13: a log, opened. -/
import Derived.Test.YtdfakiaehkfhnaaKq7
set_option linter.all false
set_option linter.constructorNameAsVariable false
namespace Go.Proofs
open Go Go.KC Go.WideShapes Go.ChangeShapes Go.RowKit

/-- The parts of a struct: their types and places. -/
def partsAt (d : Option TypeDesc) : List (TypeId × Nat) := match d with
  | some (.struct fs) => fs.toList.map fun f => (f.type, f.offset)
  | _ => []
theorem partsAt_of {d : Option TypeDesc} {q : TypeId × Nat} {l : List (TypeId × Nat)} (h : partsAt d = q :: l) : ∃ fs : Array Field, d = some (.struct fs) ∧ fs.toList.map (fun f => (f.type, f.offset)) = q :: l := by
  unfold partsAt at h
  split at h
  · exact ⟨_, rfl, h⟩
  · cases h

section
variable {H : Type} {enc : TypeId × Value → H} {P : Program} {W : World} {base : Nat} {spare : Nat → Bool} {held : Bool} {B : DataW H → Nat}

theorem openLog (hB : BulkOf B) {t tn ts te : TypeId} {cs : Array Value} {x : DataW H} {p : List MemPlace} (hp : partsAt (P.underlying t) = [(tn, 0), (tn, 1), (ts, 2)]) (hct : P.cellsOf t = 3) (hcn : P.cellsOf tn = 1) (hcs : P.cellsOf ts = 1)
    (hn : P.underlying tn = some (.int .i64)) (hs : P.underlying ts = some (.slice te)) (hf : flat P 3 te = some kEn) (hc : P.cellsOf te = 8)
    (h : DataW.Trod enc P W base spare held t (.agg cs) x p) :
    ∃ (b u : Int) (a : Option Addr) (len cap : Nat) (rows : List (List Value)), cs = #[.int .i64 b, .int .i64 u, .slice a len cap] ∧ rows.length = len ∧ cap ≤ maxLen ∧ Go.Proofs.Rows W.heap ⟨a, len, cap⟩ 8 rows.flatten ∧ ∀ r ∈ rows, Fits (B x) kEn r := by
  obtain ⟨fs, hu, hm⟩ := partsAt_of hp
  obtain ⟨n, htr⟩ := h
  obtain ⟨xs, n', _, hx, hl, hxl, hfd⟩ := DataW.trod_struct hu htr
  have hcl : cs.toList.length = 3 := by rw [← hct]; exact hl
  obtain ⟨v0, v1, v2, hcv⟩ : ∃ v0 v1 v2, cs.toList = [v0, v1, v2] := by
    match hcc : cs.toList, hcl with
    | [a, b, c], _ => exact ⟨a, b, c, rfl⟩
  have hcs0 : cs = #[v0, v1, v2] := by rw [← Array.toArray_toList (xs := cs), hcv]
  have hfl : fs.toList.length = 3 := by have := congrArg List.length hm; simpa using this
  have part : ∀ (i : Nat) (q : TypeId × Nat), [(tn, 0), (tn, 1), (ts, 2)][i]? = some q → ∃ y, xs[i]? = some y ∧ DataW.trod enc P W base spare held n' q.1 ((cs.toList.drop q.2).take (P.cellsOf q.1)) = some y := by
    intro i q hq
    rw [← hm, List.getElem?_map] at hq
    obtain ⟨f, hf1, rfl⟩ := Option.map_eq_some_iff.1 hq
    have hi : i < xs.length := by have := (List.getElem?_eq_some_iff.1 hf1).1; rw [hxl]; simpa using this
    refine ⟨xs[i], List.getElem?_eq_getElem hi, ?_⟩
    have := hfd i f (by simpa using hf1)
    rw [List.getElem?_eq_getElem hi] at this
    exact this
  obtain ⟨y0, _, t0⟩ := part 0 (tn, 0) rfl
  obtain ⟨y1, _, t1⟩ := part 1 (tn, 1) rfl
  obtain ⟨y2, g2, t2⟩ := part 2 (ts, 2) rfl
  simp only [hcv, hcn, hcs] at t0 t1 t2
  obtain ⟨b, e0, _, _⟩ := DataW.trod_int hn t0
  obtain ⟨u, e1, _, _⟩ := DataW.trod_int hn t1
  obtain rfl : v0 = .int .i64 b := by simpa using e0
  obtain rfl : v1 = .int .i64 u := by simpa using e1
  obtain ⟨a, len, cap, rfl⟩ : ∃ a len cap, v2 = .slice a len cap := by
    rcases DataW.trod_slice hs t2 with ⟨e, _⟩ | ⟨a, len, cap, _, _, _, _, e, _⟩
    · exact ⟨none, 0, 0, by simpa using e⟩
    · exact ⟨some a, len, cap, by simpa using e⟩
  obtain ⟨rows, r1, r2, r3, r4⟩ := openSlice (B := B) hB (x := y2.1) (p := y2.2) hs hf hc (by decide) ⟨n', by simpa [Value.cells] using t2⟩
  refine ⟨b, u, a, len, cap, rows, hcs0, r1, r2, r3, fun r hr => (r4 r hr).mono ?_⟩
  have hxa : x = .agg (xs.map (·.1)) := congrArg Prod.fst hx
  rw [hxa]
  exact hB.agg _ _ (List.mem_map_of_mem (List.mem_of_getElem? g2))
end
end Go.Proofs
