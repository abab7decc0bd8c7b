/- LAYER 14: an argument that is a message, opened. -/
import Derived.Test.YtbodlapndgnkgaaKno17
set_option linter.all false
set_option linter.constructorNameAsVariable false
set_option maxRecDepth 100000
namespace Go.Proofs
open Go Go.KC Go.WideShapes Go.ChangeShapes Go.RowKit

def partsAt (d : Option TypeDesc) : List (TypeId × Nat) := match d with
  | some (.struct fs) => fs.toList.map fun f => (f.type, f.offset)
  | _ => []
theorem partsAt_of {d : Option TypeDesc} {q : TypeId × Nat} {l : List (TypeId × Nat)} (h : partsAt d = q :: l) : ∃ fs : Array Field, d = some (.struct fs) ∧ fs.toList.map (fun f => (f.type, f.offset)) = q :: l := by
  unfold partsAt at h
  split at h
  · exact ⟨_, rfl, h⟩
  · cases h
def kMg : List CK := [.it .i64, .it .i64, .it .i64, .it .i64, .it .i64, .it .i64, .bo, .it .i64, .sl, .pt]
def kSt : List CK := [.it .i64, .it .i64, .sl, .sl]
theorem fl_Msg : flat Try.prog 4 T_node_Msg = some kMg := by kernel_rfl
theorem fl_State : flat Try.prog 4 T_api_State = some kSt := by kernel_rfl
theorem fl_En : flat Try.prog 4 T_api_Entry = some kEn := by kernel_rfl
theorem ce_En : Try.prog.cellsOf T_api_Entry = 8 := by kernel_rfl
theorem ce_State : Try.prog.cellsOf T_api_State = 4 := by kernel_rfl
theorem ce_sl : Try.prog.cellsOf T_sl_api_Entry = 1 := by kernel_rfl
theorem ce_pt : Try.prog.cellsOf T_p_api_State = 1 := by kernel_rfl
theorem u_sl : Try.prog.underlying T_sl_api_Entry = some (.slice T_api_Entry) := by kernel_rfl
theorem u_pt : Try.prog.underlying T_p_api_State = some (.pointer T_api_State) := by kernel_rfl
theorem ct_Msg : (Try.prog.cellTypes Try.prog.depth T_node_Msg).map (fun l => (l.length, l[8]?)) = some (10, some T_sl_api_Entry) := by kernel_rfl
theorem pt_Msg : (partsAt (Try.prog.underlying T_node_Msg)).drop 8 = [(T_sl_api_Entry, 8), (T_p_api_State, 9)] ∧ (partsAt (Try.prog.underlying T_node_Msg)).length = 10 := by
  constructor <;> kernel_rfl
theorem i64_of {n : Int} (h : (Lit.int .i64 n).wf = true) : -9223372036854775808 ≤ n ∧ n ≤ 9223372036854775807 := by
  have h1 : (decide (-9223372036854775808 ≤ n) && decide (n ≤ 9223372036854775807)) = true := h
  simpa using h1
theorem cell_lt {H : Hp} {a : Addr} {v : Value} (h : Hp.cell? H a = some v) : a.block < H.size := by
  unfold Hp.cell? at h
  cases hg : H[a.block]? with
  | none => rw [hg] at h; cases h
  | some o => exact lt_of_get hg
section
variable {H : Type} {enc : TypeId × Value → H} {W : World} {base : Nat} {spare : Nat → Bool} {held : Bool} {B : DataW H → Nat}
theorem openMsg (hB : BulkOf B) {cs : Array Value} {x : DataW H} {p : List MemPlace} {r : Reach} {b0 : Nat} (hw : Value.okWide Try.prog W r b0 T_node_Msg (.agg cs)) (h : DataW.Trod enc Try.prog W base spare held T_node_Msg (.agg cs) x p) :
    ∃ (m : Mg) (mx : Sl) (pt : Option Addr), cs = #[.int .i64 m.kind, .int .i64 m.frm, .int .i64 m.to, .int .i64 m.term, .int .i64 m.index, .int .i64 m.lt, .bool m.ok, .int .i64 m.com, .slice mx.a mx.len mx.cap, .pointer pt] ∧ MOk W.heap m mx pt := by
  have hfit := openFlat hB fl_Msg h
  have hcells : (Value.agg cs).cells = cs := rfl
  rw [hcells] at hfit
  obtain ⟨v0, r0, e0, ⟨n0, rfl, _⟩, h0⟩ := Fits.cons_inv hfit
  obtain ⟨v1, r1, rfl, ⟨n1, rfl, _⟩, h1⟩ := Fits.cons_inv h0
  obtain ⟨v2, r2, rfl, ⟨n2, rfl, _⟩, h2⟩ := Fits.cons_inv h1
  obtain ⟨v3, r3, rfl, ⟨n3, rfl, _⟩, h3⟩ := Fits.cons_inv h2
  obtain ⟨v4, r4, rfl, ⟨n4, rfl, w4⟩, h4⟩ := Fits.cons_inv h3
  obtain ⟨v5, r5, rfl, ⟨n5, rfl, _⟩, h5⟩ := Fits.cons_inv h4
  obtain ⟨v6, r6, rfl, ⟨b6, rfl⟩, h6⟩ := Fits.cons_inv h5
  obtain ⟨v7, r7, rfl, ⟨n7, rfl, _⟩, h7⟩ := Fits.cons_inv h6
  obtain ⟨v8, r8, rfl, ⟨mx, rfl⟩, h8⟩ := Fits.cons_inv h7
  obtain ⟨v9, r9, rfl, ⟨pt, rfl⟩, h9⟩ := Fits.cons_inv h8
  obtain rfl := Fits.nil_inv h9
  have ecs : cs = #[.int .i64 n0, .int .i64 n1, .int .i64 n2, .int .i64 n3, .int .i64 n4, .int .i64 n5, .bool b6, .int .i64 n7, .slice mx.a mx.len mx.cap, .pointer pt] := by
    rw [← Array.toArray_toList (xs := cs), e0]
  obtain ⟨fd, fl⟩ := pt_Msg
  obtain ⟨fs, hu, hm⟩ : ∃ fs : Array Field, Try.prog.underlying T_node_Msg = some (.struct fs) ∧ fs.toList.map (fun f => (f.type, f.offset)) = partsAt (Try.prog.underlying T_node_Msg) := by
    cases hp : partsAt (Try.prog.underlying T_node_Msg) with
    | nil => rw [hp] at fl; cases fl
    | cons q l =>
      obtain ⟨fs, hu, hm⟩ := partsAt_of hp
      exact ⟨fs, hu, hm⟩
  obtain ⟨n, htr⟩ := h
  obtain ⟨xs, n', _, hx, hl, hxl, hfd⟩ := DataW.trod_struct hu htr
  have part : ∀ (i : Nat) (q : TypeId × Nat), (partsAt (Try.prog.underlying T_node_Msg))[i]? = some q → ∃ y, DataW.trod enc Try.prog W base spare held n' q.1 ((cs.toList.drop q.2).take (Try.prog.cellsOf q.1)) = some y := by
    intro i q hq
    rw [← hm, List.getElem?_map] at hq
    obtain ⟨f, hf1, rfl⟩ := Option.map_eq_some_iff.1 hq
    have hi : i < xs.length := by have := (List.getElem?_eq_some_iff.1 hf1).1; rw [hxl]; simpa using this
    refine ⟨xs[i], ?_⟩
    have := hfd i f (by simpa using hf1)
    rw [List.getElem?_eq_getElem hi] at this
    exact this
  have q8 : (partsAt (Try.prog.underlying T_node_Msg))[8]? = some (T_sl_api_Entry, 8) := by
    have := congrArg (fun l => l[0]?) fd
    rw [List.getElem?_drop] at this
    simpa using this
  have q9 : (partsAt (Try.prog.underlying T_node_Msg))[9]? = some (T_p_api_State, 9) := by
    have := congrArg (fun l => l[1]?) fd
    rw [List.getElem?_drop] at this
    simpa using this
  obtain ⟨y8, t8⟩ := part 8 _ q8
  obtain ⟨y9, t9⟩ := part 9 _ q9
  rw [e0] at t8 t9
  have t8 : DataW.trod enc Try.prog W base spare held n' T_sl_api_Entry [.slice mx.a mx.len mx.cap] = some y8 := by
    have e : Try.prog.cellsOf T_sl_api_Entry = 1 := ce_sl
    simp only [e] at t8
    exact t8
  have t9 : DataW.trod enc Try.prog W base spare held n' T_p_api_State [.pointer pt] = some y9 := by
    have e : Try.prog.cellsOf T_p_api_State = 1 := ce_pt
    simp only [e] at t9
    exact t9
  obtain ⟨rows, s1, s2, s3, s4⟩ := openSlice (B := B) hB (x := y8.1) (p := y8.2) u_sl fl_En ce_En (by decide) ⟨n', by simpa [Value.cells] using t8⟩
  obtain ⟨es, rfl, _⟩ := entsOf s4
  -- the state
  obtain ⟨st, hst, hpb⟩ : ∃ st : Option (Int × Int), StAt W.heap pt st ∧ ∀ q ∈ ptrBlk pt, q < W.heap.size := by
    rcases DataW.trod_pointer u_pt t9 with ⟨e, _⟩ | ⟨a, cs', y, n'', _, e, _, hc, ht⟩
    · have : pt = none := by simpa using e
      subst this
      exact ⟨none, rfl, by simp [ptrBlk]⟩
    · have : pt = some a := by simpa using e
      subst this
      rw [ce_State] at hc
      have hrow := cells_row hc
      have hf := flat_fits hB 4 T_api_State kSt n'' cs' y fl_State ht
      obtain ⟨u0, k0, rfl, ⟨i, rfl, _⟩, g0⟩ := Fits.cons_inv hf
      obtain ⟨u1, k1, rfl, ⟨t, rfl, _⟩, g1⟩ := Fits.cons_inv g0
      obtain ⟨u2, k2, rfl, ⟨ps, rfl⟩, g2⟩ := Fits.cons_inv g1
      obtain ⟨u3, k3, rfl, ⟨ss, rfl⟩, g3⟩ := Fits.cons_inv g2
      obtain rfl := Fits.nil_inv g3
      refine ⟨some (i, t), ⟨a, rfl, ps, ss, hrow⟩, fun q hq => ?_⟩
      have hq : q = a.block := by simpa [ptrBlk] using hq
      have := hrow 0 _ rfl
      rw [add_zero_of] at this
      rw [hq]; exact cell_lt this
  have hbl : ∀ q ∈ mx.blk, q < W.heap.size := by
    intro q hq
    cases ha : mx.a with
    | none => unfold Sl.blk at hq; rw [ha] at hq; simp at hq
    | some a =>
      have hq : q = a.block := by unfold Sl.blk at hq; rw [ha] at hq; simpa using hq
      rw [hq]
      simp only [Value.okWide, hu] at hw
      obtain ⟨cs2, ec, _, ts, hts, _, hall⟩ := hw
      injection ec with ec
      subst ec
      obtain ⟨u, hu8, hok⟩ := hall 8 (.slice mx.a mx.len mx.cap) (by rw [ecs]; rfl)
      have hct := ct_Msg
      rw [hts] at hct
      simp only [Option.map_some, Option.some.injEq, Prod.mk.injEq] at hct
      rw [hct.1, show 8 % 10 = 8 from rfl, hct.2] at hu8
      cases hu8
      rw [ha] at hok
      simp only [Cell.okWide, u_sl, Cell.ok] at hok
      obtain ⟨_, _, _, _, row, cells, hs, _⟩ := hok
      unfold World.shape? at hs
      cases hg : W.heap[a.block]? with
      | none => rw [hg] at hs; cases hs
      | some o => exact (Array.getElem?_eq_some_iff.1 hg).1
  refine ⟨⟨n0, n1, n2, n3, n4, n5, b6, n7, es, st⟩, mx, pt, ecs, ⟨s3, hst, hbl, hpb, i64_of w4, ?_⟩⟩
  have h1 := s3.2.1
  have h2 : maxLen ≤ 9223372036854775807 := by decide
  dsimp only at h1
  omega
end
end Go.Proofs
