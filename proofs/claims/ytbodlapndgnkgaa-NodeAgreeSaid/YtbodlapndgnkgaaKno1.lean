/- LAYER 14: replicas and messages, plain and in memory. -/
import Derived.Test.YtbodlapndgnkgaaKr3
set_option linter.all false
set_option linter.constructorNameAsVariable false
namespace Go.Proofs
open Go Go.KC

theorem push_facts {H H' : Hp} {o : Obj} (e : H' = Array.push H o) : H'[H.size]? = some o ∧ Mod (fun _ => False) H H' ∧ H'.size = H.size + 1 := by
  subst e; exact ⟨get_push_new _ _, Mod.push _ _ _, by simp⟩
theorem hole_facts {H H' : Hp} {n : Nat} (e : H' = holes H n) : Mod (fun _ => False) H H' ∧ H'.size = H.size + n := by
  subst e; exact ⟨Mod.holes _ _ _, size_holes _ _⟩

/-- A replica; a message (of a state only what it has of the log). -/
structure Nd where
  id : Int
  term : Int
  vote : Int
  base : Int
  bt : Int
  es : List En
  role : Int
  com : Int
  v0 : Bool
  v1 : Bool
  v2 : Bool
  m0 : Int
  m1 : Int
  m2 : Int
  n0 : Int
  n1 : Int
  n2 : Int
  quiet : Int
structure Mg where
  kind : Int
  frm : Int
  to : Int
  term : Int
  index : Int
  lt : Int
  ok : Bool
  com : Int
  es : List En
  st : Option (Int × Int)
def Nd.cells (n : Nd) (x : Sl) : List Value := [.int .i64 n.id, .int .i64 n.term, .int .i64 n.vote, .int .i64 n.base, .int .i64 n.bt, .slice x.a x.len x.cap, .int .i64 n.role, .int .i64 n.com, .bool n.v0, .bool n.v1, .bool n.v2, .int .i64 n.m0, .int .i64 n.m1, .int .i64 n.m2, .int .i64 n.n0, .int .i64 n.n1, .int .i64 n.n2, .int .i64 n.quiet]
abbrev Nd.val (n : Nd) (x : Sl) : Value := .agg #[.int .i64 n.id, .int .i64 n.term, .int .i64 n.vote, .int .i64 n.base, .int .i64 n.bt, .slice x.a x.len x.cap, .int .i64 n.role, .int .i64 n.com, .bool n.v0, .bool n.v1, .bool n.v2, .int .i64 n.m0, .int .i64 n.m1, .int .i64 n.m2, .int .i64 n.n0, .int .i64 n.n1, .int .i64 n.n2, .int .i64 n.quiet]
def Mg.cells (m : Mg) (x : Sl) (p : Option Addr) : List Value := [.int .i64 m.kind, .int .i64 m.frm, .int .i64 m.to, .int .i64 m.term, .int .i64 m.index, .int .i64 m.lt, .bool m.ok, .int .i64 m.com, .slice x.a x.len x.cap, .pointer p]
abbrev Mg.val (m : Mg) (x : Sl) (p : Option Addr) : Value := .agg #[.int .i64 m.kind, .int .i64 m.frm, .int .i64 m.to, .int .i64 m.term, .int .i64 m.index, .int .i64 m.lt, .bool m.ok, .int .i64 m.com, .slice x.a x.len x.cap, .pointer p]
def Nd.last (n : Nd) : Int := n.base + n.es.length
def Nd.lastT (n : Nd) : Int := lastTerm n.base n.bt n.es
def Nd.at (n : Nd) (i : Int) : Int × Bool := termAt n.base n.bt n.es i
/-- Numbers of a replica that the walks need. -/
structure Nd.Fit (n : Nd) : Prop where
  idb : 0 ≤ n.id ∧ n.id < 3
  bb : 0 ≤ n.base ∧ n.base ≤ 2000000
  el : n.es.length ≤ 2000000

/-- A replica in a block of its own; a message. -/
def NB (H : Hp) (b : Nat) (n : Nd) (x : Sl) : Prop := H[b]? = some (.cells (n.cells x).toArray T_node_Node (0, 0))
def MB (H : Hp) (b : Nat) (m : Mg) (x : Sl) (p : Option Addr) : Prop := H[b]? = some (.cells (m.cells x p).toArray T_node_Msg (0, 0))
section
variable {H H' : Hp} {b : Nat} {cs : List Value} {T : TypeId}
theorem blk_cell (h : H[b]? = some (.cells cs.toArray T (0, 0))) {i : Nat} {v : Value} (hv : cs[i]? = some v) : Hp.cell? H ((Addr.mk b 0 none).add i) = some v := by
  rw [Addr.add_loc, cell_of h, Nat.zero_add]; simpa using hv
theorem blk_cell0 (h : H[b]? = some (.cells cs.toArray T (0, 0))) {v : Value} (hv : cs[0]? = some v) : Hp.cell? H (Addr.mk b 0 none) = some v := by
  rw [cell_of h]; simpa using hv
theorem blk_row (h : H[b]? = some (.cells cs.toArray T (0, 0))) {i : Nat} {l : List Value} (hl : l = (cs.drop i).take l.length) : RowAt H ((Addr.mk b 0 none).add i) l := fun j v hj => by
  rw [Addr.add_loc, Addr.add_loc, cell_of h]
  rw [hl, List.getElem?_take] at hj
  split at hj
  · rw [List.getElem?_drop] at hj
    simp only [List.getElem?_toArray]
    rw [show 0 + i + j = i + j by omega]; exact hj
  · cases hj
theorem blk_row0 (h : H[b]? = some (.cells cs.toArray T (0, 0))) {l : List Value} (hl : l = cs.take l.length) : RowAt H (Addr.mk b 0 none) l := fun j v hj => by
  rw [Addr.add_loc, cell_of h, Nat.zero_add]
  rw [hl, List.getElem?_take] at hj
  split at hj
  · simpa using hj
  · cases hj
theorem blk_wr (h : H[b]? = some (.cells cs.toArray T (0, 0))) {i k : Nat} (hk : i + k ≤ cs.length) : WrAt H ((Addr.mk b 0 none).add i) k := fun j hj => by
  have := wr_one (o := i + j) h (by simp; omega) 0 (by omega)
  rw [Addr.add_loc] at this
  rw [Addr.add_loc, Addr.add_loc, Nat.zero_add]
  simpa using this
theorem blk_wr0 (h : H[b]? = some (.cells cs.toArray T (0, 0))) {k : Nat} (hk : k ≤ cs.length) : WrAt H (Addr.mk b 0 none) k := fun j hj => by
  have := wr_one (o := j) h (by simp; omega) 0 (by omega)
  rw [Addr.add_loc] at this
  rw [Addr.add_loc, Nat.zero_add]
  simpa using this
theorem blk_set (h : H[b]? = some (.cells cs.toArray T (0, 0))) {i : Nat} {vs cs' : List Value} (e : H' = Hp.setCells H ((Addr.mk b 0 none).add i) vs 0) (hk : i + vs.length ≤ cs.length) (hc : cs' = cs.take i ++ vs ++ cs.drop (i + vs.length)) :
    H'[b]? = some (.cells cs'.toArray T (0, 0)) ∧ Mod (· = b) H H' := by
  subst e
  rw [Addr.add_loc]
  refine ⟨?_, ⟨Nat.le_of_eq (size_setCells _ _ _).symm, fun q hq hb => get_setCells_ne (fun e => hb e) _ _ _⟩⟩
  have := get_setCells vs (0 + i) 0 H _ h (by simp; omega)
  rw [hc]
  simpa using this
theorem blk_set0 (h : H[b]? = some (.cells cs.toArray T (0, 0))) {vs cs' : List Value} (e : H' = Hp.setCells H (Addr.mk b 0 none) vs 0) (hk : vs.length ≤ cs.length) (hc : cs' = vs ++ cs.drop vs.length) :
    H'[b]? = some (.cells cs'.toArray T (0, 0)) ∧ Mod (· = b) H H' := by
  subst e
  refine ⟨?_, ⟨Nat.le_of_eq (size_setCells _ _ _).symm, fun q hq hb => get_setCells_ne (fun e => hb e) _ _ _⟩⟩
  have := get_setCells vs 0 0 H _ h (by simp; omega)
  rw [hc]
  simpa using this
theorem blk_set1 (h : H[b]? = some (.cells cs.toArray T (0, 0))) {i : Nat} {v : Value} {cs' : List Value} (e : H' = Hp.setCell H ((Addr.mk b 0 none).add i) v) (hk : i < cs.length) (hc : cs' = cs.set i v) :
    H'[b]? = some (.cells cs'.toArray T (0, 0)) ∧ Mod (· = b) H H' := by
  subst e
  rw [Addr.add_loc, Nat.zero_add]
  refine ⟨?_, Mod.setCell _ _ _ rfl⟩
  have := get_setCell (o := i) v h
  rw [hc]
  simpa [Array.setIfInBounds, hk] using this
end
section
variable {H H' : Hp} {b : Nat} {n n' : Nd} {x y : Sl}
theorem NB.keep {μ : Nat → Prop} (h : NB H b n x) (m : Mod μ H H') (hb : ¬ μ b) : NB H' b n x := m.get h hb
theorem NB.log (h : NB H b n x) : RowAt H ((Addr.mk b 0 none).add 3) [.int .i64 n.base, .int .i64 n.bt, .slice x.a x.len x.cap] := blk_row h rfl
theorem NB.all (h : NB H b n x) : RowAt H (Addr.mk b 0 none) (n.cells x) := blk_row0 h rfl
theorem MB.keep {μ : Nat → Prop} {m : Mg} {p : Option Addr} (h : MB H b m x p) (mm : Mod μ H H') (hb : ¬ μ b) : MB H' b m x p := mm.get h hb
end

/-- A message in a row: what it says, where its entries are, where its state is. -/
structure Mh where
  m : Mg
  x : Sl
  p : Option Addr
def Mh.cells (h : Mh) : List Value := h.m.cells h.x h.p
theorem Mh.cells_len (h : Mh) : h.cells.length = 10 := rfl
theorem Mh.cells_one (h : Mh) : allOne h.cells = true := rfl
/-- What a state pointer tells. -/
def StAt (H : Hp) (p : Option Addr) : Option (Int × Int) → Prop
  | none => p = none
  | some (i, t) => ∃ a, p = some a ∧ ∃ ps xs : Sl, RowAt H a [.int .i64 i, .int .i64 t, .slice ps.a ps.len ps.cap, .slice xs.a xs.len xs.cap]
def ptrBlk : Option Addr → List Nat
  | none => []
  | some a => [a.block]
def MgH (H : Hp) (h : Mh) : Prop := Lr H h.x h.m.es ∧ StAt H h.p h.m.st
theorem StAt.keep {H H' : Hp} {p : Option Addr} {s : Option (Int × Int)} {μ : Nat → Prop} (h : StAt H p s) (m : Mod μ H H') (hb : ∀ q ∈ ptrBlk p, ¬ μ q) : StAt H' p s := by
  cases s with
  | none => exact h
  | some s =>
    obtain ⟨a, rfl, ps, xs, h⟩ := h
    exact ⟨a, rfl, ps, xs, rowAt_keep h m (hb a.block (by simp [ptrBlk]))⟩
theorem MgH.mod {H H' : Hp} {h : Mh} (g : MgH H h) (m : Mod (fun _ => False) H H') : MgH H' h := ⟨g.1.mod m, g.2.keep m fun _ _ e => e⟩
theorem MgH.keep {H H' : Hp} {h : Mh} {μ : Nat → Prop} (g : MgH H h) (m : Mod μ H H') (hx : ∀ q ∈ h.x.blk, ¬ μ q) (hp : ∀ q ∈ ptrBlk h.p, ¬ μ q) : MgH H' h := ⟨Rows.keep g.1 m hx, g.2.keep m hp⟩
/-- Messages that were made since H. -/
def MsO (H H' : Hp) (y : Sl) (ms : List Mg) : Prop := ∃ l : List Mh, l.map Mh.m = ms ∧ Own H' y T_node_Msg 10 (l.map Mh.cells).flatten ∧ (∀ q ∈ y.blk, H.size ≤ q) ∧ Mod (fun _ => False) H H' ∧
  ∀ h ∈ l, MgH H' h ∧ (∀ q ∈ h.x.blk, H.size ≤ q ∧ q < H'.size ∧ q ∉ y.blk) ∧ ∀ q ∈ ptrBlk h.p, H.size ≤ q ∧ q < H'.size ∧ q ∉ y.blk
theorem msg_inf : (Try.prog.info? T_node_Msg).map (fun i => (i.zero, i.size, i.bytes)) = some (some (.agg #[.int .i64 0, .int .i64 0, .int .i64 0, .int .i64 0, .int .i64 0, .int .i64 0, .bool false, .int .i64 0, .slice none 0 0, .pointer none]), 10, 96) := by kernel_rfl
theorem und_msgs : Try.prog.underlying T_sl_node_Msg = some (.slice T_node_Msg) := by kernel_rfl
theorem msg_info : ∃ ti, Try.prog.info? T_node_Msg = some ti ∧ ti.zero = some (.agg #[.int .i64 0, .int .i64 0, .int .i64 0, .int .i64 0, .int .i64 0, .int .i64 0, .bool false, .int .i64 0, .slice none 0 0, .pointer none]) ∧ ti.size = 10 ∧ ti.bytes = 96 := by
  have h := msg_inf
  cases hi : Try.prog.info? T_node_Msg with
  | none => rw [hi] at h; cases h
  | some ti =>
    rw [hi] at h
    simp only [Option.map_some, Option.some.injEq, Prod.mk.injEq] at h
    exact ⟨ti, rfl, h.1, h.2.1, h.2.2⟩
theorem flat_len10 : ∀ l : List Mh, (l.map Mh.cells).flatten.length = l.length * 10
  | [] => rfl
  | p :: l => by rw [List.map_cons, List.flatten_cons, List.length_append, flat_len10 l, List.length_cons, Mh.cells_len]; omega
theorem allOne_append {a b : List Value} : allOne (a ++ b) = (allOne a && allOne b) := by
  induction a with
  | nil => rfl
  | cons v r ih => simp [allOne, ih, Bool.and_assoc]
theorem allOne_flat10 : ∀ l : List Mh, allOne (l.map Mh.cells).flatten = true
  | [] => rfl
  | a :: l => by rw [List.map_cons, List.flatten_cons, allOne_append, Mh.cells_one, allOne_flat10 l]; rfl
/-- Messages are put behind others. -/
theorem msg_app {H : Hp} {x : Sl} {l k : List Mh} {src : Value} {K : Sl → Hp → Prop} (h : Own H x T_node_Msg 10 (l.map Mh.cells).flatten) (hs : SrcAt H 10 (srcLen src) src (k.map Mh.cells).flatten) (hk : k.length = srcLen src) (hl : x.len + k.length ≤ 1000000)
    (hK : ∀ x' H', Own H' x' T_node_Msg 10 ((l ++ k).map Mh.cells).flatten → Mod (· ∈ x.blk) H H' → (∀ b ∈ x'.blk, b ∈ x.blk ∨ b = H.size) → K x' H') :
    vApp Try.prog T_sl_node_Msg x.a x.len x.cap src H K := by
  obtain ⟨ti, hi, hz, hs10, hby⟩ := msg_info
  refine Own.app (e := T_node_Msg) (ti := ti) (z := _) (cs := (l.map Mh.cells).flatten) (news := (k.map Mh.cells).flatten) (by rw [hs10]; exact h) und_msgs hi hz (by rw [hs10]; rfl) (by omega) (by rw [hs10]; exact hs) (by rw [flat_len10, hs10, hk]) (allOne_flat10 k) ?_ ?_
  · rw [hby, ← hk]; omega
  · intro x' H' q1 q2 q3 q4 _
    rw [hs10] at q1
    exact hK x' H' (by rw [List.map_append, List.flatten_append]; exact q1) q3 q4
end Go.Proofs
