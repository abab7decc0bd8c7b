/- THE CORE, part 1: heaps with hidden blocks; a call seen from a heap in which what the caller keeps to itself is hidden. Generic: over any program. -/
import Derived.Calls
import Derived.LoopN
import Derived.Orders
import Derived.KernelRfl
import Derived.Tactics
import Derived.Laws.Entries
import Derived.Laws.Cells
import Derived.Laws.StructEq
import Derived.ChangeKeysEq
set_option linter.all false
set_option linter.constructorNameAsVariable false
namespace Go.KC

abbrev Hp := Array Obj

/-- What stands in a hidden place: no object that Go code here ever meets. -/
def hole : Obj := .number ⟨0, 0, none⟩ true

def Hp.cell? (H : Hp) (a : Addr) : Option Value :=
  match H[a.block]? with
  | some (.cells c _ _) => if a.spot.isSome then none else c[a.off]?
  | _ => none

def Hp.frozen? (H : Hp) (a : Addr) : Bool :=
  match H[a.block]? with
  | some (.cells _ _ (lo, hi)) => lo ≤ a.off && a.off < hi
  | _ => false

def Hp.setCell (H : Hp) (a : Addr) (v : Value) : Hp :=
  H.modify a.block fun
    | .cells c elem frozen => .cells (if a.spot.isSome then c else c.setIfInBounds a.off v) elem frozen
    | o => o

def Hp.setCells (H : Hp) (a : Addr) : List Value → Nat → Hp
  | [], _ => H
  | v :: r, i => Hp.setCells (Hp.setCell H (a.add i) v) a r (i + 1)

theorem cell?_world (w : World) (a : Addr) : w.cell? a = Hp.cell? w.heap a := rfl
theorem frozen?_world (w : World) (a : Addr) : w.frozen? a = Hp.frozen? w.heap a := rfl
theorem setCell_world (w : World) (a : Addr) (v : Value) : (w.setCell a v).heap = Hp.setCell w.heap a v := rfl

/-- H is h, but for what M hides. -/
structure Hides (M : Nat → Prop) (h H : Hp) : Prop where
  size : H.size = h.size
  lt : ∀ b, M b → b < h.size
  same : ∀ b, ¬ M b → H[b]? = h[b]?
  hid : ∀ b, M b → H[b]? = some hole

structure Strm (w w' : World) : Prop where
  os : w'.os = w.os
  tape : w'.tape = w.tape
  output : w'.output = w.output

structure Aft (M : Nat → Prop) (w w' : World) : Prop where
  strm : Strm w w'
  size : w.heap.size ≤ w'.heap.size
  keep : ∀ b, M b → w'.heap[b]? = w.heap[b]?

theorem Strm.refl (w : World) : Strm w w := ⟨rfl, rfl, rfl⟩
theorem Strm.trans {a b c : World} (h : Strm a b) (k : Strm b c) : Strm a c := ⟨k.os.trans h.os, k.tape.trans h.tape, k.output.trans h.output⟩
theorem Aft.refl (M : Nat → Prop) (w : World) : Aft M w w := ⟨.refl w, Nat.le_refl _, fun _ _ => rfl⟩

/-- A call, whatever is hidden: it ends, it leaves what is hidden alone, and of its answer and of the heap behind it Q holds. -/
def SCalls (P : Program) (f : FuncId) (args : List Value) (H : Hp) (Q : Value → Hp → Prop) : Prop :=
  ∀ (M : Nat → Prop) (w : World), Hides M w.heap H → Calls P f args.toArray w fun e w' =>
    ∃ r H' M', e = .returned r ∧ Aft M w w' ∧ (∀ b, b < w.heap.size → (M' b ↔ M b)) ∧ Hides M' w'.heap H' ∧ Q r H'

theorem SCalls.mono {P : Program} {f : FuncId} {args : List Value} {H : Hp} {Q Q' : Value → Hp → Prop} (h : SCalls P f args H Q)
    (hq : ∀ r H', Q r H' → Q' r H') : SCalls P f args H Q' :=
  fun M w hh => (h M w hh).mono fun _ _ ⟨r, H', M', he, ha, hm, hd, q⟩ => ⟨r, H', M', he, ha, hm, hd, hq _ _ q⟩

theorem Hides.refl (h : Hp) : Hides (fun _ => False) h h := ⟨rfl, fun _ f => f.elim, fun _ _ => rfl, fun _ f => f.elim⟩

section
variable {M : Nat → Prop} {h H : Hp}

theorem Hides.of_some {b : Nat} {o : Obj} (hh : Hides M h H) (hb : H[b]? = some o) (ho : o ≠ hole) : ¬ M b ∧ h[b]? = some o := by
  by_cases hm : M b
  · have := hh.hid b hm
    rw [hb] at this
    exact absurd (Option.some.inj this) ho
  · exact ⟨hm, (hh.same b hm).symm.trans hb⟩

theorem Hides.cell {a : Addr} {v : Value} (hh : Hides M h H) (hc : Hp.cell? H a = some v) : ¬ M a.block ∧ Hp.cell? h a = some v := by
  unfold Hp.cell? at hc
  cases hb : H[a.block]? with
  | none => simp [hb] at hc
  | some o =>
    cases o with
    | cells c e fz =>
      obtain ⟨h1, h2⟩ := hh.of_some hb (by simp [hole])
      refine ⟨h1, ?_⟩
      simpa [Hp.cell?, h2, hb] using hc
    | _ => simp [hb] at hc

theorem Hides.frozen {a : Addr} (hh : Hides M h H) (hm : ¬ M a.block) : Hp.frozen? H a = Hp.frozen? h a := by
  unfold Hp.frozen?
  rw [hh.same _ hm]

theorem Hides.push {o : Obj} (hh : Hides M h H) : Hides M (h.push o) (H.push o) := by
  refine ⟨by simp [hh.size], fun b hb => ?_, fun b hb => ?_, fun b hb => ?_⟩
  · have := hh.lt b hb; simp; omega
  · rw [Array.getElem?_push, Array.getElem?_push, hh.size, hh.same b hb]
  · have := hh.lt b hb
    rw [Array.getElem?_push, if_neg (by rw [hh.size]; omega)]
    exact hh.hid b hb

/-- A new block that is hidden at once. -/
theorem Hides.pushHid {o : Obj} (hh : Hides M h H) : Hides (fun b => M b ∨ b = h.size) (h.push o) (H.push hole) := by
  refine ⟨by simp [hh.size], fun b hb => ?_, fun b hb => ?_, fun b hb => ?_⟩
  · rcases hb with hb | hb
    · have := hh.lt b hb; simp; omega
    · simp [hb]
  · rw [Array.getElem?_push, Array.getElem?_push, hh.size, if_neg (fun e => hb (Or.inr e)), if_neg (fun e => hb (Or.inr e))]
    exact hh.same b (fun e => hb (Or.inl e))
  · rw [Array.getElem?_push, hh.size]
    rcases hb with hb | hb
    · have := hh.lt b hb
      rw [if_neg (by omega)]; exact hh.hid b hb
    · rw [if_pos hb]

theorem Hp.size_setCell (H : Hp) (a : Addr) (v : Value) : (Hp.setCell H a v).size = H.size := by simp [Hp.setCell]

theorem Hp.getElem?_setCell_ne (H : Hp) (a : Addr) (v : Value) {b : Nat} (hb : b ≠ a.block) : (Hp.setCell H a v)[b]? = H[b]? := by
  simp only [Hp.setCell, Array.getElem?_modify]
  rw [if_neg (Ne.symm hb)]

theorem Hp.getElem?_setCell_same (H : Hp) (a : Addr) (v : Value) {c : Array Value} {e : TypeId} {fz : Nat × Nat} (hb : H[a.block]? = some (.cells c e fz)) :
    (Hp.setCell H a v)[a.block]? = some (.cells (if a.spot.isSome then c else c.setIfInBounds a.off v) e fz) := by
  simp only [Hp.setCell, Array.getElem?_modify, if_true, hb, Option.map_some]

theorem Hides.setCell {a : Addr} {v : Value} (hh : Hides M h H) (hm : ¬ M a.block) : Hides M (Hp.setCell h a v) (Hp.setCell H a v) := by
  refine ⟨by simp [Hp.size_setCell, hh.size], fun b hb => by rw [Hp.size_setCell]; exact hh.lt b hb, fun b hb => ?_, fun b hb => ?_⟩
  · simp only [Hp.setCell, Array.getElem?_modify]
    split
    · rw [hh.same b hb]
    · exact hh.same b hb
  · rw [Hp.getElem?_setCell_ne _ _ _ (fun e => hm (e ▸ hb))]
    exact hh.hid b hb

/-- A store into a hidden block is not seen. -/
theorem Hides.setHid {a : Addr} {v : Value} (hh : Hides M h H) (hm : M a.block) : Hides M (Hp.setCell h a v) H := by
  refine ⟨by simp [Hp.size_setCell, hh.size], fun b hb => by rw [Hp.size_setCell]; exact hh.lt b hb, fun b hb => ?_, hh.hid⟩
  rw [Hp.getElem?_setCell_ne h a v (b := b) (fun e => hb (by rw [e]; exact hm))]
  exact hh.same b hb
end

theorem Aft.push {M : Nat → Prop} {w0 w : World} (h : Aft M w0 w) (hl : ∀ b, M b → b < w0.heap.size) (o : Obj) (d : Nat) : Aft M w0 { w with heap := w.heap.push o, drawn := d } := by
  refine ⟨⟨h.strm.os, h.strm.tape, h.strm.output⟩, Nat.le_trans h.size (by simp), fun b hb => ?_⟩
  have h1 := hl b hb
  have h2 := h.size
  show (w.heap.push o)[b]? = _
  rw [Array.getElem?_push, if_neg (by omega)]
  exact h.keep b hb

theorem Aft.setCell {M : Nat → Prop} {w0 w : World} (h : Aft M w0 w) (a : Addr) (v : Value) (ha : ¬ M a.block) : Aft M w0 (w.setCell a v) := by
  refine ⟨⟨h.strm.os, h.strm.tape, h.strm.output⟩, by simpa [World.setCell] using h.size, fun b hb => ?_⟩
  rw [setCell_world, Hp.getElem?_setCell_ne _ _ _ (fun e => ha (e ▸ hb))]
  exact h.keep b hb

end Go.KC

/- THE CORE, part 2: values of a frame, of which some are addresses of variables that the call keeps to itself; what the pure operations yield. Generic. -/
set_option linter.all false
set_option linter.constructorNameAsVariable false
namespace Go.KC

/-- A value in a slot: a Go value, or the address of a cell of the i-th variable that this call keeps to itself; or an entry of a map: its key and value. -/
inductive AV where
  | v (x : Value)
  | loc (i off : Nat)
  | any
  | ent (k v : Value)

def Conc (bs : List Nat) : AV → Value → Prop
  | .v x, v => v = x
  | .loc i off, v => ∃ b, bs[i]? = some b ∧ v = .pointer (some ⟨b, off, none⟩)
  | .any, _ => True
  | .ent k x, v => v = .tuple #[k, x]

/-- A slice's value. -/
structure Sl where
  a : Option Addr
  len : Nat
  cap : Nat

structure VS where
  fr : List AV
  ls : List (TypeId × List Value)
  H : Hp

def VS.ev (s : VS) : Operand → AV
  | .tmp t => (s.fr[t]?).getD (.v undef)
  | .const v => .v v
  | .global g => .v (.pointer (some ⟨g, 0, none⟩))
  | .func f => .v (.func (.func f) #[] #[])

def VS.put (s : VS) : Option Tmp → AV → VS
  | none, _ => s
  | some d, x => { s with fr := s.fr.set d x }

/-- What is kept at a loop's head: the slots that are named, and the first n of the own variables. -/
def keepFr (lv : List Nat) (n : Nat) : Nat → List AV → List AV
  | _, [] => []
  | i, x :: r => (match lv.contains i, x with
    | true, .loc j off => (match Nat.blt j n with | true => .loc j off | false => .any)
    | true, x => x
    | false, _ => .any) :: keepFr lv n (i + 1) r

def VS.keep (s : VS) (lv : List Nat) (n : Nat) : VS := { s with fr := keepFr lv n 0 s.fr, ls := s.ls.take n }

/-- Both ways of a test. -/
def Br (b : Bool) (A B : Prop) : Prop := match b with | true => A | false => B

theorem Br.mk {b : Bool} {A B : Prop} (h : b = true → A) (k : b = false → B) : Br b A B := by cases b; exact k rfl; exact h rfl
theorem Br.yes {b : Bool} {A B : Prop} (h : b = true) (k : A) : Br b A B := by subst h; exact k
theorem Br.no {b : Bool} {A B : Prop} (h : b = false) (k : B) : Br b A B := by subst h; exact k

def vPtr (p : Option Addr) (K : Addr → Prop) : Prop := match p with | some a => K a | none => False
theorem vPtr.mk {p : Option Addr} {K : Addr → Prop} (a : Addr) (h : p = some a) (k : K a) : vPtr p K := by subst h; exact k

def isAggD : TypeDesc → Bool
  | .struct _ | .array _ _ => true
  | _ => false

/-- A part of a row of cells: what 'part' reads. -/
def vPart (P : Program) (t : TypeId) (cs : List Value) (off : Nat) (K : Value → Prop) : Prop :=
  match P.underlying t, P.info? t with
  | some d, some ti =>
    match isAggD d with
    | true => K (.agg ((cs.drop off).take ti.size).toArray)
    | false => match cs[off]? with | some v => K v | none => False
  | _, _ => False

def eqS.partV (P : Program) (t : TypeId) (cs : Array Value) (off : Nat) : Option Value :=
  match P.underlying t, P.info? t with
  | some d, some ti =>
    match isAggD d with
    | true => some (.agg (cs.extract off (off + ti.size)))
    | false => cs[off]?
  | _, _ => none

def eqS.eqFs (P : Program) (e : TypeId → Value → Value → Option Bool) : List Field → Array Value → Array Value → Option Bool
  | [], _, _ => some true
  | f :: r, xs, ys =>
    match f.name == "_" with
    | true => none
    | false =>
      match eqS.partV P f.type xs f.offset, eqS.partV P f.type ys f.offset with
      | some a, some b =>
        match e f.type a b, eqS.eqFs P e r xs ys with
        | some p, some q => some (p && q)
        | _, _ => none
      | _, _ => none

def eqS.eqIs (P : Program) (q : TypeId → Value → Value → Option Bool) (e : TypeId) (c : Nat) : List Nat → Array Value → Array Value → Option Bool
  | [], _, _ => some true
  | i :: r, xs, ys =>
    match eqS.partV P e xs (i * c), eqS.partV P e ys (i * c) with
    | some a, some b =>
      match q e a b, eqS.eqIs P q e c r xs ys with
      | some p, some q => some (p && q)
      | _, _ => none
    | _, _ => none

def eqS (P : Program) : Nat → TypeId → Value → Value → Option Bool
  | 0, _, _, _ => none
  | d + 1, t, x, y =>
    match P.underlying t, x, y with
    | some .bool, .bool a, .bool b => some (a == b)
    | some (.int _), .int k a, .int k' b => if k = k' then some (a == b) else none
    | some .string, .string a, .string b => some (a == b)
    | some (.struct fs), .agg xs, .agg ys =>
      match P.stoodInHeld t with
      | true => none
      | false => eqS.eqFs P (eqS P d) fs.toList xs ys
    | some (.array n e), .agg xs, .agg ys =>
      match P.info? e with
      | some _ => eqS.eqIs P (eqS P d) e (P.cellsOf e) (List.range n) xs ys
      | none => none
    | _, _, _ => none

def vEq (P : Program) (t : TypeId) (x y : Value) (K : Bool → Prop) : Prop :=
  match x, y with
  | .pointer p, .pointer none => match P.underlying t with | some (.pointer _) => K p.isNone | _ => False
  | .slice a _ _, .slice none _ _ => match P.underlying t with | some (.slice _) => K a.isNone | _ => False
  | .bool a, .bool b => match P.underlying t with | some .bool => K (a == b) | _ => False
  | .agg xs, .agg ys =>
    match P.eqGuardType P.depth t with
    | true => False
    | false => match eqS P 8 t (.agg xs) (.agg ys) with | some b => K b | none => False
  | _, _ => False

def vBin (P : Program) (op : BinOp) (t : TypeId) (x y : Value) (K : Value → Prop) : Prop :=
  match x, y with
  | .int k a, .int k' b =>
    match op with
    | .shl => 0 ≤ b ∧ K (.int k (k.wrap (a * 2 ^ (min b.toNat k.bits))))
    | .shr => 0 ≤ b ∧ K (.int k (a.fdiv (2 ^ (min b.toNat k.bits))))
    | _ =>
      if k = k' then
        match op with
        | .add => K (.int k (k.wrap (a + b)))
        | .sub => K (.int k (k.wrap (a - b)))
        | .mul => K (.int k (k.wrap (a * b)))
        | .quo => b ≠ 0 ∧ K (.int k (k.wrap (a.tdiv b)))
        | .rem => b ≠ 0 ∧ K (.int k (a.tmod b))
        | .and => K (.int k (k.wrap ((BitVec.ofInt k.bits a &&& BitVec.ofInt k.bits b).toNat)))
        | .or => K (.int k (k.wrap ((BitVec.ofInt k.bits a ||| BitVec.ofInt k.bits b).toNat)))
        | .xor => K (.int k (k.wrap ((BitVec.ofInt k.bits a ^^^ BitVec.ofInt k.bits b).toNat)))
        | .andNot => K (.int k (k.wrap ((BitVec.ofInt k.bits a &&& ~~~ BitVec.ofInt k.bits b).toNat)))
        | .eql => K (.bool (a == b))
        | .neq => K (.bool (a != b))
        | .lss => K (.bool (decide (a < b)))
        | .leq => K (.bool (decide (a ≤ b)))
        | .gtr => K (.bool (decide (a > b)))
        | .geq => K (.bool (decide (a ≥ b)))
        | _ => False
      else False
  | .string a, .string b =>
    match op with
    | .add => a.size + b.size ≤ 9223372036854775807 ∧ K (.string (a ++ b))
    | .eql => K (.bool (a.toList == b.toList))
    | .neq => K (.bool (!(a.toList == b.toList)))
    | .lss => K (.bool (Op.bytesLess a.toList b.toList))
    | .leq => K (.bool (Op.bytesLess a.toList b.toList || (a.toList == b.toList)))
    | .gtr => K (.bool (!(Op.bytesLess a.toList b.toList || (a.toList == b.toList))))
    | .geq => K (.bool (!(Op.bytesLess a.toList b.toList)))
    | _ => False
  | x, y =>
    match op with
    | .eql => vEq P t x y fun b => K (.bool b)
    | .neq => vEq P t x y fun b => K (.bool (!b))
    | _ => False

/-- A bound of a slice expression. -/
def vBd (x : Option AV) (dflt top : Nat) (K : Nat → Prop) : Prop :=
  match x with
  | none => K dflt
  | some (.v (.int _ i)) => (0 ≤ i ∧ i ≤ top) ∧ K i.toNat
  | _ => False

def vSlice (P : Program) (t : TypeId) (x : AV) (lo hi mx : Option AV) (K : Value → Prop) : Prop :=
  match x with
  | .v (.string s) =>
    match P.underlying t, mx with
    | some .string, none => vBd hi s.size s.size fun h => vBd lo 0 h fun l => K (.string (s.extract l h))
    | _, _ => False
  | .v (.slice a len cap) =>
    match P.underlying t with
    | some (.slice e) =>
      match P.info? e, hi, mx with
      | some _, none, some _ => False
      | some ti, _, _ =>
        vBd mx cap cap fun m => vBd hi len m fun h => vBd lo 0 h fun l =>
          K (.slice (if m = l then a else a.map (·.add (l * ti.size))) (h - l) (m - l))
      | none, _, _ => False
    | _ => False
  | _ => False

def vFieldAddr (P : Program) (st : TypeId) (x : AV) (f : Nat) (K : AV → Prop) : Prop :=
  match P.underlying st with
  | some (.struct fs) =>
    match fs[f]? with
    | some fd =>
      match P.info? fd.type with
      | some ti =>
        match ti.size with
        | 0 => False
        | _ + 1 => match x with
          | .loc i off => K (.loc i (off + fd.offset))
          | .v (.pointer (some a)) => K (.v (.pointer (some (a.add fd.offset))))
          | _ => False
      | none => False
    | none => False
  | _ => False

def vField (P : Program) (st : TypeId) (x : AV) (f : Nat) (K : Value → Prop) : Prop :=
  match P.underlying st, x with
  | some (.struct fs), .v (.agg cs) =>
    match fs[f]? with
    | some fd => match eqS.partV P fd.type cs fd.offset with | some v => K v | none => False
    | none => False
  | _, _ => False

/-- One of several, by a number. -/
def vSel (i : Int) (l : List Prop) : Prop := match i with
  | .ofNat k => (match l[k]? with | some p => p | none => False)
  | .negSucc _ => False
theorem vSel_elim {i : Int} {n : Nat} {f : Nat → Prop} (hb : 0 ≤ i ∧ i < n) (h : vSel i ((List.range n).map f)) : f i.toNat := by
  obtain ⟨k, rfl⟩ : ∃ k : Nat, i = (k : Int) := ⟨i.toNat, by omega⟩
  have hk : k < n := by omega
  change (match ((List.range n).map f)[k]? with | some p => p | none => False) at h
  rw [List.getElem?_map, List.getElem?_range hk] at h
  exact h
theorem vSel_intro {i : Int} {n : Nat} {f : Nat → Prop} (hb : 0 ≤ i ∧ i < n) (h : f i.toNat) : vSel i ((List.range n).map f) := by
  obtain ⟨k, rfl⟩ : ∃ k : Nat, i = (k : Int) := ⟨i.toNat, by omega⟩
  have hk : k < n := by omega
  show (match ((List.range n).map f)[k]? with | some p => p | none => False)
  rw [List.getElem?_map, List.getElem?_range hk]
  exact h
theorem vSel3 {i : Int} {a b c : Prop} (hb : 0 ≤ i ∧ i < 3) (h0 : i = 0 → a) (h1 : i = 1 → b) (h2 : i = 2 → c) : vSel i [a, b, c] := by
  have : i = 0 ∨ i = 1 ∨ i = 2 := by omega
  rcases this with rfl | rfl | rfl
  · exact h0 rfl
  · exact h1 rfl
  · exact h2 rfl

def vIndexAddr (P : Program) (t : TypeId) (x ix : AV) (K : AV → Prop) : Prop :=
  match ix with
  | .v (.int _ i) =>
    match P.underlying t with
    | some (.slice e) =>
      match P.info? e, x with
      | some ti, .v (.slice a len _) => (0 ≤ i ∧ i < len) ∧ vPtr a fun ad => K (.v (.pointer (some (ad.add (i.toNat * ti.size)))))
      | _, _ => False
    | some (.array n e) =>
      match P.info? e, x with
      | some ti, .v (.pointer (some ad)) => (0 ≤ i ∧ i < n) ∧ K (.v (.pointer (some (ad.add (i.toNat * ti.size)))))
      | some ti, .loc j off => (0 ≤ i ∧ i < n) ∧ vSel i ((List.range n).map fun k => K (.loc j (off + k * ti.size)))
      | _, _ => False
    | _ => False
  | _ => False

def vIndex (P : Program) (t : TypeId) (x ix : AV) (K : Value → Prop) : Prop :=
  match ix with
  | .v (.int _ i) =>
    match P.underlying t, x with
    | some .string, .v (.string s) => ∃ c : UInt8, (0 ≤ i ∧ s[i.toNat]? = some c) ∧ K (.int .u8 c.toNat)
    | some (.array n e), .v (.agg cs) =>
      match P.info? e, P.underlying e with
      | some ti, some .bool => ∃ b : Bool, ((0 ≤ i ∧ i < n) ∧ cs[i.toNat * ti.size]? = some (.bool b)) ∧ K (.bool b)
      | some ti, some (.int k) => ∃ x : Int, ((0 ≤ i ∧ i < n) ∧ cs[i.toNat * ti.size]? = some (.int k x)) ∧ K (.int k x)
      | some ti, _ => (0 ≤ i ∧ i < n) ∧ match eqS.partV P e cs (i.toNat * ti.size) with | some v => K v | none => False
      | none, _ => False
    | _, _ => False
  | _ => False

def evAll (s : VS) : List Operand → Option (List Value)
  | [] => some []
  | x :: r => match s.ev x, evAll s r with | .v a, some b => some (a :: b) | _, _ => none

def placesOf (P : Program) : List Field → Option (List (Nat × Nat))
  | [] => some []
  | f :: r => match P.info? f.type, placesOf P r with | some ti, some b => some ((f.offset, ti.size) :: b) | _, _ => none

def evParts (s : VS) : List (Nat × Operand) → Option (List (Nat × Value))
  | [] => some []
  | (i, x) :: r => match s.ev x, evParts s r with | .v a, some b => some ((i, a) :: b) | _, _ => none

def vBuild (P : Program) (t : TypeId) (parts : Option (List (Nat × Value))) (K : Value → Prop) : Prop :=
  match P.info? t, P.underlying t, parts with
  | some ti, some (.struct fs), some ps =>
    match ti.zero, placesOf P fs.toList with
    | some z, some pl =>
      match Instr.fill (pl[·]?) z.cells ps with
      | some cells => K (.agg cells)
      | none => False
    | _, _ => False
  | some ti, some (.array _ e), some ps =>
    match ti.zero, P.info? e with
    | some z, some te =>
      match Instr.fill (fun i => some (i * te.size, te.size)) z.cells ps with
      | some cells => K (.agg cells)
      | none => False
    | _, _ => False
  | _, _, _ => False

def vMm (mx : Bool) : Value → List Value → (Value → Prop) → Prop
  | x, [], K => K x
  | .int k a, .int _ b :: r, K => vMm mx (.int k (match mx with | true => if b > a then b else a | false => if b < a then b else a)) r K
  | _, _, _ => False

/-- The operations that yield a value out of their operands alone. -/
def vPure (P : Program) (o : Op) (s : VS) (K : AV → Prop) : Prop :=
  match o with
  | .move x | .assign x => K (s.ev x)
  | .pick c a b => match s.ev c with | .v (.bool t) => Br t (K (s.ev a)) (K (s.ev b)) | _ => False
  | .nilCheck x => match s.ev x with
    | .loc i off => K (.loc i off)
    | .v (.pointer p) => vPtr p fun a => K (.v (.pointer (some a)))
    | .v (.func (.func f) fi ca) => K (.v (.func (.func f) fi ca))
    | _ => False
  | .binOp op t x y _ => match s.ev x, s.ev y with | .v a, .v b => vBin P op t a b fun v => K (.v v) | _, _ => False
  | .unOp op _ x => match op, s.ev x with
    | .not, .v (.bool b) => K (.v (.bool (!b)))
    | .neg, .v (.int k n) => K (.v (.int k (k.wrap (0 - n))))
    | .xor, .v (.int k n) => K (.v (.int k (k.wrap ((BitVec.ofInt k.bits (if k.signed then -1 else k.max) ^^^ BitVec.ofInt k.bits n).toNat))))
    | _, _ => False
  | .convert src dst x => match P.underlying src, P.underlying dst, s.ev x with
    | some _, some (.int k), .v (.int _ n) => K (.v (.int k (k.wrap n)))
    | some _, some .string, .v (.string t) => K (.v (.string t))
    | _, _, _ => False
  | .makeFunc fn first captured => match evAll s first.toList, evAll s captured.toList with | some a, some b => K (.v (.func fn a.toArray b.toArray)) | _, _ => False
  | .extract t i => match s.ev t with | .v (.tuple vs) => (match vs[i]? with | some v => K (.v v) | none => False) | _ => False
  | .fieldAddr st x f => vFieldAddr P st (s.ev x) f K
  | .field st x f => vField P st (s.ev x) f fun v => K (.v v)
  | .indexAddr t x ix => vIndexAddr P t (s.ev x) (s.ev ix) K
  | .index t x ix => vIndex P t (s.ev x) (s.ev ix) fun v => K (.v v)
  | .slice t x lo hi mx => vSlice P t (s.ev x) (lo.map s.ev) (hi.map s.ev) (mx.map s.ev) fun v => K (.v v)
  | .build t parts => vBuild P t (evParts s parts.toList) fun v => K (.v v)
  | .call { callee := .builtin b, args := args, argTypes := tys } =>
    match b, evAll s args.toList with
    | .len, some [.string t] => (match (tys[0]?).bind P.underlying with | some .string => K (.v (.int .i64 t.size)) | _ => False)
    | .len, some [.slice _ n _] => (match (tys[0]?).bind P.underlying with | some (.slice _) => K (.v (.int .i64 n)) | _ => False)
    | .cap, some [.slice _ _ c] => (match (tys[0]?).bind P.underlying with | some (.slice _) => K (.v (.int .i64 c)) | _ => False)
    | .max, some (x :: r) => vMm true x r fun v => K (.v v)
    | .min, some (x :: r) => vMm false x r fun v => K (.v v)
    | _, _ => False
  | _ => False

end Go.KC

/- THE CORE, part 3: what part 2 says of the pure operations is what the model does. Generic. -/
set_option linter.all false
set_option linter.constructorNameAsVariable false
namespace Go.KC
variable {P : Program}

theorem partV_run {t : TypeId} {cs : Array Value} {off : Nat} {v : Value} (h : eqS.partV P t cs off = some v) (w : World) :
    (part t cs off).run P w = .ok v w := by
  unfold eqS.partV at h
  split at h
  · rename_i d ti hd hi
    unfold part
    cases d <;> simp_all [isAgg, isAggD, run_underlying hd, sizeOf, typeInfo]
  · cases h

theorem vPart_part {t : TypeId} {cs : Array Value} {off : Nat} {K : Value → Prop} (h : vPart P t cs.toList off K) :
    ∃ v, K v ∧ eqS.partV P t cs off = some v := by
  unfold vPart at h
  unfold eqS.partV
  split at h
  · rename_i d ti hd hi
    split at h
    · rename_i ha
      refine ⟨_, h, ?_⟩
      simp only [ha, Option.some.injEq, Value.agg.injEq]
      apply Array.ext'
      simp [List.extract_eq_take_drop]
    · rename_i ha
      split at h
      · rename_i v hv
        refine ⟨v, h, ?_⟩
        rw [Array.getElem?_toList] at hv
        simpa [ha] using hv
      · exact h.elim
  · exact h.elim

theorem eqS_run : ∀ (d D : Nat), d ≤ D → ∀ (t : TypeId) (x y : Value) (b : Bool), eqS P d t x y = some b → ∀ w, (Op.equalIn D t x y).run P w = .ok b w := by
  intro d
  induction d with
  | zero => intro D _ t x y b h; simp [eqS] at h
  | succ d ih =>
    intro D hD t x y b h w
    obtain ⟨D, rfl⟩ : ∃ e, D = e + 1 := ⟨D - 1, by omega⟩
    unfold eqS at h
    split at h
    · rename_i hu; simp at h; simp [Op.equalIn, run_underlying hu, h]
    · rename_i hu; split at h
      · rename_i hk; simp at h; simp [Op.equalIn, run_underlying hu, hk, h]
      · cases h
    · rename_i hu; simp at h; simp [Op.equalIn, run_underlying hu, h]
    · rename_i fs xs ys hu
      split at h
      · cases h
      · rename_i hst
        have hf : P.fieldsOf t = fs := by simp [Program.fieldsOf, hu]
        rw [run_equalIn_struct (P := P) w D t xs ys (by rw [hf]; exact hu) hst, hf]
        have key : ∀ (l : List Field) (b : Bool), eqS.eqFs P (eqS P d) l xs ys = some b → ∀ w, (Op.eqFields D xs ys l).run P w = .ok b w := by
          intro l
          induction l with
          | nil => intro b h w; simp [eqS.eqFs] at h; simp [Op.eqFields, ← h]
          | cons f r ihr =>
            intro b h w
            unfold eqS.eqFs at h
            split at h
            · cases h
            · rename_i hn
              split at h
              · rename_i pa pb ha hb
                split at h
                · rename_i p q hp hq
                  simp only [Option.some.injEq] at h
                  subst h
                  have e1 := ih D (by omega) f.type pa pb p hp w
                  have hn' : f.name ≠ "_" := by simpa using hn
                  rw [Op.eqFields]
                  simp only [if_pos hn', Sem.run_bind, partV_run ha, partV_run hb, Result.andThen_ok, e1]
                  cases p
                  · simp
                  · simpa using ihr q hq w
                · cases h
              · cases h
        exact key fs.toList b h w
    · rename_i n e xs ys hu
      split at h
      · rename_i ti hi
        rw [run_equalIn_array (P := P) w D xs ys hu hi]
        generalize List.range n = l at h ⊢
        induction l generalizing b w with
        | nil => simp [eqS.eqIs] at h; simp [Op.eqItems, ← h]
        | cons i r ihr =>
          unfold eqS.eqIs at h
          split at h
          · rename_i pa pb ha hb
            split at h
            · rename_i p q hp hq
              simp only [Option.some.injEq] at h
              subst h
              have e1 := ih D (by omega) e pa pb p hp w
              rw [Op.eqItems]
              simp only [Sem.run_bind, partV_run ha, partV_run hb, Result.andThen_ok, e1]
              cases p
              · simp
              · simpa using ihr q w hq
            · cases h
          · cases h
      · cases h
    · cases h

theorem run_guard_agg {op : BinOp} {t : TypeId} {x y : Operand} {a b : Array Value} (h : P.eqGuardType P.depth t = false) (w : World) :
    (eqGuard op t x y (.agg a) (.agg b)).run P w = .ok () w := by
  unfold eqGuard
  cases op <;> simp [h]

/-- A value that is no struct, array or nil interface is not looked into. -/
theorem run_guard_leaf {op : BinOp} {t : TypeId} {x y : Operand} {a b : Value} (h : match a with | .agg _ | .nilIface => False | _ => True) (w : World) :
    (eqGuard op t x y a b).run P w = .ok () w := by
  unfold eqGuard
  cases op <;> (first | rfl | (cases a <;> first | exact h.elim | (cases b <;> rfl)))

theorem eq_ptr {t e : TypeId} {p : Option Addr} (D : Nat) (hu : P.underlying t = some (.pointer e)) (w : World) :
    (Op.equalIn (D + 1) t (.pointer p) (.pointer none)).run P w = .ok p.isNone w := by
  cases p <;> simp [Op.equalIn, run_underlying hu]
theorem eq_slice {t e : TypeId} {a : Option Addr} {l c l' c' : Nat} (D : Nat) (hu : P.underlying t = some (.slice e)) (w : World) :
    (Op.equalIn (D + 1) t (.slice a l c) (.slice none l' c')).run P w = .ok a.isNone w := by
  cases a <;> simp [Op.equalIn, run_underlying hu]
theorem eq_bool {t : TypeId} {a b : Bool} (D : Nat) (hu : P.underlying t = some .bool) (w : World) :
    (Op.equalIn (D + 1) t (.bool a) (.bool b)).run P w = .ok (a == b) w := by
  simp [Op.equalIn, run_underlying hu]

def eqKind : Value → Value → Bool
  | .pointer _, .pointer none => true
  | .slice _ _ _, _ | .bool _, _ | .agg _, _ => true
  | _, _ => false

theorem vEq_run {op : BinOp} {t : TypeId} {xo yo : Operand} {x y : Value} {K : Bool → Prop} (h : vEq P t x y K) :
    ∃ b, K b ∧ (∀ w, (eqGuard op t xo yo x y).run P w = .ok () w ∧ (Op.equal t x y).run P w = .ok b w) ∧
      eqKind x y = true := by
  unfold vEq at h
  split at h
  · rename_i p
    split at h
    · rename_i hu
      exact ⟨_, h, fun w => ⟨run_guard_leaf (by trivial) w, eq_ptr 9999 hu w⟩, rfl⟩
    · exact h.elim
  · split at h
    · rename_i hu
      exact ⟨_, h, fun w => ⟨run_guard_leaf (by trivial) w, eq_slice 9999 hu w⟩, rfl⟩
    · exact h.elim
  · split at h
    · rename_i hu
      exact ⟨_, h, fun w => ⟨run_guard_leaf (by trivial) w, eq_bool 9999 hu w⟩, rfl⟩
    · exact h.elim
  · split at h
    · exact h.elim
    · rename_i hg
      split at h
      · rename_i b hb
        exact ⟨b, h, fun w => ⟨run_guard_agg hg w, eqS_run 8 10000 (by omega) t _ _ b hb w⟩, rfl⟩
      · exact h.elim
  · exact h.elim

theorem bin_eql {t : TypeId} {x y : Value} (hx : eqKind x y = true) : binOp .eql t x y = (do pure (.bool (← Op.equal t x y))) := by
  cases x <;> (try (simp [eqKind] at hx; done)) <;> cases y <;> (first | rfl | (rename_i p q; cases q <;> first | rfl | (simp [eqKind] at hx; done)) | (simp [eqKind] at hx; done))
theorem bin_neq {t : TypeId} {x y : Value} (hx : eqKind x y = true) : binOp .neq t x y = (do pure (.bool (!(← Op.equal t x y)))) := by
  cases x <;> (try (simp [eqKind] at hx; done)) <;> cases y <;> (first | rfl | (rename_i p q; cases q <;> first | rfl | (simp [eqKind] at hx; done)) | (simp [eqKind] at hx; done))

theorem vBin_run {op : BinOp} {t : TypeId} {xo yo : Operand} {x y : Value} {K : Value → Prop} (h : vBin P op t x y K) :
    ∃ v, K v ∧ ∀ w, (do eqGuard op t xo yo x y; binOp op t x y : Sem Value).run P w = .ok v w := by
  unfold vBin at h
  split at h
  · rename_i k a k' b
    have hg : ∀ w, (eqGuard op t xo yo (.int k a) (.int k' b)).run P w = .ok () w := fun w => run_guard_leaf trivial w
    split at h
    · obtain ⟨hb, h⟩ := h
      refine ⟨_, h, fun w => ?_⟩
      simp [hg, binOp, Op.shift, show ¬ b < 0 by omega]
    · obtain ⟨hb, h⟩ := h
      refine ⟨_, h, fun w => ?_⟩
      simp [hg, binOp, Op.shift, show ¬ b < 0 by omega]
    · split at h
      · rename_i hk
        subst hk
        split at h <;> (first | exact h.elim | skip)
        all_goals first
          | (refine ⟨_, h, fun w => ?_⟩; simp [hg, binOp, Op.intArith, Op.intBits, Op.intCmp]; done)
          | (obtain ⟨hb, h⟩ := h; refine ⟨_, h, fun w => ?_⟩; simp [hg, binOp, Op.intDiv, hb]; done)
      · exact h.elim
  · rename_i a b
    have hg : ∀ w, (eqGuard op t xo yo (.string a) (.string b)).run P w = .ok () w := fun w => run_guard_leaf trivial w
    split at h <;> (first | exact h.elim | skip)
    · obtain ⟨hb, h⟩ := h
      refine ⟨_, h, fun w => ?_⟩
      have : ¬ ((a.size + b.size : Nat) : Int) > IntKind.i64.max := by
        show ¬ ((a.size + b.size : Nat) : Int) > 2 ^ 63 - 1
        omega
      simp only [Sem.run_bind, hg, Result.andThen_ok, binOp, Op.stringOp, if_neg this, Sem.run_pure]
    all_goals (refine ⟨_, h, fun w => ?_⟩; simp only [Sem.run_bind, hg, Result.andThen_ok, binOp, Op.stringOp, Sem.run_pure])
  · rename_i x y h1 h2
    split at h <;> (first | exact h.elim | skip)
    · obtain ⟨b, hK, hr, hx⟩ := vEq_run (op := .eql) (xo := xo) (yo := yo) h
      refine ⟨_, hK, fun w => ?_⟩
      obtain ⟨r1, r2⟩ := hr w
      simp only [Sem.run_bind, r1, Result.andThen_ok, bin_eql hx, r2, Sem.run_pure]
    · obtain ⟨b, hK, hr, hx⟩ := vEq_run (op := .neq) (xo := xo) (yo := yo) h
      refine ⟨_, hK, fun w => ?_⟩
      obtain ⟨r1, r2⟩ := hr w
      simp only [Sem.run_bind, r1, Result.andThen_ok, bin_neq hx, r2, Sem.run_pure]
end Go.KC

/- THE CORE, part 4: all pure operations. Generic. -/
set_option linter.all false
set_option linter.constructorNameAsVariable false
namespace Go.KC
variable {P : Program} {bs : List Nat}

theorem Addr.add_loc (b off n : Nat) : (⟨b, off, none⟩ : Addr).add n = ⟨b, off + n, none⟩ := by
  unfold Addr.add; split
  · subst_vars; rfl
  · rfl

inductive ConcO (bs : List Nat) : Option AV → Option Value → Prop
  | none : ConcO bs none none
  | some {x : AV} {v : Value} (h : Conc bs x v) : ConcO bs (some x) (some v)

theorem bd_run {i : Int} {k : IntKind} {top : Nat} {code : BoundsCode} (h : 0 ≤ i ∧ i ≤ top) (w : World) :
    (Instr.sliceBound (.int k i) top code).run P w = .ok i.toNat w := by
  simp [Instr.sliceBound, asIntOf, h]

theorem vBd_run {x : Option AV} {c : Option Value} {dflt top : Nat} {K : Nat → Prop} (hc : ConcO bs x c) (h : vBd x dflt top K) :
    ∃ n, K n ∧ (c = none → n = dflt) ∧ (∀ v, c = some v → ∀ code w, (Instr.sliceBound v top code).run P w = .ok n w) := by
  cases hc with
  | none => exact ⟨dflt, h, fun _ => rfl, fun v hv => by cases hv⟩
  | some hx =>
    unfold vBd at h
    split at h
    · rename_i he; cases he
    · rename_i k i he
      cases he
      refine ⟨_, h.2, (fun e => by cases e), (fun v hv code w => ?_)⟩
      rw [(Option.some.inj hv).symm.trans hx]
      exact bd_run h.1 w
    · exact h.elim

theorem vSlice_run {t : TypeId} {x : AV} {cx : Value} {lo hi mx : Option AV} {clo chi cmx : Option Value} {K : Value → Prop}
    (hx : Conc bs x cx) (hlo : ConcO bs lo clo) (hhi : ConcO bs hi chi) (hmx : ConcO bs mx cmx) (h : vSlice P t x lo hi mx K) :
    ∃ v, K v ∧ ∀ w, (Instr.sliceAt t cx clo chi cmx).run P w = .ok v w := by
  unfold vSlice at h
  split at h
  · rename_i s
    split at h <;> (first | exact h.elim | skip)
    rename_i hu
    obtain rfl : cx = .string s := hx
    cases hmx
    obtain ⟨n, h, hn1, hn2⟩ := vBd_run (P := P) hhi h
    obtain ⟨l, h, hl1, hl2⟩ := vBd_run (P := P) hlo h
    refine ⟨_, h, fun w => ?_⟩
    simp only [Instr.sliceAt, Sem.run_bind, run_underlying hu, Result.andThen_ok, Instr.slice, Instr.sliceBounds]
    cases chi with
    | none => cases clo with
      | none => simp [hn1 rfl, hl1 rfl]
      | some vl => simp [hn1 rfl, hl2 vl rfl, hn1 rfl ▸ hl2 vl rfl]
    | some vh => cases clo with
      | none => simp [hn2 vh rfl, hl1 rfl]
      | some vl => simp [hn2 vh rfl, hl2 vl rfl]
  · rename_i a len cap
    obtain rfl : cx = .slice a len cap := hx
    split at h <;> (first | exact h.elim | skip)
    rename_i e hu
    split at h <;> (first | exact h.elim | skip)
    rename_i ti hi0 hno
    obtain ⟨m, h, hm1, hm2⟩ := vBd_run (P := P) hmx h
    obtain ⟨n, h, hn1, hn2⟩ := vBd_run (P := P) hhi h
    obtain ⟨l, h, hl1, hl2⟩ := vBd_run (P := P) hlo h
    refine ⟨_, h, fun w => ?_⟩
    have hsz : ∀ w, (sizeOf e).run P w = .ok ti.size w := fun w => by simp [sizeOf, typeInfo, hi0]
    simp only [Instr.sliceAt, Sem.run_bind, run_underlying hu, Result.andThen_ok, Instr.slice, Instr.sliceBounds]
    cases cmx with
    | none =>
      obtain rfl := hm1 rfl
      cases chi with
      | none =>
        obtain rfl := hn1 rfl
        cases clo with
        | none => obtain rfl := hl1 rfl; simp [hsz]
        | some vl => simp [hl2 vl rfl, hsz]
      | some vh => cases clo with
        | none => obtain rfl := hl1 rfl; simp [hn2 vh rfl, hsz]
        | some vl => simp [hn2 vh rfl, hl2 vl rfl, hsz]
    | some vm =>
      cases chi with
      | none => cases hhi; cases hmx; exact (hno _ rfl rfl).elim
      | some vh => cases clo with
        | none => obtain rfl := hl1 rfl; simp [hm2 vm rfl, hn2 vh rfl, hsz]
        | some vl => simp [hm2 vm rfl, hn2 vh rfl, hl2 vl rfl, hsz]
  · exact h.elim

theorem vFieldAddr_run {st : TypeId} {x : AV} {cx : Value} {f : Nat} {K : AV → Prop} (hx : Conc bs x cx) (h : vFieldAddr P st x f K) :
    ∃ av v, K av ∧ Conc bs av v ∧ ∀ w, (Instr.fieldAt st cx f).run P w = .ok v w := by
  unfold vFieldAddr at h
  split at h <;> (first | exact h.elim | skip)
  rename_i fs hu
  split at h <;> (first | exact h.elim | skip)
  rename_i fd hf
  split at h <;> (first | exact h.elim | skip)
  rename_i ti hi
  split at h <;> (first | exact h.elim | skip)
  rename_i n hsz
  have hs : ∀ w, (sizeOf fd.type).run P w = .ok (n + 1) w := fun w => by simp [sizeOf, typeInfo, hi, hsz]
  split at h <;> (first | exact h.elim | skip)
  · rename_i i off
    obtain ⟨b, hb, rfl⟩ := hx
    refine ⟨_, _, h, ⟨b, hb, rfl⟩, fun w => ?_⟩
    simp [Instr.fieldAt, run_underlying hu, hf, Instr.sureAddr, fieldPlace, hs, Addr.add_loc]
  · rename_i a
    obtain rfl : cx = .pointer (some a) := hx
    refine ⟨_, _, h, rfl, fun w => ?_⟩
    simp [Instr.fieldAt, run_underlying hu, hf, Instr.sureAddr, fieldPlace, hs]

theorem vField_run {st : TypeId} {x : AV} {cx : Value} {f : Nat} {K : Value → Prop} (hx : Conc bs x cx) (h : vField P st x f K) :
    ∃ v, K v ∧ ∀ w, (Instr.field st cx f).run P w = .ok v w := by
  unfold vField at h
  split at h <;> (first | exact h.elim | skip)
  rename_i fs cs hu
  split at h <;> (first | exact h.elim | skip)
  rename_i fd hf
  split at h <;> (first | exact h.elim | skip)
  rename_i v hv
  obtain rfl : cx = .agg cs := hx
  exact ⟨v, h, fun w => by simp [Instr.field, run_underlying hu, hf, asAgg, partV_run hv]⟩

theorem vIndexAddr_run {t : TypeId} {x ix : AV} {cx ci : Value} {K : AV → Prop} (hx : Conc bs x cx) (hi : Conc bs ix ci) (h : vIndexAddr P t x ix K) :
    ∃ av v, K av ∧ Conc bs av v ∧ ∀ w, (Instr.indexAt t cx ci).run P w = .ok v w := by
  unfold vIndexAddr at h
  split at h <;> (first | exact h.elim | skip)
  rename_i k i
  obtain rfl : ci = .int k i := hi
  split at h <;> (first | exact h.elim | skip)
  · rename_i e hu
    split at h <;> (first | exact h.elim | skip)
    rename_i ti a len cap hti
    obtain rfl : cx = .slice a len cap := hx
    obtain ⟨hb, h⟩ := h
    cases a with
    | none => exact h.elim
    | some ad =>
      refine ⟨_, _, h, rfl, fun w => ?_⟩
      have hs : ∀ w, (sizeOf e).run P w = .ok ti.size w := fun w => by simp [sizeOf, typeInfo, hti]
      simp [Instr.indexAt, asIntOf, run_underlying hu, hb, hs]
  · rename_i n e hu
    split at h <;> (first | exact h.elim | skip)
    · rename_i ti ad hti
      obtain rfl : cx = .pointer (some ad) := hx
      obtain ⟨hb, h⟩ := h
      refine ⟨_, _, h, rfl, fun w => ?_⟩
      have hs : ∀ w, (sizeOf e).run P w = .ok ti.size w := fun w => by simp [sizeOf, typeInfo, hti]
      simp [Instr.indexAt, asIntOf, run_underlying hu, hb, hs, Instr.sureAddr]
    · rename_i ti j off hti
      obtain ⟨b, hb1, rfl⟩ := hx
      obtain ⟨hb, h⟩ := h
      replace h := vSel_elim hb h
      refine ⟨_, _, h, ⟨b, hb1, rfl⟩, fun w => ?_⟩
      have hs : ∀ w, (sizeOf e).run P w = .ok ti.size w := fun w => by simp [sizeOf, typeInfo, hti]
      simp [Instr.indexAt, asIntOf, run_underlying hu, hb, hs, Instr.sureAddr, Addr.add_loc]

theorem vIndex_run {t : TypeId} {x ix : AV} {cx ci : Value} {K : Value → Prop} (hx : Conc bs x cx) (hi : Conc bs ix ci) (h : vIndex P t x ix K) :
    ∃ v, K v ∧ ∀ w, (Instr.index t cx ci).run P w = .ok v w := by
  unfold vIndex at h
  split at h <;> (first | exact h.elim | skip)
  rename_i k i
  obtain rfl : ci = .int k i := hi
  split at h <;> (first | exact h.elim | skip)
  · rename_i s hu
    obtain rfl : cx = .string s := hx
    obtain ⟨c, ⟨h0, hc⟩, h⟩ := h
    exact ⟨_, h, fun w => by simp [Instr.index, asIntOf, run_underlying hu, h0, hc]⟩
  · rename_i n e cs hu
    obtain rfl : cx = .agg cs := hx
    split at h <;> (first | exact h.elim | skip)
    · rename_i ti hti he
      obtain ⟨b, ⟨hb, hc⟩, h⟩ := h
      have hs : ∀ w, (sizeOf e).run P w = .ok ti.size w := fun w => by simp [sizeOf, typeInfo, hti]
      have hv : eqS.partV P e cs (i.toNat * ti.size) = some (.bool b) := by unfold eqS.partV; rw [he, hti]; exact hc
      exact ⟨_, h, fun w => by simp [Instr.index, asIntOf, run_underlying hu, hb, hs, partV_run hv]⟩
    · rename_i ti k hti he
      obtain ⟨x, ⟨hb, hc⟩, h⟩ := h
      have hs : ∀ w, (sizeOf e).run P w = .ok ti.size w := fun w => by simp [sizeOf, typeInfo, hti]
      have hv : eqS.partV P e cs (i.toNat * ti.size) = some (.int k x) := by unfold eqS.partV; rw [he, hti]; exact hc
      exact ⟨_, h, fun w => by simp [Instr.index, asIntOf, run_underlying hu, hb, hs, partV_run hv]⟩
    · rename_i ti hti _ _
      obtain ⟨hb, h⟩ := h
      split at h <;> (first | exact h.elim | skip)
      rename_i v hv
      have hs : ∀ w, (sizeOf e).run P w = .ok ti.size w := fun w => by simp [sizeOf, typeInfo, hti]
      exact ⟨v, h, fun w => by simp [Instr.index, asIntOf, run_underlying hu, hb, hs, partV_run hv]⟩

theorem evAll_run {s : VS} {ev : Operand → Value} (hev : ∀ x, Conc bs (s.ev x) (ev x)) : ∀ (l : List Operand) (vs : List Value), evAll s l = some vs → l.map ev = vs := by
  intro l
  induction l with
  | nil => intro vs h; simp [evAll] at h; simp [h]
  | cons x r ih =>
    intro vs h
    unfold evAll at h
    split at h
    · rename_i a b ha hb
      cases h
      have := hev x
      rw [ha] at this
      simp only [List.map_cons, ih b hb, show ev x = a from this]
    · cases h

theorem evParts_run {s : VS} {ev : Operand → Value} (hev : ∀ x, Conc bs (s.ev x) (ev x)) : ∀ (l : List (Nat × Operand)) (vs : List (Nat × Value)), evParts s l = some vs →
    l.map (fun p => (p.1, ev p.2)) = vs := by
  intro l
  induction l with
  | nil => intro vs h; simp [evParts] at h; simp [h]
  | cons x r ih =>
    obtain ⟨i, x⟩ := x
    intro vs h
    unfold evParts at h
    split at h
    · rename_i a b ha hb
      cases h
      have := hev x
      rw [ha] at this
      simp only [List.map_cons, ih b hb, show ev x = a from this]
    · cases h

theorem placesOf_run : ∀ (l : List Field) (pl : List (Nat × Nat)), placesOf P l = some pl → ∀ w, (l.mapM fun f => do pure (f.offset, ← sizeOf f.type) : Sem (List (Nat × Nat))).run P w = .ok pl w := by
  intro l
  induction l with
  | nil => intro pl h w; simp [placesOf] at h; simp [h]
  | cons f r ih =>
    intro pl h w
    unfold placesOf at h
    split at h
    · rename_i ti b hti hb
      cases h
      have hs : (sizeOf f.type).run P w = .ok ti.size w := by simp [sizeOf, typeInfo, hti]
      simp only [List.mapM_cons, Sem.run_bind, hs, ih b hb, Result.andThen_ok, Sem.run_pure]
    · cases h

theorem vBuild_run {t : TypeId} {parts : Option (List (Nat × Value))} {K : Value → Prop} (h : vBuild P t parts K) :
    ∃ v ps, K v ∧ parts = some ps ∧ ∀ w, (Instr.build t ps.toArray).run P w = .ok v w := by
  unfold vBuild at h
  split at h <;> (first | exact h.elim | skip)
  · rename_i ti fs ps hti hu
    split at h <;> (first | exact h.elim | skip)
    rename_i z pl hz hpl
    split at h <;> (first | exact h.elim | skip)
    rename_i cells hfill
    refine ⟨_, ps, h, rfl, fun w => ?_⟩
    have hm := placesOf_run fs.toList pl hpl w
    have hm' : (fs.mapM fun f => do pure (f.offset, ← sizeOf f.type) : Sem (Array (Nat × Nat))).run P w = .ok pl.toArray w := by
      rw [Array.mapM_eq_mapM_toList]
      simp only [Sem.run_map, hm, Result.andThen_ok]
    simp only [Instr.build, Sem.run_bind, zeroValue, typeInfo, run_program, Result.andThen_ok, hti, Sem.run_pure, hz, run_underlying hu, hm']
    have e : (fun (x : Nat) => (pl.toArray)[x]?) = (fun (x : Nat) => pl[x]?) := by funext i; simp
    simp only [e, hfill, Sem.run_pure]
  · rename_i ti n e ps hti hu
    split at h <;> (first | exact h.elim | skip)
    rename_i z te hz hte
    split at h <;> (first | exact h.elim | skip)
    rename_i cells hfill
    refine ⟨_, ps, h, rfl, fun w => ?_⟩
    simp only [Instr.build, Sem.run_bind, zeroValue, typeInfo, run_program, Result.andThen_ok, hti, Sem.run_pure, hz, run_underlying hu, sizeOf, hte, hfill]

theorem vMm_run (mx : Bool) : ∀ (r : List Value) (x : Value) (K : Value → Prop), vMm mx x r K → ∃ v, K v ∧ ∀ w, (r.foldlM (match mx with | true => Builtin.max2 | false => Builtin.min2) x : Sem Value).run P w = .ok v w := by
  intro r
  induction r with
  | nil => intro x K h; unfold vMm at h; exact ⟨x, h, fun w => by simp⟩
  | cons y r ih =>
    intro x K h
    unfold vMm at h
    split at h <;> (first | exact h.elim | skip)
    · rename_i he; cases he
    · rename_i k a k' b r' he
      cases he
      obtain ⟨v, hv, hr⟩ := ih _ _ h
      refine ⟨v, hv, fun w => ?_⟩
      rw [List.foldlM_cons, Sem.run_bind]
      cases mx
      · have : ∀ w, (Builtin.min2 (.int k a) (.int k' b)).run P w = .ok (.int k (if b < a then b else a)) w := fun w => by simp [Builtin.min2]
        simp only [this, Result.andThen_ok]
        exact hr w
      · have : ∀ w, (Builtin.max2 (.int k a) (.int k' b)).run P w = .ok (.int k (if b > a then b else a)) w := fun w => by simp [Builtin.max2]
        simp only [this, Result.andThen_ok]
        exact hr w

theorem concO_map {s : VS} {ev : Operand → Value} (hev : ∀ x, Conc bs (s.ev x) (ev x)) (x : Option Operand) : ConcO bs (x.map s.ev) (x.map ev) := by
  cases x with
  | none => exact .none
  | some x => exact .some (hev x)

theorem exec_eq {ev : Operand → Value} {o : Oper} {w : World} {v : Value} {S : Sem Value} (he : execOp ev o = (do pure (.value (← S)))) (h : S.run P w = .ok v w) :
    (execOp ev o).run P w = .ok (.value v) w := by
  rw [he]; simp only [Sem.run_bind, h, Result.andThen_ok, Sem.run_pure]

/-- WHAT A PURE OPERATION YIELDS, IT YIELDS IN EVERY WORLD. -/
theorem vPure_run {s : VS} {ev : Operand → Value} (hev : ∀ x, Conc bs (s.ev x) (ev x)) {o : Oper} {K : AV → Prop} (h : vPure P o.op s K) :
    ∃ av v, K av ∧ Conc bs av v ∧ ∀ w, (execOp ev o).run P w = .ok (.value v) w := by
  obtain ⟨dst, op, type, pos, after, guard⟩ := o
  dsimp only at h
  unfold vPure at h
  split at h <;> (first | exact h.elim | skip)
  · exact ⟨_, _, h, hev _, fun w => rfl⟩
  · exact ⟨_, _, h, hev _, fun w => rfl⟩
  · rename_i c a b
    split at h <;> (first | exact h.elim | skip)
    rename_i t hc
    have hc' := hev c
    rw [hc] at hc'
    have hc'' : ev c = .bool t := hc'
    cases t with
    | true => exact ⟨_, _, h, hev a, fun w => by simp [execOp, hc'', asBool]⟩
    | false => exact ⟨_, _, h, hev b, fun w => by simp [execOp, hc'', asBool]⟩
  · rename_i x
    have hx := hev x
    split at h <;> (first | exact h.elim | skip)
    · rename_i i off he
      rw [he] at hx
      obtain ⟨b, hb, hv⟩ := hx
      exact ⟨_, _, h, ⟨b, hb, rfl⟩, fun w => by simp [execOp, hv]⟩
    · rename_i p he
      rw [he] at hx
      have hv : ev x = .pointer p := hx
      cases p with
      | none => exact h.elim
      | some a => exact ⟨_, _, h, rfl, fun w => by simp [execOp, hv]⟩
    · rename_i f fi ca he
      rw [he] at hx
      have hv : ev x = .func (.func f) fi ca := hx
      exact ⟨_, _, h, rfl, fun w => by simp [execOp, hv]⟩
  · rename_i op t x y yt
    split at h <;> (first | exact h.elim | skip)
    rename_i a b ha hb
    have hx := hev x; have hy := hev y
    rw [ha] at hx; rw [hb] at hy
    obtain ⟨v, hK, hr⟩ := vBin_run (xo := x) (yo := y) h
    refine ⟨_, v, hK, rfl, fun w => exec_eq rfl ?_⟩
    rw [show ev x = a from hx, show ev y = b from hy]
    exact hr w
  · rename_i op t x
    have hx := hev x
    split at h <;> (first | exact h.elim | skip)
    · rename_i b he
      rw [he] at hx
      exact ⟨_, _, h, rfl, fun w => exec_eq rfl (by rw [show ev x = .bool b from hx]; rfl)⟩
    · rename_i k n he
      rw [he] at hx
      exact ⟨_, _, h, rfl, fun w => exec_eq rfl (by rw [show ev x = .int k n from hx]; rfl)⟩
    · rename_i k n he
      rw [he] at hx
      exact ⟨_, _, h, rfl, fun w => exec_eq rfl (by rw [show ev x = .int k n from hx]; rfl)⟩
  · rename_i src dst x
    have hx := hev x
    split at h <;> (first | exact h.elim | skip)
    · rename_i d k k' n hs hd he
      rw [he] at hx
      refine ⟨_, _, h, rfl, fun w => exec_eq rfl ?_⟩
      rw [show ev x = .int k' n from hx]
      simp [convert, run_underlying hs, run_underlying hd, Conv.intToInt]
    · rename_i d t hs hd he
      rw [he] at hx
      refine ⟨_, _, h, rfl, fun w => exec_eq rfl ?_⟩
      rw [show ev x = .string t from hx]
      simp [convert, run_underlying hs, run_underlying hd]
  · rename_i fn first captured
    split at h <;> (first | exact h.elim | skip)
    rename_i a b ha hb
    have e1 := evAll_run hev _ _ ha
    have e2 := evAll_run hev _ _ hb
    refine ⟨_, _, h, rfl, fun w => exec_eq rfl ?_⟩
    have e1' : first.map ev = a.toArray := by rw [← e1, ← Array.toList_map, Array.toArray_toList]
    have e2' : captured.map ev = b.toArray := by rw [← e2, ← Array.toList_map, Array.toArray_toList]
    simp [Instr.makeFunc, e1', e2']
  · rename_i t i
    have hx := hev t
    split at h <;> (first | exact h.elim | skip)
    rename_i vs he
    rw [he] at hx
    split at h <;> (first | exact h.elim | skip)
    rename_i v hv
    refine ⟨_, _, h, rfl, fun w => exec_eq rfl ?_⟩
    rw [show ev t = .tuple vs from hx]
    simp [Instr.extract, hv]
  · obtain ⟨av, v, hK, hc, hr⟩ := vFieldAddr_run (hev _) h
    exact ⟨av, v, hK, hc, fun w => exec_eq rfl (hr w)⟩
  · obtain ⟨v, hK, hr⟩ := vField_run (hev _) h
    exact ⟨_, v, hK, rfl, fun w => exec_eq rfl (hr w)⟩
  · obtain ⟨av, v, hK, hc, hr⟩ := vIndexAddr_run (hev _) (hev _) h
    exact ⟨av, v, hK, hc, fun w => exec_eq rfl (hr w)⟩
  · obtain ⟨v, hK, hr⟩ := vIndex_run (hev _) (hev _) h
    exact ⟨_, v, hK, rfl, fun w => exec_eq rfl (hr w)⟩
  · obtain ⟨v, hK, hr⟩ := vSlice_run (hev _) (concO_map hev _) (concO_map hev _) (concO_map hev _) h
    exact ⟨_, v, hK, rfl, fun w => exec_eq rfl (hr w)⟩
  · rename_i t parts
    obtain ⟨v, ps, hK, hps, hr⟩ := vBuild_run h
    have e1 := evParts_run hev _ _ hps
    refine ⟨_, v, hK, rfl, fun w => exec_eq rfl ?_⟩
    have e : (parts.map fun (i, x) => (i, ev x)) = ps.toArray := by rw [← e1, ← Array.toList_map, Array.toArray_toList]
    rw [e]; exact hr w
  · rename_i b args tys
    have hl : ∀ l, evAll s args.toList = some l → args.map ev = l.toArray := fun l hl => by
      rw [← evAll_run hev _ _ hl, ← Array.toList_map, Array.toArray_toList]
    have go : ∀ (S : Sem Value) (v : Value) w, builtin b tys type (args.map fun | .const _ => true | _ => false) (args.map ev) = (do pure (.value (← S))) → S.run P w = .ok v w →
        (execOp ev ⟨dst, .call { callee := .builtin b, args := args, argTypes := tys }, type, pos, after, guard⟩).run P w = .ok (.value v) w := fun S v w hb hS => by
      have he : execOp ev ⟨dst, .call { callee := .builtin b, args := args, argTypes := tys }, type, pos, after, guard⟩ = builtin b tys type (args.map fun | .const _ => true | _ => false) (args.map ev) := rfl
      rw [he, hb]
      simp only [Sem.run_bind, hS, Result.andThen_ok, Sem.run_pure]
    split at h <;> (first | exact h.elim | skip)
    · rename_i t hargs
      split at h <;> (first | exact h.elim | skip)
      rename_i hu
      obtain ⟨t0, ht0, hu⟩ := Option.bind_eq_some_iff.1 hu
      refine ⟨_, _, h, rfl, fun w => go (Builtin.len_ tys type (args.map ev)) _ w rfl ?_⟩
      rw [hl _ hargs]
      simp [Builtin.len_, ht0, run_underlying hu, goInt]
    · rename_i a n c hargs
      split at h <;> (first | exact h.elim | skip)
      rename_i e hu
      obtain ⟨t0, ht0, hu⟩ := Option.bind_eq_some_iff.1 hu
      refine ⟨_, _, h, rfl, fun w => go (Builtin.len_ tys type (args.map ev)) _ w rfl ?_⟩
      rw [hl _ hargs]
      simp [Builtin.len_, ht0, run_underlying hu, goInt]
    · rename_i a n c hargs
      split at h <;> (first | exact h.elim | skip)
      rename_i e hu
      obtain ⟨t0, ht0, hu⟩ := Option.bind_eq_some_iff.1 hu
      refine ⟨_, _, h, rfl, fun w => go (Builtin.cap_ tys type (args.map ev)) _ w rfl ?_⟩
      rw [hl _ hargs]
      simp [Builtin.cap_, ht0, run_underlying hu, goInt]
    · rename_i x r hargs
      obtain ⟨v, hK, hr⟩ := vMm_run (P := P) true r x _ h
      refine ⟨_, v, hK, rfl, fun w => go (Builtin.max_ tys type (args.map ev)) _ w rfl ?_⟩
      rw [hl _ hargs]
      simpa [Builtin.max_] using hr w
    · rename_i x r hargs
      obtain ⟨v, hK, hr⟩ := vMm_run (P := P) false r x _ h
      refine ⟨_, v, hK, rfl, fun w => go (Builtin.min_ tys type (args.map ev)) _ w rfl ?_⟩
      rw [hl _ hargs]
      simpa [Builtin.min_] using hr w
end Go.KC

/- THE CORE, part 5: the state of a walk (slots, own variables, the heap as seen) against the model's frame and world; how each change of the world keeps them together. Generic. -/
set_option linter.all false
set_option linter.constructorNameAsVariable false
namespace Go.KC

def markOf (r : Nat) : Deferred := { target := .collected r, args := #[] }

/-- A frame's deferred calls: the marks of ranges over functions, in no round of which anything was deferred. -/
def Marks (w0 : World) (M : Nat → Prop) (w : World) (ds : List Deferred) : Prop :=
  ∃ mk : List Nat, ds = mk.map markOf ∧ mk.Nodup ∧ ∀ r ∈ mk, M r ∧ w0.heap.size ≤ r ∧ w.heap[r]? = some (.deferred (some []))

theorem Marks.mono {w0 w w' : World} {M M' : Nat → Prop} {ds : List Deferred} (h : Marks w0 M w ds)
    (hk : ∀ r, M r → w.heap[r]? = some (.deferred (some [])) → M' r ∧ w'.heap[r]? = some (.deferred (some []))) : Marks w0 M' w' ds := by
  obtain ⟨mk, h1, h2, h3⟩ := h
  exact ⟨mk, h1, h2, fun r hr => let ⟨q1, q2, q3⟩ := h3 r hr; ⟨(hk r q1 q3).1, q2, (hk r q1 q3).2⟩⟩

theorem push_keep {w : World} {r : Nat} {o : Obj} (x : Obj) (h : w.heap[r]? = some o) : (w.heap.push x)[r]? = some o := by
  have := (Array.getElem?_eq_some_iff.1 h).1
  rw [Array.getElem?_push, if_neg (by omega)]; exact h

/-- The state s stands for the frame a and the world w of a call that began in w0 with M0 hidden; bs: where its own variables lie; M: what is hidden now. -/
structure RelB (M0 : Nat → Prop) (w0 : World) (bs : List Nat) (M : Nat → Prop) (s : VS) (a : Act) (w : World) : Prop where
  m0 : ∀ b, M0 b → b < w0.heap.size
  sz : a.tmps.size = s.fr.length
  tm : ∀ (t : Nat) (x : AV), s.fr[t]? = some x → ∃ v, a.tmps[t]? = some v ∧ Conc bs x v
  df : Marks w0 M w a.defers
  aft : Aft M0 w0 w
  mo : ∀ b, b < w0.heap.size → (M b ↔ M0 b)
  hd : Hides M w.heap s.H
  ll : bs.length = s.ls.length
  lc : ∀ (i b : Nat) (p : TypeId × List Value), bs[i]? = some b → s.ls[i]? = some p → M b ∧ w0.heap.size ≤ b ∧ w.heap[b]? = some (.cells p.2.toArray p.1 (0, 0))
  nd : ∀ (i j b : Nat), bs[i]? = some b → bs[j]? = some b → i = j

def Rel (M0 : Nat → Prop) (w0 : World) (s : VS) (a : Act) (w : World) : Prop := ∃ bs M, RelB M0 w0 bs M s a w

section
variable {M0 : Nat → Prop} {w0 : World} {bs : List Nat} {M : Nat → Prop} {s : VS} {a : Act} {w : World}

theorem RelB.ev (h : RelB M0 w0 bs M s a w) (x : Operand) : Conc bs (s.ev x) (a.eval x) := by
  cases x with
  | tmp t =>
    simp only [VS.ev, Act.eval]
    cases ht : s.fr[t]? with
    | none =>
      have : a.tmps[t]? = none := by
        rw [Array.getElem?_eq_none_iff, h.sz]
        exact List.getElem?_eq_none_iff.1 ht
      simp [Array.getD_eq_getD_getElem?, this, Conc]
    | some x =>
      obtain ⟨v, hv, hc⟩ := h.tm t x ht
      simpa [Array.getD_eq_getD_getElem?, hv] using hc
  | const v => rfl
  | global g => rfl
  | func f => rfl

theorem RelB.put (h : RelB M0 w0 bs M s a w) (dst : Option Tmp) {x : AV} {v : Value} (hc : Conc bs x v) : RelB M0 w0 bs M (s.put dst x) (a.put dst v) w := by
  cases dst with
  | none => exact h
  | some d =>
    refine ⟨h.m0, by simp [VS.put, Act.put, h.sz], fun t y hy => ?_, h.df, h.aft, h.mo, h.hd, h.ll, h.lc, h.nd⟩
    simp only [VS.put, Act.put] at *
    rw [List.getElem?_set] at hy
    rw [Array.getElem?_setIfInBounds]
    split at hy
    · rename_i hdt
      split at hy
      · cases hy
        rename_i hlt
        rw [if_pos hdt, if_pos (by rw [h.sz]; exact hlt)]
        exact ⟨v, rfl, hc⟩
      · cases hy
    · rename_i hdt
      rw [if_neg hdt]
      exact h.tm t y hy

theorem Conc.mono {bs bs' : List Nat} {x : AV} {v : Value} (h : Conc bs x v) (hp : ∀ (i b : Nat), bs[i]? = some b → bs'[i]? = some b) : Conc bs' x v := by
  cases x with
  | v y => exact h
  | loc i off => obtain ⟨b, hb, hv⟩ := h; exact ⟨b, hp i b hb, hv⟩
  | any => trivial
  | ent x y => exact h

theorem RelB.drew (h : RelB M0 w0 bs M s a w) (d : Nat) : RelB M0 w0 bs M s a { w with drawn := d } :=
  ⟨h.m0, h.sz, h.tm, h.df, ⟨⟨h.aft.strm.os, h.aft.strm.tape, h.aft.strm.output⟩, h.aft.size, h.aft.keep⟩, h.mo, h.hd, h.ll, h.lc, h.nd⟩

theorem RelB.push (h : RelB M0 w0 bs M s a w) (o : Obj) (d : Nat) : RelB M0 w0 bs M { s with H := s.H.push o } a { w with heap := w.heap.push o, drawn := d } := by
  refine ⟨h.m0, h.sz, h.tm, h.df.mono fun r hm hr => ⟨hm, push_keep o hr⟩, h.aft.push h.m0 o d, h.mo, h.hd.push, h.ll, fun i b p hb hp => ?_, h.nd⟩
  obtain ⟨h1, h2, h3⟩ := h.lc i b p hb hp
  refine ⟨h1, h2, ?_⟩
  have := h.hd.lt b h1
  show (w.heap.push o)[b]? = _
  rw [Array.getElem?_push, if_neg (by omega)]
  exact h3

theorem RelB.pushOwn (h : RelB M0 w0 bs M s a w) (e : TypeId) (cells : List Value) :
    RelB M0 w0 (bs ++ [w.heap.size]) (fun b => M b ∨ b = w.heap.size) { s with ls := s.ls ++ [(e, cells)], H := s.H.push hole } a { w with heap := w.heap.push (.cells cells.toArray e) } := by
  have hpre : ∀ (i b : Nat), bs[i]? = some b → (bs ++ [w.heap.size])[i]? = some b := fun i b hb => by
    rw [List.getElem?_append_left (List.getElem?_eq_some_iff.1 hb).1]; exact hb
  have hcase : ∀ (i b : Nat), (bs ++ [w.heap.size])[i]? = some b → bs[i]? = some b ∨ (i = bs.length ∧ b = w.heap.size) := fun i b hb => by
    rw [List.getElem?_append] at hb
    split at hb
    · exact Or.inl hb
    · rename_i hi
      right
      have : i - bs.length = 0 := by
        rcases Nat.eq_zero_or_pos (i - bs.length) with h0 | h0
        · exact h0
        · rw [List.getElem?_eq_none (by simp; omega)] at hb; cases hb
      rw [this] at hb
      simp at hb
      exact ⟨by omega, hb.symm⟩
  have hlt : ∀ (i b : Nat), bs[i]? = some b → b < w.heap.size := fun i b hb => by
    have hi := (List.getElem?_eq_some_iff.1 hb).1
    rw [h.ll] at hi
    exact h.hd.lt b (h.lc i b _ hb (List.getElem?_eq_getElem hi)).1
  have hs := h.aft.size
  refine ⟨h.m0, h.sz, fun t x hx => ?_, h.df.mono fun r hm hr => ⟨Or.inl hm, push_keep _ hr⟩, ?_, fun b hb => ?_, h.hd.pushHid, by simp [h.ll], fun i b p hb hp => ?_, fun i j b hi hj => ?_⟩
  · obtain ⟨v, hv, hc⟩ := h.tm t x hx
    exact ⟨v, hv, hc.mono hpre⟩
  · exact h.aft.push h.m0 _ w.drawn
  · have : b ≠ w.heap.size := by omega
    simp only [this, or_false]
    exact h.mo b hb
  · show _ ∧ _ ∧ (w.heap.push _)[b]? = _
    rcases hcase i b hb with hb' | ⟨rfl, rfl⟩
    · have hi := (List.getElem?_eq_some_iff.1 hb').1
      rw [h.ll] at hi
      rw [List.getElem?_append_left hi] at hp
      obtain ⟨h1, h2, h3⟩ := h.lc i b p hb' hp
      refine ⟨Or.inl h1, h2, ?_⟩
      rw [Array.getElem?_push, if_neg (by have := hlt i b hb'; omega)]
      exact h3
    · rw [h.ll, List.getElem?_append_right (Nat.le_refl _)] at hp
      simp at hp
      subst hp
      exact ⟨Or.inr rfl, hs, by rw [Array.getElem?_push, if_pos rfl]⟩
  · rcases hcase i b hi with hi' | ⟨e1, e2⟩
    · rcases hcase j b hj with hj' | ⟨e3, e4⟩
      · exact h.nd i j b hi' hj'
      · have := hlt i b hi'; omega
    · rcases hcase j b hj with hj' | ⟨e3, e4⟩
      · have := hlt j b hj'; omega
      · omega

theorem RelB.setCell (h : RelB M0 w0 bs M s a w) (p : Addr) (v : Value) (hp : ¬ M p.block) : RelB M0 w0 bs M { s with H := Hp.setCell s.H p v } a (w.setCell p v) := by
  refine ⟨h.m0, h.sz, h.tm, h.df.mono fun r hm hr => ⟨hm, by rw [setCell_world, Hp.getElem?_setCell_ne _ _ _ (fun e => hp (e ▸ hm))]; exact hr⟩, h.aft.setCell p v (fun e => hp ((h.mo _ (h.m0 _ e)).2 e)), h.mo, h.hd.setCell hp, h.ll, fun i b q hb hq => ?_, h.nd⟩
  obtain ⟨h1, h2, h3⟩ := h.lc i b q hb hq
  refine ⟨h1, h2, ?_⟩
  rw [setCell_world, Hp.getElem?_setCell_ne _ _ _ (fun e => hp (e ▸ h1))]
  exact h3

theorem RelB.setOwn (h : RelB M0 w0 bs M s a w) {i b off : Nat} {e : TypeId} {cs : List Value} (hb : bs[i]? = some b) (hp : s.ls[i]? = some (e, cs)) (v : Value) :
    RelB M0 w0 bs M { s with ls := s.ls.set i (e, cs.set off v) } a (w.setCell ⟨b, off, none⟩ v) := by
  obtain ⟨h1, h2, h3⟩ := h.lc i b _ hb hp
  have hi : i < s.ls.length := (List.getElem?_eq_some_iff.1 hp).1
  refine ⟨h.m0, h.sz, h.tm, h.df.mono fun r hm hr => ⟨hm, by rw [setCell_world, Hp.getElem?_setCell_ne _ _ _ (fun e => by rw [e] at hr; rw [show w.heap[b]? = _ from h3] at hr; cases hr)]; exact hr⟩, h.aft.setCell _ v (fun e => by have := h.m0 _ e; simp at this; omega), h.mo, h.hd.setHid h1, by simp [h.ll], fun j c q hc hq => ?_, h.nd⟩
  dsimp only at hq
  rw [List.getElem?_set] at hq
  by_cases hij : i = j
  · subst hij
    rw [if_pos rfl, if_pos hi] at hq
    cases hq
    rw [hb] at hc; cases hc
    refine ⟨h1, h2, ?_⟩
    rw [setCell_world, Hp.getElem?_setCell_same _ ⟨b, off, none⟩ v h3]
    simp
  · rw [if_neg hij] at hq
    obtain ⟨k1, k2, k3⟩ := h.lc j c q hc hq
    refine ⟨k1, k2, ?_⟩
    rw [setCell_world, Hp.getElem?_setCell_ne _ _ _ (fun e => hij (h.nd i j b hb (by rw [show b = c from e.symm]; exact hc)))]
    exact k3

theorem RelB.call (h : RelB M0 w0 bs M s a w) {w' : World} {H' : Hp} {M' : Nat → Prop} (ha : Aft M w w') (hm : ∀ b, b < w.heap.size → (M' b ↔ M b)) (hh : Hides M' w'.heap H') :
    RelB M0 w0 bs M' { s with H := H' } a w' := by
  have hs := h.aft.size
  refine ⟨h.m0, h.sz, h.tm, h.df.mono fun r hm' hr => ⟨(hm r (h.hd.lt r hm')).2 hm', (ha.keep r hm').trans hr⟩, ⟨h.aft.strm.trans ha.strm, Nat.le_trans hs ha.size, fun b hb => ?_⟩, fun b hb => ?_, hh, h.ll, fun i b p hb hp => ?_, h.nd⟩
  · have := h.m0 b hb
    rw [ha.keep b ((h.mo b this).2 hb)]
    exact h.aft.keep b hb
  · rw [hm b (by omega)]; exact h.mo b hb
  · obtain ⟨h1, h2, h3⟩ := h.lc i b p hb hp
    exact ⟨(hm b (h.hd.lt b h1)).2 h1, h2, (ha.keep b h1).trans h3⟩

/-- A block for deferred calls is laid, hidden; its mark is pushed. -/
theorem RelB.pushMark (h : RelB M0 w0 bs M s a w) : RelB M0 w0 bs (fun b => M b ∨ b = w.heap.size) { s with H := s.H.push hole } { a with defers := markOf w.heap.size :: a.defers } { w with heap := w.heap.push (.deferred (some [])) } := by
  have hs := h.aft.size
  refine ⟨h.m0, h.sz, h.tm, ?_, h.aft.push h.m0 _ w.drawn, fun b hb => ?_, h.hd.pushHid, h.ll, fun i b p hb hp => ?_, h.nd⟩
  · obtain ⟨mk, h1, h2, h3⟩ := h.df
    refine ⟨w.heap.size :: mk, by simp [h1], List.nodup_cons.2 ⟨fun hm => ?_, h2⟩, fun r hr => ?_⟩
    · have := h.hd.lt _ (h3 _ hm).1; omega
    · rcases List.mem_cons.1 hr with rfl | hr
      · exact ⟨Or.inr rfl, hs, by simp⟩
      · obtain ⟨q1, q2, q3⟩ := h3 r hr
        exact ⟨Or.inl q1, q2, push_keep _ q3⟩
  · have : b ≠ w.heap.size := by omega
    simp only [this, or_false]
    exact h.mo b hb
  · obtain ⟨q1, q2, q3⟩ := h.lc i b p hb hp
    exact ⟨Or.inl q1, q2, push_keep _ q3⟩

/-- A block that is seen becomes another object. -/
theorem RelB.setObj (h : RelB M0 w0 bs M s a w) {l : Nat} (o : Obj) (hl : ¬ M l) : RelB M0 w0 bs M { s with H := s.H.setIfInBounds l o } a { w with heap := w.heap.setIfInBounds l o } := by
  have ne : ∀ b, M b → (w.heap.setIfInBounds l o)[b]? = w.heap[b]? := fun b hb => Array.getElem?_setIfInBounds_ne (fun e => hl (by rw [e]; exact hb))
  refine ⟨h.m0, h.sz, h.tm, h.df.mono fun r hm hr => ⟨hm, (ne r hm).trans hr⟩, ⟨⟨h.aft.strm.os, h.aft.strm.tape, h.aft.strm.output⟩, ?_, fun b hb => ?_⟩, h.mo, ⟨?_, fun b hb => ?_, fun b hb => ?_, fun b hb => ?_⟩, h.ll, fun i b p hb hp => ?_, h.nd⟩
  · have := h.aft.size; simpa using this
  · have hM := (h.mo b (h.m0 b hb)).2 hb
    exact (ne b hM).trans (h.aft.keep b hb)
  · have := h.hd.size; simpa using this
  · have := h.hd.lt b hb; simpa using this
  · have hs := h.hd.size
    have h1 := h.hd.same b hb
    show (s.H.setIfInBounds l o)[b]? = (w.heap.setIfInBounds l o)[b]?
    rw [Array.getElem?_setIfInBounds, Array.getElem?_setIfInBounds, hs, h1]
  · show (s.H.setIfInBounds l o)[b]? = _
    rw [Array.getElem?_setIfInBounds_ne (fun e => hl (by rw [e]; exact hb))]; exact h.hd.hid b hb
  · obtain ⟨q1, q2, q3⟩ := h.lc i b p hb hp
    exact ⟨q1, q2, (ne b q1).trans q3⟩

/-- The last mark is come to. -/
theorem RelB.takeMark (h : RelB M0 w0 bs M s a w) {mk : List Nat} {r : Nat} (hd : a.defers = (r :: mk).map markOf) (hn : (r :: mk).Nodup) (hk : ∀ q ∈ r :: mk, M q ∧ w0.heap.size ≤ q ∧ w.heap[q]? = some (.deferred (some []))) :
    RelB M0 w0 bs M s { a with defers := mk.map markOf } { w with heap := w.heap.setIfInBounds r (.deferred none) } ∧
      (∀ q ∈ mk, M q ∧ w0.heap.size ≤ q ∧ (w.heap.setIfInBounds r (.deferred none))[q]? = some (.deferred (some []))) := by
  obtain ⟨m1, m2, m3⟩ := hk r (by simp)
  obtain ⟨n1, n2⟩ := List.nodup_cons.1 hn
  have rest : ∀ q ∈ mk, M q ∧ w0.heap.size ≤ q ∧ (w.heap.setIfInBounds r (.deferred none))[q]? = some (.deferred (some [])) := fun q hq => by
    obtain ⟨q1, q2, q3⟩ := hk q (by simp [hq])
    exact ⟨q1, q2, by rw [Array.getElem?_setIfInBounds_ne (fun (e : r = q) => n1 (by rw [e]; exact hq))]; exact q3⟩
  refine ⟨⟨h.m0, h.sz, h.tm, ⟨mk, rfl, n2, rest⟩, ⟨⟨h.aft.strm.os, h.aft.strm.tape, h.aft.strm.output⟩, ?_, fun b hb => ?_⟩, h.mo, ⟨?_, fun b hb => ?_, fun b hb => ?_, h.hd.hid⟩, h.ll, fun i b p hb hp => ?_, h.nd⟩, rest⟩
  · have := h.aft.size; simpa using this
  · have := h.m0 b hb
    show (w.heap.setIfInBounds r _)[b]? = _
    rw [Array.getElem?_setIfInBounds_ne (by omega)]; exact h.aft.keep b hb
  · have := h.hd.size; simpa using this
  · have := h.hd.lt b hb; simpa using this
  · show _ = (w.heap.setIfInBounds r _)[b]?
    rw [Array.getElem?_setIfInBounds_ne (fun e => hb (by rw [← e]; exact m1))]; exact h.hd.same b hb
  · obtain ⟨q1, q2, q3⟩ := h.lc i b p hb hp
    refine ⟨q1, q2, ?_⟩
    show (w.heap.setIfInBounds r _)[b]? = _
    rw [Array.getElem?_setIfInBounds_ne (fun e => by rw [e] at m3; rw [m3] at q3; cases q3)]; exact q3

theorem keepFr_get (lv : List Nat) (n : Nat) : ∀ (l : List AV) (i t : Nat) (x : AV), (keepFr lv n i l)[t]? = some x →
    ∃ y, l[t]? = some y ∧ (x = .any ∨ (x = y ∧ ∀ j off, x = .loc j off → j < n))
  | [], i, t, x, h => by simp [keepFr] at h
  | y :: r, i, 0, x, h => by
    simp only [keepFr, List.getElem?_cons_zero, Option.some.injEq] at h
    refine ⟨y, rfl, ?_⟩
    subst h
    split
    · split
      · rename_i hlt; exact Or.inr ⟨rfl, fun j' off' e => by cases e; exact Nat.le_of_ble_eq_true hlt⟩
      · exact Or.inl rfl
    · rename_i hno; exact Or.inr ⟨rfl, fun j off e => (hno j off e).elim⟩
    · exact Or.inl rfl
  | y :: r, i, t + 1, x, h => by
    simp only [keepFr, List.getElem?_cons_succ] at h
    simpa using keepFr_get lv n r (i + 1) t x h

theorem keepFr_length (lv : List Nat) (n : Nat) : ∀ (l : List AV) (i : Nat), (keepFr lv n i l).length = l.length
  | [], _ => rfl
  | _ :: r, i => by simp [keepFr, keepFr_length lv n r (i + 1)]

theorem RelB.keep (h : RelB M0 w0 bs M s a w) (lv : List Nat) (n : Nat) : RelB M0 w0 (bs.take n) M (s.keep lv n) a w := by
  have hpre : ∀ (i b : Nat), (bs.take n)[i]? = some b → bs[i]? = some b := fun i b hb => by
    rw [List.getElem?_take] at hb; split at hb <;> simp_all
  refine ⟨h.m0, ?_, fun t x hx => ?_, h.df, h.aft, h.mo, h.hd, by simp [VS.keep, h.ll], fun i b p hb hp => ?_, fun i j b hi hj => h.nd i j b (hpre i b hi) (hpre j b hj)⟩
  · simp only [VS.keep, keepFr_length]; exact h.sz
  · obtain ⟨y, hy, hx'⟩ := keepFr_get lv n s.fr 0 t x hx
    obtain ⟨v, hv, hc⟩ := h.tm t y hy
    refine ⟨v, hv, ?_⟩
    rcases hx' with rfl | ⟨rfl, hj⟩
    · trivial
    · cases x with
      | v y => exact hc
      | loc i off =>
        obtain ⟨b, hb, hv⟩ := hc
        exact ⟨b, by rw [List.getElem?_take, if_pos (hj i off rfl)]; exact hb, hv⟩
      | any => trivial
      | ent x y => exact hc
  · refine h.lc i b p (hpre i b hb) ?_
    simp only [VS.keep] at hp
    rw [List.getElem?_take] at hp; split at hp <;> simp_all

/-- The start of a call. -/
theorem RelB.start {args : List Value} {n : Nat} {H : Hp} (hh : Hides M0 w0.heap H) :
    RelB M0 w0 [] M0 { fr := args.map AV.v ++ List.replicate (n - args.length) (.v undef), ls := [], H := H } { tmps := args.toArray ++ Array.replicate (n - args.length) undef, defers := [] } w0 := by
  refine ⟨hh.lt, by simp, fun t x hx => ?_, ⟨[], rfl, List.nodup_nil, fun r hr => by simp at hr⟩, .refl _ _, fun _ _ => Iff.rfl, hh, rfl, fun i b p hb => by simp at hb, fun i j b hb => by simp at hb⟩
  dsimp only at hx
  rw [List.getElem?_append] at hx
  simp only [List.length_map] at hx
  rw [Array.getElem?_append]
  simp only [List.size_toArray]
  split at hx
  · rename_i hlt
    rw [if_pos hlt]
    simp only [List.getElem?_map, Option.map_eq_some_iff] at hx
    obtain ⟨v, hv, rfl⟩ := hx
    exact ⟨v, by simpa using hv, rfl⟩
  · rename_i hlt
    rw [if_neg hlt]
    have hx' := List.getElem?_eq_some_iff.1 hx
    obtain ⟨hl, hx'⟩ := hx'
    rw [List.getElem_replicate] at hx'
    subst hx'
    refine ⟨undef, ?_, rfl⟩
    rw [Array.getElem?_replicate, if_pos (by rw [List.length_replicate] at hl; omega)]
end
end Go.KC
