/- THE CORE, part 1: heaps with hidden blocks; a call seen from a heap in which what the caller keeps to itself is hidden. Generic: over any program. -/
import Derived.Calls
import Derived.LoopN
import Derived.Orders
import Derived.KernelRfl
import Derived.Tactics
set_option linter.all false
set_option linter.constructorNameAsVariable false
namespace Go.KC

abbrev Hp := Array Obj

/-- What stands in a hidden place: no object that Go code here ever meets. -/
def hole : Obj := .number ⟨0, 0, none⟩ true

def Hp.cell? (H : Hp) (a : Addr) : Option Value :=
  match H[a.block]? with
  | some (.cells c _ _) => if a.spot.isSome then none else c[a.off]?
  | _ => none

def Hp.frozen? (H : Hp) (a : Addr) : Bool :=
  match H[a.block]? with
  | some (.cells _ _ (lo, hi)) => lo ≤ a.off && a.off < hi
  | _ => false

def Hp.setCell (H : Hp) (a : Addr) (v : Value) : Hp :=
  H.modify a.block fun
    | .cells c elem frozen => .cells (if a.spot.isSome then c else c.setIfInBounds a.off v) elem frozen
    | o => o

def Hp.setCells (H : Hp) (a : Addr) : List Value → Nat → Hp
  | [], _ => H
  | v :: r, i => Hp.setCells (Hp.setCell H (a.add i) v) a r (i + 1)

theorem cell?_world (w : World) (a : Addr) : w.cell? a = Hp.cell? w.heap a := rfl
theorem frozen?_world (w : World) (a : Addr) : w.frozen? a = Hp.frozen? w.heap a := rfl
theorem setCell_world (w : World) (a : Addr) (v : Value) : (w.setCell a v).heap = Hp.setCell w.heap a v := rfl

/-- H is h, but for what M hides. -/
structure Hides (M : Nat → Prop) (h H : Hp) : Prop where
  size : H.size = h.size
  lt : ∀ b, M b → b < h.size
  same : ∀ b, ¬ M b → H[b]? = h[b]?
  hid : ∀ b, M b → H[b]? = some hole

structure Strm (w w' : World) : Prop where
  os : w'.os = w.os
  tape : w'.tape = w.tape
  output : w'.output = w.output

structure Aft (M : Nat → Prop) (w w' : World) : Prop where
  strm : Strm w w'
  size : w.heap.size ≤ w'.heap.size
  keep : ∀ b, M b → w'.heap[b]? = w.heap[b]?

theorem Strm.refl (w : World) : Strm w w := ⟨rfl, rfl, rfl⟩
theorem Strm.trans {a b c : World} (h : Strm a b) (k : Strm b c) : Strm a c := ⟨k.os.trans h.os, k.tape.trans h.tape, k.output.trans h.output⟩
theorem Aft.refl (M : Nat → Prop) (w : World) : Aft M w w := ⟨.refl w, Nat.le_refl _, fun _ _ => rfl⟩

/-- A call, whatever is hidden: it ends, it leaves what is hidden alone, and of its answer and of the heap behind it Q holds. -/
def SCalls (P : Program) (f : FuncId) (args : List Value) (H : Hp) (Q : Value → Hp → Prop) : Prop :=
  ∀ (M : Nat → Prop) (w : World), Hides M w.heap H → Calls P f args.toArray w fun e w' =>
    ∃ r H' M', e = .returned r ∧ Aft M w w' ∧ (∀ b, b < w.heap.size → (M' b ↔ M b)) ∧ Hides M' w'.heap H' ∧ Q r H'

theorem SCalls.mono {P : Program} {f : FuncId} {args : List Value} {H : Hp} {Q Q' : Value → Hp → Prop} (h : SCalls P f args H Q)
    (hq : ∀ r H', Q r H' → Q' r H') : SCalls P f args H Q' :=
  fun M w hh => (h M w hh).mono fun _ _ ⟨r, H', M', he, ha, hm, hd, q⟩ => ⟨r, H', M', he, ha, hm, hd, hq _ _ q⟩

theorem Hides.refl (h : Hp) : Hides (fun _ => False) h h := ⟨rfl, fun _ f => f.elim, fun _ _ => rfl, fun _ f => f.elim⟩

section
variable {M : Nat → Prop} {h H : Hp}

theorem Hides.of_some {b : Nat} {o : Obj} (hh : Hides M h H) (hb : H[b]? = some o) (ho : o ≠ hole) : ¬ M b ∧ h[b]? = some o := by
  by_cases hm : M b
  · have := hh.hid b hm
    rw [hb] at this
    exact absurd (Option.some.inj this) ho
  · exact ⟨hm, (hh.same b hm).symm.trans hb⟩

theorem Hides.cell {a : Addr} {v : Value} (hh : Hides M h H) (hc : Hp.cell? H a = some v) : ¬ M a.block ∧ Hp.cell? h a = some v := by
  unfold Hp.cell? at hc
  cases hb : H[a.block]? with
  | none => simp [hb] at hc
  | some o =>
    cases o with
    | cells c e fz =>
      obtain ⟨h1, h2⟩ := hh.of_some hb (by simp [hole])
      refine ⟨h1, ?_⟩
      simpa [Hp.cell?, h2, hb] using hc
    | _ => simp [hb] at hc

theorem Hides.frozen {a : Addr} (hh : Hides M h H) (hm : ¬ M a.block) : Hp.frozen? H a = Hp.frozen? h a := by
  unfold Hp.frozen?
  rw [hh.same _ hm]

theorem Hides.push {o : Obj} (hh : Hides M h H) : Hides M (h.push o) (H.push o) := by
  refine ⟨by simp [hh.size], fun b hb => ?_, fun b hb => ?_, fun b hb => ?_⟩
  · have := hh.lt b hb; simp; omega
  · rw [Array.getElem?_push, Array.getElem?_push, hh.size, hh.same b hb]
  · have := hh.lt b hb
    rw [Array.getElem?_push, if_neg (by rw [hh.size]; omega)]
    exact hh.hid b hb

/-- A new block that is hidden at once. -/
theorem Hides.pushHid {o : Obj} (hh : Hides M h H) : Hides (fun b => M b ∨ b = h.size) (h.push o) (H.push hole) := by
  refine ⟨by simp [hh.size], fun b hb => ?_, fun b hb => ?_, fun b hb => ?_⟩
  · rcases hb with hb | hb
    · have := hh.lt b hb; simp; omega
    · simp [hb]
  · rw [Array.getElem?_push, Array.getElem?_push, hh.size, if_neg (fun e => hb (Or.inr e)), if_neg (fun e => hb (Or.inr e))]
    exact hh.same b (fun e => hb (Or.inl e))
  · rw [Array.getElem?_push, hh.size]
    rcases hb with hb | hb
    · have := hh.lt b hb
      rw [if_neg (by omega)]; exact hh.hid b hb
    · rw [if_pos hb]

theorem Hp.size_setCell (H : Hp) (a : Addr) (v : Value) : (Hp.setCell H a v).size = H.size := by simp [Hp.setCell]

theorem Hp.getElem?_setCell_ne (H : Hp) (a : Addr) (v : Value) {b : Nat} (hb : b ≠ a.block) : (Hp.setCell H a v)[b]? = H[b]? := by
  simp only [Hp.setCell, Array.getElem?_modify]
  rw [if_neg (Ne.symm hb)]

theorem Hp.getElem?_setCell_same (H : Hp) (a : Addr) (v : Value) {c : Array Value} {e : TypeId} {fz : Nat × Nat} (hb : H[a.block]? = some (.cells c e fz)) :
    (Hp.setCell H a v)[a.block]? = some (.cells (if a.spot.isSome then c else c.setIfInBounds a.off v) e fz) := by
  simp only [Hp.setCell, Array.getElem?_modify, if_true, hb, Option.map_some]

theorem Hides.setCell {a : Addr} {v : Value} (hh : Hides M h H) (hm : ¬ M a.block) : Hides M (Hp.setCell h a v) (Hp.setCell H a v) := by
  refine ⟨by simp [Hp.size_setCell, hh.size], fun b hb => by rw [Hp.size_setCell]; exact hh.lt b hb, fun b hb => ?_, fun b hb => ?_⟩
  · simp only [Hp.setCell, Array.getElem?_modify]
    split
    · rw [hh.same b hb]
    · exact hh.same b hb
  · rw [Hp.getElem?_setCell_ne _ _ _ (fun e => hm (e ▸ hb))]
    exact hh.hid b hb

/-- A store into a hidden block is not seen. -/
theorem Hides.setHid {a : Addr} {v : Value} (hh : Hides M h H) (hm : M a.block) : Hides M (Hp.setCell h a v) H := by
  refine ⟨by simp [Hp.size_setCell, hh.size], fun b hb => by rw [Hp.size_setCell]; exact hh.lt b hb, fun b hb => ?_, hh.hid⟩
  rw [Hp.getElem?_setCell_ne h a v (b := b) (fun e => hb (by rw [e]; exact hm))]
  exact hh.same b hb
end

theorem Aft.push {M : Nat → Prop} {w0 w : World} (h : Aft M w0 w) (hl : ∀ b, M b → b < w0.heap.size) (o : Obj) (d : Nat) : Aft M w0 { w with heap := w.heap.push o, drawn := d } := by
  refine ⟨⟨h.strm.os, h.strm.tape, h.strm.output⟩, Nat.le_trans h.size (by simp), fun b hb => ?_⟩
  have h1 := hl b hb
  have h2 := h.size
  show (w.heap.push o)[b]? = _
  rw [Array.getElem?_push, if_neg (by omega)]
  exact h.keep b hb

theorem Aft.setCell {M : Nat → Prop} {w0 w : World} (h : Aft M w0 w) (a : Addr) (v : Value) (ha : ¬ M a.block) : Aft M w0 (w.setCell a v) := by
  refine ⟨⟨h.strm.os, h.strm.tape, h.strm.output⟩, by simpa [World.setCell] using h.size, fun b hb => ?_⟩
  rw [setCell_world, Hp.getElem?_setCell_ne _ _ _ (fun e => ha (e ▸ hb))]
  exact h.keep b hb

end Go.KC
