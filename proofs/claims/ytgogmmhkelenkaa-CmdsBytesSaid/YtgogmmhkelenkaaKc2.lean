/- THE CORE, part 2: values of a frame, of which some are addresses of variables that the call keeps to itself; what the pure operations yield. Generic. -/
import Derived.Test.YtgogmmhkelenkaaKc1
import Derived.Laws.Entries
import Derived.Laws.Cells
set_option linter.all false
set_option linter.constructorNameAsVariable false
namespace Go.KC

/-- A value in a slot: a Go value, or the address of a cell of the i-th variable that this call keeps to itself; or an entry of a map: its key and value. -/
inductive AV where
  | v (x : Value)
  | loc (i off : Nat)
  | any
  | ent (k v : Value)

def Conc (bs : List Nat) : AV → Value → Prop
  | .v x, v => v = x
  | .loc i off, v => ∃ b, bs[i]? = some b ∧ v = .pointer (some ⟨b, off, none⟩)
  | .any, _ => True
  | .ent k x, v => v = .tuple #[k, x]

/-- A slice's value. -/
structure Sl where
  a : Option Addr
  len : Nat
  cap : Nat

structure VS where
  fr : List AV
  ls : List (TypeId × List Value)
  H : Hp

def VS.ev (s : VS) : Operand → AV
  | .tmp t => (s.fr[t]?).getD (.v undef)
  | .const v => .v v
  | .global g => .v (.pointer (some ⟨g, 0, none⟩))
  | .func f => .v (.func (.func f) #[] #[])

def VS.put (s : VS) : Option Tmp → AV → VS
  | none, _ => s
  | some d, x => { s with fr := s.fr.set d x }

/-- What is kept at a loop's head: the slots that are named, and the first n of the own variables. -/
def keepFr (lv : List Nat) (n : Nat) : Nat → List AV → List AV
  | _, [] => []
  | i, x :: r => (match lv.contains i, x with
    | true, .loc j off => (match Nat.blt j n with | true => .loc j off | false => .any)
    | true, x => x
    | false, _ => .any) :: keepFr lv n (i + 1) r

def VS.keep (s : VS) (lv : List Nat) (n : Nat) : VS := { s with fr := keepFr lv n 0 s.fr, ls := s.ls.take n }

/-- Both ways of a test. -/
def Br (b : Bool) (A B : Prop) : Prop := match b with | true => A | false => B

theorem Br.mk {b : Bool} {A B : Prop} (h : b = true → A) (k : b = false → B) : Br b A B := by cases b; exact k rfl; exact h rfl
theorem Br.yes {b : Bool} {A B : Prop} (h : b = true) (k : A) : Br b A B := by subst h; exact k
theorem Br.no {b : Bool} {A B : Prop} (h : b = false) (k : B) : Br b A B := by subst h; exact k

def vPtr (p : Option Addr) (K : Addr → Prop) : Prop := match p with | some a => K a | none => False
theorem vPtr.mk {p : Option Addr} {K : Addr → Prop} (a : Addr) (h : p = some a) (k : K a) : vPtr p K := by subst h; exact k

def isAggD : TypeDesc → Bool
  | .struct _ | .array _ _ => true
  | _ => false

/-- A part of a row of cells: what 'part' reads. -/
def vPart (P : Program) (t : TypeId) (cs : List Value) (off : Nat) (K : Value → Prop) : Prop :=
  match P.underlying t, P.info? t with
  | some d, some ti =>
    match isAggD d with
    | true => K (.agg ((cs.drop off).take ti.size).toArray)
    | false => match cs[off]? with | some v => K v | none => False
  | _, _ => False

def eqS.partV (P : Program) (t : TypeId) (cs : Array Value) (off : Nat) : Option Value :=
  match P.underlying t, P.info? t with
  | some d, some ti =>
    match isAggD d with
    | true => some (.agg (cs.extract off (off + ti.size)))
    | false => cs[off]?
  | _, _ => none

def eqS.eqFs (P : Program) (e : TypeId → Value → Value → Option Bool) : List Field → Array Value → Array Value → Option Bool
  | [], _, _ => some true
  | f :: r, xs, ys =>
    match f.name == "_" with
    | true => none
    | false =>
      match eqS.partV P f.type xs f.offset, eqS.partV P f.type ys f.offset with
      | some a, some b =>
        match e f.type a b, eqS.eqFs P e r xs ys with
        | some p, some q => some (p && q)
        | _, _ => none
      | _, _ => none

def eqS (P : Program) : Nat → TypeId → Value → Value → Option Bool
  | 0, _, _, _ => none
  | d + 1, t, x, y =>
    match P.underlying t, x, y with
    | some .bool, .bool a, .bool b => some (a == b)
    | some (.int _), .int k a, .int k' b => if k = k' then some (a == b) else none
    | some .string, .string a, .string b => some (a == b)
    | some (.struct fs), .agg xs, .agg ys =>
      match P.stoodInHeld t with
      | true => none
      | false => eqS.eqFs P (eqS P d) fs.toList xs ys
    | _, _, _ => none

def vEq (P : Program) (t : TypeId) (x y : Value) (K : Bool → Prop) : Prop :=
  match x, y with
  | .pointer p, .pointer none => match P.underlying t with | some (.pointer _) => K p.isNone | _ => False
  | .slice a _ _, .slice none _ _ => match P.underlying t with | some (.slice _) => K a.isNone | _ => False
  | .bool a, .bool b => match P.underlying t with | some .bool => K (a == b) | _ => False
  | .agg xs, .agg ys =>
    match P.eqGuardType P.depth t with
    | true => False
    | false => match eqS P 8 t (.agg xs) (.agg ys) with | some b => K b | none => False
  | _, _ => False

def vBin (P : Program) (op : BinOp) (t : TypeId) (x y : Value) (K : Value → Prop) : Prop :=
  match x, y with
  | .int k a, .int k' b =>
    match op with
    | .shl => 0 ≤ b ∧ K (.int k (k.wrap (a * 2 ^ (min b.toNat k.bits))))
    | .shr => 0 ≤ b ∧ K (.int k (a.fdiv (2 ^ (min b.toNat k.bits))))
    | _ =>
      if k = k' then
        match op with
        | .add => K (.int k (k.wrap (a + b)))
        | .sub => K (.int k (k.wrap (a - b)))
        | .mul => K (.int k (k.wrap (a * b)))
        | .quo => b ≠ 0 ∧ K (.int k (k.wrap (a.tdiv b)))
        | .rem => b ≠ 0 ∧ K (.int k (a.tmod b))
        | .and => K (.int k (k.wrap ((BitVec.ofInt k.bits a &&& BitVec.ofInt k.bits b).toNat)))
        | .or => K (.int k (k.wrap ((BitVec.ofInt k.bits a ||| BitVec.ofInt k.bits b).toNat)))
        | .xor => K (.int k (k.wrap ((BitVec.ofInt k.bits a ^^^ BitVec.ofInt k.bits b).toNat)))
        | .andNot => K (.int k (k.wrap ((BitVec.ofInt k.bits a &&& ~~~ BitVec.ofInt k.bits b).toNat)))
        | .eql => K (.bool (a == b))
        | .neq => K (.bool (a != b))
        | .lss => K (.bool (decide (a < b)))
        | .leq => K (.bool (decide (a ≤ b)))
        | .gtr => K (.bool (decide (a > b)))
        | .geq => K (.bool (decide (a ≥ b)))
        | _ => False
      else False
  | .string a, .string b =>
    match op with
    | .add => a.size + b.size ≤ 9223372036854775807 ∧ K (.string (a ++ b))
    | .eql => K (.bool (a.toList == b.toList))
    | .neq => K (.bool (!(a.toList == b.toList)))
    | .lss => K (.bool (Op.bytesLess a.toList b.toList))
    | .leq => K (.bool (Op.bytesLess a.toList b.toList || (a.toList == b.toList)))
    | .gtr => K (.bool (!(Op.bytesLess a.toList b.toList || (a.toList == b.toList))))
    | .geq => K (.bool (!(Op.bytesLess a.toList b.toList)))
    | _ => False
  | x, y =>
    match op with
    | .eql => vEq P t x y fun b => K (.bool b)
    | .neq => vEq P t x y fun b => K (.bool (!b))
    | _ => False

/-- A bound of a slice expression. -/
def vBd (x : Option AV) (dflt top : Nat) (K : Nat → Prop) : Prop :=
  match x with
  | none => K dflt
  | some (.v (.int _ i)) => (0 ≤ i ∧ i ≤ top) ∧ K i.toNat
  | _ => False

def vSlice (P : Program) (t : TypeId) (x : AV) (lo hi mx : Option AV) (K : Value → Prop) : Prop :=
  match x with
  | .v (.string s) =>
    match P.underlying t, mx with
    | some .string, none => vBd hi s.size s.size fun h => vBd lo 0 h fun l => K (.string (s.extract l h))
    | _, _ => False
  | .v (.slice a len cap) =>
    match P.underlying t with
    | some (.slice e) =>
      match P.info? e, hi, mx with
      | some _, none, some _ => False
      | some ti, _, _ =>
        vBd mx cap cap fun m => vBd hi len m fun h => vBd lo 0 h fun l =>
          K (.slice (if m = l then a else a.map (·.add (l * ti.size))) (h - l) (m - l))
      | none, _, _ => False
    | _ => False
  | _ => False

def vFieldAddr (P : Program) (st : TypeId) (x : AV) (f : Nat) (K : AV → Prop) : Prop :=
  match P.underlying st with
  | some (.struct fs) =>
    match fs[f]? with
    | some fd =>
      match P.info? fd.type with
      | some ti =>
        match ti.size with
        | 0 => False
        | _ + 1 => match x with
          | .loc i off => K (.loc i (off + fd.offset))
          | .v (.pointer (some a)) => K (.v (.pointer (some (a.add fd.offset))))
          | _ => False
      | none => False
    | none => False
  | _ => False

def vField (P : Program) (st : TypeId) (x : AV) (f : Nat) (K : Value → Prop) : Prop :=
  match P.underlying st, x with
  | some (.struct fs), .v (.agg cs) =>
    match fs[f]? with
    | some fd => match eqS.partV P fd.type cs fd.offset with | some v => K v | none => False
    | none => False
  | _, _ => False

def vIndexAddr (P : Program) (t : TypeId) (x ix : AV) (K : AV → Prop) : Prop :=
  match ix with
  | .v (.int _ i) =>
    match P.underlying t with
    | some (.slice e) =>
      match P.info? e, x with
      | some ti, .v (.slice a len _) => (0 ≤ i ∧ i < len) ∧ vPtr a fun ad => K (.v (.pointer (some (ad.add (i.toNat * ti.size)))))
      | _, _ => False
    | some (.array n e) =>
      match P.info? e, x with
      | some ti, .v (.pointer (some ad)) => (0 ≤ i ∧ i < n) ∧ K (.v (.pointer (some (ad.add (i.toNat * ti.size)))))
      | some ti, .loc j off => (0 ≤ i ∧ i < n) ∧ K (.loc j (off + i.toNat * ti.size))
      | _, _ => False
    | _ => False
  | _ => False

def vIndex (P : Program) (t : TypeId) (x ix : AV) (K : Value → Prop) : Prop :=
  match ix with
  | .v (.int _ i) =>
    match P.underlying t, x with
    | some .string, .v (.string s) => ∃ c : UInt8, (0 ≤ i ∧ s[i.toNat]? = some c) ∧ K (.int .u8 c.toNat)
    | some (.array n e), .v (.agg cs) =>
      match P.info? e with
      | some ti => (0 ≤ i ∧ i < n) ∧ match eqS.partV P e cs (i.toNat * ti.size) with | some v => K v | none => False
      | none => False
    | _, _ => False
  | _ => False

def evAll (s : VS) : List Operand → Option (List Value)
  | [] => some []
  | x :: r => match s.ev x, evAll s r with | .v a, some b => some (a :: b) | _, _ => none

def placesOf (P : Program) : List Field → Option (List (Nat × Nat))
  | [] => some []
  | f :: r => match P.info? f.type, placesOf P r with | some ti, some b => some ((f.offset, ti.size) :: b) | _, _ => none

def evParts (s : VS) : List (Nat × Operand) → Option (List (Nat × Value))
  | [] => some []
  | (i, x) :: r => match s.ev x, evParts s r with | .v a, some b => some ((i, a) :: b) | _, _ => none

def vBuild (P : Program) (t : TypeId) (parts : Option (List (Nat × Value))) (K : Value → Prop) : Prop :=
  match P.info? t, P.underlying t, parts with
  | some ti, some (.struct fs), some ps =>
    match ti.zero, placesOf P fs.toList with
    | some z, some pl =>
      match Instr.fill (pl[·]?) z.cells ps with
      | some cells => K (.agg cells)
      | none => False
    | _, _ => False
  | some ti, some (.array _ e), some ps =>
    match ti.zero, P.info? e with
    | some z, some te =>
      match Instr.fill (fun i => some (i * te.size, te.size)) z.cells ps with
      | some cells => K (.agg cells)
      | none => False
    | _, _ => False
  | _, _, _ => False

def vMm (mx : Bool) : Value → List Value → (Value → Prop) → Prop
  | x, [], K => K x
  | .int k a, .int _ b :: r, K => vMm mx (.int k (match mx with | true => if b > a then b else a | false => if b < a then b else a)) r K
  | _, _, _ => False

/-- The operations that yield a value out of their operands alone. -/
def vPure (P : Program) (o : Op) (s : VS) (K : AV → Prop) : Prop :=
  match o with
  | .move x | .assign x => K (s.ev x)
  | .pick c a b => match s.ev c with | .v (.bool t) => Br t (K (s.ev a)) (K (s.ev b)) | _ => False
  | .nilCheck x => match s.ev x with
    | .loc i off => K (.loc i off)
    | .v (.pointer p) => vPtr p fun a => K (.v (.pointer (some a)))
    | .v (.func (.func f) fi ca) => K (.v (.func (.func f) fi ca))
    | _ => False
  | .binOp op t x y _ => match s.ev x, s.ev y with | .v a, .v b => vBin P op t a b fun v => K (.v v) | _, _ => False
  | .unOp op _ x => match op, s.ev x with
    | .not, .v (.bool b) => K (.v (.bool (!b)))
    | .neg, .v (.int k n) => K (.v (.int k (k.wrap (0 - n))))
    | _, _ => False
  | .convert src dst x => match P.underlying src, P.underlying dst, s.ev x with
    | some _, some (.int k), .v (.int _ n) => K (.v (.int k (k.wrap n)))
    | some _, some .string, .v (.string t) => K (.v (.string t))
    | _, _, _ => False
  | .makeFunc fn first captured => match evAll s first.toList, evAll s captured.toList with | some a, some b => K (.v (.func fn a.toArray b.toArray)) | _, _ => False
  | .extract t i => match s.ev t with | .v (.tuple vs) => (match vs[i]? with | some v => K (.v v) | none => False) | _ => False
  | .fieldAddr st x f => vFieldAddr P st (s.ev x) f K
  | .field st x f => vField P st (s.ev x) f fun v => K (.v v)
  | .indexAddr t x ix => vIndexAddr P t (s.ev x) (s.ev ix) K
  | .index t x ix => vIndex P t (s.ev x) (s.ev ix) fun v => K (.v v)
  | .slice t x lo hi mx => vSlice P t (s.ev x) (lo.map s.ev) (hi.map s.ev) (mx.map s.ev) fun v => K (.v v)
  | .build t parts => vBuild P t (evParts s parts.toList) fun v => K (.v v)
  | .call { callee := .builtin b, args := args, argTypes := tys } =>
    match b, evAll s args.toList with
    | .len, some [.string t] => (match (tys[0]?).bind P.underlying with | some .string => K (.v (.int .i64 t.size)) | _ => False)
    | .len, some [.slice _ n _] => (match (tys[0]?).bind P.underlying with | some (.slice _) => K (.v (.int .i64 n)) | _ => False)
    | .cap, some [.slice _ _ c] => (match (tys[0]?).bind P.underlying with | some (.slice _) => K (.v (.int .i64 c)) | _ => False)
    | .max, some (x :: r) => vMm true x r fun v => K (.v v)
    | .min, some (x :: r) => vMm false x r fun v => K (.v v)
    | _, _ => False
  | _ => False

end Go.KC
