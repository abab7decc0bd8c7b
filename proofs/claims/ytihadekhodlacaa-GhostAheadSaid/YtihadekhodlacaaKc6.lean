/- THE CORE, part 6: the operations that read or change memory, and calls: what is asked of them. Generic. -/
import Derived.Test.YtihadekhodlacaaKc5
set_option linter.all false
set_option linter.constructorNameAsVariable false
namespace Go.KC

/-- Some value of the kind of z. -/
def exV (z : Value) (K : Value → Prop) : Prop :=
  match z with
  | .int k _ => ∃ n : Int, K (.int k n)
  | .bool _ => ∃ b : Bool, K (.bool b)
  | .string _ => ∃ s : ByteArray, K (.string s)
  | .pointer _ => ∃ p : Option Addr, K (.pointer p)
  | .slice _ _ _ => ∃ x : Sl, K (.slice x.a x.len x.cap)
  | .map _ => ∃ r : Option Nat, K (.map r)
  | _ => ∃ v : Value, K v

def exVs : List Value → (List Value → Prop) → Prop
  | [], K => K []
  | z :: r, K => exV z fun v => exVs r fun vs => K (v :: vs)

def exT (P : Program) (t : TypeId) (K : Value → Prop) : Prop :=
  match P.info? t with
  | some ti =>
    match ti.zero with
    | some (.agg cs) => exVs cs.toList fun vs => K (.agg vs.toArray)
    | some z => exV z K
    | none => False
  | none => False

def exTs (P : Program) : List TypeId → (List Value → Prop) → Prop
  | [], K => K []
  | t :: r, K => exT P t fun v => exTs P r fun vs => K (v :: vs)

/-- Some value of a result's type. -/
def exR (P : Program) (t : TypeId) (K : Value → Prop) : Prop :=
  match P.underlying t with
  | some (.tuple ts) => exTs P ts.toList fun vs => K (.tuple vs.toArray)
  | _ => exT P t K

def RowAt (H : Hp) (a : Addr) (vs : List Value) : Prop := ∀ (j : Nat) (v : Value), vs[j]? = some v → Hp.cell? H (a.add j) = some v

def WrAt (H : Hp) (a : Addr) (n : Nat) : Prop := ∀ j, j < n → (Hp.cell? H (a.add j)).isSome = true ∧ Hp.frozen? H (a.add j) = false

def allOne : List Value → Bool
  | [] => true
  | v :: r => v.oneCell' && allOne r

def vLoad (P : Program) (t : TypeId) (a : Addr) (H : Hp) (K : Value → Prop) : Prop :=
  match P.underlying t, P.info? t with
  | some d, some ti =>
    match isAggD d, ti.zero with
    | true, some (.agg cs) => (match Nat.beq cs.size ti.size with | true => exVs cs.toList fun vs => RowAt H a vs ∧ K (.agg vs.toArray) | false => False)
    | false, some z => exV z fun v => Hp.cell? H a = some v ∧ K v
    | _, _ => False
  | _, _ => False

def setR : List Value → Nat → List Value → List Value
  | cs, _, [] => cs
  | cs, off, v :: r => setR (cs.set off v) (off + 1) r

def vStore (P : Program) (t : TypeId) (addr : AV) (x : Value) (s : VS) (k : VS → Prop) : Prop :=
  match P.info? t with
  | some ti =>
    match Nat.beq x.cells.size ti.size, allOne x.cells.toList with
    | true, true =>
      match addr with
      | .loc i off =>
        match s.ls[i]? with
        | some (e, cs) => (match Nat.ble (off + ti.size) cs.length with | true => k { s with ls := s.ls.set i (e, setR cs off x.cells.toList) } | false => False)
        | none => False
      | .v (.pointer (some a)) => WrAt s.H a ti.size ∧ k { s with H := Hp.setCells s.H a x.cells.toList 0 }
      | _ => False
    | _, _ => False
  | none => False

def vNew (pr : List Nat) (dst : Option Tmp) (e : TypeId) (cells : List Value) (s : VS) (k : AV → VS → Prop) : Prop :=
  match dst with
  | some d =>
    match pr.contains d with
    | true => k (.loc s.ls.length 0) { s with ls := s.ls ++ [(e, cells)], H := s.H.push hole }
    | false => k (.v (.pointer (some ⟨s.H.size, 0, none⟩))) { s with H := s.H.push (.cells cells.toArray e) }
  | none => False

def srcLen : Value → Nat
  | .slice _ n _ => n
  | .string s => s.size
  | _ => 0

/-- The cells of the first n elements of a slice, or of a string. -/
def SrcAt (H : Hp) (size n : Nat) : Value → List Value → Prop
  | .slice (some a) _ _, cs => cs.length = n * size ∧ RowAt H a cs
  | .slice none _ _, cs => cs = []
  | .string s, cs => cs = (s.extract 0 n).data.toList.map fun b => .int .u8 b.toNat
  | _, _ => False

def vApp (P : Program) (t : TypeId) (a : Option Addr) (len cap : Nat) (src : Value) (H : Hp) (K : Sl → Hp → Prop) : Prop :=
  ∃ (e : TypeId) (ti : TypeInfo) (z : Value) (news : List Value), P.underlying t = some (.slice e) ∧ P.info? e = some ti ∧ ti.zero = some z ∧ 0 < ti.bytes ∧
    SrcAt H ti.size (srcLen src) src news ∧ allOne news = true ∧
    (len + srcLen src ≤ cap →
      match a with
      | some ad => WrAt H (ad.add (len * ti.size)) news.length ∧ K ⟨a, len + srcLen src, cap⟩ (Hp.setCells H (ad.add (len * ti.size)) news 0)
      | none => K ⟨none, len + srcLen src, cap⟩ H) ∧
    (cap < len + srcLen src → ∃ olds, SrcAt H ti.size len (.slice a len cap) olds ∧ (len + srcLen src) * ti.bytes ≤ 140737488355328 ∧
      ∀ c', len + srcLen src ≤ c' → c' < 2 ^ 63 →
        K ⟨some ⟨H.size, 0, none⟩, len + srcLen src, c'⟩ (H.push (.cells (olds ++ news ++ (Builtin.zeroCells z.cells (c' - (len + srcLen src))).toList).toArray e)))

def vCopy (P : Program) (t : TypeId) (a : Option Addr) (len : Nat) (src : Value) (H : Hp) (K : Nat → Hp → Prop) : Prop :=
  ∃ (e : TypeId) (ti : TypeInfo) (cs : List Value), P.underlying t = some (.slice e) ∧ P.info? e = some ti ∧
    SrcAt H ti.size (Nat.min (srcLen src) len) src cs ∧ allOne cs = true ∧
    match a with
    | some ad => WrAt H ad cs.length ∧ K (Nat.min (srcLen src) len) (Hp.setCells H ad cs 0)
    | none => K (Nat.min (srcLen src) len) H

/-- The bytes of a slice as a string. -/
def vB2S (H : Hp) (a : Option Addr) (n : Nat) (K : ByteArray → Prop) : Prop :=
  match a with
  | none => K ByteArray.empty
  | some ad => ∃ s : ByteArray, (s.size = n ∧ RowAt H ad (s.data.toList.map fun b => .int .u8 b.toNat)) ∧ K s

/-- A string as bytes of its own. -/
def vS2B (e : TypeId) (s : ByteArray) (H : Hp) (K : Sl → Hp → Prop) : Prop :=
  ∀ c, s.size ≤ c → c < 2 ^ 63 →
    K ⟨some ⟨H.size, 0, none⟩, s.size, c⟩
      (H.push (.cells (s.data.toList.map (fun b => Value.int .u8 b.toNat) ++ List.replicate (c - s.size) (Value.int .u8 0)).toArray e (c, c + 1)))

def goFn (P : Program) (f : FuncId) : Bool :=
  match P.funcs[f]? with
  | some fn => fn.body.isSome && fn.name != "runtime.NumGoroutine"
  | none => false

def vInv (P : Program) (fv : Value) (args : List Value) (H : Hp) (Q : Value → Hp → Prop) : Prop :=
  match fv with
  | .func (.func f) fi ca => (match goFn P f with | true => SCalls P f (fi.toList ++ args ++ ca.toList) H Q | false => False)
  | _ => False

def vOp (P : Program) (pr : List Nat) (o : Oper) (s : VS) (k : AV → VS → Prop) : Prop :=
  match o.op with
  | .alloc e =>
    match P.info? e with
    | some ti => (match ti.zero with | some z => vNew pr o.dst e z.cells.toList s k | none => False)
    | none => False
  | .box e x => (match s.ev x with | .v v => vNew pr o.dst e v.cells.toList s k | _ => False)
  | .buildSlice t n parts =>
    match P.underlying t, evParts s parts.toList with
    | some (.slice e), some ps =>
      match P.info? e with
      | some ti =>
        match ti.zero, Nat.ble (n * ti.size) 16777216 with
        | some z, true =>
          match Instr.fill (fun i => some (i * ti.size, ti.size)) ((Array.range (n * ti.size)).map ((if n * ti.size = 0 then #[] else z.cells)[· % (if n * ti.size = 0 then #[] else z.cells).size]!)) ps with
          | some cells => k (.v (.slice (some ⟨s.H.size, 0, none⟩) n n)) { s with H := s.H.push (.cells cells e) }
          | none => False
        | _, _ => False
      | none => False
    | _, _ => False
  | .load t addr =>
    match s.ev addr with
    | .loc i off =>
      match s.ls[i]?, P.info? t with
      | some (_, cs), some ti => (match Nat.ble (off + ti.size) cs.length with | true => vPart P t cs off fun v => k (.v v) s | false => False)
      | _, _ => False
    | .v (.pointer (some a)) => vLoad P t a s.H fun v => k (.v v) s
    | _ => False
  | .store t addr x => (match s.ev x with | .v v => vStore P t (s.ev addr) v s fun s' => k (.v undef) s' | _ => False)
  | .convert src dst x =>
    match s.ev x, P.underlying src, P.underlying dst with
    | .v (.slice a n _), some (.slice e), some .string => (match P.underlying e with | some (.int .u8) => vB2S s.H a n fun t => k (.v (.string t)) s | _ => False)
    | .v (.string t), some .string, some (.slice e) => (match P.underlying e with | some (.int .u8) => t.size < 2 ^ 63 ∧ vS2B e t s.H fun x H' => k (.v (.slice x.a x.len x.cap)) { s with H := H' } | _ => False)
    | _, _, _ => vPure P (.convert src dst x) s fun av => k av s
  | .call { callee := .value f, args := args, argTypes := _ } =>
    match s.ev f, evAll s args.toList with
    | .v fv, some vs => vInv P fv vs s.H fun r H' => exR P o.type fun v => r = v ∧ k (.v v) { s with H := H' }
    | _, _ => False
  | .call { callee := .builtin .append, args := args, argTypes := tys } =>
    match evAll s args.toList, tys[0]?, tys[1]? with
    | some [.slice a len cap, src], some t, some xt =>
      match P.underlying xt with
      | some (.slice _) | some .string => vApp P t a len cap src s.H fun x H' => k (.v (.slice x.a x.len x.cap)) { s with H := H' }
      | _ => False
    | _, _, _ => False
  | .call { callee := .builtin .copy, args := args, argTypes := tys } =>
    match evAll s args.toList, tys[0]? with
    | some [.slice a len _, src], some t => vCopy P t a len src s.H fun n H' => k (.v (.int .i64 n)) { s with H := H' }
    | _, _ => False
  | op => vPure P op s fun av => k av s

end Go.KC

namespace Go.KC
/-! words for the printed texts -/
def w64 (x : Int) : Int := IntKind.i64.wrap x
def band (k : IntKind) (a b : Int) : Int := k.wrap ((BitVec.ofInt k.bits a &&& BitVec.ofInt k.bits b).toNat)
def bor (k : IntKind) (a b : Int) : Int := k.wrap ((BitVec.ofInt k.bits a ||| BitVec.ofInt k.bits b).toNat)
def bxor (k : IntKind) (a b : Int) : Int := k.wrap ((BitVec.ofInt k.bits a ^^^ BitVec.ofInt k.bits b).toNat)
def lookFr : List (Nat × AV) → Nat → AV
  | [], _ => .any
  | (i, x) :: r, k => match Nat.beq i k with | true => x | false => lookFr r k
def mkFrFrom (l : List (Nat × AV)) (k : Nat) : Nat → List AV
  | 0 => []
  | n + 1 => lookFr l k :: mkFrFrom l (k + 1) n
def mkFr (n : Nat) (l : List (Nat × AV)) : List AV := mkFrFrom l 0 n
def cutA (a : Option Addr) (cap l sz : Nat) : Option Addr := if cap = l then a else a.map (·.add (l * sz))
def holes (H : Hp) : Nat → Hp
  | 0 => H
  | n + 1 => Array.push (holes H n) hole
end Go.KC
