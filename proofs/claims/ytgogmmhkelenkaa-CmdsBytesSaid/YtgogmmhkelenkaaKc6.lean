/- THE CORE, part 6: the operations that read or change memory, and calls: what is asked of them. Generic. -/
import Derived.Test.YtgogmmhkelenkaaKc5
import Derived.OrdersIn
import Derived.RangeFuncRecord
set_option linter.all false
set_option linter.constructorNameAsVariable false
namespace Go.KC

/-- A function's value. -/
structure Fv where
  fn : Fn
  fi : Array Value
  ca : Array Value

/-- Some value of the kind of z. -/
def exV (z : Value) (K : Value → Prop) : Prop :=
  match z with
  | .int k _ => ∃ n : Int, K (.int k n)
  | .bool _ => ∃ b : Bool, K (.bool b)
  | .string _ => ∃ s : ByteArray, K (.string s)
  | .pointer _ => ∃ p : Option Addr, K (.pointer p)
  | .slice _ _ _ => ∃ x : Sl, K (.slice x.a x.len x.cap)
  | .map _ => ∃ r : Option Nat, K (.map r)
  | .nilFunc => ∃ f : Fv, K (.func f.fn f.fi f.ca)
  | _ => ∃ v : Value, K v

def exVs : List Value → (List Value → Prop) → Prop
  | [], K => K []
  | z :: r, K => exV z fun v => exVs r fun vs => K (v :: vs)

def exT (P : Program) (t : TypeId) (K : Value → Prop) : Prop :=
  match P.info? t with
  | some ti =>
    match ti.zero with
    | some (.agg cs) => exVs cs.toList fun vs => K (.agg vs.toArray)
    | some z => exV z K
    | none => False
  | none => False

def exTs (P : Program) : List TypeId → (List Value → Prop) → Prop
  | [], K => K []
  | t :: r, K => exT P t fun v => exTs P r fun vs => K (v :: vs)

/-- Some value of a result's type. -/
def exR (P : Program) (t : TypeId) (K : Value → Prop) : Prop :=
  match P.underlying t with
  | some (.tuple ts) => exTs P ts.toList fun vs => K (.tuple vs.toArray)
  | _ => exT P t K

def RowAt (H : Hp) (a : Addr) (vs : List Value) : Prop := ∀ (j : Nat) (v : Value), vs[j]? = some v → Hp.cell? H (a.add j) = some v

def WrAt (H : Hp) (a : Addr) (n : Nat) : Prop := ∀ j, j < n → (Hp.cell? H (a.add j)).isSome = true ∧ Hp.frozen? H (a.add j) = false

def allOne : List Value → Bool
  | [] => true
  | v :: r => v.oneCell' && allOne r

def vLoad (P : Program) (t : TypeId) (a : Addr) (H : Hp) (K : Value → Prop) : Prop :=
  match P.underlying t, P.info? t with
  | some d, some ti =>
    match isAggD d, ti.zero with
    | true, some (.agg cs) => (match Nat.beq cs.size ti.size with | true => exVs cs.toList fun vs => RowAt H a vs ∧ K (.agg vs.toArray) | false => False)
    | false, some z => exV z fun v => Hp.cell? H a = some v ∧ K v
    | _, _ => False
  | _, _ => False

def setR : List Value → Nat → List Value → List Value
  | cs, _, [] => cs
  | cs, off, v :: r => setR (cs.set off v) (off + 1) r

/-- A heap, or a number, by a name of its own, if the printer chose names (by the mark 1000003 among the variables that a call keeps to itself). -/
def vNm (pr : List Nat) (X : Hp) (K : Hp → Prop) : Prop :=
  match pr.contains 1000003 with
  | true => ∀ H' : Hp, H' = X → K H'
  | false => K X
def vNb (pr : List Nat) (n : Nat) (K : Nat → Prop) : Prop :=
  match pr.contains 1000003 with
  | true => ∀ b : Nat, b = n → K b
  | false => K n
theorem vNm.get {pr : List Nat} {X : Hp} {K : Hp → Prop} (h : vNm pr X K) : K X := by
  unfold vNm at h; split at h; exact h _ rfl; exact h
theorem vNb.get {pr : List Nat} {n : Nat} {K : Nat → Prop} (h : vNb pr n K) : K n := by
  unfold vNb at h; split at h; exact h _ rfl; exact h
theorem vNm.imp {pr : List Nat} {X : Hp} {K K' : Hp → Prop} (h : vNm pr X K) (hk : ∀ H, K H → K' H) : vNm pr X K' := by
  unfold vNm at *; split
  · rename_i e; rw [e] at h; exact fun H' e => hk _ (h H' e)
  · rename_i e; rw [e] at h; exact hk _ h
theorem vNb.imp {pr : List Nat} {n : Nat} {K K' : Nat → Prop} (h : vNb pr n K) (hk : ∀ b, K b → K' b) : vNb pr n K' := by
  unfold vNb at *; split
  · rename_i e; rw [e] at h; exact fun H' e => hk _ (h H' e)
  · rename_i e; rw [e] at h; exact hk _ h

def vStore (P : Program) (pr : List Nat) (t : TypeId) (addr : AV) (x : Value) (s : VS) (k : VS → Prop) : Prop :=
  match P.info? t with
  | some ti =>
    match Nat.beq x.cells.size ti.size, allOne x.cells.toList with
    | true, true =>
      match addr with
      | .loc i off =>
        match s.ls[i]? with
        | some (e, cs) => (match Nat.ble (off + ti.size) cs.length with | true => k { s with ls := s.ls.set i (e, setR cs off x.cells.toList) } | false => False)
        | none => False
      | .v (.pointer (some a)) => WrAt s.H a ti.size ∧ vNm pr (Hp.setCells s.H a x.cells.toList 0) fun H' => k { s with H := H' }
      | _ => False
    | _, _ => False
  | none => False

def vNew (pr : List Nat) (dst : Option Tmp) (e : TypeId) (cells : List Value) (s : VS) (k : AV → VS → Prop) : Prop :=
  match dst with
  | some d =>
    match pr.contains d with
    | true => vNm pr (s.H.push hole) fun H' => k (.loc s.ls.length 0) { s with ls := s.ls ++ [(e, cells)], H := H' }
    | false => vNb pr s.H.size fun b => vNm pr (s.H.push (.cells cells.toArray e)) fun H' => k (.v (.pointer (some ⟨b, 0, none⟩))) { s with H := H' }
  | none => False

def srcLen : Value → Nat
  | .slice _ n _ => n
  | .string s => s.size
  | _ => 0

/-- The cells of the first n elements of a slice, or of a string. -/
def SrcAt (H : Hp) (size n : Nat) : Value → List Value → Prop
  | .slice (some a) _ _, cs => cs.length = n * size ∧ RowAt H a cs
  | .slice none _ _, cs => cs = []
  | .string s, cs => cs = (s.extract 0 n).data.toList.map fun b => .int .u8 b.toNat
  | _, _ => False

def vApp (P : Program) (t : TypeId) (a : Option Addr) (len cap : Nat) (src : Value) (H : Hp) (K : Sl → Hp → Prop) : Prop :=
  ∃ (e : TypeId) (ti : TypeInfo) (z : Value) (news : List Value), P.underlying t = some (.slice e) ∧ P.info? e = some ti ∧ ti.zero = some z ∧ 0 < ti.bytes ∧
    SrcAt H ti.size (srcLen src) src news ∧ allOne news = true ∧
    (len + srcLen src ≤ cap →
      match a with
      | some ad => WrAt H (ad.add (len * ti.size)) news.length ∧ K ⟨a, len + srcLen src, cap⟩ (Hp.setCells H (ad.add (len * ti.size)) news 0)
      | none => K ⟨none, len + srcLen src, cap⟩ H) ∧
    (cap < len + srcLen src → ∃ olds, SrcAt H ti.size len (.slice a len cap) olds ∧ (len + srcLen src) * ti.bytes ≤ 140737488355328 ∧
      ∀ c', len + srcLen src ≤ c' → c' < 2 ^ 63 →
        K ⟨some ⟨H.size, 0, none⟩, len + srcLen src, c'⟩ (H.push (.cells (olds ++ news ++ (Builtin.zeroCells z.cells (c' - (len + srcLen src))).toList).toArray e)))

def vCopy (P : Program) (t : TypeId) (a : Option Addr) (len : Nat) (src : Value) (H : Hp) (K : Nat → Hp → Prop) : Prop :=
  ∃ (e : TypeId) (ti : TypeInfo) (cs : List Value), P.underlying t = some (.slice e) ∧ P.info? e = some ti ∧
    SrcAt H ti.size (Nat.min (srcLen src) len) src cs ∧ allOne cs = true ∧
    match a with
    | some ad => WrAt H ad cs.length ∧ K (Nat.min (srcLen src) len) (Hp.setCells H ad cs 0)
    | none => K (Nat.min (srcLen src) len) H

/-- The bytes of a slice as a string. -/
def vB2S (H : Hp) (a : Option Addr) (n : Nat) (K : ByteArray → Prop) : Prop :=
  match a with
  | none => K ByteArray.empty
  | some ad => ∃ s : ByteArray, (s.size = n ∧ RowAt H ad (s.data.toList.map fun b => .int .u8 b.toNat)) ∧ K s

/-- A string as bytes of its own. -/
def vS2B (e : TypeId) (s : ByteArray) (H : Hp) (K : Sl → Hp → Prop) : Prop :=
  ∀ c, s.size ≤ c → c < 2 ^ 63 →
    K ⟨some ⟨H.size, 0, none⟩, s.size, c⟩
      (H.push (.cells (s.data.toList.map (fun b => Value.int .u8 b.toNat) ++ List.replicate (c - s.size) (Value.int .u8 0)).toArray e (c, c + 1)))

def goFn (P : Program) (f : FuncId) : Bool :=
  match P.funcs[f]? with
  | some fn => fn.body.isSome && fn.name != "runtime.NumGoroutine"
  | none => false

/-- A call of a round of the loop whose record is l. -/
def YCalls (P : Program) (l : Nat) (args : List Value) (H : Hp) (Q : Value → Hp → Prop) : Prop :=
  ∀ (M : Nat → Prop) (w : World), Hides M w.heap H → ∃ f tmps assign body, (Instr.yield l args.toArray).run P w = .ok (.round l f tmps assign body) w ∧
    RoundIn Fence.wide 0 P l f tmps assign body w fun e w' => ∃ r H' M', e = .returned r ∧ Aft M w w' ∧ (∀ b, b < w.heap.size → (M' b ↔ M b)) ∧ Hides M' w'.heap H' ∧ Q r H'

theorem YCalls.mono {P : Program} {l : Nat} {args : List Value} {H : Hp} {Q Q' : Value → Hp → Prop} (h : YCalls P l args H Q) (hq : ∀ r H', Q r H' → Q' r H') : YCalls P l args H Q' := by
  intro M w hh
  obtain ⟨f, tm, x, y, h1, h2⟩ := h M w hh
  exact ⟨f, tm, x, y, h1, h2.mono fun e w' ⟨r, H', M', he, ha, hm, hd, q⟩ => ⟨r, H', M', he, ha, hm, hd, hq _ _ q⟩⟩

/-- A function that has no Go body here, and tells v. -/
def ExtTells (P : Program) (f : FuncId) (args : List Value) (H : Hp) (v : Value) : Prop :=
  ∀ (M : Nat → Prop) (w : World), Hides M w.heap H → (callFunc f args.toArray).run P w = .ok (.value v) w
def ExtC (P : Program) (f : FuncId) (args : List Value) (H : Hp) (Q : Value → Hp → Prop) : Prop := ∃ v, ExtTells P f args H v ∧ Q v H

/-- 'append' of a row that is made, whose elements are zero. -/
def vAppZ (P : Program) (t : TypeId) (a : Option Addr) (len cap : Nat) (n : Int) (H : Hp) (K : Sl → Hp → Prop) : Prop :=
  ∃ (e : TypeId) (ti : TypeInfo) (z : Value), P.underlying t = some (.slice e) ∧ P.info? e = some ti ∧ ti.zero = some z ∧ 0 < ti.bytes ∧ 0 < ti.size ∧ 0 < n ∧ n ≤ 9223372036854775807 ∧
    (len + n.toNat) * ti.bytes ≤ 140737488355328 ∧ allOne (Builtin.zeroCells z.cells n.toNat).toList = true ∧
    (len + n.toNat ≤ cap →
      match a with
      | some ad => WrAt H (ad.add (len * ti.size)) (Builtin.zeroCells z.cells n.toNat).toList.length ∧ K ⟨a, len + n.toNat, cap⟩ (Hp.setCells H (ad.add (len * ti.size)) (Builtin.zeroCells z.cells n.toNat).toList 0)
      | none => K ⟨none, len + n.toNat, cap⟩ H) ∧
    (cap < len + n.toNat → ∃ olds, SrcAt H ti.size len (.slice a len cap) olds ∧
      ∀ c', len + n.toNat ≤ c' → c' < 2 ^ 63 →
        K ⟨some ⟨H.size, 0, none⟩, len + n.toNat, c'⟩ (H.push (.cells (olds ++ (Builtin.zeroCells z.cells n.toNat).toList ++ (Builtin.zeroCells z.cells (c' - (len + n.toNat))).toList).toArray e)))

/-- 'clear' of a slice. -/
def vClear (P : Program) (t : TypeId) (a : Option Addr) (n : Nat) (H : Hp) (K : Hp → Prop) : Prop :=
  ∃ (e : TypeId) (ti : TypeInfo) (z : Value), P.underlying t = some (.slice e) ∧ P.info? e = some ti ∧ ti.zero = some z ∧ allOne (Builtin.zeroCells z.cells n).toList = true ∧
    match a with
    | some ad => (n = 0 → K H) ∧ (0 < n → WrAt H ad (Builtin.zeroCells z.cells n).toList.length ∧ K (Hp.setCells H ad (Builtin.zeroCells z.cells n).toList 0))
    | none => K H

def vInv (P : Program) (fv : Value) (args : List Value) (H : Hp) (Q : Value → Hp → Prop) : Prop :=
  match fv with
  | .func (.func f) fi ca => (match goFn P f with | true => SCalls P f (fi.toList ++ args ++ ca.toList) H Q | false => ExtC P f (fi.toList ++ args ++ ca.toList) H Q)
  | .func (.yield l) fi _ => YCalls P l (fi.toList ++ args) H Q
  | _ => False

/-! ### Maps -/
def MapAt (H : Hp) (m : Option Nat) (es : List MapEntry) : Prop :=
  match m with
  | none => es = []
  | some r => ∃ c, H[r]? = some (.map es.toArray c)

/-- The kind of a map's keys, if they are whole numbers or texts, and the type of its values. -/
def keyD (P : Program) (t : TypeId) : Option (TypeDesc × TypeId) :=
  match P.underlying t with
  | some (.map kt e) =>
    match P.underlying kt with
    | some (.int i) => some (.int i, e)
    | some .string => some (.string, e)
    | _ => none
  | _ => none

/-- What a map has for a key. -/
def LookIs (P : Program) (t : TypeId) (H : Hp) (m : Option Nat) (k v : Value) (ok : Bool) : Prop :=
  ∃ es d e, MapAt H m es ∧ keyD P t = some (d, e) ∧
    match Instr.findNow d k es 0 with
    | some (some (_, x)) => x = v ∧ ok = true
    | some none => (∃ ti, P.info? e = some ti ∧ ti.zero = some v) ∧ ok = false
    | none => False

def vMapPut (P : Program) (t : TypeId) (m : Option Nat) (k v : Value) (H : Hp) (K : Hp → Prop) : Prop :=
  ∃ r es c d e, m = some r ∧ H[r]? = some (.map es c) ∧ keyD P t = some (d, e) ∧
    match Instr.findNow d k es.toList 0 with
    | some (some (i, _)) => K (H.setIfInBounds r (.map (es.modify i fun e => { e with key := k, val := v }) c))
    | some none => K (H.setIfInBounds r (.map (es.push { key := k, val := v, born := c }) (c + 1)))
    | none => False

/-- A place in a map for a key: what stood there (of a new one: nothing), and its stamp. -/
def vMapEnt (P : Program) (t : TypeId) (m : Option Nat) (k : Value) (H : Hp) (K : Value → Int → Hp → Prop) : Prop :=
  ∃ r es c d e, m = some r ∧ H[r]? = some (.map es c) ∧ keyD P t = some (d, e) ∧
    match Instr.findNow d k es.toList 0 with
    | some (some (i, v)) => ∃ x, es[i]? = some x ∧ K v (x.born : Nat) (H.setIfInBounds r (.map (es.modify i fun e => { e with key := k }) c))
    | some none => ∃ ti z, P.info? e = some ti ∧ ti.zero = some z ∧ K z (c : Nat) (H.setIfInBounds r (.map (es.push { key := k, val := z, born := c }) (c + 1)))
    | none => False
def vEntSt (m : Option Nat) (st : Int) (x : Value) (H : Hp) (K : Hp → Prop) : Prop :=
  ∃ r es c i, m = some r ∧ H[r]? = some (.map es c) ∧ es.findIdx? (fun e => (e.born : Int) == st) = some i ∧ K (H.setIfInBounds r (.map (es.modify i fun e => { e with val := x }) c))

def vMapDel (P : Program) (t : TypeId) (m : Option Nat) (k : Value) (H : Hp) (K : Hp → Prop) : Prop :=
  ∃ r es c d e, m = some r ∧ H[r]? = some (.map es c) ∧ keyD P t = some (d, e) ∧
    match Instr.findNow d k es.toList 0 with
    | some (some (i, _)) => K (H.setIfInBounds r (.map (es.eraseIdxIfInBounds i) c))
    | some none => K (H.setIfInBounds r (.map es c))
    | none => False

/-- A range over a map, on its way. -/
structure Nx where
  m : Nat
  since : Nat
  seen : Array Nat
  last : Nat
  es : Array MapEntry
  c : Nat

def NxAt (H : Hp) (r : Nat) (n : Nx) : Prop :=
  H[r]? = some (.mapIter (some n.m) n.since n.seen n.last) ∧ H[n.m]? = some (.map n.es n.c) ∧ (!n.seen.isEmpty && !n.es.isEmpty && n.es.all (·.born ≥ n.last)) = false
def Nx.step (n : Nx) (H : Hp) (r : Nat) (e : MapEntry) : Hp := H.setIfInBounds r (.mapIter (some n.m) n.since (n.seen.push e.born) n.c)
/-- It may end. -/
def Nx.over (n : Nx) : Bool := n.es.all fun e => n.seen.contains e.born || decide (n.since ≤ e.born)

/-- The types of a row of three: of what 'next' tells. -/
def three (P : Program) (t : TypeId) : Option (TypeId × TypeId) :=
  match P.underlying t with
  | some (.tuple ts) => (match ts.toList with | [_, a, b] => some (a, b) | _ => none)
  | _ => none

/-- The entry at which a range over a map stands. -/
def EntAt (H : Hp) (r : Nat) (e : MapEntry) : Prop :=
  ∃ m since seen stamp es c, H[r]? = some (.mapIter (some m) since seen c) ∧ seen.back? = some stamp ∧ H[m]? = some (.map es c) ∧ es.find? (·.born == stamp) = some e

def vNext (P : Program) (pr : List Nat) (t : TypeId) (it : Value) (H : Hp) (K : Value → Hp → Prop) : Prop :=
  match it, three P t with
  | .pointer (some a), some (kt, vt) => a.off = 0 ∧ ∃ n, NxAt H a.block n ∧
      (∀ e ∈ n.es.toList, n.seen.contains e.born = false → exT P kt fun x => exT P vt fun y => (e.key = x ∧ e.val = y) ∧ vNm pr (n.step H a.block e) fun H' => K (.tuple #[.bool true, x, y]) H') ∧
      (n.over = true → K (.tuple #[.bool false]) H)
  | .pointer (some a), none => a.off = 0 ∧ ∃ n, NxAt H a.block n ∧
      (∀ e ∈ n.es.toList, n.seen.contains e.born = false → vNm pr (n.step H a.block e) fun H' => K (.tuple #[.bool true, e.key, e.val]) H') ∧
      (n.over = true → K (.tuple #[.bool false]) H)
  | _, _ => False

def vOp (P : Program) (pr : List Nat) (o : Oper) (s : VS) (k : AV → VS → Prop) : Prop :=
  match o.op with
  | .alloc e =>
    match P.info? e with
    | some ti => (match ti.zero with | some z => vNew pr o.dst e z.cells.toList s k | none => False)
    | none => False
  | .box e x => (match s.ev x with | .v v => vNew pr o.dst e v.cells.toList s k | _ => False)
  | .buildSlice t n parts =>
    match P.underlying t, evParts s parts.toList with
    | some (.slice e), some ps =>
      match P.info? e with
      | some ti =>
        match ti.zero, Nat.ble (n * ti.size) 16777216 with
        | some z, true =>
          match Instr.fill (fun i => some (i * ti.size, ti.size)) ((Array.range (n * ti.size)).map ((if n * ti.size = 0 then #[] else z.cells)[· % (if n * ti.size = 0 then #[] else z.cells).size]!)) ps with
          | some cells => vNb pr s.H.size fun b => vNm pr (s.H.push (.cells cells e)) fun H' => k (.v (.slice (some ⟨b, 0, none⟩) n n)) { s with H := H' }
          | none => False
        | _, _ => False
      | none => False
    | _, _ => False
  | .load t addr =>
    match s.ev addr with
    | .loc i off =>
      match s.ls[i]?, P.info? t with
      | some (_, cs), some ti => (match Nat.ble (off + ti.size) cs.length with | true => vPart P t cs off fun v => k (.v v) s | false => False)
      | _, _ => False
    | .v (.pointer (some a)) => vLoad P t a s.H fun v => k (.v v) s
    | _ => False
  | .store t addr x => (match s.ev x with | .v v => vStore P pr t (s.ev addr) v s fun s' => k (.v undef) s' | _ => False)
  | .convert src dst x =>
    match s.ev x, P.underlying src, P.underlying dst with
    | .v (.slice a n _), some (.slice e), some .string => (match P.underlying e with | some (.int .u8) => vB2S s.H a n fun t => k (.v (.string t)) s | _ => False)
    | .v (.string t), some .string, some (.slice e) => (match P.underlying e with | some (.int .u8) => t.size < 2 ^ 63 ∧ vS2B e t s.H fun x H' => k (.v (.slice x.a x.len x.cap)) { s with H := H' } | _ => False)
    | _, _, _ => vPure P (.convert src dst x) s fun av => k av s
  | .call { callee := .value f, args := args, argTypes := _ } =>
    match s.ev f, evAll s args.toList with
    | .v fv, some vs => vInv P fv vs s.H fun r H' => exR P o.type fun v => r = v ∧ k (.v v) { s with H := H' }
    | _, _ => False
  | .call { callee := .builtin .append, args := args, argTypes := tys } =>
    match evAll s args.toList, tys[0]?, tys[1]? with
    | some [.slice a len cap, src], some t, some xt =>
      match P.underlying xt with
      | some (.slice _) | some .string => vApp P t a len cap src s.H fun x H' => k (.v (.slice x.a x.len x.cap)) { s with H := H' }
      | some (.int _) => (match src with | .int _ n => vAppZ P t a len cap n s.H fun x H' => k (.v (.slice x.a x.len x.cap)) { s with H := H' } | _ => False)
      | _ => False
    | _, _, _ => False
  | .call { callee := .builtin .clear, args := args, argTypes := tys } =>
    match evAll s args.toList, tys[0]? with
    | some [.slice a n _], some t => vClear P t a n s.H fun H' => k (.v (.tuple #[])) { s with H := H' }
    | _, _ => False
  | .call { callee := .builtin .copy, args := args, argTypes := tys } =>
    match evAll s args.toList, tys[0]? with
    | some [.slice a len _, src], some t => vCopy P t a len src s.H fun n H' => k (.v (.int .i64 n)) { s with H := H' }
    | _, _ => False
  | .makeMap t hint =>
    match hint.map s.ev with
    | none => vNb pr s.H.size fun b => vNm pr (s.H.push (.map #[] 0)) fun H' => k (.v (.map (some b))) { s with H := H' }
    | some (.v (.int _ _)) => (match P.underlying t with | some (.map _ _) => vNb pr s.H.size fun b => vNm pr (s.H.push (.map #[] 0)) fun H' => k (.v (.map (some b))) { s with H := H' } | _ => False)
    | _ => False
  | .lookup t m x ok =>
    match s.ev m, s.ev x, ok with
    | .v (.map r), .v kv, true => exR P o.type fun u => (match u with | .tuple ⟨[v, .bool b]⟩ => LookIs P t s.H r kv v b ∧ k (.v u) s | _ => False)
    | .v (.map r), .v kv, false => exR P o.type fun v => (∃ b, LookIs P t s.H r kv v b) ∧ k (.v v) s
    | _, _, _ => False
  | .mapUpdate t m x v =>
    match s.ev m, s.ev x, s.ev v with
    | .v (.map r), .v kv, .v vv => vMapPut P t r kv vv s.H fun H' => k (.v undef) { s with H := H' }
    | _, _, _ => False
  | .insert t m x v =>
    match s.ev m, s.ev x, s.ev v with
    | .v (.map r), .v kv, .v vv => vMapPut P t r kv vv s.H fun H' => k (.v undef) { s with H := H' }
    | _, _, _ => False
  | .range t x =>
    match s.ev x, P.underlying t with
    | .v (.map r), some (.map _ _) => ∃ m es c, r = some m ∧ s.H[m]? = some (.map es c) ∧ vNb pr s.H.size fun b => vNm pr (s.H.push (.mapIter (some m) c #[] c)) fun H' => k (.v (.pointer (some ⟨b, 0, none⟩))) { s with H := H' }
    | _, _ => False
  | .next it b =>
    match s.ev it, b with
    | .v v, false => vNext P pr o.type v s.H fun v H' => k (.v v) { s with H := H' }
    | _, _ => False
  | .mapEntry t m x =>
    match s.ev m, s.ev x with
    | .v (.map r), .v kv => vMapEnt P t r kv s.H fun v st H' => k (.v (.tuple #[v, .int .i64 st])) { s with H := H' }
    | _, _ => False
  | .entryStore _ m st x =>
    match s.ev m, s.ev st, s.ev x with
    | .v (.map r), .v (.int _ n), .v xv => vEntSt r n xv s.H fun H' => k (.v undef) { s with H := H' }
    | _, _, _ => False
  | .entry it =>
    match s.ev it with
    | .v (.pointer (some a)) => a.off = 0 ∧ ∃ e, EntAt s.H a.block e ∧ k (.ent e.key e.val) s
    | _ => False
  | .extract t i =>
    match s.ev t with
    | .ent x y =>
      match i with
      | 0 => exR P o.type fun v => x = v ∧ k (.v v) s
      | 1 => exR P o.type fun v => y = v ∧ k (.v v) s
      | _ => False
    | _ => vPure P (.extract t i) s fun av => k av s
  | .call { callee := .builtin .delete, args := args, argTypes := tys } =>
    match evAll s args.toList, tys[0]? with
    | some [.map m, kv], some t => vMapDel P t m kv s.H fun H' => k (.v (.tuple #[])) { s with H := H' }
    | _, _ => False
  | .call { callee := .builtin .len, args := args, argTypes := tys } =>
    match evAll s args.toList, (tys[0]?).bind P.underlying with
    | some [.map m], some (.map _ _) => ∃ es, MapAt s.H m es ∧ k (.v (.int .i64 es.length)) s
    | _, _ => vPure P (.call { callee := .builtin .len, args := args, argTypes := tys }) s fun av => k av s
  | op => vPure P op s fun av => k av s

end Go.KC

namespace Go.KC
/-! words for the printed texts -/
def w64 (x : Int) : Int := IntKind.i64.wrap x
def band (k : IntKind) (a b : Int) : Int := k.wrap ((BitVec.ofInt k.bits a &&& BitVec.ofInt k.bits b).toNat)
def bor (k : IntKind) (a b : Int) : Int := k.wrap ((BitVec.ofInt k.bits a ||| BitVec.ofInt k.bits b).toNat)
def bxor (k : IntKind) (a b : Int) : Int := k.wrap ((BitVec.ofInt k.bits a ^^^ BitVec.ofInt k.bits b).toNat)
def lookFr : List (Nat × AV) → Nat → AV
  | [], _ => .any
  | (i, x) :: r, k => match Nat.beq i k with | true => x | false => lookFr r k
def mkFrFrom (l : List (Nat × AV)) (k : Nat) : Nat → List AV
  | 0 => []
  | n + 1 => lookFr l k :: mkFrFrom l (k + 1) n
def mkFr (n : Nat) (l : List (Nat × AV)) : List AV := mkFrFrom l 0 n
def cutA (a : Option Addr) (cap l sz : Nat) : Option Addr := if cap = l then a else a.map (·.add (l * sz))
def holes (H : Hp) : Nat → Hp
  | 0 => H
  | n + 1 => Array.push (holes H n) hole
end Go.KC
