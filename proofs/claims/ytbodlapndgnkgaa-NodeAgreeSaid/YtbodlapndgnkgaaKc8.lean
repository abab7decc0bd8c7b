/- THE CORE, part 6: the operations that read or change memory, and calls: what is asked of them. Generic. -/
import Derived.Test.YtbodlapndgnkgaaKc5
import Derived.OrdersIn
import Derived.RangeFuncRecord
import Derived.Laws.Append
set_option linter.all false
set_option linter.constructorNameAsVariable false
namespace Go.KC

/-- A function's value. -/
structure Fv where
  fn : Fn
  fi : Array Value
  ca : Array Value

/-- Some value of the kind of z. -/
def exV (z : Value) (K : Value → Prop) : Prop :=
  match z with
  | .int k _ => ∃ n : Int, K (.int k n)
  | .bool _ => ∃ b : Bool, K (.bool b)
  | .string _ => ∃ s : ByteArray, K (.string s)
  | .pointer _ => ∃ p : Option Addr, K (.pointer p)
  | .slice _ _ _ => ∃ x : Sl, K (.slice x.a x.len x.cap)
  | .map _ => ∃ r : Option Nat, K (.map r)
  | .nilFunc => ∃ f : Fv, K (.func f.fn f.fi f.ca)
  | _ => ∃ v : Value, K v

def exVs : List Value → (List Value → Prop) → Prop
  | [], K => K []
  | z :: r, K => exV z fun v => exVs r fun vs => K (v :: vs)

def exT (P : Program) (t : TypeId) (K : Value → Prop) : Prop :=
  match P.info? t with
  | some ti =>
    match ti.zero with
    | some (.agg cs) => exVs cs.toList fun vs => K (.agg vs.toArray)
    | some z => exV z K
    | none => False
  | none => False

def exTs (P : Program) : List TypeId → (List Value → Prop) → Prop
  | [], K => K []
  | t :: r, K => exT P t fun v => exTs P r fun vs => K (v :: vs)

/-- Some value of a result's type. -/
def exR (P : Program) (t : TypeId) (K : Value → Prop) : Prop :=
  match P.underlying t with
  | some (.tuple ts) => exTs P ts.toList fun vs => K (.tuple vs.toArray)
  | _ => exT P t K

def RowAt (H : Hp) (a : Addr) (vs : List Value) : Prop := ∀ (j : Nat) (v : Value), vs[j]? = some v → Hp.cell? H (a.add j) = some v

def WrAt (H : Hp) (a : Addr) (n : Nat) : Prop := ∀ j, j < n → (Hp.cell? H (a.add j)).isSome = true ∧ Hp.frozen? H (a.add j) = false

def allOne : List Value → Bool
  | [] => true
  | v :: r => v.oneCell' && allOne r

def vLoad (P : Program) (t : TypeId) (a : Addr) (H : Hp) (K : Value → Prop) : Prop :=
  match P.underlying t, P.info? t with
  | some d, some ti =>
    match isAggD d, ti.zero with
    | true, some (.agg cs) => (match Nat.beq cs.size ti.size with | true => exVs cs.toList fun vs => RowAt H a vs ∧ K (.agg vs.toArray) | false => False)
    | false, some z => exV z fun v => Hp.cell? H a = some v ∧ K v
    | _, _ => False
  | _, _ => False

def setR : List Value → Nat → List Value → List Value
  | cs, _, [] => cs
  | cs, off, v :: r => setR (cs.set off v) (off + 1) r

/-- A heap, or a number, by a name of its own, if the printer chose names (by the mark 1000003 among the variables that a call keeps to itself). -/
def vNm (pr : List Nat) (X : Hp) (K : Hp → Prop) : Prop :=
  match pr.contains 1000003 with
  | true => ∀ H' : Hp, H' = X → K H'
  | false => K X
def vNb (pr : List Nat) (n : Nat) (K : Nat → Prop) : Prop :=
  match pr.contains 1000003 with
  | true => ∀ b : Nat, b = n → K b
  | false => K n
theorem vNm.get {pr : List Nat} {X : Hp} {K : Hp → Prop} (h : vNm pr X K) : K X := by
  unfold vNm at h; split at h; exact h _ rfl; exact h
theorem vNb.get {pr : List Nat} {n : Nat} {K : Nat → Prop} (h : vNb pr n K) : K n := by
  unfold vNb at h; split at h; exact h _ rfl; exact h
theorem vNm.imp {pr : List Nat} {X : Hp} {K K' : Hp → Prop} (h : vNm pr X K) (hk : ∀ H, K H → K' H) : vNm pr X K' := by
  unfold vNm at *; split
  · rename_i e; rw [e] at h; exact fun H' e => hk _ (h H' e)
  · rename_i e; rw [e] at h; exact hk _ h
theorem vNb.imp {pr : List Nat} {n : Nat} {K K' : Nat → Prop} (h : vNb pr n K) (hk : ∀ b, K b → K' b) : vNb pr n K' := by
  unfold vNb at *; split
  · rename_i e; rw [e] at h; exact fun H' e => hk _ (h H' e)
  · rename_i e; rw [e] at h; exact hk _ h

def vStore (P : Program) (pr : List Nat) (t : TypeId) (addr : AV) (x : Value) (s : VS) (k : VS → Prop) : Prop :=
  match P.info? t with
  | some ti =>
    match Nat.beq x.cells.size ti.size, allOne x.cells.toList with
    | true, true =>
      match addr with
      | .loc i off =>
        match s.ls[i]? with
        | some (e, cs) => (match Nat.ble (off + ti.size) cs.length with | true => k { s with ls := s.ls.set i (e, setR cs off x.cells.toList) } | false => False)
        | none => False
      | .v (.pointer (some a)) => WrAt s.H a ti.size ∧ vNm pr (Hp.setCells s.H a x.cells.toList 0) fun H' => k { s with H := H' }
      | _ => False
    | _, _ => False
  | none => False

def vNew (pr : List Nat) (dst : Option Tmp) (e : TypeId) (cells : List Value) (s : VS) (k : AV → VS → Prop) : Prop :=
  match dst with
  | some d =>
    match pr.contains d with
    | true => vNm pr (s.H.push hole) fun H' => k (.loc s.ls.length 0) { s with ls := s.ls ++ [(e, cells)], H := H' }
    | false => vNb pr s.H.size fun b => vNm pr (s.H.push (.cells cells.toArray e)) fun H' => k (.v (.pointer (some ⟨b, 0, none⟩))) { s with H := H' }
  | none => False

def srcLen : Value → Nat
  | .slice _ n _ => n
  | .string s => s.size
  | _ => 0

/-- The cells of the first n elements of a slice, or of a string. -/
def SrcAt (H : Hp) (size n : Nat) : Value → List Value → Prop
  | .slice (some a) _ _, cs => cs.length = n * size ∧ RowAt H a cs
  | .slice none _ _, cs => cs = []
  | .string s, cs => cs = (s.extract 0 n).data.toList.map fun b => .int .u8 b.toNat
  | _, _ => False

def vApp (P : Program) (t : TypeId) (a : Option Addr) (len cap : Nat) (src : Value) (H : Hp) (K : Sl → Hp → Prop) : Prop :=
  ∃ (e : TypeId) (ti : TypeInfo) (z : Value) (news : List Value), P.underlying t = some (.slice e) ∧ P.info? e = some ti ∧ ti.zero = some z ∧ 0 < ti.bytes ∧
    SrcAt H ti.size (srcLen src) src news ∧ allOne news = true ∧
    (len + srcLen src ≤ cap →
      match a with
      | some ad => WrAt H (ad.add (len * ti.size)) news.length ∧ K ⟨a, len + srcLen src, cap⟩ (Hp.setCells H (ad.add (len * ti.size)) news 0)
      | none => K ⟨none, len + srcLen src, cap⟩ H) ∧
    (cap < len + srcLen src → ∃ olds, SrcAt H ti.size len (.slice a len cap) olds ∧ (len + srcLen src) * ti.bytes ≤ 140737488355328 ∧
      ∀ c', len + srcLen src ≤ c' → c' < 2 ^ 63 →
        K ⟨some ⟨H.size, 0, none⟩, len + srcLen src, c'⟩ (H.push (.cells (olds ++ news ++ (Builtin.zeroCells z.cells (c' - (len + srcLen src))).toList).toArray e)))

def vCopy (P : Program) (t : TypeId) (a : Option Addr) (len : Nat) (src : Value) (H : Hp) (K : Nat → Hp → Prop) : Prop :=
  ∃ (e : TypeId) (ti : TypeInfo) (cs : List Value), P.underlying t = some (.slice e) ∧ P.info? e = some ti ∧
    SrcAt H ti.size (Nat.min (srcLen src) len) src cs ∧ allOne cs = true ∧
    match a with
    | some ad => WrAt H ad cs.length ∧ K (Nat.min (srcLen src) len) (Hp.setCells H ad cs 0)
    | none => K (Nat.min (srcLen src) len) H

/-- The bytes of a slice as a string. -/
def vB2S (H : Hp) (a : Option Addr) (n : Nat) (K : ByteArray → Prop) : Prop :=
  match a with
  | none => K ByteArray.empty
  | some ad => ∃ s : ByteArray, (s.size = n ∧ RowAt H ad (s.data.toList.map fun b => .int .u8 b.toNat)) ∧ K s

/-- A string as bytes of its own. -/
def vS2B (e : TypeId) (s : ByteArray) (H : Hp) (K : Sl → Hp → Prop) : Prop :=
  ∀ c, s.size ≤ c → c < 2 ^ 63 →
    K ⟨some ⟨H.size, 0, none⟩, s.size, c⟩
      (H.push (.cells (s.data.toList.map (fun b => Value.int .u8 b.toNat) ++ List.replicate (c - s.size) (Value.int .u8 0)).toArray e (c, c + 1)))

def goFn (P : Program) (f : FuncId) : Bool :=
  match P.funcs[f]? with
  | some fn => fn.body.isSome && fn.name != "runtime.NumGoroutine"
  | none => false

/-- A call of a round of the loop whose record is l. -/
def YCalls (P : Program) (l : Nat) (args : List Value) (H : Hp) (Q : Value → Hp → Prop) : Prop :=
  ∀ (M : Nat → Prop) (w : World), Hides M w.heap H → ∃ f tmps assign body, (Instr.yield l args.toArray).run P w = .ok (.round l f tmps assign body) w ∧
    RoundIn Fence.wide 0 P l f tmps assign body w fun e w' => ∃ r H' M', e = .returned r ∧ Aft M w w' ∧ (∀ b, b < w.heap.size → (M' b ↔ M b)) ∧ Hides M' w'.heap H' ∧ Q r H'

theorem YCalls.mono {P : Program} {l : Nat} {args : List Value} {H : Hp} {Q Q' : Value → Hp → Prop} (h : YCalls P l args H Q) (hq : ∀ r H', Q r H' → Q' r H') : YCalls P l args H Q' := by
  intro M w hh
  obtain ⟨f, tm, x, y, h1, h2⟩ := h M w hh
  exact ⟨f, tm, x, y, h1, h2.mono fun e w' ⟨r, H', M', he, ha, hm, hd, q⟩ => ⟨r, H', M', he, ha, hm, hd, hq _ _ q⟩⟩

/-- A function that has no Go body here, and tells v. -/
def ExtTells (P : Program) (f : FuncId) (args : List Value) (H : Hp) (v : Value) : Prop :=
  ∀ (M : Nat → Prop) (w : World), Hides M w.heap H → (callFunc f args.toArray).run P w = .ok (.value v) w
def ExtC (P : Program) (f : FuncId) (args : List Value) (H : Hp) (Q : Value → Hp → Prop) : Prop := ∃ v, ExtTells P f args H v ∧ Q v H

/-- 'append' of a row that is made, whose elements are zero. -/
def vAppZ (P : Program) (t : TypeId) (a : Option Addr) (len cap : Nat) (n : Int) (H : Hp) (K : Sl → Hp → Prop) : Prop :=
  ∃ (e : TypeId) (ti : TypeInfo) (z : Value), P.underlying t = some (.slice e) ∧ P.info? e = some ti ∧ ti.zero = some z ∧ 0 < ti.bytes ∧ 0 < ti.size ∧ 0 < n ∧ n ≤ 9223372036854775807 ∧
    (len + n.toNat) * ti.bytes ≤ 140737488355328 ∧ allOne (Builtin.zeroCells z.cells n.toNat).toList = true ∧
    (len + n.toNat ≤ cap →
      match a with
      | some ad => WrAt H (ad.add (len * ti.size)) (Builtin.zeroCells z.cells n.toNat).toList.length ∧ K ⟨a, len + n.toNat, cap⟩ (Hp.setCells H (ad.add (len * ti.size)) (Builtin.zeroCells z.cells n.toNat).toList 0)
      | none => K ⟨none, len + n.toNat, cap⟩ H) ∧
    (cap < len + n.toNat → ∃ olds, SrcAt H ti.size len (.slice a len cap) olds ∧
      ∀ c', len + n.toNat ≤ c' → c' < 2 ^ 63 →
        K ⟨some ⟨H.size, 0, none⟩, len + n.toNat, c'⟩ (H.push (.cells (olds ++ (Builtin.zeroCells z.cells n.toNat).toList ++ (Builtin.zeroCells z.cells (c' - (len + n.toNat))).toList).toArray e)))

/-- 'clear' of a slice. -/
def vClear (P : Program) (t : TypeId) (a : Option Addr) (n : Nat) (H : Hp) (K : Hp → Prop) : Prop :=
  ∃ (e : TypeId) (ti : TypeInfo) (z : Value), P.underlying t = some (.slice e) ∧ P.info? e = some ti ∧ ti.zero = some z ∧ allOne (Builtin.zeroCells z.cells n).toList = true ∧
    match a with
    | some ad => (n = 0 → K H) ∧ (0 < n → WrAt H ad (Builtin.zeroCells z.cells n).toList.length ∧ K (Hp.setCells H ad (Builtin.zeroCells z.cells n).toList 0))
    | none => K H

def vInv (P : Program) (fv : Value) (args : List Value) (H : Hp) (Q : Value → Hp → Prop) : Prop :=
  match fv with
  | .func (.func f) fi ca => (match goFn P f with | true => SCalls P f (fi.toList ++ args ++ ca.toList) H Q | false => ExtC P f (fi.toList ++ args ++ ca.toList) H Q)
  | .func (.yield l) fi _ => YCalls P l (fi.toList ++ args) H Q
  | _ => False

/-! ### Maps -/
def MapAt (H : Hp) (m : Option Nat) (es : List MapEntry) : Prop :=
  match m with
  | none => es = []
  | some r => ∃ c, H[r]? = some (.map es.toArray c)

/-- The kind of a map's keys, if they are whole numbers or texts, and the type of its values. -/
def keyD (P : Program) (t : TypeId) : Option (TypeDesc × TypeId) :=
  match P.underlying t with
  | some (.map kt e) =>
    match P.underlying kt with
    | some (.int i) => some (.int i, e)
    | some .string => some (.string, e)
    | _ => none
  | _ => none

/-- What a map has for a key. -/
def LookIs (P : Program) (t : TypeId) (H : Hp) (m : Option Nat) (k v : Value) (ok : Bool) : Prop :=
  ∃ es d e, MapAt H m es ∧ keyD P t = some (d, e) ∧
    match Instr.findNow d k es 0 with
    | some (some (_, x)) => x = v ∧ ok = true
    | some none => (∃ ti, P.info? e = some ti ∧ ti.zero = some v) ∧ ok = false
    | none => False

def vMapPut (P : Program) (t : TypeId) (m : Option Nat) (k v : Value) (H : Hp) (K : Hp → Prop) : Prop :=
  ∃ r es c d e, m = some r ∧ H[r]? = some (.map es c) ∧ keyD P t = some (d, e) ∧
    match Instr.findNow d k es.toList 0 with
    | some (some (i, _)) => K (H.setIfInBounds r (.map (es.modify i fun e => { e with key := k, val := v }) c))
    | some none => K (H.setIfInBounds r (.map (es.push { key := k, val := v, born := c }) (c + 1)))
    | none => False

/-- A place in a map for a key: what stood there (of a new one: nothing), and its stamp. -/
def vMapEnt (P : Program) (t : TypeId) (m : Option Nat) (k : Value) (H : Hp) (K : Value → Int → Hp → Prop) : Prop :=
  ∃ r es c d e, m = some r ∧ H[r]? = some (.map es c) ∧ keyD P t = some (d, e) ∧
    match Instr.findNow d k es.toList 0 with
    | some (some (i, v)) => ∃ x, es[i]? = some x ∧ K v (x.born : Nat) (H.setIfInBounds r (.map (es.modify i fun e => { e with key := k }) c))
    | some none => ∃ ti z, P.info? e = some ti ∧ ti.zero = some z ∧ K z (c : Nat) (H.setIfInBounds r (.map (es.push { key := k, val := z, born := c }) (c + 1)))
    | none => False
def vEntSt (m : Option Nat) (st : Int) (x : Value) (H : Hp) (K : Hp → Prop) : Prop :=
  ∃ r es c i, m = some r ∧ H[r]? = some (.map es c) ∧ es.findIdx? (fun e => (e.born : Int) == st) = some i ∧ K (H.setIfInBounds r (.map (es.modify i fun e => { e with val := x }) c))

def vMapDel (P : Program) (t : TypeId) (m : Option Nat) (k : Value) (H : Hp) (K : Hp → Prop) : Prop :=
  ∃ r es c d e, m = some r ∧ H[r]? = some (.map es c) ∧ keyD P t = some (d, e) ∧
    match Instr.findNow d k es.toList 0 with
    | some (some (i, _)) => K (H.setIfInBounds r (.map (es.eraseIdxIfInBounds i) c))
    | some none => K (H.setIfInBounds r (.map es c))
    | none => False

/-- A range over a map, on its way. -/
structure Nx where
  m : Nat
  since : Nat
  seen : Array Nat
  last : Nat
  es : Array MapEntry
  c : Nat

def NxAt (H : Hp) (r : Nat) (n : Nx) : Prop :=
  H[r]? = some (.mapIter (some n.m) n.since n.seen n.last) ∧ H[n.m]? = some (.map n.es n.c) ∧ (!n.seen.isEmpty && !n.es.isEmpty && n.es.all (·.born ≥ n.last)) = false
def Nx.step (n : Nx) (H : Hp) (r : Nat) (e : MapEntry) : Hp := H.setIfInBounds r (.mapIter (some n.m) n.since (n.seen.push e.born) n.c)
/-- It may end. -/
def Nx.over (n : Nx) : Bool := n.es.all fun e => n.seen.contains e.born || decide (n.since ≤ e.born)

/-- The types of a row of three: of what 'next' tells. -/
def three (P : Program) (t : TypeId) : Option (TypeId × TypeId) :=
  match P.underlying t with
  | some (.tuple ts) => (match ts.toList with | [_, a, b] => some (a, b) | _ => none)
  | _ => none

/-- The entry at which a range over a map stands. -/
def EntAt (H : Hp) (r : Nat) (e : MapEntry) : Prop :=
  ∃ m since seen stamp es c, H[r]? = some (.mapIter (some m) since seen c) ∧ seen.back? = some stamp ∧ H[m]? = some (.map es c) ∧ es.find? (·.born == stamp) = some e

def vNext (P : Program) (pr : List Nat) (t : TypeId) (it : Value) (H : Hp) (K : Value → Hp → Prop) : Prop :=
  match it, three P t with
  | .pointer (some a), some (kt, vt) => a.off = 0 ∧ ∃ n, NxAt H a.block n ∧
      (∀ e ∈ n.es.toList, n.seen.contains e.born = false → exT P kt fun x => exT P vt fun y => (e.key = x ∧ e.val = y) ∧ vNm pr (n.step H a.block e) fun H' => K (.tuple #[.bool true, x, y]) H') ∧
      (n.over = true → K (.tuple #[.bool false]) H)
  | .pointer (some a), none => a.off = 0 ∧ ∃ n, NxAt H a.block n ∧
      (∀ e ∈ n.es.toList, n.seen.contains e.born = false → vNm pr (n.step H a.block e) fun H' => K (.tuple #[.bool true, e.key, e.val]) H') ∧
      (n.over = true → K (.tuple #[.bool false]) H)
  | _, _ => False

def vOp (P : Program) (pr : List Nat) (o : Oper) (s : VS) (k : AV → VS → Prop) : Prop :=
  match o.op with
  | .alloc e =>
    match P.info? e with
    | some ti => (match ti.zero with | some z => vNew pr o.dst e z.cells.toList s k | none => False)
    | none => False
  | .box e x => (match s.ev x with | .v v => vNew pr o.dst e v.cells.toList s k | _ => False)
  | .buildSlice t n parts =>
    match P.underlying t, evParts s parts.toList with
    | some (.slice e), some ps =>
      match P.info? e with
      | some ti =>
        match ti.zero, Nat.ble (n * ti.size) 16777216 with
        | some z, true =>
          match Instr.fill (fun i => some (i * ti.size, ti.size)) ((Array.range (n * ti.size)).map ((if n * ti.size = 0 then #[] else z.cells)[· % (if n * ti.size = 0 then #[] else z.cells).size]!)) ps with
          | some cells => vNb pr s.H.size fun b => vNm pr (s.H.push (.cells cells e)) fun H' => k (.v (.slice (some ⟨b, 0, none⟩) n n)) { s with H := H' }
          | none => False
        | _, _ => False
      | none => False
    | _, _ => False
  | .load t addr =>
    match s.ev addr with
    | .loc i off =>
      match s.ls[i]?, P.info? t with
      | some (_, cs), some ti => (match Nat.ble (off + ti.size) cs.length with | true => vPart P t cs off fun v => k (.v v) s | false => False)
      | _, _ => False
    | .v (.pointer (some a)) => vLoad P t a s.H fun v => k (.v v) s
    | _ => False
  | .store t addr x => (match s.ev x with | .v v => vStore P pr t (s.ev addr) v s fun s' => k (.v undef) s' | _ => False)
  | .convert src dst x =>
    match s.ev x, P.underlying src, P.underlying dst with
    | .v (.slice a n _), some (.slice e), some .string => (match P.underlying e with | some (.int .u8) => vB2S s.H a n fun t => k (.v (.string t)) s | _ => False)
    | .v (.string t), some .string, some (.slice e) => (match P.underlying e with | some (.int .u8) => t.size < 2 ^ 63 ∧ vS2B e t s.H fun x H' => k (.v (.slice x.a x.len x.cap)) { s with H := H' } | _ => False)
    | _, _, _ => vPure P (.convert src dst x) s fun av => k av s
  | .call { callee := .value f, args := args, argTypes := _ } =>
    match s.ev f, evAll s args.toList with
    | .v fv, some vs => vInv P fv vs s.H fun r H' => exR P o.type fun v => r = v ∧ k (.v v) { s with H := H' }
    | _, _ => False
  | .call { callee := .builtin .append, args := args, argTypes := tys } =>
    match evAll s args.toList, tys[0]?, tys[1]? with
    | some [.slice a len cap, src], some t, some xt =>
      match P.underlying xt with
      | some (.slice _) | some .string => vApp P t a len cap src s.H fun x H' => k (.v (.slice x.a x.len x.cap)) { s with H := H' }
      | some (.int _) => (match src with | .int _ n => vAppZ P t a len cap n s.H fun x H' => k (.v (.slice x.a x.len x.cap)) { s with H := H' } | _ => False)
      | _ => False
    | _, _, _ => False
  | .call { callee := .builtin .clear, args := args, argTypes := tys } =>
    match evAll s args.toList, tys[0]? with
    | some [.slice a n _], some t => vClear P t a n s.H fun H' => k (.v (.tuple #[])) { s with H := H' }
    | _, _ => False
  | .call { callee := .builtin .copy, args := args, argTypes := tys } =>
    match evAll s args.toList, tys[0]? with
    | some [.slice a len _, src], some t => vCopy P t a len src s.H fun n H' => k (.v (.int .i64 n)) { s with H := H' }
    | _, _ => False
  | .makeMap t hint =>
    match hint.map s.ev with
    | none => vNb pr s.H.size fun b => vNm pr (s.H.push (.map #[] 0)) fun H' => k (.v (.map (some b))) { s with H := H' }
    | some (.v (.int _ _)) => (match P.underlying t with | some (.map _ _) => vNb pr s.H.size fun b => vNm pr (s.H.push (.map #[] 0)) fun H' => k (.v (.map (some b))) { s with H := H' } | _ => False)
    | _ => False
  | .lookup t m x ok =>
    match s.ev m, s.ev x, ok with
    | .v (.map r), .v kv, true => exR P o.type fun u => (match u with | .tuple ⟨[v, .bool b]⟩ => LookIs P t s.H r kv v b ∧ k (.v u) s | _ => False)
    | .v (.map r), .v kv, false => exR P o.type fun v => (∃ b, LookIs P t s.H r kv v b) ∧ k (.v v) s
    | _, _, _ => False
  | .mapUpdate t m x v =>
    match s.ev m, s.ev x, s.ev v with
    | .v (.map r), .v kv, .v vv => vMapPut P t r kv vv s.H fun H' => k (.v undef) { s with H := H' }
    | _, _, _ => False
  | .insert t m x v =>
    match s.ev m, s.ev x, s.ev v with
    | .v (.map r), .v kv, .v vv => vMapPut P t r kv vv s.H fun H' => k (.v undef) { s with H := H' }
    | _, _, _ => False
  | .range t x =>
    match s.ev x, P.underlying t with
    | .v (.map r), some (.map _ _) => ∃ m es c, r = some m ∧ s.H[m]? = some (.map es c) ∧ vNb pr s.H.size fun b => vNm pr (s.H.push (.mapIter (some m) c #[] c)) fun H' => k (.v (.pointer (some ⟨b, 0, none⟩))) { s with H := H' }
    | _, _ => False
  | .next it b =>
    match s.ev it, b with
    | .v v, false => vNext P pr o.type v s.H fun v H' => k (.v v) { s with H := H' }
    | _, _ => False
  | .mapEntry t m x =>
    match s.ev m, s.ev x with
    | .v (.map r), .v kv => vMapEnt P t r kv s.H fun v st H' => k (.v (.tuple #[v, .int .i64 st])) { s with H := H' }
    | _, _ => False
  | .entryStore _ m st x =>
    match s.ev m, s.ev st, s.ev x with
    | .v (.map r), .v (.int _ n), .v xv => vEntSt r n xv s.H fun H' => k (.v undef) { s with H := H' }
    | _, _, _ => False
  | .entry it =>
    match s.ev it with
    | .v (.pointer (some a)) => a.off = 0 ∧ ∃ e, EntAt s.H a.block e ∧ k (.ent e.key e.val) s
    | _ => False
  | .extract t i =>
    match s.ev t with
    | .ent x y =>
      match i with
      | 0 => exR P o.type fun v => x = v ∧ k (.v v) s
      | 1 => exR P o.type fun v => y = v ∧ k (.v v) s
      | _ => False
    | _ => vPure P (.extract t i) s fun av => k av s
  | .call { callee := .builtin .delete, args := args, argTypes := tys } =>
    match evAll s args.toList, tys[0]? with
    | some [.map m, kv], some t => vMapDel P t m kv s.H fun H' => k (.v (.tuple #[])) { s with H := H' }
    | _, _ => False
  | .call { callee := .builtin .len, args := args, argTypes := tys } =>
    match evAll s args.toList, (tys[0]?).bind P.underlying with
    | some [.map m], some (.map _ _) => ∃ es, MapAt s.H m es ∧ k (.v (.int .i64 es.length)) s
    | _, _ => vPure P (.call { callee := .builtin .len, args := args, argTypes := tys }) s fun av => k av s
  | op => vPure P op s fun av => k av s

end Go.KC

namespace Go.KC
/-! words for the printed texts -/
def w64 (x : Int) : Int := IntKind.i64.wrap x
def band (k : IntKind) (a b : Int) : Int := k.wrap ((BitVec.ofInt k.bits a &&& BitVec.ofInt k.bits b).toNat)
def bor (k : IntKind) (a b : Int) : Int := k.wrap ((BitVec.ofInt k.bits a ||| BitVec.ofInt k.bits b).toNat)
def bxor (k : IntKind) (a b : Int) : Int := k.wrap ((BitVec.ofInt k.bits a ^^^ BitVec.ofInt k.bits b).toNat)
def lookFr : List (Nat × AV) → Nat → AV
  | [], _ => .any
  | (i, x) :: r, k => match Nat.beq i k with | true => x | false => lookFr r k
def mkFrFrom (l : List (Nat × AV)) (k : Nat) : Nat → List AV
  | 0 => []
  | n + 1 => lookFr l k :: mkFrFrom l (k + 1) n
def mkFr (n : Nat) (l : List (Nat × AV)) : List AV := mkFrFrom l 0 n
def cutA (a : Option Addr) (cap l sz : Nat) : Option Addr := if cap = l then a else a.map (·.add (l * sz))
def holes (H : Hp) : Nat → Hp
  | 0 => H
  | n + 1 => Array.push (holes H n) hole
end Go.KC

/- THE CORE, part 7: part 6 is what the model does. Generic. -/
set_option linter.all false
set_option linter.constructorNameAsVariable false
namespace Go.KC

theorem exV_any {z : Value} {K : Value → Prop} (h : exV z K) : ∃ v, K v := by
  unfold exV at h
  split at h <;> (obtain ⟨x, hx⟩ := h; exact ⟨_, hx⟩)

theorem exVs_any : ∀ {zs : List Value} {K : List Value → Prop}, exVs zs K → ∃ vs, vs.length = zs.length ∧ K vs
  | [], K, h => ⟨[], rfl, h⟩
  | z :: r, K, h => by
    obtain ⟨v, hv⟩ := exV_any h
    obtain ⟨vs, hl, hvs⟩ := exVs_any hv
    exact ⟨v :: vs, by simp [hl], hvs⟩

theorem exT_any {P : Program} {t : TypeId} {K : Value → Prop} (h : exT P t K) : ∃ v, K v := by
  unfold exT at h
  split at h
  · split at h
    · obtain ⟨vs, _, hvs⟩ := exVs_any h; exact ⟨_, hvs⟩
    · exact exV_any h
    · exact h.elim
  · exact h.elim

theorem exTs_any {P : Program} : ∀ {ts : List TypeId} {K : List Value → Prop}, exTs P ts K → ∃ vs, K vs
  | [], K, h => ⟨[], h⟩
  | t :: r, K, h => by
    obtain ⟨v, hv⟩ := exT_any h
    obtain ⟨vs, hvs⟩ := exTs_any hv
    exact ⟨v :: vs, hvs⟩

theorem exR_any {P : Program} {t : TypeId} {K : Value → Prop} (h : exR P t K) : ∃ v, K v := by
  unfold exR at h
  split at h
  · obtain ⟨vs, hvs⟩ := exTs_any h; exact ⟨_, hvs⟩
  · exact exT_any h

def QF : Exit → Act → World → Prop := fun _ _ _ => False

theorem wp_value {P : Program} {o : Oper} {a : Act} {w w' : World} {v : Value} {K : Act → World → Prop} {Q : Exit → Act → World → Prop}
    (h : (execOp a.eval o).run P w = .ok (.value v) w') (hk : K (a.put o.dst v) w') : o.wp P a w K Q := by
  unfold Oper.wp; rw [h]; exact hk
theorem wp_skip' {P : Program} {o : Oper} {a : Act} {w w' : World} {K : Act → World → Prop} {Q : Exit → Act → World → Prop}
    (h : (execOp a.eval o).run P w = .ok .skip w') (hk : K (a.put o.dst undef) w') : o.wp P a w K Q := by
  unfold Oper.wp; rw [h]; exact hk

theorem wp_any {P : Program} {o : Oper} {a : Act} {w : World} {K K' : Act → World → Prop} {Q : Exit → Act → World → Prop}
    (h : o.wp P a w K QF) (hk : ∀ a' w', K a' w' → K' a' w') : o.wp P a w K' Q := by
  unfold Oper.wp at *
  generalize (execOp a.eval o).run P w = r at *
  cases r with
  | ok n w' =>
    cases n <;> simp only [Oper.upon] at h ⊢ <;>
      first
        | exact hk _ _ h
        | exact Calls.mono h (fun e w'' he => by cases e <;> first | exact hk _ _ he | exact he.elim | exact (by obtain ⟨_, _, hf⟩ := he; exact hf.elim))
        | exact Rows.mono h (fun _ _ he => hk _ _ he)
  | halt x w' => cases x <;> simp only [Oper.upon] at h ⊢ <;> exact h.elim

theorem row_load {P : Program} {w : World} {a : Addr} {vs : List Value} (h : RowAt w.heap a vs) : (loadCells a vs.length).run P w = .ok vs.toArray w :=
  run_loadCells_list w a vs fun j v hv => h j v hv

theorem RowAt.hides {M : Nat → Prop} {h H : Hp} (hh : Hides M h H) {a : Addr} {vs : List Value} (hr : RowAt H a vs) : RowAt h a vs :=
  fun j v hv => (hh.cell (hr j v hv)).2

theorem run_sizeOf' {P : Program} {t : TypeId} {ti : TypeInfo} (h : P.info? t = some ti) (w : World) : (sizeOf t).run P w = .ok ti.size w := by
  simp [sizeOf, typeInfo, h]
theorem run_zero' {P : Program} {t : TypeId} {ti : TypeInfo} {z : Value} (h : P.info? t = some ti) (hz : ti.zero = some z) (w : World) : (zeroValue t).run P w = .ok z w := by
  simp [zeroValue, typeInfo, h, hz]
theorem run_isAgg' {P : Program} {t : TypeId} {d : TypeDesc} (h : P.underlying t = some d) (w : World) : (isAgg t).run P w = .ok (isAggD d) w := by
  unfold isAgg
  cases d <;> simp [run_underlying h, isAggD]

theorem vLoad_run {P : Program} {M : Nat → Prop} {t : TypeId} {a : Addr} {H : Hp} {K : Value → Prop} (h : vLoad P t a H K) :
    ∃ v, K v ∧ ∀ w, (∀ b v, Hp.cell? H b = some v → Hp.cell? w.heap b = some v) → (Instr.loadAt t (.pointer (some a))).run P w = .ok v w := by
  unfold vLoad at h
  split at h <;> (first | exact h.elim | skip)
  rename_i d ti hd hi
  split at h <;> (first | exact h.elim | skip)
  · rename_i cs ha hz
    split at h <;> (first | exact h.elim | skip)
    rename_i hsz
    obtain ⟨vs, hl, hr, hK⟩ := exVs_any h
    refine ⟨_, hK, fun w hw => ?_⟩
    have hn : vs.length = ti.size := by rw [hl, Array.length_toList]; exact Nat.eq_of_beq_eq_true hsz
    have := row_load (P := P) (w := w) (a := a) (vs := vs) fun j v hv => hw _ _ (hr j v hv)
    rw [hn] at this
    simp [Instr.loadAt, Instr.sureAddr, loadVar, run_isAgg' hd, ha, run_sizeOf' hi, this]
  · rename_i z ha hz
    obtain ⟨v, hc, hK⟩ := exV_any h
    refine ⟨v, hK, fun w hw => ?_⟩
    have : w.cell? a = some v := hw a v hc
    simp [Instr.loadAt, Instr.sureAddr, loadVar, run_isAgg' hd, ha, this]

theorem add_add (a : Addr) (i j : Nat) (h : a.spot = none) : (a.add i).add j = a.add (i + j) := by
  obtain ⟨b, o, s⟩ := a
  dsimp only at h
  subst h
  simp [Addr.add_loc, Nat.add_assoc]

theorem cell?_setCell' (H : Hp) (p q : Addr) (v : Value) (h : (Hp.cell? H q).isSome = true) : (Hp.cell? (Hp.setCell H p v) q).isSome = true := by
  unfold Hp.cell? at *
  by_cases hb : q.block = p.block
  · rw [hb] at h ⊢
    cases ho : H[p.block]? with
    | none => simp [ho] at h
    | some o =>
      cases o with
      | cells c e fz =>
        rw [Hp.getElem?_setCell_same H p v ho]
        simp only [ho] at h
        dsimp only
        cases hq : q.spot.isSome
        · rw [hq] at h
          simp only [Bool.false_eq_true, if_false] at h ⊢
          split
          · exact h
          · rw [Array.getElem?_setIfInBounds]
            split
            · split
              · rfl
              · rename_i h1 h2; rw [← h1, Array.getElem?_eq_none (by omega)] at h; simp at h
            · exact h
        · rw [hq] at h; simp at h
      | _ => simp [ho] at h
  · rw [Hp.getElem?_setCell_ne H p v hb]
    exact h

theorem frozen?_setCell' (H : Hp) (p q : Addr) (v : Value) : Hp.frozen? (Hp.setCell H p v) q = Hp.frozen? H q := by
  unfold Hp.frozen?
  by_cases hb : q.block = p.block
  · rw [hb]
    cases ho : H[p.block]? with
    | none => simp [Hp.setCell, Array.getElem?_modify, ho]
    | some o =>
      cases o with
      | cells c e fz => rw [Hp.getElem?_setCell_same H p v ho]
      | _ => simp [Hp.setCell, Array.getElem?_modify, ho]
  · rw [Hp.getElem?_setCell_ne H p v hb]

theorem WrAt.setCell {H : Hp} {a p : Addr} {n : Nat} {v : Value} (h : WrAt H a n) : WrAt (Hp.setCell H p v) a n :=
  fun j hj => ⟨cell?_setCell' H p _ v (h j hj).1, (frozen?_setCell' H p _ v).trans (h j hj).2⟩

/-- A run of stores. -/
theorem run_stores {P : Program} (a : Addr) : ∀ (vs : List Value) (i : Nat) (w : World), allOne vs = true → (∀ j, i ≤ j → j < i + vs.length → (Hp.cell? w.heap (a.add j)).isSome = true ∧ Hp.frozen? w.heap (a.add j) = false) →
    (storeCells a vs i).run P w = .ok () { w with heap := Hp.setCells w.heap a vs i }
  | [], i, w, _, _ => by simp [storeCells, Hp.setCells]
  | v :: r, i, w, h1, h => by
    simp only [allOne, Bool.and_eq_true] at h1
    obtain ⟨hc, hf⟩ := h i (Nat.le_refl _) (by simp)
    have hs := run_store P w (a.add i) v .plain h1.1
    cases hcell : Hp.cell? w.heap (a.add i) with
    | none => simp [hcell] at hc
    | some u =>
      have hcw : w.cell? (a.add i) = some u := hcell
      have hfw : w.frozen? (a.add i) = false := hf
      simp only [hcw, hfw, Bool.false_eq_true, if_false] at hs
      have ih := run_stores (P := P) a r (i + 1) (w.setCell (a.add i) v) h1.2 fun j hj1 hj2 => by
        obtain ⟨q1, q2⟩ := h j (by omega) (by simp; omega)
        exact ⟨cell?_setCell' _ _ _ _ q1, (frozen?_setCell' _ _ _ _).trans q2⟩
      unfold storeCells
      simp only [Sem.run_bind, hs, Result.andThen_ok, ih]
      rfl
end Go.KC

/- THE CORE, part 8: an operation of the walk is an operation of the model. Generic. -/
set_option linter.all false
set_option linter.constructorNameAsVariable false
namespace Go.KC
variable {P : Program} {M0 : Nat → Prop} {w0 : World} {bs : List Nat} {M : Nat → Prop} {s : VS} {a : Act} {w : World}

def Grow (w w' : World) : Prop := ∀ (b : Nat) (o : Obj), w.heap[b]? = some o → w'.heap[b]? = some o
def KeepM (M : Nat → Prop) (w w' : World) : Prop := ∀ b, M b → w'.heap[b]? = w.heap[b]?

/-- 0: it changes nothing that is there; 1: nothing that is hidden; 2: any. -/
def clsOf : Op → Nat
  | .call { callee := .builtin b, .. } => (match b with | .len | .cap | .min | .max => 0 | _ => 1)
  | .call _ => 1
  | .move _ | .assign _ | .pick .. | .alloc _ | .box .. | .build .. | .buildSlice .. | .load .. | .nilCheck _ | .binOp .. | .unOp .. | .convert .. | .makeFunc .. | .extract ..
  | .fieldAddr .. | .field .. | .indexAddr .. | .index .. | .slice .. | .makeMap .. | .lookup .. | .range .. | .entry .. => 0
  | .mapUpdate .. | .insert .. | .next .. | .mapEntry .. | .entryStore .. => 1
  | _ => 2

def Chg (c : Nat) (M : Nat → Prop) (w w' : World) : Prop := (c = 0 → Grow w w') ∧ (c ≤ 1 → KeepM M w w')

theorem Grow.refl (w : World) : Grow w w := fun _ _ h => h
theorem Grow.push (w : World) (o : Obj) (d : Nat) : Grow w { w with heap := w.heap.push o, drawn := d } := fun b x h => by
  have := (Array.getElem?_eq_some_iff.1 h).1
  show (w.heap.push o)[b]? = _
  rw [Array.getElem?_push, if_neg (by omega)]; exact h
theorem Grow.chg {c : Nat} {w' : World} (h : Grow w w') (hh : ∀ b, M b → b < w.heap.size) : Chg c M w w' :=
  ⟨fun _ => h, fun _ b hb => by rw [h b _ (Array.getElem?_eq_getElem (hh b hb)), Array.getElem?_eq_getElem (hh b hb)]⟩
theorem Chg.refl (c : Nat) (M : Nat → Prop) (w : World) : Chg c M w w := ⟨fun _ => .refl w, fun _ _ _ => rfl⟩

/-- What is known behind an operation. -/
def Done (M0 : Nat → Prop) (w0 : World) (bs : List Nat) (M : Nat → Prop) (w : World) (o : Oper) (k : AV → VS → Prop) (a' : Act) (w' : World) : Prop :=
  Chg (clsOf o.op) M w w' ∧ ∃ av s' bs' M', (∀ b, M b → M' b) ∧ (∀ (i b : Nat), bs[i]? = some b → bs'[i]? = some b) ∧ k av s' ∧ RelB M0 w0 bs' M' (s'.put o.dst av) a' w'

theorem done_mk {o : Oper} {k : AV → VS → Prop} {av : AV} {s' : VS} {bs' : List Nat} {M' : Nat → Prop} {v : Value} {w' : World} (hk : k av s') (R : RelB M0 w0 bs' M' s' a w') (hv : Conc bs' av v)
    (hc : Chg (clsOf o.op) M w w') (hm : ∀ b, M b → M' b := by exact fun _ h => h) (hb : ∀ (i b : Nat), bs[i]? = some b → bs'[i]? = some b := by exact fun _ _ h => h) : Done M0 w0 bs M w o k (a.put o.dst v) w' := ⟨hc, av, s', bs', M', hm, hb, hk, R.put _ hv⟩

theorem done_pure {o : Oper} {k : AV → VS → Prop} (hr : RelB M0 w0 bs M s a w) (h : vPure P o.op s fun av => k av s) : o.wp P a w (Done M0 w0 bs M w o k) QF := by
  obtain ⟨av, v, hk, hc, hrun⟩ := vPure_run hr.ev h
  exact wp_value (hrun w) (done_mk hk hr hc (.refl _ _ _))

theorem new_run {pr : List Nat} {o : Oper} {e : TypeId} {c : Array Value} {k : AV → VS → Prop} (hr : RelB M0 w0 bs M s a w) (h : vNew pr o.dst e c.toList s k)
    (hx : (execOp a.eval o).run P w = .ok (.value (.pointer (some ⟨w.heap.size, 0, none⟩))) { w with heap := w.heap.push (.cells c e) }) :
    o.wp P a w (Done M0 w0 bs M w o k) QF := by
  unfold vNew at h
  have hsz := hr.hd.size
  split at h <;> (first | exact h.elim | skip)
  split at h
  · replace h := vNm.get h
    have R := hr.pushOwn e c.toList
    rw [Array.toArray_toList] at R
    refine wp_value hx (done_mk h R ⟨w.heap.size, ?_, rfl⟩ ((Grow.push w _ _).chg hr.hd.lt) (fun _ h => Or.inl h) fun i b hb => by rw [List.getElem?_append_left (List.getElem?_eq_some_iff.1 hb).1]; exact hb)
    rw [← hr.ll, List.getElem?_append_right (Nat.le_refl _)]; simp
  · replace h := vNm.get (vNb.get h)
    rw [Array.toArray_toList] at h
    refine wp_value hx (done_mk h (hr.push (.cells c e) w.drawn) ?_ ((Grow.push w _ _).chg hr.hd.lt))
    rw [hsz]; rfl

theorem call_run {f : FuncId} {vs : List Value} {o : Oper} {k : AV → VS → Prop} (hr : RelB M0 w0 bs M s a w) (hcl : clsOf o.op = 1)
    (hx : (execOp a.eval o).run P w = .ok (.enter f vs.toArray) w)
    (h : SCalls P f vs s.H fun r H' => exR P o.type fun v => r = v ∧ k (.v v) { s with H := H' }) : o.wp P a w (Done M0 w0 bs M w o k) QF := by
  unfold Oper.wp
  rw [hx]
  refine (h M w hr.hd).mono ?_
  rintro e w' ⟨r, H', M', rfl, ha, hm, hh, hq⟩
  obtain ⟨v, hv, hk⟩ := exR_any hq
  subst hv
  exact done_mk hk (hr.call ha hm hh) rfl ⟨fun e => by omega, fun _ => ha.keep⟩ fun b h => (hm b (hr.hd.lt b h)).2 h

theorem fn_run {f : FuncId} (h : goFn P f = true) (args : Array Value) (w : World) : (callFunc f args).run P w = .ok (.enter f args) w := by
  unfold goFn at h
  unfold callFunc
  split at h
  · rename_i fn hf
    simp only [Bool.and_eq_true, bne_iff_ne, ne_eq] at h
    have h2 : (fn.name == "runtime.NumGoroutine") = false := by simpa using h.2
    have h1 : fn.body.isNone = false := by cases hb : fn.body <;> simp_all
    simp only [Sem.run_bind, run_program, Result.andThen_ok, hf, h2, h1, Bool.false_eq_true, if_false, Sem.run_pure]
  · cases h

theorem setCells_own {i b : Nat} {e : TypeId} : ∀ (vs cs : List Value) (off j : Nat) (s : VS) (w : World), RelB M0 w0 bs M s a w → bs[i]? = some b → s.ls[i]? = some (e, cs) →
    RelB M0 w0 bs M { s with ls := s.ls.set i (e, setR cs (off + j) vs) } a { w with heap := Hp.setCells w.heap ⟨b, off, none⟩ vs j }
  | [], cs, off, j, s, w, hr, hb, hs => by
    have : s.ls.set i (e, cs) = s.ls := by
      apply List.ext_getElem?
      intro n
      rw [List.getElem?_set]
      split
      · rename_i h; subst h; rw [if_pos (List.getElem?_eq_some_iff.1 hs).1, hs]
      · rfl
    simp only [setR, Hp.setCells, this]
    exact hr
  | v :: r, cs, off, j, s, w, hr, hb, hs => by
    have h1 := hr.setOwn (off := off + j) hb hs v
    have h2 := setCells_own r (cs.set (off + j) v) off (j + 1) _ _ h1 hb (by
      dsimp only
      rw [List.getElem?_set, if_pos rfl, if_pos (List.getElem?_eq_some_iff.1 hs).1])
    simp only [List.set_set] at h2
    have h3 : RelB M0 w0 bs M { s with ls := s.ls.set i (e, setR (cs.set (off + j) v) (off + (j + 1)) r) } a { w with heap := Hp.setCells (Hp.setCell w.heap ⟨b, off + j, none⟩ v) ⟨b, off, none⟩ r (j + 1) } := h2
    simp only [setR, Hp.setCells, Addr.add_loc, Nat.add_assoc]
    exact h3

theorem setCells_heap {p : Addr} : ∀ (vs : List Value) (j : Nat) (s : VS) (w : World), RelB M0 w0 bs M s a w → ¬ M p.block →
    RelB M0 w0 bs M { s with H := Hp.setCells s.H p vs j } a { w with heap := Hp.setCells w.heap p vs j }
  | [], j, s, w, hr, hp => hr
  | v :: r, j, s, w, hr, hp => by
    have hb : (p.add j).block = p.block := by unfold Addr.add; split <;> rfl
    have h1 := hr.setCell (p.add j) v (by rw [hb]; exact hp)
    exact setCells_heap r (j + 1) _ _ h1 hp

theorem keep_setCells {p : Addr} (hp : ¬ M p.block) : ∀ (vs : List Value) (j : Nat) (H : Hp) (b : Nat), M b → (Hp.setCells H p vs j)[b]? = H[b]?
  | [], _, _, _, _ => rfl
  | v :: r, j, H, b, hb => by
    have hb' : (p.add j).block = p.block := by unfold Addr.add; split <;> rfl
    show (Hp.setCells (Hp.setCell H (p.add j) v) p r (j + 1))[b]? = _
    rw [keep_setCells hp r (j + 1) _ b hb, Hp.getElem?_setCell_ne _ _ _ (fun e => hp (by rw [← hb', ← e]; exact hb))]

theorem WrAt.hides {H : Hp} {h : Hp} {p : Addr} {n : Nat} (hh : Hides M h H) (hw : WrAt H p n) : WrAt h p n ∧ (0 < n → ¬ M p.block) := by
  have hb : ∀ j, (p.add j).block = p.block := fun j => by unfold Addr.add; split <;> rfl
  have key : ∀ j, j < n → ¬ M p.block ∧ (Hp.cell? h (p.add j)).isSome = true ∧ Hp.frozen? h (p.add j) = false := fun j hj => by
    obtain ⟨h1, h2⟩ := hw j hj
    obtain ⟨v, hv⟩ := Option.isSome_iff_exists.1 h1
    obtain ⟨k1, k2⟩ := hh.cell hv
    refine ⟨by rw [← hb j]; exact k1, by rw [k2]; rfl, ?_⟩
    rw [← hh.frozen k1]; exact h2
  exact ⟨fun j hj => (key j hj).2, fun hn => (key 0 hn).1⟩

theorem store_run {o : Oper} {t : TypeId} {addr x : Operand} {v : Value} {k : VS → Prop} {k' : AV → VS → Prop} (hr : RelB M0 w0 bs M s a w) (ho : o.op = .store t addr x) (hv : a.eval x = v)
    {pr : List Nat} (h : vStore P pr t (s.ev addr) v s k) (hk : ∀ s', k s' → k' (.v undef) s') : o.wp P a w (Done M0 w0 bs M w o k') QF := by
  unfold vStore at h
  split at h <;> (first | exact h.elim | skip)
  rename_i ti hi
  split at h <;> (first | exact h.elim | skip)
  rename_i hsz h1
  have hsz' : v.cells.size = ti.size := Nat.eq_of_beq_eq_true hsz
  have hcls : clsOf o.op = 2 := by rw [ho]; rfl
  have fin : ∀ (p : Addr) (w' : World), a.eval addr = .pointer (some p) → (storeCells p v.cells.toList).run P w = .ok () w' → (execOp a.eval o).run P w = .ok .skip w' := fun p w' hp hs => by
    have he : execOp a.eval o = (do Instr.storeAt t (a.eval addr) (a.eval x); pure .skip) := by unfold execOp; rw [ho]
    rw [he, hp, hv]
    simp only [Instr.storeAt, Instr.sureAddr, storeVar, Sem.run_bind, Sem.run_pure, Result.andThen_ok, run_sizeOf' hi, hsz', ne_eq, not_true_eq_false, if_false, hs]
  have ha := hr.ev addr
  split at h <;> (first | exact h.elim | skip)
  · rename_i i off hl
    rw [hl] at ha
    obtain ⟨b, hb, hp⟩ := ha
    split at h <;> (first | exact h.elim | skip)
    rename_i e cs hcs
    split at h <;> (first | exact h.elim | skip)
    rename_i hle
    have hle' : off + ti.size ≤ cs.length := Nat.le_of_ble_eq_true hle
    obtain ⟨q1, q2, q3⟩ := hr.lc i b _ hb hcs
    have hst := run_stores (P := P) ⟨b, off, none⟩ v.cells.toList 0 w h1 fun j _ hj => by
      simp only [Array.length_toList, hsz', Nat.zero_add] at hj
      simp only [Addr.add_loc, Hp.cell?, Hp.frozen?, q3]
      refine ⟨?_, by simp⟩
      simp; omega
    have R := setCells_own v.cells.toList cs off 0 s w hr hb hcs
    exact wp_skip' (fin _ _ hp hst) (done_mk (hk _ h) R rfl ⟨fun e => by omega, fun e => by omega⟩)
  · rename_i p hl
    rw [hl] at ha
    obtain ⟨hw, h⟩ := h
    replace h := vNm.get h
    obtain ⟨hw', hm⟩ := WrAt.hides hr.hd hw
    have hst := run_stores (P := P) p v.cells.toList 0 w h1 fun j _ hj => hw' j (by simpa [hsz'] using hj)
    suffices R : RelB M0 w0 bs M { s with H := Hp.setCells s.H p v.cells.toList 0 } a { w with heap := Hp.setCells w.heap p v.cells.toList 0 } from
      wp_skip' (fin p _ ha hst) (done_mk (hk _ h) R rfl ⟨fun e => by omega, fun e => by omega⟩)
    by_cases hn : 0 < ti.size
    · exact setCells_heap _ _ _ _ hr (hm hn)
    · have : v.cells.toList = [] := List.eq_nil_of_length_eq_zero (by simp [hsz']; omega)
      rw [this]
      exact hr

theorem SrcAt.load {M : Nat → Prop} {h H : Hp} (hh : Hides M h H) {size n : Nat} {src : Value} {cs : List Value} (hs : SrcAt H size n src cs) (w : World) (hw : w.heap = h) :
    (Builtin.firstCells size n src).run P w = .ok cs.toArray w := by
  cases src with
  | slice p l c =>
    cases p with
    | none => obtain rfl : cs = [] := hs; simp [Builtin.firstCells]
    | some p =>
      obtain ⟨hl, hr⟩ := hs
      have := row_load (P := P) (w := w) (a := p) (vs := cs) (by rw [hw]; exact hr.hides hh)
      rw [hl] at this
      simpa [Builtin.firstCells] using this
  | string s =>
    obtain rfl : cs = (s.extract 0 n).data.toList.map fun b => Value.int .u8 b.toNat := hs
    simp only [Builtin.firstCells, Sem.run_pure]
    congr 1
    apply Array.ext'
    simp
  | _ => exact hs.elim

theorem srcLen_run {size n : Nat} {src : Value} {cs : List Value} {H : Hp} (hs : SrcAt H size n src cs) (w : World) : (Builtin.lenOf src).run P w = .ok (srcLen src) w := by
  unfold SrcAt at hs
  split at hs <;> (first | exact hs.elim | rfl)

theorem grownCap_ge' (w : World) (need old : Nat) (e : TypeId) : need ≤ (Question.appendCap need old e).cut (w.tape w.drawn (.appendCap need old e)) := by simp [Question.cut]
theorem grownCap_lt' (w : World) (need old : Nat) (e : TypeId) (h : need < 2 ^ 63) : (Question.appendCap need old e).cut (w.tape w.drawn (.appendCap need old e)) < 2 ^ 63 := by
  simp only [Question.cut]
  have := Nat.mod_lt (w.tape w.drawn (.appendCap need old e)) (show 0 < 2 ^ 63 - need by omega)
  omega

theorem app_run {t : TypeId} {xt : TypeDesc} {t2 ty : TypeId} {p : Option Addr} {len cap : Nat} {src : Value} {o : Oper} {k : AV → VS → Prop} (hr : RelB M0 w0 bs M s a w) (hcl : clsOf o.op = 1)
    (hx2 : P.underlying t2 = some xt) (hni : match xt with | .int _ => False | _ => True)
    (hx : ∀ v w', (Builtin.append_ #[t, t2] ty #[.slice p len cap, src]).run P w = .ok v w' → (execOp a.eval o).run P w = .ok (.value v) w')
    (h : vApp P t p len cap src s.H fun x H' => k (.v (.slice x.a x.len x.cap)) { s with H := H' }) : o.wp P a w (Done M0 w0 bs M w o k) QF := by
  obtain ⟨e, ti, z, news, hu, hi, hz, hby, hsrc, h1, hroom, hgrow⟩ := h
  have hld := SrcAt.load (P := P) hr.hd hsrc
  have hln := srcLen_run (P := P) hsrc
  have hsz := hr.hd.size
  have pre : (Builtin.append_ #[t, t2] ty #[.slice p len cap, src]).run P w = (if len + srcLen src ≤ cap then (do
      let new ← Builtin.firstCells ti.size (srcLen src) src
      if let some a := p then storeCells (a.add (len * ti.size)) new.toList
      pure (.slice p (len + srcLen src) cap) : Sem Value).run P w else (do
      if Builtin.nextslicecap (len + srcLen src) cap * ti.bytes > 2 ^ 48 then (do
        if !(← Builtin.mayShare ti.size len (srcLen src) p src) then mark .noRoom
        unsupported (.resourceLimit "append: a slice or a string whose bytes no memory bears"))
      let newCap ← choose (.appendCap (len + srcLen src) cap e)
      askRoom (newCap * ti.bytes)
      let old ← Builtin.firstCells ti.size len (.slice p len cap)
      let new ← Builtin.firstCells ti.size (srcLen src) src
      let rest := Builtin.zeroCells (← zeroValue e).cells (newCap - (len + srcLen src))
      pure (.slice (some (← newRow e (old ++ new ++ rest))) (len + srcLen src) newCap) : Sem Value).run P w) := by
    have hb0 : ¬ ti.bytes = 0 := by omega
    unfold Builtin.append_
    simp only [List.getElem?_toArray, List.getElem?_cons_zero, List.getElem?_cons_succ, Sem.run_bind, run_underlying hu, run_underlying hx2, Result.andThen_ok, run_sizeOf' hi, Sem.run_pure]
    cases xt <;> (first | exact hni.elim | skip) <;>
      simp only [Bool.false_eq_true, if_false, hln, Sem.run_ite, typeInfo, run_program, Sem.run_bind, hi, Sem.run_pure, hb0, or_self, and_false, Bool.not_false, if_true, Result.andThen_ok] <;> rfl
  by_cases hc : len + srcLen src ≤ cap
  · have hk := hroom hc
    rw [if_pos hc] at pre
    cases p with
    | none =>
      have hx' := hx (.slice none (len + srcLen src) cap) w (by rw [pre]; simp [hld w rfl])
      exact wp_value hx' (done_mk hk hr rfl (.refl _ _ _))
    | some ad =>
      obtain ⟨hw, hk⟩ := hk
      obtain ⟨hw', hm⟩ := WrAt.hides hr.hd hw
      have hst := run_stores (P := P) (ad.add (len * ti.size)) news 0 w h1 fun j _ hj => hw' j (by simpa using hj)
      have hx' := hx (.slice (some ad) (len + srcLen src) cap) { w with heap := Hp.setCells w.heap (ad.add (len * ti.size)) news 0 } (by rw [pre]; simp [hld w rfl, hst])
      have hmm : news = [] ∨ ¬ M (ad.add (len * ti.size)).block := by
        cases news with
        | nil => exact Or.inl rfl
        | cons v r => exact Or.inr (hm (by simp))
      have R : RelB M0 w0 bs M { s with H := Hp.setCells s.H (ad.add (len * ti.size)) news 0 } a { w with heap := Hp.setCells w.heap (ad.add (len * ti.size)) news 0 } := by
        rcases hmm with rfl | hm'
        · exact hr
        · exact setCells_heap _ _ _ _ hr hm'
      refine wp_value hx' (done_mk hk R rfl ⟨fun e => by omega, fun _ b hb => ?_⟩)
      rcases hmm with rfl | hm'
      · rfl
      · exact keep_setCells hm' _ _ _ _ hb
  · obtain ⟨olds, hold, hbytes, hk⟩ := hgrow (by omega)
    rw [if_neg hc] at pre
    have hfit := growslice_fits (old := cap) (by omega) hbytes
    have hold' := SrcAt.load (P := P) hr.hd hold
    have hnf : (Question.appendCap (len + srcLen src) cap e).forced = false := rfl
    have hge := grownCap_ge' w (len + srcLen src) cap e
    have hneed : len + srcLen src < 2 ^ 63 := by
      have := Nat.le_mul_of_pos_right (len + srcLen src) hby
      omega
    have hlt := grownCap_lt' w (len + srcLen src) cap e hneed
    have harr : ∀ Z : Array Value, olds.toArray ++ news.toArray ++ Z = (olds ++ news ++ Z.toList).toArray := fun Z => by apply Array.ext'; simp
    have hx' := hx (.slice (some ⟨w.heap.size, 0, none⟩) (len + srcLen src) ((Question.appendCap (len + srcLen src) cap e).cut (w.tape w.drawn (.appendCap (len + srcLen src) cap e))))
      { w with heap := w.heap.push (.cells (olds ++ news ++ (Builtin.zeroCells z.cells ((Question.appendCap (len + srcLen src) cap e).cut (w.tape w.drawn (.appendCap (len + srcLen src) cap e)) - (len + srcLen src))).toList).toArray e), drawn := w.drawn + 1 } (by
        rw [pre]
        have hno : ¬ Builtin.nextslicecap (len + srcLen src) cap * ti.bytes > 2 ^ 48 := by omega
        simp only [Sem.run_bind, Sem.run_ite, if_neg hno, Sem.run_pure, Result.andThen_ok, run_choose, hnf, Bool.false_eq_true, if_false, run_askRoom, hold' { w with drawn := w.drawn + 1 } rfl, hld { w with drawn := w.drawn + 1 } rfl, run_zero' hi hz, newRow, run_newObj, harr])
    have hk' := hk _ hge hlt
    refine wp_value hx' (done_mk hk' (hr.push _ (w.drawn + 1)) ?_ ⟨fun e => by omega, fun _ => ((Grow.push w _ _).chg (c := 1) hr.hd.lt).2 (Nat.le_refl _)⟩)
    rw [hsz]; rfl

/-! ### Beyond 'wp': a call of a round is a step of its own -/
/-- An operation, wherever it stands. -/
def WpE (P : Program) (o : Oper) (a : Act) (w : World) (K : Act → World → Prop) (Q : Exit → Act → World → Prop) : Prop :=
  o.uponIn Fence.wide 0 P a K Q ((execOp a.eval o).run P w)

theorem rowsIn_wide' {row : String} {args : Array Value} {R : Value → World → Prop} (h : Rows P row args w R) : RowsIn Fence.wide 0 P row args w R := fun c cs _ =>
  let ⟨v, w', r, s⟩ := h c cs; ⟨v, w', r, stepsIn_wide.2 s⟩

theorem wideN : (Fence.wide.depth.isSome = true → 1 ≤ 0) := fun h => by simp [Fence.wide] at h

theorem WpE.of {o : Oper} {K : Act → World → Prop} (h : o.wp P a w K QF) : WpE P o a w K QF := by
  unfold WpE
  unfold Oper.wp at h
  generalize (execOp a.eval o).run P w = r at *
  cases r with
  | ok n w' =>
    cases n <;> simp only [Oper.upon, Oper.uponIn] at h ⊢ <;>
      first
        | exact h
        | exact h.elim
        | exact ⟨wideN, callsIn_wide.2 h⟩
        | exact ⟨wideN, rowsIn_wide' h⟩
  | halt x w' => cases x <;> simp only [Oper.upon, Oper.uponIn] at h ⊢ <;> exact h

theorem WpE.mono {o : Oper} {K K' : Act → World → Prop} {Q : Exit → Act → World → Prop} (h : WpE P o a w K QF) (hk : ∀ a' w', K a' w' → K' a' w') : WpE P o a w K' Q := by
  unfold WpE at *
  generalize (execOp a.eval o).run P w = r at *
  cases r with
  | ok n w' =>
    cases n <;> simp only [Oper.uponIn] at h ⊢ <;>
      first
        | exact hk _ _ h
        | exact h.elim
        | exact ⟨h.1, CallsIn.mono h.2 (fun e w'' he => by cases e <;> first | exact hk _ _ he | exact he.elim | exact (by obtain ⟨_, _, hf⟩ := he; exact hf.elim))⟩
        | exact ⟨h.1, RowsIn.mono h.2 (fun _ _ he => hk _ _ he)⟩
        | exact ⟨h.1, RoundIn.mono h.2 (fun e w'' he => by cases e <;> first | exact hk _ _ he | exact he.elim | exact (by obtain ⟨_, _, hf⟩ := he; exact hf.elim))⟩
  | halt x w' => cases x <;> simp only [Oper.uponIn] at h ⊢ <;> exact h.elim

theorem yield_run {l : Nat} {vs : List Value} {o : Oper} {k : AV → VS → Prop} (hr : RelB M0 w0 bs M s a w) (hcl : clsOf o.op = 1)
    (hx : (execOp a.eval o).run P w = (Instr.yield l vs.toArray).run P w)
    (h : YCalls P l vs s.H fun r H' => exR P o.type fun v => r = v ∧ k (.v v) { s with H := H' }) : WpE P o a w (Done M0 w0 bs M w o k) QF := by
  unfold WpE
  obtain ⟨f, tm, x, y, h1, h2⟩ := h M w hr.hd
  rw [hx, h1]
  refine ⟨wideN, h2.mono ?_⟩
  rintro e w' ⟨r, H', M', rfl, ha, hm, hh, hq⟩
  obtain ⟨v, hv, hk⟩ := exR_any hq
  subst hv
  exact done_mk hk (hr.call ha hm hh) rfl ⟨fun e => by omega, fun _ => ha.keep⟩ fun b h => (hm b (hr.hd.lt b h)).2 h

theorem ext_run {f : FuncId} {vs : List Value} {o : Oper} {k : AV → VS → Prop} (hr : RelB M0 w0 bs M s a w)
    (hx : (execOp a.eval o).run P w = (callFunc f vs.toArray).run P w)
    (h : ExtC P f vs s.H fun r H' => exR P o.type fun v => r = v ∧ k (.v v) { s with H := H' }) : o.wp P a w (Done M0 w0 bs M w o k) QF := by
  obtain ⟨u, hu, hq⟩ := h
  obtain ⟨v, hv, hk⟩ := exR_any hq
  subst hv
  exact wp_value (hx.trans (hu M w hr.hd)) (done_mk hk hr rfl (.refl _ _ _))

theorem wrap_pos {n : Int} (h0 : 0 < n) (h1 : n ≤ 9223372036854775807) : IntKind.i64.wrap n = n := by
  unfold IntKind.wrap
  simp only [IntKind.bits, IntKind.signed, Bool.true_and, decide_eq_true_eq, show (2 : Int) ^ 64 = 18446744073709551616 from rfl, show (2 : Int) ^ (64 - 1) = 9223372036854775808 from rfl]
  split <;> omega

theorem appz_run {t : TypeId} {ik ik' : IntKind} {t2 ty : TypeId} {p : Option Addr} {len cap : Nat} {n : Int} {o : Oper} {k : AV → VS → Prop} (hr : RelB M0 w0 bs M s a w) (hcl : clsOf o.op = 1)
    (hx2 : P.underlying t2 = some (.int ik))
    (hx : ∀ v w', (Builtin.append_ #[t, t2] ty #[.slice p len cap, .int ik' n]).run P w = .ok v w' → (execOp a.eval o).run P w = .ok (.value v) w')
    (h : vAppZ P t p len cap n s.H fun x H' => k (.v (.slice x.a x.len x.cap)) { s with H := H' }) : o.wp P a w (Done M0 w0 bs M w o k) QF := by
  obtain ⟨e, ti, z, hu, hi, hz, hby, hsi, hn0, hn1, hbytes, h1, hroom, hgrow⟩ := h
  have hsz := hr.hd.size
  generalize hz0 : Builtin.zeroCells z.cells n.toNat = zs at *
  have hnb : ¬ n * ti.bytes > 2 ^ 48 := by
    have hb : n.toNat * ti.bytes ≤ (len + n.toNat) * ti.bytes := Nat.mul_le_mul_right _ (by omega)
    have e1 : n * (ti.bytes : Int) = ((n.toNat * ti.bytes : Nat) : Int) := by rw [Int.natCast_mul, Int.toNat_of_nonneg (by omega)]
    rw [e1]
    have : n.toNat * ti.bytes ≤ 140737488355328 := Nat.le_trans hb hbytes
    have e2 : (2 : Int) ^ 48 = 281474976710656 := rfl
    rw [e2]; omega
  have hneed : len + n.toNat < 2 ^ 63 := by
    have := Nat.le_mul_of_pos_right (len + n.toNat) hby
    omega
  have pre : (Builtin.append_ #[t, t2] ty #[.slice p len cap, .int ik' n]).run P w = (if len + n.toNat ≤ cap then (do
      if let some a := p then storeCells (a.add (len * ti.size)) zs.toList
      pure (.slice p (len + n.toNat) cap) : Sem Value).run P w else (do
      if Builtin.nextslicecap (len + n.toNat) cap * ti.bytes > 2 ^ 48 then runtimePanic (.error "growslice: len out of range")
      let newCap ← choose (.appendCap (len + n.toNat) cap e)
      askRoom (newCap * ti.bytes)
      let old ← Builtin.firstCells ti.size len (.slice p len cap)
      let rest := Builtin.zeroCells (← zeroValue e).cells (newCap - (len + n.toNat))
      pure (.slice (some (← newRow e (old ++ zs ++ rest))) (len + n.toNat) newCap) : Sem Value).run P w) := by
    have hl0 : ¬ n < 0 := by omega
    have hA : ∀ w, (asInt (.int ik' n)).run P w = .ok n w := fun _ => rfl
    have hns : ¬ n.toNat * ti.size = 0 := by
      have : 0 < n.toNat * ti.size := Nat.mul_pos (by omega) hsi
      omega
    have hmax : ¬ ((len + n.toNat : Nat) : Int) > IntKind.i64.max := by
      have : IntKind.i64.max = 9223372036854775807 := rfl
      omega
    unfold Builtin.append_
    simp only [List.getElem?_toArray, List.getElem?_cons_zero, List.getElem?_cons_succ, Sem.run_bind, run_underlying hu, run_underlying hx2, Result.andThen_ok, run_sizeOf' hi, Sem.run_pure, hA, if_true, wrap_pos hn0 hn1, hl0, if_false, typeInfo, run_program, hi, hnb, hns, run_zero' hi hz, hz0, Bool.not_true, Bool.false_eq_true, Sem.run_ite, hmax, false_and]
    rfl
  by_cases hc : len + n.toNat ≤ cap
  · have hk := hroom hc
    rw [if_pos hc] at pre
    cases p with
    | none =>
      have hx' := hx (.slice none (len + n.toNat) cap) w (by rw [pre]; simp)
      exact wp_value hx' (done_mk hk hr rfl (.refl _ _ _))
    | some ad =>
      obtain ⟨hw, hk⟩ := hk
      obtain ⟨hw', hm⟩ := WrAt.hides hr.hd hw
      have hst := run_stores (P := P) (ad.add (len * ti.size)) zs.toList 0 w h1 fun j _ hj => hw' j (by simpa using hj)
      have hx' := hx (.slice (some ad) (len + n.toNat) cap) { w with heap := Hp.setCells w.heap (ad.add (len * ti.size)) zs.toList 0 } (by rw [pre]; simp [hst])
      have hmm : zs.toList = [] ∨ ¬ M (ad.add (len * ti.size)).block := by
        cases hzz : zs.toList with
        | nil => exact Or.inl rfl
        | cons v r => exact Or.inr (hm (by rw [hzz]; simp))
      have R : RelB M0 w0 bs M { s with H := Hp.setCells s.H (ad.add (len * ti.size)) zs.toList 0 } a { w with heap := Hp.setCells w.heap (ad.add (len * ti.size)) zs.toList 0 } := by
        rcases hmm with h0 | hm'
        · rw [h0]; exact hr
        · exact setCells_heap _ _ _ _ hr hm'
      refine wp_value hx' (done_mk hk R rfl ⟨fun e => by omega, fun _ b hb => ?_⟩)
      rcases hmm with h0 | hm'
      · rw [h0]; rfl
      · exact keep_setCells hm' _ _ _ _ hb
  · obtain ⟨olds, hold, hk⟩ := hgrow (by omega)
    rw [if_neg hc] at pre
    have hfit := growslice_fits (old := cap) (by omega) hbytes
    have hold' := SrcAt.load (P := P) hr.hd hold
    have hnf : (Question.appendCap (len + n.toNat) cap e).forced = false := rfl
    have hge := grownCap_ge' w (len + n.toNat) cap e
    have hlt := grownCap_lt' w (len + n.toNat) cap e hneed
    have harr : ∀ Z : Array Value, olds.toArray ++ zs ++ Z = (olds ++ zs.toList ++ Z.toList).toArray := fun Z => by apply Array.ext'; simp
    have hx' := hx (.slice (some ⟨w.heap.size, 0, none⟩) (len + n.toNat) ((Question.appendCap (len + n.toNat) cap e).cut (w.tape w.drawn (.appendCap (len + n.toNat) cap e))))
      { w with heap := w.heap.push (.cells (olds ++ zs.toList ++ (Builtin.zeroCells z.cells ((Question.appendCap (len + n.toNat) cap e).cut (w.tape w.drawn (.appendCap (len + n.toNat) cap e)) - (len + n.toNat))).toList).toArray e), drawn := w.drawn + 1 } (by
        rw [pre]
        have hno : ¬ Builtin.nextslicecap (len + n.toNat) cap * ti.bytes > 2 ^ 48 := by omega
        simp only [Sem.run_bind, Sem.run_ite, if_neg hno, Sem.run_pure, Result.andThen_ok, run_choose, hnf, Bool.false_eq_true, if_false, run_askRoom, hold' { w with drawn := w.drawn + 1 } rfl, run_zero' hi hz, newRow, run_newObj, harr])
    have hk' := hk _ hge hlt
    refine wp_value hx' (done_mk hk' (hr.push _ (w.drawn + 1)) ?_ ⟨fun e => by omega, fun _ => ((Grow.push w _ _).chg (c := 1) hr.hd.lt).2 (Nat.le_refl _)⟩)
    rw [hsz]; rfl

theorem clear_run {t ty : TypeId} {p : Option Addr} {n c : Nat} {o : Oper} {k : AV → VS → Prop} (hr : RelB M0 w0 bs M s a w) (hcl : clsOf o.op = 1) (tys : Array TypeId) (ht : tys[0]? = some t)
    (hx : ∀ v w', (Builtin.clear_ tys ty #[.slice p n c]).run P w = .ok v w' → (execOp a.eval o).run P w = .ok (.value v) w')
    (h : vClear P t p n s.H fun H' => k (.v (.tuple #[])) { s with H := H' }) : o.wp P a w (Done M0 w0 bs M w o k) QF := by
  obtain ⟨e, ti, z, hu, hi, hz, h1, hk⟩ := h
  cases p with
  | none =>
    refine wp_value (hx (.tuple #[]) w ?_) (done_mk hk hr rfl (.refl _ _ _))
    simp only [Builtin.clear_, ht, List.getElem?_toArray, List.getElem?_cons_zero, Sem.run_bind, run_underlying hu, Result.andThen_ok]; rfl
  | some ad =>
    by_cases hn : n = 0
    · subst hn
      refine wp_value (hx (.tuple #[]) w ?_) (done_mk (hk.1 rfl) hr rfl (.refl _ _ _))
      simp only [Builtin.clear_, ht, List.getElem?_toArray, List.getElem?_cons_zero, Sem.run_bind, run_underlying hu, Result.andThen_ok]; rfl
    · obtain ⟨hw, hk⟩ := hk.2 (by omega)
      obtain ⟨hw', hm⟩ := WrAt.hides hr.hd hw
      have hst := run_stores (P := P) ad (Builtin.zeroCells z.cells n).toList 0 w h1 fun j _ hj => hw' j (by simpa using hj)
      have hx' := hx (.tuple #[]) { w with heap := Hp.setCells w.heap ad (Builtin.zeroCells z.cells n).toList 0 } (by
        obtain ⟨m, rfl⟩ : ∃ m, n = m + 1 := ⟨n - 1, by omega⟩
        simp only [Builtin.clear_, ht, List.getElem?_toArray, List.getElem?_cons_zero, Sem.run_bind, run_underlying hu, Result.andThen_ok, run_zero' hi hz, hst]
        rfl)
      have hmm : (Builtin.zeroCells z.cells n).toList = [] ∨ ¬ M ad.block := by
        cases hzz : (Builtin.zeroCells z.cells n).toList with
        | nil => exact Or.inl rfl
        | cons v r => exact Or.inr (hm (by rw [hzz]; simp))
      have R : RelB M0 w0 bs M { s with H := Hp.setCells s.H ad (Builtin.zeroCells z.cells n).toList 0 } a { w with heap := Hp.setCells w.heap ad (Builtin.zeroCells z.cells n).toList 0 } := by
        rcases hmm with h0 | hm'
        · rw [h0]; exact hr
        · exact setCells_heap _ _ _ _ hr hm'
      refine wp_value hx' (done_mk hk R rfl ⟨fun e => by omega, fun _ b hb => ?_⟩)
      rcases hmm with h0 | hm'
      · rw [h0]; rfl
      · exact keep_setCells hm' _ _ _ _ hb

/-- Anywhere; in a frame of a function, or of a round. -/
def FW (r : Option Nat) : Fence := { Fence.wide with round := r }
theorem FW.room (r : Option Nat) (n : Nat) : (FW r).room n := fun _ h => by simp [FW, Fence.wide] at h

theorem WpE.wpIn (r : Option Nat) {o : Oper} {K : Act → World → Prop} {Q : Exit → Act → World → Prop} (hd : ∀ c, o.op ≠ .defer c) (h : WpE P o a w K Q) : o.wpIn (FW r) 0 P a w K Q := by
  refine ⟨fun _ _ => trivial, ?_⟩
  rw [Oper.semAt_eq _ _ _ hd]
  exact h
end Go.KC
