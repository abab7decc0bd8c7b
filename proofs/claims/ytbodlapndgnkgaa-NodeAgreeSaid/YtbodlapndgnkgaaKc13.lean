/- THE CORE, part 13: code. What the walk of a function's code asks (vCode), and that it is enough (vFn_calls). Generic. -/
import Derived.Test.YtbodlapndgnkgaaKc12
import Derived.RangeFuncRecord
set_option linter.all false
set_option linter.constructorNameAsVariable false
namespace Go.KC
variable {P : Program} {M0 : Nat → Prop} {w0 : World}

def firstR : Code → Nat
  | .region id _ _ => id
  | .seq a _ => firstR a
  | .cond _ a _ => firstR a
  | .block _ a => firstR a
  | .loop a => firstR a
  | .rangeFunc _ _ _ b => firstR b
  | _ => 0

/-- The least of what holds at each round's head. -/
def vLoop (body : (Exit → VS → Prop) → VS → Prop) (lv : List Nat) (n : Nat) (K : Exit → VS → Prop) (s : VS) : Prop :=
  ∀ I : VS → Prop, (∀ s', body (fun e t => match e with | .normal => I (t.keep lv n) | e => K e t) s' → I s') → I s

theorem vLoop.unfold {body : (Exit → VS → Prop) → VS → Prop} {lv : List Nat} {n : Nat} {K : Exit → VS → Prop} {s : VS} (hmono : ∀ (K K' : Exit → VS → Prop) s, (∀ e t, K e t → K' e t) → body K s → body K' s)
    (h : body (fun e t => match e with | .normal => vLoop body lv n K (t.keep lv n) | e => K e t) s) : vLoop body lv n K s := by
  intro I hI
  refine hI s (hmono _ _ s (fun e t ht => ?_) h)
  cases e with
  | normal => exact ht I hI
  | _ => exact ht

/-! ### A range over a function -/
/-- The record of such a loop, as an object of the heap. -/
def recO (fn : FuncId) (tm : Array Value) (ps : Array Tmp) (asg body : Code) (d : Nat) (st : LoopState) (pd : Option Code) : Obj :=
  .loop { state := st, pending := pd, fn := fn, tmps := tm, params := ps, assign := asg, body := body, defers := d }

/-- The slots' values, as far as they are known. -/
def TmOf (fr : List AV) (tm : Array Value) : Prop := tm.size = fr.length ∧ ∀ (t : Nat) (x : Value), fr[t]? = some (.v x) → tm[t]? = some x

/-- The call of the function that is ranged over. -/
def vRg (P : Program) (fv : Value) (l : Nat) (H : Hp) (Q : Hp → Prop) : Prop :=
  match fv with
  | .func (.func f) fi ca => (match goFn P f with | true => SCalls P f (fi.toList ++ [.func (.yield l) #[] #[]] ++ ca.toList) H fun _ H' => Q H' | false => False)
  | _ => False

/-- The ways out of a code. -/
def exitsOf : Code → List Nat
  | .exit i => [i]
  | .seq a b => exitsOf a ++ exitsOf b
  | .cond _ a b => exitsOf a ++ exitsOf b
  | .block i a => (exitsOf a).filter fun j => !(Nat.beq j i)
  | .loop a => exitsOf a
  | _ => []

def dedup : List Nat → List Nat
  | [] => []
  | i :: r => match r.contains i with | true => dedup r | false => i :: dedup r

def jumpsE (pd : Option Code) (K : Exit → Prop) : List Nat → Prop
  | [] => True
  | i :: r => (pd = some (.exit i) → K (.exit i)) ∧ jumpsE pd K r

/-- On behind the loop, by the jump that is pending. -/
def vJump (pd : Option Code) (ids : List Nat) (K : Exit → Prop) : Prop :=
  (pd = none → K .normal) ∧ (pd = some .ret → K .ret) ∧ jumpsE pd K ids ∧ (pd = none ∨ pd = some .ret ∨ ∃ i ∈ ids, pd = some (.exit i))

def vCode (P : Program) (cf : Cfg) (J : Jn) : Code → (Exit → VS → Prop) → VS → Prop
  | .skip, K, s => K .normal s
  | .label _, K, s => K .normal s
  | .region id ops draw, K, s =>
    match draw with
    | false => vOps P cf J ops (K .normal) ops.toList s
    | true => match Region.noSelect ops with
      | true => (match plOf cf.pl id with
        | some (I, p) => (match infOK ops ops.toList I && plOK I p ops.size 0 true with | true => vPl P cf.pr s.ls.length ops (K .normal) p s | false => False)
        | none => vDraw P cf.pr s.ls.length ops (K .normal) ops.size (Array.replicate ops.size false) s)
      | false => False
  | .seq a b, K, s => vCode P cf J a (fun e t => match e with | .normal => joinJ J (vCode P cf J b K) (firstR b) s.ls.length t cf.jn | e => K e t) s
  | .cond c a b, K, s => (match s.ev c with | .v (.bool t) => Br t (vCode P cf J a K s) (vCode P cf J b K s) | _ => False)
  | .block id c, K, s => vCode P cf J c (fun e t => match e with | .exit id' => (match Nat.beq id' id with | true => K .normal t | false => K (.exit id') t) | e => K e t) s
  | .loop c, K, s => vLoop (vCode P cf J c) (lvOf cf.lv (firstR c)) s.ls.length K (s.keep (lvOf cf.lv (firstR c)) s.ls.length)
  | .exit id, K, s => K (.exit id) s
  | .ret, K, s => K .ret s
  | .rangeFunc g ps asg body, K, s =>
    match cf.rf, s.ev g with
    | true, .v fv =>
      ∀ (fn : FuncId) (tm : Array Value), TmOf (keepFr (lvOf cf.lv (firstR body + 1000000)) 0 0 s.fr) tm →
        vRg P fv (s.H.size + 1) ((s.H.push hole).push (recO fn tm ps asg body s.H.size .ready none)) fun H' =>
          ∃ st pd, H'[s.H.size + 1]? = some (recO fn tm ps asg body s.H.size st pd) ∧ st ≠ .busy ∧
            ∀ H3 : Hp, H3 = H'.setIfInBounds (s.H.size + 1) (recO fn tm ps asg body s.H.size .exhausted pd) → vJump pd (dedup (exitsOf body)) fun e => K e { s with H := H3 }
    | _, _ => False
  | _, _, _ => False

theorem vRg.imp {fv : Value} {l : Nat} {H : Hp} {Q Q' : Hp → Prop} (h : vRg P fv l H Q) (hq : ∀ H, Q H → Q' H) : vRg P fv l H Q' := by
  unfold vRg at *
  split at h <;> (first | exact h.elim | skip)
  split at h <;> (first | exact h.elim | exact h.mono fun _ _ h => hq _ h)

theorem jumpsE.imp {pd : Option Code} {K K' : Exit → Prop} (hk : ∀ e, K e → K' e) : ∀ {l : List Nat}, jumpsE pd K l → jumpsE pd K' l
  | [], _ => trivial
  | _ :: _, h => ⟨fun e => hk _ (h.1 e), jumpsE.imp hk h.2⟩

theorem jumpsE.get {pd : Option Code} {K : Exit → Prop} : ∀ {l : List Nat}, jumpsE pd K l → ∀ i ∈ l, pd = some (.exit i) → K (.exit i)
  | [], _, i, hi, _ => by cases hi
  | j :: r, h, i, hi, e => by
    cases hi with
    | head => exact h.1 e
    | tail _ hi => exact jumpsE.get h.2 i hi e

theorem vJump.imp {pd : Option Code} {ids : List Nat} {K K' : Exit → Prop} (h : vJump pd ids K) (hk : ∀ e, K e → K' e) : vJump pd ids K' :=
  ⟨fun e => hk _ (h.1 e), fun e => hk _ (h.2.1 e), jumpsE.imp hk h.2.2.1, h.2.2.2⟩

theorem Br.imp {b : Bool} {A B A' B' : Prop} (h : Br b A B) (ha : A → A') (hb : B → B') : Br b A' B' := by
  cases b
  · exact hb h
  · exact ha h

/-! ### vCode is monotone -/
theorem vPtr.imp {p : Option Addr} {K K' : Addr → Prop} (h : vPtr p K) (hk : ∀ a, K a → K' a) : vPtr p K' := by
  cases p
  · exact h
  · exact hk _ h

theorem vBd.imp {x : Option AV} {d t : Nat} {K K' : Nat → Prop} (h : vBd x d t K) (hk : ∀ n, K n → K' n) : vBd x d t K' := by
  unfold vBd at *
  split at h <;> first | exact hk _ h | exact ⟨h.1, hk _ h.2⟩ | exact h.elim

theorem vMm.imp {mx : Bool} : ∀ {r : List Value} {x : Value} {K K' : Value → Prop}, vMm mx x r K → (∀ v, K v → K' v) → vMm mx x r K'
  | [], x, K, K', h, hk => by unfold vMm at *; exact hk _ h
  | y :: r, x, K, K', h, hk => by
    unfold vMm at *
    split at h <;> (first | exact h.elim | skip)
    · rename_i he; cases he
    · rename_i he; cases he; exact vMm.imp h hk

theorem vEq.imp {t : TypeId} {x y : Value} {K K' : Bool → Prop} (h : vEq P t x y K) (hk : ∀ v, K v → K' v) : vEq P t x y K' := by
  unfold vEq at *
  split at h <;> (first | exact h.elim | skip)
  all_goals (split at h <;> (first | exact h.elim | exact hk _ h | skip))
  split at h <;> (first | exact h.elim | exact hk _ h | skip)

theorem vBin.imp {op : BinOp} {t : TypeId} {x y : Value} {K K' : Value → Prop} (h : vBin P op t x y K) (hk : ∀ v, K v → K' v) : vBin P op t x y K' := by
  unfold vBin at *
  split at h
  · split at h
    · exact ⟨h.1, hk _ h.2⟩
    · exact ⟨h.1, hk _ h.2⟩
    · split at h
      · rename_i hkk
        rw [if_pos hkk]
        split at h <;> first | exact hk _ h | exact ⟨h.1, hk _ h.2⟩ | exact h.elim
      · exact h.elim
  · split at h <;> first | exact hk _ h | exact ⟨h.1, hk _ h.2⟩ | exact h.elim
  · split at h
    · exact vEq.imp h fun b hb => hk _ hb
    · exact vEq.imp h fun b hb => hk _ hb
    · exact h.elim

theorem vSlice.imp {t : TypeId} {x : AV} {lo hi mx : Option AV} {K K' : Value → Prop} (h : vSlice P t x lo hi mx K) (hk : ∀ v, K v → K' v) : vSlice P t x lo hi mx K' := by
  unfold vSlice at *
  split at h <;> (first | exact h.elim | skip)
  · split at h <;> (first | exact h.elim | skip)
    exact vBd.imp h fun _ h => vBd.imp h fun _ h => hk _ h
  · split at h <;> (first | exact h.elim | skip)
    split at h <;> (first | exact h.elim | skip)
    exact vBd.imp h fun _ h => vBd.imp h fun _ h => vBd.imp h fun _ h => hk _ h

theorem vPart.imp {t : TypeId} {cs : List Value} {off : Nat} {K K' : Value → Prop} (h : vPart P t cs off K) (hk : ∀ v, K v → K' v) : vPart P t cs off K' := by
  unfold vPart at *
  split at h <;> (first | exact h.elim | skip)
  split at h
  · exact hk _ h
  · split at h <;> first | exact hk _ h | exact h.elim

theorem vPure.imp {o : Op} {s : VS} {K K' : AV → Prop} (h : vPure P o s K) (hk : ∀ v, K v → K' v) : vPure P o s K' := by
  unfold vPure at *
  split at h <;> (first | exact h.elim | exact hk _ h | skip)
  · split at h <;> (first | exact h.elim | skip)
    exact h.imp (hk _) (hk _)
  · split at h <;> (first | exact h.elim | exact hk _ h | exact vPtr.imp h fun _ h => hk _ h)
  · split at h <;> (first | exact h.elim | skip)
    exact vBin.imp h fun _ h => hk _ h
  · split at h <;> (first | exact h.elim | exact hk _ h)
  · split at h <;> (first | exact h.elim | exact hk _ h)
  · split at h <;> (first | exact h.elim | exact hk _ h)
  · split at h <;> (first | exact h.elim | skip)
    split at h <;> (first | exact h.elim | exact hk _ h)
  · unfold vFieldAddr at *
    split at h <;> (first | exact h.elim | skip)
    split at h <;> (first | exact h.elim | skip)
    split at h <;> (first | exact h.elim | skip)
    split at h <;> (first | exact h.elim | skip)
    split at h <;> (first | exact h.elim | exact hk _ h)
  · unfold vField at *
    split at h <;> (first | exact h.elim | skip)
    split at h <;> (first | exact h.elim | skip)
    split at h <;> (first | exact h.elim | exact hk _ h)
  · unfold vIndexAddr at *
    split at h <;> (first | exact h.elim | skip)
    split at h <;> (first | exact h.elim | skip)
    · split at h <;> (first | exact h.elim | exact ⟨h.1, vPtr.imp h.2 fun _ h => hk _ h⟩)
    · split at h <;> (first | exact h.elim | exact ⟨h.1, hk _ h.2⟩ | exact ⟨h.1, vSel_intro h.1 (hk _ (vSel_elim h.1 h.2))⟩)
  · unfold vIndex at *
    split at h <;> (first | exact h.elim | skip)
    split at h <;> (first | exact h.elim | skip)
    · obtain ⟨c, hc, h⟩ := h; exact ⟨c, hc, hk _ h⟩
    · split at h <;> (first | exact h.elim | skip)
      · obtain ⟨c, hc, h⟩ := h; exact ⟨c, hc, hk _ h⟩
      · obtain ⟨c, hc, h⟩ := h; exact ⟨c, hc, hk _ h⟩
      · refine ⟨h.1, ?_⟩
        have h2 := h.2
        split at h2 <;> (first | exact h2.elim | exact hk _ h2)
  · exact vSlice.imp h fun _ h => hk _ h
  · unfold vBuild at *
    split at h <;> (first | exact h.elim | skip)
    · split at h <;> (first | exact h.elim | skip)
      split at h <;> (first | exact h.elim | exact hk _ h)
    · split at h <;> (first | exact h.elim | skip)
      split at h <;> (first | exact h.elim | exact hk _ h)
  · split at h <;> (first | exact h.elim | skip)
    · split at h <;> (first | exact h.elim | exact hk _ h)
    · split at h <;> (first | exact h.elim | exact hk _ h)
    · split at h <;> (first | exact h.elim | exact hk _ h)
    · exact vMm.imp h fun _ h => hk _ h
    · exact vMm.imp h fun _ h => hk _ h

theorem exV.imp {z : Value} {K K' : Value → Prop} (h : exV z K) (hk : ∀ v, K v → K' v) : exV z K' := by
  unfold exV at *
  split at h <;> (obtain ⟨x, hx⟩ := h; exact ⟨x, hk _ hx⟩)
theorem exVs.imp : ∀ {zs : List Value} {K K' : List Value → Prop}, exVs zs K → (∀ v, K v → K' v) → exVs zs K'
  | [], _, _, h, hk => hk _ h
  | _ :: _, _, _, h, hk => exV.imp h fun _ h => exVs.imp h fun _ h => hk _ h
theorem exT.imp {t : TypeId} {K K' : Value → Prop} (h : exT P t K) (hk : ∀ v, K v → K' v) : exT P t K' := by
  unfold exT at *
  split at h <;> (first | exact h.elim | skip)
  split at h <;> (first | exact h.elim | exact exVs.imp h fun _ h => hk _ h | exact exV.imp h hk)
theorem exTs.imp : ∀ {ts : List TypeId} {K K' : List Value → Prop}, exTs P ts K → (∀ v, K v → K' v) → exTs P ts K'
  | [], _, _, h, hk => hk _ h
  | _ :: _, _, _, h, hk => exT.imp h fun _ h => exTs.imp h fun _ h => hk _ h
theorem exR.imp {t : TypeId} {K K' : Value → Prop} (h : exR P t K) (hk : ∀ v, K v → K' v) : exR P t K' := by
  unfold exR at *
  split at h
  · exact exTs.imp h fun _ h => hk _ h
  · exact exT.imp h hk

theorem vLoad.imp {t : TypeId} {a : Addr} {H : Hp} {K K' : Value → Prop} (h : vLoad P t a H K) (hk : ∀ v, K v → K' v) : vLoad P t a H K' := by
  unfold vLoad at *
  split at h <;> (first | exact h.elim | skip)
  split at h <;> (first | exact h.elim | skip)
  · split at h <;> (first | exact h.elim | skip)
    exact exVs.imp h fun _ h => ⟨h.1, hk _ h.2⟩
  · exact exV.imp h fun _ h => ⟨h.1, hk _ h.2⟩

theorem vStore.imp {pr : List Nat} {t : TypeId} {addr : AV} {x : Value} {s : VS} {k k' : VS → Prop} (h : vStore P pr t addr x s k) (hk : ∀ s, k s → k' s) : vStore P pr t addr x s k' := by
  unfold vStore at *
  split at h <;> (first | exact h.elim | skip)
  split at h <;> (first | exact h.elim | skip)
  split at h <;> (first | exact h.elim | exact ⟨h.1, h.2.imp fun _ h => hk _ h⟩ | skip)
  split at h <;> (first | exact h.elim | skip)
  split at h <;> (first | exact h.elim | exact hk _ h)

theorem vNew.imp {pr : List Nat} {dst : Option Tmp} {e : TypeId} {cells : List Value} {s : VS} {k k' : AV → VS → Prop} (h : vNew pr dst e cells s k) (hk : ∀ v s, k v s → k' v s) : vNew pr dst e cells s k' := by
  unfold vNew at *
  split at h <;> (first | exact h.elim | skip)
  split at h
  · exact h.imp fun _ h => hk _ _ h
  · exact h.imp fun _ h => h.imp fun _ h => hk _ _ h

theorem vApp.imp {t : TypeId} {a : Option Addr} {len cap : Nat} {src : Value} {H : Hp} {K K' : Sl → Hp → Prop} (h : vApp P t a len cap src H K) (hk : ∀ v H, K v H → K' v H) : vApp P t a len cap src H K' := by
  obtain ⟨e, ti, z, news, h1, h2, h3, h4, h5, h6, h7, h8⟩ := h
  refine ⟨e, ti, z, news, h1, h2, h3, h4, h5, h6, fun hc => ?_, fun hc => ?_⟩
  · have := h7 hc
    cases a with
    | none => exact hk _ _ this
    | some ad => exact ⟨this.1, hk _ _ this.2⟩
  · obtain ⟨o, q1, q2, q3⟩ := h8 hc
    exact ⟨o, q1, q2, fun c a b => hk _ _ (q3 c a b)⟩

theorem vAppZ.imp {t : TypeId} {a : Option Addr} {len cap : Nat} {n : Int} {H : Hp} {K K' : Sl → Hp → Prop} (h : vAppZ P t a len cap n H K) (hk : ∀ v H, K v H → K' v H) : vAppZ P t a len cap n H K' := by
  obtain ⟨e, ti, z, h1, h2, h3, h4, h5, h6, h7, h8, h9, h10, h11⟩ := h
  refine ⟨e, ti, z, h1, h2, h3, h4, h5, h6, h7, h8, h9, fun hc => ?_, fun hc => ?_⟩
  · have := h10 hc
    cases a with
    | none => exact hk _ _ this
    | some ad => exact ⟨this.1, hk _ _ this.2⟩
  · obtain ⟨o, q1, q2⟩ := h11 hc
    exact ⟨o, q1, fun c a b => hk _ _ (q2 c a b)⟩

theorem vClear.imp {t : TypeId} {a : Option Addr} {n : Nat} {H : Hp} {K K' : Hp → Prop} (h : vClear P t a n H K) (hk : ∀ H, K H → K' H) : vClear P t a n H K' := by
  obtain ⟨e, ti, z, h1, h2, h3, h4, h5⟩ := h
  refine ⟨e, ti, z, h1, h2, h3, h4, ?_⟩
  cases a with
  | none => exact hk _ h5
  | some ad => exact ⟨fun e => hk _ (h5.1 e), fun e => ⟨(h5.2 e).1, hk _ (h5.2 e).2⟩⟩

theorem vCopy.imp {t : TypeId} {a : Option Addr} {len : Nat} {src : Value} {H : Hp} {K K' : Nat → Hp → Prop} (h : vCopy P t a len src H K) (hk : ∀ v H, K v H → K' v H) : vCopy P t a len src H K' := by
  obtain ⟨e, ti, cs, h1, h2, h3, h4, h5⟩ := h
  refine ⟨e, ti, cs, h1, h2, h3, h4, ?_⟩
  cases a with
  | none => exact hk _ _ h5
  | some ad => exact ⟨h5.1, hk _ _ h5.2⟩

theorem vInv.imp {fv : Value} {args : List Value} {H : Hp} {Q Q' : Value → Hp → Prop} (h : vInv P fv args H Q) (hq : ∀ r H, Q r H → Q' r H) : vInv P fv args H Q' := by
  unfold vInv at *
  split at h <;> (first | exact h.elim | skip)
  · split at h
    · exact h.mono hq
    · obtain ⟨v, h1, h2⟩ := h; exact ⟨v, h1, hq _ _ h2⟩
  · exact h.mono hq

theorem vMapPut.imp {t : TypeId} {m : Option Nat} {kv v : Value} {H : Hp} {K K' : Hp → Prop} (h : vMapPut P t m kv v H K) (hk : ∀ H, K H → K' H) : vMapPut P t m kv v H K' := by
  obtain ⟨r, es, c, d, e, h1, h2, h3, h4⟩ := h
  refine ⟨r, es, c, d, e, h1, h2, h3, ?_⟩
  split at h4 <;> (first | exact h4.elim | exact hk _ h4)
theorem vMapDel.imp {t : TypeId} {m : Option Nat} {kv : Value} {H : Hp} {K K' : Hp → Prop} (h : vMapDel P t m kv H K) (hk : ∀ H, K H → K' H) : vMapDel P t m kv H K' := by
  obtain ⟨r, es, c, d, e, h1, h2, h3, h4⟩ := h
  refine ⟨r, es, c, d, e, h1, h2, h3, ?_⟩
  split at h4 <;> (first | exact h4.elim | exact hk _ h4)
theorem vNext.imp {pr : List Nat} {t : TypeId} {it : Value} {H : Hp} {K K' : Value → Hp → Prop} (h : vNext P pr t it H K) (hk : ∀ v H, K v H → K' v H) : vNext P pr t it H K' := by
  unfold vNext at *
  split at h <;> (first | exact h.elim | skip)
  · obtain ⟨h0, n, h1, h2, h3⟩ := h
    exact ⟨h0, n, h1, fun e he hs => exT.imp (h2 e he hs) fun x h => exT.imp h fun y h => ⟨h.1, h.2.imp fun _ h => hk _ _ h⟩, fun ho => hk _ _ (h3 ho)⟩
  · obtain ⟨h0, n, h1, h2, h3⟩ := h
    exact ⟨h0, n, h1, fun e he hs => (h2 e he hs).imp fun _ h => hk _ _ h, fun ho => hk _ _ (h3 ho)⟩

theorem vMapEnt.imp {t : TypeId} {m : Option Nat} {k : Value} {H : Hp} {K K' : Value → Int → Hp → Prop} (h : vMapEnt P t m k H K) (hk : ∀ v n H, K v n H → K' v n H) : vMapEnt P t m k H K' := by
  obtain ⟨r, es, c, d, e, h1, h2, h3, h4⟩ := h
  refine ⟨r, es, c, d, e, h1, h2, h3, ?_⟩
  split at h4 <;> (first | exact h4.elim | exact h4.imp fun _ h => ⟨h.1, hk _ _ _ h.2⟩ | exact h4.imp fun _ h => h.imp fun _ h => ⟨h.1, h.2.1, hk _ _ _ h.2.2⟩)
theorem vEntSt.imp {m : Option Nat} {n : Int} {x : Value} {H : Hp} {K K' : Hp → Prop} (h : vEntSt m n x H K) (hk : ∀ H, K H → K' H) : vEntSt m n x H K' := by
  obtain ⟨r, es, c, i, h1, h2, h3, h4⟩ := h
  exact ⟨r, es, c, i, h1, h2, h3, hk _ h4⟩

theorem vOp.imp {pr : List Nat} {o : Oper} {s : VS} {k k' : AV → VS → Prop} (h : vOp P pr o s k) (hk : ∀ v s, k v s → k' v s) : vOp P pr o s k' := by
  obtain ⟨dst, op, type, pos, after, guard⟩ := o
  unfold vOp at *
  dsimp only at *
  split at h
  · split at h <;> (first | exact h.elim | skip)
    split at h <;> (first | exact h.elim | exact vNew.imp h hk)
  · split at h <;> (first | exact h.elim | exact vNew.imp h hk)
  · split at h <;> (first | exact h.elim | skip)
    split at h <;> (first | exact h.elim | skip)
    split at h <;> (first | exact h.elim | skip)
    split at h <;> (first | exact h.elim | exact h.imp fun _ h => h.imp fun _ h => hk _ _ h)
  · split at h <;> (first | exact h.elim | skip)
    · split at h <;> (first | exact h.elim | skip)
      split at h <;> (first | exact h.elim | exact vPart.imp h fun _ h => hk _ _ h)
    · exact vLoad.imp h fun _ h => hk _ _ h
  · split at h <;> (first | exact h.elim | exact vStore.imp h fun _ h => hk _ _ h)
  · split at h
    · split at h <;> (first | exact h.elim | skip)
      unfold vB2S at *
      split at h
      · exact hk _ _ h
      · obtain ⟨t, h1, h2⟩ := h; exact ⟨t, h1, hk _ _ h2⟩
    · split at h <;> (first | exact h.elim | skip)
      exact ⟨h.1, fun c h1 h2 => hk _ _ (h.2 c h1 h2)⟩
    · exact vPure.imp h fun _ h => hk _ _ h
  · split at h <;> (first | exact h.elim | skip)
    exact vInv.imp h fun _ _ h => exR.imp h fun _ h => ⟨h.1, hk _ _ h.2⟩
  · split at h <;> (first | exact h.elim | skip)
    split at h <;> (first | exact h.elim | exact vApp.imp h fun _ _ h => hk _ _ h | skip)
    split at h <;> (first | exact h.elim | exact vAppZ.imp h fun _ _ h => hk _ _ h)
  · split at h <;> (first | exact h.elim | exact vClear.imp h fun _ h => hk _ _ h)
  · split at h <;> (first | exact h.elim | exact vCopy.imp h fun _ _ h => hk _ _ h)
  · split at h <;> (first | exact h.elim | exact h.imp fun _ h => h.imp fun _ h => hk _ _ h | skip)
    split at h <;> (first | exact h.elim | exact h.imp fun _ h => h.imp fun _ h => hk _ _ h)
  · split at h <;> (first | exact h.elim | skip)
    · refine exR.imp h fun u h => ?_
      split at h <;> (first | exact h.elim | exact ⟨h.1, hk _ _ h.2⟩)
    · exact exR.imp h fun u h => ⟨h.1, hk _ _ h.2⟩
  · split at h <;> (first | exact h.elim | exact vMapPut.imp h fun _ h => hk _ _ h)
  · split at h <;> (first | exact h.elim | exact vMapPut.imp h fun _ h => hk _ _ h)
  · split at h <;> (first | exact h.elim | skip)
    obtain ⟨m, es, c, h0, h1, h2⟩ := h
    exact ⟨m, es, c, h0, h1, h2.imp fun _ h => h.imp fun _ h => hk _ _ h⟩
  · split at h <;> (first | exact h.elim | exact vNext.imp h fun _ _ h => hk _ _ h)
  · split at h <;> (first | exact h.elim | exact vMapEnt.imp h fun _ _ _ h => hk _ _ h)
  · split at h <;> (first | exact h.elim | exact vEntSt.imp h fun _ h => hk _ _ h)
  · split at h <;> (first | exact h.elim | skip)
    exact ⟨h.1, h.2.imp fun _ h => ⟨h.1, hk _ _ h.2⟩⟩
  · split at h
    · split at h <;> (first | exact h.elim | exact exR.imp h fun _ h => ⟨h.1, hk _ _ h.2⟩)
    · exact vPure.imp h fun _ h => hk _ _ h
  · split at h <;> (first | exact h.elim | exact vMapDel.imp h fun _ h => hk _ _ h)
  · split at h
    · obtain ⟨es, h1, h2⟩ := h; exact ⟨es, h1, hk _ _ h2⟩
    · exact vPure.imp h fun _ h => hk _ _ h
  · exact vPure.imp h fun _ h => hk _ _ h

theorem vStep.imp {pr : List Nat} {ops : Array Oper} {o : Oper} {s : VS} {k k' : VS → Prop} (h : vStep P pr ops o s k) (hk : ∀ s, k s → k' s) : vStep P pr ops o s k' := by
  unfold vStep at *
  split at h
  · exact vOp.imp h fun _ _ h => hk _ h
  · split at h
    · exact hk _ h
    · split at h <;> (first | exact h.elim | exact hk _ h | skip)
      refine h.imp (fun h => ?_) (fun h => ?_)
      · split at h
        · exact vOp.imp h fun _ _ h => hk _ h
        · exact hk _ h
      · split at h
        · exact vOp.imp h fun _ _ h => hk _ h
        · exact hk _ h

theorem joinO.imp {k k' : VS → Prop} {d : Option Tmp} {s : VS} (hk : ∀ s, k s → k' s) : ∀ {l : List (Nat × List Nat)}, joinO J0 k d s l → joinO J0 k' d s l
  | [], h => hk _ h
  | (i, l) :: q, h => by
    unfold joinO at h ⊢
    split at h
    · exact hk _ h
    · split at h
      · exact hk _ h
      · exact joinO.imp hk h

theorem joinJ.imp {k k' : VS → Prop} {r n : Nat} {s : VS} (hk : ∀ s, k s → k' s) : ∀ {l : List (Nat × List Nat × Bool)}, joinJ J0 k r n s l → joinJ J0 k' r n s l
  | [], h => hk _ h
  | (i, l, d) :: q, h => by
    unfold joinJ at h ⊢
    split at h
    · split at h
      · exact hk _ h
      · exact hk _ h
    · exact joinJ.imp hk h

theorem vOps.imp {cf : Cfg} {ops : Array Oper} {K K' : VS → Prop} (hk : ∀ s, K s → K' s) : ∀ {l : List Oper} {s : VS}, vOps P cf J0 ops K l s → vOps P cf J0 ops K' l s
  | [], _, h => hk _ h
  | _ :: _, _, h => vStep.imp h fun _ h => joinO.imp (fun _ h => vOps.imp hk h) h

theorem allR.imp {F F' : Nat → Prop} (hf : ∀ i, F i → F' i) : ∀ {l : List Nat}, allR F l → allR F' l
  | [], _ => trivial
  | [_], h => hf _ h
  | _ :: _ :: _, h => ⟨hf _ h.1, allR.imp hf h.2⟩

theorem vStepT.imp {pr : List Nat} {n0 lvl : Nat} {ops : Array Oper} {o : Oper} {s : VS} {k k' : VS → Prop} (h : vStepT P pr n0 lvl ops o s k) (hk : ∀ s, k s → k' s) : vStepT P pr n0 lvl ops o s k' := by
  have yes : ∀ s, (match tkLvl n0 s o.op with | some l => (match Nat.beq l lvl with | true => vOp P pr o s fun av s' => k (s'.put o.dst av) | false => False) | none => False) → (match tkLvl n0 s o.op with | some l => (match Nat.beq l lvl with | true => vOp P pr o s fun av s' => k' (s'.put o.dst av) | false => False) | none => False) := fun s h => by
    split at h
    · split at h
      · exact vOp.imp h fun _ _ h => hk _ h
      · exact h.elim
    · exact h.elim
  unfold vStepT at *
  split at h
  · exact yes _ h
  · split at h
    · exact hk _ h
    · split at h <;> (first | exact h.elim | exact hk _ h | skip)
      refine h.imp (fun h => ?_) (fun h => ?_)
      · split at h
        · exact yes _ h
        · exact hk _ h
      · split at h
        · exact yes _ h
        · exact hk _ h
theorem vPl.imp {pr : List Nat} {n0 : Nat} {ops : Array Oper} {K K' : VS → Prop} (hk : ∀ s, K s → K' s) : ∀ {p : Pl} {s : VS}, vPl P pr n0 ops K p s → vPl P pr n0 ops K' p s
  | .fin, s, h => hk _ h
  | .no, _, _ => trivial
  | .tk i lvl r, s, h => by
    unfold vPl at *
    split at h
    · exact vStepT.imp h fun _ h => vPl.imp hk h
    · exact h.elim
  | .alt i r q, s, h => by
    have one : (match ops[i]? with | some o => vStep P pr ops o s (vPl P pr n0 ops K r) | none => False) → (match ops[i]? with | some o => vStep P pr ops o s (vPl P pr n0 ops K' r) | none => False) := fun h => by
      split at h
      · exact vStep.imp h fun _ h => vPl.imp hk h
      · exact h.elim
    cases q with
    | no => exact one h
    | fin => exact ⟨one h.1, vPl.imp hk h.2⟩
    | tk _ _ _ => exact ⟨one h.1, vPl.imp hk h.2⟩
    | alt _ _ _ => exact ⟨one h.1, vPl.imp hk h.2⟩
theorem vDraw.imp {pr : List Nat} {n0 : Nat} {ops : Array Oper} {K K' : VS → Prop} (hk : ∀ s, K s → K' s) : ∀ {fuel : Nat} {listed : Array Bool} {s : VS}, vDraw P pr n0 ops K fuel listed s → vDraw P pr n0 ops K' fuel listed s
  | 0, listed, s, h => by
    unfold vDraw at *
    split at h
    · exact hk _ h
    · exact h.elim
  | fuel + 1, listed, s, h => by
    unfold vDraw at *
    split at h
    · exact hk _ h
    · split at h
      · split at h
        · exact vStep.imp h fun _ h => vDraw.imp hk h
        · exact h.elim
      · refine allR.imp (fun i h => ?_) h
        split at h
        · exact vStep.imp h fun _ h => vDraw.imp hk h
        · exact h.elim

theorem vCode.imp {cf : Cfg} : ∀ {c : Code} {K K' : Exit → VS → Prop} {s : VS}, (∀ e t, K e t → K' e t) → vCode P cf J0 c K s → vCode P cf J0 c K' s := by
  intro c
  induction c with
  | skip => intro K K' s hk h; exact hk _ _ h
  | label => intro K K' s hk h; exact hk _ _ h
  | region id ops draw =>
    intro K K' s hk h
    unfold vCode at h ⊢
    split at h
    · exact vOps.imp (hk _) h
    · split at h
      · split at h
        · split at h
          · exact vPl.imp (hk _) h
          · exact h.elim
        · exact vDraw.imp (hk _) h
      · exact h.elim
  | seq a b iha ihb =>
    intro K K' s hk h
    unfold vCode at h ⊢
    refine iha (fun e t ht => ?_) h
    cases e with
    | normal => exact joinJ.imp (fun _ h => ihb hk h) ht
    | _ => exact hk _ _ ht
  | cond c a b iha ihb =>
    intro K K' s hk h
    unfold vCode at h ⊢
    split at h
    · exact h.imp (iha hk) (ihb hk)
    · exact h.elim
  | block id c ih =>
    intro K K' s hk h
    unfold vCode at h ⊢
    refine ih (fun e t ht => ?_) h
    cases e with
    | exit id' =>
      dsimp only at ht ⊢
      split at ht
      · exact hk _ _ ht
      · exact hk _ _ ht
    | _ => exact hk _ _ ht
  | loop c ih =>
    intro K K' s hk h I hI
    refine h I fun s' hb => hI s' (ih (fun e t ht => ?_) hb)
    cases e with
    | normal => exact ht
    | _ => exact hk _ _ ht
  | exit id => intro K K' s hk h; exact hk _ _ h
  | ret => intro K K' s hk h; exact hk _ _ h
  | rangeFunc g ps asg body _ _ =>
    intro K K' s hk h
    unfold vCode at h ⊢
    split at h <;> (first | exact h.elim | skip)
    exact fun fn tm ht => vRg.imp (h fn tm ht) fun H' ⟨st, pd, h1, h2, h3⟩ => ⟨st, pd, h1, h2, fun H3 e => (h3 H3 e).imp fun e => hk _ _⟩
  | _ => intro K K' s hk h; exact h.elim

theorem vLoop.mk {cf : Cfg} {c : Code} {lv : List Nat} {n : Nat} {K : Exit → VS → Prop} {s : VS} (h : vCode P cf J0 c (fun e t => match e with | .normal => vLoop (vCode P cf J0 c) lv n K (t.keep lv n) | e => K e t) s) : vLoop (vCode P cf J0 c) lv n K s :=
  vLoop.unfold (fun _ _ _ hk hb => vCode.imp hk hb) h

/-! ### vCode is enough -/
/-- A loop, from within. -/
def InWp (rd : Option Nat) (P : Program) (c : Code) (Q : Exit → Act → World → Prop) (a : Act) (w : World) : Prop :=
  ∀ (b : Frame) (k : List Item) (cs : List Frame), b.roundOf = (FW rd).round → ∃ e a' w', Q e a' w' ∧ ArrivesIn (Machine.fenced P (FW rd)) P (lone (b.atR a (.code c :: .inLoop c :: k)) cs w) b k cs e a' w'

theorem InWp.round {rd : Option Nat} {c : Code} {Q : Exit → Act → World → Prop} {a : Act} {w : World} (h : c.wpIn (FW rd) 0 P (Exit.then (InWp rd P c Q) Q) a w) : InWp rd P c Q a w := by
  intro b k cs hro
  obtain ⟨e, a₁, w₁, hq, harr⟩ := h b (.inLoop c :: k) cs hro trivial (FW.room _ _)
  cases e with
  | normal =>
    obtain ⟨e₂, a₂, w₂, hq₂, harr₂⟩ := hq b k cs hro
    exact ⟨e₂, a₂, w₂, hq₂, .of_steps (StepsIn.trans harr (.one (fenced_calm (n := 0) trivial (FW.room _ _) rfl) stepR_inLoop)) harr₂⟩
  | exit id => exact ⟨_, a₁, w₁, hq, .pass (x := .inLoop c) rfl (fun _ _ => .inl (by simp)) harr⟩
  | goto l => exact ⟨_, a₁, w₁, hq, .pass (x := .inLoop c) rfl (fun _ _ => .inl (by simp)) harr⟩
  | ret => exact ⟨_, a₁, w₁, hq, .pass (x := .inLoop c) rfl (fun _ _ => .inl (by simp)) harr⟩
  | panic ch => exact ⟨_, a₁, w₁, hq, .pass (x := .inLoop c) rfl (fun _ _ => .inl (by simp)) harr⟩
  | outgrown => exact ⟨_, a₁, w₁, hq, .pass (x := .inLoop c) rfl (fun _ _ => .inl (by simp)) harr⟩

theorem InWp.loop {rd : Option Nat} {c : Code} {Q : Exit → Act → World → Prop} {a : Act} {w : World} (h : InWp rd P c Q a w) : (Code.loop c).wpIn (FW rd) 0 P Q a w := fun b k cs hro _ _ =>
  let ⟨e, a', w', hq, harr⟩ := h b k cs hro
  ⟨e, a', w', hq, .of_steps (.one (fenced_calm (n := 0) trivial (FW.room _ _) rfl) stepR_loop) harr⟩

theorem recO_hole {fn : FuncId} {tm : Array Value} {ps : Array Tmp} {asg body : Code} {d : Nat} {st : LoopState} {pd : Option Code} : recO fn tm ps asg body d st pd ≠ hole := by simp [recO, hole]

/-- What the walk asks of the code is enough. -/
theorem vCode_run (hm : P.follows .mixedOrders = true) (rd : Option Nat) {cf : Cfg} (hrf : cf.rf = true → rd = none) : ∀ {c : Code} {K : Exit → VS → Prop} {Q : Exit → Act → World → Prop} {s : VS} {a : Act} {w : World}, (∀ e s a w, K e s → Rel M0 w0 s a w → Q e a w) →
    Rel M0 w0 s a w → vCode P cf J0 c K s → c.wpIn (FW rd) 0 P Q a w := by
  intro c
  induction c with
  | skip => intro K Q s a w hQ hr h; exact wpIn_skip (hQ _ _ _ _ h hr)
  | label => intro K Q s a w hQ hr h; exact wpIn_label (hQ _ _ _ _ h hr)
  | region id ops draw =>
    intro K Q s a w hQ hr h
    unfold vCode at h
    split at h
    · have h1 := vOps_run rd (Q := Q) (fun s a w hk hR => hQ _ s a w hk hR) ops.toList s a w hr h
      refine wpIn_region ?_
      have := wpListR_ops (P := P) (ops := ops) (Q := Q) rd ops.toList 0 (fun j => by simp) a w h1
      rw [Array.length_toList] at this
      rw [List.range_eq_range']
      exact this
    · split at h
      · rename_i hs
        split at h
        · split at h
          · rename_i ho
            rw [Bool.and_eq_true] at ho
            exact vPl_region rd hm hs hr (fun s a w hk hR => hQ _ s a w hk hR) ho.1 ho.2 h
          · exact h.elim
        · exact vDraw_region rd hm hs hr (fun s a w hk hR => hQ _ s a w hk hR) h
      · exact h.elim
  | seq x y ihx ihy =>
    intro K Q s a w hQ hr h
    unfold vCode at h
    refine wpIn_seq (ihx (K := _) (fun e s a w hk hR => ?_) hr h)
    cases e with
    | normal =>
      obtain ⟨s2, hk2, hR2⟩ := joinJ_run hR hk
      exact ihy hQ hR2 hk2
    | _ => exact hQ _ _ _ _ hk hR
  | cond c x y ihx ihy =>
    intro K Q s a w hQ hr h
    unfold vCode at h
    split at h <;> (first | exact h.elim | skip)
    rename_i t hc
    obtain ⟨bs, M, hb⟩ := hr
    have hev := hb.ev c
    rw [hc] at hev
    cases t with
    | true => exact wpIn_cond_true hev (ihx hQ ⟨bs, M, hb⟩ h)
    | false => exact wpIn_cond_false hev (ihy hQ ⟨bs, M, hb⟩ h)
  | block id c ih =>
    intro K Q s a w hQ hr h
    unfold vCode at h
    refine wpIn_block (ih (fun e s a w hk hR => ?_) hr h)
    cases e with
    | exit id' =>
      dsimp only at hk
      simp only [Exit.inBlock]
      split at hk
      · rename_i he; rw [if_pos (Nat.eq_of_beq_eq_true he)]; exact hQ _ _ _ _ hk hR
      · rename_i he; rw [if_neg (Nat.ne_of_beq_eq_false he)]; exact hQ _ _ _ _ hk hR
    | _ => exact hQ _ _ _ _ hk hR
  | loop c ih =>
    intro K Q s a w hQ hr h
    unfold vCode at h
    have keep : ∀ {s : VS} {a : Act} {w : World} (lv : List Nat) (n : Nat), Rel M0 w0 s a w → Rel M0 w0 (s.keep lv n) a w := fun lv n ⟨bs, M, hR⟩ => ⟨_, M, hR.keep lv n⟩
    refine InWp.loop (h (fun s => ∀ a w, Rel M0 w0 s a w → InWp rd P c Q a w) (fun s' hb a w hR => InWp.round (ih (fun e s a w hk hR => ?_) hR hb)) a w (keep _ _ hr))
    cases e with
    | normal => exact hk a w (keep _ _ hR)
    | _ => exact hQ _ _ _ _ hk hR
  | exit id => intro K Q s a w hQ hr h; exact wpIn_exit (hQ _ _ _ _ h hr)
  | ret => intro K Q s a w hQ hr h; exact wpIn_ret (hQ _ _ _ _ h hr)
  | rangeFunc g ps asg body _ _ =>
    intro K Q s a w hQ hr h
    unfold vCode at h
    split at h <;> (first | exact h.elim | skip)
    rename_i fv hrf' hfv
    obtain rfl := hrf hrf'
    obtain ⟨bs, M, hr⟩ := hr
    have hev := hr.ev g
    rw [hfv] at hev
    refine wpIn_rangeFunc fun fn _ => ?_
    have hT : TmOf (keepFr (lvOf cf.lv (firstR body + 1000000)) 0 0 s.fr) a.tmps := by
      refine ⟨by rw [keepFr_length]; exact hr.sz, fun t x hx => ?_⟩
      obtain ⟨y, hy, hx'⟩ := keepFr_get _ _ _ _ _ _ hx
      rcases hx' with e | ⟨e, _⟩
      · cases e
      · subst e
        obtain ⟨v, hv, hc⟩ := hr.tm t _ hy
        rw [show v = x from hc] at hv; exact hv
    have h1 := h fn a.tmps hT
    unfold vRg at h1
    split at h1 <;> (first | exact h1.elim | skip)
    rename_i f fi ca
    split at h1 <;> (first | exact h1.elim | skip)
    rename_i hgo
    have hsz := hr.hd.size
    have R1 := (hr.pushMark).push (recO fn a.tmps ps asg body s.H.size .ready none) w.drawn
    rw [show recO fn a.tmps ps asg body s.H.size .ready none = recO fn a.tmps ps asg body w.heap.size .ready none by rw [hsz]] at R1 h1
    rw [show (s.H.push hole).push (recO fn a.tmps ps asg body w.heap.size .ready none) = ((s.H.push hole).push (recO fn a.tmps ps asg body w.heap.size .ready none)) from rfl] at h1
    obtain ⟨W1, hW1⟩ : ∃ W1, W1 = (w.alloc (.deferred (some []))).alloc (recO fn a.tmps ps asg body w.heap.size .ready none) := ⟨_, rfl⟩
    refine ⟨w.heap.size + 1, [markOf w.heap.size], W1, ⟨.fn (.func f) ca, fi ++ #[.func (.yield (w.heap.size + 1)) #[] #[]]⟩, W1, f, fi ++ #[.func (.yield (w.heap.size + 1)) #[] #[]] ++ ca, W1,
      hW1 ▸ run_enterLoop_outer fn a.tmps ps asg body, ?_, fun _ _ => trivial, ?_, wideN, ?_⟩
    · have hev' : a.eval g = .func (.func f) fi ca := hev
      show (Deferred.ofValue (a.eval g) ((#[.const (.func (.yield (w.heap.size + 1)) #[] #[])] : Array Operand).map a.eval)).run P _ = _
      rw [hev']
      simp only [Deferred.ofValue, List.map_toArray, List.map_cons, List.map_nil, Act.eval, Sem.run_pure]
    · simp only [invoke]
      exact fn_run hgo _ _
    · subst hW1
      have h2 := h1 _ _ R1.hd
      rw [hsz] at h2
      have ha : (fi.toList ++ [Value.func (.yield (w.heap.size + 1)) #[] #[]] ++ ca.toList).toArray = fi ++ #[.func (.yield (w.heap.size + 1)) #[] #[]] ++ ca := by apply Array.ext'; simp
      rw [ha] at h2
      refine (callsIn_wide.2 h2).mono ?_
      rintro e w3 ⟨r, H', M', rfl, haf, hmo, hh, st, pd, hrec, hst, hj0⟩
      have hj := hj0 _ rfl
      have R2 := R1.call haf hmo hh
      obtain ⟨hnm, hw3⟩ := hh.of_some hrec recO_hole
      refine ⟨pd, _, run_endLoop hw3 hst, ?_⟩
      have R3 := R2.setObj (recO fn a.tmps ps asg body w.heap.size .exhausted pd) hnm
      obtain ⟨j1, j2, j3, j4⟩ := hj
      have R3' : ∀ e, K e { s with H := H'.setIfInBounds (w.heap.size + 1) (recO fn a.tmps ps asg body w.heap.size .exhausted pd) } → Q e { a with defers := [markOf w.heap.size] ++ a.defers } _ := fun e hk => hQ e _ _ _ hk ⟨_, _, R3⟩
      rcases j4 with e | e | ⟨i, hi, e⟩
      · subst e; exact R3' _ (j1 rfl)
      · subst e; exact wpIn_ret (R3' _ (j2 rfl))
      · subst e; exact wpIn_exit (R3' _ (jumpsE.get j3 i hi rfl))
  | _ => intro K Q s a w hQ hr h; exact h.elim

/-- The values of a call's results. -/
def vRes (P : Program) (s : VS) : List ResultVar → (List Value → Prop) → Prop
  | [], K => K []
  | .tmp t :: r, K => (match s.ev (.tmp t) with | .v x => vRes P s r fun vs => K (x :: vs) | _ => False)
  | .cell a t :: r, K =>
    match s.ev (.tmp a) with
    | .loc i off => (match s.ls[i]?, P.info? t with
      | some (_, cs), some ti => (match Nat.ble (off + ti.size) cs.length with | true => vPart P t cs off fun v => vRes P s r fun vs => K (v :: vs) | false => False)
      | _, _ => False)
    | .v (.pointer (some ad)) => vLoad P t ad s.H fun v => vRes P s r fun vs => K (v :: vs)
    | _ => False

def oneOr : List Value → Value
  | [v] => v
  | vs => .tuple vs.toArray

/-- What is asked where a function ends. -/
def topK (P : Program) (rs : List ResultVar) (Q : Value → Hp → Prop) (e : Exit) (s : VS) : Prop :=
  match e with
  | .normal | .ret => vRes P s rs fun vs => Q (oneOr vs) s.H
  | _ => False

/-- What the walk of a function asks. -/
def vFn (P : Program) (cf : Cfg) (J : Jn) (fn : Func) (args : List Value) (H : Hp) (Q : Value → Hp → Prop) : Prop :=
  match fn.body with
  | some c => vCode P cf J c (topK P fn.results.toList Q) { fr := args.map AV.v ++ List.replicate (fn.ntmps - args.length) (.v undef), ls := [], H := H }
  | none => False

/-- The part of a code at a place. -/
def sub : Code → List Nat → Code
  | c, [] => c
  | .seq a b, i :: p => (match i with | 0 => sub a p | _ => sub b p)
  | .cond _ a b, i :: p => (match i with | 0 => sub a p | _ => sub b p)
  | .block _ c, _ :: p => sub c p
  | .loop c, _ :: p => sub c p
  | _, _ => .skip

/-- What follows a part of a code. n: how many own variables there are at each loop on the way. -/
def contK (P : Program) (cf : Cfg) (J : Jn) : Code → List Nat → List Nat → (Exit → VS → Prop) → (Exit → VS → Prop)
  | _, [], _, K => K
  | .seq a b, i :: p, n :: ns, K => (match i with
    | 0 => contK P cf J a p ns (fun e t => match e with | .normal => joinJ J (vCode P cf J b K) (firstR b) n t cf.jn | e => K e t)
    | _ => contK P cf J b p ns K)
  | .cond _ a b, i :: p, ns, K => (match i with | 0 => contK P cf J a p ns K | _ => contK P cf J b p ns K)
  | .block id c, _ :: p, ns, K => contK P cf J c p ns (fun e t => match e with | .exit id' => (match Nat.beq id' id with | true => K .normal t | false => K (.exit id') t) | e => K e t)
  | .loop c, _ :: p, n :: ns, K => contK P cf J c p ns (fun e t => match e with | .normal => vLoop (vCode P cf J c) (lvOf cf.lv (firstR c)) n K (t.keep (lvOf cf.lv (firstR c)) n) | e => K e t)
  | _, _, _, K => K

/-- A loop of a function, from a state at its head. -/
def vAt (P : Program) (cf : Cfg) (J : Jn) (fn : Func) (path ns : List Nat) (Q : Value → Hp → Prop) (s : VS) : Prop :=
  match fn.body with
  | some c => vLoop (vCode P cf J (sub c (path ++ [0]))) (lvOf cf.lv (firstR (sub c (path ++ [0])))) s.ls.length (contK P cf J c path ns (topK P fn.results.toList Q)) s
  | none => False

/-- The rest of a function, from a place where ways meet. -/
def vSeg (P : Program) (cf : Cfg) (J : Jn) (fn : Func) (path ns : List Nat) (Q : Value → Hp → Prop) (s : VS) : Prop :=
  match fn.body with
  | some c => vCode P cf J (sub c path) (contK P cf J c path ns (topK P fn.results.toList Q)) s
  | none => False

/-- The rest of a function, from behind an operation. -/
def vMid (P : Program) (cf : Cfg) (J : Jn) (fn : Func) (path ns : List Nat) (i : Nat) (Q : Value → Hp → Prop) (s : VS) : Prop :=
  match fn.body with
  | some c => (match sub c path with | .region _ ops _ => vOps P cf J ops (contK P cf J c path ns (topK P fn.results.toList Q) .normal) (ops.toList.drop i) s | _ => False)
  | none => False

theorem J0_mk (k : VS → Prop) (s : VS) (h : k s) : J0 k s := h

theorem step_of (k : VS → Prop) (s : VS) {B C : Prop} (e : k s = B) (e2 : J0 k s = C) (h : B) : C := cast e2 (cast e.symm h)

/-- One round of it. -/
def vAtBody (P : Program) (cf : Cfg) (J : Jn) (fn : Func) (path ns : List Nat) (Q : Value → Hp → Prop) (s : VS) : Prop :=
  match fn.body with
  | some c => vCode P cf J (sub c (path ++ [0])) (fun e t => match e with
      | .normal => vLoop (vCode P cf J (sub c (path ++ [0]))) (lvOf cf.lv (firstR (sub c (path ++ [0])))) s.ls.length (contK P cf J c path ns (topK P fn.results.toList Q)) (t.keep (lvOf cf.lv (firstR (sub c (path ++ [0])))) s.ls.length)
      | e => contK P cf J c path ns (topK P fn.results.toList Q) e t) s
  | none => False

theorem vAt_stepC {cf : Cfg} {fn : Func} {path ns : List Nat} {Q : Value → Hp → Prop} (s : VS) {X C : Prop} (e : vAtBody P cf J0 fn path ns Q s = X) (e2 : vAt P cf J0 fn path ns Q s = C) (h : X) : C :=
  cast e2 (by
  subst e
  unfold vAtBody at h
  unfold vAt
  cases hb : fn.body with
  | none => rw [hb] at h; exact h
  | some c => rw [hb] at h; exact vLoop.mk h)

theorem vAt_step {cf : Cfg} {fn : Func} {path ns : List Nat} {Q : Value → Hp → Prop} {s : VS} {X : Prop} (e : vAtBody P cf J0 fn path ns Q s = X) (h : X) : vAt P cf J0 fn path ns Q s := by
  subst e
  unfold vAtBody at h
  unfold vAt
  cases hb : fn.body with
  | none => rw [hb] at h; exact h
  | some c => rw [hb] at h; exact vLoop.mk h

def resSem (tmps : Array Value) : ResultVar → Sem Value
  | .tmp t => Pure.pure (tmps.getD t undef)
  | .cell c t => do loadVar t (← asAddr (tmps.getD c undef))

theorem vRes_run {s : VS} {a : Act} {w : World} {bs : List Nat} {M : Nat → Prop} (hr : RelB M0 w0 bs M s a w) : ∀ (l : List ResultVar) (K : List Value → Prop), vRes P s l K →
    ∃ vs, K vs ∧ (l.mapM (resSem a.tmps) : Sem (List Value)).run P w = .ok vs w
  | [], K, h => ⟨[], h, by simp⟩
  | .tmp t :: r, K, h => by
    unfold vRes at h
    split at h <;> (first | exact h.elim | skip)
    rename_i x hx
    have hev := hr.ev (.tmp t)
    rw [hx] at hev
    obtain ⟨vs, hk, hrun⟩ := vRes_run hr r _ h
    have hev' : a.tmps.getD t undef = x := hev
    exact ⟨x :: vs, hk, by rw [List.mapM_cons]; simp only [Sem.run_bind, resSem, hev', Sem.run_pure, Result.andThen_ok]; rw [hrun]; rfl⟩
  | .cell c t :: r, K, h => by
    unfold vRes at h
    split at h <;> (first | exact h.elim | skip)
    all_goals (rename_i hx; have hev := hr.ev (.tmp c); rw [hx] at hev)
    · rename_i i off
      obtain ⟨b, hb, hp⟩ := hev
      split at h <;> (first | exact h.elim | skip)
      rename_i e cs ti hcs hti
      split at h <;> (first | exact h.elim | skip)
      rename_i hle
      obtain ⟨q1, q2, q3⟩ := hr.lc i b _ hb hcs
      have h' : vPart P t (cs.toArray).toList off fun v => vRes P s r fun vs => K (v :: vs) := by simpa using h
      obtain ⟨v, hk, hpv⟩ := vPart_part h'
      obtain ⟨vs, hk, hrun⟩ := vRes_run hr r _ hk
      have hl := loadVar_part (P := P) (w := w) q3 hti (Nat.le_of_ble_eq_true hle) hpv
      have hp' : a.tmps.getD c undef = .pointer (some ⟨b, off, none⟩) := hp
      have hA : (asAddr (a.tmps.getD c undef)).run P w = .ok ⟨b, off, none⟩ w := by rw [hp']; rfl
      exact ⟨v :: vs, hk, by rw [List.mapM_cons]; simp only [Sem.run_bind, resSem, hA, Result.andThen_ok, hl]; rw [hrun]; rfl⟩
    · rename_i ad
      obtain ⟨v, hk, hld⟩ := vLoad_run (M := M) h
      obtain ⟨vs, hk, hrun⟩ := vRes_run hr r _ hk
      have hl := hld w fun b v hc => (hr.hd.cell hc).2
      have hl' : (loadVar t ad).run P w = .ok v w := by simpa [Instr.loadAt, Instr.sureAddr] using hl
      have hp' : a.tmps.getD c undef = .pointer (some ad) := hev
      have hA : (asAddr (a.tmps.getD c undef)).run P w = .ok ad w := by rw [hp']; rfl
      exact ⟨v :: vs, hk, by rw [List.mapM_cons]; simp only [Sem.run_bind, resSem, hA, Result.andThen_ok, hl']; rw [hrun]; rfl⟩

theorem leaves_marks {fn : Func} {R : Ending → World → Prop} : ∀ (mk : List Nat) {bs : List Nat} {M : Nat → Prop} {s : VS} {a : Act} {w : World}, RelB M0 w0 bs M s a w → a.defers = mk.map markOf → mk.Nodup →
    (∀ q ∈ mk, M q ∧ w0.heap.size ≤ q ∧ w.heap[q]? = some (.deferred (some []))) →
    (∀ a' w', a'.tmps = a.tmps → RelB M0 w0 bs M s a' w' → ∃ v, (results fn a.tmps).run P w' = .ok v w' ∧ R (.returned v) w') →
    LeavesInM Fence.wide 0 P fn a.tmps R (mk.map markOf) .returning w
  | [], bs, M, s, a, w, hr, _, _, _, hf => hf a w rfl hr
  | r :: mk, bs, M, s, a, w, hr, hd, hn, hk, hf => by
    obtain ⟨R1, rest⟩ := hr.takeMark hd hn hk
    refine ⟨by simp, Or.inl ⟨r, _, rfl, run_takeDeferred (hk r (by simp)).2.2, ?_⟩⟩
    exact leaves_marks (a := { a with defers := mk.map markOf }) mk R1 rfl (List.nodup_cons.1 hn).2 rest fun a' w' e h' => hf a' w' e h'

theorem vFn_calls {cf : Cfg} {f : FuncId} {fn : Func} {args : List Value} {H : Hp} {Q : Value → Hp → Prop} (hm : P.follows .mixedOrders = true) (hf : P.funcs[f]? = some fn) (h : vFn P cf J0 fn args H Q) : SCalls P f args H Q := by
  intro M w hh
  unfold vFn at h
  split at h <;> (first | exact h.elim | skip)
  rename_i c hb
  refine callsIn_wide.1 (callsIn_of_wp_marks (n := 0) hf hb trivial (vCode_run (M0 := M) (w0 := w) hm none (fun _ => rfl) ?_ ⟨[], M, by simpa using RelB.start (args := args) (n := fn.ntmps) hh⟩ h))
  intro e s a w' hk hr
  obtain ⟨bs, M', hr⟩ := hr
  have fin : (vRes P s fn.results.toList fun vs => Q (oneOr vs) s.H) → LeavesInM Fence.wide 0 P fn a.tmps (fun e w'' => ∃ r H' M', e = .returned r ∧ Aft M w w'' ∧ (∀ b, b < w.heap.size → (M' b ↔ M b)) ∧ Hides M' w''.heap H' ∧ Q r H') a.defers .returning w' := fun hk => by
    obtain ⟨mk, hd, hn, hm'⟩ := hr.df
    rw [hd]
    refine leaves_marks mk hr hd hn hm' fun a' w'' et hr' => ?_
    obtain ⟨vs, hq, hrun⟩ := vRes_run hr' _ _ hk
    rw [et] at hrun
    refine ⟨oneOr vs, ?_, _, _, M', rfl, hr'.aft, hr'.mo, hr'.hd, hq⟩
    have hres : results fn a.tmps = (do
        let vs ← fn.results.mapM (resSem a.tmps)
        Pure.pure (if h : vs.size = 1 then vs[0] else .tuple vs) : Sem Value) := by
      unfold results
      congr
    rw [hres, Array.mapM_eq_mapM_toList]
    simp only [Sem.run_bind, Sem.run_map, hrun, Result.andThen_ok, Sem.run_pure]
    congr 1
    match vs with
    | [] => rfl
    | [v] => rfl
    | v :: v' :: r => rfl
  cases e with
  | normal => exact fin hk
  | ret => exact fin hk
  | _ => exact hk.elim

theorem vFn_of {cf : Cfg} {f : FuncId} {fn : Func} {args : List Value} {H : Hp} {Q : Value → Hp → Prop} {X : Prop} (hm : P.follows .mixedOrders = true) (hf : P.funcs[f]? = some fn) (e : vFn P cf J0 fn args H Q = X) (h : X) : SCalls P f args H Q :=
  vFn_calls hm hf (e ▸ h)

/-! ### A round -/
def setFr : List AV → List Tmp → List Value → List AV
  | fr, t :: ts, v :: vs => setFr (fr.set t (.v v)) ts vs
  | fr, _, _ => fr

theorem TmOf.set {fr : List AV} : ∀ {ts : List Tmp} {vs : List Value} {fr : List AV} {tm : Array Value}, TmOf fr tm → TmOf (setFr fr ts vs) ((ts.zip vs).foldl (fun tm (x : Tmp × Value) => tm.setIfInBounds x.1 x.2) tm)
  | [], _, fr, tm, h => by cases ‹List Value› <;> exact h
  | _ :: _, [], fr, tm, h => h
  | t :: ts, v :: vs, fr, tm, h => by
    refine TmOf.set (fr := fr) (ts := ts) (vs := vs) ⟨by simp [h.1], fun u x hx => ?_⟩
    rw [List.getElem?_set] at hx
    rw [Array.getElem?_setIfInBounds]
    split at hx
    · rename_i e
      split at hx
      · cases hx; rename_i hlt; rw [if_pos e, if_pos (by rw [h.1]; exact hlt)]
      · cases hx
    · rename_i e; rw [if_neg e]; exact h.2 u x hx

/-- What is asked at a round's end. rec: the loop's record. -/
def roundK (l : Nat) (rec : LoopState → Option Code → Obj) (Q : Value → Hp → Prop) (e : Exit) (t : VS) : Prop :=
  match e with
  | .normal => (∃ st pd, t.H[l]? = some (rec st pd)) ∧ Q (.bool true) (t.H.setIfInBounds l (rec .ready none))
  | .ret => (∃ st pd, t.H[l]? = some (rec st pd)) ∧ Q (.bool false) (t.H.setIfInBounds l (rec .done (some .ret)))
  | .exit i => (∃ st pd, t.H[l]? = some (rec st pd)) ∧ Q (.bool false) (t.H.setIfInBounds l (rec .done (some (.exit i))))
  | _ => False

def noLoc : AV → AV
  | .v x => .v x
  | _ => .any

/-- What a round asks. -/
def vRound (P : Program) (cf : Cfg) (J : Jn) (asg body : Code) (fr : List AV) (l : Nat) (rec : LoopState → Option Code → Obj) (H : Hp) (Q : Value → Hp → Prop) : Prop :=
  vCode P cf J asg (fun e t => match e with
    | .normal => t.H[l]? = some (rec .ready none) ∧ ∀ H1 : Hp, H1 = t.H.setIfInBounds l (rec .busy none) → vCode P cf J body (roundK l rec Q) { t with H := H1 }
    | _ => False) { fr := fr.map noLoc, ls := [], H := H }

theorem vRound_calls (hm : P.follows .mixedOrders = true) {cf : Cfg} (hrf : cf.rf = false) {fn : FuncId} {tm : Array Value} {ps : Array Tmp} {asg body : Code} {d : Nat} {fr : List AV} {args : List Value} {l : Nat} {H : Hp} {Q : Value → Hp → Prop}
    (hl : H[l]? = some (recO fn tm ps asg body d .ready none)) (hps : args.length = ps.size) (hT : TmOf fr tm) (h : vRound P cf J0 asg body (setFr fr ps.toList args) l (recO fn tm ps asg body d) H Q) : YCalls P l args H Q := by
  intro M w hh
  obtain ⟨hnm, hw⟩ := hh.of_some hl recO_hole
  refine ⟨_, _, _, _, run_yield hw (by simpa using hps), ?_⟩
  refine roundIn_of_wpIn (F := Fence.wide) (n := 0) (R := fun e w' => ∃ r H' M', e = .returned r ∧ Aft M w w' ∧ (∀ b, b < w.heap.size → (M' b ↔ M b)) ∧ Hides M' w'.heap H' ∧ Q r H') trivial ?_
  have hfold : (ps.zip args.toArray).foldl (fun tmps (x : Tmp × Value) => tmps.setIfInBounds x.1 x.2) tm = (ps.toList.zip args).foldl (fun tmps (x : Tmp × Value) => tmps.setIfInBounds x.1 x.2) tm := by
    rw [← Array.foldl_toList]; simp
  show asg.wpIn (FW (some l)) 0 P _ { tmps := (ps.zip args.toArray).foldl (fun tmps (x : Tmp × Value) => tmps.setIfInBounds x.1 x.2) tm, defers := [] } w
  rw [hfold]
  have hT' := TmOf.set (fr := fr) (ts := ps.toList) (vs := args) hT
  generalize (ps.toList.zip args).foldl (fun tmps (x : Tmp × Value) => tmps.setIfInBounds x.1 x.2) tm = tm' at *
  generalize setFr fr ps.toList args = fr' at *
  have R0 : RelB M w [] M { fr := fr'.map noLoc, ls := [], H := H } { tmps := tm', defers := [] } w := by
    refine ⟨hh.lt, by simp [hT'.1], fun t x hx => ?_, ⟨[], rfl, List.nodup_nil, fun r hr => by simp at hr⟩, .refl _ _, fun _ _ => Iff.rfl, hh, rfl, fun i b p hb => by simp at hb, fun i j b hb => by simp at hb⟩
    dsimp only at hx
    rw [List.getElem?_map] at hx
    have hlt : t < fr'.length := by
      cases hf : fr'[t]? with
      | none => rw [hf] at hx; cases hx
      | some y => exact (List.getElem?_eq_some_iff.1 hf).1
    have htm : t < tm'.size := by rw [hT'.1]; exact hlt
    refine ⟨tm'[t], Array.getElem?_eq_getElem htm, ?_⟩
    cases hf : fr'[t]? with
    | none => rw [hf] at hx; cases hx
    | some y =>
      rw [hf] at hx
      cases hx
      cases y with
      | v z => have := hT'.2 t z hf; rw [Array.getElem?_eq_getElem htm] at this; exact Option.some.inj this
      | _ => trivial
  refine vCode_run (M0 := M) (w0 := w) hm (some l) (cf := cf) (fun e => by rw [hrf] at e; cases e) (fun e s a w1 hk hr => ?_) ⟨[], M, R0⟩ h
  obtain ⟨bs1, M1, hr⟩ := hr
  cases e with
  | normal =>
    obtain ⟨hrec, hb⟩ := hk
    obtain ⟨hn1, hw1⟩ := hr.hd.of_some hrec recO_hole
    refine ⟨_, run_beginRound hw1 rfl, vCode_run hm (some l) (cf := cf) (fun e => by rw [hrf] at e; cases e) (fun e s a w2 hk hr2 => ?_) ⟨bs1, M1, hr.setObj (recO fn tm ps asg body d .busy none) hn1⟩ (hb _ rfl)⟩
    obtain ⟨bs2, M2, hr2⟩ := hr2
    cases e with
    | normal =>
      obtain ⟨⟨st, pd, hrec⟩, hq⟩ := hk
      obtain ⟨hn2, hw2⟩ := hr2.hd.of_some hrec recO_hole
      have R3 := hr2.setObj (recO fn tm ps asg body d .ready none) hn2
      exact ⟨_, _, run_endRound none hw2, _, _, M2, rfl, R3.aft, R3.mo, R3.hd, hq⟩
    | ret =>
      obtain ⟨⟨st, pd, hrec⟩, hq⟩ := hk
      obtain ⟨hn2, hw2⟩ := hr2.hd.of_some hrec recO_hole
      have R3 := hr2.setObj (recO fn tm ps asg body d .done (some .ret)) hn2
      exact ⟨_, _, run_endRound (some .ret) hw2, _, _, M2, rfl, R3.aft, R3.mo, R3.hd, hq⟩
    | exit i =>
      obtain ⟨⟨st, pd, hrec⟩, hq⟩ := hk
      obtain ⟨hn2, hw2⟩ := hr2.hd.of_some hrec recO_hole
      have R3 := hr2.setObj (recO fn tm ps asg body d .done (some (.exit i))) hn2
      exact ⟨_, _, run_endRound (some (.exit i)) hw2, _, _, M2, rfl, R3.aft, R3.mo, R3.hd, hq⟩
    | _ => exact hk.elim
  | _ => exact hk.elim

/-! ### The same of a code that is no function's -/
def bodyOf (fn : Func) : Code := match fn.body with | some c => c | none => .skip
def rgA : Code → Code
  | .rangeFunc _ _ a _ => a
  | _ => .skip
def rgB : Code → Code
  | .rangeFunc _ _ _ b => b
  | _ => .skip
def rgP : Code → Array Tmp
  | .rangeFunc _ ps _ _ => ps
  | _ => #[]

def vAtC (P : Program) (cf : Cfg) (J : Jn) (c : Code) (path ns : List Nat) (K : Exit → VS → Prop) (s : VS) : Prop :=
  vLoop (vCode P cf J (sub c (path ++ [0]))) (lvOf cf.lv (firstR (sub c (path ++ [0])))) s.ls.length (contK P cf J c path ns K) s
def vSegC (P : Program) (cf : Cfg) (J : Jn) (c : Code) (path ns : List Nat) (K : Exit → VS → Prop) (s : VS) : Prop :=
  vCode P cf J (sub c path) (contK P cf J c path ns K) s
def vMidC (P : Program) (cf : Cfg) (J : Jn) (c : Code) (path ns : List Nat) (i : Nat) (K : Exit → VS → Prop) (s : VS) : Prop :=
  match sub c path with
  | .region _ ops _ => vOps P cf J ops (contK P cf J c path ns K .normal) (ops.toList.drop i) s
  | _ => False
def vAtBodyC (P : Program) (cf : Cfg) (J : Jn) (c : Code) (path ns : List Nat) (K : Exit → VS → Prop) (s : VS) : Prop :=
  vCode P cf J (sub c (path ++ [0])) (fun e t => match e with
      | .normal => vLoop (vCode P cf J (sub c (path ++ [0]))) (lvOf cf.lv (firstR (sub c (path ++ [0])))) s.ls.length (contK P cf J c path ns K) (t.keep (lvOf cf.lv (firstR (sub c (path ++ [0])))) s.ls.length)
      | e => contK P cf J c path ns K e t) s

theorem vAtC_stepC {cf : Cfg} {c : Code} {path ns : List Nat} {K : Exit → VS → Prop} (s : VS) {X C : Prop} (e : vAtBodyC P cf J0 c path ns K s = X) (e2 : vAtC P cf J0 c path ns K s = C) (h : X) : C :=
  cast e2 (by subst e; exact vLoop.mk h)
end Go.KC
