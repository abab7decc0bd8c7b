/- THE CORE, part 10: a region, in its own order, or in whatever order it draws. Generic. -/
import Derived.Test.YtbodlapndgnkgaaKc9
set_option linter.all false
set_option linter.constructorNameAsVariable false
namespace Go.KC
variable {P : Program} {M0 : Nat → Prop} {w0 : World} {bs : List Nat} {M : Nat → Prop} {s : VS} {a : Act} {w : World}

/-- One operation, under its guard. -/
def vStep (P : Program) (pr : List Nat) (ops : Array Oper) (o : Oper) (s : VS) (k : VS → Prop) : Prop :=
  match o.guard with
  | none => vOp P pr o s fun av s' => k (s'.put o.dst av)
  | some (j, want) =>
    match (ops[j]?).bind Oper.dst with
    | none => k (s.put o.dst (.v undef))
    | some t =>
      match s.fr[t]? with
      | some (.v (.bool b)) =>
        Br b
          (match want with | true => vOp P pr o (s.put (some t) (.v (.bool true))) fun av s' => k (s'.put o.dst av) | false => k ((s.put (some t) (.v (.bool true))).put o.dst (.v undef)))
          (match want with | false => vOp P pr o (s.put (some t) (.v (.bool false))) fun av s' => k (s'.put o.dst av) | true => k ((s.put (some t) (.v (.bool false))).put o.dst (.v undef)))
      | some (.v (.tuple _)) => k (s.put o.dst (.v undef))
      | _ => False

/-- A plan for a region that draws its order: all is done; the i-th operation is taken ahead of all others (what is changed beside it: lvl); one of those that are ready comes next. -/
inductive Pl where
  | fin
  | tk (i lvl : Nat) (r : Pl)
  | alt (i : Nat) (r q : Pl)
  | no

/-- Of an operation: behind which others it stands, how much it changes, at which slots it looks, and which it fills (as bits). -/
structure Inf where
  nd : Nat
  cl : Nat
  lk : Nat
  ds : Nat

/-- What the printer chooses: the variables that a call keeps to itself, by the slot of their address; the slots that are kept at a loop's head, by the number of the first region in the loop; at a place where ways meet:
    by the number of the region behind it, and whether own variables made on the way there are dropped; behind an operation, by its slot. -/
structure Cfg where
  pr : List Nat
  lv : List (Nat × List Nat)
  jn : List (Nat × List Nat × Bool)
  jo : List (Nat × List Nat)
  rf : Bool
  pl : List (Nat × List Inf × Pl)

def lvOf : List (Nat × List Nat) → Nat → List Nat
  | [], _ => []
  | (i, l) :: r, k => match Nat.beq i k with | true => l | false => lvOf r k

/-- A place where ways meet: J stands ahead of what follows, so that a text can be held against the walk piece by piece. -/
abbrev Jn := (VS → Prop) → VS → Prop
def J0 (k : VS → Prop) (s : VS) : Prop := k s

def joinJ (J : Jn) (k : VS → Prop) (r n : Nat) (s : VS) : List (Nat × List Nat × Bool) → Prop
  | [] => k s
  | (i, l, d) :: q => match Nat.beq i r with | true => (match d with | true => J k (s.keep l n) | false => J k (s.keep l s.ls.length)) | false => joinJ J k r n s q

def joinO (J : Jn) (k : VS → Prop) (d : Option Tmp) (s : VS) : List (Nat × List Nat) → Prop
  | [] => k s
  | (i, l) :: q => match d with
    | none => k s
    | some d' => match Nat.beq i d' with | true => J k (s.keep l s.ls.length) | false => joinO J k d s q

def vOps (P : Program) (cf : Cfg) (J : Jn) (ops : Array Oper) (K : VS → Prop) : List Oper → VS → Prop
  | [], s => K s
  | o :: r, s => vStep P cf.pr ops o s fun s' => joinO J (vOps P cf J ops K r) o.dst s' cf.jo

/-- How much may change beside it: 0: nothing that is there; 1: nothing that is hidden; 2: anything. -/
def tkLvl (n0 : Nat) (s : VS) : Op → Option Nat
  | .load _ addr => (match s.ev addr with | .loc i _ => (match Nat.blt i n0 with | true => some 1 | false => some 0) | _ => some 0)
  | .move _ | .assign _ | .pick .. | .build .. | .nilCheck _ | .binOp .. | .unOp .. | .makeFunc .. | .extract .. | .fieldAddr .. | .field .. | .indexAddr .. | .index .. | .slice .. => some 2
  | .convert _ _ x => (match s.ev x with | .v (.int _ _) => some 2 | _ => none)
  | .call { callee := .builtin .len, args := args, .. } => (match evAll s args.toList with | some [.map _] => some 0 | _ => some 2)
  | .call { callee := .builtin b, .. } => (match b with | .cap | .min | .max => some 2 | _ => none)
  | .lookup .. | .entry .. => some 0
  | _ => none

/-- The k-th of a row of n that is kept backwards. -/
def lkB : List Bool → Nat → Nat → Bool
  | [], _, _ => false
  | b :: r, n, k => match Nat.beq k (n - 1) with | true => b | false => lkB r (n - 1) k
/-- Of the operations that are left, each stands behind the i-th one, directly or through others that are left (acc tells which do), or changes no more than lvl. -/
def nlGo (i lvl : Nat) (listed : Array Bool) : List Oper → Nat → List Bool → Bool
  | [], _, _ => true
  | o :: r, n, acc =>
    match listed.getD n true || Nat.beq n i with
    | true => nlGo i lvl listed r (n + 1) (false :: acc)
    | false =>
      match o.after.any fun e => Region.binds .any e && (Nat.beq e.on i || lkB acc n e.on) with
      | true => nlGo i lvl listed r (n + 1) (true :: acc)
      | false => (match Nat.ble (clsOf o.op) lvl with | true => nlGo i lvl listed r (n + 1) (false :: acc) | false => false)
def nlOK (ops : Array Oper) (listed : Array Bool) (i lvl : Nat) : Bool := nlGo i lvl listed ops.toList 0 []

def tkOK (n0 : Nat) (ops : Array Oper) (listed : Array Bool) (s : VS) (i : Nat) : Bool :=
  match ops[i]? with
  | some o => (match tkLvl n0 s o.op with | some lvl => Region.free .any ops listed i && nlOK ops listed i lvl | none => false)
  | none => false

def allR (F : Nat → Prop) : List Nat → Prop
  | [] => True
  | [i] => F i
  | i :: r => F i ∧ allR F r

def vDraw (P : Program) (pr : List Nat) (n0 : Nat) (ops : Array Oper) (K : VS → Prop) : Nat → Array Bool → VS → Prop
  | 0, listed, s => (match Region.ready .any ops listed with | [] => K s | _ => False)
  | fuel + 1, listed, s =>
    match Region.ready .any ops listed with
    | [] => K s
    | r :: rs =>
      match (r :: rs).find? (tkOK n0 ops listed s) with
      | some i => (match ops[i]? with | some o => vStep P pr ops o s (vDraw P pr n0 ops K fuel (listed.setIfInBounds i true)) | none => False)
      | none => allR (fun i => match ops[i]? with | some o => vStep P pr ops o s (vDraw P pr n0 ops K fuel (listed.setIfInBounds i true)) | none => False) (r :: rs)

/-- One operation that is taken ahead, under its guard. -/
def vStepT (P : Program) (pr : List Nat) (n0 lvl : Nat) (ops : Array Oper) (o : Oper) (s : VS) (k : VS → Prop) : Prop :=
  match o.guard with
  | none => (match tkLvl n0 s o.op with | some l => (match Nat.beq l lvl with | true => vOp P pr o s fun av s' => k (s'.put o.dst av) | false => False) | none => False)
  | some (j, want) =>
    match (ops[j]?).bind Oper.dst with
    | none => k (s.put o.dst (.v undef))
    | some t =>
      match s.fr[t]? with
      | some (.v (.bool b)) =>
        Br b
          (match want with
            | true => (match tkLvl n0 (s.put (some t) (.v (.bool true))) o.op with | some l => (match Nat.beq l lvl with | true => vOp P pr o (s.put (some t) (.v (.bool true))) fun av s' => k (s'.put o.dst av) | false => False) | none => False)
            | false => k ((s.put (some t) (.v (.bool true))).put o.dst (.v undef)))
          (match want with
            | false => (match tkLvl n0 (s.put (some t) (.v (.bool false))) o.op with | some l => (match Nat.beq l lvl with | true => vOp P pr o (s.put (some t) (.v (.bool false))) fun av s' => k (s'.put o.dst av) | false => False) | none => False)
            | true => k ((s.put (some t) (.v (.bool false))).put o.dst (.v undef)))
      | some (.v (.tuple _)) => k (s.put o.dst (.v undef))
      | _ => False

def plOf : List (Nat × List Inf × Pl) → Nat → Option (List Inf × Pl)
  | [], _ => none
  | (i, p) :: r, k => match Nat.beq i k with | true => some p | false => plOf r k
def Pl.heads : Pl → List Nat
  | .alt i _ q => i :: q.heads
  | _ => []
def vPl (P : Program) (pr : List Nat) (n0 : Nat) (ops : Array Oper) (K : VS → Prop) : Pl → VS → Prop
  | .fin, s => K s
  | .no, _ => True
  | .tk i lvl r, s => (match ops[i]? with | some o => vStepT P pr n0 lvl ops o s (vPl P pr n0 ops K r) | none => False)
  | .alt i r q, s => (match q with
    | .no => (match ops[i]? with | some o => vStep P pr ops o s (vPl P pr n0 ops K r) | none => False)
    | q => (match ops[i]? with | some o => vStep P pr ops o s (vPl P pr n0 ops K r) | none => False) ∧ vPl P pr n0 ops K q s)
def eqLN : List Nat → List Nat → Bool
  | [], [] => true
  | i :: r, j :: q => Nat.beq i j && eqLN r q
  | _, _ => false
def memLN (i : Nat) : List Nat → Bool
  | [] => false
  | j :: q => Nat.beq i j || memLN i q
def needM : List Edge → Nat
  | [] => 0
  | e :: r => match Region.binds .any e with | true => needM r ||| 2 ^ e.on | false => needM r
def bitsM : List Nat → Nat
  | [] => 0
  | d :: r => bitsM r ||| 2 ^ d
def dstM : Option Nat → Nat
  | none => 0
  | some d => 2 ^ d
def infOK (ops : Array Oper) : List Oper → List Inf → Bool
  | [], [] => true
  | o :: r, x :: q => (Nat.beq (needM o.after.toList) x.nd && (Nat.beq (clsOf o.op) x.cl && (Nat.beq (bitsM (o.looksAt ops)) x.lk && Nat.beq (dstM o.dst) x.ds))) && infOK ops r q
  | _, _ => false
def readyM (m : Nat) : List Inf → Nat → List Nat
  | [], _ => []
  | x :: r, j => match Nat.testBit m j with
    | true => readyM m r (j + 1)
    | false => match Nat.beq (Nat.land x.nd m) x.nd with
      | true => j :: readyM m r (j + 1)
      | false => readyM m r (j + 1)
def freeM (m i lk ds : Nat) : List Inf → Nat → Bool
  | [], _ => true
  | x :: r, j => (Nat.beq j i || (Nat.testBit m j || (Nat.testBit x.nd i || (Nat.beq (Nat.land ds x.lk) 0 && (Nat.beq (Nat.land ds x.ds) 0 && Nat.beq (Nat.land x.ds lk) 0))))) && freeM m i lk ds r (j + 1)
def nlM (m i lvl : Nat) : List Inf → Nat → Nat → Bool
  | [], _, _ => true
  | x :: r, n, acc =>
    match Nat.testBit m n || Nat.beq n i with
    | true => nlM m i lvl r (n + 1) acc
    | false => match Nat.beq (Nat.land x.nd (acc ||| 2 ^ i)) 0 with
      | false => nlM m i lvl r (n + 1) (acc ||| 2 ^ n)
      | true => (match Nat.ble x.cl lvl with | true => nlM m i lvl r (n + 1) acc | false => false)
/-- A number is reckoned before it is used. -/
def forceN (n : Nat) (K : Nat → Bool) : Bool := match n with | 0 => K 0 | m + 1 => K (m + 1)
/-- The plan fits the region; m: what is done. -/
def plOK (I : List Inf) : Pl → Nat → Nat → Bool → Bool
  | .fin, _, m, f => f && (match readyM m I 0 with | [] => true | _ => false)
  | .no, _, _, f => !f
  | .tk i lvl r, fuel, m, f => match fuel with
    | 0 => false
    | fuel + 1 => f && (memLN i (readyM m I 0) && ((match I[i]? with | some x => freeM m i x.lk x.ds I 0 | none => false) && (nlM m i lvl I 0 0 && forceN (m ||| 2 ^ i) fun q => plOK I r fuel q true)))
  | .alt i r q, fuel, m, f => match fuel with
    | 0 => false
    | fuel + 1 => (match f with | true => eqLN (i :: q.heads) (readyM m I 0) | false => true) && ((forceN (m ||| 2 ^ i) fun q => plOK I r fuel q true) && plOK I q (fuel + 1) m false)

/-! ### soundness -/

/-- One operation of a region, whatever comes behind: with what it may have changed. -/
def WpC (P : Program) (Mf : Nat → Prop) (ops : Array Oper) (o : Oper) (K : Act → World → Prop) (a : Act) (w : World) : Prop :=
  if Region.wanted o (yielded ops a.tmps) then (∀ c, o.op ≠ .defer c) ∧ WpE P o a w (fun a' w' => Chg (clsOf o.op) Mf w w' ∧ K a' w') QF else K (a.put o.dst undef) w

theorem WpC.mono {Mf : Nat → Prop} {ops : Array Oper} {o : Oper} {K K' : Act → World → Prop} (h : WpC P Mf ops o K a w) (hk : ∀ a w, K a w → K' a w) : WpC P Mf ops o K' a w := by
  unfold WpC at *
  split
  · rename_i hw; rw [if_pos hw] at h; exact ⟨h.1, h.2.mono fun a' w' ⟨h1, h2⟩ => ⟨h1, hk _ _ h2⟩⟩
  · rename_i hw; rw [if_neg hw] at h; exact hk _ _ h

theorem vOp_nodefer {pr : List Nat} {o : Oper} {s : VS} {k : AV → VS → Prop} (h : vOp P pr o s k) : ∀ c, o.op ≠ .defer c := by
  intro c e
  obtain ⟨dst, op, type, pos, after, guard⟩ := o
  dsimp only at e
  subst e
  exact h

theorem put_same (s : VS) {t : Nat} {x : AV} (h : s.fr[t]? = some x) : s.put (some t) x = s := by
  obtain ⟨fr, ls, H⟩ := s
  simp only [VS.put, VS.mk.injEq, and_true]
  apply List.ext_getElem?
  intro n
  rw [List.getElem?_set]
  dsimp only at h
  split
  · rename_i hn; subst hn; rw [if_pos (List.getElem?_eq_some_iff.1 h).1, h]
  · rfl

theorem yielded_of {ops : Array Oper} {j t : Nat} (hr : RelB M0 w0 bs M s a w) (hj : (ops[j]?).bind Oper.dst = some t) {x : Value} (hx : s.fr[t]? = some (.v x)) :
    yielded ops a.tmps j = (match x with | .bool b => some b | _ => none) := by
  obtain ⟨v, hv, hc⟩ := hr.tm t _ hx
  obtain rfl : v = x := hc
  unfold yielded
  rw [show (ops[j]?).bind (·.dst) = some t from hj]
  simp only [Option.bind_some, hv]
  cases v <;> rfl

theorem vStep_run {pr : List Nat} {ops : Array Oper} {o : Oper} {k : VS → Prop} {Mf : Nat → Prop} (hr : RelB M0 w0 bs M s a w) (hf : ∀ b, Mf b → M b) (h : vStep P pr ops o s k) :
    WpC P Mf ops o (fun a' w' => ∃ s' bs' M', (∀ b, Mf b → M' b) ∧ (∀ (i b : Nat), bs[i]? = some b → bs'[i]? = some b) ∧ k s' ∧ RelB M0 w0 bs' M' s' a' w') a w := by
  have go : ∀ s1, RelB M0 w0 bs M s1 a w → (vOp P pr o s1 fun av s' => k (s'.put o.dst av)) → (∀ c, o.op ≠ .defer c) ∧ WpE P o a w (fun a' w' => Chg (clsOf o.op) Mf w w' ∧ ∃ s' bs' M', (∀ b, Mf b → M' b) ∧ (∀ (i b : Nat), bs[i]? = some b → bs'[i]? = some b) ∧ k s' ∧ RelB M0 w0 bs' M' s' a' w') QF := fun s1 hr1 h1 =>
    ⟨vOp_nodefer h1, (vOp_run hr1 h1).mono fun a' w' ⟨⟨c1, c2⟩, av, s', bs', M', hm, hp, hk, hR⟩ => ⟨⟨c1, fun hc b hb => c2 hc b (hf b hb)⟩, _, bs', M', fun b hb => hm b (hf b hb), hp, hk, hR⟩⟩
  have no : ∀ s1, RelB M0 w0 bs M s1 a w → k (s1.put o.dst (.v undef)) → ∃ s' bs' M', (∀ b, Mf b → M' b) ∧ (∀ (i b : Nat), bs[i]? = some b → bs'[i]? = some b) ∧ k s' ∧ RelB M0 w0 bs' M' s' (a.put o.dst undef) w := fun s1 hr1 h1 =>
    ⟨_, bs, M, hf, fun _ _ h => h, h1, hr1.put o.dst rfl⟩
  unfold vStep at h
  unfold WpC
  split at h
  · rename_i hg
    rw [if_pos (by simp [Region.wanted, hg])]
    exact go s hr h
  · rename_i j want hg
    split at h
    · rename_i hj
      have : yielded ops a.tmps j = none := by unfold yielded; rw [show (ops[j]?).bind (·.dst) = none from hj]; rfl
      rw [if_neg (by simp [Region.wanted, hg, this])]
      exact no s hr h
    · rename_i t hj
      split at h <;> (first | exact h.elim | skip)
      · rename_i b hb
        have hy := yielded_of hr hj hb
        dsimp only at hy
        cases b with
        | true =>
          have e := put_same s hb
          dsimp only [Br] at h
          rw [e] at h
          cases want with
          | true => rw [if_pos (by simp [Region.wanted, hg, hy])]; exact go s hr h
          | false => rw [if_neg (by simp [Region.wanted, hg, hy])]; exact no s hr h
        | false =>
          have e := put_same s hb
          dsimp only [Br] at h
          rw [e] at h
          cases want with
          | false => rw [if_pos (by simp [Region.wanted, hg, hy])]; exact go s hr h
          | true => rw [if_neg (by simp [Region.wanted, hg, hy])]; exact no s hr h
      · rename_i x hb
        have hy := yielded_of hr hj hb
        dsimp only at hy
        rw [if_neg (by simp [Region.wanted, hg, hy])]
        exact no s hr h

theorem Rel.keep {s : VS} {a : Act} {w : World} (lv : List Nat) (n : Nat) : Rel M0 w0 s a w → Rel M0 w0 (s.keep lv n) a w := fun ⟨_, M, hR⟩ => ⟨_, M, hR.keep lv n⟩

theorem joinJ_run {k : VS → Prop} {r n : Nat} {s : VS} {a : Act} {w : World} (hr : Rel M0 w0 s a w) : ∀ {l : List (Nat × List Nat × Bool)}, joinJ J0 k r n s l → ∃ s', k s' ∧ Rel M0 w0 s' a w
  | [], h => ⟨s, h, hr⟩
  | (i, l, d) :: q, h => by
    unfold joinJ at h
    split at h
    · split at h
      · exact ⟨_, h, hr.keep _ _⟩
      · exact ⟨_, h, hr.keep _ _⟩
    · exact joinJ_run hr h

theorem joinO_run {k : VS → Prop} {d : Option Tmp} {s : VS} {a : Act} {w : World} (hr : Rel M0 w0 s a w) : ∀ {l : List (Nat × List Nat)}, joinO J0 k d s l → ∃ s', k s' ∧ Rel M0 w0 s' a w
  | [], h => ⟨s, h, hr⟩
  | (i, l) :: q, h => by
    unfold joinO at h
    split at h
    · exact ⟨s, h, hr⟩
    · split at h
      · exact ⟨_, h, hr.keep _ _⟩
      · exact joinO_run hr h

/-- The operations of a region, one after the other. -/
def wpListR (r : Option Nat) (P : Program) (ops : Array Oper) (Q : Exit → Act → World → Prop) : List Oper → Act → World → Prop
  | [], a, w => Q .normal a w
  | o :: l, a, w => if Region.wanted o (yielded ops a.tmps) then o.wpIn (FW r) 0 P a w (wpListR r P ops Q l) Q else wpListR r P ops Q l (a.put o.dst undef) w

theorem wpListR_ops (r : Option Nat) {ops : Array Oper} {Q : Exit → Act → World → Prop} : ∀ (l : List Oper) (i : Nat), (∀ j, l[j]? = ops[i + j]?) → ∀ a w, wpListR r P ops Q l a w → wpOpsIn (FW r) 0 P ops Q (List.range' i l.length) a w
  | [], i, _, a, w, h => h
  | o :: l, i, hl, a, w, h => by
    have h0 : ops[i]? = some o := by have := hl 0; simpa using this.symm
    have hl' : ∀ j, l[j]? = ops[i + 1 + j]? := fun j => by have := hl (j + 1); rw [Nat.add_assoc, Nat.add_comm 1 j]; simpa using this
    show wpOpsIn (FW r) 0 P ops Q (i :: List.range' (i + 1) l.length) a w
    unfold wpOpsIn
    simp only [h0]
    unfold wpListR at h
    split
    · rename_i hw; rw [if_pos hw] at h; exact Oper.wpIn_mono (fun a w h => wpListR_ops r l (i + 1) hl' a w h) h
    · rename_i hw; rw [if_neg hw] at h; exact ⟨fun _ _ => trivial, wpListR_ops r l (i + 1) hl' _ w h⟩

theorem vOps_run (rd : Option Nat) {cf : Cfg} {ops : Array Oper} {K : VS → Prop} {Q : Exit → Act → World → Prop} (hQ : ∀ s a w, K s → Rel M0 w0 s a w → Q .normal a w) : ∀ (l : List Oper) (s : VS) (a : Act) (w : World),
    Rel M0 w0 s a w → vOps P cf J0 ops K l s → wpListR rd P ops Q l a w
  | [], s, a, w, hr, h => hQ s a w h hr
  | o :: r, s, a, w, ⟨bs, M, hr⟩, h => by
    have h1 := vStep_run (Mf := M) hr (fun _ h => h) h
    unfold WpC at h1
    unfold wpListR
    split
    · rename_i hw
      rw [if_pos hw] at h1
      refine (h1.2.mono fun a' w' ⟨_, s', bs', M', _, _, hk, hR⟩ => ?_).wpIn rd h1.1
      obtain ⟨s2, hk2, hR2⟩ := joinO_run ⟨bs', M', hR⟩ hk
      exact vOps_run rd hQ r _ a' w' hR2 hk2
    · rename_i hw
      rw [if_neg hw] at h1
      obtain ⟨s', bs', M', _, _, hk, hR⟩ := h1
      obtain ⟨s2, hk2, hR2⟩ := joinO_run ⟨bs', M', hR⟩ hk
      exact vOps_run rd hQ r _ _ w hR2 hk2

end Go.KC

/- THE CORE, part 11: a region that draws its order. Generic. -/
set_option linter.all false
set_option linter.constructorNameAsVariable false
namespace Go.KC
variable {P : Program} {M0 : Nat → Prop} {w0 : World} {bs : List Nat} {M : Nat → Prop} {s : VS} {a : Act} {w : World}

def wpOpC (P : Program) (Mf : Nat → Prop) (ops : Array Oper) (i : Nat) (K : Act → World → Prop) (a : Act) (w : World) : Prop :=
  match ops[i]? with
  | none => K a w
  | some o => WpC P Mf ops o K a w

def wpAnyC (P : Program) (Mf : Nat → Prop) (ops : Array Oper) (QN : Act → World → Prop) : Nat → Array Bool → Act → World → Prop
  | 0, listed, a, w => Region.ready .any ops listed = [] ∧ QN a w
  | fuel + 1, listed, a, w =>
    (Region.ready .any ops listed = [] → QN a w) ∧
    ∀ i ∈ Region.ready .any ops listed, wpOpC P Mf ops i (wpAnyC P Mf ops QN fuel (listed.setIfInBounds i true)) a w

theorem wpOpC_mono {Mf : Nat → Prop} {ops : Array Oper} {i : Nat} {K K' : Act → World → Prop} (hk : ∀ a w, K a w → K' a w) (h : wpOpC P Mf ops i K a w) : wpOpC P Mf ops i K' a w := by
  unfold wpOpC at *
  split
  · rename_i hi; simp only [hi] at h; exact hk _ _ h
  · rename_i o hi; simp only [hi] at h; exact h.mono hk

theorem wpAnyC_any (rd : Option Nat) {Mf : Nat → Prop} {ops : Array Oper} {QN : Act → World → Prop} {Q : Exit → Act → World → Prop} (hQ : ∀ a w, QN a w → Q .normal a w) : ∀ (fuel : Nat) (listed : Array Bool) (a : Act) (w : World),
    wpAnyC P Mf ops QN fuel listed a w → wpAnyIn (FW rd) 0 P .any ops Q fuel listed a w
  | 0, listed, a, w, h => ⟨h.1, hQ _ _ h.2⟩
  | fuel + 1, listed, a, w, h => by
    refine ⟨fun e => hQ _ _ (h.1 e), fun i hi => ?_⟩
    have h1 := h.2 i hi
    unfold wpOpC at h1
    unfold wpOpIn
    split
    · rename_i ho; simp only [ho] at h1; exact wpAnyC_any rd hQ fuel _ _ _ h1
    · rename_i o ho
      simp only [ho] at h1
      unfold WpC at h1
      split
      · rename_i hw; rw [if_pos hw] at h1; exact (h1.2.mono fun a' w' h2 => wpAnyC_any rd hQ fuel _ _ _ h2.2).wpIn rd h1.1
      · rename_i hw; rw [if_neg hw] at h1; exact ⟨fun _ _ => trivial, wpAnyC_any rd hQ fuel _ _ _ h1⟩

/-- What may have happened meanwhile. -/
def RL (lvl : Nat) (Mf : Nat → Prop) (w w' : World) : Prop :=
  match lvl with
  | 0 => Grow w w'
  | 1 => KeepM Mf w w'
  | _ => True

theorem RL.refl (lvl : Nat) (Mf : Nat → Prop) (w : World) : RL lvl Mf w w := by
  unfold RL; split
  · exact .refl w
  · exact fun _ _ => rfl
  · trivial
theorem RL.trans {lvl : Nat} {Mf : Nat → Prop} {w w' w'' : World} (h : RL lvl Mf w w') (k : RL lvl Mf w' w'') : RL lvl Mf w w'' := by
  unfold RL at *; split
  · exact fun b o hb => k b o (h b o hb)
  · exact fun b hb => (k b hb).trans (h b hb)
  · trivial
theorem RL.of_chg {lvl c : Nat} {Mf : Nat → Prop} {w w' : World} (h : Chg c Mf w w') (hc : c ≤ lvl) : RL lvl Mf w w' := by
  unfold RL; split
  · exact h.1 (by omega)
  · exact h.2 hc
  · trivial

/-- The operation yields v, now and as long as no more than lvl has happened. -/
def YieldsR (P : Program) (lvl : Nat) (Mf : Nat → Prop) (ops : Array Oper) (o : Oper) (v : Value) (a : Act) (w : World) : Prop :=
  (Region.wanted o (yielded ops a.tmps) = true ∧ (∀ c, o.op ≠ .defer c) ∧ ∀ w', RL lvl Mf w w' → (execOp a.eval o).run P w' = .ok (.value v) w') ∨
  (Region.wanted o (yielded ops a.tmps) = false ∧ v = undef)

theorem YieldsR.later {lvl : Nat} {Mf : Nat → Prop} {ops : Array Oper} {o : Oper} {v : Value} {w' : World} (h : YieldsR P lvl Mf ops o v a w) (hw : RL lvl Mf w w') : YieldsR P lvl Mf ops o v a w' :=
  h.imp (fun ⟨h1, h0, h2⟩ => ⟨h1, h0, fun w'' hh => h2 w'' (hw.trans hh)⟩) id

theorem YieldsR.of_same {lvl : Nat} {Mf : Nat → Prop} {ops : Array Oper} {o : Oper} {v : Value} {a' : Act} (hy : YieldsR P lvl Mf ops o v a w) (he : execOp a'.eval o = execOp a.eval o)
    (hw : Region.wanted o (yielded ops a'.tmps) = Region.wanted o (yielded ops a.tmps)) : YieldsR P lvl Mf ops o v a' w := by
  unfold YieldsR at *
  rw [he, hw]
  exact hy

theorem YieldsR.wpOpC {lvl : Nat} {Mf : Nat → Prop} {ops : Array Oper} {i : Nat} {o : Oper} {v : Value} {K : Act → World → Prop} (hi : ops[i]? = some o) (hy : YieldsR P lvl Mf ops o v a w) (h : K (a.put o.dst v) w) :
    wpOpC P Mf ops i K a w := by
  unfold Go.KC.wpOpC
  simp only [hi]
  unfold WpC
  rcases hy with ⟨hw, hd, hv⟩ | ⟨hw, rfl⟩
  · rw [if_pos hw]
    exact ⟨hd, .of (wp_value (hv w (.refl _ _ _)) ⟨.refl _ _ _, h⟩)⟩
  · rw [if_neg (by simp [hw])]
    exact h

/-- An operation that stands apart from one that was taken first. -/
theorem wp_put {o : Oper} {dst : Option Tmp} {v : Value} {K K' : Act → World → Prop} (he : execOp (a.put dst v).eval o = execOp a.eval o) (hk : ∀ a' w', (∀ u, a' = (a.put dst v).put o.dst u → K a' w' → K' (a.put o.dst u) w'))
    (hd : ∀ d u w', K (({ a.put dst v with defers := d :: (a.put dst v).defers } : Act).put o.dst u) w' → K' (({ a with defers := d :: a.defers } : Act).put o.dst u) w')
    (h : WpE P o (a.put dst v) w K QF) : WpE P o a w K' QF := by
  unfold WpE at *
  rw [he] at h
  generalize (execOp a.eval o).run P w = r at *
  cases r with
  | ok n w' =>
    cases n <;> simp only [Oper.uponIn] at h ⊢
    case value u => exact hk _ _ u rfl h
    case skip => exact hk _ _ undef rfl h
    case defer d => exact hd _ _ _ h
    case enter f args => exact ⟨h.1, CallsIn.mono h.2 fun e w'' he => by cases e <;> first | exact hk _ _ _ rfl he | exact he.elim | exact (by obtain ⟨_, _, hf⟩ := he; exact hf.elim)⟩
    case round l f tm x y => exact ⟨h.1, RoundIn.mono h.2 fun e w'' he => by cases e <;> first | exact hk _ _ _ rfl he | exact he.elim | exact (by obtain ⟨_, _, hf⟩ := he; exact hf.elim)⟩
    case row row args => exact ⟨h.1, RowsIn.mono h.2 fun u w'' he => hk _ _ _ rfl he⟩
  | halt x w' => cases x <;> simp only [Oper.uponIn] at h ⊢ <;> exact h.elim

theorem wpOpC_put {lvl : Nat} {Mf : Nat → Prop} {ops : Array Oper} {j : Nat} {oi oj : Oper} {v : Value} (hj : ops[j]? = some oj) (hap : oi.apart ops oj = true) (hc : clsOf oj.op ≤ lvl)
    (hsi : ∀ cs b, oi.op ≠ .select cs b) (hsj : ∀ cs b, oj.op ≠ .select cs b) {K : Act → World → Prop}
    (hy : YieldsR P lvl Mf ops oi v a w) (h : wpOpC P Mf ops j K (a.put oi.dst v) w) :
    wpOpC P Mf ops j (fun a' w' => YieldsR P lvl Mf ops oi v a' w' ∧ K (a'.put oi.dst v) w') a w := by
  obtain ⟨h1, h2, h3⟩ := Oper.apart_spec hap
  have keep : ∀ (a : Act) (w : World), YieldsR P lvl Mf ops oi v a w → ∀ u, YieldsR P lvl Mf ops oi v (a.put oj.dst u) w := fun a w hy u =>
    hy.of_same (execOp_put oi hsi a oj.dst u h3) (wanted_put oi a oj.dst u h3)
  unfold wpOpC at *
  simp only [hj] at *
  unfold WpC at *
  rw [wanted_put oj a oi.dst v h1] at h
  split
  · rename_i hw
    rw [if_pos hw] at h
    refine ⟨h.1, wp_put (execOp_put oj hsj a oi.dst v h1) (fun a' w' u ha' hh => ?_) (fun d u w' hh => ?_) h.2⟩
    · subst ha'
      exact ⟨hh.1, keep a w' (hy.later (.of_chg hh.1 hc)) u, by rw [← Act.put_comm a v u h2]; exact hh.2⟩
    · refine ⟨hh.1, keep _ _ ((hy.later (.of_chg hh.1 hc)).of_same (a' := { a with defers := d :: a.defers }) rfl rfl) _, ?_⟩
      rw [← Act.put_comm _ v u h2, ← Act.put_defers]
      exact hh.2
  · rename_i hw
    rw [if_neg hw] at h
    exact ⟨keep a w hy _, by rw [← Act.put_comm a v undef h2]; exact h⟩

theorem wpAnyC_first {lvl : Nat} {Mf : Nat → Prop} {ops : Array Oper} {QN : Act → World → Prop} {i : Nat} {oi : Oper} {v : Value} {B : Nat → Bool} (hi : ops[i]? = some oi) (hsel : ∀ (j : Nat) (o : Oper) cs b, ops[j]? = some o → o.op ≠ .select cs b) :
    ∀ (fuel : Nat) (listed : Array Bool) (a : Act) (w : World),
      (∀ j oj, ops[j]? = some oj → j ≠ i → listed.getD j true = false → B j = false → (∀ e ∈ oj.after, Region.binds .any e = true → e.on ≠ i) → oi.apart ops oj = true ∧ clsOf oj.op ≤ lvl) →
      (∀ j, B j = true → listed.getD j true = false ∧ ∃ oj, ops[j]? = some oj ∧ ∃ e ∈ oj.after, Region.binds .any e = true ∧ (e.on = i ∨ B e.on = true)) →
      i ∈ Region.ready .any ops listed → YieldsR P lvl Mf ops oi v a w →
      wpAnyC P Mf ops QN fuel (listed.setIfInBounds i true) (a.put oi.dst v) w → wpAnyC P Mf ops QN (fuel + 1) listed a w := by
  intro fuel
  induction fuel with
  | zero =>
    intro listed a w _ _ hr hy H
    refine ⟨fun h => (by rw [h] at hr; cases hr), fun j hj => ?_⟩
    by_cases hji : j = i
    · subst hji; exact hy.wpOpC hi H
    · have := ready_mono hj hji
      rw [H.1] at this
      cases this
  | succ fuel ih =>
    intro listed a w hfree hB hr hy H
    refine ⟨fun h => (by rw [h] at hr; cases hr), fun j hj => ?_⟩
    by_cases hji : j = i
    · subst hji; exact hy.wpOpC hi H
    · have h1 := H.2 j (ready_mono hj hji)
      obtain ⟨hjun, oj, hoj, hall⟩ := mem_ready.1 hj
      have hnot : ∀ e ∈ oj.after, Region.binds .any e = true → e.on ≠ i := fun e he hb heq => by
        have h1 := hall e he hb
        have h0 := (mem_ready.1 hr).1
        rw [heq] at h1
        rcases Nat.lt_or_ge i listed.size with h' | h'
        · simp [h'] at h0 h1; rw [h0] at h1; cases h1
        · simp [Array.getElem?_eq_none h'] at h1
      have hnB : B j = false := by
        cases hb : B j with
        | false => rfl
        | true =>
          obtain ⟨_, oj', ho', e, he, hbd, h4⟩ := hB j hb
          rw [hoj] at ho'; cases ho'
          rcases h4 with h4 | h4
          · exact (hnot e he hbd h4).elim
          · have h5 := (hB _ h4).1
            have h6 := hall e he hbd
            rcases Nat.lt_or_ge e.on listed.size with h' | h'
            · simp [h'] at h5 h6; rw [h5] at h6; cases h6
            · simp [Array.getElem?_eq_none h'] at h6
      obtain ⟨hap, hcl⟩ := hfree j oj hoj hji hjun hnB hnot
      have h2 := wpOpC_put hoj hap hcl (fun cs b => hsel i oi cs b hi) (fun cs b => hsel j oj cs b hoj) hy h1
      have hB' : ∀ k, B k = true → (listed.setIfInBounds j true).getD k true = false ∧ ∃ oj, ops[k]? = some oj ∧ ∃ e ∈ oj.after, Region.binds .any e = true ∧ (e.on = i ∨ B e.on = true) := fun k hk => by
        refine ⟨?_, (hB k hk).2⟩
        have hjk : j ≠ k := by rintro rfl; rw [hnB] at hk; cases hk
        rw [getD_set_ne true hjk]; exact (hB k hk).1
      have hfree' : ∀ k ok, ops[k]? = some ok → k ≠ i → (listed.setIfInBounds j true).getD k true = false → B k = false →
          (∀ e ∈ ok.after, Region.binds .any e = true → e.on ≠ i) → oi.apart ops ok = true ∧ clsOf ok.op ≤ lvl := fun k ok hk hki hun hb hno => by
        refine hfree k ok hk hki ?_ hb hno
        by_cases hjk : j = k
        · subst hjk; exact hjun
        · rw [getD_set_ne true hjk] at hun; exact hun
      refine wpOpC_mono (fun a' w' h3 => ih (listed.setIfInBounds j true) a' w' hfree' hB' (ready_mono hr (Ne.symm hji)) h3.1 ?_) h2
      rw [Array.setIfInBounds_comm _ _ hji]
      exact h3.2

end Go.KC
