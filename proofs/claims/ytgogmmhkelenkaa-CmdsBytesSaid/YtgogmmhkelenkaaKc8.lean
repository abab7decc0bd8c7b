/- THE CORE, part 8: an operation of the walk is an operation of the model. Generic. -/
import Derived.Test.YtgogmmhkelenkaaKc7
set_option linter.all false
set_option linter.constructorNameAsVariable false
namespace Go.KC
variable {P : Program} {M0 : Nat → Prop} {w0 : World} {bs : List Nat} {M : Nat → Prop} {s : VS} {a : Act} {w : World}

def Grow (w w' : World) : Prop := ∀ (b : Nat) (o : Obj), w.heap[b]? = some o → w'.heap[b]? = some o
def KeepM (M : Nat → Prop) (w w' : World) : Prop := ∀ b, M b → w'.heap[b]? = w.heap[b]?

/-- 0: it changes nothing that is there; 1: nothing that is hidden; 2: any. -/
def clsOf : Op → Nat
  | .call { callee := .builtin b, .. } => (match b with | .len | .cap | .min | .max => 0 | _ => 1)
  | .call _ => 1
  | .move _ | .assign _ | .pick .. | .alloc _ | .box .. | .build .. | .buildSlice .. | .load .. | .nilCheck _ | .binOp .. | .unOp .. | .convert .. | .makeFunc .. | .extract ..
  | .fieldAddr .. | .field .. | .indexAddr .. | .index .. | .slice .. | .makeMap .. | .lookup .. | .range .. | .entry .. => 0
  | .mapUpdate .. | .insert .. | .next .. | .mapEntry .. | .entryStore .. => 1
  | _ => 2

def Chg (c : Nat) (M : Nat → Prop) (w w' : World) : Prop := (c = 0 → Grow w w') ∧ (c ≤ 1 → KeepM M w w')

theorem Grow.refl (w : World) : Grow w w := fun _ _ h => h
theorem Grow.push (w : World) (o : Obj) (d : Nat) : Grow w { w with heap := w.heap.push o, drawn := d } := fun b x h => by
  have := (Array.getElem?_eq_some_iff.1 h).1
  show (w.heap.push o)[b]? = _
  rw [Array.getElem?_push, if_neg (by omega)]; exact h
theorem Grow.chg {c : Nat} {w' : World} (h : Grow w w') (hh : ∀ b, M b → b < w.heap.size) : Chg c M w w' :=
  ⟨fun _ => h, fun _ b hb => by rw [h b _ (Array.getElem?_eq_getElem (hh b hb)), Array.getElem?_eq_getElem (hh b hb)]⟩
theorem Chg.refl (c : Nat) (M : Nat → Prop) (w : World) : Chg c M w w := ⟨fun _ => .refl w, fun _ _ _ => rfl⟩

/-- What is known behind an operation. -/
def Done (M0 : Nat → Prop) (w0 : World) (bs : List Nat) (M : Nat → Prop) (w : World) (o : Oper) (k : AV → VS → Prop) (a' : Act) (w' : World) : Prop :=
  Chg (clsOf o.op) M w w' ∧ ∃ av s' bs' M', (∀ b, M b → M' b) ∧ (∀ (i b : Nat), bs[i]? = some b → bs'[i]? = some b) ∧ k av s' ∧ RelB M0 w0 bs' M' (s'.put o.dst av) a' w'

theorem done_mk {o : Oper} {k : AV → VS → Prop} {av : AV} {s' : VS} {bs' : List Nat} {M' : Nat → Prop} {v : Value} {w' : World} (hk : k av s') (R : RelB M0 w0 bs' M' s' a w') (hv : Conc bs' av v)
    (hc : Chg (clsOf o.op) M w w') (hm : ∀ b, M b → M' b := by exact fun _ h => h) (hb : ∀ (i b : Nat), bs[i]? = some b → bs'[i]? = some b := by exact fun _ _ h => h) : Done M0 w0 bs M w o k (a.put o.dst v) w' := ⟨hc, av, s', bs', M', hm, hb, hk, R.put _ hv⟩

theorem done_pure {o : Oper} {k : AV → VS → Prop} (hr : RelB M0 w0 bs M s a w) (h : vPure P o.op s fun av => k av s) : o.wp P a w (Done M0 w0 bs M w o k) QF := by
  obtain ⟨av, v, hk, hc, hrun⟩ := vPure_run hr.ev h
  exact wp_value (hrun w) (done_mk hk hr hc (.refl _ _ _))

theorem new_run {pr : List Nat} {o : Oper} {e : TypeId} {c : Array Value} {k : AV → VS → Prop} (hr : RelB M0 w0 bs M s a w) (h : vNew pr o.dst e c.toList s k)
    (hx : (execOp a.eval o).run P w = .ok (.value (.pointer (some ⟨w.heap.size, 0, none⟩))) { w with heap := w.heap.push (.cells c e) }) :
    o.wp P a w (Done M0 w0 bs M w o k) QF := by
  unfold vNew at h
  have hsz := hr.hd.size
  split at h <;> (first | exact h.elim | skip)
  split at h
  · replace h := vNm.get h
    have R := hr.pushOwn e c.toList
    rw [Array.toArray_toList] at R
    refine wp_value hx (done_mk h R ⟨w.heap.size, ?_, rfl⟩ ((Grow.push w _ _).chg hr.hd.lt) (fun _ h => Or.inl h) fun i b hb => by rw [List.getElem?_append_left (List.getElem?_eq_some_iff.1 hb).1]; exact hb)
    rw [← hr.ll, List.getElem?_append_right (Nat.le_refl _)]; simp
  · replace h := vNm.get (vNb.get h)
    rw [Array.toArray_toList] at h
    refine wp_value hx (done_mk h (hr.push (.cells c e) w.drawn) ?_ ((Grow.push w _ _).chg hr.hd.lt))
    rw [hsz]; rfl

theorem call_run {f : FuncId} {vs : List Value} {o : Oper} {k : AV → VS → Prop} (hr : RelB M0 w0 bs M s a w) (hcl : clsOf o.op = 1)
    (hx : (execOp a.eval o).run P w = .ok (.enter f vs.toArray) w)
    (h : SCalls P f vs s.H fun r H' => exR P o.type fun v => r = v ∧ k (.v v) { s with H := H' }) : o.wp P a w (Done M0 w0 bs M w o k) QF := by
  unfold Oper.wp
  rw [hx]
  refine (h M w hr.hd).mono ?_
  rintro e w' ⟨r, H', M', rfl, ha, hm, hh, hq⟩
  obtain ⟨v, hv, hk⟩ := exR_any hq
  subst hv
  exact done_mk hk (hr.call ha hm hh) rfl ⟨fun e => by omega, fun _ => ha.keep⟩ fun b h => (hm b (hr.hd.lt b h)).2 h

theorem fn_run {f : FuncId} (h : goFn P f = true) (args : Array Value) (w : World) : (callFunc f args).run P w = .ok (.enter f args) w := by
  unfold goFn at h
  unfold callFunc
  split at h
  · rename_i fn hf
    simp only [Bool.and_eq_true, bne_iff_ne, ne_eq] at h
    have h2 : (fn.name == "runtime.NumGoroutine") = false := by simpa using h.2
    have h1 : fn.body.isNone = false := by cases hb : fn.body <;> simp_all
    simp only [Sem.run_bind, run_program, Result.andThen_ok, hf, h2, h1, Bool.false_eq_true, if_false, Sem.run_pure]
  · cases h

theorem setCells_own {i b : Nat} {e : TypeId} : ∀ (vs cs : List Value) (off j : Nat) (s : VS) (w : World), RelB M0 w0 bs M s a w → bs[i]? = some b → s.ls[i]? = some (e, cs) →
    RelB M0 w0 bs M { s with ls := s.ls.set i (e, setR cs (off + j) vs) } a { w with heap := Hp.setCells w.heap ⟨b, off, none⟩ vs j }
  | [], cs, off, j, s, w, hr, hb, hs => by
    have : s.ls.set i (e, cs) = s.ls := by
      apply List.ext_getElem?
      intro n
      rw [List.getElem?_set]
      split
      · rename_i h; subst h; rw [if_pos (List.getElem?_eq_some_iff.1 hs).1, hs]
      · rfl
    simp only [setR, Hp.setCells, this]
    exact hr
  | v :: r, cs, off, j, s, w, hr, hb, hs => by
    have h1 := hr.setOwn (off := off + j) hb hs v
    have h2 := setCells_own r (cs.set (off + j) v) off (j + 1) _ _ h1 hb (by
      dsimp only
      rw [List.getElem?_set, if_pos rfl, if_pos (List.getElem?_eq_some_iff.1 hs).1])
    simp only [List.set_set] at h2
    have h3 : RelB M0 w0 bs M { s with ls := s.ls.set i (e, setR (cs.set (off + j) v) (off + (j + 1)) r) } a { w with heap := Hp.setCells (Hp.setCell w.heap ⟨b, off + j, none⟩ v) ⟨b, off, none⟩ r (j + 1) } := h2
    simp only [setR, Hp.setCells, Addr.add_loc, Nat.add_assoc]
    exact h3

theorem setCells_heap {p : Addr} : ∀ (vs : List Value) (j : Nat) (s : VS) (w : World), RelB M0 w0 bs M s a w → ¬ M p.block →
    RelB M0 w0 bs M { s with H := Hp.setCells s.H p vs j } a { w with heap := Hp.setCells w.heap p vs j }
  | [], j, s, w, hr, hp => hr
  | v :: r, j, s, w, hr, hp => by
    have hb : (p.add j).block = p.block := by unfold Addr.add; split <;> rfl
    have h1 := hr.setCell (p.add j) v (by rw [hb]; exact hp)
    exact setCells_heap r (j + 1) _ _ h1 hp

theorem keep_setCells {p : Addr} (hp : ¬ M p.block) : ∀ (vs : List Value) (j : Nat) (H : Hp) (b : Nat), M b → (Hp.setCells H p vs j)[b]? = H[b]?
  | [], _, _, _, _ => rfl
  | v :: r, j, H, b, hb => by
    have hb' : (p.add j).block = p.block := by unfold Addr.add; split <;> rfl
    show (Hp.setCells (Hp.setCell H (p.add j) v) p r (j + 1))[b]? = _
    rw [keep_setCells hp r (j + 1) _ b hb, Hp.getElem?_setCell_ne _ _ _ (fun e => hp (by rw [← hb', ← e]; exact hb))]

theorem WrAt.hides {H : Hp} {h : Hp} {p : Addr} {n : Nat} (hh : Hides M h H) (hw : WrAt H p n) : WrAt h p n ∧ (0 < n → ¬ M p.block) := by
  have hb : ∀ j, (p.add j).block = p.block := fun j => by unfold Addr.add; split <;> rfl
  have key : ∀ j, j < n → ¬ M p.block ∧ (Hp.cell? h (p.add j)).isSome = true ∧ Hp.frozen? h (p.add j) = false := fun j hj => by
    obtain ⟨h1, h2⟩ := hw j hj
    obtain ⟨v, hv⟩ := Option.isSome_iff_exists.1 h1
    obtain ⟨k1, k2⟩ := hh.cell hv
    refine ⟨by rw [← hb j]; exact k1, by rw [k2]; rfl, ?_⟩
    rw [← hh.frozen k1]; exact h2
  exact ⟨fun j hj => (key j hj).2, fun hn => (key 0 hn).1⟩

theorem store_run {o : Oper} {t : TypeId} {addr x : Operand} {v : Value} {k : VS → Prop} {k' : AV → VS → Prop} (hr : RelB M0 w0 bs M s a w) (ho : o.op = .store t addr x) (hv : a.eval x = v)
    {pr : List Nat} (h : vStore P pr t (s.ev addr) v s k) (hk : ∀ s', k s' → k' (.v undef) s') : o.wp P a w (Done M0 w0 bs M w o k') QF := by
  unfold vStore at h
  split at h <;> (first | exact h.elim | skip)
  rename_i ti hi
  split at h <;> (first | exact h.elim | skip)
  rename_i hsz h1
  have hsz' : v.cells.size = ti.size := Nat.eq_of_beq_eq_true hsz
  have hcls : clsOf o.op = 2 := by rw [ho]; rfl
  have fin : ∀ (p : Addr) (w' : World), a.eval addr = .pointer (some p) → (storeCells p v.cells.toList).run P w = .ok () w' → (execOp a.eval o).run P w = .ok .skip w' := fun p w' hp hs => by
    have he : execOp a.eval o = (do Instr.storeAt t (a.eval addr) (a.eval x); pure .skip) := by unfold execOp; rw [ho]
    rw [he, hp, hv]
    simp only [Instr.storeAt, Instr.sureAddr, storeVar, Sem.run_bind, Sem.run_pure, Result.andThen_ok, run_sizeOf' hi, hsz', ne_eq, not_true_eq_false, if_false, hs]
  have ha := hr.ev addr
  split at h <;> (first | exact h.elim | skip)
  · rename_i i off hl
    rw [hl] at ha
    obtain ⟨b, hb, hp⟩ := ha
    split at h <;> (first | exact h.elim | skip)
    rename_i e cs hcs
    split at h <;> (first | exact h.elim | skip)
    rename_i hle
    have hle' : off + ti.size ≤ cs.length := Nat.le_of_ble_eq_true hle
    obtain ⟨q1, q2, q3⟩ := hr.lc i b _ hb hcs
    have hst := run_stores (P := P) ⟨b, off, none⟩ v.cells.toList 0 w h1 fun j _ hj => by
      simp only [Array.length_toList, hsz', Nat.zero_add] at hj
      simp only [Addr.add_loc, Hp.cell?, Hp.frozen?, q3]
      refine ⟨?_, by simp⟩
      simp; omega
    have R := setCells_own v.cells.toList cs off 0 s w hr hb hcs
    exact wp_skip' (fin _ _ hp hst) (done_mk (hk _ h) R rfl ⟨fun e => by omega, fun e => by omega⟩)
  · rename_i p hl
    rw [hl] at ha
    obtain ⟨hw, h⟩ := h
    replace h := vNm.get h
    obtain ⟨hw', hm⟩ := WrAt.hides hr.hd hw
    have hst := run_stores (P := P) p v.cells.toList 0 w h1 fun j _ hj => hw' j (by simpa [hsz'] using hj)
    suffices R : RelB M0 w0 bs M { s with H := Hp.setCells s.H p v.cells.toList 0 } a { w with heap := Hp.setCells w.heap p v.cells.toList 0 } from
      wp_skip' (fin p _ ha hst) (done_mk (hk _ h) R rfl ⟨fun e => by omega, fun e => by omega⟩)
    by_cases hn : 0 < ti.size
    · exact setCells_heap _ _ _ _ hr (hm hn)
    · have : v.cells.toList = [] := List.eq_nil_of_length_eq_zero (by simp [hsz']; omega)
      rw [this]
      exact hr

theorem SrcAt.load {M : Nat → Prop} {h H : Hp} (hh : Hides M h H) {size n : Nat} {src : Value} {cs : List Value} (hs : SrcAt H size n src cs) (w : World) (hw : w.heap = h) :
    (Builtin.firstCells size n src).run P w = .ok cs.toArray w := by
  cases src with
  | slice p l c =>
    cases p with
    | none => obtain rfl : cs = [] := hs; simp [Builtin.firstCells]
    | some p =>
      obtain ⟨hl, hr⟩ := hs
      have := row_load (P := P) (w := w) (a := p) (vs := cs) (by rw [hw]; exact hr.hides hh)
      rw [hl] at this
      simpa [Builtin.firstCells] using this
  | string s =>
    obtain rfl : cs = (s.extract 0 n).data.toList.map fun b => Value.int .u8 b.toNat := hs
    simp only [Builtin.firstCells, Sem.run_pure]
    congr 1
    apply Array.ext'
    simp
  | _ => exact hs.elim

theorem srcLen_run {size n : Nat} {src : Value} {cs : List Value} {H : Hp} (hs : SrcAt H size n src cs) (w : World) : (Builtin.lenOf src).run P w = .ok (srcLen src) w := by
  unfold SrcAt at hs
  split at hs <;> (first | exact hs.elim | rfl)

theorem grownCap_ge' (w : World) (need old : Nat) (e : TypeId) : need ≤ (Question.appendCap need old e).cut (w.tape w.drawn (.appendCap need old e)) := by simp [Question.cut]
theorem grownCap_lt' (w : World) (need old : Nat) (e : TypeId) (h : need < 2 ^ 63) : (Question.appendCap need old e).cut (w.tape w.drawn (.appendCap need old e)) < 2 ^ 63 := by
  simp only [Question.cut]
  have := Nat.mod_lt (w.tape w.drawn (.appendCap need old e)) (show 0 < 2 ^ 63 - need by omega)
  omega

theorem app_run {t : TypeId} {xt : TypeDesc} {t2 ty : TypeId} {p : Option Addr} {len cap : Nat} {src : Value} {o : Oper} {k : AV → VS → Prop} (hr : RelB M0 w0 bs M s a w) (hcl : clsOf o.op = 1)
    (hx2 : P.underlying t2 = some xt) (hni : match xt with | .int _ => False | _ => True)
    (hx : ∀ v w', (Builtin.append_ #[t, t2] ty #[.slice p len cap, src]).run P w = .ok v w' → (execOp a.eval o).run P w = .ok (.value v) w')
    (h : vApp P t p len cap src s.H fun x H' => k (.v (.slice x.a x.len x.cap)) { s with H := H' }) : o.wp P a w (Done M0 w0 bs M w o k) QF := by
  obtain ⟨e, ti, z, news, hu, hi, hz, hby, hsrc, h1, hroom, hgrow⟩ := h
  have hld := SrcAt.load (P := P) hr.hd hsrc
  have hln := srcLen_run (P := P) hsrc
  have hsz := hr.hd.size
  have pre : (Builtin.append_ #[t, t2] ty #[.slice p len cap, src]).run P w = (if len + srcLen src ≤ cap then (do
      let new ← Builtin.firstCells ti.size (srcLen src) src
      if let some a := p then storeCells (a.add (len * ti.size)) new.toList
      pure (.slice p (len + srcLen src) cap) : Sem Value).run P w else (do
      if Builtin.nextslicecap (len + srcLen src) cap * ti.bytes > 2 ^ 48 then (do
        if !(← Builtin.mayShare ti.size len (srcLen src) p src) then mark .noRoom
        unsupported (.resourceLimit "append: a slice or a string whose bytes no memory bears"))
      let newCap ← choose (.appendCap (len + srcLen src) cap e)
      askRoom (newCap * ti.bytes)
      let old ← Builtin.firstCells ti.size len (.slice p len cap)
      let new ← Builtin.firstCells ti.size (srcLen src) src
      let rest := Builtin.zeroCells (← zeroValue e).cells (newCap - (len + srcLen src))
      pure (.slice (some (← newRow e (old ++ new ++ rest))) (len + srcLen src) newCap) : Sem Value).run P w) := by
    have hb0 : ¬ ti.bytes = 0 := by omega
    unfold Builtin.append_
    simp only [List.getElem?_toArray, List.getElem?_cons_zero, List.getElem?_cons_succ, Sem.run_bind, run_underlying hu, run_underlying hx2, Result.andThen_ok, run_sizeOf' hi, Sem.run_pure]
    cases xt <;> (first | exact hni.elim | skip) <;>
      simp only [Bool.false_eq_true, if_false, hln, Sem.run_ite, typeInfo, run_program, Sem.run_bind, hi, Sem.run_pure, hb0, or_self, and_false, Bool.not_false, if_true, Result.andThen_ok] <;> rfl
  by_cases hc : len + srcLen src ≤ cap
  · have hk := hroom hc
    rw [if_pos hc] at pre
    cases p with
    | none =>
      have hx' := hx (.slice none (len + srcLen src) cap) w (by rw [pre]; simp [hld w rfl])
      exact wp_value hx' (done_mk hk hr rfl (.refl _ _ _))
    | some ad =>
      obtain ⟨hw, hk⟩ := hk
      obtain ⟨hw', hm⟩ := WrAt.hides hr.hd hw
      have hst := run_stores (P := P) (ad.add (len * ti.size)) news 0 w h1 fun j _ hj => hw' j (by simpa using hj)
      have hx' := hx (.slice (some ad) (len + srcLen src) cap) { w with heap := Hp.setCells w.heap (ad.add (len * ti.size)) news 0 } (by rw [pre]; simp [hld w rfl, hst])
      have hmm : news = [] ∨ ¬ M (ad.add (len * ti.size)).block := by
        cases news with
        | nil => exact Or.inl rfl
        | cons v r => exact Or.inr (hm (by simp))
      have R : RelB M0 w0 bs M { s with H := Hp.setCells s.H (ad.add (len * ti.size)) news 0 } a { w with heap := Hp.setCells w.heap (ad.add (len * ti.size)) news 0 } := by
        rcases hmm with rfl | hm'
        · exact hr
        · exact setCells_heap _ _ _ _ hr hm'
      refine wp_value hx' (done_mk hk R rfl ⟨fun e => by omega, fun _ b hb => ?_⟩)
      rcases hmm with rfl | hm'
      · rfl
      · exact keep_setCells hm' _ _ _ _ hb
  · obtain ⟨olds, hold, hbytes, hk⟩ := hgrow (by omega)
    rw [if_neg hc] at pre
    have hfit := growslice_fits (old := cap) (by omega) hbytes
    have hold' := SrcAt.load (P := P) hr.hd hold
    have hnf : (Question.appendCap (len + srcLen src) cap e).forced = false := rfl
    have hge := grownCap_ge' w (len + srcLen src) cap e
    have hneed : len + srcLen src < 2 ^ 63 := by
      have := Nat.le_mul_of_pos_right (len + srcLen src) hby
      omega
    have hlt := grownCap_lt' w (len + srcLen src) cap e hneed
    have harr : ∀ Z : Array Value, olds.toArray ++ news.toArray ++ Z = (olds ++ news ++ Z.toList).toArray := fun Z => by apply Array.ext'; simp
    have hx' := hx (.slice (some ⟨w.heap.size, 0, none⟩) (len + srcLen src) ((Question.appendCap (len + srcLen src) cap e).cut (w.tape w.drawn (.appendCap (len + srcLen src) cap e))))
      { w with heap := w.heap.push (.cells (olds ++ news ++ (Builtin.zeroCells z.cells ((Question.appendCap (len + srcLen src) cap e).cut (w.tape w.drawn (.appendCap (len + srcLen src) cap e)) - (len + srcLen src))).toList).toArray e), drawn := w.drawn + 1 } (by
        rw [pre]
        have hno : ¬ Builtin.nextslicecap (len + srcLen src) cap * ti.bytes > 2 ^ 48 := by omega
        simp only [Sem.run_bind, Sem.run_ite, if_neg hno, Sem.run_pure, Result.andThen_ok, run_choose, hnf, Bool.false_eq_true, if_false, run_askRoom, hold' { w with drawn := w.drawn + 1 } rfl, hld { w with drawn := w.drawn + 1 } rfl, run_zero' hi hz, newRow, run_newObj, harr])
    have hk' := hk _ hge hlt
    refine wp_value hx' (done_mk hk' (hr.push _ (w.drawn + 1)) ?_ ⟨fun e => by omega, fun _ => ((Grow.push w _ _).chg (c := 1) hr.hd.lt).2 (Nat.le_refl _)⟩)
    rw [hsz]; rfl

/-! ### Beyond 'wp': a call of a round is a step of its own -/
/-- An operation, wherever it stands. -/
def WpE (P : Program) (o : Oper) (a : Act) (w : World) (K : Act → World → Prop) (Q : Exit → Act → World → Prop) : Prop :=
  o.uponIn Fence.wide 0 P a K Q ((execOp a.eval o).run P w)

theorem rowsIn_wide' {row : String} {args : Array Value} {R : Value → World → Prop} (h : Rows P row args w R) : RowsIn Fence.wide 0 P row args w R := fun c cs _ =>
  let ⟨v, w', r, s⟩ := h c cs; ⟨v, w', r, stepsIn_wide.2 s⟩

theorem wideN : (Fence.wide.depth.isSome = true → 1 ≤ 0) := fun h => by simp [Fence.wide] at h

theorem WpE.of {o : Oper} {K : Act → World → Prop} (h : o.wp P a w K QF) : WpE P o a w K QF := by
  unfold WpE
  unfold Oper.wp at h
  generalize (execOp a.eval o).run P w = r at *
  cases r with
  | ok n w' =>
    cases n <;> simp only [Oper.upon, Oper.uponIn] at h ⊢ <;>
      first
        | exact h
        | exact h.elim
        | exact ⟨wideN, callsIn_wide.2 h⟩
        | exact ⟨wideN, rowsIn_wide' h⟩
  | halt x w' => cases x <;> simp only [Oper.upon, Oper.uponIn] at h ⊢ <;> exact h

theorem WpE.mono {o : Oper} {K K' : Act → World → Prop} {Q : Exit → Act → World → Prop} (h : WpE P o a w K QF) (hk : ∀ a' w', K a' w' → K' a' w') : WpE P o a w K' Q := by
  unfold WpE at *
  generalize (execOp a.eval o).run P w = r at *
  cases r with
  | ok n w' =>
    cases n <;> simp only [Oper.uponIn] at h ⊢ <;>
      first
        | exact hk _ _ h
        | exact h.elim
        | exact ⟨h.1, CallsIn.mono h.2 (fun e w'' he => by cases e <;> first | exact hk _ _ he | exact he.elim | exact (by obtain ⟨_, _, hf⟩ := he; exact hf.elim))⟩
        | exact ⟨h.1, RowsIn.mono h.2 (fun _ _ he => hk _ _ he)⟩
        | exact ⟨h.1, RoundIn.mono h.2 (fun e w'' he => by cases e <;> first | exact hk _ _ he | exact he.elim | exact (by obtain ⟨_, _, hf⟩ := he; exact hf.elim))⟩
  | halt x w' => cases x <;> simp only [Oper.uponIn] at h ⊢ <;> exact h.elim

theorem yield_run {l : Nat} {vs : List Value} {o : Oper} {k : AV → VS → Prop} (hr : RelB M0 w0 bs M s a w) (hcl : clsOf o.op = 1)
    (hx : (execOp a.eval o).run P w = (Instr.yield l vs.toArray).run P w)
    (h : YCalls P l vs s.H fun r H' => exR P o.type fun v => r = v ∧ k (.v v) { s with H := H' }) : WpE P o a w (Done M0 w0 bs M w o k) QF := by
  unfold WpE
  obtain ⟨f, tm, x, y, h1, h2⟩ := h M w hr.hd
  rw [hx, h1]
  refine ⟨wideN, h2.mono ?_⟩
  rintro e w' ⟨r, H', M', rfl, ha, hm, hh, hq⟩
  obtain ⟨v, hv, hk⟩ := exR_any hq
  subst hv
  exact done_mk hk (hr.call ha hm hh) rfl ⟨fun e => by omega, fun _ => ha.keep⟩ fun b h => (hm b (hr.hd.lt b h)).2 h

theorem ext_run {f : FuncId} {vs : List Value} {o : Oper} {k : AV → VS → Prop} (hr : RelB M0 w0 bs M s a w)
    (hx : (execOp a.eval o).run P w = (callFunc f vs.toArray).run P w)
    (h : ExtC P f vs s.H fun r H' => exR P o.type fun v => r = v ∧ k (.v v) { s with H := H' }) : o.wp P a w (Done M0 w0 bs M w o k) QF := by
  obtain ⟨u, hu, hq⟩ := h
  obtain ⟨v, hv, hk⟩ := exR_any hq
  subst hv
  exact wp_value (hx.trans (hu M w hr.hd)) (done_mk hk hr rfl (.refl _ _ _))

theorem wrap_pos {n : Int} (h0 : 0 < n) (h1 : n ≤ 9223372036854775807) : IntKind.i64.wrap n = n := by
  unfold IntKind.wrap
  simp only [IntKind.bits, IntKind.signed, Bool.true_and, decide_eq_true_eq, show (2 : Int) ^ 64 = 18446744073709551616 from rfl, show (2 : Int) ^ (64 - 1) = 9223372036854775808 from rfl]
  split <;> omega

theorem appz_run {t : TypeId} {ik ik' : IntKind} {t2 ty : TypeId} {p : Option Addr} {len cap : Nat} {n : Int} {o : Oper} {k : AV → VS → Prop} (hr : RelB M0 w0 bs M s a w) (hcl : clsOf o.op = 1)
    (hx2 : P.underlying t2 = some (.int ik))
    (hx : ∀ v w', (Builtin.append_ #[t, t2] ty #[.slice p len cap, .int ik' n]).run P w = .ok v w' → (execOp a.eval o).run P w = .ok (.value v) w')
    (h : vAppZ P t p len cap n s.H fun x H' => k (.v (.slice x.a x.len x.cap)) { s with H := H' }) : o.wp P a w (Done M0 w0 bs M w o k) QF := by
  obtain ⟨e, ti, z, hu, hi, hz, hby, hsi, hn0, hn1, hbytes, h1, hroom, hgrow⟩ := h
  have hsz := hr.hd.size
  generalize hz0 : Builtin.zeroCells z.cells n.toNat = zs at *
  have hnb : ¬ n * ti.bytes > 2 ^ 48 := by
    have hb : n.toNat * ti.bytes ≤ (len + n.toNat) * ti.bytes := Nat.mul_le_mul_right _ (by omega)
    have e1 : n * (ti.bytes : Int) = ((n.toNat * ti.bytes : Nat) : Int) := by rw [Int.natCast_mul, Int.toNat_of_nonneg (by omega)]
    rw [e1]
    have : n.toNat * ti.bytes ≤ 140737488355328 := Nat.le_trans hb hbytes
    have e2 : (2 : Int) ^ 48 = 281474976710656 := rfl
    rw [e2]; omega
  have hneed : len + n.toNat < 2 ^ 63 := by
    have := Nat.le_mul_of_pos_right (len + n.toNat) hby
    omega
  have pre : (Builtin.append_ #[t, t2] ty #[.slice p len cap, .int ik' n]).run P w = (if len + n.toNat ≤ cap then (do
      if let some a := p then storeCells (a.add (len * ti.size)) zs.toList
      pure (.slice p (len + n.toNat) cap) : Sem Value).run P w else (do
      if Builtin.nextslicecap (len + n.toNat) cap * ti.bytes > 2 ^ 48 then runtimePanic (.error "growslice: len out of range")
      let newCap ← choose (.appendCap (len + n.toNat) cap e)
      askRoom (newCap * ti.bytes)
      let old ← Builtin.firstCells ti.size len (.slice p len cap)
      let rest := Builtin.zeroCells (← zeroValue e).cells (newCap - (len + n.toNat))
      pure (.slice (some (← newRow e (old ++ zs ++ rest))) (len + n.toNat) newCap) : Sem Value).run P w) := by
    have hl0 : ¬ n < 0 := by omega
    have hA : ∀ w, (asInt (.int ik' n)).run P w = .ok n w := fun _ => rfl
    have hns : ¬ n.toNat * ti.size = 0 := by
      have : 0 < n.toNat * ti.size := Nat.mul_pos (by omega) hsi
      omega
    have hmax : ¬ ((len + n.toNat : Nat) : Int) > IntKind.i64.max := by
      have : IntKind.i64.max = 9223372036854775807 := rfl
      omega
    unfold Builtin.append_
    simp only [List.getElem?_toArray, List.getElem?_cons_zero, List.getElem?_cons_succ, Sem.run_bind, run_underlying hu, run_underlying hx2, Result.andThen_ok, run_sizeOf' hi, Sem.run_pure, hA, if_true, wrap_pos hn0 hn1, hl0, if_false, typeInfo, run_program, hi, hnb, hns, run_zero' hi hz, hz0, Bool.not_true, Bool.false_eq_true, Sem.run_ite, hmax, false_and]
    rfl
  by_cases hc : len + n.toNat ≤ cap
  · have hk := hroom hc
    rw [if_pos hc] at pre
    cases p with
    | none =>
      have hx' := hx (.slice none (len + n.toNat) cap) w (by rw [pre]; simp)
      exact wp_value hx' (done_mk hk hr rfl (.refl _ _ _))
    | some ad =>
      obtain ⟨hw, hk⟩ := hk
      obtain ⟨hw', hm⟩ := WrAt.hides hr.hd hw
      have hst := run_stores (P := P) (ad.add (len * ti.size)) zs.toList 0 w h1 fun j _ hj => hw' j (by simpa using hj)
      have hx' := hx (.slice (some ad) (len + n.toNat) cap) { w with heap := Hp.setCells w.heap (ad.add (len * ti.size)) zs.toList 0 } (by rw [pre]; simp [hst])
      have hmm : zs.toList = [] ∨ ¬ M (ad.add (len * ti.size)).block := by
        cases hzz : zs.toList with
        | nil => exact Or.inl rfl
        | cons v r => exact Or.inr (hm (by rw [hzz]; simp))
      have R : RelB M0 w0 bs M { s with H := Hp.setCells s.H (ad.add (len * ti.size)) zs.toList 0 } a { w with heap := Hp.setCells w.heap (ad.add (len * ti.size)) zs.toList 0 } := by
        rcases hmm with h0 | hm'
        · rw [h0]; exact hr
        · exact setCells_heap _ _ _ _ hr hm'
      refine wp_value hx' (done_mk hk R rfl ⟨fun e => by omega, fun _ b hb => ?_⟩)
      rcases hmm with h0 | hm'
      · rw [h0]; rfl
      · exact keep_setCells hm' _ _ _ _ hb
  · obtain ⟨olds, hold, hk⟩ := hgrow (by omega)
    rw [if_neg hc] at pre
    have hfit := growslice_fits (old := cap) (by omega) hbytes
    have hold' := SrcAt.load (P := P) hr.hd hold
    have hnf : (Question.appendCap (len + n.toNat) cap e).forced = false := rfl
    have hge := grownCap_ge' w (len + n.toNat) cap e
    have hlt := grownCap_lt' w (len + n.toNat) cap e hneed
    have harr : ∀ Z : Array Value, olds.toArray ++ zs ++ Z = (olds ++ zs.toList ++ Z.toList).toArray := fun Z => by apply Array.ext'; simp
    have hx' := hx (.slice (some ⟨w.heap.size, 0, none⟩) (len + n.toNat) ((Question.appendCap (len + n.toNat) cap e).cut (w.tape w.drawn (.appendCap (len + n.toNat) cap e))))
      { w with heap := w.heap.push (.cells (olds ++ zs.toList ++ (Builtin.zeroCells z.cells ((Question.appendCap (len + n.toNat) cap e).cut (w.tape w.drawn (.appendCap (len + n.toNat) cap e)) - (len + n.toNat))).toList).toArray e), drawn := w.drawn + 1 } (by
        rw [pre]
        have hno : ¬ Builtin.nextslicecap (len + n.toNat) cap * ti.bytes > 2 ^ 48 := by omega
        simp only [Sem.run_bind, Sem.run_ite, if_neg hno, Sem.run_pure, Result.andThen_ok, run_choose, hnf, Bool.false_eq_true, if_false, run_askRoom, hold' { w with drawn := w.drawn + 1 } rfl, run_zero' hi hz, newRow, run_newObj, harr])
    have hk' := hk _ hge hlt
    refine wp_value hx' (done_mk hk' (hr.push _ (w.drawn + 1)) ?_ ⟨fun e => by omega, fun _ => ((Grow.push w _ _).chg (c := 1) hr.hd.lt).2 (Nat.le_refl _)⟩)
    rw [hsz]; rfl

theorem clear_run {t ty : TypeId} {p : Option Addr} {n c : Nat} {o : Oper} {k : AV → VS → Prop} (hr : RelB M0 w0 bs M s a w) (hcl : clsOf o.op = 1) (tys : Array TypeId) (ht : tys[0]? = some t)
    (hx : ∀ v w', (Builtin.clear_ tys ty #[.slice p n c]).run P w = .ok v w' → (execOp a.eval o).run P w = .ok (.value v) w')
    (h : vClear P t p n s.H fun H' => k (.v (.tuple #[])) { s with H := H' }) : o.wp P a w (Done M0 w0 bs M w o k) QF := by
  obtain ⟨e, ti, z, hu, hi, hz, h1, hk⟩ := h
  cases p with
  | none =>
    refine wp_value (hx (.tuple #[]) w ?_) (done_mk hk hr rfl (.refl _ _ _))
    simp only [Builtin.clear_, ht, List.getElem?_toArray, List.getElem?_cons_zero, Sem.run_bind, run_underlying hu, Result.andThen_ok]; rfl
  | some ad =>
    by_cases hn : n = 0
    · subst hn
      refine wp_value (hx (.tuple #[]) w ?_) (done_mk (hk.1 rfl) hr rfl (.refl _ _ _))
      simp only [Builtin.clear_, ht, List.getElem?_toArray, List.getElem?_cons_zero, Sem.run_bind, run_underlying hu, Result.andThen_ok]; rfl
    · obtain ⟨hw, hk⟩ := hk.2 (by omega)
      obtain ⟨hw', hm⟩ := WrAt.hides hr.hd hw
      have hst := run_stores (P := P) ad (Builtin.zeroCells z.cells n).toList 0 w h1 fun j _ hj => hw' j (by simpa using hj)
      have hx' := hx (.tuple #[]) { w with heap := Hp.setCells w.heap ad (Builtin.zeroCells z.cells n).toList 0 } (by
        obtain ⟨m, rfl⟩ : ∃ m, n = m + 1 := ⟨n - 1, by omega⟩
        simp only [Builtin.clear_, ht, List.getElem?_toArray, List.getElem?_cons_zero, Sem.run_bind, run_underlying hu, Result.andThen_ok, run_zero' hi hz, hst]
        rfl)
      have hmm : (Builtin.zeroCells z.cells n).toList = [] ∨ ¬ M ad.block := by
        cases hzz : (Builtin.zeroCells z.cells n).toList with
        | nil => exact Or.inl rfl
        | cons v r => exact Or.inr (hm (by rw [hzz]; simp))
      have R : RelB M0 w0 bs M { s with H := Hp.setCells s.H ad (Builtin.zeroCells z.cells n).toList 0 } a { w with heap := Hp.setCells w.heap ad (Builtin.zeroCells z.cells n).toList 0 } := by
        rcases hmm with h0 | hm'
        · rw [h0]; exact hr
        · exact setCells_heap _ _ _ _ hr hm'
      refine wp_value hx' (done_mk hk R rfl ⟨fun e => by omega, fun _ b hb => ?_⟩)
      rcases hmm with h0 | hm'
      · rw [h0]; rfl
      · exact keep_setCells hm' _ _ _ _ hb

/-- Anywhere; in a frame of a function, or of a round. -/
def FW (r : Option Nat) : Fence := { Fence.wide with round := r }
theorem FW.room (r : Option Nat) (n : Nat) : (FW r).room n := fun _ h => by simp [FW, Fence.wide] at h

theorem WpE.wpIn (r : Option Nat) {o : Oper} {K : Act → World → Prop} {Q : Exit → Act → World → Prop} (hd : ∀ c, o.op ≠ .defer c) (h : WpE P o a w K Q) : o.wpIn (FW r) 0 P a w K Q := by
  refine ⟨fun _ _ => trivial, ?_⟩
  rw [Oper.semAt_eq _ _ _ hd]
  exact h
end Go.KC
