/- THE CORE, part 5: the state of a walk (slots, own variables, the heap as seen) against the model's frame and world; how each change of the world keeps them together. Generic. -/
import Derived.Test.YtgogmmhkelenkaaKc4
set_option linter.all false
set_option linter.constructorNameAsVariable false
namespace Go.KC

def markOf (r : Nat) : Deferred := { target := .collected r, args := #[] }

/-- A frame's deferred calls: the marks of ranges over functions, in no round of which anything was deferred. -/
def Marks (w0 : World) (M : Nat → Prop) (w : World) (ds : List Deferred) : Prop :=
  ∃ mk : List Nat, ds = mk.map markOf ∧ mk.Nodup ∧ ∀ r ∈ mk, M r ∧ w0.heap.size ≤ r ∧ w.heap[r]? = some (.deferred (some []))

theorem Marks.mono {w0 w w' : World} {M M' : Nat → Prop} {ds : List Deferred} (h : Marks w0 M w ds)
    (hk : ∀ r, M r → w.heap[r]? = some (.deferred (some [])) → M' r ∧ w'.heap[r]? = some (.deferred (some []))) : Marks w0 M' w' ds := by
  obtain ⟨mk, h1, h2, h3⟩ := h
  exact ⟨mk, h1, h2, fun r hr => let ⟨q1, q2, q3⟩ := h3 r hr; ⟨(hk r q1 q3).1, q2, (hk r q1 q3).2⟩⟩

theorem push_keep {w : World} {r : Nat} {o : Obj} (x : Obj) (h : w.heap[r]? = some o) : (w.heap.push x)[r]? = some o := by
  have := (Array.getElem?_eq_some_iff.1 h).1
  rw [Array.getElem?_push, if_neg (by omega)]; exact h

/-- The state s stands for the frame a and the world w of a call that began in w0 with M0 hidden; bs: where its own variables lie; M: what is hidden now. -/
structure RelB (M0 : Nat → Prop) (w0 : World) (bs : List Nat) (M : Nat → Prop) (s : VS) (a : Act) (w : World) : Prop where
  m0 : ∀ b, M0 b → b < w0.heap.size
  sz : a.tmps.size = s.fr.length
  tm : ∀ (t : Nat) (x : AV), s.fr[t]? = some x → ∃ v, a.tmps[t]? = some v ∧ Conc bs x v
  df : Marks w0 M w a.defers
  aft : Aft M0 w0 w
  mo : ∀ b, b < w0.heap.size → (M b ↔ M0 b)
  hd : Hides M w.heap s.H
  ll : bs.length = s.ls.length
  lc : ∀ (i b : Nat) (p : TypeId × List Value), bs[i]? = some b → s.ls[i]? = some p → M b ∧ w0.heap.size ≤ b ∧ w.heap[b]? = some (.cells p.2.toArray p.1 (0, 0))
  nd : ∀ (i j b : Nat), bs[i]? = some b → bs[j]? = some b → i = j

def Rel (M0 : Nat → Prop) (w0 : World) (s : VS) (a : Act) (w : World) : Prop := ∃ bs M, RelB M0 w0 bs M s a w

section
variable {M0 : Nat → Prop} {w0 : World} {bs : List Nat} {M : Nat → Prop} {s : VS} {a : Act} {w : World}

theorem RelB.ev (h : RelB M0 w0 bs M s a w) (x : Operand) : Conc bs (s.ev x) (a.eval x) := by
  cases x with
  | tmp t =>
    simp only [VS.ev, Act.eval]
    cases ht : s.fr[t]? with
    | none =>
      have : a.tmps[t]? = none := by
        rw [Array.getElem?_eq_none_iff, h.sz]
        exact List.getElem?_eq_none_iff.1 ht
      simp [Array.getD_eq_getD_getElem?, this, Conc]
    | some x =>
      obtain ⟨v, hv, hc⟩ := h.tm t x ht
      simpa [Array.getD_eq_getD_getElem?, hv] using hc
  | const v => rfl
  | global g => rfl
  | func f => rfl

theorem RelB.put (h : RelB M0 w0 bs M s a w) (dst : Option Tmp) {x : AV} {v : Value} (hc : Conc bs x v) : RelB M0 w0 bs M (s.put dst x) (a.put dst v) w := by
  cases dst with
  | none => exact h
  | some d =>
    refine ⟨h.m0, by simp [VS.put, Act.put, h.sz], fun t y hy => ?_, h.df, h.aft, h.mo, h.hd, h.ll, h.lc, h.nd⟩
    simp only [VS.put, Act.put] at *
    rw [List.getElem?_set] at hy
    rw [Array.getElem?_setIfInBounds]
    split at hy
    · rename_i hdt
      split at hy
      · cases hy
        rename_i hlt
        rw [if_pos hdt, if_pos (by rw [h.sz]; exact hlt)]
        exact ⟨v, rfl, hc⟩
      · cases hy
    · rename_i hdt
      rw [if_neg hdt]
      exact h.tm t y hy

theorem Conc.mono {bs bs' : List Nat} {x : AV} {v : Value} (h : Conc bs x v) (hp : ∀ (i b : Nat), bs[i]? = some b → bs'[i]? = some b) : Conc bs' x v := by
  cases x with
  | v y => exact h
  | loc i off => obtain ⟨b, hb, hv⟩ := h; exact ⟨b, hp i b hb, hv⟩
  | any => trivial
  | ent x y => exact h

theorem RelB.drew (h : RelB M0 w0 bs M s a w) (d : Nat) : RelB M0 w0 bs M s a { w with drawn := d } :=
  ⟨h.m0, h.sz, h.tm, h.df, ⟨⟨h.aft.strm.os, h.aft.strm.tape, h.aft.strm.output⟩, h.aft.size, h.aft.keep⟩, h.mo, h.hd, h.ll, h.lc, h.nd⟩

theorem RelB.push (h : RelB M0 w0 bs M s a w) (o : Obj) (d : Nat) : RelB M0 w0 bs M { s with H := s.H.push o } a { w with heap := w.heap.push o, drawn := d } := by
  refine ⟨h.m0, h.sz, h.tm, h.df.mono fun r hm hr => ⟨hm, push_keep o hr⟩, h.aft.push h.m0 o d, h.mo, h.hd.push, h.ll, fun i b p hb hp => ?_, h.nd⟩
  obtain ⟨h1, h2, h3⟩ := h.lc i b p hb hp
  refine ⟨h1, h2, ?_⟩
  have := h.hd.lt b h1
  show (w.heap.push o)[b]? = _
  rw [Array.getElem?_push, if_neg (by omega)]
  exact h3

theorem RelB.pushOwn (h : RelB M0 w0 bs M s a w) (e : TypeId) (cells : List Value) :
    RelB M0 w0 (bs ++ [w.heap.size]) (fun b => M b ∨ b = w.heap.size) { s with ls := s.ls ++ [(e, cells)], H := s.H.push hole } a { w with heap := w.heap.push (.cells cells.toArray e) } := by
  have hpre : ∀ (i b : Nat), bs[i]? = some b → (bs ++ [w.heap.size])[i]? = some b := fun i b hb => by
    rw [List.getElem?_append_left (List.getElem?_eq_some_iff.1 hb).1]; exact hb
  have hcase : ∀ (i b : Nat), (bs ++ [w.heap.size])[i]? = some b → bs[i]? = some b ∨ (i = bs.length ∧ b = w.heap.size) := fun i b hb => by
    rw [List.getElem?_append] at hb
    split at hb
    · exact Or.inl hb
    · rename_i hi
      right
      have : i - bs.length = 0 := by
        rcases Nat.eq_zero_or_pos (i - bs.length) with h0 | h0
        · exact h0
        · rw [List.getElem?_eq_none (by simp; omega)] at hb; cases hb
      rw [this] at hb
      simp at hb
      exact ⟨by omega, hb.symm⟩
  have hlt : ∀ (i b : Nat), bs[i]? = some b → b < w.heap.size := fun i b hb => by
    have hi := (List.getElem?_eq_some_iff.1 hb).1
    rw [h.ll] at hi
    exact h.hd.lt b (h.lc i b _ hb (List.getElem?_eq_getElem hi)).1
  have hs := h.aft.size
  refine ⟨h.m0, h.sz, fun t x hx => ?_, h.df.mono fun r hm hr => ⟨Or.inl hm, push_keep _ hr⟩, ?_, fun b hb => ?_, h.hd.pushHid, by simp [h.ll], fun i b p hb hp => ?_, fun i j b hi hj => ?_⟩
  · obtain ⟨v, hv, hc⟩ := h.tm t x hx
    exact ⟨v, hv, hc.mono hpre⟩
  · exact h.aft.push h.m0 _ w.drawn
  · have : b ≠ w.heap.size := by omega
    simp only [this, or_false]
    exact h.mo b hb
  · show _ ∧ _ ∧ (w.heap.push _)[b]? = _
    rcases hcase i b hb with hb' | ⟨rfl, rfl⟩
    · have hi := (List.getElem?_eq_some_iff.1 hb').1
      rw [h.ll] at hi
      rw [List.getElem?_append_left hi] at hp
      obtain ⟨h1, h2, h3⟩ := h.lc i b p hb' hp
      refine ⟨Or.inl h1, h2, ?_⟩
      rw [Array.getElem?_push, if_neg (by have := hlt i b hb'; omega)]
      exact h3
    · rw [h.ll, List.getElem?_append_right (Nat.le_refl _)] at hp
      simp at hp
      subst hp
      exact ⟨Or.inr rfl, hs, by rw [Array.getElem?_push, if_pos rfl]⟩
  · rcases hcase i b hi with hi' | ⟨e1, e2⟩
    · rcases hcase j b hj with hj' | ⟨e3, e4⟩
      · exact h.nd i j b hi' hj'
      · have := hlt i b hi'; omega
    · rcases hcase j b hj with hj' | ⟨e3, e4⟩
      · have := hlt j b hj'; omega
      · omega

theorem RelB.setCell (h : RelB M0 w0 bs M s a w) (p : Addr) (v : Value) (hp : ¬ M p.block) : RelB M0 w0 bs M { s with H := Hp.setCell s.H p v } a (w.setCell p v) := by
  refine ⟨h.m0, h.sz, h.tm, h.df.mono fun r hm hr => ⟨hm, by rw [setCell_world, Hp.getElem?_setCell_ne _ _ _ (fun e => hp (e ▸ hm))]; exact hr⟩, h.aft.setCell p v (fun e => hp ((h.mo _ (h.m0 _ e)).2 e)), h.mo, h.hd.setCell hp, h.ll, fun i b q hb hq => ?_, h.nd⟩
  obtain ⟨h1, h2, h3⟩ := h.lc i b q hb hq
  refine ⟨h1, h2, ?_⟩
  rw [setCell_world, Hp.getElem?_setCell_ne _ _ _ (fun e => hp (e ▸ h1))]
  exact h3

theorem RelB.setOwn (h : RelB M0 w0 bs M s a w) {i b off : Nat} {e : TypeId} {cs : List Value} (hb : bs[i]? = some b) (hp : s.ls[i]? = some (e, cs)) (v : Value) :
    RelB M0 w0 bs M { s with ls := s.ls.set i (e, cs.set off v) } a (w.setCell ⟨b, off, none⟩ v) := by
  obtain ⟨h1, h2, h3⟩ := h.lc i b _ hb hp
  have hi : i < s.ls.length := (List.getElem?_eq_some_iff.1 hp).1
  refine ⟨h.m0, h.sz, h.tm, h.df.mono fun r hm hr => ⟨hm, by rw [setCell_world, Hp.getElem?_setCell_ne _ _ _ (fun e => by rw [e] at hr; rw [show w.heap[b]? = _ from h3] at hr; cases hr)]; exact hr⟩, h.aft.setCell _ v (fun e => by have := h.m0 _ e; simp at this; omega), h.mo, h.hd.setHid h1, by simp [h.ll], fun j c q hc hq => ?_, h.nd⟩
  dsimp only at hq
  rw [List.getElem?_set] at hq
  by_cases hij : i = j
  · subst hij
    rw [if_pos rfl, if_pos hi] at hq
    cases hq
    rw [hb] at hc; cases hc
    refine ⟨h1, h2, ?_⟩
    rw [setCell_world, Hp.getElem?_setCell_same _ ⟨b, off, none⟩ v h3]
    simp
  · rw [if_neg hij] at hq
    obtain ⟨k1, k2, k3⟩ := h.lc j c q hc hq
    refine ⟨k1, k2, ?_⟩
    rw [setCell_world, Hp.getElem?_setCell_ne _ _ _ (fun e => hij (h.nd i j b hb (by rw [show b = c from e.symm]; exact hc)))]
    exact k3

theorem RelB.call (h : RelB M0 w0 bs M s a w) {w' : World} {H' : Hp} {M' : Nat → Prop} (ha : Aft M w w') (hm : ∀ b, b < w.heap.size → (M' b ↔ M b)) (hh : Hides M' w'.heap H') :
    RelB M0 w0 bs M' { s with H := H' } a w' := by
  have hs := h.aft.size
  refine ⟨h.m0, h.sz, h.tm, h.df.mono fun r hm' hr => ⟨(hm r (h.hd.lt r hm')).2 hm', (ha.keep r hm').trans hr⟩, ⟨h.aft.strm.trans ha.strm, Nat.le_trans hs ha.size, fun b hb => ?_⟩, fun b hb => ?_, hh, h.ll, fun i b p hb hp => ?_, h.nd⟩
  · have := h.m0 b hb
    rw [ha.keep b ((h.mo b this).2 hb)]
    exact h.aft.keep b hb
  · rw [hm b (by omega)]; exact h.mo b hb
  · obtain ⟨h1, h2, h3⟩ := h.lc i b p hb hp
    exact ⟨(hm b (h.hd.lt b h1)).2 h1, h2, (ha.keep b h1).trans h3⟩

/-- A block for deferred calls is laid, hidden; its mark is pushed. -/
theorem RelB.pushMark (h : RelB M0 w0 bs M s a w) : RelB M0 w0 bs (fun b => M b ∨ b = w.heap.size) { s with H := s.H.push hole } { a with defers := markOf w.heap.size :: a.defers } { w with heap := w.heap.push (.deferred (some [])) } := by
  have hs := h.aft.size
  refine ⟨h.m0, h.sz, h.tm, ?_, h.aft.push h.m0 _ w.drawn, fun b hb => ?_, h.hd.pushHid, h.ll, fun i b p hb hp => ?_, h.nd⟩
  · obtain ⟨mk, h1, h2, h3⟩ := h.df
    refine ⟨w.heap.size :: mk, by simp [h1], List.nodup_cons.2 ⟨fun hm => ?_, h2⟩, fun r hr => ?_⟩
    · have := h.hd.lt _ (h3 _ hm).1; omega
    · rcases List.mem_cons.1 hr with rfl | hr
      · exact ⟨Or.inr rfl, hs, by simp⟩
      · obtain ⟨q1, q2, q3⟩ := h3 r hr
        exact ⟨Or.inl q1, q2, push_keep _ q3⟩
  · have : b ≠ w.heap.size := by omega
    simp only [this, or_false]
    exact h.mo b hb
  · obtain ⟨q1, q2, q3⟩ := h.lc i b p hb hp
    exact ⟨Or.inl q1, q2, push_keep _ q3⟩

/-- A block that is seen becomes another object. -/
theorem RelB.setObj (h : RelB M0 w0 bs M s a w) {l : Nat} (o : Obj) (hl : ¬ M l) : RelB M0 w0 bs M { s with H := s.H.setIfInBounds l o } a { w with heap := w.heap.setIfInBounds l o } := by
  have ne : ∀ b, M b → (w.heap.setIfInBounds l o)[b]? = w.heap[b]? := fun b hb => Array.getElem?_setIfInBounds_ne (fun e => hl (by rw [e]; exact hb))
  refine ⟨h.m0, h.sz, h.tm, h.df.mono fun r hm hr => ⟨hm, (ne r hm).trans hr⟩, ⟨⟨h.aft.strm.os, h.aft.strm.tape, h.aft.strm.output⟩, ?_, fun b hb => ?_⟩, h.mo, ⟨?_, fun b hb => ?_, fun b hb => ?_, fun b hb => ?_⟩, h.ll, fun i b p hb hp => ?_, h.nd⟩
  · have := h.aft.size; simpa using this
  · have hM := (h.mo b (h.m0 b hb)).2 hb
    exact (ne b hM).trans (h.aft.keep b hb)
  · have := h.hd.size; simpa using this
  · have := h.hd.lt b hb; simpa using this
  · have hs := h.hd.size
    have h1 := h.hd.same b hb
    show (s.H.setIfInBounds l o)[b]? = (w.heap.setIfInBounds l o)[b]?
    rw [Array.getElem?_setIfInBounds, Array.getElem?_setIfInBounds, hs, h1]
  · show (s.H.setIfInBounds l o)[b]? = _
    rw [Array.getElem?_setIfInBounds_ne (fun e => hl (by rw [e]; exact hb))]; exact h.hd.hid b hb
  · obtain ⟨q1, q2, q3⟩ := h.lc i b p hb hp
    exact ⟨q1, q2, (ne b q1).trans q3⟩

/-- The last mark is come to. -/
theorem RelB.takeMark (h : RelB M0 w0 bs M s a w) {mk : List Nat} {r : Nat} (hd : a.defers = (r :: mk).map markOf) (hn : (r :: mk).Nodup) (hk : ∀ q ∈ r :: mk, M q ∧ w0.heap.size ≤ q ∧ w.heap[q]? = some (.deferred (some []))) :
    RelB M0 w0 bs M s { a with defers := mk.map markOf } { w with heap := w.heap.setIfInBounds r (.deferred none) } ∧
      (∀ q ∈ mk, M q ∧ w0.heap.size ≤ q ∧ (w.heap.setIfInBounds r (.deferred none))[q]? = some (.deferred (some []))) := by
  obtain ⟨m1, m2, m3⟩ := hk r (by simp)
  obtain ⟨n1, n2⟩ := List.nodup_cons.1 hn
  have rest : ∀ q ∈ mk, M q ∧ w0.heap.size ≤ q ∧ (w.heap.setIfInBounds r (.deferred none))[q]? = some (.deferred (some [])) := fun q hq => by
    obtain ⟨q1, q2, q3⟩ := hk q (by simp [hq])
    exact ⟨q1, q2, by rw [Array.getElem?_setIfInBounds_ne (fun (e : r = q) => n1 (by rw [e]; exact hq))]; exact q3⟩
  refine ⟨⟨h.m0, h.sz, h.tm, ⟨mk, rfl, n2, rest⟩, ⟨⟨h.aft.strm.os, h.aft.strm.tape, h.aft.strm.output⟩, ?_, fun b hb => ?_⟩, h.mo, ⟨?_, fun b hb => ?_, fun b hb => ?_, h.hd.hid⟩, h.ll, fun i b p hb hp => ?_, h.nd⟩, rest⟩
  · have := h.aft.size; simpa using this
  · have := h.m0 b hb
    show (w.heap.setIfInBounds r _)[b]? = _
    rw [Array.getElem?_setIfInBounds_ne (by omega)]; exact h.aft.keep b hb
  · have := h.hd.size; simpa using this
  · have := h.hd.lt b hb; simpa using this
  · show _ = (w.heap.setIfInBounds r _)[b]?
    rw [Array.getElem?_setIfInBounds_ne (fun e => hb (by rw [← e]; exact m1))]; exact h.hd.same b hb
  · obtain ⟨q1, q2, q3⟩ := h.lc i b p hb hp
    refine ⟨q1, q2, ?_⟩
    show (w.heap.setIfInBounds r _)[b]? = _
    rw [Array.getElem?_setIfInBounds_ne (fun e => by rw [e] at m3; rw [m3] at q3; cases q3)]; exact q3

theorem keepFr_get (lv : List Nat) (n : Nat) : ∀ (l : List AV) (i t : Nat) (x : AV), (keepFr lv n i l)[t]? = some x →
    ∃ y, l[t]? = some y ∧ (x = .any ∨ (x = y ∧ ∀ j off, x = .loc j off → j < n))
  | [], i, t, x, h => by simp [keepFr] at h
  | y :: r, i, 0, x, h => by
    simp only [keepFr, List.getElem?_cons_zero, Option.some.injEq] at h
    refine ⟨y, rfl, ?_⟩
    subst h
    split
    · split
      · rename_i hlt; exact Or.inr ⟨rfl, fun j' off' e => by cases e; exact Nat.le_of_ble_eq_true hlt⟩
      · exact Or.inl rfl
    · rename_i hno; exact Or.inr ⟨rfl, fun j off e => (hno j off e).elim⟩
    · exact Or.inl rfl
  | y :: r, i, t + 1, x, h => by
    simp only [keepFr, List.getElem?_cons_succ] at h
    simpa using keepFr_get lv n r (i + 1) t x h

theorem keepFr_length (lv : List Nat) (n : Nat) : ∀ (l : List AV) (i : Nat), (keepFr lv n i l).length = l.length
  | [], _ => rfl
  | _ :: r, i => by simp [keepFr, keepFr_length lv n r (i + 1)]

theorem RelB.keep (h : RelB M0 w0 bs M s a w) (lv : List Nat) (n : Nat) : RelB M0 w0 (bs.take n) M (s.keep lv n) a w := by
  have hpre : ∀ (i b : Nat), (bs.take n)[i]? = some b → bs[i]? = some b := fun i b hb => by
    rw [List.getElem?_take] at hb; split at hb <;> simp_all
  refine ⟨h.m0, ?_, fun t x hx => ?_, h.df, h.aft, h.mo, h.hd, by simp [VS.keep, h.ll], fun i b p hb hp => ?_, fun i j b hi hj => h.nd i j b (hpre i b hi) (hpre j b hj)⟩
  · simp only [VS.keep, keepFr_length]; exact h.sz
  · obtain ⟨y, hy, hx'⟩ := keepFr_get lv n s.fr 0 t x hx
    obtain ⟨v, hv, hc⟩ := h.tm t y hy
    refine ⟨v, hv, ?_⟩
    rcases hx' with rfl | ⟨rfl, hj⟩
    · trivial
    · cases x with
      | v y => exact hc
      | loc i off =>
        obtain ⟨b, hb, hv⟩ := hc
        exact ⟨b, by rw [List.getElem?_take, if_pos (hj i off rfl)]; exact hb, hv⟩
      | any => trivial
      | ent x y => exact hc
  · refine h.lc i b p (hpre i b hb) ?_
    simp only [VS.keep] at hp
    rw [List.getElem?_take] at hp; split at hp <;> simp_all

/-- The start of a call. -/
theorem RelB.start {args : List Value} {n : Nat} {H : Hp} (hh : Hides M0 w0.heap H) :
    RelB M0 w0 [] M0 { fr := args.map AV.v ++ List.replicate (n - args.length) (.v undef), ls := [], H := H } { tmps := args.toArray ++ Array.replicate (n - args.length) undef, defers := [] } w0 := by
  refine ⟨hh.lt, by simp, fun t x hx => ?_, ⟨[], rfl, List.nodup_nil, fun r hr => by simp at hr⟩, .refl _ _, fun _ _ => Iff.rfl, hh, rfl, fun i b p hb => by simp at hb, fun i j b hb => by simp at hb⟩
  dsimp only at hx
  rw [List.getElem?_append] at hx
  simp only [List.length_map] at hx
  rw [Array.getElem?_append]
  simp only [List.size_toArray]
  split at hx
  · rename_i hlt
    rw [if_pos hlt]
    simp only [List.getElem?_map, Option.map_eq_some_iff] at hx
    obtain ⟨v, hv, rfl⟩ := hx
    exact ⟨v, by simpa using hv, rfl⟩
  · rename_i hlt
    rw [if_neg hlt]
    have hx' := List.getElem?_eq_some_iff.1 hx
    obtain ⟨hl, hx'⟩ := hx'
    rw [List.getElem_replicate] at hx'
    subst hx'
    refine ⟨undef, ?_, rfl⟩
    rw [Array.getElem?_replicate, if_pos (by rw [List.length_replicate] at hl; omega)]
end
end Go.KC
