/- THE CORE, part 9: every operation of the walk. Generic. -/
import Derived.Test.YtihadekhodlacaaKc8
import Derived.Laws.BytesString
set_option linter.all false
set_option linter.constructorNameAsVariable false
namespace Go.KC
variable {P : Program} {M0 : Nat → Prop} {w0 : World} {bs : List Nat} {M : Nat → Prop} {s : VS} {a : Act} {w : World}

theorem copy_run {t ty : TypeId} {p : Option Addr} {len cap : Nat} {src : Value} {o : Oper} {k : AV → VS → Prop} (hr : RelB M0 w0 bs M s a w) (hcl : clsOf o.op = 1) (tys : Array TypeId) (ht : tys[0]? = some t)
    (hx : ∀ v w', (Builtin.copy_ tys ty #[.slice p len cap, src]).run P w = .ok v w' → (execOp a.eval o).run P w = .ok (.value v) w')
    (h : vCopy P t p len src s.H fun n H' => k (.v (.int .i64 n)) { s with H := H' }) : o.wp P a w (Done M0 w0 bs M w o k) QF := by
  obtain ⟨e, ti, cs, hu, hi, hsrc, h1, hk⟩ := h
  have hld := SrcAt.load (P := P) hr.hd hsrc w rfl
  have hln := srcLen_run (P := P) hsrc w
  have pre : (Builtin.copy_ tys ty #[.slice p len cap, src]).run P w = (do
      if let some a := p then storeCells a cs
      pure (goInt (Nat.min (srcLen src) len)) : Sem Value).run P w := by
    simp only [Builtin.copy_, ht, List.getElem?_toArray, List.getElem?_cons_zero, List.getElem?_cons_succ, Sem.run_bind, run_underlying hu, hln, Result.andThen_ok, run_sizeOf' hi, hld, Sem.run_pure]
    cases p <;> rfl
  cases p with
  | none =>
    have hx' := hx (goInt (Nat.min (srcLen src) len)) w (by rw [pre]; simp)
    exact wp_value hx' (done_mk hk hr rfl (.refl _ _ _))
  | some ad =>
    obtain ⟨hw, hk⟩ := hk
    obtain ⟨hw', hm⟩ := WrAt.hides hr.hd hw
    have hst := run_stores (P := P) ad cs 0 w h1 fun j _ hj => hw' j (by simpa using hj)
    have hx' := hx (goInt (Nat.min (srcLen src) len)) { w with heap := Hp.setCells w.heap ad cs 0 } (by rw [pre]; simp [hst])
    have hmm : cs = [] ∨ ¬ M ad.block := by
      cases cs with
      | nil => exact Or.inl rfl
      | cons v r => exact Or.inr (hm (by simp))
    have R : RelB M0 w0 bs M { s with H := Hp.setCells s.H ad cs 0 } a { w with heap := Hp.setCells w.heap ad cs 0 } := by
      rcases hmm with rfl | hm'
      · exact hr
      · exact setCells_heap _ _ _ _ hr hm'
    refine wp_value hx' (done_mk hk R rfl ⟨fun e => by omega, fun _ b hb => ?_⟩)
    rcases hmm with rfl | hm'
    · rfl
    · exact keep_setCells hm' _ _ _ _ hb

theorem push_all : ∀ (l : List UInt8) (acc : ByteArray), (l.map fun b => (b.toNat : Int)).foldl (fun r n => r.push (UInt8.ofNat n.toNat)) acc = ⟨acc.data ++ l.toArray⟩
  | [], acc => by simp
  | b :: r, acc => by
    have : UInt8.ofNat ((b.toNat : Int)).toNat = b := by simp
    rw [List.map_cons, List.foldl_cons, push_all r, this]
    simp [ByteArray.push]

theorem run_b2s {ad : Addr} {n c : Nat} {t : ByteArray} (hn : t.size = n) (hr : RowAt w.heap ad (t.data.toList.map fun b => .int .u8 b.toNat)) :
    (Conv.bytesToString (.slice (some ad) n c)).run P w = .ok (.string t) w := by
  have hl := row_load (P := P) (w := w) hr
  have hlen : (t.data.toList.map fun b => Value.int .u8 b.toNat).length = n := by simp; exact hn
  rw [hlen] at hl
  have h := run_bytesToString (P := P) w ad n c (t.data.toList.map fun b => (b.toNat : Int)) (by rw [hl, List.map_map]; rfl)
  rw [push_all] at h
  simpa using h

theorem s2b_run {e : TypeId} {t : ByteArray} {o : Oper} {k : AV → VS → Prop} (hr : RelB M0 w0 bs M s a w) (hcl : clsOf o.op = 0)
    (hx : ∀ v w', (Conv.stringToBytes e t).run P w = .ok v w' → (execOp a.eval o).run P w = .ok (.value v) w') (hsmall : t.size < 2 ^ 63)
    (h : vS2B e t s.H fun x H' => k (.v (.slice x.a x.len x.cap)) { s with H := H' }) : o.wp P a w (Done M0 w0 bs M w o k) QF := by
  have hsz := hr.hd.size
  have hnf : (Question.appendCap t.size 0 e).forced = false := rfl
  have hge := grownCap_ge' w t.size 0 e
  have hlt := grownCap_lt' w t.size 0 e hsmall
  generalize hc : (Question.appendCap t.size 0 e).cut (w.tape w.drawn (.appendCap t.size 0 e)) = c at hge hlt
  have hk := h c hge hlt
  have harr : (t.data.map fun b => Value.int .u8 b.toNat) ++ Array.replicate (c - t.size) (Value.int .u8 0) = (t.data.toList.map (fun b => Value.int .u8 b.toNat) ++ List.replicate (c - t.size) (Value.int .u8 0)).toArray := by
    apply Array.ext'; simp
  have hcs : ((t.data.toList.map (fun b => Value.int .u8 b.toNat) ++ List.replicate (c - t.size) (Value.int .u8 0)).toArray).size = c := by
    have : t.data.size = t.size := rfl
    simp [this]; omega
  have hx' := hx (.slice (some ⟨w.heap.size, 0, none⟩) t.size c) { w with heap := w.heap.push (.cells (t.data.toList.map (fun b => Value.int .u8 b.toNat) ++ List.replicate (c - t.size) (Value.int .u8 0)).toArray e (c, c + 1)), drawn := w.drawn + 1 } (by
    have hsh : ∀ o : Obj, World.shape? { w with heap := w.heap.push o, drawn := w.drawn + 1 } w.heap.size = (match o with | .cells c e _ => some (e, c.size) | _ => none) := fun o => by
      simp only [World.shape?, Array.getElem?_push, if_true]
      cases o <;> rfl
    simp only [Conv.stringToBytes, Sem.run_bind, run_choose, hnf, Bool.false_eq_true, if_false, Result.andThen_ok, hc, harr, newRow, run_newObj, markStringish, run_shape, hsh, Sem.run_pure, hcs, run_freeze]
    congr 1
    simp only [World.freeze, Nat.one_ne_zero, if_false]
    congr 1
    apply Array.ext
    · simp
    · intro i h1 h2
      rw [Array.getElem_modify]
      split
      · rename_i hi
        subst hi
        simp
      · rename_i hi
        have hi' : i < w.heap.size := by
          simp at h2; omega
        rw [Array.getElem_push_lt hi', Array.getElem_push_lt hi'])
  refine wp_value hx' (done_mk hk (hr.push _ (w.drawn + 1)) ?_ ((Grow.push w _ _).chg hr.hd.lt))
  rw [hsz]; rfl

theorem bld_run {t e : TypeId} {n : Nat} {ti : TypeInfo} {z : Value} {ps : List (Nat × Value)} {cells : Array Value} (hu : P.underlying t = some (.slice e)) (hi : P.info? e = some ti) (hz : ti.zero = some z)
    (hle : n * ti.size ≤ 16777216)
    (hf : Instr.fill (fun i => some (i * ti.size, ti.size)) ((Array.range (n * ti.size)).map ((if n * ti.size = 0 then #[] else z.cells)[· % (if n * ti.size = 0 then #[] else z.cells).size]!)) ps = some cells) :
    (Instr.buildSlice t n ps.toArray).run P w = .ok (.slice (some ⟨w.heap.size, 0, none⟩) n n) { w with heap := w.heap.push (.cells cells e) } := by
  have h24 : ¬ n * ti.size > 2 ^ 24 := by omega
  unfold Instr.buildSlice
  simp only [Sem.run_bind, run_underlying hu, Result.andThen_ok, run_sizeOf' hi, Sem.run_ite, if_neg h24, Sem.run_pure]
  by_cases hn : n * ti.size = 0
  · simp only [if_pos hn] at hf ⊢
    simp only [hf, newRow, Sem.run_bind, run_newObj, Result.andThen_ok, Sem.run_pure]
  · simp only [if_neg hn] at hf ⊢
    simp only [run_zero' hi hz, Result.andThen_ok, hf, newRow, Sem.run_bind, run_newObj, Sem.run_pure]

theorem loadVar_part {b off : Nat} {cs : List Value} {e t : TypeId} {v : Value} {ti : TypeInfo} (hb : w.heap[b]? = some (.cells cs.toArray e (0, 0))) (hi : P.info? t = some ti) (hle : off + ti.size ≤ cs.length)
    (h : eqS.partV P t cs.toArray off = some v) : (loadVar t ⟨b, off, none⟩).run P w = .ok v w := by
  have hc : ∀ j, w.cell? ⟨b, j, none⟩ = cs[j]? := fun j => by simp [World.cell?, hb]
  unfold eqS.partV at h
  rw [hi] at h
  split at h
  · rename_i d ti' hd hi'
    cases hi'
    split at h
    · rename_i ha
      cases h
      have hl := row_load (P := P) (w := w) (a := ⟨b, off, none⟩) (vs := (cs.drop off).take ti.size) (fun j u hu => by
        rw [Addr.add_loc]
        rw [List.getElem?_take] at hu
        split at hu
        · rw [List.getElem?_drop] at hu
          exact (hc _).trans hu
        · cases hu)
      have hn : ((cs.drop off).take ti.size).length = ti.size := by simp; omega
      rw [hn] at hl
      simp only [loadVar, Sem.run_bind, run_isAgg' hd, ha, Result.andThen_ok, if_true, run_sizeOf' hi, hl, Sem.run_pure]
      congr 2
      apply Array.ext'
      simp [List.extract_eq_take_drop]
    · rename_i ha
      have hcv : w.cell? ⟨b, off, none⟩ = some v := by rw [hc]; simpa using h
      simp only [loadVar, Sem.run_bind, run_isAgg' hd, ha, Result.andThen_ok, Bool.false_eq_true, if_false, run_load, hcv]
  · cases h

theorem bs_exec {ev : Operand → Value} {dst : Option Tmp} {t type : TypeId} {n : Nat} {parts : Array (Nat × Operand)} {pos : String} {after : Array Edge} {guard : Option (Nat × Bool)} {v : Value} {w' : World}
    (h : (Instr.buildSlice t n (parts.map fun (i, x) => (i, ev x))).run P w = .ok v w') : (execOp ev ⟨dst, .buildSlice t n parts, type, pos, after, guard⟩).run P w = .ok (.value v) w' := by
  unfold execOp
  dsimp only
  rw [Sem.run_bind, h]
  rfl

/-- WHAT THE WALK SAYS OF AN OPERATION IS SO. -/
theorem vOp_run {pr : List Nat} {o : Oper} {k : AV → VS → Prop} (hr : RelB M0 w0 bs M s a w) (h : vOp P pr o s k) : o.wp P a w (Done M0 w0 bs M w o k) QF := by
  obtain ⟨dst, op, type, pos, after, guard⟩ := o
  have pv : ∀ (S : Sem Value) (v : Value) (w' : World), execOp a.eval ⟨dst, op, type, pos, after, guard⟩ = (do pure (.value (← S))) → S.run P w = .ok v w' →
      (execOp a.eval ⟨dst, op, type, pos, after, guard⟩).run P w = .ok (.value v) w' := fun S v w' he hS => by
    rw [he]; simp only [Sem.run_bind, hS, Result.andThen_ok, Sem.run_pure]
  unfold vOp at h
  dsimp only at h
  split at h
  · rename_i e
    split at h <;> (first | exact h.elim | skip)
    rename_i ti hi
    split at h <;> (first | exact h.elim | skip)
    rename_i z hz
    refine new_run hr h (pv _ _ _ rfl ?_)
    simp [Instr.alloc, run_zero' hi hz, newVar, newRow]
  · rename_i e x
    split at h <;> (first | exact h.elim | skip)
    rename_i v hv
    have hx := hr.ev x
    rw [hv] at hx
    refine new_run hr h (pv _ _ _ rfl ?_)
    rw [show a.eval x = v from hx]
    simp [Instr.box, newVar, newRow]
  · rename_i t n parts
    split at h <;> (first | exact h.elim | skip)
    rename_i e ps hu hps
    split at h <;> (first | exact h.elim | skip)
    rename_i ti hi
    split at h <;> (first | exact h.elim | skip)
    rename_i z hz hle
    split at h <;> (first | exact h.elim | skip)
    rename_i cells hf
    have e1 := evParts_run hr.ev _ _ hps
    have e2 : (parts.map fun (i, x) => (i, a.eval x)) = ps.toArray := by rw [← e1, ← Array.toList_map, Array.toArray_toList]
    have hb := bld_run (w := w) hu hi hz (Nat.le_of_ble_eq_true hle) hf
    rw [← e2] at hb
    have hx := bs_exec (ev := a.eval) (dst := dst) (type := type) (pos := pos) (after := after) (guard := guard) hb
    clear hf hb
    refine wp_value hx (done_mk h (hr.push (.cells cells e) w.drawn) ?_ ((Grow.push w _ _).chg hr.hd.lt))
    rw [hr.hd.size]; rfl
  · rename_i t addr
    have ha := hr.ev addr
    split at h <;> (first | exact h.elim | skip)
    · rename_i i off hl
      rw [hl] at ha
      obtain ⟨b, hb, hp⟩ := ha
      split at h <;> (first | exact h.elim | skip)
      rename_i e cs ti hcs hti
      split at h <;> (first | exact h.elim | skip)
      rename_i hle
      obtain ⟨q1, q2, q3⟩ := hr.lc i b _ hb hcs
      have h' : vPart P t (cs.toArray).toList off fun v => k (.v v) s := by simpa using h
      obtain ⟨v, hk, hpv⟩ := vPart_part h'
      have hrun := loadVar_part (P := P) (w := w) (b := b) (off := off) (cs := cs) q3 hti (Nat.le_of_ble_eq_true hle) hpv
      exact wp_value (pv _ _ _ rfl (by rw [hp]; simpa [Instr.loadAt, Instr.sureAddr] using hrun)) (done_mk hk hr rfl (.refl _ _ _))
    · rename_i p hl
      rw [hl] at ha
      obtain ⟨v, hk, hrun⟩ := vLoad_run (M := M) h
      exact wp_value (pv _ _ _ rfl (by rw [show a.eval addr = _ from ha]; exact hrun w fun b v hc => (hr.hd.cell hc).2)) (done_mk hk hr rfl (.refl _ _ _))
  · rename_i t addr x
    split at h <;> (first | exact h.elim | skip)
    rename_i v hv
    have hx := hr.ev x
    rw [hv] at hx
    exact store_run hr rfl hx h fun s' hk => hk
  · rename_i src dst' x
    have hx := hr.ev x
    split at h
    · rename_i p n c e hv hs hd
      rw [hv] at hx
      have hx' : a.eval x = .slice p n c := hx
      split at h <;> (first | exact h.elim | skip)
      rename_i he
      unfold vB2S at h
      split at h
      · refine wp_value (pv (convert src dst' (a.eval x)) _ w rfl ?_) (done_mk h hr rfl (.refl _ _ _))
        rw [hx']
        simp [convert, run_underlying hs, run_underlying hd, run_underlying he, Conv.bytesToString]
      · rename_i ad
        obtain ⟨t, ⟨hn, hrow⟩, hk⟩ := h
        refine wp_value (pv (convert src dst' (a.eval x)) _ w rfl ?_) (done_mk hk hr rfl (.refl _ _ _))
        rw [hx']
        have := run_b2s (P := P) (c := c) (w := w) hn (hrow.hides hr.hd)
        simp [convert, run_underlying hs, run_underlying hd, run_underlying he, this]
    · rename_i t e hv hs hd
      rw [hv] at hx
      have hx' : a.eval x = .string t := hx
      split at h <;> (first | exact h.elim | skip)
      rename_i he
      obtain ⟨hsm, h⟩ := h
      refine s2b_run hr rfl (fun v w' hrun => pv (convert src dst' (a.eval x)) v w' rfl ?_) hsm h
      rw [hx']
      simp [convert, run_underlying hs, run_underlying hd, run_underlying he, hrun]
    · exact done_pure hr h
  · rename_i f args tys
    split at h <;> (first | exact h.elim | skip)
    rename_i fv vs hf hargs
    have hfv := hr.ev f
    rw [hf] at hfv
    have e1 := evAll_run hr.ev _ _ hargs
    have e2 : args.map a.eval = vs.toArray := by rw [← e1, ← Array.toList_map, Array.toArray_toList]
    unfold vInv at h
    split at h <;> (first | exact h.elim | skip)
    rename_i fn fi ca
    split at h <;> (first | exact h.elim | skip)
    rename_i hgo
    refine call_run hr rfl ?_ h
    have hfv' : a.eval f = .func (.func fn) fi ca := hfv
    have he : execOp a.eval ⟨dst, .call { callee := .value f, args := args, argTypes := tys }, type, pos, after, guard⟩ = (do
      let d ← Deferred.ofValue (a.eval f) (args.map a.eval); invoke d.target d.args) := rfl
    rw [he, hfv', e2]
    simp only [Deferred.ofValue, Sem.run_bind, Sem.run_pure, Result.andThen_ok, invoke]
    rw [fn_run hgo]
    congr 2
    apply Array.ext'
    simp
  · rename_i args tys
    split at h <;> (first | exact h.elim | skip)
    rename_i p len cap src t xt hargs ht hxt
    have e1 := evAll_run hr.ev _ _ hargs
    have e2 : args.map a.eval = #[.slice p len cap, src] := by apply Array.ext'; rw [Array.toList_map, e1]
    have go : ∀ v w', (Builtin.append_ tys type #[.slice p len cap, src]).run P w = .ok v w' →
        (execOp a.eval ⟨dst, .call { callee := .builtin .append, args := args, argTypes := tys }, type, pos, after, guard⟩).run P w = .ok (.value v) w' := fun v w' hv => by
      have he : execOp a.eval ⟨dst, .call { callee := .builtin .append, args := args, argTypes := tys }, type, pos, after, guard⟩ = (do pure (.value (← Builtin.append_ tys type (args.map a.eval)))) := rfl
      rw [he, e2]; simp only [Sem.run_bind, hv, Result.andThen_ok, Sem.run_pure]
    have htys : ∀ v w', (Builtin.append_ #[t, xt] type #[.slice p len cap, src]).run P w = .ok v w' → (Builtin.append_ tys type #[.slice p len cap, src]).run P w = .ok v w' := fun v w' hv => by
      have : Builtin.append_ tys type #[.slice p len cap, src] = Builtin.append_ #[t, xt] type #[.slice p len cap, src] := by
        unfold Builtin.append_
        simp only [ht, hxt, List.getElem?_toArray, List.getElem?_cons_zero, List.getElem?_cons_succ]
      rw [this]; exact hv
    split at h <;> (first | exact h.elim | skip)
    · rename_i e hu2
      exact app_run hr rfl hu2 trivial (fun v w' hv => go v w' (htys v w' hv)) h
    · rename_i hu2
      exact app_run hr rfl hu2 trivial (fun v w' hv => go v w' (htys v w' hv)) h
  · rename_i args tys
    split at h <;> (first | exact h.elim | skip)
    rename_i p len cap src t hargs ht
    have e1 := evAll_run hr.ev _ _ hargs
    have e2 : args.map a.eval = #[.slice p len cap, src] := by apply Array.ext'; rw [Array.toList_map, e1]
    have go : ∀ v w', (Builtin.copy_ tys type #[.slice p len cap, src]).run P w = .ok v w' →
        (execOp a.eval ⟨dst, .call { callee := .builtin .copy, args := args, argTypes := tys }, type, pos, after, guard⟩).run P w = .ok (.value v) w' := fun v w' hv => by
      have he : execOp a.eval ⟨dst, .call { callee := .builtin .copy, args := args, argTypes := tys }, type, pos, after, guard⟩ = (do pure (.value (← Builtin.copy_ tys type (args.map a.eval)))) := rfl
      rw [he, e2]; simp only [Sem.run_bind, hv, Result.andThen_ok, Sem.run_pure]
    exact copy_run hr rfl tys ht go h
  · exact done_pure hr h

end Go.KC
