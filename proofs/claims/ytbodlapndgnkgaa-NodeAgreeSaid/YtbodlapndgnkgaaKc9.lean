/- THE CORE, part 9: every operation of the walk. Generic. -/
import Derived.Test.YtbodlapndgnkgaaKc8
import Derived.Laws.BytesString
set_option linter.all false
set_option linter.constructorNameAsVariable false
namespace Go.KC
variable {P : Program} {M0 : Nat → Prop} {w0 : World} {bs : List Nat} {M : Nat → Prop} {s : VS} {a : Act} {w : World}

theorem copy_run {t ty : TypeId} {p : Option Addr} {len cap : Nat} {src : Value} {o : Oper} {k : AV → VS → Prop} (hr : RelB M0 w0 bs M s a w) (hcl : clsOf o.op = 1) (tys : Array TypeId) (ht : tys[0]? = some t)
    (hx : ∀ v w', (Builtin.copy_ tys ty #[.slice p len cap, src]).run P w = .ok v w' → (execOp a.eval o).run P w = .ok (.value v) w')
    (h : vCopy P t p len src s.H fun n H' => k (.v (.int .i64 n)) { s with H := H' }) : o.wp P a w (Done M0 w0 bs M w o k) QF := by
  obtain ⟨e, ti, cs, hu, hi, hsrc, h1, hk⟩ := h
  have hld := SrcAt.load (P := P) hr.hd hsrc w rfl
  have hln := srcLen_run (P := P) hsrc w
  have pre : (Builtin.copy_ tys ty #[.slice p len cap, src]).run P w = (do
      if let some a := p then storeCells a cs
      pure (goInt (Nat.min (srcLen src) len)) : Sem Value).run P w := by
    simp only [Builtin.copy_, ht, List.getElem?_toArray, List.getElem?_cons_zero, List.getElem?_cons_succ, Sem.run_bind, run_underlying hu, hln, Result.andThen_ok, run_sizeOf' hi, hld, Sem.run_pure]
    cases p <;> rfl
  cases p with
  | none =>
    have hx' := hx (goInt (Nat.min (srcLen src) len)) w (by rw [pre]; simp)
    exact wp_value hx' (done_mk hk hr rfl (.refl _ _ _))
  | some ad =>
    obtain ⟨hw, hk⟩ := hk
    obtain ⟨hw', hm⟩ := WrAt.hides hr.hd hw
    have hst := run_stores (P := P) ad cs 0 w h1 fun j _ hj => hw' j (by simpa using hj)
    have hx' := hx (goInt (Nat.min (srcLen src) len)) { w with heap := Hp.setCells w.heap ad cs 0 } (by rw [pre]; simp [hst])
    have hmm : cs = [] ∨ ¬ M ad.block := by
      cases cs with
      | nil => exact Or.inl rfl
      | cons v r => exact Or.inr (hm (by simp))
    have R : RelB M0 w0 bs M { s with H := Hp.setCells s.H ad cs 0 } a { w with heap := Hp.setCells w.heap ad cs 0 } := by
      rcases hmm with rfl | hm'
      · exact hr
      · exact setCells_heap _ _ _ _ hr hm'
    refine wp_value hx' (done_mk hk R rfl ⟨fun e => by omega, fun _ b hb => ?_⟩)
    rcases hmm with rfl | hm'
    · rfl
    · exact keep_setCells hm' _ _ _ _ hb

theorem push_all : ∀ (l : List UInt8) (acc : ByteArray), (l.map fun b => (b.toNat : Int)).foldl (fun r n => r.push (UInt8.ofNat n.toNat)) acc = ⟨acc.data ++ l.toArray⟩
  | [], acc => by simp
  | b :: r, acc => by
    have : UInt8.ofNat ((b.toNat : Int)).toNat = b := by simp
    rw [List.map_cons, List.foldl_cons, push_all r, this]
    simp [ByteArray.push]

theorem run_b2s {ad : Addr} {n c : Nat} {t : ByteArray} (hn : t.size = n) (hr : RowAt w.heap ad (t.data.toList.map fun b => .int .u8 b.toNat)) :
    (Conv.bytesToString (.slice (some ad) n c)).run P w = .ok (.string t) w := by
  have hl := row_load (P := P) (w := w) hr
  have hlen : (t.data.toList.map fun b => Value.int .u8 b.toNat).length = n := by simp; exact hn
  rw [hlen] at hl
  have h := run_bytesToString (P := P) w ad n c (t.data.toList.map fun b => (b.toNat : Int)) (by rw [hl, List.map_map]; rfl)
  rw [push_all] at h
  simpa using h

theorem s2b_run {e : TypeId} {t : ByteArray} {o : Oper} {k : AV → VS → Prop} (hr : RelB M0 w0 bs M s a w) (hcl : clsOf o.op = 0)
    (hx : ∀ v w', (Conv.stringToBytes e t).run P w = .ok v w' → (execOp a.eval o).run P w = .ok (.value v) w') (hsmall : t.size < 2 ^ 63)
    (h : vS2B e t s.H fun x H' => k (.v (.slice x.a x.len x.cap)) { s with H := H' }) : o.wp P a w (Done M0 w0 bs M w o k) QF := by
  have hsz := hr.hd.size
  have hnf : (Question.appendCap t.size 0 e).forced = false := rfl
  have hge := grownCap_ge' w t.size 0 e
  have hlt := grownCap_lt' w t.size 0 e hsmall
  generalize hc : (Question.appendCap t.size 0 e).cut (w.tape w.drawn (.appendCap t.size 0 e)) = c at hge hlt
  have hk := h c hge hlt
  have harr : (t.data.map fun b => Value.int .u8 b.toNat) ++ Array.replicate (c - t.size) (Value.int .u8 0) = (t.data.toList.map (fun b => Value.int .u8 b.toNat) ++ List.replicate (c - t.size) (Value.int .u8 0)).toArray := by
    apply Array.ext'; simp
  have hcs : ((t.data.toList.map (fun b => Value.int .u8 b.toNat) ++ List.replicate (c - t.size) (Value.int .u8 0)).toArray).size = c := by
    have : t.data.size = t.size := rfl
    simp [this]; omega
  have hx' := hx (.slice (some ⟨w.heap.size, 0, none⟩) t.size c) { w with heap := w.heap.push (.cells (t.data.toList.map (fun b => Value.int .u8 b.toNat) ++ List.replicate (c - t.size) (Value.int .u8 0)).toArray e (c, c + 1)), drawn := w.drawn + 1 } (by
    have hsh : ∀ o : Obj, World.shape? { w with heap := w.heap.push o, drawn := w.drawn + 1 } w.heap.size = (match o with | .cells c e _ => some (e, c.size) | _ => none) := fun o => by
      simp only [World.shape?, Array.getElem?_push, if_true]
      cases o <;> rfl
    simp only [Conv.stringToBytes, Sem.run_bind, run_choose, hnf, Bool.false_eq_true, if_false, Result.andThen_ok, hc, harr, newRow, run_newObj, markStringish, run_shape, hsh, Sem.run_pure, hcs, run_freeze]
    congr 1
    simp only [World.freeze, Nat.one_ne_zero, if_false]
    congr 1
    apply Array.ext
    · simp
    · intro i h1 h2
      rw [Array.getElem_modify]
      split
      · rename_i hi
        subst hi
        simp
      · rename_i hi
        have hi' : i < w.heap.size := by
          simp at h2; omega
        rw [Array.getElem_push_lt hi', Array.getElem_push_lt hi'])
  refine wp_value hx' (done_mk hk (hr.push _ (w.drawn + 1)) ?_ ((Grow.push w _ _).chg hr.hd.lt))
  rw [hsz]; rfl

theorem bld_run {t e : TypeId} {n : Nat} {ti : TypeInfo} {z : Value} {ps : List (Nat × Value)} {cells : Array Value} (hu : P.underlying t = some (.slice e)) (hi : P.info? e = some ti) (hz : ti.zero = some z)
    (hle : n * ti.size ≤ 16777216)
    (hf : Instr.fill (fun i => some (i * ti.size, ti.size)) ((Array.range (n * ti.size)).map ((if n * ti.size = 0 then #[] else z.cells)[· % (if n * ti.size = 0 then #[] else z.cells).size]!)) ps = some cells) :
    (Instr.buildSlice t n ps.toArray).run P w = .ok (.slice (some ⟨w.heap.size, 0, none⟩) n n) { w with heap := w.heap.push (.cells cells e) } := by
  have h24 : ¬ n * ti.size > 2 ^ 24 := by omega
  unfold Instr.buildSlice
  simp only [Sem.run_bind, run_underlying hu, Result.andThen_ok, run_sizeOf' hi, Sem.run_ite, if_neg h24, Sem.run_pure]
  by_cases hn : n * ti.size = 0
  · simp only [if_pos hn] at hf ⊢
    simp only [hf, newRow, Sem.run_bind, run_newObj, Result.andThen_ok, Sem.run_pure]
  · simp only [if_neg hn] at hf ⊢
    simp only [run_zero' hi hz, Result.andThen_ok, hf, newRow, Sem.run_bind, run_newObj, Sem.run_pure]

theorem loadVar_part {b off : Nat} {cs : List Value} {e t : TypeId} {v : Value} {ti : TypeInfo} (hb : w.heap[b]? = some (.cells cs.toArray e (0, 0))) (hi : P.info? t = some ti) (hle : off + ti.size ≤ cs.length)
    (h : eqS.partV P t cs.toArray off = some v) : (loadVar t ⟨b, off, none⟩).run P w = .ok v w := by
  have hc : ∀ j, w.cell? ⟨b, j, none⟩ = cs[j]? := fun j => by simp [World.cell?, hb]
  unfold eqS.partV at h
  rw [hi] at h
  split at h
  · rename_i d ti' hd hi'
    cases hi'
    split at h
    · rename_i ha
      cases h
      have hl := row_load (P := P) (w := w) (a := ⟨b, off, none⟩) (vs := (cs.drop off).take ti.size) (fun j u hu => by
        rw [Addr.add_loc]
        rw [List.getElem?_take] at hu
        split at hu
        · rw [List.getElem?_drop] at hu
          exact (hc _).trans hu
        · cases hu)
      have hn : ((cs.drop off).take ti.size).length = ti.size := by simp; omega
      rw [hn] at hl
      simp only [loadVar, Sem.run_bind, run_isAgg' hd, ha, Result.andThen_ok, if_true, run_sizeOf' hi, hl, Sem.run_pure]
      congr 2
      apply Array.ext'
      simp [List.extract_eq_take_drop]
    · rename_i ha
      have hcv : w.cell? ⟨b, off, none⟩ = some v := by rw [hc]; simpa using h
      simp only [loadVar, Sem.run_bind, run_isAgg' hd, ha, Result.andThen_ok, Bool.false_eq_true, if_false, run_load, hcv]
  · cases h

theorem bs_exec {ev : Operand → Value} {dst : Option Tmp} {t type : TypeId} {n : Nat} {parts : Array (Nat × Operand)} {pos : String} {after : Array Edge} {guard : Option (Nat × Bool)} {v : Value} {w' : World}
    (h : (Instr.buildSlice t n (parts.map fun (i, x) => (i, ev x))).run P w = .ok v w') : (execOp ev ⟨dst, .buildSlice t n parts, type, pos, after, guard⟩).run P w = .ok (.value v) w' := by
  unfold execOp
  dsimp only
  rw [Sem.run_bind, h]
  rfl

/-! ### Maps -/
theorem keyD_run {t e : TypeId} {d : TypeDesc} (h : keyD P t = some (d, e)) : ∃ kt, P.underlying t = some (.map kt e) ∧ P.underlying kt = some d ∧ ((∃ i, d = .int i) ∨ d = .string) := by
  unfold keyD at h
  split at h <;> (first | (cases h; done) | skip)
  rename_i kt e' hu
  split at h <;> (first | (cases h; done) | skip)
  · rename_i i hk; cases h; exact ⟨kt, hu, hk, Or.inl ⟨_, rfl⟩⟩
  · rename_i hk; cases h; exact ⟨kt, hu, hk, Or.inr rfl⟩
theorem checkKey_run {kt : TypeId} {d : TypeDesc} (hk : P.underlying kt = some d) (hd : (∃ i, d = .int i) ∨ d = .string) (b : Bool) (v : Value) (w : World) : (Instr.checkKey b 10000 kt v).run P w = .ok () w := by
  unfold Instr.checkKey
  rcases hd with ⟨i, rfl⟩ | rfl
  · simp [run_underlying hk]
  · simp [run_underlying hk]
theorem findKey_run {kt : TypeId} {d : TypeDesc} (hk : P.underlying kt = some d) {k : Value} {es : List MapEntry} {r : Option (Nat × Value)} (h : Instr.findNow d k es 0 = some r) (w : World) : (Instr.findKey kt k es).run P w = .ok r w := by
  simp [Instr.findKey, run_underlying hk, h]
theorem getMap_run {r : Nat} {es : Array MapEntry} {c : Nat} {w : World} (h : w.heap[r]? = some (.map es c)) : (getObj r).run P w = .ok (.map es c) w := by
  simp [getObj, Sem.run, h]
theorem setMap_run {r : Nat} {es : Array MapEntry} {c : Nat} {w : World} (o : Obj) (h : w.heap[r]? = some (.map es c)) : (setObj r o).run P w = .ok () { w with heap := w.heap.setIfInBounds r o } := by
  simp [setObj, Sem.run, h]
theorem findNow_at {d : TypeDesc} {k : Value} : ∀ {es : List MapEntry} {j i : Nat} {v : Value}, Instr.findNow d k es j = some (some (i, v)) → ∃ e, es[i - j]? = some e ∧ j ≤ i ∧ Instr.sameNow d k e.key = some true ∧ e.val = v
  | [], j, i, v, h => by simp [Instr.findNow] at h
  | e :: r, j, i, v, h => by
    unfold Instr.findNow at h
    split at h
    · rename_i hs; simp only [Option.some.injEq, Prod.mk.injEq] at h; obtain ⟨rfl, rfl⟩ := h; exact ⟨e, by simp, Nat.le_refl _, hs, rfl⟩
    · obtain ⟨e', h1, h2, h3, h4⟩ := findNow_at h
      refine ⟨e', ?_, by omega, h3, h4⟩
      rw [show i - j = (i - (j + 1)) + 1 by omega]; simpa using h1
    · cases h
theorem beq_ba {a b : ByteArray} (h : (a == b) = true) : a = b := by
  obtain ⟨a⟩ := a; obtain ⟨b⟩ := b
  have : (a == b) = true := h
  rw [beq_iff_eq] at this
  rw [this]
theorem ba_beq (a : ByteArray) : (a == a) = true := by
  obtain ⟨a⟩ := a
  show (a == a) = true
  simp
theorem sameBits_of {d : TypeDesc} {k u : Value} (h : Instr.sameNow d k u = some true) : Instr.sameBits 10000 u k = true := by
  unfold Instr.sameNow at h
  split at h
  · split at h
    · rename_i a b hk; simp at h; subst hk; subst h; simp [Instr.sameBits]
    · cases h
  · rename_i a b; have e := beq_ba (by simpa using h); subst e; simp [Instr.sameBits, ba_beq]
  · simp at h; subst h; simp [Instr.sameBits]
  · cases h
theorem MapAt.hides {m : Option Nat} {es : List MapEntry} {H h : Hp} (hh : Hides M h H) (hm : MapAt H m es) : MapAt h m es := by
  cases m with
  | none => exact hm
  | some r => obtain ⟨c, hc⟩ := hm; exact ⟨c, (hh.of_some hc (by simp [hole])).2⟩
theorem mapAt_len {m : Option Nat} {es : List MapEntry} {w : World} {t kt e ty : TypeId} (hu : P.underlying t = some (.map kt e)) (hm : MapAt w.heap m es) (tys : Array TypeId) (ht : tys[0]? = some t) :
    (Builtin.len_ tys ty #[.map m]).run P w = .ok (.int .i64 es.length) w := by
  cases m with
  | none => subst hm; simp [Builtin.len_, ht, run_underlying hu, goInt]
  | some r => obtain ⟨c, hc⟩ := hm; simp [Builtin.len_, ht, run_underlying hu, getMap_run hc, goInt]
theorem look_run {t : TypeId} {m : Option Nat} {kv v : Value} {ok : Bool} {H : Hp} (hl : LookIs P t H m kv v ok) (cm : Bool) (w : World) (hw : ∀ es, MapAt H m es → MapAt w.heap m es) :
    (Instr.lookup t (.map m) kv cm).run P w = .ok (if cm then .tuple #[v, .bool ok] else v) w := by
  obtain ⟨es, d, e, hm, hd, hf⟩ := hl
  obtain ⟨kt, hu, hk, hkd⟩ := keyD_run hd
  have hmw := hw es hm
  have et : es.toArray.toList = es := by simp
  unfold Instr.lookup
  simp only [Sem.run_bind, run_underlying hu, Result.andThen_ok]
  cases m with
  | none =>
    have : es = [] := hmw
    subst this
    simp only [Sem.run_bind, Sem.run_pure, Result.andThen_ok, checkKey_run hk hkd]
    split at hf
    · rename_i i x hfn
      simp [Instr.findNow] at hfn
    · rename_i hfn
      obtain ⟨⟨ti, hi, hz⟩, rfl⟩ := hf
      simp [findKey_run hk hfn, run_zero' hi hz]
    · exact hf.elim
  | some r =>
    obtain ⟨c, hc⟩ := hmw
    simp only [Sem.run_bind, getMap_run hc, Result.andThen_ok, Sem.run_pure, checkKey_run hk hkd, et]
    split at hf
    · rename_i i x hfn
      obtain ⟨rfl, rfl⟩ := hf
      simp [findKey_run hk hfn]
    · rename_i hfn
      obtain ⟨⟨ti, hi, hz⟩, rfl⟩ := hf
      simp [findKey_run hk hfn, run_zero' hi hz]
    · exact hf.elim
theorem put_run {t : TypeId} {m : Option Nat} {kv v : Value} {o : Oper} {k : AV → VS → Prop} (hr : RelB M0 w0 bs M s a w) (hcl : clsOf o.op = 1)
    (hx : ∀ w', (Instr.mapUpdate t (.map m) kv v).run P w = .ok () w' → (execOp a.eval o).run P w = .ok .skip w')
    (h : vMapPut P t m kv v s.H fun H' => k (.v undef) { s with H := H' }) : o.wp P a w (Done M0 w0 bs M w o k) QF := by
  obtain ⟨r, es, c, d, e, rfl, hc, hd, hf⟩ := h
  obtain ⟨kt, hu, hk, hkd⟩ := keyD_run hd
  obtain ⟨hM, hc'⟩ := hr.hd.of_some hc (by simp [hole])
  have fin : ∀ ob : Obj, k (.v undef) { s with H := s.H.setIfInBounds r ob } → (Instr.mapUpdate t (.map (some r)) kv v).run P w = .ok () { w with heap := w.heap.setIfInBounds r ob } → o.wp P a w (Done M0 w0 bs M w o k) QF := fun ob hk' hrun => by
    refine wp_skip' (hx _ hrun) (done_mk hk' (hr.setObj ob hM) rfl ⟨fun e => by omega, fun _ b hb => ?_⟩)
    show (w.heap.setIfInBounds r ob)[b]? = _
    rw [Array.getElem?_setIfInBounds_ne (fun e => hM (by rw [e]; exact hb))]
  split at hf
  · rename_i i x hfn
    refine fin _ hf ?_
    obtain ⟨e0, he0, _, hs, _⟩ := findNow_at hfn
    have hst : (Instr.keyThatStays (((es[i]?).map (·.key)).getD kv) kv).run P w = .ok kv w := by
      have : es[i]? = some e0 := by simpa using he0
      rw [this]
      simp [Instr.keyThatStays, sameBits_of hs]
    unfold Instr.mapUpdate
    simp only [Sem.run_bind, run_underlying hu, Result.andThen_ok, getMap_run hc', checkKey_run hk hkd, findKey_run hk hfn, hst, setMap_run _ hc']
  · rename_i hfn
    refine fin _ hf ?_
    unfold Instr.mapUpdate
    simp only [Sem.run_bind, run_underlying hu, Result.andThen_ok, getMap_run hc', checkKey_run hk hkd, findKey_run hk hfn, setMap_run _ hc']
  · exact hf.elim
theorem ent_run {t : TypeId} {m : Option Nat} {kv : Value} {o : Oper} {k : AV → VS → Prop} (hr : RelB M0 w0 bs M s a w) (hcl : clsOf o.op = 1)
    (hx : ∀ v w', (Instr.mapEntry t (.map m) kv).run P w = .ok v w' → (execOp a.eval o).run P w = .ok (.value v) w')
    (h : vMapEnt P t m kv s.H fun v st H' => k (.v (.tuple #[v, .int .i64 st])) { s with H := H' }) : o.wp P a w (Done M0 w0 bs M w o k) QF := by
  obtain ⟨r, es, c, d, e, rfl, hc, hd, hf⟩ := h
  obtain ⟨kt, hu, hk, hkd⟩ := keyD_run hd
  obtain ⟨hM, hc'⟩ := hr.hd.of_some hc (by simp [hole])
  have fin : ∀ (ob : Obj) (v : Value), k (.v v) { s with H := s.H.setIfInBounds r ob } → (Instr.mapEntry t (.map (some r)) kv).run P w = .ok v { w with heap := w.heap.setIfInBounds r ob } → o.wp P a w (Done M0 w0 bs M w o k) QF := fun ob v hk' hrun => by
    refine wp_value (hx _ _ hrun) (done_mk hk' (hr.setObj ob hM) rfl ⟨fun e => by omega, fun _ b hb => ?_⟩)
    show (w.heap.setIfInBounds r ob)[b]? = _
    rw [Array.getElem?_setIfInBounds_ne (fun e => hM (by rw [e]; exact hb))]
  split at hf
  · rename_i i x hfn
    obtain ⟨x0, hx0, hf⟩ := hf
    refine fin _ _ hf ?_
    obtain ⟨e0, he0, _, hs, _⟩ := findNow_at hfn
    have hes : es[i]? = some e0 := by simpa using he0
    have hst : (Instr.keyThatStays (((es[i]?).map (·.key)).getD kv) kv).run P w = .ok kv w := by
      rw [hes]
      simp [Instr.keyThatStays, sameBits_of hs]
    rw [hx0] at hst
    unfold Instr.mapEntry
    simp only [Sem.run_bind, run_underlying hu, Result.andThen_ok, getMap_run hc', checkKey_run hk hkd, findKey_run hk hfn, hx0, hst, setMap_run _ hc', Sem.run_pure]
    rfl
  · rename_i hfn
    obtain ⟨ti, z, hi, hz, hf⟩ := hf
    refine fin _ _ hf ?_
    unfold Instr.mapEntry
    simp only [Sem.run_bind, run_underlying hu, Result.andThen_ok, getMap_run hc', checkKey_run hk hkd, findKey_run hk hfn, run_zero' hi hz, setMap_run _ hc', Sem.run_pure]
    rfl
  · exact hf.elim
theorem entSt_run {t : TypeId} {m : Option Nat} {ik : IntKind} {n : Int} {v : Value} {o : Oper} {k : AV → VS → Prop} (hr : RelB M0 w0 bs M s a w) (hcl : clsOf o.op = 1)
    (hx : ∀ w', (Instr.entryStore t (.map m) (.int ik n) v).run P w = .ok () w' → (execOp a.eval o).run P w = .ok .skip w')
    (h : vEntSt m n v s.H fun H' => k (.v undef) { s with H := H' }) : o.wp P a w (Done M0 w0 bs M w o k) QF := by
  obtain ⟨r, es, c, i, rfl, hc, hi, hk'⟩ := h
  obtain ⟨hM, hc'⟩ := hr.hd.of_some hc (by simp [hole])
  have hrun : (Instr.entryStore t (.map (some r)) (.int ik n) v).run P w = .ok () { w with heap := w.heap.setIfInBounds r (.map (es.modify i fun e => { e with val := v }) c) } := by
    unfold Instr.entryStore
    have ha : (asInt (.int ik n)).run P w = .ok n w := rfl
    simp only [Sem.run_bind, Result.andThen_ok, getMap_run hc', ha, hi, setMap_run _ hc']
  refine wp_skip' (hx _ hrun) (done_mk hk' (hr.setObj _ hM) rfl ⟨fun e => by omega, fun _ b hb => ?_⟩)
  show (w.heap.setIfInBounds r _)[b]? = _
  rw [Array.getElem?_setIfInBounds_ne (fun e => hM (by rw [e]; exact hb))]
theorem del_run {t ty : TypeId} {m : Option Nat} {kv : Value} {o : Oper} {k : AV → VS → Prop} (hr : RelB M0 w0 bs M s a w) (hcl : clsOf o.op = 1) (tys : Array TypeId) (ht : tys[0]? = some t)
    (hx : ∀ v w', (Builtin.delete_ tys ty #[.map m, kv]).run P w = .ok v w' → (execOp a.eval o).run P w = .ok (.value v) w')
    (h : vMapDel P t m kv s.H fun H' => k (.v (.tuple #[])) { s with H := H' }) : o.wp P a w (Done M0 w0 bs M w o k) QF := by
  obtain ⟨r, es, c, d, e, rfl, hc, hd, hf⟩ := h
  obtain ⟨kt, hu, hk, hkd⟩ := keyD_run hd
  obtain ⟨hM, hc'⟩ := hr.hd.of_some hc (by simp [hole])
  have fin : ∀ ob : Obj, k (.v (.tuple #[])) { s with H := s.H.setIfInBounds r ob } → (Builtin.delete_ tys ty #[.map (some r), kv]).run P w = .ok (.tuple #[]) { w with heap := w.heap.setIfInBounds r ob } → o.wp P a w (Done M0 w0 bs M w o k) QF := fun ob hk' hrun => by
    refine wp_value (hx _ _ hrun) (done_mk hk' (hr.setObj ob hM) rfl ⟨fun e => by omega, fun _ b hb => ?_⟩)
    show (w.heap.setIfInBounds r ob)[b]? = _
    rw [Array.getElem?_setIfInBounds_ne (fun e => hM (by rw [e]; exact hb))]
  split at hf
  · rename_i i x hfn
    refine fin _ hf ?_
    simp [Builtin.delete_, ht, run_underlying hu, getMap_run hc', checkKey_run hk hkd, findKey_run hk hfn, setMap_run _ hc']
  · rename_i hfn
    refine fin _ hf ?_
    simp [Builtin.delete_, ht, run_underlying hu, getMap_run hc', checkKey_run hk hkd, findKey_run hk hfn, setMap_run _ hc']
  · exact hf.elim
theorem range_run {t kt e : TypeId} {m : Nat} {es : Array MapEntry} {c : Nat} (hu : P.underlying t = some (.map kt e)) (hc : w.heap[m]? = some (.map es c)) :
    (Instr.range t (.map (some m))).run P w = .ok (.pointer (some ⟨w.heap.size, 0, none⟩)) { w with heap := w.heap.push (.mapIter (some m) c #[] c) } := by
  simp [Instr.range, run_underlying hu, getMap_run hc]
theorem EntAt.hides {M : Nat → Prop} {h H : Hp} (hd : Hides M h H) {r : Nat} {e : MapEntry} (he : EntAt H r e) : EntAt h r e := by
  obtain ⟨m, since, seen, stamp, es, c, h1, h2, h3, h4⟩ := he
  exact ⟨m, since, seen, stamp, es, c, (hd.of_some h1 (by simp [hole])).2, h2, (hd.of_some h3 (by simp [hole])).2, h4⟩
theorem entry_run {b : Nat} {sp : Option Nat} {e : MapEntry} (he : EntAt w.heap b e) (w' : World) (hw : ∀ (b : Nat) (o : Obj), w.heap[b]? = some o → w'.heap[b]? = some o) :
    (Instr.entry (.pointer (some ⟨b, 0, sp⟩))).run P w' = .ok (.tuple #[e.key, e.val]) w' := by
  obtain ⟨m, since, seen, stamp, es, c, h1, h2, h3, h4⟩ := he
  have hgi : (getObj b).run P w' = .ok (.mapIter (some m) since seen c) w' := by simp [getObj, Sem.run, hw _ _ h1]
  unfold Instr.entry
  simp only [Sem.run_bind, hgi, Result.andThen_ok, h2, getMap_run (hw _ _ h3), h4, bne_self_eq_false, Bool.false_eq_true, if_false, Sem.run_pure]
theorem vNext.get {pr : List Nat} {t : TypeId} {it : Value} {H : Hp} {K : Value → Hp → Prop} (h : vNext P pr t it H K) : ∃ b sp n, it = .pointer (some ⟨b, 0, sp⟩) ∧ NxAt H b n ∧
    (∀ e ∈ n.es.toList, n.seen.contains e.born = false → K (.tuple #[.bool true, e.key, e.val]) (n.step H b e)) ∧ (n.over = true → K (.tuple #[.bool false]) H) := by
  unfold vNext at h
  split at h <;> (first | exact h.elim | skip)
  · obtain ⟨h0, n, hn, hall, hend⟩ := h
    rename_i p kt vt ht
    obtain ⟨b, off, sp⟩ := p
    dsimp only at h0 hn hall hend
    subst h0
    refine ⟨b, sp, n, rfl, hn, fun e he hs => ?_, hend⟩
    obtain ⟨x, h2⟩ := exT_any (hall e he hs)
    obtain ⟨y, ⟨h3, h4⟩, hk⟩ := exT_any h2
    subst h3; subst h4
    exact vNm.get hk
  · obtain ⟨h0, n, hn, hall, hend⟩ := h
    rename_i p ht
    obtain ⟨b, off, sp⟩ := p
    dsimp only at h0 hn hall hend
    subst h0
    exact ⟨b, sp, n, rfl, hn, fun e he hs => vNm.get (hall e he hs), hend⟩
theorem next_run {ty : TypeId} {it : Value} {o : Oper} {k : AV → VS → Prop} (hr : RelB M0 w0 bs M s a w) (hcl : clsOf o.op = 1)
    (hx : ∀ v w', (Instr.next it false ty).run P w = .ok v w' → (execOp a.eval o).run P w = .ok (.value v) w')
    {pr : List Nat} (h : vNext P pr o.type it s.H fun v H' => k (.v v) { s with H := H' }) : o.wp P a w (Done M0 w0 bs M w o k) QF := by
  obtain ⟨b, sp, n, rfl, ⟨hi, hm, hbad⟩, hall, hend⟩ := h.get
  obtain ⟨hM, hi'⟩ := hr.hd.of_some hi (by simp [hole])
  obtain ⟨_, hm'⟩ := hr.hd.of_some hm (by simp [hole])
  have hgi : (getObj b).run P w = .ok (.mapIter (some n.m) n.since n.seen n.last) w := by simp [getObj, Sem.run, hi']
  generalize hL : (if ((n.es.filter fun e => !n.seen.contains e.born).filter (·.born < n.since)).isEmpty then #[(none : Option MapEntry)] else #[]) ++
    ((n.es.filter fun e => !n.seen.contains e.born).filter (·.born < n.since) ++ (n.es.filter fun e => !n.seen.contains e.born).filter (·.born ≥ n.since)).map some = L
  have hpos : 0 < L.size := by
    rw [← hL]
    split
    · simp; omega
    · rename_i hne
      simp only [Array.size_append, Array.size_map]
      have : ((n.es.filter fun e => !n.seen.contains e.born).filter (·.born < n.since)).size ≠ 0 := by simpa [Array.isEmpty] using hne
      omega
  obtain ⟨j, d, hj, hch⟩ : ∃ j d, j < L.size ∧ (choose (.mapNext L.size)).run P w = .ok j { w with drawn := d } := by
    rw [run_choose]
    split
    · exact ⟨0, w.drawn, hpos, rfl⟩
    · exact ⟨_, w.drawn + 1, Nat.mod_lt _ hpos, rfl⟩
  have hrun : (Instr.next (.pointer (some ⟨b, 0, sp⟩)) false ty).run P w = (match L[j]? with
    | some (some e) => (do
      setObj b (.mapIter (some n.m) n.since (n.seen.push e.born) n.c)
      pure (.tuple #[.bool true, e.key, e.val]) : Sem Value)
    | some none => pure (.tuple #[.bool false])
    | none => stuck "Next: no such candidate").run P { w with drawn := d } := by
    unfold Instr.next
    simp only [Sem.run_bind, hgi, Result.andThen_ok, getMap_run hm', hbad, Bool.false_eq_true, if_false, Sem.run_pure, hL, hch]
    cases L[j]? with
    | none => rfl
    | some x => cases x <;> rfl
  rw [Array.getElem?_eq_getElem hj] at hrun
  have hmem : L[j] ∈ L := Array.getElem_mem hj
  cases hx0 : L[j] with
  | none =>
    rw [hx0] at hrun hmem
    have hov : n.over = true := by
      rw [← hL] at hmem
      unfold Nx.over
      rw [Array.all_eq_true']
      intro e he
      rcases Array.mem_append.1 hmem with hmem | hmem
      · split at hmem
        · rename_i hemp
          rw [Bool.or_eq_true, decide_eq_true_eq]
          cases hc : n.seen.contains e.born with
          | true => exact Or.inl rfl
          | false =>
            refine Or.inr (Nat.le_of_not_lt fun hlt => ?_)
            have : e ∈ (n.es.filter fun e => !n.seen.contains e.born).filter (·.born < n.since) := by
              rw [Array.mem_filter, Array.mem_filter]; exact ⟨⟨he, by rw [hc]; rfl⟩, by simpa using hlt⟩
            rw [Array.isEmpty_iff.1 hemp] at this
            simp at this
        · simp at hmem
      · simp at hmem
    exact wp_value (hx _ _ hrun) (done_mk (hend hov) (hr.drew d) rfl ⟨fun e => by omega, fun _ _ _ => rfl⟩)
  | some e =>
    rw [hx0] at hrun hmem
    have he : e ∈ n.es ∧ n.seen.contains e.born = false := by
      rw [← hL] at hmem
      rcases Array.mem_append.1 hmem with hmem | hmem
      · split at hmem <;> simp at hmem
      · rw [Array.mem_map] at hmem
        obtain ⟨e', he', h'⟩ := hmem
        cases h'
        have hf : e ∈ n.es.filter fun e => !n.seen.contains e.born := by
          rcases Array.mem_append.1 he' with h | h
          · exact (Array.mem_filter.1 h).1
          · exact (Array.mem_filter.1 h).1
        rw [Array.mem_filter] at hf
        exact ⟨hf.1, by simpa using hf.2⟩
    have hk := hall e (by simpa using he.1) he.2
    have hs : (setObj b (.mapIter (some n.m) n.since (n.seen.push e.born) n.c)).run P { w with drawn := d } = .ok () { w with drawn := d, heap := w.heap.setIfInBounds b (.mapIter (some n.m) n.since (n.seen.push e.born) n.c) } := by
      simp [setObj, Sem.run, hi']
    simp only [Sem.run_bind, hs, Result.andThen_ok, Sem.run_pure] at hrun
    refine wp_value (hx _ _ hrun) (done_mk hk ((hr.drew d).setObj _ hM) rfl ⟨fun e => by omega, fun _ q hq => ?_⟩)
    show (w.heap.setIfInBounds b _)[q]? = _
    rw [Array.getElem?_setIfInBounds_ne (fun e => hM (by rw [e]; exact hq))]

/-- WHAT THE WALK SAYS OF AN OPERATION IS SO. -/
theorem vOp_run {pr : List Nat} {o : Oper} {k : AV → VS → Prop} (hr : RelB M0 w0 bs M s a w) (h : vOp P pr o s k) : WpE P o a w (Done M0 w0 bs M w o k) QF := by
  obtain ⟨dst, op, type, pos, after, guard⟩ := o
  have pv : ∀ (S : Sem Value) (v : Value) (w' : World), execOp a.eval ⟨dst, op, type, pos, after, guard⟩ = (do pure (.value (← S))) → S.run P w = .ok v w' →
      (execOp a.eval ⟨dst, op, type, pos, after, guard⟩).run P w = .ok (.value v) w' := fun S v w' he hS => by
    rw [he]; simp only [Sem.run_bind, hS, Result.andThen_ok, Sem.run_pure]
  unfold vOp at h
  dsimp only at h
  split at h
  · rename_i e
    split at h <;> (first | exact h.elim | skip)
    rename_i ti hi
    split at h <;> (first | exact h.elim | skip)
    rename_i z hz
    refine .of <| new_run hr h (pv _ _ _ rfl ?_)
    simp [Instr.alloc, run_zero' hi hz, newVar, newRow]
  · rename_i e x
    split at h <;> (first | exact h.elim | skip)
    rename_i v hv
    have hx := hr.ev x
    rw [hv] at hx
    refine .of <| new_run hr h (pv _ _ _ rfl ?_)
    rw [show a.eval x = v from hx]
    simp [Instr.box, newVar, newRow]
  · rename_i t n parts
    split at h <;> (first | exact h.elim | skip)
    rename_i e ps hu hps
    split at h <;> (first | exact h.elim | skip)
    rename_i ti hi
    split at h <;> (first | exact h.elim | skip)
    rename_i z hz hle
    split at h <;> (first | exact h.elim | skip)
    rename_i cells hf
    replace h := vNm.get (vNb.get h)
    have e1 := evParts_run hr.ev _ _ hps
    have e2 : (parts.map fun (i, x) => (i, a.eval x)) = ps.toArray := by rw [← e1, ← Array.toList_map, Array.toArray_toList]
    have hb := bld_run (w := w) hu hi hz (Nat.le_of_ble_eq_true hle) hf
    rw [← e2] at hb
    have hx := bs_exec (ev := a.eval) (dst := dst) (type := type) (pos := pos) (after := after) (guard := guard) hb
    clear hf hb
    refine .of <| wp_value hx (done_mk h (hr.push (.cells cells e) w.drawn) ?_ ((Grow.push w _ _).chg hr.hd.lt))
    rw [hr.hd.size]; rfl
  · rename_i t addr
    have ha := hr.ev addr
    split at h <;> (first | exact h.elim | skip)
    · rename_i i off hl
      rw [hl] at ha
      obtain ⟨b, hb, hp⟩ := ha
      split at h <;> (first | exact h.elim | skip)
      rename_i e cs ti hcs hti
      split at h <;> (first | exact h.elim | skip)
      rename_i hle
      obtain ⟨q1, q2, q3⟩ := hr.lc i b _ hb hcs
      have h' : vPart P t (cs.toArray).toList off fun v => k (.v v) s := by simpa using h
      obtain ⟨v, hk, hpv⟩ := vPart_part h'
      have hrun := loadVar_part (P := P) (w := w) (b := b) (off := off) (cs := cs) q3 hti (Nat.le_of_ble_eq_true hle) hpv
      exact .of <| wp_value (pv _ _ _ rfl (by rw [hp]; simpa [Instr.loadAt, Instr.sureAddr] using hrun)) (done_mk hk hr rfl (.refl _ _ _))
    · rename_i p hl
      rw [hl] at ha
      obtain ⟨v, hk, hrun⟩ := vLoad_run (M := M) h
      exact .of <| wp_value (pv _ _ _ rfl (by rw [show a.eval addr = _ from ha]; exact hrun w fun b v hc => (hr.hd.cell hc).2)) (done_mk hk hr rfl (.refl _ _ _))
  · rename_i t addr x
    split at h <;> (first | exact h.elim | skip)
    rename_i v hv
    have hx := hr.ev x
    rw [hv] at hx
    exact .of <| store_run hr rfl hx h fun s' hk => hk
  · rename_i src dst' x
    have hx := hr.ev x
    split at h
    · rename_i p n c e hv hs hd
      rw [hv] at hx
      have hx' : a.eval x = .slice p n c := hx
      split at h <;> (first | exact h.elim | skip)
      rename_i he
      unfold vB2S at h
      split at h
      · refine .of <| wp_value (pv (convert src dst' (a.eval x)) _ w rfl ?_) (done_mk h hr rfl (.refl _ _ _))
        rw [hx']
        simp [convert, run_underlying hs, run_underlying hd, run_underlying he, Conv.bytesToString]
      · rename_i ad
        obtain ⟨t, ⟨hn, hrow⟩, hk⟩ := h
        refine .of <| wp_value (pv (convert src dst' (a.eval x)) _ w rfl ?_) (done_mk hk hr rfl (.refl _ _ _))
        rw [hx']
        have := run_b2s (P := P) (c := c) (w := w) hn (hrow.hides hr.hd)
        simp [convert, run_underlying hs, run_underlying hd, run_underlying he, this]
    · rename_i t e hv hs hd
      rw [hv] at hx
      have hx' : a.eval x = .string t := hx
      split at h <;> (first | exact h.elim | skip)
      rename_i he
      obtain ⟨hsm, h⟩ := h
      refine .of <| s2b_run hr rfl (fun v w' hrun => pv (convert src dst' (a.eval x)) v w' rfl ?_) hsm h
      rw [hx']
      simp [convert, run_underlying hs, run_underlying hd, run_underlying he, hrun]
    · exact .of (done_pure hr h)
  · rename_i f args tys
    split at h <;> (first | exact h.elim | skip)
    rename_i fv vs hf hargs
    have hfv := hr.ev f
    rw [hf] at hfv
    have e1 := evAll_run hr.ev _ _ hargs
    have e2 : args.map a.eval = vs.toArray := by rw [← e1, ← Array.toList_map, Array.toArray_toList]
    have he : execOp a.eval ⟨dst, .call { callee := .value f, args := args, argTypes := tys }, type, pos, after, guard⟩ = (do
      let d ← Deferred.ofValue (a.eval f) (args.map a.eval); invoke d.target d.args) := rfl
    unfold vInv at h
    split at h <;> (first | exact h.elim | skip)
    · rename_i fn fi ca
      have hfv' : a.eval f = .func (.func fn) fi ca := hfv
      have hargs' : fi ++ vs.toArray ++ ca = (fi.toList ++ vs ++ ca.toList).toArray := by apply Array.ext'; simp
      split at h
      · rename_i hgo
        refine .of <| call_run hr rfl ?_ h
        rw [he, hfv', e2]
        simp only [Deferred.ofValue, Sem.run_bind, Sem.run_pure, Result.andThen_ok, invoke]
        rw [fn_run hgo, hargs']
      · refine .of <| ext_run hr ?_ h
        rw [he, hfv', e2]
        simp only [Deferred.ofValue, Sem.run_bind, Sem.run_pure, Result.andThen_ok, invoke]
        rw [hargs']
    · rename_i l fi ca
      have hfv' : a.eval f = .func (.yield l) fi ca := hfv
      have hargs' : fi ++ vs.toArray = (fi.toList ++ vs).toArray := by apply Array.ext'; simp
      refine yield_run hr rfl ?_ h
      rw [he, hfv', e2]
      simp only [Deferred.ofValue, Sem.run_bind, Sem.run_pure, Result.andThen_ok, invoke]
      rw [hargs']
  · rename_i args tys
    split at h <;> (first | exact h.elim | skip)
    rename_i p len cap src t xt hargs ht hxt
    have e1 := evAll_run hr.ev _ _ hargs
    have e2 : args.map a.eval = #[.slice p len cap, src] := by apply Array.ext'; rw [Array.toList_map, e1]
    have go : ∀ v w', (Builtin.append_ tys type #[.slice p len cap, src]).run P w = .ok v w' →
        (execOp a.eval ⟨dst, .call { callee := .builtin .append, args := args, argTypes := tys }, type, pos, after, guard⟩).run P w = .ok (.value v) w' := fun v w' hv => by
      have he : execOp a.eval ⟨dst, .call { callee := .builtin .append, args := args, argTypes := tys }, type, pos, after, guard⟩ = (do pure (.value (← Builtin.append_ tys type (args.map a.eval)))) := rfl
      rw [he, e2]; simp only [Sem.run_bind, hv, Result.andThen_ok, Sem.run_pure]
    have htys : ∀ v w', (Builtin.append_ #[t, xt] type #[.slice p len cap, src]).run P w = .ok v w' → (Builtin.append_ tys type #[.slice p len cap, src]).run P w = .ok v w' := fun v w' hv => by
      have : Builtin.append_ tys type #[.slice p len cap, src] = Builtin.append_ #[t, xt] type #[.slice p len cap, src] := by
        unfold Builtin.append_
        simp only [ht, hxt, List.getElem?_toArray, List.getElem?_cons_zero, List.getElem?_cons_succ]
      rw [this]; exact hv
    split at h <;> (first | exact h.elim | skip)
    · rename_i e hu2
      exact .of <| app_run hr rfl hu2 trivial (fun v w' hv => go v w' (htys v w' hv)) h
    · rename_i hu2
      exact .of <| app_run hr rfl hu2 trivial (fun v w' hv => go v w' (htys v w' hv)) h
    · rename_i ik hu2
      split at h <;> (first | exact h.elim | skip)
      exact .of <| appz_run hr rfl hu2 (fun v w' hv => go v w' (htys v w' hv)) h
  · rename_i args tys
    split at h <;> (first | exact h.elim | skip)
    rename_i p n c t hargs ht
    have e1 := evAll_run hr.ev _ _ hargs
    have e2 : args.map a.eval = #[.slice p n c] := by apply Array.ext'; rw [Array.toList_map, e1]
    have go : ∀ v w', (Builtin.clear_ tys type #[.slice p n c]).run P w = .ok v w' →
        (execOp a.eval ⟨dst, .call { callee := .builtin .clear, args := args, argTypes := tys }, type, pos, after, guard⟩).run P w = .ok (.value v) w' := fun v w' hv => by
      have he : execOp a.eval ⟨dst, .call { callee := .builtin .clear, args := args, argTypes := tys }, type, pos, after, guard⟩ = (do pure (.value (← Builtin.clear_ tys type (args.map a.eval)))) := rfl
      rw [he, e2]; simp only [Sem.run_bind, hv, Result.andThen_ok, Sem.run_pure]
    exact .of <| clear_run hr rfl tys ht go h
  · rename_i args tys
    split at h <;> (first | exact h.elim | skip)
    rename_i p len cap src t hargs ht
    have e1 := evAll_run hr.ev _ _ hargs
    have e2 : args.map a.eval = #[.slice p len cap, src] := by apply Array.ext'; rw [Array.toList_map, e1]
    have go : ∀ v w', (Builtin.copy_ tys type #[.slice p len cap, src]).run P w = .ok v w' →
        (execOp a.eval ⟨dst, .call { callee := .builtin .copy, args := args, argTypes := tys }, type, pos, after, guard⟩).run P w = .ok (.value v) w' := fun v w' hv => by
      have he : execOp a.eval ⟨dst, .call { callee := .builtin .copy, args := args, argTypes := tys }, type, pos, after, guard⟩ = (do pure (.value (← Builtin.copy_ tys type (args.map a.eval)))) := rfl
      rw [he, e2]; simp only [Sem.run_bind, hv, Result.andThen_ok, Sem.run_pure]
    exact .of <| copy_run hr rfl tys ht go h
  · rename_i t hint
    have nw : (execOp a.eval ⟨dst, .makeMap t hint, type, pos, after, guard⟩).run P w = .ok (.value (.map (some w.heap.size))) { w with heap := w.heap.push (.map #[] 0) } →
        k (.v (.map (some s.H.size))) { s with H := s.H.push (.map #[] 0) } → WpE P ⟨dst, .makeMap t hint, type, pos, after, guard⟩ a w (Done M0 w0 bs M w ⟨dst, .makeMap t hint, type, pos, after, guard⟩ k) QF := fun hx hk => by
      refine .of <| wp_value hx (done_mk hk (hr.push (.map #[] 0) w.drawn) ?_ ((Grow.push w _ _).chg hr.hd.lt))
      rw [hr.hd.size]; rfl
    split at h <;> (first | exact h.elim | skip)
    · rename_i hn
      cases hint with
      | some x => simp at hn
      | none => exact nw (pv _ _ _ rfl (by simp [Instr.makeMap])) (vNm.get (vNb.get h))
    · rename_i ik n hn
      split at h <;> (first | exact h.elim | skip)
      rename_i kt e hu
      cases hint with
      | none => simp at hn
      | some x =>
        simp only [Option.map_some, Option.some.injEq] at hn
        have hx := hr.ev x
        rw [hn] at hx
        refine nw (pv _ _ _ rfl ?_) (vNm.get (vNb.get h))
        rw [show (Option.map a.eval (some x)) = some (.int ik n) from congrArg some hx]
        simp [Instr.makeMap, run_underlying hu, asInt, asIntOf]
  · rename_i t m x ok
    have hm := hr.ev m
    have hx := hr.ev x
    split at h <;> (first | exact h.elim | skip)
    · rename_i r kv h1 h2
      rw [h1] at hm; rw [h2] at hx
      obtain ⟨u, hu⟩ := exR_any h
      split at hu <;> (first | exact hu.elim | skip)
      rename_i v b
      obtain ⟨hl, hk⟩ := hu
      refine .of <| wp_value (pv _ _ _ rfl ?_) (done_mk hk hr rfl (.refl _ _ _))
      rw [show a.eval m = _ from hm, show a.eval x = _ from hx]
      exact look_run hl true w fun es he => MapAt.hides hr.hd he
    · rename_i r kv h1 h2
      rw [h1] at hm; rw [h2] at hx
      obtain ⟨v, ⟨b, hl⟩, hk⟩ := exR_any h
      refine .of <| wp_value (pv _ _ _ rfl ?_) (done_mk hk hr rfl (.refl _ _ _))
      rw [show a.eval m = _ from hm, show a.eval x = _ from hx]
      exact look_run hl false w fun es he => MapAt.hides hr.hd he
  · rename_i t m x v
    have hm := hr.ev m
    have hx := hr.ev x
    have hv := hr.ev v
    split at h <;> (first | exact h.elim | skip)
    rename_i r kv vv h1 h2 h3
    rw [h1] at hm; rw [h2] at hx; rw [h3] at hv
    refine .of <| put_run hr rfl (fun w' hrun => ?_) h
    have he : execOp a.eval ⟨dst, .mapUpdate t m x v, type, pos, after, guard⟩ = (do Instr.mapUpdate t (a.eval m) (a.eval x) (a.eval v); pure .skip) := rfl
    rw [he, show a.eval m = _ from hm, show a.eval x = _ from hx, show a.eval v = _ from hv]
    simp only [Sem.run_bind, hrun, Result.andThen_ok, Sem.run_pure]
  · rename_i t m x v
    have hm := hr.ev m
    have hx := hr.ev x
    have hv := hr.ev v
    split at h <;> (first | exact h.elim | skip)
    rename_i r kv vv h1 h2 h3
    rw [h1] at hm; rw [h2] at hx; rw [h3] at hv
    refine .of <| put_run hr rfl (fun w' hrun => ?_) h
    have he : execOp a.eval ⟨dst, .insert t m x v, type, pos, after, guard⟩ = (do Instr.mapUpdate t (a.eval m) (a.eval x) (a.eval v); pure .skip) := rfl
    rw [he, show a.eval m = _ from hm, show a.eval x = _ from hx, show a.eval v = _ from hv]
    simp only [Sem.run_bind, hrun, Result.andThen_ok, Sem.run_pure]
  · rename_i t x
    have hx := hr.ev x
    split at h <;> (first | exact h.elim | skip)
    rename_i r kt e h1 hu
    rw [h1] at hx
    obtain ⟨m, es, c, rfl, hc, hk⟩ := h
    replace hk := vNm.get (vNb.get hk)
    have hrun := range_run (P := P) (w := w) hu (hr.hd.of_some hc (by simp [hole])).2
    refine .of <| wp_value (pv _ _ _ rfl (by rw [show a.eval x = _ from hx]; exact hrun)) (done_mk hk (hr.push (.mapIter (some m) c #[] c) w.drawn) ?_ ((Grow.push w _ _).chg hr.hd.lt))
    rw [hr.hd.size]; rfl
  · rename_i it b
    have hit := hr.ev it
    split at h <;> (first | exact h.elim | skip)
    rename_i v h1
    rw [h1] at hit
    refine .of <| next_run (ty := type) hr rfl (fun v' w' hrun => pv _ _ _ rfl ?_) h
    rw [show a.eval it = _ from hit]; exact hrun
  · rename_i t m x
    have hm := hr.ev m
    have hx := hr.ev x
    split at h <;> (first | exact h.elim | skip)
    rename_i r kv h1 h2
    rw [h1] at hm; rw [h2] at hx
    refine .of <| ent_run hr rfl (fun v' w' hrun => pv _ _ _ rfl ?_) h
    rw [show a.eval m = _ from hm, show a.eval x = _ from hx]; exact hrun
  · rename_i t m st x
    have hm := hr.ev m
    have hst := hr.ev st
    have hx := hr.ev x
    split at h <;> (first | exact h.elim | skip)
    rename_i r ik n xv h1 h2 h3
    rw [h1] at hm; rw [h2] at hst; rw [h3] at hx
    refine .of <| entSt_run (t := t) (ik := ik) hr rfl (fun w' hrun => ?_) h
    have he : execOp a.eval ⟨dst, .entryStore t m st x, type, pos, after, guard⟩ = (do Instr.entryStore t (a.eval m) (a.eval st) (a.eval x); pure .skip) := rfl
    rw [he, show a.eval m = _ from hm, show a.eval st = _ from hst, show a.eval x = _ from hx]
    simp only [Sem.run_bind, hrun, Result.andThen_ok, Sem.run_pure]
  · rename_i it
    have hit := hr.ev it
    split at h <;> (first | exact h.elim | skip)
    rename_i p h1
    rw [h1] at hit
    obtain ⟨h0, e, he, hk⟩ := h
    obtain ⟨b, off, sp⟩ := p
    dsimp only at h0 he
    subst h0
    refine .of <| wp_value (pv _ _ _ rfl ?_) (done_mk hk hr rfl (.refl _ _ _))
    rw [show a.eval it = _ from hit]; exact entry_run (he.hides hr.hd) w fun _ _ h => h
  · rename_i t i
    split at h
    · rename_i x y h1
      have ht := hr.ev t
      rw [h1] at ht
      split at h <;> (first | exact h.elim | skip)
      · obtain ⟨v, hv, hk⟩ := exR_any h
        refine .of <| wp_value (pv _ _ _ rfl ?_) (done_mk hk hr rfl (.refl _ _ _))
        rw [show a.eval t = _ from ht, ← hv]; rfl
      · obtain ⟨v, hv, hk⟩ := exR_any h
        refine .of <| wp_value (pv _ _ _ rfl ?_) (done_mk hk hr rfl (.refl _ _ _))
        rw [show a.eval t = _ from ht, ← hv]; rfl
    · exact .of (done_pure hr h)
  · rename_i args tys
    split at h <;> (first | exact h.elim | skip)
    rename_i m kv t hargs ht
    have e1 := evAll_run hr.ev _ _ hargs
    have e2 : args.map a.eval = #[.map m, kv] := by apply Array.ext'; rw [Array.toList_map, e1]
    have go : ∀ v w', (Builtin.delete_ tys type #[.map m, kv]).run P w = .ok v w' →
        (execOp a.eval ⟨dst, .call { callee := .builtin .delete, args := args, argTypes := tys }, type, pos, after, guard⟩).run P w = .ok (.value v) w' := fun v w' hv => by
      have he : execOp a.eval ⟨dst, .call { callee := .builtin .delete, args := args, argTypes := tys }, type, pos, after, guard⟩ = (do pure (.value (← Builtin.delete_ tys type (args.map a.eval)))) := rfl
      rw [he, e2]; simp only [Sem.run_bind, hv, Result.andThen_ok, Sem.run_pure]
    exact .of <| del_run hr rfl tys ht go h
  · rename_i args tys
    split at h
    · rename_i m kt e hargs hu
      obtain ⟨es, hm, hk⟩ := h
      have e1 := evAll_run hr.ev _ _ hargs
      have e2 : args.map a.eval = #[.map m] := by apply Array.ext'; rw [Array.toList_map, e1]
      obtain ⟨t, ht, hu⟩ := Option.bind_eq_some_iff.1 hu
      refine .of <| wp_value ?_ (done_mk hk hr rfl (.refl _ _ _))
      have he : execOp a.eval ⟨dst, .call { callee := .builtin .len, args := args, argTypes := tys }, type, pos, after, guard⟩ = (do pure (.value (← Builtin.len_ tys type (args.map a.eval)))) := rfl
      rw [he, e2]; simp only [Sem.run_bind, mapAt_len hu (MapAt.hides hr.hd hm) tys ht, Result.andThen_ok, Sem.run_pure]
    · exact .of (done_pure hr h)
  · exact .of (done_pure hr h)

end Go.KC
