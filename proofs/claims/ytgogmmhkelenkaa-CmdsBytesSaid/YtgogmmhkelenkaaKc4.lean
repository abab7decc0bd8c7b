/- THE CORE, part 4: all pure operations. Generic. -/
import Derived.Test.YtgogmmhkelenkaaKc3
set_option linter.all false
set_option linter.constructorNameAsVariable false
namespace Go.KC
variable {P : Program} {bs : List Nat}

theorem Addr.add_loc (b off n : Nat) : (⟨b, off, none⟩ : Addr).add n = ⟨b, off + n, none⟩ := by
  unfold Addr.add; split
  · subst_vars; rfl
  · rfl

inductive ConcO (bs : List Nat) : Option AV → Option Value → Prop
  | none : ConcO bs none none
  | some {x : AV} {v : Value} (h : Conc bs x v) : ConcO bs (some x) (some v)

theorem bd_run {i : Int} {k : IntKind} {top : Nat} {code : BoundsCode} (h : 0 ≤ i ∧ i ≤ top) (w : World) :
    (Instr.sliceBound (.int k i) top code).run P w = .ok i.toNat w := by
  simp [Instr.sliceBound, asIntOf, h]

theorem vBd_run {x : Option AV} {c : Option Value} {dflt top : Nat} {K : Nat → Prop} (hc : ConcO bs x c) (h : vBd x dflt top K) :
    ∃ n, K n ∧ (c = none → n = dflt) ∧ (∀ v, c = some v → ∀ code w, (Instr.sliceBound v top code).run P w = .ok n w) := by
  cases hc with
  | none => exact ⟨dflt, h, fun _ => rfl, fun v hv => by cases hv⟩
  | some hx =>
    unfold vBd at h
    split at h
    · rename_i he; cases he
    · rename_i k i he
      cases he
      refine ⟨_, h.2, (fun e => by cases e), (fun v hv code w => ?_)⟩
      rw [(Option.some.inj hv).symm.trans hx]
      exact bd_run h.1 w
    · exact h.elim

theorem vSlice_run {t : TypeId} {x : AV} {cx : Value} {lo hi mx : Option AV} {clo chi cmx : Option Value} {K : Value → Prop}
    (hx : Conc bs x cx) (hlo : ConcO bs lo clo) (hhi : ConcO bs hi chi) (hmx : ConcO bs mx cmx) (h : vSlice P t x lo hi mx K) :
    ∃ v, K v ∧ ∀ w, (Instr.sliceAt t cx clo chi cmx).run P w = .ok v w := by
  unfold vSlice at h
  split at h
  · rename_i s
    split at h <;> (first | exact h.elim | skip)
    rename_i hu
    obtain rfl : cx = .string s := hx
    cases hmx
    obtain ⟨n, h, hn1, hn2⟩ := vBd_run (P := P) hhi h
    obtain ⟨l, h, hl1, hl2⟩ := vBd_run (P := P) hlo h
    refine ⟨_, h, fun w => ?_⟩
    simp only [Instr.sliceAt, Sem.run_bind, run_underlying hu, Result.andThen_ok, Instr.slice, Instr.sliceBounds]
    cases chi with
    | none => cases clo with
      | none => simp [hn1 rfl, hl1 rfl]
      | some vl => simp [hn1 rfl, hl2 vl rfl, hn1 rfl ▸ hl2 vl rfl]
    | some vh => cases clo with
      | none => simp [hn2 vh rfl, hl1 rfl]
      | some vl => simp [hn2 vh rfl, hl2 vl rfl]
  · rename_i a len cap
    obtain rfl : cx = .slice a len cap := hx
    split at h <;> (first | exact h.elim | skip)
    rename_i e hu
    split at h <;> (first | exact h.elim | skip)
    rename_i ti hi0 hno
    obtain ⟨m, h, hm1, hm2⟩ := vBd_run (P := P) hmx h
    obtain ⟨n, h, hn1, hn2⟩ := vBd_run (P := P) hhi h
    obtain ⟨l, h, hl1, hl2⟩ := vBd_run (P := P) hlo h
    refine ⟨_, h, fun w => ?_⟩
    have hsz : ∀ w, (sizeOf e).run P w = .ok ti.size w := fun w => by simp [sizeOf, typeInfo, hi0]
    simp only [Instr.sliceAt, Sem.run_bind, run_underlying hu, Result.andThen_ok, Instr.slice, Instr.sliceBounds]
    cases cmx with
    | none =>
      obtain rfl := hm1 rfl
      cases chi with
      | none =>
        obtain rfl := hn1 rfl
        cases clo with
        | none => obtain rfl := hl1 rfl; simp [hsz]
        | some vl => simp [hl2 vl rfl, hsz]
      | some vh => cases clo with
        | none => obtain rfl := hl1 rfl; simp [hn2 vh rfl, hsz]
        | some vl => simp [hn2 vh rfl, hl2 vl rfl, hsz]
    | some vm =>
      cases chi with
      | none => cases hhi; cases hmx; exact (hno _ rfl rfl).elim
      | some vh => cases clo with
        | none => obtain rfl := hl1 rfl; simp [hm2 vm rfl, hn2 vh rfl, hsz]
        | some vl => simp [hm2 vm rfl, hn2 vh rfl, hl2 vl rfl, hsz]
  · exact h.elim

theorem vFieldAddr_run {st : TypeId} {x : AV} {cx : Value} {f : Nat} {K : AV → Prop} (hx : Conc bs x cx) (h : vFieldAddr P st x f K) :
    ∃ av v, K av ∧ Conc bs av v ∧ ∀ w, (Instr.fieldAt st cx f).run P w = .ok v w := by
  unfold vFieldAddr at h
  split at h <;> (first | exact h.elim | skip)
  rename_i fs hu
  split at h <;> (first | exact h.elim | skip)
  rename_i fd hf
  split at h <;> (first | exact h.elim | skip)
  rename_i ti hi
  split at h <;> (first | exact h.elim | skip)
  rename_i n hsz
  have hs : ∀ w, (sizeOf fd.type).run P w = .ok (n + 1) w := fun w => by simp [sizeOf, typeInfo, hi, hsz]
  split at h <;> (first | exact h.elim | skip)
  · rename_i i off
    obtain ⟨b, hb, rfl⟩ := hx
    refine ⟨_, _, h, ⟨b, hb, rfl⟩, fun w => ?_⟩
    simp [Instr.fieldAt, run_underlying hu, hf, Instr.sureAddr, fieldPlace, hs, Addr.add_loc]
  · rename_i a
    obtain rfl : cx = .pointer (some a) := hx
    refine ⟨_, _, h, rfl, fun w => ?_⟩
    simp [Instr.fieldAt, run_underlying hu, hf, Instr.sureAddr, fieldPlace, hs]

theorem vField_run {st : TypeId} {x : AV} {cx : Value} {f : Nat} {K : Value → Prop} (hx : Conc bs x cx) (h : vField P st x f K) :
    ∃ v, K v ∧ ∀ w, (Instr.field st cx f).run P w = .ok v w := by
  unfold vField at h
  split at h <;> (first | exact h.elim | skip)
  rename_i fs cs hu
  split at h <;> (first | exact h.elim | skip)
  rename_i fd hf
  split at h <;> (first | exact h.elim | skip)
  rename_i v hv
  obtain rfl : cx = .agg cs := hx
  exact ⟨v, h, fun w => by simp [Instr.field, run_underlying hu, hf, asAgg, partV_run hv]⟩

theorem vIndexAddr_run {t : TypeId} {x ix : AV} {cx ci : Value} {K : AV → Prop} (hx : Conc bs x cx) (hi : Conc bs ix ci) (h : vIndexAddr P t x ix K) :
    ∃ av v, K av ∧ Conc bs av v ∧ ∀ w, (Instr.indexAt t cx ci).run P w = .ok v w := by
  unfold vIndexAddr at h
  split at h <;> (first | exact h.elim | skip)
  rename_i k i
  obtain rfl : ci = .int k i := hi
  split at h <;> (first | exact h.elim | skip)
  · rename_i e hu
    split at h <;> (first | exact h.elim | skip)
    rename_i ti a len cap hti
    obtain rfl : cx = .slice a len cap := hx
    obtain ⟨hb, h⟩ := h
    cases a with
    | none => exact h.elim
    | some ad =>
      refine ⟨_, _, h, rfl, fun w => ?_⟩
      have hs : ∀ w, (sizeOf e).run P w = .ok ti.size w := fun w => by simp [sizeOf, typeInfo, hti]
      simp [Instr.indexAt, asIntOf, run_underlying hu, hb, hs]
  · rename_i n e hu
    split at h <;> (first | exact h.elim | skip)
    · rename_i ti ad hti
      obtain rfl : cx = .pointer (some ad) := hx
      obtain ⟨hb, h⟩ := h
      refine ⟨_, _, h, rfl, fun w => ?_⟩
      have hs : ∀ w, (sizeOf e).run P w = .ok ti.size w := fun w => by simp [sizeOf, typeInfo, hti]
      simp [Instr.indexAt, asIntOf, run_underlying hu, hb, hs, Instr.sureAddr]
    · rename_i ti j off hti
      obtain ⟨b, hb1, rfl⟩ := hx
      obtain ⟨hb, h⟩ := h
      refine ⟨_, _, h, ⟨b, hb1, rfl⟩, fun w => ?_⟩
      have hs : ∀ w, (sizeOf e).run P w = .ok ti.size w := fun w => by simp [sizeOf, typeInfo, hti]
      simp [Instr.indexAt, asIntOf, run_underlying hu, hb, hs, Instr.sureAddr, Addr.add_loc]

theorem vIndex_run {t : TypeId} {x ix : AV} {cx ci : Value} {K : Value → Prop} (hx : Conc bs x cx) (hi : Conc bs ix ci) (h : vIndex P t x ix K) :
    ∃ v, K v ∧ ∀ w, (Instr.index t cx ci).run P w = .ok v w := by
  unfold vIndex at h
  split at h <;> (first | exact h.elim | skip)
  rename_i k i
  obtain rfl : ci = .int k i := hi
  split at h <;> (first | exact h.elim | skip)
  · rename_i s hu
    obtain rfl : cx = .string s := hx
    obtain ⟨c, ⟨h0, hc⟩, h⟩ := h
    exact ⟨_, h, fun w => by simp [Instr.index, asIntOf, run_underlying hu, h0, hc]⟩
  · rename_i n e cs hu
    obtain rfl : cx = .agg cs := hx
    split at h <;> (first | exact h.elim | skip)
    rename_i ti hti
    obtain ⟨hb, h⟩ := h
    split at h <;> (first | exact h.elim | skip)
    rename_i v hv
    have hs : ∀ w, (sizeOf e).run P w = .ok ti.size w := fun w => by simp [sizeOf, typeInfo, hti]
    exact ⟨v, h, fun w => by simp [Instr.index, asIntOf, run_underlying hu, hb, hs, partV_run hv]⟩

theorem evAll_run {s : VS} {ev : Operand → Value} (hev : ∀ x, Conc bs (s.ev x) (ev x)) : ∀ (l : List Operand) (vs : List Value), evAll s l = some vs → l.map ev = vs := by
  intro l
  induction l with
  | nil => intro vs h; simp [evAll] at h; simp [h]
  | cons x r ih =>
    intro vs h
    unfold evAll at h
    split at h
    · rename_i a b ha hb
      cases h
      have := hev x
      rw [ha] at this
      simp only [List.map_cons, ih b hb, show ev x = a from this]
    · cases h

theorem evParts_run {s : VS} {ev : Operand → Value} (hev : ∀ x, Conc bs (s.ev x) (ev x)) : ∀ (l : List (Nat × Operand)) (vs : List (Nat × Value)), evParts s l = some vs →
    l.map (fun p => (p.1, ev p.2)) = vs := by
  intro l
  induction l with
  | nil => intro vs h; simp [evParts] at h; simp [h]
  | cons x r ih =>
    obtain ⟨i, x⟩ := x
    intro vs h
    unfold evParts at h
    split at h
    · rename_i a b ha hb
      cases h
      have := hev x
      rw [ha] at this
      simp only [List.map_cons, ih b hb, show ev x = a from this]
    · cases h

theorem placesOf_run : ∀ (l : List Field) (pl : List (Nat × Nat)), placesOf P l = some pl → ∀ w, (l.mapM fun f => do pure (f.offset, ← sizeOf f.type) : Sem (List (Nat × Nat))).run P w = .ok pl w := by
  intro l
  induction l with
  | nil => intro pl h w; simp [placesOf] at h; simp [h]
  | cons f r ih =>
    intro pl h w
    unfold placesOf at h
    split at h
    · rename_i ti b hti hb
      cases h
      have hs : (sizeOf f.type).run P w = .ok ti.size w := by simp [sizeOf, typeInfo, hti]
      simp only [List.mapM_cons, Sem.run_bind, hs, ih b hb, Result.andThen_ok, Sem.run_pure]
    · cases h

theorem vBuild_run {t : TypeId} {parts : Option (List (Nat × Value))} {K : Value → Prop} (h : vBuild P t parts K) :
    ∃ v ps, K v ∧ parts = some ps ∧ ∀ w, (Instr.build t ps.toArray).run P w = .ok v w := by
  unfold vBuild at h
  split at h <;> (first | exact h.elim | skip)
  · rename_i ti fs ps hti hu
    split at h <;> (first | exact h.elim | skip)
    rename_i z pl hz hpl
    split at h <;> (first | exact h.elim | skip)
    rename_i cells hfill
    refine ⟨_, ps, h, rfl, fun w => ?_⟩
    have hm := placesOf_run fs.toList pl hpl w
    have hm' : (fs.mapM fun f => do pure (f.offset, ← sizeOf f.type) : Sem (Array (Nat × Nat))).run P w = .ok pl.toArray w := by
      rw [Array.mapM_eq_mapM_toList]
      simp only [Sem.run_map, hm, Result.andThen_ok]
    simp only [Instr.build, Sem.run_bind, zeroValue, typeInfo, run_program, Result.andThen_ok, hti, Sem.run_pure, hz, run_underlying hu, hm']
    have e : (fun (x : Nat) => (pl.toArray)[x]?) = (fun (x : Nat) => pl[x]?) := by funext i; simp
    simp only [e, hfill, Sem.run_pure]
  · rename_i ti n e ps hti hu
    split at h <;> (first | exact h.elim | skip)
    rename_i z te hz hte
    split at h <;> (first | exact h.elim | skip)
    rename_i cells hfill
    refine ⟨_, ps, h, rfl, fun w => ?_⟩
    simp only [Instr.build, Sem.run_bind, zeroValue, typeInfo, run_program, Result.andThen_ok, hti, Sem.run_pure, hz, run_underlying hu, sizeOf, hte, hfill]

theorem vMm_run (mx : Bool) : ∀ (r : List Value) (x : Value) (K : Value → Prop), vMm mx x r K → ∃ v, K v ∧ ∀ w, (r.foldlM (match mx with | true => Builtin.max2 | false => Builtin.min2) x : Sem Value).run P w = .ok v w := by
  intro r
  induction r with
  | nil => intro x K h; unfold vMm at h; exact ⟨x, h, fun w => by simp⟩
  | cons y r ih =>
    intro x K h
    unfold vMm at h
    split at h <;> (first | exact h.elim | skip)
    · rename_i he; cases he
    · rename_i k a k' b r' he
      cases he
      obtain ⟨v, hv, hr⟩ := ih _ _ h
      refine ⟨v, hv, fun w => ?_⟩
      rw [List.foldlM_cons, Sem.run_bind]
      cases mx
      · have : ∀ w, (Builtin.min2 (.int k a) (.int k' b)).run P w = .ok (.int k (if b < a then b else a)) w := fun w => by simp [Builtin.min2]
        simp only [this, Result.andThen_ok]
        exact hr w
      · have : ∀ w, (Builtin.max2 (.int k a) (.int k' b)).run P w = .ok (.int k (if b > a then b else a)) w := fun w => by simp [Builtin.max2]
        simp only [this, Result.andThen_ok]
        exact hr w

theorem concO_map {s : VS} {ev : Operand → Value} (hev : ∀ x, Conc bs (s.ev x) (ev x)) (x : Option Operand) : ConcO bs (x.map s.ev) (x.map ev) := by
  cases x with
  | none => exact .none
  | some x => exact .some (hev x)

theorem exec_eq {ev : Operand → Value} {o : Oper} {w : World} {v : Value} {S : Sem Value} (he : execOp ev o = (do pure (.value (← S)))) (h : S.run P w = .ok v w) :
    (execOp ev o).run P w = .ok (.value v) w := by
  rw [he]; simp only [Sem.run_bind, h, Result.andThen_ok, Sem.run_pure]

/-- WHAT A PURE OPERATION YIELDS, IT YIELDS IN EVERY WORLD. -/
theorem vPure_run {s : VS} {ev : Operand → Value} (hev : ∀ x, Conc bs (s.ev x) (ev x)) {o : Oper} {K : AV → Prop} (h : vPure P o.op s K) :
    ∃ av v, K av ∧ Conc bs av v ∧ ∀ w, (execOp ev o).run P w = .ok (.value v) w := by
  obtain ⟨dst, op, type, pos, after, guard⟩ := o
  dsimp only at h
  unfold vPure at h
  split at h <;> (first | exact h.elim | skip)
  · exact ⟨_, _, h, hev _, fun w => rfl⟩
  · exact ⟨_, _, h, hev _, fun w => rfl⟩
  · rename_i c a b
    split at h <;> (first | exact h.elim | skip)
    rename_i t hc
    have hc' := hev c
    rw [hc] at hc'
    have hc'' : ev c = .bool t := hc'
    cases t with
    | true => exact ⟨_, _, h, hev a, fun w => by simp [execOp, hc'', asBool]⟩
    | false => exact ⟨_, _, h, hev b, fun w => by simp [execOp, hc'', asBool]⟩
  · rename_i x
    have hx := hev x
    split at h <;> (first | exact h.elim | skip)
    · rename_i i off he
      rw [he] at hx
      obtain ⟨b, hb, hv⟩ := hx
      exact ⟨_, _, h, ⟨b, hb, rfl⟩, fun w => by simp [execOp, hv]⟩
    · rename_i p he
      rw [he] at hx
      have hv : ev x = .pointer p := hx
      cases p with
      | none => exact h.elim
      | some a => exact ⟨_, _, h, rfl, fun w => by simp [execOp, hv]⟩
    · rename_i f fi ca he
      rw [he] at hx
      have hv : ev x = .func (.func f) fi ca := hx
      exact ⟨_, _, h, rfl, fun w => by simp [execOp, hv]⟩
  · rename_i op t x y yt
    split at h <;> (first | exact h.elim | skip)
    rename_i a b ha hb
    have hx := hev x; have hy := hev y
    rw [ha] at hx; rw [hb] at hy
    obtain ⟨v, hK, hr⟩ := vBin_run (xo := x) (yo := y) h
    refine ⟨_, v, hK, rfl, fun w => exec_eq rfl ?_⟩
    rw [show ev x = a from hx, show ev y = b from hy]
    exact hr w
  · rename_i op t x
    have hx := hev x
    split at h <;> (first | exact h.elim | skip)
    · rename_i b he
      rw [he] at hx
      exact ⟨_, _, h, rfl, fun w => exec_eq rfl (by rw [show ev x = .bool b from hx]; rfl)⟩
    · rename_i k n he
      rw [he] at hx
      exact ⟨_, _, h, rfl, fun w => exec_eq rfl (by rw [show ev x = .int k n from hx]; rfl)⟩
  · rename_i src dst x
    have hx := hev x
    split at h <;> (first | exact h.elim | skip)
    · rename_i d k k' n hs hd he
      rw [he] at hx
      refine ⟨_, _, h, rfl, fun w => exec_eq rfl ?_⟩
      rw [show ev x = .int k' n from hx]
      simp [convert, run_underlying hs, run_underlying hd, Conv.intToInt]
    · rename_i d t hs hd he
      rw [he] at hx
      refine ⟨_, _, h, rfl, fun w => exec_eq rfl ?_⟩
      rw [show ev x = .string t from hx]
      simp [convert, run_underlying hs, run_underlying hd]
  · rename_i fn first captured
    split at h <;> (first | exact h.elim | skip)
    rename_i a b ha hb
    have e1 := evAll_run hev _ _ ha
    have e2 := evAll_run hev _ _ hb
    refine ⟨_, _, h, rfl, fun w => exec_eq rfl ?_⟩
    have e1' : first.map ev = a.toArray := by rw [← e1, ← Array.toList_map, Array.toArray_toList]
    have e2' : captured.map ev = b.toArray := by rw [← e2, ← Array.toList_map, Array.toArray_toList]
    simp [Instr.makeFunc, e1', e2']
  · rename_i t i
    have hx := hev t
    split at h <;> (first | exact h.elim | skip)
    rename_i vs he
    rw [he] at hx
    split at h <;> (first | exact h.elim | skip)
    rename_i v hv
    refine ⟨_, _, h, rfl, fun w => exec_eq rfl ?_⟩
    rw [show ev t = .tuple vs from hx]
    simp [Instr.extract, hv]
  · obtain ⟨av, v, hK, hc, hr⟩ := vFieldAddr_run (hev _) h
    exact ⟨av, v, hK, hc, fun w => exec_eq rfl (hr w)⟩
  · obtain ⟨v, hK, hr⟩ := vField_run (hev _) h
    exact ⟨_, v, hK, rfl, fun w => exec_eq rfl (hr w)⟩
  · obtain ⟨av, v, hK, hc, hr⟩ := vIndexAddr_run (hev _) (hev _) h
    exact ⟨av, v, hK, hc, fun w => exec_eq rfl (hr w)⟩
  · obtain ⟨v, hK, hr⟩ := vIndex_run (hev _) (hev _) h
    exact ⟨_, v, hK, rfl, fun w => exec_eq rfl (hr w)⟩
  · obtain ⟨v, hK, hr⟩ := vSlice_run (hev _) (concO_map hev _) (concO_map hev _) (concO_map hev _) h
    exact ⟨_, v, hK, rfl, fun w => exec_eq rfl (hr w)⟩
  · rename_i t parts
    obtain ⟨v, ps, hK, hps, hr⟩ := vBuild_run h
    have e1 := evParts_run hev _ _ hps
    refine ⟨_, v, hK, rfl, fun w => exec_eq rfl ?_⟩
    have e : (parts.map fun (i, x) => (i, ev x)) = ps.toArray := by rw [← e1, ← Array.toList_map, Array.toArray_toList]
    rw [e]; exact hr w
  · rename_i b args tys
    have hl : ∀ l, evAll s args.toList = some l → args.map ev = l.toArray := fun l hl => by
      rw [← evAll_run hev _ _ hl, ← Array.toList_map, Array.toArray_toList]
    have go : ∀ (S : Sem Value) (v : Value) w, builtin b tys type (args.map fun | .const _ => true | _ => false) (args.map ev) = (do pure (.value (← S))) → S.run P w = .ok v w →
        (execOp ev ⟨dst, .call { callee := .builtin b, args := args, argTypes := tys }, type, pos, after, guard⟩).run P w = .ok (.value v) w := fun S v w hb hS => by
      have he : execOp ev ⟨dst, .call { callee := .builtin b, args := args, argTypes := tys }, type, pos, after, guard⟩ = builtin b tys type (args.map fun | .const _ => true | _ => false) (args.map ev) := rfl
      rw [he, hb]
      simp only [Sem.run_bind, hS, Result.andThen_ok, Sem.run_pure]
    split at h <;> (first | exact h.elim | skip)
    · rename_i t hargs
      split at h <;> (first | exact h.elim | skip)
      rename_i hu
      obtain ⟨t0, ht0, hu⟩ := Option.bind_eq_some_iff.1 hu
      refine ⟨_, _, h, rfl, fun w => go (Builtin.len_ tys type (args.map ev)) _ w rfl ?_⟩
      rw [hl _ hargs]
      simp [Builtin.len_, ht0, run_underlying hu, goInt]
    · rename_i a n c hargs
      split at h <;> (first | exact h.elim | skip)
      rename_i e hu
      obtain ⟨t0, ht0, hu⟩ := Option.bind_eq_some_iff.1 hu
      refine ⟨_, _, h, rfl, fun w => go (Builtin.len_ tys type (args.map ev)) _ w rfl ?_⟩
      rw [hl _ hargs]
      simp [Builtin.len_, ht0, run_underlying hu, goInt]
    · rename_i a n c hargs
      split at h <;> (first | exact h.elim | skip)
      rename_i e hu
      obtain ⟨t0, ht0, hu⟩ := Option.bind_eq_some_iff.1 hu
      refine ⟨_, _, h, rfl, fun w => go (Builtin.cap_ tys type (args.map ev)) _ w rfl ?_⟩
      rw [hl _ hargs]
      simp [Builtin.cap_, ht0, run_underlying hu, goInt]
    · rename_i x r hargs
      obtain ⟨v, hK, hr⟩ := vMm_run (P := P) true r x _ h
      refine ⟨_, v, hK, rfl, fun w => go (Builtin.max_ tys type (args.map ev)) _ w rfl ?_⟩
      rw [hl _ hargs]
      simpa [Builtin.max_] using hr w
    · rename_i x r hargs
      obtain ⟨v, hK, hr⟩ := vMm_run (P := P) false r x _ h
      refine ⟨_, v, hK, rfl, fun w => go (Builtin.min_ tys type (args.map ev)) _ w rfl ?_⟩
      rw [hl _ hargs]
      simpa [Builtin.min_] using hr w
end Go.KC
