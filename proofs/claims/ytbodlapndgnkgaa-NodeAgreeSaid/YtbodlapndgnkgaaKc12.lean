/- THE CORE, part 12: the walk of a region that draws its order is sound. Generic. -/
import Derived.Test.YtbodlapndgnkgaaKc11
set_option linter.all false
set_option linter.constructorNameAsVariable false
namespace Go.KC
variable {P : Program} {M0 : Nat → Prop} {w0 : World} {bs : List Nat} {M : Nat → Prop} {s : VS} {a : Act} {w : World}

theorem Grow.cell {w w' : World} (h : Grow w w') {p : Addr} {v : Value} (hc : Hp.cell? w.heap p = some v) : Hp.cell? w'.heap p = some v := by
  unfold Hp.cell? at *
  cases hb : w.heap[p.block]? with
  | none => simp [hb] at hc
  | some o => rw [h _ _ hb]; simpa [hb] using hc

theorem MapAt.grow {w w' : World} (h : Grow w w') {m : Option Nat} {es : List MapEntry} (hm : MapAt w.heap m es) : MapAt w'.heap m es := by
  cases m with
  | none => exact hm
  | some r => obtain ⟨c, hc⟩ := hm; exact ⟨c, h _ _ hc⟩

theorem take_run {pr : List Nat} {o : Oper} {k : AV → VS → Prop} {n0 lvl : Nat} {Mf : Nat → Prop} (hr : RelB M0 w0 bs M s a w) (hn : ∀ (i b : Nat), i < n0 → bs[i]? = some b → Mf b) (hl : tkLvl n0 s o.op = some lvl) (h : vOp P pr o s k) :
    ∃ av v, k av s ∧ Conc bs av v ∧ ∀ w', RL lvl Mf w w' → (execOp a.eval o).run P w' = .ok (.value v) w' := by
  obtain ⟨dst, op, type, pos, after, guard⟩ := o
  dsimp only at hl
  have pure : (vPure P op s fun av => k av s) → ∃ av v, k av s ∧ Conc bs av v ∧ ∀ w', RL lvl Mf w w' → (execOp a.eval ⟨dst, op, type, pos, after, guard⟩).run P w' = .ok (.value v) w' := fun hp => by
    obtain ⟨av, v, hk, hc, hrun⟩ := vPure_run (o := ⟨dst, op, type, pos, after, guard⟩) hr.ev hp
    exact ⟨av, v, hk, hc, fun w' _ => hrun w'⟩
  unfold tkLvl at hl
  split at hl
  · rename_i t addr
    have pv : ∀ (v : Value) (w' : World), (Instr.loadAt t (a.eval addr)).run P w' = .ok v w' → (execOp a.eval ⟨dst, .load t addr, type, pos, after, guard⟩).run P w' = .ok (.value v) w' := fun v w' hS => by
      have he : execOp a.eval ⟨dst, .load t addr, type, pos, after, guard⟩ = (do Pure.pure (.value (← Instr.loadAt t (a.eval addr)))) := rfl
      rw [he]; simp only [Sem.run_bind, hS, Result.andThen_ok, Sem.run_pure]
    have ha := hr.ev addr
    unfold vOp at h
    dsimp only at h
    split at h <;> (first | exact h.elim | skip)
    · rename_i i off hloc
      rw [hloc] at ha hl
      obtain ⟨b, hb, hp⟩ := ha
      split at h <;> (first | exact h.elim | skip)
      rename_i e cs ti hcs hti
      split at h <;> (first | exact h.elim | skip)
      rename_i hle
      obtain ⟨q1, q2, q3⟩ := hr.lc i b _ hb hcs
      have h' : vPart P t (cs.toArray).toList off fun v => k (.v v) s := by simpa using h
      obtain ⟨v, hk, hpv⟩ := vPart_part h'
      refine ⟨.v v, v, hk, rfl, fun w' hw' => pv v w' ?_⟩
      have q3' : w'.heap[b]? = some (.cells cs.toArray e (0, 0)) := by
        dsimp only at hl
        split at hl
        · rename_i hlt
          cases hl
          exact (hw' b (hn i b (Nat.le_of_ble_eq_true hlt) hb)).trans q3
        · cases hl
          exact hw' b _ q3
      have hrun := loadVar_part (P := P) (w := w') (b := b) (off := off) (cs := cs) q3' hti (Nat.le_of_ble_eq_true hle) hpv
      rw [hp]; simpa [Instr.loadAt, Instr.sureAddr] using hrun
    · rename_i p hloc
      rw [hloc] at ha hl
      cases hl
      obtain ⟨v, hk, hrun⟩ := vLoad_run (M := M) h
      refine ⟨.v v, v, hk, rfl, fun w' hw' => pv v w' ?_⟩
      rw [show a.eval addr = _ from ha]
      exact hrun w' fun b v hc => Grow.cell hw' (hr.hd.cell hc).2
  all_goals first
    | exact pure h
    | (rename_i src d x
       unfold vOp at h
       dsimp only at h
       split at hl
       · rename_i hx
         rw [hx] at h
         exact pure h
       · cases hl)
    | (rename_i args tys
       unfold vOp at h
       dsimp only at h
       generalize hA : evAll s args.toList = A at h hl
       generalize hB : (tys[0]?).bind P.underlying = B at h
       split at h
       · rename_i m kt e
         cases hl
         obtain ⟨es, hm, hk⟩ := h
         have e1 := evAll_run hr.ev _ _ hA
         have e2 : args.map a.eval = #[.map m] := by apply Array.ext'; rw [Array.toList_map, e1]
         obtain ⟨t, ht, hu⟩ := Option.bind_eq_some_iff.1 hB
         refine ⟨_, _, hk, rfl, fun w' hw' => ?_⟩
         have he : execOp a.eval ⟨dst, .call { callee := .builtin .len, args := args, argTypes := tys }, type, pos, after, guard⟩ = (do Pure.pure (.value (← Builtin.len_ tys type (args.map a.eval)))) := rfl
         have hm' : MapAt w'.heap m es := MapAt.grow hw' (MapAt.hides hr.hd hm)
         rw [he, e2]; simp only [Sem.run_bind, mapAt_len hu hm' tys ht, Result.andThen_ok, Sem.run_pure]
       · exact pure h)
    | (rename_i b args tys hno
       cases b <;> (first | exact (hno rfl).elim | (cases hl; done) | exact pure h))
    | (rename_i t i
       unfold vOp at h
       dsimp only at h
       split at h
       · rename_i x y h1
         have ht := hr.ev t
         rw [h1] at ht
         split at h <;> (first | exact h.elim | skip)
         all_goals
           (obtain ⟨v, hv, hk⟩ := exR_any h
            refine ⟨_, _, hk, rfl, fun w' hw' => ?_⟩
            have he : ∀ j, execOp a.eval ⟨dst, .extract t j, type, pos, after, guard⟩ = (do Pure.pure (.value (← Instr.extract (a.eval t) j))) := fun _ => rfl
            rw [he, show a.eval t = _ from ht, ← hv]; rfl)
       · exact pure h)
    | (rename_i it
       cases hl
       unfold vOp at h
       dsimp only at h
       have hit := hr.ev it
       split at h <;> (first | exact h.elim | skip)
       rename_i p h1
       rw [h1] at hit
       obtain ⟨h0, e, he, hk⟩ := h
       obtain ⟨b, off, sp⟩ := p
       dsimp only at h0 he
       subst h0
       refine ⟨_, _, hk, rfl, fun w' hw' => ?_⟩
       have hx : execOp a.eval ⟨dst, .entry it, type, pos, after, guard⟩ = (do Pure.pure (.value (← Instr.entry (a.eval it)))) := rfl
       rw [hx, show a.eval it = _ from hit]; simp only [Sem.run_bind, entry_run (P := P) (he.hides hr.hd) w' hw', Result.andThen_ok, Sem.run_pure])
    | (rename_i t m x ok
       cases hl
       have hm := hr.ev m
       have hx := hr.ev x
       unfold vOp at h
       dsimp only at h
       have pv : ∀ (v : Value) (w' : World), (Instr.lookup t (a.eval m) (a.eval x) ok).run P w' = .ok v w' → (execOp a.eval ⟨dst, .lookup t m x ok, type, pos, after, guard⟩).run P w' = .ok (.value v) w' := fun v w' hS => by
         have he : execOp a.eval ⟨dst, .lookup t m x ok, type, pos, after, guard⟩ = (do Pure.pure (.value (← Instr.lookup t (a.eval m) (a.eval x) ok))) := rfl
         rw [he]; simp only [Sem.run_bind, hS, Result.andThen_ok, Sem.run_pure]
       split at h <;> (first | exact h.elim | skip)
       · rename_i r kv h1 h2
         rw [h1] at hm; rw [h2] at hx
         obtain ⟨u, hu⟩ := exR_any h
         split at hu <;> (first | exact hu.elim | skip)
         rename_i v b
         obtain ⟨hlk, hk⟩ := hu
         refine ⟨_, _, hk, rfl, fun w' hw' => pv _ w' ?_⟩
         rw [show a.eval m = _ from hm, show a.eval x = _ from hx]
         exact look_run hlk true w' fun es he => MapAt.grow hw' (MapAt.hides hr.hd he)
       · rename_i r kv h1 h2
         rw [h1] at hm; rw [h2] at hx
         obtain ⟨v, ⟨b, hlk⟩, hk⟩ := exR_any h
         refine ⟨_, _, hk, rfl, fun w' hw' => pv _ w' ?_⟩
         rw [show a.eval m = _ from hm, show a.eval x = _ from hx]
         exact look_run hlk false w' fun es he => MapAt.grow hw' (MapAt.hides hr.hd he))
    | (cases hl; done)

theorem allR_mem {F : Nat → Prop} : ∀ {l : List Nat}, allR F l → ∀ i ∈ l, F i
  | [], _, i, hi => by cases hi
  | [j], h, i, hi => by cases hi with | head => exact h | tail _ hi => cases hi
  | j :: j' :: r, h, i, hi => by
    cases hi with
    | head => exact h.1
    | tail _ hi => exact allR_mem h.2 i hi

theorem lkB_lt : ∀ {acc : List Bool} {n k : Nat}, acc.length = n → lkB acc n k = true → k < n
  | [], n, k, _, h => by cases h
  | b :: r, n, k, hl, h => by
    unfold lkB at h
    simp only [List.length_cons] at hl
    split at h
    · rename_i hk
      have := Nat.eq_of_beq_eq_true hk
      omega
    · have := lkB_lt (acc := r) (n := n - 1) (by omega) h
      omega
theorem lkB_push {acc : List Bool} {n k : Nat} {b : Bool} (hk : k < n) : lkB (b :: acc) (n + 1) k = lkB acc n k := by
  rw [lkB]
  split
  · rename_i h
    have := Nat.eq_of_beq_eq_true h
    omega
  · rfl
theorem lkB_new {acc : List Bool} {n : Nat} {b : Bool} : lkB (b :: acc) (n + 1) n = b := by
  rw [lkB]
  split
  · rfl
  · rename_i h
    simp at h
theorem nlGo_spec {ops : Array Oper} {listed : Array Bool} {i lvl : Nat} : ∀ (l : List Oper) (n : Nat) (acc : List Bool), acc.length = n → (∀ j, l[j]? = ops[n + j]?) → nlGo i lvl listed l n acc = true →
    (∀ j, lkB acc n j = true → listed.getD j true = false ∧ ∃ oj, ops[j]? = some oj ∧ ∃ e ∈ oj.after, Region.binds .any e = true ∧ (e.on = i ∨ lkB acc n e.on = true)) →
    (∀ j oj, j < n → ops[j]? = some oj → j ≠ i → listed.getD j true = false → lkB acc n j = false → clsOf oj.op ≤ lvl) →
    ∃ B : Nat → Bool, (∀ j, B j = true → listed.getD j true = false ∧ ∃ oj, ops[j]? = some oj ∧ ∃ e ∈ oj.after, Region.binds .any e = true ∧ (e.on = i ∨ B e.on = true)) ∧
      (∀ j oj, ops[j]? = some oj → j ≠ i → listed.getD j true = false → B j = false → clsOf oj.op ≤ lvl)
  | [], n, acc, hl, hops, _, h1, h2 => by
    refine ⟨lkB acc n, h1, fun j oj hj => h2 j oj ?_ hj⟩
    have h0 := hops (j - n)
    rcases Nat.lt_or_ge j n with c | c
    · exact c
    · rw [show n + (j - n) = j by omega, hj] at h0
      simp at h0
  | o :: r, n, acc, hl, hops, h, h1, h2 => by
    have ho : ops[n]? = some o := by have := hops 0; simpa using this.symm
    have hops' : ∀ j, r[j]? = ops[n + 1 + j]? := fun j => by have := hops (j + 1); rw [Nat.add_assoc, Nat.add_comm 1 j]; simpa using this
    have go : ∀ b : Bool, nlGo i lvl listed r (n + 1) (b :: acc) = true → (b = true → listed.getD n true = false ∧ ∃ e ∈ o.after, Region.binds .any e = true ∧ (e.on = i ∨ lkB acc n e.on = true)) →
        (b = false → n ≠ i → listed.getD n true = false → clsOf o.op ≤ lvl) → ∃ B : Nat → Bool, (∀ j, B j = true → listed.getD j true = false ∧ ∃ oj, ops[j]? = some oj ∧ ∃ e ∈ oj.after, Region.binds .any e = true ∧ (e.on = i ∨ B e.on = true)) ∧
      (∀ j oj, ops[j]? = some oj → j ≠ i → listed.getD j true = false → B j = false → clsOf oj.op ≤ lvl) := fun b hb ht hf => by
      have up : ∀ k, lkB acc n k = true → lkB (b :: acc) (n + 1) k = true := fun k hk => by rw [lkB_push (lkB_lt hl hk)]; exact hk
      refine nlGo_spec r (n + 1) (b :: acc) (by simp [hl]) hops' hb (fun j hj => ?_) (fun j oj hjn hj hne hun hB => ?_)
      · have hjn := lkB_lt (by simp [hl]) hj
        by_cases c : j = n
        · subst c
          rw [lkB_new] at hj
          obtain ⟨q1, e, he, hbd, q2⟩ := ht hj
          exact ⟨q1, o, ho, e, he, hbd, q2.imp id (up _)⟩
        · rw [lkB_push (by omega)] at hj
          obtain ⟨q1, oj, q2, e, he, hbd, q3⟩ := h1 j hj
          exact ⟨q1, oj, q2, e, he, hbd, q3.imp id (up _)⟩
      · by_cases c : j = n
        · subst c
          rw [lkB_new] at hB
          rw [ho] at hj; cases hj
          exact hf hB hne hun
        · rw [lkB_push (by omega)] at hB
          exact h2 j oj (by omega) hj hne hun hB
    unfold nlGo at h
    split at h
    · rename_i hc
      refine go false h (fun e => by cases e) (fun _ hne hun => ?_)
      simp only [Bool.or_eq_true] at hc
      rcases hc with hc | hc
      · rw [hun] at hc; cases hc
      · exact (hne (Nat.eq_of_beq_eq_true hc)).elim
    · rename_i hc
      simp only [Bool.or_eq_false_iff] at hc
      split at h
      · rename_i ha
        obtain ⟨e, he, hb⟩ := Array.any_eq_true'.1 ha
        simp only [Bool.and_eq_true, Bool.or_eq_true] at hb
        refine go true h (fun _ => ⟨hc.1, e, he, hb.1, hb.2.imp (fun h => Nat.eq_of_beq_eq_true h) id⟩) (fun e => by cases e)
      · split at h
        · rename_i hle
          exact go false h (fun e => by cases e) (fun _ _ _ => Nat.le_of_ble_eq_true hle)
        · cases h
theorem nlOK_spec {ops : Array Oper} {listed : Array Bool} {i lvl : Nat} (h : nlOK ops listed i lvl = true) :
    ∃ B : Nat → Bool, (∀ j, B j = true → listed.getD j true = false ∧ ∃ oj, ops[j]? = some oj ∧ ∃ e ∈ oj.after, Region.binds .any e = true ∧ (e.on = i ∨ B e.on = true)) ∧
      (∀ j oj, ops[j]? = some oj → j ≠ i → listed.getD j true = false → B j = false → clsOf oj.op ≤ lvl) :=
  nlGo_spec ops.toList 0 [] rfl (fun j => by simp) h (fun j hj => by cases hj) fun j oj hj => by omega

theorem vDraw_run {pr : List Nat} {n0 : Nat} {ops : Array Oper} {K : VS → Prop} {Mf : Nat → Prop} (hs : Region.noSelect ops = true) :
    ∀ (fuel : Nat) (listed : Array Bool) (s : VS) (bs : List Nat) (M : Nat → Prop) (a : Act) (w : World), RelB M0 w0 bs M s a w → (∀ b, Mf b → M b) → (∀ (i b : Nat), i < n0 → bs[i]? = some b → Mf b) → (n0 ≤ bs.length) →
      vDraw P pr n0 ops K fuel listed s → wpAnyC P Mf ops (fun a w => ∃ s, K s ∧ Rel M0 w0 s a w) fuel listed a w := by
  intro fuel
  induction fuel with
  | zero =>
    intro listed s bs M a w hr hf hn hl h
    unfold vDraw at h
    split at h
    · rename_i he; exact ⟨he, s, h, bs, M, hr⟩
    · exact h.elim
  | succ fuel ih =>
    intro listed s bs M a w hr hf hn hl h
    unfold vDraw at h
    split at h
    · rename_i he
      exact ⟨fun _ => ⟨s, h, bs, M, hr⟩, by rw [he]; simp⟩
    · rename_i r rs he
      have next : ∀ (i : Nat) (s' : VS) (bs' : List Nat) (M' : Nat → Prop) (a' : Act) (w' : World), (∀ b, Mf b → M' b) → (∀ (i b : Nat), bs[i]? = some b → bs'[i]? = some b) → RelB M0 w0 bs' M' s' a' w' →
          vDraw P pr n0 ops K fuel (listed.setIfInBounds i true) s' → wpAnyC P Mf ops (fun a w => ∃ s, K s ∧ Rel M0 w0 s a w) fuel (listed.setIfInBounds i true) a' w' := fun i s' bs' M' a' w' hm hp hR hk => by
        refine ih _ s' bs' M' a' w' hR hm (fun j b hj hb => ?_) ?_ hk
        · have h1 : bs[j]? = some bs[j] := List.getElem?_eq_getElem (by omega)
          have h2 := hp j _ h1
          rw [h2] at hb
          cases hb
          exact hn j _ hj h1
        · by_cases h0 : n0 = 0
          · omega
          · have h1 : bs[n0 - 1]? = some bs[n0 - 1] := List.getElem?_eq_getElem (by omega)
            have h2 := (List.getElem?_eq_some_iff.1 (hp _ _ h1)).1
            omega
      split at h
      · rename_i i hfind
        have hmem := List.mem_of_find?_eq_some hfind
        have htk := List.find?_some hfind
        rw [← he] at hmem
        unfold tkOK at htk
        split at htk <;> (first | (cases htk; done) | skip)
        rename_i o hi
        split at htk <;> (first | (cases htk; done) | skip)
        rename_i lvl hlvl
        simp only [Bool.and_eq_true] at htk
        simp only [hi] at h
        obtain ⟨B, hB, hcl⟩ := nlOK_spec htk.2
        have hfree : ∀ j oj, ops[j]? = some oj → j ≠ i → listed.getD j true = false → B j = false → (∀ e ∈ oj.after, Region.binds .any e = true → e.on ≠ i) → o.apart ops oj = true ∧ clsOf oj.op ≤ lvl := fun j oj hj hne hun hb hno =>
          ⟨Region.free_spec hi htk.1 j oj hj hne hun hno, hcl j oj hj hne hun hb⟩
        have fin : ∀ (v : Value) (s' : VS), YieldsR P lvl Mf ops o v a w → RelB M0 w0 bs M s' (a.put o.dst v) w → vDraw P pr n0 ops K fuel (listed.setIfInBounds i true) s' → wpAnyC P Mf ops (fun a w => ∃ s, K s ∧ Rel M0 w0 s a w) (fuel + 1) listed a w := fun v s' hy hR hk =>
          wpAnyC_first hi (Region.noSelect_spec hs) fuel listed a w hfree hB hmem hy (next i s' bs M _ w hf (fun _ _ h => h) hR hk)
        have yes : ∀ k : AV → VS → Prop, Region.wanted o (yielded ops a.tmps) = true → vOp P pr o s (fun av s' => vDraw P pr n0 ops K fuel (listed.setIfInBounds i true) (s'.put o.dst av)) → wpAnyC P Mf ops (fun a w => ∃ s, K s ∧ Rel M0 w0 s a w) (fuel + 1) listed a w := fun _ hw hv => by
          obtain ⟨av, v, hk, hc, hrun⟩ := take_run hr hn hlvl hv
          exact fin v _ (Or.inl ⟨hw, vOp_nodefer hv, hrun⟩) (hr.put _ hc) hk
        have no : Region.wanted o (yielded ops a.tmps) = false → vDraw P pr n0 ops K fuel (listed.setIfInBounds i true) (s.put o.dst (.v undef)) → wpAnyC P Mf ops (fun a w => ∃ s, K s ∧ Rel M0 w0 s a w) (fuel + 1) listed a w := fun hw hk =>
          fin undef _ (Or.inr ⟨hw, rfl⟩) (hr.put (x := .v undef) _ rfl) hk
        unfold vStep at h
        split at h
        · rename_i hg
          exact yes (fun _ _ => True) (by simp [Region.wanted, hg]) h
        · rename_i j want hg
          split at h
          · rename_i hj
            have : yielded ops a.tmps j = none := by unfold yielded; rw [show (ops[j]?).bind (·.dst) = none from hj]; rfl
            exact no (by simp [Region.wanted, hg, this]) h
          · rename_i t hj
            split at h <;> (first | exact h.elim | skip)
            · rename_i b hb
              have hy := yielded_of hr hj hb
              dsimp only at hy
              cases b with
              | true =>
                have e := put_same s hb
                dsimp only [Br] at h
                rw [e] at h
                cases want with
                | true => exact yes (fun _ _ => True) (by simp [Region.wanted, hg, hy]) h
                | false => exact no (by simp [Region.wanted, hg, hy]) h
              | false =>
                have e := put_same s hb
                dsimp only [Br] at h
                rw [e] at h
                cases want with
                | false => exact yes (fun _ _ => True) (by simp [Region.wanted, hg, hy]) h
                | true => exact no (by simp [Region.wanted, hg, hy]) h
            · rename_i x hb
              have hy := yielded_of hr hj hb
              dsimp only at hy
              exact no (by simp [Region.wanted, hg, hy]) h
      · refine ⟨fun e => absurd (he.symm.trans e) (by simp), fun i hi => ?_⟩
        rw [he] at hi
        have h1 := allR_mem h i hi
        unfold wpOpC
        split
        · rename_i ho; simp only [ho] at h1
        · rename_i o ho
          simp only [ho] at h1
          exact (vStep_run hr hf h1).mono fun a' w' ⟨s', bs', M', hm, hp, hk, hR⟩ => next i s' bs' M' a' w' hm hp hR hk

theorem eqLN_eq : ∀ {l m : List Nat}, eqLN l m = true → l = m
  | [], [], _ => rfl
  | i :: r, j :: q, h => by
    unfold eqLN at h
    rw [Bool.and_eq_true] at h
    rw [Nat.eq_of_beq_eq_true h.1, eqLN_eq h.2]
  | [], _ :: _, h => by cases h
  | _ :: _, [], h => by cases h
theorem memLN_mem {i : Nat} : ∀ {l : List Nat}, memLN i l = true → i ∈ l
  | [], h => by cases h
  | j :: q, h => by
    unfold memLN at h
    rw [Bool.or_eq_true] at h
    rcases h with h | h
    · rw [Nat.eq_of_beq_eq_true h]; exact List.mem_cons_self
    · exact List.mem_cons_of_mem _ (memLN_mem h)
theorem needM_bit (k : Nat) : ∀ (l : List Edge), Nat.testBit (needM l) k = l.any fun e => Region.binds .any e && Nat.beq e.on k
  | [] => by simp [needM]
  | e :: r => by
    unfold needM
    rw [List.any_cons, ← needM_bit k r]
    cases hb : Region.binds .any e with
    | false => simp
    | true =>
      rw [Nat.testBit_or, Nat.testBit_two_pow, Bool.true_and, Bool.or_comm]
      congr 1
      by_cases h : e.on = k
      · simp [h]
      · rw [decide_eq_false h]
        cases hq : Nat.beq e.on k with
        | false => rfl
        | true => exact (h (Nat.eq_of_beq_eq_true hq)).elim
theorem bitsM_bit (d : Nat) : ∀ (l : List Nat), Nat.testBit (bitsM l) d = l.contains d
  | [] => by simp [bitsM]
  | e :: r => by
    unfold bitsM
    rw [Nat.testBit_or, Nat.testBit_two_pow, bitsM_bit d r, List.contains_cons, Bool.or_comm]
    congr 1
    by_cases h : e = d
    · simp [h]
    · have h' : ¬ d = e := fun e => h e.symm
      simp [h, h']
theorem land_zero {a b : Nat} (h : Nat.beq (Nat.land a b) 0 = true) (k : Nat) (ha : Nat.testBit a k = true) : Nat.testBit b k = false := by
  have h0 : a &&& b = 0 := Nat.eq_of_beq_eq_true h
  have := congrArg (fun x => Nat.testBit x k) h0
  simp only [Nat.testBit_and, ha, Bool.true_and, Nat.zero_testBit] at this
  exact this
theorem land_not {a b : Nat} (h : Nat.beq (Nat.land a b) 0 = false) : ∃ k, Nat.testBit a k = true ∧ Nat.testBit b k = true := by
  have h0 : a &&& b ≠ 0 := fun e => by
    have : Nat.beq (Nat.land a b) 0 = true := by show Nat.beq (a &&& b) 0 = true; rw [e]; rfl
    rw [this] at h; cases h
  obtain ⟨k, hk⟩ := Nat.exists_testBit_of_ne_zero h0
  rw [Nat.testBit_and, Bool.and_eq_true] at hk
  exact ⟨k, hk⟩
theorem land_same {a b : Nat} (h : Nat.beq (Nat.land a b) a = true) (k : Nat) (ha : Nat.testBit a k = true) : Nat.testBit b k = true := by
  have h0 : a &&& b = a := Nat.eq_of_beq_eq_true h
  have := congrArg (fun x => Nat.testBit x k) h0
  simpa only [Nat.testBit_and, ha, Bool.true_and] using this
theorem forceN_eq (n : Nat) (K : Nat → Bool) : forceN n K = K n := by cases n <;> rfl

/-- What is said of the operations is so. -/
structure InfIs (ops : Array Oper) (I : List Inf) : Prop where
  len : I.length = ops.size
  is : ∀ (j : Nat) (x : Inf) (o : Oper), I[j]? = some x → ops[j]? = some o → x.nd = needM o.after.toList ∧ x.cl = clsOf o.op ∧ x.lk = bitsM (o.looksAt ops) ∧ x.ds = dstM o.dst
theorem infOK_go {ops : Array Oper} : ∀ {l : List Oper} {I : List Inf}, infOK ops l I = true → I.length = l.length ∧ ∀ (j : Nat) (x : Inf) (o : Oper), I[j]? = some x → l[j]? = some o → x.nd = needM o.after.toList ∧ x.cl = clsOf o.op ∧ x.lk = bitsM (o.looksAt ops) ∧ x.ds = dstM o.dst
  | [], [], _ => ⟨rfl, fun j x o h => by simp at h⟩
  | o :: r, x :: q, h => by
    unfold infOK at h
    simp only [Bool.and_eq_true] at h
    obtain ⟨⟨h1, h2, h3, h4⟩, h5⟩ := h
    obtain ⟨e, g⟩ := infOK_go h5
    refine ⟨by simp [e], fun j y p hy hp => ?_⟩
    cases j with
    | zero =>
      rw [List.getElem?_cons_zero] at hy hp
      cases hy; cases hp
      exact ⟨(Nat.eq_of_beq_eq_true h1).symm, (Nat.eq_of_beq_eq_true h2).symm, (Nat.eq_of_beq_eq_true h3).symm, (Nat.eq_of_beq_eq_true h4).symm⟩
    | succ j => exact g j y p (by simpa using hy) (by simpa using hp)
  | [], _ :: _, h => by cases h
  | _ :: _, [], h => by cases h
theorem infOK_is {ops : Array Oper} {I : List Inf} (h : infOK ops ops.toList I = true) : InfIs ops I := by
  obtain ⟨h1, h2⟩ := infOK_go h
  exact ⟨by simpa using h1, fun j x o hx ho => h2 j x o hx (by simpa using ho)⟩

/-- What is done, as bits and as a row. -/
structure Lst (ops : Array Oper) (m : Nat) (listed : Array Bool) : Prop where
  sz : listed.size = ops.size
  is : ∀ j, j < ops.size → listed[j]? = some (Nat.testBit m j)
theorem Lst.getT {ops : Array Oper} {m : Nat} {listed : Array Bool} (h : Lst ops m listed) {j : Nat} (hj : j < ops.size) : listed.getD j true = Nat.testBit m j := by
  rw [Array.getD_eq_getD_getElem?, h.is j hj]; rfl
theorem Lst.getF {ops : Array Oper} {m : Nat} {listed : Array Bool} (h : Lst ops m listed) (hm : m < 2 ^ ops.size) (j : Nat) : listed.getD j false = Nat.testBit m j := by
  rw [Array.getD_eq_getD_getElem?]
  by_cases hl : j < ops.size
  · rw [h.is j hl]; rfl
  · have : Nat.testBit m j = false := Nat.testBit_lt_two_pow (Nat.lt_of_lt_of_le hm (Nat.pow_le_pow_right (by omega) (by omega)))
    rw [this, Array.getElem?_eq_none (by rw [h.sz]; omega)]; rfl
theorem Lst.set {ops : Array Oper} {m : Nat} {listed : Array Bool} (h : Lst ops m listed) (i : Nat) : Lst ops (m ||| 2 ^ i) (listed.setIfInBounds i true) := by
  refine ⟨by rw [Array.size_setIfInBounds]; exact h.sz, fun j hj => ?_⟩
  rw [Array.getElem?_setIfInBounds, Nat.testBit_or, Nat.testBit_two_pow, h.is j hj]
  split
  · rename_i e; rw [if_pos (by rw [e, h.sz]; exact hj)]; simp [e]
  · rename_i e; simp [e]
theorem set_lt {m i n : Nat} (hm : m < 2 ^ n) (hi : i < n) : m ||| 2 ^ i < 2 ^ n := Nat.or_lt_two_pow hm (Nat.pow_lt_pow_right (by omega) hi)

theorem readyM_go {ops : Array Oper} {I : List Inf} {m : Nat} {listed : Array Bool} (hI : InfIs ops I) (hL : Lst ops m listed) (hm : m < 2 ^ ops.size) : ∀ (l : List Inf) (j : Nat), (∀ k, l[k]? = I[j + k]?) → j + l.length = ops.size →
    readyM m l j = (List.range' j l.length).filter fun i => !listed.getD i true && ((ops[i]?).map (·.after.all fun e => !Region.binds .any e || listed.getD e.on false)).getD false
  | [], _, _, _ => rfl
  | x :: r, j, hl, hn => by
    have hj : j < ops.size := by simp only [List.length_cons] at hn; omega
    have hx : I[j]? = some x := by have := hl 0; simpa using this.symm
    have ho : ops[j]? = some ops[j] := Array.getElem?_eq_getElem hj
    obtain ⟨e1, _⟩ := hI.is j x ops[j] hx ho
    have ih := readyM_go hI hL hm r (j + 1) (fun k => by have := hl (k + 1); rw [Nat.add_assoc, Nat.add_comm 1 k]; simpa using this) (by simp only [List.length_cons] at hn; omega)
    unfold readyM
    rw [List.length_cons, List.range'_succ, List.filter_cons, hL.getT hj, ho]
    cases hb : Nat.testBit m j with
    | true => simpa using ih
    | false =>
      simp only [Bool.not_false, Bool.true_and, Option.map_some, Option.getD_some]
      have key : Nat.beq (Nat.land x.nd m) x.nd = (ops[j].after.all fun e => !Region.binds .any e || listed.getD e.on false) := by
        cases hq : Nat.beq (Nat.land x.nd m) x.nd with
        | true =>
          refine (Array.all_eq_true'.2 fun e he => ?_).symm
          cases hbd : Region.binds .any e with
          | false => rfl
          | true =>
            rw [hL.getF hm]
            have : Nat.testBit x.nd e.on = true := by
              rw [e1, needM_bit, List.any_eq_true]
              exact ⟨e, by simpa using he, by rw [hbd]; simp⟩
            rw [land_same hq _ this]; rfl
        | false =>
          cases hall : (ops[j].after.all fun e => !Region.binds .any e || listed.getD e.on false) with
          | false => rfl
          | true =>
            exfalso
            have : x.nd &&& m = x.nd := by
              apply Nat.eq_of_testBit_eq
              intro k
              rw [Nat.testBit_and]
              cases hk : Nat.testBit x.nd k with
              | false => rfl
              | true =>
                have hk' := hk
                rw [e1, needM_bit, List.any_eq_true] at hk'
                obtain ⟨e, he, h2⟩ := hk'
                rw [Bool.and_eq_true] at h2
                have := (Array.all_eq_true'.1 hall) e (by simpa using he)
                rw [h2.1, hL.getF hm, Nat.eq_of_beq_eq_true h2.2] at this
                simpa using this
            have h3 : Nat.beq (Nat.land x.nd m) x.nd = true := by show Nat.beq (x.nd &&& m) x.nd = true; rw [this]; simp
            rw [h3] at hq; cases hq
      rw [key]
      cases (ops[j].after.all fun e => !Region.binds .any e || listed.getD e.on false) with
      | true => simp [ih]
      | false => simp [ih]
theorem readyM_eq {ops : Array Oper} {I : List Inf} {m : Nat} {listed : Array Bool} (hI : InfIs ops I) (hL : Lst ops m listed) (hm : m < 2 ^ ops.size) : readyM m I 0 = Region.ready .any ops listed := by
  rw [readyM_go hI hL hm I 0 (fun k => by simp) (by simpa using hI.len)]
  unfold Region.ready
  rw [hI.len, List.range_eq_range']
theorem freeM_go {m i lk ds : Nat} : ∀ (l : List Inf) (j : Nat), freeM m i lk ds l j = true → ∀ (k : Nat) (x : Inf), l[k]? = some x → Nat.beq (j + k) i = true ∨ Nat.testBit m (j + k) = true ∨ Nat.testBit x.nd i = true ∨ (Nat.beq (Nat.land ds x.lk) 0 = true ∧ Nat.beq (Nat.land ds x.ds) 0 = true ∧ Nat.beq (Nat.land x.ds lk) 0 = true)
  | [], _, _, k, x, h => by simp at h
  | y :: r, j, h, k, x, hk => by
    unfold freeM at h
    rw [Bool.and_eq_true] at h
    cases k with
    | zero =>
      rw [List.getElem?_cons_zero] at hk; cases hk
      have := h.1
      simp only [Bool.or_eq_true, Bool.and_eq_true] at this
      exact this
    | succ k =>
      have := freeM_go r (j + 1) h.2 k x (by simpa using hk)
      rw [show j + (k + 1) = j + 1 + k by omega]; exact this
theorem freeM_ok {ops : Array Oper} {I : List Inf} {m i : Nat} {listed : Array Bool} {x : Inf} (hI : InfIs ops I) (hL : Lst ops m listed) (hx : I[i]? = some x) (h : freeM m i x.lk x.ds I 0 = true) : Region.free .any ops listed i = true := by
  have hi : i < ops.size := by rw [← hI.len]; exact (List.getElem?_eq_some_iff.1 hx).1
  have ho : ops[i]? = some ops[i] := Array.getElem?_eq_getElem hi
  obtain ⟨_, _, e3, e4⟩ := hI.is i x _ hx ho
  unfold Region.free
  rw [ho]
  simp only [List.all_eq_true, List.mem_range, Bool.or_eq_true]
  intro j hj
  have hoj : ops[j]? = some ops[j] := Array.getElem?_eq_getElem hj
  have hyj : I[j]? = some (I[j]'(by rw [hI.len]; exact hj)) := List.getElem?_eq_getElem _
  generalize I[j]'(by rw [hI.len]; exact hj) = y at hyj
  obtain ⟨f1, _, f3, f4⟩ := hI.is j y _ hyj hoj
  rcases freeM_go I 0 h j y hyj with g | g | g | ⟨g1, g2, g3⟩
  · rw [Nat.zero_add] at g; exact Or.inl (Or.inl (by simpa using Nat.eq_of_beq_eq_true g))
  · rw [Nat.zero_add] at g; exact Or.inl (Or.inr (by rw [hL.getT hj]; exact g))
  · refine Or.inr ?_
    rw [hoj]
    simp only [Bool.or_eq_true]
    refine Or.inl ?_
    rw [f1, needM_bit, List.any_eq_true] at g
    obtain ⟨e, he, hb⟩ := g
    rw [Array.any_eq_true']
    refine ⟨e, by simpa using he, ?_⟩
    rw [Bool.and_eq_true] at hb ⊢
    exact ⟨hb.1, by simpa using Nat.eq_of_beq_eq_true hb.2⟩
  · refine Or.inr ?_
    rw [hoj]
    simp only [Bool.or_eq_true]
    refine Or.inr ?_
    unfold Oper.apart
    rw [Bool.and_eq_true]
    constructor
    · cases hd : ops[i].dst with
      | none => rfl
      | some d =>
        rw [e4, hd] at g1 g2
        have t : Nat.testBit (dstM (some d)) d = true := by unfold dstM; rw [Nat.testBit_two_pow]; simp
        have c1 := land_zero g1 d t
        have c2 := land_zero g2 d t
        rw [f3, bitsM_bit] at c1
        dsimp only
        rw [c1, Bool.and_eq_true]
        refine ⟨rfl, ?_⟩
        rw [bne_iff_ne]
        intro e
        rw [f4, e] at c2
        unfold dstM at c2; rw [Nat.testBit_two_pow] at c2; simp at c2
    · cases hd : ops[j].dst with
      | none => rfl
      | some d =>
        rw [f4, hd] at g3
        have t : Nat.testBit (dstM (some d)) d = true := by unfold dstM; rw [Nat.testBit_two_pow]; simp
        have c1 := land_zero g3 d t
        rw [e3, bitsM_bit] at c1
        dsimp only
        rw [c1]; rfl
theorem nlM_go {ops : Array Oper} {I : List Inf} {m i lvl : Nat} {listed : Array Bool} (hI : InfIs ops I) (hL : Lst ops m listed) : ∀ (l : List Inf) (os : List Oper) (n acc : Nat) (bl : List Bool), bl.length = n → (∀ k, lkB bl n k = Nat.testBit acc k) → (∀ k, l[k]? = I[n + k]?) → (∀ k, os[k]? = ops[n + k]?) → l.length = os.length →
    nlM m i lvl l n acc = true → nlGo i lvl listed os n bl = true
  | [], [], _, _, _, _, _, _, _, _, _ => rfl
  | [], _ :: _, _, _, _, _, _, _, _, hl, _ => by simp at hl
  | _ :: _, [], _, _, _, _, _, _, _, hl, _ => by simp at hl
  | x :: r, o :: os, n, acc, bl, hb, h, hx, ho, hl, hn => by
    have cons : ∀ (b : Bool) (k : Nat), lkB (b :: bl) (n + 1) k = match Nat.beq k n with | true => b | false => lkB bl n k := fun _ _ => rfl
    have no : Nat.testBit acc n = false := by
      cases e : Nat.testBit acc n with
      | false => rfl
      | true => have := lkB_lt hb ((h n).trans e); omega
    have hf : ∀ k, lkB (false :: bl) (n + 1) k = Nat.testBit acc k := fun k => by
      rw [cons]
      split
      · rename_i hk; rw [Nat.eq_of_beq_eq_true hk, no]
      · exact h k
    have ht : ∀ k, lkB (true :: bl) (n + 1) k = Nat.testBit (acc ||| 2 ^ n) k := fun k => by
      rw [cons, Nat.testBit_or, Nat.testBit_two_pow]
      split
      · rename_i hk; rw [Nat.eq_of_beq_eq_true hk]; simp
      · rename_i hk
        have : n ≠ k := fun e => by rw [e] at hk; simp at hk
        rw [decide_eq_false this, Bool.or_false]; exact h k
    have hx0 : I[n]? = some x := by have := hx 0; simpa using this.symm
    have ho0 : ops[n]? = some o := by have := ho 0; simpa using this.symm
    have hx' : ∀ k, r[k]? = I[n + 1 + k]? := fun k => by have := hx (k + 1); rw [Nat.add_assoc, Nat.add_comm 1 k]; simpa using this
    have ho' : ∀ k, os[k]? = ops[n + 1 + k]? := fun k => by have := ho (k + 1); rw [Nat.add_assoc, Nat.add_comm 1 k]; simpa using this
    have hn0 : n < ops.size := (Array.getElem?_eq_some_iff.1 ho0).1
    obtain ⟨e1, e2, _⟩ := hI.is n x o hx0 ho0
    have hl' : r.length = os.length := by simpa using hl
    unfold nlM at hn
    unfold nlGo
    rw [hL.getT hn0]
    split at hn
    · exact nlM_go hI hL r os (n + 1) acc (false :: bl) (by simp [hb]) hf hx' ho' hl' hn
    · have any : (o.after.any fun e => Region.binds .any e && (Nat.beq e.on i || lkB bl n e.on)) = !(Nat.beq (Nat.land x.nd (acc ||| 2 ^ i)) 0) := by
        cases hq : Nat.beq (Nat.land x.nd (acc ||| 2 ^ i)) 0 with
        | false =>
          obtain ⟨k, h1, h2⟩ := land_not hq
          rw [e1, needM_bit, List.any_eq_true] at h1
          obtain ⟨e, he, h3⟩ := h1
          rw [Bool.and_eq_true] at h3
          have hk := Nat.eq_of_beq_eq_true h3.2
          rw [Nat.testBit_or, Nat.testBit_two_pow, Bool.or_eq_true] at h2
          refine Array.any_eq_true'.2 ⟨e, by simpa using he, ?_⟩
          rw [h3.1, Bool.true_and, Bool.or_eq_true, h, hk]
          rcases h2 with h2 | h2
          · exact Or.inr h2
          · refine Or.inl ?_
            have := of_decide_eq_true h2
            rw [this]; simp
        | true =>
          show _ = false
          rw [← Bool.not_eq_true]
          intro hany
          obtain ⟨e, he, h3⟩ := Array.any_eq_true'.1 hany
          rw [Bool.and_eq_true, Bool.or_eq_true, h] at h3
          have t : Nat.testBit x.nd e.on = true := by
            rw [e1, needM_bit, List.any_eq_true]
            exact ⟨e, by simpa using he, by rw [h3.1]; simp⟩
          have := land_zero hq _ t
          rw [Nat.testBit_or, Nat.testBit_two_pow, Bool.or_eq_false_iff] at this
          rcases h3.2 with g | g
          · have h4 := of_decide_eq_false this.2
            exact h4 (Nat.eq_of_beq_eq_true g).symm
          · rw [this.1] at g; cases g
      rw [any]
      split at hn
      · rename_i hq
        rw [hq]
        exact nlM_go hI hL r os (n + 1) _ (true :: bl) (by simp [hb]) ht hx' ho' hl' hn
      · rename_i hq
        rw [hq]
        show (match Nat.ble (clsOf o.op) lvl with | true => _ | false => _) = true
        rw [← e2]
        split at hn
        · rename_i hle
          rw [hle]
          exact nlM_go hI hL r os (n + 1) acc (false :: bl) (by simp [hb]) hf hx' ho' hl' hn
        · cases hn
theorem nlM_ok {ops : Array Oper} {I : List Inf} {m i lvl : Nat} {listed : Array Bool} (hI : InfIs ops I) (hL : Lst ops m listed) (h : nlM m i lvl I 0 0 = true) : nlOK ops listed i lvl = true :=
  nlM_go hI hL I ops.toList 0 0 [] rfl (fun k => by rw [Nat.zero_testBit]; rfl) (fun k => by simp) (fun k => by simp) (by simpa using hI.len) h
theorem vPl_alt {pr : List Nat} {n0 : Nat} {ops : Array Oper} {K : VS → Prop} {i : Nat} {r q : Pl} {s : VS} (h : vPl P pr n0 ops K (.alt i r q) s) :
    (match ops[i]? with | some o => vStep P pr ops o s (vPl P pr n0 ops K r) | none => False) ∧ (q.heads ≠ [] → vPl P pr n0 ops K q s) := by
  cases q with
  | no => exact ⟨h, fun hn => (hn rfl).elim⟩
  | fin => exact ⟨h.1, fun _ => h.2⟩
  | tk _ _ _ => exact ⟨h.1, fun _ => h.2⟩
  | alt _ _ _ => exact ⟨h.1, fun _ => h.2⟩

/-- One operation that is taken ahead. -/
theorem vStepT_run {pr : List Nat} {n0 lvl i : Nat} {ops : Array Oper} {o : Oper} {Mf : Nat → Prop} {fuel : Nat} {listed : Array Bool} {k : VS → Prop} {QN : Act → World → Prop} (hs : Region.noSelect ops = true) (hi : ops[i]? = some o)
    (hr : RelB M0 w0 bs M s a w) (hn : ∀ (i b : Nat), i < n0 → bs[i]? = some b → Mf b) (hmem : i ∈ Region.ready .any ops listed) (hfr : Region.free .any ops listed i = true) (hnl : nlOK ops listed i lvl = true)
    (next : ∀ (v : Value) (s' : VS), RelB M0 w0 bs M s' (a.put o.dst v) w → k s' → wpAnyC P Mf ops QN fuel (listed.setIfInBounds i true) (a.put o.dst v) w)
    (h : vStepT P pr n0 lvl ops o s k) : wpAnyC P Mf ops QN (fuel + 1) listed a w := by
  obtain ⟨B, hB, hcl⟩ := nlOK_spec hnl
  have hfree : ∀ j oj, ops[j]? = some oj → j ≠ i → listed.getD j true = false → B j = false → (∀ e ∈ oj.after, Region.binds .any e = true → e.on ≠ i) → o.apart ops oj = true ∧ clsOf oj.op ≤ lvl := fun j oj hj hne hun hb hno =>
    ⟨Region.free_spec hi hfr j oj hj hne hun hno, hcl j oj hj hne hun hb⟩
  have fin : ∀ (v : Value) (s' : VS), YieldsR P lvl Mf ops o v a w → RelB M0 w0 bs M s' (a.put o.dst v) w → k s' → wpAnyC P Mf ops QN (fuel + 1) listed a w := fun v s' hy hR hk =>
    wpAnyC_first hi (Region.noSelect_spec hs) fuel listed a w hfree hB hmem hy (next v s' hR hk)
  have yes : Region.wanted o (yielded ops a.tmps) = true → (match tkLvl n0 s o.op with | some l => (match Nat.beq l lvl with | true => vOp P pr o s fun av s' => k (s'.put o.dst av) | false => False) | none => False) → wpAnyC P Mf ops QN (fuel + 1) listed a w := fun hw hv => by
    split at hv
    · rename_i l hl
      split at hv
      · rename_i hb
        obtain rfl := Nat.eq_of_beq_eq_true hb
        obtain ⟨av, v, hk, hc, hrun⟩ := take_run hr hn hl hv
        exact fin v _ (Or.inl ⟨hw, vOp_nodefer hv, hrun⟩) (hr.put _ hc) hk
      · exact hv.elim
    · exact hv.elim
  have no : Region.wanted o (yielded ops a.tmps) = false → k (s.put o.dst (.v undef)) → wpAnyC P Mf ops QN (fuel + 1) listed a w := fun hw hk =>
    fin undef _ (Or.inr ⟨hw, rfl⟩) (hr.put (x := .v undef) _ rfl) hk
  unfold vStepT at h
  split at h
  · rename_i hg
    exact yes (by simp [Region.wanted, hg]) h
  · rename_i j want hg
    split at h
    · rename_i hj
      have : yielded ops a.tmps j = none := by unfold yielded; rw [show (ops[j]?).bind (·.dst) = none from hj]; rfl
      exact no (by simp [Region.wanted, hg, this]) h
    · rename_i t hj
      split at h <;> (first | exact h.elim | skip)
      · rename_i b hb
        have hy := yielded_of hr hj hb
        dsimp only at hy
        cases b with
        | true =>
          have e := put_same s hb
          dsimp only [Br] at h
          rw [e] at h
          cases want with
          | true => exact yes (by simp [Region.wanted, hg, hy]) h
          | false => exact no (by simp [Region.wanted, hg, hy]) h
        | false =>
          have e := put_same s hb
          dsimp only [Br] at h
          rw [e] at h
          cases want with
          | false => exact yes (by simp [Region.wanted, hg, hy]) h
          | true => exact no (by simp [Region.wanted, hg, hy]) h
      · rename_i x hb
        have hy := yielded_of hr hj hb
        dsimp only at hy
        exact no (by simp [Region.wanted, hg, hy]) h

theorem vPl_run {pr : List Nat} {n0 : Nat} {ops : Array Oper} {I : List Inf} {K : VS → Prop} {Mf : Nat → Prop} (hI : InfIs ops I) (hs : Region.noSelect ops = true) :
    ∀ (p : Pl) (fuel m0 : Nat) (listed : Array Bool) (s : VS) (bs : List Nat) (M : Nat → Prop) (a : Act) (w : World), RelB M0 w0 bs M s a w → (∀ b, Mf b → M b) → (∀ (i b : Nat), i < n0 → bs[i]? = some b → Mf b) → (n0 ≤ bs.length) → Lst ops m0 listed → m0 < 2 ^ ops.size → vPl P pr n0 ops K p s →
      (plOK I p fuel m0 true = true → wpAnyC P Mf ops (fun a w => ∃ s, K s ∧ Rel M0 w0 s a w) fuel listed a w) ∧
      (∀ f', fuel = f' + 1 → plOK I p fuel m0 false = true → ∀ i ∈ p.heads, wpOpC P Mf ops i (wpAnyC P Mf ops (fun a w => ∃ s, K s ∧ Rel M0 w0 s a w) f' (listed.setIfInBounds i true)) a w) := by
  intro p
  have keepN : ∀ {bs bs' : List Nat} {Mf M' : Nat → Prop}, (∀ (i b : Nat), i < n0 → bs[i]? = some b → Mf b) → n0 ≤ bs.length → (∀ (i b : Nat), bs[i]? = some b → bs'[i]? = some b) → (∀ (i b : Nat), i < n0 → bs'[i]? = some b → Mf b) ∧ n0 ≤ bs'.length := fun {bs bs' Mf M'} hn hl hp => by
    refine ⟨fun j b hj hb => ?_, ?_⟩
    · have h1 : bs[j]? = some bs[j] := List.getElem?_eq_getElem (by omega)
      have h2 := hp j _ h1
      rw [h2] at hb
      cases hb
      exact hn j _ hj h1
    · by_cases h0 : n0 = 0
      · omega
      · have h1 : bs[n0 - 1]? = some bs[n0 - 1] := List.getElem?_eq_getElem (by omega)
        have h2 := (List.getElem?_eq_some_iff.1 (hp _ _ h1)).1
        omega
  induction p with
  | fin =>
    intro fuel m0 listed s bs M a w hr hf hn hl hL hm h
    refine ⟨fun ho => ?_, fun f' _ _ i hi => by cases hi⟩
    unfold plOK at ho
    simp only [Bool.true_and] at ho
    rw [readyM_eq hI hL hm] at ho
    split at ho <;> (first | (cases ho; done) | skip)
    rename_i he
    cases fuel with
    | zero => exact ⟨he, s, h, bs, M, hr⟩
    | succ fuel => exact ⟨fun _ => ⟨s, h, bs, M, hr⟩, by rw [he]; simp⟩
  | no =>
    intro fuel m0 listed s bs M a w hr hf hn hl hL hm h
    exact ⟨fun ho => (by cases ho), fun f' _ _ i hi => (by cases hi)⟩
  | tk i lvl r ih =>
    intro fuel m0 listed s bs M a w hr hf hn hl hL hm h
    refine ⟨fun ho => ?_, fun f' _ _ i hi => by cases hi⟩
    cases fuel with
    | zero => cases ho
    | succ fuel =>
      unfold plOK at ho
      simp only [Bool.true_and, Bool.and_eq_true] at ho
      obtain ⟨h1, h2, h3, h4⟩ := ho
      unfold vPl at h
      split at h
      · rename_i o hi
        have hmem := memLN_mem h1
        rw [readyM_eq hI hL hm] at hmem
        have hi' : i < ops.size := (Array.getElem?_eq_some_iff.1 hi).1
        split at h2 <;> (first | (cases h2; done) | skip)
        rename_i x hx
        exact vStepT_run hs hi hr hn hmem (freeM_ok hI hL hx h2) (nlM_ok hI hL h3) (fun v s' hR hk => by
          rw [forceN_eq] at h4
          exact (ih fuel _ _ s' bs M _ w hR hf hn hl (hL.set i) (set_lt hm hi') hk).1 h4) h
      · exact h.elim
  | alt i r q ih iq =>
    intro fuel m0 listed s bs M a w hr hf hn hl hL hm h
    obtain ⟨hF, hq⟩ := vPl_alt h
    have one : ∀ f' , (forceN (m0 ||| 2 ^ i) fun q => plOK I r f' q true) = true → wpOpC P Mf ops i (wpAnyC P Mf ops (fun a w => ∃ s, K s ∧ Rel M0 w0 s a w) f' (listed.setIfInBounds i true)) a w := fun f' h4 => by
      unfold wpOpC
      split
      · rename_i ho; simp only [ho] at hF
      · rename_i o ho
        simp only [ho] at hF
        refine (vStep_run hr hf hF).mono fun a' w' ⟨s', bs', M', hmf, hp, hk, hR⟩ => ?_
        obtain ⟨n1, n2⟩ := keepN (M' := M') hn hl hp
        rw [forceN_eq] at h4
        exact (ih f' _ _ s' bs' M' a' w' hR hmf n1 n2 (hL.set i) (set_lt hm (Array.getElem?_eq_some_iff.1 ho).1) hk).1 h4
    have rest : ∀ f', plOK I q (f' + 1) m0 false = true → ∀ j ∈ q.heads, wpOpC P Mf ops j (wpAnyC P Mf ops (fun a w => ∃ s, K s ∧ Rel M0 w0 s a w) f' (listed.setIfInBounds j true)) a w := fun f' h5 j hj =>
      (iq (f' + 1) m0 listed s bs M a w hr hf hn hl hL hm (hq (fun e => by rw [e] at hj; cases hj))).2 f' rfl h5 j hj
    refine ⟨fun ho => ?_, fun f' hfu ho j hj => ?_⟩
    · cases fuel with
      | zero => cases ho
      | succ fuel =>
        unfold plOK at ho
        simp only [Bool.and_eq_true] at ho
        obtain ⟨h1, h4, h5⟩ := ho
        have he := eqLN_eq h1
        rw [readyM_eq hI hL hm] at he
        refine ⟨fun e => (by rw [e] at he; cases he), fun j hj => ?_⟩
        rw [← he] at hj
        rcases List.mem_cons.1 hj with rfl | hj
        · exact one fuel h4
        · exact rest fuel h5 j hj
    · subst hfu
      unfold plOK at ho
      simp only [Bool.true_and, Bool.and_eq_true] at ho
      obtain ⟨h4, h5⟩ := ho
      unfold Pl.heads at hj
      rcases List.mem_cons.1 hj with rfl | hj
      · exact one f' h4
      · exact rest f' h5 j hj

/-- A region that draws its order, by a plan. -/
theorem vPl_region (rd : Option Nat) {pr : List Nat} {id : Nat} {ops : Array Oper} {I : List Inf} {p : Pl} {K : VS → Prop} {Q : Exit → Act → World → Prop} (hm : P.follows .mixedOrders = true) (hs : Region.noSelect ops = true) (hr : Rel M0 w0 s a w)
    (hQ : ∀ s a w, K s → Rel M0 w0 s a w → Q .normal a w) (hi : infOK ops ops.toList I = true) (ho : plOK I p ops.size 0 true = true) (h : vPl P pr s.ls.length ops K p s) : (Code.region id ops true).wpIn (FW rd) 0 P Q a w := by
  obtain ⟨bs, M, hr⟩ := hr
  refine wpIn_region_any hm (wpAnyC_any rd (Mf := M) (QN := fun a w => ∃ s, K s ∧ Rel M0 w0 s a w) (fun a w ⟨s, hk, hR⟩ => hQ s a w hk hR) _ _ _ _ ?_)
  refine (vPl_run (Mf := M) (infOK_is hi) hs p _ 0 _ s bs M a _ (hr.drew (w.drawn + 1)) (fun _ h => h) (fun i b hi hb => ?_) (by rw [hr.ll]; exact Nat.le_refl _) ⟨by simp, fun j hj => by rw [Nat.zero_testBit, Array.getElem?_replicate, if_pos hj]⟩ (Nat.two_pow_pos _) h).1 ho
  exact (hr.lc i b _ hb (List.getElem?_eq_getElem hi)).1

/-- A region that draws its order. -/
theorem vDraw_region (rd : Option Nat) {pr : List Nat} {id : Nat} {ops : Array Oper} {K : VS → Prop} {Q : Exit → Act → World → Prop} (hm : P.follows .mixedOrders = true) (hs : Region.noSelect ops = true) (hr : Rel M0 w0 s a w)
    (hQ : ∀ s a w, K s → Rel M0 w0 s a w → Q .normal a w) (h : vDraw P pr s.ls.length ops K ops.size (Array.replicate ops.size false) s) : (Code.region id ops true).wpIn (FW rd) 0 P Q a w := by
  obtain ⟨bs, M, hr⟩ := hr
  refine wpIn_region_any hm (wpAnyC_any rd (Mf := M) (QN := fun a w => ∃ s, K s ∧ Rel M0 w0 s a w) (fun a w ⟨s, hk, hR⟩ => hQ s a w hk hR) _ _ _ _ ?_)
  refine vDraw_run (Mf := M) hs _ _ s bs M a _ (hr.drew (w.drawn + 1)) (fun _ h => h) (fun i b hi hb => ?_) (by rw [hr.ll]; exact Nat.le_refl _) h
  exact (hr.lc i b _ hb (List.getElem?_eq_getElem hi)).1

end Go.KC
