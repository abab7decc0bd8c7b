/- THE CORE, part 12: the walk of a region that draws its order is sound. Generic. -/
import Derived.Test.YtihadekhodlacaaKc11
set_option linter.all false
set_option linter.constructorNameAsVariable false
namespace Go.KC
variable {P : Program} {M0 : Nat → Prop} {w0 : World} {bs : List Nat} {M : Nat → Prop} {s : VS} {a : Act} {w : World}

theorem Grow.cell {w w' : World} (h : Grow w w') {p : Addr} {v : Value} (hc : Hp.cell? w.heap p = some v) : Hp.cell? w'.heap p = some v := by
  unfold Hp.cell? at *
  cases hb : w.heap[p.block]? with
  | none => simp [hb] at hc
  | some o => rw [h _ _ hb]; simpa [hb] using hc

theorem MapAt.grow {w w' : World} (h : Grow w w') {m : Option Nat} {es : List MapEntry} (hm : MapAt w.heap m es) : MapAt w'.heap m es := by
  cases m with
  | none => exact hm
  | some r => obtain ⟨c, hc⟩ := hm; exact ⟨c, h _ _ hc⟩

theorem take_run {pr : List Nat} {o : Oper} {k : AV → VS → Prop} {n0 lvl : Nat} {Mf : Nat → Prop} (hr : RelB M0 w0 bs M s a w) (hn : ∀ (i b : Nat), i < n0 → bs[i]? = some b → Mf b) (hl : tkLvl n0 s o.op = some lvl) (h : vOp P pr o s k) :
    ∃ av v, k av s ∧ Conc bs av v ∧ ∀ w', RL lvl Mf w w' → (execOp a.eval o).run P w' = .ok (.value v) w' := by
  obtain ⟨dst, op, type, pos, after, guard⟩ := o
  dsimp only at hl
  have pure : (vPure P op s fun av => k av s) → ∃ av v, k av s ∧ Conc bs av v ∧ ∀ w', RL lvl Mf w w' → (execOp a.eval ⟨dst, op, type, pos, after, guard⟩).run P w' = .ok (.value v) w' := fun hp => by
    obtain ⟨av, v, hk, hc, hrun⟩ := vPure_run (o := ⟨dst, op, type, pos, after, guard⟩) hr.ev hp
    exact ⟨av, v, hk, hc, fun w' _ => hrun w'⟩
  unfold tkLvl at hl
  split at hl
  · rename_i t addr
    have pv : ∀ (v : Value) (w' : World), (Instr.loadAt t (a.eval addr)).run P w' = .ok v w' → (execOp a.eval ⟨dst, .load t addr, type, pos, after, guard⟩).run P w' = .ok (.value v) w' := fun v w' hS => by
      have he : execOp a.eval ⟨dst, .load t addr, type, pos, after, guard⟩ = (do Pure.pure (.value (← Instr.loadAt t (a.eval addr)))) := rfl
      rw [he]; simp only [Sem.run_bind, hS, Result.andThen_ok, Sem.run_pure]
    have ha := hr.ev addr
    unfold vOp at h
    dsimp only at h
    split at h <;> (first | exact h.elim | skip)
    · rename_i i off hloc
      rw [hloc] at ha hl
      obtain ⟨b, hb, hp⟩ := ha
      split at h <;> (first | exact h.elim | skip)
      rename_i e cs ti hcs hti
      split at h <;> (first | exact h.elim | skip)
      rename_i hle
      obtain ⟨q1, q2, q3⟩ := hr.lc i b _ hb hcs
      have h' : vPart P t (cs.toArray).toList off fun v => k (.v v) s := by simpa using h
      obtain ⟨v, hk, hpv⟩ := vPart_part h'
      refine ⟨.v v, v, hk, rfl, fun w' hw' => pv v w' ?_⟩
      have q3' : w'.heap[b]? = some (.cells cs.toArray e (0, 0)) := by
        dsimp only at hl
        split at hl
        · rename_i hlt
          cases hl
          exact (hw' b (hn i b (Nat.le_of_ble_eq_true hlt) hb)).trans q3
        · cases hl
          exact hw' b _ q3
      have hrun := loadVar_part (P := P) (w := w') (b := b) (off := off) (cs := cs) q3' hti (Nat.le_of_ble_eq_true hle) hpv
      rw [hp]; simpa [Instr.loadAt, Instr.sureAddr] using hrun
    · rename_i p hloc
      rw [hloc] at ha hl
      cases hl
      obtain ⟨v, hk, hrun⟩ := vLoad_run (M := M) h
      refine ⟨.v v, v, hk, rfl, fun w' hw' => pv v w' ?_⟩
      rw [show a.eval addr = _ from ha]
      exact hrun w' fun b v hc => Grow.cell hw' (hr.hd.cell hc).2
  all_goals first
    | exact pure h
    | (rename_i src d x
       unfold vOp at h
       dsimp only at h
       split at hl
       · rename_i hx
         rw [hx] at h
         exact pure h
       · cases hl)
    | (rename_i args tys
       unfold vOp at h
       dsimp only at h
       generalize hA : evAll s args.toList = A at h hl
       generalize hB : (tys[0]?).bind P.underlying = B at h
       split at h
       · rename_i m kt e
         cases hl
         obtain ⟨es, hm, hk⟩ := h
         have e1 := evAll_run hr.ev _ _ hA
         have e2 : args.map a.eval = #[.map m] := by apply Array.ext'; rw [Array.toList_map, e1]
         obtain ⟨t, ht, hu⟩ := Option.bind_eq_some_iff.1 hB
         refine ⟨_, _, hk, rfl, fun w' hw' => ?_⟩
         have he : execOp a.eval ⟨dst, .call { callee := .builtin .len, args := args, argTypes := tys }, type, pos, after, guard⟩ = (do Pure.pure (.value (← Builtin.len_ tys type (args.map a.eval)))) := rfl
         have hm' : MapAt w'.heap m es := MapAt.grow hw' (MapAt.hides hr.hd hm)
         rw [he, e2]; simp only [Sem.run_bind, mapAt_len hu hm' tys ht, Result.andThen_ok, Sem.run_pure]
       · exact pure h)
    | (rename_i b args tys hno
       cases b <;> (first | exact (hno rfl).elim | (cases hl; done) | exact pure h))
    | (rename_i t i
       unfold vOp at h
       dsimp only at h
       split at h
       · rename_i x y h1
         have ht := hr.ev t
         rw [h1] at ht
         split at h <;> (first | exact h.elim | skip)
         all_goals
           (obtain ⟨v, hv, hk⟩ := exR_any h
            refine ⟨_, _, hk, rfl, fun w' hw' => ?_⟩
            have he : ∀ j, execOp a.eval ⟨dst, .extract t j, type, pos, after, guard⟩ = (do Pure.pure (.value (← Instr.extract (a.eval t) j))) := fun _ => rfl
            rw [he, show a.eval t = _ from ht, ← hv]; rfl)
       · exact pure h)
    | (rename_i it
       cases hl
       unfold vOp at h
       dsimp only at h
       have hit := hr.ev it
       split at h <;> (first | exact h.elim | skip)
       rename_i p h1
       rw [h1] at hit
       obtain ⟨h0, e, he, hk⟩ := h
       obtain ⟨b, off, sp⟩ := p
       dsimp only at h0 he
       subst h0
       refine ⟨_, _, hk, rfl, fun w' hw' => ?_⟩
       have hx : execOp a.eval ⟨dst, .entry it, type, pos, after, guard⟩ = (do Pure.pure (.value (← Instr.entry (a.eval it)))) := rfl
       rw [hx, show a.eval it = _ from hit]; simp only [Sem.run_bind, entry_run (P := P) (he.hides hr.hd) w' hw', Result.andThen_ok, Sem.run_pure])
    | (rename_i t m x ok
       cases hl
       have hm := hr.ev m
       have hx := hr.ev x
       unfold vOp at h
       dsimp only at h
       have pv : ∀ (v : Value) (w' : World), (Instr.lookup t (a.eval m) (a.eval x) ok).run P w' = .ok v w' → (execOp a.eval ⟨dst, .lookup t m x ok, type, pos, after, guard⟩).run P w' = .ok (.value v) w' := fun v w' hS => by
         have he : execOp a.eval ⟨dst, .lookup t m x ok, type, pos, after, guard⟩ = (do Pure.pure (.value (← Instr.lookup t (a.eval m) (a.eval x) ok))) := rfl
         rw [he]; simp only [Sem.run_bind, hS, Result.andThen_ok, Sem.run_pure]
       split at h <;> (first | exact h.elim | skip)
       · rename_i r kv h1 h2
         rw [h1] at hm; rw [h2] at hx
         obtain ⟨u, hu⟩ := exR_any h
         split at hu <;> (first | exact hu.elim | skip)
         rename_i v b
         obtain ⟨hlk, hk⟩ := hu
         refine ⟨_, _, hk, rfl, fun w' hw' => pv _ w' ?_⟩
         rw [show a.eval m = _ from hm, show a.eval x = _ from hx]
         exact look_run hlk true w' fun es he => MapAt.grow hw' (MapAt.hides hr.hd he)
       · rename_i r kv h1 h2
         rw [h1] at hm; rw [h2] at hx
         obtain ⟨v, ⟨b, hlk⟩, hk⟩ := exR_any h
         refine ⟨_, _, hk, rfl, fun w' hw' => pv _ w' ?_⟩
         rw [show a.eval m = _ from hm, show a.eval x = _ from hx]
         exact look_run hlk false w' fun es he => MapAt.grow hw' (MapAt.hides hr.hd he))
    | (cases hl; done)

theorem allR_mem {F : Nat → Prop} : ∀ {l : List Nat}, allR F l → ∀ i ∈ l, F i
  | [], _, i, hi => by cases hi
  | [j], h, i, hi => by cases hi with | head => exact h | tail _ hi => cases hi
  | j :: j' :: r, h, i, hi => by
    cases hi with
    | head => exact h.1
    | tail _ hi => exact allR_mem h.2 i hi

theorem lkB_lt : ∀ {acc : List Bool} {n k : Nat}, acc.length = n → lkB acc n k = true → k < n
  | [], n, k, _, h => by cases h
  | b :: r, n, k, hl, h => by
    unfold lkB at h
    simp only [List.length_cons] at hl
    split at h
    · rename_i hk
      have := Nat.eq_of_beq_eq_true hk
      omega
    · have := lkB_lt (acc := r) (n := n - 1) (by omega) h
      omega
theorem lkB_push {acc : List Bool} {n k : Nat} {b : Bool} (hk : k < n) : lkB (b :: acc) (n + 1) k = lkB acc n k := by
  rw [lkB]
  split
  · rename_i h
    have := Nat.eq_of_beq_eq_true h
    omega
  · rfl
theorem lkB_new {acc : List Bool} {n : Nat} {b : Bool} : lkB (b :: acc) (n + 1) n = b := by
  rw [lkB]
  split
  · rfl
  · rename_i h
    simp at h
theorem nlGo_spec {ops : Array Oper} {listed : Array Bool} {i lvl : Nat} : ∀ (l : List Oper) (n : Nat) (acc : List Bool), acc.length = n → (∀ j, l[j]? = ops[n + j]?) → nlGo i lvl listed l n acc = true →
    (∀ j, lkB acc n j = true → listed.getD j true = false ∧ ∃ oj, ops[j]? = some oj ∧ ∃ e ∈ oj.after, Region.binds .any e = true ∧ (e.on = i ∨ lkB acc n e.on = true)) →
    (∀ j oj, j < n → ops[j]? = some oj → j ≠ i → listed.getD j true = false → lkB acc n j = false → clsOf oj.op ≤ lvl) →
    ∃ B : Nat → Bool, (∀ j, B j = true → listed.getD j true = false ∧ ∃ oj, ops[j]? = some oj ∧ ∃ e ∈ oj.after, Region.binds .any e = true ∧ (e.on = i ∨ B e.on = true)) ∧
      (∀ j oj, ops[j]? = some oj → j ≠ i → listed.getD j true = false → B j = false → clsOf oj.op ≤ lvl)
  | [], n, acc, hl, hops, _, h1, h2 => by
    refine ⟨lkB acc n, h1, fun j oj hj => h2 j oj ?_ hj⟩
    have h0 := hops (j - n)
    rcases Nat.lt_or_ge j n with c | c
    · exact c
    · rw [show n + (j - n) = j by omega, hj] at h0
      simp at h0
  | o :: r, n, acc, hl, hops, h, h1, h2 => by
    have ho : ops[n]? = some o := by have := hops 0; simpa using this.symm
    have hops' : ∀ j, r[j]? = ops[n + 1 + j]? := fun j => by have := hops (j + 1); rw [Nat.add_assoc, Nat.add_comm 1 j]; simpa using this
    have go : ∀ b : Bool, nlGo i lvl listed r (n + 1) (b :: acc) = true → (b = true → listed.getD n true = false ∧ ∃ e ∈ o.after, Region.binds .any e = true ∧ (e.on = i ∨ lkB acc n e.on = true)) →
        (b = false → n ≠ i → listed.getD n true = false → clsOf o.op ≤ lvl) → ∃ B : Nat → Bool, (∀ j, B j = true → listed.getD j true = false ∧ ∃ oj, ops[j]? = some oj ∧ ∃ e ∈ oj.after, Region.binds .any e = true ∧ (e.on = i ∨ B e.on = true)) ∧
      (∀ j oj, ops[j]? = some oj → j ≠ i → listed.getD j true = false → B j = false → clsOf oj.op ≤ lvl) := fun b hb ht hf => by
      have up : ∀ k, lkB acc n k = true → lkB (b :: acc) (n + 1) k = true := fun k hk => by rw [lkB_push (lkB_lt hl hk)]; exact hk
      refine nlGo_spec r (n + 1) (b :: acc) (by simp [hl]) hops' hb (fun j hj => ?_) (fun j oj hjn hj hne hun hB => ?_)
      · have hjn := lkB_lt (by simp [hl]) hj
        by_cases c : j = n
        · subst c
          rw [lkB_new] at hj
          obtain ⟨q1, e, he, hbd, q2⟩ := ht hj
          exact ⟨q1, o, ho, e, he, hbd, q2.imp id (up _)⟩
        · rw [lkB_push (by omega)] at hj
          obtain ⟨q1, oj, q2, e, he, hbd, q3⟩ := h1 j hj
          exact ⟨q1, oj, q2, e, he, hbd, q3.imp id (up _)⟩
      · by_cases c : j = n
        · subst c
          rw [lkB_new] at hB
          rw [ho] at hj; cases hj
          exact hf hB hne hun
        · rw [lkB_push (by omega)] at hB
          exact h2 j oj (by omega) hj hne hun hB
    unfold nlGo at h
    split at h
    · rename_i hc
      refine go false h (fun e => by cases e) (fun _ hne hun => ?_)
      simp only [Bool.or_eq_true] at hc
      rcases hc with hc | hc
      · rw [hun] at hc; cases hc
      · exact (hne (Nat.eq_of_beq_eq_true hc)).elim
    · rename_i hc
      simp only [Bool.or_eq_false_iff] at hc
      split at h
      · rename_i ha
        obtain ⟨e, he, hb⟩ := Array.any_eq_true'.1 ha
        simp only [Bool.and_eq_true, Bool.or_eq_true] at hb
        refine go true h (fun _ => ⟨hc.1, e, he, hb.1, hb.2.imp (fun h => Nat.eq_of_beq_eq_true h) id⟩) (fun e => by cases e)
      · split at h
        · rename_i hle
          exact go false h (fun e => by cases e) (fun _ _ _ => Nat.le_of_ble_eq_true hle)
        · cases h
theorem nlOK_spec {ops : Array Oper} {listed : Array Bool} {i lvl : Nat} (h : nlOK ops listed i lvl = true) :
    ∃ B : Nat → Bool, (∀ j, B j = true → listed.getD j true = false ∧ ∃ oj, ops[j]? = some oj ∧ ∃ e ∈ oj.after, Region.binds .any e = true ∧ (e.on = i ∨ B e.on = true)) ∧
      (∀ j oj, ops[j]? = some oj → j ≠ i → listed.getD j true = false → B j = false → clsOf oj.op ≤ lvl) :=
  nlGo_spec ops.toList 0 [] rfl (fun j => by simp) h (fun j hj => by cases hj) fun j oj hj => by omega

theorem vDraw_run {pr : List Nat} {n0 : Nat} {ops : Array Oper} {K : VS → Prop} {Mf : Nat → Prop} (hs : Region.noSelect ops = true) :
    ∀ (fuel : Nat) (listed : Array Bool) (s : VS) (bs : List Nat) (M : Nat → Prop) (a : Act) (w : World), RelB M0 w0 bs M s a w → (∀ b, Mf b → M b) → (∀ (i b : Nat), i < n0 → bs[i]? = some b → Mf b) → (n0 ≤ bs.length) →
      vDraw P pr n0 ops K fuel listed s → wpAnyC P Mf ops (fun a w => ∃ s, K s ∧ Rel M0 w0 s a w) fuel listed a w := by
  intro fuel
  induction fuel with
  | zero =>
    intro listed s bs M a w hr hf hn hl h
    unfold vDraw at h
    split at h
    · rename_i he; exact ⟨he, s, h, bs, M, hr⟩
    · exact h.elim
  | succ fuel ih =>
    intro listed s bs M a w hr hf hn hl h
    unfold vDraw at h
    split at h
    · rename_i he
      exact ⟨fun _ => ⟨s, h, bs, M, hr⟩, by rw [he]; simp⟩
    · rename_i r rs he
      have next : ∀ (i : Nat) (s' : VS) (bs' : List Nat) (M' : Nat → Prop) (a' : Act) (w' : World), (∀ b, Mf b → M' b) → (∀ (i b : Nat), bs[i]? = some b → bs'[i]? = some b) → RelB M0 w0 bs' M' s' a' w' →
          vDraw P pr n0 ops K fuel (listed.setIfInBounds i true) s' → wpAnyC P Mf ops (fun a w => ∃ s, K s ∧ Rel M0 w0 s a w) fuel (listed.setIfInBounds i true) a' w' := fun i s' bs' M' a' w' hm hp hR hk => by
        refine ih _ s' bs' M' a' w' hR hm (fun j b hj hb => ?_) ?_ hk
        · have h1 : bs[j]? = some bs[j] := List.getElem?_eq_getElem (by omega)
          have h2 := hp j _ h1
          rw [h2] at hb
          cases hb
          exact hn j _ hj h1
        · by_cases h0 : n0 = 0
          · omega
          · have h1 : bs[n0 - 1]? = some bs[n0 - 1] := List.getElem?_eq_getElem (by omega)
            have h2 := (List.getElem?_eq_some_iff.1 (hp _ _ h1)).1
            omega
      split at h
      · rename_i i hfind
        have hmem := List.mem_of_find?_eq_some hfind
        have htk := List.find?_some hfind
        rw [← he] at hmem
        unfold tkOK at htk
        split at htk <;> (first | (cases htk; done) | skip)
        rename_i o hi
        split at htk <;> (first | (cases htk; done) | skip)
        rename_i lvl hlvl
        simp only [Bool.and_eq_true] at htk
        simp only [hi] at h
        obtain ⟨B, hB, hcl⟩ := nlOK_spec htk.2
        have hfree : ∀ j oj, ops[j]? = some oj → j ≠ i → listed.getD j true = false → B j = false → (∀ e ∈ oj.after, Region.binds .any e = true → e.on ≠ i) → o.apart ops oj = true ∧ clsOf oj.op ≤ lvl := fun j oj hj hne hun hb hno =>
          ⟨Region.free_spec hi htk.1 j oj hj hne hun hno, hcl j oj hj hne hun hb⟩
        have fin : ∀ (v : Value) (s' : VS), YieldsR P lvl Mf ops o v a w → RelB M0 w0 bs M s' (a.put o.dst v) w → vDraw P pr n0 ops K fuel (listed.setIfInBounds i true) s' → wpAnyC P Mf ops (fun a w => ∃ s, K s ∧ Rel M0 w0 s a w) (fuel + 1) listed a w := fun v s' hy hR hk =>
          wpAnyC_first hi (Region.noSelect_spec hs) fuel listed a w hfree hB hmem hy (next i s' bs M _ w hf (fun _ _ h => h) hR hk)
        have yes : ∀ k : AV → VS → Prop, Region.wanted o (yielded ops a.tmps) = true → vOp P pr o s (fun av s' => vDraw P pr n0 ops K fuel (listed.setIfInBounds i true) (s'.put o.dst av)) → wpAnyC P Mf ops (fun a w => ∃ s, K s ∧ Rel M0 w0 s a w) (fuel + 1) listed a w := fun _ hw hv => by
          obtain ⟨av, v, hk, hc, hrun⟩ := take_run hr hn hlvl hv
          exact fin v _ (Or.inl ⟨hw, vOp_nodefer hv, hrun⟩) (hr.put _ hc) hk
        have no : Region.wanted o (yielded ops a.tmps) = false → vDraw P pr n0 ops K fuel (listed.setIfInBounds i true) (s.put o.dst (.v undef)) → wpAnyC P Mf ops (fun a w => ∃ s, K s ∧ Rel M0 w0 s a w) (fuel + 1) listed a w := fun hw hk =>
          fin undef _ (Or.inr ⟨hw, rfl⟩) (hr.put (x := .v undef) _ rfl) hk
        unfold vStep at h
        split at h
        · rename_i hg
          exact yes (fun _ _ => True) (by simp [Region.wanted, hg]) h
        · rename_i j want hg
          split at h
          · rename_i hj
            have : yielded ops a.tmps j = none := by unfold yielded; rw [show (ops[j]?).bind (·.dst) = none from hj]; rfl
            exact no (by simp [Region.wanted, hg, this]) h
          · rename_i t hj
            split at h <;> (first | exact h.elim | skip)
            · rename_i b hb
              have hy := yielded_of hr hj hb
              dsimp only at hy
              cases b with
              | true =>
                have e := put_same s hb
                dsimp only [Br] at h
                rw [e] at h
                cases want with
                | true => exact yes (fun _ _ => True) (by simp [Region.wanted, hg, hy]) h
                | false => exact no (by simp [Region.wanted, hg, hy]) h
              | false =>
                have e := put_same s hb
                dsimp only [Br] at h
                rw [e] at h
                cases want with
                | false => exact yes (fun _ _ => True) (by simp [Region.wanted, hg, hy]) h
                | true => exact no (by simp [Region.wanted, hg, hy]) h
            · rename_i x hb
              have hy := yielded_of hr hj hb
              dsimp only at hy
              exact no (by simp [Region.wanted, hg, hy]) h
      · refine ⟨fun e => absurd (he.symm.trans e) (by simp), fun i hi => ?_⟩
        rw [he] at hi
        have h1 := allR_mem h i hi
        unfold wpOpC
        split
        · rename_i ho; simp only [ho] at h1
        · rename_i o ho
          simp only [ho] at h1
          exact (vStep_run hr hf h1).mono fun a' w' ⟨s', bs', M', hm, hp, hk, hR⟩ => next i s' bs' M' a' w' hm hp hR hk

/-- A region that draws its order. -/
theorem vDraw_region (rd : Option Nat) {pr : List Nat} {id : Nat} {ops : Array Oper} {K : VS → Prop} {Q : Exit → Act → World → Prop} (hm : P.follows .mixedOrders = true) (hs : Region.noSelect ops = true) (hr : Rel M0 w0 s a w)
    (hQ : ∀ s a w, K s → Rel M0 w0 s a w → Q .normal a w) (h : vDraw P pr s.ls.length ops K ops.size (Array.replicate ops.size false) s) : (Code.region id ops true).wpIn (FW rd) 0 P Q a w := by
  obtain ⟨bs, M, hr⟩ := hr
  refine wpIn_region_any hm (wpAnyC_any rd (Mf := M) (QN := fun a w => ∃ s, K s ∧ Rel M0 w0 s a w) (fun a w ⟨s, hk, hR⟩ => hQ s a w hk hR) _ _ _ _ ?_)
  refine vDraw_run (Mf := M) hs _ _ s bs M a _ (hr.drew (w.drawn + 1)) (fun _ h => h) (fun i b hi hb => ?_) (by rw [hr.ll]; exact Nat.le_refl _) h
  exact (hr.lc i b _ hb (List.getElem?_eq_getElem hi)).1

end Go.KC
