/- STATES: StateOrder. -/
import Derived.Test.YtgndfbbgomlbeaaKu9
set_option linter.all false
set_option linter.constructorNameAsVariable false
namespace Go.Proofs
open Go Go.KC

section
variable {H : Hp}
theorem rowAt_blk {b o : Nat} {c : Array Value} {t : TypeId} {fz : Nat × Nat} {l : List Value} (h : H[b]? = some (.cells c t fz)) (hl : ∀ j v, l[j]? = some v → c[o + j]? = some v) : RowAt H ((Addr.mk b 0 none).add o) l := fun j v hj => by
  rw [Addr.add_loc, Addr.add_loc, cell_of h, Nat.zero_add]; exact hl j v hj

theorem StateOrder_spec {says : Sl} {ss : List Sy} {e : En} {index term : Int} (hr : Rows H says 6 (ss.map Sy.cells).flatten) (hl : ss.length = says.len) :
    SCalls Try.prog tephralaw07_StateOrder.id [.slice says.a says.len says.cap, e.val, .int .i8 index, .int .i8 term] H (trueQ H) := by
  apply tephralaw07_StateOrder.calls (eIndex := e.index) (eTerm := e.term) (eCmdOp := e.cmd.op) (eCmdClient := e.cmd.client) (eCmdSeq := e.cmd.seq) (eCmdKey := e.cmd.key) (eCmdValue := e.cmd.value) (eCmdOld := e.cmd.old)
  intro H1 e1
  obtain ⟨m1, _⟩ := hole_facts e1
  refine bool_step (H0 := H) awake07_spec m1 fun H2 m2 => Br.no rfl ?_
  refine some_step (hr.keep m2 fun _ _ e => e) hl fun p s H3 sr m3 => ?_
  generalize hst : someM ss = st at sr
  have ok : st.Ok := by rw [← hst]; exact someM_ok ss
  intro H4 e4 b hb H5 e5
  obtain ⟨m4, _⟩ := hole_facts e4
  obtain ⟨q5, m5, s5⟩ := push_facts e5
  rw [← hb] at q5
  have m05 := m2.trans (m3.trans (m4.trans m5))
  obtain ⟨x2, hx2⟩ : ∃ x2 : En, x2 = ⟨w64 (st.index + w64 index), w64 (st.term + w64 term), ⟨0, 0, 0, ByteArray.mk #[], ByteArray.mk #[], ByteArray.mk #[]⟩⟩ := ⟨_, rfl⟩
  have B5 : H5[b]? = some (.cells (e.cells ++ x2.cells).toArray T_api_Entry (0, 0)) := by rw [q5, hx2]; rfl
  have hes : ∀ j (hj : j < 2), ∃ x : En, x = [e, x2][j]'hj ∧ ∀ (H6 : Hp), Mod (fun _ => False) H5 H6 → RowAt H6 ((Addr.mk b 0 none).add (j * 8)) [.int .i64 x.index, .int .i64 x.term, .int .i64 x.cmd.op, .int .i64 x.cmd.client, .int .i64 x.cmd.seq, .string x.cmd.key, .string x.cmd.value, .string x.cmd.old] := by
    intro j hj
    refine ⟨_, rfl, fun H6 m6 => rowAt_blk (m6.get B5 fun e => e) fun i v hv => ?_⟩
    have hi : i < 8 := by
      rcases Nat.lt_or_ge i 8 with c | c
      · exact c
      · rw [List.getElem?_eq_none (by simpa using c)] at hv; cases hv
    rw [List.getElem?_toArray]
    rcases (show j = 0 ∨ j = 1 by omega) with rfl | rfl
    · rw [List.getElem?_append_left (by simpa [En.cells] using hi)]
      simpa [En.cells] using hv
    · rw [List.getElem?_append_right (by simp [En.cells])]
      simpa [En.cells] using hv
  have loop : ∀ (d j : Nat) (H6 : Hp), j + d = 2 → Mod (fun _ => False) H5 H6 → tephralaw07_StateOrder.l1 J0 e.index e.term e.cmd.op e.cmd.client e.cmd.seq e.cmd.key e.cmd.value e.cmd.old st.index st.term p s b H6 (j : Int) (trueQ H) := by
    intro d
    induction d with
    | zero =>
      intro j H6 hj m
      apply tephralaw07_StateOrder.l1.step; unfold tephralaw07_StateOrder.l1.body
      exact Br.no (by simp; omega) ⟨rfl, m05.trans m⟩
    | succ d ih =>
      intro j H6 hj m
      apply tephralaw07_StateOrder.l1.step; unfold tephralaw07_StateOrder.l1.body
      obtain ⟨x, _, hrow⟩ := hes j (by omega)
      refine Br.yes (by simp; omega) ⟨⟨by omega, by omega⟩, x.index, x.term, x.cmd.op, x.cmd.client, x.cmd.seq, x.cmd.key, x.cmd.value, x.cmd.old, by simpa using hrow H6 m, fun H7 e7 => ?_⟩
      obtain ⟨m7, _⟩ := hole_facts e7
      have sr7 := (((sr.mod m4).mod m5).mod m).mod m7
      refine apply_step (e := x) sr7 ok fun p' s' H8 sr' m8 => ?_
      intro H9 e9 H10 e10
      obtain ⟨m9, _⟩ := hole_facts e9
      obtain ⟨m10, _⟩ := hole_facts e10
      refine (cmds_Right_spec (e := x)).mono ?_
      rintro r H11 ⟨rfl, m11⟩
      have sr11 := (((sr7.mod m8).mod m9).mod m10).mod m11
      have sr11' := ((sr'.mod m9).mod m10).mod m11
      have mm : Mod (fun _ => False) H5 H11 := m.trans (m7.trans (m8.trans (m9.trans (m10.trans m11))))
      have ok' : (applyM st x).1.Ok := applyM_ok ok
      refine ⟨_, rfl, ?_⟩
      have next : ∀ H12 : Hp, Mod (fun _ => False) H5 H12 → tephralaw07_StateOrder.l1 J0 e.index e.term e.cmd.op e.cmd.client e.cmd.seq e.cmd.key e.cmd.value e.cmd.old st.index st.term p s b H12 (w64 ((j : Int) + 1)) (trueQ H) := by
        intro H12 m12
        rw [w64_id (x := (j : Int) + 1) (by omega) (by omega)]
        have := ih (j + 1) H12 (by omega) m12
        simpa using this
      have same : (applyM st x).1 = st → SCalls Try.prog state_Same.id [stV st p s, stV (applyM st x).1 p' s'] H11 (fun r4 H12 => ∃ x3 : Bool, r4 = .bool x3 ∧ Br (!x3) (trueQ H (.bool false) H12) (tephralaw07_StateOrder.l1 J0 e.index e.term e.cmd.op e.cmd.client e.cmd.seq e.cmd.key e.cmd.value e.cmd.old st.index st.term p s b H12 (w64 ((j : Int) + 1)) (trueQ H))) := by
        intro hs
        refine bool_step (Same_of sr11 sr11' ok ok') mm fun H12 m12 => Br.no ?_ (next H12 m12)
        rw [hs]; simp
      by_cases hR : x.Right
      · rw [decide_eq_true hR]
        refine Br.no rfl ?_
        have hw : w64 (st.index + 1) = st.index + 1 := w64_id (by have := ok.i0; omega) (by have := ok.i0; omega)
        rw [hw]
        have bad : x.index ≠ st.index + 1 ∨ x.term < st.term → tephralaw07_StateOrder.k1 J0 e.index e.term e.cmd.op e.cmd.client e.cmd.seq e.cmd.key e.cmd.value e.cmd.old st.index st.term p s b (j : Int) x.index x.term x.cmd.op x.cmd.client x.cmd.seq x.cmd.key x.cmd.value x.cmd.old (applyM st x).1.index (applyM st x).1.term p' s' (applyM st x).2.err (applyM st x).2.value H11 true (trueQ H) := by
          intro hc
          have eM : applyM st x = (st, ⟨8, noText⟩) := by unfold applyM; rw [if_neg (by simpa using hR), if_pos hc]
          apply tephralaw07_StateOrder.k1.step; unfold tephralaw07_StateOrder.k1.body
          refine Br.yes rfl (Br.no (by rw [eM]; rfl) (same (by rw [eM])))
        by_cases hi : x.index = st.index + 1
        · refine Br.no (by simp [hi]) ?_
          by_cases ht : x.term < st.term
          · rw [decide_eq_true ht]; exact bad (Or.inr ht)
          · rw [decide_eq_false ht]
            apply tephralaw07_StateOrder.k1.step; unfold tephralaw07_StateOrder.k1.body
            have := applyM_next hR hi (by omega)
            exact Br.no rfl (Br.no (by rw [this.1]; simp) (Br.no (by rw [this.2]; simp) (next H11 mm)))
        · exact Br.yes (by simpa using hi) (bad (Or.inl hi))
      · rw [decide_eq_false hR]
        have eM : applyM st x = (st, ⟨14, noText⟩) := by unfold applyM; rw [if_pos hR]
        exact Br.yes rfl (Br.no (by rw [eM]; rfl) (same (by rw [eM])))
  exact loop 2 0 H5 (by omega) (Mod.refl _ _)
end
end Go.Proofs
