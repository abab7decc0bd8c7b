/- STATES: StateOnce. -/
import Derived.Test.YtgndfbbgomlbeaaKu9
set_option linter.all false
set_option linter.constructorNameAsVariable false
namespace Go.Proofs
open Go Go.KC

theorem cmdM_seq {s : Stt} {c : Cm} {n : Int} (hs : Rise s.ss) (hc : c.seq ≤ n) (h : ∀ p ∈ s.ss, p.2.seq ≤ n) : ∀ p ∈ (cmdM s c).1.ss, p.2.seq ≤ n := by
  have new : ∀ p ∈ putL s.ss c.client ⟨c.client, c.seq, (doM s.kv c).2.err, (doM s.kv c).2.value⟩, p.2.seq ≤ n := fun p hp => by
    have := (putL_mem hs c.client ⟨c.client, c.seq, (doM s.kv c).2.err, (doM s.kv c).2.value⟩ p.1 p.2).1 hp
    split at this
    · rw [this]; exact hc
    · exact h p this
  unfold cmdM
  split
  · split
    · split <;> exact h
    · exact new
  · exact new
theorem applyM_seq {s : Stt} {e : En} {n : Int} (hs : Rise s.ss) (hc : e.cmd.seq ≤ n) (h : ∀ p ∈ s.ss, p.2.seq ≤ n) : ∀ p ∈ (applyM s e).1.ss, p.2.seq ≤ n := by
  unfold applyM
  split
  · exact h
  · split
    · exact h
    · split
      · exact h
      · exact cmdM_seq (s := { s with index := e.index, term := e.term }) hs hc h
theorem foldM_seq {n : Int} : ∀ (es : List En) (s : Stt), s.Ok → (∀ e ∈ es, e.cmd.seq ≤ n) → (∀ p ∈ s.ss, p.2.seq ≤ n) → ∀ p ∈ (foldM s es).ss, p.2.seq ≤ n
  | [], _, _, _, h => h
  | e :: es, s, ok, hc, h => foldM_seq es (applyM s e).1 (applyM_ok ok) (fun x hx => hc x (List.mem_cons_of_mem _ hx)) (applyM_seq ok.rs (hc e (by simp)) h)
theorem cmd_seq (s : Sy) : s.cmd.seq ≤ 999 := by
  unfold Sy.cmd
  split
  · show (0 : Int) ≤ 999; omega
  · dsimp only; omega
theorem entsGo_seq (n : Int) : ∀ (l : List Sy) (j : Nat) (t : Int), ∀ e ∈ entsGo n l j t, e.cmd.seq ≤ 999
  | [], _, _, e, h => by simp [entsGo] at h
  | s :: l, j, t, e, h => by
    rcases List.mem_cons.1 h with rfl | h
    · exact cmd_seq s
    · exact entsGo_seq n l _ _ e h
theorem someM_seq (ss : List Sy) : ∀ p ∈ (someM ss).ss, p.2.seq ≤ 999 :=
  foldM_seq _ _ Stt.zero_ok (fun e he => entsGo_seq _ _ _ _ e he) (by simp [Stt.zero])

/-- A command that is new, and what is so behind it. -/
def onceC (c : Cm) : Cm := ⟨c.op, 2, 1000, c.key, c.value, c.old⟩
theorem once_may {c : Cm} (h : c.May) (h0 : c.op ≠ 0) : (onceC c).May := by
  obtain ⟨a1, a2, a3, a4, a5⟩ := h
  rcases a5 with ⟨z, _⟩ | ⟨_, _, _, _, _, b5, b6⟩
  · exact (h0 z).elim
  · exact ⟨a1, a2, a3, a4, Or.inr ⟨h0, by simp [onceC], by simp [onceC], by simp [onceC], by simp [onceC], b5, b6⟩⟩
theorem once_first {s : Stt} {c : Cm} (hs : Rise s.ss) (hq : ∀ p ∈ s.ss, p.2.seq ≤ 999) : cmdM s (onceC c) =
    ({ s with kv := (doM s.kv (onceC c)).1, ss := putL s.ss 2 ⟨2, 1000, (doM s.kv (onceC c)).2.err, (doM s.kv (onceC c)).2.value⟩ }, (doM s.kv (onceC c)).2) := by
  unfold cmdM
  split
  · rename_i x hx
    have := hq _ ((valL_mem hs).1 hx)
    rw [if_neg (by simp only [onceC]; dsimp only at this; omega)]
    rfl
  · rfl

section
variable {H : Hp}
theorem StateOnce_spec {says : Sl} {ss : List Sy} {s : Sy} {times : UInt8} (hr : Rows H says 6 (ss.map Sy.cells).flatten) (hl : ss.length = says.len) :
    SCalls Try.prog tephralaw07_StateOnce.id [.slice says.a says.len says.cap, s.val, .int .u8 (times.toNat : Int)] H (trueQ H) := by
  apply tephralaw07_StateOnce.calls (sOp := (s.op.toNat : Int)) (sClient := (s.client.toNat : Int)) (sSeq := (s.seq.toNat : Int)) (sKey := (s.key.toNat : Int)) (sValue := (s.value.toNat : Int)) (sOld := (s.old.toNat : Int))
  intro H1 e1
  obtain ⟨m1, _⟩ := hole_facts e1
  refine bool_step (H0 := H) awake07_spec m1 fun H2 m2 => Br.no rfl ?_
  refine some_step (hr.keep m2 fun _ _ e => e) hl fun p a H3 sr m3 => ?_
  have hindex := someM_index ss
  have hseq := someM_seq ss
  generalize hst : someM ss = st at sr hindex hseq
  have ok : st.Ok := by rw [← hst]; exact someM_ok ss
  intro H4 e4
  obtain ⟨m4, _⟩ := hole_facts e4
  have m04 := m2.trans (m3.trans m4)
  have lens : ∀ {H' : Hp} {p a : Sl} {st : Stt}, SR H' p a st → st.Ok → p.len = st.kv.length ∧ a.len = st.ss.length ∧ st.kv.length ≤ 64 ∧ st.ss.length ≤ 4 := fun {H' p a st} sr ok => by
    have := sr.rr.lens
    have l1 : st.pairs.length = st.kv.length := List.length_map _
    have l2 : st.sess.length = st.ss.length := List.length_map _
    have := ok.kl
    have := ok.sl
    omega
  refine say_step (s := s) (H0 := H4) (Mod.refl _ _) fun H5 m5 => fun H6 e6 => ?_
  obtain ⟨m6, _⟩ := hole_facts e6
  have sr6 : SR H6 p a st := ((sr.mod m4).mod m5).mod m6
  have m06 := m04.trans (m5.trans m6)
  refine Br.mk (fun h0 => ?_) (fun h0 => ?_)
  · have := lens sr6 ok
    refine bool_step (Right_spec (i := st.index) (t := st.term) sr6.rr (by omega) (by omega)) m06 fun H7 m7 => ?_
    rw [decide_eq_true ok.right]; exact ⟨rfl, m7⟩
  · have h0 : s.cmd.op ≠ 0 := fun e => by rw [e] at h0; simp at h0
    have hi0 := ok.i0
    have ht0 := ok.t0
    obtain ⟨e, he⟩ : ∃ e : En, e = ⟨w64 (st.index + 1), st.term, onceC s.cmd⟩ := ⟨_, rfl⟩
    have hw : w64 (st.index + 1) = st.index + 1 := w64_id (by omega) (by omega)
    have hmay := once_may s.may h0
    have hR : e.Right := by rw [he]; exact ⟨by dsimp only; omega, by dsimp only; omega, by dsimp only; omega, by dsimp only; omega, hmay⟩
    have eA : applyM st e = cmdM ⟨st.index + 1, st.term, st.kv, st.ss⟩ (onceC s.cmd) := by
      unfold applyM
      rw [if_neg (by simpa using hR), if_neg (by rw [he]; dsimp only; omega), if_neg (by rw [he]; exact h0), he]
      dsimp only; rw [hw]
    rw [once_first (s := ⟨st.index + 1, st.term, st.kv, st.ss⟩) ok.rs hseq] at eA
    dsimp only at eA
    have ok1 := applyM_ok (e := e) ok
    have eV : ∀ H', SCalls Try.prog state_Apply.id [stV st p a, e.val] H6 H' = SCalls Try.prog state_Apply.id [stV st p a, .agg #[.int .i64 (w64 (st.index + 1)), .int .i64 st.term, .int .i64 s.cmd.op, .int .i64 2, .int .i64 1000, .string s.cmd.key, .string s.cmd.value, .string s.cmd.old]] H6 H' := fun H' => by rw [he]; rfl
    have step := apply_step (e := e) sr6 ok (K := fun Index1 Term1 Pairs1 Sessions1 Err Valuev1 H8 => ∀ H9 : Hp, H9 = (holes H8 1) → ∀ H10 : Hp, H10 = (holes H9 1) → tephralaw07_StateOnce.l1 J0 (s.op.toNat : Int) (s.client.toNat : Int) (s.seq.toNat : Int) (s.key.toNat : Int) (s.value.toNat : Int) (s.old.toNat : Int) (times.toNat : Int) st.index st.term p a s.cmd.op s.cmd.key s.cmd.value s.cmd.old Err Valuev1 H10 0 Index1 Term1 Pairs1 Sessions1 (trueQ H))
    rw [eV] at step
    refine step fun p1 a1 H8 sr1 m8 => ?_
    intro H9 e9 H10 e10
    obtain ⟨m9, _⟩ := hole_facts e9
    obtain ⟨m10, _⟩ := hole_facts e10
    generalize hfirst : (doM st.kv (onceC s.cmd)).2 = first at eA
    generalize hkv : (doM st.kv (onceC s.cmd)).1 = kv1 at eA
    generalize hss : putL st.ss 2 ⟨2, 1000, first.err, first.value⟩ = ss1 at eA
    rw [eA] at sr1 ok1 ⊢
    have hval : valL ss1 2 = some ⟨2, 1000, first.err, first.value⟩ := by
      refine (valL_mem ok1.rs).2 ?_
      rw [← hss]
      exact (putL_mem ok.rs 2 _ 2 _).2 (by rw [if_pos rfl])
    dsimp only at sr1 ⊢
    have okI : ∀ i : Int, 0 ≤ i → i ≤ 1000 → (⟨i, st.term, kv1, ss1⟩ : Stt).Ok := fun i h1 h2 => ⟨⟨h1, by dsimp only; omega⟩, ok.t0, ok1.rk, ok1.rs, ok1.kl, ok1.sl, ok1.kb, ok1.sb⟩
    have again : ∀ i : Int, 0 ≤ i → i ≤ 1000 → applyM ⟨i, st.term, kv1, ss1⟩ ⟨w64 (i + 1), st.term, onceC s.cmd⟩ = (⟨i + 1, st.term, kv1, ss1⟩, first) := fun i h1 h2 => by
      have hw : w64 (i + 1) = i + 1 := w64_id (by omega) (by omega)
      rw [hw]
      unfold applyM
      rw [if_neg (by simp only [Decidable.not_not]; exact ⟨by dsimp only; omega, by dsimp only; omega, ht0.1, ht0.2, hmay⟩), if_neg (by dsimp only; omega)]
      dsimp only
      rw [if_neg (show ¬ (onceC s.cmd).op = 0 from h0)]
      unfold cmdM
      have : (onceC s.cmd).client = 2 := rfl
      have : (onceC s.cmd).seq = 1000 := rfl
      simp [hval, *]
    have late : ∀ i : Int, 0 ≤ i → i ≤ 1000 → (applyM ⟨i, st.term, kv1, ss1⟩ ⟨w64 (i + 1), st.term, ⟨1, 2, 999, kB, noText, noText⟩⟩).2 = ⟨12, noText⟩ := fun i h1 h2 => by
      have hw : w64 (i + 1) = i + 1 := w64_id (by omega) (by omega)
      rw [hw]
      have hm : (⟨1, 2, 999, kB, noText, noText⟩ : Cm).May := by decide
      unfold applyM
      rw [if_neg (by simp only [Decidable.not_not]; exact ⟨by dsimp only; omega, by dsimp only; omega, ht0.1, ht0.2, hm⟩), if_neg (by dsimp only; omega), if_neg (by simp)]
      unfold cmdM
      simp [hval]
    have m010 := m06.trans (m8.trans (m9.trans m10))
    have htimes : Int.tmod (times.toNat : Int) 20 = ((times.toNat % 20 : Nat) : Int) := tmodN times 20
    have hn20 : times.toNat % 20 < 20 := Nat.mod_lt _ (by omega)
    have loop : ∀ (d k : Nat) (H11 : Hp) (p1 a1 : Sl), k + d = times.toNat % 20 → Mod (fun _ => False) H H11 → SR H11 p1 a1 ⟨st.index + 1 + (k : Int), st.term, kv1, ss1⟩ →
        tephralaw07_StateOnce.l1 J0 (s.op.toNat : Int) (s.client.toNat : Int) (s.seq.toNat : Int) (s.key.toNat : Int) (s.value.toNat : Int) (s.old.toNat : Int) (times.toNat : Int) st.index st.term p a s.cmd.op s.cmd.key s.cmd.value s.cmd.old first.err first.value H11 (k : Int) (st.index + 1 + (k : Int)) st.term p1 a1 (trueQ H) := by
      intro d
      induction d with
      | zero =>
        intro k H11 p1 a1 hk m sr
        apply tephralaw07_StateOnce.l1.step; unfold tephralaw07_StateOnce.l1.body
        rw [htimes, w64_id (by omega) (by omega)]
        refine ⟨by omega, Br.no (by simp; omega) ?_⟩
        refine apply_step (e := ⟨w64 (st.index + 1 + (k : Int) + 1), st.term, ⟨1, 2, 999, kB, noText, noText⟩⟩) sr (okI _ (by omega) (by omega)) fun p2 a2 H12 sr2 m12 => fun H13 e13 H14 e14 => ?_
        obtain ⟨m13, _⟩ := hole_facts e13
        obtain ⟨m14, _⟩ := hole_facts e14
        rw [late _ (by omega) (by omega)]
        exact ⟨rfl, m.trans (m12.trans (m13.trans m14))⟩
      | succ d ih =>
        intro k H11 p1 a1 hk m sr
        apply tephralaw07_StateOnce.l1.step; unfold tephralaw07_StateOnce.l1.body
        rw [htimes, w64_id (x := ((times.toNat % 20 : Nat) : Int)) (by omega) (by omega)]
        refine ⟨by omega, Br.yes (by simp; omega) ?_⟩
        refine apply_step (e := ⟨w64 (st.index + 1 + (k : Int) + 1), st.term, onceC s.cmd⟩) sr (okI _ (by omega) (by omega)) fun p2 a2 H12 sr2 m12 => fun H13 e13 H14 e14 => ?_
        obtain ⟨m13, _⟩ := hole_facts e13
        obtain ⟨m14, _⟩ := hole_facts e14
        rw [again _ (by omega) (by omega)] at sr2 ⊢
        dsimp only at sr2 ⊢
        have l1 := lens sr (okI _ (by omega) (by omega))
        have l2 := lens sr2 (okI _ (by omega) (by omega))
        dsimp only at l1 l2
        refine Br.no (by simp [beq_ba]) ?_
        apply tephralaw07_StateOnce.k1.step; unfold tephralaw07_StateOnce.k1.body
        refine Br.no (by simp; omega) ?_
        apply tephralaw07_StateOnce.k2.step; unfold tephralaw07_StateOnce.k2.body
        refine Br.no (by rw [w64_id (by omega) (by omega)]; simp) ?_
        have inner : ∀ (d i : Nat) (H15 : Hp), i + d = kv1.length → Mod (fun _ => False) H14 H15 → tephralaw07_StateOnce.l2 J0 (s.op.toNat : Int) (s.client.toNat : Int) (s.seq.toNat : Int) (s.key.toNat : Int) (s.value.toNat : Int) (s.old.toNat : Int) (times.toNat : Int) st.index st.term p a s.cmd.op s.cmd.key s.cmd.value s.cmd.old first.err first.value (k : Int) (st.index + 1 + (k : Int)) st.term p1 a1 (st.index + 1 + (k : Int) + 1) st.term p2 a2 first.err first.value H15 (i : Int) (trueQ H) := by
          intro d
          induction d with
          | zero =>
            intro i H15 hi m15
            apply tephralaw07_StateOnce.l2.step; unfold tephralaw07_StateOnce.l2.body
            refine Br.no (by simp; omega) ?_
            rw [w64_id (x := (k : Int) + 1) (by omega) (by omega)]
            have := ih (k + 1) H15 p2 a2 (by omega) (m.trans (m12.trans (m13.trans (m14.trans m15)))) (by
              have := (sr2.mod m13).mod (m14.trans m15)
              rwa [show st.index + 1 + (k : Int) + 1 = st.index + 1 + ((k + 1 : Nat) : Int) by omega] at this)
            rw [show st.index + 1 + ((k + 1 : Nat) : Int) = st.index + 1 + (k : Int) + 1 by omega] at this
            simpa using this
          | succ d ih2 =>
            intro i H15 hi m15
            apply tephralaw07_StateOnce.l2.step; unfold tephralaw07_StateOnce.l2.body
            have hil : i < kv1.length := by omega
            obtain ⟨b1, hb1, row1⟩ := row_get' (by omega) kvC_len ((sr2.mod m13).mod (m14.trans m15)).1 hil
            obtain ⟨b2, hb2, row2⟩ := row_get' (by omega) kvC_len (sr.mod (m12.trans (m13.trans (m14.trans m15)))).1 hil
            refine Br.yes (by simp; omega) ⟨⟨by omega, by omega⟩, vPtr.mk b1 hb1 ⟨kv1[i].1, kv1[i].2, false, by simpa [kvC] using row1, ⟨by omega, by omega⟩, vPtr.mk b2 hb2 ⟨kv1[i].1, kv1[i].2, false, by simpa [kvC] using row2, ?_⟩⟩⟩
            apply tephralaw07_StateOnce.k3.step; unfold tephralaw07_StateOnce.k3.body
            refine Br.no (by simp [beq_ba]) ?_
            rw [w64_id (x := (i : Int) + 1) (by omega) (by omega)]
            have := ih2 (i + 1) H15 (by omega) m15
            simpa using this
        exact inner kv1.length 0 H14 (by omega) (Mod.refl _ _)
    have := loop (times.toNat % 20) 0 H10 p1 a1 (by omega) m010 (by simpa using (sr1.mod m9).mod m10)
    simpa using this
end
end Go.Proofs
