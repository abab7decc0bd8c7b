/- STATES: StateBytes. -/
import Derived.Test.YtgndfbbgomlbeaaKu17
import Derived.Test.YtgndfbbgomlbeaaKu9
set_option linter.all false
set_option linter.constructorNameAsVariable false
namespace Go.Proofs
open Go Go.KC

theorem Stt.pairs_fit {st : Stt} (ok : st.Ok) : ∀ p ∈ st.pairs, p.small := fun p hp => by
  obtain ⟨q, hq, rfl⟩ := List.mem_map.1 hp
  have := ok.kb q hq
  exact ⟨by dsimp only; omega, by dsimp only; omega⟩
theorem Stt.sess_fit {st : Stt} (ok : st.Ok) : ∀ x ∈ st.sess, x.small := fun x hx => by
  obtain ⟨q, hq, rfl⟩ := List.mem_map.1 hx
  have := ok.sb q hq
  exact ⟨by omega, by omega, by omega, by omega⟩

structure Fit (i t : Int) (ps : List Pr) (xs : List Se) : Prop where
  i : -9223372036854775808 ≤ i ∧ i ≤ 9223372036854775807
  t : -9223372036854775808 ≤ t ∧ t ≤ 9223372036854775807
  p : ∀ p ∈ ps, p.small
  s : ∀ x ∈ xs, x.small
  l : ps.length ≤ 64 ∧ xs.length ≤ 64
theorem Fit.len {i t : Int} {ps : List Pr} {xs : List Se} (h : Fit i t ps xs) : (stB i t ps xs).length ≤ 400000000 := by
  have h1 : (prsB ps).length ≤ ps.length * 2200000 := flat_le Pr.bytes 2200000 _ fun x hx => by
    have := h.p x hx; unfold Pr.small at this; rw [Pr.bytes_len]; omega
  have h2 : (sesB xs).length ≤ xs.length * 2200000 := flat_le Se.bytes 2200000 _ fun x hx => by
    have := (h.s x hx).2.2.2; rw [Se.bytes_len]; omega
  have := h.l
  unfold stB; simp only [List.length_append, be_length, rowsB_len]; omega
section
variable {H : Hp}
theorem rowAt_blk' {b o : Nat} {c : Array Value} {t : TypeId} {fz : Nat × Nat} {l : List Value} (h : H[b]? = some (.cells c t fz)) (hl : ∀ j v, l[j]? = some v → c[o + j]? = some v) : RowAt H ((Addr.mk b 0 none).add o) l := fun j v hj => by
  rw [Addr.add_loc, Addr.add_loc, cell_of h, Nat.zero_add]; exact hl j v hj

theorem StateBytes_spec {says p s : Sl} {ss : List Sy} {i t : Int} {ps : List Pr} {xs : List Se} (hsr : Rows H says 6 (ss.map Sy.cells).flatten) (hsl : ss.length = says.len)
    (hp : Rows H p 3 (ps.map Pr.row).flatten) (hs : Rows H s 4 (xs.map Se.row).flatten) (sp : ∀ q ∈ ps, q.small) (sx : ∀ x ∈ xs, x.small) (hi : -9223372036854775808 ≤ i ∧ i ≤ 9223372036854775807) (ht : -9223372036854775808 ≤ t ∧ t ≤ 9223372036854775807) :
    SCalls Try.prog tephralaw07_StateBytes.id [.slice says.a says.len says.cap, .agg #[.int .i64 i, .int .i64 t, .slice p.a p.len p.cap, .slice s.a s.len s.cap]] H (trueQ H) := by
  apply tephralaw07_StateBytes.calls (rawIndex := i) (rawTerm := t) (rawPairs := p) (rawSessions := s)
  intro H1 e1
  obtain ⟨m1, _⟩ := hole_facts e1
  have eN : (if (30 : Int) < ((p.len : Nat) : Int) then (30 : Int) else ((p.len : Nat) : Int)).toNat = min 30 p.len := min_toNat 30 p.len
  have eM : (if (30 : Int) < ((s.len : Nat) : Int) then (30 : Int) else ((s.len : Nat) : Int)).toNat = min 30 s.len := min_toNat 30 s.len
  have cN : (0 : Int) ≤ (if (30 : Int) < ((p.len : Nat) : Int) then 30 else ((p.len : Nat) : Int)) ∧ (if (30 : Int) < ((p.len : Nat) : Int) then 30 else ((p.len : Nat) : Int)) ≤ ((p.cap : Nat) : Int) := by
    have := hp.2.1; split <;> omega
  have cM : (0 : Int) ≤ (if (30 : Int) < ((s.len : Nat) : Int) then 30 else ((s.len : Nat) : Int)) ∧ (if (30 : Int) < ((s.len : Nat) : Int) then 30 else ((s.len : Nat) : Int)) ≤ ((s.cap : Nat) : Int) := by
    have := hs.2.1; split <;> omega
  have lp := rows_len' (by omega) Pr.row_len hp
  have ls := rows_len' (by omega) Se.row_len hs
  refine bool_step (H0 := H) awake07_spec m1 fun H2 m2 => Br.no rfl ⟨cN, cM, ?_⟩
  apply tephralaw07_StateBytes.k1.step; unfold tephralaw07_StateBytes.k1.body
  refine some_step (hsr.keep m2 fun _ _ e => e) hsl fun p1 s1 H3 sr m3 => ?_
  have ok := someM_ok ss
  generalize someM ss = st at sr ok
  rw [eN, eM]
  intro b hb H4 e4
  obtain ⟨q4, m4, _⟩ := push_facts e4
  rw [← hb] at q4
  have m04 := m2.trans (m3.trans m4)
  apply tephralaw07_StateBytes.k2.step; unfold tephralaw07_StateBytes.k2.body
  have rr : RR H4 ⟨cutA p.a p.cap 0 3, min 30 p.len, p.cap⟩ ⟨cutA s.a s.cap 0 4, min 30 s.len, s.cap⟩ (ps.take (min 30 p.len)) (xs.take (min 30 s.len)) :=
    ⟨pr_take (hp.keep m04 fun _ _ e => e) (by omega), se_take (hs.keep m04 fun _ _ e => e) (by omega)⟩
  have lk : st.pairs.length = st.kv.length := List.length_map _
  have lss : st.sess.length = st.ss.length := List.length_map _
  have f1 : Fit st.index st.term st.pairs st.sess := ⟨by have := ok.i0; omega, by have := ok.t0; omega, Stt.pairs_fit ok, Stt.sess_fit ok, by have := ok.kl; have := ok.sl; omega⟩
  have f2 : Fit i t (ps.take (min 30 p.len)) (xs.take (min 30 s.len)) := ⟨hi, ht, fun q hq => sp q (List.mem_of_mem_take hq), fun q hq => sx q (List.mem_of_mem_take hq), by rw [List.length_take, List.length_take]; omega⟩
  -- the two states
  have two : ∀ j, j < 2 → ∃ (i' t' : Int) (p' s' : Sl) (ps' : List Pr) (xs' : List Se), RR H4 p' s' ps' xs' ∧ Fit i' t' ps' xs' ∧ ∀ H5, Mod (fun _ => False) H4 H5 → RowAt H5 ((Addr.mk b 0 none).add (j * 4)) [.int .i64 i', .int .i64 t', .slice p'.a p'.len p'.cap, .slice s'.a s'.len s'.cap] := by
    intro j hj
    rcases (show j = 0 ∨ j = 1 by omega) with rfl | rfl
    · refine ⟨_, _, p1, s1, _, _, (sr.mod m4).rr, f1, fun H5 m5 => rowAt_blk' (m5.get q4 fun e => e) fun k v hv => ?_⟩
      match k, hv with
      | 0, hv => exact hv
      | 1, hv => exact hv
      | 2, hv => exact hv
      | 3, hv => exact hv
    · refine ⟨_, _, ⟨cutA p.a p.cap 0 3, min 30 p.len, p.cap⟩, ⟨cutA s.a s.cap 0 4, min 30 s.len, s.cap⟩, _, _, rr, f2, fun H5 m5 => rowAt_blk' (m5.get q4 fun e => e) fun k v hv => ?_⟩
      match k, hv with
      | 0, hv => exact hv
      | 1, hv => exact hv
      | 2, hv => exact hv
      | 3, hv => exact hv
  have loop : ∀ (d j : Nat) (H5 : Hp), j + d = 2 → Mod (fun _ => False) H4 H5 → tephralaw07_StateBytes.l1 J0 i t p s b H5 (j : Int) (trueQ H) := by
    intro d
    induction d with
    | zero =>
      intro j H5 hj m
      apply tephralaw07_StateBytes.l1.step; unfold tephralaw07_StateBytes.l1.body
      exact Br.no (by simp; omega) ⟨rfl, m04.trans m⟩
    | succ d ih =>
      intro j H5 hj m
      apply tephralaw07_StateBytes.l1.step; unfold tephralaw07_StateBytes.l1.body
      obtain ⟨i', t', p', s', ps', xs', rr4, ft, hrow⟩ := two j (by omega)
      refine Br.yes (by simp; omega) ⟨⟨by omega, by omega⟩, i', t', p', s', by simpa using hrow H5 m, fun H6 e6 => ?_⟩
      obtain ⟨m6, _⟩ := hole_facts e6
      have rr6 := (rr4.mod m).mod m6
      have hlen := ft.len
      have lens := rr6.lens
      have ll := ft.l
      refine (Bytes_spec rr6 (by omega)).mono ?_
      rintro r H7 ⟨x2, rfl, o7, m7, hx7⟩
      have hx7' := Own.lt o7
      refine ⟨x2, rfl, (Read_spec (Own.rows o7) (rdCnt_of ft.i ft.t (fun q hq => (ft.p q hq).fits) (fun q hq => (ft.s q hq).fits) ⟨by omega, by omega⟩) hx7').mono ?_⟩
      rintro r H8 ⟨p2, s2, rfl, rr8, m8⟩
      have hrd := rdSt_of ft.i ft.t (fun q hq => (ft.p q hq).fits) (fun q hq => (ft.s q hq).fits) ⟨by omega, by omega⟩
      refine ⟨_, _, p2, s2, _, rfl, fun H9 e9 => ?_⟩
      obtain ⟨m9, _⟩ := hole_facts e9
      have o9 := (o7.keep m8 fun _ _ e => e).keep m9 fun _ _ e => e
      have rrA := ((rr6.mod m7).mod m8).mod m9
      have rrB := rr8.mod m9
      have m49 : Mod (fun _ => False) H4 H9 := m.trans (m6.trans (m7.trans (m8.trans m9)))
      have next : ∀ H' : Hp, Mod (fun _ => False) H9 H' → tephralaw07_StateBytes.l1 J0 i t p s b H' (w64 ((j : Int) + 1)) (trueQ H) := by
        intro H' m'
        rw [w64_id (x := (j : Int) + 1) (by omega) (by omega)]
        have := ih (j + 1) H' (by omega) (m49.trans m')
        simpa using this
      have hb2 : p'.len ≤ 64 ∧ s'.len ≤ 64 := by omega
      refine ⟨b2s_imp (bytes_str o9) ?_, ?_⟩
      · rintro _ rfl
        refine (lawbytes_spec rrA (by omega)).mono ?_
        rintro r H10 ⟨rfl, mm⟩
        refine ⟨_, rfl, ?_⟩
        refine Br.no (by rw [same_bytes]; simp) ?_
        refine bool_step (Right_spec (rrA.mod mm) (by omega) (by omega)) mm fun H11 m11 => ?_
        refine bool_step (law_Right_spec (rrA.mod m11) (by omega) (by omega)) m11 fun H12 m12 => ?_
        refine Br.no (by rw [beq_self_eq_true]; rfl) ?_
        refine bool_step (law_Right_spec (rrA.mod m12) (by omega) (by omega)) m12 fun H13 m13 => ?_
        by_cases hR : RightM i' t' ps' xs'
        · rw [if_pos hR] at hrd
          rw [hrd] at rrB ⊢
          dsimp only at rrB ⊢
          have lB := rrB.lens
          rw [decide_eq_true hR]
          refine Br.yes rfl (Br.no rfl ?_)
          refine bool_step (Same_spec (rrA.mod m13) (rrB.mod m13) (by omega) (by omega)) m13 fun H14 m14 => ?_
          refine Br.no (by simp) (Br.yes rfl ?_)
          refine bool_step (law_Right_spec (rrB.mod m14) (by omega) (by omega)) m14 fun H15 m15 => ?_
          rw [decide_eq_true hR]
          refine Br.no rfl ⟨?_, ?_⟩
          · refine (lawbytes_spec (rrB.mod m15) (by omega)).mono ?_
            rintro r H16 ⟨rfl, m16⟩
            refine ⟨_, rfl, b2s_imp (bytes_str (o9.keep (m15.trans m16) fun _ _ e => e)) ?_⟩
            rintro _ rfl
            exact Br.no (by rw [same_bytes]; simp) (next H16 (m15.trans m16))
          · refine b2s_imp (bytes_str (o9.keep m15 fun _ _ e => e)) ?_
            rintro _ rfl
            refine (lawbytes_spec (rrB.mod m15) (by omega)).mono ?_
            rintro r H16 ⟨rfl, m16⟩
            exact ⟨_, rfl, Br.no (by rw [same_bytes]; simp) (next H16 (m15.trans m16))⟩
        · rw [if_neg hR] at hrd
          rw [hrd]
          rw [decide_eq_false hR]
          exact Br.no rfl (Br.no rfl ⟨next H13 m13, next H13 m13⟩)
      · refine (lawbytes_spec rrA (by omega)).mono ?_
        rintro r H10 ⟨rfl, mm⟩
        refine ⟨_, rfl, b2s_imp (bytes_str (o9.keep mm fun _ _ e => e)) ?_⟩
        rintro _ rfl
        refine Br.no (by rw [same_bytes]; simp) ?_
        refine bool_step (Right_spec (rrA.mod mm) (by omega) (by omega)) mm fun H11 m11 => ?_
        refine bool_step (law_Right_spec (rrA.mod m11) (by omega) (by omega)) m11 fun H12 m12 => ?_
        refine Br.no (by rw [beq_self_eq_true]; rfl) ?_
        refine bool_step (law_Right_spec (rrA.mod m12) (by omega) (by omega)) m12 fun H13 m13 => ?_
        by_cases hR : RightM i' t' ps' xs'
        · rw [if_pos hR] at hrd
          rw [hrd] at rrB ⊢
          dsimp only at rrB ⊢
          have lB := rrB.lens
          rw [decide_eq_true hR]
          refine Br.yes rfl (Br.no rfl ?_)
          refine bool_step (Same_spec (rrA.mod m13) (rrB.mod m13) (by omega) (by omega)) m13 fun H14 m14 => ?_
          refine Br.no (by simp) (Br.yes rfl ?_)
          refine bool_step (law_Right_spec (rrB.mod m14) (by omega) (by omega)) m14 fun H15 m15 => ?_
          rw [decide_eq_true hR]
          refine Br.no rfl ⟨?_, ?_⟩
          · refine (lawbytes_spec (rrB.mod m15) (by omega)).mono ?_
            rintro r H16 ⟨rfl, m16⟩
            refine ⟨_, rfl, b2s_imp (bytes_str (o9.keep (m15.trans m16) fun _ _ e => e)) ?_⟩
            rintro _ rfl
            exact Br.no (by rw [same_bytes]; simp) (next H16 (m15.trans m16))
          · refine b2s_imp (bytes_str (o9.keep m15 fun _ _ e => e)) ?_
            rintro _ rfl
            refine (lawbytes_spec (rrB.mod m15) (by omega)).mono ?_
            rintro r H16 ⟨rfl, m16⟩
            exact ⟨_, rfl, Br.no (by rw [same_bytes]; simp) (next H16 (m15.trans m16))⟩
        · rw [if_neg hR] at hrd
          rw [hrd]
          rw [decide_eq_false hR]
          exact Br.no rfl (Br.no rfl ⟨next H13 m13, next H13 m13⟩)
  exact loop 2 0 H4 (by omega) (Mod.refl _ _)
end
end Go.Proofs
