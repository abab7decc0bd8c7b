/- STATES: StateRows. -/
import Derived.Test.YtgndfbbgomlbeaaKu14
set_option linter.all false
set_option linter.constructorNameAsVariable false
namespace Go.Proofs
open Go Go.KC

def Pr.small (p : Pr) : Prop := p.key.size ≤ 1048576 ∧ p.value.size ≤ 1048576
def Se.small (x : Se) : Prop := (-9223372036854775808 ≤ x.client ∧ x.client ≤ 9223372036854775807) ∧ (-9223372036854775808 ≤ x.seq ∧ x.seq ≤ 9223372036854775807) ∧ (-9223372036854775808 ≤ x.err ∧ x.err ≤ 9223372036854775807) ∧ x.value.size ≤ 1048576
theorem Pr.small.fits {p : Pr} (h : p.small) : p.fits := ⟨by have := h.1; omega, by have := h.2; omega⟩
theorem Se.small.fits {x : Se} (h : x.small) : x.fits := ⟨h.1, h.2.1, h.2.2.1, by have := h.2.2.2; omega⟩
theorem rows_small {ps : List Pr} {xs : List Se} (hp : ∀ p ∈ ps, p.small) (hs : ∀ x ∈ xs, x.small) (hl : ps.length ≤ 30 ∧ xs.length ≤ 30) : (rowsB ps xs).length ≤ 200000000 := by
  have h1 : (prsB ps).length ≤ ps.length * 2200000 := flat_le Pr.bytes 2200000 _ fun x hx => by
    have := hp x hx; unfold Pr.small at this; rw [Pr.bytes_len]; omega
  have h2 : (sesB xs).length ≤ xs.length * 2200000 := flat_le Se.bytes 2200000 _ fun x hx => by
    have := (hs x hx).2.2.2; rw [Se.bytes_len]; omega
  rw [rowsB_len]; omega
section
variable {H : Hp}
theorem pr_take {p : Sl} {ps : List Pr} (h : Rows H p 3 (ps.map Pr.row).flatten) {n : Nat} (hn : n ≤ p.len) : Rows H ⟨cutA p.a p.cap 0 3, n, p.cap⟩ 3 ((ps.take n).map Pr.row).flatten := by
  have := Rows.take h hn
  rwa [← flat_take (f := Pr.row) (k := 3) (fun _ => rfl)] at this
theorem se_take {p : Sl} {ps : List Se} (h : Rows H p 4 (ps.map Se.row).flatten) {n : Nat} (hn : n ≤ p.len) : Rows H ⟨cutA p.a p.cap 0 4, n, p.cap⟩ 4 ((ps.take n).map Se.row).flatten := by
  have := Rows.take h hn
  rwa [← flat_take (f := Se.row) (k := 4) (fun _ => rfl)] at this

theorem StateRows_spec {p s : Sl} {ps : List Pr} {xs : List Se} {most : UInt8} (hp : Rows H p 3 (ps.map Pr.row).flatten) (hs : Rows H s 4 (xs.map Se.row).flatten) (sp : ∀ q ∈ ps, q.small) (ss : ∀ x ∈ xs, x.small) :
    SCalls Try.prog tephralaw07_StateRows.id [.slice p.a p.len p.cap, .slice s.a s.len s.cap, .int .u8 (most.toNat : Int)] H (trueQ H) := by
  apply tephralaw07_StateRows.calls
  unfold tephralaw07_StateRows.vc
  have eN : (if (30 : Int) < ((p.len : Nat) : Int) then (30 : Int) else ((p.len : Nat) : Int)).toNat = min 30 p.len := min_toNat 30 p.len
  have eM : (if (30 : Int) < ((s.len : Nat) : Int) then (30 : Int) else ((s.len : Nat) : Int)).toNat = min 30 s.len := min_toNat 30 s.len
  have cN : (0 : Int) ≤ (if (30 : Int) < ((p.len : Nat) : Int) then 30 else ((p.len : Nat) : Int)) ∧ (if (30 : Int) < ((p.len : Nat) : Int) then 30 else ((p.len : Nat) : Int)) ≤ ((p.cap : Nat) : Int) := by
    have := hp.2.1; split <;> omega
  have cM : (0 : Int) ≤ (if (30 : Int) < ((s.len : Nat) : Int) then 30 else ((s.len : Nat) : Int)) ∧ (if (30 : Int) < ((s.len : Nat) : Int) then 30 else ((s.len : Nat) : Int)) ≤ ((s.cap : Nat) : Int) := by
    have := hs.2.1; split <;> omega
  have lp := rows_len' (by omega) Pr.row_len hp
  have ls := rows_len' (by omega) Se.row_len hs
  refine bool_step (H0 := H) awake07_spec (Mod.refl _ _) fun H1 m1 => Br.no rfl ⟨cN, cM, ?_⟩
  rw [eN, eM]
  have rr : ∀ {H'}, Mod (fun _ => False) H H' → RR H' ⟨cutA p.a p.cap 0 3, min 30 p.len, p.cap⟩ ⟨cutA s.a s.cap 0 4, min 30 s.len, s.cap⟩ (ps.take (min 30 p.len)) (xs.take (min 30 s.len)) := fun m =>
    ⟨pr_take (hp.keep m fun _ _ e => e) (by omega), se_take (hs.keep m fun _ _ e => e) (by omega)⟩
  have lN : (ps.take (min 30 p.len)).length = min 30 p.len := by rw [List.length_take]; omega
  have lM : (xs.take (min 30 s.len)).length = min 30 s.len := by rw [List.length_take]; omega
  have sp' : ∀ q ∈ ps.take (min 30 p.len), q.small := fun q hq => sp q (List.mem_of_mem_take hq)
  have ss' : ∀ x ∈ xs.take (min 30 s.len), x.small := fun q hq => ss q (List.mem_of_mem_take hq)
  have hN : min 30 p.len ≤ 30 := by omega
  have hM : min 30 s.len ≤ 30 := by omega
  generalize hpn : (⟨cutA p.a p.cap 0 3, min 30 p.len, p.cap⟩ : Sl) = pn at *
  generalize hsn : (⟨cutA s.a s.cap 0 4, min 30 s.len, s.cap⟩ : Sl) = sn at *
  have e1 : cutA p.a p.cap 0 3 = pn.a := by rw [← hpn]
  have e2 : min 30 p.len = pn.len := by rw [← hpn]
  have e3 : p.cap = pn.cap := by rw [← hpn]
  have e4 : cutA s.a s.cap 0 4 = sn.a := by rw [← hsn]
  have e5 : min 30 s.len = sn.len := by rw [← hsn]
  have e6 : s.cap = sn.cap := by rw [← hsn]
  generalize hpp : ps.take (min 30 p.len) = pp at *
  generalize hxx : xs.take (min 30 s.len) = xx at *
  rw [e2] at lN hN
  rw [e5] at lM hM
  have hsz := rows_small sp' ss' ⟨by omega, by omega⟩
  intro b hb H2 h2 b1 hb1 H3 h3
  obtain ⟨q2, m2, s2⟩ := push_facts h2
  obtain ⟨q3, m3, s3⟩ := push_facts h3
  have W3 : Wr H3 b [b] [] := by
    have : Wr H2 b [b] [] := by rw [hb, h2]; exact Wr.new H1
    exact this.keep m3 fun _ _ e => e
  have V3 : Wr H3 b1 [b1] [] := by rw [hb1, h3]; exact Wr.new H2
  have m03 := m1.trans (m2.trans m3)
  have z1 := m1.size
  have new : ∀ {F : List Nat} {H' : Hp}, (∀ g ∈ F, H.size ≤ g) → Mod (· ∈ F) H3 H' → Mod (fun _ => False) H H' := fun hF m => Mod.fresh ((m03.mono fun _ _ e => e.elim).trans m) hF
  have hFb : ∀ g ∈ [b], H.size ≤ g := fun g hg => by simp at hg; omega
  rw [e1, e2, e3, e4, e5, e6]
  refine (PutRows_spec (WrQ.of W3) (fun H' m => rr (new hFb m)) (by rw [List.length_nil]; omega)).mono ?_
  rintro r H4 ⟨rfl, ⟨F4, W4, m4, hF4⟩⟩
  rw [List.nil_append] at W4
  have m04 := new hFb m4
  have V4 : Wr H4 b1 [b1] [] := V3.keep m4 fun g hg h => by simp at hg h; omega
  refine ⟨rfl, (Lays_spec (WrQ.of V4) (fun H' m => rr (Mod.fresh ((m04.mono fun _ _ e => e.elim).trans m) fun g hg => by simp at hg; omega)) (by rw [List.length_nil]; omega)).mono ?_⟩
  rintro r H5 ⟨rfl, ⟨F5, V5, m5, hF5⟩⟩
  rw [List.nil_append] at V5
  have m05 : Mod (fun _ => False) H H5 := Mod.fresh ((m04.mono fun _ _ e => e.elim).trans m5) fun g hg => by simp at hg; omega
  have W5 : Wr H5 b F4 (rowsB pp xx) := W4.keep m5 fun g hg h => by
    simp at h
    rcases hF4 g hg with h' | h'
    · simp at h'; omega
    · omega
  refine ⟨rfl, (Writer_Bytes_spec W5 (by omega)).mono ?_⟩
  rintro r H6 ⟨x1, rfl, o6, m6, hb6⟩
  refine ⟨x1, rfl, (Of_spec (D := x1.blk) (Own.rows o6) (fun _ h => h) (Own.lt o6)).mono ?_⟩
  rintro r H7 ⟨rfl, m7, rd7⟩
  have z7 := m7.size
  have hrd := rdRows_of (fun q hq => (sp' q hq).fits) (fun x hx => (ss' x hx).fits) ⟨by omega, by omega⟩ []
  rw [List.append_nil] at hrd
  refine ⟨_, rfl, (ReadRows_spec rd7 (fun g hg => Nat.lt_of_lt_of_le (Own.lt o6 g hg) z7) (by rw [hrd]; dsimp only; omega)).mono ?_⟩
  rintro r H8 ⟨x3, x4, rfl, rr8, rd8, m8⟩
  rw [hrd] at rr8 rd8
  dsimp only at rr8 rd8
  have hlen := rr8.lens
  have hc : H5.size ≤ H6.size := m6.size
  have m58 : Mod (fun _ => False) H5 H8 := Mod.fresh (((m6.trans m7).mono fun _ _ e => e.elim).trans m8) fun g hg => by have hg : g = H6.size := hg; omega
  have W8 := W5.keep m58 fun _ _ e => e
  have V8 := V5.keep m58 fun _ _ e => e
  have m08 := m05.trans m58
  have loop2 : ∀ (d j : Nat) (H' : Hp), j + d = xx.length → Mod (fun _ => False) H8 H' → tephralaw07_StateRows.l2 J0 s x4 H' (j : Int) (trueQ H) := by
    intro d
    induction d with
    | zero =>
      intro j H' hj m
      apply tephralaw07_StateRows.l2.step; unfold tephralaw07_StateRows.l2.body
      rw [eM, e5]
      exact Br.no (by simp; omega) ⟨rfl, m08.trans m⟩
    | succ d ih =>
      intro j H' hj m
      apply tephralaw07_StateRows.l2.step; unfold tephralaw07_StateRows.l2.body
      rw [eM, e5, e4]
      have hjl : j < xx.length := by omega
      obtain ⟨a, ha, hrow⟩ := row_get' (by omega) Se.row_len (rr8.mod m).2 hjl
      obtain ⟨a', ha', hrow'⟩ := row_get' (by omega) Se.row_len (rr (m08.trans m)).2 hjl
      refine Br.yes (by simp; omega) ⟨⟨by omega, by omega⟩, vPtr.mk a ha ⟨xx[j].client, xx[j].seq, xx[j].err, xx[j].value, by simpa [Se.row] using hrow, ⟨by omega, by omega⟩, vPtr.mk a' ha' ⟨xx[j].client, xx[j].seq, xx[j].err, xx[j].value, by simpa [Se.row] using hrow', Br.no (by simp [beq_ba]) ?_⟩⟩⟩
      rw [w64_id (x := (j : Int) + 1) (by omega) (by omega)]
      have := ih (j + 1) H' (by omega) m
      simpa using this
  have loop1 : ∀ (d j : Nat) (H' : Hp), j + d = pp.length → Mod (fun _ => False) H8 H' → tephralaw07_StateRows.l1 J0 p s x3 x4 H' (j : Int) (trueQ H) := by
    intro d
    induction d with
    | zero =>
      intro j H' hj m
      apply tephralaw07_StateRows.l1.step; unfold tephralaw07_StateRows.l1.body
      rw [eN, e2]
      exact Br.no (by simp; omega) (loop2 xx.length 0 H' (by omega) m)
    | succ d ih =>
      intro j H' hj m
      apply tephralaw07_StateRows.l1.step; unfold tephralaw07_StateRows.l1.body
      rw [eN, e2, e1]
      have hjl : j < pp.length := by omega
      obtain ⟨a, ha, hrow⟩ := row_get' (by omega) Pr.row_len (rr8.mod m).1 hjl
      obtain ⟨a', ha', hrow'⟩ := row_get' (by omega) Pr.row_len (rr (m08.trans m)).1 hjl
      refine Br.yes (by simp; omega) ⟨⟨by omega, by omega⟩, vPtr.mk a ha ⟨pp[j].key, pp[j].value, pp[j].gone, by simpa [Pr.row] using hrow, ⟨by omega, by omega⟩, vPtr.mk a' ha' ⟨pp[j].key, pp[j].value, pp[j].gone, by simpa [Pr.row] using hrow', ?_⟩⟩⟩
      apply tephralaw07_StateRows.k2.step; unfold tephralaw07_StateRows.k2.body
      refine Br.no (by simp [beq_ba]) ?_
      rw [w64_id (x := (j : Int) + 1) (by omega) (by omega)]
      have := ih (j + 1) H' (by omega) m
      simpa using this
  have k1 : ∀ H' : Hp, Mod (fun _ => False) H8 H' → tephralaw07_StateRows.k1 J0 p s x3 x4 false H' (trueQ H) := by
    intro H' m
    apply tephralaw07_StateRows.k1.step; unfold tephralaw07_StateRows.k1.body
    exact Br.no rfl (loop1 pp.length 0 H' (by omega) m)
  refine ⟨x3, x4, rfl, (Writer_Bytes_spec W8 (by omega)).mono ?_⟩
  rintro r H9 ⟨x5, rfl, o9, m9, _⟩
  refine ⟨x5, rfl, b2s_imp (bytes_str o9) ?_, ?_⟩
  · rintro _ rfl
    refine (Writer_Bytes_spec (V8.keep m9 fun _ _ e => e) (by omega)).mono ?_
    rintro r H10 ⟨x6, rfl, o10, m10, _⟩
    refine ⟨x6, rfl, b2s_imp (bytes_str o10) ?_⟩
    rintro _ rfl
    have mm := m9.trans m10
    refine Br.no (by rw [same_bytes]; simp) ((Reader_Done_spec (rd8.keep mm (fun e => e) fun _ _ e => e)).mono ?_)
    rintro r H11 ⟨rfl, rfl⟩
    refine ⟨_, rfl, Br.no rfl (Br.no (by rw [← hlen.1, lN]; simp) (Br.no (by rw [← hlen.2, lM]; simp) ⟨by omega, by omega, ?_⟩))⟩
    refine bool_step (RightRows_spec (rr (m08.trans mm)) (by omega) (by omega)) mm fun H12 m12 => ?_
    refine bool_step (rows_law_spec (rr (m08.trans m12)) (by omega) (by omega)) m12 fun H13 m13 => ?_
    rw [beq_self_eq_true]
    exact k1 H13 m13
  · refine (Writer_Bytes_spec (V8.keep m9 fun _ _ e => e) (by omega)).mono ?_
    rintro r H10 ⟨x6, rfl, o10, m10, _⟩
    have mm := m9.trans m10
    have o9' := o9.keep m10 fun _ _ e => e
    refine ⟨x6, rfl, b2s_imp (bytes_str o9') ?_, b2s_imp (bytes_str o10) ?_⟩
    · rintro _ rfl
      refine b2s_imp (bytes_str o10) ?_
      rintro _ rfl
      refine Br.no (by rw [same_bytes]; simp) ((Reader_Done_spec (rd8.keep mm (fun e => e) fun _ _ e => e)).mono ?_)
      rintro r H11 ⟨rfl, rfl⟩
      refine ⟨_, rfl, Br.no rfl (Br.no (by rw [← hlen.1, lN]; simp) (Br.no (by rw [← hlen.2, lM]; simp) ⟨by omega, by omega, ?_⟩))⟩
      refine bool_step (RightRows_spec (rr (m08.trans mm)) (by omega) (by omega)) mm fun H12 m12 => ?_
      refine bool_step (rows_law_spec (rr (m08.trans m12)) (by omega) (by omega)) m12 fun H13 m13 => ?_
      rw [beq_self_eq_true]
      exact k1 H13 m13
    · rintro _ rfl
      refine b2s_imp (bytes_str o9') ?_
      rintro _ rfl
      refine Br.no (by rw [same_bytes]; simp) ((Reader_Done_spec (rd8.keep mm (fun e => e) fun _ _ e => e)).mono ?_)
      rintro r H11 ⟨rfl, rfl⟩
      refine ⟨_, rfl, Br.no rfl (Br.no (by rw [← hlen.1, lN]; simp) (Br.no (by rw [← hlen.2, lM]; simp) ⟨by omega, by omega, ?_⟩))⟩
      refine bool_step (RightRows_spec (rr (m08.trans mm)) (by omega) (by omega)) mm fun H12 m12 => ?_
      refine bool_step (rows_law_spec (rr (m08.trans m12)) (by omega) (by omega)) m12 fun H13 m13 => ?_
      rw [beq_self_eq_true]
      exact k1 H13 m13
end
end Go.Proofs
