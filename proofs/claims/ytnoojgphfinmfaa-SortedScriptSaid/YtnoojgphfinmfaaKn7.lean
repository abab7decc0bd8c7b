/- LAYER 05: SortedScript. -/
import Derived.Test.YtnoojgphfinmfaaKn12
import Derived.Test.YtnoojgphfinmfaaKm7
import Derived.Test.YtnoojgphfinmfaaKgm1
import Derived.Test.YtnoojgphfinmfaaKe1
set_option linter.all false
set_option linter.constructorNameAsVariable false
namespace Go.Proofs
open Go Go.KC

/-- The text that stands for a key. -/
def sK (k : Int) : ByteArray := ByteArray.mk #[UInt8.ofNat (k % 256).toNat, 107]
theorem sK_byte (k : Int) : ((UInt8.ofNat (k % 256).toNat).toNat : Int) = k % 256 := by
  have h1 : 0 ≤ k % 256 := Int.emod_nonneg _ (by omega)
  have h2 : k % 256 < 256 := Int.emod_lt_of_pos _ (by omega)
  have h3 : (k % 256).toNat < UInt8.size := by show _ < 256; omega
  rw [UInt8.toNat_ofNat_of_lt' h3]; omega
theorem sK_inj {k j : Int} (hk : -128 ≤ k ∧ k ≤ 127) (hj : -128 ≤ j ∧ j ≤ 127) (h : sK k = sK j) : k = j := by
  have e : UInt8.ofNat (k % 256).toNat = UInt8.ofNat (j % 256).toNat := by
    unfold sK at h
    injection h with h
    have := congrArg (fun a : Array UInt8 => a[0]?) h
    simpa using this
  have h1 := sK_byte k
  have h2 := sK_byte j
  rw [e] at h1
  omega
/-- Numbers and texts have the same. -/
structure Both (l : List (Int × Int)) (t : List (ByteArray × Int)) : Prop where
  rl : Rise l
  rt : Rise t
  kl : ∀ p ∈ l, -128 ≤ p.1 ∧ p.1 ≤ 127
  val : ∀ k, -128 ≤ k ∧ k ≤ 127 → valL t (sK k) = valL l k
  len : t.length = l.length
theorem Both.put {l : List (Int × Int)} {t : List (ByteArray × Int)} (h : Both l t) {k : Int} (hk : -128 ≤ k ∧ k ≤ 127) (v : Int) : Both (putL l k v) (putL t (sK k) v) := by
  refine ⟨putL_rise h.rl k v, putL_rise h.rt _ v, fun p hp => ?_, fun j hj => ?_, ?_⟩
  · have := (putL_mem h.rl k v p.1 p.2).1 hp
    split at this
    · rename_i e; rw [e]; exact hk
    · exact h.kl p this
  · rw [valL_put h.rt, valL_put h.rl, h.val j hj]
    by_cases c : j = k
    · rw [if_pos c, if_pos (by rw [c])]
    · rw [if_neg c, if_neg fun e => c (sK_inj hj hk e)]
  · rw [length_put h.rt, length_put h.rl, h.val k hk, h.len]
theorem Both.del {l : List (Int × Int)} {t : List (ByteArray × Int)} (h : Both l t) {k : Int} (hk : -128 ≤ k ∧ k ≤ 127) : Both (delL l k) (delL t (sK k)) := by
  refine ⟨delL_rise h.rl k, delL_rise h.rt _, fun p hp => h.kl p ((delL_mem h.rl k p.1 p.2).1 hp).2, fun j hj => ?_, ?_⟩
  · rw [valL_del h.rt, valL_del h.rl, h.val j hj]
    by_cases c : j = k
    · rw [if_pos c, if_pos (by rw [c])]
    · rw [if_neg c, if_neg fun e => c (sK_inj hj hk e)]
  · rw [length_del h.rt, length_del h.rl, h.val k hk, h.len]
theorem MI_get (l : List (Int × Int)) (k : Int) : MI.get l k = ((valL l k).getD 0, (valL l k).isSome) := by
  unfold MI.get valL
  cases l.find? (fun p => decide (p.1 = k)) <;> rfl
theorem MT_get (l : List (ByteArray × Int)) (k : ByteArray) : MT.get l k = ((valL l k).getD 0, (valL l k).isSome) := by
  unfold MT.get valL
  cases l.find? (fun p => decide (p.1 = k)) <;> rfl
def mapOf (l : List (Int × Int)) : Int → Option Value := fun k => (valL l k).map fun v => .int .i64 v
theorem mapOf_put {l : List (Int × Int)} (hs : Rise l) (k v : Int) : upd (mapOf l) k (some (.int .i64 v)) = mapOf (putL l k v) := by
  funext j; unfold upd mapOf; rw [valL_put hs]; split <;> rfl
theorem mapOf_del {l : List (Int × Int)} (hs : Rise l) (k : Int) : upd (mapOf l) k none = mapOf (delL l k) := by
  funext j; unfold upd mapOf; rw [valL_del hs]; split <;> rfl
theorem mapOf_some (l : List (Int × Int)) (k : Int) : (mapOf l k).isSome = (valL l k).isSome := by unfold mapOf; cases valL l k <;> rfl
theorem mapOf_val (l : List (Int × Int)) (k : Int) : (mapOf l k).getD (.int .i64 0) = .int .i64 ((valL l k).getD 0) := by unfold mapOf; cases valL l k <;> rfl

theorem keyD_ii : keyD Try.prog T_map_int_int = some (.int .i64, T_int) := by kernel_rfl
theorem int_inf : (Try.prog.info? T_int).map (fun i => i.zero) = some (some (.int .i64 0)) := by kernel_rfl
theorem int_zero : ∃ ti, Try.prog.info? T_int = some ti ∧ ti.zero = some (.int .i64 0) := by
  have h := int_inf
  cases hi : Try.prog.info? T_int with
  | none => rw [hi] at h; simp at h
  | some ti => rw [hi] at h; simp at h; exact ⟨ti, rfl, h⟩

/-- What the script holds. -/
structure Sc (H0 H : Hp) (b b1 b2 : Nat) (F F1 : List Nat) (l : List (Int × Int)) (t : List (ByteArray × Int)) : Prop where
  m : MI.Mp H b 0 F l
  w : MT.Mp H b1 0 F1 t
  g : GM (fun k : Int => Value.int .i64 k) H b2 (mapOf l) l.length
  d : b ≠ b1 ∧ b ≠ b2 ∧ b1 ≠ b2
  n : H0.size ≤ b ∧ H0.size ≤ b1 ∧ H0.size ≤ b2
  f : ∀ q ∈ F, H0.size ≤ q ∧ q ≠ b1 ∧ q ≠ b2 ∧ q ∉ F1
  f1 : ∀ q ∈ F1, H0.size ≤ q ∧ q ≠ b ∧ q ≠ b2
  h : Mod (fun _ => False) H0 H
section
variable {H0 H H' : Hp} {b b1 b2 : Nat} {F F1 : List Nat} {l : List (Int × Int)} {t : List (ByteArray × Int)}
theorem Sc.mod (s : Sc H0 H b b1 b2 F F1 l t) (m : Mod (fun _ => False) H H') : Sc H0 H' b b1 b2 F F1 l t := ⟨s.m.mod m, s.w.mod m, s.g.mod m, s.d, s.n, s.f, s.f1, s.h.trans m⟩

theorem Sc.step {a : Ac} (s : Sc H0 H b b1 b2 F F1 l t) (bo : Both l t) (hk : -128 ≤ a.key ∧ a.key ≤ 127) (hv : 0 ≤ a.value ∧ a.value ≤ 65535) (hl : l.length ≤ 1000) {acts : Sl} {j : Int} {Q : Value → Hp → Prop}
    (next : ∀ H' F' F1' l' t', l'.length ≤ l.length + 1 → Sc H0 H' b b1 b2 F' F1' l' t' → Both l' t' → tephralaw05_SortedScript.l1 J0 acts b b1 b2 H' (w64 (j + 1)) Q) :
    tephralaw05_SortedScript.k3 J0 acts b b1 b2 j a.op a.key a.value (sK a.key) (valL l a.key).isSome H false Q := by
  have wk : w64 a.key = a.key := w64_id (by omega) (by omega)
  have wv : w64 a.value = a.value := w64_id (by omega) (by omega)
  have k6 : ∀ (H1 : Hp) (F' F1' : List Nat) (l' : List (Int × Int)) (t' : List (ByteArray × Int)), l'.length ≤ l.length + 1 → Sc H0 H1 b b1 b2 F' F1' l' t' → Both l' t' → tephralaw05_SortedScript.k6 J0 acts b b1 b2 j a.op a.key a.value H1 Q := by
    intro H1 F' F1' l' t' hl' s' bo'
    apply tephralaw05_SortedScript.k6.step; unfold tephralaw05_SortedScript.k6.body
    refine MI.len_step s'.m fun H2 m2 => ?_
    obtain ⟨es, he, hn⟩ := (s'.mod m2).g.at
    refine ⟨es, he, Br.no (by rw [hn]; simp) ?_⟩
    refine MT.len_step (s'.mod m2).w fun H3 m3 => ?_
    obtain ⟨es1, he1, hn1⟩ := ((s'.mod m2).mod m3).g.at
    exact ⟨es1, he1, Br.no (by rw [hn1, bo'.len]; simp) (next H3 F' F1' l' t' hl' ((s'.mod m2).mod m3) bo')⟩
  apply tephralaw05_SortedScript.k3.step; unfold tephralaw05_SortedScript.k3.body
  rw [wk, wv]
  refine Br.no rfl ⟨by omega, Br.mk (fun _ => ?_) fun _ => ?_⟩
  · -- deleted
    refine s.g.del keInt keyD_ii a.key fun H1 g1 m1 => ?_
    have M1 := s.m.keep m1 s.d.2.1 fun q hq e => (s.f q hq).2.2.1 e
    have W1 := s.w.keep m1 s.d.2.2 fun q hq e => (s.f1 q hq).2.2 e
    refine (MI.Del_spec (k := a.key) M1).mono ?_
    rintro r H2 ⟨i, sp, rfl, F', M2, m2, n2, _⟩
    have z2 := m2.size
    have z1 := m1.size
    have lw := W1.lt
    have lg := g1.lt
    refine ⟨_, rfl, ?_⟩
    rw [atB_val bo.rl sp]
    have eM : delAt l a.key i = delL l a.key := by unfold delL; rw [spotOf_eq sp]
    rw [eM] at M2
    refine Br.no (by simp) ?_
    have hF1 : ∀ q ∈ F1, ¬ (q = b ∨ q ∈ F) := fun q hq h => h.elim (s.f1 q hq).2.1 fun h => (s.f q h).2.2.2 hq
    have W2 := W1.keep m2 (fun h => h.elim (fun e => s.d.1 e.symm) fun h => (s.f b1 h).2.1 rfl) hF1
    have g2 := g1.keep m2 fun h => h.elim (fun e => s.d.2.1 e.symm) fun h => (s.f b2 h).2.2.1 rfl
    refine (MT.Del_spec (k := sK a.key) W2).mono ?_
    rintro r H3 ⟨i', sp', rfl, F1', W3, m3, n3, _⟩
    have z3 := m3.size
    refine ⟨_, rfl, ?_⟩
    rw [atB_val bo.rt sp', bo.val a.key hk]
    have eW : delAt t (sK a.key) i' = delL t (sK a.key) := by unfold delL; rw [spotOf_eq sp']
    rw [eW] at W3
    have lm := M2.lt
    have lf1 := W2.lt
    have hFF : ∀ q ∈ F', ¬ (q = b1 ∨ q ∈ F1) := fun q hq h => by
      rcases n2 q hq with h' | h'
      · exact h.elim (fun e => (s.f q h').2.1 e) fun h => (s.f q h').2.2.2 h
      · rcases h with h | h
        · have := lw.1; omega
        · have := lw.2 q h; omega
    have M3 := M2.keep m3 (fun h => h.elim s.d.1 fun h => (s.f1 b h).2.1 rfl) hFF
    have g3 := g2.keep m3 fun h => h.elim (fun e => s.d.2.2 e.symm) fun h => (s.f1 b2 h).2.2 rfl
    rw [mapOf_del bo.rl, mapOf_some, ← length_del bo.rl] at g3
    apply tephralaw05_SortedScript.k4.step; unfold tephralaw05_SortedScript.k4.body
    have zz := s.h.size
    refine Br.no (by simp) (k6 H3 F' F1' _ _ (by have := delL_length l a.key; omega) ⟨M3, W3, g3, s.d, s.n, fun q hq => ?_, fun q hq => ?_, ?_⟩ (bo.del hk))
    · rcases n2 q hq with h | h
      · refine ⟨(s.f q h).1, (s.f q h).2.1, (s.f q h).2.2.1, fun hq1 => ?_⟩
        rcases n3 q hq1 with h' | h'
        · exact (s.f q h).2.2.2 h'
        · have := lm.2 q hq; omega
      · refine ⟨by omega, by have := lw.1; omega, by omega, fun hq1 => ?_⟩
        rcases n3 q hq1 with h' | h'
        · have := lw.2 q h'; omega
        · have := lm.2 q hq; omega
    · rcases n3 q hq with h | h
      · exact s.f1 q h
      · exact ⟨by omega, by have := lm.1; omega, by have := g2.lt; omega⟩
    · exact Mod.fresh (((s.h.mono fun _ _ e => e.elim).trans m1 |>.mono (m' := fun q => H0.size ≤ q) fun q _ h => by have h : q = b2 := h; have := s.n; omega).trans ((m2.mono fun q _ h => h.elim (fun h => by have := s.n; omega) fun h => (s.f q h).1).trans (m3.mono fun q _ h => h.elim (fun h => by have := s.n; omega) fun h => (s.f1 q h).1))) fun q h => h
  · -- put
    refine s.g.put keInt keyD_ii a.key (.int .i64 a.value) fun H1 g1 m1 => ?_
    have M1 := s.m.keep m1 s.d.2.1 fun q hq e => (s.f q hq).2.2.1 e
    have W1 := s.w.keep m1 s.d.2.2 fun q hq e => (s.f1 q hq).2.2 e
    refine (MI.Put_spec (k := a.key) (v := a.value) M1 (by omega)).mono ?_
    rintro r H2 ⟨i, sp, rfl, F', M2, m2, n2, _⟩
    have z2 := m2.size
    have z1 := m1.size
    have lw := W1.lt
    have lg := g1.lt
    refine ⟨_, rfl, ?_⟩
    rw [atB_val bo.rl sp]
    have eM : putAt l a.key a.value i = putL l a.key a.value := by unfold putL; rw [spotOf_eq sp]
    rw [eM] at M2
    refine Br.no (by cases (valL l a.key).isSome <;> rfl) ?_
    have hF1 : ∀ q ∈ F1, ¬ (q = b ∨ q ∈ F) := fun q hq h => h.elim (s.f1 q hq).2.1 fun h => (s.f q h).2.2.2 hq
    have W2 := W1.keep m2 (fun h => h.elim (fun e => s.d.1 e.symm) fun h => (s.f b1 h).2.1 rfl) hF1
    have g2 := g1.keep m2 fun h => h.elim (fun e => s.d.2.1 e.symm) fun h => (s.f b2 h).2.2.1 rfl
    refine (MT.Put_spec (k := sK a.key) (v := a.value) W2 (by rw [bo.len]; omega)).mono ?_
    rintro r H3 ⟨i', sp', rfl, F1', W3, m3, n3, _⟩
    have z3 := m3.size
    refine ⟨_, rfl, ?_⟩
    rw [atB_val bo.rt sp', bo.val a.key hk]
    have eW : putAt t (sK a.key) a.value i' = putL t (sK a.key) a.value := by unfold putL; rw [spotOf_eq sp']
    rw [eW] at W3
    have lm := M2.lt
    have lf1 := W2.lt
    have hFF : ∀ q ∈ F', ¬ (q = b1 ∨ q ∈ F1) := fun q hq h => by
      rcases n2 q hq with h' | h'
      · exact h.elim (fun e => (s.f q h').2.1 e) fun h => (s.f q h').2.2.2 h
      · rcases h with h | h
        · have := lw.1; omega
        · have := lw.2 q h; omega
    have M3 := M2.keep m3 (fun h => h.elim s.d.1 fun h => (s.f1 b h).2.1 rfl) hFF
    have g3 := g2.keep m3 fun h => h.elim (fun e => s.d.2.2 e.symm) fun h => (s.f1 b2 h).2.2 rfl
    rw [mapOf_put bo.rl, mapOf_some, ← length_put bo.rl a.key a.value] at g3
    apply tephralaw05_SortedScript.k5.step; unfold tephralaw05_SortedScript.k5.body
    have zz := s.h.size
    refine Br.no (by cases (valL l a.key).isSome <;> rfl) (k6 H3 F' F1' _ _ (by have := putL_length l a.key a.value bo.rl; omega) ⟨M3, W3, g3, s.d, s.n, fun q hq => ?_, fun q hq => ?_, ?_⟩ (bo.put hk a.value))
    · rcases n2 q hq with h | h
      · refine ⟨(s.f q h).1, (s.f q h).2.1, (s.f q h).2.2.1, fun hq1 => ?_⟩
        rcases n3 q hq1 with h' | h'
        · exact (s.f q h).2.2.2 h'
        · have := lm.2 q hq; omega
      · refine ⟨by omega, by have := lw.1; omega, by omega, fun hq1 => ?_⟩
        rcases n3 q hq1 with h' | h'
        · have := lw.2 q h'; omega
        · have := lm.2 q hq; omega
    · rcases n3 q hq with h | h
      · exact s.f1 q h
      · exact ⟨by omega, by have := lm.1; omega, by have := g2.lt; omega⟩
    · exact Mod.fresh (((s.h.mono fun _ _ e => e.elim).trans m1 |>.mono (m' := fun q => H0.size ≤ q) fun q _ h => by have h : q = b2 := h; have := s.n; omega).trans ((m2.mono fun q _ h => h.elim (fun h => by have := s.n; omega) fun h => (s.f q h).1).trans (m3.mono fun q _ h => h.elim (fun h => by have := s.n; omega) fun h => (s.f1 q h).1))) fun q h => h

theorem SortedScript_spec {acts : Sl} {xs : List Ac} {words : Bool} (hr : Rows H acts 3 (xs.map Ac.cells).flatten) (ok : ∀ a ∈ xs, a.ok) :
    SCalls Try.prog tephralaw05_SortedScript.id [.slice acts.a acts.len acts.cap, .bool words] H (TellPost H (.bool true)) := by
  apply tephralaw05_SortedScript.calls
  unfold tephralaw05_SortedScript.vc
  have hl := acts_len hr
  have hcap := hr.2.1
  have e : (if (150 : Int) < ((acts.len : Nat) : Int) then (150 : Int) else ((acts.len : Nat) : Int)).toNat = min 150 acts.len := min_toNat 150 acts.len
  refine awake05_spec.mono ?_
  rintro r H1 ⟨rfl, m1⟩
  refine ⟨_, rfl, Br.no rfl ?_⟩
  intro b hb H2 h2 b1 hb1 H3 h3 b2 hb2 H4 h4
  refine ⟨⟨by split <;> omega, by split <;> omega⟩, ?_⟩
  obtain ⟨q2, m2, s2⟩ := push_facts h2
  obtain ⟨q3, m3, s3⟩ := push_facts h3
  have m4 : Mod (fun _ => False) H3 H4 := by rw [h4]; exact Mod.push _ _ _
  have z1 := m1.size
  have M4 : MI.Mp H4 b 0 [] [] := by
    have : MI.Mp H2 b 0 [] [] := by rw [hb, h2]; exact MI.Mp.new H1 T_sorted_Map_int_int
    exact (this.mod m3).mod m4
  have W4 : MT.Mp H4 b1 0 [] [] := by
    have : MT.Mp H3 b1 0 [] [] := by rw [hb1, h3]; exact MT.Mp.new H2 T_sorted_Map_string_int
    exact this.mod m4
  have g4 : GM (fun k : Int => Value.int .i64 k) H4 b2 (mapOf []) 0 := by rw [hb2, h4]; exact GM.new H3
  have S4 : Sc H H4 b b1 b2 [] [] [] [] := ⟨M4, W4, g4, ⟨by omega, by omega, by omega⟩, ⟨by omega, by omega, by omega⟩, by simp, by simp, m1.trans (m2.trans (m3.trans m4))⟩
  have B4 : Both [] [] := ⟨Rise.nil, Rise.nil, by simp, fun k _ => rfl, rfl⟩
  have loop : ∀ (d j : Nat) (H5 : Hp) (F F1 : List Nat) (l : List (Int × Int)) (t : List (ByteArray × Int)), j + d = min 150 acts.len → Sc H H5 b b1 b2 F F1 l t → Both l t → l.length ≤ j →
      tephralaw05_SortedScript.l1 J0 acts b b1 b2 H5 (j : Int) (TellPost H (.bool true)) := by
    intro d
    induction d with
    | zero =>
      intro j H5 F F1 l t hj s bo hlen
      apply tephralaw05_SortedScript.l1.step; unfold tephralaw05_SortedScript.l1.body
      rw [e]
      exact Br.no (by simp; omega) ⟨rfl, s.h⟩
    | succ d ih =>
      intro j H5 F F1 l t hj s bo hlen
      apply tephralaw05_SortedScript.l1.step; unfold tephralaw05_SortedScript.l1.body
      rw [e]
      have hjl : j < xs.length := by omega
      obtain ⟨a, ha, hrow⟩ := acts_get (hr.keep s.h fun _ _ e => e) hjl
      obtain ⟨o1, o2, o3⟩ := ok _ (List.getElem_mem hjl)
      refine Br.yes (by simp; omega) ⟨⟨by omega, by omega⟩, vPtr.mk a (by rw [cutA_zero]; exact ha) ⟨xs[j].op, xs[j].key, xs[j].value, by simpa [Ac.cells] using hrow, ?_⟩⟩
      intro H6 h6 b3 hb3 H7 h7
      obtain ⟨m6, s6⟩ := hole_facts h6
      obtain ⟨q7, m7, s7⟩ := push_facts h7
      have s7' := (s.mod m6).mod m7
      have wk : w64 xs[j].key = xs[j].key := w64_id (by omega) (by omega)
      have hrow7 : Rows H7 ⟨some (Addr.mk b3 0 none), 2, 2⟩ 1 ([UInt8.ofNat (xs[j].key % 256).toNat, 107].map bv) := by
        refine ⟨by simp, Nat.le_refl _, fun a ha => ?_, fun e => by cases e⟩
        cases ha
        intro i v hv
        rw [hb3, Addr.add_loc, cell_of q7, Nat.zero_add]
        match i, hv with
        | 0, hv => rw [wrapu8, ← sK_byte]; exact hv
        | 1, hv => exact hv
      refine b2s_imp (b2s_rows hrow7 rfl) ?_
      rintro _ rfl
      rw [wk]
      refine ⟨(valL l xs[j].key).getD 0, (valL l xs[j].key).isSome, ?_, ?_⟩
      · have := s7'.g.look keInt keyD_ii int_zero xs[j].key
        rwa [mapOf_val, mapOf_some] at this
      refine MI.get_step s7'.m fun H8 m8 => ?_
      have s8 := s7'.mod m8
      refine MT.get_step s8.w fun H9 m9 => ?_
      have s9 := s8.mod m9
      rw [MI_get, show (ByteArray.mk [UInt8.ofNat (xs[j].key % 256).toNat, 107].toArray) = sK xs[j].key from rfl, MT_get, bo.val _ o2]
      refine Br.no (by simp) ?_
      apply tephralaw05_SortedScript.k1.step; unfold tephralaw05_SortedScript.k1.body
      refine Br.no (by simp) ?_
      apply tephralaw05_SortedScript.k2.step; unfold tephralaw05_SortedScript.k2.body
      refine Br.no (by simp) ?_
      rw [beq_self_eq_true]
      refine s9.step (a := xs[j]) bo o2 o3 (by omega) fun H' F' F1' l' t' hl' s' bo' => ?_
      rw [w64_id (x := (j : Int) + 1) (by omega) (by omega)]
      have := ih (j + 1) H' F' F1' l' t' (by omega) s' bo' (by omega)
      simpa using this
  exact loop (min 150 acts.len) 0 H4 [] [] [] [] (by omega) S4 B4 (by simp)
end
end Go.Proofs
