/- STATES: StateSwap. -/
import Derived.Test.YtgndfbbgomlbeaaKu21
set_option linter.all false
set_option linter.constructorNameAsVariable false
namespace Go.Proofs
open Go Go.KC

theorem cmd_seq39 (s : Sy) : s.cmd.seq ≤ 39 := by
  unfold Sy.cmd
  split
  · show (0 : Int) ≤ 39; omega
  · dsimp only; omega
theorem entsGo_cmd {P : Cm → Prop} (hP : ∀ s : Sy, P s.cmd) (n : Int) : ∀ (l : List Sy) (j : Nat) (t : Int), ∀ e ∈ entsGo n l j t, P e.cmd
  | [], _, _, e, h => by simp [entsGo] at h
  | s :: l, j, t, e, h => by
    rcases List.mem_cons.1 h with rfl | h
    · exact hP s
    · exact entsGo_cmd hP n l _ _ e h
theorem someM_seq39 (ss : List Sy) : ∀ p ∈ (someM ss).ss, p.2.seq ≤ 39 :=
  foldM_seq _ _ Stt.zero_ok (fun e he => entsGo_cmd (P := fun c => c.seq ≤ 39) cmd_seq39 _ _ _ _ e he) (by simp [Stt.zero])

/-- The eight keys. -/
def k8 (i : Nat) : ByteArray := ByteArray.mk #[107] ++ letters.extract i (i + 1)
theorem keyOf_k8 (c : UInt8) : keyOf c = k8 (c.toNat % 8) := rfl
theorem k8_next : ∀ i, i < 7 → KO.lt (k8 i) (k8 (i + 1)) := by
  intro i hi
  match i, hi with
  | 0, _ => show Op.bytesLess _ _ = true; kernel_rfl
  | 1, _ => show Op.bytesLess _ _ = true; kernel_rfl
  | 2, _ => show Op.bytesLess _ _ = true; kernel_rfl
  | 3, _ => show Op.bytesLess _ _ = true; kernel_rfl
  | 4, _ => show Op.bytesLess _ _ = true; kernel_rfl
  | 5, _ => show Op.bytesLess _ _ = true; kernel_rfl
  | 6, _ => show Op.bytesLess _ _ = true; kernel_rfl
theorem k8_lt : ∀ (d i : Nat), i + d + 1 < 8 → KO.lt (k8 i) (k8 (i + d + 1))
  | 0, i, h => k8_next i (by omega)
  | d + 1, i, h => KO.trans _ _ _ (k8_lt d i (by omega)) (k8_next (i + d + 1) (by omega))
theorem k8_of {i j : Nat} (hi : i < 8) (h : KO.lt (k8 i) (k8 j)) (hj : j < 8) : i < j := by
  rcases Nat.lt_trichotomy i j with c | c | c
  · exact c
  · rw [c] at h; exact (KO.irr _ h).elim
  · have := k8_lt (i - j - 1) j (by omega)
    rw [show j + (i - j - 1) + 1 = i by omega] at this
    exact (KO.asymm h this).elim
def K8 (kv : List (ByteArray × ByteArray)) : Prop := ∀ p ∈ kv, ∃ i, i < 8 ∧ p.1 = k8 i
theorem K8.len {kv : List (ByteArray × ByteArray)} (hr : Rise kv) (h : K8 kv) : kv.length ≤ 8 := by
  have key : ∀ n (hn : n < kv.length), ∃ i, n ≤ i ∧ i < 8 ∧ kv[n].1 = k8 i := by
    intro n
    induction n with
    | zero => intro hn; obtain ⟨i, h1, h2⟩ := h _ (List.getElem_mem hn); exact ⟨i, by omega, h1, h2⟩
    | succ n ih =>
      intro hn
      obtain ⟨i, h1, h2, h3⟩ := ih (by omega)
      obtain ⟨j, h4, h5⟩ := h _ (List.getElem_mem hn)
      have := hr n (n + 1) (by omega) hn (by omega)
      rw [h3, h5] at this
      have := k8_of h2 this h4
      exact ⟨j, by omega, h4, h5⟩
  rcases Nat.lt_or_ge 8 kv.length with c | c
  · obtain ⟨i, h1, h2, _⟩ := key 8 c; omega
  · exact c
theorem doM_k8 {kv : List (ByteArray × ByteArray)} {c : Cm} (hr : Rise kv) (h : K8 kv) (hc : ∃ i, i < 8 ∧ c.key = k8 i) : K8 (doM kv c).1 := by
  have put : K8 (putL kv c.key c.value) := fun p hp => by
    have := (putL_mem hr c.key c.value p.1 p.2).1 hp
    split at this
    · rename_i e; rw [e]; exact hc
    · exact h p this
  unfold doM
  split
  · split
    · split
      · exact h
      · exact put
    · exact h
  · split
    · exact h
    · split
      · exact fun p hp => h p ((delL_mem hr c.key p.1 p.2).1 hp).2
      · exact put
theorem applyM_k8 {s : Stt} {e : En} (ok : s.Ok) (h : K8 s.kv) (hc : e.cmd.op = 0 ∨ ∃ i, i < 8 ∧ e.cmd.key = k8 i) : K8 (applyM s e).1.kv := by
  unfold applyM
  split
  · exact h
  · split
    · exact h
    · split
      · exact h
      · rename_i h0
        have hc := hc.resolve_left h0
        unfold cmdM
        dsimp only
        split
        · split
          · split <;> exact h
          · exact doM_k8 ok.rk h hc
        · exact doM_k8 ok.rk h hc
theorem foldM_k8 : ∀ (es : List En) (s : Stt), s.Ok → K8 s.kv → (∀ e ∈ es, e.cmd.op = 0 ∨ ∃ i, i < 8 ∧ e.cmd.key = k8 i) → K8 (foldM s es).kv
  | [], _, _, h, _ => h
  | e :: es, s, ok, h, hc => foldM_k8 es (applyM s e).1 (applyM_ok ok) (applyM_k8 ok h (hc e (by simp))) fun x hx => hc x (List.mem_cons_of_mem _ hx)
theorem cmd_k8 (s : Sy) : s.cmd.op = 0 ∨ ∃ i, i < 8 ∧ s.cmd.key = k8 i := by
  unfold Sy.cmd
  split
  · exact Or.inl rfl
  · exact Or.inr ⟨s.key.toNat % 8, Nat.mod_lt _ (by omega), rfl⟩
theorem someM_k8 (ss : List Sy) : K8 (someM ss).kv :=
  foldM_k8 _ _ Stt.zero_ok (fun p hp => by simp [Stt.zero] at hp) fun e he => entsGo_cmd (P := fun c => c.op = 0 ∨ ∃ i, i < 8 ∧ c.key = k8 i) cmd_k8 _ _ _ _ e he

theorem doM_put {kv : List (ByteArray × ByteArray)} {c : Cm} (h1 : c.op = 1) (hl : kv.length < 64) : (doM kv c).1 = putL kv c.key c.value := by
  unfold doM
  split
  · rw [if_pos h1, if_neg (by omega)]
  · rw [if_neg (by omega), if_neg (by omega)]
/-- Texts of a digit. -/
def xd (i : Nat) : ByteArray := ByteArray.mk #[120] ++ digits.extract i (i + 1)
theorem xd_size (i : Nat) : (xd i).size ≤ 11 := by
  unfold xd
  have e1 : (ByteArray.mk #[120]).size = 1 := rfl
  have e2 : digits.size = 10 := rfl
  rw [ByteArray.size_append, ByteArray.size_extract, e1, e2]; omega
theorem xd_ne : ∀ i, i < 10 → ∀ j, j < 10 → xd i = xd j → i = j := by decide +kernel
theorem k8_size (i : Nat) (h : i < 8) : (k8 i).size = 2 := by
  unfold k8
  have e1 : (ByteArray.mk #[107]).size = 1 := rfl
  have e2 : letters.size = 8 := rfl
  rw [ByteArray.size_append, ByteArray.size_extract, e1, e2]; omega
def newB : ByteArray := ByteArray.mk #[110, 101, 119]
/-- The two commands of StateSwap. -/
def sw1 (k v : Nat) : Cm := ⟨1, 1, 500, k8 k, xd v, noText⟩
def sw2 (k w : Nat) : Cm := ⟨3, 1, 501, k8 k, newB, xd w⟩
theorem sw1_may {k v : Nat} (hk : k < 8) (hv : v < 10) : (sw1 k v).May := by
  have h1 := k8_size k hk
  have h2 := xd_size v
  exact ⟨by show (0 : Int) ≤ 1; omega, by show (1 : Int) ≤ 3; omega, by show (xd v).size ≤ 16; omega, by show (0 : Nat) ≤ 16; omega, Or.inr ⟨by show ¬ (1 : Int) = 0; omega, by show (0 : Int) ≤ 1; omega, by show (1 : Int) ≤ 3; omega, by show (0 : Int) ≤ 500; omega, by show (500 : Int) ≤ 1048576; omega, by show 0 < (k8 k).size; omega, by show (k8 k).size ≤ 8; omega⟩⟩
theorem sw2_may {k v : Nat} (hk : k < 8) (hv : v < 10) : (sw2 k v).May := by
  have h1 := k8_size k hk
  have h2 := xd_size v
  exact ⟨by show (0 : Int) ≤ 3; omega, by show (3 : Int) ≤ 3; omega, by show (3 : Nat) ≤ 16; omega, by show (xd v).size ≤ 16; omega, Or.inr ⟨by show ¬ (3 : Int) = 0; omega, by show (0 : Int) ≤ 1; omega, by show (1 : Int) ≤ 3; omega, by show (0 : Int) ≤ 501; omega, by show (501 : Int) ≤ 1048576; omega, by show 0 < (k8 k).size; omega, by show (k8 k).size ≤ 8; omega⟩⟩
/-- What they do. -/
theorem swap_law {st : Stt} {k v w : Nat} (ok : st.Ok) (hi : st.index ≤ 80) (hs : ∀ p ∈ st.ss, p.2.seq ≤ 39) (h8 : K8 st.kv) (hk : k < 8) (hv : v < 10) (hw : w < 10) {st1 st2 : Stt} {o1 o2 : Rp}
    (e1 : applyM st ⟨w64 (st.index + 1), st.term, sw1 k v⟩ = (st1, o1)) (e2 : applyM st1 ⟨w64 (st1.index + 1), st1.term, sw2 k w⟩ = (st2, o2)) :
    st1.Ok ∧ st2.Ok ∧ (if v = w then o2 = ⟨0, xd v⟩ ∧ valL st2.kv (k8 k) = some newB else o2 = ⟨11, xd v⟩ ∧ valL st2.kv (k8 k) = some (xd v)) := by
  have ok1 : st1.Ok := by have := applyM_ok (e := ⟨w64 (st.index + 1), st.term, sw1 k v⟩) ok; rw [e1] at this; exact this
  have ok2 : st2.Ok := by have := applyM_ok (e := ⟨w64 (st1.index + 1), st1.term, sw2 k w⟩) ok1; rw [e2] at this; exact this
  refine ⟨ok1, ok2, ?_⟩
  have hi0 := ok.i0
  have ht0 := ok.t0
  have m1 := sw1_may hk hv
  have m2 := sw2_may hk hw
  rw [w64_id (by omega) (by omega)] at e1
  have a1 : applyM st ⟨st.index + 1, st.term, sw1 k v⟩ = cmdM ⟨st.index + 1, st.term, st.kv, st.ss⟩ (sw1 k v) := by
    unfold applyM
    rw [if_neg (by simp only [Decidable.not_not]; exact ⟨by dsimp only; omega, by dsimp only; omega, ht0.1, ht0.2, m1⟩), if_neg (by dsimp only; omega), if_neg (by show ¬ (1 : Int) = 0; omega)]
  have a2 : cmdM ⟨st.index + 1, st.term, st.kv, st.ss⟩ (sw1 k v) = (⟨st.index + 1, st.term, putL st.kv (k8 k) (xd v), putL st.ss 1 ⟨1, 500, (doM st.kv (sw1 k v)).2.err, (doM st.kv (sw1 k v)).2.value⟩⟩, (doM st.kv (sw1 k v)).2) := by
    have hd := doM_put (c := sw1 k v) rfl (show st.kv.length < 64 by have := K8.len ok.rk h8; omega)
    have hd : (doM st.kv (sw1 k v)).1 = putL st.kv (k8 k) (xd v) := hd
    unfold cmdM
    dsimp only
    split
    · rename_i x hx
      have := hs _ ((valL_mem ok.rs).1 hx)
      rw [if_neg (by show ¬ (500 : Int) ≤ x.seq; dsimp only at this; omega), hd]
      rfl
    · rw [hd]; rfl
  rw [a1, a2] at e1
  have e1' := (Prod.mk.inj e1).1
  have hv1 : valL st1.kv (k8 k) = some (xd v) := (valL_mem ok1.rk).2 (by rw [← e1']; exact (putL_mem ok.rk _ _ _ _).2 (by rw [if_pos rfl]))
  obtain ⟨y, hy⟩ : ∃ y : Se, valL st1.ss 1 = some y ∧ y.seq = 500 := ⟨_, (valL_mem ok1.rs).2 (by rw [← e1']; exact (putL_mem ok.rs _ _ _ _).2 (by rw [if_pos rfl])), rfl⟩
  have i1 : st1.index = st.index + 1 := by rw [← e1']
  have t1 : st1.term = st.term := by rw [← e1']
  rw [w64_id (by omega) (by omega)] at e2
  have a3 : applyM st1 ⟨st1.index + 1, st1.term, sw2 k w⟩ = cmdM ⟨st1.index + 1, st1.term, st1.kv, st1.ss⟩ (sw2 k w) := by
    unfold applyM
    rw [if_neg (by simp only [Decidable.not_not]; exact ⟨by dsimp only; omega, by dsimp only; omega, by dsimp only; omega, by dsimp only; omega, m2⟩), if_neg (by dsimp only; omega), if_neg (by show ¬ (3 : Int) = 0; omega)]
  have a4 : cmdM ⟨st1.index + 1, st1.term, st1.kv, st1.ss⟩ (sw2 k w) = (⟨st1.index + 1, st1.term, (doM st1.kv (sw2 k w)).1, putL st1.ss 1 ⟨1, 501, (doM st1.kv (sw2 k w)).2.err, (doM st1.kv (sw2 k w)).2.value⟩⟩, (doM st1.kv (sw2 k w)).2) := by
    unfold cmdM
    dsimp only
    rw [show (sw2 k w).client = 1 from rfl, hy.1]
    dsimp only
    rw [if_neg (by show ¬ (501 : Int) ≤ y.seq; omega)]
    rfl
  rw [a3, a4] at e2
  have e2' := (Prod.mk.inj e2).1
  have e2'' := (Prod.mk.inj e2).2
  have hd2 : doM st1.kv (sw2 k w) = if xd v ≠ xd w then (st1.kv, ⟨11, xd v⟩) else (putL st1.kv (k8 k) newB, ⟨0, xd v⟩) := by
    unfold doM
    rw [show (sw2 k w).key = k8 k from rfl, hv1]
    dsimp only
    by_cases hx : xd v = xd w
    · rw [if_neg (by rw [show (sw2 k w).old = xd w from rfl]; simp [hx]), if_neg (by show ¬ (3 : Int) = 2; omega), if_neg (by simpa using hx)]
      rfl
    · rw [if_pos ⟨rfl, hx⟩, if_pos hx]
  by_cases hvw : v = w
  · subst hvw
    rw [if_neg (by simp)] at hd2
    rw [if_pos rfl]
    rw [hd2] at e2' e2''
    refine ⟨e2''.symm, (valL_mem ok2.rk).2 ?_⟩
    rw [← e2']
    exact (putL_mem ok1.rk _ _ _ _).2 (by rw [if_pos rfl])
  · rw [if_neg hvw]
    rw [if_pos (fun h => hvw (xd_ne v hv w hw h))] at hd2
    rw [hd2] at e2' e2''
    refine ⟨e2''.symm, ?_⟩
    rw [← e2']; exact hv1
end Go.Proofs
