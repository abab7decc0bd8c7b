/- STATES: pairs, sessions, do. -/
import Derived.Test.YtpdondaekinmdaaKu2
import Derived.Test.YtpdondaekinmdaaKu3
import Derived.Test.YtpdondaekinmdaaKub3
set_option linter.all false
set_option linter.constructorNameAsVariable false
namespace Go.Proofs
open Go Go.KC
section
variable {H : Hp}
theorem pairs_spec {p s : Sl} {kv : List (ByteArray × ByteArray)} {i t : Int} (hr : Rows H p 3 (kv.map kvC).flatten) (hk : Rise kv) (hl : kv.length ≤ 1000) :
    SCalls Try.prog state_pairs.id [.agg #[.int .i64 i, .int .i64 t, .slice p.a p.len p.cap, .slice s.a s.len s.cap]] H fun r H' =>
      ∃ g F, r = .pointer (some ⟨g, 0, none⟩) ∧ H.size ≤ g ∧ MP.Mp H' g 0 F kv ∧ (∀ b ∈ F, g < b) ∧ Mod (fun _ => False) H H' := by
  apply state_pairs.calls (sIndex := i) (sTerm := t) (sPairs := p) (sSessions := s)
  intro H1 e1 b hb H2 e2
  obtain ⟨m1, s1⟩ := hole_facts e1
  obtain ⟨q2, m2, s2⟩ := push_facts e2
  have M0 : MP.Mp H2 b 0 [] [] := by rw [hb, e2]; exact MP.Mp.new H1 T_sorted_Map_string_string
  have hxl := rows_len' (by omega) kvC_len hr
  have loop : ∀ (d j : Nat) (H3 : Hp) (F : List Nat), j + d = kv.length → MP.Mp H3 b 0 F (kv.take j) → (∀ q ∈ F, b < q) → Mod (fun _ => False) H H3 →
      state_pairs.l1 J0 i t p s b H3 (j : Int) fun r H' => ∃ g F, r = .pointer (some ⟨g, 0, none⟩) ∧ H.size ≤ g ∧ MP.Mp H' g 0 F kv ∧ (∀ b ∈ F, g < b) ∧ Mod (fun _ => False) H H' := by
    intro d
    induction d with
    | zero =>
      intro j H3 F hj M hF m
      apply state_pairs.l1.step; unfold state_pairs.l1.body
      rw [List.take_of_length_le (by omega)] at M
      exact Br.no (by simp; omega) ⟨b, F, rfl, by omega, M, hF, m⟩
    | succ d ih =>
      intro j H3 F hj M hF m
      apply state_pairs.l1.step; unfold state_pairs.l1.body
      have hjl : j < kv.length := by omega
      obtain ⟨a, ha, hrow⟩ := row_get' (by omega) kvC_len (hr.keep m fun _ _ e => e) hjl
      refine Br.yes (by simp; omega) ⟨⟨by omega, by omega⟩, vPtr.mk a ha ⟨kv[j].1, kv[j].2, false, by simpa [kvC] using hrow, fun H4 e4 => ?_⟩⟩
      obtain ⟨m4, s4⟩ := hole_facts e4
      have M4 := M.mod m4
      have hbs : b < H4.size := M4.lt.1
      refine MP.put_step (Bl := fun q => q < b) M4 (fun q hq => ⟨by omega, by omega, fun h => by have := hF q h; omega⟩) (by rw [List.length_take]; omega) fun n H5 F' sp M5 m5 _ hF' => ?_
      rw [w64_id (x := (j : Int) + 1) (by omega) (by omega)]
      have e : putAt (kv.take j) kv[j].1 kv[j].2 n = kv.take (j + 1) := by
        rw [spotOf_eq sp, List.take_succ_eq_append_getElem hjl]
        refine putL_last (p := kv[j]) ?_
        have := hk.take (j + 1)
        rwa [List.take_succ_eq_append_getElem hjl] at this
      rw [e] at M5
      have := ih (j + 1) H5 F' (by omega) M5 (fun q hq => (hF' q hq).elim (hF q) fun h => by omega) ((m.trans m4).trans' m5 fun q hq h => by omega)
      simpa using this
  exact loop kv.length 0 H2 [] (by omega) (by simpa using M0) (by simp) (m1.trans m2)

theorem sessions_spec {p s : Sl} {ss : List (Int × Se)} {i t : Int} (hr : Rows H s 4 (ss.map ssC).flatten) (hk : Rise ss) (hc : ∀ p ∈ ss, p.2.client = p.1) (hl : ss.length ≤ 1000) :
    SCalls Try.prog state_sessions.id [.agg #[.int .i64 i, .int .i64 t, .slice p.a p.len p.cap, .slice s.a s.len s.cap]] H fun r H' =>
      ∃ g F, r = .pointer (some ⟨g, 0, none⟩) ∧ H.size ≤ g ∧ MX.Mp H' g 0 F ss ∧ (∀ b ∈ F, g < b) ∧ Mod (fun _ => False) H H' := by
  apply state_sessions.calls (sIndex := i) (sTerm := t) (sPairs := p) (sSessions := s)
  intro H1 e1 b hb H2 e2
  obtain ⟨m1, s1⟩ := hole_facts e1
  obtain ⟨q2, m2, s2⟩ := push_facts e2
  have M0 : MX.Mp H2 b 0 [] [] := by rw [hb, e2]; exact MX.Mp.new H1 T_sorted_Map_int_api_Session
  have hxl := rows_len' (by omega) ssC_len hr
  have loop : ∀ (d j : Nat) (H3 : Hp) (F : List Nat), j + d = ss.length → MX.Mp H3 b 0 F (ss.take j) → (∀ q ∈ F, b < q) → Mod (fun _ => False) H H3 →
      state_sessions.l1 J0 i t p s b H3 (j : Int) fun r H' => ∃ g F, r = .pointer (some ⟨g, 0, none⟩) ∧ H.size ≤ g ∧ MX.Mp H' g 0 F ss ∧ (∀ b ∈ F, g < b) ∧ Mod (fun _ => False) H H' := by
    intro d
    induction d with
    | zero =>
      intro j H3 F hj M hF m
      apply state_sessions.l1.step; unfold state_sessions.l1.body
      rw [List.take_of_length_le (by omega)] at M
      exact Br.no (by simp; omega) ⟨b, F, rfl, by omega, M, hF, m⟩
    | succ d ih =>
      intro j H3 F hj M hF m
      apply state_sessions.l1.step; unfold state_sessions.l1.body
      have hjl : j < ss.length := by omega
      obtain ⟨a, ha, hrow⟩ := row_get' (by omega) ssC_len (hr.keep m fun _ _ e => e) hjl
      refine Br.yes (by simp; omega) ⟨⟨by omega, by omega⟩, vPtr.mk a ha ⟨ss[j].2.client, ss[j].2.seq, ss[j].2.err, ss[j].2.value, by simpa [ssC] using hrow, fun H4 e4 => ?_⟩⟩
      obtain ⟨m4, s4⟩ := hole_facts e4
      have M4 := M.mod m4
      have hbs : b < H4.size := M4.lt.1
      refine MX.put_step (v := ss[j].2) (Bl := fun q => q < b) M4 (fun q hq => ⟨by omega, by omega, fun h => by have := hF q h; omega⟩) (by rw [List.length_take]; omega) fun n H5 F' sp M5 m5 _ hF' => ?_
      rw [w64_id (x := (j : Int) + 1) (by omega) (by omega)]
      have e : putAt (ss.take j) ss[j].2.client ss[j].2 n = ss.take (j + 1) := by
        rw [spotOf_eq sp, List.take_succ_eq_append_getElem hjl, hc ss[j] (List.getElem_mem hjl)]
        refine putL_last (p := ss[j]) ?_
        have := hk.take (j + 1)
        rwa [List.take_succ_eq_append_getElem hjl] at this
      rw [e] at M5
      have := ih (j + 1) H5 F' (by omega) M5 (fun q hq => (hF' q hq).elim (hF q) fun h => by omega) ((m.trans m4).trans' m5 fun q hq h => by omega)
      simpa using this
  exact loop ss.length 0 H2 [] (by omega) (by simpa using M0) (by simp) (m1.trans m2)

theorem rows_spec {g o : Nat} {F : List Nat} {kv : List (ByteArray × ByteArray)} (M : MP.Mp H g o F kv) (hl : kv.length ≤ 1000) :
    SCalls Try.prog state_rows.id [.pointer (some ⟨g, o, none⟩)] H fun r H' => ∃ x : Sl, r = .slice x.a x.len x.cap ∧ Own H' x T_api_Pair 3 (kv.map kvC).flatten ∧ (∀ q ∈ x.blk, H.size ≤ q) ∧ Mod (fun _ => False) H H' := by
  apply state_rows.calls
  intro b hb H1 e1
  obtain ⟨q1, m1, s1⟩ := push_facts e1
  rw [← hb] at q1
  refine MP.all_st (M.mod m1) fun fv H2 gs m2 => ?_
  intro fn tm hT
  have hbs : ∀ q ∈ (H1.size :: g :: F), q < H2.size := by obtain ⟨_, _, _, h, _⟩ := gs; exact h
  have hgl := M.lt
  have z2 := m2.size
  have q2 := m2.get q1 fun e => e
  refine gs.range (rec := state_rows.r1.rec fn tm H2.size) (fun n i H' => ∃ xs : Sl, H'[b]? = some (.cells #[.slice xs.a xs.len xs.cap] T_sl_api_Pair (0, 0)) ∧ Own H' xs T_api_Pair 3 ((kv.take i).map kvC).flatten ∧ (∀ q ∈ xs.blk, n ≤ q) ∧ Mod (fun q => q = b ∨ H2.size ≤ q) H2 H') (fun _ _ _ => False) ?_ ?_ ?_ (fun _ _ _ _ h _ => h) ?_ ?_ (fun _ _ _ _ h => h.elim)
  · intro n H' hn hn' m
    exact ⟨⟨none, 0, 0⟩, m.get q2 fun e => e, by simpa using Own.nil H' T_api_Pair 3, by simp [Sl.blk], m.mono fun _ _ e => e.elim⟩
  · rintro n i H' ⟨xs, w1, w2, w3, w4⟩
    refine Mod.same w4 fun q hq => ⟨hbs q hq, fun h => ?_⟩
    rcases h with h | h
    · simp only [List.mem_cons] at hq
      rcases hq with hq | hq | hq
      · omega
      · omega
      · have := hgl.2 q hq; omega
    · have := hbs q hq; omega
  · rintro n i H' H'' ⟨xs, w1, w2, w3, w4⟩ m
    exact ⟨xs, m.get w1 (by omega), w2.keep m (fun q hq h => by have := w3 q hq; omega), w3, w4.trans (m.mono fun q _ h => Or.inr h.1)⟩
  · rintro n i hi H3 hn hn' ⟨xs, w1, w2, w3, w4⟩ hrec
    refine state_rows.r1.calls hrec hT ⟨hrec, fun H4 e4 => ?_⟩
    obtain ⟨l4, m4⟩ := rec_facts hrec e4
    have b4 := m4.get w1 (by omega)
    have o4 := w2.keep m4 fun q hq h => by have := w3 q hq; have h : q = H2.size + 1 := h; omega
    have z4 := m4.size
    have hlen := rows_len' (by omega) kvC_len (Own.rows w2)
    rw [List.length_take] at hlen
    refine ⟨xs, cell_at b4, addEl (p := kvC kv[i]) elPair o4 rfl rfl (by omega) fun ys H6 o6 b6 m6 => ?_⟩
    have c6 := m6.get b4 fun h => by have := w3 _ h; omega
    refine ⟨wr_at c6, fun H7 e7 => ?_⟩
    obtain ⟨c7, m7⟩ := set_facts c6 e7
    have l7 := m7.get (m6.get l4 fun h => by have := w3 _ h; omega) (show ¬ H2.size + 1 = b by omega)
    have b6' : ∀ q ∈ ys.blk, n ≤ q := fun q hq => (b6 q hq).elim (w3 q) fun h => by omega
    obtain ⟨l8, m8⟩ := rec_facts (o' := state_rows.r1.rec fn tm H2.size .ready none) l7 rfl
    refine ⟨⟨_, _, l7⟩, (m4.mono fun q _ h => by have h : q = H2.size + 1 := h; omega).trans ((m6.mono fun q _ h => by have := w3 q h; omega).trans ((m7.mono fun q _ h => by have h : q = b := h; omega).trans (m8.mono fun q _ h => by have h : q = H2.size + 1 := h; omega))), Or.inl ⟨rfl, ⟨ys, m8.get c7 (by omega), ?_, b6', ?_⟩, l8⟩⟩
    · have e : ((kv.take (i + 1)).map kvC).flatten = ((kv.take i).map kvC).flatten ++ kvC kv[i] := by
        rw [List.take_succ_eq_append_getElem hi]; simp only [List.map_append, List.flatten_append, List.map_cons, List.map_nil, List.flatten_cons, List.flatten_nil, List.append_nil]
      rw [e]
      exact (o6.keep m7 fun q hq h => by have := b6' q hq; have h : q = b := h; omega).keep m8 fun q hq h => by have := b6' q hq; have h : q = H2.size + 1 := h; omega
    · exact w4.trans ((m4.mono fun q _ h => Or.inr (by have h : q = H2.size + 1 := h; omega)).trans ((m6.mono fun q _ h => Or.inr (by have := w3 q h; omega)).trans ((m7.mono fun q _ h => Or.inl h).trans (m8.mono fun q _ h => Or.inr (by have h : q = H2.size + 1 := h; omega)))))
  · rintro n H9 hn hn' ⟨xs, w1, w2, w3, w4⟩
    rw [List.take_length] at w2
    exact jump_none ⟨xs, cell_at w1, xs, rfl, w2, fun q hq => by have := w3 q hq; omega, (m1.trans m2).trans' w4 fun q hq h => by omega⟩

theorem MP_get {l : List (ByteArray × ByteArray)} {k : ByteArray} : MP.get l k = match valL l k with | some v => (v, true) | none => (noText, false) := by
  unfold MP.get valL
  cases l.find? (fun p => decide (p.1 = k)) <;> rfl
theorem MX_get {l : List (Int × Se)} {k : Int} : MX.get l k = match valL l k with | some v => (v, true) | none => (⟨0, 0, 0, ByteArray.mk #[]⟩, false) := by
  unfold MX.get valL
  cases l.find? (fun p => decide (p.1 = k)) <;> rfl

theorem do_spec {g o : Nat} {F : List Nat} {kv : List (ByteArray × ByteArray)} {c : Cm} (M : MP.Mp H g o F kv) (hl : kv.length ≤ 1000) (hrise : Rise kv) :
    SCalls Try.prog state_do.id [.pointer (some ⟨g, o, none⟩), c.val] H fun r H' => r = rpV (doM kv c).2 ∧ (∃ F', MP.Mp H' g o F' (doM kv c).1 ∧ ∀ b ∈ F', b ∈ F ∨ H.size ≤ b) ∧ Mod (fun b => b = g ∨ b ∈ F) H H' := by
  apply state_do.calls (cOp := c.op) (cClient := c.client) (cSeq := c.seq) (cKey := c.key) (cValue := c.value) (cOld := c.old)
  intro H1 e1 H2 e2
  obtain ⟨m1, s1⟩ := hole_facts e1
  obtain ⟨m2, s2⟩ := hole_facts e2
  refine MP.get_step ((M.mod m1).mod m2) fun H3 m3 => ?_
  have m03 := m1.trans (m2.trans m3)
  have M3 := M.mod m03
  have z3 := m03.size
  rw [MP_get]
  obtain ⟨Q, hQ⟩ : ∃ Q : Value → Hp → Prop, Q = fun r H' => r = rpV (doM kv c).2 ∧ (∃ F', MP.Mp H' g o F' (doM kv c).1 ∧ ∀ b ∈ F', b ∈ F ∨ H.size ≤ b) ∧ Mod (fun b => b = g ∨ b ∈ F) H H' := ⟨_, rfl⟩
  rw [← hQ]
  have same : ∀ (r : Rp) (H' : Hp), Mod (fun _ => False) H3 H' → doM kv c = (kv, r) → Q (rpV r) H' := fun r H' m e => by
    rw [hQ, e]
    exact ⟨rfl, ⟨F, M3.mod m, fun b hb => Or.inl hb⟩, (m03.trans m).mono fun _ _ e => e.elim⟩
  have put : ∀ (r : Rp) (H4 : Hp), Mod (fun _ => False) H3 H4 → doM kv c = (putL kv c.key c.value, r) → SCalls Try.prog sorted_Map_string_string_Put.id [.pointer (some ⟨g, o, none⟩), .string c.key, .string c.value] H4 fun r3 H7 => ∃ x8 : Bool, r3 = .bool x8 ∧ Q (rpV r) H7 := fun r H4 m e => by
    refine (MP.Put_spec (M3.mod m) (by omega)).mono ?_
    rintro r3 H7 ⟨i, sp, rfl, F', h2, h3, h4, _⟩
    have z4 := m.size
    refine ⟨_, rfl, ?_⟩
    rw [hQ, e]
    refine ⟨rfl, ⟨F', by show MP.Mp H7 g o F' (putL kv c.key c.value); unfold putL; rw [← spotOf_eq sp]; exact h2, fun b hb => (h4 b hb).imp id fun h => by omega⟩, ((m03.trans m).mono fun _ _ e => e.elim).trans' h3 fun b _ h => h⟩
  have del : ∀ (r : Rp) (H4 : Hp), Mod (fun _ => False) H3 H4 → doM kv c = (delL kv c.key, r) → SCalls Try.prog sorted_Map_string_string_Del.id [.pointer (some ⟨g, o, none⟩), .string c.key] H4 fun r3 H7 => ∃ x8 : Bool, r3 = .bool x8 ∧ Q (rpV r) H7 := fun r H4 m e => by
    refine (MP.Del_spec (M3.mod m)).mono ?_
    rintro r3 H7 ⟨i, sp, rfl, F', h2, h3, h4, _⟩
    have z4 := m.size
    refine ⟨_, rfl, ?_⟩
    rw [hQ, e]
    refine ⟨rfl, ⟨F', by show MP.Mp H7 g o F' (delL kv c.key); unfold delL; rw [← spotOf_eq sp]; exact h2, fun b hb => (h4 b hb).imp id fun h => by omega⟩, ((m03.trans m).mono fun _ _ e => e.elim).trans' h3 fun b _ h => h⟩
  -- the last places
  have k4 : ∀ (x : ByteArray) (b6 : Bool) (H5 : Hp), Mod (fun _ => False) H3 H5 → (b6 = true → doM kv c = (kv, ⟨11, x⟩)) → (b6 = false → c.op = 2 → doM kv c = (delL kv c.key, ⟨0, x⟩)) → (b6 = false → c.op ≠ 2 → doM kv c = (putL kv c.key c.value, ⟨0, x⟩)) →
      state_do.k4 J0 ⟨g, o, none⟩ c.op c.client c.seq c.key c.value c.old x H5 b6 Q := by
    intro x b6 H5 m h1 h2 h3
    apply state_do.k4.step; unfold state_do.k4.body
    cases b6 with
    | true => exact Br.yes rfl (same ⟨11, x⟩ H5 m (h1 rfl))
    | false =>
      refine Br.no rfl ?_
      by_cases h : c.op = 2
      · exact Br.yes (by simp [h]) (del ⟨0, x⟩ H5 m (h2 rfl h))
      · exact Br.no (by simp [h]) (put ⟨0, x⟩ H5 m (h3 rfl h))
  cases hv : valL kv c.key with
  | none =>
    have noSwap : ∀ (H5 : Hp), Mod (fun _ => False) H3 H5 → c.op = 1 → doM kv c = (putL kv c.key c.value, ⟨0, noText⟩) → state_do.k3 J0 ⟨g, o, none⟩ c.op c.client c.seq c.key c.value c.old noText H5 false Q := by
      intro H5 m h1 e
      apply state_do.k3.step; unfold state_do.k3.body
      refine Br.no rfl (Br.no (by simp [h1]) (k4 noText false H5 m (fun e => by cases e) (fun _ h => by omega) fun _ _ => e))
    by_cases h1 : c.op = 1
    · refine Br.yes (by simp [h1]) ?_
      apply state_do.k1.step; unfold state_do.k1.body
      refine Br.yes rfl (MP.len_step M3 fun H4 m4 => ?_)
      apply state_do.k2.step; unfold state_do.k2.body
      by_cases hf : 64 ≤ kv.length
      · refine Br.yes (decide_eq_true (by omega)) (same ⟨4, noText⟩ H4 m4 ?_)
        unfold doM; rw [hv]; simp [h1, hf]
      · refine Br.no (decide_eq_false (by omega)) (Br.no (by simp [h1]) (noSwap H4 m4 h1 ?_))
        unfold doM; rw [hv]; simp [h1, hf]
    · refine Br.no (by simp [h1]) ?_
      apply state_do.k1.step; unfold state_do.k1.body
      refine Br.no rfl ?_
      apply state_do.k2.step; unfold state_do.k2.body
      refine Br.no rfl (Br.yes (by simp [h1]) ?_)
      apply state_do.k3.step; unfold state_do.k3.body
      refine Br.yes rfl (same ⟨6, noText⟩ H3 (Mod.refl _ _) ?_)
      unfold doM; rw [hv]; simp [h1]
  | some old =>
    have rest : ∀ (H5 : Hp), Mod (fun _ => False) H3 H5 → state_do.k3 J0 ⟨g, o, none⟩ c.op c.client c.seq c.key c.value c.old old H5 false Q := by
      intro H5 m
      apply state_do.k3.step; unfold state_do.k3.body
      refine Br.no rfl ?_
      by_cases h3 : c.op = 3
      · refine Br.yes (by simp [h3]) ?_
        rw [beq_list]
        by_cases he : old = c.old
        · refine k4 old _ H5 m (fun e => by simp [he] at e) (fun _ h => by omega) fun _ _ => ?_
          unfold doM; rw [hv]; simp [he, h3]
        · refine k4 old _ H5 m (fun _ => ?_) (fun e => by simp [he] at e) fun e => by simp [he] at e
          unfold doM; rw [hv]; simp [he, h3]
      · refine Br.no (by simp [h3]) (k4 old false H5 m (fun e => by cases e) (fun _ h => ?_) fun _ h => ?_)
        · unfold doM; rw [hv]; simp [h]
        · unfold doM; rw [hv]; simp [h3, h]
    have k2 : state_do.k2 J0 ⟨g, o, none⟩ c.op c.client c.seq c.key c.value c.old old true false H3 Q := by
      apply state_do.k2.step; unfold state_do.k2.body
      refine Br.no rfl ?_
      by_cases h1 : c.op = 1
      · exact Br.no (by simp [h1]) (rest H3 (Mod.refl _ _))
      · exact Br.yes (by simp [h1]) (rest H3 (Mod.refl _ _))
    by_cases h1 : c.op = 1
    · refine Br.yes (by simp [h1]) ?_
      apply state_do.k1.step; unfold state_do.k1.body
      exact Br.no rfl k2
    · refine Br.no (by simp [h1]) ?_
      apply state_do.k1.step; unfold state_do.k1.body
      exact Br.no rfl k2
end
end Go.Proofs
