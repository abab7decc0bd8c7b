/- STATES: rows as bytes: PutRows, Bytes, Same: the walks (as Ku7, over Kx1). -/
import Derived.Test.YtihadekhodlacaaKx1
import Derived.Test.YtihadekhodlacaaKp2
set_option linter.all false
set_option linter.constructorNameAsVariable false
namespace Go.Proofs
open Go Go.KC

theorem Wr.new (H : Hp) : Wr (Array.push H (.cells #[.slice none 0 0] T_pack_Writer)) H.size [H.size] [] :=
  ⟨⟨none, 0, 0⟩, get_push_new _ _, Own.nil _ _ _, rfl, by simp [Sl.blk]⟩
def Pr.row (p : Pr) : List Value := [.string p.key, .string p.value, .bool p.gone]
def Se.row (x : Se) : List Value := [.int .i64 x.client, .int .i64 x.seq, .int .i64 x.err, .string x.value]
theorem Pr.row_len (p : Pr) : p.row.length = 3 := rfl
theorem Se.row_len (x : Se) : x.row.length = 4 := rfl
def textB (s : ByteArray) : List UInt8 := be (s.size : Int) 8 ++ s.data.toList
theorem textB_len (s : ByteArray) : (textB s).length = 8 + s.size := by unfold textB; rw [List.length_append, be_length, ba_len]
def goneB (g : Bool) : UInt8 := if g then 1 else 0
def Pr.bytes (p : Pr) : List UInt8 := textB p.key ++ (textB p.value ++ [goneB p.gone])
def Se.bytes (x : Se) : List UInt8 := be x.client 8 ++ (be x.seq 8 ++ (be x.err 8 ++ textB x.value))
theorem Pr.bytes_len (p : Pr) : p.bytes.length = 17 + p.key.size + p.value.size := by unfold Pr.bytes; simp only [List.length_append, textB_len, List.length_singleton]; omega
theorem Se.bytes_len (x : Se) : x.bytes.length = 32 + x.value.size := by unfold Se.bytes; simp only [List.length_append, textB_len, be_length]; omega
def prsB (ps : List Pr) : List UInt8 := (ps.map Pr.bytes).flatten
def sesB (xs : List Se) : List UInt8 := (xs.map Se.bytes).flatten
def rowsB (ps : List Pr) (xs : List Se) : List UInt8 := be (ps.length : Int) 8 ++ (prsB ps ++ (be (xs.length : Int) 8 ++ sesB xs))
def stB (i t : Int) (ps : List Pr) (xs : List Se) : List UInt8 := be i 8 ++ (be t 8 ++ rowsB ps xs)
theorem prsB_snoc (ps : List Pr) (j : Nat) (hj : j < ps.length) : prsB (ps.take (j + 1)) = prsB (ps.take j) ++ ps[j].bytes := by
  unfold prsB; rw [List.take_succ_eq_append_getElem hj, List.map_append, List.flatten_append]; simp only [List.map_cons, List.map_nil, List.flatten_cons, List.flatten_nil, List.append_nil]
theorem sesB_snoc (xs : List Se) (j : Nat) (hj : j < xs.length) : sesB (xs.take (j + 1)) = sesB (xs.take j) ++ xs[j].bytes := by
  unfold sesB; rw [List.take_succ_eq_append_getElem hj, List.map_append, List.flatten_append]; simp only [List.map_cons, List.map_nil, List.flatten_cons, List.flatten_nil, List.append_nil]
theorem prsB_take (ps : List Pr) (j : Nat) : (prsB (ps.take j)).length ≤ (prsB ps).length := by
  have : prsB ps = prsB (ps.take j) ++ prsB (ps.drop j) := by unfold prsB; rw [← List.flatten_append, ← List.map_append, List.take_append_drop]
  rw [this, List.length_append]; omega
theorem sesB_take (xs : List Se) (j : Nat) : (sesB (xs.take j)).length ≤ (sesB xs).length := by
  have : sesB xs = sesB (xs.take j) ++ sesB (xs.drop j) := by unfold sesB; rw [← List.flatten_append, ← List.map_append, List.take_append_drop]
  rw [this, List.length_append]; omega
theorem rowsB_len (ps : List Pr) (xs : List Se) : (rowsB ps xs).length = 16 + (prsB ps).length + (sesB xs).length := by
  unfold rowsB; simp only [List.length_append, be_length]; omega

/-- A writer that is held: behind H. -/
def WrQ (H : Hp) (b : Nat) (F : List Nat) (bs : List UInt8) (H' : Hp) : Prop := ∃ F', Wr H' b F' bs ∧ Mod (· ∈ F) H H' ∧ ∀ g ∈ F', g ∈ F ∨ H.size ≤ g
section
variable {H H1 : Hp} {b : Nat} {F : List Nat} {bs : List UInt8}
theorem WrQ.of (h : Wr H b F bs) : WrQ H b F bs H := ⟨F, h, Mod.refl _ _, fun _ hg => Or.inl hg⟩
theorem WrQ.post {ys : List UInt8} {f : FuncId} {args : List Value} (h : WrQ H b F bs H1) (hc : ∀ F', Wr H1 b F' bs → SCalls Try.prog f args H1 (WrPost H1 b F' ys)) {K : Option Addr → Hp → Prop} (hK : ∀ H2, WrQ H b F ys H2 → K (some ⟨b, 0, none⟩) H2) :
    SCalls Try.prog f args H1 (fun r H' => ∃ x : Option Addr, r = .pointer x ∧ K x H') := by
  obtain ⟨F', hw, hm, hF⟩ := h
  refine (hc F' hw).mono ?_
  intro r H2 hp
  obtain ⟨hr, F2, h1, h2, h3⟩ := WrPost.trans hm hF hp
  exact ⟨_, hr, hK H2 ⟨F2, h1, h2, h3⟩⟩
theorem WrQ.num {n : Int} (h : WrQ H b F bs H1) (hl : bs.length + 8 ≤ 140737488355328) {K : Option Addr → Hp → Prop} (hK : ∀ H2, WrQ H b F (bs ++ be n 8) H2 → K (some ⟨b, 0, none⟩) H2) :
    SCalls Try.prog pack_Writer_Num.id [.pointer (some ⟨b, 0, none⟩), .int .i64 n] H1 (fun r H' => ∃ x : Option Addr, r = .pointer x ∧ K x H') :=
  h.post (fun _ hw => Writer_Num_spec hw hl) hK
theorem WrQ.text {s : ByteArray} (h : WrQ H b F bs H1) (hl : bs.length + 8 + s.size ≤ 140737488355328) {K : Option Addr → Hp → Prop} (hK : ∀ H2, WrQ H b F (bs ++ textB s) H2 → K (some ⟨b, 0, none⟩) H2) :
    SCalls Try.prog pack_Writer_Text.id [.pointer (some ⟨b, 0, none⟩), .string s] H1 (fun r H' => ∃ x : Option Addr, r = .pointer x ∧ K x H') :=
  h.post (fun _ hw => Writer_Text_spec hw hl) fun H2 h2 => hK H2 (by rw [List.append_assoc] at h2; exact h2)
theorem WrQ.byte {c : UInt8} {n : Int} (hn : n = (c.toNat : Int)) (h : WrQ H b F bs H1) (hl : bs.length + 1 ≤ 140737488355328) {K : Option Addr → Hp → Prop} (hK : ∀ H2, WrQ H b F (bs ++ [c]) H2 → K (some ⟨b, 0, none⟩) H2) :
    SCalls Try.prog pack_Writer_Byte.id [.pointer (some ⟨b, 0, none⟩), .int .u8 n] H1 (fun r H' => ∃ x : Option Addr, r = .pointer x ∧ K x H') := by
  rw [hn]; exact h.post (fun _ hw => Writer_Byte_spec hw hl) hK
theorem WrQ.step {H2 : Hp} (h : WrQ H b F bs H1) (m : Mod (fun _ => False) H1 H2) : WrQ H b F bs H2 := by
  obtain ⟨F', hw, hm, hF⟩ := h
  exact ⟨F', hw.keep m fun _ _ e => e, hm.trans (m.mono fun _ _ e => e.elim), hF⟩
theorem WrQ.mod (h : WrQ H b F bs H1) : Mod (· ∈ F) H H1 := h.choose_spec.2.1

/-- Rows that one reads. -/
def RR (H : Hp) (p s : Sl) (ps : List Pr) (xs : List Se) : Prop := Rows H p 3 (ps.map Pr.row).flatten ∧ Rows H s 4 (xs.map Se.row).flatten
theorem RR.mod {H' : Hp} {p s : Sl} {ps : List Pr} {xs : List Se} (h : RR H p s ps xs) (m : Mod (fun _ => False) H H') : RR H' p s ps xs := ⟨h.1.keep m fun _ _ e => e, h.2.keep m fun _ _ e => e⟩
theorem SR.rr {p s : Sl} {st : Stt} (h : SR H p s st) : RR H p s st.pairs st.sess := by
  obtain ⟨h1, h2⟩ := h
  refine ⟨?_, ?_⟩
  · unfold Stt.pairs; rw [List.map_map]; exact h1
  · unfold Stt.sess; rw [List.map_map]; exact h2
theorem RR.lens {p s : Sl} {ps : List Pr} {xs : List Se} (h : RR H p s ps xs) : ps.length = p.len ∧ xs.length = s.len :=
  ⟨rows_len' (by omega) Pr.row_len h.1, rows_len' (by omega) Se.row_len h.2⟩

theorem WrQ.fresh (h : WrQ H b F bs H1) (hF : ∀ g ∈ F, H.size ≤ g) : Mod (fun _ => False) H H1 := Mod.fresh h.mod hF
theorem PutRows_spec {H0 : Hp} {p s : Sl} {ps : List Pr} {xs : List Se} (h : WrQ H b F bs H0) (hk : ∀ H', Mod (· ∈ F) H H' → RR H' p s ps xs) (hl : bs.length + (rowsB ps xs).length ≤ 140737488355328) :
    SCalls Try.prog state_PutRows.id [.pointer (some ⟨b, 0, none⟩), .slice p.a p.len p.cap, .slice s.a s.len s.cap] H0 fun r H' => r = .tuple #[] ∧ WrQ H b F (bs ++ rowsB ps xs) H' := by
  obtain ⟨lp, ls⟩ := (hk _ h.mod).lens
  rw [rowsB_len] at hl
  have hpl : ps.length ≤ 140737488355328 := by
    have : ps.length ≤ (prsB ps).length := by
      unfold prsB
      clear hk hl lp
      induction ps with
      | nil => simp
      | cons q l ih => simp only [List.map_cons, List.flatten_cons, List.length_append, List.length_cons, Pr.bytes_len]; omega
    omega
  have hsl : xs.length ≤ 140737488355328 := by
    have : xs.length ≤ (sesB xs).length := by
      unfold sesB
      clear hk hl ls
      induction xs with
      | nil => simp
      | cons q l ih => simp only [List.map_cons, List.flatten_cons, List.length_append, List.length_cons, Se.bytes_len]; omega
    omega
  apply state_PutRows.calls
  have loop2 : ∀ (d j : Nat) (H2 : Hp), j + d = xs.length → WrQ H b F (bs ++ (be (ps.length : Int) 8 ++ (prsB ps ++ (be (xs.length : Int) 8 ++ sesB (xs.take j))))) H2 →
      state_PutRows.l2 J0 ⟨b, 0, none⟩ s H2 (j : Int) fun r H' => r = .tuple #[] ∧ WrQ H b F (bs ++ rowsB ps xs) H' := by
    intro d
    induction d with
    | zero =>
      intro j H2 hj hw
      apply state_PutRows.l2.step; unfold state_PutRows.l2.body
      rw [List.take_of_length_le (by omega)] at hw
      exact Br.no (by simp; omega) ⟨rfl, hw⟩
    | succ d ih =>
      intro j H2 hj hw
      apply state_PutRows.l2.step; unfold state_PutRows.l2.body
      have hjl : j < xs.length := by omega
      obtain ⟨a, ha, hrow⟩ := row_get' (by omega) Se.row_len (hk _ hw.mod).2 hjl
      refine Br.yes (by simp; omega) ⟨⟨by omega, by omega⟩, vPtr.mk a ha ⟨xs[j].client, xs[j].seq, xs[j].err, xs[j].value, by simpa [Se.row] using hrow, fun H3 e3 => ?_⟩⟩
      obtain ⟨m3, s3⟩ := hole_facts e3
      have hlen : (sesB (xs.take j)).length + (32 + xs[j].value.size) ≤ (sesB xs).length := by
        have := sesB_take xs (j + 1)
        rw [sesB_snoc xs j hjl, List.length_append, Se.bytes_len] at this; omega
      refine (hw.step m3).num (by simp only [List.length_append, be_length]; omega) fun H4 w4 => ?_
      refine w4.num (by simp only [List.length_append, be_length]; omega) fun H5 w5 => ?_
      refine w5.num (by simp only [List.length_append, be_length]; omega) fun H6 w6 => ?_
      refine w6.text (by simp only [List.length_append, be_length]; omega) fun H7 w7 => ?_
      rw [w64_id (x := (j : Int) + 1) (by omega) (by omega)]
      have := ih (j + 1) H7 (by omega) (by rw [sesB_snoc xs j hjl]; unfold Se.bytes; simp only [List.append_assoc] at w7 ⊢; exact w7)
      simpa using this
  have loop1 : ∀ (d j : Nat) (H2 : Hp), j + d = ps.length → WrQ H b F (bs ++ (be (ps.length : Int) 8 ++ prsB (ps.take j))) H2 →
      state_PutRows.l1 J0 ⟨b, 0, none⟩ p s H2 (j : Int) fun r H' => r = .tuple #[] ∧ WrQ H b F (bs ++ rowsB ps xs) H' := by
    intro d
    induction d with
    | zero =>
      intro j H2 hj hw
      apply state_PutRows.l1.step; unfold state_PutRows.l1.body
      rw [List.take_of_length_le (by omega)] at hw
      refine Br.no (by simp; omega) (hw.num (by simp only [List.length_append, be_length]; omega) fun H7 w7 => ?_)
      have := loop2 xs.length 0 H7 (by omega) (by rw [← ls] at w7; simpa [sesB, List.append_assoc] using w7)
      simpa using this
    | succ d ih =>
      intro j H2 hj hw
      apply state_PutRows.l1.step; unfold state_PutRows.l1.body
      have hjl : j < ps.length := by omega
      obtain ⟨a, ha, hrow⟩ := row_get' (by omega) Pr.row_len (hk _ hw.mod).1 hjl
      refine Br.yes (by simp; omega) ⟨⟨by omega, by omega⟩, vPtr.mk a ha ⟨ps[j].key, ps[j].value, ps[j].gone, by simpa [Pr.row] using hrow, fun H3 e3 => ?_⟩⟩
      obtain ⟨m3, s3⟩ := hole_facts e3
      have hlen : (prsB (ps.take j)).length + (17 + ps[j].key.size + ps[j].value.size) ≤ (prsB ps).length := by
        have := prsB_take ps (j + 1)
        rw [prsB_snoc ps j hjl, List.length_append, Pr.bytes_len] at this; omega
      have k1 : ∀ g : Int, g = ((goneB ps[j].gone).toNat : Int) → state_PutRows.k1 J0 ⟨b, 0, none⟩ p s (j : Int) ps[j].key ps[j].value ps[j].gone H3 g fun r H' => r = .tuple #[] ∧ WrQ H b F (bs ++ rowsB ps xs) H' := by
        intro g hg
        apply state_PutRows.k1.step; unfold state_PutRows.k1.body
        refine (hw.step m3).text (by simp only [List.length_append, be_length]; omega) fun H4 w4 => ?_
        refine w4.text (by simp only [List.length_append, be_length, textB_len]; omega) fun H5 w5 => ?_
        refine w5.byte hg (by simp only [List.length_append, be_length, textB_len]; omega) fun H6 w6 => ?_
        rw [w64_id (x := (j : Int) + 1) (by omega) (by omega)]
        have := ih (j + 1) H6 (by omega) (by rw [prsB_snoc ps j hjl]; unfold Pr.bytes; simp only [List.append_assoc] at w6 ⊢; exact w6)
        simpa using this
      exact Br.mk (fun h => k1 1 (by rw [h]; rfl)) (fun h => k1 0 (by rw [h]; rfl))
  refine h.num (by omega) fun H1 w1 => ?_
  have := loop1 ps.length 0 H1 (by omega) (by rw [← lp] at w1; simpa [prsB] using w1)
  simpa using this

/-- Bytes behind a call. -/
def BP (H : Hp) (bs : List UInt8) (v : Value) (H' : Hp) : Prop := ∃ x : Sl, v = .slice x.a x.len x.cap ∧ Own H' x T_uint8 1 (bs.map bv) ∧ Mod (fun _ => False) H H' ∧ ∀ g ∈ x.blk, H.size ≤ g

theorem Bytes_spec {i t : Int} {p s : Sl} {ps : List Pr} {xs : List Se} (hr : RR H p s ps xs) (hl : (stB i t ps xs).length ≤ 140737488355328) :
    SCalls Try.prog state_Bytes.id [.agg #[.int .i64 i, .int .i64 t, .slice p.a p.len p.cap, .slice s.a s.len s.cap]] H (BP H (stB i t ps xs)) := by
  apply state_Bytes.calls (sIndex := i) (sTerm := t) (sPairs := p) (sSessions := s)
  intro H1 e1 b hb H2 e2
  obtain ⟨m1, s1⟩ := hole_facts e1
  obtain ⟨q2, m2, s2⟩ := push_facts e2
  have hl' : 32 + (prsB ps).length + (sesB xs).length ≤ 140737488355328 := by unfold stB at hl; simp only [List.length_append, be_length, rowsB_len] at hl; omega
  have hbz : H.size ≤ b := by omega
  have hF : ∀ g ∈ [b], H.size ≤ g := fun g hg => by simp at hg; omega
  have W2 : WrQ H b [b] [] H2 := ⟨[b], by rw [hb, e2]; exact Wr.new H1, (m1.trans m2).mono fun _ _ e => e.elim, fun g hg => Or.inl hg⟩
  refine W2.num (by simp) fun H3 w3 => ?_
  refine w3.num (by simp only [List.length_append, be_length, List.length_nil]; omega) fun H4 w4 => ?_
  apply state_Bytes.k1.step; unfold state_Bytes.k1.body
  refine (PutRows_spec w4 (fun H' m => hr.mod (Mod.fresh m hF)) (by simp only [List.length_append, be_length, List.length_nil, rowsB_len]; omega)).mono ?_
  rintro r H5 ⟨rfl, w5⟩
  refine ⟨rfl, ?_⟩
  have m05 := w5.fresh hF
  obtain ⟨F5, W5, _, _⟩ := w5
  refine (Writer_Bytes_spec W5 (by simp only [List.length_append, be_length, List.length_nil, rowsB_len]; omega)).mono ?_
  rintro r H6 ⟨x, rfl, o, m6, hb6⟩
  refine ⟨x, rfl, x, rfl, ?_, m05.trans m6, fun g hg => by have := hb6 g hg; have := m05.size; omega⟩
  unfold stB
  simpa [List.append_assoc] using o

theorem bytes_str {bs : List UInt8} {x : Sl} {e : TypeId} (o : Own H x e 1 (bs.map bv)) : vB2S H x.a x.len fun s => s = ByteArray.mk bs.toArray := b2s_rows (Own.rows o) rfl

theorem same_bytes (a c : List UInt8) : ((ByteArray.mk a.toArray).toList == (ByteArray.mk c.toArray).toList) = decide (a = c) := by
  rw [beq_list]
  congr 1
  refine propext ⟨fun h => ?_, fun h => by rw [h]⟩
  have : a.toArray = c.toArray := by injection h
  simpa using this

theorem Same_spec {i t i' t' : Int} {p s p' s' : Sl} {ps ps' : List Pr} {xs xs' : List Se} (hr : RR H p s ps xs) (hr' : RR H p' s' ps' xs') (hl : (stB i t ps xs).length ≤ 140737488355328) (hl' : (stB i' t' ps' xs').length ≤ 140737488355328) :
    SCalls Try.prog state_Same.id [.agg #[.int .i64 i, .int .i64 t, .slice p.a p.len p.cap, .slice s.a s.len s.cap], .agg #[.int .i64 i', .int .i64 t', .slice p'.a p'.len p'.cap, .slice s'.a s'.len s'.cap]] H (TellPost H (.bool (decide (stB i t ps xs = stB i' t' ps' xs')))) := by
  apply state_Same.calls (aIndex := i) (aTerm := t) (aPairs := p) (aSessions := s) (bIndex := i') (bTerm := t') (bPairs := p') (bSessions := s')
  intro H1 e1 H2 e2
  obtain ⟨m1, s1⟩ := hole_facts e1
  obtain ⟨m2, s2⟩ := hole_facts e2
  refine (Bytes_spec (hr.mod (m1.trans m2)) hl).mono ?_
  rintro r H3 ⟨x, rfl, o3, m3, b3⟩
  have m03 := m1.trans (m2.trans m3)
  refine ⟨x, rfl, b2s_imp (bytes_str o3) ?_, ?_⟩
  · rintro _ rfl
    refine (Bytes_spec (hr'.mod m03) hl').mono ?_
    rintro r H4 ⟨x1, rfl, o4, m4, b4⟩
    refine ⟨x1, rfl, b2s_imp (bytes_str o4) ?_⟩
    rintro _ rfl
    rw [same_bytes]
    exact ⟨rfl, m03.trans m4⟩
  · refine (Bytes_spec (hr'.mod m03) hl').mono ?_
    rintro r H4 ⟨x1, rfl, o4, m4, b4⟩
    have o3' := o3.keep m4 fun _ _ e => e
    refine ⟨x1, rfl, b2s_imp (bytes_str o3') ?_, b2s_imp (bytes_str o4) ?_⟩
    · rintro _ rfl
      refine b2s_imp (bytes_str o4) ?_
      rintro _ rfl
      rw [same_bytes]
      exact ⟨rfl, m03.trans m4⟩
    · rintro _ rfl
      refine b2s_imp (bytes_str o3') ?_
      rintro _ rfl
      rw [same_bytes]
      exact ⟨rfl, m03.trans m4⟩

/-- A state's bytes. -/
def Stt.bytes (st : Stt) : List UInt8 := stB st.index st.term st.pairs st.sess
theorem flat_le {α : Type} (f : α → List UInt8) (n : Nat) : ∀ l : List α, (∀ x ∈ l, (f x).length ≤ n) → (l.map f).flatten.length ≤ l.length * n
  | [], _ => by simp
  | a :: l, h => by
    have := flat_le f n l fun x hx => h x (List.mem_cons_of_mem _ hx)
    have := h a (by simp)
    simp only [List.map_cons, List.flatten_cons, List.length_append, List.length_cons, Nat.succ_mul]; omega
theorem Stt.bytes_le {st : Stt} (ok : st.Ok) : st.bytes.length ≤ 100000 := by
  have h1 : (prsB st.pairs).length ≤ st.pairs.length * 41 := flat_le Pr.bytes 41 _ fun x hx => by
    obtain ⟨p, hp, rfl⟩ := List.mem_map.1 hx
    have := ok.kb p hp
    rw [Pr.bytes_len]; dsimp only; omega
  have h2 : (sesB st.sess).length ≤ st.sess.length * 48 := flat_le Se.bytes 48 _ fun x hx => by
    obtain ⟨p, hp, rfl⟩ := List.mem_map.1 hx
    have := (ok.sb p hp).2.2.2.2.2.2.2
    rw [Se.bytes_len]; omega
  have h3 : st.pairs.length = st.kv.length := List.length_map _
  have h4 : st.sess.length = st.ss.length := List.length_map _
  have := ok.kl
  have := ok.sl
  unfold Stt.bytes stB
  simp only [List.length_append, be_length, rowsB_len]
  omega
theorem Same_of {p s p' s' : Sl} {st st' : Stt} (h : SR H p s st) (h' : SR H p' s' st') (ok : st.Ok) (ok' : st'.Ok) :
    SCalls Try.prog state_Same.id [stV st p s, stV st' p' s'] H (TellPost H (.bool (decide (st.bytes = st'.bytes)))) :=
  Same_spec h.rr h'.rr (by have := Stt.bytes_le ok; unfold Stt.bytes at this; omega) (by have := Stt.bytes_le ok'; unfold Stt.bytes at this; omega)
end
end Go.Proofs
