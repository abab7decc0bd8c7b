/- (no maps) STATES: pairs, rows, sessions, do: the walks. -/
import Derived.Test.YtpdondaekinmdaaKu4
import Derived.Test.YtpdondaekinmdaaKe2
import Derived.Test.YtpdondaekinmdaaKp6
import Derived.Test.YtpdondaekinmdaaKpb1
set_option linter.all false
set_option linter.constructorNameAsVariable false
namespace Go.Proofs
open Go Go.KC

def kvC (p : ByteArray × ByteArray) : List Value := [.string p.1, .string p.2, .bool false]
def ssC (p : Int × Se) : List Value := [.int .i64 p.2.client, .int .i64 p.2.seq, .int .i64 p.2.err, .string p.2.value]
theorem kvC_len (p : ByteArray × ByteArray) : (kvC p).length = 3 := rfl
theorem ssC_len (p : Int × Se) : (ssC p).length = 4 := rfl
theorem pair_inf : (Try.prog.info? T_api_Pair).map (fun i => (i.zero, i.size, i.bytes)) = some (some (.agg #[.string (ByteArray.mk #[]), .string (ByteArray.mk #[]), .bool false]), 3, 40) := by kernel_rfl
theorem elPair : El Try.prog T_sl_api_Pair T_api_Pair 3 := by
  refine ⟨by kernel_rfl, ?_, by omega⟩
  have h := pair_inf
  cases hi : Try.prog.info? T_api_Pair with
  | none => rw [hi] at h; simp at h
  | some ti =>
    rw [hi] at h; simp at h
    exact ⟨ti, _, rfl, h.1, h.2.1, by omega, by omega, rfl, rfl⟩
theorem sess_inf : (Try.prog.info? T_api_Session).map (fun i => (i.zero, i.size, i.bytes)) = some (some (.agg #[.int .i64 0, .int .i64 0, .int .i64 0, .string (ByteArray.mk #[])]), 4, 40) := by kernel_rfl
theorem elSess : El Try.prog T_sl_api_Session T_api_Session 4 := by
  refine ⟨by kernel_rfl, ?_, by omega⟩
  have h := sess_inf
  cases hi : Try.prog.info? T_api_Session with
  | none => rw [hi] at h; simp at h
  | some ti =>
    rw [hi] at h; simp at h
    exact ⟨ti, _, rfl, h.1, h.2.1, by omega, by omega, rfl, rfl⟩

/-- A state that one reads. -/
def SR (H : Hp) (p s : Sl) (st : Stt) : Prop := Rows H p 3 (st.kv.map kvC).flatten ∧ Rows H s 4 (st.ss.map ssC).flatten
abbrev stV (st : Stt) (p s : Sl) : Value := .agg #[.int .i64 st.index, .int .i64 st.term, .slice p.a p.len p.cap, .slice s.a s.len s.cap]
abbrev rpV (r : Rp) : Value := .agg #[.int .i64 r.err, .string r.value]

section
variable {H : Hp}
theorem SR.mod {H' : Hp} {p s : Sl} {st : Stt} (h : SR H p s st) (m : Mod (fun _ => False) H H') : SR H' p s st := ⟨h.1.keep m fun _ _ e => e, h.2.keep m fun _ _ e => e⟩
theorem SR.zero (H : Hp) : SR H ⟨none, 0, 0⟩ ⟨none, 0, 0⟩ .zero := ⟨⟨rfl, Nat.le_refl _, fun a ha => (by cases ha), fun _ => rfl⟩, ⟨rfl, Nat.le_refl _, fun a ha => (by cases ha), fun _ => rfl⟩⟩

/-- An element is put behind a row in a variable. -/
theorem addEl {T e : TypeId} {k : Nat} (hE : El Try.prog T e k) {xs : Sl} {cs p : List Value} {K : Sl → Hp → Prop} (o : Own H xs e k cs) (hp : p.length = k) (h1 : allOne p = true) (hl : xs.len ≤ 100000)
    (hK : ∀ (ys : Sl) (H' : Hp), Own H' ys e k (cs ++ p) → (∀ q ∈ ys.blk, q ∈ xs.blk ∨ H.size ≤ q) → Mod (· ∈ xs.blk) H H' → K ys H') :
    ∀ b4 : Nat, b4 = Array.size H → ∀ H15 : Hp, H15 = (Array.push H (.cells p.toArray e)) → vApp Try.prog T xs.a xs.len xs.cap (.slice (some (Addr.mk b4 0 none)) 1 1) H15 K := by
  rintro b4 rfl H15 e15
  obtain ⟨v5, m5, s5⟩ := push_facts e15
  refine app_one (p := p) hE (o.keep m5 fun _ _ e => e) v5 hp h1 (by omega) fun ys H6 o6 _ m6 b6 => ?_
  exact hK ys H6 o6 (fun q hq => (b6 q hq).imp id fun h => by omega) ((m5.mono fun _ _ e => e.elim).trans m6)

end
end Go.Proofs

/- STATES (no maps): rows as bytes: PutRows, Bytes, Same: the walks. -/
set_option linter.all false
set_option linter.constructorNameAsVariable false
namespace Go.Proofs
open Go Go.KC

def Pr.row (p : Pr) : List Value := [.string p.key, .string p.value, .bool p.gone]
def Se.row (x : Se) : List Value := [.int .i64 x.client, .int .i64 x.seq, .int .i64 x.err, .string x.value]
theorem Pr.row_len (p : Pr) : p.row.length = 3 := rfl
theorem Se.row_len (x : Se) : x.row.length = 4 := rfl
def textB (s : ByteArray) : List UInt8 := be (s.size : Int) 8 ++ s.data.toList
theorem textB_len (s : ByteArray) : (textB s).length = 8 + s.size := by unfold textB; rw [List.length_append, be_length, ba_len]
def goneB (g : Bool) : UInt8 := if g then 1 else 0
def Pr.bytes (p : Pr) : List UInt8 := textB p.key ++ (textB p.value ++ [goneB p.gone])
def Se.bytes (x : Se) : List UInt8 := be x.client 8 ++ (be x.seq 8 ++ (be x.err 8 ++ textB x.value))
theorem Pr.bytes_len (p : Pr) : p.bytes.length = 17 + p.key.size + p.value.size := by unfold Pr.bytes; simp only [List.length_append, textB_len, List.length_singleton]; omega
theorem Se.bytes_len (x : Se) : x.bytes.length = 32 + x.value.size := by unfold Se.bytes; simp only [List.length_append, textB_len, be_length]; omega
def prsB (ps : List Pr) : List UInt8 := (ps.map Pr.bytes).flatten
def sesB (xs : List Se) : List UInt8 := (xs.map Se.bytes).flatten
def rowsB (ps : List Pr) (xs : List Se) : List UInt8 := be (ps.length : Int) 8 ++ (prsB ps ++ (be (xs.length : Int) 8 ++ sesB xs))
def stB (i t : Int) (ps : List Pr) (xs : List Se) : List UInt8 := be i 8 ++ (be t 8 ++ rowsB ps xs)
theorem prsB_snoc (ps : List Pr) (j : Nat) (hj : j < ps.length) : prsB (ps.take (j + 1)) = prsB (ps.take j) ++ ps[j].bytes := by
  unfold prsB; rw [List.take_succ_eq_append_getElem hj, List.map_append, List.flatten_append]; simp only [List.map_cons, List.map_nil, List.flatten_cons, List.flatten_nil, List.append_nil]
theorem sesB_snoc (xs : List Se) (j : Nat) (hj : j < xs.length) : sesB (xs.take (j + 1)) = sesB (xs.take j) ++ xs[j].bytes := by
  unfold sesB; rw [List.take_succ_eq_append_getElem hj, List.map_append, List.flatten_append]; simp only [List.map_cons, List.map_nil, List.flatten_cons, List.flatten_nil, List.append_nil]
theorem prsB_take (ps : List Pr) (j : Nat) : (prsB (ps.take j)).length ≤ (prsB ps).length := by
  have : prsB ps = prsB (ps.take j) ++ prsB (ps.drop j) := by unfold prsB; rw [← List.flatten_append, ← List.map_append, List.take_append_drop]
  rw [this, List.length_append]; omega
theorem sesB_take (xs : List Se) (j : Nat) : (sesB (xs.take j)).length ≤ (sesB xs).length := by
  have : sesB xs = sesB (xs.take j) ++ sesB (xs.drop j) := by unfold sesB; rw [← List.flatten_append, ← List.map_append, List.take_append_drop]
  rw [this, List.length_append]; omega
theorem rowsB_len (ps : List Pr) (xs : List Se) : (rowsB ps xs).length = 16 + (prsB ps).length + (sesB xs).length := by
  unfold rowsB; simp only [List.length_append, be_length]; omega

/-- A writer that is held: behind H. -/
def WrQ (H : Hp) (b : Nat) (F : List Nat) (bs : List UInt8) (H' : Hp) : Prop := ∃ F', Wr H' b F' bs ∧ Mod (· ∈ F) H H' ∧ ∀ g ∈ F', g ∈ F ∨ H.size ≤ g
section
variable {H H1 : Hp} {b : Nat} {F : List Nat} {bs : List UInt8}
theorem WrQ.of (h : Wr H b F bs) : WrQ H b F bs H := ⟨F, h, Mod.refl _ _, fun _ hg => Or.inl hg⟩
theorem WrQ.post {ys : List UInt8} {f : FuncId} {args : List Value} (h : WrQ H b F bs H1) (hc : ∀ F', Wr H1 b F' bs → SCalls Try.prog f args H1 (WrPost H1 b F' ys)) {K : Option Addr → Hp → Prop} (hK : ∀ H2, WrQ H b F ys H2 → K (some ⟨b, 0, none⟩) H2) :
    SCalls Try.prog f args H1 (fun r H' => ∃ x : Option Addr, r = .pointer x ∧ K x H') := by
  obtain ⟨F', hw, hm, hF⟩ := h
  refine (hc F' hw).mono ?_
  intro r H2 hp
  obtain ⟨hr, F2, h1, h2, h3⟩ := WrPost.trans hm hF hp
  exact ⟨_, hr, hK H2 ⟨F2, h1, h2, h3⟩⟩
theorem WrQ.num {n : Int} (h : WrQ H b F bs H1) (hl : bs.length + 8 ≤ 140737488355328) {K : Option Addr → Hp → Prop} (hK : ∀ H2, WrQ H b F (bs ++ be n 8) H2 → K (some ⟨b, 0, none⟩) H2) :
    SCalls Try.prog pack_Writer_Num.id [.pointer (some ⟨b, 0, none⟩), .int .i64 n] H1 (fun r H' => ∃ x : Option Addr, r = .pointer x ∧ K x H') :=
  h.post (fun _ hw => Writer_Num_spec hw hl) hK
theorem WrQ.text {s : ByteArray} (h : WrQ H b F bs H1) (hl : bs.length + 8 + s.size ≤ 140737488355328) {K : Option Addr → Hp → Prop} (hK : ∀ H2, WrQ H b F (bs ++ textB s) H2 → K (some ⟨b, 0, none⟩) H2) :
    SCalls Try.prog pack_Writer_Text.id [.pointer (some ⟨b, 0, none⟩), .string s] H1 (fun r H' => ∃ x : Option Addr, r = .pointer x ∧ K x H') :=
  h.post (fun _ hw => Writer_Text_spec hw hl) fun H2 h2 => hK H2 (by rw [List.append_assoc] at h2; exact h2)
theorem WrQ.byte {c : UInt8} {n : Int} (hn : n = (c.toNat : Int)) (h : WrQ H b F bs H1) (hl : bs.length + 1 ≤ 140737488355328) {K : Option Addr → Hp → Prop} (hK : ∀ H2, WrQ H b F (bs ++ [c]) H2 → K (some ⟨b, 0, none⟩) H2) :
    SCalls Try.prog pack_Writer_Byte.id [.pointer (some ⟨b, 0, none⟩), .int .u8 n] H1 (fun r H' => ∃ x : Option Addr, r = .pointer x ∧ K x H') := by
  rw [hn]; exact h.post (fun _ hw => Writer_Byte_spec hw hl) hK
theorem WrQ.step {H2 : Hp} (h : WrQ H b F bs H1) (m : Mod (fun _ => False) H1 H2) : WrQ H b F bs H2 := by
  obtain ⟨F', hw, hm, hF⟩ := h
  exact ⟨F', hw.keep m fun _ _ e => e, hm.trans (m.mono fun _ _ e => e.elim), hF⟩
theorem WrQ.mod (h : WrQ H b F bs H1) : Mod (· ∈ F) H H1 := h.choose_spec.2.1

/-- Rows that one reads. -/
def RR (H : Hp) (p s : Sl) (ps : List Pr) (xs : List Se) : Prop := Rows H p 3 (ps.map Pr.row).flatten ∧ Rows H s 4 (xs.map Se.row).flatten
theorem RR.mod {H' : Hp} {p s : Sl} {ps : List Pr} {xs : List Se} (h : RR H p s ps xs) (m : Mod (fun _ => False) H H') : RR H' p s ps xs := ⟨h.1.keep m fun _ _ e => e, h.2.keep m fun _ _ e => e⟩
theorem SR.rr {p s : Sl} {st : Stt} (h : SR H p s st) : RR H p s st.pairs st.sess := by
  obtain ⟨h1, h2⟩ := h
  refine ⟨?_, ?_⟩
  · unfold Stt.pairs; rw [List.map_map]; exact h1
  · unfold Stt.sess; rw [List.map_map]; exact h2
theorem RR.lens {p s : Sl} {ps : List Pr} {xs : List Se} (h : RR H p s ps xs) : ps.length = p.len ∧ xs.length = s.len :=
  ⟨rows_len' (by omega) Pr.row_len h.1, rows_len' (by omega) Se.row_len h.2⟩

theorem WrQ.fresh (h : WrQ H b F bs H1) (hF : ∀ g ∈ F, H.size ≤ g) : Mod (fun _ => False) H H1 := Mod.fresh h.mod hF
theorem PutRows_spec {H0 : Hp} {p s : Sl} {ps : List Pr} {xs : List Se} (h : WrQ H b F bs H0) (hk : ∀ H', Mod (· ∈ F) H H' → RR H' p s ps xs) (hl : bs.length + (rowsB ps xs).length ≤ 140737488355328) :
    SCalls Try.prog state_PutRows.id [.pointer (some ⟨b, 0, none⟩), .slice p.a p.len p.cap, .slice s.a s.len s.cap] H0 fun r H' => r = .tuple #[] ∧ WrQ H b F (bs ++ rowsB ps xs) H' := by
  obtain ⟨lp, ls⟩ := (hk _ h.mod).lens
  rw [rowsB_len] at hl
  have hpl : ps.length ≤ 140737488355328 := by
    have : ps.length ≤ (prsB ps).length := by
      unfold prsB
      clear hk hl lp
      induction ps with
      | nil => simp
      | cons q l ih => simp only [List.map_cons, List.flatten_cons, List.length_append, List.length_cons, Pr.bytes_len]; omega
    omega
  have hsl : xs.length ≤ 140737488355328 := by
    have : xs.length ≤ (sesB xs).length := by
      unfold sesB
      clear hk hl ls
      induction xs with
      | nil => simp
      | cons q l ih => simp only [List.map_cons, List.flatten_cons, List.length_append, List.length_cons, Se.bytes_len]; omega
    omega
  apply state_PutRows.calls
  have loop2 : ∀ (d j : Nat) (H2 : Hp), j + d = xs.length → WrQ H b F (bs ++ (be (ps.length : Int) 8 ++ (prsB ps ++ (be (xs.length : Int) 8 ++ sesB (xs.take j))))) H2 →
      state_PutRows.l2 J0 ⟨b, 0, none⟩ s H2 (j : Int) fun r H' => r = .tuple #[] ∧ WrQ H b F (bs ++ rowsB ps xs) H' := by
    intro d
    induction d with
    | zero =>
      intro j H2 hj hw
      apply state_PutRows.l2.step; unfold state_PutRows.l2.body
      rw [List.take_of_length_le (by omega)] at hw
      exact Br.no (by simp; omega) ⟨rfl, hw⟩
    | succ d ih =>
      intro j H2 hj hw
      apply state_PutRows.l2.step; unfold state_PutRows.l2.body
      have hjl : j < xs.length := by omega
      obtain ⟨a, ha, hrow⟩ := row_get' (by omega) Se.row_len (hk _ hw.mod).2 hjl
      refine Br.yes (by simp; omega) ⟨⟨by omega, by omega⟩, vPtr.mk a ha ⟨xs[j].client, xs[j].seq, xs[j].err, xs[j].value, by simpa [Se.row] using hrow, fun H3 e3 => ?_⟩⟩
      obtain ⟨m3, s3⟩ := hole_facts e3
      have hlen : (sesB (xs.take j)).length + (32 + xs[j].value.size) ≤ (sesB xs).length := by
        have := sesB_take xs (j + 1)
        rw [sesB_snoc xs j hjl, List.length_append, Se.bytes_len] at this; omega
      refine (hw.step m3).num (by simp only [List.length_append, be_length]; omega) fun H4 w4 => ?_
      refine w4.num (by simp only [List.length_append, be_length]; omega) fun H5 w5 => ?_
      refine w5.num (by simp only [List.length_append, be_length]; omega) fun H6 w6 => ?_
      refine w6.text (by simp only [List.length_append, be_length]; omega) fun H7 w7 => ?_
      rw [w64_id (x := (j : Int) + 1) (by omega) (by omega)]
      have := ih (j + 1) H7 (by omega) (by rw [sesB_snoc xs j hjl]; unfold Se.bytes; simp only [List.append_assoc] at w7 ⊢; exact w7)
      simpa using this
  have loop1 : ∀ (d j : Nat) (H2 : Hp), j + d = ps.length → WrQ H b F (bs ++ (be (ps.length : Int) 8 ++ prsB (ps.take j))) H2 →
      state_PutRows.l1 J0 ⟨b, 0, none⟩ p s H2 (j : Int) fun r H' => r = .tuple #[] ∧ WrQ H b F (bs ++ rowsB ps xs) H' := by
    intro d
    induction d with
    | zero =>
      intro j H2 hj hw
      apply state_PutRows.l1.step; unfold state_PutRows.l1.body
      rw [List.take_of_length_le (by omega)] at hw
      refine Br.no (by simp; omega) (hw.num (by simp only [List.length_append, be_length]; omega) fun H7 w7 => ?_)
      have := loop2 xs.length 0 H7 (by omega) (by rw [← ls] at w7; simpa [sesB, List.append_assoc] using w7)
      simpa using this
    | succ d ih =>
      intro j H2 hj hw
      apply state_PutRows.l1.step; unfold state_PutRows.l1.body
      have hjl : j < ps.length := by omega
      obtain ⟨a, ha, hrow⟩ := row_get' (by omega) Pr.row_len (hk _ hw.mod).1 hjl
      refine Br.yes (by simp; omega) ⟨⟨by omega, by omega⟩, vPtr.mk a ha ⟨ps[j].key, ps[j].value, ps[j].gone, by simpa [Pr.row] using hrow, fun H3 e3 => ?_⟩⟩
      obtain ⟨m3, s3⟩ := hole_facts e3
      have hlen : (prsB (ps.take j)).length + (17 + ps[j].key.size + ps[j].value.size) ≤ (prsB ps).length := by
        have := prsB_take ps (j + 1)
        rw [prsB_snoc ps j hjl, List.length_append, Pr.bytes_len] at this; omega
      have k1 : ∀ g : Int, g = ((goneB ps[j].gone).toNat : Int) → state_PutRows.k1 J0 ⟨b, 0, none⟩ p s (j : Int) ps[j].key ps[j].value ps[j].gone H3 g fun r H' => r = .tuple #[] ∧ WrQ H b F (bs ++ rowsB ps xs) H' := by
        intro g hg
        apply state_PutRows.k1.step; unfold state_PutRows.k1.body
        refine (hw.step m3).text (by simp only [List.length_append, be_length]; omega) fun H4 w4 => ?_
        refine w4.text (by simp only [List.length_append, be_length, textB_len]; omega) fun H5 w5 => ?_
        refine w5.byte hg (by simp only [List.length_append, be_length, textB_len]; omega) fun H6 w6 => ?_
        rw [w64_id (x := (j : Int) + 1) (by omega) (by omega)]
        have := ih (j + 1) H6 (by omega) (by rw [prsB_snoc ps j hjl]; unfold Pr.bytes; simp only [List.append_assoc] at w6 ⊢; exact w6)
        simpa using this
      exact Br.mk (fun h => k1 1 (by rw [h]; rfl)) (fun h => k1 0 (by rw [h]; rfl))
  refine h.num (by omega) fun H1 w1 => ?_
  have := loop1 ps.length 0 H1 (by omega) (by rw [← lp] at w1; simpa [prsB] using w1)
  simpa using this

/-- Bytes behind a call. -/
def BP (H : Hp) (bs : List UInt8) (v : Value) (H' : Hp) : Prop := ∃ x : Sl, v = .slice x.a x.len x.cap ∧ Own H' x T_uint8 1 (bs.map bv) ∧ Mod (fun _ => False) H H' ∧ ∀ g ∈ x.blk, H.size ≤ g

theorem Bytes_spec {i t : Int} {p s : Sl} {ps : List Pr} {xs : List Se} (hr : RR H p s ps xs) (hl : (stB i t ps xs).length ≤ 140737488355328) :
    SCalls Try.prog state_Bytes.id [.agg #[.int .i64 i, .int .i64 t, .slice p.a p.len p.cap, .slice s.a s.len s.cap]] H (BP H (stB i t ps xs)) := by
  apply state_Bytes.calls (sIndex := i) (sTerm := t) (sPairs := p) (sSessions := s)
  intro H1 e1 b hb H2 e2
  obtain ⟨m1, s1⟩ := hole_facts e1
  obtain ⟨q2, m2, s2⟩ := push_facts e2
  have hl' : 32 + (prsB ps).length + (sesB xs).length ≤ 140737488355328 := by unfold stB at hl; simp only [List.length_append, be_length, rowsB_len] at hl; omega
  have hbz : H.size ≤ b := by omega
  have hF : ∀ g ∈ [b], H.size ≤ g := fun g hg => by simp at hg; omega
  have W2 : WrQ H b [b] [] H2 := ⟨[b], by rw [hb, e2]; exact Wr.new H1, (m1.trans m2).mono fun _ _ e => e.elim, fun g hg => Or.inl hg⟩
  refine W2.num (by simp) fun H3 w3 => ?_
  refine w3.num (by simp only [List.length_append, be_length, List.length_nil]; omega) fun H4 w4 => ?_
  apply state_Bytes.k1.step; unfold state_Bytes.k1.body
  refine (PutRows_spec w4 (fun H' m => hr.mod (Mod.fresh m hF)) (by simp only [List.length_append, be_length, List.length_nil, rowsB_len]; omega)).mono ?_
  rintro r H5 ⟨rfl, w5⟩
  refine ⟨rfl, ?_⟩
  have m05 := w5.fresh hF
  obtain ⟨F5, W5, _, _⟩ := w5
  refine (Writer_Bytes_spec W5 (by simp only [List.length_append, be_length, List.length_nil, rowsB_len]; omega)).mono ?_
  rintro r H6 ⟨x, rfl, o, m6, hb6⟩
  refine ⟨x, rfl, x, rfl, ?_, m05.trans m6, fun g hg => by have := hb6 g hg; have := m05.size; omega⟩
  unfold stB
  simpa [List.append_assoc] using o

theorem bytes_str {bs : List UInt8} {x : Sl} {e : TypeId} (o : Own H x e 1 (bs.map bv)) : vB2S H x.a x.len fun s => s = ByteArray.mk bs.toArray := b2s_rows (Own.rows o) rfl

theorem same_bytes (a c : List UInt8) : ((ByteArray.mk a.toArray).toList == (ByteArray.mk c.toArray).toList) = decide (a = c) := by
  rw [beq_list]
  congr 1
  refine propext ⟨fun h => ?_, fun h => by rw [h]⟩
  have : a.toArray = c.toArray := by injection h
  simpa using this

def Stt.bytes (st : Stt) : List UInt8 := stB st.index st.term st.pairs st.sess
theorem flat_le {α : Type} (f : α → List UInt8) (n : Nat) : ∀ l : List α, (∀ x ∈ l, (f x).length ≤ n) → (l.map f).flatten.length ≤ l.length * n
  | [], _ => by simp
  | a :: l, h => by
    have := flat_le f n l fun x hx => h x (List.mem_cons_of_mem _ hx)
    have := h a (by simp)
    simp only [List.map_cons, List.flatten_cons, List.length_append, List.length_cons, Nat.succ_mul]; omega
theorem Stt.bytes_le {st : Stt} (ok : st.Ok) : st.bytes.length ≤ 100000 := by
  have h1 : (prsB st.pairs).length ≤ st.pairs.length * 41 := flat_le Pr.bytes 41 _ fun x hx => by
    obtain ⟨p, hp, rfl⟩ := List.mem_map.1 hx
    have := ok.kb p hp
    rw [Pr.bytes_len]; dsimp only; omega
  have h2 : (sesB st.sess).length ≤ st.sess.length * 48 := flat_le Se.bytes 48 _ fun x hx => by
    obtain ⟨p, hp, rfl⟩ := List.mem_map.1 hx
    have := (ok.sb p hp).2.2.2.2.2.2.2
    rw [Se.bytes_len]; omega
  have h3 : st.pairs.length = st.kv.length := List.length_map _
  have h4 : st.sess.length = st.ss.length := List.length_map _
  have := ok.kl
  have := ok.sl
  unfold Stt.bytes stB
  simp only [List.length_append, be_length, rowsB_len]
  omega
end
end Go.Proofs

/- STATES: which rows, which states are right. -/
set_option linter.all false
set_option linter.constructorNameAsVariable false
namespace Go.Proofs
open Go Go.KC
section
variable {H : Hp}

/-- Which rows are right. -/
def Pr.Ok (p : Pr) : Prop := 1 ≤ p.key.size ∧ p.key.size ≤ 8 ∧ p.value.size ≤ 16 ∧ (p.gone = true → p.value.size = 0)
def Se.Ok (x : Se) : Prop := 0 ≤ x.client ∧ x.client ≤ 3 ∧ 0 ≤ x.seq ∧ x.seq ≤ 1048576 ∧ 0 ≤ x.err ∧ x.err ≤ 14 ∧ x.value.size ≤ 16
instance (p : Pr) : Decidable p.Ok := by unfold Pr.Ok; infer_instance
instance (x : Se) : Decidable x.Ok := by unfold Se.Ok; infer_instance
def PrsTo (ps : List Pr) (n : Nat) : Prop := ∀ i (hi : i < ps.length), i < n → ps[i].Ok ∧ ∀ _ : 0 < i, KO.lt (ps[i - 1]'(by omega)).key ps[i].key
def SesTo (xs : List Se) (n : Nat) : Prop := ∀ i (hi : i < xs.length), i < n → xs[i].Ok ∧ ∀ _ : 0 < i, (xs[i - 1]'(by omega)).client < xs[i].client
def RowsOk (ps : List Pr) (xs : List Se) (most : Int) : Prop := PrsTo ps ps.length ∧ SesTo xs xs.length ∧ (ps.length : Int) ≤ most
instance (ps : List Pr) (n : Nat) : Decidable (PrsTo ps n) := by unfold PrsTo; infer_instance
instance (xs : List Se) (n : Nat) : Decidable (SesTo xs n) := by unfold SesTo; infer_instance
instance (ps : List Pr) (xs : List Se) (most : Int) : Decidable (RowsOk ps xs most) := by unfold RowsOk; infer_instance
theorem PrsTo.snoc {ps : List Pr} {j : Nat} (hj : j < ps.length) (h : PrsTo ps j) (h1 : ps[j].Ok) (h2 : ∀ _ : 0 < j, KO.lt (ps[j - 1]'(by omega)).key ps[j].key) : PrsTo ps (j + 1) := fun i hi hij => by
  by_cases c : i = j
  · subst c; exact ⟨h1, h2⟩
  · exact h i hi (by omega)
theorem SesTo.snoc {xs : List Se} {j : Nat} (hj : j < xs.length) (h : SesTo xs j) (h1 : xs[j].Ok) (h2 : ∀ _ : 0 < j, (xs[j - 1]'(by omega)).client < xs[j].client) : SesTo xs (j + 1) := fun i hi hij => by
  by_cases c : i = j
  · subst c; exact ⟨h1, h2⟩
  · exact h i hi (by omega)

theorem RightRows_spec {p s : Sl} {ps : List Pr} {xs : List Se} {most : Int} (hr : RR H p s ps xs) (hp : p.len ≤ 9223372036854775807) (hs : s.len ≤ 9223372036854775807) :
    SCalls Try.prog state_RightRows.id [.slice p.a p.len p.cap, .slice s.a s.len s.cap, .int .i64 most] H (TellPost H (.bool (decide (RowsOk ps xs most)))) := by
  obtain ⟨lp, ls⟩ := hr.lens
  apply state_RightRows.calls
  have loop2 : ∀ (d j : Nat) (H2 : Hp), j + d = xs.length → Mod (fun _ => False) H H2 → PrsTo ps ps.length → SesTo xs j →
      state_RightRows.l2 J0 p s most H2 (j : Int) (TellPost H (.bool (decide (RowsOk ps xs most)))) := by
    intro d
    induction d with
    | zero =>
      intro j H2 hj m h1 h2
      apply state_RightRows.l2.step; unfold state_RightRows.l2.body
      obtain rfl : j = xs.length := by omega
      refine Br.no (by simp; omega) ⟨?_, m⟩
      rw [← lp]
      congr 1
      refine decide_eq_decide.2 ⟨fun h => ⟨h1, h2, h⟩, fun h => h.2.2⟩
    | succ d ih =>
      intro j H2 hj m h1 h2
      apply state_RightRows.l2.step; unfold state_RightRows.l2.body
      have hjl : j < xs.length := by omega
      obtain ⟨a, ha, hrow⟩ := row_get' (by omega) Se.row_len (hr.mod m).2 hjl
      refine Br.yes (by simp; omega) ⟨⟨by omega, by omega⟩, vPtr.mk a ha ⟨xs[j].client, xs[j].seq, xs[j].err, xs[j].value, by simpa [Se.row] using hrow, fun H3 e3 => ?_⟩⟩
      obtain ⟨m3, s3⟩ := hole_facts e3
      have no : (¬ (xs[j].Ok ∧ ∀ _ : 0 < j, (xs[j - 1]'(by omega)).client < xs[j].client)) → state_RightRows.k2 J0 p s most (j : Int) xs[j].client xs[j].seq xs[j].err xs[j].value H3 true (TellPost H (.bool (decide (RowsOk ps xs most)))) := by
        intro hn
        apply state_RightRows.k2.step; unfold state_RightRows.k2.body
        refine Br.yes rfl ⟨?_, m.trans m3⟩
        rw [decide_eq_false fun h : RowsOk ps xs most => hn (h.2.1 j hjl hjl)]
      have yes : xs[j].Ok → (∀ _ : 0 < j, (xs[j - 1]'(by omega)).client < xs[j].client) → state_RightRows.k2 J0 p s most (j : Int) xs[j].client xs[j].seq xs[j].err xs[j].value H3 false (TellPost H (.bool (decide (RowsOk ps xs most)))) := by
        intro g1 g2
        apply state_RightRows.k2.step; unfold state_RightRows.k2.body
        refine Br.no rfl ?_
        rw [w64_id (x := (j : Int) + 1) (by omega) (by omega)]
        have := ih (j + 1) H3 (by omega) (m.trans m3) h1 (h2.snoc hjl g1 g2)
        simpa using this
      refine Br.mk (fun h => no fun ⟨⟨a1, a2, a3, a4, a5, a6, a7⟩, _⟩ => by have := of_decide_eq_true h; omega) fun h => ?_
      have b1 := of_decide_eq_false h
      refine Br.mk (fun h => no fun ⟨⟨a1, a2, a3, a4, a5, a6, a7⟩, _⟩ => by have := of_decide_eq_true h; omega) fun h => ?_
      have b2 := of_decide_eq_false h
      refine Br.mk (fun h => no fun ⟨⟨a1, a2, a3, a4, a5, a6, a7⟩, _⟩ => by have := of_decide_eq_true h; omega) fun h => ?_
      have b3 := of_decide_eq_false h
      refine Br.mk (fun h => no fun ⟨⟨a1, a2, a3, a4, a5, a6, a7⟩, _⟩ => by have := of_decide_eq_true h; omega) fun h => ?_
      have b4 := of_decide_eq_false h
      refine Br.mk (fun h => no fun ⟨⟨a1, a2, a3, a4, a5, a6, a7⟩, _⟩ => by have := of_decide_eq_true h; omega) fun h => ?_
      have b5 := of_decide_eq_false h
      refine Br.mk (fun h => no fun ⟨⟨a1, a2, a3, a4, a5, a6, a7⟩, _⟩ => by have := of_decide_eq_true h; omega) fun h => ?_
      have b6 := of_decide_eq_false h
      refine Br.mk (fun h => no fun ⟨⟨a1, a2, a3, a4, a5, a6, a7⟩, _⟩ => by have := of_decide_eq_true h; omega) fun h => ?_
      have b7 := of_decide_eq_false h
      have ok : xs[j].Ok := ⟨by omega, by omega, by omega, by omega, by omega, by omega, by omega⟩
      refine Br.mk (fun h => ?_) fun h => yes ok fun h0 => by have := of_decide_eq_false h; omega
      have h0 : 0 < j := by have := of_decide_eq_true h; omega
      rw [w64_id (x := (j : Int) - 1) (by omega) (by omega)]
      refine ⟨⟨by omega, by omega⟩, ?_⟩
      obtain ⟨a1, ha1, hrow1⟩ := row_get' (by omega) Se.row_len (hr.mod (m.trans m3)).2 (show j - 1 < xs.length by omega)
      refine vPtr.mk a1 ha1 ⟨(xs[j - 1]'(by omega)).client, ?_, ?_⟩
      · have := hrow1 0 (.int .i64 (xs[j - 1]'(by omega)).client) rfl
        have e : ((j : Int) - 1).toNat = j - 1 := by omega
        rw [e]
        rwa [add_zero_of] at this
      · by_cases c : (xs[j - 1]'(by omega)).client ≥ xs[j].client
        · rw [decide_eq_true c]; exact no fun ⟨_, g⟩ => by have := g h0; omega
        · rw [decide_eq_false c]; exact yes ok fun _ => by omega
  have loop1 : ∀ (d j : Nat) (H2 : Hp), j + d = ps.length → Mod (fun _ => False) H H2 → PrsTo ps j →
      state_RightRows.l1 J0 p s most H2 (j : Int) (TellPost H (.bool (decide (RowsOk ps xs most)))) := by
    intro d
    induction d with
    | zero =>
      intro j H2 hj m h1
      apply state_RightRows.l1.step; unfold state_RightRows.l1.body
      obtain rfl : j = ps.length := by omega
      exact Br.no (by simp; omega) (loop2 xs.length 0 H2 (by omega) m h1 fun i hi h => by omega)
    | succ d ih =>
      intro j H2 hj m h1
      apply state_RightRows.l1.step; unfold state_RightRows.l1.body
      have hjl : j < ps.length := by omega
      obtain ⟨a, ha, hrow⟩ := row_get' (by omega) Pr.row_len (hr.mod m).1 hjl
      refine Br.yes (by simp; omega) ⟨⟨by omega, by omega⟩, vPtr.mk a ha ⟨ps[j].key, ps[j].value, ps[j].gone, by simpa [Pr.row] using hrow, fun H3 e3 => ?_⟩⟩
      obtain ⟨m3, s3⟩ := hole_facts e3
      have no : (¬ (ps[j].Ok ∧ ∀ _ : 0 < j, KO.lt (ps[j - 1]'(by omega)).key ps[j].key)) → state_RightRows.k1 J0 p s most (j : Int) ps[j].key ps[j].value ps[j].gone H3 true (TellPost H (.bool (decide (RowsOk ps xs most)))) := by
        intro hn
        apply state_RightRows.k1.step; unfold state_RightRows.k1.body
        refine Br.yes rfl ⟨?_, m.trans m3⟩
        rw [decide_eq_false fun h : RowsOk ps xs most => hn (h.1 j hjl hjl)]
      have yes : ps[j].Ok → (∀ _ : 0 < j, KO.lt (ps[j - 1]'(by omega)).key ps[j].key) → state_RightRows.k1 J0 p s most (j : Int) ps[j].key ps[j].value ps[j].gone H3 false (TellPost H (.bool (decide (RowsOk ps xs most)))) := by
        intro g1 g2
        apply state_RightRows.k1.step; unfold state_RightRows.k1.body
        refine Br.no rfl ?_
        rw [w64_id (x := (j : Int) + 1) (by omega) (by omega)]
        have := ih (j + 1) H3 (by omega) (m.trans m3) (h1.snoc hjl g1 g2)
        simpa using this
      have last : ps[j].Ok → Br (decide ((j : Int) > 0)) (((0 : Int) ≤ (w64 ((j : Int) - 1)) ∧ (w64 ((j : Int) - 1)) < ((p.len : Nat) : Int)) ∧ vPtr p.a (fun a1 => ∃ Key1 : ByteArray, Hp.cell? H3 (a1.add (((w64 ((j : Int) - 1)) : Int).toNat * 3)) = some (.string Key1) ∧ 
          state_RightRows.k1 J0 p s most (j : Int) ps[j].key ps[j].value ps[j].gone H3 (!(Op.bytesLess Key1.toList (ps[j].key).toList)) (TellPost H (.bool (decide (RowsOk ps xs most))))))
          (state_RightRows.k1 J0 p s most (j : Int) ps[j].key ps[j].value ps[j].gone H3 false (TellPost H (.bool (decide (RowsOk ps xs most))))) := by
        intro ok
        refine Br.mk (fun h => ?_) fun h => yes ok fun h0 => by have := of_decide_eq_false h; omega
        have h0 : 0 < j := by have := of_decide_eq_true h; omega
        rw [w64_id (x := (j : Int) - 1) (by omega) (by omega)]
        refine ⟨⟨by omega, by omega⟩, ?_⟩
        obtain ⟨a1, ha1, hrow1⟩ := row_get' (by omega) Pr.row_len (hr.mod (m.trans m3)).1 (show j - 1 < ps.length by omega)
        refine vPtr.mk a1 ha1 ⟨(ps[j - 1]'(by omega)).key, ?_, ?_⟩
        · have := hrow1 0 (.string (ps[j - 1]'(by omega)).key) rfl
          have e : ((j : Int) - 1).toNat = j - 1 := by omega
          rw [e]
          rwa [add_zero_of] at this
        · cases c : Op.bytesLess (ps[j - 1]'(by omega)).key.toList (ps[j].key).toList with
          | true => exact yes ok fun _ => c
          | false => exact no fun ⟨_, g⟩ => by have g := g h0; rw [show KO.lt (ps[j - 1]'(by omega)).key ps[j].key = (Op.bytesLess (ps[j - 1]'(by omega)).key.toList (ps[j].key).toList = true) from rfl, c] at g; cases g
      rw [beqL_nil]
      refine Br.mk (fun h => no fun ⟨⟨a1, a2, a3, a4⟩, _⟩ => by have := of_decide_eq_true h; omega) fun h => ?_
      have b1 := of_decide_eq_false h
      refine Br.mk (fun h => no fun ⟨⟨a1, a2, a3, a4⟩, _⟩ => by have := of_decide_eq_true h; omega) fun h => ?_
      have b2 := of_decide_eq_false h
      refine Br.mk (fun h => no fun ⟨⟨a1, a2, a3, a4⟩, _⟩ => by have := of_decide_eq_true h; omega) fun h => ?_
      have b3 := of_decide_eq_false h
      refine Br.mk (fun hg => ?_) fun hg => last ⟨by omega, by omega, by omega, fun e => by rw [hg] at e; cases e⟩
      rw [beqL_nil]
      refine Br.mk (fun h => no fun ⟨⟨a1, a2, a3, a4⟩, _⟩ => ?_) fun h => last ⟨by omega, by omega, by omega, fun _ => ?_⟩
      · have := a4 hg; simp [this] at h
      · simpa using h
  exact loop1 ps.length 0 H (by omega) (Mod.refl _ _) fun i hi h => by omega

/-- Which states are right. -/
def RightM (i t : Int) (ps : List Pr) (xs : List Se) : Prop := (∀ p ∈ ps, p.gone = false) ∧ 0 ≤ i ∧ i ≤ 1048576 ∧ 0 ≤ t ∧ t ≤ 1048576 ∧ RowsOk ps xs 64
instance (i t : Int) (ps : List Pr) (xs : List Se) : Decidable (RightM i t ps xs) := by unfold RightM; infer_instance
theorem Right_spec {i t : Int} {p s : Sl} {ps : List Pr} {xs : List Se} (hr : RR H p s ps xs) (hp : p.len ≤ 9223372036854775807) (hs : s.len ≤ 9223372036854775807) :
    SCalls Try.prog state_Right.id [.agg #[.int .i64 i, .int .i64 t, .slice p.a p.len p.cap, .slice s.a s.len s.cap]] H (TellPost H (.bool (decide (RightM i t ps xs)))) := by
  obtain ⟨lp, ls⟩ := hr.lens
  apply state_Right.calls (sIndex := i) (sTerm := t) (sPairs := p) (sSessions := s)
  intro H1 e1
  obtain ⟨m1, _⟩ := hole_facts e1
  have k3 : ∀ (H2 : Hp) (b : Bool), Mod (fun _ => False) H H2 → (∀ p ∈ ps, p.gone = false) → (b = true ↔ 0 ≤ i ∧ i ≤ 1048576 ∧ 0 ≤ t ∧ t ≤ 1048576) → state_Right.k3 J0 i t p s H2 b (TellPost H (.bool (decide (RightM i t ps xs)))) := by
    intro H2 b m hg hb
    apply state_Right.k3.step; unfold state_Right.k3.body
    refine Br.mk (fun h => ?_) (fun h => ?_)
    · have hb := hb.1 h
      refine (RightRows_spec (most := 64) (hr.mod m) hp hs).mono ?_
      rintro r H3 ⟨rfl, m3⟩
      refine ⟨_, rfl, ?_, m.trans m3⟩
      congr 1
      exact decide_eq_decide.2 ⟨fun h => ⟨hg, hb.1, hb.2.1, hb.2.2.1, hb.2.2.2, h⟩, fun h => h.2.2.2.2.2⟩
    · refine ⟨?_, m⟩
      rw [decide_eq_false fun g : RightM i t ps xs => by have := hb.2 ⟨g.2.1, g.2.2.1, g.2.2.2.1, g.2.2.2.2.1⟩; rw [h] at this; cases this]
  have k2 : ∀ (H2 : Hp) (b : Bool), Mod (fun _ => False) H H2 → (∀ p ∈ ps, p.gone = false) → (b = true ↔ 0 ≤ i ∧ i ≤ 1048576 ∧ 0 ≤ t) → state_Right.k2 J0 i t p s H2 b (TellPost H (.bool (decide (RightM i t ps xs)))) := by
    intro H2 b m hg hb
    apply state_Right.k2.step; unfold state_Right.k2.body
    refine Br.mk (fun h => k3 H2 _ m hg ?_) (fun h => k3 H2 _ m hg ?_)
    · have := hb.1 h; simp; omega
    · simp; intro g1 g2 g3; have := hb.2 ⟨g1, g2, g3⟩; rw [h] at this; cases this
  have k1 : ∀ (H2 : Hp) (b : Bool), Mod (fun _ => False) H H2 → (∀ p ∈ ps, p.gone = false) → (b = true ↔ 0 ≤ i ∧ i ≤ 1048576) → state_Right.k1 J0 i t p s H2 b (TellPost H (.bool (decide (RightM i t ps xs)))) := by
    intro H2 b m hg hb
    apply state_Right.k1.step; unfold state_Right.k1.body
    refine Br.mk (fun h => k2 H2 _ m hg ?_) (fun h => k2 H2 _ m hg ?_)
    · have := hb.1 h; simp; omega
    · simp; intro g1 g2; have := hb.2 ⟨g1, g2⟩; rw [h] at this; cases this
  have loop : ∀ (d j : Nat) (H2 : Hp), j + d = ps.length → Mod (fun _ => False) H H2 → (∀ q ∈ ps.take j, q.gone = false) →
      state_Right.l1 J0 i t p s H2 (j : Int) (TellPost H (.bool (decide (RightM i t ps xs)))) := by
    intro d
    induction d with
    | zero =>
      intro j H2 hj m hg
      apply state_Right.l1.step; unfold state_Right.l1.body
      rw [List.take_of_length_le (by omega)] at hg
      refine Br.no (by simp; omega) (Br.mk (fun h => k1 H2 _ m hg ?_) (fun h => k1 H2 _ m hg ?_))
      · have := of_decide_eq_true h; simp; omega
      · have := of_decide_eq_false h; simp; omega
    | succ d ih =>
      intro j H2 hj m hg
      apply state_Right.l1.step; unfold state_Right.l1.body
      have hjl : j < ps.length := by omega
      obtain ⟨a, ha, hrow⟩ := row_get' (by omega) Pr.row_len (hr.mod m).1 hjl
      refine Br.yes (by simp; omega) ⟨⟨by omega, by omega⟩, vPtr.mk a ha ⟨ps[j].key, ps[j].value, ps[j].gone, by simpa [Pr.row] using hrow, fun H3 e3 => ?_⟩⟩
      obtain ⟨m3, s3⟩ := hole_facts e3
      refine Br.mk (fun h => ⟨?_, m.trans m3⟩) (fun h => ?_)
      · rw [decide_eq_false fun g : RightM i t ps xs => by have := g.1 _ (List.getElem_mem hjl); rw [h] at this; cases this]
      · rw [w64_id (x := (j : Int) + 1) (by omega) (by omega)]
        have := ih (j + 1) H3 (by omega) (m.trans m3) (fun q hq => by
          rw [List.take_succ_eq_append_getElem hjl, List.mem_append, List.mem_singleton] at hq
          rcases hq with hq | rfl
          · exact hg q hq
          · exact h)
        simpa using this
  exact loop ps.length 0 H1 (by omega) m1 (by simp)
end
end Go.Proofs

/- STATES: rows and states read of bytes: plain, and ReadRows, Read: the walks. -/
set_option linter.all false
set_option linter.constructorNameAsVariable false
namespace Go.Proofs
open Go Go.KC

theorem rdNum_good {bad : Bool} {xs : List UInt8} (h : (rdNum bad xs).2.1 = false) : bad = false ∧ (rdNum bad xs).2.2.length + 8 = xs.length := by
  unfold rdNum at h ⊢
  cases ht : tkok bad 8 xs.length with
  | true =>
    have := ht
    simp [tkok] at this
    exact ⟨this.1, by simp; omega⟩
  | false => rw [ht] at h; cases h
theorem rdByte_good {bad : Bool} {xs : List UInt8} (h : (rdByte bad xs).2.1 = false) : bad = false ∧ (rdByte bad xs).2.2.length + 1 = xs.length := by
  unfold rdByte at h ⊢
  cases ht : tkok bad 1 xs.length with
  | true =>
    have := ht
    simp [tkok] at this
    exact ⟨this.1, by simp; omega⟩
  | false => rw [ht] at h; cases h
theorem rdText_good {bad : Bool} {xs : List UInt8} (h : (rdText bad xs).2.1 = false) : bad = false ∧ (rdText bad xs).2.2.length + 8 ≤ xs.length := by
  unfold rdText at h ⊢
  dsimp only at h ⊢
  cases ht : tkok (rdNum bad xs).2.1 (rdNum bad xs).1 (rdNum bad xs).2.2.length with
  | true =>
    have := ht
    simp [tkok] at this
    have hn := rdNum_good this.1.1
    exact ⟨hn.1, by simp; omega⟩
  | false => rw [ht] at h; cases h

theorem rdNum_le (bad : Bool) (xs : List UInt8) : (rdNum bad xs).2.2.length ≤ xs.length := by
  unfold rdNum; cases tkok bad 8 xs.length <;> simp
theorem rdByte_le (bad : Bool) (xs : List UInt8) : (rdByte bad xs).2.2.length ≤ xs.length := by
  unfold rdByte; cases tkok bad 1 xs.length <;> simp
theorem rdText_le (bad : Bool) (xs : List UInt8) : (rdText bad xs).2.2.length ≤ xs.length := by
  unfold rdText; dsimp only
  have := rdNum_le bad xs
  cases tkok (rdNum bad xs).2.1 (rdNum bad xs).1 (rdNum bad xs).2.2.length <;> simp <;> omega
theorem rdNum_bd (bad : Bool) (xs : List UInt8) : -9223372036854775808 ≤ (rdNum bad xs).1 ∧ (rdNum bad xs).1 ≤ 9223372036854775807 := by
  unfold rdNum; cases tkok bad 8 xs.length
  · simp
  · exact numOf_range _ _ (by omega) (by omega)

def rdPr (xs : List UInt8) : Pr × Bool × List UInt8 :=
  let k := rdText false xs
  let v := rdText k.2.1 k.2.2
  let c := rdByte v.2.1 v.2.2
  (⟨if c.1 > 1 then ByteArray.mk #[] else ⟨k.1.toArray⟩, ⟨v.1.toArray⟩, c.1 == 1⟩, c.2.1, c.2.2)
def rdSe (xs : List UInt8) : Se × Bool × List UInt8 :=
  let a := rdNum false xs
  let b := rdNum a.2.1 a.2.2
  let c := rdNum b.2.1 b.2.2
  let v := rdText c.2.1 c.2.2
  (⟨a.1, b.1, c.1, ⟨v.1.toArray⟩⟩, v.2.1, v.2.2)
theorem rdPr_good {xs : List UInt8} (h : (rdPr xs).2.1 = false) : (rdPr xs).2.2.length + 17 ≤ xs.length := by
  have h1 := rdByte_good h
  have h2 := rdText_good h1.1
  have h3 := rdText_good h2.1
  have e : (rdPr xs).2.2 = (rdByte (rdText (rdText false xs).2.1 (rdText false xs).2.2).2.1 (rdText (rdText false xs).2.1 (rdText false xs).2.2).2.2).2.2 := rfl
  rw [e]; omega
theorem rdSe_good {xs : List UInt8} (h : (rdSe xs).2.1 = false) : (rdSe xs).2.2.length + 32 ≤ xs.length := by
  have h1 := rdText_good h
  have h2 := rdNum_good h1.1
  have h3 := rdNum_good h2.1
  have h4 := rdNum_good h3.1
  have e : (rdSe xs).2.2 = (rdText (rdNum (rdNum (rdNum false xs).2.1 (rdNum false xs).2.2).2.1 (rdNum (rdNum false xs).2.1 (rdNum false xs).2.2).2.2).2.1 (rdNum (rdNum (rdNum false xs).2.1 (rdNum false xs).2.2).2.1 (rdNum (rdNum false xs).2.1 (rdNum false xs).2.2).2.2).2.2).2.2 := rfl
  rw [e]; omega
theorem rdPr_le (xs : List UInt8) : (rdPr xs).2.2.length ≤ xs.length := by
  have h1 := rdText_le false xs
  have h2 := rdText_le (rdText false xs).2.1 (rdText false xs).2.2
  have h3 := rdByte_le (rdText (rdText false xs).2.1 (rdText false xs).2.2).2.1 (rdText (rdText false xs).2.1 (rdText false xs).2.2).2.2
  have e : (rdPr xs).2.2 = (rdByte (rdText (rdText false xs).2.1 (rdText false xs).2.2).2.1 (rdText (rdText false xs).2.1 (rdText false xs).2.2).2.2).2.2 := rfl
  rw [e]; omega
theorem rdText_of (s : ByteArray) (t : List UInt8) (hs : s.size ≤ 9223372036854775807) : rdText false (textB s ++ t) = (s.data.toList, false, t) := by
  unfold textB
  rw [List.append_assoc]
  have := rdText_text s.data.toList t (by rw [ba_len]; exact hs)
  rwa [ba_len] at this
theorem rdPr_of (p : Pr) (t : List UInt8) (hk : p.key.size ≤ 9223372036854775807) (hv : p.value.size ≤ 9223372036854775807) : rdPr (p.bytes ++ t) = (p, false, t) := by
  unfold rdPr Pr.bytes
  simp only [List.append_assoc]
  rw [rdText_of _ _ hk]
  dsimp only
  rw [rdText_of _ _ hv]
  dsimp only
  rw [List.singleton_append, rdByte_one]
  obtain ⟨k, v, g⟩ := p
  have e1 : (⟨k.data.toList.toArray⟩ : ByteArray) = k := ba_mk k
  have e2 : (⟨v.data.toList.toArray⟩ : ByteArray) = v := ba_mk v
  cases g <;> simp [goneB, e1, e2]
def Se.fits (x : Se) : Prop := (-9223372036854775808 ≤ x.client ∧ x.client ≤ 9223372036854775807) ∧ (-9223372036854775808 ≤ x.seq ∧ x.seq ≤ 9223372036854775807) ∧ (-9223372036854775808 ≤ x.err ∧ x.err ≤ 9223372036854775807) ∧ x.value.size ≤ 9223372036854775807
def Pr.fits (p : Pr) : Prop := p.key.size ≤ 9223372036854775807 ∧ p.value.size ≤ 9223372036854775807
theorem rdSe_of (x : Se) (t : List UInt8) (h : x.fits) : rdSe (x.bytes ++ t) = (x, false, t) := by
  obtain ⟨h1, h2, h3, h4⟩ := h
  unfold rdSe Se.bytes
  simp only [List.append_assoc]
  rw [rdNum_be h1.1 h1.2]
  dsimp only
  rw [rdNum_be h2.1 h2.2]
  dsimp only
  rw [rdNum_be h3.1 h3.2]
  dsimp only
  rw [rdText_of _ _ h4]

def rdPrs : Nat → Int → Bool → List UInt8 → List Pr × Bool × List UInt8
  | 0, _, bad, xs => ([], bad, xs)
  | f + 1, n, bad, xs => if n > 0 ∧ bad = false then ((rdPr xs).1 :: (rdPrs f (n - 1) (rdPr xs).2.1 (rdPr xs).2.2).1, (rdPrs f (n - 1) (rdPr xs).2.1 (rdPr xs).2.2).2) else ([], bad, xs)
def rdSes : Nat → Int → Bool → List UInt8 → List Se × Bool × List UInt8
  | 0, _, bad, xs => ([], bad, xs)
  | f + 1, n, bad, xs => if n > 0 ∧ bad = false then ((rdSe xs).1 :: (rdSes f (n - 1) (rdSe xs).2.1 (rdSe xs).2.2).1, (rdSes f (n - 1) (rdSe xs).2.1 (rdSe xs).2.2).2) else ([], bad, xs)
theorem rdPrs_le : ∀ (f : Nat) (n : Int) (bad : Bool) (xs : List UInt8), (rdPrs f n bad xs).2.2.length ≤ xs.length
  | 0, _, _, _ => Nat.le_refl _
  | f + 1, n, bad, xs => by
    rw [rdPrs]
    split
    · exact Nat.le_trans (rdPrs_le f _ _ _) (rdPr_le xs)
    · exact Nat.le_refl _
theorem rdPrs_cnt : ∀ (f : Nat) (n : Int) (bad : Bool) (xs : List UInt8), (rdPrs f n bad xs).1.length * 17 ≤ xs.length + 17
  | 0, _, _, _ => by simp [rdPrs]
  | f + 1, n, bad, xs => by
    rw [rdPrs]
    split
    · rename_i h
      simp only [List.length_cons]
      cases hb : (rdPr xs).2.1 with
      | true => have : (rdPrs f (n - 1) true (rdPr xs).2.2).1 = [] := by cases f <;> simp [rdPrs]
                rw [this]; simp
      | false =>
        have := rdPrs_cnt f (n - 1) false (rdPr xs).2.2
        have := rdPr_good hb
        omega
    · simp
theorem rdSes_cnt : ∀ (f : Nat) (n : Int) (bad : Bool) (xs : List UInt8), (rdSes f n bad xs).1.length * 32 ≤ xs.length + 32
  | 0, _, _, _ => by simp [rdSes]
  | f + 1, n, bad, xs => by
    rw [rdSes]
    split
    · rename_i h
      simp only [List.length_cons]
      cases hb : (rdSe xs).2.1 with
      | true => have : (rdSes f (n - 1) true (rdSe xs).2.2).1 = [] := by cases f <;> simp [rdSes]
                rw [this]; simp
      | false =>
        have := rdSes_cnt f (n - 1) false (rdSe xs).2.2
        have := rdSe_good hb
        omega
    · simp
theorem rdPrs_of : ∀ (ps : List Pr) (f : Nat) (t : List UInt8), ps.length ≤ f → (∀ p ∈ ps, p.fits) → rdPrs f ps.length false (prsB ps ++ t) = (ps, false, t)
  | [], 0, t, _, _ => rfl
  | [], f + 1, t, _, _ => by unfold rdPrs; rw [if_neg (by simp)]; rfl
  | p :: ps, 0, t, h, _ => by simp at h
  | p :: ps, f + 1, t, h, hf => by
    have e : prsB (p :: ps) ++ t = p.bytes ++ (prsB ps ++ t) := by unfold prsB; simp only [List.map_cons, List.flatten_cons, List.append_assoc]
    have h1 := hf p (by simp)
    unfold rdPrs
    rw [e, rdPr_of p _ h1.1 h1.2, if_pos ⟨by simp only [List.length_cons]; omega, rfl⟩]
    have e2 : ((p :: ps).length : Int) - 1 = (ps.length : Int) := by simp
    dsimp only
    rw [e2, rdPrs_of ps f t (by simpa using h) fun q hq => hf q (List.mem_cons_of_mem _ hq)]
theorem rdSes_of : ∀ (ps : List Se) (f : Nat) (t : List UInt8), ps.length ≤ f → (∀ p ∈ ps, p.fits) → rdSes f ps.length false (sesB ps ++ t) = (ps, false, t)
  | [], 0, t, _, _ => rfl
  | [], f + 1, t, _, _ => by unfold rdSes; rw [if_neg (by simp)]; rfl
  | p :: ps, 0, t, h, _ => by simp at h
  | p :: ps, f + 1, t, h, hf => by
    have e : sesB (p :: ps) ++ t = p.bytes ++ (sesB ps ++ t) := by unfold sesB; simp only [List.map_cons, List.flatten_cons, List.append_assoc]
    have h1 := hf p (by simp)
    unfold rdSes
    rw [e, rdSe_of p _ h1, if_pos ⟨by simp only [List.length_cons]; omega, rfl⟩]
    have e2 : ((p :: ps).length : Int) - 1 = (ps.length : Int) := by simp
    dsimp only
    rw [e2, rdSes_of ps f t (by simpa using h) fun q hq => hf q (List.mem_cons_of_mem _ hq)]
def rdRowsP (bad : Bool) (bs : List UInt8) : List Pr × Bool × List UInt8 := rdPrs (bs.length + 1) (rdNum bad bs).1 (rdNum bad bs).2.1 (rdNum bad bs).2.2
def rdRowsS (N : Nat) (bad : Bool) (bs : List UInt8) : List Se × Bool × List UInt8 := rdSes N (rdNum bad bs).1 (rdNum bad bs).2.1 (rdNum bad bs).2.2
def rdRows (bad : Bool) (bs : List UInt8) : List Pr × List Se × Bool × List UInt8 :=
  ((rdRowsP bad bs).1, rdRowsS (bs.length + 1) (rdRowsP bad bs).2.1 (rdRowsP bad bs).2.2)
theorem prsB_ge (ps : List Pr) : 17 * ps.length ≤ (prsB ps).length := by
  unfold prsB
  induction ps with
  | nil => simp
  | cons q l ih => simp only [List.map_cons, List.flatten_cons, List.length_append, List.length_cons, Pr.bytes_len]; omega
theorem sesB_ge (ps : List Se) : 32 * ps.length ≤ (sesB ps).length := by
  unfold sesB
  induction ps with
  | nil => simp
  | cons q l ih => simp only [List.map_cons, List.flatten_cons, List.length_append, List.length_cons, Se.bytes_len]; omega
theorem rdRows_of {ps : List Pr} {xs : List Se} (hp : ∀ p ∈ ps, p.fits) (hs : ∀ p ∈ xs, p.fits) (hl : ps.length ≤ 1000000 ∧ xs.length ≤ 1000000) (t : List UInt8) : rdRows false (rowsB ps xs ++ t) = (ps, xs, false, t) := by
  have g1 := prsB_ge ps
  have g2 := sesB_ge xs
  have hlen : (rowsB ps xs ++ t).length = 16 + (prsB ps).length + (sesB xs).length + t.length := by rw [List.length_append, rowsB_len]
  have e : rowsB ps xs ++ t = be (ps.length : Int) 8 ++ (prsB ps ++ (be (xs.length : Int) 8 ++ (sesB xs ++ t))) := by unfold rowsB; simp only [List.append_assoc]
  have e1 : rdRowsP false (rowsB ps xs ++ t) = (ps, false, be (xs.length : Int) 8 ++ (sesB xs ++ t)) := by
    unfold rdRowsP
    rw [hlen, e, rdNum_be (by omega) (by omega)]
    exact rdPrs_of ps _ _ (by omega) hp
  unfold rdRows
  rw [e1]
  dsimp only
  unfold rdRowsS
  rw [rdNum_be (by omega) (by omega)]
  dsimp only
  rw [rdSes_of xs _ _ (by omega) hs]

def rdCnt (bs : List UInt8) : Prop :=
  let a := rdNum false bs
  let b := rdNum a.2.1 a.2.2
  (rdRows b.2.1 b.2.2).1.length ≤ 90000 ∧ (rdRows b.2.1 b.2.2).2.1.length ≤ 90000
theorem rdCnt_small {bs : List UInt8} (h : bs.length ≤ 1500000) : rdCnt bs := by
  have h1 := rdNum_le false bs
  have h2 := rdNum_le (rdNum false bs).2.1 (rdNum false bs).2.2
  unfold rdCnt
  dsimp only
  generalize rdNum (rdNum false bs).2.1 (rdNum false bs).2.2 = b at h2
  have h3 := rdNum_le b.2.1 b.2.2
  have h4 := rdPrs_cnt (b.2.2.length + 1) (rdNum b.2.1 b.2.2).1 (rdNum b.2.1 b.2.2).2.1 (rdNum b.2.1 b.2.2).2.2
  have h5 := rdPrs_le (b.2.2.length + 1) (rdNum b.2.1 b.2.2).1 (rdNum b.2.1 b.2.2).2.1 (rdNum b.2.1 b.2.2).2.2
  unfold rdRows rdRowsP rdRowsS
  dsimp only
  generalize rdPrs (b.2.2.length + 1) (rdNum b.2.1 b.2.2).1 (rdNum b.2.1 b.2.2).2.1 (rdNum b.2.1 b.2.2).2.2 = q at h4 h5
  have h6 := rdNum_le q.2.1 q.2.2
  have h7 := rdSes_cnt (b.2.2.length + 1) (rdNum q.2.1 q.2.2).1 (rdNum q.2.1 q.2.2).2.1 (rdNum q.2.1 q.2.2).2.2
  exact ⟨by omega, by omega⟩
theorem rdCnt_of {i t : Int} {ps : List Pr} {xs : List Se} (hi : -9223372036854775808 ≤ i ∧ i ≤ 9223372036854775807) (ht : -9223372036854775808 ≤ t ∧ t ≤ 9223372036854775807) (hp : ∀ p ∈ ps, p.fits) (hs : ∀ p ∈ xs, p.fits) (hl : ps.length ≤ 90000 ∧ xs.length ≤ 90000) : rdCnt (stB i t ps xs) := by
  have e := rdRows_of hp hs (by omega) []
  rw [List.append_nil] at e
  have h1 : rdNum false (stB i t ps xs) = (i, false, be t 8 ++ rowsB ps xs) := rdNum_be hi.1 hi.2 _
  unfold rdCnt
  rw [h1]
  dsimp only
  rw [rdNum_be ht.1 ht.2]
  dsimp only
  rw [e]
  exact hl
theorem RightM.len {i t : Int} {ps : List Pr} {xs : List Se} (h : RightM i t ps xs) : (stB i t ps xs).length ≤ 3000 + 48 * xs.length := by
  obtain ⟨_, _, _, _, _, hp, hs, hl⟩ := h
  have h1 : (prsB ps).length ≤ ps.length * 41 := flat_le Pr.bytes 41 _ fun x hx => by
    obtain ⟨j, hj, rfl⟩ := List.getElem_of_mem hx
    have := (hp j hj hj).1
    rw [Pr.bytes_len]; unfold Pr.Ok at this; omega
  have h2 : (sesB xs).length ≤ xs.length * 48 := flat_le Se.bytes 48 _ fun x hx => by
    obtain ⟨j, hj, rfl⟩ := List.getElem_of_mem hx
    have := (hs j hj hj).1
    rw [Se.bytes_len]; unfold Se.Ok at this; omega
  unfold stB
  simp only [List.length_append, be_length, rowsB_len]
  omega

section
variable {H : Hp}
/-- The reader, while rows are read. -/
theorem rd_num {b : Nat} {D : List Nat} {bad : Bool} {xs : List UInt8} (h : Rd H b D bad xs) {K : Int → Hp → Prop} (hK : ∀ H', Mod (· = b) H H' → Rd H' b D (rdNum bad xs).2.1 (rdNum bad xs).2.2 → K (rdNum bad xs).1 H') :
    SCalls Try.prog pack_Reader_Num.id [.pointer (some ⟨b, 0, none⟩)] H (fun r H' => ∃ x : Int, r = .int .i64 x ∧ K x H') := by
  refine (Reader_Num_spec h).mono ?_
  rintro r H' ⟨rfl, m, h'⟩
  exact ⟨_, rfl, hK H' m h'⟩
theorem rd_text {b : Nat} {D : List Nat} {bad : Bool} {xs : List UInt8} (h : Rd H b D bad xs) {K : ByteArray → Hp → Prop} (hK : ∀ H', Mod (· = b) H H' → Rd H' b D (rdText bad xs).2.1 (rdText bad xs).2.2 → K ⟨(rdText bad xs).1.toArray⟩ H') :
    SCalls Try.prog pack_Reader_Text.id [.pointer (some ⟨b, 0, none⟩)] H (fun r H' => ∃ x : ByteArray, r = .string x ∧ K x H') := by
  refine (Reader_Text_spec h).mono ?_
  rintro r H' ⟨rfl, m, h'⟩
  exact ⟨_, rfl, hK H' m h'⟩
theorem rd_byte {b : Nat} {D : List Nat} {bad : Bool} {xs : List UInt8} (h : Rd H b D bad xs) {K : Int → Hp → Prop} (hK : ∀ H', Mod (· = b) H H' → Rd H' b D (rdByte bad xs).2.1 (rdByte bad xs).2.2 → K (rdByte bad xs).1 H') :
    SCalls Try.prog pack_Reader_Byte.id [.pointer (some ⟨b, 0, none⟩)] H (fun r H' => ∃ x : Int, r = .int .u8 x ∧ K x H') := by
  refine (Reader_Byte_spec h).mono ?_
  rintro r H' ⟨rfl, m, h'⟩
  exact ⟨_, rfl, hK H' m h'⟩
theorem rd_bad {b : Nat} {D : List Nat} {bad : Bool} {xs : List UInt8} (h : Rd H b D bad xs) {K : Bool → Hp → Prop} (hK : K bad H) :
    SCalls Try.prog pack_Reader_Bad.id [.pointer (some ⟨b, 0, none⟩)] H (fun r H' => ∃ x : Bool, r = .bool x ∧ K x H') := by
  refine (Reader_Bad_spec h).mono ?_
  rintro r H' ⟨rfl, rfl⟩
  exact ⟨_, rfl, hK⟩

theorem ReadRows_spec {b : Nat} {D : List Nat} {bad : Bool} {bs : List UInt8} (h : Rd H b D bad bs) (hD : ∀ g ∈ D, g < H.size) (hl : (rdRows bad bs).1.length ≤ 90000 ∧ (rdRows bad bs).2.1.length ≤ 90000) :
    SCalls Try.prog state_ReadRows.id [.pointer (some ⟨b, 0, none⟩)] H fun r H' => ∃ p s : Sl, r = .tuple #[.slice p.a p.len p.cap, .slice s.a s.len s.cap] ∧ RR H' p s (rdRows bad bs).1 (rdRows bad bs).2.1 ∧ Rd H' b D (rdRows bad bs).2.2.1 (rdRows bad bs).2.2.2 ∧ Mod (· = b) H H' := by
  have hb : b < H.size := by obtain ⟨x, h1, _⟩ := h; exact lt_of_get h1
  have hbD : b ∉ D := by obtain ⟨_, _, _, _, h⟩ := h; exact h
  apply state_ReadRows.calls
  have loop2 : ∀ (p : Sl) (ps : List Pr) (n0 : Nat), (∀ q ∈ p.blk, H.size ≤ q ∧ q < n0) → H.size ≤ n0 →
      ∀ (f : Nat) (H2 : Hp) (s : Sl) (n : Int) (bad' : Bool) (xs : List UInt8) (pre : List Se), n0 ≤ H2.size → (bad' = true ∨ xs.length < f) → pre.length + (rdSes f n bad' xs).1.length ≤ 90000 → n ≤ 9223372036854775807 →
      Rd H2 b D bad' xs → Own H2 p T_api_Pair 3 (ps.map Pr.row).flatten → Own H2 s T_api_Session 4 (pre.map Se.row).flatten → (∀ q ∈ s.blk, n0 ≤ q) → Mod (fun q => q = b ∨ H.size ≤ q) H H2 →
      ∀ Q : Value → Hp → Prop, (∀ H' (s' : Sl), RR H' p s' ps (pre ++ (rdSes f n bad' xs).1) → Rd H' b D (rdSes f n bad' xs).2.1 (rdSes f n bad' xs).2.2 → Mod (fun q => q = b ∨ H.size ≤ q) H H' → Q (.tuple #[.slice p.a p.len p.cap, .slice s'.a s'.len s'.cap]) H') →
      state_ReadRows.l2 J0 ⟨b, 0, none⟩ p H2 s n Q := by
    intro p ps n0 hp hn0 f
    induction f with
    | zero =>
      intro H2 s n bad' xs pre hz hbf hc hn rd oP oS hs m Q hQ
      have hbt : bad' = true := hbf.elim id fun h => by omega
      subst hbt
      apply state_ReadRows.l2.step; unfold state_ReadRows.l2.body
      have fin := hQ H2 s ⟨Own.rows oP, by simpa [rdSes] using Own.rows oS⟩ rd m
      refine Br.mk (fun _ => rd_bad rd (Br.no rfl fin)) fun _ => fin
    | succ f ih =>
      intro H2 s n bad' xs pre hz hbf hc hn rd oP oS hs m Q hQ
      apply state_ReadRows.l2.step; unfold state_ReadRows.l2.body
      by_cases hgo : n > 0 ∧ bad' = false
      rotate_left
      · have e : rdSes (f + 1) n bad' xs = ([], bad', xs) := by unfold rdSes; rw [if_neg hgo]
        rw [e] at hQ
        have fin := hQ H2 s ⟨Own.rows oP, by simpa using Own.rows oS⟩ rd m
        refine Br.mk (fun hp => rd_bad rd (Br.no ?_ fin)) fun _ => fin
        have : n > 0 := of_decide_eq_true hp
        cases bad' with
        | true => rfl
        | false => exact (hgo ⟨this, rfl⟩).elim
      obtain ⟨hpos, rfl⟩ := hgo
      have e : rdSes (f + 1) n false xs = ((rdSe xs).1 :: (rdSes f (n - 1) (rdSe xs).2.1 (rdSe xs).2.2).1, (rdSes f (n - 1) (rdSe xs).2.1 (rdSe xs).2.2).2) := by rw [rdSes]; rw [if_pos ⟨hpos, rfl⟩]
      rw [e] at hQ hc
      rw [List.length_cons] at hc
      refine Br.yes (decide_eq_true hpos) (rd_bad rd (Br.yes rfl ?_))
      apply state_ReadRows.k4.step; unfold state_ReadRows.k4.body
      have mb : ∀ {H3 H4 : Hp}, Mod (· = b) H3 H4 → Mod (fun q => q = b ∨ H.size ≤ q) H3 H4 := fun m => m.mono fun _ _ h => Or.inl h
      refine rd_num rd fun H3 m3 rd3 => fun H4 e4 => ?_
      obtain ⟨m4, _⟩ := hole_facts e4
      refine rd_num (rd3.keep m4 (fun e => e) fun _ _ e => e) fun H5 m5 rd5 => ?_
      refine rd_num rd5 fun H6 m6 rd6 => ?_
      refine rd_text rd6 fun H7 m7 rd7 => ?_
      have m27 : Mod (· = b) H2 H7 := m3.trans ((m4.mono fun _ _ e => e.elim).trans (m5.trans (m6.trans m7)))
      have oS7 := oS.keep m27 fun q hq e => by have := hs q hq; have e : q = b := e; omega
      have oP7 := oP.keep m27 fun q hq e => by have := (hp q hq).1; have e : q = b := e; omega
      have z27 := m27.size
      have hsl := rows_len' (by omega) Se.row_len (Own.rows oS)
      refine addEl (p := (rdSe xs).1.row) elSess oS7 rfl rfl (by omega) fun ys H8 o8 b8 m8 => ?_
      have hw : w64 (n - 1) = n - 1 := w64_id (by omega) (by omega)
      rw [hw]
      have good : (rdSe xs).2.1 = false → (rdSe xs).2.2.length + 32 ≤ xs.length := rdSe_good
      refine ih H8 ys (n - 1) (rdSe xs).2.1 (rdSe xs).2.2 (pre ++ [(rdSe xs).1]) (by have := m8.size; omega) ?_ (by rw [List.length_append, List.length_singleton]; omega) (by omega) (rd7.keep m8 (fun hq => by have := hs b hq; omega) fun g hg hq => by have := hD g hg; have := hs g hq; omega)
        (oP7.keep m8 fun q hq h => by have := hp q hq; have := hs q h; omega) (by rw [List.map_append, List.flatten_append]; simpa using o8) (fun q hq => (b8 q hq).elim (hs q) fun h => by omega)
        (m.trans ((mb m27).trans (m8.mono fun q _ h => Or.inr (by have := hs q h; omega)))) Q fun H' s' rr rd' m' => hQ H' s' (by simpa [List.append_assoc] using rr) rd' m'
      · cases hb' : (rdSe xs).2.1 with
        | true => exact Or.inl rfl
        | false => have := good hb'; exact Or.inr (by rcases hbf with h | h; cases h; omega)
  have loop1 : ∀ (f : Nat) (H2 : Hp) (p : Sl) (n : Int) (bad' : Bool) (xs : List UInt8) (pre : List Pr), (bad' = true ∨ xs.length < f) → pre.length + (rdPrs f n bad' xs).1.length ≤ 90000 → n ≤ 9223372036854775807 →
      Rd H2 b D bad' xs → Own H2 p T_api_Pair 3 (pre.map Pr.row).flatten → (∀ q ∈ p.blk, H.size ≤ q) → Mod (fun q => q = b ∨ H.size ≤ q) H H2 →
      ∀ Q : Value → Hp → Prop, (∀ H' (p' : Sl), Own H' p' T_api_Pair 3 ((pre ++ (rdPrs f n bad' xs).1).map Pr.row).flatten → (∀ q ∈ p'.blk, H.size ≤ q) → Rd H' b D (rdPrs f n bad' xs).2.1 (rdPrs f n bad' xs).2.2 → Mod (fun q => q = b ∨ H.size ≤ q) H H' → state_ReadRows.k3 J0 ⟨b, 0, none⟩ p' H' Q) →
      state_ReadRows.l1 J0 ⟨b, 0, none⟩ H2 p n Q := by
    intro f
    induction f with
    | zero =>
      intro H2 p n bad' xs pre hbf hc hn rd oP hp m Q hQ
      have hbt : bad' = true := hbf.elim id fun h => by omega
      subst hbt
      apply state_ReadRows.l1.step; unfold state_ReadRows.l1.body
      have fin := hQ H2 p (by simpa [rdPrs] using oP) hp rd m
      exact Br.mk (fun _ => rd_bad rd (Br.no rfl fin)) fun _ => fin
    | succ f ih =>
      intro H2 p n bad' xs pre hbf hc hn rd oP hp m Q hQ
      apply state_ReadRows.l1.step; unfold state_ReadRows.l1.body
      by_cases hgo : n > 0 ∧ bad' = false
      rotate_left
      · have e : rdPrs (f + 1) n bad' xs = ([], bad', xs) := by unfold rdPrs; rw [if_neg hgo]
        rw [e] at hQ
        have fin := hQ H2 p (by simpa using oP) hp rd m
        refine Br.mk (fun hp => rd_bad rd (Br.no ?_ fin)) fun _ => fin
        have : n > 0 := of_decide_eq_true hp
        cases bad' with
        | true => rfl
        | false => exact (hgo ⟨this, rfl⟩).elim
      obtain ⟨hpos, rfl⟩ := hgo
      have e : rdPrs (f + 1) n false xs = ((rdPr xs).1 :: (rdPrs f (n - 1) (rdPr xs).2.1 (rdPr xs).2.2).1, (rdPrs f (n - 1) (rdPr xs).2.1 (rdPr xs).2.2).2) := by rw [rdPrs]; rw [if_pos ⟨hpos, rfl⟩]
      rw [e] at hQ hc
      rw [List.length_cons] at hc
      refine Br.yes (decide_eq_true hpos) (rd_bad rd (Br.yes rfl ?_))
      apply state_ReadRows.k1.step; unfold state_ReadRows.k1.body
      have mb : ∀ {H3 H4 : Hp}, Mod (· = b) H3 H4 → Mod (fun q => q = b ∨ H.size ≤ q) H3 H4 := fun m => m.mono fun _ _ h => Or.inl h
      refine rd_text rd fun H3 m3 rd3 => fun H4 e4 => ?_
      obtain ⟨m4, _⟩ := hole_facts e4
      refine rd_text (rd3.keep m4 (fun e => e) fun _ _ e => e) fun H5 m5 rd5 => ?_
      refine rd_byte rd5 fun H6 m6 rd6 => ?_
      have m26 : Mod (· = b) H2 H6 := m3.trans ((m4.mono fun _ _ e => e.elim).trans (m5.trans m6))
      have oP6 := oP.keep m26 fun q hq e => by have := hp q hq; have e : q = b := e; omega
      have z26 := m26.size
      have zm := m.size
      have hpl := rows_len' (by omega) Pr.row_len (Own.rows oP)
      have good : (rdPr xs).2.1 = false → (rdPr xs).2.2.length + 17 ≤ xs.length := rdPr_good
      have k2 : state_ReadRows.k2 J0 ⟨b, 0, none⟩ p n (rdPr xs).1.value H6 (rdByte (rdText (rdText false xs).2.1 (rdText false xs).2.2).2.1 (rdText (rdText false xs).2.1 (rdText false xs).2.2).2.2).1 (rdPr xs).1.key Q := by
        apply state_ReadRows.k2.step; unfold state_ReadRows.k2.body
        refine addEl (p := (rdPr xs).1.row) elPair oP6 rfl rfl (by omega) fun ys H8 o8 b8 m8 => ?_
        have hw : w64 (n - 1) = n - 1 := w64_id (by omega) (by omega)
        rw [hw]
        refine ih H8 ys (n - 1) (rdPr xs).2.1 (rdPr xs).2.2 (pre ++ [(rdPr xs).1]) ?_ (by rw [List.length_append, List.length_singleton]; omega) (by omega) (rd6.keep m8 (fun hq => by have := hp b hq; omega) fun g hg hq => by have := hD g hg; have := hp g hq; omega)
          (by rw [List.map_append, List.flatten_append]; simpa using o8) (fun q hq => (b8 q hq).elim (hp q) fun h => by omega)
          (m.trans ((mb m26).trans (m8.mono fun q _ h => Or.inr (hp q h)))) Q fun H' p' oP' hp' rd' m' => hQ H' p' (by simpa [List.append_assoc] using oP') hp' rd' m'
        · cases hb' : (rdPr xs).2.1 with
          | true => exact Or.inl rfl
          | false => have := good hb'; exact Or.inr (by rcases hbf with h | h; cases h; omega)
      refine Br.mk (fun hc1 => ?_) (fun hc1 => ?_)
      · have e : (rdPr xs).1.key = ByteArray.mk #[] := by show (if _ then _ else _) = _; rw [if_pos (of_decide_eq_true hc1)]
        rw [e] at k2; exact k2
      · have e : (rdPr xs).1.key = ⟨(rdText false xs).1.toArray⟩ := by show (if _ then _ else _) = _; rw [if_neg (of_decide_eq_false hc1)]
        rw [e] at k2; exact k2
  refine rd_num h fun H1 m1 rd1 => ?_
  have b1 := rdNum_bd bad bs
  have l1 := rdNum_le bad bs
  refine loop1 (bs.length + 1) H1 ⟨none, 0, 0⟩ (rdNum bad bs).1 (rdNum bad bs).2.1 (rdNum bad bs).2.2 [] (Or.inr (by omega)) (by simpa [rdRows, rdRowsP] using hl.1) b1.2 rd1 (by simpa using Own.nil H1 T_api_Pair 3) (by simp [Sl.blk]) (m1.mono fun _ _ h => Or.inl h) _ fun H2 p' oP hp rd2 m2 => ?_
  rw [List.nil_append] at oP
  apply state_ReadRows.k3.step; unfold state_ReadRows.k3.body
  refine rd_num rd2 fun H3 m3 rd3 => ?_
  have oP3 := oP.keep m3 fun q hq e => by have := hp q hq; have e : q = b := e; omega
  have b3 := rdNum_bd (rdPrs (bs.length + 1) (rdNum bad bs).1 (rdNum bad bs).2.1 (rdNum bad bs).2.2).2.1 (rdPrs (bs.length + 1) (rdNum bad bs).1 (rdNum bad bs).2.1 (rdNum bad bs).2.2).2.2
  have l3 := rdNum_le (rdPrs (bs.length + 1) (rdNum bad bs).1 (rdNum bad bs).2.1 (rdNum bad bs).2.2).2.1 (rdPrs (bs.length + 1) (rdNum bad bs).1 (rdNum bad bs).2.1 (rdNum bad bs).2.2).2.2
  have l2 : (rdPrs (bs.length + 1) (rdNum bad bs).1 (rdNum bad bs).2.1 (rdNum bad bs).2.2).2.2.length ≤ bs.length := Nat.le_trans (rdPrs_le _ _ _ _) l1
  have lP := oP3.lt
  refine loop2 p' (rdPrs (bs.length + 1) (rdNum bad bs).1 (rdNum bad bs).2.1 (rdNum bad bs).2.2).1 H3.size (fun q hq => ⟨hp q hq, lP q hq⟩) (Nat.le_trans m2.size m3.size) (bs.length + 1) H3 ⟨none, 0, 0⟩ _ _ _ [] (Nat.le_refl _) (Or.inr (by omega)) (by simpa [rdRows, rdRowsP, rdRowsS] using hl.2) b3.2 rd3 oP3
    (by simpa using Own.nil H3 T_api_Session 4) (by simp [Sl.blk]) (m2.trans (m3.mono fun _ _ h => Or.inl h)) _ (fun H' s' rr rd' m' => ?_)
  exact ⟨p', s', rfl, by rw [List.nil_append] at rr; exact rr, rd', m'.mono fun q hq h => h.elim id fun h => by omega⟩

/-- What is read of bytes. -/
structure RdSt where
  i : Int
  t : Int
  ps : List Pr
  xs : List Se
  ok : Bool
def rdSt (bs : List UInt8) : RdSt :=
  let a := rdNum false bs
  let b := rdNum a.2.1 a.2.2
  let q := rdRows b.2.1 b.2.2
  if !(!q.2.2.1 && q.2.2.2.isEmpty) then ⟨0, 0, [], [], false⟩
  else if ¬ RightM a.1 b.1 q.1 q.2.1 then ⟨0, 0, [], [], false⟩
  else if stB a.1 b.1 q.1 q.2.1 ≠ bs then ⟨0, 0, [], [], false⟩
  else ⟨a.1, b.1, q.1, q.2.1, true⟩
theorem rdSt_ok {bs : List UInt8} (h : (rdSt bs).ok = true) : RightM (rdSt bs).i (rdSt bs).t (rdSt bs).ps (rdSt bs).xs ∧ stB (rdSt bs).i (rdSt bs).t (rdSt bs).ps (rdSt bs).xs = bs := by
  unfold rdSt at h ⊢
  dsimp only at h ⊢
  split at h
  · cases h
  · split at h
    · cases h
    · split at h
      · cases h
      · rename_i h1 h2 h3
        rw [if_neg h1, if_neg h2, if_neg h3]
        exact ⟨Decidable.not_not.1 h2, Decidable.not_not.1 h3⟩
theorem rdSt_no {bs : List UInt8} (h : (rdSt bs).ok = false) : (rdSt bs).i = 0 ∧ (rdSt bs).t = 0 ∧ (rdSt bs).ps = [] ∧ (rdSt bs).xs = [] := by
  unfold rdSt at h ⊢
  dsimp only at h ⊢
  split at h
  · rename_i h1; rw [if_pos h1]; exact ⟨rfl, rfl, rfl, rfl⟩
  · split at h
    · rename_i h1 h2; rw [if_neg h1, if_pos h2]; exact ⟨rfl, rfl, rfl, rfl⟩
    · split at h
      · rename_i h1 h2 h3; rw [if_neg h1, if_neg h2, if_pos h3]; exact ⟨rfl, rfl, rfl, rfl⟩
      · cases h
theorem rdSt_of {i t : Int} {ps : List Pr} {xs : List Se} (hi : -9223372036854775808 ≤ i ∧ i ≤ 9223372036854775807) (ht : -9223372036854775808 ≤ t ∧ t ≤ 9223372036854775807) (hp : ∀ p ∈ ps, p.fits) (hs : ∀ p ∈ xs, p.fits) (hl : ps.length ≤ 1000000 ∧ xs.length ≤ 1000000) :
    rdSt (stB i t ps xs) = if RightM i t ps xs then ⟨i, t, ps, xs, true⟩ else ⟨0, 0, [], [], false⟩ := by
  have e := rdRows_of hp hs hl []
  rw [List.append_nil] at e
  have h1 : rdNum false (stB i t ps xs) = (i, false, be t 8 ++ rowsB ps xs) := rdNum_be hi.1 hi.2 _
  unfold rdSt
  rw [h1]
  dsimp only
  rw [rdNum_be ht.1 ht.2]
  dsimp only
  rw [e]
  by_cases hR : RightM i t ps xs
  · simp [hR]
  · simp [hR]

theorem Read_spec {x : Sl} {bs : List UInt8} (hr : Rows H x 1 (bs.map bv)) (hl : rdCnt bs) (hx : ∀ g ∈ x.blk, g < H.size) :
    SCalls Try.prog state_Read.id [.slice x.a x.len x.cap] H fun r H' => ∃ p s : Sl, r = .tuple #[.agg #[.int .i64 (rdSt bs).i, .int .i64 (rdSt bs).t, .slice p.a p.len p.cap, .slice s.a s.len s.cap], .bool (rdSt bs).ok] ∧ RR H' p s (rdSt bs).ps (rdSt bs).xs ∧ Mod (fun _ => False) H H' := by
  apply state_Read.calls
  intro H1 e1
  obtain ⟨m1, s1⟩ := hole_facts e1
  refine (Of_spec (D := x.blk) (hr.keep m1 fun _ _ e => e) (fun _ h => h) fun g hg => by have := hx g hg; omega).mono ?_
  rintro r H2 ⟨rfl, m2, rd2⟩
  have z2 := m2.size
  refine ⟨_, rfl, rd_num rd2 fun H3 m3 rd3 => fun H4 e4 => ?_⟩
  obtain ⟨m4, s4⟩ := hole_facts e4
  refine rd_num (rd3.keep m4 (fun e => e) fun _ _ e => e) fun H5 m5 rd5 => ?_
  have z3 := m3.size
  have z5 := m5.size
  have l1 := rdNum_le false bs
  have l2 := rdNum_le (rdNum false bs).2.1 (rdNum false bs).2.2
  refine (ReadRows_spec rd5 (fun g hg => by have := hx g hg; omega) hl).mono ?_
  rintro r H6 ⟨p, s, rfl, rr6, rd6, m6⟩
  refine ⟨p, s, rfl, (Reader_Done_spec rd6).mono ?_⟩
  rintro r H7 ⟨rfl, rfl⟩
  have mF : Mod (fun _ => False) H H7 := Mod.fresh (((m1.trans m2).mono fun _ _ e => e.elim).trans (m3.trans ((m4.mono fun _ _ e => e.elim).trans (m5.trans m6)))) fun g hg => by have hg : g = H1.size := hg; omega
  refine ⟨_, rfl, ?_⟩
  generalize ha : rdNum false bs = a at *
  generalize hb : rdNum a.2.1 a.2.2 = b at *
  generalize hq : rdRows b.2.1 b.2.2 = q at *
  have nil : ∀ H', RR H' ⟨none, 0, 0⟩ ⟨none, 0, 0⟩ [] [] := fun H' => ⟨⟨rfl, Nat.le_refl _, fun a ha => (by cases ha), fun _ => rfl⟩, ⟨rfl, Nat.le_refl _, fun a ha => (by cases ha), fun _ => rfl⟩⟩
  have none' : ∀ H' : Hp, rdSt bs = ⟨0, 0, [], [], false⟩ → Mod (fun _ => False) H H' → ∃ p s : Sl, (.tuple #[.agg #[.int .i64 0, .int .i64 0, .slice none 0 0, .slice none 0 0], .bool false] : Value) = .tuple #[.agg #[.int .i64 (rdSt bs).i, .int .i64 (rdSt bs).t, .slice p.a p.len p.cap, .slice s.a s.len s.cap], .bool (rdSt bs).ok] ∧ RR H' p s (rdSt bs).ps (rdSt bs).xs ∧ Mod (fun _ => False) H H' := by
    intro H' e m
    rw [e]
    exact ⟨⟨none, 0, 0⟩, ⟨none, 0, 0⟩, rfl, nil H', m⟩
  have eR : rdSt bs = if !(!q.2.2.1 && q.2.2.2.isEmpty) then ⟨0, 0, [], [], false⟩ else if ¬ RightM a.1 b.1 q.1 q.2.1 then ⟨0, 0, [], [], false⟩ else if stB a.1 b.1 q.1 q.2.1 ≠ bs then ⟨0, 0, [], [], false⟩ else ⟨a.1, b.1, q.1, q.2.1, true⟩ := by
    unfold rdSt; simp only [ha, hb, hq]
  refine Br.mk (fun h => ?_) (fun h => ?_)
  · rw [if_pos h] at eR
    exact ⟨⟨none' _ eR mF, none' _ eR mF⟩, none' _ eR mF⟩
  rw [if_neg (by rw [h]; simp)] at eR
  have lens := rr6.lens
  have cnt : q.1.length ≤ 90000 ∧ q.2.1.length ≤ 90000 := by have := hl; unfold rdCnt at this; simp only [ha, hb, hq] at this; exact this
  have hbl : p.len ≤ 9223372036854775807 ∧ s.len ≤ 9223372036854775807 := by omega
  refine bool_step (Right_spec (i := a.1) (t := b.1) rr6 hbl.1 hbl.2) (Mod.refl _ _) fun H8 m78 => ?_
  have m8 := mF.trans m78
  by_cases hR : RightM a.1 b.1 q.1 q.2.1
  rotate_left
  · rw [if_pos hR] at eR
    rw [decide_eq_false hR]
    exact Br.yes rfl ⟨⟨none' _ eR m8, none' _ eR m8⟩, none' _ eR m8⟩
  rw [if_neg (by simpa using hR)] at eR
  rw [decide_eq_true hR]
  have hlen := hR.len
  have hB : (stB a.1 b.1 q.1 q.2.1).length ≤ 140737488355328 := by omega
  have fin : ∀ H' : Hp, Mod (fun _ => False) H H' → RR H' p s q.1 q.2.1 → ∀ u v : List UInt8, u = stB a.1 b.1 q.1 q.2.1 → v = bs → Br (!((ByteArray.mk u.toArray).toList == (ByteArray.mk v.toArray).toList))
      (∃ p s : Sl, (.tuple #[.agg #[.int .i64 0, .int .i64 0, .slice none 0 0, .slice none 0 0], .bool false] : Value) = .tuple #[.agg #[.int .i64 (rdSt bs).i, .int .i64 (rdSt bs).t, .slice p.a p.len p.cap, .slice s.a s.len s.cap], .bool (rdSt bs).ok] ∧ RR H' p s (rdSt bs).ps (rdSt bs).xs ∧ Mod (fun _ => False) H H')
      (∃ p' s' : Sl, (.tuple #[.agg #[.int .i64 a.1, .int .i64 b.1, .slice p.a p.len p.cap, .slice s.a s.len s.cap], .bool true] : Value) = .tuple #[.agg #[.int .i64 (rdSt bs).i, .int .i64 (rdSt bs).t, .slice p'.a p'.len p'.cap, .slice s'.a s'.len s'.cap], .bool (rdSt bs).ok] ∧ RR H' p' s' (rdSt bs).ps (rdSt bs).xs ∧ Mod (fun _ => False) H H') := by
    intro H' m rr u v hu hv
    subst hu
    rw [hv, same_bytes]
    refine Br.mk (fun h => ?_) (fun h => ?_)
    · have hne : stB a.1 b.1 q.1 q.2.1 ≠ bs := by simpa using h
      rw [if_pos hne] at eR
      exact none' _ eR m
    · have he : stB a.1 b.1 q.1 q.2.1 = bs := by simpa using h
      rw [if_neg (by simpa using he)] at eR
      rw [eR]
      exact ⟨p, s, rfl, rr, m⟩
  have rr8 : RR H8 p s q.1 q.2.1 := rr6.mod m78
  have hr8 := hr.keep m8 fun _ _ e => e
  refine Br.no rfl ⟨(Bytes_spec rr8 hB).mono ?_, b2s_imp (b2s_rows hr8 rfl) ?_⟩
  · rintro r H9 ⟨x7, rfl, o9, m9, _⟩
    have rr9 := rr8.mod m9
    have m09 := m8.trans m9
    refine ⟨x7, rfl, b2s_imp (bytes_str o9) ?_, b2s_imp (b2s_rows (hr.keep m09 fun _ _ e => e) rfl) ?_⟩
    · rintro _ rfl
      refine b2s_imp (b2s_rows (hr.keep m09 fun _ _ e => e) rfl) ?_
      rintro _ rfl
      exact fin H9 m09 rr9 _ _ rfl rfl
    · rintro _ rfl
      refine b2s_imp (bytes_str o9) ?_
      rintro _ rfl
      exact fin H9 m09 rr9 _ _ rfl rfl
  · rintro _ rfl
    refine (Bytes_spec rr8 hB).mono ?_
    rintro r H9 ⟨x7, rfl, o9, m9, _⟩
    refine ⟨x7, rfl, b2s_imp (bytes_str o9) ?_⟩
    rintro _ rfl
    exact fin H9 (m8.trans m9) (rr8.mod m9) _ _ rfl rfl
end
end Go.Proofs
