/- DELTAS: pairs by their keys: what seq goes over. -/
import Derived.Test.YtpdondaekinmdaaKub4
import Derived.Test.YtpdondaekinmdaaKd1
set_option linter.all false
set_option linter.constructorNameAsVariable false
set_option maxRecDepth 100000
namespace Go.Proofs.PP
open Go Go.KC Go.Proofs

abbrev It := ByteArray × Pr
def args (p : It) : List Value := [.string p.1, .agg #[.string p.2.key, .string p.2.value, .bool p.2.gone]]
def byKey (ps : List Pr) : List It := ps.map fun p => (p.key, p)
theorem byKey_len (ps : List Pr) : (byKey ps).length = ps.length := List.length_map _

section
variable {H : Hp}
theorem goS : goFn Try.prog delta_seq_1.id = true := by kernel_rfl
theorem Seq1_spec {y : Fv} {b : Nat} {x : Sl} {ps : List Pr} {Q : Value → Hp → Prop} (hb : Hp.cell? H ⟨b, 0, none⟩ = some (.slice x.a x.len x.cap)) (hl : ps.length = x.len) (hl2 : ps.length ≤ 100000)
    (J : Nat → Hp → Prop) (h0 : J 0 H) (hr : ∀ i H', J i H' → Rows H' x 3 (ps.map Pr.row).flatten) (hst : ∀ i H', J i H' → J i (holes H' 1))
    (hs : ∀ i (hi : i < (byKey ps).length) H', J i H' → vInv Try.prog (.func y.fn y.fi y.ca) (args (byKey ps)[i]) H' fun r H'' => (r = .bool true ∧ J (i + 1) H'') ∨ (r = .bool false ∧ Q (.tuple #[]) H''))
    (he : ∀ H', J ps.length H' → Q (.tuple #[]) H') : SCalls Try.prog delta_seq_1.id [.func y.fn y.fi y.ca, .pointer (some ⟨b, 0, none⟩)] H Q := by
  apply delta_seq_1.calls
  refine ⟨x, hb, ?_⟩
  have loop : ∀ (d i : Nat) (H' : Hp), i + d = ps.length → J i H' → delta_seq_1.l1 J0 y x H' (i : Int) Q := by
    intro d
    induction d with
    | zero =>
      intro i H' hi hj
      apply delta_seq_1.l1.step; unfold delta_seq_1.l1.body
      obtain rfl : i = ps.length := by omega
      exact Br.no (by simp; omega) (he H' hj)
    | succ d ih =>
      intro i H' hi hj
      apply delta_seq_1.l1.step; unfold delta_seq_1.l1.body
      have hil : i < ps.length := by omega
      obtain ⟨a, ha, hrow⟩ := row_get' (by omega) Pr.row_len (hr i H' hj) hil
      have hib : i < (byKey ps).length := by rw [byKey_len]; exact hil
      have e : (byKey ps)[i] = (ps[i].key, ps[i]) := List.getElem_map _
      refine Br.yes (by simp; omega) ⟨⟨by omega, by omega⟩, vPtr.mk a ha ⟨ps[i].key, ps[i].value, ps[i].gone, by simpa [Pr.row] using hrow, fun H2 e2 => ?_⟩⟩
      have h2 := hs i hib H2 (by rw [e2]; exact hst i H' hj)
      rw [e] at h2
      refine h2.imp ?_
      rintro r H'' (⟨rfl, h⟩ | ⟨rfl, h⟩)
      · refine ⟨true, rfl, Br.no rfl ?_⟩
        rw [w64_id (x := (i : Int) + 1) (by omega) (by omega)]
        have := ih (i + 1) H'' (by omega) h
        simpa using this
      · exact ⟨false, rfl, Br.yes rfl h⟩
  exact loop ps.length 0 H (by omega) h0
theorem seq_st {x : Sl} {ps : List Pr} {K : Fv → Hp → Prop} (h : Rows H x 3 (ps.map Pr.row).flatten) (hl : ps.length ≤ 100000) (hK : ∀ fv bs H', Goes Try.prog args fv (byKey ps) bs H' → (∀ q ∈ bs, H.size ≤ q ∨ (ps ≠ [] ∧ q ∈ x.blk)) → Mod (fun _ => False) H H' → K fv H') (hx : ps ≠ [] → ∀ q ∈ x.blk, q < H.size) :
    SCalls Try.prog delta_seq.id [.slice x.a x.len x.cap] H fun r H' => ∃ f : Fv, r = .func f.fn f.fi f.ca ∧ K f H' := by
  apply delta_seq.calls
  rintro b rfl H1 h1
  obtain ⟨q1, m1, s1⟩ := push_facts h1
  have hxl := rows_len' (by omega) Pr.row_len h
  -- of no pairs the row is not asked
  let bs : List Nat := H.size :: (if ps = [] then [] else x.blk)
  have hbs : ∀ q ∈ bs, q < H1.size := by
    intro q hq
    rcases List.mem_cons.1 hq with rfl | hq
    · omega
    · split at hq
      · cases hq
      · rename_i c; have := hx c q hq; omega
  refine ⟨⟨.func 66, #[], #[.pointer (some ⟨H.size, 0, none⟩)]⟩, rfl, hK _ bs H1 ⟨66, rfl, goS, hbs, fun y H0 J Q hs hz j0 js qs jb body fin => ?_⟩ (fun q hq => ?_) m1⟩
  · have hb0 : Hp.cell? H0 ⟨H.size, 0, none⟩ = some (.slice x.a x.len x.cap) := by
      rw [cell_of (show H0[H.size]? = _ from (hs H.size (by simp [bs])).trans q1)]; rfl
    have hrow : ∀ {H'}, Same bs H0 H' → Rows H' x 3 (ps.map Pr.row).flatten := by
      intro H' hs'
      by_cases c : ps = []
      · subst c
        refine ⟨h.1, h.2.1, fun a ha j v hj => by simp at hj, h.2.2.2⟩
      · refine Rows.same (h.keep m1 fun _ _ e => e) fun q hq => ?_
        have hqb : q ∈ bs := by simp only [bs, if_neg c]; exact List.mem_cons_of_mem _ hq
        exact (hs' q hqb).trans (hs q hqb)
    refine Seq1_spec (y := y) (b := H.size) (x := x) (ps := ps) (Q := fun _ H1 => ∃ n1, Q n1 H1) hb0 hxl hl (fun i H1 => J H0.size i H1 ∧ H0.size ≤ H1.size)
      ⟨j0 _ _ (Nat.le_refl _) (Nat.le_refl _) (Mod.refl _ _), Nat.le_refl _⟩ (fun i H1 hj => hrow (jb _ _ _ hj.1)) (fun i H1 hj => ?_) (fun i hi H1 hj => ?_) (fun H1 hj => ⟨_, fin _ _ (by rw [byKey_len]; exact hj.1)⟩)
    · have mh : Mod (fun _ => False) H1 (holes H1 1) := Mod.holes _ _ _
      exact ⟨js _ i H1 _ hj.1 (mh.mono fun _ _ e => e.elim), Nat.le_trans hj.2 mh.size⟩
    · refine (body H0.size i hi H1 (Nat.le_refl _) hj.2 hj.1).imp ?_
      rintro r H2 ⟨hm, ⟨rfl, hj2⟩ | ⟨rfl, hq⟩⟩
      · exact Or.inl ⟨rfl, hj2, Nat.le_trans hj.2 hm.size⟩
      · exact Or.inr ⟨rfl, _, hq⟩
  · rcases List.mem_cons.1 hq with rfl | hq
    · exact Or.inl (Nat.le_refl _)
    · split at hq
      · cases hq
      · rename_i c; exact Or.inr ⟨c, hq⟩
end
end Go.Proofs.PP

/- DELTAS: plain; their bytes, Same (layer 09). -/
set_option linter.all false
set_option linter.constructorNameAsVariable false
set_option maxRecDepth 100000
namespace Go.Proofs
open Go Go.KC

/-- A delta, and a state, plain. -/
structure Dl where
  «from» : Int
  to : Int
  term : Int
  ps : List Pr
  xs : List Se
structure Wt where
  index : Int
  term : Int
  ps : List Pr
  xs : List Se
def Dl.zero : Dl := ⟨0, 0, 0, [], []⟩
def Wt.zero : Wt := ⟨0, 0, [], []⟩
def mrg (a b : List Pr) : List Pr := (mergeL (PP.byKey a) (PP.byKey b)).map (·.2)
def stay (l : List Pr) : List Pr := l.filter fun p => !p.gone
def doD (s : Wt) (d : Dl) : Wt × Int :=
  if s.index ≠ d.from ∨ d.to < d.from ∨ d.term < s.term then (.zero, 8)
  else if (stay (mrg s.ps d.ps)).length > 64 then (.zero, 4)
  else (⟨d.to, d.term, stay (mrg s.ps d.ps), d.xs⟩, 0)
def joinD (a b : Dl) : Dl × Int :=
  if a.to ≠ b.from ∨ b.term < a.term then (.zero, 8)
  else if (mrg a.ps b.ps).length > 512 then (.zero, 4)
  else (⟨a.from, b.to, b.term, mrg a.ps b.ps, b.xs⟩, 0)
abbrev wtV (s : Wt) (p x : Sl) : Value := .agg #[.int .i64 s.index, .int .i64 s.term, .slice p.a p.len p.cap, .slice x.a x.len x.cap]
abbrev dlV (d : Dl) (p x : Sl) : Value := .agg #[.int .i64 d.from, .int .i64 d.to, .int .i64 d.term, .slice p.a p.len p.cap, .slice x.a x.len x.cap]

theorem allOne_flat' {α : Type} {f : α → List Value} (h : ∀ a, allOne (f a) = true) : ∀ l : List α, allOne (l.map f).flatten = true
  | [] => rfl
  | a :: l => by
    rw [List.map_cons, List.flatten_cons, allOne_append, h a, allOne_flat' h l]; rfl
theorem rows_lt {H : Hp} {α : Type} {f : α → List Value} {k : Nat} (hk : 0 < k) (hf : ∀ c, (f c).length = k) {x : Sl} {l : List α} (h : Rows H x k (l.map f).flatten) (hl : l ≠ []) : ∀ q ∈ x.blk, q < H.size := by
  intro q hq
  have h0 : 0 < l.length := List.length_pos_iff.2 hl
  obtain ⟨a, ha, hrow⟩ := row_get' hk hf h h0
  have hq' : q = a.block := by
    unfold Sl.blk at hq; rw [ha] at hq; simpa using hq
  obtain ⟨v, hv⟩ : ∃ v, (f l[0])[0]? = some v := ⟨(f l[0])[0]'(by rw [hf]; exact hk), List.getElem?_eq_getElem _⟩
  have hc := hrow 0 v hv
  have hb : ((a.add (0 * k)).add 0).block = a.block := by unfold Addr.add; split <;> (split <;> rfl)
  unfold Hp.cell? at hc
  rw [hb] at hc
  cases hg : H[a.block]? with
  | none => rw [hg] at hc; cases hc
  | some o => rw [hq']; exact lt_of_get hg
/-- A row is copied. -/
theorem copyEl {P : Program} {T e : TypeId} {k : Nat} {H : Hp} {x : Sl} {cs : List Value} {K : Sl → Hp → Prop} (hE : El P T e k) (h : Rows H x k cs) (h1 : allOne cs = true) (hl : x.len ≤ 1000000)
    (hK : ∀ y H', Own H' y e k cs → (∀ q ∈ y.blk, H.size ≤ q) → Mod (fun _ => False) H H' → K y H') : vApp P T none 0 0 (.slice x.a x.len x.cap) H K := by
  obtain ⟨hu, ⟨ti, z, hi, hz, hsz, hby, hby2, hzs, hz1⟩, hkp⟩ := hE
  have hcl := h.1
  have hsrc : SrcAt H k x.len (.slice x.a x.len x.cap) cs := by
    cases hx : x.a with
    | none =>
      have h0 := h.2.2.2 hx
      have h2 := h.2.1
      have : x.len = 0 := by omega
      rw [this] at hcl ⊢
      have he : cs = [] := List.eq_nil_of_length_eq_zero (by simpa using hcl)
      rw [he]; exact rfl
    | some a => exact ⟨hcl, h.2.2.1 a hx⟩
  refine Own.app (x := ⟨none, 0, 0⟩) (e := e) (ti := ti) (z := z) (cs := []) (news := cs) (Own.nil _ _ _) hu hi hz (by rw [hzs, hsz]) hby (by rw [hsz]; exact hsrc) (by rw [hsz, hcl]; rfl) h1 ?_ ?_
  · simp only [srcLen]
    have : (0 + x.len) * ti.bytes ≤ (0 + x.len) * 1000 := Nat.mul_le_mul_left _ hby2
    omega
  · intro y H' q1 q2 q3 q4 _
    rw [hsz, List.nil_append] at q1
    refine hK y H' q1 (fun q hq => ?_) (q3.mono fun q _ hq => by simp [Sl.blk] at hq)
    rcases q4 q hq with h | h
    · simp [Sl.blk] at h
    · omega
theorem prs_one (l : List Pr) : allOne (l.map Pr.row).flatten = true := allOne_flat' (fun _ => rfl) l
theorem ses_one (l : List Se) : allOne (l.map Se.row).flatten = true := allOne_flat' (fun _ => rfl) l

theorem RR.nil (H : Hp) : RR H ⟨none, 0, 0⟩ ⟨none, 0, 0⟩ [] [] := ⟨⟨rfl, Nat.le_refl _, fun a ha => (by cases ha), fun _ => rfl⟩, ⟨rfl, Nat.le_refl _, fun a ha => (by cases ha), fun _ => rfl⟩⟩
/-- A delta in a block of its own. -/
def DB (H : Hp) (b : Nat) (f t u : Int) (p s : Sl) : Prop := H[b]? = some (.cells #[.int .i64 f, .int .i64 t, .int .i64 u, .slice p.a p.len p.cap, .slice s.a s.len s.cap] T_delta_Delta (0, 0))
section
variable {H H' : Hp} {b : Nat} {f t u : Int} {p s : Sl}
theorem DB.row (h : DB H b f t u p s) : RowAt H (Addr.mk b 0 none) [.int .i64 f, .int .i64 t, .int .i64 u, .slice p.a p.len p.cap, .slice s.a s.len s.cap] := fun j v hj => by
  rw [Addr.add_loc, cell_of h, Nat.zero_add]
  simpa using hj
theorem DB.at3 (h : DB H b f t u p s) : Hp.cell? H ((Addr.mk b 0 none).add 3) = some (.slice p.a p.len p.cap) := by
  rw [Addr.add_loc, cell_of h, Nat.zero_add]; rfl
theorem DB.wr3 (h : DB H b f t u p s) : WrAt H ((Addr.mk b 0 none).add 3) 1 := by rw [Addr.add_loc, Nat.zero_add]; exact wr_one h (by simp)
theorem DB.set3 (h : DB H b f t u p s) {x : Sl} (e : H' = Hp.setCell H ((Addr.mk b 0 none).add 3) (.slice x.a x.len x.cap)) : DB H' b f t u x s ∧ Mod (· = b) H H' := by
  subst e; rw [Addr.add_loc, Nat.zero_add]; exact ⟨by have := get_setCell (o := 3) (.slice x.a x.len x.cap) h; simpa [DB] using this, Mod.setCell H _ _ rfl⟩
theorem DB.keep {μ : Nat → Prop} (h : DB H b f t u p s) (m : Mod μ H H') (hb : ¬ μ b) : DB H' b f t u p s := m.get h hb
theorem DB.put5 {f' t' u' : Int} {p' s' : Sl} (h : DB H b f t u p s) (e : H' = Hp.setCells H (Addr.mk b 0 none) [.int .i64 f', .int .i64 t', .int .i64 u', .slice p'.a p'.len p'.cap, .slice s'.a s'.len s'.cap] 0) : DB H' b f' t' u' p' s' ∧ Mod (· = b) H H' := by
  subst e
  refine ⟨?_, ⟨Nat.le_of_eq (size_setCells _ _ _).symm, fun q hq hb => get_setCells_ne (fun e => hb e) _ _ _⟩⟩
  have := get_setCells [.int .i64 f', .int .i64 t', .int .i64 u', .slice p'.a p'.len p'.cap, .slice s'.a s'.len s'.cap] 0 0 H _ h (by simp)
  simpa [DB] using this
theorem DB.wr5 (h : DB H b f t u p s) : WrAt H (Addr.mk b 0 none) 5 := fun j hj => by
  have := wr_one (o := j) h (by simpa using hj) 0 (by omega)
  simpa [Addr.add_loc] using this
end
section
variable {H : Hp}
/-- What is so behind Join, and Between. -/
def EP (H : Hp) (r : Dl × Int) (v : Value) (H' : Hp) : Prop := ∃ p x : Sl, v = .tuple #[dlV r.1 p x, .int .i64 r.2] ∧ RR H' p x r.1.ps r.1.xs ∧ Mod (fun _ => False) H H'
end
def dlB (d : Dl) : List UInt8 := be d.from 8 ++ (be d.to 8 ++ (be d.term 8 ++ rowsB d.ps d.xs))
section
variable {H : Hp}
theorem DBytes_spec {d : Dl} {p s : Sl} (hr : RR H p s d.ps d.xs) (hl : (dlB d).length ≤ 140737488355328) :
    SCalls Try.prog delta_Bytes.id [dlV d p s] H (BP H (dlB d)) := by
  apply delta_Bytes.calls (dFrom := d.from) (dTo := d.to) (dTerm := d.term) (dPairs := p) (dSessions := s)
  intro H1 e1 b hb H2 e2
  obtain ⟨m1, s1⟩ := hole_facts e1
  obtain ⟨q2, m2, s2⟩ := push_facts e2
  have hl' : 40 + (prsB d.ps).length + (sesB d.xs).length ≤ 140737488355328 := by unfold dlB at hl; simp only [List.length_append, be_length, rowsB_len] at hl; omega
  have hbz : H.size ≤ b := by omega
  have hF : ∀ g ∈ [b], H.size ≤ g := fun g hg => by simp at hg; omega
  have W2 : WrQ H b [b] [] H2 := ⟨[b], by rw [hb, e2]; exact Wr.new H1, (m1.trans m2).mono fun _ _ e => e.elim, fun g hg => Or.inl hg⟩
  refine W2.num (by simp) fun H3 w3 => ?_
  refine w3.num (by simp only [List.length_append, be_length, List.length_nil]; omega) fun H4 w4 => ?_
  refine w4.num (by simp only [List.length_append, be_length, List.length_nil]; omega) fun H5 w5 => ?_
  apply delta_Bytes.k1.step; unfold delta_Bytes.k1.body
  refine (PutRows_spec w5 (fun H' m => hr.mod (Mod.fresh m hF)) (by simp only [List.length_append, be_length, List.length_nil, rowsB_len]; omega)).mono ?_
  rintro r H6 ⟨rfl, w6⟩
  refine ⟨rfl, ?_⟩
  have m06 := w6.fresh hF
  obtain ⟨F6, W6, _, _⟩ := w6
  refine (Writer_Bytes_spec W6 (by simp only [List.length_append, be_length, List.length_nil, rowsB_len]; omega)).mono ?_
  rintro r H7 ⟨x, rfl, o, m7, hb7⟩
  refine ⟨x, rfl, x, rfl, ?_, m06.trans m7, fun g hg => by have := hb7 g hg; have := m06.size; omega⟩
  unfold dlB
  simpa [List.append_assoc] using o
theorem DSame_spec {d e : Dl} {p s p' s' : Sl} (hr : RR H p s d.ps d.xs) (hr' : RR H p' s' e.ps e.xs) (hl : (dlB d).length ≤ 140737488355328) (hl' : (dlB e).length ≤ 140737488355328) :
    SCalls Try.prog delta_Same.id [dlV d p s, dlV e p' s'] H (TellPost H (.bool (decide (dlB d = dlB e)))) := by
  apply delta_Same.calls (aFrom := d.from) (aTo := d.to) (aTerm := d.term) (aPairs := p) (aSessions := s) (bFrom := e.from) (bTo := e.to) (bTerm := e.term) (bPairs := p') (bSessions := s')
  intro H1 e1 H2 e2
  obtain ⟨m1, s1⟩ := hole_facts e1
  obtain ⟨m2, s2⟩ := hole_facts e2
  refine (DBytes_spec (hr.mod (m1.trans m2)) hl).mono ?_
  rintro r H3 ⟨x, rfl, o3, m3, b3⟩
  have m03 := m1.trans (m2.trans m3)
  refine ⟨x, rfl, b2s_imp (bytes_str o3) ?_, ?_⟩
  · rintro _ rfl
    refine (DBytes_spec (hr'.mod m03) hl').mono ?_
    rintro r H4 ⟨x1, rfl, o4, m4, b4⟩
    refine ⟨x1, rfl, b2s_imp (bytes_str o4) ?_⟩
    rintro _ rfl
    rw [same_bytes]
    exact ⟨rfl, m03.trans m4⟩
  · refine (DBytes_spec (hr'.mod m03) hl').mono ?_
    rintro r H4 ⟨x1, rfl, o4, m4, b4⟩
    have o3' := o3.keep m4 fun _ _ e => e
    refine ⟨x1, rfl, b2s_imp (bytes_str o3') ?_, b2s_imp (bytes_str o4) ?_⟩
    · rintro _ rfl
      refine b2s_imp (bytes_str o4) ?_
      rintro _ rfl
      rw [same_bytes]
      exact ⟨rfl, m03.trans m4⟩
    · rintro _ rfl
      refine b2s_imp (bytes_str o3') ?_
      rintro _ rfl
      rw [same_bytes]
      exact ⟨rfl, m03.trans m4⟩
end

end Go.Proofs

/- DELTAS: which are right; what is read of bytes (layer 09). -/
set_option linter.all false
set_option linter.constructorNameAsVariable false
set_option maxRecDepth 100000
namespace Go.Proofs
open Go Go.KC

/-- Which deltas are right. -/
def DlRight (d : Dl) : Prop := 0 ≤ d.from ∧ d.from ≤ d.to ∧ d.to ≤ 1048576 ∧ 0 ≤ d.term ∧ d.term ≤ 1048576 ∧ RowsOk d.ps d.xs 512
instance (d : Dl) : Decidable (DlRight d) := by unfold DlRight; infer_instance
section
variable {H : Hp}
theorem DRight_spec {d : Dl} {p s : Sl} (hr : RR H p s d.ps d.xs) (hp : p.len ≤ 9223372036854775807) (hs : s.len ≤ 9223372036854775807) :
    SCalls Try.prog delta_Right.id [dlV d p s] H (TellPost H (.bool (decide (DlRight d)))) := by
  apply delta_Right.calls (dFrom := d.from) (dTo := d.to) (dTerm := d.term) (dPairs := p) (dSessions := s)
  intro H1 e1
  obtain ⟨m1, _⟩ := hole_facts e1
  have k4 : ∀ b : Bool, (b = true ↔ 0 ≤ d.from ∧ d.from ≤ d.to ∧ d.to ≤ 1048576 ∧ 0 ≤ d.term ∧ d.term ≤ 1048576) → delta_Right.k4 J0 d.from d.to d.term p s H1 b (TellPost H (.bool (decide (DlRight d)))) := by
    intro b hb
    apply delta_Right.k4.step; unfold delta_Right.k4.body
    refine Br.mk (fun h => ?_) (fun h => ⟨?_, m1⟩)
    · have hb := hb.1 h
      refine (RightRows_spec (most := 512) (hr.mod m1) hp hs).mono ?_
      rintro r H3 ⟨rfl, m3⟩
      refine ⟨_, rfl, ?_, m1.trans m3⟩
      congr 1
      exact decide_eq_decide.2 ⟨fun h => ⟨hb.1, hb.2.1, hb.2.2.1, hb.2.2.2.1, hb.2.2.2.2, h⟩, fun h => h.2.2.2.2.2⟩
    · rw [decide_eq_false fun g : DlRight d => by have := hb.2 ⟨g.1, g.2.1, g.2.2.1, g.2.2.2.1, g.2.2.2.2.1⟩; rw [h] at this; cases this]
  have k3 : ∀ b : Bool, (b = true ↔ 0 ≤ d.from ∧ d.from ≤ d.to ∧ d.to ≤ 1048576 ∧ 0 ≤ d.term) → delta_Right.k3 J0 d.from d.to d.term p s H1 b (TellPost H (.bool (decide (DlRight d)))) := by
    intro b hb
    apply delta_Right.k3.step; unfold delta_Right.k3.body
    refine Br.mk (fun h => k4 _ ?_) (fun h => k4 _ ?_)
    · have := hb.1 h; simp; omega
    · simp; intro g1 g2 g3 g4; have := hb.2 ⟨g1, g2, g3, g4⟩; rw [h] at this; cases this
  have k2 : ∀ b : Bool, (b = true ↔ 0 ≤ d.from ∧ d.from ≤ d.to ∧ d.to ≤ 1048576) → delta_Right.k2 J0 d.from d.to d.term p s H1 b (TellPost H (.bool (decide (DlRight d)))) := by
    intro b hb
    apply delta_Right.k2.step; unfold delta_Right.k2.body
    refine Br.mk (fun h => k3 _ ?_) (fun h => k3 _ ?_)
    · have := hb.1 h; simp; omega
    · simp; intro g1 g2 g3; have := hb.2 ⟨g1, g2, g3⟩; rw [h] at this; cases this
  have k1 : ∀ b : Bool, (b = true ↔ 0 ≤ d.from ∧ d.from ≤ d.to) → delta_Right.k1 J0 d.from d.to d.term p s H1 b (TellPost H (.bool (decide (DlRight d)))) := by
    intro b hb
    apply delta_Right.k1.step; unfold delta_Right.k1.body
    refine Br.mk (fun h => k2 _ ?_) (fun h => k2 _ ?_)
    · have := hb.1 h; simp; omega
    · simp; intro g1 g2; have := hb.2 ⟨g1, g2⟩; rw [h] at this; cases this
  refine Br.mk (fun h => k1 _ ?_) (fun h => k1 _ ?_)
  · have := of_decide_eq_true h; simp; omega
  · have := of_decide_eq_false h; simp; omega
end

theorem dlB_len (d : Dl) : (dlB d).length = 40 + (prsB d.ps).length + (sesB d.xs).length := by unfold dlB; simp only [List.length_append, be_length, rowsB_len]; omega
theorem DlRight.ps {d : Dl} (h : DlRight d) : ∀ p ∈ d.ps, p.fits := fun p hp => by
  obtain ⟨j, hj, rfl⟩ := List.getElem_of_mem hp
  have := (h.2.2.2.2.2.1 j hj hj).1
  unfold Pr.Ok at this
  exact ⟨by omega, by omega⟩
theorem DlRight.xs {d : Dl} (h : DlRight d) : ∀ p ∈ d.xs, p.fits := fun p hp => by
  obtain ⟨j, hj, rfl⟩ := List.getElem_of_mem hp
  have := (h.2.2.2.2.2.2.1 j hj hj).1
  unfold Se.Ok at this
  exact ⟨by omega, by omega, by omega, by omega⟩
theorem DlRight.len {d : Dl} (h : DlRight d) : (dlB d).length ≤ 30000 + 48 * d.xs.length := by
  obtain ⟨_, _, _, _, _, hp, hs, hl⟩ := h
  have h1 : (prsB d.ps).length ≤ d.ps.length * 41 := flat_le _ _ _ fun p hp' => by
    obtain ⟨j, hj, rfl⟩ := List.getElem_of_mem hp'
    have := (hp j hj hj).1
    unfold Pr.Ok at this
    rw [Pr.bytes_len]; omega
  have h2 : (sesB d.xs).length ≤ d.xs.length * 48 := flat_le _ _ _ fun p hp' => by
    obtain ⟨j, hj, rfl⟩ := List.getElem_of_mem hp'
    have := (hs j hj hj).1
    unfold Se.Ok at this
    rw [Se.bytes_len]; omega
  rw [dlB_len]; omega

/-- What is read of bytes. -/
structure RdDl where
  d : Dl
  ok : Bool
def rdDl (bs : List UInt8) : RdDl :=
  let a := rdNum false bs
  let b := rdNum a.2.1 a.2.2
  let c := rdNum b.2.1 b.2.2
  let q := rdRows c.2.1 c.2.2
  if !(!q.2.2.1 && q.2.2.2.isEmpty) then ⟨.zero, false⟩
  else if ¬ DlRight ⟨a.1, b.1, c.1, q.1, q.2.1⟩ then ⟨.zero, false⟩
  else if dlB ⟨a.1, b.1, c.1, q.1, q.2.1⟩ ≠ bs then ⟨.zero, false⟩
  else ⟨⟨a.1, b.1, c.1, q.1, q.2.1⟩, true⟩
theorem rdDl_ok {bs : List UInt8} (h : (rdDl bs).ok = true) : DlRight (rdDl bs).d ∧ dlB (rdDl bs).d = bs := by
  unfold rdDl at h ⊢
  dsimp only at h ⊢
  split at h
  · cases h
  · split at h
    · cases h
    · split at h
      · cases h
      · rename_i h1 h2 h3
        rw [if_neg h1, if_neg h2, if_neg h3]
        exact ⟨Decidable.not_not.1 h2, Decidable.not_not.1 h3⟩
theorem rdDl_no {bs : List UInt8} (h : (rdDl bs).ok = false) : (rdDl bs).d = .zero := by
  unfold rdDl at h ⊢
  dsimp only at h ⊢
  split at h
  · rename_i h1; rw [if_pos h1]
  · split at h
    · rename_i h1 h2; rw [if_neg h1, if_pos h2]
    · split at h
      · rename_i h1 h2 h3; rw [if_neg h1, if_neg h2, if_pos h3]
      · cases h
theorem rdDl_right {d : Dl} (h : DlRight d) (hl : (dlB d).length ≤ 1000000) : rdDl (dlB d) = ⟨d, true⟩ := by
  have h1 := prsB_ge d.ps
  have h2 := sesB_ge d.xs
  have h3 := dlB_len d
  have e := rdRows_of h.ps h.xs ⟨by omega, by omega⟩ []
  rw [List.append_nil] at e
  have hr := h
  obtain ⟨a0, a1, a2, a3, a4, _⟩ := hr
  have g1 : rdNum false (dlB d) = (d.from, false, be d.to 8 ++ (be d.term 8 ++ rowsB d.ps d.xs)) := rdNum_be (by omega) (by omega) _
  unfold rdDl
  rw [g1]
  dsimp only
  rw [rdNum_be (by omega) (by omega)]
  dsimp only
  rw [rdNum_be (by omega) (by omega)]
  dsimp only
  rw [e]
  have : (⟨d.from, d.to, d.term, d.ps, d.xs⟩ : Dl) = d := rfl
  simp [h]
/-- As many rows as one may read. -/
def rdCntD (bs : List UInt8) : Prop :=
  let a := rdNum false bs
  let b := rdNum a.2.1 a.2.2
  let c := rdNum b.2.1 b.2.2
  (rdRows c.2.1 c.2.2).1.length ≤ 90000 ∧ (rdRows c.2.1 c.2.2).2.1.length ≤ 90000
theorem rdCntD_small {bs : List UInt8} (h : bs.length ≤ 1500000) : rdCntD bs := by
  have h1 := rdNum_le false bs
  have h2 := rdNum_le (rdNum false bs).2.1 (rdNum false bs).2.2
  have h2' := rdNum_le (rdNum (rdNum false bs).2.1 (rdNum false bs).2.2).2.1 (rdNum (rdNum false bs).2.1 (rdNum false bs).2.2).2.2
  unfold rdCntD
  dsimp only
  generalize rdNum (rdNum (rdNum false bs).2.1 (rdNum false bs).2.2).2.1 (rdNum (rdNum false bs).2.1 (rdNum false bs).2.2).2.2 = b at h2'
  have h3 := rdNum_le b.2.1 b.2.2
  have h4 := rdPrs_cnt (b.2.2.length + 1) (rdNum b.2.1 b.2.2).1 (rdNum b.2.1 b.2.2).2.1 (rdNum b.2.1 b.2.2).2.2
  have h5 := rdPrs_le (b.2.2.length + 1) (rdNum b.2.1 b.2.2).1 (rdNum b.2.1 b.2.2).2.1 (rdNum b.2.1 b.2.2).2.2
  unfold rdRows rdRowsP rdRowsS
  dsimp only
  generalize rdPrs (b.2.2.length + 1) (rdNum b.2.1 b.2.2).1 (rdNum b.2.1 b.2.2).2.1 (rdNum b.2.1 b.2.2).2.2 = q at h4 h5
  have h6 := rdNum_le q.2.1 q.2.2
  have h7 := rdSes_cnt (b.2.2.length + 1) (rdNum q.2.1 q.2.2).1 (rdNum q.2.1 q.2.2).2.1 (rdNum q.2.1 q.2.2).2.2
  exact ⟨by omega, by omega⟩
section
variable {H : Hp}
theorem DRead_spec {x : Sl} {bs : List UInt8} (hr : Rows H x 1 (bs.map bv)) (hl : rdCntD bs) (hx : ∀ g ∈ x.blk, g < H.size) :
    SCalls Try.prog delta_Read.id [.slice x.a x.len x.cap] H fun r H' => ∃ p s : Sl, r = .tuple #[dlV (rdDl bs).d p s, .bool (rdDl bs).ok] ∧ RR H' p s (rdDl bs).d.ps (rdDl bs).d.xs ∧ Mod (fun _ => False) H H' := by
  apply delta_Read.calls
  intro H1 e1
  obtain ⟨m1, s1⟩ := hole_facts e1
  refine (Of_spec (D := x.blk) (hr.keep m1 fun _ _ e => e) (fun _ h => h) fun g hg => by have := hx g hg; omega).mono ?_
  rintro r H2 ⟨rfl, m2, rd2⟩
  have z2 := m2.size
  refine ⟨_, rfl, rd_num rd2 fun H3 m3 rd3 => fun H4 e4 => ?_⟩
  obtain ⟨m4, s4⟩ := hole_facts e4
  refine rd_num (rd3.keep m4 (fun e => e) fun _ _ e => e) fun H5 m5 rd5 => ?_
  refine rd_num rd5 fun H5' m5' rd5' => ?_
  have z3 := m3.size
  have z5 := m5.size
  have z5' := m5'.size
  refine (ReadRows_spec rd5' (fun g hg => by have := hx g hg; omega) hl).mono ?_
  rintro r H6 ⟨p, s, rfl, rr6, rd6, m6⟩
  refine ⟨p, s, rfl, (Reader_Done_spec rd6).mono ?_⟩
  rintro r H7 ⟨rfl, rfl⟩
  have mF : Mod (fun _ => False) H H7 := Mod.fresh (((m1.trans m2).mono fun _ _ e => e.elim).trans (m3.trans ((m4.mono fun _ _ e => e.elim).trans (m5.trans (m5'.trans m6))))) fun g hg => by have hg : g = H1.size := hg; omega
  refine ⟨_, rfl, ?_⟩
  generalize ha : rdNum false bs = a at *
  generalize hb : rdNum a.2.1 a.2.2 = b at *
  generalize hc : rdNum b.2.1 b.2.2 = c at *
  generalize hq : rdRows c.2.1 c.2.2 = q at *
  have nil : ∀ H', RR H' ⟨none, 0, 0⟩ ⟨none, 0, 0⟩ [] [] := fun H' => RR.nil H'
  have none' : ∀ H' : Hp, rdDl bs = ⟨.zero, false⟩ → Mod (fun _ => False) H H' → ∃ p s : Sl, (.tuple #[.agg #[.int .i64 0, .int .i64 0, .int .i64 0, .slice none 0 0, .slice none 0 0], .bool false] : Value) = .tuple #[dlV (rdDl bs).d p s, .bool (rdDl bs).ok] ∧ RR H' p s (rdDl bs).d.ps (rdDl bs).d.xs ∧ Mod (fun _ => False) H H' := by
    intro H' e m
    rw [e]
    exact ⟨⟨none, 0, 0⟩, ⟨none, 0, 0⟩, rfl, nil H', m⟩
  have eR : rdDl bs = if !(!q.2.2.1 && q.2.2.2.isEmpty) then ⟨.zero, false⟩ else if ¬ DlRight ⟨a.1, b.1, c.1, q.1, q.2.1⟩ then ⟨.zero, false⟩ else if dlB ⟨a.1, b.1, c.1, q.1, q.2.1⟩ ≠ bs then ⟨.zero, false⟩ else ⟨⟨a.1, b.1, c.1, q.1, q.2.1⟩, true⟩ := by
    unfold rdDl; simp only [ha, hb, hc, hq]
  refine Br.mk (fun h => ?_) (fun h => ?_)
  · rw [if_pos h] at eR
    exact ⟨⟨none' _ eR mF, none' _ eR mF⟩, none' _ eR mF⟩
  rw [if_neg (by rw [h]; simp)] at eR
  have lens := rr6.lens
  have cnt : q.1.length ≤ 90000 ∧ q.2.1.length ≤ 90000 := by have := hl; unfold rdCntD at this; simp only [ha, hb, hc, hq] at this; exact this
  have hbl : p.len ≤ 9223372036854775807 ∧ s.len ≤ 9223372036854775807 := by omega
  refine bool_step (DRight_spec (d := ⟨a.1, b.1, c.1, q.1, q.2.1⟩) rr6 hbl.1 hbl.2) (Mod.refl _ _) fun H8 m78 => ?_
  have m8 := mF.trans m78
  by_cases hR : DlRight ⟨a.1, b.1, c.1, q.1, q.2.1⟩
  rotate_left
  · rw [if_pos hR] at eR
    rw [decide_eq_false hR]
    exact Br.yes rfl ⟨⟨none' _ eR m8, none' _ eR m8⟩, none' _ eR m8⟩
  rw [if_neg (by simpa using hR)] at eR
  rw [decide_eq_true hR]
  have hlen := hR.len
  have hB : (dlB ⟨a.1, b.1, c.1, q.1, q.2.1⟩).length ≤ 140737488355328 := by dsimp only at hlen; omega
  have fin : ∀ H' : Hp, Mod (fun _ => False) H H' → RR H' p s q.1 q.2.1 → ∀ u v : List UInt8, u = dlB ⟨a.1, b.1, c.1, q.1, q.2.1⟩ → v = bs → Br (!((ByteArray.mk u.toArray).toList == (ByteArray.mk v.toArray).toList))
      (∃ p s : Sl, (.tuple #[.agg #[.int .i64 0, .int .i64 0, .int .i64 0, .slice none 0 0, .slice none 0 0], .bool false] : Value) = .tuple #[dlV (rdDl bs).d p s, .bool (rdDl bs).ok] ∧ RR H' p s (rdDl bs).d.ps (rdDl bs).d.xs ∧ Mod (fun _ => False) H H')
      (∃ p' s' : Sl, (.tuple #[.agg #[.int .i64 a.1, .int .i64 b.1, .int .i64 c.1, .slice p.a p.len p.cap, .slice s.a s.len s.cap], .bool true] : Value) = .tuple #[dlV (rdDl bs).d p' s', .bool (rdDl bs).ok] ∧ RR H' p' s' (rdDl bs).d.ps (rdDl bs).d.xs ∧ Mod (fun _ => False) H H') := by
    intro H' m rr u v hu hv
    subst hu
    rw [hv, same_bytes]
    refine Br.mk (fun h => ?_) (fun h => ?_)
    · have hne : dlB ⟨a.1, b.1, c.1, q.1, q.2.1⟩ ≠ bs := by simpa using h
      rw [if_pos hne] at eR
      exact none' _ eR m
    · have he : dlB ⟨a.1, b.1, c.1, q.1, q.2.1⟩ = bs := by simpa using h
      rw [if_neg (by simpa using he)] at eR
      rw [eR]
      exact ⟨p, s, rfl, rr, m⟩
  have rr8 : RR H8 p s q.1 q.2.1 := rr6.mod m78
  have hr8 := hr.keep m8 fun _ _ e => e
  refine Br.no rfl ⟨(DBytes_spec (d := ⟨a.1, b.1, c.1, q.1, q.2.1⟩) rr8 hB).mono ?_, b2s_imp (b2s_rows hr8 rfl) ?_⟩
  · rintro r H9 ⟨x7, rfl, o9, m9, _⟩
    have rr9 := rr8.mod m9
    have m09 := m8.trans m9
    refine ⟨x7, rfl, b2s_imp (bytes_str o9) ?_, b2s_imp (b2s_rows (hr.keep m09 fun _ _ e => e) rfl) ?_⟩
    · rintro _ rfl
      refine b2s_imp (b2s_rows (hr.keep m09 fun _ _ e => e) rfl) ?_
      rintro _ rfl
      exact fin H9 m09 rr9 _ _ rfl rfl
    · rintro _ rfl
      refine b2s_imp (bytes_str o9) ?_
      rintro _ rfl
      exact fin H9 m09 rr9 _ _ rfl rfl
  · rintro _ rfl
    refine (DBytes_spec (d := ⟨a.1, b.1, c.1, q.1, q.2.1⟩) rr8 hB).mono ?_
    rintro r H9 ⟨x7, rfl, o9, m9, _⟩
    refine ⟨x7, rfl, b2s_imp (bytes_str o9) ?_⟩
    rintro _ rfl
    exact fin H9 (m8.trans m9) (rr8.mod m9) _ _ rfl rfl
end
end Go.Proofs
