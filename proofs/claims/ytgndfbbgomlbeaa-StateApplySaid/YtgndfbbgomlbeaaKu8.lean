/- STATES: awake; RightRows, Right: the walks; what folds make. -/
import Derived.Test.YtgndfbbgomlbeaaKu7
set_option linter.all false
set_option linter.constructorNameAsVariable false
namespace Go.Proofs
open Go Go.KC

def kB : ByteArray := ByteArray.mk #[107]
def vB : ByteArray := ByteArray.mk #[118]
def aw1 : En := ⟨1, 0, ⟨1, 0, 1, kB, vB, noText⟩⟩
def aw2 : En := ⟨2, 0, ⟨2, 0, 1, kB, noText, noText⟩⟩
def aw3 : En := ⟨3, 0, ⟨2, 0, 2, kB, noText, noText⟩⟩
theorem aw1_eq : applyM .zero aw1 = (⟨1, 0, [(kB, vB)], [(0, ⟨0, 1, 0, noText⟩)]⟩, ⟨0, noText⟩) := by kernel_rfl
theorem aw2_eq : applyM ⟨1, 0, [(kB, vB)], [(0, ⟨0, 1, 0, noText⟩)]⟩ aw2 = (⟨2, 0, [(kB, vB)], [(0, ⟨0, 1, 0, noText⟩)]⟩, ⟨0, noText⟩) := by kernel_rfl
theorem aw3_eq : applyM ⟨2, 0, [(kB, vB)], [(0, ⟨0, 1, 0, noText⟩)]⟩ aw3 = (⟨3, 0, [], [(0, ⟨0, 2, 0, vB⟩)]⟩, ⟨0, vB⟩) := by kernel_rfl
section
variable {H : Hp}
theorem apply_step {p s : Sl} {st : Stt} {e : En} (h : SR H p s st) (ok : st.Ok) {K : Int → Int → Sl → Sl → Int → ByteArray → Hp → Prop}
    (hK : ∀ p' s' H', SR H' p' s' (applyM st e).1 → Mod (fun _ => False) H H' → K (applyM st e).1.index (applyM st e).1.term p' s' (applyM st e).2.err (applyM st e).2.value H') :
    SCalls Try.prog state_Apply.id [stV st p s, e.val] H (fun r H1 => ∃ Index : Int, ∃ Term : Int, ∃ Pairs : Sl, ∃ Sessions : Sl, ∃ Err : Int, ∃ Valuev : ByteArray, r = .tuple #[.agg #[.int .i64 Index, .int .i64 Term, .slice Pairs.a Pairs.len Pairs.cap, .slice Sessions.a Sessions.len Sessions.cap], .agg #[.int .i64 Err, .string Valuev]] ∧ K Index Term Pairs Sessions Err Valuev H1) := by
  refine (Apply_spec (e := e) h ok).mono ?_
  rintro r H1 ⟨p', s', rfl, sr, m⟩
  exact ⟨_, _, p', s', _, _, rfl, hK p' s' H1 sr m⟩
theorem awake07_spec : SCalls Try.prog tephralaw07_awake.id [] H (TellPost H (.bool true)) := by
  apply tephralaw07_awake.calls
  unfold tephralaw07_awake.vc
  refine apply_step (st := .zero) (e := aw1) (SR.zero H) Stt.zero_ok fun p1 s1 H1 sr1 m1 => ?_
  have ok1 := applyM_ok (e := aw1) Stt.zero_ok
  rw [aw1_eq] at sr1 ok1 ⊢
  intro H2 e2 H3 e3
  obtain ⟨m2, _⟩ := hole_facts e2
  obtain ⟨m3, _⟩ := hole_facts e3
  refine apply_step (e := aw2) ((sr1.mod m2).mod m3) ok1 fun p2 s2 H4 sr2 m4 => ?_
  have ok2 := applyM_ok (e := aw2) ok1
  rw [aw2_eq] at sr2 ok2 ⊢
  intro H5 e5 H6 e6
  obtain ⟨m5, _⟩ := hole_facts e5
  obtain ⟨m6, _⟩ := hole_facts e6
  refine apply_step (e := aw3) ((sr2.mod m5).mod m6) ok2 fun p3 s3 H7 sr3 m7 => ?_
  have ok3 := applyM_ok (e := aw3) ok2
  rw [aw3_eq] at sr3 ok3 ⊢
  intro H8 e8 H9 e9
  obtain ⟨m8, _⟩ := hole_facts e8
  obtain ⟨m9, _⟩ := hole_facts e9
  have l2 : p2.len = 1 := (sr2.rr.lens).1.symm
  have l3 : p3.len = 0 := (sr3.rr.lens).1.symm
  have m09 := m1.trans (m2.trans (m3.trans (m4.trans (m5.trans (m6.trans (m7.trans (m8.trans m9)))))))
  have sr2' := ((((sr2.mod m5).mod m6).mod m7).mod m8).mod m9
  refine Br.yes (by kernel_rfl) ?_
  apply tephralaw07_awake.k1.step; unfold tephralaw07_awake.k1.body
  refine Br.yes (by kernel_rfl) ?_
  apply tephralaw07_awake.k2.step; unfold tephralaw07_awake.k2.body
  refine Br.yes (by rw [l2]; rfl) ?_
  apply tephralaw07_awake.k3.step; unfold tephralaw07_awake.k3.body
  refine Br.yes (by rw [l3]; rfl) ?_
  apply tephralaw07_awake.k4.step; unfold tephralaw07_awake.k4.body
  refine Br.yes rfl ?_
  refine (Get_spec (key := kB) sr2' (by simp) ok2.rk).mono ?_
  rintro r H10 ⟨rfl, m10⟩
  have e : valL [(kB, vB)] kB = some vB := by kernel_rfl
  rw [e]
  exact ⟨_, _, rfl, by kernel_rfl, m09.trans m10⟩

/-- Which rows are right. -/
def Pr.Ok (p : Pr) : Prop := 1 ≤ p.key.size ∧ p.key.size ≤ 8 ∧ p.value.size ≤ 16 ∧ (p.gone = true → p.value.size = 0)
def Se.Ok (x : Se) : Prop := 0 ≤ x.client ∧ x.client ≤ 3 ∧ 0 ≤ x.seq ∧ x.seq ≤ 1048576 ∧ 0 ≤ x.err ∧ x.err ≤ 14 ∧ x.value.size ≤ 16
instance (p : Pr) : Decidable p.Ok := by unfold Pr.Ok; infer_instance
instance (x : Se) : Decidable x.Ok := by unfold Se.Ok; infer_instance
def PrsTo (ps : List Pr) (n : Nat) : Prop := ∀ i (hi : i < ps.length), i < n → ps[i].Ok ∧ ∀ _ : 0 < i, KO.lt (ps[i - 1]'(by omega)).key ps[i].key
def SesTo (xs : List Se) (n : Nat) : Prop := ∀ i (hi : i < xs.length), i < n → xs[i].Ok ∧ ∀ _ : 0 < i, (xs[i - 1]'(by omega)).client < xs[i].client
def RowsOk (ps : List Pr) (xs : List Se) (most : Int) : Prop := PrsTo ps ps.length ∧ SesTo xs xs.length ∧ (ps.length : Int) ≤ most
instance (ps : List Pr) (n : Nat) : Decidable (PrsTo ps n) := by unfold PrsTo; infer_instance
instance (xs : List Se) (n : Nat) : Decidable (SesTo xs n) := by unfold SesTo; infer_instance
instance (ps : List Pr) (xs : List Se) (most : Int) : Decidable (RowsOk ps xs most) := by unfold RowsOk; infer_instance
theorem PrsTo.snoc {ps : List Pr} {j : Nat} (hj : j < ps.length) (h : PrsTo ps j) (h1 : ps[j].Ok) (h2 : ∀ _ : 0 < j, KO.lt (ps[j - 1]'(by omega)).key ps[j].key) : PrsTo ps (j + 1) := fun i hi hij => by
  by_cases c : i = j
  · subst c; exact ⟨h1, h2⟩
  · exact h i hi (by omega)
theorem SesTo.snoc {xs : List Se} {j : Nat} (hj : j < xs.length) (h : SesTo xs j) (h1 : xs[j].Ok) (h2 : ∀ _ : 0 < j, (xs[j - 1]'(by omega)).client < xs[j].client) : SesTo xs (j + 1) := fun i hi hij => by
  by_cases c : i = j
  · subst c; exact ⟨h1, h2⟩
  · exact h i hi (by omega)

theorem RightRows_spec {p s : Sl} {ps : List Pr} {xs : List Se} {most : Int} (hr : RR H p s ps xs) (hp : p.len ≤ 9223372036854775807) (hs : s.len ≤ 9223372036854775807) :
    SCalls Try.prog state_RightRows.id [.slice p.a p.len p.cap, .slice s.a s.len s.cap, .int .i64 most] H (TellPost H (.bool (decide (RowsOk ps xs most)))) := by
  obtain ⟨lp, ls⟩ := hr.lens
  apply state_RightRows.calls
  have loop2 : ∀ (d j : Nat) (H2 : Hp), j + d = xs.length → Mod (fun _ => False) H H2 → PrsTo ps ps.length → SesTo xs j →
      state_RightRows.l2 J0 p s most H2 (j : Int) (TellPost H (.bool (decide (RowsOk ps xs most)))) := by
    intro d
    induction d with
    | zero =>
      intro j H2 hj m h1 h2
      apply state_RightRows.l2.step; unfold state_RightRows.l2.body
      obtain rfl : j = xs.length := by omega
      refine Br.no (by simp; omega) ⟨?_, m⟩
      rw [← lp]
      congr 1
      refine decide_eq_decide.2 ⟨fun h => ⟨h1, h2, h⟩, fun h => h.2.2⟩
    | succ d ih =>
      intro j H2 hj m h1 h2
      apply state_RightRows.l2.step; unfold state_RightRows.l2.body
      have hjl : j < xs.length := by omega
      obtain ⟨a, ha, hrow⟩ := row_get' (by omega) Se.row_len (hr.mod m).2 hjl
      refine Br.yes (by simp; omega) ⟨⟨by omega, by omega⟩, vPtr.mk a ha ⟨xs[j].client, xs[j].seq, xs[j].err, xs[j].value, by simpa [Se.row] using hrow, fun H3 e3 => ?_⟩⟩
      obtain ⟨m3, s3⟩ := hole_facts e3
      have no : (¬ (xs[j].Ok ∧ ∀ _ : 0 < j, (xs[j - 1]'(by omega)).client < xs[j].client)) → state_RightRows.k2 J0 p s most (j : Int) xs[j].client xs[j].seq xs[j].err xs[j].value H3 true (TellPost H (.bool (decide (RowsOk ps xs most)))) := by
        intro hn
        apply state_RightRows.k2.step; unfold state_RightRows.k2.body
        refine Br.yes rfl ⟨?_, m.trans m3⟩
        rw [decide_eq_false fun h : RowsOk ps xs most => hn (h.2.1 j hjl hjl)]
      have yes : xs[j].Ok → (∀ _ : 0 < j, (xs[j - 1]'(by omega)).client < xs[j].client) → state_RightRows.k2 J0 p s most (j : Int) xs[j].client xs[j].seq xs[j].err xs[j].value H3 false (TellPost H (.bool (decide (RowsOk ps xs most)))) := by
        intro g1 g2
        apply state_RightRows.k2.step; unfold state_RightRows.k2.body
        refine Br.no rfl ?_
        rw [w64_id (x := (j : Int) + 1) (by omega) (by omega)]
        have := ih (j + 1) H3 (by omega) (m.trans m3) h1 (h2.snoc hjl g1 g2)
        simpa using this
      refine Br.mk (fun h => no fun ⟨⟨a1, a2, a3, a4, a5, a6, a7⟩, _⟩ => by have := of_decide_eq_true h; omega) fun h => ?_
      have b1 := of_decide_eq_false h
      refine Br.mk (fun h => no fun ⟨⟨a1, a2, a3, a4, a5, a6, a7⟩, _⟩ => by have := of_decide_eq_true h; omega) fun h => ?_
      have b2 := of_decide_eq_false h
      refine Br.mk (fun h => no fun ⟨⟨a1, a2, a3, a4, a5, a6, a7⟩, _⟩ => by have := of_decide_eq_true h; omega) fun h => ?_
      have b3 := of_decide_eq_false h
      refine Br.mk (fun h => no fun ⟨⟨a1, a2, a3, a4, a5, a6, a7⟩, _⟩ => by have := of_decide_eq_true h; omega) fun h => ?_
      have b4 := of_decide_eq_false h
      refine Br.mk (fun h => no fun ⟨⟨a1, a2, a3, a4, a5, a6, a7⟩, _⟩ => by have := of_decide_eq_true h; omega) fun h => ?_
      have b5 := of_decide_eq_false h
      refine Br.mk (fun h => no fun ⟨⟨a1, a2, a3, a4, a5, a6, a7⟩, _⟩ => by have := of_decide_eq_true h; omega) fun h => ?_
      have b6 := of_decide_eq_false h
      refine Br.mk (fun h => no fun ⟨⟨a1, a2, a3, a4, a5, a6, a7⟩, _⟩ => by have := of_decide_eq_true h; omega) fun h => ?_
      have b7 := of_decide_eq_false h
      have ok : xs[j].Ok := ⟨by omega, by omega, by omega, by omega, by omega, by omega, by omega⟩
      refine Br.mk (fun h => ?_) fun h => yes ok fun h0 => by have := of_decide_eq_false h; omega
      have h0 : 0 < j := by have := of_decide_eq_true h; omega
      rw [w64_id (x := (j : Int) - 1) (by omega) (by omega)]
      refine ⟨⟨by omega, by omega⟩, ?_⟩
      obtain ⟨a1, ha1, hrow1⟩ := row_get' (by omega) Se.row_len (hr.mod (m.trans m3)).2 (show j - 1 < xs.length by omega)
      refine vPtr.mk a1 ha1 ⟨(xs[j - 1]'(by omega)).client, ?_, ?_⟩
      · have := hrow1 0 (.int .i64 (xs[j - 1]'(by omega)).client) rfl
        have e : ((j : Int) - 1).toNat = j - 1 := by omega
        rw [e]
        rwa [add_zero_of] at this
      · by_cases c : (xs[j - 1]'(by omega)).client ≥ xs[j].client
        · rw [decide_eq_true c]; exact no fun ⟨_, g⟩ => by have := g h0; omega
        · rw [decide_eq_false c]; exact yes ok fun _ => by omega
  have loop1 : ∀ (d j : Nat) (H2 : Hp), j + d = ps.length → Mod (fun _ => False) H H2 → PrsTo ps j →
      state_RightRows.l1 J0 p s most H2 (j : Int) (TellPost H (.bool (decide (RowsOk ps xs most)))) := by
    intro d
    induction d with
    | zero =>
      intro j H2 hj m h1
      apply state_RightRows.l1.step; unfold state_RightRows.l1.body
      obtain rfl : j = ps.length := by omega
      exact Br.no (by simp; omega) (loop2 xs.length 0 H2 (by omega) m h1 fun i hi h => by omega)
    | succ d ih =>
      intro j H2 hj m h1
      apply state_RightRows.l1.step; unfold state_RightRows.l1.body
      have hjl : j < ps.length := by omega
      obtain ⟨a, ha, hrow⟩ := row_get' (by omega) Pr.row_len (hr.mod m).1 hjl
      refine Br.yes (by simp; omega) ⟨⟨by omega, by omega⟩, vPtr.mk a ha ⟨ps[j].key, ps[j].value, ps[j].gone, by simpa [Pr.row] using hrow, fun H3 e3 => ?_⟩⟩
      obtain ⟨m3, s3⟩ := hole_facts e3
      have no : (¬ (ps[j].Ok ∧ ∀ _ : 0 < j, KO.lt (ps[j - 1]'(by omega)).key ps[j].key)) → state_RightRows.k1 J0 p s most (j : Int) ps[j].key ps[j].value ps[j].gone H3 true (TellPost H (.bool (decide (RowsOk ps xs most)))) := by
        intro hn
        apply state_RightRows.k1.step; unfold state_RightRows.k1.body
        refine Br.yes rfl ⟨?_, m.trans m3⟩
        rw [decide_eq_false fun h : RowsOk ps xs most => hn (h.1 j hjl hjl)]
      have yes : ps[j].Ok → (∀ _ : 0 < j, KO.lt (ps[j - 1]'(by omega)).key ps[j].key) → state_RightRows.k1 J0 p s most (j : Int) ps[j].key ps[j].value ps[j].gone H3 false (TellPost H (.bool (decide (RowsOk ps xs most)))) := by
        intro g1 g2
        apply state_RightRows.k1.step; unfold state_RightRows.k1.body
        refine Br.no rfl ?_
        rw [w64_id (x := (j : Int) + 1) (by omega) (by omega)]
        have := ih (j + 1) H3 (by omega) (m.trans m3) (h1.snoc hjl g1 g2)
        simpa using this
      have last : ps[j].Ok → Br (decide ((j : Int) > 0)) (((0 : Int) ≤ (w64 ((j : Int) - 1)) ∧ (w64 ((j : Int) - 1)) < ((p.len : Nat) : Int)) ∧ vPtr p.a (fun a1 => ∃ Key1 : ByteArray, Hp.cell? H3 (a1.add (((w64 ((j : Int) - 1)) : Int).toNat * 3)) = some (.string Key1) ∧ 
          state_RightRows.k1 J0 p s most (j : Int) ps[j].key ps[j].value ps[j].gone H3 (!(Op.bytesLess Key1.toList (ps[j].key).toList)) (TellPost H (.bool (decide (RowsOk ps xs most))))))
          (state_RightRows.k1 J0 p s most (j : Int) ps[j].key ps[j].value ps[j].gone H3 false (TellPost H (.bool (decide (RowsOk ps xs most))))) := by
        intro ok
        refine Br.mk (fun h => ?_) fun h => yes ok fun h0 => by have := of_decide_eq_false h; omega
        have h0 : 0 < j := by have := of_decide_eq_true h; omega
        rw [w64_id (x := (j : Int) - 1) (by omega) (by omega)]
        refine ⟨⟨by omega, by omega⟩, ?_⟩
        obtain ⟨a1, ha1, hrow1⟩ := row_get' (by omega) Pr.row_len (hr.mod (m.trans m3)).1 (show j - 1 < ps.length by omega)
        refine vPtr.mk a1 ha1 ⟨(ps[j - 1]'(by omega)).key, ?_, ?_⟩
        · have := hrow1 0 (.string (ps[j - 1]'(by omega)).key) rfl
          have e : ((j : Int) - 1).toNat = j - 1 := by omega
          rw [e]
          rwa [add_zero_of] at this
        · cases c : Op.bytesLess (ps[j - 1]'(by omega)).key.toList (ps[j].key).toList with
          | true => exact yes ok fun _ => c
          | false => exact no fun ⟨_, g⟩ => by have g := g h0; rw [show KO.lt (ps[j - 1]'(by omega)).key ps[j].key = (Op.bytesLess (ps[j - 1]'(by omega)).key.toList (ps[j].key).toList = true) from rfl, c] at g; cases g
      rw [beqL_nil]
      refine Br.mk (fun h => no fun ⟨⟨a1, a2, a3, a4⟩, _⟩ => by have := of_decide_eq_true h; omega) fun h => ?_
      have b1 := of_decide_eq_false h
      refine Br.mk (fun h => no fun ⟨⟨a1, a2, a3, a4⟩, _⟩ => by have := of_decide_eq_true h; omega) fun h => ?_
      have b2 := of_decide_eq_false h
      refine Br.mk (fun h => no fun ⟨⟨a1, a2, a3, a4⟩, _⟩ => by have := of_decide_eq_true h; omega) fun h => ?_
      have b3 := of_decide_eq_false h
      refine Br.mk (fun hg => ?_) fun hg => last ⟨by omega, by omega, by omega, fun e => by rw [hg] at e; cases e⟩
      rw [beqL_nil]
      refine Br.mk (fun h => no fun ⟨⟨a1, a2, a3, a4⟩, _⟩ => ?_) fun h => last ⟨by omega, by omega, by omega, fun _ => ?_⟩
      · have := a4 hg; simp [this] at h
      · simpa using h
  exact loop1 ps.length 0 H (by omega) (Mod.refl _ _) fun i hi h => by omega

/-- Which states are right. -/
def RightM (i t : Int) (ps : List Pr) (xs : List Se) : Prop := (∀ p ∈ ps, p.gone = false) ∧ 0 ≤ i ∧ i ≤ 1048576 ∧ 0 ≤ t ∧ t ≤ 1048576 ∧ RowsOk ps xs 64
instance (i t : Int) (ps : List Pr) (xs : List Se) : Decidable (RightM i t ps xs) := by unfold RightM; infer_instance
theorem Right_spec {i t : Int} {p s : Sl} {ps : List Pr} {xs : List Se} (hr : RR H p s ps xs) (hp : p.len ≤ 9223372036854775807) (hs : s.len ≤ 9223372036854775807) :
    SCalls Try.prog state_Right.id [.agg #[.int .i64 i, .int .i64 t, .slice p.a p.len p.cap, .slice s.a s.len s.cap]] H (TellPost H (.bool (decide (RightM i t ps xs)))) := by
  obtain ⟨lp, ls⟩ := hr.lens
  apply state_Right.calls (sIndex := i) (sTerm := t) (sPairs := p) (sSessions := s)
  intro H1 e1
  obtain ⟨m1, _⟩ := hole_facts e1
  have k3 : ∀ (H2 : Hp) (b : Bool), Mod (fun _ => False) H H2 → (∀ p ∈ ps, p.gone = false) → (b = true ↔ 0 ≤ i ∧ i ≤ 1048576 ∧ 0 ≤ t ∧ t ≤ 1048576) → state_Right.k3 J0 i t p s H2 b (TellPost H (.bool (decide (RightM i t ps xs)))) := by
    intro H2 b m hg hb
    apply state_Right.k3.step; unfold state_Right.k3.body
    refine Br.mk (fun h => ?_) (fun h => ?_)
    · have hb := hb.1 h
      refine (RightRows_spec (most := 64) (hr.mod m) hp hs).mono ?_
      rintro r H3 ⟨rfl, m3⟩
      refine ⟨_, rfl, ?_, m.trans m3⟩
      congr 1
      exact decide_eq_decide.2 ⟨fun h => ⟨hg, hb.1, hb.2.1, hb.2.2.1, hb.2.2.2, h⟩, fun h => h.2.2.2.2.2⟩
    · refine ⟨?_, m⟩
      rw [decide_eq_false fun g : RightM i t ps xs => by have := hb.2 ⟨g.2.1, g.2.2.1, g.2.2.2.1, g.2.2.2.2.1⟩; rw [h] at this; cases this]
  have k2 : ∀ (H2 : Hp) (b : Bool), Mod (fun _ => False) H H2 → (∀ p ∈ ps, p.gone = false) → (b = true ↔ 0 ≤ i ∧ i ≤ 1048576 ∧ 0 ≤ t) → state_Right.k2 J0 i t p s H2 b (TellPost H (.bool (decide (RightM i t ps xs)))) := by
    intro H2 b m hg hb
    apply state_Right.k2.step; unfold state_Right.k2.body
    refine Br.mk (fun h => k3 H2 _ m hg ?_) (fun h => k3 H2 _ m hg ?_)
    · have := hb.1 h; simp; omega
    · simp; intro g1 g2 g3; have := hb.2 ⟨g1, g2, g3⟩; rw [h] at this; cases this
  have k1 : ∀ (H2 : Hp) (b : Bool), Mod (fun _ => False) H H2 → (∀ p ∈ ps, p.gone = false) → (b = true ↔ 0 ≤ i ∧ i ≤ 1048576) → state_Right.k1 J0 i t p s H2 b (TellPost H (.bool (decide (RightM i t ps xs)))) := by
    intro H2 b m hg hb
    apply state_Right.k1.step; unfold state_Right.k1.body
    refine Br.mk (fun h => k2 H2 _ m hg ?_) (fun h => k2 H2 _ m hg ?_)
    · have := hb.1 h; simp; omega
    · simp; intro g1 g2; have := hb.2 ⟨g1, g2⟩; rw [h] at this; cases this
  have loop : ∀ (d j : Nat) (H2 : Hp), j + d = ps.length → Mod (fun _ => False) H H2 → (∀ q ∈ ps.take j, q.gone = false) →
      state_Right.l1 J0 i t p s H2 (j : Int) (TellPost H (.bool (decide (RightM i t ps xs)))) := by
    intro d
    induction d with
    | zero =>
      intro j H2 hj m hg
      apply state_Right.l1.step; unfold state_Right.l1.body
      rw [List.take_of_length_le (by omega)] at hg
      refine Br.no (by simp; omega) (Br.mk (fun h => k1 H2 _ m hg ?_) (fun h => k1 H2 _ m hg ?_))
      · have := of_decide_eq_true h; simp; omega
      · have := of_decide_eq_false h; simp; omega
    | succ d ih =>
      intro j H2 hj m hg
      apply state_Right.l1.step; unfold state_Right.l1.body
      have hjl : j < ps.length := by omega
      obtain ⟨a, ha, hrow⟩ := row_get' (by omega) Pr.row_len (hr.mod m).1 hjl
      refine Br.yes (by simp; omega) ⟨⟨by omega, by omega⟩, vPtr.mk a ha ⟨ps[j].key, ps[j].value, ps[j].gone, by simpa [Pr.row] using hrow, fun H3 e3 => ?_⟩⟩
      obtain ⟨m3, s3⟩ := hole_facts e3
      refine Br.mk (fun h => ⟨?_, m.trans m3⟩) (fun h => ?_)
      · rw [decide_eq_false fun g : RightM i t ps xs => by have := g.1 _ (List.getElem_mem hjl); rw [h] at this; cases this]
      · rw [w64_id (x := (j : Int) + 1) (by omega) (by omega)]
        have := ih (j + 1) H3 (by omega) (m.trans m3) (fun q hq => by
          rw [List.take_succ_eq_append_getElem hjl, List.mem_append, List.mem_singleton] at hq
          rcases hq with hq | rfl
          · exact hg q hq
          · exact h)
        simpa using this
  exact loop ps.length 0 H1 (by omega) m1 (by simp)
end
end Go.Proofs
