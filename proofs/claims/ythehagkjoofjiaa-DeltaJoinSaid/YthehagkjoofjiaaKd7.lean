/- DELTAS: the document's examples; DeltaSame. -/
import Derived.Test.YthehagkjoofjiaaKd6
import Derived.Test.YthehagkjoofjiaaKx4
import Derived.Test.YthehagkjoofjiaaKx3
set_option linter.all false
set_option linter.constructorNameAsVariable false
namespace Go.Proofs
open Go Go.KC

def Stt.wt (s : Stt) : Wt := ⟨s.index, s.term, s.pairs, s.sess⟩
def prsOfL (l : List (ByteArray × ByteArray)) : List Pr := l.map fun p => ⟨p.1, p.2, false⟩
theorem kvs_prs (l : List (ByteArray × ByteArray)) : kvs (prsOfL l) = l := by
  unfold kvs prsOfL
  rw [List.map_map]
  exact (List.map_congr_left fun p _ => rfl).trans (List.map_id l)
theorem stay_prs (l : List (ByteArray × ByteArray)) : stay (prsOfL l) = prsOfL l := by
  unfold stay prsOfL
  rw [List.filter_eq_self]
  intro p hp
  obtain ⟨q, _, rfl⟩ := List.mem_map.1 hp
  rfl
theorem mrg_nil (l : List Pr) : mrg l [] = l := by
  unfold mrg
  rw [show PP.byKey [] = [] from rfl, mergeL_none]
  unfold PP.byKey
  rw [List.map_map]
  exact (List.map_congr_left fun p _ => rfl).trans (List.map_id l)
theorem btw_self {l : List (ByteArray × ByteArray)} (h : Rise l) : btw l l = [] := by
  unfold btw
  rw [mergeL_self h, List.flatMap_eq_nil_iff]
  intro p hp
  have hv : valL l p.1 = some p.2 := (valL_mem h).2 hp
  unfold btwP
  rw [hv]; simp
theorem between_self {s : Stt} (ok : s.Ok) : betweenD s.wt s.wt = (⟨s.index, s.index, s.term, [], s.sess⟩, 0) := by
  unfold betweenD
  rw [if_neg (by simp)]
  have e : kvs s.wt.ps = s.kv := kvs_prs s.kv
  rw [e, ofL_rise _ ok.rk, btw_self ok.rk]
  rfl
theorem do_self {s : Stt} (ok : s.Ok) : doD s.wt ⟨s.index, s.index, s.term, [], s.sess⟩ = (s.wt, 0) := by
  unfold doD
  rw [if_neg (by simp [Stt.wt]), mrg_nil]
  have e : stay s.wt.ps = s.pairs := stay_prs s.kv
  have hl : s.pairs.length ≤ 64 := by have : s.pairs.length = s.kv.length := List.length_map _; have := ok.kl; omega
  rw [e, if_neg (by omega)]
  rfl

def kB8 : ByteArray := ByteArray.mk #[107]
def vB8 : ByteArray := ByteArray.mk #[118]
def wA : Wt := ⟨0, 0, [], []⟩
def wB : Wt := ⟨2, 0, [⟨kB8, vB8, false⟩], []⟩
def wC : Wt := ⟨3, 0, [], []⟩
theorem rise_one {κ α : Type} [KO κ] (p : κ × α) : Rise [p] := fun i j hi hj h => by simp at hi hj; omega
theorem aw8_1 : betweenD wA wB = (⟨0, 2, 0, [⟨kB8, vB8, false⟩], []⟩, 0) := by
  unfold betweenD
  rw [if_neg (by decide)]
  have e1 : ofL (kvs wA.ps) = [] := rfl
  have e2 : ofL (kvs wB.ps) = [(kB8, vB8)] := ofL_rise _ (rise_one _)
  rw [e1, e2]
  unfold btw
  rw [mergeL_nil]
  have hv : valL [(kB8, vB8)] kB8 = some vB8 := (valL_mem (rise_one _)).2 (by simp)
  simp [btwP, hv, valL, wA, wB]
theorem aw8_2 : betweenD wB wC = (⟨2, 3, 0, [⟨kB8, noText, true⟩], []⟩, 0) := by
  unfold betweenD
  rw [if_neg (by decide)]
  have e1 : ofL (kvs wC.ps) = [] := rfl
  have e2 : ofL (kvs wB.ps) = [(kB8, vB8)] := ofL_rise _ (rise_one _)
  rw [e1, e2]
  unfold btw
  rw [mergeL_none]
  simp [btwP, valL, wB, wC]
theorem aw8_3 : doD wA ⟨0, 2, 0, [⟨kB8, vB8, false⟩], []⟩ = (wB, 0) := by
  unfold doD
  rw [if_neg (by decide)]
  have e : mrg wA.ps [⟨kB8, vB8, false⟩] = [⟨kB8, vB8, false⟩] := by
    unfold mrg; rw [show PP.byKey wA.ps = [] from rfl, mergeL_nil]; rfl
  have e2 : stay [(⟨kB8, vB8, false⟩ : Pr)] = [⟨kB8, vB8, false⟩] := rfl
  dsimp only
  rw [e, e2, if_neg (by decide)]
  rfl

section
variable {H : Hp}
theorem between_step {a b : Wt} {p x bp bx : Sl} (hs : RR H p x a.ps a.xs) (hd : RR H bp bx b.ps b.xs) (hl : a.ps.length ≤ 1000 ∧ b.ps.length ≤ 1000 ∧ b.xs.length ≤ 1000) {r : Dl × Int} (hr : betweenD a b = r) {K : Int → Int → Int → Sl → Sl → Int → Hp → Prop}
    (hK : ∀ p' x' H', RR H' p' x' r.1.ps r.1.xs → Mod (fun _ => False) H H' → K r.1.from r.1.to r.1.term p' x' r.2 H') :
    SCalls Try.prog delta_Between.id [wtV a p x, wtV b bp bx] H (fun r1 H5 => ∃ From : Int, ∃ To : Int, ∃ Term1 : Int, ∃ Pairs1 : Sl, ∃ Sessions1 : Sl, ∃ x : Int, r1 = .tuple #[.agg #[.int .i64 From, .int .i64 To, .int .i64 Term1, .slice Pairs1.a Pairs1.len Pairs1.cap, .slice Sessions1.a Sessions1.len Sessions1.cap], .int .i64 x] ∧ K From To Term1 Pairs1 Sessions1 x H5) := by
  refine (Between_spec hs hd hl).mono ?_
  rw [hr]
  rintro v H' ⟨p', x', rfl, rr, m⟩
  exact ⟨_, _, _, p', x', _, rfl, hK p' x' H' rr m⟩
theorem do_step {s : Wt} {d : Dl} {p x dp dx : Sl} (hs : RR H p x s.ps s.xs) (hd : RR H dp dx d.ps d.xs) (hl : s.ps.length ≤ 1000 ∧ d.ps.length ≤ 1000 ∧ d.xs.length ≤ 1000) {r : Wt × Int} (hr : doD s d = r) {K : Int → Int → Sl → Sl → Int → Hp → Prop}
    (hK : ∀ p' x' H', RR H' p' x' r.1.ps r.1.xs → Mod (fun _ => False) H H' → K r.1.index r.1.term p' x' r.2 H') :
    SCalls Try.prog delta_Do.id [wtV s p x, dlV d dp dx] H (fun r3 H9 => ∃ Index1 : Int, ∃ Term3 : Int, ∃ Pairs3 : Sl, ∃ Sessions3 : Sl, ∃ x2 : Int, r3 = .tuple #[.agg #[.int .i64 Index1, .int .i64 Term3, .slice Pairs3.a Pairs3.len Pairs3.cap, .slice Sessions3.a Sessions3.len Sessions3.cap], .int .i64 x2] ∧ K Index1 Term3 Pairs3 Sessions3 x2 H9) := by
  refine (Do_spec hs hd hl).mono ?_
  rw [hr]
  rintro v H' ⟨p', x', rfl, rr, m⟩
  exact ⟨_, _, p', x', _, rfl, hK p' x' H' rr m⟩
theorem some_step8 {says : Sl} {ss : List Sy} (hr : Rows H says 6 (ss.map Sy.cells).flatten) (hl : ss.length = says.len) {K : Int → Int → Sl → Sl → Hp → Prop}
    (hK : ∀ p' s' H', SR H' p' s' (someM ss) → Mod (fun _ => False) H H' → K (someM ss).index (someM ss).term p' s' H') :
    SCalls Try.prog tephralaw07_Some.id [.slice says.a says.len says.cap] H (fun r H1 => ∃ Index : Int, ∃ Term : Int, ∃ Pairs : Sl, ∃ Sessions : Sl, r = .agg #[.int .i64 Index, .int .i64 Term, .slice Pairs.a Pairs.len Pairs.cap, .slice Sessions.a Sessions.len Sessions.cap] ∧ K Index Term Pairs Sessions H1) := by
  refine (Some_spec hr hl).mono ?_
  rintro r H1 ⟨p', s', rfl, sr, m⟩
  exact ⟨_, _, p', s', rfl, hK p' s' H1 sr m⟩

theorem awake08_spec : SCalls Try.prog tephralaw08_awake.id [] H (TellPost H (.bool true)) := by
  apply tephralaw08_awake.calls
  unfold tephralaw08_awake.vc
  have hz : someM [] = .zero := rfl
  refine some_step8 (says := ⟨none, 0, 0⟩) (ss := []) ⟨rfl, Nat.le_refl _, fun a ha => (by cases ha), fun _ => rfl⟩ rfl fun p s H1 sr m1 => ?_
  rw [hz] at sr ⊢
  have rA : RR H1 p s wA.ps wA.xs := sr.rr
  intro H2 h2 b hb H3 h3 H4 h4
  obtain ⟨m2, _⟩ := hole_facts h2
  obtain ⟨m4, _⟩ := hole_facts h4
  have m3 : Mod (fun _ => False) H2 H3 := by rw [h3]; exact Mod.push _ _ _
  have rB3 : RR H3 ⟨some (Addr.mk b 0 none), 1, 1⟩ ⟨none, 0, 0⟩ wB.ps wB.xs := by
    refine ⟨?_, ⟨rfl, Nat.le_refl _, fun a ha => (by cases ha), fun _ => rfl⟩⟩
    rw [h3, hb]
    exact rows_new [.string kB8, .string vB8, .bool false] 3 rfl
  have rC : ∀ H', RR H' ⟨none, 0, 0⟩ ⟨none, 0, 0⟩ wC.ps wC.xs := fun H' => RR.nil H'
  have rA4 := ((rA.mod m2).mod m3).mod m4
  have rB4 := rB3.mod m4
  refine between_step (a := wA) (b := wB) rA4 rB4 (by decide) aw8_1 fun p5 x5 H5 r5 m5 => ?_
  intro H6 h6
  obtain ⟨m6, _⟩ := hole_facts h6
  refine between_step (a := wB) (b := wC) ((rB4.mod m5).mod m6) (rC H6) (by decide) aw8_2 fun p7 x7 H7 r7 m7 => ?_
  intro H8 h8
  obtain ⟨m8, _⟩ := hole_facts h8
  have m48 := m5.trans (m6.trans (m7.trans m8))
  refine do_step (s := wA) (d := ⟨0, 2, 0, [⟨kB8, vB8, false⟩], []⟩) (rA4.mod m48) (((r5.mod m6).mod m7).mod m8) (by decide) aw8_3 fun p9 x9 H9 r9 m9 => ?_
  intro H10 h10
  obtain ⟨m10, _⟩ := hole_facts h10
  have mm := m1.trans (m2.trans (m3.trans (m4.trans (m48.trans (m9.trans m10)))))
  have r7' := ((r7.mod m8).mod m9).mod m10
  have l7 : p7.len = 1 := (r7'.lens).1.symm
  refine Br.yes rfl ?_
  apply tephralaw08_awake.k1.step; unfold tephralaw08_awake.k1.body
  refine Br.yes rfl ?_
  apply tephralaw08_awake.k2.step; unfold tephralaw08_awake.k2.body
  refine Br.yes rfl ?_
  have hB : (stB 2 0 wB.ps wB.xs).length ≤ 140737488355328 := by
    have h1 : (prsB wB.ps).length = 19 := by unfold prsB wB; rw [List.map_cons, List.map_nil, List.flatten_cons, List.flatten_nil, List.append_nil, Pr.bytes_len]; rfl
    have h2 : (sesB wB.xs).length = 0 := rfl
    unfold stB; simp only [List.length_append, be_length, rowsB_len]; omega
  have hS := Same_spec (H := H10) (i := 2) (t := 0) (i' := 2) (t' := 0) (ps := wB.ps) (xs := wB.xs) (ps' := wB.ps) (xs' := wB.xs) (r9.mod m10) (((rB4.mod m48).mod m9).mod m10) hB hB
  rw [decide_eq_true rfl] at hS
  refine bool_step hS (Mod.refl _ _) fun H11 m11 => ?_
  apply tephralaw08_awake.k3.step; unfold tephralaw08_awake.k3.body
  refine Br.yes rfl ?_
  apply tephralaw08_awake.k4.step; unfold tephralaw08_awake.k4.body
  refine Br.yes (by rw [l7]; rfl) ?_
  obtain ⟨a, ha, hrow⟩ := row_get' (by omega) Pr.row_len (r7'.mod m11).1 (show 0 < 1 by omega)
  refine ⟨⟨by omega, by omega⟩, vPtr.mk a ha ⟨true, ?_, ?_⟩⟩
  · have := hrow 2 (.bool true) rfl
    rwa [Nat.zero_mul, add_zero_of] at this
  apply tephralaw08_awake.k5.step; unfold tephralaw08_awake.k5.body
  exact Br.yes rfl ⟨rfl, mm.trans m11⟩

theorem DeltaSame_spec {says : Sl} {ss : List Sy} (hr : Rows H says 6 (ss.map Sy.cells).flatten) (hl : ss.length = says.len) :
    SCalls Try.prog tephralaw08_DeltaSame.id [.slice says.a says.len says.cap] H (trueQ H) := by
  apply tephralaw08_DeltaSame.calls
  unfold tephralaw08_DeltaSame.vc
  refine bool_step (H0 := H) awake08_spec (Mod.refl _ _) fun H1 m1 => Br.no rfl ?_
  refine some_step8 (hr.keep m1 fun _ _ e => e) hl fun p s H2 sr m2 => ?_
  have ok := someM_ok ss
  generalize someM ss = st at sr ok
  have lk : st.pairs.length = st.kv.length := List.length_map _
  have ls : st.sess.length = st.ss.length := List.length_map _
  have hk := ok.kl
  have hsl := ok.sl
  intro H3 h3
  obtain ⟨m3, _⟩ := hole_facts h3
  have r3 : RR H3 p s st.wt.ps st.wt.xs := (sr.mod m3).rr
  have hbs := Stt.bytes_le ok
  have lw : st.wt.ps.length ≤ 1000 ∧ st.wt.xs.length ≤ 1000 := ⟨by show st.pairs.length ≤ _; omega, by show st.sess.length ≤ _; omega⟩
  refine between_step (a := st.wt) (b := st.wt) r3 r3 ⟨lw.1, lw.1, lw.2⟩ (between_self ok) fun p4 x4 H4 r4 m4 => ?_
  intro H5 h5
  obtain ⟨m5, _⟩ := hole_facts h5
  refine do_step (s := st.wt) (d := ⟨st.index, st.index, st.term, [], st.sess⟩) ((r3.mod m4).mod m5) (r4.mod m5) ⟨lw.1, by simp, lw.2⟩ (do_self ok) fun p6 x6 H6 r6 m6 => ?_
  intro H7 h7
  obtain ⟨m7, _⟩ := hole_facts h7
  have l4 : p4.len = 0 := (r4.lens).1.symm
  refine Br.yes rfl ?_
  apply tephralaw08_DeltaSame.k1.step; unfold tephralaw08_DeltaSame.k1.body
  refine Br.yes rfl ?_
  apply tephralaw08_DeltaSame.k2.step; unfold tephralaw08_DeltaSame.k2.body
  refine Br.yes (by rw [l4]; rfl) ?_
  apply tephralaw08_DeltaSame.k3.step; unfold tephralaw08_DeltaSame.k3.body
  refine Br.yes (by simp) ?_
  have m37 := m4.trans (m5.trans (m6.trans m7))
  refine bool_step (Same_spec (r3.mod m37) (r6.mod m7) (by unfold Stt.bytes at hbs; show (stB st.index st.term st.pairs st.sess).length ≤ _; omega) (by unfold Stt.bytes at hbs; show (stB st.index st.term st.pairs st.sess).length ≤ _; omega)) (m1.trans (m2.trans (m3.trans m37))) fun H8 m8 => ⟨congrArg Value.bool (decide_eq_true (rfl : stB st.index st.term st.pairs st.sess = stB st.index st.term st.pairs st.sess)), m8⟩
end
end Go.Proofs
