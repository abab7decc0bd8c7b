/- STATES: the model's apply. -/
import Derived.Test.YtgndfbbgomlbeaaKu8
import Derived.Test.YtgndfbbgomlbeaaKgm3
set_option linter.all false
set_option linter.constructorNameAsVariable false
namespace Go.Proofs
open Go Go.KC

section
variable {κ α : Type} [KO κ] [DecidableEq κ]
theorem opt_ext {x y : Option α} (h : ∀ v, x = some v ↔ y = some v) : x = y := by
  cases x with
  | none => cases y with
    | none => rfl
    | some b => exact ((h b).2 rfl).symm ▸ rfl
  | some a => exact ((h a).1 rfl).symm
theorem valL_put {l : List (κ × α)} (hs : Rise l) (k : κ) (v : α) (j : κ) : valL (putL l k v) j = if j = k then some v else valL l j := by
  refine opt_ext fun w => ?_
  rw [valL_mem (putL_rise hs k v), putL_mem hs]
  split
  · exact ⟨fun h => by rw [h], fun h => by cases h; rfl⟩
  · exact (valL_mem hs).symm
theorem valL_del {l : List (κ × α)} (hs : Rise l) (k : κ) (j : κ) : valL (delL l k) j = if j = k then none else valL l j := by
  refine opt_ext fun w => ?_
  rw [valL_mem (delL_rise hs k), delL_mem hs]
  split
  · rename_i c; exact ⟨fun h => (h.1 c).elim, fun h => by cases h⟩
  · rename_i c; exact ⟨fun h => (valL_mem hs).2 h.2, fun h => ⟨c, (valL_mem hs).1 h⟩⟩
theorem atB_val {l : List (κ × α)} {k : κ} {i : Nat} (hs : Rise l) (h : Spot l k i) : atB l k i = (valL l k).isSome := by
  cases hb : atB l k i with
  | false =>
    have : valL l k = none := (valL_none hs).2 fun v hv => h.not hs hb v hv
    rw [this]; rfl
  | true =>
    unfold atB at hb
    have hi : i < l.length := by
      rcases Nat.lt_or_ge i l.length with c | c
      · exact c
      · rw [List.getElem?_eq_none c] at hb; simp at hb
    rw [List.getElem?_eq_getElem hi] at hb
    have hk : l[i].1 = k := by simpa using hb
    have : valL l k = some l[i].2 := (valL_mem hs).2 (by rw [← hk]; exact List.getElem_mem hi)
    rw [this]; rfl
theorem length_put {l : List (κ × α)} (hs : Rise l) (k : κ) (v : α) : (putL l k v).length = if (valL l k).isSome then l.length else l.length + 1 := by
  unfold putL
  rw [putAt_length (spotOf_spot k hs).le, atB_val hs (spotOf_spot k hs)]
theorem length_del {l : List (κ × α)} (hs : Rise l) (k : κ) : (delL l k).length = if (valL l k).isSome then l.length - 1 else l.length := by
  have h := spotOf_spot k hs
  have e := atB_val hs h
  unfold delL delAt
  rw [e]
  cases hv : (valL l k).isSome with
  | false => simp
  | true =>
    rw [hv] at e
    have hi : spotOf l k < l.length := by
      rcases Nat.lt_or_ge (spotOf l k) l.length with c | c
      · exact c
      · unfold atB at e; rw [List.getElem?_eq_none c] at e; simp at e
    simp only [if_pos]
    simp [List.length_append, List.length_take, List.length_drop]
    omega
end

section
variable {H H' : Hp} {b k s d : Nat} {i t : Int}
abbrev ekS : ByteArray → Value := fun k => .string k
abbrev ekI : Int → Value := fun k => .int .i64 k
/-- The model's five words. -/
def MB (H : Hp) (b : Nat) (i t : Int) (k s d : Nat) : Prop := H[b]? = some (.cells #[.int .i64 i, .int .i64 t, .map (some k), .map (some s), .map (some d)] T_tephralaw07_Model (0, 0))
theorem MB.at0 (h : MB H b i t k s d) : Hp.cell? H (Addr.mk b 0 none) = some (.int .i64 i) := by rw [cell_of h]; rfl
theorem MB.at1 (h : MB H b i t k s d) : Hp.cell? H ((Addr.mk b 0 none).add 1) = some (.int .i64 t) := by rw [Addr.add_loc, cell_of h, Nat.zero_add]; rfl
theorem MB.at2 (h : MB H b i t k s d) : Hp.cell? H ((Addr.mk b 0 none).add 2) = some (.map (some k)) := by rw [Addr.add_loc, cell_of h, Nat.zero_add]; rfl
theorem MB.at3 (h : MB H b i t k s d) : Hp.cell? H ((Addr.mk b 0 none).add 3) = some (.map (some s)) := by rw [Addr.add_loc, cell_of h, Nat.zero_add]; rfl
theorem MB.at4 (h : MB H b i t k s d) : Hp.cell? H ((Addr.mk b 0 none).add 4) = some (.map (some d)) := by rw [Addr.add_loc, cell_of h, Nat.zero_add]; rfl
theorem MB.wr0 (h : MB H b i t k s d) : WrAt H (Addr.mk b 0 none) 1 := wr_one h (by simp)
theorem MB.wr1 (h : MB H b i t k s d) : WrAt H ((Addr.mk b 0 none).add 1) 1 := by rw [Addr.add_loc, Nat.zero_add]; exact wr_one h (by simp)
theorem MB.set0 (h : MB H b i t k s d) {n : Int} (e : H' = Hp.setCell H (Addr.mk b 0 none) (.int .i64 n)) : MB H' b n t k s d ∧ Mod (· = b) H H' := by
  subst e; exact ⟨by have := get_setCell (o := 0) (.int .i64 n) h; simpa [MB] using this, Mod.setCell H _ _ rfl⟩
theorem MB.set1 (h : MB H b i t k s d) {n : Int} (e : H' = Hp.setCell H ((Addr.mk b 0 none).add 1) (.int .i64 n)) : MB H' b i n k s d ∧ Mod (· = b) H H' := by
  subst e; rw [Addr.add_loc, Nat.zero_add]; exact ⟨by have := get_setCell (o := 1) (.int .i64 n) h; simpa [MB] using this, Mod.setCell H _ _ rfl⟩
theorem MB.keep {μ : Nat → Prop} (h : MB H b i t k s d) (m : Mod μ H H') (hb : ¬ μ b) : MB H' b i t k s d := m.get h hb

theorem keyI : KE (.int .i64) ekI := ⟨fun a b => by
    show (if IntKind.i64 = IntKind.i64 then some (a == b) else none) = _
    rw [if_pos rfl]; by_cases h : a = b <;> simp [h], fun a b h => by injection h⟩
theorem keyD_ss : keyD Try.prog T_map_string_string = some (.string, T_string) := by kernel_rfl
theorem keyD_ii : keyD Try.prog T_map_int_int = some (.int .i64, T_int) := by kernel_rfl
theorem keyD_ir : keyD Try.prog T_map_int_api_Reply = some (.int .i64, T_api_Reply) := by kernel_rfl
theorem zero_s : ∃ ti, Try.prog.info? T_string = some ti ∧ ti.zero = some (.string noText) := by
  have h : (Try.prog.info? T_string).bind (·.zero) = some (.string noText) := by kernel_rfl
  exact Option.bind_eq_some_iff.1 h
theorem zero_i : ∃ ti, Try.prog.info? T_int = some ti ∧ ti.zero = some (.int .i64 0) := by
  have h : (Try.prog.info? T_int).bind (·.zero) = some (.int .i64 0) := by kernel_rfl
  exact Option.bind_eq_some_iff.1 h
theorem zero_r : ∃ ti, Try.prog.info? T_api_Reply = some ti ∧ ti.zero = some (.agg #[.int .i64 0, .string noText]) := by
  have h : (Try.prog.info? T_api_Reply).bind (·.zero) = some (.agg #[.int .i64 0, .string noText]) := by kernel_rfl
  exact Option.bind_eq_some_iff.1 h

def fK (kv : List (ByteArray × ByteArray)) (x : ByteArray) : Option Value := (valL kv x).map fun v => .string v
def fS (ss : List (Int × Se)) (c : Int) : Option Value := (valL ss c).map fun x => .int .i64 x.seq
def fD (ss : List (Int × Se)) (c : Int) : Option Value := (valL ss c).map fun x => .agg #[.int .i64 x.err, .string x.value]
/-- The model has what a state has. -/
structure MD (H : Hp) (b k s d : Nat) (i t : Int) (kv : List (ByteArray × ByteArray)) (ss : List (Int × Se)) : Prop where
  mb : MB H b i t k s d
  gk : GM ekS H k (fK kv) kv.length
  gs : MF ekI H s (fS ss) ss.length
  gd : MF ekI H d (fD ss) ss.length
  ds : k ≠ s ∧ s ≠ d ∧ k ≠ d ∧ b ≠ k ∧ b ≠ s ∧ b ≠ d
variable {kv : List (ByteArray × ByteArray)} {ss : List (Int × Se)}
theorem MD.keep {μ : Nat → Prop} (h : MD H b k s d i t kv ss) (m : Mod μ H H') (hb : ¬ μ b) (hk : ¬ μ k) (hs : ¬ μ s) (hd : ¬ μ d) : MD H' b k s d i t kv ss :=
  ⟨h.mb.keep m hb, h.gk.keep m hk, h.gs.keep m hs, h.gd.keep m hd, h.ds⟩
theorem MD.mod (h : MD H b k s d i t kv ss) (m : Mod (fun _ => False) H H') : MD H' b k s d i t kv ss := h.keep m (fun e => e) (fun e => e) (fun e => e) (fun e => e)
theorem GM.congr {κ : Type} [DecidableEq κ] {ek : κ → Value} {r n n' : Nat} {f g : κ → Option Value} (h : GM ek H r f n) (e : ∀ k, f k = g k) (en : n = n') : GM ek H r g n' := by
  obtain rfl : f = g := funext e
  exact en ▸ h

/-- What is told is kept: by client, the number, and the reply. -/
theorem MD.tell (M : MD H b k s d i t kv ss) (rs : Rise ss) (c seq err : Int) (val : ByteArray) {K : Hp → Prop}
    (hK : ∀ H', MD H' b k s d i t kv (putL ss c ⟨c, seq, err, val⟩) → Mod (fun q => q = b ∨ q = k ∨ q = s ∨ q = d) H H' → K H') :
    vMapEnt Try.prog T_map_int_int (some s) (.int .i64 c) H (fun _ st H12 => vEntSt (some s) st (.int .i64 seq) H12 (fun H13 =>
      vMapEnt Try.prog T_map_int_api_Reply (some d) (.int .i64 c) H13 (fun _ st1 H14 => vEntSt (some d) st1 (.agg #[.int .i64 err, .string val]) H14 K))) := by
  obtain ⟨d1, d2, d3, d4, d5, d6⟩ := M.ds
  refine M.gs.ent keyI keyD_ii zero_i c (.int .i64 seq) fun H1 g1 m1 => ?_
  refine (M.gd.keep m1 (fun e => d2 e.symm)).ent keyI keyD_ir zero_r c _ fun H2 g2 m2 => ?_
  have eS : (fS ss c).isSome = (valL ss c).isSome := by unfold fS; cases valL ss c <;> rfl
  have eD : (fD ss c).isSome = (valL ss c).isSome := by unfold fD; cases valL ss c <;> rfl
  rw [eS, ← length_put rs c ⟨c, seq, err, val⟩] at g1
  rw [eD, ← length_put rs c ⟨c, seq, err, val⟩] at g2
  refine hK H2 ⟨(M.mb.keep m1 d5).keep m2 d6, (M.gk.keep m1 d1).keep m2 d3, (g1.keep m2 d2).congr fun j => ?_, g2.congr fun j => ?_, M.ds⟩ ((m1.mono fun q _ h => Or.inr (Or.inr (Or.inl h))).trans (m2.mono fun q _ h => Or.inr (Or.inr (Or.inr h))))
  · unfold upd fS; rw [valL_put rs]; split <;> rfl
  · unfold upd fD; rw [valL_put rs]; split <;> rfl

theorem fK_some (kv : List (ByteArray × ByteArray)) (x : ByteArray) : (fK kv x).isSome = (valL kv x).isSome := by unfold fK; cases valL kv x <;> rfl
theorem MD.put (M : MD H b k s d i t kv ss) (rk : Rise kv) (key val : ByteArray) {K : Hp → Prop} (hK : ∀ H', MD H' b k s d i t (putL kv key val) ss → Mod (· = k) H H' → K H') :
    vMapPut Try.prog T_map_string_string (some k) (.string key) (.string val) H K := by
  obtain ⟨d1, d2, d3, d4, d5, d6⟩ := M.ds
  refine M.gk.put keyStr keyD_ss key (.string val) fun H1 g1 m1 => ?_
  rw [fK_some, ← length_put rk key val] at g1
  exact hK H1 ⟨M.mb.keep m1 d4, g1.congr (fun j => by unfold upd fK; rw [valL_put rk]; split <;> rfl) rfl, M.gs.keep m1 (fun e => d1 e.symm), M.gd.keep m1 (fun e => d3 e.symm), M.ds⟩ m1
theorem MD.del (M : MD H b k s d i t kv ss) (rk : Rise kv) (key : ByteArray) {K : Hp → Prop} (hK : ∀ H', MD H' b k s d i t (delL kv key) ss → Mod (· = k) H H' → K H') :
    vMapDel Try.prog T_map_string_string (some k) (.string key) H K := by
  obtain ⟨d1, d2, d3, d4, d5, d6⟩ := M.ds
  refine M.gk.del keyStr keyD_ss key fun H1 g1 m1 => ?_
  rw [fK_some, ← length_del rk key] at g1
  exact hK H1 ⟨M.mb.keep m1 d4, g1.congr (fun j => by unfold upd fK; rw [valL_del rk]; split <;> rfl) rfl, M.gs.keep m1 (fun e => d1 e.symm), M.gd.keep m1 (fun e => d3 e.symm), M.ds⟩ m1
theorem MD.lookK (M : MD H b k s d i t kv ss) (x : ByteArray) : LookIs Try.prog T_map_string_string H (some k) (.string x) (.string ((valL kv x).getD noText)) (valL kv x).isSome := by
  have := M.gk.look keyStr keyD_ss zero_s x
  unfold fK at this
  cases hv : valL kv x <;> rw [hv] at this <;> exact this
theorem MD.lookS (M : MD H b k s d i t kv ss) (c : Int) : LookIs Try.prog T_map_int_int H (some s) (.int .i64 c) (.int .i64 (((valL ss c).map Se.seq).getD 0)) (valL ss c).isSome := by
  have := M.gs.look keyI keyD_ii zero_i c
  unfold fS at this
  cases hv : valL ss c <;> rw [hv] at this <;> exact this
theorem MD.lookD (M : MD H b k s d i t kv ss) (c : Int) : LookIs Try.prog T_map_int_api_Reply H (some d) (.int .i64 c) (.agg #[.int .i64 (((valL ss c).map Se.err).getD 0), .string (((valL ss c).map Se.value).getD noText)]) (valL ss c).isSome := by
  have := M.gd.look keyI keyD_ir zero_r c
  unfold fD at this
  cases hv : valL ss c <;> rw [hv] at this <;> exact this

abbrev MQ (H : Hp) (b k s d : Nat) (st : Stt) (r : Rp) (v : Value) (H' : Hp) : Prop := v = rpV r ∧ MD H' b k s d st.index st.term st.kv st.ss ∧ Mod (fun q => q = b ∨ q = k ∨ q = s ∨ q = d) H H'

theorem Model_cmd {H0 : Hp} {st : Stt} {c : Cm} {n u : Int} (M : MD H b k s d st.index st.term st.kv st.ss) (ok : st.Ok) (hop : c.op ≠ 0) (hm : c.op = 1 ∨ c.op = 2 ∨ c.op = 3) (m : Mod (fun q => q = b ∨ q = k ∨ q = s ∨ q = d) H0 H) :
    tephralaw07_Model_apply.k1 J0 (Addr.mk b 0 none) n u c.op c.client c.seq c.key c.value c.old H (MQ H0 b k s d (cmdM st c).1 (cmdM st c).2) := by
  apply tephralaw07_Model_apply.k1.step; unfold tephralaw07_Model_apply.k1.body
  intro H8 h8
  obtain ⟨m8, _⟩ := hole_facts h8
  have M8 := M.mod m8
  have mm8 : Mod (fun q => q = b ∨ q = k ∨ q = s ∨ q = d) H0 H8 := m.trans (m8.mono fun _ _ h => h.elim)
  refine Br.no (by simpa using hop) ⟨_, M8.mb.at3, _, _, M8.lookS c.client, ?_⟩
  apply tephralaw07_Model_apply.k2.step; unfold tephralaw07_Model_apply.k2.body
  -- a command that is new
  have fresh : (∀ x, valL st.ss c.client = some x → ¬ c.seq ≤ x.seq) → ∀ x, tephralaw07_Model_apply.k3 J0 (Addr.mk b 0 none) n u c.op c.client c.seq c.key c.value c.old H8 x false (MQ H0 b k s d (cmdM st c).1 (cmdM st c).2) := by
    intro hnew x
    have hc : cmdM st c = ({ st with kv := (doM st.kv c).1, ss := putL st.ss c.client ⟨c.client, c.seq, (doM st.kv c).2.err, (doM st.kv c).2.value⟩ }, (doM st.kv c).2) := by
      unfold cmdM
      cases hv : valL st.ss c.client with
      | none => rfl
      | some y => dsimp only; rw [if_neg (hnew y hv)]
    rw [hc]
    apply tephralaw07_Model_apply.k3.step; unfold tephralaw07_Model_apply.k3.body
    refine Br.no rfl ⟨_, M8.mb.at2, _, _, M8.lookK c.key, ?_⟩
    apply tephralaw07_Model_apply.k4.step; unfold tephralaw07_Model_apply.k4.body
    intro H9 h9
    obtain ⟨m9, _⟩ := hole_facts h9
    have M9 := M8.mod m9
    have mm9 : Mod (fun q => q = b ∨ q = k ∨ q = s ∨ q = d) H0 H9 := mm8.trans (m9.mono fun _ _ h => h.elim)
    have tell : ∀ {H1 : Hp} {kv' : List (ByteArray × ByteArray)} {r : Rp}, MD H1 b k s d st.index st.term kv' st.ss → Mod (fun q => q = b ∨ q = k ∨ q = s ∨ q = d) H0 H1 → doM st.kv c = (kv', r) →
        vMapEnt Try.prog T_map_int_int (some s) (.int .i64 c.client) H1 (fun _ st' H12 => vEntSt (some s) st' (.int .i64 c.seq) H12 (fun H13 =>
          vMapEnt Try.prog T_map_int_api_Reply (some d) (.int .i64 c.client) H13 (fun _ st1 H14 => vEntSt (some d) st1 (.agg #[.int .i64 r.err, .string r.value]) H14 (fun H15 =>
            MQ H0 b k s d { st with kv := (doM st.kv c).1, ss := putL st.ss c.client ⟨c.client, c.seq, (doM st.kv c).2.err, (doM st.kv c).2.value⟩ } (doM st.kv c).2 (.agg #[.int .i64 r.err, .string r.value]) H15)))) := by
      intro H1 kv' r M1 mm1 hdo
      refine M1.tell ok.rs c.client c.seq r.err r.value fun H2 M2 m2 => ?_
      rw [hdo]
      exact ⟨rfl, M2, mm1.trans m2⟩
    have putIt : ∀ {was : ByteArray}, doM st.kv c = (putL st.kv c.key c.value, ⟨0, was⟩) → (c.op = 3 → was = c.old) → c.op ≠ 2 → tephralaw07_Model_apply.k7 J0 (Addr.mk b 0 none) n u c.op c.client c.seq c.key c.value c.old was H9 false (MQ H0 b k s d { st with kv := (doM st.kv c).1, ss := putL st.ss c.client ⟨c.client, c.seq, (doM st.kv c).2.err, (doM st.kv c).2.value⟩ } (doM st.kv c).2) := by
      intro was hdo hw h2
      apply tephralaw07_Model_apply.k7.step; unfold tephralaw07_Model_apply.k7.body
      refine Br.no rfl ?_
      have last : tephralaw07_Model_apply.k8 J0 (Addr.mk b 0 none) n u c.op c.client c.seq c.key c.value c.old was H9 false (MQ H0 b k s d { st with kv := (doM st.kv c).1, ss := putL st.ss c.client ⟨c.client, c.seq, (doM st.kv c).2.err, (doM st.kv c).2.value⟩ } (doM st.kv c).2) := by
        apply tephralaw07_Model_apply.k8.step; unfold tephralaw07_Model_apply.k8.body
        refine Br.no rfl (Br.no (by simpa using h2) ⟨_, M9.mb.at2, ?_⟩)
        refine M9.put ok.rk c.key c.value fun H10 M10 m10 => ⟨_, M10.mb.at3, _, M10.mb.at4, ?_⟩
        exact tell M10 (mm9.trans (m10.mono fun _ _ h => Or.inr (Or.inl h))) hdo
      refine Br.mk (fun h => ?_) (fun h => last)
      rw [beq_list, decide_eq_true (hw (by simpa using h))]
      exact last
    cases hv : valL st.kv c.key with
    | none =>
      show Br _ (tephralaw07_Model_apply.k5 J0 _ _ _ _ _ _ _ _ _ false noText H9 true _) (tephralaw07_Model_apply.k5 J0 _ _ _ _ _ _ _ _ _ false noText H9 false _)
      have hdo : doM st.kv c = if c.op = 1 then (if 64 ≤ st.kv.length then (st.kv, ⟨4, noText⟩) else (putL st.kv c.key c.value, ⟨0, noText⟩)) else (st.kv, ⟨6, noText⟩) := by
        unfold doM; rw [hv]
      by_cases c1 : c.op = 1
      · refine Br.yes (by simp [c1]) ?_
        apply tephralaw07_Model_apply.k5.step; unfold tephralaw07_Model_apply.k5.body
        obtain ⟨es, he, hl⟩ := M9.gk.at
        refine Br.yes rfl ⟨_, M9.mb.at2, es, he, ?_⟩
        rw [hl]
        apply tephralaw07_Model_apply.k6.step; unfold tephralaw07_Model_apply.k6.body
        rw [if_pos c1] at hdo
        by_cases c64 : 64 ≤ st.kv.length
        · rw [if_pos c64] at hdo
          refine Br.yes (decide_eq_true (by omega)) ⟨_, M9.mb.at3, _, M9.mb.at4, ?_⟩
          exact tell (r := ⟨4, noText⟩) M9 mm9 hdo
        · rw [if_neg c64] at hdo
          refine Br.no (decide_eq_false (by omega)) (Br.no (by simp [c1]) ?_)
          exact putIt hdo (fun h => by omega) (by omega)
      · refine Br.no (by simpa using c1) ?_
        apply tephralaw07_Model_apply.k5.step; unfold tephralaw07_Model_apply.k5.body
        refine Br.no rfl ?_
        apply tephralaw07_Model_apply.k6.step; unfold tephralaw07_Model_apply.k6.body
        refine Br.no rfl (Br.yes (by simpa using c1) ?_)
        apply tephralaw07_Model_apply.k7.step; unfold tephralaw07_Model_apply.k7.body
        rw [if_neg c1] at hdo
        refine Br.yes rfl ⟨_, M9.mb.at3, _, M9.mb.at4, ?_⟩
        exact tell (r := ⟨6, noText⟩) M9 mm9 hdo
    | some old =>
      show Br _ (tephralaw07_Model_apply.k5 J0 _ _ _ _ _ _ _ _ _ true old H9 false _) (tephralaw07_Model_apply.k5 J0 _ _ _ _ _ _ _ _ _ true old H9 false _)
      have hdo : doM st.kv c = if c.op = 3 ∧ old ≠ c.old then (st.kv, ⟨11, old⟩) else if c.op = 2 then (delL st.kv c.key, ⟨0, old⟩) else (putL st.kv c.key c.value, ⟨0, old⟩) := by
        unfold doM; rw [hv]
      have go : tephralaw07_Model_apply.k5 J0 (Addr.mk b 0 none) n u c.op c.client c.seq c.key c.value c.old true old H9 false (MQ H0 b k s d { st with kv := (doM st.kv c).1, ss := putL st.ss c.client ⟨c.client, c.seq, (doM st.kv c).2.err, (doM st.kv c).2.value⟩ } (doM st.kv c).2) := by
        apply tephralaw07_Model_apply.k5.step; unfold tephralaw07_Model_apply.k5.body
        refine Br.no rfl ?_
        apply tephralaw07_Model_apply.k6.step; unfold tephralaw07_Model_apply.k6.body
        refine Br.no rfl ?_
        have k7 : tephralaw07_Model_apply.k7 J0 (Addr.mk b 0 none) n u c.op c.client c.seq c.key c.value c.old old H9 false (MQ H0 b k s d { st with kv := (doM st.kv c).1, ss := putL st.ss c.client ⟨c.client, c.seq, (doM st.kv c).2.err, (doM st.kv c).2.value⟩ } (doM st.kv c).2) := by
          by_cases c3 : c.op = 3 ∧ old ≠ c.old
          · rw [if_pos c3] at hdo
            apply tephralaw07_Model_apply.k7.step; unfold tephralaw07_Model_apply.k7.body
            refine Br.no rfl (Br.yes (by simp [c3.1]) ?_)
            apply tephralaw07_Model_apply.k8.step; unfold tephralaw07_Model_apply.k8.body
            refine Br.yes (by rw [beq_list, decide_eq_false c3.2]; rfl) ⟨_, M9.mb.at3, _, M9.mb.at4, ?_⟩
            exact tell (r := ⟨11, old⟩) M9 mm9 hdo
          · rw [if_neg c3] at hdo
            by_cases c2 : c.op = 2
            · rw [if_pos c2] at hdo
              apply tephralaw07_Model_apply.k7.step; unfold tephralaw07_Model_apply.k7.body
              refine Br.no rfl (Br.no (by simp [c2]) ?_)
              apply tephralaw07_Model_apply.k8.step; unfold tephralaw07_Model_apply.k8.body
              refine Br.no rfl (Br.yes (by simp [c2]) ⟨_, M9.mb.at2, ?_⟩)
              refine M9.del ok.rk c.key fun H10 M10 m10 => ⟨_, M10.mb.at3, _, M10.mb.at4, ?_⟩
              exact tell (r := ⟨0, old⟩) M10 (mm9.trans (m10.mono fun _ _ h => Or.inr (Or.inl h))) hdo
            · rw [if_neg c2] at hdo
              refine putIt hdo (fun h => ?_) c2
              by_cases e : old = c.old
              · exact e
              · exact (c3 ⟨h, e⟩).elim
        exact Br.mk (fun _ => k7) (fun _ => k7)
      exact Br.mk (fun _ => go) (fun _ => go)
  cases hv : valL st.ss c.client with
  | none => exact Br.no rfl (fresh (fun x hx => by rw [hv] at hx; cases hx) _)
  | some x =>
    refine Br.yes rfl ?_
    show tephralaw07_Model_apply.k3 J0 _ _ _ _ _ _ _ _ _ H8 x.seq (decide (x.seq ≥ c.seq)) _
    by_cases h1 : c.seq ≤ x.seq
    · rw [decide_eq_true h1]
      apply tephralaw07_Model_apply.k3.step; unfold tephralaw07_Model_apply.k3.body
      refine Br.yes rfl ?_
      by_cases h2 : x.seq = c.seq
      · have hc : cmdM st c = (st, ⟨x.err, x.value⟩) := by unfold cmdM; rw [hv]; dsimp only; rw [if_pos h1, if_pos h2]
        rw [hc]
        refine Br.no (decide_eq_false (by omega)) ⟨_, M8.mb.at4, _, _, ⟨_, M8.lookD c.client⟩, ?_, M8, mm8⟩
        rw [hv]; rfl
      · have hc : cmdM st c = (st, ⟨12, noText⟩) := by unfold cmdM; rw [hv]; dsimp only; rw [if_pos h1, if_neg h2]
        rw [hc]
        exact Br.yes (decide_eq_true (by omega)) ⟨rfl, M8, mm8⟩
    · rw [decide_eq_false h1]
      exact fresh (fun y hy => by rw [hv] at hy; cases hy; exact h1) _

theorem Model_apply_spec {st : Stt} {e : En} (M : MD H b k s d st.index st.term st.kv st.ss) (ok : st.Ok) (hR : e.Right) (hi : e.index = st.index + 1) (ht : st.term ≤ e.term) :
    SCalls Try.prog tephralaw07_Model_apply.id [.pointer (some ⟨b, 0, none⟩), e.val] H (MQ H b k s d (applyM st e).1 (applyM st e).2) := by
  apply tephralaw07_Model_apply.calls (m := ⟨b, 0, none⟩) (eIndex := e.index) (eTerm := e.term) (eCmdOp := e.cmd.op) (eCmdClient := e.cmd.client) (eCmdSeq := e.cmd.seq) (eCmdKey := e.cmd.key) (eCmdValue := e.cmd.value) (eCmdOld := e.cmd.old)
  intro H1 h1 H2 h2
  obtain ⟨m1, _⟩ := hole_facts h1
  obtain ⟨m2, _⟩ := hole_facts h2
  have M2 := (M.mod m1).mod m2
  obtain ⟨d1, d2, d3, d4, d5, d6⟩ := M.ds
  have one : WrAt H2 ⟨b, 0, none⟩ 1 ∧ ∀ H3 : Hp, H3 = (Hp.setCell H2 ⟨b, 0, none⟩ (.int .i64 e.index)) → WrAt H3 ((Addr.mk b 0 none).add 1) 1 ∧ ∀ H4 : Hp, H4 = (Hp.setCell H3 ((Addr.mk b 0 none).add 1) (.int .i64 e.term)) →
      tephralaw07_Model_apply.k1 J0 (Addr.mk b 0 none) e.index e.term e.cmd.op e.cmd.client e.cmd.seq e.cmd.key e.cmd.value e.cmd.old H4 (MQ H b k s d (applyM st e).1 (applyM st e).2) := by
    refine ⟨M2.mb.wr0, fun H3 h3 => ?_⟩
    obtain ⟨B3, m3⟩ := M2.mb.set0 h3
    refine ⟨B3.wr1, fun H4 h4 => ?_⟩
    obtain ⟨B4, m4⟩ := B3.set1 h4
    have m34 := m3.trans m4
    have M4 : MD H4 b k s d e.index e.term st.kv st.ss := ⟨B4, M2.gk.keep m34 (fun h => d4 h.symm), M2.gs.keep m34 (fun h => d5 h.symm), M2.gd.keep m34 (fun h => d6 h.symm), M.ds⟩
    have mm : Mod (fun q => q = b ∨ q = k ∨ q = s ∨ q = d) H H4 := ((m1.trans m2).mono fun _ _ h => h.elim).trans (m34.mono fun _ _ h => Or.inl h)
    unfold applyM
    rw [if_neg (fun h => h hR), if_neg (by omega)]
    by_cases h0 : e.cmd.op = 0
    · rw [if_pos h0]
      apply tephralaw07_Model_apply.k1.step; unfold tephralaw07_Model_apply.k1.body
      intro H8 h8
      obtain ⟨m8, _⟩ := hole_facts h8
      exact Br.yes (by simp [h0]) ⟨rfl, M4.mod m8, mm.trans (m8.mono fun _ _ h => h.elim)⟩
    · rw [if_neg h0]
      have hop : e.cmd.op = 1 ∨ e.cmd.op = 2 ∨ e.cmd.op = 3 := by have h := hR.2.2.2.2; have a := h.1; have b := h.2.1; omega
      exact Model_cmd (st := { st with index := e.index, term := e.term }) M4 ⟨⟨by have := hR.1; have := hR.2.1; dsimp only; omega, hR.2.1⟩, ⟨hR.2.2.1, hR.2.2.2.1⟩, ok.rk, ok.rs, ok.kl, ok.sl, ok.kb, ok.sb⟩ h0 hop mm
  exact ⟨one, one⟩
end
end Go.Proofs
