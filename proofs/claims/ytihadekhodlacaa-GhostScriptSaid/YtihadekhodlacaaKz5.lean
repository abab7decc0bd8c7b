/- LAYER 16: GhostScript. -/
import Derived.Test.YtihadekhodlacaaKz4
import Derived.Test.YtihadekhodlacaaKgm1
import Derived.Test.YtihadekhodlacaaKgv1
import Derived.Test.YtihadekhodlacaaKq7
set_option linter.all false
set_option linter.constructorNameAsVariable false
namespace Go.Proofs
open Go Go.KC

/-- A deed. -/
structure Ac where
  lead : Bool
  n : UInt8
  id : UInt8
  say : Sy
def Ac.cells (a : Ac) : List Value := [.bool a.lead, .int .u8 (a.n.toNat : Int), .int .u8 (a.id.toNat : Int), .int .u8 (a.say.op.toNat : Int), .int .u8 (a.say.client.toNat : Int), .int .u8 (a.say.seq.toNat : Int), .int .u8 (a.say.key.toNat : Int), .int .u8 (a.say.value.toNat : Int), .int .u8 (a.say.old.toNat : Int)]
theorem Ac.cells_len (a : Ac) : a.cells.length = 9 := rfl

section
variable {H0 H1 H H' : Hp} {b b1 : Nat} {B B' : List Nat} {log es : List En} {ld : List (Int × Int)} {w : Bool}
theorem Gs.grow {μ : Nat → Prop} (s : Gs H0 H b B log ld w) (m : Mod μ H H') (hB : ∀ q, μ q → q ∈ B) (h0 : ∀ q, μ q → H0.size ≤ q) (hb : ∀ q ∈ B', (q ∈ B ∨ H.size ≤ q) ∧ q < H'.size) : Gs H0 H' b B' log ld w := by
  obtain ⟨F, h1, hf, hF, hlt⟩ := s
  refine ⟨F, h1.keep m fun q hq h => (hF q hq).2 (hB q h), hf.step m h0, fun q hq => ⟨(hF q hq).1, fun hB' => ?_⟩, fun q hq => (hb q hq).2⟩
  rcases (hb q hB').1 with h | h
  · exact (hF q hq).2 h
  · have := h1.lt q hq; omega

/-- The law's words: its log, and its map of who led. -/
structure LS (H1 H : Hp) (b b1 : Nat) (y : Sl) (el eg : List En) (ld lm : List (Int × Int)) (w : Bool) : Prop where
  gs : Gs H1 H b (b1 :: y.blk) eg ld w
  own : Own H y T_api_Entry 8 (el.map En.cells).flatten
  gm : ∃ n, GM (fun k : Int => Value.int .i64 k) H b1 (fun t => (valL lm t).map fun v => .int .i64 v) n
  ge : ∀ q ∈ b1 :: y.blk, H1.size ≤ q
theorem LS.ny {y : Sl} {el eg : List En} {ld lm : List (Int × Int)} (s : LS H1 H b b1 y el eg ld lm w) : b1 ∉ y.blk := by
  intro hq
  obtain ⟨n, es, c, h1, _⟩ := s.gm
  obtain ⟨_, _, h | ⟨g, cur, ha, hg, _⟩⟩ := s.own
  · unfold Sl.blk at hq; rw [h.1] at hq; cases hq
  · unfold Sl.blk at hq; rw [ha] at hq
    have : b1 = g := by simpa using hq
    subst this
    rw [h1] at hg; cases hg
theorem LS.mod {y : Sl} {el eg : List En} {ld lm : List (Int × Int)} (s : LS H1 H b b1 y el eg ld lm w) (m : Mod (fun _ => False) H H') : LS H1 H' b b1 y el eg ld lm w := by
  obtain ⟨n, hn⟩ := s.gm
  exact ⟨s.gs.mod m, s.own.keep m fun _ _ e => e, ⟨n, hn.mod m⟩, s.ge⟩
/-- The ghost is told something. -/
theorem LS.call {y : Sl} {el eg eg' : List En} {ld ld' lm : List (Int × Int)} {w' v : Bool} {f : FuncId} {args : List Value} {K : Bool → Hp → Prop} (s : LS H1 H b b1 y el eg ld lm w)
    (hc : ∀ F, Gh H b F eg ld w → SCalls Try.prog f args H (GPost H b F eg' ld' w' (.bool v))) (hK : ∀ H', LS H1 H' b b1 y el eg' ld' lm w' → K v H') :
    SCalls Try.prog f args H fun r H' => ∃ x : Bool, r = .bool x ∧ K x H' := by
  obtain ⟨n, hn⟩ := s.gm
  exact s.gs.call hc fun H' g' m => hK H' ⟨g', s.own.keep m fun q hq hn => hn (List.mem_cons_of_mem _ hq), ⟨n, hn.keep m fun h => h (by simp)⟩, s.ge⟩
theorem keyD_ii : keyD Try.prog T_map_int_int = some (.int .i64, T_int) := by kernel_rfl
theorem zero_i : ∃ ti, Try.prog.info? T_int = some ti ∧ ti.zero = some (.int .i64 0) := by
  have h : (Try.prog.info? T_int).bind (·.zero) = some (.int .i64 0) := by kernel_rfl
  exact Option.bind_eq_some_iff.1 h
theorem LS.look {y : Sl} {el eg : List En} {ld lm : List (Int × Int)} (s : LS H1 H b b1 y el eg ld lm w) (t : Int) : LookIs Try.prog T_map_int_int H (some b1) (.int .i64 t) (.int .i64 ((valL lm t).getD 0)) (valL lm t).isSome := by
  obtain ⟨n, hn⟩ := s.gm
  have := hn.look keInt keyD_ii zero_i t
  cases hv : valL lm t <;> rw [hv] at this <;> exact this
theorem LS.put {y : Sl} {el eg : List En} {ld lm : List (Int × Int)} (s : LS H1 H b b1 y el eg ld lm w) (hr : Rise lm) (t v : Int) {K : Hp → Prop} (hK : ∀ H', LS H1 H' b b1 y el eg ld (putL lm t v) w → K H') :
    vMapPut Try.prog T_map_int_int (some b1) (.int .i64 t) (.int .i64 v) H K := by
  obtain ⟨n, hn⟩ := s.gm
  refine hn.put keInt keyD_ii t (.int .i64 v) fun H' g m => ?_
  have gm' : ∃ n, GM (fun k : Int => Value.int .i64 k) H' b1 (fun j => (valL (putL lm t v) j).map fun v => Value.int .i64 v) n := by
    have e : (fun j => (valL (putL lm t v) j).map fun v => Value.int .i64 v) = upd (fun j => (valL lm j).map fun v => Value.int .i64 v) t (some (.int .i64 v)) := by
      funext j; unfold upd; rw [valL_put hr]; split <;> rfl
    rw [e]; exact ⟨_, g⟩
  exact hK H' ⟨s.gs.write m (fun q e => by rw [e]; simp) (fun q e => by rw [e]; exact s.ge _ (by simp)), s.own.keep m fun q hq e => s.ny (by rw [← e]; exact hq), gm', s.ge⟩
theorem MI_get' (l : List (Int × Int)) (k : Int) : MI.get l k = ((valL l k).getD 0, (valL l k).isSome) := by
  unfold MI.get valL
  cases l.find? (fun p => decide (p.1 = k)) <;> rfl
theorem leadM_eq (ld : List (Int × Int)) (t id : Int) : leadM ld t id = if (valL ld t).isSome then (ld, (valL ld t).getD 0 == id) else (putL ld t id, true) := by
  unfold leadM; rw [MI_get']

/-- An entry is laid behind the law's own. -/
theorem LS.app {y : Sl} {el eg : List En} {ld lm : List (Int × Int)} {e : En} (s : LS H1 H b b1 y el eg ld lm w) (hl : y.len ≤ 1000000) {K : Sl → Hp → Prop}
    (hK : ∀ y' H', LS H1 H' b b1 y' (el ++ [e]) eg ld lm w → K y' H') :
    ∀ b2 : Nat, b2 = Array.size H → ∀ H14 : Hp, H14 = (Array.push H (.cells e.cells.toArray T_api_Entry)) → vApp Try.prog T_sl_api_Entry y.a y.len y.cap (.slice (some (Addr.mk b2 0 none)) 1 1) H14 K := by
  rintro b2 rfl H14 rfl
  refine ents_app s.own (Mod.refl _ _) hl fun y' H' o hyl m hb => hK y' H' ⟨?_, o, ?_, ?_⟩
  · refine s.gs.grow m (fun q hq => List.mem_cons_of_mem _ hq) (fun q hq => s.ge q (List.mem_cons_of_mem _ hq)) fun q hq => ?_
    rcases List.mem_cons.1 hq with rfl | hq
    · obtain ⟨n, hn⟩ := s.gm
      exact ⟨Or.inl (by simp), Nat.lt_of_lt_of_le hn.lt m.size⟩
    · exact ⟨(hb q hq).imp (List.mem_cons_of_mem _) id, o.lt q hq⟩
  · obtain ⟨n, hn⟩ := s.gm
    exact ⟨n, hn.keep m s.ny⟩
  · intro q hq
    rcases List.mem_cons.1 hq with rfl | hq
    · exact s.ge _ (by simp)
    · rcases hb q hq with h | h
      · exact s.ge q (List.mem_cons_of_mem _ h)
      · exact Nat.le_trans s.gs.size h
theorem rows_preA {x : Sl} {acl : List Ac} (h : Rows H x 9 (acl.map Ac.cells).flatten) {n : Nat} (hn : n ≤ x.len) : Rows H ⟨cutA x.a x.cap 0 9, n, x.cap⟩ 9 ((acl.take n).map Ac.cells).flatten := by
  have := Rows.take h hn
  rw [← flat_take (f := Ac.cells) (k := 9) (fun _ => rfl)] at this
  exact this

/-- What is compared at the end. -/
theorem script_l3 {y : Sl} {es : List En} {ld : List (Int × Int)} {index : Int} (hI : -128 ≤ index ∧ index ≤ 127) (hes : es.length ≤ 1000) (m0 : Mod (fun _ => False) H0 H1) :
    ∀ (d t : Nat) (H : Hp), t + d = 9 → LS H1 H b b1 y es es ld ld w → tephralaw16_GhostScript.l3 J0 index b b1 y H (t : Int) (trueQ H0) := by
  intro d
  have hdone : ∀ {H : Hp} {y : Sl} {el eg : List En} {ld lm : List (Int × Int)} {w : Bool}, LS H1 H b b1 y el eg ld lm w → Mod (fun _ => False) H0 H := fun s => m0.trans s.gs.fresh.mod
  induction d with
  | zero =>
    intro t H ht s
    apply tephralaw16_GhostScript.l3.step; unfold tephralaw16_GhostScript.l3.body
    refine Br.no (decide_eq_false (by omega)) ?_
    rw [w64_id (x := index) (by omega) (by omega)]
    have hyl : es.length = y.len := Lr.len (Own.rows s.own)
    have hcap := (Own.rows s.own).2.1
    refine s.gs.state (index := index) (by omega) fun p q H2 sr m2 g2 => ?_
    intro H3 h3
    obtain ⟨m3, _⟩ := hole_facts h3
    have s3 := (s.mod m2).mod m3
    have bad : (index < 0 ∨ index > es.length) → tephralaw16_GhostScript.k15 J0 index y (gstM es index).1.index (gstM es index).1.term p q (gstM es index).2 H3 true (trueQ H0) := by
      intro hb
      have e : gstM es index = (.zero, false) := by unfold gstM; rw [if_pos hb]
      rw [e] at sr ⊢
      apply tephralaw16_GhostScript.k15.step; unfold tephralaw16_GhostScript.k15.body
      refine Br.yes rfl (Br.yes rfl ?_)
      apply tephralaw16_GhostScript.k16.step; unfold tephralaw16_GhostScript.k16.body
      have hp : p.len = 0 := (sr.rr.lens).1.symm
      exact Br.yes rfl ⟨by rw [hp]; rfl, hdone s3⟩
    by_cases h0 : index < 0
    · exact Br.yes (decide_eq_true h0) (bad (Or.inl h0))
    refine Br.no (decide_eq_false h0) ?_
    by_cases h1 : index > (y.len : Int)
    · rw [decide_eq_true h1]; exact bad (Or.inr (by omega))
    rw [decide_eq_false h1]
    have e : gstM es index = (foldM .zero (es.take index.toNat), true) := by unfold gstM; rw [if_neg (by omega)]
    rw [e] at sr ⊢
    apply tephralaw16_GhostScript.k15.step; unfold tephralaw16_GhostScript.k15.body
    refine Br.no rfl (Br.yes rfl ⟨⟨by omega, by omega⟩, ?_⟩)
    refine fold_step (st := .zero) (SR.zero H3) Stt.zero_ok (rows_pre (Own.rows s3.own) (show index.toNat ≤ y.len by omega)) (by rw [List.length_take]; omega) fun p' q' H4 sr' m4 => ?_
    have ok := foldM_ok Stt.zero_ok (es.take index.toNat)
    have hbs := Stt.bytes_le ok
    have hB : (stB (foldM .zero (es.take index.toNat)).index (foldM .zero (es.take index.toNat)).term (foldM .zero (es.take index.toNat)).pairs (foldM .zero (es.take index.toNat)).sess).length ≤ 140737488355328 := by unfold Stt.bytes at hbs; omega
    have hS := Same_spec (i := (foldM .zero (es.take index.toNat)).index) (t := (foldM .zero (es.take index.toNat)).term) (i' := (foldM .zero (es.take index.toNat)).index) (t' := (foldM .zero (es.take index.toNat)).term) ((sr.mod m3).mod m4).rr sr'.rr hB hB
    rw [decide_eq_true rfl] at hS
    exact bool_step hS ((hdone s3).trans m4) fun H5 m5 => ⟨rfl, m5⟩
  | succ d ih =>
    intro t H ht s
    apply tephralaw16_GhostScript.l3.step; unfold tephralaw16_GhostScript.l3.body
    refine Br.yes (decide_eq_true (by omega)) ⟨_, _, s.look t, ?_⟩
    refine s.gs.leader fun H2 m2 g2 => ?_
    rw [MI_get']
    refine Br.no (by simp) ?_
    apply tephralaw16_GhostScript.k14.step; unfold tephralaw16_GhostScript.k14.body
    refine Br.no (by simp) ?_
    rw [w64_id (x := (t : Int) + 1) (by omega) (by omega)]
    have := ih (t + 1) H2 (by omega) (s.mod m2)
    simpa using this

theorem script_l2 {y z : Sl} {es : List En} {ld : List (Int × Int)} {index : Int} (hI : -128 ≤ index ∧ index ≤ 127) (hes : es.length ≤ 1000) (m0 : Mod (fun _ => False) H0 H1) :
    ∀ (d j : Nat) (H : Hp), j + d = es.length → LS H1 H b b1 y es es ld ld w → Lr H z es → tephralaw16_GhostScript.l2 J0 index b b1 y z H (j : Int) (trueQ H0) := by
  intro d
  induction d with
  | zero =>
    intro j H hj s hz
    apply tephralaw16_GhostScript.l2.step; unfold tephralaw16_GhostScript.l2.body
    have hzl := Lr.len hz
    exact Br.no (by simp; omega) (script_l3 hI hes m0 9 0 H (by omega) s)
  | succ d ih =>
    intro j H hj s hz
    apply tephralaw16_GhostScript.l2.step; unfold tephralaw16_GhostScript.l2.body
    have hzl := Lr.len hz
    have hyl : es.length = y.len := Lr.len (Own.rows s.own)
    have hjl : j < es.length := by omega
    obtain ⟨a, ha, hrow⟩ := Lr.get hz hjl
    obtain ⟨a2, ha2, hrow2⟩ := Lr.get (show Lr H y es from Own.rows s.own) hjl
    refine Br.yes (by simp; omega) ⟨⟨by omega, by omega⟩, vPtr.mk a ha ⟨_, _, _, _, _, _, _, _, by simpa [En.cells] using hrow, ⟨by omega, by omega⟩, vPtr.mk a2 ha2 ⟨_, _, _, _, _, _, _, _, by simpa [En.cells] using hrow2, ?_⟩⟩⟩
    apply tephralaw16_GhostScript.k13.step; unfold tephralaw16_GhostScript.k13.body
    rw [en_beq, decide_eq_true rfl]
    refine Br.no rfl ?_
    rw [w64_id (x := (j : Int) + 1) (by omega) (by omega)]
    have := ih (j + 1) H (by omega) s hz
    simpa using this

/-- One deed behind the other. -/
theorem script_l1 {acts : Sl} {acl : List Ac} {index : Int} (hr : Rows H0 acts 9 (acl.map Ac.cells).flatten) (hI : -128 ≤ index ∧ index ≤ 127) (m0 : Mod (fun _ => False) H0 H1) :
    ∀ (d j : Nat) (H : Hp) (y : Sl) (es : List En) (ld : List (Int × Int)) (w : Bool), j + d = min 100 acl.length → es.length ≤ j → ld.length ≤ j → Rise ld → LS H1 H b b1 y es es ld ld w → tephralaw16_GhostScript.l1 J0 acts index b b1 H y w (j : Int) (trueQ H0) := by
  intro d
  have hal := rows_len' (k := 9) (f := Ac.cells) (by omega) (fun _ => rfl) hr
  have eN : (if (100 : Int) < ((acts.len : Nat) : Int) then (100 : Int) else ((acts.len : Nat) : Int)).toNat = min 100 acl.length := by rw [hal]; split <;> omega
  have hdone : ∀ {H : Hp} {y : Sl} {el eg : List En} {ld lm : List (Int × Int)} {w : Bool}, LS H1 H b b1 y el eg ld lm w → Mod (fun _ => False) H0 H := fun s => m0.trans s.gs.fresh.mod
  induction d with
  | zero =>
    intro j H y es ld w hj he hld hri s
    apply tephralaw16_GhostScript.l1.step; unfold tephralaw16_GhostScript.l1.body
    rw [eN]
    have hyl : es.length = y.len := Lr.len (Own.rows s.own)
    refine Br.no (by simp; omega) ?_
    refine s.gs.told (by omega) fun z H2 ez g2 => ?_
    have hzl := ez.len
    have s2 : LS H1 H2 b b1 y es es ld ld w := s.mod ez.mod
    refine Br.no (by simp; omega) ?_
    refine s2.gs.len fun H3 m3 g3 => ?_
    have s3 := s2.mod m3
    apply tephralaw16_GhostScript.k11.step; unfold tephralaw16_GhostScript.k11.body
    refine Br.no (by simp; omega) ?_
    refine s3.gs.wrong fun H4 m4 g4 => ?_
    have s4 := s3.mod m4
    apply tephralaw16_GhostScript.k12.step; unfold tephralaw16_GhostScript.k12.body
    exact Br.no (by simp) (script_l2 hI (by omega) m0 es.length 0 H4 (by omega) s4 (Rows.keep ez.lr (m3.trans m4) fun _ _ e => e))
  | succ d ih =>
    intro j H y es ld w hj he hld hri s
    apply tephralaw16_GhostScript.l1.step; unfold tephralaw16_GhostScript.l1.body
    rw [eN]
    have hj100 : j < 100 := by omega
    have hjl : j < acl.length := by omega
    have hyl : es.length = y.len := Lr.len (Own.rows s.own)
    have hrt := rows_preA (hr.keep (hdone s) fun _ _ e => e) (show min 100 acl.length ≤ acts.len by omega)
    obtain ⟨a, ha, hrow⟩ := row_get' (k := 9) (f := Ac.cells) (by omega) (fun _ => rfl) hrt (j := j) (by rw [List.length_take]; omega)
    rw [List.getElem_take] at hrow
    generalize acl[j] = ac at hrow
    refine Br.yes (by simp; omega) ⟨⟨by omega, by omega⟩, vPtr.mk a ha ⟨ac.lead, (ac.n.toNat : Int), (ac.id.toNat : Int), (ac.say.op.toNat : Int), (ac.say.client.toNat : Int), (ac.say.seq.toNat : Int), (ac.say.key.toNat : Int), (ac.say.value.toNat : Int), (ac.say.old.toNat : Int), by simpa [Ac.cells] using hrow, fun H5 h5 => ?_⟩⟩
    obtain ⟨m5, _⟩ := hole_facts h5
    have s5 := s.mod m5
    have next : ∀ {H' : Hp} {y' : Sl} {es' : List En} {ld' : List (Int × Int)} {w' : Bool}, es'.length ≤ j + 1 → ld'.length ≤ j + 1 → Rise ld' → LS H1 H' b b1 y' es' es' ld' ld' w' →
        tephralaw16_GhostScript.k10 J0 acts index b b1 (j : Int) y' w' H' (trueQ H0) := fun {H' y' es' ld' w'} h1 h2 h3 s' => by
      apply tephralaw16_GhostScript.k10.step; unfold tephralaw16_GhostScript.k10.body
      rw [w64_id (x := (j : Int) + 1) (by omega) (by omega)]
      have := ih (j + 1) H' y' es' ld' w' (by omega) h1 h2 h3 s'
      simpa using this
    refine Br.mk (fun hlead => ?_) (fun hlead => ?_)
    · -- who leads
      refine ⟨by omega, by omega, ?_⟩
      apply tephralaw16_GhostScript.k1.step; unfold tephralaw16_GhostScript.k1.body
      obtain ⟨t, ht⟩ : ∃ t, t = w64 (Int.tmod (ac.n.toNat : Int) 9) := ⟨_, rfl⟩
      obtain ⟨id, hid⟩ : ∃ t, t = w64 (Int.tmod (ac.id.toNat : Int) 3) := ⟨_, rfl⟩
      rw [← ht, ← hid]
      refine ⟨_, _, s5.look t, ?_⟩
      have tell : ∀ {H6 : Hp} {ok : Bool} {lm : List (Int × Int)}, (leadM ld t id).2 = ok → (leadM ld t id).1 = lm → lm.length ≤ j + 1 → Rise lm → LS H1 H6 b b1 y es es ld lm w →
          tephralaw16_GhostScript.k3 J0 acts index b b1 y w (j : Int) ac.lead (ac.n.toNat : Int) (ac.id.toNat : Int) (ac.say.op.toNat : Int) (ac.say.client.toNat : Int) (ac.say.seq.toNat : Int) (ac.say.key.toNat : Int) (ac.say.value.toNat : Int) (ac.say.old.toNat : Int) ok H6 (trueQ H0) := by
        intro H6 ok lm hok hlm h2 h3 s6
        apply tephralaw16_GhostScript.k3.step; unfold tephralaw16_GhostScript.k3.body
        rw [← ht, ← hid]
        refine s6.call (eg' := es) (ld' := lm) (w' := w || !ok) (v := ok) (fun F h => ?_) fun H8 s8 => ?_
        · have := Lead_spec (t := t) (id := id) h (show ld.length < 100000 by omega)
          rw [hlm, hok] at this; exact this
        · refine Br.no (by cases ok <;> rfl) ?_
          cases w with
          | true => exact Br.yes rfl (next (by omega) h2 h3 s8)
          | false => exact Br.no rfl (next (by omega) h2 h3 s8)
      cases hv : valL ld t with
      | none =>
        refine Br.yes rfl ?_
        apply tephralaw16_GhostScript.k2.step; unfold tephralaw16_GhostScript.k2.body
        rw [← ht, ← hid]
        refine Br.yes rfl ?_
        refine s5.put hri t id fun H6 s6 => ?_
        have hp := putL_length ld t id hri
        exact tell (ok := true) (by rw [leadM_eq, hv]; rfl) (by rw [leadM_eq, hv]; rfl) (by omega) (putL_rise hri t id) s6
      | some v =>
        refine Br.no rfl ?_
        apply tephralaw16_GhostScript.k2.step; unfold tephralaw16_GhostScript.k2.body
        refine Br.no rfl ?_
        exact tell (ok := v == id) (by rw [leadM_eq, hv]; rfl) (by rw [leadM_eq, hv]; rfl) (by omega) hri s5
    · -- what is committed
      apply tephralaw16_GhostScript.k4.step; unfold tephralaw16_GhostScript.k4.body
      have nine : ∀ {e : En} {ok : Bool} {el : List En} {y' : Sl} {H16 : Hp}, (commitM es e).2 = ok → (commitM es e).1 = el → LS H1 H16 b b1 y' el es ld ld w →
          tephralaw16_GhostScript.k9 J0 acts index b b1 w (j : Int) ac.lead (ac.n.toNat : Int) (ac.id.toNat : Int) (ac.say.op.toNat : Int) (ac.say.client.toNat : Int) (ac.say.seq.toNat : Int) (ac.say.key.toNat : Int) (ac.say.value.toNat : Int) (ac.say.old.toNat : Int) e.index e.term e.cmd.op e.cmd.client e.cmd.seq e.cmd.key e.cmd.value e.cmd.old ok y' H16 (trueQ H0) := by
        intro e ok el y' H16 hok hel s16
        have hlen : el.length ≤ j + 1 := by
          rw [← hel]; unfold commitM
          split
          · show es.length ≤ j + 1; omega
          · split
            · rw [List.length_append]; simp; omega
            · show es.length ≤ j + 1; omega
        apply tephralaw16_GhostScript.k9.step; unfold tephralaw16_GhostScript.k9.body
        refine s16.call (eg' := el) (ld' := ld) (w' := w || !ok) (v := ok) (fun F h => ?_) fun H17 s17 => ?_
        · have := Commit_spec (e := e) h (show es.length ≤ 100000 by omega)
          rw [hel, hok] at this; exact this
        · refine Br.no (by cases ok <;> rfl) ?_
          cases w with
          | true => exact Br.yes rfl (next hlen (by omega) hri s17)
          | false => exact Br.no rfl (next hlen (by omega) hri s17)
      have hy1 : w64 ((y.len : Int) + 1) = (es.length : Int) + 1 := by rw [w64_id (by omega) (by omega)]; omega
      have seven : ∀ {H13 : Hp} (e : En), LS H1 H13 b b1 y es es ld ld w → tephralaw16_GhostScript.k7 J0 acts index b b1 y w (j : Int) ac.lead (ac.n.toNat : Int) (ac.id.toNat : Int) (ac.say.op.toNat : Int) (ac.say.client.toNat : Int) (ac.say.seq.toNat : Int) (ac.say.key.toNat : Int) (ac.say.value.toNat : Int) (ac.say.old.toNat : Int) H13 e.index e.term e.cmd.op e.cmd.client e.cmd.seq e.cmd.key e.cmd.value e.cmd.old (trueQ H0) := by
        intro H13 e s13
        have eight : ∀ {ok : Bool}, (commitM es e).2 = ok → tephralaw16_GhostScript.k8 J0 acts index b b1 y w (j : Int) ac.lead (ac.n.toNat : Int) (ac.id.toNat : Int) (ac.say.op.toNat : Int) (ac.say.client.toNat : Int) (ac.say.seq.toNat : Int) (ac.say.key.toNat : Int) (ac.say.value.toNat : Int) (ac.say.old.toNat : Int) H13 e.index e.term e.cmd.op e.cmd.client e.cmd.seq e.cmd.key e.cmd.value e.cmd.old ok (trueQ H0) := by
          intro ok hok
          apply tephralaw16_GhostScript.k8.step; unfold tephralaw16_GhostScript.k8.body
          rw [hy1]
          refine Br.mk (fun h => ?_) (fun h => ?_)
          · have h' : e.index = (es.length : Int) + 1 := by simpa using h
            exact s13.app (e := e) (by omega) fun ap H15 s15 => nine hok (by unfold commitM; rw [if_neg (by omega), if_pos h']) s15
          · have h' : e.index ≠ (es.length : Int) + 1 := by simpa using h
            refine nine hok ?_ s13
            unfold commitM
            split
            · rfl
            · first | rfl | rw [if_neg h']
        apply tephralaw16_GhostScript.k7.step; unfold tephralaw16_GhostScript.k7.body
        rw [hy1]
        refine Br.mk (fun h => eight ?_) (fun h => Br.mk (fun h1 => Br.mk (fun h2 => ?_) (fun h2 => eight ?_)) (fun h1 => eight ?_))
        · have h' : e.index = (es.length : Int) + 1 := by simpa using h
          unfold commitM; rw [if_neg (by omega), if_pos h']
        · have h1' := of_decide_eq_true h1
          have h2' := of_decide_eq_true h2
          rw [w64_id (x := e.index - 1) (by omega) (by omega)]
          have hi : (e.index - 1).toNat < es.length := by omega
          obtain ⟨a2, ha2, hrow2⟩ := Lr.get (show Lr H13 y es from Own.rows s13.own) hi
          obtain ⟨x, hx⟩ : ∃ x, x = es[(e.index - 1).toNat] := ⟨_, rfl⟩
          rw [← hx] at hrow2
          refine ⟨⟨by omega, by omega⟩, vPtr.mk a2 ha2 ⟨_, _, _, _, _, _, _, _, by simpa [En.cells] using hrow2, ?_⟩⟩
          rw [en_beq]
          refine eight ?_
          unfold commitM
          rw [if_pos ⟨h1', by omega⟩]
          show decide (es.getD (e.index - 1).toNat En.zero = e) = _
          rw [List.getD_eq_getElem?_getD, List.getElem?_eq_getElem hi, ← hx]; rfl
        · have h' : e.index ≠ (es.length : Int) + 1 := by simpa using h
          have h2' := of_decide_eq_false h2
          unfold commitM; rw [if_neg (by omega), if_neg h']
        · have h' : e.index ≠ (es.length : Int) + 1 := by simpa using h
          have h1' := of_decide_eq_false h1
          unfold commitM; rw [if_neg (by omega), if_neg h']
      have six : ∀ {H13 : Hp} (y6 : Int), LS H1 H13 b b1 y es es ld ld w → tephralaw16_GhostScript.k6 J0 acts index b b1 y w (j : Int) ac.lead (ac.n.toNat : Int) (ac.id.toNat : Int) (ac.say.op.toNat : Int) (ac.say.client.toNat : Int) (ac.say.seq.toNat : Int) (ac.say.key.toNat : Int) (ac.say.value.toNat : Int) (ac.say.old.toNat : Int) ac.say.cmd.op ac.say.cmd.client ac.say.cmd.seq ac.say.cmd.key ac.say.cmd.value ac.say.cmd.old H13 y6 (trueQ H0) := by
        intro H13 y6 s13
        apply tephralaw16_GhostScript.k6.step; unfold tephralaw16_GhostScript.k6.body
        refine ⟨by omega, Br.mk (fun _ => Br.mk (fun hl => ?_) fun _ => seven ⟨y6, _, ac.say.cmd⟩ s13) fun _ => seven ⟨y6, _, ac.say.cmd⟩ s13⟩
        have hl' : 0 < y.len := by have := of_decide_eq_true hl; omega
        have hid := ac.id.toNat_lt
        have e1 : Int.tmod (w64 (ac.id.toNat : Int)) ((y.len : Nat) : Int) = ((ac.id.toNat % y.len : Nat) : Int) := by
          rw [w64_id (by omega) (by omega)]; exact tmodN ac.id y.len
        rw [e1]
        have hmod := Nat.mod_lt ac.id.toNat hl'
        have hi : ac.id.toNat % y.len < es.length := by omega
        generalize ac.id.toNat % y.len = i at hi hmod
        obtain ⟨a2, ha2, hrow2⟩ := Lr.get (show Lr H13 y es from Own.rows s13.own) hi
        exact ⟨by omega, ⟨by omega, by omega⟩, vPtr.mk a2 ha2 ⟨_, _, _, _, _, _, _, _, by simpa [En.cells] using hrow2, seven _ s13⟩⟩
      have five : ∀ {H13 : Hp}, LS H1 H13 b b1 y es es ld ld w → tephralaw16_GhostScript.k5 J0 acts index b b1 y w (j : Int) ac.lead (ac.n.toNat : Int) (ac.id.toNat : Int) (ac.say.op.toNat : Int) (ac.say.client.toNat : Int) (ac.say.seq.toNat : Int) (ac.say.key.toNat : Int) (ac.say.value.toNat : Int) (ac.say.old.toNat : Int) ac.say.cmd.op ac.say.cmd.client ac.say.cmd.seq ac.say.cmd.key ac.say.cmd.value ac.say.cmd.old H13 (trueQ H0) := by
        intro H13 s13
        apply tephralaw16_GhostScript.k5.step; unfold tephralaw16_GhostScript.k5.body
        exact Br.mk (fun _ => six _ s13) fun _ => six _ s13
      refine ⟨by omega, ?_, fun H11 h11 => ?_⟩
      · refine say_step (s := ac.say) (H0 := H5) (Mod.refl _ _) fun H9 m9 => fun H10 h10 => ?_
        obtain ⟨m10, _⟩ := hole_facts h10
        exact five (s5.mod (m9.trans m10))
      · obtain ⟨m11, _⟩ := hole_facts h11
        exact say_step (s := ac.say) (H0 := H11) (Mod.refl _ _) fun H12 m12 => five (s5.mod (m11.trans m12))

theorem GhostScript_spec {acts : Sl} {acl : List Ac} {index : Int} (hr : Rows H acts 9 (acl.map Ac.cells).flatten) (hI : -128 ≤ index ∧ index ≤ 127) :
    SCalls Try.prog tephralaw16_GhostScript.id [.slice acts.a acts.len acts.cap, .int .i8 index] H (trueQ H) := by
  apply tephralaw16_GhostScript.calls
  unfold tephralaw16_GhostScript.vc
  refine bool_step (H0 := H) awake16_spec (Mod.refl _ _) fun H1 m1 => Br.no rfl ?_
  rintro b rfl H2 h2 b1 rfl H3 h3
  obtain ⟨_, m2, s2⟩ := push_facts h2
  obtain ⟨_, m3, s3⟩ := push_facts h3
  have hcap := hr.2.1
  refine ⟨⟨by split <;> omega, by split <;> omega⟩, ?_⟩
  have g2 : Gs H1 H2 H1.size [] [] [] false := by rw [h2]; exact Gs.new H1
  have g3 : Gs H1 H3 H1.size [H2.size] [] [] false := g2.grow m3 (fun _ e => e.elim) (fun _ e => e.elim) fun q hq => by
    have : q = H2.size := by simpa using hq
    exact ⟨Or.inr (by omega), by omega⟩
  refine script_l1 (acl := acl) hr hI m1 (min 100 acl.length) 0 H3 ⟨none, 0, 0⟩ [] [] false (by omega) (by simp) (by simp) Rise.nil ⟨g3, Own.nil H3 _ _, ⟨0, ?_⟩, fun q hq => ?_⟩
  · rw [h3]; exact GM.new H2
  · have : q = H2.size := by simpa [Sl.blk] using hq
    omega
end
def kAc : List CK := [.bo, .it .u8, .it .u8, .it .u8, .it .u8, .it .u8, .it .u8, .it .u8, .it .u8]
theorem acOf' {m : Nat} : ∀ {r : List Value}, Fits m kAc r → ∃ s : Ac, r = s.cells
  | [z, x, y, a, b, c, d, e, f], ⟨⟨z1, e0⟩, ⟨n7, e7, w7⟩, ⟨n8, e8, w8⟩, ⟨n1, e1, w1⟩, ⟨n2, e2, w2⟩, ⟨n3, e3, w3⟩, ⟨n4, e4, w4⟩, ⟨n5, e5, w5⟩, ⟨n6, e6, w6⟩, _⟩ => by
    obtain ⟨c1, rfl⟩ := u8_of w1
    obtain ⟨c2, rfl⟩ := u8_of w2
    obtain ⟨c3, rfl⟩ := u8_of w3
    obtain ⟨c4, rfl⟩ := u8_of w4
    obtain ⟨c5, rfl⟩ := u8_of w5
    obtain ⟨c6, rfl⟩ := u8_of w6
    obtain ⟨c7, rfl⟩ := u8_of w7
    obtain ⟨c8, rfl⟩ := u8_of w8
    subst e0; subst e1; subst e2; subst e3; subst e4; subst e5; subst e6; subst e7; subst e8
    exact ⟨⟨z1, c7, c8, ⟨c1, c2, c3, c4, c5, c6⟩⟩, rfl⟩
theorem actsOf {m : Nat} {rows : List (List Value)} (h : ∀ r ∈ rows, Fits m kAc r) : ∃ acl : List Ac, rows = acl.map Ac.cells := by
  obtain ⟨acl, h1, _⟩ := rows_list (f := Ac.cells) (p := fun _ => True) (rows := rows) fun r hr => by
    obtain ⟨s, hs⟩ := acOf' (h r hr)
    exact ⟨s, hs, trivial⟩
  exact ⟨acl, h1⟩
theorem i8_bd {n : Int} (h : (Lit.int .i8 n).wf = true) : -128 ≤ n ∧ n ≤ 127 := by
  have h1 : (decide (-128 ≤ n) && decide (n ≤ 127)) = true := h
  simpa using h1
end Go.Proofs
