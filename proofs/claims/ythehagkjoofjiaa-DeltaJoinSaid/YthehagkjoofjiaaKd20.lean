/- DELTAS: DeltaJoin. -/
import Derived.Test.YthehagkjoofjiaaKd21
set_option linter.all false
set_option linter.constructorNameAsVariable false
namespace Go.Proofs
open Go Go.KC

theorem mem_mrg {a b : List Pr} (ha : Rise (PP.byKey a)) (hb : Rise (PP.byKey b)) {p : Pr} : p ∈ mrg a b ↔ p ∈ b ∨ (p ∈ a ∧ ∀ q ∈ b, q.key ≠ p.key) := by
  have M := (mergeL_spec _ _ ha hb).2 p.key p
  rw [← byKey_mrg ha hb, mem_byKey, mem_byKey, mem_byKey] at M
  constructor
  · intro h
    rcases M.1 ⟨h, rfl⟩ with h | ⟨h, h'⟩
    · exact Or.inl h.1
    · exact Or.inr ⟨h.1, fun q hq e => h' q (mem_byKey.2 ⟨hq, e⟩)⟩
  · rintro (h | ⟨h, h'⟩)
    · exact (M.2 (Or.inl ⟨h, rfl⟩)).1
    · exact (M.2 (Or.inr ⟨⟨h, rfl⟩, fun w hw => h' w (mem_byKey.1 hw).1 (mem_byKey.1 hw).2⟩)).1
theorem mem_stay {a : List Pr} {p : Pr} : p ∈ stay a ↔ p ∈ a ∧ p.gone = false := by unfold stay; rw [List.mem_filter]; simp
theorem pr_ext {l m : List Pr} (hl : Rise (PP.byKey l)) (hm : Rise (PP.byKey m)) (h : ∀ p, p ∈ l ↔ p ∈ m) : l = m := by
  have e : PP.byKey l = PP.byKey m := Rise.ext hl hm fun q => by obtain ⟨k, p⟩ := q; rw [mem_byKey, mem_byKey, h p]
  have back : ∀ l : List Pr, (PP.byKey l).map (·.2) = l := fun l => by
    unfold PP.byKey; rw [List.map_map]
    exact (List.map_congr_left fun q _ => rfl).trans (List.map_id _)
  rw [← back l, e, back m]
theorem rise_stay {a : List Pr} (ha : Rise (PP.byKey a)) : Rise (PP.byKey (stay a)) := by
  have : PP.byKey (stay a) = (PP.byKey a).filter (fun q => !q.2.gone) := by unfold PP.byKey stay; rw [List.filter_map]; rfl
  rw [this]; exact ha.filter _
theorem stay_stay {a b : List Pr} (ha : Rise (PP.byKey a)) (hb : Rise (PP.byKey b)) : stay (mrg (stay a) b) = stay (mrg a b) := by
  refine pr_ext (rise_stay (rise_mrg (rise_stay ha) hb)) (rise_stay (rise_mrg ha hb)) fun p => ?_
  rw [mem_stay, mem_stay, mem_mrg (rise_stay ha) hb, mem_mrg ha hb, mem_stay]
  constructor
  · rintro ⟨h | ⟨⟨h, _⟩, h'⟩, g⟩
    · exact ⟨Or.inl h, g⟩
    · exact ⟨Or.inr ⟨h, h'⟩, g⟩
  · rintro ⟨h | ⟨h, h'⟩, g⟩
    · exact ⟨Or.inl h, g⟩
    · exact ⟨Or.inr ⟨⟨h, g⟩, h'⟩, g⟩
theorem stay_two {s t u : List (ByteArray × ByteArray)} (hs : Rise s) (ht : Rise t) (hu : Rise u) : stay (mrg (prsOfL s) (mrg (btw s t) (btw t u))) = prsOfL u := by
  have hb := rise_btw hs ht
  have hc := rise_btw ht hu
  have hp := rise_prs hs
  rw [← mrg_assoc hp hb hc, ← stay_stay (rise_mrg hp hb) hc, stay_btw hs ht, stay_btw ht hu]
theorem findP_mrg {a b : List Pr} (ha : Rise (PP.byKey a)) (hb : Rise (PP.byKey b)) {p : Pr} (h : p ∈ mrg a b) : findP b p.key = some p ∨ findP b p.key = none ∧ findP a p.key = some p := by
  rcases (mem_mrg ha hb).1 h with h | ⟨h, h'⟩
  · exact Or.inl (findP_some (nodup_byKey hb) h)
  · exact Or.inr ⟨findP_none.2 h', findP_some (nodup_byKey ha) h⟩
theorem join_back {a b : Dl} (h : (mrg b.ps a.ps).length ≤ 512) : ∃ D y, joinD b a = (D, y) ∧ (y == 0) = (if b.to = a.from then decide (a.term ≥ b.term) else false) := by
  unfold joinD
  by_cases c : b.to = a.from
  · by_cases d : a.term < b.term
    · rw [if_pos (Or.inr d), if_pos c, decide_eq_false (by omega)]; exact ⟨_, _, rfl, rfl⟩
    · rw [if_neg (by simp [c]; omega), if_neg (by omega), if_pos c, decide_eq_true (by omega)]; exact ⟨_, _, rfl, rfl⟩
  · rw [if_pos (Or.inl c), if_neg c]; exact ⟨_, _, rfl, rfl⟩

section
variable {x0Index x0Term : Int} {x0Pairs x0Sessions : Sl} {x1Index x1Term : Int} {x1Pairs x1Sessions : Sl} {x2Index x2Term : Int} {x2Pairs x2Sessions : Sl} {Pairs Sessions Pairs1 Sessions1 : Sl} {From2 To2 Term2 : Int} {Pairs2 Sessions2 : Sl} {Index Term3 : Int} {Pairs3 Sessions3 : Sl}
  {H0 Hr : Hp} {m1 m2 m3 : Nat} {a c : Dl}
theorem join_l1 (ha : Rise (PP.byKey a.ps)) (hb : Rise (PP.byKey c.ps)) (ra : RR Hr Pairs Sessions a.ps a.xs) (rc : RR Hr Pairs1 Sessions1 c.ps c.xs) (hla : a.ps.length ≤ 200 ∧ a.xs.length ≤ 1000) (hlc : c.ps.length ≤ 200 ∧ c.xs.length ≤ 1000)
    (h2 : Pairs2.len = (mrg a.ps c.ps).length) (m0 : Mod (fun _ => False) H0 Hr) {b : Nat} (hbb : Hr.size ≤ b) :
    ∀ (d : Nat) (S : Array Nat) (H : Hp), S.size + d = (mrg a.ps c.ps).length → RgP H b m3 (mrg a.ps c.ps) S → VM H m1 a.ps → VM H m2 c.ps → Mod (fun _ => False) Hr H →
      tephralaw08_DeltaJoin.l1 J0 x0Index x0Term x0Pairs x0Sessions x1Index x1Term x1Pairs x1Sessions x2Index x2Term x2Pairs x2Sessions a.from a.to a.term Pairs Sessions c.from c.to c.term Pairs1 Sessions1 From2 To2 Term2 Pairs2 Sessions2 Index Term3 Pairs3 Sessions3 (some m1) (some m2) (some m3) b H (trueQ H0) := by
  intro d
  induction d using Nat.strongRecOn with
  | _ d ih =>
    intro S H hd rg vo vn m
    apply tephralaw08_DeltaJoin.l1.step; unfold tephralaw08_DeltaJoin.l1.body
    refine rg.step (fun i k v hi hiS H1 rg1 mm e1 hk hv => ?_) (fun hall => ?_)
    · obtain ⟨p, hp, rfl, rfl⟩ := vRow_get hi
      have hsz := rg1.size
      rw [vRow_len, Array.size_push] at hsz
      have vo1 := VM.keepB vo rg mm
      have vn1 := VM.keepB vn rg mm
      refine ⟨p.key, hk, p.key, p.value, p.gone, hv, fun H2 h2 => ?_⟩
      obtain ⟨m2', _⟩ := hole_facts h2
      refine ⟨_, _, _, _, VM.look (vn1.mod m2') p.key, fun H3 h3 => ?_⟩
      obtain ⟨m3', _⟩ := hole_facts h3
      have m23 := m2'.trans m3'
      have mH : Mod (fun _ => False) Hr H3 := (m.trans' mm fun c hc e => by omega).trans m23
      have next := ih (d - 1) (by omega) (S.push i) H3 (by rw [Array.size_push]; omega) (rg1.keep m23 (fun e => e) (fun e => e)) (vo1.mod m23) (vn1.mod m23) mH
      have fin : tephralaw08_DeltaJoin.k10 J0 x0Index x0Term x0Pairs x0Sessions x1Index x1Term x1Pairs x1Sessions x2Index x2Term x2Pairs x2Sessions a.from a.to a.term Pairs Sessions c.from c.to c.term Pairs1 Sessions1 From2 To2 Term2 Pairs2 Sessions2 Index Term3 Pairs3 Sessions3 (some m1) (some m2) (some m3) b p.key p.value p.gone H3 true p.key p.value p.gone (trueQ H0) := by
        apply tephralaw08_DeltaJoin.k10.step; unfold tephralaw08_DeltaJoin.k10.body
        refine Br.no rfl ?_
        apply tephralaw08_DeltaJoin.k11.step; unfold tephralaw08_DeltaJoin.k11.body
        refine Br.no ?_ next
        rw [Go.Proofs.beq_ba, Go.Proofs.beq_ba, decide_eq_true rfl, decide_eq_true rfl]; simp
      rcases findP_mrg ha hb (List.mem_of_getElem? hp) with g | ⟨g, g'⟩
      · rw [g]
        exact Br.no rfl fin
      · rw [g]
        refine Br.yes rfl ⟨_, _, _, _, VM.look (vo1.mod m23) p.key, ?_⟩
        rw [g']
        exact fin
    · obtain ⟨D, y, hD, hy⟩ := join_back (a := a) (b := c) (Nat.le_trans (mrg_len _ _) (by omega))
      refine join_step (a := c) (b := a) (rc.mod m) (ra.mod m) ⟨by omega, by omega, by omega⟩ hD fun p' x' H2 _ m2 => ?_
      intro H3 h3
      obtain ⟨m3', _⟩ := hole_facts h3
      have last : ∀ z, (y == 0) = z → tephralaw08_DeltaJoin.k12 J0 x0Index x0Term x0Pairs x0Sessions x1Index x1Term x1Pairs x1Sessions x2Index x2Term x2Pairs x2Sessions a.from a.to a.term Pairs Sessions c.from c.to c.term Pairs1 Sessions1 From2 To2 Term2 Pairs2 Sessions2 Index Term3 Pairs3 Sessions3 (some m3) D.from D.to D.term p' x' y H3 z (trueQ H0) := by
        rintro z rfl
        apply tephralaw08_DeltaJoin.k12.step; unfold tephralaw08_DeltaJoin.k12.body
        obtain ⟨es, he, hl⟩ := MR.at (MR.mod rg.map (m2.trans m3'))
        refine Br.yes (by simp) ⟨es, he, ?_, m0.trans (m.trans (m2.trans m3'))⟩
        rw [hl, vRow_len, h2]
        simp
      by_cases e : c.to = a.from
      · exact Br.yes (by simp [e]) (last _ (by rw [hy, if_pos e]))
      · exact Br.no (by simp [e]) (last _ (by rw [hy, if_neg e]))
end

variable {H : Hp}
theorem DeltaJoin_spec {says : Sl} {ss : List Sy} {one two : UInt8} (hr : Rows H says 6 (ss.map Sy.cells).flatten) (hl : ss.length = says.len) :
    SCalls Try.prog tephralaw08_DeltaJoin.id [.slice says.a says.len says.cap, .int .u8 (one.toNat : Int), .int .u8 (two.toNat : Int)] H (trueQ H) := by
  apply tephralaw08_DeltaJoin.calls
  unfold tephralaw08_DeltaJoin.vc
  refine bool_step (H0 := H) awake08_spec (Mod.refl _ _) fun H1 m1 => Br.no rfl ?_
  refine three_step (hr.keep m1 fun _ _ e => e) hl fun j k p0 s0 p1 s1 p2 s2 H2 hjk hk sr0 sr1 sr2 m2 => ?_
  have ok0 := Sn_ok ss j
  have ok1 := Sn_ok ss k
  have ok2 := Sn_ok ss (Ln ss)
  have i0 : (Sn ss j).index = (j : Int) := Sn_index (by omega)
  have i1 : (Sn ss k).index = (k : Int) := Sn_index hk
  have i2 : (Sn ss (Ln ss)).index = (Ln ss : Int) := Sn_index (Nat.le_refl _)
  have ht := Sn_term hjk hk
  have ht' := Sn_term hk (Nat.le_refl _)
  have bd := between_do ok0 ok1 (by omega) ht
  have be := between_do ok1 ok2 (by omega) ht'
  have l0 := Stt.lens ok0
  have l1 := Stt.lens ok1
  have l2 := Stt.lens ok2
  have kl0 := ok0.kl
  have kl1 := ok1.kl
  have kl2 := ok2.kl
  have lb := @btw_len (Sn ss j).kv (Sn ss k).kv
  have lc := @btw_len (Sn ss k).kv (Sn ss (Ln ss)).kv
  have rb := rise_btw ok0.rk ok1.rk
  have rc := rise_btw ok1.rk ok2.rk
  have lm := mrg_len (btw (Sn ss j).kv (Sn ss k).kv) (btw (Sn ss k).kv (Sn ss (Ln ss)).kv)
  have hbs := Stt.bytes_le ok2
  have h0i := ok0.i0
  have h2i := ok2.i0
  have h2t := ok2.t0
  intro H3 h3
  obtain ⟨m3, _⟩ := hole_facts h3
  refine ⟨⟨by omega, by omega⟩, ⟨by omega, by omega⟩, ?_⟩
  have r0 : RR H3 p0 s0 (Sn ss j).wt.ps (Sn ss j).wt.xs := (sr0.mod m3).rr
  have r1 : RR H3 p1 s1 (Sn ss k).wt.ps (Sn ss k).wt.xs := (sr1.mod m3).rr
  have r2 : RR H3 p2 s2 (Sn ss (Ln ss)).wt.ps (Sn ss (Ln ss)).wt.xs := (sr2.mod m3).rr
  refine between_step (a := (Sn ss j).wt) (b := (Sn ss k).wt) r0 r1 ⟨l0.1, l1.1, l1.2⟩ bd.1 fun p4 x4 H4 r4 m4 => ?_
  intro H5 h5
  obtain ⟨m5, _⟩ := hole_facts h5
  refine ⟨⟨by omega, by omega⟩, ⟨by omega, by omega⟩, ?_⟩
  have m35 := m4.trans m5
  refine between_step (a := (Sn ss k).wt) (b := (Sn ss (Ln ss)).wt) (r1.mod m35) (r2.mod m35) ⟨l1.1, l2.1, l2.2⟩ be.1 fun p5 x5 H6 r5 m6 => ?_
  intro H7 h7
  obtain ⟨m7, _⟩ := hole_facts h7
  have m67 := m6.trans m7
  have m47 := m5.trans m67
  have r47 := r4.mod m47
  have r57 := r5.mod m7
  let dA : Dl := ⟨(Sn ss j).index, (Sn ss k).index, (Sn ss k).term, btw (Sn ss j).kv (Sn ss k).kv, (Sn ss k).sess⟩
  let dC : Dl := ⟨(Sn ss k).index, (Sn ss (Ln ss)).index, (Sn ss (Ln ss)).term, btw (Sn ss k).kv (Sn ss (Ln ss)).kv, (Sn ss (Ln ss)).sess⟩
  have hj : joinD dA dC = (⟨(Sn ss j).index, (Sn ss (Ln ss)).index, (Sn ss (Ln ss)).term, mrg dA.ps dC.ps, (Sn ss (Ln ss)).sess⟩, 0) := join_of rfl ht' (by show (mrg (btw (Sn ss j).kv (Sn ss k).kv) (btw (Sn ss k).kv (Sn ss (Ln ss)).kv)).length ≤ 512; omega)
  have l2x : (Sn ss (Ln ss)).sess.length ≤ 1000 := l2.2
  have l1x : (Sn ss k).sess.length ≤ 1000 := l1.2
  refine join_step (a := dA) (b := dC) r47 r57 ⟨by show (btw (Sn ss j).kv (Sn ss k).kv).length ≤ 1000; omega, by show (btw (Sn ss k).kv (Sn ss (Ln ss)).kv).length ≤ 1000; omega, l2x⟩ hj fun p6 x6 H8 r6 m8 => ?_
  intro H9 h9
  obtain ⟨m9, _⟩ := hole_facts h9
  refine ⟨⟨by omega, by omega⟩, ?_⟩
  have m79 := m8.trans m9
  have m39 := m35.trans (m67.trans m79)
  let dJ : Dl := ⟨(Sn ss j).index, (Sn ss (Ln ss)).index, (Sn ss (Ln ss)).term, mrg dA.ps dC.ps, (Sn ss (Ln ss)).sess⟩
  have hd : doD (Sn ss j).wt dJ = ((Sn ss (Ln ss)).wt, 0) := by
    have e : stay (mrg (Sn ss j).wt.ps dJ.ps) = (Sn ss (Ln ss)).wt.ps := stay_two ok0.rk ok1.rk ok2.rk
    have hn : (Sn ss (Ln ss)).wt.ps.length ≤ 64 := by
      have : (Sn ss (Ln ss)).pairs.length = (Sn ss (Ln ss)).kv.length := List.length_map _
      show (Sn ss (Ln ss)).pairs.length ≤ 64; omega
    unfold doD
    rw [if_neg, e, if_neg (by omega)]
    · rfl
    · rintro (h | h | h)
      · exact h rfl
      · have h' : (Sn ss (Ln ss)).index < (Sn ss j).index := h; omega
      · have h' : (Sn ss (Ln ss)).term < (Sn ss j).term := h; omega
  refine do_step (s := (Sn ss j).wt) (d := dJ) (r0.mod m39) (r6.mod m9) ⟨l0.1, by show (mrg (btw (Sn ss j).kv (Sn ss k).kv) (btw (Sn ss k).kv (Sn ss (Ln ss)).kv)).length ≤ 1000; omega, l2x⟩ hd fun p7 x7 H10 r7 m10 => ?_
  intro H11 h11
  obtain ⟨m11, _⟩ := hole_facts h11
  have m911 := m10.trans m11
  have m311 := m39.trans m911
  have m011 := m1.trans (m2.trans (m3.trans m311))
  refine Br.no rfl ?_
  apply tephralaw08_DeltaJoin.k1.step; unfold tephralaw08_DeltaJoin.k1.body
  refine Br.no rfl ?_
  apply tephralaw08_DeltaJoin.k2.step; unfold tephralaw08_DeltaJoin.k2.body
  refine Br.no rfl ?_
  apply tephralaw08_DeltaJoin.k3.step; unfold tephralaw08_DeltaJoin.k3.body
  refine Br.no rfl ⟨⟨by omega, by omega⟩, ?_⟩
  have hB : (stB (Sn ss (Ln ss)).index (Sn ss (Ln ss)).term (Sn ss (Ln ss)).pairs (Sn ss (Ln ss)).sess).length ≤ 140737488355328 := by unfold Stt.bytes at hbs; omega
  have hS := Same_spec (i := (Sn ss (Ln ss)).index) (t := (Sn ss (Ln ss)).term) (i' := (Sn ss (Ln ss)).index) (t' := (Sn ss (Ln ss)).term) (r7.mod m11) (r2.mod m311) hB hB
  rw [decide_eq_true rfl] at hS
  refine bool_step (H0 := H11) hS (Mod.refl _ _) fun H12 m12 => ?_
  apply tephralaw08_DeltaJoin.k4.step; unfold tephralaw08_DeltaJoin.k4.body
  refine Br.no rfl ?_
  apply tephralaw08_DeltaJoin.k5.step; unfold tephralaw08_DeltaJoin.k5.body
  refine Br.no (by simp) ?_
  apply tephralaw08_DeltaJoin.k6.step; unfold tephralaw08_DeltaJoin.k6.body
  refine Br.no (by simp) ?_
  apply tephralaw08_DeltaJoin.k7.step; unfold tephralaw08_DeltaJoin.k7.body
  refine Br.no (by simp) ?_
  have m912 := m911.trans m12
  have r612 := (r6.mod m9).mod m912
  have lens := r612.lens
  have rm := rise_mrg rb rc
  have hmok : ∀ p ∈ mrg dA.ps dC.ps, p.Ok := fun p hp => by
    rcases (mem_mrg rb rc).1 hp with h | ⟨h, _⟩
    · exact btw_ok ok1 ok2 p h
    · exact btw_ok ok0 ok1 p h
  have lm' : (mrg dA.ps dC.ps).length ≤ 256 := by show (mrg (btw (Sn ss j).kv (Sn ss k).kv) (btw (Sn ss k).kv (Sn ss (Ln ss)).kv)).length ≤ 256; omega
  refine bool_step (H0 := H12) (DRight_yes (d := dJ) r612 ⟨h0i.1, by show (Sn ss j).index ≤ (Sn ss (Ln ss)).index; omega, h2i.2, h2t.1, h2t.2⟩
    (rowsOk_of rm hmok ok2 (by show ((mrg dA.ps dC.ps).length : Int) ≤ 512; omega)) ⟨?_, ?_⟩) (Mod.refl _ _) fun H13 m13 => ?_
  · have := lens.1; dsimp only at this; omega
  · have := lens.2; dsimp only at this; omega
  apply tephralaw08_DeltaJoin.k8.step; unfold tephralaw08_DeltaJoin.k8.body
  refine Br.no rfl ?_
  have m713 := m79.trans (m912.trans m13)
  refine values_step (ps := btw (Sn ss j).kv (Sn ss k).kv) (r47.mod m713).1 (by omega) (nodup_byKey rb) fun q0 H14 v0 m14 => ?_
  refine values_step (ps := btw (Sn ss k).kv (Sn ss (Ln ss)).kv) ((r57.mod m713).mod m14).1 (by omega) (nodup_byKey rc) fun q1 H15 v1 m15 => ?_
  refine values_step (ps := mrg dA.ps dC.ps) (((r612.mod m13).mod m14).mod m15).1 (by omega) (nodup_byKey rm) fun q2 H16 v2 m16 => ?_
  apply tephralaw08_DeltaJoin.k9.step; unfold tephralaw08_DeltaJoin.k9.body
  refine ⟨q2, _, _, rfl, v2, ?_⟩
  rintro b rfl H17 h17
  obtain ⟨_, mp, _⟩ := push_facts h17
  have rg : RgP H17 H16.size q2 (mrg dA.ps dC.ps) #[] := by rw [h17]; exact RgS.new v2
  have m716 := m713.trans (m14.trans (m15.trans m16))
  exact join_l1 (H0 := H) (Hr := H16) (a := dA) (c := dC) rb rc (r47.mod m716) (r57.mod m716) ⟨by show (btw (Sn ss j).kv (Sn ss k).kv).length ≤ 200; omega, l1x⟩ ⟨by show (btw (Sn ss k).kv (Sn ss (Ln ss)).kv).length ≤ 200; omega, l2x⟩ (lens.1.symm)
    (m011.trans (m12.trans (m13.trans (m14.trans (m15.trans m16))))) (Nat.le_refl _) _ #[] H17 (Nat.zero_add _) rg (MR.mod v0 ((m15.trans m16).trans mp)) (MR.mod v1 (m16.trans mp)) mp
end Go.Proofs
