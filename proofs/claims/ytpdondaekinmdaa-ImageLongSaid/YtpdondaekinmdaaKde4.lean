/- LAYER 09: ImageDelta. -/
import Derived.Test.YtpdondaekinmdaaKde3
import Derived.Test.YtpdondaekinmdaaKd9
set_option linter.all false
set_option linter.constructorNameAsVariable false
set_option maxRecDepth 100000
namespace Go.Proofs
open Go Go.KC

theorem between_eq {s t : Stt} (os : s.Ok) (ot : t.Ok) (hi : s.index ≤ t.index) (ht : s.term ≤ t.term) :
    betweenD s.wt t.wt = (⟨s.index, t.index, t.term, btw s.kv t.kv, t.sess⟩, 0) := by
  have e1 : kvs s.wt.ps = s.kv := kvs_prs s.kv
  have e2 : kvs t.wt.ps = t.kv := kvs_prs t.kv
  unfold betweenD
  rw [if_neg (by simp [Stt.wt]; omega), e1, e2, ofL_rise _ os.rk, ofL_rise _ ot.rk]
  rfl
theorem DlRight.small {d : Dl} (h : DlRight d) (hn : d.ps.length ≤ 300 ∧ d.xs.length ≤ 10) : (dlB d).length ≤ 16000 := by
  obtain ⟨_, _, _, _, _, hp, hs, hl⟩ := h
  have h1 : (prsB d.ps).length ≤ d.ps.length * 41 := flat_le _ _ _ fun p hp' => by
    obtain ⟨j, hj, rfl⟩ := List.getElem_of_mem hp'
    have := (hp j hj hj).1
    unfold Pr.Ok at this
    rw [Pr.bytes_len]; omega
  have h2 : (sesB d.xs).length ≤ d.xs.length * 48 := flat_le _ _ _ fun p hp' => by
    obtain ⟨j, hj, rfl⟩ := List.getElem_of_mem hp'
    have := (hs j hj hj).1
    unfold Se.Ok at this
    rw [Se.bytes_len]; omega
  rw [dlB_len]; omega
theorem DfOK.uniq {bs : List UInt8} {d d' : Dl} (h : DfOK bs d) (h' : DfOK bs d') : d = d' := by
  have hl := frames_le bs
  have e := h.2
  rw [h'.2] at hl e
  have e1 : dlB d' = dlB d := (List.cons.inj (List.cons.inj (Prod.mk.inj e).1).2).1
  have hl' := hl (dlB d') (by simp)
  have r1 := rdDl_right h'.1 (by omega)
  rw [e1] at r1 hl'
  rw [rdDl_right h.1 (by omega)] at r1
  injection r1
def dlF (d : Dl) : List UInt8 := flatF [hdB 1 d.from d.to, dlB d]
theorem dl_small {d : Dl} (hl : (dlB d).length ≤ 16384) : Small [hdB 1 d.from d.to, dlB d] := fun y hy => by
  rcases List.mem_cons.1 hy with rfl | hy
  · rw [hdB_len]; omega
  · rw [List.mem_singleton.1 hy]; exact hl
theorem dlF_ok {d : Dl} (h : DlRight d) (hl : (dlB d).length ≤ 16384) : DfOK (dlF d) d := ⟨h, frames_flat (dl_small hl)⟩
theorem dlF_eq (d : Dl) : dlF d = frB (hdB 1 d.from d.to) ++ (frB (dlB d) ++ []) := by simp [dlF, flatF]
theorem dlF_len (d : Dl) : (dlF d).length = 35 + (dlB d).length - 0 := by
  rw [dlF_eq, List.append_nil, List.length_append, frB_len, frB_len, hdB_len]; omega
theorem DfOK.head {bs : List UInt8} {d : Dl} (h : DfOK bs d) : (-9223372036854775808 ≤ d.from ∧ d.from ≤ 9223372036854775807) ∧ (-9223372036854775808 ≤ d.to ∧ d.to ≤ 9223372036854775807) := by
  obtain ⟨a, b, c, _⟩ := h.1
  omega
theorem DfOK.notFull {bs : List UInt8} {d : Dl} (h : DfOK bs d) : ∀ i t ps xs, ¬ FlOK bs i t ps xs := fun i t ps xs hp => by
  have e := h.2
  rw [hp.2] at e
  obtain ⟨_, a, b, _⟩ := hp.1
  have := h.head
  have := (hdB_inj (by omega) (by omega) (by omega) (by omega) (by omega) (by omega) (List.cons.inj (Prod.mk.inj e).1).1).1
  omega
theorem DfOK.notPart {bs : List UInt8} {d : Dl} {fv : Int} (h : DfOK bs d) (hf : -9223372036854775808 ≤ fv ∧ fv ≤ 9223372036854775807) : ∀ es n, ¬ PtOK bs fv es n := fun es n hp => by
  have e := h.2
  rw [hp.1] at e
  have := h.head
  have := (hdB_inj (by omega) hf hf (by omega) (by omega) (by omega) (List.cons.inj (Prod.mk.inj e).1).1).1
  omega

section
variable {H : Hp}
theorem dlB_step {H1 : Hp} {d : Dl} {p s : Sl} {K : Sl → Hp → Prop} (hr : RR H1 p s d.ps d.xs) (hl : (dlB d).length ≤ 140737488355328) (hK : ∀ (x : Sl) H', Rows H' x 1 ((dlB d).map bv) → Mod (fun _ => False) H1 H' → K x H') :
    SCalls Try.prog delta_Bytes.id [dlV d p s] H1 fun r H' => ∃ x : Sl, r = .slice x.a x.len x.cap ∧ K x H' := by
  refine (DBytes_spec hr hl).mono ?_
  rintro r H2 ⟨x, rfl, o, m, -⟩
  exact ⟨x, rfl, hK x H2 (Own.rows o) m⟩
theorem ImageDelta_spec {says : Sl} {ss : List Sy} {one two : UInt8} (hr : Rows H says 6 (ss.map Sy.cells).flatten) (hl : ss.length = says.len) :
    SCalls Try.prog tephralaw09_ImageDelta.id [.slice says.a says.len says.cap, .int .u8 (one.toNat : Int), .int .u8 (two.toNat : Int)] H (trueQ H) := by
  apply tephralaw09_ImageDelta.calls
  unfold tephralaw09_ImageDelta.vc
  refine (awake_spec H).mono ?_
  rintro r H1 ⟨rfl, m1⟩
  refine ⟨true, rfl, Br.no rfl ?_⟩
  refine three_step (hr.keep m1 fun _ _ e => e) hl fun j k p0 s0 p1 s1 p2 s2 H2 hjk hk sr0 sr1 sr2 m2 => ?_
  have ok0 := Sn_ok ss j
  have ok1 := Sn_ok ss k
  have i0 : (Sn ss j).index = (j : Int) := Sn_index (by omega)
  have i1 : (Sn ss k).index = (k : Int) := Sn_index hk
  have ht := Sn_term hjk hk
  have bd := between_eq ok0 ok1 (by omega) ht
  have l0 := Stt.lens ok0
  have l1 := Stt.lens ok1
  have kl0 := ok0.kl
  have kl1 := ok1.kl
  have sl1 := ok1.sl
  have lb := @btw_len (Sn ss j).kv (Sn ss k).kv
  have h1i := ok1.i0
  have h1t := ok1.t0
  have h0i := ok0.i0
  intro H3 h3
  obtain ⟨m3, _⟩ := hole_facts h3
  refine ⟨⟨by omega, by omega⟩, ⟨by omega, by omega⟩, ?_⟩
  have r0 : RR H3 p0 s0 (Sn ss j).wt.ps (Sn ss j).wt.xs := (sr0.mod m3).rr
  have r1 : RR H3 p1 s1 (Sn ss k).wt.ps (Sn ss k).wt.xs := (sr1.mod m3).rr
  refine between_step (a := (Sn ss j).wt) (b := (Sn ss k).wt) r0 r1 ⟨l0.1, l1.1, l1.2⟩ bd fun p4 x4 H4 r4 m4 => ?_
  intro H5 h5
  obtain ⟨m5, _⟩ := hole_facts h5
  have hlen : (Sn ss k).sess.length = (Sn ss k).ss.length := List.length_map _
  have hR : DlRight ⟨(Sn ss j).index, (Sn ss k).index, (Sn ss k).term, btw (Sn ss j).kv (Sn ss k).kv, (Sn ss k).sess⟩ :=
    ⟨h0i.1, by show (Sn ss j).index ≤ (Sn ss k).index; omega, h1i.2, h1t.1, h1t.2, rowsOk_of (rise_btw ok0.rk ok1.rk) (btw_ok ok0 ok1) ok1 (by show ((btw (Sn ss j).kv (Sn ss k).kv).length : Int) ≤ 512; omega)⟩
  have hS := hR.small ⟨by dsimp only; omega, by dsimp only; omega⟩
  have r4 := r4.mod m5
  dsimp only at r4 ⊢
  generalize hd : (⟨(Sn ss j).index, (Sn ss k).index, (Sn ss k).term, btw (Sn ss j).kv (Sn ss k).kv, (Sn ss k).sess⟩ : Dl) = d at hR hS
  rw [show (Sn ss j).index = d.from from by rw [← hd], show (Sn ss k).index = d.to from by rw [← hd], show (Sn ss k).term = d.term from by rw [← hd]]
  replace r4 : RR H5 p4 x4 d.ps d.xs := by rw [← hd]; exact r4
  clear hd
  have hok := dlF_ok hR (by omega)
  have hF := dlF_len d
  have m05 := m1.trans (m2.trans (m3.trans (m4.trans m5)))
  refine (Delta_spec r4 (by omega)).mono ?_
  rintro r H6 (⟨-, x, rfl, o6, m6, f6⟩ | ⟨h, -⟩)
  rotate_left
  · exact absurd (dl_small (by omega)) h
  have o6 : Own H6 x T_uint8 1 ((dlF d).map bv) := o6
  refine ⟨x, 0, rfl, (ReadDelta_spec (Own.rows o6) (by omega)).mono ?_⟩
  rintro r H7 ⟨m7, hp⟩
  rcases hp with ⟨d', p', s', hp, rfl, r7⟩ | ⟨hno, -⟩
  rotate_left
  · exact absurd hok (hno _)
  obtain rfl := hok.uniq hp
  refine ⟨_, _, _, p', s', _, rfl, ?_⟩
  intro H8 h8
  obtain ⟨m8, _⟩ := hole_facts h8
  have o8 := (o6.keep m7 fun _ _ e => e).keep m8 fun _ _ e => e
  refine (ReadFull_spec (Own.rows o8) (by omega)).mono ?_
  rintro r H9 ⟨m9, hp9⟩
  rcases hp9 with ⟨i, t, ps, xs, q, z, hp9, -⟩ | ⟨-, rfl⟩
  · exact absurd hp9 (hok.notFull _ _ _ _)
  refine ⟨_, _, ⟨none, 0, 0⟩, ⟨none, 0, 0⟩, _, rfl, ?_⟩
  intro H10 h10
  obtain ⟨m10, _⟩ := hole_facts h10
  have m810 := m9.trans m10
  have o10 := o8.keep m810 fun _ _ e => e
  refine (ReadPart_spec (fv := d.from) hok.head.1 (Own.rows o10) (by omega)).mono ?_
  rintro r H11 ⟨m11, hp11⟩
  rcases hp11 with ⟨es, n, out, hp11, -⟩ | ⟨-, rfl⟩
  · exact absurd hp11 (hok.notPart hok.head.1 _ _)
  have m811 := m810.trans m11
  have m711 := m8.trans m811
  have m511 := m6.trans (m7.trans m711)
  refine ⟨⟨none, 0, 0⟩, _, _, rfl, Br.yes rfl (Br.yes rfl ?_)⟩
  refine (DSame_spec (r7.mod m711) (r4.mod m511) (by omega) (by omega)).mono ?_
  rintro r H12 ⟨rfl, m12⟩
  refine ⟨_, rfl, Br.yes (by simp) (Br.yes rfl (Br.yes rfl ?_))⟩
  have m012 := m05.trans (m511.trans m12)
  have r12 := (r4.mod m511).mod m12
  have hxs : ∀ H', Mod (fun _ => False) H12 H' → Rows H' x 1 ((dlF d).map bv) := fun H' m => Own.rows (((o10.keep m11 fun _ _ e => e).keep m12 fun _ _ e => e).keep m fun _ _ e => e)
  have hsz : (ByteArray.mk (frB (hdB 1 d.from d.to)).toArray).size + (ByteArray.mk (frB (dlB d)).toArray).size ≤ 9223372036854775807 := by
    rw [ba_size, ba_size, frB_len, frB_len, hdB_len]; omega
  have fin : ∀ H', Mod (fun _ => False) H12 H' → trueQ H (.bool ((ByteArray.mk (dlF d).toArray).toList == (ByteArray.mk (frB (hdB 1 d.from d.to)).toArray ++ ByteArray.mk (frB (dlB d)).toArray).toList)) H' := fun H' m => by
    have e : ((ByteArray.mk (dlF d).toArray).toList == (ByteArray.mk (frB (hdB 1 d.from d.to)).toArray ++ ByteArray.mk (frB (dlB d)).toArray).toList) = true := by
      rw [ba_append, dlF_eq, List.append_nil]; simp
    rw [e]
    exact ⟨rfl, m012.trans m⟩
  refine ⟨str_step (hxs _ (Mod.refl _ _)) ?_, ?_⟩
  · refine head_step (Mod.refl _ H12) fun H13 m13 => dlB_step (r12.mod m13) (by omega) fun y H14 hy m14 => form_step hy (by omega) fun H15 m15 => ⟨hsz, fin H15 (m13.trans (m14.trans m15))⟩
  · refine head_step (Mod.refl _ H12) fun H13 m13 => ⟨str_step (hxs _ m13) ?_, ?_⟩
    · exact dlB_step (r12.mod m13) (by omega) fun y H14 hy m14 => form_step hy (by omega) fun H15 m15 => ⟨hsz, fin H15 (m13.trans (m14.trans m15))⟩
    · refine dlB_step (r12.mod m13) (by omega) fun y H14 hy m14 => ⟨str_step (hxs _ (m13.trans m14)) ?_, ?_⟩
      · exact form_step hy (by omega) fun H15 m15 => ⟨hsz, fin H15 (m13.trans (m14.trans m15))⟩
      · exact form_step hy (by omega) fun H15 m15 => ⟨hsz, str_step (hxs _ (m13.trans (m14.trans m15))) (fin H15 (m13.trans (m14.trans m15)))⟩
end
end Go.Proofs
