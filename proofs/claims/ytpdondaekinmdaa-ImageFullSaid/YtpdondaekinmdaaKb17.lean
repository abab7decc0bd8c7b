/- LAYER 09: ImageFull. -/
import Derived.Test.YtpdondaekinmdaaKb16
set_option linter.all false
set_option linter.constructorNameAsVariable false
namespace Go.Proofs
open Go Go.KC

section
variable {H : Hp}
theorem head_step {H0 H1 : Hp} {k f t : Int} {K : ByteArray → Hp → Prop} (m : Mod (fun _ => False) H0 H1) (hK : ∀ H', Mod (fun _ => False) H1 H' → K ⟨(frB (hdB k f t)).toArray⟩ H') :
    SCalls Try.prog tephralaw09_head.id [.int .i64 k, .int .i64 f, .int .i64 t] H1 fun r H' => ∃ x : ByteArray, r = .string x ∧ K x H' := by
  refine law_head_spec.mono ?_
  rintro r H2 ⟨rfl, m2⟩
  exact ⟨_, rfl, hK H2 m2⟩
theorem stB_step {H1 : Hp} {i t : Int} {p s : Sl} {ps : List Pr} {xs : List Se} {K : Sl → Hp → Prop} (hr : RR H1 p s ps xs) (hl : (stB i t ps xs).length ≤ 140737488355328) (hK : ∀ (x : Sl) H', Rows H' x 1 ((stB i t ps xs).map bv) → Mod (fun _ => False) H1 H' → K x H') :
    SCalls Try.prog state_Bytes.id [.agg #[.int .i64 i, .int .i64 t, .slice p.a p.len p.cap, .slice s.a s.len s.cap]] H1 fun r H' => ∃ x : Sl, r = .slice x.a x.len x.cap ∧ K x H' := by
  refine (Bytes_spec hr hl).mono ?_
  rintro r H2 ⟨x, rfl, o, m, -⟩
  exact ⟨x, rfl, hK x H2 (Own.rows o) m⟩
theorem form_step {H1 : Hp} {x : Sl} {xs : List UInt8} {K : ByteArray → Hp → Prop} (hx : Rows H1 x 1 (xs.map bv)) (hs : xs.length ≤ 16384) (hK : ∀ H', Mod (fun _ => False) H1 H' → K ⟨(frB xs).toArray⟩ H') :
    SCalls Try.prog tephralaw09_form.id [.slice x.a x.len x.cap] H1 fun r H' => ∃ y : ByteArray, r = .string y ∧ K y H' := by
  refine (form_spec hx).mono ?_
  rintro r H2 ⟨rfl, m2⟩
  have : frS xs = frB xs := if_pos hs
  rw [this]
  exact ⟨_, rfl, hK H2 m2⟩
theorem str_step {H1 : Hp} {x : Sl} {xs : List UInt8} {K : ByteArray → Prop} (hx : Rows H1 x 1 (xs.map bv)) (hK : K ⟨xs.toArray⟩) : vB2S H1 x.a x.len K := by
  refine b2s_imp (b2s_rows hx rfl) ?_
  rintro s rfl
  exact hK

theorem ImageFull_spec {says : Sl} {ss : List Sy} {at' : UInt16} {by' : UInt8} (hr : Rows H says 6 (ss.map Sy.cells).flatten) (hl : ss.length = says.len) :
    SCalls Try.prog tephralaw09_ImageFull.id [.slice says.a says.len says.cap, .int .u16 (at'.toNat : Int), .int .u8 (by'.toNat : Int)] H (trueQ H) := by
  apply tephralaw09_ImageFull.calls
  unfold tephralaw09_ImageFull.vc
  refine (awake_spec H).mono ?_
  rintro r H1 ⟨rfl, m1⟩
  refine ⟨true, rfl, Br.no rfl ((Some_spec (hr.keep m1 fun _ _ e => e) hl).mono ?_)⟩
  rintro r H2 ⟨p, s, rfl, sr, m2⟩
  have ok := someM_ok ss
  generalize someM ss = st at ok sr ⊢
  refine ⟨_, _, p, s, rfl, fun H3 e3 => ?_⟩
  obtain ⟨m3, s3⟩ := hole_facts e3
  have rr3 : RR H3 p s st.pairs st.sess := sr.rr.mod m3
  have hbs := Stt.bytes_small ok
  have hsm := stt_small ok
  refine (Full_spec (i := st.index) (t := st.term) rr3 (by omega)).mono ?_
  rintro r H4 (⟨-, x, rfl, o4, m4, f4⟩ | ⟨h, -⟩)
  rotate_left
  · exact absurd hsm h
  have o4 : Own H4 x T_uint8 1 (st.file.map bv) := o4
  have hlen := Stt.file_len st
  refine ⟨x, 0, rfl, (ReadFull_spec (Own.rows o4) (by omega)).mono ?_⟩
  rintro r H5 ⟨m5, hp⟩
  rcases hp with ⟨i, t, ps, xs, p', s', hp, rfl, rr5⟩ | ⟨hno, -⟩
  rotate_left
  · exact absurd (Stt.file_ok ok) (hno _ _ _ _)
  obtain ⟨rfl, rfl, rfl, rfl⟩ := (Stt.file_ok ok).uniq hp
  refine ⟨_, _, p', s', _, rfl, fun H6 e6 => ?_⟩
  obtain ⟨m6, s6⟩ := hole_facts e6
  have m56 := m5.trans m6
  have m26 := ((m1.trans m2).trans m3)
  have z26 := m26.size
  have hbx : ∀ q ∈ x.blk, H.size ≤ q := fun q hq => Nat.le_trans z26 (f4 q hq)
  refine Br.no rfl (Br.no rfl ?_)
  refine (Same_spec (i := st.index) (t := st.term) (i' := st.index) (t' := st.term) (rr3.mod (m4.trans m56)) (rr5.mod m6) (by omega) (by omega)).mono ?_
  rintro r H7 ⟨rfl, m7⟩
  refine ⟨_, rfl, Br.no (by simp) ?_⟩
  have m37 := ((m4.trans m56).trans m7)
  have o7 := (o4.keep m56 fun _ _ e => e).keep m7 fun _ _ e => e
  have rr7 := rr3.mod m37
  have m07 := m26.trans m37
  have fin : ∀ H10, Mod (fun _ => False) H7 H10 → tephralaw09_ImageFull.k1 J0 (at'.toNat : Int) (by'.toNat : Int) st.index st.term p s x st.index st.term p' s' (!((ByteArray.mk st.file.toArray).toList == (ByteArray.mk (frB (hdB 0 st.index st.index)).toArray ++ ByteArray.mk (frB (stB st.index st.term st.pairs st.sess)).toArray).toList)) H10 (trueQ H) := fun H10 m10 => by
    have e : (!((ByteArray.mk st.file.toArray).toList == (ByteArray.mk (frB (hdB 0 st.index st.index)).toArray ++ ByteArray.mk (frB (stB st.index st.term st.pairs st.sess)).toArray).toList)) = false := by
      rw [ba_append, Stt.file_eq, List.append_nil]; simp
    rw [e]
    exact Full_k1 (m07.trans m10) ok (o7.keep m10 fun _ _ e => e) hbx
  have hsz : (ByteArray.mk (frB (hdB 0 st.index st.index)).toArray).size + (ByteArray.mk (frB (stB st.index st.term st.pairs st.sess)).toArray).size ≤ 9223372036854775807 := by
    rw [ba_size, ba_size, hd26, frB_len]; omega
  have hxs : ∀ H', Mod (fun _ => False) H7 H' → Rows H' x 1 (st.file.map bv) := fun H' m => Own.rows (o7.keep m fun _ _ e => e)
  refine ⟨str_step (hxs _ (Mod.refl _ _)) ?_, ?_⟩
  · refine head_step m07 fun H8 m8 => stB_step (rr7.mod m8) (by omega) fun y H9 hy m9 => form_step hy (by omega) fun H10 m10 => ⟨hsz, fin H10 ((m8.trans m9).trans m10)⟩
  · refine head_step m07 fun H8 m8 => ⟨str_step (hxs _ m8) ?_, ?_⟩
    · exact stB_step (rr7.mod m8) (by omega) fun y H9 hy m9 => form_step hy (by omega) fun H10 m10 => ⟨hsz, fin H10 ((m8.trans m9).trans m10)⟩
    · refine stB_step (rr7.mod m8) (by omega) fun y H9 hy m9 => ⟨str_step (hxs _ (m8.trans m9)) ?_, ?_⟩
      · exact form_step hy (by omega) fun H10 m10 => ⟨hsz, fin H10 ((m8.trans m9).trans m10)⟩
      · exact form_step hy (by omega) fun H10 m10 => ⟨hsz, str_step (hxs _ ((m8.trans m9).trans m10)) (fin H10 ((m8.trans m9).trans m10))⟩
end
end Go.Proofs
