/- LAYER 05: the document's examples. -/
import Derived.Test.YtnoojgphfinmfaaKm5
import Derived.Test.YtnoojgphfinmfaaKm6
set_option linter.all false
set_option linter.constructorNameAsVariable false
namespace Go.Proofs
open Go Go.KC

section
variable {κ α : Type} [KO κ] [DecidableEq κ]
theorem put_nil {k : κ} {v : α} {i : Nat} (h : Spot ([] : List (κ × α)) k i) : putAt [] k v i = [(k, v)] ∧ atB ([] : List (κ × α)) k i = false := by
  have := h.le; simp at this; subst this
  exact ⟨rfl, rfl⟩
theorem put_one {j k : κ} {w v : α} {i : Nat} (h : Spot [(j, w)] k i) (hk : KO.lt k j) : putAt [(j, w)] k v i = [(k, v), (j, w)] ∧ atB [(j, w)] k i = false := by
  have h0 : i = 0 := by
    have hle := h.le; simp at hle
    rcases Nat.eq_zero_or_pos i with c | c
    · exact c
    · have := h.lo 0 (by simp) c; exact (KO.asymm hk this).elim
  subst h0
  have ha : atB [(j, w)] k 0 = false := by simp [atB, (KO.ne hk).symm]
  exact ⟨by unfold putAt; rw [ha]; rfl, ha⟩
theorem atB_of_mem {l : List (κ × α)} {k : κ} {v : α} {i : Nat} (hs : Rise l) (h : Spot l k i) (hm : (k, v) ∈ l) : atB l k i = true := by
  cases hb : atB l k i with
  | true => rfl
  | false => exact (h.not hs hb v hm).elim
end

section
variable {H : Hp}
theorem awake05_spec : SCalls Try.prog tephralaw05_awake.id [] H (TellPost H (.bool true)) := by
  apply tephralaw05_awake.calls
  unfold tephralaw05_awake.vc
  have sa : (Array.push H (.cells #[.bool false] T_bool)).size = H.size + 1 := by simp
  have r0 : (Array.push H (.cells #[.bool false] T_bool))[H.size]? = some (.cells #[.bool false] T_bool (0, 0)) := get_push_new _ _
  have m0 : Mod (fun b => H.size ≤ b) H (Array.push H (.cells #[.bool false] T_bool)) := Mod.push _ _ _
  generalize Array.push H (.cells #[.bool false] T_bool) = Ha at *
  have r1 := get_push (.cells #[.slice none 0 0] T_sorted_Map_int_string) r0
  have M0 := MS.Mp.new Ha T_sorted_Map_int_string
  have m1 : Mod (fun b => H.size ≤ b) H (Array.push Ha (.cells #[.slice none 0 0] T_sorted_Map_int_string)) := m0.trans (Mod.push _ _ _)
  have sb : (Array.push Ha (.cells #[.slice none 0 0] T_sorted_Map_int_string)).size = H.size + 2 := by simp [sa]
  generalize Array.push Ha (.cells #[.slice none 0 0] T_sorted_Map_int_string) = Hb at *
  rw [sa] at M0 ⊢
  refine MS.put_step (Bl := fun b => b ≤ H.size) M0 (fun b hb => ⟨by omega, by omega, by simp⟩) (by simp) fun i H1 F1 h1 M1 k1 d1 f1 => ?_
  obtain ⟨e1, a1⟩ := put_nil (v := ByteArray.mk #[120]) h1
  rw [e1] at M1; rw [a1]
  have r1 := k1.get r1 (fun h => h (Nat.le_refl _))
  have m1 : Mod (fun b => H.size ≤ b) H H1 := m1.trans' k1 fun b hb hn => by omega
  refine MS.put_step (Bl := fun b => b ≤ H.size) M1 d1 (by simp) fun i2 H2 F2 h2 M2 k2 d2 f2 => ?_
  obtain ⟨e2, a2⟩ := put_one (v := ByteArray.mk #[121]) h2 (show KO.lt (1 : Int) 3 from by show (1 : Int) < 3; omega)
  rw [e2] at M2; rw [a2]
  have r2 := k2.get r1 (fun h => h (Nat.le_refl _))
  have m2 : Mod (fun b => H.size ≤ b) H H2 := m1.trans' k2 fun b hb hn => by omega
  have hg2 := M2.lt
  -- the number
  have n0 : (Array.push H2 (.cells #[.int .i64 0] T_int))[H2.size]? = some (.cells #[.int .i64 0] T_int (0, 0)) := get_push_new _ _
  have mp : Mod (fun _ => False) H2 (Array.push H2 (.cells #[.int .i64 0] T_int)) := Mod.push _ _ _
  refine ⟨wr_at n0, ?_⟩
  have n1 := set_at (w := .int .i64 0) n0
  have mn := mod_at (Array.push H2 (.cells #[.int .i64 0] T_int)) H2.size (.int .i64 0)
  have mq : Mod (fun _ => False) H2 (Hp.setCell (Array.push H2 (.cells #[.int .i64 0] T_int)) ⟨H2.size, 0, none⟩ (.int .i64 0)) := mp.trans' mn fun b hb e => by omega
  generalize Hp.setCell (Array.push H2 (.cells #[.int .i64 0] T_int)) ⟨H2.size, 0, none⟩ (.int .i64 0) = Hn at *
  refine MS.len_step (M2.mod mq) fun H3 m3 => Br.no rfl (MS.all_step fun T fn tm hT => ?_)
  have n3 := m3.get n1 fun e => e
  have n4 := get_push (.cells #[.pointer (some ⟨H.size + 1, 0, none⟩)] T) n3
  have b4 : (Array.push H3 (.cells #[.pointer (some ⟨H.size + 1, 0, none⟩)] T))[H3.size]? = some (.cells #[.pointer (some ⟨H.size + 1, 0, none⟩)] T (0, 0)) := get_push_new _ _
  have m4 : Mod (fun _ => False) H2 (Array.push H3 (.cells #[.pointer (some ⟨H.size + 1, 0, none⟩)] T)) := mq.trans (m3.trans (Mod.push _ _ _))
  have M4 := M2.mod m4
  have r4 := m4.get r2 fun e => e
  generalize Array.push H3 (.cells #[.pointer (some ⟨H.size + 1, 0, none⟩)] T) = H4 at *
  have hn4 := lt_of_get n4
  have hs4 := m4.size
  have lt4 := M4.lt
  refine MS.range_use (b := H3.size) (rec := tephralaw05_awake.r1.rec fn tm H4.size)
    (fun i H' => Mod (fun b => b = H2.size ∨ b = H4.size + 1) H4 H' ∧ H'[H2.size]? = some (.cells #[.int .i64 (if i = 0 then 0 else if i = 1 then 1 else 13)] T_int (0, 0))) (fun _ _ => False) M4 (cell_at b4)
    ⟨Mod.refl _ _, n4⟩ (fun i H' h => Mod.same h.1 fun b hb => ?_) (fun i H' H'' h m => ⟨h.1.trans (m.mono fun b _ e => Or.inr e), m.get h.2 (by omega)⟩) (fun _ _ _ h _ => h) (fun i hi H' h hl => ?_) (fun H' h => ?_) (fun _ _ h => h.elim)
  · rcases List.mem_cons.1 hb with rfl | hb
    · exact ⟨lt4.1, by have := hg2.1; omega⟩
    · exact ⟨lt4.2 b hb, by have := hg2.2 b hb; omega⟩
  · refine tephralaw05_awake.r1.calls hl hT ⟨hl, ?_⟩
    rintro H6 rfl
    obtain ⟨s1, s2⟩ := rec_set (tephralaw05_awake.r1.rec fn tm H4.size .busy none) hl
    have n6 := s2.get h.2 (by omega)
    generalize Array.setIfInBounds H' (H4.size + 1) (tephralaw05_awake.r1.rec fn tm H4.size .busy none) = H6 at *
    refine ⟨_, cell_at n6, wr_at n6, ?_⟩
    have hi2 : i = 0 ∨ i = 1 := by simp at hi; omega
    rcases hi2 with rfl | rfl
    · refine Br.yes rfl (Br.no (by simp) ⟨⟨_, _, (mod_at H6 _ _).get s1 (by omega)⟩, Or.inl ⟨rfl, ?_, ?_⟩⟩)
      · obtain ⟨t1, t2⟩ := rec_set (tephralaw05_awake.r1.rec fn tm H4.size .ready none) ((mod_at H6 H2.size (.int .i64 (w64 (w64 (10 * 0) + 1)))).get s1 (by omega))
        refine ⟨h.1.trans ((s2.mono fun b _ e => Or.inr e).trans (((mod_at H6 H2.size _).mono fun b _ e => Or.inl e).trans (t2.mono fun b _ e => Or.inr e))), ?_⟩
        exact t2.get (set_at n6) (by omega)
      · exact (rec_set _ ((mod_at H6 H2.size _).get s1 (by omega))).1
    · refine Br.no rfl ⟨⟨_, _, (mod_at H6 _ _).get s1 (by omega)⟩, Or.inl ⟨rfl, ?_, ?_⟩⟩
      · obtain ⟨t1, t2⟩ := rec_set (tephralaw05_awake.r1.rec fn tm H4.size .ready none) ((mod_at H6 H2.size (.int .i64 (w64 (w64 (10 * 1) + 3)))).get s1 (by omega))
        refine ⟨h.1.trans ((s2.mono fun b _ e => Or.inr e).trans (((mod_at H6 H2.size _).mono fun b _ e => Or.inl e).trans (t2.mono fun b _ e => Or.inr e))), ?_⟩
        exact t2.get (set_at n6) (by omega)
      · exact (rec_set _ ((mod_at H6 H2.size _).get s1 (by omega))).1
  · refine jump_none ?_
    have hsame : Same ((H.size + 1) :: F2) H4 H' := Mod.same h.1 fun b hb => by
      rcases List.mem_cons.1 hb with rfl | hb
      · exact ⟨lt4.1, by have := hg2.1; omega⟩
      · exact ⟨lt4.2 b hb, by have := hg2.2 b hb; omega⟩
    · have M5 := M4.same hsame
      have r5 := h.1.get r4 (by omega)
      have m5 : Mod (fun b => H.size ≤ b) H H' := (m2.trans (m4.mono fun _ _ e => e.elim)).trans' h.1 fun b hb e => by omega
      refine MS.get_step M5 fun H7 m7 => Br.yes rfl ?_
      have M7 := M5.mod m7
      have r7 := m7.get r5 fun e => e
      have n7 := m7.get h.2 fun e => e
      have m7' : Mod (fun b => H.size ≤ b) H H7 := m5.trans (m7.mono fun _ _ e => e.elim)
      apply tephralaw05_awake.k1.step; unfold tephralaw05_awake.k1.body
      refine Br.yes rfl ⟨_, cell_at n7, ?_⟩
      apply tephralaw05_awake.k2.step; unfold tephralaw05_awake.k2.body
      refine Br.yes rfl ?_
      apply tephralaw05_awake.k3.step; unfold tephralaw05_awake.k3.body
      refine Br.yes rfl ?_
      rw [show MS.get [((1 : Int), ByteArray.mk #[121]), (3, ByteArray.mk #[120])] 3 = (ByteArray.mk #[120], true) from rfl]
      apply tephralaw05_awake.k4.step; unfold tephralaw05_awake.k4.body
      refine Br.yes (beq_self_eq_true _) ?_
      rw [spush]
      have lt7 := M7.lt
      refine MS.put_step (Bl := fun b => b ≤ H.size) M7 (fun b hb => ⟨by have := lt7.1; omega, by omega, fun hF => (d2 b hb).2.2 hF⟩) (by simp) fun i3 H8 F8 h8 M8 k8 d8 f8 => ?_
      have a8 := atB_of_mem M7.rise h8 (v := ByteArray.mk #[120]) (by simp)
      rw [a8]
      have e8 : (putAt [((1 : Int), ByteArray.mk #[121]), (3, ByteArray.mk #[120])] 3 (ByteArray.mk #[122]) i3).length = 2 := by rw [putAt_length h8.le, a8]; rfl
      have r8 := k8.get r7 (fun h => h (Nat.le_refl _))
      have m8 : Mod (fun b => H.size ≤ b) H H8 := m7'.trans' k8 fun b hb hn => by omega
      apply tephralaw05_awake.k5.step; unfold tephralaw05_awake.k5.body
      rw [spush]
      refine Br.yes rfl (MS.len_step M8 fun H9 m9 => ?_)
      have r9 := m9.get r8 fun e => e
      rw [e8]
      refine ⟨wr_at r9, true, cell_at (set_at r9), rfl, ?_⟩
      have m9' : Mod (fun b => H.size ≤ b) H H9 := m8.trans (m9.mono fun _ _ e => e.elim)
      exact Mod.fresh (m9'.trans' (mod_at H9 H.size _) fun b hb e => by omega) fun _ h => h
end
end Go.Proofs
