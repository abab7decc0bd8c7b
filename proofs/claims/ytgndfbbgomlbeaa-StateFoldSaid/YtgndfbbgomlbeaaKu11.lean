/- STATES: StateFold. -/
import Derived.Test.YtgndfbbgomlbeaaKu9
set_option linter.all false
set_option linter.constructorNameAsVariable false
namespace Go.Proofs
open Go Go.KC

section
variable {H : Hp}
theorem StateFold_spec {says : Sl} {ss : List Sy} {cut : UInt8} (hr : Rows H says 6 (ss.map Sy.cells).flatten) (hl : ss.length = says.len) :
    SCalls Try.prog tephralaw07_StateFold.id [.slice says.a says.len says.cap, .int .u8 (cut.toNat : Int)] H (trueQ H) := by
  apply tephralaw07_StateFold.calls
  unfold tephralaw07_StateFold.vc
  refine bool_step (H0 := H) awake07_spec (Mod.refl _ _) fun H1 m1 => Br.no rfl ?_
  refine (Entries_spec (n := 1) (t := 0) (hr.keep m1 fun _ _ e => e) hl).mono ?_
  rintro r H2 ⟨x, rfl, o, hx, f, _⟩
  generalize hes : ents (ss.take 80) 1 0 = es at o hx
  have hel : es.length ≤ 80 := by rw [← hes, ents_length, List.length_take]; omega
  have hrow : RowsOf es 1 := by rw [← hes]; exact ents_row (by omega) (by rw [List.length_take]; omega) (by omega) (by rw [List.length_take]; omega)
  have m02 : Mod (fun _ => False) H H2 := m1.trans (Mod.fresh f fun _ h => h)
  have R2 : Rows H2 x 8 (es.map En.cells).flatten := Own.rows o
  have hcap := R2.2.1
  have c1 : w64 ((x.len : Int) + 1) = ((x.len + 1 : Nat) : Int) := by rw [w64_id (by omega) (by omega)]; omega
  have cc : w64 (cut.toNat : Int) = (cut.toNat : Int) := w64_id (by omega) (by have := cut.toNat_lt; omega)
  refine ⟨x, rfl, ?_⟩
  rw [c1, cc]
  have e0 : Int.tmod (cut.toNat : Int) ((x.len + 1 : Nat) : Int) = ((cut.toNat % (x.len + 1) : Nat) : Int) := tmodN cut (x.len + 1)
  rw [e0]
  have hk : cut.toNat % (x.len + 1) ≤ x.len := by have := Nat.mod_lt cut.toNat (show 0 < x.len + 1 by omega); omega
  generalize cut.toNat % (x.len + 1) = k at hk
  rw [Int.toNat_natCast]
  have efold : foldM (foldM .zero (es.take k)) (es.drop k) = foldM .zero es := by rw [← foldM_append, List.take_append_drop]
  have okE : (foldM .zero es).Ok := foldM_ok Stt.zero_ok _
  have okK : (foldM .zero (es.take k)).Ok := foldM_ok Stt.zero_ok _
  have dl : (es.drop k).length ≤ 1000000 := by rw [List.length_drop]; omega
  have tl : (es.take k).length ≤ 1000000 := by rw [List.length_take]; omega
  have k1 : ∀ (H11 : Hp) (p s : Sl), Mod (fun _ => False) H2 H11 → SR H11 p s (foldM .zero es) → tephralaw07_StateFold.k1 J0 x (foldM .zero es).index (foldM .zero es).term p s H11 (trueQ H) := by
    intro H11 p s m sr
    apply tephralaw07_StateFold.k1.step; unfold tephralaw07_StateFold.k1.body
    refine fold_step (st := .zero) (SR.zero H11) Stt.zero_ok (R2.keep m fun _ _ e => e) (by omega) fun p' s' H12 sr' m' => fun H13 e13 => ?_
    obtain ⟨m13, _⟩ := hole_facts e13
    refine bool_step (Same_of ((sr.mod m').mod m13) (sr'.mod m13) okE okE) (m02.trans (m.trans (m'.trans m13))) fun H14 m14 => Br.yes (by simp) ⟨?_, m14⟩
    have := (fold_rows hrow (by omega) es.length (Nat.le_refl _)).1
    rw [List.take_length] at this
    rw [this, hx]; simp
  refine ⟨by omega, ⟨by omega, by omega⟩, ⟨by omega, by omega⟩, ?_, fun H8 e8 => ?_⟩
  · refine fold_step (st := .zero) (SR.zero H2) Stt.zero_ok (rows_pre R2 hk) tl fun p1 s1 H3 sr1 m3 => ⟨?_, fun H6 e6 => ?_⟩
    · refine fold_step sr1 okK (rows_cut (R2.keep m3 fun _ _ e => e) hk) dl fun p2 s2 H4 sr2 m4 => fun H5 e5 => ?_
      obtain ⟨m5, _⟩ := hole_facts e5
      rw [efold] at sr2 ⊢
      exact k1 H5 p2 s2 (m3.trans (m4.trans m5)) (sr2.mod m5)
    · obtain ⟨m6, _⟩ := hole_facts e6
      refine fold_step (sr1.mod m6) okK (rows_cut (R2.keep (m3.trans m6) fun _ _ e => e) hk) dl fun p2 s2 H4 sr2 m4 => ?_
      rw [efold] at sr2 ⊢
      exact k1 H4 p2 s2 (m3.trans (m6.trans m4)) sr2
  · obtain ⟨m8, _⟩ := hole_facts e8
    refine fold_step (st := .zero) (SR.zero H8) Stt.zero_ok (rows_pre (R2.keep m8 fun _ _ e => e) hk) tl fun p1 s1 H3 sr1 m3 => ?_
    refine fold_step sr1 okK (rows_cut (R2.keep (m8.trans m3) fun _ _ e => e) hk) dl fun p2 s2 H4 sr2 m4 => ?_
    rw [efold] at sr2 ⊢
    exact k1 H4 p2 s2 (m8.trans (m3.trans m4)) sr2

end
end Go.Proofs
