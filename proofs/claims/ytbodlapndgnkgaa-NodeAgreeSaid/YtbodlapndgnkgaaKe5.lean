/- ENTRIES, part 5: cmds.Row: the walk. -/
import Derived.Test.YtbodlapndgnkgaaKe2
set_option linter.all false
set_option linter.constructorNameAsVariable false
namespace Go.Proofs
open Go Go.KC

section
variable {H : Hp}
theorem Row_loop {H0 : Hp} {x : Sl} {es : List En} {n : Int} (hr : Rows H0 x 8 (es.map En.cells).flatten) (hl : es.length = x.len) (hx : x.len ≤ 9223372036854775807) :
    ∀ (d j : Nat) (H : Hp), j + d = x.len → Mod (fun _ => False) H0 H → (∀ i (hi : i < es.length), i < j → es[i].Right ∧ es[i].index = w64 (n + (i : Int)) ∧ ∀ h0 : 0 < i, (es[i - 1]'(by omega)).term ≤ es[i].term) →
      cmds_Row.l1 J0 x n H (j : Int) (TellPost H0 (.bool (decide (RowsOf es n)))) := by
  intro d
  induction d with
  | zero =>
    intro j H hj hm hp
    apply cmds_Row.l1.step
    unfold cmds_Row.l1.body
    refine Br.no (by simp; omega) ⟨?_, hm⟩
    rw [decide_eq_true (show RowsOf es n from fun i hi => hp i hi (by omega))]
  | succ d ih =>
    intro j H hj hm hp
    apply cmds_Row.l1.step
    unfold cmds_Row.l1.body
    have hjl : j < es.length := by omega
    have hrH : Rows H x 8 (es.map En.cells).flatten := hr.keep hm fun _ _ e => e
    obtain ⟨a, ha, hrow⟩ := row_get (k := 8) (f := En.cells) (by omega) (fun _ => rfl) hrH hjl
    refine Br.yes (by simp; omega) ⟨⟨by omega, by omega⟩, vPtr.mk a ha ⟨_, _, _, _, _, _, _, _, by simpa [En.cells] using hrow, (cmds_Right_spec (e := es[j])).mono ?_⟩⟩
    rintro r H1 ⟨rfl, m1⟩
    have m1' : Mod (fun _ => False) H0 H1 := hm.trans ((Mod.holes (fun _ => False) H 1).trans m1)
    refine ⟨_, rfl, ?_⟩
    by_cases h1 : es[j].Right
    · rw [decide_eq_true h1]
      refine Br.no rfl ?_
      by_cases h2 : es[j].index = w64 (n + (j : Int))
      · refine Br.no (by simp [h2]) ?_
        have next : (∀ h0 : 0 < j, (es[j - 1]'(by omega)).term ≤ es[j].term) → cmds_Row.l1 J0 x n H1 (w64 ((j : Int) + 1)) (TellPost H0 (.bool (decide (RowsOf es n)))) := by
          intro h3
          rw [w64_id (x := (j : Int) + 1) (by omega) (by omega)]
          have := ih (j + 1) H1 (by omega) m1' (fun i hi hij => by
            by_cases hc : i < j
            · exact hp i hi hc
            · obtain rfl : i = j := by omega
              exact ⟨h1, h2, h3⟩)
          simpa using this
        by_cases h0 : 0 < j
        · refine Br.yes (by simp; omega) ?_
          rw [w64_id (x := (j : Int) - 1) (by omega) (by omega)]
          refine ⟨⟨by omega, by omega⟩, ?_⟩
          have hrH1 : Rows H1 x 8 (es.map En.cells).flatten := hr.keep m1' fun _ _ e => e
          obtain ⟨a1, ha1, hrow1⟩ := row_get (k := 8) (f := En.cells) (by omega) (fun _ => rfl) hrH1 (show j - 1 < es.length by omega)
          refine vPtr.mk a1 ha1 ⟨(es[j - 1]'(by omega)).term, ?_, ?_⟩
          · have := hrow1 1 (.int .i64 (es[j - 1]'(by omega)).term) rfl
            have e : ((j : Int) - 1).toNat = j - 1 := by omega
            rw [e]; exact this
          · by_cases h3 : es[j].term < (es[j - 1]'(by omega)).term
            · refine Br.yes (decide_eq_true h3) ⟨?_, m1'⟩
              rw [decide_eq_false fun hR : RowsOf es n => by have := (hR j hjl).2.2 h0; omega]
            · exact Br.no (decide_eq_false h3) (next fun _ => by omega)
        · exact Br.no (by simp; omega) (next fun h => absurd h h0)
      · refine Br.yes (by simpa using h2) ⟨?_, m1'⟩
        rw [decide_eq_false fun hR : RowsOf es n => h2 (hR j hjl).2.1]
    · rw [decide_eq_false h1]
      refine Br.yes rfl ⟨?_, m1'⟩
      rw [decide_eq_false fun hR : RowsOf es n => h1 (hR j hjl).1]

theorem Row_spec {x : Sl} {es : List En} {n : Int} (hr : Rows H x 8 (es.map En.cells).flatten) (hl : es.length = x.len) (hx : x.len ≤ 9223372036854775807) :
    SCalls Try.prog cmds_Row.id [.slice x.a x.len x.cap, .int .i64 n] H (TellPost H (.bool (decide (RowsOf es n)))) := by
  apply cmds_Row.calls
  exact Row_loop hr hl hx x.len 0 H (by omega) (Mod.refl _ _) (fun i _ h => absurd h (by omega))

end

end Go.Proofs
