/- LAYER 06: reading; rows of entries; entries of says. -/
import Derived.Test.YtpdondaekinmdaaKq3
set_option linter.all false
set_option linter.constructorNameAsVariable false
namespace Go.Proofs
open Go Go.KC

section
variable {H : Hp}
theorem get_spec {b : Nat} {D : List Nat} {bad : Bool} {xs : List UInt8} (h : Rd H b D bad xs) :
    SCalls Try.prog cmds_get.id [.pointer (some ⟨b, 0, none⟩)] H fun r H' => r = (rdCm bad xs).1.val ∧ Mod (· = b) H H' ∧ Rd H' b D (rdCm bad xs).2.1 (rdCm bad xs).2.2 := by
  apply cmds_get.calls
  unfold cmds_get.vc
  have m0 : Mod (fun _ => False) H (holes H 1) := Mod.holes _ _ _
  have mm : ∀ {A B : Hp}, Mod (fun _ => False) A B → Mod (· = b) A B := fun k => k.mono fun _ _ e => e.elim
  refine (Reader_Byte_spec (h.keep m0 id fun _ _ e => e)).mono ?_
  rintro r H1 ⟨rfl, m1, h1⟩
  have m1' : Mod (fun _ => False) H1 (holes H1 1) := Mod.holes _ _ _
  refine ⟨_, rfl, (Reader_Num_spec (h1.keep m1' id fun _ _ e => e)).mono ?_⟩
  rintro r H2 ⟨rfl, m2, h2⟩
  refine ⟨_, rfl, (Reader_Num_spec h2).mono ?_⟩
  rintro r H3 ⟨rfl, m3, h3⟩
  refine ⟨_, rfl, (Reader_Text_spec h3).mono ?_⟩
  rintro r H4 ⟨rfl, m4, h4⟩
  refine ⟨_, rfl, (Reader_Text_spec h4).mono ?_⟩
  rintro r H5 ⟨rfl, m5, h5⟩
  refine ⟨_, rfl, (Reader_Text_spec h5).mono ?_⟩
  rintro r H6 ⟨rfl, m6, h6⟩
  have hr := rdByte_range bad xs
  refine ⟨_, rfl, ?_, ((mm m0).trans (m1.trans ((mm m1').trans (m2.trans (m3.trans (m4.trans (m5.trans m6))))))), h6⟩
  rw [w64_id (by omega) (by omega)]
  rfl

/-- An entry and whether it is one. -/
def rdVal (p : En × Bool) : Value := .tuple #[p.1.val, .bool p.2]

theorem cmRead_spec {x : Sl} {xs : List UInt8} (h : Rows H x 1 (xs.map bv)) (hlt : ∀ g ∈ x.blk, g < H.size) :
    SCalls Try.prog cmds_Read.id [.slice x.a x.len x.cap] H (TellPost H (rdVal (rdEn xs))) := by
  apply cmds_Read.calls
  unfold cmds_Read.vc
  have m0 : Mod (fun _ => False) H (holes H 1) := Mod.holes _ _ _
  have s0 := m0.size
  refine (Of_spec (keepF h m0) (fun _ h => h) fun g hg => Nat.lt_of_lt_of_le (hlt g hg) s0).mono ?_
  rintro r H1 ⟨rfl, m1, h1⟩
  have f0 : Fresh (holes H 1) (holes H 1) := Mod.refl _ _
  have f1 : Fresh (holes H 1) H1 := f0.step m1 fun _ h => h.elim
  refine ⟨_, rfl, (Reader_Num_spec h1).mono ?_⟩
  rintro r H2 ⟨rfl, m2, h2⟩
  have f2 := f1.step m2 fun g hg => by omega
  have m2' : Mod (fun _ => False) H2 (holes H2 1) := Mod.holes _ _ _
  refine ⟨_, rfl, (Reader_Num_spec (h2.keep m2' id fun _ _ e => e)).mono ?_⟩
  rintro r H3 ⟨rfl, m3, h3⟩
  have f3 := (f2.step m2' fun _ h => h.elim).step m3 fun g hg => by omega
  refine ⟨_, rfl, (get_spec h3).mono ?_⟩
  rintro r H4 ⟨rfl, m4, h4⟩
  have f4 := f3.step m4 fun g hg => by omega
  refine ⟨_, _, _, _, _, _, rfl, (Reader_Done_spec h4).mono ?_⟩
  rintro r H5 ⟨rfl, rfl⟩
  refine ⟨_, rfl, ?_⟩
  have hE : rdEn xs = if ((rdCm (rdNum (rdNum false xs).2.1 (rdNum false xs).2.2).2.1 (rdNum (rdNum false xs).2.1 (rdNum false xs).2.2).2.2).2.1 = false ∧ (rdCm (rdNum (rdNum false xs).2.1 (rdNum false xs).2.2).2.1 (rdNum (rdNum false xs).2.1 (rdNum false xs).2.2).2.2).2.2 = []) ∧ En.Right ⟨(rdNum false xs).1, (rdNum (rdNum false xs).2.1 (rdNum false xs).2.2).1, (rdCm (rdNum (rdNum false xs).2.1 (rdNum false xs).2.2).2.1 (rdNum (rdNum false xs).2.1 (rdNum false xs).2.2).2.2).1⟩ then (⟨(rdNum false xs).1, (rdNum (rdNum false xs).2.1 (rdNum false xs).2.2).1, (rdCm (rdNum (rdNum false xs).2.1 (rdNum false xs).2.2).2.1 (rdNum (rdNum false xs).2.1 (rdNum false xs).2.2).2.2).1⟩, true) else (En.zero, false) := rfl
  rw [hE]
  generalize rdCm (rdNum (rdNum false xs).2.1 (rdNum false xs).2.2).2.1 (rdNum (rdNum false xs).2.1 (rdNum false xs).2.2).2.2 = c
  generalize (rdNum (rdNum false xs).2.1 (rdNum false xs).2.2).1 = t
  generalize (rdNum false xs).1 = i
  have hd : (!c.2.1 && c.2.2.isEmpty) = decide (c.2.1 = false ∧ c.2.2 = []) := by
    rcases c with ⟨c1, c2, c3⟩
    cases c2 <;> cases c3 <;> rfl
  rw [hd]
  by_cases h1 : c.2.1 = false ∧ c.2.2 = []
  · rw [decide_eq_true h1]
    refine Br.no rfl ((cmds_Right_spec (e := ⟨i, t, c.1⟩)).mono ?_)
    rintro r H6 ⟨rfl, m6⟩
    refine ⟨_, rfl, ?_⟩
    have f6 := f4.step m6 fun _ h => h.elim
    by_cases h2 : En.Right ⟨i, t, c.1⟩
    · rw [decide_eq_true h2, if_pos ⟨h1, h2⟩]
      exact Br.no rfl ⟨rfl, m0.trans f6.mod⟩
    · rw [decide_eq_false h2, if_neg fun h => h2 h.2]
      exact Br.yes rfl ⟨rfl, m0.trans f6.mod⟩
  · rw [decide_eq_false h1, if_neg fun h => h1 h.1]
    exact Br.yes rfl ⟨rfl, m0.trans f4.mod⟩


/-! Entries of says -/
end
end Go.Proofs
