/- LAYER 16: the document's examples. -/
import Derived.Test.YtihadekhodlacaaKz1
set_option linter.all false
set_option linter.constructorNameAsVariable false
namespace Go.Proofs
open Go Go.KC

/-- A ghost that is new since H0; B are blocks that are not its own. -/
def Gs (H0 H : Hp) (g : Nat) (B : List Nat) (log : List En) (ld : List (Int × Int)) (w : Bool) : Prop :=
  ∃ F, Gh H g F log ld w ∧ Fresh H0 H ∧ (∀ b ∈ F, H0.size ≤ b ∧ b ∉ B) ∧ ∀ b ∈ B, b < H.size

section
variable {H0 H : Hp} {g : Nat} {B : List Nat} {log : List En} {ld : List (Int × Int)} {w : Bool}
theorem Gs.new (H : Hp) : Gs H (Array.push H (.cells #[.slice none 0 0, .slice none 0 0, .bool false] T_ghost_Ghost)) H.size [] [] [] false :=
  ⟨_, Gh.new H, Fresh.step (Mod.refl _ _) (Mod.push _ _ _) (fun _ (h : False) => h.elim), fun b hb => by simp at hb; subst hb; exact ⟨Nat.le_refl _, by simp⟩, fun b hb => by simp at hb⟩
theorem Gs.call {f : FuncId} {args : List Value} {log' : List En} {ld' : List (Int × Int)} {w' v : Bool} {K : Bool → Hp → Prop} (s : Gs H0 H g B log ld w)
    (hc : ∀ F, Gh H g F log ld w → SCalls Try.prog f args H (GPost H g F log' ld' w' (.bool v))) (hK : ∀ H', Gs H0 H' g B log' ld' w' → Mod (· ∉ B) H H' → K v H') :
    SCalls Try.prog f args H fun r H' => ∃ x : Bool, r = .bool x ∧ K x H' := by
  obtain ⟨F, h1, hf, hF, hlt⟩ := s
  refine (hc F h1).mono ?_
  rintro r H' ⟨rfl, F', k1, k2, k3⟩
  refine ⟨v, rfl, hK H' ⟨F', k1, hf.step k2 (fun g hg => (hF g hg).1), fun b hb => (k3 b hb).elim (hF b) fun h => ⟨Nat.le_trans hf.size h, fun hB => absurd (hlt b hB) (by omega)⟩, fun b hb => Nat.lt_of_lt_of_le (hlt b hb) k2.size⟩ (k2.mono fun b _ hb hB => (hF b hb).2 hB)⟩
theorem Gs.mod {H' : Hp} (s : Gs H0 H g B log ld w) (m : Mod (fun _ => False) H H') : Gs H0 H' g B log ld w := by
  obtain ⟨F, h1, hf, hF, hlt⟩ := s
  exact ⟨F, h1.mod m, hf.step m fun _ e => e.elim, hF, fun b hb => Nat.lt_of_lt_of_le (hlt b hb) m.size⟩
theorem Gs.gh (s : Gs H0 H g B log ld w) : ∃ F, Gh H g F log ld w := by
  obtain ⟨F, h1, _⟩ := s; exact ⟨F, h1⟩
theorem Gs.fresh (s : Gs H0 H g B log ld w) : Fresh H0 H := by
  obtain ⟨F, _, h1, _⟩ := s; exact h1
theorem Gs.wrong {K : Bool → Hp → Prop} (s : Gs H0 H g B log ld w) (hK : ∀ H', Mod (fun _ => False) H H' → Gs H0 H' g B log ld w → K w H') :
    SCalls Try.prog ghost_Ghost_Wrong.id [.pointer (some ⟨g, 0, none⟩)] H fun r H' => ∃ x : Bool, r = .bool x ∧ K x H' := by
  obtain ⟨F, h⟩ := s.gh
  refine (Wrong_spec h).mono ?_
  rintro r H' ⟨rfl, m⟩
  exact ⟨_, rfl, hK H' m (s.mod m)⟩
theorem Gs.len {K : Int → Hp → Prop} (s : Gs H0 H g B log ld w) (hK : ∀ H', Mod (fun _ => False) H H' → Gs H0 H' g B log ld w → K (log.length : Int) H') :
    SCalls Try.prog ghost_Ghost_Len.id [.pointer (some ⟨g, 0, none⟩)] H fun r H' => ∃ x : Int, r = .int .i64 x ∧ K x H' := by
  obtain ⟨F, h⟩ := s.gh
  refine (Len_spec h).mono ?_
  rintro r H' ⟨rfl, m⟩
  exact ⟨_, rfl, hK H' m (s.mod m)⟩
theorem Gs.leader {t : Int} {K : Int → Bool → Hp → Prop} (s : Gs H0 H g B log ld w) (hK : ∀ H', Mod (fun _ => False) H H' → Gs H0 H' g B log ld w → K (MI.get ld t).1 (MI.get ld t).2 H') :
    SCalls Try.prog ghost_Ghost_Leader.id [.pointer (some ⟨g, 0, none⟩), .int .i64 t] H fun r H' => ∃ x : Int, ∃ y : Bool, r = .tuple #[.int .i64 x, .bool y] ∧ K x y H' := by
  obtain ⟨F, h⟩ := s.gh
  refine (Leader_spec h).mono ?_
  rintro r H' ⟨rfl, m⟩
  exact ⟨_, _, rfl, hK H' m (s.mod m)⟩

theorem awake16_spec : SCalls Try.prog tephralaw16_awake.id [] H (TellPost H (.bool true)) := by
  apply tephralaw16_awake.calls
  have c1 : commitM [] ⟨1, 0, .zero⟩ = ([⟨1, 0, .zero⟩], true) := by unfold commitM; rw [if_neg (by simp), if_pos (by simp)]; rfl
  have c2 : commitM [⟨1, 0, .zero⟩] ⟨1, 0, .zero⟩ = ([⟨1, 0, .zero⟩], true) := by unfold commitM; rw [if_pos (by simp)]; simp
  have c3 : commitM [⟨1, 0, .zero⟩] ⟨3, 0, .zero⟩ = ([⟨1, 0, .zero⟩], false) := by unfold commitM; rw [if_neg (by simp), if_neg (by simp)]
  have l1 : leadM [] 1 2 = ([(1, 2)], true) := rfl
  have l2 : leadM [(1, 2)] 1 0 = ([(1, 2)], false) := rfl
  have g1 : MI.get [(1, 2)] 1 = (2, true) := rfl
  refine (Gs.new H).call (fun F h => Commit_spec (e := ⟨1, 0, .zero⟩) h (by simp)) fun H1 s1 _ => ?_
  rw [c1] at s1 ⊢
  refine s1.call (fun F h => Commit_spec (e := ⟨1, 0, .zero⟩) h (by simp)) fun H2 s2 _ => ?_
  rw [c2] at s2 ⊢
  refine s2.call (fun F h => Lead_spec (t := 1) (id := 2) h (by simp)) fun H3 s3 _ => ?_
  rw [l1] at s3 ⊢
  refine s3.wrong fun H4 _ s4 => ?_
  refine s4.call (fun F h => Lead_spec (t := 1) (id := 0) h (by simp)) fun H5 s5 _ => ?_
  rw [l2] at s5 ⊢
  refine s5.call (fun F h => Commit_spec (e := ⟨3, 0, .zero⟩) h (by simp)) fun H6 s6 _ => ?_
  rw [c3] at s6 ⊢
  refine s6.leader (t := 1) fun H7 _ s7 => ?_
  rw [g1]
  refine Br.yes rfl ?_
  apply tephralaw16_awake.k1.step; unfold tephralaw16_awake.k1.body
  refine Br.yes rfl ?_
  apply tephralaw16_awake.k2.step; unfold tephralaw16_awake.k2.body
  refine Br.yes rfl ?_
  apply tephralaw16_awake.k3.step; unfold tephralaw16_awake.k3.body
  refine Br.yes rfl ?_
  apply tephralaw16_awake.k4.step; unfold tephralaw16_awake.k4.body
  refine Br.yes rfl ?_
  apply tephralaw16_awake.k5.step; unfold tephralaw16_awake.k5.body
  refine Br.yes rfl (s7.wrong fun H8 _ s8 => ?_)
  apply tephralaw16_awake.k6.step; unfold tephralaw16_awake.k6.body
  refine Br.yes rfl ?_
  apply tephralaw16_awake.k7.step; unfold tephralaw16_awake.k7.body
  refine Br.yes rfl ?_
  apply tephralaw16_awake.k8.step; unfold tephralaw16_awake.k8.body
  refine Br.yes rfl (s8.len fun H9 _ s9 => ?_)
  exact ⟨rfl, s9.fresh.mod⟩

end
end Go.Proofs
