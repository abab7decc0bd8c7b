/- LAYER 16: the document's examples; GhostLead. -/
import Derived.Test.YtihadekhodlacaaKs2
set_option linter.all false
set_option linter.constructorNameAsVariable false
namespace Go.Proofs
open Go Go.KC

/-- A ghost that is new since H0; B are blocks that are not its own. -/
def Gs (H0 H : Hp) (g : Nat) (B : List Nat) (log : List En) (ld : List It) (w : Bool) : Prop :=
  ∃ F, Gh H g F log ld w ∧ Fresh H0 H ∧ (∀ b ∈ F, H0.size ≤ b ∧ b ∉ B) ∧ ∀ b ∈ B, b < H.size

section
variable {H0 H : Hp} {g : Nat} {B : List Nat} {log : List En} {ld : List It} {w : Bool}
theorem Gs.new (H : Hp) : Gs H (Array.push H (.cells #[.slice none 0 0, .slice none 0 0, .bool false] T_ghost_Ghost)) H.size [] [] [] false :=
  ⟨_, Gh.new H, Fresh.step (Mod.refl _ _) (Mod.push _ _ _) (fun _ (h : False) => h.elim), fun b hb => by simp at hb; subst hb; exact ⟨Nat.le_refl _, by simp⟩, fun b hb => by simp at hb⟩
theorem Gs.call {f : FuncId} {args : List Value} {log' : List En} {ld' : List It} {w' v : Bool} {K : Bool → Hp → Prop} (s : Gs H0 H g B log ld w)
    (hc : ∀ F, Gh H g F log ld w → SCalls Try.prog f args H (GPost H g F log' ld' w' (.bool v))) (hK : ∀ H', Gs H0 H' g B log' ld' w' → Mod (· ∉ B) H H' → K v H') :
    SCalls Try.prog f args H fun r H' => ∃ x : Bool, r = .bool x ∧ K x H' := by
  obtain ⟨F, h1, hf, hF, hlt⟩ := s
  refine (hc F h1).mono ?_
  rintro r H' ⟨rfl, F', k1, k2, k3⟩
  refine ⟨v, rfl, hK H' ⟨F', k1, hf.step k2 (fun g hg => (hF g hg).1), fun b hb => (k3 b hb).elim (hF b) fun h => ⟨Nat.le_trans hf.size h, fun hB => absurd (hlt b hB) (by omega)⟩, fun b hb => Nat.lt_of_lt_of_le (hlt b hb) k2.size⟩ (k2.mono fun b _ hb hB => (hF b hb).2 hB)⟩
theorem Gs.mod {H' : Hp} (s : Gs H0 H g B log ld w) (m : Mod (fun _ => False) H H') : Gs H0 H' g B log ld w := by
  obtain ⟨F, h1, hf, hF, hlt⟩ := s
  exact ⟨F, h1.mod m, hf.step m fun _ e => e.elim, hF, fun b hb => Nat.lt_of_lt_of_le (hlt b hb) m.size⟩
theorem Gs.gh (s : Gs H0 H g B log ld w) : ∃ F, Gh H g F log ld w := by
  obtain ⟨F, h1, _⟩ := s; exact ⟨F, h1⟩
theorem Gs.fresh (s : Gs H0 H g B log ld w) : Fresh H0 H := by
  obtain ⟨F, _, h1, _⟩ := s; exact h1
theorem Gs.wrong {K : Bool → Hp → Prop} (s : Gs H0 H g B log ld w) (hK : ∀ H', Mod (fun _ => False) H H' → Gs H0 H' g B log ld w → K w H') :
    SCalls Try.prog ghost_Ghost_Wrong.id [.pointer (some ⟨g, 0, none⟩)] H fun r H' => ∃ x : Bool, r = .bool x ∧ K x H' := by
  obtain ⟨F, h⟩ := s.gh
  refine (Wrong_spec h).mono ?_
  rintro r H' ⟨rfl, m⟩
  exact ⟨_, rfl, hK H' m (s.mod m)⟩
theorem Gs.len {K : Int → Hp → Prop} (s : Gs H0 H g B log ld w) (hK : ∀ H', Mod (fun _ => False) H H' → Gs H0 H' g B log ld w → K (log.length : Int) H') :
    SCalls Try.prog ghost_Ghost_Len.id [.pointer (some ⟨g, 0, none⟩)] H fun r H' => ∃ x : Int, r = .int .i64 x ∧ K x H' := by
  obtain ⟨F, h⟩ := s.gh
  refine (Len_spec h).mono ?_
  rintro r H' ⟨rfl, m⟩
  exact ⟨_, rfl, hK H' m (s.mod m)⟩
theorem Gs.leader {t : Int} {K : Int → Bool → Hp → Prop} (s : Gs H0 H g B log ld w) (hs : Rising ld) (hl : ld.length ≤ 1000000) (hK : ∀ H', Mod (fun _ => False) H H' → Gs H0 H' g B log ld w → K (getI ld t).1 (getI ld t).2 H') :
    SCalls Try.prog ghost_Ghost_Leader.id [.pointer (some ⟨g, 0, none⟩), .int .i64 t] H fun r H' => ∃ x : Int, ∃ y : Bool, r = .tuple #[.int .i64 x, .bool y] ∧ K x y H' := by
  obtain ⟨F, h⟩ := s.gh
  refine (Leader_spec h hs hl).mono ?_
  rintro r H' ⟨rfl, m⟩
  exact ⟨_, _, rfl, hK H' m (s.mod m)⟩

theorem rising1 (p : It) : Rising [p] := fun i j hi hj h => by simp at hi hj; omega
theorem rising0 : Rising [] := fun i j hi hj h => by simp at hi

theorem awake16_spec : SCalls Try.prog tephralaw16_awake.id [] H (TellPost H (.bool true)) := by
  apply tephralaw16_awake.calls
  have c1 : commitM [] ⟨1, 0, .zero⟩ = ([⟨1, 0, .zero⟩], true) := by unfold commitM; rw [if_neg (by simp), if_pos (by simp)]; rfl
  have c2 : commitM [⟨1, 0, .zero⟩] ⟨1, 0, .zero⟩ = ([⟨1, 0, .zero⟩], true) := by unfold commitM; rw [if_pos (by simp)]; simp
  have c3 : commitM [⟨1, 0, .zero⟩] ⟨3, 0, .zero⟩ = ([⟨1, 0, .zero⟩], false) := by unfold commitM; rw [if_neg (by simp), if_neg (by simp)]
  have l1 : leadM [] 1 2 = ([(1, 2)], true) := rfl
  have l2 : leadM [(1, 2)] 1 0 = ([(1, 2)], false) := rfl
  have g1 : getI [(1, 2)] 1 = (2, true) := rfl
  refine (Gs.new H).call (fun F h => Commit_spec (e := ⟨1, 0, .zero⟩) h (by simp)) fun H1 s1 _ => ?_
  rw [c1] at s1 ⊢
  refine s1.call (fun F h => Commit_spec (e := ⟨1, 0, .zero⟩) h (by simp)) fun H2 s2 _ => ?_
  rw [c2] at s2 ⊢
  refine s2.call (fun F h => Lead_spec (t := 1) (id := 2) h rising0 (by simp) (fun _ p hp => by simp at hp)) fun H3 s3 _ => ?_
  rw [l1] at s3 ⊢
  refine s3.wrong fun H4 _ s4 => ?_
  refine s4.call (fun F h => Lead_spec (t := 1) (id := 0) h (rising1 _) (by simp) (fun h => by cases h)) fun H5 s5 _ => ?_
  rw [l2] at s5 ⊢
  refine s5.call (fun F h => Commit_spec (e := ⟨3, 0, .zero⟩) h (by simp)) fun H6 s6 _ => ?_
  rw [c3] at s6 ⊢
  refine s6.leader (t := 1) (rising1 _) (by simp) fun H7 _ s7 => ?_
  rw [g1]
  refine Br.yes rfl ?_
  apply tephralaw16_awake.k1.step; unfold tephralaw16_awake.k1.body
  refine Br.yes rfl ?_
  apply tephralaw16_awake.k2.step; unfold tephralaw16_awake.k2.body
  refine Br.yes rfl ?_
  apply tephralaw16_awake.k3.step; unfold tephralaw16_awake.k3.body
  refine Br.yes rfl ?_
  apply tephralaw16_awake.k4.step; unfold tephralaw16_awake.k4.body
  refine Br.yes rfl ?_
  apply tephralaw16_awake.k5.step; unfold tephralaw16_awake.k5.body
  refine Br.yes rfl (s7.wrong fun H8 _ s8 => ?_)
  apply tephralaw16_awake.k6.step; unfold tephralaw16_awake.k6.body
  refine Br.yes rfl ?_
  apply tephralaw16_awake.k7.step; unfold tephralaw16_awake.k7.body
  refine Br.yes rfl ?_
  apply tephralaw16_awake.k8.step; unfold tephralaw16_awake.k8.body
  refine Br.yes rfl (s8.len fun H9 _ s9 => ?_)
  exact ⟨rfl, s9.fresh.mod⟩

/-- Who leads behind j of the ids. -/
def ldOf (t : Int) (cs : List UInt8) (j : Nat) : List It := if j = 0 then [] else [(t, (((cs.getD 0 0).toNat % 3 : Nat) : Int))]
theorem ldOf_rising (t : Int) (cs : List UInt8) (j : Nat) : Rising (ldOf t cs j) := by unfold ldOf; split; exact rising0; exact rising1 _
theorem ldOf_length (t : Int) (cs : List UInt8) (j : Nat) : (ldOf t cs j).length ≤ 1 := by unfold ldOf; split <;> simp
theorem ldOf_get (t : Int) (cs : List UInt8) {j : Nat} (hj : 0 < j) : getI (ldOf t cs j) t = ((((cs.getD 0 0).toNat % 3 : Nat) : Int), true) := by
  unfold ldOf; rw [if_neg (by omega)]; unfold getI; simp [List.find?]
theorem ldOf_not (t : Int) (cs : List UInt8) (j : Nat) {u : Int} (hu : u ≠ t) : getI (ldOf t cs j) u = (0, false) := by
  unfold ldOf; split
  · rfl
  · have : (t == u) = false := beq_eq_false_iff_ne.2 (Ne.symm hu)
    unfold getI; simp only [List.find?, this]

theorem GhostLead_spec {ids : Sl} {cs : List UInt8} {t : UInt8} (hr : Rows H ids 1 (cs.map bv)) :
    SCalls Try.prog tephralaw16_GhostLead.id [.slice ids.a ids.len ids.cap, .int .u8 (t.toNat : Int)] H (trueQ H) := by
  apply tephralaw16_GhostLead.calls
  have hl : cs.length = ids.len := by have := hr.1; simpa using this
  have hcap := hr.2.1
  have e : (if (60 : Int) < ((ids.len : Nat) : Int) then (60 : Int) else ((ids.len : Nat) : Int)).toNat = min 60 ids.len := min_toNat 60 ids.len
  have ht : w64 (t.toNat : Int) = (t.toNat : Int) := w64_id (by omega) (by have := t.toNat_lt; omega)
  have ht1 : w64 ((t.toNat : Int) + 1) = (t.toNat : Int) + 1 := w64_id (by omega) (by have := t.toNat_lt; omega)
  refine bool_step (H0 := H) awake16_spec (Mod.refl _ _) fun H1 m1 => Br.no rfl ⟨⟨by split <;> omega, by split <;> omega⟩, ?_⟩
  have loop : ∀ (d j : Nat) (H2 : Hp) (w : Bool), j + d = min 60 ids.len → Gs H1 H2 H1.size [] [] (ldOf t.toNat cs j) w → tephralaw16_GhostLead.l1 J0 ids (t.toNat : Int) H1 H2 w (j : Int) (trueQ H) := by
    intro d
    induction d with
    | zero =>
      intro j H2 w hj s
      apply tephralaw16_GhostLead.l1.step; unfold tephralaw16_GhostLead.l1.body
      rw [e, ht, ht1]
      have hr' := keepF hr m1
      refine Br.no (by simp; omega) (s.leader (ldOf_rising _ _ _) (by have := ldOf_length t.toNat cs j; omega) fun H3 _ s3 => s3.leader (ldOf_rising _ _ _) (by have := ldOf_length t.toNat cs j; omega) fun H4 _ s4 => ?_)
      rw [ldOf_not (u := (t.toNat : Int) + 1) _ _ _ (by omega)]
      refine Br.yes rfl (s4.wrong fun H5 _ s5 => ?_)
      apply tephralaw16_GhostLead.k3.step; unfold tephralaw16_GhostLead.k3.body
      refine Br.yes (beq_self_eq_true _) ?_
      apply tephralaw16_GhostLead.k4.step; unfold tephralaw16_GhostLead.k4.body
      have fin : ∀ v : Bool, v = true → tephralaw16_GhostLead.k5 J0 H1 H5 v (trueQ H) := by
        rintro v rfl
        apply tephralaw16_GhostLead.k5.step; unfold tephralaw16_GhostLead.k5.body
        apply tephralaw16_GhostLead.k7.step; unfold tephralaw16_GhostLead.k7.body
        exact Br.yes rfl (s5.len fun H6 _ s6 => ⟨rfl, m1.trans s6.fresh.mod⟩)
      by_cases h0 : j = 0
      · subst h0
        have hi : ids.len = 0 := by omega
        have eg : getI (ldOf (t.toNat : Int) cs 0) (t.toNat : Int) = (0, false) := rfl
        rw [eg]
        exact Br.yes (by simp [hi]) (Br.yes rfl (fin _ rfl))
      · rw [ldOf_get _ _ (by omega)]
        obtain ⟨a, ha, hc⟩ := (s5.fresh.rows hr').at (j := 0) (c := cs[0]'(by omega)) (List.getElem?_eq_getElem (by omega))
        refine Br.yes (by simp; omega) (Br.no rfl ⟨⟨by omega, by omega⟩, vPtr.mk a ha ⟨_, by rw [add_zero_of] at hc; exact hc, by omega, fin _ ?_⟩⟩)
        have t3 := tmodN (cs[0]'(by omega)) 3
        rw [show ((3 : Nat) : Int) = 3 from rfl] at t3
        rw [t3, w64_id (x := (((cs[0]'(by omega)).toNat % 3 : Nat) : Int)) (by omega) (by omega)]
        rw [List.getD_eq_getElem?_getD, List.getElem?_eq_getElem (by omega), Option.getD_some]
        exact beq_self_eq_true _
    | succ d ih =>
      intro j H2 w hj s
      apply tephralaw16_GhostLead.l1.step; unfold tephralaw16_GhostLead.l1.body
      rw [e, ht]
      have hr' := keepF hr m1
      have hjl : j < cs.length := by omega
      obtain ⟨a, ha, hc⟩ := (s.fresh.rows hr').at (j := j) (c := cs[j]) (List.getElem?_eq_getElem hjl)
      have t3 := tmodN cs[j] 3
      have t30 := tmodN (cs[0]'(by omega)) 3
      rw [show ((3 : Nat) : Int) = 3 from rfl] at t3 t30
      refine Br.yes (by simp; omega) ⟨⟨by omega, by omega⟩, vPtr.mk a (by rw [cutA_zero]; exact ha) ⟨_, by simpa using hc, by omega, ?_⟩⟩
      rw [t3, w64_id (x := ((cs[j].toNat % 3 : Nat) : Int)) (by omega) (by omega)]
      refine s.call (fun F h => Lead_spec h (ldOf_rising _ _ _) (by have := ldOf_length t.toNat cs j; omega) (fun hg p hp => ?_)) fun H3 s3 _ => ?_
      · by_cases h0 : j = 0
        · subst h0; simp [ldOf] at hp
        · rw [ldOf_get _ _ (by omega)] at hg; cases hg
      obtain ⟨a0, ha0, hc0⟩ := (s3.fresh.rows hr').at (j := 0) (c := cs[0]'(by omega)) (List.getElem?_eq_getElem (by omega))
      have c0 : cs.getD 0 0 = cs[0]'(by omega) := by rw [List.getD_eq_getElem?_getD, List.getElem?_eq_getElem (by omega), Option.getD_some]
      have el : leadM (ldOf t.toNat cs j) t.toNat ((cs[j].toNat % 3 : Nat) : Int) = (ldOf t.toNat cs (j + 1), decide (cs[j].toNat % 3 = (cs[0]'(by omega)).toNat % 3)) := by
        by_cases h0 : j = 0
        · subst h0
          unfold leadM
          rw [show getI (ldOf (t.toNat : Int) cs 0) (t.toNat : Int) = (0, false) from rfl, if_neg (by simp)]
          unfold ldOf
          rw [if_pos rfl, if_neg (by omega), c0]; simp
        · unfold leadM
          rw [ldOf_get _ _ (by omega), if_pos rfl]
          have : ldOf (t.toNat : Int) cs (j + 1) = ldOf t.toNat cs j := by unfold ldOf; rw [if_neg (by omega), if_neg h0]
          rw [this, c0]
          congr 1
          rw [beq_int]; apply decide_eq_decide.2; omega
      rw [el] at s3 ⊢
      refine ⟨by omega, ⟨by omega, by omega⟩, vPtr.mk a0 ha0 ⟨_, by rw [add_zero_of] at hc0; exact hc0, by omega, ?_⟩⟩
      rw [t30]
      have hb : (((cs[j].toNat % 3 : Nat) : Int) == (((cs[0]'(by omega)).toNat % 3 : Nat) : Int)) = decide (cs[j].toNat % 3 = (cs[0]'(by omega)).toNat % 3) := by
        rw [beq_int]; apply decide_eq_decide.2; omega
      rw [hb, beq_self_eq_true]
      have k2 : ∀ w' : Bool, w' = (w || !decide (cs[j].toNat % 3 = (cs[0]'(by omega)).toNat % 3)) → tephralaw16_GhostLead.k2 J0 ids (t.toNat : Int) H1 (j : Int) H3 w' (trueQ H) := by
        rintro w' rfl
        apply tephralaw16_GhostLead.k2.step; unfold tephralaw16_GhostLead.k2.body
        rw [w64_id (x := (j : Int) + 1) (by omega) (by omega)]
        have := ih (j + 1) H3 _ (by omega) s3
        simpa using this
      have k1 : tephralaw16_GhostLead.k1 J0 ids (t.toNat : Int) H1 w (j : Int) H3 (decide (cs[j].toNat % 3 = (cs[0]'(by omega)).toNat % 3)) false (trueQ H) := by
        apply tephralaw16_GhostLead.k1.step; unfold tephralaw16_GhostLead.k1.body
        refine Br.no rfl ?_
        cases w with
        | true => exact Br.yes rfl (k2 _ rfl)
        | false => exact Br.no rfl (k2 _ rfl)
      refine Br.no rfl ?_
      by_cases h0 : j = 0
      · subst h0
        refine Br.yes rfl ?_
        have : (!decide (cs[0].toNat % 3 = (cs[0]'(by omega)).toNat % 3)) = false := by simp
        rw [this]; exact k1
      · exact Br.no (by simp; omega) k1
  exact loop (min 60 ids.len) 0 _ false (by omega) (Gs.new H1)
end
end Go.Proofs
