/- DELTAS: DeltaMany. -/
import Derived.Test.YthehagkjoofjiaaKd13
import Derived.Test.YthehagkjoofjiaaKd11
import Derived.Test.YthehagkjoofjiaaKx5
set_option linter.all false
set_option linter.constructorNameAsVariable false
namespace Go.Proofs
open Go Go.KC

def gA (k : Nat) : List UInt8 := [97, UInt8.ofNat (k / 250), UInt8.ofNat (1 + k % 250)]
def gB (k : Nat) : List UInt8 := [98, UInt8.ofNat k]
theorem gA_up {n : Nat} (hn : n ≤ 500) : ∀ i j, i < j → j < n → Op.bytesLess (gA i) (gA j) = true := fun i j h hj => by
  refine ltB (Or.inr ⟨rfl, ?_⟩)
  by_cases c : i / 250 = j / 250
  · exact ltB (Or.inr ⟨by rw [c], ltB (Or.inl (u8_lt (by omega) (by omega)))⟩)
  · exact ltB (Or.inl (u8_lt (by omega) (by omega)))
theorem gB_up {n : Nat} (hn : n ≤ 64) : ∀ i j, i < j → j < n → Op.bytesLess (gB i) (gB j) = true := fun i j h hj => ltB (Or.inr ⟨rfl, ltB (Or.inl (u8_lt (by omega) (by omega)))⟩)
theorem gAB (i j : Nat) : Op.bytesLess (gA i) (gB j) = true := ltB (Or.inl (by decide))
theorem cellsA {k : Nat} (hk : k < 500) : (#[.int .u8 97, .int .u8 (IntKind.u8.wrap (w64 (Int.tdiv (k : Int) 250))), .int .u8 (IntKind.u8.wrap (w64 ((1 : Int) + (Int.tmod (k : Int) 250))))] : Array Value) = ((gA k).map bv).toArray := by
  have e1 : Int.tdiv (k : Int) 250 = ((k / 250 : Nat) : Int) := rfl
  have e2 : Int.tmod (k : Int) 250 = ((k % 250 : Nat) : Int) := rfl
  have h1 : IntKind.u8.wrap (w64 (Int.tdiv (k : Int) 250)) = ((k / 250 : Nat) : Int) := by rw [e1, w64_id (by omega) (by omega), wrapu8]; omega
  have h2 : IntKind.u8.wrap (w64 ((1 : Int) + (Int.tmod (k : Int) 250))) = ((1 + k % 250 : Nat) : Int) := by rw [e2, w64_id (by omega) (by omega), wrapu8]; omega
  rw [h1, h2]
  unfold gA
  rw [List.map_cons, List.map_cons, List.map_cons, bv_of (by omega), bv_of (by omega)]
  rfl
theorem cellsB {k : Nat} (hk : k < 64) : (#[.int .u8 98, .int .u8 (IntKind.u8.wrap (k : Int))] : Array Value) = ((gB k).map bv).toArray := by
  have e : IntKind.u8.wrap (k : Int) = (k : Int) := by rw [wrapu8]; omega
  rw [e]
  unfold gB
  rw [List.map_cons, List.map_cons, bv_of (by omega)]
  rfl
theorem byKey_get {l : List Pr} {k : Nat} (hk : k < (PP.byKey l).length) : ((PP.byKey l)[k]).1 = (l[k]'(by rw [PP.byKey_len] at hk; exact hk)).key := by simp [PP.byKey]
theorem rowsOk_many {N m : Nat} (hN : N ≤ 500) (hm : m ≤ 12) : RowsOk (Lf gA N ++ Lf gB m) [] 512 := by
  have M := (mrg_Lf (n := N) (m := m) (gA_up hN) (gB_up (by omega)) gAB).1
  have R : Rise (PP.byKey (Lf gA N ++ Lf gB m)) := by rw [← M]; exact rise_mrg (mkP_rise (gA_up hN)) (mkP_rise (gB_up (by omega)))
  have ok : ∀ p ∈ Lf gA N ++ Lf gB m, p.Ok := by
    intro p hp
    rcases List.mem_append.1 hp with h | h
    · obtain ⟨i, _, rfl⟩ := Lf_mem h
      exact ⟨by show 1 ≤ 3; omega, by show 3 ≤ 8; omega, by show 0 ≤ 16; omega, fun e => nomatch e⟩
    · obtain ⟨i, _, rfl⟩ := Lf_mem h
      exact ⟨by show 1 ≤ 2; omega, by show 2 ≤ 8; omega, by show 0 ≤ 16; omega, fun e => nomatch e⟩
  refine ⟨fun i hi _ => ⟨ok _ (List.getElem_mem hi), fun h0 => ?_⟩, fun i hi => by simp at hi, ?_⟩
  · have := R (i - 1) i (by rw [PP.byKey_len]; omega) (by rw [PP.byKey_len]; omega) (by omega)
    rw [byKey_get, byKey_get] at this
    exact this
  · rw [List.length_append, Lf_len, Lf_len]; omega
section
variable {H : Hp}
theorem DRight_yes {d : Dl} {p s : Sl} (hr : RR H p s d.ps d.xs) (h : 0 ≤ d.from ∧ d.from ≤ d.to ∧ d.to ≤ 1048576 ∧ 0 ≤ d.term ∧ d.term ≤ 1048576) (ok : RowsOk d.ps d.xs 512) (hl : p.len ≤ 100000 ∧ s.len ≤ 100000) :
    SCalls Try.prog delta_Right.id [dlV d p s] H (TellPost H (.bool true)) := by
  apply delta_Right.calls (dFrom := d.from) (dTo := d.to) (dTerm := d.term) (dPairs := p) (dSessions := s)
  intro H1 h1
  obtain ⟨m1, _⟩ := hole_facts h1
  refine Br.yes (decide_eq_true h.1) ?_
  apply delta_Right.k1.step; unfold delta_Right.k1.body
  refine Br.yes (decide_eq_true h.2.1) ?_
  apply delta_Right.k2.step; unfold delta_Right.k2.body
  refine Br.yes (decide_eq_true h.2.2.1) ?_
  apply delta_Right.k3.step; unfold delta_Right.k3.body
  refine Br.yes (decide_eq_true h.2.2.2.1) ?_
  apply delta_Right.k4.step; unfold delta_Right.k4.body
  refine Br.yes (decide_eq_true h.2.2.2.2) ?_
  have := RightRows_spec (most := 512) (hr.mod m1) (by omega) (by omega)
  rw [decide_eq_true ok] at this
  exact bool_step this m1 fun H2 m2 => ⟨rfl, m2⟩
set_option maxRecDepth 100000 in
theorem DeltaMany_spec {n : UInt8} :
    SCalls Try.prog tephralaw08_DeltaMany.id [.int .u8 (n.toNat : Int)] H (trueQ H) := by
  apply tephralaw08_DeltaMany.calls
  unfold tephralaw08_DeltaMany.vc
  refine bool_step (H0 := H) awake08_spec (Mod.refl _ _) fun H1 m1 => Br.no rfl fun H2 h2 H3 h3 => ?_
  obtain ⟨m2, _⟩ := hole_facts h2
  obtain ⟨m3, _⟩ := hole_facts h3
  have m13 := m1.trans (m2.trans m3)
  obtain ⟨N, hN⟩ : ∃ N : Nat, N = 500 := ⟨_, rfl⟩
  have tb : Int.tmod (n.toNat : Int) 30 = ((n.toNat % 30 : Nat) : Int) := tmodN n 30
  have hb : n.toNat % 30 < 30 := Nat.mod_lt _ (by omega)
  generalize n.toNat % 30 = b0 at tb hb
  have eB : w64 (Int.tmod (n.toNat : Int) 30) = (b0 : Int) := by rw [tb, w64_id (by omega) (by omega)]
  have eS : w64 ((500 : Int) + (b0 : Int)) = ((N + b0 : Nat) : Int) := by rw [w64_id (by omega) (by omega)]; omega
  have M := mrg_Lf (n := N) (m := b0) (gA_up (by omega)) (gB_up (by omega)) gAB
  have len : (Lf gA N ++ Lf gB b0).length = N + b0 := by rw [List.length_append, Lf_len, Lf_len]
  have loop2 : ∀ (d k : Nat) (H7 H8 : Hp) (y y1 : Sl), k + d = b0 → Mod (fun _ => False) H H7 → Rows H7 y 3 ((Lf gA N).map Pr.row).flatten → Md H7 H8 y1 gB k →
      tephralaw08_DeltaMany.l2 J0 (n.toNat : Int) y H8 (k : Int) y1 (trueQ H) := by
    intro d
    induction d with
    | zero =>
      intro k H7 H8 y y1 hk m7 R D
      have hk : k = b0 := by omega
      subst hk
      apply tephralaw08_DeltaMany.l2.step; unfold tephralaw08_DeltaMany.l2.body
      rw [eB, eS]
      refine ⟨by omega, Br.no (by simp) ?_⟩
      have r1 : RR H8 y ⟨none, 0, 0⟩ (Lf gA N) [] := ⟨R.keep D.2.2 fun _ _ e => e, ⟨rfl, Nat.le_refl _, fun a ha => (by cases ha), fun _ => rfl⟩⟩
      have r2 : RR H8 y1 ⟨none, 0, 0⟩ (Lf gB k) [] := ⟨Own.rows D.1, ⟨rfl, Nat.le_refl _, fun a ha => (by cases ha), fun _ => rfl⟩⟩
      by_cases hf : 12 < k
      · have e : joinD ⟨0, 1, 0, Lf gA N, []⟩ ⟨1, 2, 0, Lf gB k, []⟩ = (.zero, 4) := by
          unfold joinD
          dsimp only
          rw [if_neg (by simp), M.1, if_pos (by omega)]
        refine join_step (a := ⟨0, 1, 0, Lf gA N, []⟩) (b := ⟨1, 2, 0, Lf gB k, []⟩) r1 r2 ⟨by rw [Lf_len]; omega, by rw [Lf_len]; omega, by simp⟩ e fun p' x' H12 rr m => ?_
        intro H13 h13
        obtain ⟨m13', _⟩ := hole_facts h13
        have l0 : p'.len = 0 := (rr.lens).1.symm
        exact ⟨by omega, Br.yes (by rw [tb]; simp; omega) (Br.yes rfl ⟨by rw [l0]; rfl, m7.trans (D.2.2.trans (m.trans m13'))⟩)⟩
      · have e := join_of (a := ⟨0, 1, 0, Lf gA N, []⟩) (b := ⟨1, 2, 0, Lf gB k, []⟩) rfl (Int.le_refl _) (by dsimp only; rw [M.1]; omega)
        dsimp only at e
        rw [M.1] at e
        refine join_step (a := ⟨0, 1, 0, Lf gA N, []⟩) (b := ⟨1, 2, 0, Lf gB k, []⟩) r1 r2 ⟨by rw [Lf_len]; omega, by rw [Lf_len]; omega, by simp⟩ e fun p' x' H12 rr m => ?_
        intro H13 h13
        obtain ⟨m13', _⟩ := hole_facts h13
        have l0 : p'.len = N + k := by have := (rr.lens).1; dsimp only at this; omega
        have l1 : x'.len = 0 := (rr.lens).2.symm
        refine ⟨by omega, Br.no (by rw [tb]; simp; omega) (Br.yes rfl ⟨by omega, ?_⟩)⟩
        apply tephralaw08_DeltaMany.k1.step; unfold tephralaw08_DeltaMany.k1.body
        refine Br.yes (by rw [l0]; simp) ?_
        exact bool_step (DRight_yes (d := ⟨0, 2, 0, Lf gA N ++ Lf gB k, []⟩) (rr.mod m13') (by dsimp only; omega) (rowsOk_many (by omega) (by omega)) ⟨by omega, by omega⟩) (m7.trans (D.2.2.trans (m.trans m13'))) fun H14 m14 => ⟨rfl, m14⟩
    | succ d ih =>
      intro k H7 H8 y y1 hk m7 R D
      apply tephralaw08_DeltaMany.l2.step; unfold tephralaw08_DeltaMany.l2.body
      rw [eB]
      refine ⟨by omega, Br.yes (by simp; omega) ?_⟩
      refine D.step (by omega) (cellsB (by omega)) rfl fun ys H'' D' => ?_
      rw [show w64 ((k : Int) + 1) = ((k + 1 : Nat) : Int) from by rw [w64_id (by omega) (by omega)]; omega]
      exact ih (k + 1) H7 H'' y ys (by omega) m7 R D'
  have h500 : (500 : Int) = (N : Int) := by omega
  have loop1 : ∀ (d k : Nat) (H4 : Hp) (y : Sl), k + d = N → Md H H4 y gA k → tephralaw08_DeltaMany.l1 J0 (n.toNat : Int) H4 (k : Int) y (trueQ H) := by
    intro d
    induction d with
    | zero =>
      intro k H4 y hk D
      have hk : k = N := by omega
      rw [hk] at D ⊢
      apply tephralaw08_DeltaMany.l1.step; unfold tephralaw08_DeltaMany.l1.body
      refine Br.no (decide_eq_false (by omega)) ?_
      exact loop2 b0 0 H4 H4 y ⟨none, 0, 0⟩ (by omega) D.2.2 (Own.rows D.1) (Md.nil (Mod.refl _ _))
    | succ d ih =>
      intro k H4 y hk D
      apply tephralaw08_DeltaMany.l1.step; unfold tephralaw08_DeltaMany.l1.body
      refine Br.yes (decide_eq_true (by omega)) ⟨by omega, by omega, ?_⟩
      refine D.step (by omega) (cellsA (by omega)) rfl fun ys H'' D' => ?_
      rw [show w64 ((k : Int) + 1) = ((k + 1 : Nat) : Int) from by rw [w64_id (by omega) (by omega)]; omega]
      exact ih (k + 1) H'' ys (by omega) D'
  have fin := loop1 N 0 H3 ⟨none, 0, 0⟩ (by omega) (Md.nil m13)
  exact fin
end
end Go.Proofs
