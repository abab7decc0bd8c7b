/- DELTAS: a step of Join; of what values makes; ranges over it. -/
import Derived.Test.YthehagkjoofjiaaKd10
import Derived.Test.YthehagkjoofjiaaKd16
set_option linter.all false
set_option linter.constructorNameAsVariable false
namespace Go.Proofs
open Go Go.KC
section
variable {H : Hp}
theorem DRight_yes {d : Dl} {p s : Sl} (hr : RR H p s d.ps d.xs) (h : 0 ≤ d.from ∧ d.from ≤ d.to ∧ d.to ≤ 1048576 ∧ 0 ≤ d.term ∧ d.term ≤ 1048576) (ok : RowsOk d.ps d.xs 512) (hl : p.len ≤ 100000 ∧ s.len ≤ 100000) :
    SCalls Try.prog delta_Right.id [dlV d p s] H (TellPost H (.bool true)) := by
  apply delta_Right.calls (dFrom := d.from) (dTo := d.to) (dTerm := d.term) (dPairs := p) (dSessions := s)
  intro H1 h1
  obtain ⟨m1, _⟩ := hole_facts h1
  refine Br.yes (decide_eq_true h.1) ?_
  apply delta_Right.k1.step; unfold delta_Right.k1.body
  refine Br.yes (decide_eq_true h.2.1) ?_
  apply delta_Right.k2.step; unfold delta_Right.k2.body
  refine Br.yes (decide_eq_true h.2.2.1) ?_
  apply delta_Right.k3.step; unfold delta_Right.k3.body
  refine Br.yes (decide_eq_true h.2.2.2.1) ?_
  apply delta_Right.k4.step; unfold delta_Right.k4.body
  refine Br.yes (decide_eq_true h.2.2.2.2) ?_
  have := RightRows_spec (most := 512) (hr.mod m1) (by omega) (by omega)
  rw [decide_eq_true ok] at this
  exact bool_step this m1 fun H2 m2 => ⟨rfl, m2⟩
end


theorem RgS.ne {κ : Type} {ek : κ → Value} {H : Hp} {b r m : Nat} {l l' : List (κ × Value)} {S : Array Nat} (h : RgS ek H b r l S) (hm : MR ek H m l') : m ≠ b := by
  intro e
  have h1 := h.it
  unfold MR at hm
  rw [e, h1] at hm
  cases hm

abbrev RgP (H : Hp) (b r : Nat) (ps : List Pr) (S : Array Nat) : Prop := RgS (fun k : ByteArray => Value.string k) H b r (vRow ps) S
theorem VM.keepB {H H' : Hp} {b r m : Nat} {ps qs : List Pr} {S : Array Nat} (h : VM H m qs) (g : RgP H b r ps S) (hm : Mod (· = b) H H') : VM H' m qs := MR.keep h hm (RgS.ne g h)
theorem prs_get {l : List (ByteArray × ByteArray)} {i : Nat} {p : Pr} (h : (prsOfL l)[i]? = some p) : ∃ q, l[i]? = some q ∧ p = ⟨q.1, q.2, false⟩ := by
  unfold prsOfL at h
  rw [List.getElem?_map] at h
  obtain ⟨q, hq, e⟩ := Option.map_eq_some_iff.1 h
  exact ⟨q, hq, e.symm⟩
theorem prs_len (l : List (ByteArray × ByteArray)) : (prsOfL l).length = l.length := List.length_map _
variable {H : Hp}
theorem join_of {a b : Dl} (h1 : a.to = b.from) (h2 : a.term ≤ b.term) (h3 : (mrg a.ps b.ps).length ≤ 512) : joinD a b = (⟨a.from, b.to, b.term, mrg a.ps b.ps, b.xs⟩, 0) := by
  unfold joinD
  rw [if_neg (by simp [h1]; omega), if_neg (by omega)]
theorem join_step {a b : Dl} {p x bp bx : Sl} (hs : RR H p x a.ps a.xs) (hd : RR H bp bx b.ps b.xs) (hl : a.ps.length ≤ 1000 ∧ b.ps.length ≤ 1000 ∧ b.xs.length ≤ 1000) {r : Dl × Int} (hr : joinD a b = r) {K : Int → Int → Int → Sl → Sl → Int → Hp → Prop}
    (hK : ∀ p' x' H', RR H' p' x' r.1.ps r.1.xs → Mod (fun _ => False) H H' → K r.1.from r.1.to r.1.term p' x' r.2 H') :
    SCalls Try.prog delta_Join.id [dlV a p x, dlV b bp bx] H (fun r1 H5 => ∃ From : Int, ∃ To : Int, ∃ Term1 : Int, ∃ Pairs1 : Sl, ∃ Sessions1 : Sl, ∃ x : Int, r1 = .tuple #[.agg #[.int .i64 From, .int .i64 To, .int .i64 Term1, .slice Pairs1.a Pairs1.len Pairs1.cap, .slice Sessions1.a Sessions1.len Sessions1.cap], .int .i64 x] ∧ K From To Term1 Pairs1 Sessions1 x H5) := by
  refine (Join_spec hs hd hl).mono ?_
  rw [hr]
  rintro v H' ⟨p', x', rfl, rr, m⟩
  exact ⟨_, _, _, p', x', _, rfl, hK p' x' H' rr m⟩

theorem values_step {x : Sl} {ps : List Pr} (hr : Rows H x 3 (ps.map Pr.row).flatten) (hl : ps.length ≤ 9223372036854775806) (hn : (ps.map Pr.key).Nodup) {K : Option Nat → Hp → Prop}
    (hK : ∀ m H', VM H' m ps → Mod (fun _ => False) H H' → K (some m) H') :
    SCalls Try.prog tephralaw08_values.id [.slice x.a x.len x.cap] H fun r H' => ∃ m : Option Nat, r = .map m ∧ K m H' := by
  refine (values_spec hr hl hn).mono ?_
  rintro r H' ⟨m, rfl, vm, mm⟩
  exact ⟨_, rfl, hK m H' vm mm⟩

end Go.Proofs
