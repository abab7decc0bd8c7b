/- LAYER 16: Ghost.State; GhostState. -/
import Derived.Test.YtihadekhodlacaaKz3
import Derived.Test.YtihadekhodlacaaKx3
set_option linter.all false
set_option linter.constructorNameAsVariable false
namespace Go.Proofs
open Go Go.KC

/-- The state behind an entry that was committed. -/
def gstM (log : List En) (index : Int) : Stt × Bool := if index < 0 ∨ index > log.length then (.zero, false) else (foldM .zero (log.take index.toNat), true)
section
variable {H0 H : Hp} {g : Nat} {F B : List Nat} {log : List En} {ld : List (Int × Int)} {w : Bool}
theorem GState_spec {index : Int} (h : Gh H g F log ld w) (hl : log.length ≤ 1000000) :
    SCalls Try.prog ghost_Ghost_State.id [.pointer (some ⟨g, 0, none⟩), .int .i64 index] H fun r H' => ∃ p s : Sl, r = .tuple #[stV (gstM log index).1 p s, .bool (gstM log index).2] ∧ SR H' p s (gstM log index).1 ∧ Mod (fun _ => False) H H' := by
  apply ghost_Ghost_State.calls
  intro H1 e1
  obtain ⟨m1, _⟩ := hole_facts e1
  obtain ⟨x, y, hc, _, _, hx, _⟩ := (h.mod m1).cells
  have hxl := hx.len
  have bad : index < 0 ∨ index > log.length → ghost_Ghost_State.k1 J0 ⟨g, 0, none⟩ index H1 true fun r H' => ∃ p s : Sl, r = .tuple #[stV (gstM log index).1 p s, .bool (gstM log index).2] ∧ SR H' p s (gstM log index).1 ∧ Mod (fun _ => False) H H' := by
    intro hb
    apply ghost_Ghost_State.k1.step; unfold ghost_Ghost_State.k1.body
    have e : gstM log index = (.zero, false) := by unfold gstM; rw [if_pos hb]
    rw [e]
    exact Br.yes rfl ⟨⟨none, 0, 0⟩, ⟨none, 0, 0⟩, rfl, SR.zero H1, m1⟩
  by_cases h0 : index < 0
  · exact Br.yes (decide_eq_true h0) (bad (Or.inl h0))
  refine Br.no (decide_eq_false h0) ⟨x, hc, ?_⟩
  by_cases h1 : index > (x.len : Int)
  · rw [decide_eq_true h1]; exact bad (Or.inr (by omega))
  rw [decide_eq_false h1]
  apply ghost_Ghost_State.k1.step; unfold ghost_Ghost_State.k1.body
  have hcap := hx.2.1
  have e : gstM log index = (foldM .zero (log.take index.toNat), true) := by unfold gstM; rw [if_neg (by omega)]
  rw [e]
  refine Br.no rfl ⟨x, hc, ⟨by omega, by omega⟩, ?_⟩
  refine fold_step (st := .zero) (SR.zero H1) Stt.zero_ok (rows_pre hx (show index.toNat ≤ x.len by omega)) (by rw [List.length_take]; omega) fun p s H2 sr m2 => ?_
  exact ⟨p, s, rfl, sr, m1.trans m2⟩
theorem Gs.state {index : Int} {K : Int → Int → Sl → Sl → Bool → Hp → Prop} (s : Gs H0 H g B log ld w) (hl : log.length ≤ 1000000) (hK : ∀ p q H', SR H' p q (gstM log index).1 → Mod (fun _ => False) H H' → Gs H0 H' g B log ld w → K (gstM log index).1.index (gstM log index).1.term p q (gstM log index).2 H') :
    SCalls Try.prog ghost_Ghost_State.id [.pointer (some ⟨g, 0, none⟩), .int .i64 index] H fun r H' => ∃ Index1 : Int, ∃ Term1 : Int, ∃ Pairs : Sl, ∃ Sessions : Sl, ∃ x6 : Bool, r = .tuple #[.agg #[.int .i64 Index1, .int .i64 Term1, .slice Pairs.a Pairs.len Pairs.cap, .slice Sessions.a Sessions.len Sessions.cap], .bool x6] ∧ K Index1 Term1 Pairs Sessions x6 H' := by
  obtain ⟨F, h⟩ := s.gh
  refine (GState_spec (index := index) h hl).mono ?_
  rintro r H' ⟨p, q, rfl, sr, m⟩
  exact ⟨_, _, p, q, _, rfl, hK p q H' sr m (s.mod m)⟩
theorem commit_again {es : List En} (h : RowsOf es 1) (hl : es.length ≤ 1000) {j : Nat} (hj : j < es.length) : commitM (es.take (j + 1)) es[j] = (es.take (j + 1), true) := by
  obtain ⟨_, h2, _⟩ := h j hj
  rw [w64_id (by omega) (by omega)] at h2
  unfold commitM
  have e : (es[j].index - 1).toNat = j := by omega
  rw [List.length_take, if_pos (by omega), e]
  have : (es.take (j + 1)).getD j En.zero = es[j] := by
    rw [List.getD_eq_getElem?_getD, List.getElem?_take, if_pos (by omega), List.getElem?_eq_getElem hj]; rfl
  rw [this]; simp
end
section
variable {H : Hp}
theorem GhostState_spec {says : Sl} {ss : List Sy} {c : UInt8} (hr : Rows H says 6 (ss.map Sy.cells).flatten) (hl : ss.length = says.len) :
    SCalls Try.prog tephralaw16_GhostState.id [.slice says.a says.len says.cap, .int .u8 (c.toNat : Int)] H (trueQ H) := by
  apply tephralaw16_GhostState.calls
  unfold tephralaw16_GhostState.vc
  refine bool_step (H0 := H) awake16_spec (Mod.refl _ _) fun H1 m1 => Br.no rfl ?_
  rintro b rfl H2 rfl
  have mp : Mod (fun _ => False) H1 (Array.push H1 (.cells #[.slice none 0 0, .slice none 0 0, .bool false] T_ghost_Ghost)) := Mod.push _ _ _
  refine entries_step (Gs.new H1) (Rows.keep hr (m1.trans mp) fun _ _ e => e) hl fun x H3 hx s3 => ?_
  obtain ⟨hrow, hlen⟩ := ents80 ss
  generalize ents (ss.take 80) 1 0 = es at hrow hlen hx
  have hxl := hx.len
  have hx3 := hx.lr
  have done : ∀ {H4 : Hp} {B : List Nat} {log : List En} {ld : List (Int × Int)} {w : Bool}, Gs H1 H4 H1.size B log ld w → Mod (fun _ => False) H H4 := fun s => m1.trans s.fresh.mod
  have loop : ∀ (d j : Nat) (H4 : Hp), j + d = es.length → Gs H1 H4 H1.size x.blk (es.take j) [] false → Lr H4 x es → tephralaw16_GhostState.l1 J0 (c.toNat : Int) H1.size x H4 (j : Int) (trueQ H) := by
    intro d
    induction d with
    | zero =>
      intro j H4 hj s hr4
      apply tephralaw16_GhostState.l1.step; unfold tephralaw16_GhostState.l1.body
      rw [List.take_of_length_le (by omega)] at s
      have hcap := hr4.2.1
      have c1 : w64 ((x.len : Int) + 1) = ((x.len + 1 : Nat) : Int) := by rw [w64_id (by omega) (by omega)]; omega
      have cc : w64 (c.toNat : Int) = (c.toNat : Int) := w64_id (by omega) (by have := c.toNat_lt; omega)
      rw [c1, cc]
      have e0 : Int.tmod (c.toNat : Int) ((x.len + 1 : Nat) : Int) = ((c.toNat % (x.len + 1) : Nat) : Int) := tmodN c (x.len + 1)
      rw [e0]
      have hk : c.toNat % (x.len + 1) ≤ x.len := by have := Nat.mod_lt c.toNat (show 0 < x.len + 1 by omega); omega
      generalize c.toNat % (x.len + 1) = k at hk
      have g1 : gstM es (k : Int) = (foldM .zero (es.take k), true) := by unfold gstM; rw [if_neg (by omega)]; simp
      have g2 : gstM es ((x.len + 1 : Nat) : Int) = (.zero, false) := by unfold gstM; rw [if_pos (by omega)]
      have fi := (fold_rows hrow (by omega) k (by omega)).1
      refine Br.no (by simp; omega) ⟨by omega, s.state (index := (k : Int)) (by omega) fun p q H5 sr m5 s5 => fun H6 e6 => ?_⟩
      obtain ⟨m6, _⟩ := hole_facts e6
      rw [g1] at sr ⊢
      refine (s5.mod m6).state (index := ((x.len + 1 : Nat) : Int)) (by omega) fun p2 q2 H7 sr2 m7 s7 => fun H8 e8 => ?_
      obtain ⟨m8, _⟩ := hole_facts e8
      rw [g2] at sr2 ⊢
      have hr8 := (((hr4.mod m5).mod m6).mod m7).mod m8
      refine Br.yes rfl (Br.yes (by rw [fi]; simp) (Br.yes rfl (Br.yes rfl ((s7.mod m8).wrong fun H9 m9 s9 => Br.yes rfl ⟨⟨by omega, by omega⟩, ?_⟩))))
      rw [Int.toNat_natCast]
      refine fold_step (st := .zero) (SR.zero H9) Stt.zero_ok (rows_pre (hr8.mod m9) hk) (by rw [List.length_take]; omega) fun p3 q3 H10 sr3 m10 => ?_
      have okk : (foldM .zero (es.take k)).Ok := foldM_ok Stt.zero_ok _
      refine bool_step (Same_of (((((sr.mod m6).mod m7).mod m8).mod m9).mod m10) sr3 okk okk) (done (s9.mod m10)) fun H11 m11 => ⟨?_, m11⟩
      simp
    | succ d ih =>
      intro j H4 hj s hr4
      apply tephralaw16_GhostState.l1.step; unfold tephralaw16_GhostState.l1.body
      have hjl : j < es.length := by omega
      obtain ⟨a, ha, hrow1⟩ := hr4.get hjl
      refine Br.yes (by simp; omega) ⟨⟨by omega, by omega⟩, vPtr.mk a ha ⟨_, _, _, _, _, _, _, _, by simpa [En.cells] using hrow1, fun H5 e5 => ?_⟩⟩
      obtain ⟨m5, _⟩ := hole_facts e5
      have hc1 := commit_row hrow (by omega) hjl
      have hc2 := commit_again hrow (by omega) hjl
      refine (s.mod m5).call (log' := es.take (j + 1)) (ld' := []) (w' := false || !true) (v := true) (fun F h => ?_) fun H6 s6 m6 => ?_
      · have := Commit_spec (e := es[j]) h (by rw [List.length_take]; omega)
        rw [hc1] at this
        exact this
      refine Br.no rfl (s6.call (log' := es.take (j + 1)) (ld' := []) (w' := (false || !true) || !true) (v := true) (fun F h => ?_) fun H7 s7 m7 => ?_)
      · have := Commit_spec (e := es[j]) h (by rw [List.length_take]; omega)
        rw [hc2] at this
        exact this
      apply tephralaw16_GhostState.k1.step; unfold tephralaw16_GhostState.k1.body
      refine Br.no rfl ?_
      rw [w64_id (x := (j : Int) + 1) (by omega) (by omega)]
      have := ih (j + 1) H7 (by omega) (by simpa using s7) ((Rows.keep (hr4.mod m5) m6 fun b hb hn => hn hb).keep m7 fun b hb hn => hn hb)
      simpa using this
  exact loop es.length 0 H3 (by omega) (by simpa using s3) hx3
end
end Go.Proofs
