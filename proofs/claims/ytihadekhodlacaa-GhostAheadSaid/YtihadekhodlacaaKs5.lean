/- LAYER 16: GhostAhead. -/
import Derived.Test.YtihadekhodlacaaKs4
set_option linter.all false
set_option linter.constructorNameAsVariable false
namespace Go.Proofs
open Go Go.KC

section
variable {H : Hp}
attribute [local irreducible] SCalls

theorem GhostAhead_spec {says : Sl} {ss : List Sy} {n : UInt8} (hr : Rows H says 6 (ss.map Sy.cells).flatten) (hl : ss.length = says.len) :
    SCalls Try.prog tephralaw16_GhostAhead.id [.slice says.a says.len says.cap, .int .u8 (n.toNat : Int)] H (trueQ H) := by
  apply tephralaw16_GhostAhead.calls
  refine bool_step (H0 := H) awake16_spec (Mod.refl _ _) fun H1 m1 => Br.no rfl ?_
  have mp : Mod (fun _ => False) H1 (Array.push H1 (.cells #[.slice none 0 0, .slice none 0 0, .bool false] T_ghost_Ghost)) := Mod.push _ _ _
  refine entries_step (Gs.new H1) (Rows.keep hr (m1.trans mp) fun _ _ e => e) hl fun x H2 hx s2 => ?_
  obtain ⟨hrow, hlen⟩ := ents80 ss
  have hxl := hx.len
  have hxo := hx.own
  have hn := n.toNat_lt
  have hw : w64 (n.toNat : Int) = (n.toNat : Int) := w64_id (by omega) (by omega)
  generalize ents (ss.take 80) 1 0 = es at *
  have k2 : ∀ (H9 : Hp), Own H9 x T_api_Entry 8 (es.map En.cells).flatten → Gs H1 H9 H1.size x.blk es [] true → tephralaw16_GhostAhead.k2 J0 (n.toNat : Int) H1 x false H9 (trueQ H) := by
    intro H9 hx9 s9
    apply tephralaw16_GhostAhead.k2.step; unfold tephralaw16_GhostAhead.k2.body
    refine Br.no rfl ?_
    by_cases h0 : x.len = 0
    · have e0 : es = [] := List.eq_nil_of_length_eq_zero (by omega)
      subst e0
      refine Br.yes (by simp [h0]) ?_
      have hc : ∀ F, Gh H9 H1.size F [] [] true → SCalls Try.prog ghost_Ghost_Commit.id [.pointer (some ⟨H1.size, 0, none⟩), En.zero.val] H9 (GPost H9 H1.size F [] [] true (.bool false)) := fun F h => by
        have := Commit_spec (e := En.zero) h (by simp)
        rw [show commitM [] En.zero = ([], false) by unfold commitM; rw [if_neg (fun h => absurd h.1 (by decide)), if_neg (by decide)]] at this
        exact this
      refine s9.call hc fun H10 s10 _ => Br.yes rfl (s10.len fun H11 _ s11 => ⟨rfl, m1.trans s11.fresh.mod⟩)
    · refine Br.no (by simp; omega) ?_
      have tn : Int.tmod (n.toNat : Int) ((x.len : Nat) : Int) = ((n.toNat % x.len : Nat) : Int) := tmodN n x.len
      rw [hw, tn]
      have hj : n.toNat % x.len < es.length := by rw [hxl]; exact Nat.mod_lt _ (by omega)
      generalize n.toNat % x.len = j at *
      obtain ⟨a, ha, r1⟩ := Lr.get (Own.rows hx9) hj
      have hxj := hrow j hj
      obtain ⟨hR, hi, _⟩ := hxj
      rw [w64_id (by omega) (by omega)] at hi
      obtain ⟨_, _, ht1, ht2, _⟩ := hR
      refine ⟨by omega, ⟨by omega, by omega⟩, vPtr.mk a ha ⟨es[j].index, es[j].term, es[j].cmd.op, es[j].cmd.client, es[j].cmd.seq, es[j].cmd.key, es[j].cmd.value, es[j].cmd.old, by simpa [En.cells] using r1, ?_⟩⟩
      rw [w64_id (x := es[j].term + 1000) (by omega) (by omega), w64_id (x := es[j].index - 1) (by omega) (by omega)]
      have e1 : es[j].index - 1 = (j : Int) := by omega
      have mh : Mod (fun _ => False) H9 (holes H9 1) := Mod.holes _ _ _
      have hc : ∀ F, Gh (holes H9 1) H1.size F es [] true → SCalls Try.prog ghost_Ghost_Commit.id [.pointer (some ⟨H1.size, 0, none⟩), En.val ⟨es[j].index, es[j].term + 1000, es[j].cmd⟩] (holes H9 1) (GPost (holes H9 1) H1.size F es [] true (.bool false)) := fun F h => by
        have := Commit_spec (e := ⟨es[j].index, es[j].term + 1000, es[j].cmd⟩) h (by omega)
        have ec : commitM es ⟨es[j].index, es[j].term + 1000, es[j].cmd⟩ = (es, false) := by
          unfold commitM; rw [if_pos ⟨by simp only; omega, by simp only; omega⟩]
          have : (es[j].index - 1).toNat = j := by omega
          simp only [this, List.getD_eq_getElem?_getD, List.getElem?_eq_getElem hj, Option.getD_some]
          rw [decide_eq_false]
          intro e
          have := congrArg En.term e
          simp only at this; omega
        rw [ec] at this
        exact this
      have hc2 : ∀ (H' : Hp) F, Gh H' H1.size F es [] true → SCalls Try.prog ghost_Ghost_Commit.id [.pointer (some ⟨H1.size, 0, none⟩), En.val es[j]] H' (GPost H' H1.size F es [] true (.bool true)) := fun H' F h => by
        have := Commit_spec (e := es[j]) h (by omega)
        have ec : commitM es es[j] = (es, true) := by
          unfold commitM; rw [if_pos ⟨by omega, by omega⟩]
          have : (es[j].index - 1).toNat = j := by omega
          simp only [this, List.getD_eq_getElem?_getD, List.getElem?_eq_getElem hj, Option.getD_some, decide_true]
        rw [ec] at this
        exact this
      refine (s9.mod mh).call hc fun H12 s12 m12 => Br.yes rfl ⟨⟨by omega, by omega⟩, ?_⟩
      have hx12 : Own H12 x T_api_Entry 8 (es.map En.cells).flatten := (hx9.keep mh fun _ _ e => e).keep m12 fun b hb hn => hn hb
      have he := en_beq es[j] es[j]
      rw [decide_eq_true rfl] at he
      rw [e1]
      have getx : ∀ {H' : Hp}, Mod (fun _ => False) H12 H' → RowAt H' (a.add (j * 8)) es[j].cells := fun m => by
        obtain ⟨a', ha', r⟩ := Lr.get (Own.rows (hx12.keep m fun _ _ e => e)) hj
        obtain rfl : a = a' := by rw [ha] at ha'; exact Option.some.inj ha'
        exact r
      -- the last one
      have last : ∀ {H' : Hp} {B : List Nat}, Gs H1 H' H1.size B es [] true → SCalls Try.prog ghost_Ghost_Commit.id [.pointer (some ⟨H1.size, 0, none⟩), En.val es[j]] H' (fun r H' => ∃ x : Bool, r = .bool x ∧ trueQ H (.bool x) H') := fun s =>
        s.call (hc2 _) fun H'' s' _ => ⟨rfl, m1.trans s'.fresh.mod⟩
      refine vPtr.mk a ha ⟨s12.told (by omega) fun y H13 hy s13 => ?_, ?_⟩
      · have hyl := hy.len
        obtain ⟨b, hb, r2⟩ := hy.lr.get hj
        refine ⟨⟨by omega, by omega⟩, vPtr.mk b hb ⟨?_, ?_⟩⟩
        · exact ⟨es[j].index, es[j].term, es[j].cmd.op, es[j].cmd.client, es[j].cmd.seq, es[j].cmd.key, es[j].cmd.value, es[j].cmd.old, by simpa [En.cells] using r2, es[j].index, es[j].term, es[j].cmd.op, es[j].cmd.client, es[j].cmd.seq, es[j].cmd.key, es[j].cmd.value, es[j].cmd.old, by simpa [En.cells] using getx hy.mod, Br.yes he ⟨⟨by omega, by omega⟩, vPtr.mk a ha ⟨es[j].index, es[j].term, es[j].cmd.op, es[j].cmd.client, es[j].cmd.seq, es[j].cmd.key, es[j].cmd.value, es[j].cmd.old, by simpa [En.cells] using getx hy.mod, last s13⟩⟩⟩
        · exact ⟨es[j].index, es[j].term, es[j].cmd.op, es[j].cmd.client, es[j].cmd.seq, es[j].cmd.key, es[j].cmd.value, es[j].cmd.old, by simpa [En.cells] using getx hy.mod, es[j].index, es[j].term, es[j].cmd.op, es[j].cmd.client, es[j].cmd.seq, es[j].cmd.key, es[j].cmd.value, es[j].cmd.old, by simpa [En.cells] using r2, Br.yes he ⟨⟨by omega, by omega⟩, vPtr.mk a ha ⟨es[j].index, es[j].term, es[j].cmd.op, es[j].cmd.client, es[j].cmd.seq, es[j].cmd.key, es[j].cmd.value, es[j].cmd.old, by simpa [En.cells] using getx hy.mod, last s13⟩⟩⟩
      · refine ⟨es[j].index, es[j].term, es[j].cmd.op, es[j].cmd.client, es[j].cmd.seq, es[j].cmd.key, es[j].cmd.value, es[j].cmd.old, by simpa [En.cells] using getx (Mod.refl _ _), s12.told (by omega) fun y H13 hy s13 => ?_⟩
        have hyl := hy.len
        obtain ⟨b, hb, r2⟩ := hy.lr.get hj
        exact ⟨⟨by omega, by omega⟩, vPtr.mk b hb ⟨es[j].index, es[j].term, es[j].cmd.op, es[j].cmd.client, es[j].cmd.seq, es[j].cmd.key, es[j].cmd.value, es[j].cmd.old, by simpa [En.cells] using r2, Br.yes he ⟨⟨by omega, by omega⟩, vPtr.mk a ha ⟨es[j].index, es[j].term, es[j].cmd.op, es[j].cmd.client, es[j].cmd.seq, es[j].cmd.key, es[j].cmd.value, es[j].cmd.old, by simpa [En.cells] using getx hy.mod, last s13⟩⟩⟩⟩
  -- the entries are committed
  have l1 : ∀ (d j : Nat) (H3 : Hp), j + d = x.len → Own H3 x T_api_Entry 8 (es.map En.cells).flatten → Gs H1 H3 H1.size x.blk (es.take j) [] false →
      tephralaw16_GhostAhead.l1 J0 (n.toNat : Int) H1 x H3 (j : Int) (trueQ H) := by
    intro d
    induction d with
    | zero =>
      intro j H3 hj hx3 s
      apply tephralaw16_GhostAhead.l1.step; unfold tephralaw16_GhostAhead.l1.body
      rw [List.take_of_length_le (by omega)] at s
      refine Br.no (by simp; omega) ?_
      rw [hw, w64_id (x := (x.len : Int) + 2) (by omega) (by omega), w64_id (x := (x.len : Int) + 2 + n.toNat) (by omega) (by omega)]
      have hc : ∀ F, Gh H3 H1.size F es [] false → SCalls Try.prog ghost_Ghost_Commit.id [.pointer (some ⟨H1.size, 0, none⟩), En.val ⟨(x.len : Int) + 2 + n.toNat, 0, .zero⟩] H3 (GPost H3 H1.size F es [] true (.bool false)) := fun F h => by
        have := Commit_spec (e := ⟨(x.len : Int) + 2 + n.toNat, 0, .zero⟩) h (by omega)
        rw [show commitM es ⟨(x.len : Int) + 2 + n.toNat, 0, .zero⟩ = (es, false) by unfold commitM; rw [if_neg (by simp only; omega), if_neg (by simp only; omega)]] at this
        exact this
      refine s.call hc fun H4 s4 m4 => Br.no rfl (s4.wrong fun H5 m5 s5 => ?_)
      apply tephralaw16_GhostAhead.k1.step; unfold tephralaw16_GhostAhead.k1.body
      refine Br.no rfl (s5.len fun H6 m6 s6 => ?_)
      rw [hxl, bne_self_eq_false]
      exact k2 H6 (((hx3.keep m4 fun b hb hn => hn hb).keep m5 fun _ _ e => e).keep m6 fun _ _ e => e) s6
    | succ d ih =>
      intro j H3 hj hx3 s
      apply tephralaw16_GhostAhead.l1.step; unfold tephralaw16_GhostAhead.l1.body
      have hjl : j < es.length := by omega
      obtain ⟨a, ha, r1⟩ := Lr.get (Own.rows hx3) hjl
      refine Br.yes (by simp; omega) ⟨⟨by omega, by omega⟩, vPtr.mk a ha ⟨_, _, _, _, _, _, _, _, by simpa [En.cells] using r1, ?_⟩⟩
      have mh : Mod (fun _ => False) H3 (holes H3 1) := Mod.holes _ _ _
      have hc : ∀ F, Gh (holes H3 1) H1.size F (es.take j) [] false → SCalls Try.prog ghost_Ghost_Commit.id [.pointer (some ⟨H1.size, 0, none⟩), es[j].val] (holes H3 1) (GPost (holes H3 1) H1.size F (es.take (j + 1)) [] false (.bool true)) := fun F h => by
        have := Commit_spec (e := es[j]) h (by rw [List.length_take]; omega)
        rw [commit_row hrow (by omega) hjl] at this
        exact this
      refine (s.mod mh).call hc fun H4 s4 m4 => ?_
      rw [w64_id (x := (j : Int) + 1) (by omega) (by omega)]
      have := ih (j + 1) H4 (by omega) ((hx3.keep mh fun _ _ e => e).keep m4 fun b hb hn => hn hb) s4
      simpa using this
  exact l1 x.len 0 H2 (by omega) hxo s2
end
end Go.Proofs
