/- LAYER 16: GhostKeeps. -/
import Derived.Test.YtihadekhodlacaaKs3
set_option linter.all false
set_option linter.constructorNameAsVariable false
namespace Go.Proofs
open Go Go.KC

theorem commit_row {es : List En} (h : RowsOf es 1) (hl : es.length ≤ 1000) {j : Nat} (hj : j < es.length) : commitM (es.take j) es[j] = (es.take (j + 1), true) := by
  obtain ⟨_, h2, _⟩ := h j hj
  rw [w64_id (by omega) (by omega)] at h2
  unfold commitM
  rw [List.length_take, if_neg (by omega), if_pos (by omega), List.take_succ_eq_append_getElem hj]

section
variable {H0 H : Hp} {g : Nat} {B : List Nat} {log : List En} {ld : List It} {w : Bool}
theorem Gs.with {H' : Hp} {x : Sl} {es : List En} (s : Gs H0 H g B log ld w) (h : Eo H H' x es) : Gs H0 H' g (x.blk ++ B) log ld w := by
  obtain ⟨F, h1, hf, hF, hlt⟩ := s
  refine ⟨F, h1.mod h.mod, hf.step h.mod fun _ e => e.elim, fun b hb => ⟨(hF b hb).1, fun hB => ?_⟩, fun b hb => ?_⟩
  · rcases List.mem_append.1 hB with hB | hB
    · have := h.blk b hB; have := h1.lt b hb; omega
    · exact (hF b hb).2 hB
  · rcases List.mem_append.1 hb with hb | hb
    · exact h.own.lt b hb
    · exact Nat.lt_of_lt_of_le (hlt b hb) h.mod.size
theorem Gs.write {m : Nat → Prop} {H' : Hp} (s : Gs H0 H g B log ld w) (hm : Mod m H H') (hB : ∀ b, m b → b ∈ B) (h0 : ∀ b, m b → H0.size ≤ b) : Gs H0 H' g B log ld w := by
  obtain ⟨F, h1, hf, hF, hlt⟩ := s
  exact ⟨F, h1.keep hm fun b hb hb2 => (hF b hb).2 (hB b hb2), hf.step hm h0, hF, fun b hb => Nat.lt_of_lt_of_le (hlt b hb) hm.size⟩
theorem Gs.told {K : Sl → Hp → Prop} (s : Gs H0 H g B log ld w) (hl : log.length ≤ 1000000) (hK : ∀ y H', Eo H H' y log → Gs H0 H' g (y.blk ++ B) log ld w → K y H') :
    SCalls Try.prog ghost_Ghost_Log.id [.pointer (some ⟨g, 0, none⟩)] H fun r H' => ∃ y : Sl, r = .slice y.a y.len y.cap ∧ K y H' := by
  obtain ⟨F, h⟩ := s.gh
  refine (Log_spec h hl).mono ?_
  rintro r H' ⟨y, rfl, hy⟩
  exact ⟨y, rfl, hK y H' hy (s.with hy)⟩
theorem Gs.size (s : Gs H0 H g B log ld w) : H0.size ≤ H.size := s.fresh.size

/-- The entries are laid. -/
theorem entries_step {says : Sl} {ss : List Sy} {K : Sl → Hp → Prop} (s : Gs H0 H g [] log ld w) (hr : Rows H says 6 (ss.map Sy.cells).flatten) (hl : ss.length = says.len)
    (hK : ∀ y H', Eo H H' y (ents (ss.take 80) 1 0) → Gs H0 H' g y.blk log ld w → K y H') :
    SCalls Try.prog tephralaw06_Entries.id [.slice says.a says.len says.cap, .int .i64 1, .int .i64 0] H fun r H' => ∃ x : Sl, r = .slice x.a x.len x.cap ∧ K x H' := by
  refine (Entries_spec hr hl).mono ?_
  rintro r H' ⟨x, rfl, h1, h2, h3, h4⟩
  have hE : Eo H H' x (ents (ss.take 80) 1 0) := ⟨h1, h4, h3.mod⟩
  have := s.with hE
  rw [List.append_nil] at this
  exact ⟨x, rfl, hK x H' hE this⟩

theorem ents80 (ss : List Sy) : RowsOf (ents (ss.take 80) 1 0) 1 ∧ (ents (ss.take 80) 1 0).length ≤ 80 := by
  have hl := ents_length (ss.take 80) 1 0
  have h80 : (ss.take 80).length ≤ 80 := by rw [List.length_take]; omega
  exact ⟨ents_row (by omega) (by omega) (by omega) (by omega), by omega⟩
end

section
variable {H : Hp}
theorem GhostKeeps_spec {says : Sl} {ss : List Sy} {e : En} (hr : Rows H says 6 (ss.map Sy.cells).flatten) (hl : ss.length = says.len) :
    SCalls Try.prog tephralaw16_GhostKeeps.id [.slice says.a says.len says.cap, e.val] H (trueQ H) := by
  apply tephralaw16_GhostKeeps.calls
  have m0 : Mod (fun _ => False) H (holes H 1) := Mod.holes _ _ _
  refine bool_step (H0 := H) awake16_spec m0 fun H1 m1 => Br.no rfl ?_
  have mp : Mod (fun _ => False) H1 (Array.push H1 (.cells #[.slice none 0 0, .slice none 0 0, .bool false] T_ghost_Ghost)) := Mod.push _ _ _
  refine entries_step (Gs.new H1) (Rows.keep hr (m1.trans mp) fun _ _ e => e) hl fun x H2 hx s2 => ?_
  obtain ⟨hrow, hlen⟩ := ents80 ss
  have hxl := hx.len
  have hxo := hx.own
  have hxb : ∀ b ∈ x.blk, H1.size ≤ b := fun b hb => by have := hx.blk b hb; have := mp.size; omega
  generalize ents (ss.take 80) 1 0 = es at *
  -- the comparison
  have l3 : ∀ {H5 : Hp} {y4 : Sl} {B : List Nat} (y4l : y4.len = x.len), ∀ (d j : Nat) (H7 : Hp) (z : Sl), j + d = z.len → Lr H7 z es → Lr H7 x es → Fresh H1 H7 → tephralaw16_GhostKeeps.l3 J0 e.index e.term e.cmd.op e.cmd.client e.cmd.seq e.cmd.key e.cmd.value e.cmd.old x y4 z H7 (j : Int) (trueQ H) := by
    intro H5 y4 B y4l d
    induction d with
    | zero =>
      intro j H7 z hj hz hx7 hf
      apply tephralaw16_GhostKeeps.l3.step; unfold tephralaw16_GhostKeeps.l3.body
      have hzl := hz.len
      exact Br.no (by simp; omega) (Br.yes (by simp; omega) ⟨congrArg Value.bool (by simp; omega), m1.trans hf.mod⟩)
    | succ d ih =>
      intro j H7 z hj hz hx7 hf
      apply tephralaw16_GhostKeeps.l3.step; unfold tephralaw16_GhostKeeps.l3.body
      have hzl := hz.len
      have hjl : j < es.length := by omega
      obtain ⟨a1, ha1, r1⟩ := hz.get hjl
      obtain ⟨a2, ha2, r2⟩ := hx7.get hjl
      refine Br.yes (by simp; omega) ⟨⟨by omega, by omega⟩, vPtr.mk a1 ha1 ⟨_, _, _, _, _, _, _, _, by simpa [En.cells] using r1, ⟨by omega, by omega⟩, vPtr.mk a2 ha2 ⟨_, _, _, _, _, _, _, _, by simpa [En.cells] using r2, ?_⟩⟩⟩
      have he := en_beq es[j] es[j]
      rw [decide_eq_true rfl] at he
      refine Br.no (congrArg not he) ?_
      rw [w64_id (x := (j : Int) + 1) (by omega) (by omega)]
      have := ih (j + 1) H7 z (by omega) hz hx7 hf
      simpa using this
  -- what was told is turned
  have l2 : ∀ (d j : Nat) (H6 : Hp) (y : Sl) (ls : List En), j + d = y.len → y.len = x.len → Own H6 y T_api_Entry 8 (ls.map En.cells).flatten → (∀ b ∈ y.blk, H1.size ≤ b ∧ b ∉ x.blk) → Own H6 x T_api_Entry 8 (es.map En.cells).flatten → Gs H1 H6 H1.size (y.blk ++ x.blk) es [] false →
      tephralaw16_GhostKeeps.l2 J0 e.index e.term e.cmd.op e.cmd.client e.cmd.seq e.cmd.key e.cmd.value e.cmd.old H1 x y H6 (j : Int) (trueQ H) := by
    intro d
    induction d with
    | zero =>
      intro j H6 y ls hj hyx hy hyb hx6 s
      apply tephralaw16_GhostKeeps.l2.step; unfold tephralaw16_GhostKeeps.l2.body
      refine Br.no (by simp; omega) (s.told (by omega) fun z H7 hz s7 => ?_)
      exact l3 (H5 := H6) (B := []) hyx z.len 0 H7 z (by omega) hz.lr (Own.rows (hx6.keep hz.mod fun _ _ e => e)) s7.fresh
    | succ d ih =>
      intro j H6 y ls hj hyx hy hyb hx6 s
      apply tephralaw16_GhostKeeps.l2.step; unfold tephralaw16_GhostKeeps.l2.body
      have hll : ls.length = y.len := Lr.len (Own.rows hy)
      obtain ⟨a, ha, hw, ho, hm⟩ := own_put (new := e.cells) (i := j) hy (by omega) rfl (by omega)
      rw [← flat_set (f := En.cells) (k := 8) (fun _ => rfl) ls j e (by omega)] at ho
      refine Br.yes (by simp; omega) ⟨⟨by omega, by omega⟩, vPtr.mk a ha ⟨by simpa using hw, ?_⟩⟩
      rw [w64_id (x := (j : Int) + 1) (by omega) (by omega)]
      have := ih (j + 1) _ y (ls.set j e) (by omega) hyx ho hyb (hx6.keep hm fun b hb hb2 => (hyb b hb2).2 hb) (s.write hm (fun b hb => by simp [hb]) fun b hb => (hyb b hb).1)
      simpa [En.cells] using this
  -- the entries are committed
  have l1 : ∀ (d j : Nat) (H3 : Hp), j + d = x.len → Own H3 x T_api_Entry 8 (es.map En.cells).flatten → Gs H1 H3 H1.size x.blk (es.take j) [] false →
      tephralaw16_GhostKeeps.l1 J0 e.index e.term e.cmd.op e.cmd.client e.cmd.seq e.cmd.key e.cmd.value e.cmd.old H1 x H3 (j : Int) (trueQ H) := by
    intro d
    induction d with
    | zero =>
      intro j H3 hj hx3 s
      apply tephralaw16_GhostKeeps.l1.step; unfold tephralaw16_GhostKeeps.l1.body
      rw [List.take_of_length_le (by omega)] at s
      refine Br.no (by simp; omega) (s.told (by omega) fun y H4 hy s4 => ?_)
      have hyl := hy.len
      exact l2 y.len 0 H4 y es (by omega) (by omega) hy.own (fun b hb => ⟨by have := hy.blk b hb; have := s.size; omega, fun hbx => by have := hy.blk b hb; have := hx3.lt b hbx; omega⟩) (hx3.keep hy.mod fun _ _ e => e) s4
    | succ d ih =>
      intro j H3 hj hx3 s
      apply tephralaw16_GhostKeeps.l1.step; unfold tephralaw16_GhostKeeps.l1.body
      have hjl : j < es.length := by omega
      obtain ⟨a, ha, r1⟩ := Lr.get (Own.rows hx3) hjl
      refine Br.yes (by simp; omega) ⟨⟨by omega, by omega⟩, vPtr.mk a ha ⟨_, _, _, _, _, _, _, _, by simpa [En.cells] using r1, ?_⟩⟩
      have mh : Mod (fun _ => False) H3 (holes H3 1) := Mod.holes _ _ _
      have hc : ∀ F, Gh (holes H3 1) H1.size F (es.take j) [] false → SCalls Try.prog ghost_Ghost_Commit.id [.pointer (some ⟨H1.size, 0, none⟩), es[j].val] (holes H3 1) (GPost (holes H3 1) H1.size F (es.take (j + 1)) [] false (.bool true)) := fun F h => by
        have := Commit_spec (e := es[j]) h (by rw [List.length_take]; omega)
        rw [commit_row hrow (by omega) hjl] at this
        exact this
      refine (s.mod mh).call hc fun H4 s4 m4 => ?_
      rw [w64_id (x := (j : Int) + 1) (by omega) (by omega)]
      have := ih (j + 1) H4 (by omega) ((hx3.keep mh fun _ _ e => e).keep m4 fun b hb hn => hn hb) s4
      simpa using this
  exact l1 x.len 0 H2 (by omega) hxo s2
end
end Go.Proofs
