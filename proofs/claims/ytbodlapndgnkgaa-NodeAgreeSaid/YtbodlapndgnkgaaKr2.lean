/- LAYER 13: logs, part 2: Merge, and the rest. -/
import Derived.Test.YtbodlapndgnkgaaKr1
import Derived.Test.YtbodlapndgnkgaaKe5
set_option linter.all false
set_option linter.constructorNameAsVariable false
namespace Go.Proofs
open Go Go.KC

def stepM (b t : Int) (es : List En) (e : En) : List En := if termAt b t es e.index = (e.term, true) then es else es.take (e.index - b - 1).toNat ++ [e]
def foldM (b t : Int) (es new : List En) : List En := new.foldl (stepM b t) es
def mergeIn (b t : Int) (es : List En) (prev tm : Int) (new : List En) : List En × Bool := if termAt b t es prev = (tm, true) then (foldM b t es new, true) else (es, false)
/-- What a log has behind entries that are merged. -/
def mergeL (b t : Int) (es : List En) (prev tm : Int) (new : List En) : List En × Bool :=
  if RowsOf new (prev + 1) then (if prev < b then mergeIn b t es b t (new.drop (b - prev).toNat) else mergeIn b t es prev tm new) else (es, false)
theorem stepM_length (b t : Int) (es : List En) (e : En) : (stepM b t es e).length ≤ es.length + 1 := by
  unfold stepM; split
  · omega
  · simp; omega
theorem foldM_length (b t : Int) : ∀ (new es : List En), (foldM b t es new).length ≤ es.length + new.length
  | [], es => by simp [foldM]
  | e :: r, es => by
    have h1 := stepM_length b t es e
    have h2 := foldM_length b t r (stepM b t es e)
    show (foldM b t (stepM b t es e) r).length ≤ _
    simp only [List.length_cons]; omega
theorem mergeIn_length (b t : Int) (es : List En) (p u : Int) (new : List En) : (mergeIn b t es p u new).1.length ≤ es.length + new.length := by
  unfold mergeIn; split
  · exact foldM_length b t new es
  · simp
theorem mergeL_length (b t : Int) (es : List En) (p u : Int) (new : List En) : (mergeL b t es p u new).1.length ≤ es.length + new.length := by
  unfold mergeL; split
  · split
    · have := mergeIn_length b t es b t (new.drop (b - p).toNat); simp at this; omega
    · exact mergeIn_length b t es p u new
  · simp

/-- What a log, and whether it took entries, are as a value. -/
def LbPost (H : Hp) (b t : Int) (p : List En × Bool) (r : Value) (H' : Hp) : Prop := ∃ y : Sl, r = .tuple #[lgv b t y, .bool p.2] ∧ Lr H' y p.1 ∧ Mod (fun _ => False) H H' ∧ (p.2 = true → ∀ q ∈ y.blk, H.size ≤ q ∧ q < H'.size)

section
variable {H0 H : Hp} {x z : Sl} {es new : List En} {b t : Int}

theorem Merge_l2 {p : Int} (hb : nice b) (hp : b ≤ p) (hpn : p ≤ 2000000000) (hbn : -5000000 ≤ b) (hn : new.length ≤ 5000000) (hz : Lr H0 z new) (hR : RowsOf new (p + 1)) {L : List En} :
    ∀ (d j : Nat) (H : Hp) (y : Sl) (cur : List En), j + d = new.length → Eo H0 H y cur → cur.length ≤ 10000000 + j → p + (j : Int) ≤ b + cur.length → foldM b t cur (new.drop j) = L →
      rlog_Log_Merge.l2 J0 z b t H (j : Int) y (LbPost H0 b t (L, true)) := by
  have hzl := hz.len
  intro d
  induction d with
  | zero =>
    intro j H y cur hj hE hcl hk hL
    apply rlog_Log_Merge.l2.step; unfold rlog_Log_Merge.l2.body
    rw [List.drop_eq_nil_of_le (by omega)] at hL
    have hL' : cur = L := hL
    subst hL'
    exact Br.no (by simp; omega) ⟨y, rfl, hE.lr, hE.mod, fun _ q hq => ⟨hE.blk q hq, Own.lt hE.own q hq⟩⟩
  | succ d ih =>
    intro j H y cur hj hE hcl hk hL
    apply rlog_Log_Merge.l2.step; unfold rlog_Log_Merge.l2.body
    have hjl : j < new.length := by omega
    obtain ⟨a, ha, hrow⟩ := (hz.mod hE.mod).get hjl
    have hyl := hE.len
    have hidx : new[j].index = p + 1 + (j : Int) := by rw [(hR j hjl).2.1, w64_id (by omega) (by omega)]
    have hni : nice new[j].index := by have := (hR j hjl).1; unfold nice; unfold En.Right at this; omega
    rw [List.drop_eq_getElem_cons hjl] at hL
    have hL' : foldM b t (stepM b t cur new[j]) (new.drop (j + 1)) = L := hL
    refine Br.yes (by simp; omega) ⟨⟨by omega, by omega⟩, vPtr.mk a ha ⟨_, _, _, _, _, _, _, _, by simpa [En.cells] using hrow, (TermAt_spec hb (by omega) (hE.lr.mod (Mod.holes _ _ 1))).mono ?_⟩⟩
    rintro r H1 ⟨rfl, m1⟩
    have m1' : Mod (fun _ => False) H H1 := (Mod.holes _ _ 1).trans m1
    have hE1 := hE.to m1'
    have keep : termAt b t cur new[j].index = (new[j].term, true) → rlog_Log_Merge.l2 J0 z b t H1 (w64 ((j : Int) + 1)) y (LbPost H0 b t (L, true)) := by
      intro hc
      rw [w64_id (x := (j : Int) + 1) (by omega) (by omega)]
      have e1 : stepM b t cur new[j] = cur := by unfold stepM; rw [if_pos hc]
      rw [e1] at hL'
      have hin : p + 1 + (j : Int) ≤ b + cur.length := by
        unfold termAt at hc
        rw [hidx] at hc
        rw [if_neg (by omega)] at hc
        by_cases h2 : p + 1 + (j : Int) < b ∨ p + 1 + (j : Int) > b + cur.length
        · rw [if_pos h2] at hc; simp at hc
        · omega
      have := ih (j + 1) H1 y cur (by omega) hE1 (by omega) (by omega) hL'
      simpa using this
    have put : termAt b t cur new[j].index ≠ (new[j].term, true) → rlog_Log_Merge.k5 J0 z b t (j : Int) y new[j].index new[j].term new[j].cmd.op new[j].cmd.client new[j].cmd.seq new[j].cmd.key new[j].cmd.value new[j].cmd.old H1 (LbPost H0 b t (L, true)) := by
      intro hc
      apply rlog_Log_Merge.k5.step; unfold rlog_Log_Merge.k5.body
      rw [hidx, w64_id (x := p + 1 + (j : Int) - b) (by omega) (by omega), w64_id (by omega) (by omega), cutA_zero]
      have hn2 : (p + 1 + (j : Int) - b - 1).toNat ≤ y.len := by omega
      have hyc := hE.own.2.1
      refine ⟨⟨by omega, by omega⟩, ?_⟩
      have hcell : new[j].cells = [.int .i64 (p + 1 + (j : Int)), .int .i64 new[j].term, .int .i64 new[j].cmd.op, .int .i64 new[j].cmd.client, .int .i64 new[j].cmd.seq, .string new[j].cmd.key, .string new[j].cmd.value, .string new[j].cmd.old] := by rw [← hidx]; rfl
      have happ := Eo.app (e := new[j]) (K := fun ap H8 => rlog_Log_Merge.l2 J0 z b t H8 (w64 ((j : Int) + 1)) ap (LbPost H0 b t (L, true))) (hE1.pre hn2) (Mod.refl _ _) (by simp only; omega) ?_
      · rw [hcell] at happ; exact happ
      intro x' H' hE'
      rw [w64_id (x := (j : Int) + 1) (by omega) (by omega)]
      have e1 : stepM b t cur new[j] = cur.take (p + 1 + (j : Int) - b - 1).toNat ++ [new[j]] := by unfold stepM; rw [if_neg hc, hidx]
      rw [e1] at hL'
      have := ih (j + 1) H' x' _ (by omega) hE' (by simp; omega) (by simp; omega) hL'
      simpa using this
    refine ⟨_, _, rfl, ?_⟩
    cases h2 : (termAt b t cur new[j].index).2 with
    | true =>
      refine Br.yes rfl ?_
      by_cases h1 : (termAt b t cur new[j].index).1 = new[j].term
      · exact Br.yes (by simp [h1]) (keep (Prod.ext h1 h2))
      · exact Br.no (by simp [h1]) (put fun h => h1 (by rw [h]))
    | false => exact Br.no rfl (put fun h => by rw [h] at h2; cases h2)

theorem Merge_k3 {p u : Int} (hb : nice b) (hp : b ≤ p) (hbn : -5000000 ≤ b) (hn : new.length ≤ 5000000) (he : es.length ≤ 10000000) (hx : Lr H0 x es) (hz : Lr H0 z new) (hR : RowsOf new (p + 1)) (m : Mod (fun _ => False) H0 H) :
    rlog_Log_Merge.k3 J0 b t x p u z H (LbPost H0 b t (mergeIn b t es p u new)) := by
  have hxl := hx.len
  apply rlog_Log_Merge.k3.step; unfold rlog_Log_Merge.k3.body
  refine (TermAt_spec hb (by omega) (hx.mod m)).mono ?_
  rintro r H1 ⟨rfl, m1⟩
  have m1' := m.trans m1
  have k4 : ∀ v : Bool, (v = true ↔ termAt b t es p ≠ (u, true)) → rlog_Log_Merge.k4 J0 b t x z H1 v (LbPost H0 b t (mergeIn b t es p u new)) := by
    intro v hv
    apply rlog_Log_Merge.k4.step; unfold rlog_Log_Merge.k4.body
    refine Br.mk (fun e => ?_) (fun e => ?_)
    · have hc := hv.1 e
      unfold mergeIn; rw [if_neg hc]
      exact ⟨x, rfl, hx.mod m1', m1', fun h => (by cases h)⟩
    · have hc : termAt b t es p = (u, true) := Classical.byContradiction fun h => by rw [hv.2 h] at e; cases e
      unfold mergeIn; rw [if_pos hc]
      refine (Clone_spec (hx.mod m1') (by omega)).mono ?_
      rintro r H2 ⟨y, rfl, hy⟩
      refine ⟨_, _, _, rfl, ?_⟩
      have hk : p ≤ b + es.length := by
        unfold termAt at hc
        by_cases h1 : p = b
        · omega
        · rw [if_neg h1] at hc
          by_cases h2 : p < b ∨ p > b + es.length
          · rw [if_pos h2] at hc; simp at hc
          · omega
      exact Merge_l2 hb hp (by unfold nice at hb; omega) hbn hn hz hR new.length 0 H2 y es (by omega) (hy.from m1') (by omega) (by omega) rfl
  refine ⟨_, _, rfl, ?_⟩
  cases h2 : (termAt b t es p).2 with
  | false => exact Br.yes rfl (k4 true ⟨(fun _ h => by rw [h] at h2; simp at h2), fun _ => rfl⟩)
  | true =>
    refine Br.no rfl (k4 _ ⟨fun h h' => ?_, fun h => ?_⟩)
    · rw [h'] at h; simp at h
    · by_cases h1 : (termAt b t es p).1 = u
      · exact absurd (Prod.ext h1 h2) h
      · simp [h1]

theorem Merge_hi {p u : Int} (hb : nice b) (hp : b ≤ p) (hpn : p ≤ 5000000) (hbn : -5000000 ≤ b) (hn : new.length ≤ 5000000) (he : es.length ≤ 10000000) (hx : Lr H x es) (hz : Lr H z new) :
    SCalls Try.prog rlog_Log_Merge.id [lgv b t x, .int .i64 p, .int .i64 u, .slice z.a z.len z.cap] H (LbPost H b t (mergeL b t es p u new)) := by
  have hzl := hz.len
  apply rlog_Log_Merge.calls
  unfold rlog_Log_Merge.vc
  have m0 : Mod (fun _ => False) H (holes H 2) := Mod.holes _ _ _
  rw [w64_id (x := p + 1) (by omega) (by omega)]
  refine bool_step (H0 := H) (Row_spec (hz.mod m0) hzl (by omega) |>.mono fun r H' h => h) m0 fun H1 m1 => ?_
  unfold mergeL
  by_cases hR : RowsOf new (p + 1)
  · rw [decide_eq_true hR, if_pos hR, if_neg (by omega)]
    exact Br.no rfl (Br.no (by simp; omega) (Merge_k3 hb hp hbn hn he hx hz hR m1))
  · rw [decide_eq_false hR, if_neg hR]
    exact Br.yes rfl ⟨x, rfl, hx.mod m1, m1, fun h => (by cases h)⟩

theorem Merge_l1 {p : Int} (hb : nice b) (hp : p < b) (hpn : b ≤ 5000000) (hbn : -5000000 ≤ p) (hn : new.length ≤ 5000000) (he : es.length ≤ 10000000) (hx : Lr H0 x es) (hR : RowsOf new (p + 1)) (m : Mod (fun _ => False) H0 H) :
    ∀ (d j : Nat) (z : Sl), d = new.length - j → Lr H z (new.drop j) → (j : Int) ≤ b - p → rlog_Log_Merge.l1 J0 b t x H z (LbPost H0 b t (mergeIn b t es b t (new.drop (b - p).toNat))) := by
  have done : ∀ (j : Nat) (z : Sl), Lr H z (new.drop j) → new.drop j = new.drop (b - p).toNat → rlog_Log_Merge.k2 J0 b t x H z (LbPost H0 b t (mergeIn b t es b t (new.drop (b - p).toNat))) := by
    intro j z hz hd
    apply rlog_Log_Merge.k2.step; unfold rlog_Log_Merge.k2.body
    rw [hd] at hz
    refine (Merge_hi hb (Int.le_refl b) hpn (by omega) (by simp; omega) he (hx.mod m) hz).mono ?_
    rintro r H1 ⟨y, rfl, hy, my, fy⟩
    refine ⟨_, _, _, _, rfl, y, ?_, ?_, m.trans my, ?_⟩
    all_goals
      have hRd : RowsOf (new.drop (b - p).toNat) (b + 1) := hR.drop _ _ fun j => by congr 1; omega
      unfold mergeL at *
      simp only [if_pos hRd, if_neg (show ¬ b < b by omega)] at *
    · rfl
    · exact hy
    · exact fun h q hq => ⟨Nat.le_trans m.size (fy h q hq).1, (fy h q hq).2⟩
  intro d
  induction d with
  | zero =>
    intro j z hd hz hj
    have hnil : new.drop j = [] := List.drop_eq_nil_of_le (by omega)
    have hzl := hz.len
    rw [hnil] at hzl
    apply rlog_Log_Merge.l1.step; unfold rlog_Log_Merge.l1.body
    refine Br.no (by simp at hzl ⊢; omega) (done j z hz ?_)
    rw [hnil, List.drop_eq_nil_of_le (by omega)]
  | succ d ih =>
    intro j z hd hz hj
    have hjl : j < new.length := by omega
    have hzl := hz.len
    rw [List.length_drop] at hzl
    have hidx : new[j].index = p + 1 + (j : Int) := by rw [(hR j hjl).2.1, w64_id (by omega) (by omega)]
    apply rlog_Log_Merge.l1.step; unfold rlog_Log_Merge.l1.body
    obtain ⟨a, ha, hrow⟩ := hz.get (j := 0) (by simp; omega)
    have hc := hrow 0 (.int .i64 new[j].index) (by simp [En.cells])
    rw [Nat.zero_mul, add_zero_of, add_zero_of] at hc
    refine Br.yes (by simp; omega) ⟨⟨by omega, by omega⟩, vPtr.mk a ha ⟨_, hc, Br.mk (fun h => ?_) (fun h => ?_)⟩⟩
    · have h' := of_decide_eq_true h
      rw [hidx] at h'
      apply rlog_Log_Merge.k1.step; unfold rlog_Log_Merge.k1.body
      have hcut := hz.cut (n := 1) (by omega)
      rw [List.drop_drop] at hcut
      exact ⟨⟨by omega, by omega⟩, ih (j + 1) _ (by omega) hcut (by omega)⟩
    · have h' := of_decide_eq_false h
      rw [hidx] at h'
      have : j = (b - p).toNat := by omega
      exact done j z hz (by rw [this])

theorem Merge_spec {p u : Int} (hb : -5000000 ≤ b ∧ b ≤ 5000000) (hp : -5000000 ≤ p ∧ p ≤ 5000000) (hn : new.length ≤ 5000000) (he : es.length ≤ 10000000) (hx : Lr H x es) (hz : Lr H z new) :
    SCalls Try.prog rlog_Log_Merge.id [lgv b t x, .int .i64 p, .int .i64 u, .slice z.a z.len z.cap] H (LbPost H b t (mergeL b t es p u new)) := by
  have hb' : nice b := by unfold nice; omega
  by_cases hc : b ≤ p
  · exact Merge_hi hb' hc hp.2 hb.1 hn he hx hz
  have hzl := hz.len
  apply rlog_Log_Merge.calls
  unfold rlog_Log_Merge.vc
  have m0 : Mod (fun _ => False) H (holes H 2) := Mod.holes _ _ _
  rw [w64_id (x := p + 1) (by omega) (by omega)]
  refine bool_step (H0 := H) (Row_spec (hz.mod m0) hzl (by omega)) m0 fun H1 m1 => ?_
  unfold mergeL
  by_cases hR : RowsOf new (p + 1)
  · rw [decide_eq_true hR, if_pos hR, if_pos (by omega)]
    exact Br.no rfl (Br.yes (by simp; omega) (Merge_l1 hb' (by omega) hb.2 hp.1 hn he hx hR m1 new.length 0 z (by omega) (hz.mod m1) (by omega)))
  · rw [decide_eq_false hR, if_neg hR]
    exact Br.yes rfl ⟨x, rfl, hx.mod m1, m1, fun h => (by cases h)⟩
theorem w64_val (z : Int) : w64 z = (z + 9223372036854775808) % 18446744073709551616 - 9223372036854775808 := by
  have e : w64 z = if (true && decide (z % 18446744073709551616 ≥ 9223372036854775808)) = true then z % 18446744073709551616 - 18446744073709551616 else z % 18446744073709551616 := rfl
  rw [e]
  by_cases h : z % 18446744073709551616 ≥ 9223372036854775808
  · rw [decide_eq_true h]; simp only [Bool.and_self, if_true]; omega
  · rw [decide_eq_false h]; simp only [Bool.and_false]; rw [if_neg (by simp)]; omega
theorem w64_add (a j : Int) : w64 (w64 a + j) = w64 (a + j) := by
  rw [w64_val, w64_val, w64_val]; omega
theorem rows_w64 (new : List En) (p : Int) : RowsOf new (w64 p) ↔ RowsOf new p := by
  unfold RowsOf
  constructor
  · intro h j hj; have := h j hj; rw [w64_add] at this; exact this
  · intro h j hj; rw [w64_add]; exact h j hj
theorem rows_len {new : List En} {p : Int} (hp : -9223372036854775808 ≤ p ∧ p ≤ 9223372036854775807) (h : RowsOf new (p + 1)) : new = [] ∨ (0 ≤ p ∧ p + new.length ≤ 1048576) := by
  by_cases c : new = []
  · exact Or.inl c
  refine Or.inr ?_
  have hl : 0 < new.length := List.length_pos_iff.2 c
  have h0 := h 0 hl
  have r0 := h0.1
  have e0 := h0.2.1
  unfold En.Right at r0
  rw [w64_val] at e0
  have hp0 : 0 ≤ p ∧ p < 1048576 := by omega
  refine ⟨hp0.1, ?_⟩
  by_cases cl : new.length ≤ 1048576
  · have hz := h (new.length - 1) (by omega)
    have rz := hz.1
    have ez := hz.2.1
    unfold En.Right at rz
    rw [w64_id (by omega) (by omega)] at ez
    omega
  · have hz := h 1048576 (by omega)
    have rz := hz.1
    have ez := hz.2.1
    unfold En.Right at rz
    rw [w64_id (by omega) (by omega)] at ez
    omega
/-- Any entries, behind any index. -/
theorem Merge_any {p u : Int} (hb : -1000 ≤ b ∧ b ≤ 5000000) (hp : -9223372036854775808 ≤ p ∧ p ≤ 9223372036854775807) (hzl : z.len ≤ 9223372036854775807) (he : es.length ≤ 10000000) (hx : Lr H x es) (hz : Lr H z new) :
    SCalls Try.prog rlog_Log_Merge.id [lgv b t x, .int .i64 p, .int .i64 u, .slice z.a z.len z.cap] H (LbPost H b t (mergeL b t es p u new)) := by
  have hb' : nice b := by unfold nice; omega
  have hzn := hz.len
  apply rlog_Log_Merge.calls
  unfold rlog_Log_Merge.vc
  have m0 : Mod (fun _ => False) H (holes H 2) := Mod.holes _ _ _
  refine bool_step (H0 := H) (Row_spec (hz.mod m0) hzn hzl) m0 fun H1 m1 => ?_
  rw [decide_eq_decide.2 (rows_w64 new (p + 1))]
  unfold mergeL
  by_cases hR : RowsOf new (p + 1)
  rotate_left
  · rw [decide_eq_false hR, if_neg hR]
    exact Br.yes rfl ⟨x, rfl, hx.mod m1, m1, fun h => (by cases h)⟩
  rw [decide_eq_true hR, if_pos hR]
  refine Br.no rfl ?_
  have hlen := rows_len hp hR
  have hn : new.length ≤ 5000000 := by
    rcases hlen with h | h
    · rw [h]; exact Nat.zero_le _
    · omega
  by_cases c : p < b
  · rw [if_pos c]
    refine Br.yes (by simp; omega) ?_
    rcases hlen with h | h
    · have hRd : RowsOf new (b - 1 + 1) := by rw [h]; exact fun j hj => absurd hj (Nat.not_lt_zero _)
      have := Merge_l1 (p := b - 1) (t := t) hb' (by omega) hb.2 (by omega) hn he hx hRd m1 new.length 0 z (by omega) (hz.mod m1) (by omega)
      rw [h] at this ⊢
      simpa using this
    · exact Merge_l1 hb' c hb.2 (by omega) hn he hx hR m1 new.length 0 z (by omega) (hz.mod m1) (by omega)
  · rw [if_neg c]
    exact Br.no (by simp; omega) (Merge_k3 hb' (by omega) (by omega) hn he hx hz hR m1)
end
end Go.Proofs
