/- LAYER 13: the law's merge; RlogMerge. -/
import Derived.Test.YtdfakiaehkfhnaaKr6
set_option linter.all false
set_option linter.constructorNameAsVariable false
namespace Go.Proofs
open Go Go.KC

theorem copy_app {H : Hp} {x : Sl} {es : List En} {K : Sl → Hp → Prop} (h : Lr H x es) (hl : x.len ≤ 1000000) (hK : ∀ y H', Eo H H' y es → K y H') :
    vApp Try.prog T_sl_api_Entry none 0 0 (.slice x.a x.len x.cap) H K := by
  obtain ⟨ti, hi, hz, hsz, hby⟩ := en_info
  have hlen := h.len
  have hsrc : SrcAt H 8 x.len (.slice x.a x.len x.cap) (es.map En.cells).flatten := by
    cases hx : x.a with
    | none =>
      have h0 := h.2.2.2 hx
      have h2 := h.2.1
      have he : es = [] := List.eq_nil_of_length_eq_zero (by omega)
      rw [he]; exact rfl
    | some a => exact ⟨by rw [flat_length (f := En.cells) (k := 8) (fun _ => rfl)]; omega, h.2.2.1 a hx⟩
  refine Own.app (x := ⟨none, 0, 0⟩) (e := T_api_Entry) (ti := ti) (z := En.zero.val) (cs := []) (news := (es.map En.cells).flatten) (Own.nil _ _ _) und_ents hi hz (by rw [hsz]; rfl) (by omega) (by rw [hsz]; exact hsrc)
    (by rw [hsz, flat_length (f := En.cells) (k := 8) (fun _ => rfl)]; simp only [srcLen]; omega) (allOne_ents es) (by simp only [srcLen]; rw [hby]; omega) ?_
  intro y H2 hy hyl hm hyb _
  rw [hsz, List.nil_append] at hy
  refine hK y H2 ⟨hy, fun g hg => ?_, hm.mono fun g _ hg => by simp [Sl.blk] at hg⟩
  rcases hyb g hg with h | h
  · simp [Sl.blk] at h
  · omega

theorem Idx.step {b t : Int} {es : List En} {e : En} (h : Idx b es) (h1 : b + 1 ≤ e.index) (h2 : e.index ≤ b + 1 + es.length) : Idx b (stepM b t es e) := by
  unfold stepM; split
  · exact h
  · intro j hj
    have hl : (es.take (e.index - b - 1).toNat).length = (e.index - b - 1).toNat := by rw [List.length_take]; omega
    rw [List.length_append, hl, List.length_singleton] at hj
    by_cases c : j < (e.index - b - 1).toNat
    · rw [List.getElem_append_left (by omega), List.getElem_take]; exact h j (by omega)
    · rw [List.getElem_append_right (by omega)]
      simp only [List.getElem_singleton]; omega

section
variable {H0 H : Hp} {x z : Sl} {es new : List En} {b t : Int}

theorem lmerge_l2 {p : Int} (hb : nice b) (hp : b ≤ p) (hpn : p ≤ 1000) (hbn : -1000 ≤ b) (hn : new.length ≤ 1000) (hz : Lr H0 z new) (hR : RowsOf new (p + 1)) {L : List En} :
    ∀ (d j : Nat) (H : Hp) (y : Sl) (cur : List En), j + d = new.length → Eo H0 H y cur → Idx b cur → cur.length ≤ 10000 + j → p + (j : Int) ≤ b + cur.length → foldM b t cur (new.drop j) = L →
      tephralaw13_merge.l2 J0 b t x z H (j : Int) y (LbPost H0 b t (L, true)) := by
  have hzl := hz.len
  intro d
  induction d with
  | zero =>
    intro j H y cur hj hE hI hcl hk hL
    apply tephralaw13_merge.l2.step; unfold tephralaw13_merge.l2.body
    rw [List.drop_eq_nil_of_le (by omega)] at hL
    have hL' : cur = L := hL
    subst hL'
    exact Br.no (by simp; omega) ⟨y, rfl, hE.lr, hE.mod⟩
  | succ d ih =>
    intro j H y cur hj hE hI hcl hk hL
    apply tephralaw13_merge.l2.step; unfold tephralaw13_merge.l2.body
    have hjl : j < new.length := by omega
    obtain ⟨a, ha, hrow⟩ := (hz.mod hE.mod).get hjl
    have hyl := hE.len
    have hidx : new[j].index = p + 1 + (j : Int) := by rw [(hR j hjl).2.1, w64_id (by omega) (by omega)]
    rw [List.drop_eq_getElem_cons hjl] at hL
    have hL' : foldM b t (stepM b t cur new[j]) (new.drop (j + 1)) = L := hL
    have hI' : Idx b (stepM b t cur new[j]) := hI.step (by omega) (by omega)
    have m0 : Mod (fun _ => False) H (holes H 1) := Mod.holes _ _ _
    refine Br.yes (by simp; omega) ⟨⟨by omega, by omega⟩, vPtr.mk a ha ⟨_, _, _, _, _, _, _, _, by simpa [En.cells] using hrow, tb_step (H0 := H) (term_spec hb (by omega) hI (hE.lr.mod m0)) m0 fun H1 m1 => ?_⟩⟩
    have hE1 := hE.to m1
    have k : ∀ v : Bool, (v = false ↔ termAt b t cur new[j].index = (new[j].term, true)) → tephralaw13_merge.k5 J0 b t x z (j : Int) y new[j].index new[j].term new[j].cmd.op new[j].cmd.client new[j].cmd.seq new[j].cmd.key new[j].cmd.value new[j].cmd.old H1 v (LbPost H0 b t (L, true)) := by
      intro v hv
      apply tephralaw13_merge.k5.step; unfold tephralaw13_merge.k5.body
      refine Br.mk (fun e => ?_) (fun e => ?_)
      · have hc : termAt b t cur new[j].index ≠ (new[j].term, true) := fun h => by rw [hv.2 h] at e; cases e
        rw [hidx, w64_id (x := p + 1 + (j : Int) - b) (by omega) (by omega), w64_id (by omega) (by omega), cutA_zero]
        have hn2 : (p + 1 + (j : Int) - b - 1).toNat ≤ y.len := by omega
        have hyc := hE.own.2.1
        refine ⟨⟨by omega, by omega⟩, ?_⟩
        have hcell : new[j].cells = [.int .i64 (p + 1 + (j : Int)), .int .i64 new[j].term, .int .i64 new[j].cmd.op, .int .i64 new[j].cmd.client, .int .i64 new[j].cmd.seq, .string new[j].cmd.key, .string new[j].cmd.value, .string new[j].cmd.old] := by rw [← hidx]; rfl
        have happ := Eo.app (e := new[j]) (K := fun ap H8 => tephralaw13_merge.l2 J0 b t x z H8 (w64 ((j : Int) + 1)) ap (LbPost H0 b t (L, true))) (hE1.pre hn2) (Mod.refl _ _) (by simp only; omega) ?_
        · rw [hcell] at happ; exact happ
        intro x' H' hE'
        rw [w64_id (x := (j : Int) + 1) (by omega) (by omega)]
        have e1 : stepM b t cur new[j] = cur.take (p + 1 + (j : Int) - b - 1).toNat ++ [new[j]] := by unfold stepM; rw [if_neg hc, hidx]
        rw [e1] at hL' hI'
        have := ih (j + 1) H' x' _ (by omega) hE' hI' (by simp; omega) (by simp; omega) hL'
        simpa using this
      · have hc := hv.1 e
        rw [w64_id (x := (j : Int) + 1) (by omega) (by omega)]
        have e1 : stepM b t cur new[j] = cur := by unfold stepM; rw [if_pos hc]
        rw [e1] at hL'
        have hin := (termAt_known (b := b) (t := t) (es := cur) (i := new[j].index) (by rw [hc])).2
        have := ih (j + 1) H1 y cur (by omega) hE1 hI (by omega) (by omega) hL'
        simpa using this
    cases h2 : (termAt b t cur new[j].index).2 with
    | true =>
      refine Br.no rfl (k _ ⟨fun h => ?_, fun h => ?_⟩)
      · have h1 : (termAt b t cur new[j].index).1 = new[j].term := by simpa using h
        exact Prod.ext h1 h2
      · rw [h]; simp
    | false => exact Br.yes rfl (k true ⟨(fun h => nomatch h), fun h => by rw [h] at h2; cases h2⟩)

theorem lmerge_l3 {p : Int} (hb : nice b) (hp : b ≤ p) (hpn : p ≤ 1000) (hbn : -1000 ≤ b) (hn : new.length ≤ 1000) (hz : Lr H0 z new) (hR : RowsOf new (p + 1)) {L : List En} :
    ∀ (d j : Nat) (H : Hp) (y : Sl) (cur : List En), j + d = new.length → Eo H0 H y cur → Idx b cur → cur.length ≤ 10000 + j → p + (j : Int) ≤ b + cur.length → foldM b t cur (new.drop j) = L →
      tephralaw13_merge.l3 J0 b t x z H (j : Int) y (LbPost H0 b t (L, true)) := by
  have hzl := hz.len
  intro d
  induction d with
  | zero =>
    intro j H y cur hj hE hI hcl hk hL
    apply tephralaw13_merge.l3.step; unfold tephralaw13_merge.l3.body
    rw [List.drop_eq_nil_of_le (by omega)] at hL
    have hL' : cur = L := hL
    subst hL'
    exact Br.no (by simp; omega) ⟨y, rfl, hE.lr, hE.mod⟩
  | succ d ih =>
    intro j H y cur hj hE hI hcl hk hL
    apply tephralaw13_merge.l3.step; unfold tephralaw13_merge.l3.body
    have hjl : j < new.length := by omega
    obtain ⟨a, ha, hrow⟩ := (hz.mod hE.mod).get hjl
    have hyl := hE.len
    have hidx : new[j].index = p + 1 + (j : Int) := by rw [(hR j hjl).2.1, w64_id (by omega) (by omega)]
    rw [List.drop_eq_getElem_cons hjl] at hL
    have hL' : foldM b t (stepM b t cur new[j]) (new.drop (j + 1)) = L := hL
    have hI' : Idx b (stepM b t cur new[j]) := hI.step (by omega) (by omega)
    have m0 : Mod (fun _ => False) H (holes H 1) := Mod.holes _ _ _
    refine Br.yes (by simp; omega) ⟨⟨by omega, by omega⟩, vPtr.mk a ha ⟨_, _, _, _, _, _, _, _, by simpa [En.cells] using hrow, tb_step (H0 := H) (term_spec hb (by omega) hI (hE.lr.mod m0)) m0 fun H1 m1 => ?_⟩⟩
    have hE1 := hE.to m1
    have k : ∀ v : Bool, (v = false ↔ termAt b t cur new[j].index = (new[j].term, true)) → tephralaw13_merge.k6 J0 b t x z (j : Int) y new[j].index new[j].term new[j].cmd.op new[j].cmd.client new[j].cmd.seq new[j].cmd.key new[j].cmd.value new[j].cmd.old H1 v (LbPost H0 b t (L, true)) := by
      intro v hv
      apply tephralaw13_merge.k6.step; unfold tephralaw13_merge.k6.body
      refine Br.mk (fun e => ?_) (fun e => ?_)
      · have hc : termAt b t cur new[j].index ≠ (new[j].term, true) := fun h => by rw [hv.2 h] at e; cases e
        rw [hidx, w64_id (x := p + 1 + (j : Int) - b) (by omega) (by omega), w64_id (by omega) (by omega), cutA_zero]
        have hn2 : (p + 1 + (j : Int) - b - 1).toNat ≤ y.len := by omega
        have hyc := hE.own.2.1
        refine ⟨⟨by omega, by omega⟩, ?_⟩
        have hcell : new[j].cells = [.int .i64 (p + 1 + (j : Int)), .int .i64 new[j].term, .int .i64 new[j].cmd.op, .int .i64 new[j].cmd.client, .int .i64 new[j].cmd.seq, .string new[j].cmd.key, .string new[j].cmd.value, .string new[j].cmd.old] := by rw [← hidx]; rfl
        have happ := Eo.app (e := new[j]) (K := fun ap H8 => tephralaw13_merge.l3 J0 b t x z H8 (w64 ((j : Int) + 1)) ap (LbPost H0 b t (L, true))) (hE1.pre hn2) (Mod.refl _ _) (by simp only; omega) ?_
        · rw [hcell] at happ; exact happ
        intro x' H' hE'
        rw [w64_id (x := (j : Int) + 1) (by omega) (by omega)]
        have e1 : stepM b t cur new[j] = cur.take (p + 1 + (j : Int) - b - 1).toNat ++ [new[j]] := by unfold stepM; rw [if_neg hc, hidx]
        rw [e1] at hL' hI'
        have := ih (j + 1) H' x' _ (by omega) hE' hI' (by simp; omega) (by simp; omega) hL'
        simpa using this
      · have hc := hv.1 e
        rw [w64_id (x := (j : Int) + 1) (by omega) (by omega)]
        have e1 : stepM b t cur new[j] = cur := by unfold stepM; rw [if_pos hc]
        rw [e1] at hL'
        have hin := (termAt_known (b := b) (t := t) (es := cur) (i := new[j].index) (by rw [hc])).2
        have := ih (j + 1) H1 y cur (by omega) hE1 hI (by omega) (by omega) hL'
        simpa using this
    cases h2 : (termAt b t cur new[j].index).2 with
    | true =>
      refine Br.no rfl (k _ ⟨fun h => ?_, fun h => ?_⟩)
      · have h1 : (termAt b t cur new[j].index).1 = new[j].term := by simpa using h
        exact Prod.ext h1 h2
      · rw [h]; simp
    | false => exact Br.yes rfl (k true ⟨(fun h => nomatch h), fun h => by rw [h] at h2; cases h2⟩)


theorem lmerge_k3 {p u : Int} (hI : Idx b es) (hp : b ≤ p) (hpn : p ≤ 1000) (hbn : -1000 ≤ b) (hn : new.length ≤ 1000) (he : es.length ≤ 10000) (hx : Lr H0 x es) (hz : Lr H0 z new) (hR : RowsOf new (p + 1)) (m : Mod (fun _ => False) H0 H) :
    tephralaw13_merge.k3 J0 b t x p u z H (LbPost H0 b t (mergeIn b t es p u new)) := by
  have hb : nice b := by unfold nice; omega
  have hxl := hx.len
  apply tephralaw13_merge.k3.step; unfold tephralaw13_merge.k3.body
  refine tb_step (H0 := H0) (term_spec hb (by omega) hI (hx.mod m)) m fun H1 m1 => ?_
  have k4 : ∀ v : Bool, (v = true ↔ termAt b t es p ≠ (u, true)) → tephralaw13_merge.k4 J0 b t x z H1 v (LbPost H0 b t (mergeIn b t es p u new)) := by
    intro v hv
    apply tephralaw13_merge.k4.step; unfold tephralaw13_merge.k4.body
    refine Br.mk (fun e => ?_) (fun e => ?_)
    · have hc := hv.1 e
      unfold mergeIn; rw [if_neg hc]
      exact ⟨x, rfl, hx.mod m1, m1⟩
    · have hc : termAt b t es p = (u, true) := Classical.byContradiction fun h => by rw [hv.2 h] at e; cases e
      unfold mergeIn; rw [if_pos hc]
      have hk := (termAt_known (b := b) (t := t) (es := es) (i := p) (by rw [hc])).2
      refine ⟨copy_app (hx.mod m1) (by omega) fun y H5 hy => ?_, copy_app (hx.mod (moreHoles m1 1)) (by omega) fun y H5 hy => ?_⟩
      · exact lmerge_l2 hb hp hpn hbn hn hz hR new.length 0 _ y es (by omega) ((hy.from m1).to (Mod.holes _ _ 1)) hI (by omega) (by omega) rfl
      · exact lmerge_l3 hb hp hpn hbn hn hz hR new.length 0 _ y es (by omega) (hy.from (moreHoles m1 1)) hI (by omega) (by omega) rfl
  cases h2 : (termAt b t es p).2 with
  | false => exact Br.yes rfl (k4 true ⟨(fun _ h => by rw [h] at h2; simp at h2), fun _ => rfl⟩)
  | true =>
    refine Br.no rfl (k4 _ ⟨fun h h' => ?_, fun h => ?_⟩)
    · rw [h'] at h; simp at h
    · by_cases h1 : (termAt b t es p).1 = u
      · exact absurd (Prod.ext h1 h2) h
      · simp [h1]

theorem lmerge_l1 {p : Int} (hI : Idx b es) (hp : p < b) (hpn : b ≤ 1000) (hbn : -1000 ≤ p) (hn : new.length ≤ 1000) (he : es.length ≤ 10000) (hx : Lr H0 x es) (hR : RowsOf new (p + 1)) (m : Mod (fun _ => False) H0 H) :
    ∀ (d j : Nat) (z : Sl), d = new.length - j → Lr H0 z (new.drop j) → (j : Int) ≤ b - p → tephralaw13_merge.l1 J0 b t x H z (LbPost H0 b t (mergeIn b t es b t (new.drop (b - p).toNat))) := by
  have done : ∀ (j : Nat) (z : Sl), Lr H0 z (new.drop j) → new.drop j = new.drop (b - p).toNat → tephralaw13_merge.k2 J0 b t x H z (LbPost H0 b t (mergeIn b t es b t (new.drop (b - p).toNat))) := by
    intro j z hz hd
    apply tephralaw13_merge.k2.step; unfold tephralaw13_merge.k2.body
    rw [hd] at hz
    exact lmerge_k3 hI (Int.le_refl b) hpn (by omega) (by simp; omega) he hx hz (hR.drop _ _ fun j => by congr 1; omega) m
  intro d
  induction d with
  | zero =>
    intro j z hd hz hj
    have hnil : new.drop j = [] := List.drop_eq_nil_of_le (by omega)
    have hzl := hz.len
    rw [hnil] at hzl
    apply tephralaw13_merge.l1.step; unfold tephralaw13_merge.l1.body
    refine Br.no (by simp at hzl ⊢; omega) (done j z hz ?_)
    rw [hnil, List.drop_eq_nil_of_le (by omega)]
  | succ d ih =>
    intro j z hd hz hj
    have hjl : j < new.length := by omega
    have hzl := hz.len
    rw [List.length_drop] at hzl
    have hidx : new[j].index = p + 1 + (j : Int) := by rw [(hR j hjl).2.1, w64_id (by omega) (by omega)]
    apply tephralaw13_merge.l1.step; unfold tephralaw13_merge.l1.body
    obtain ⟨a, ha, hrow⟩ := (hz.mod m).get (j := 0) (by simp; omega)
    have hc := hrow 0 (.int .i64 new[j].index) (by simp [En.cells])
    rw [Nat.zero_mul, add_zero_of, add_zero_of] at hc
    refine Br.yes (by simp; omega) ⟨⟨by omega, by omega⟩, vPtr.mk a ha ⟨_, hc, Br.mk (fun h => ?_) (fun h => ?_)⟩⟩
    · have h' := of_decide_eq_true h
      rw [hidx] at h'
      apply tephralaw13_merge.k1.step; unfold tephralaw13_merge.k1.body
      have hcut := hz.cut (n := 1) (by omega)
      rw [List.drop_drop] at hcut
      exact ⟨⟨by omega, by omega⟩, ih (j + 1) _ (by omega) hcut (by omega)⟩
    · have h' := of_decide_eq_false h
      rw [hidx] at h'
      have : j = (b - p).toNat := by omega
      exact done j z hz (by rw [this])

theorem lmerge_spec {p u : Int} (hI : Idx b es) (hb : -1000 ≤ b ∧ b ≤ 1000) (hp : -1000 ≤ p ∧ p ≤ 1000) (hn : new.length ≤ 1000) (he : es.length ≤ 10000) (hx : Lr H x es) (hz : Lr H z new) :
    SCalls Try.prog tephralaw13_merge.id [lgv b t x, .int .i64 p, .int .i64 u, .slice z.a z.len z.cap] H (LbPost H b t (mergeL b t es p u new)) := by
  have hzl := hz.len
  apply tephralaw13_merge.calls
  unfold tephralaw13_merge.vc
  have m0 : Mod (fun _ => False) H (holes H 2) := Mod.holes _ _ _
  rw [w64_id (x := p + 1) (by omega) (by omega)]
  refine bool_step (H0 := H) (Row_spec (hz.mod m0) hzl (by omega)) m0 fun H1 m1 => ?_
  unfold mergeL
  by_cases hR : RowsOf new (p + 1)
  · rw [decide_eq_true hR, if_pos hR]
    refine Br.no rfl ?_
    by_cases hc : p < b
    · rw [if_pos hc]
      exact Br.yes (by simp [hc]) (lmerge_l1 hI hc hb.2 hp.1 hn he hx hR m1 new.length 0 z (by omega) hz (by omega))
    · rw [if_neg hc]
      exact Br.no (by simp; omega) (lmerge_k3 hI (by omega) hp.2 hb.1 hn he hx hz hR m1)
  · rw [decide_eq_false hR, if_neg hR]
    exact Br.yes rfl ⟨x, rfl, hx.mod m1, m1⟩

theorem lb_step {f : FuncId} {args : List Value} {p : List En × Bool} {K : Int → Int → Sl → Bool → Hp → Prop} (h : SCalls Try.prog f args H (LbPost H b t p)) (hf : Mod (fun _ => False) H0 H)
    (hK : ∀ y H', Mod (fun _ => False) H H' → Mod (fun _ => False) H0 H' → Lr H' y p.1 → K b t y p.2 H') :
    SCalls Try.prog f args H fun r H' => ∃ b : Int, ∃ t : Int, ∃ y : Sl, ∃ v : Bool, r = .tuple #[.agg #[.int .i64 b, .int .i64 t, .slice y.a y.len y.cap], .bool v] ∧ K b t y v H' := by
  refine h.mono ?_
  rintro r H1 ⟨y, rfl, hl, m1⟩
  exact ⟨b, t, y, _, rfl, hK y H1 m1 (hf.trans m1) hl⟩

theorem es_step {says : Sl} {ss : List Sy} {n u : Int} {K : Sl → Hp → Prop} (hr : Rows H says 6 (ss.map Sy.cells).flatten) (hl : ss.length = says.len) (hf : Mod (fun _ => False) H0 H) (hK : ∀ y H', Mod (fun _ => False) H H' → Mod (fun _ => False) H0 H' → Lr H' y (ents (ss.take 80) n u) → K y H') :
    SCalls Try.prog tephralaw06_Entries.id [.slice says.a says.len says.cap, .int .i64 n, .int .i64 u] H fun r H' => ∃ y : Sl, r = .slice y.a y.len y.cap ∧ K y H' := by
  refine (Entries_spec hr hl).mono ?_
  rintro r H1 ⟨y, rfl, ho, _, hfr, _⟩
  exact ⟨y, rfl, hK y H1 hfr.mod (hf.trans hfr.mod) (Own.rows ho)⟩

theorem RlogMerge_spec {says more : Sl} {ss sb : List Sy} {u v c : UInt8} {i : Int} (hr : Rows H says 6 (ss.map Sy.cells).flatten) (hl : ss.length = says.len) (hrm : Rows H more 6 (sb.map Sy.cells).flatten) (hlm : sb.length = more.len) (hi : -128 ≤ i ∧ i ≤ 127) :
    SCalls Try.prog tephralaw13_RlogMerge.id [.slice says.a says.len says.cap, .slice more.a more.len more.cap, .int .u8 (u.toNat : Int), .int .u8 (v.toNat : Int), .int .i8 i, .int .u8 (c.toNat : Int)] H (trueQ H) := by
  apply tephralaw13_RlogMerge.calls
  unfold tephralaw13_RlogMerge.vc
  rw [w64_id (x := i) (by omega) (by omega)]
  refine awake_step (H0 := H) (Mod.refl _ _) fun H1 m1 => some_step hr hl m1 fun y H2 m2 hE => ?_
  have sm := sm_some ss u v
  have e2 : Lr H2 y _ := hE.lr
  generalize hes : ents (ss.take 80) (((u.toNat % 20 : Nat) : Int) + 1) ((v.toNat % 5 : Nat) : Int) = es at *
  generalize hbb : ((u.toNat % 20 : Nat) : Int) = b at *
  generalize htt : ((v.toNat % 5 : Nat) : Int) = t at *
  have hb := sm.hb
  have hlen := sm.len
  have hyl := e2.len
  have nb : nice b := by unfold nice; omega
  have ht8 : -8 < Int.tmod i 8 ∧ Int.tmod i 8 < 8 := by
    rcases Int.le_total 0 i with h | h
    · rw [Int.tmod_eq_emod_of_nonneg h]; omega
    · have : Int.tmod i 8 = - Int.tmod (-i) 8 := by rw [Int.neg_tmod]; omega
      rw [this, Int.tmod_eq_emod_of_nonneg (by omega)]; omega
  rw [w64_id (x := b + Int.tmod i 8) (by omega) (by omega)]
  generalize hpd : b + Int.tmod i 8 = p2
  have hp2 : -1000 ≤ p2 ∧ p2 ≤ 1000 := by omega
  refine ⟨by omega, ?_⟩
  have mh : Mod (fun _ => False) H2 (holes H2 1) := Mod.holes _ _ _
  have mp : Mod (fun _ => False) (holes H2 1) (Array.push (holes H2 1) (.cells #[.int .i64 i, .int .i64 p2] T_int)) := Mod.push _ _ _
  have mb := mh.trans mp
  have hcell : ∀ (H' : Hp) (j : Nat), Mod (fun _ => False) (Array.push (holes H2 1) (.cells #[.int .i64 i, .int .i64 p2] T_int)) H' → j < 2 → Hp.cell? H' ((Addr.mk (Array.size (holes H2 1)) 0 none).add ((j : Int).toNat * 1)) = some (.int .i64 (if j = 0 then i else p2)) := by
    intro H' j m hj
    have e : (j : Int).toNat * 1 = j := by omega
    rw [e, Addr.add_loc, Nat.zero_add, cell_of (m.get (get_push_new _ _) fun e => e)]
    rcases (by omega : j = 0 ∨ j = 1) with rfl | rfl <;> rfl
  generalize Array.push (holes H2 1) (.cells #[.int .i64 i, .int .i64 p2] T_int) = H3 at mp mb hcell ⊢
  have e3 := e2.mod mb
  have m23 := m2.trans mb
  have loop : ∀ (d j : Nat) (H' : Hp), j + d = 2 → Mod (fun _ => False) H3 H' → tephralaw13_RlogMerge.l1 J0 says more (u.toNat : Int) (v.toNat : Int) (c.toNat : Int) H2 b t y H' (j : Int) (trueQ H) := by
    intro d
    induction d with
    | zero =>
      intro j H' hj m
      apply tephralaw13_RlogMerge.l1.step; unfold tephralaw13_RlogMerge.l1.body
      have mm := m23.trans m
      refine Br.no (by simp; omega) ((Some_spec (c := u) (d := v) (hr.keep mm fun _ _ e => e) hl).mono ?_)
      rw [hbb, htt, hes]
      rintro r H5 ⟨w, rfl, hw⟩
      exact ⟨_, _, _, rfl, bool_step (H0 := H) (Same_spec (e3.mod (m.trans hw.mod)) hw.lr (by omega)) (mm.trans hw.mod) fun H6 m6 => ⟨congrArg Value.bool sameB_refl, m6⟩⟩
    | succ d ih =>
      intro j H' hj m
      apply tephralaw13_RlogMerge.l1.step; unfold tephralaw13_RlogMerge.l1.body
      refine Br.yes (by simp; omega) ⟨⟨by omega, by omega⟩, _, hcell H' j m (by omega), ?_⟩
      have hp : -1000 ≤ (if j = 0 then i else p2) ∧ (if j = 0 then i else p2) ≤ 1000 := by split <;> omega
      generalize (if j = 0 then i else p2) = p at hp ⊢
      have wp : w64 (p + 1) = p + 1 := w64_id (by omega) (by omega)
      have next : ∀ H'', Mod (fun _ => False) H3 H'' → tephralaw13_RlogMerge.l1 J0 says more (u.toNat : Int) (v.toNat : Int) (c.toNat : Int) H2 b t y H'' (w64 ((j : Int) + 1)) (trueQ H) := by
        intro H'' m''
        rw [w64_id (x := (j : Int) + 1) (by omega) (by omega)]
        have := ih (j + 1) H'' (by omega) m''
        simpa using this
      have elen : ∀ n t, (ents (sb.take 80) n t).length ≤ 80 := fun n t => by rw [ents_length]; simp; omega
      have k2 : ∀ (w : Sl) (q : Int) (H5 : Hp) (new : List En) (z : Bool), w64 (Int.tmod (c.toNat : Int) 7) = q → Mod (fun _ => False) H3 H5 → Lr H5 w new → new.length ≤ 80 → (z = true → 1 < w.len) → tephralaw13_RlogMerge.k2 J0 says more (u.toNat : Int) (v.toNat : Int) (c.toNat : Int) H2 b t y (j : Int) p H5 w z (trueQ H) := by
        intro w q H5 new z hq m5 hw hwl hz
        have hwl' := hw.len
        apply tephralaw13_RlogMerge.k2.step; unfold tephralaw13_RlogMerge.k2.body
        rw [hq]
        refine Br.mk (fun h => ?_) (fun h => ?_)
        · have h1 := hz h
          have hcut := hw.cut (n := 1) (by omega)
          refine ⟨⟨by omega, by omega⟩, lb_step (H0 := H3) (Merge_spec (x := y) (es := es) (z := ⟨cutA w.a w.cap 1 8, w.len - 1, w.cap - 1⟩) (by omega) hp (by simp; omega) (by omega) (e3.mod m5) hcut) m5 fun a1 H6 n6 m6 g6 => lb_step (H0 := H3) (lmerge_spec (x := y) (es := es) (z := ⟨cutA w.a w.cap 1 8, w.len - 1, w.cap - 1⟩) sm.Idx (by omega) hp (by simp; omega) (by omega) (e3.mod (moreHoles m6 1)) (hcut.mod (n6.trans (Mod.holes _ _ 1)))) (moreHoles m6 1) fun a2 H7 n7 m7 g7 => ?_⟩
          have g6' := g6.mod ((Mod.holes (fun _ => False) H6 1).trans n7)
          have hl6 := g6.len
          have hlb := mergeL_length b t es p q (new.drop 1)
          rw [List.length_drop] at hlb
          refine Br.no (by simp) (bool_step (H0 := H3) (Same_spec (g6'.mod (Mod.holes _ _ 1)) (g7.mod (Mod.holes _ _ 1)) (by omega)) (moreHoles m7 1) fun H8 m8 => ?_)
          rw [sameB_refl]
          apply tephralaw13_RlogMerge.k3.step; unfold tephralaw13_RlogMerge.k3.body
          exact Br.no rfl (next H8 m8)
        · refine lb_step (H0 := H3) (Merge_spec (x := y) (es := es) (z := w) (by omega) hp (by omega) (by omega) (e3.mod m5) hw) m5 fun a1 H6 n6 m6 g6 => lb_step (H0 := H3) (lmerge_spec (x := y) (es := es) (z := w) sm.Idx (by omega) hp (by omega) (by omega) (e3.mod (moreHoles m6 1)) (hw.mod (n6.trans (Mod.holes _ _ 1)))) (moreHoles m6 1) fun a2 H7 n7 m7 g7 => ?_
          have g6' := g6.mod ((Mod.holes (fun _ => False) H6 1).trans n7)
          have hl6 := g6.len
          have hlb := mergeL_length b t es p q new
          refine Br.no (by simp) (bool_step (H0 := H3) (Same_spec (g6'.mod (Mod.holes _ _ 1)) (g7.mod (Mod.holes _ _ 1)) (by omega)) (moreHoles m7 1) fun H8 m8 => ?_)
          rw [sameB_refl]
          apply tephralaw13_RlogMerge.k4.step; unfold tephralaw13_RlogMerge.k4.body
          exact Br.no rfl (next H8 m8)
      have k5 : ∀ (w : Sl) (q : Int) (H5 : Hp) (new : List En) (z : Bool), Mod (fun _ => False) H3 H5 → Lr H5 w new → new.length ≤ 80 → (z = true → 1 < w.len) → tephralaw13_RlogMerge.k5 J0 says more (u.toNat : Int) (v.toNat : Int) (c.toNat : Int) H2 b t y (j : Int) p q H5 w z (trueQ H) := by
        intro w q H5 new z m5 hw hwl hz
        have hwl' := hw.len
        apply tephralaw13_RlogMerge.k5.step; unfold tephralaw13_RlogMerge.k5.body
        refine Br.mk (fun h => ?_) (fun h => ?_)
        · have h1 := hz h
          have hcut := hw.cut (n := 1) (by omega)
          refine ⟨⟨by omega, by omega⟩, lb_step (H0 := H3) (Merge_spec (x := y) (es := es) (z := ⟨cutA w.a w.cap 1 8, w.len - 1, w.cap - 1⟩) (by omega) hp (by simp; omega) (by omega) (e3.mod m5) hcut) m5 fun a1 H6 n6 m6 g6 => lb_step (H0 := H3) (lmerge_spec (x := y) (es := es) (z := ⟨cutA w.a w.cap 1 8, w.len - 1, w.cap - 1⟩) sm.Idx (by omega) hp (by simp; omega) (by omega) (e3.mod (moreHoles m6 1)) (hcut.mod (n6.trans (Mod.holes _ _ 1)))) (moreHoles m6 1) fun a2 H7 n7 m7 g7 => ?_⟩
          have g6' := g6.mod ((Mod.holes (fun _ => False) H6 1).trans n7)
          have hl6 := g6.len
          have hlb := mergeL_length b t es p q (new.drop 1)
          rw [List.length_drop] at hlb
          refine Br.no (by simp) (bool_step (H0 := H3) (Same_spec (g6'.mod (Mod.holes _ _ 1)) (g7.mod (Mod.holes _ _ 1)) (by omega)) (moreHoles m7 1) fun H8 m8 => ?_)
          rw [sameB_refl]
          apply tephralaw13_RlogMerge.k6.step; unfold tephralaw13_RlogMerge.k6.body
          exact Br.no rfl (next H8 m8)
        · refine lb_step (H0 := H3) (Merge_spec (x := y) (es := es) (z := w) (by omega) hp (by omega) (by omega) (e3.mod m5) hw) m5 fun a1 H6 n6 m6 g6 => lb_step (H0 := H3) (lmerge_spec (x := y) (es := es) (z := w) sm.Idx (by omega) hp (by omega) (by omega) (e3.mod (moreHoles m6 1)) (hw.mod (n6.trans (Mod.holes _ _ 1)))) (moreHoles m6 1) fun a2 H7 n7 m7 g7 => ?_
          have g6' := g6.mod ((Mod.holes (fun _ => False) H6 1).trans n7)
          have hl6 := g6.len
          have hlb := mergeL_length b t es p q new
          refine Br.no (by simp) (bool_step (H0 := H3) (Same_spec (g6'.mod (Mod.holes _ _ 1)) (g7.mod (Mod.holes _ _ 1)) (by omega)) (moreHoles m7 1) fun H8 m8 => ?_)
          rw [sameB_refl]
          apply tephralaw13_RlogMerge.k7.step; unfold tephralaw13_RlogMerge.k7.body
          exact Br.no rfl (next H8 m8)
      refine tb_step (H0 := H3) (term_spec nb (by omega) sm.Idx (e3.mod m)) m fun H4 m4 => ?_
      have k1 : ∀ z : Bool, tephralaw13_RlogMerge.k1 J0 says more (u.toNat : Int) (v.toNat : Int) (c.toNat : Int) H2 b t y (j : Int) p H4 (termAt b t es p).1 z (trueQ H) := by
        intro z
        apply tephralaw13_RlogMerge.k1.step; unfold tephralaw13_RlogMerge.k1.body
        have hrm4 := hrm.keep (m23.trans m4) fun _ _ e => e
        refine Br.mk (fun _ => ⟨by omega, by omega, es_step (H0 := H3) hrm4 hlm m4 fun w H5 _ m5 hw => ⟨by omega, Br.mk (fun _ => k2 w _ H5 _ _ rfl m5 hw (elen _ _) fun h => ?_) fun _ => k2 w _ H5 _ false rfl m5 hw (elen _ _) fun h => nomatch h⟩⟩) (fun _ => ⟨by omega, es_step (H0 := H3) hrm4 hlm m4 fun w H5 _ m5 hw => ⟨by omega, Br.mk (fun _ => k5 w _ H5 _ _ m5 hw (elen _ _) fun h => ?_) fun _ => k5 w _ H5 _ false m5 hw (elen _ _) fun h => nomatch h⟩⟩)
        · have := of_decide_eq_true h; omega
        · have := of_decide_eq_true h; omega
      exact Br.mk (fun _ => k1 true) fun _ => ⟨by omega, k1 _⟩
  exact loop 2 0 H3 (by omega) (Mod.refl _ _)
end
end Go.Proofs
