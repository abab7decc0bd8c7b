/- LAYER 06: CmdsRow, the walk. -/
import Derived.Test.YtgogmmhkelenkaaKq5
set_option linter.all false
set_option linter.constructorNameAsVariable false
namespace Go.Proofs
open Go Go.KC

/-- An element of a slice that one holds alone is set. -/
theorem own_put {H : Hp} {x : Sl} {e : TypeId} {k : Nat} {cs new : List Value} {i : Nat} (h : Own H x e k cs) (hi : i < x.len) (hn : new.length = k) (hk : 0 < k) :
    ∃ a, x.a = some a ∧ WrAt H (a.add (i * k)) k ∧ Own (Hp.setCells H (a.add (i * k)) new 0) x e k (cs.take (i * k) ++ new ++ cs.drop (i * k + k)) ∧ Mod (· ∈ x.blk) H (Hp.setCells H (a.add (i * k)) new 0) := by
  obtain ⟨h1, h2, ⟨ha, hc⟩ | ⟨g, cur, ha, hg, hs, ht⟩⟩ := h
  · omega
  have hik : i * k + k ≤ x.len * k := by rw [← Nat.succ_mul]; exact Nat.mul_le_mul_right _ hi
  have hck : x.len * k ≤ x.cap * k := Nat.mul_le_mul_right _ h2
  refine ⟨_, ha, ?_, ?_, ?_⟩
  · rw [Addr.add_loc, Nat.zero_add]
    intro j hj
    rw [Addr.add_loc, cell_of hg, frozen_of hg]
    exact ⟨by simp; omega, rfl⟩
  · rw [Addr.add_loc, Nat.zero_add]
    have hset := get_setCells new (i * k) 0 H cur hg (by omega)
    refine ⟨by simp; omega, h2, Or.inr ⟨g, _, ha, hset, ?_, ?_⟩⟩
    · simp; omega
    · simp only [Nat.add_zero]
      have hl : (cs.take (i * k) ++ new ++ cs.drop (i * k + k)).length = cs.length := by simp; omega
      rw [hl, ← ht, hn]
      apply List.ext_getElem?
      intro n
      simp only [List.getElem?_take, List.getElem?_append, List.getElem?_drop, List.length_append, List.length_take, hn]
      have e1 : min (i * k) cur.toList.length = i * k := by simp; omega
      have e3 : min cs.length cur.toList.length = cs.length := by simp; omega
      have e2 : min (i * k) cs.length = i * k := by omega
      rw [e3, e1, e2]
      by_cases c1 : n < cs.length
      · rw [if_pos c1]
        by_cases c2 : n < i * k
        · simp only [c2, show n < i * k + k by omega, if_true, c1]
        · by_cases c3 : n < i * k + k
          · simp only [c2, c3, if_true, if_false]
          · simp only [c3, if_false, show i * k + k + (n - (i * k + k)) = n by omega, c1, if_true]
      · rw [if_neg c1]
        have c3 : ¬ n < i * k + k := by omega
        simp only [c3, if_false, show i * k + k + (n - (i * k + k)) = n by omega, c1]
  · rw [Addr.add_loc, Nat.zero_add]
    refine ⟨by rw [size_setCells]; exact Nat.le_refl _, fun b _ hn => get_setCells_ne (by intro e; exact hn (by simp [Sl.blk, ha, e])) _ _ _⟩

theorem flat_set {α : Type} {f : α → List Value} {k : Nat} (hf : ∀ c, (f c).length = k) (l : List α) (i : Nat) (c : α) (hi : i < l.length) :
    ((l.set i c).map f).flatten = (l.map f).flatten.take (i * k) ++ f c ++ (l.map f).flatten.drop (i * k + k) := by
  rw [← flat_take hf, show i * k + k = (i + 1) * k by rw [Nat.add_mul]; omega, ← flat_drop hf]
  rw [List.set_eq_take_append_cons_drop, if_pos hi]
  simp

def RowAtP (es : List En) (n : Int) (j : Nat) (hj : j < es.length) : Prop := es[j].Right ∧ es[j].index = w64 (n + (j : Int)) ∧ ∀ h0 : 0 < j, (es[j - 1]'(by omega)).term ≤ es[j].term
def RowsTo (es : List En) (n : Int) (j : Nat) : Prop := ∀ i (hi : i < es.length), i < j → RowAtP es n i hi
theorem RowsTo.succ {es : List En} {n : Int} {j : Nat} (hj : j < es.length) : RowsTo es n (j + 1) ↔ RowsTo es n j ∧ RowAtP es n j hj := by
  constructor
  · intro h; exact ⟨fun i hi hij => h i hi (by omega), h j hj (by omega)⟩
  · rintro ⟨h1, h2⟩ i hi hij
    by_cases hc : i < j
    · exact h1 i hi hc
    · obtain rfl : i = j := by omega
      exact h2
theorem RowsTo.all {es : List En} {n : Int} : RowsTo es n es.length ↔ RowsOf es n :=
  ⟨fun h i hi => h i hi hi, fun h i hi _ => h i hi⟩

section
variable {H0 : Hp} {fr : UInt16} {turn : En} {H6 : Hp} {Q : Value → Hp → Prop}

theorem CR_l2 {x3 : Int} {x4 : Sl} {es : List En} {H7 : Hp} (hr : Rows H7 x4 8 (es.map En.cells).flatten) (hl : es.length = x4.len) (hx : x4.len ≤ 9223372036854775807)
    (hQ : ∀ H', Mod (fun _ => False) H7 H' → tephralaw06_CmdsRow.l1 J0 (fr.toNat : Int) turn.index turn.term turn.cmd.op turn.cmd.client turn.cmd.seq turn.cmd.key turn.cmd.value turn.cmd.old H6 H' (w64 (x3 + 1)) Q) :
    ∀ (d j : Nat) (H : Hp) (ok : Bool), j + d = x4.len → Mod (fun _ => False) H7 H → (ok = true ↔ RowsTo es ((fr.toNat : Int) + 1) j) →
      tephralaw06_CmdsRow.l2 J0 (fr.toNat : Int) turn.index turn.term turn.cmd.op turn.cmd.client turn.cmd.seq turn.cmd.key turn.cmd.value turn.cmd.old H6 x3 x4 H ok (j : Int) Q := by
  have hfr : fr.toNat < 65536 := UInt16.toNat_lt _
  have wf : w64 (w64 (fr.toNat : Int) + 1) = (fr.toNat : Int) + 1 := by rw [w64_id (x := (fr.toNat : Int)) (by omega) (by omega), w64_id (by omega) (by omega)]
  intro d
  induction d with
  | zero =>
    intro j H ok hj hm hok
    apply tephralaw06_CmdsRow.l2.step; unfold tephralaw06_CmdsRow.l2.body
    rw [wf]
    have hj' : j = es.length := by omega
    subst hj'
    refine Br.no (by simp; omega) ((Row_spec (hr.keep hm fun _ _ e => e) hl hx).mono ?_)
    rintro r H1 ⟨rfl, m1⟩
    have : decide (RowsOf es ((fr.toNat : Int) + 1)) = ok := by
      rw [RowsTo.all] at hok
      cases ok with
      | true => exact decide_eq_true (hok.1 rfl)
      | false => exact decide_eq_false fun h => nomatch hok.2 h
    refine ⟨_, rfl, Br.no (by rw [this]; simp) (hQ H1 (hm.trans m1))⟩
  | succ d ih =>
    intro j H ok hj hm hok
    have hjl : j < es.length := by omega
    have k2 : ∀ (b : Bool) (H' : Hp), Mod (fun _ => False) H7 H' → (b = true ↔ RowsTo es ((fr.toNat : Int) + 1) (j + 1)) →
        tephralaw06_CmdsRow.k2 J0 (fr.toNat : Int) turn.index turn.term turn.cmd.op turn.cmd.client turn.cmd.seq turn.cmd.key turn.cmd.value turn.cmd.old H6 x3 x4 (j : Int) b H' Q := by
      intro b H' m' hb
      apply tephralaw06_CmdsRow.k2.step; unfold tephralaw06_CmdsRow.k2.body
      rw [w64_id (x := (j : Int) + 1) (by omega) (by omega)]
      have := ih (j + 1) H' b (by omega) m' hb
      simpa using this
    rw [RowsTo.succ hjl] at k2
    apply tephralaw06_CmdsRow.l2.step; unfold tephralaw06_CmdsRow.l2.body
    rw [wf]
    have hrH : Rows H x4 8 (es.map En.cells).flatten := hr.keep hm fun _ _ e => e
    obtain ⟨a, ha, hrow⟩ := row_get (k := 8) (f := En.cells) (by omega) (fun _ => rfl) hrH hjl
    refine Br.yes (by simp; omega) ⟨⟨by omega, by omega⟩, vPtr.mk a ha ⟨_, _, _, _, _, _, _, _, by simpa [En.cells] using hrow, ?_⟩⟩
    cases ok with
    | false => exact Br.no rfl (k2 false _ (moreHoles hm 1) ⟨(fun h => nomatch h), fun h => hok.2 h.1⟩)
    | true =>
      refine Br.yes rfl (bool_step (law_right_spec (e := es[j])) (moreHoles hm 1) fun H1 m1 => ?_)
      have hto := hok.1 rfl
      by_cases h1 : es[j].Right
      · rw [decide_eq_true h1]
        refine Br.yes rfl ?_
        by_cases h2 : es[j].index = w64 ((fr.toNat : Int) + 1 + (j : Int))
        · refine Br.yes (by simp [h2]) ?_
          by_cases h0 : 0 < j
          · refine Br.no (by simp; omega) ?_
            rw [w64_id (x := (j : Int) - 1) (by omega) (by omega)]
            refine ⟨⟨by omega, by omega⟩, ?_⟩
            have hrH1 : Rows H1 x4 8 (es.map En.cells).flatten := hr.keep m1 fun _ _ e => e
            obtain ⟨a1, ha1, hrow1⟩ := row_get (k := 8) (f := En.cells) (by omega) (fun _ => rfl) hrH1 (show j - 1 < es.length by omega)
            refine vPtr.mk a1 ha1 ⟨(es[j - 1]'(by omega)).term, ?_, k2 _ H1 m1 ?_⟩
            · have := hrow1 1 (.int .i64 (es[j - 1]'(by omega)).term) rfl
              have e : ((j : Int) - 1).toNat = j - 1 := by omega
              rw [e]; exact this
            · constructor
              · intro h
                have h' := of_decide_eq_true h
                exact ⟨hto, h1, h2, fun _ => h'⟩
              · intro h
                exact decide_eq_true (h.2.2.2 h0)
          · exact Br.yes (by simp; omega) (k2 true H1 m1 ⟨fun _ => ⟨hto, h1, h2, fun h => absurd h h0⟩, fun _ => rfl⟩)
        · exact Br.no (by simpa using h2) (k2 false H1 m1 ⟨(fun h => nomatch h), fun h => absurd h.2.2.1 h2⟩)
      · rw [decide_eq_false h1]
        exact Br.no rfl (k2 false H1 m1 ⟨(fun h => nomatch h), fun h => absurd h.2.1 h1⟩)

theorem CR_l1 {sl : Nat → Sl} {L : Nat → List En} {H7 : Hp} (hc : ∀ i, i < 3 → Hp.cell? H7 ⟨H6.size, i, none⟩ = some (.slice (sl i).a (sl i).len (sl i).cap)) (hr : ∀ i, i < 3 → Rows H7 (sl i) 8 ((L i).map En.cells).flatten ∧ (L i).length = (sl i).len ∧ (sl i).len ≤ 9223372036854775807)
    (hQ : ∀ H', Mod (fun _ => False) H7 H' → Q (.bool true) H') :
    ∀ (d j : Nat) (H : Hp), j + d = 3 → Mod (fun _ => False) H7 H → tephralaw06_CmdsRow.l1 J0 (fr.toNat : Int) turn.index turn.term turn.cmd.op turn.cmd.client turn.cmd.seq turn.cmd.key turn.cmd.value turn.cmd.old H6 H (j : Int) Q := by
  have hlt : H6.size < H7.size := by
    have h0 := hc 0 (by omega)
    unfold Hp.cell? at h0
    cases hg : H7[H6.size]? with
    | none => rw [hg] at h0; cases h0
    | some o => exact lt_of_get hg
  intro d
  induction d with
  | zero =>
    intro j H hj hm
    apply tephralaw06_CmdsRow.l1.step; unfold tephralaw06_CmdsRow.l1.body
    exact Br.no (by simp; omega) (hQ H hm)
  | succ d ih =>
    intro j H hj hm
    apply tephralaw06_CmdsRow.l1.step; unfold tephralaw06_CmdsRow.l1.body
    obtain ⟨h1, h2, h3⟩ := hr j (by omega)
    refine Br.yes (by simp; omega) ⟨⟨by omega, by omega⟩, sl j, ?_, ?_⟩
    · have := hc j (by omega)
      have e : (j : Int).toNat * 1 = j := by omega
      rw [e, Addr.add_loc, Nat.zero_add]
      unfold Hp.cell? at this ⊢
      rw [hm.keep _ hlt fun e => e]; exact this
    · refine CR_l2 (h1.keep hm fun _ _ e => e) h2 h3 (fun H' m' => ?_) (sl j).len 0 H true (by omega) (Mod.refl _ _) ⟨fun _ i _ h => absurd h (by omega), fun _ => rfl⟩
      rw [w64_id (x := (j : Int) + 1) (by omega) (by omega)]
      have := ih (j + 1) H' (by omega) (hm.trans m')
      simpa using this
end

section
variable {H : Hp}
theorem CmdsRow_spec {says raw : Sl} {ss : List Sy} {rs : List En} {f : UInt16} {c : UInt8} {turn : En} (hr : Rows H says 6 (ss.map Sy.cells).flatten) (hl : ss.length = says.len)
    (hraw : Rows H raw 8 (rs.map En.cells).flatten) (hlr : rs.length = raw.len) (hrx : raw.len ≤ 9223372036854775807) :
    SCalls Try.prog tephralaw06_CmdsRow.id [.slice says.a says.len says.cap, .int .u16 (f.toNat : Int), .int .u8 (c.toNat : Int), turn.val, .slice raw.a raw.len raw.cap] H (trueQ H) := by
  apply tephralaw06_CmdsRow.calls
  unfold tephralaw06_CmdsRow.vc
  have hc : c.toNat < 256 := UInt8.toNat_lt _
  have hf : f.toNat < 65536 := UInt16.toNat_lt _
  have wc : w64 (c.toNat : Int) = (c.toNat : Int) := w64_id (by omega) (by omega)
  have wf : w64 (w64 (f.toNat : Int) + 1) = (f.toNat : Int) + 1 := by rw [w64_id (x := (f.toNat : Int)) (by omega) (by omega), w64_id (by omega) (by omega)]
  rw [wc, wf]
  refine law_awake (n := 1) fun H1 m1 => (Entries_spec (hr.keep m1 fun _ _ e => e) hl).mono ?_
  rintro r H2 ⟨x, rfl, ho, hxl, f2, hb⟩
  have hlen : (ents (ss.take 80) ((f.toNat : Int) + 1) 2).length ≤ 80 := by rw [ents_length]; simp; omega
  have hlen' : (ss.take 80).length ≤ 80 := by simp; omega
  have hR : RowsOf (ents (ss.take 80) ((f.toNat : Int) + 1) 2) ((f.toNat : Int) + 1) := ents_row (by omega) (by omega) (by omega) (by omega)
  generalize ents (ss.take 80) ((f.toNat : Int) + 1) 2 = es at *
  refine ⟨x, rfl, (Row_spec (Own.rows ho) hxl.symm (by omega)).mono ?_⟩
  rintro r H3 ⟨rfl, m3⟩
  rw [decide_eq_true hR]
  refine ⟨_, rfl, Br.no rfl ?_⟩
  have s1 := m1.size
  have F1 : Fresh H H1 := (show Fresh H H from Mod.refl _ _).step m1 fun _ h => h.elim
  have F2 : Fresh H H2 := F1.step f2 fun g hg => Nat.le_trans s1 hg
  have F3 : Fresh H H3 := F2.step m3 fun _ h => h.elim
  have ho3 := Own.keep ho m3 (fun _ _ e => e)
  have hbx : ∀ g ∈ x.blk, H.size ≤ g := fun g hg => Nat.le_trans s1 (hb g hg)
  have hxlt := Own.lt ho3
  obtain ⟨ti, hi, hz, hsz, hby⟩ := en_info
  refine Own.app (x := ⟨none, 0, 0⟩) (e := T_api_Entry) (ti := ti) (z := En.zero.val) (cs := []) (news := (es.map En.cells).flatten) (Own.nil _ _ _) und_ents hi hz (by rw [hsz]; rfl) (by omega) (by rw [hsz]; exact Own.src ho3)
    (by rw [hsz, flat_length (f := En.cells) (k := 8) (fun _ => rfl)]; simp only [srcLen]; omega) (allOne_ents es) (by simp only [srcLen]; rw [hby]; omega) ?_
  intro ap H4 hap hapl hmap hapb _
  rw [hsz, List.nil_append] at hap
  have m4 : Mod (fun _ => False) H3 H4 := hmap.mono fun g _ hg => by simp [Sl.blk] at hg
  have hapn : ∀ g ∈ ap.blk, g = H3.size := fun g hg => (hapb g hg).elim (fun h => by simp [Sl.blk] at h) id
  have F4 : Fresh H H4 := F3.step m4 fun _ h => h.elim
  have hapl' : ap.len = es.length := by rw [hapl]; simp [srcLen, hxl]
  have ho4 := Own.keep ho3 m4 (fun _ _ e => e)
  have s3 := F3.size
  have apart : ∀ g ∈ ap.blk, g ∉ x.blk := fun g hg hgx => by have := hapn g hg; have := hxlt g hgx; omega
  have k1 : ∀ (H5 : Hp) (ys : List En), ys.length = es.length → Fresh H H5 → Own H5 x T_api_Entry 8 (es.map En.cells).flatten → Own H5 ap T_api_Entry 8 (ys.map En.cells).flatten →
      tephralaw06_CmdsRow.k1 J0 (f.toNat : Int) turn.index turn.term turn.cmd.op turn.cmd.client turn.cmd.seq turn.cmd.key turn.cmd.value turn.cmd.old raw x ap H5 (trueQ H) := by
    intro H5 ys hys F5 hox hoap
    apply tephralaw06_CmdsRow.k1.step; unfold tephralaw06_CmdsRow.k1.body
    refine ents_app (e := turn) hox (Mod.refl _ _) (by omega) ?_
    intro x' H6 ho' hxl' hm6 hb6
    have F6 : Fresh H H6 := F5.step hm6 fun g hg => hbx g hg
    have hoap6 := Own.keep hoap hm6 (fun g hg e => apart g hg e)
    have mp : Mod (fun _ => False) H6 (Array.push H6 (.cells #[.slice ap.a ap.len ap.cap, .slice raw.a raw.len raw.cap, .slice x'.a x'.len x'.cap] T_sl_api_Entry)) := Mod.push _ _ _
    have F7 := F6.step mp fun _ h => h.elim
    refine CR_l1 (sl := fun i => match i with | 0 => ap | 1 => raw | _ => x') (L := fun i => match i with | 0 => ys | 1 => rs | _ => es ++ [turn]) (fun i hi => ?_) (fun i hi => ?_) (fun H' m' => ⟨rfl, (F7.step m' fun _ h => h.elim).mod⟩) 3 0 _ (by omega) (Mod.refl _ _)
    · rw [cell_of (get_push_new H6 _)]
      rcases (by omega : i = 0 ∨ i = 1 ∨ i = 2) with rfl | rfl | rfl <;> rfl
    · rcases (by omega : i = 0 ∨ i = 1 ∨ i = 2) with rfl | rfl | rfl
      · exact ⟨(Own.rows hoap6).keep mp (fun _ _ e => e), by simp only; omega, by simp only; omega⟩
      · exact ⟨F7.rows hraw, hlr, hrx⟩
      · exact ⟨(Own.rows ho').keep mp (fun _ _ e => e), by simp; omega, by simp only; omega⟩
  refine Br.mk (fun hp => ?_) (fun hp => k1 H4 es rfl F4 ho4 hap)
  have hp' : 0 < ap.len := by have := of_decide_eq_true hp; omega
  have hm : c.toNat % ap.len < ap.len := Nat.mod_lt _ hp'
  rw [tmodN]
  simp only [Int.toNat_natCast]
  obtain ⟨a, ha, hw, hput, mput⟩ := own_put (new := turn.cells) hap hm rfl (by omega)
  rw [← flat_set (f := En.cells) (k := 8) (fun _ => rfl) es _ turn (by omega)] at hput
  exact ⟨by omega, ⟨by omega, by omega⟩, vPtr.mk a ha ⟨hw, k1 _ _ (by simp) (F4.step mput fun g hg => by have := hapn g hg; omega) (Own.keep ho4 mput fun g hg e => apart g e hg) hput⟩⟩
end
end Go.Proofs
