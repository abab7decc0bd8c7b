/- LAYER 06: reading; rows of entries; entries of says. -/
import Derived.Test.YtgogmmhkelenkaaKq3
set_option linter.all false
set_option linter.constructorNameAsVariable false
namespace Go.Proofs
open Go Go.KC

section
variable {H : Hp}
theorem get_spec {b : Nat} {D : List Nat} {bad : Bool} {xs : List UInt8} (h : Rd H b D bad xs) :
    SCalls Try.prog cmds_get.id [.pointer (some ⟨b, 0, none⟩)] H fun r H' => r = (rdCm bad xs).1.val ∧ Mod (· = b) H H' ∧ Rd H' b D (rdCm bad xs).2.1 (rdCm bad xs).2.2 := by
  apply cmds_get.calls
  unfold cmds_get.vc
  have m0 : Mod (fun _ => False) H (holes H 1) := Mod.holes _ _ _
  have mm : ∀ {A B : Hp}, Mod (fun _ => False) A B → Mod (· = b) A B := fun k => k.mono fun _ _ e => e.elim
  refine (Reader_Byte_spec (h.keep m0 id fun _ _ e => e)).mono ?_
  rintro r H1 ⟨rfl, m1, h1⟩
  have m1' : Mod (fun _ => False) H1 (holes H1 1) := Mod.holes _ _ _
  refine ⟨_, rfl, (Reader_Num_spec (h1.keep m1' id fun _ _ e => e)).mono ?_⟩
  rintro r H2 ⟨rfl, m2, h2⟩
  refine ⟨_, rfl, (Reader_Num_spec h2).mono ?_⟩
  rintro r H3 ⟨rfl, m3, h3⟩
  refine ⟨_, rfl, (Reader_Text_spec h3).mono ?_⟩
  rintro r H4 ⟨rfl, m4, h4⟩
  refine ⟨_, rfl, (Reader_Text_spec h4).mono ?_⟩
  rintro r H5 ⟨rfl, m5, h5⟩
  refine ⟨_, rfl, (Reader_Text_spec h5).mono ?_⟩
  rintro r H6 ⟨rfl, m6, h6⟩
  have hr := rdByte_range bad xs
  refine ⟨_, rfl, ?_, ((mm m0).trans (m1.trans ((mm m1').trans (m2.trans (m3.trans (m4.trans (m5.trans m6))))))), h6⟩
  rw [w64_id (by omega) (by omega)]
  rfl

/-- An entry and whether it is one. -/
def rdVal (p : En × Bool) : Value := .tuple #[p.1.val, .bool p.2]

theorem Read_spec {x : Sl} {xs : List UInt8} (h : Rows H x 1 (xs.map bv)) (hlt : ∀ g ∈ x.blk, g < H.size) :
    SCalls Try.prog cmds_Read.id [.slice x.a x.len x.cap] H (TellPost H (rdVal (rdEn xs))) := by
  apply cmds_Read.calls
  unfold cmds_Read.vc
  have m0 : Mod (fun _ => False) H (holes H 1) := Mod.holes _ _ _
  have s0 := m0.size
  refine (Of_spec (keepF h m0) (fun _ h => h) fun g hg => Nat.lt_of_lt_of_le (hlt g hg) s0).mono ?_
  rintro r H1 ⟨rfl, m1, h1⟩
  have f0 : Fresh (holes H 1) (holes H 1) := Mod.refl _ _
  have f1 : Fresh (holes H 1) H1 := f0.step m1 fun _ h => h.elim
  refine ⟨_, rfl, (Reader_Num_spec h1).mono ?_⟩
  rintro r H2 ⟨rfl, m2, h2⟩
  have f2 := f1.step m2 fun g hg => by omega
  have m2' : Mod (fun _ => False) H2 (holes H2 1) := Mod.holes _ _ _
  refine ⟨_, rfl, (Reader_Num_spec (h2.keep m2' id fun _ _ e => e)).mono ?_⟩
  rintro r H3 ⟨rfl, m3, h3⟩
  have f3 := (f2.step m2' fun _ h => h.elim).step m3 fun g hg => by omega
  refine ⟨_, rfl, (get_spec h3).mono ?_⟩
  rintro r H4 ⟨rfl, m4, h4⟩
  have f4 := f3.step m4 fun g hg => by omega
  refine ⟨_, _, _, _, _, _, rfl, (Reader_Done_spec h4).mono ?_⟩
  rintro r H5 ⟨rfl, rfl⟩
  refine ⟨_, rfl, ?_⟩
  have hE : rdEn xs = if ((rdCm (rdNum (rdNum false xs).2.1 (rdNum false xs).2.2).2.1 (rdNum (rdNum false xs).2.1 (rdNum false xs).2.2).2.2).2.1 = false ∧ (rdCm (rdNum (rdNum false xs).2.1 (rdNum false xs).2.2).2.1 (rdNum (rdNum false xs).2.1 (rdNum false xs).2.2).2.2).2.2 = []) ∧ En.Right ⟨(rdNum false xs).1, (rdNum (rdNum false xs).2.1 (rdNum false xs).2.2).1, (rdCm (rdNum (rdNum false xs).2.1 (rdNum false xs).2.2).2.1 (rdNum (rdNum false xs).2.1 (rdNum false xs).2.2).2.2).1⟩ then (⟨(rdNum false xs).1, (rdNum (rdNum false xs).2.1 (rdNum false xs).2.2).1, (rdCm (rdNum (rdNum false xs).2.1 (rdNum false xs).2.2).2.1 (rdNum (rdNum false xs).2.1 (rdNum false xs).2.2).2.2).1⟩, true) else (En.zero, false) := rfl
  rw [hE]
  generalize rdCm (rdNum (rdNum false xs).2.1 (rdNum false xs).2.2).2.1 (rdNum (rdNum false xs).2.1 (rdNum false xs).2.2).2.2 = c
  generalize (rdNum (rdNum false xs).2.1 (rdNum false xs).2.2).1 = t
  generalize (rdNum false xs).1 = i
  have hd : (!c.2.1 && c.2.2.isEmpty) = decide (c.2.1 = false ∧ c.2.2 = []) := by
    rcases c with ⟨c1, c2, c3⟩
    cases c2 <;> cases c3 <;> rfl
  rw [hd]
  by_cases h1 : c.2.1 = false ∧ c.2.2 = []
  · rw [decide_eq_true h1]
    refine Br.no rfl ((cmds_Right_spec (e := ⟨i, t, c.1⟩)).mono ?_)
    rintro r H6 ⟨rfl, m6⟩
    refine ⟨_, rfl, ?_⟩
    have f6 := f4.step m6 fun _ h => h.elim
    by_cases h2 : En.Right ⟨i, t, c.1⟩
    · rw [decide_eq_true h2, if_pos ⟨h1, h2⟩]
      exact Br.no rfl ⟨rfl, m0.trans f6.mod⟩
    · rw [decide_eq_false h2, if_neg fun h => h2 h.2]
      exact Br.yes rfl ⟨rfl, m0.trans f6.mod⟩
  · rw [decide_eq_false h1, if_neg fun h => h1 h.1]
    exact Br.yes rfl ⟨rfl, m0.trans f4.mod⟩

/-- A row of cells of a slice whose elements are of k cells each. -/
theorem row_get {α : Type} {f : α → List Value} {k : Nat} (hk : 0 < k) (hf : ∀ c, (f c).length = k) {H : Hp} {x : Sl} {cs : List α} (h : Rows H x k (cs.map f).flatten) {j : Nat} (hj : j < cs.length) :
    ∃ a, x.a = some a ∧ RowAt H (a.add (j * k)) (f cs[j]) := by
  have key : ∀ (l : List α) (j : Nat) (hj : j < l.length) (i : Nat) (v : Value), (f l[j])[i]? = some v → (l.map f).flatten[j * k + i]? = some v := by
    intro l
    induction l with
    | nil => intro j hj; simp at hj
    | cons p t ih =>
      intro j hj i v hv
      have hp := hf p
      rw [List.map_cons, List.flatten_cons]
      cases j with
      | zero =>
        have hv' : (f p)[i]? = some v := hv
        rw [Nat.zero_mul, Nat.zero_add, List.getElem?_append_left (List.getElem?_eq_some_iff.1 hv').1]; exact hv'
      | succ j =>
        rw [List.getElem?_append_right (by rw [hp, Nat.add_mul]; omega), hp, show (j + 1) * k + i - k = j * k + i by rw [Nat.add_mul]; omega]
        exact ih j (by simpa using hj) i v hv
  have hfl : ∀ l : List α, (l.map f).flatten.length = l.length * k := by
    intro l
    induction l with
    | nil => simp
    | cons p t ih => rw [List.map_cons, List.flatten_cons, List.length_append, ih, hf, List.length_cons, Nat.add_mul]; omega
  have hl : cs.length = x.len := by
    have := h.1; rw [hfl] at this; exact Nat.eq_of_mul_eq_mul_right hk this
  cases ha : x.a with
  | none => have h1 := h.2.2.2 ha; have h2 := h.2.1; omega
  | some a =>
    refine ⟨a, rfl, fun i v hv => ?_⟩
    have h1 := h.2.2.1 a ha (j * k + i) v (key cs j hj i v hv)
    obtain ⟨u, hu⟩ : ∃ u, (f cs[j])[0]? = some u := ⟨(f cs[j])[0]'(by rw [hf]; exact hk), List.getElem?_eq_getElem _⟩
    have h0 := h.2.2.1 a ha (j * k + 0) _ (key cs j hj 0 _ hu)
    have hs := spot_of_cell h0
    by_cases hz : j * k = 0
    · rw [hz] at h1 ⊢; rw [Nat.zero_add] at h1; rw [add_zero_of]; exact h1
    · have : (a.add (j * k)).add i = a.add (j * k + i) := by
        obtain ⟨b, o, s⟩ := a
        by_cases hi : i = 0
        · subst hi; rw [add_zero_of]; rfl
        · unfold Addr.add
          rw [if_neg hz, if_neg hi, if_neg (by omega)]
          simp [Nat.add_assoc]
      rw [this]; exact h1
theorem flat_length {α : Type} {f : α → List Value} {k : Nat} (hf : ∀ c, (f c).length = k) : ∀ l : List α, (l.map f).flatten.length = l.length * k
  | [] => by simp
  | p :: t => by rw [List.map_cons, List.flatten_cons, List.length_append, flat_length hf t, hf, List.length_cons, Nat.add_mul]; omega

/-- Entries stand behind one another. -/
def RowsOf (es : List En) (n : Int) : Prop := ∀ j (hj : j < es.length), es[j].Right ∧ es[j].index = w64 (n + (j : Int)) ∧ ∀ h0 : 0 < j, (es[j - 1]'(by omega)).term ≤ es[j].term
instance (es : List En) (n : Int) : Decidable (RowsOf es n) := by unfold RowsOf; infer_instance

theorem Row_loop {H0 : Hp} {x : Sl} {es : List En} {n : Int} (hr : Rows H0 x 8 (es.map En.cells).flatten) (hl : es.length = x.len) (hx : x.len ≤ 9223372036854775807) :
    ∀ (d j : Nat) (H : Hp), j + d = x.len → Mod (fun _ => False) H0 H → (∀ i (hi : i < es.length), i < j → es[i].Right ∧ es[i].index = w64 (n + (i : Int)) ∧ ∀ h0 : 0 < i, (es[i - 1]'(by omega)).term ≤ es[i].term) →
      cmds_Row.l1 J0 x n H (j : Int) (TellPost H0 (.bool (decide (RowsOf es n)))) := by
  intro d
  induction d with
  | zero =>
    intro j H hj hm hp
    apply cmds_Row.l1.step
    unfold cmds_Row.l1.body
    refine Br.no (by simp; omega) ⟨?_, hm⟩
    rw [decide_eq_true (show RowsOf es n from fun i hi => hp i hi (by omega))]
  | succ d ih =>
    intro j H hj hm hp
    apply cmds_Row.l1.step
    unfold cmds_Row.l1.body
    have hjl : j < es.length := by omega
    have hrH : Rows H x 8 (es.map En.cells).flatten := hr.keep hm fun _ _ e => e
    obtain ⟨a, ha, hrow⟩ := row_get (k := 8) (f := En.cells) (by omega) (fun _ => rfl) hrH hjl
    refine Br.yes (by simp; omega) ⟨⟨by omega, by omega⟩, vPtr.mk a ha ⟨_, _, _, _, _, _, _, _, by simpa [En.cells] using hrow, (cmds_Right_spec (e := es[j])).mono ?_⟩⟩
    rintro r H1 ⟨rfl, m1⟩
    have m1' : Mod (fun _ => False) H0 H1 := hm.trans ((Mod.holes (fun _ => False) H 1).trans m1)
    refine ⟨_, rfl, ?_⟩
    by_cases h1 : es[j].Right
    · rw [decide_eq_true h1]
      refine Br.no rfl ?_
      by_cases h2 : es[j].index = w64 (n + (j : Int))
      · refine Br.no (by simp [h2]) ?_
        have next : (∀ h0 : 0 < j, (es[j - 1]'(by omega)).term ≤ es[j].term) → cmds_Row.l1 J0 x n H1 (w64 ((j : Int) + 1)) (TellPost H0 (.bool (decide (RowsOf es n)))) := by
          intro h3
          rw [w64_id (x := (j : Int) + 1) (by omega) (by omega)]
          have := ih (j + 1) H1 (by omega) m1' (fun i hi hij => by
            by_cases hc : i < j
            · exact hp i hi hc
            · obtain rfl : i = j := by omega
              exact ⟨h1, h2, h3⟩)
          simpa using this
        by_cases h0 : 0 < j
        · refine Br.yes (by simp; omega) ?_
          rw [w64_id (x := (j : Int) - 1) (by omega) (by omega)]
          refine ⟨⟨by omega, by omega⟩, ?_⟩
          have hrH1 : Rows H1 x 8 (es.map En.cells).flatten := hr.keep m1' fun _ _ e => e
          obtain ⟨a1, ha1, hrow1⟩ := row_get (k := 8) (f := En.cells) (by omega) (fun _ => rfl) hrH1 (show j - 1 < es.length by omega)
          refine vPtr.mk a1 ha1 ⟨(es[j - 1]'(by omega)).term, ?_, ?_⟩
          · have := hrow1 1 (.int .i64 (es[j - 1]'(by omega)).term) rfl
            have e : ((j : Int) - 1).toNat = j - 1 := by omega
            rw [e]; exact this
          · by_cases h3 : es[j].term < (es[j - 1]'(by omega)).term
            · refine Br.yes (decide_eq_true h3) ⟨?_, m1'⟩
              rw [decide_eq_false fun hR : RowsOf es n => by have := (hR j hjl).2.2 h0; omega]
            · exact Br.no (decide_eq_false h3) (next fun _ => by omega)
        · exact Br.no (by simp; omega) (next fun h => absurd h h0)
      · refine Br.yes (by simpa using h2) ⟨?_, m1'⟩
        rw [decide_eq_false fun hR : RowsOf es n => h2 (hR j hjl).2.1]
    · rw [decide_eq_false h1]
      refine Br.yes rfl ⟨?_, m1'⟩
      rw [decide_eq_false fun hR : RowsOf es n => h1 (hR j hjl).1]

theorem Row_spec {x : Sl} {es : List En} {n : Int} (hr : Rows H x 8 (es.map En.cells).flatten) (hl : es.length = x.len) (hx : x.len ≤ 9223372036854775807) :
    SCalls Try.prog cmds_Row.id [.slice x.a x.len x.cap, .int .i64 n] H (TellPost H (.bool (decide (RowsOf es n)))) := by
  apply cmds_Row.calls
  exact Row_loop hr hl hx x.len 0 H (by omega) (Mod.refl _ _) (fun i _ h => absurd h (by omega))

/-! Entries of says -/
def upT (s : Sy) (t : Int) : Int := if s.op.toNat > 230 then w64 (t + 1) else t
/-- The entries that says are: the j-th one on, of a term on. -/
def entsGo (n : Int) : List Sy → Nat → Int → List En
  | [], _, _ => []
  | s :: r, j, t => ⟨w64 (n + (j : Int)), upT s t, s.cmd⟩ :: entsGo n r (j + 1) (upT s t)
def ents (l : List Sy) (n t : Int) : List En := entsGo n l 0 t
theorem entsGo_length (n : Int) : ∀ (l : List Sy) (j : Nat) (t : Int), (entsGo n l j t).length = l.length
  | [], _, _ => rfl
  | s :: r, j, t => by simp [entsGo, entsGo_length n r]
theorem ents_length (l : List Sy) (n t : Int) : (ents l n t).length = l.length := entsGo_length n l 0 t

theorem und_ents : Try.prog.underlying T_sl_api_Entry = some (.slice T_api_Entry) := by kernel_rfl
theorem inf_en : (Try.prog.info? T_api_Entry).map (fun i => (i.zero, i.size, i.bytes)) = some (some En.zero.val, 8, 88) := by kernel_rfl
theorem en_info : ∃ ti, Try.prog.info? T_api_Entry = some ti ∧ ti.zero = some En.zero.val ∧ ti.size = 8 ∧ ti.bytes = 88 := by
  have h := inf_en
  cases hi : Try.prog.info? T_api_Entry with
  | none => rw [hi] at h; simp at h
  | some ti => rw [hi] at h; simp at h; exact ⟨ti, rfl, h.1, h.2.1, h.2.2⟩
theorem allOne_ents : ∀ l : List En, allOne (l.map En.cells).flatten = true
  | [] => rfl
  | e :: r => by
    rw [List.map_cons, List.flatten_cons]
    show allOne (_ :: _ :: _ :: _ :: _ :: _ :: _ :: _ :: (r.map En.cells).flatten) = true
    simp [allOne, Value.oneCell', allOne_ents r]

theorem cells_src {H : Hp} {e : TypeId} (cs : List Value) (k : Nat) (hk : cs.length = k) : SrcAt (Array.push H (.cells cs.toArray e)) k 1 (.slice (some (Addr.mk (Array.size H) 0 none)) 1 1) cs := by
  refine ⟨by omega, fun j v hj => ?_⟩
  rw [Addr.add_loc, cell_of (get_push_new H _), Nat.zero_add]
  simpa using hj

/-- An entry is laid behind entries. -/
theorem ents_app {H H1 : Hp} {x : Sl} {es : List En} {e : En} {K : Sl → Hp → Prop} (h : Own H x T_api_Entry 8 (es.map En.cells).flatten) (hm : Mod (fun _ => False) H H1) (hl : x.len ≤ 1000000)
    (hK : ∀ x' H', Own H' x' T_api_Entry 8 ((es ++ [e]).map En.cells).flatten → x'.len = x.len + 1 → Mod (· ∈ x.blk) H H' → (∀ b ∈ x'.blk, b ∈ x.blk ∨ H.size ≤ b) → K x' H') :
    vApp Try.prog T_sl_api_Entry x.a x.len x.cap (.slice (some (Addr.mk (Array.size H1) 0 none)) 1 1) (Array.push H1 (.cells e.cells.toArray T_api_Entry)) K := by
  obtain ⟨ti, hi, hz, hsz, hby⟩ := en_info
  have m1 : Mod (fun _ => False) H (Array.push H1 (.cells e.cells.toArray T_api_Entry)) := hm.trans (Mod.push _ _ _)
  have h' := h.keep m1 (fun _ _ e => e)
  refine Own.app (e := T_api_Entry) (ti := ti) (z := En.zero.val) (cs := (es.map En.cells).flatten) (news := e.cells) (by rw [hsz]; exact h') und_ents hi hz (by rw [hsz]; rfl) (by omega) (by rw [hsz]; exact cells_src _ 8 rfl) (by rw [hsz]; rfl) (by have := allOne_ents [e]; simpa using this) (by simp only [srcLen]; rw [hby]; omega) ?_
  intro x' H2 ho hxl hmod hblk _
  rw [hsz] at ho
  refine hK x' H2 (by rw [List.map_append, List.flatten_append]; simpa using ho) hxl ((m1.mono fun _ _ e => e.elim).trans hmod) fun b hb => (hblk b hb).imp id fun h => by have := m1.size; omega

theorem Entries_loop {H0 : Hp} {says : Sl} {ss : List Sy} {n : Int} (hr : Rows H0 says 6 (ss.map Sy.cells).flatten) (hl : ss.length = says.len) {Q : Value → Hp → Prop} {L : List En}
    (hQ : ∀ (x : Sl) H', Own H' x T_api_Entry 8 (L.map En.cells).flatten → x.len = L.length → Fresh H0 H' → (∀ g ∈ x.blk, H0.size ≤ g) → Q (.slice x.a x.len x.cap) H') :
    ∀ (d j : Nat) (H : Hp) (t : Int) (out : Sl) (pre : List En), j + d = min 80 says.len → Fresh H0 H → Own H out T_api_Entry 8 (pre.map En.cells).flatten → out.len = pre.length → pre.length = j → (∀ g ∈ out.blk, H0.size ≤ g) →
      pre ++ entsGo n ((ss.take (min 80 says.len)).drop j) j t = L → tephralaw06_Entries.l1 J0 says n H t out (j : Int) Q := by
  have e : (if (80 : Int) < ((says.len : Nat) : Int) then (80 : Int) else ((says.len : Nat) : Int)).toNat = min 80 says.len := min_toNat 80 says.len
  intro d
  induction d with
  | zero =>
    intro j H t out pre hj hf ho hol hpl hb hL
    apply tephralaw06_Entries.l1.step
    unfold tephralaw06_Entries.l1.body
    rw [e]
    rw [List.drop_eq_nil_of_le (by simp; omega)] at hL
    rw [show entsGo n [] j t = [] from rfl, List.append_nil] at hL
    subst hL
    exact Br.no (by simp; omega) (hQ out H ho hol hf hb)
  | succ d ih =>
    intro j H t out pre hj hf ho hol hpl hb hL
    apply tephralaw06_Entries.l1.step
    unfold tephralaw06_Entries.l1.body
    rw [e]
    have hjl : j < ss.length := by omega
    obtain ⟨a, ha, hrow⟩ := row_get (k := 6) (f := Sy.cells) (by omega) (fun _ => rfl) (hf.rows hr) hjl
    have hdrop : (ss.take (min 80 says.len)).drop j = ss[j] :: (ss.take (min 80 says.len)).drop (j + 1) := by
      rw [List.drop_eq_getElem_cons (by simp; omega)]; simp
    rw [hdrop] at hL
    have hL' : pre ++ (⟨w64 (n + (j : Int)), upT ss[j] t, ss[j].cmd⟩ :: entsGo n ((ss.take (min 80 says.len)).drop (j + 1)) (j + 1) (upT ss[j] t)) = L := hL
    have k1 : tephralaw06_Entries.k1 J0 says n H out (j : Int) (ss[j].op.toNat : Int) (ss[j].client.toNat : Int) (ss[j].seq.toNat : Int) (ss[j].key.toNat : Int) (ss[j].value.toNat : Int) (ss[j].old.toNat : Int) (upT ss[j] t) Q := by
      apply tephralaw06_Entries.k1.step
      unfold tephralaw06_Entries.k1.body
      refine (Say_Cmd_spec (s := ss[j])).mono ?_
      rintro r H2 ⟨rfl, m2⟩
      refine ⟨_, _, _, _, _, _, rfl, ?_⟩
      have m2' : Mod (fun _ => False) H H2 := (Mod.holes _ _ _).trans m2
      refine ents_app (e := ⟨w64 (n + (j : Int)), upT ss[j] t, ss[j].cmd⟩) ho m2' (by omega) ?_
      intro x' H3 ho' hxl hm hblk
      rw [w64_id (x := (j : Int) + 1) (by omega) (by omega)]
      have := ih (j + 1) H3 (upT ss[j] t) x' (pre ++ [⟨w64 (n + (j : Int)), upT ss[j] t, ss[j].cmd⟩]) (by omega) (hf.step hm fun g hg => hb g hg) ho' (by simp; omega) (by simp; omega)
        (fun g hg => (hblk g hg).elim (hb g) fun h => Nat.le_trans hf.size h) (by rw [List.append_assoc]; exact hL')
      simpa using this
    refine Br.yes (by simp; omega) ⟨⟨by omega, by omega⟩, vPtr.mk a (by rw [cutA_zero]; exact ha) ⟨_, _, _, _, _, _, by simpa [Sy.cells] using hrow, Br.mk (fun h => ?_) (fun h => ?_)⟩⟩
    · have h' := of_decide_eq_true h
      have eu : upT ss[j] t = w64 (t + 1) := by unfold upT; rw [if_pos (by omega)]
      rw [← eu]; exact k1
    · have h' := of_decide_eq_false h
      have eu : upT ss[j] t = t := by unfold upT; rw [if_neg (by omega)]
      rw [eu] at k1; exact k1

theorem Entries_spec {says : Sl} {ss : List Sy} {n t : Int} (hr : Rows H says 6 (ss.map Sy.cells).flatten) (hl : ss.length = says.len) :
    SCalls Try.prog tephralaw06_Entries.id [.slice says.a says.len says.cap, .int .i64 n, .int .i64 t] H fun r H' => ∃ x : Sl, r = .slice x.a x.len x.cap ∧ Own H' x T_api_Entry 8 ((ents (ss.take 80) n t).map En.cells).flatten ∧ x.len = (ents (ss.take 80) n t).length ∧ Fresh H H' ∧ ∀ g ∈ x.blk, H.size ≤ g := by
  apply tephralaw06_Entries.calls
  have hx := hr.2.1
  refine ⟨⟨by split <;> omega, by split <;> omega⟩, ?_⟩
  have e80 : ss.take (min 80 says.len) = ss.take 80 := by
    by_cases h : 80 ≤ says.len
    · rw [Nat.min_eq_left h]
    · rw [Nat.min_eq_right (by omega), List.take_of_length_le (by omega), List.take_of_length_le (by omega)]
  refine Entries_loop hr hl (L := ents (ss.take 80) n t) (fun x H' h1 h2 h3 h4 => ⟨x, rfl, h1, h2, h3, h4⟩) (min 80 says.len) 0 H t ⟨none, 0, 0⟩ [] (by omega) (Mod.refl _ _) (Own.nil _ _ _) rfl rfl (fun g hg => by simp [Sl.blk] at hg) ?_
  rw [e80]; rfl

/-- What says are, may be. -/
theorem entsGo_row {n : Int} : ∀ (l : List Sy) (j : Nat) (t : Int), 1 ≤ n + (j : Int) → n + (j : Int) + l.length ≤ 1048577 → 0 ≤ t → t + l.length ≤ 1048576 →
    ∀ i (hi : i < (entsGo n l j t).length), (entsGo n l j t)[i].Right ∧ (entsGo n l j t)[i].index = n + (j : Int) + (i : Int) ∧ t ≤ (entsGo n l j t)[i].term ∧ ∀ h0 : 0 < i, ((entsGo n l j t)[i - 1]'(by omega)).term ≤ (entsGo n l j t)[i].term
  | [], _, _, _, _, _, _, i, hi => by simp [entsGo] at hi
  | s :: r, j, t, h1, h2, h3, h4, i, hi => by
    simp only [List.length_cons] at h2 h4
    have e1 : w64 (n + (j : Int)) = n + (j : Int) := w64_id (by omega) (by omega)
    have hu : t ≤ upT s t ∧ upT s t ≤ t + 1 := by
      unfold upT
      split
      · rw [w64_id (by omega) (by omega)]; omega
      · omega
    cases i with
    | zero =>
      refine ⟨⟨?_, ?_, ?_, ?_, s.may⟩, ?_, hu.1, fun h => absurd h (by omega)⟩
      · show 1 ≤ w64 _; rw [e1]; omega
      · show w64 _ ≤ _; rw [e1]; omega
      · show 0 ≤ upT s t; omega
      · show upT s t ≤ _; omega
      · show w64 _ = _; rw [e1]; simp
    | succ i =>
      have hi' : i < (entsGo n r (j + 1) (upT s t)).length := by simpa [entsGo] using hi
      have ih := entsGo_row r (j + 1) (upT s t) (by omega) (by omega) (by omega) (by omega) i hi'
      refine ⟨ih.1, by have := ih.2.1; simp only [entsGo, List.getElem_cons_succ]; omega, by have := ih.2.2.1; simp only [entsGo, List.getElem_cons_succ]; omega, fun _ => ?_⟩
      cases i with
      | zero => exact ih.2.2.1
      | succ i => exact ih.2.2.2 (by omega)

theorem ents_row {l : List Sy} {n t : Int} (h1 : 1 ≤ n) (h2 : n + l.length ≤ 1048577) (h3 : 0 ≤ t) (h4 : t + l.length ≤ 1048576) : RowsOf (ents l n t) n := by
  intro j hj
  have := entsGo_row l 0 t (by omega) (by omega) h3 h4 j hj
  have hl := ents_length l n t
  refine ⟨this.1, ?_, this.2.2.2⟩
  rw [w64_id (by omega) (by omega)]
  have e := this.2.1
  rw [show n + ((0 : Nat) : Int) + (j : Int) = n + (j : Int) by omega] at e
  exact e
end
end Go.Proofs
