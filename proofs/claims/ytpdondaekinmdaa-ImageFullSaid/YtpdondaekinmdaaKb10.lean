/- LAYER 09: ImagePart (its awake asked). -/
import Derived.Test.YtpdondaekinmdaaKb9
import Derived.Test.YtpdondaekinmdaaKe2
set_option linter.all false
set_option linter.constructorNameAsVariable false
namespace Go.Proofs
open Go Go.KC

def AwakeT : Prop := ∀ H : Hp, SCalls Try.prog tephralaw09_awake.id [] H (trueQ H)

theorem May.sizes {c : Cm} (h : c.May) : c.key.size ≤ 8 ∧ c.value.size ≤ 16 ∧ c.old.size ≤ 16 := by
  obtain ⟨_, _, h1, h2, h3⟩ := h
  exact ⟨h3.elim (fun h => by omega) fun h => h.2.2.2.2.2.2, h1, h2⟩
theorem RowsOf.fine {es : List En} {n : Int} (h : RowsOf es n) : Fine es := fun e he => by
  have hr := h.right e he
  have hm := hr.2.2.2.2
  have := May.sizes hm
  exact ⟨hm.small, by rw [En.bytes_length]; omega⟩
theorem Fine.smallHd {fv : Int} {es : List En} (h : Fine es) : Small (hdB 2 fv fv :: es.map En.bytes) := h.bytes
theorem PtOK.uniq {xs : List UInt8} {fv : Int} {es es' : List En} {n n' : Nat} (h : PtOK xs fv es n) (h' : PtOK xs fv es' n') : es = es' ∧ n = n' := by
  have h1 := h.1
  rw [h'.1] at h1
  injection h1 with h1 h2
  injection h1 with h1 h3
  exact ⟨by rw [← (map_rd h.2.right).1, ← h3, (map_rd h'.2.right).1], h2.symm⟩
theorem hd26 (k f t : Int) : (frB (hdB k f t)).length = 26 := by rw [frB_len, hdB_len]

theorem flat_len106 : ∀ {l : List (List UInt8)}, (∀ y ∈ l, y.length ≤ 500) → (flatF l).length ≤ l.length * 509
  | [], _ => Nat.le_refl _
  | y :: l, h => by
    have ih := flat_len106 fun z hz => h z (List.mem_cons_of_mem _ hz)
    have := h y (List.mem_cons_self)
    rw [flatF_cons, List.length_append, frB_len, List.length_cons]; omega
theorem ptB_len500 {fv : Int} {es : List En} (h : ∀ e ∈ es, e.bytes.length ≤ 500) : (ptB fv es).length ≤ (es.length + 1) * 509 := by
  have := flat_len106 (l := hdB 2 fv fv :: es.map En.bytes) fun y hy => by
    rw [List.mem_cons, List.mem_map] at hy
    rcases hy with rfl | ⟨e, he, rfl⟩
    · rw [hdB_len]; omega
    · exact h e he
  rw [List.length_cons, List.length_map] at this
  exact this
theorem RowsOf.len500 {es : List En} {n : Int} (h : RowsOf es n) : ∀ e ∈ es, e.bytes.length ≤ 500 := fun e he => by
  have := May.sizes (h.right e he).2.2.2.2
  rw [En.bytes_length]; omega

section
variable {H : Hp}
theorem want_loop {x b : Sl} {fv cut : Int} {es : List En} {H0 : Hp} (hr : Rows H0 x 8 (es.map En.cells).flatten) (hl : es.length = x.len) (hf : Fine es) (hn : es.length ≤ 100) {Q : Value → Hp → Prop}
    (hQ : ∀ H1, Mod (fun _ => False) H0 H1 → tephralaw09_ImagePart.l1 J0 fv cut x b H1 ⟨(ptB fv es).toArray⟩ (es.length : Int) Q) :
    ∀ (d j : Nat) (H1 : Hp), j + d = es.length → Mod (fun _ => False) H0 H1 → tephralaw09_ImagePart.l1 J0 fv cut x b H1 ⟨(ptB fv (es.take j)).toArray⟩ (j : Int) Q := by
  intro d
  induction d with
  | zero =>
    intro j H1 hj m
    have : j = es.length := by omega
    subst this
    rw [List.take_length]
    exact hQ H1 m
  | succ d ih =>
    intro j H1 hj m
    have hjl : j < es.length := by omega
    obtain ⟨e, he⟩ : ∃ e, es[j]? = some e := ⟨_, List.getElem?_eq_getElem hjl⟩
    have hee : es[j] = e := by rw [List.getElem?_eq_getElem hjl] at he; exact Option.some.inj he
    apply tephralaw09_ImagePart.l1.step
    unfold tephralaw09_ImagePart.l1.body
    refine Br.mk (fun h => ?_) fun h => ?_
    rotate_left
    · have := of_decide_eq_false h; omega
    have hc := hf e (List.mem_of_getElem? he)
    obtain ⟨a, ha, hrow⟩ := row_get (f := En.cells) (by omega) (fun _ => rfl) (hr.keep m fun _ _ e => e) hjl
    rw [hee] at hrow
    refine ⟨⟨by omega, of_decide_eq_true h⟩, vPtr.mk a ha ⟨_, _, _, _, _, _, _, _, by rw [Int.toNat_natCast]; exact hrow, ?_⟩⟩
    rintro H3 rfl
    refine (cmBytes_spec (e := e) hc.1).mono ?_
    rintro r H4 ⟨w, rfl, o2, m2, f2⟩
    refine ⟨w, rfl, (form_spec (Own.rows o2)).mono ?_⟩
    rintro r H5 ⟨rfl, m5⟩
    have m02 : Mod (fun _ => False) H1 H5 := ((Mod.holes _ _ _).trans m2).trans m5
    have htake := ptB_len (fv := fv) (es := es.take j) fun e he => hf e (List.mem_of_mem_take he)
    rw [List.length_take] at htake
    have hfl := frB_len e.bytes
    have hfs : frS e.bytes = frB e.bytes := if_pos hc.2
    rw [hfs]
    refine ⟨_, rfl, by rw [ba_size, ba_size]; omega, ?_⟩
    have e1 : w64 ((j : Int) + 1) = ((j + 1 : Nat) : Int) := by rw [w64_id (by omega) (by omega)]; rfl
    rw [e1, ba_append, ← ptB_take he]
    exact ih (j + 1) H5 (by omega) (m.trans m02)

theorem take_flat {rows : List (List UInt8)} {m n : Nat} (h : (flatF (rows.take m)).length ≤ n) : (flatF rows).take (flatF (rows.take m)).length = flatF (rows.take m) := by
  conv => lhs; arg 2; rw [← List.take_append_drop m rows, flatF_append]
  exact List.take_left

theorem ImagePart_spec (hA : AwakeT) {says : Sl} {ss : List Sy} {fr cut : UInt16} (hr : Rows H says 6 (ss.map Sy.cells).flatten) (hl : ss.length = says.len) :
    SCalls Try.prog tephralaw09_ImagePart.id [.slice says.a says.len says.cap, .int .u16 (fr.toNat : Int), .int .u16 (cut.toNat : Int)] H (trueQ H) := by
  apply tephralaw09_ImagePart.calls
  unfold tephralaw09_ImagePart.vc
  have hfr := fr.toNat_lt
  have hcut := cut.toNat_lt
  rw [w64_id (x := (fr.toNat : Int)) (by omega) (by omega), w64_id (x := (fr.toNat : Int) + 1) (by omega) (by omega)]
  refine (hA H).mono ?_
  rintro r H1 ⟨rfl, m1⟩
  refine ⟨true, rfl, Br.no rfl ((Entries_spec (hr.keep m1 fun _ _ e => e) hl).mono ?_)⟩
  rintro r H2 ⟨x, rfl, o2, l2, f2, b2⟩
  generalize hes : ents (ss.take 80) ((fr.toNat : Int) + 1) 1 = es at o2 l2
  have h80 : (ss.take 80).length ≤ 80 := by rw [List.length_take]; omega
  have hes80 : es.length ≤ 80 := by rw [← hes, ents_length]; exact h80
  have hR : RowsOf es ((fr.toNat : Int) + 1) := by rw [← hes]; exact ents_row (by omega) (by omega) (by omega) (by omega)
  generalize hfv : (fr.toNat : Int) = fv at *
  have hfvr : 0 ≤ fv ∧ fv < 65536 := by omega
  have hf := hR.fine
  have m2 := m1.trans f2.mod
  refine ⟨x, rfl, (part_spec (fv := fv) (Own.rows o2) l2.symm hf (by omega)).mono ?_⟩
  rintro r H3 ⟨b, rfl, o3, m3, f3⟩
  refine ⟨b, rfl, law_head_spec.mono ?_⟩
  rintro r H4 ⟨rfl, m4⟩
  refine ⟨_, rfl, ?_⟩
  have hptl := ptB_len500 (fv := fv) hR.len500
  have o4 := o3.keep m4 fun _ _ e => e
  have hbl : (ptB fv es).length = b.len := by have := o3.1; simpa using this
  have x4 := (Own.rows o2).keep (m3.trans m4) fun _ _ e => e
  have m24 := (m2.trans m3).trans m4
  have := want_loop (b := b) (fv := fv) (cut := (cut.toNat : Int)) x4 l2.symm hf (by omega) (Q := trueQ H) ?_ es.length 0 H4 (by omega) (Mod.refl _ _)
  · rw [List.take_zero] at this
    have e : ptB fv [] = frB (hdB 2 fv fv) := by simp [ptB, flatF]
    rw [e] at this
    exact this
  intro H5 m5
  apply tephralaw09_ImagePart.l1.step
  unfold tephralaw09_ImagePart.l1.body
  refine Br.mk (fun h => ?_) fun _ => ?_
  · have := of_decide_eq_true h; omega
  have r5 := (Own.rows o4).keep m5 fun _ _ e => e
  refine b2s_imp (b2s_rows r5 rfl) ?_
  rintro s rfl
  refine Br.no (by simp) ?_
  rw [w64_id (x := fv) (by omega) (by omega), w64_id (x := ((b.len : Nat) : Int) + 1) (by omega) (by omega), w64_id (x := (cut.toNat : Int)) (by omega) (by omega)]
  have et : Int.tmod (cut.toNat : Int) (((b.len : Nat) : Int) + 1) = ((cut.toNat % (b.len + 1) : Nat) : Int) := by
    rw [Int.tmod_eq_emod_of_nonneg (by omega), Int.natCast_emod, Int.natCast_add]; rfl
  rw [et]
  have hn : cut.toNat % (b.len + 1) < b.len + 1 := Nat.mod_lt _ (by omega)
  generalize cut.toNat % (b.len + 1) = n at hn et ⊢
  refine ⟨by omega, ⟨by omega, by have := r5.2.1; omega⟩, ?_⟩
  rw [Int.toNat_natCast]
  have r5n := Rows.take r5 (n := n) (by omega)
  rw [Nat.mul_one, ← List.map_take] at r5n
  have hcb := r5.2.1
  refine (ReadPart_spec (x := ⟨cutA b.a b.cap 0 1, n, b.cap⟩) (xs := (ptB fv es).take n) (fv := fv) (by omega) r5n (by rw [List.length_take]; omega)).mono ?_
  rintro r H6 ⟨m6, hp⟩
  obtain ⟨m, c1, c2, c3, c4⟩ := frames_cut (Fine.smallHd (fv := fv) hf) n
  rw [List.length_cons, List.length_map] at c1 c3
  have c4' : frames ((ptB fv es).take n) = ((hdB 2 fv fv :: es.map En.bytes).take m, (flatF ((hdB 2 fv fv :: es.map En.bytes).take m)).length) := c4
  have mm6 := (m24.trans m5).trans m6
  by_cases h26 : n < 26
  · -- no head
    have hm0 : m = 0 := by
      cases m with
      | zero => rfl
      | succ m =>
        rw [List.take_succ_cons, flatF_cons, List.length_append, hd26] at c2
        omega
    subst hm0
    rcases hp with ⟨es', n', out, hp, -⟩ | ⟨-, rfl⟩
    · have := hp.1
      rw [c4'] at this
      simp at this
    · refine ⟨⟨none, 0, 0⟩, 0, 10, rfl, Br.yes (decide_eq_true (by omega)) (Br.yes rfl ?_)⟩
      apply tephralaw09_ImagePart.k1.step
      unfold tephralaw09_ImagePart.k1.body
      exact Br.yes rfl ⟨rfl, mm6⟩
  · obtain ⟨m, rfl⟩ : ∃ k, m = k + 1 := ⟨m - 1, by
      cases m with
      | zero =>
        have := c3 (by omega)
        rw [List.take_succ_cons, flatF_cons, List.length_append, hd26] at this
        simp [flatF] at this
        omega
      | succ m => rfl⟩
    rw [List.take_succ_cons, ← List.map_take] at c4' c2
    have hok : PtOK ((ptB fv es).take n) fv (es.take m) (ptB fv (es.take m)).length := ⟨c4', by rw [w64_id (by omega) (by omega)]; exact hR.take m⟩
    rcases hp with ⟨es', n', out, hp, rfl, o6, l6, b6⟩ | ⟨hno, -⟩
    rotate_left
    · exact absurd hok (hno _ _)
    obtain ⟨rfl, rfl⟩ := hp.uniq hok
    clear hp
    have hml : (es.take m).length = m := by rw [List.length_take]; omega
    have hL : (ptB fv (es.take m)).length ≤ n := c2
    have last : ∀ H7, Mod (fun _ => False) H6 H7 → tephralaw09_ImagePart.k2 J0 fv (cut.toNat : Int) x b out false H7 (trueQ H) := fun H7 m7 => by
      apply tephralaw09_ImagePart.k2.step
      unfold tephralaw09_ImagePart.k2.body
      refine Br.no rfl ?_
      have r7 := (r5.keep m6 fun _ _ e => e).keep m7 fun _ _ e => e
      rw [w64_id (x := fv) (by omega) (by omega), w64_id (x := fv + 1) (by omega) (by omega), w64_id (x := ((b.len : Nat) : Int) + 1) (by omega) (by omega), w64_id (x := (cut.toNat : Int)) (by omega) (by omega), et]
      refine (ReadPart_spec (fv := fv + 1) (by omega) r7 (by omega)).mono ?_
      rintro r H8 ⟨m8, hp8⟩
      have mm8 := (mm6.trans m7).trans m8
      rcases hp8 with ⟨es8, n8, out8, hp8, -⟩ | ⟨-, rfl⟩
      · exfalso
        have h1 := hp8.1
        have h2 : frames (ptB fv es) = (hdB 2 fv fv :: es.map En.bytes, _) := frames_flat (Fine.smallHd hf)
        rw [h2] at h1
        injection h1 with h1 _
        injection h1 with h1 _
        have := hdB_inj (by omega) (by omega) (by omega) (by omega) (by omega) (by omega) h1
        omega
      refine ⟨⟨none, 0, 0⟩, 0, 10, rfl, Br.yes rfl (Br.mk (fun _ => ⟨rfl, mm8⟩) fun hlt => ?_)⟩
      have hlt' : m < es.length := by
        have : ¬ (out.len : Int) = (x.len : Int) := by simpa using hlt
        omega
      rw [w64_id (x := ((out.len : Nat) : Int) + 1) (by omega) (by omega)]
      have hcx := o2.2.1
      refine ⟨⟨by omega, by omega⟩, ?_⟩
      have ec : (((out.len : Nat) : Int) + 1).toNat = m + 1 := by omega
      rw [ec]
      have x8 := ((((x4.keep m5 fun _ _ e => e).keep m6 fun _ _ e => e).keep m7 fun _ _ e => e).keep m8 fun _ _ e => e)
      have x8t := Rows.take x8 (n := m + 1) (by omega)
      rw [← flat_take (f := En.cells) (k := 8) (fun _ => rfl)] at x8t
      refine (part_spec (fv := fv) x8t (by show (es.take (m + 1)).length = m + 1; rw [List.length_take]; omega) (fun e he => hf e (List.mem_of_mem_take he)) (by rw [List.length_take]; omega)).mono ?_
      rintro r H9 ⟨w, rfl, o9, m9, -⟩
      have hwl : (ptB fv (es.take (m + 1))).length = w.len := by have := o9.1; simpa using this
      have c3' := c3 (by omega)
      rw [List.take_succ_cons, ← List.map_take] at c3'
      have c3'' : n < (ptB fv (es.take (m + 1))).length := c3'
      refine ⟨w, rfl, ?_, mm8.trans m9⟩
      rw [decide_eq_true (by omega)]
    have ept : flatF ((hdB 2 fv fv :: es.map En.bytes).take (m + 1)) = ptB fv (es.take m) := by rw [List.take_succ_cons, ← List.map_take]; rfl
    have eT : (ptB fv es).take (ptB fv (es.take m)).length = ptB fv (es.take m) := by
      have := take_flat (rows := hdB 2 fv fv :: es.map En.bytes) (m := m + 1) (n := n) (by rw [ept]; exact hL)
      rw [ept] at this
      exact this
    have hout := Own.rows o6
    have hfo : Fine (es.take m) := fun e he => hf e (List.mem_of_mem_take he)
    have cutR : ∀ H7, Mod (fun _ => False) H6 H7 → Rows H7 ⟨cutA b.a b.cap 0 1, (ptB fv (es.take m)).length, b.cap⟩ 1 ((ptB fv (es.take m)).map bv) := fun H7 m7 => by
      have := Rows.take ((r5.keep m6 fun _ _ e => e).keep m7 fun _ _ e => e) (n := (ptB fv (es.take m)).length) (by omega)
      rw [Nat.mul_one, ← List.map_take, eT] at this
      exact this
    have hd : decide (((ptB fv (es.take m)).length : Int) > (n : Int)) = false := decide_eq_false (by omega)
    refine ⟨out, _, 0, rfl, Br.no (decide_eq_false (by omega)) (Br.no rfl (Br.no (decide_eq_false (by omega)) ⟨⟨by omega, by omega⟩, ?_, ?_⟩))⟩
    · refine (part_spec (fv := fv) hout (by rw [hml]; omega) hfo (by omega)).mono ?_
      rintro r H7 ⟨w, rfl, o7, m7, -⟩
      refine ⟨w, rfl, b2s_imp (b2s_rows (Own.rows o7) rfl) ?_, b2s_imp (b2s_rows (cutR H7 m7) (Int.toNat_natCast _)) ?_⟩
      · rintro s rfl
        refine b2s_imp (b2s_rows (cutR H7 m7) (Int.toNat_natCast _)) ?_
        rintro s rfl
        refine Br.no (by simp) ?_
        rw [hd]
        exact last H7 m7
      · rintro s rfl
        refine b2s_imp (b2s_rows (Own.rows o7) rfl) ?_
        rintro s rfl
        refine Br.no (by simp) ?_
        rw [hd]
        exact last H7 m7
    · refine b2s_imp (b2s_rows (cutR H6 (Mod.refl _ _)) (Int.toNat_natCast _)) ?_
      rintro s rfl
      refine (part_spec (fv := fv) hout (by rw [hml]; omega) hfo (by omega)).mono ?_
      rintro r H7 ⟨w, rfl, o7, m7, -⟩
      refine ⟨w, rfl, b2s_imp (b2s_rows (Own.rows o7) rfl) ?_⟩
      rintro s rfl
      refine Br.no (by simp) ?_
      rw [hd]
      exact last H7 m7
end
end Go.Proofs
