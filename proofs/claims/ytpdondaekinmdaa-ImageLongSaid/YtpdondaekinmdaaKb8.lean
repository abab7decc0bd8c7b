/- LAYER 09: entries of a file: ReadPart; a file of entries: the law's part. -/
import Derived.Test.YtpdondaekinmdaaKb7
set_option linter.all false
set_option linter.constructorNameAsVariable false
namespace Go.Proofs
open Go Go.KC

def PtOK (xs : List UInt8) (fv : Int) (es : List En) (n : Nat) : Prop :=
  frames xs = (hdB 2 fv fv :: es.map En.bytes, n) ∧ RowsOf es (w64 (fv + 1))
theorem rd_map : ∀ {l : List (List UInt8)}, (∀ y ∈ l, (rdEn y).2 = true) → (l.map fun y => (rdEn y).1).map En.bytes = l
  | [], _ => rfl
  | y :: l, h => by
    rw [List.map_cons, List.map_cons, rd_map fun z hz => h z (List.mem_cons_of_mem _ hz), (rdEn_ok (h y (List.mem_cons_self))).2]
theorem RowsOf.right {es : List En} {n : Int} (h : RowsOf es n) : ∀ e ∈ es, e.Right := fun e he => by
  obtain ⟨i, hi, rfl⟩ := List.getElem_of_mem he
  exact (h i hi).1
theorem map_rd : ∀ {es : List En}, (∀ e ∈ es, e.Right) → (es.map En.bytes).map (fun y => (rdEn y).1) = es ∧ ∀ y ∈ es.map En.bytes, (rdEn y).2 = true
  | [], _ => ⟨rfl, fun y hy => by simp at hy⟩
  | e :: es, h => by
    have ih := map_rd fun z hz => h z (List.mem_cons_of_mem _ hz)
    have he := rdEn_bytes (h e (List.mem_cons_self))
    refine ⟨by rw [List.map_cons, List.map_cons, ih.1, he], fun y hy => ?_⟩
    rw [List.map_cons, List.mem_cons] at hy
    rcases hy with rfl | hy
    · rw [he]
    · exact ih.2 y hy

section
variable {H : Hp} {x : Sl} {xs : List UInt8} {fv : Int}
/-- What ReadPart answers. -/
def PtPost (H : Hp) (xs : List UInt8) (fv : Int) (r : Value) (H' : Hp) : Prop :=
  Mod (fun _ => False) H H' ∧ ((∃ es n out, PtOK xs fv es n ∧ r = .tuple #[.slice (Sl.a out) out.len out.cap, .int .i64 (n : Int), .int .i64 0] ∧ Own H' out T_api_Entry 8 (es.map En.cells).flatten ∧ es.length = out.len ∧ ∀ q ∈ out.blk, H.size ≤ q) ∨
  ((∀ es n, ¬ PtOK xs fv es n) ∧ r = .tuple #[.slice none 0 0, .int .i64 0, .int .i64 10]))

theorem Part_loop {H0 : Hp} {out : Sl} {zs : List Sl} {y0 : List UInt8} {rows : List (List UInt8)} {n : Nat} (hf : frames xs = (y0 :: rows, n)) (hy0 : y0 = hdB 2 fv fv) (hr : RlAt H0 out zs (y0 :: rows)) (hb : rows.length ≤ 900000) {H : Hp} (hm : Mod (fun _ => False) H H0) :
    ∀ (d j : Nat) (H1 : Hp) (o : Sl), j + d = rows.length → Mod (fun _ => False) H0 H1 → (∀ y ∈ rows.take j, (rdEn y).2 = true) → Own H1 o T_api_Entry 8 (((rows.take j).map fun y => (rdEn y).1).map En.cells).flatten → o.len = j → (∀ q ∈ o.blk, H0.size ≤ q) →
      image_ReadPart.l1 J0 fv out (n : Int) H1 o (j : Int) (PtPost H xs fv) := by
  intro d
  have hol : zs.length = out.len := by have := hr.1.1; simpa using this
  have hn := hr.2.1
  rw [List.length_cons] at hn
  have no : ∀ {y : List UInt8}, y ∈ rows → (rdEn y).2 = false → ∀ es m, ¬ PtOK xs fv es m := fun hy hbad es m hp => by
    have h1 := hp.1
    rw [hf] at h1
    injection h1 with h1 h2
    injection h1 with h1 h3
    have := (map_rd hp.2.right).2 _ (h3 ▸ hy)
    rw [hbad] at this
    exact Bool.noConfusion this
  induction d with
  | zero =>
    intro j H1 o hj m1 hs ho hlen hq
    have hjl : rows.take j = rows := List.take_of_length_le (by omega)
    rw [hjl] at ho hs
    apply image_ReadPart.l1.step
    unfold image_ReadPart.l1.body
    refine Br.mk (fun h => ?_) fun _ => ?_
    · have := of_decide_eq_true h; omega
    have hl : (rows.map fun y => (rdEn y).1).length = o.len := by rw [List.length_map]; omega
    refine (Row_spec (Own.rows ho) hl (by omega)).mono ?_
    rintro r H2 ⟨rfl, m2⟩
    refine ⟨_, rfl, ?_⟩
    have mm := (hm.trans m1).trans m2
    by_cases hR : RowsOf (rows.map fun y => (rdEn y).1) (w64 (fv + 1))
    · rw [decide_eq_true hR]
      refine Br.no rfl ⟨mm, Or.inl ⟨_, n, o, ⟨?_, hR⟩, rfl, ho.keep m2 fun _ _ e => e, hl, fun q hq' => Nat.le_trans hm.size (hq q hq')⟩⟩
      rw [rd_map hs, hf, hy0]
    · rw [decide_eq_false hR]
      refine Br.yes rfl ⟨mm, Or.inr ⟨fun es m hp => hR ?_, rfl⟩⟩
      have h1 := hp.1
      rw [hf] at h1
      injection h1 with h1 h2
      injection h1 with h1 h3
      rw [h3, (map_rd hp.2.right).1]
      exact hp.2
  | succ d ih =>
    intro j H1 o hj m1 hs ho hlen hq
    have hjl : j < rows.length := by omega
    obtain ⟨y, hy⟩ : ∃ y, rows[j]? = some y := ⟨_, List.getElem?_eq_getElem hjl⟩
    obtain ⟨z, hz⟩ : ∃ z, zs[j + 1]? = some z := ⟨_, List.getElem?_eq_getElem (by omega)⟩
    apply image_ReadPart.l1.step
    unfold image_ReadPart.l1.body
    refine Br.mk (fun h => ?_) fun h => ?_
    rotate_left
    · have := of_decide_eq_false h; omega
    have hd := Rows.drop (keepF hr.1 m1) (n := 1) (by omega)
    obtain ⟨a, ha, hc⟩ := Rows.get hd (j := j) (v := slV z) (by rw [List.getElem?_drop, Nat.one_mul, Nat.add_comm, List.getElem?_map, hz]; rfl)
    refine ⟨⟨by omega, of_decide_eq_true h⟩, vPtr.mk a ha ⟨z, by rw [Int.toNat_natCast, Nat.mul_one]; exact hc, ?_⟩⟩
    have hyz := hr.2.2.1 (j + 1) z y hz (by rw [List.getElem?_cons_succ]; exact hy)
    refine (cmRead_spec (keepF hyz m1) fun g hg => Nat.lt_of_lt_of_le (hr.2.2.2 z (List.mem_of_getElem? hz) g hg) m1.size).mono ?_
    rintro r H2 ⟨rfl, m2⟩
    refine ⟨_, _, _, _, _, _, _, _, _, rfl, ?_⟩
    rintro H3 rfl
    have m3 : Mod (fun _ => False) H2 (holes H2 1) := Mod.holes _ _ _
    have m23 := m2.trans m3
    cases hok : (rdEn y).2 with
    | false =>
      refine Br.yes rfl ⟨(hm.trans m1).trans m23, Or.inr ⟨no (List.mem_of_getElem? hy) hok, rfl⟩⟩
    | true =>
      refine Br.no rfl ?_
      rintro b rfl H4 rfl
      refine ents_app (e := (rdEn y).1) ho m23 (by omega) fun ap H5 o5 l5 m5 b5 => ?_
      have e1 : w64 ((j : Int) + 1) = ((j + 1 : Nat) : Int) := by rw [w64_id (by omega) (by omega)]; rfl
      rw [e1]
      have et : rows.take (j + 1) = rows.take j ++ [y] := by rw [List.take_add_one, hy]; rfl
      have s1 := m1.size
      refine ih (j + 1) H5 ap (by omega) (m1.trans' m5 fun q hq' h => by have := hq q h; omega) (fun y' hy' => ?_) ?_ (by omega) fun q hq' => ?_
      · rw [et, List.mem_append, List.mem_singleton] at hy'
        rcases hy' with h | rfl
        · exact hs _ h
        · exact hok
      · rw [et, List.map_append]; exact o5
      · rcases b5 q hq' with h | h
        · exact hq q h
        · omega

theorem ba_toList_beq (a b : List UInt8) : ((ByteArray.mk a.toArray).toList == (ByteArray.mk b.toArray).toList) = decide (a = b) := by
  rw [beq_list]
  by_cases h : a = b
  · subst h; simp
  · rw [decide_eq_false h, decide_eq_false fun e => h (by injection e with e; simpa using e)]

theorem ReadPart_spec (hfv : -9223372036854775808 ≤ fv ∧ fv ≤ 9223372036854775807) (hx : Rows H x 1 (xs.map bv)) (hl : xs.length ≤ 8000000) : SCalls Try.prog image_ReadPart.id [.slice x.a x.len x.cap, .int .i64 fv] H (PtPost H xs fv) := by
  apply image_ReadPart.calls
  unfold image_ReadPart.vc
  have bad : ∀ (H1 : Hp) (o : Sl) (n : Int), Mod (fun _ => False) H H1 → (∀ es n, ¬ PtOK xs fv es n) → image_ReadPart.k1 J0 fv o n true H1 (PtPost H xs fv) := fun H1 o n m hno => by
    apply image_ReadPart.k1.step
    unfold image_ReadPart.k1.body
    exact Br.yes rfl ⟨m, Or.inr ⟨hno, rfl⟩⟩
  refine (imgRows_spec hx hl).mono ?_
  rintro r H1 (⟨hbad, rfl, m1⟩ | ⟨hgood, out, zs, rfl, rl, m1⟩)
  · have hno : ∀ es n, ¬ PtOK xs fv es n := fun es n hp => by
      unfold rowsBad at hbad
      rw [hp.1] at hbad
      rcases hbad with h | ⟨h, -⟩ | h
      · simp at h
      · omega
      · exact h (hdOK_hdB (by omega) hfv hfv)
    refine ⟨⟨none, 0, 0⟩, _, _, rfl, Br.yes (by simp) ?_⟩
    have := bad H1 ⟨none, 0, 0⟩ 0 m1 hno
    exact ⟨⟨this, this, this⟩, this, this⟩
  · refine ⟨out, _, _, rfl, Br.no (by simp) ?_⟩
    have hne : (frames xs).1 ≠ [] := fun h => hgood (Or.inl h)
    obtain ⟨y0, rows, hfr⟩ := List.exists_cons_of_ne_nil hne
    have hn := rl.2.1
    rw [hfr, List.length_cons] at hn
    have hol : zs.length = out.len := by have := rl.1.1; simpa using this
    have hfl := frames_len xs
    rw [hfr, List.length_cons] at hfl
    have hfe : frames xs = (y0 :: rows, (frames xs).2) := by rw [← hfr]
    rw [hfr] at rl
    obtain ⟨z, hz⟩ : ∃ z, zs[0]? = some z := ⟨_, List.getElem?_eq_getElem (by omega)⟩
    obtain ⟨a, ha, hc⟩ := Rows.get rl.1 (j := 0) (v := slV z) (by rw [List.getElem?_map, hz]; rfl)
    rw [add_zero_of] at hc
    have hy0 := rl.2.2.1 0 z y0 hz rfl
    have fin : ∀ (H3 : Hp) (b : Bool), Mod (fun _ => False) H1 H3 → b = !(decide (y0 = hdB 2 fv fv)) → image_ReadPart.k1 J0 fv out ((frames xs).2 : Int) b H3 (PtPost H xs fv) := fun H3 b m hb => by
      by_cases hh : y0 = hdB 2 fv fv
      · rw [decide_eq_true hh] at hb
        subst hb
        apply image_ReadPart.k1.step
        unfold image_ReadPart.k1.body
        refine Br.no rfl ⟨by omega, ?_⟩
        exact Part_loop hfe hh (rl.keep m) (by omega) (m1.trans m) rows.length 0 H3 ⟨none, 0, 0⟩ (by omega) (Mod.refl _ _) (by simp) (Own.nil _ _ _) rfl (by simp [Sl.blk])
      · rw [decide_eq_false hh] at hb
        subst hb
        refine bad _ _ _ (m1.trans m) fun es n hp => hh ?_
        have h1 := hp.1
        rw [hfe] at h1
        injection h1 with h1 h2
        injection h1
    have e1 : ∀ H3, Mod (fun _ => False) H1 H3 → image_ReadPart.k1 J0 fv out ((frames xs).2 : Int) (!((ByteArray.mk y0.toArray).toList == (ByteArray.mk (hdB 2 fv fv).toArray).toList)) H3 (PtPost H xs fv) := fun H3 m => fin H3 _ m (by rw [ba_toList_beq])
    refine ⟨by omega, vPtr.mk a ha ⟨⟨z, hc, b2s_imp (b2s_rows hy0 rfl) ?_, ?_⟩, ?_⟩⟩
    · rintro s rfl
      refine head_spec.mono ?_
      rintro r H2 ⟨w, rfl, o2, m2, -⟩
      refine ⟨w, rfl, b2s_imp (b2s_rows (Own.rows o2) rfl) ?_⟩
      rintro s rfl
      exact e1 _ m2
    · refine head_spec.mono ?_
      rintro r H2 ⟨w, rfl, o2, m2, -⟩
      refine ⟨w, rfl, b2s_imp (b2s_rows (keepF hy0 m2) rfl) ?_, b2s_imp (b2s_rows (Own.rows o2) rfl) ?_⟩
      · rintro s rfl
        refine b2s_imp (b2s_rows (Own.rows o2) rfl) ?_
        rintro s rfl
        exact e1 _ m2
      · rintro s rfl
        refine b2s_imp (b2s_rows (keepF hy0 m2) rfl) ?_
        rintro s rfl
        exact e1 _ m2
    · refine head_spec.mono ?_
      rintro r H2 ⟨w, rfl, o2, m2, -⟩
      obtain ⟨a', ha', hc'⟩ := Rows.get (keepF rl.1 m2) (j := 0) (v := slV z) (by rw [List.getElem?_map, hz]; rfl)
      rw [add_zero_of] at hc'
      rw [ha] at ha'
      injection ha' with ha'
      subst ha'
      refine ⟨w, rfl, z, hc', b2s_imp (b2s_rows (keepF hy0 m2) rfl) ?_, b2s_imp (b2s_rows (Own.rows o2) rfl) ?_⟩
      · rintro s rfl
        refine b2s_imp (b2s_rows (Own.rows o2) rfl) ?_
        rintro s rfl
        exact e1 _ m2
      · rintro s rfl
        refine b2s_imp (b2s_rows (keepF hy0 m2) rfl) ?_
        rintro s rfl
        exact e1 _ m2
end
end Go.Proofs
