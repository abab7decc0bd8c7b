/- LAYER 01: PackKeeps, PackLays: the walks. -/
import Derived.Test.YtllkdgnagjciiaaKp12
import Derived.Test.YtllkdgnagjciiaaKl2
set_option linter.all false
set_option linter.constructorNameAsVariable false
namespace Go.Proofs
open Go Go.KC

theorem ba_take (a : List UInt8) (b : ByteArray) : (ByteArray.mk a.toArray).toList = b.toList ↔ a = b.data.toList := by
  rw [ByteArray.toList_eq, ByteArray.toList_eq]

/-- What was told before is there, and is what was laid. -/
theorem PK_k1 {H0 H H1 : Hp} {s : ByteArray} {x4 : Sl} {F : List Nat} {pre nb : List UInt8} (hp : pre.length = s.size + 8) (hn : nb.length = 8) (hs : s.size ≤ 1048576) (hf : Fresh H0 H) (hw : Wr H H1.size F (pre ++ nb)) (h4 : Rows H x4 1 ((pre ++ nb).map bv)) :
    tephralaw01_PackKeeps.k1 J0 s H1 (ByteArray.mk pre.toArray) x4 H fun r H' => r = .bool true ∧ Mod (fun _ => False) H0 H' := by
  have hl : (pre ++ nb).length = x4.len := by have := h4.1; simpa using this
  have hc := h4.2.1
  rw [List.length_append] at hl
  apply tephralaw01_PackKeeps.k1.step
  unfold tephralaw01_PackKeeps.k1.body
  have ht := h4.take (n := pre.length) (by omega)
  rw [Nat.mul_one, ← List.map_take, List.take_left] at ht
  refine ⟨⟨by omega, by rw [ba_size]; omega⟩, b2s_imp (b2s_rows ht (by show _ = pre.length; rw [ba_size]; omega)) ?_⟩
  rintro s2 rfl
  have hlen : ((((x4.len : Nat) : Int) == (w64 (((s.size : Nat) : Int) + 16)))) = true := by
    rw [w64_id (by omega) (by omega)]; simp; omega
  refine Br.yes (beq_self_eq_true _) ⟨?_, ?_⟩
  · refine (Writer_Bytes_spec hw (by rw [List.length_append]; omega)).mono ?_
    rintro r H7 ⟨x6, rfl, ho, hm, -⟩
    refine ⟨x6, rfl, ?_⟩
    have h4' := hf.step hm (fun _ h => h.elim)
    have h47 : Rows H7 x4 1 ((pre ++ nb).map bv) := h4.keep hm (fun _ _ e => e)
    refine ⟨b2s_imp (b2s_rows (Own.rows ho) rfl) ?_, b2s_imp (b2s_rows h47 rfl) ?_⟩
    · rintro _ rfl
      refine b2s_imp (b2s_rows h47 rfl) ?_
      rintro _ rfl
      exact Br.yes (beq_self_eq_true _) ⟨by rw [hlen], h4'.mod⟩
    · rintro _ rfl
      refine b2s_imp (b2s_rows (Own.rows ho) rfl) ?_
      rintro _ rfl
      exact Br.yes (beq_self_eq_true _) ⟨by rw [hlen], h4'.mod⟩
  · refine b2s_imp (b2s_rows h4 rfl) ?_
    rintro _ rfl
    refine (Writer_Bytes_spec hw (by rw [List.length_append]; omega)).mono ?_
    rintro r H7 ⟨x6, rfl, ho, hm, -⟩
    refine ⟨x6, rfl, b2s_imp (b2s_rows (Own.rows ho) rfl) ?_⟩
    rintro _ rfl
    exact Br.yes (beq_self_eq_true _) ⟨by rw [hlen], (hf.step hm (fun _ h => h.elim)).mod⟩

theorem PackKeeps_spec {H0 : Hp} {s : ByteArray} {n : Int} (hs : s.size ≤ 1048576) :
    SCalls Try.prog tephralaw01_PackKeeps.id [.string s, .int .i64 n] H0 fun r H' => r = .bool true ∧ Mod (fun _ => False) H0 H' := by
  apply tephralaw01_PackKeeps.calls
  refine awake_spec.mono ?_
  rintro r H1 ⟨rfl, m1⟩
  have f0 : Fresh H0 H0 := Mod.refl _ _
  have f1 := (f0.step m1 fun _ h => h.elim).step (Mod.push (fun _ => False) H1 (.cells #[.slice none 0 0] T_pack_Writer)) fun _ h => h.elim
  refine ⟨_, rfl, Br.no rfl ((Writer_Text_spec (s := s) (Wr.new H1) (by simp; omega)).mono ?_)⟩
  rintro r H2 ⟨rfl, F2, w2, m2, hF2⟩
  have f2 := f1.step m2 fun g hg => by simp at hg; have := m1.size; omega
  have hF2' : ∀ g ∈ F2, H0.size ≤ g := fun g hg => (hF2 g hg).elim (fun h => by simp at h; have := m1.size; omega) fun h => by have := f1.size; omega
  rw [List.nil_append] at w2
  have hpl : (be ((s.size : Nat) : Int) 8 ++ s.data.toList).length = s.size + 8 := by rw [List.length_append, be_length, ba_len]; omega
  refine ⟨_, rfl, (Writer_Bytes_spec w2 (by rw [hpl]; omega)).mono ?_⟩
  rintro r H3 ⟨x2, rfl, ho2, m3, hb2⟩
  have hlt2 := w2.lt
  have w3 := w2.keep m3 (fun _ _ e => e)
  have f3 := f2.step m3 (fun _ h => h.elim)
  refine ⟨x2, rfl, b2s_imp (b2s_rows (Own.rows ho2) rfl) ?_⟩
  rintro _ rfl
  refine (Writer_Num_spec (n := n) w3 (by rw [hpl]; omega)).mono ?_
  rintro r H4 ⟨rfl, F4, w4, m4, hF4⟩
  have hx2F : ∀ g ∈ x2.blk, g ∉ F2 := fun g hg hin => by have := hlt2 g hin; have := hb2 g hg; omega
  have hlt3 : ∀ g ∈ x2.blk, g < H3.size := Own.lt ho2
  have hx2F4 : ∀ g ∈ x2.blk, g ∉ F4 := fun g hg hin => (hF4 g hin).elim (hx2F g hg) fun h => by have := hlt3 g hg; omega
  have ho4 := Own.keep ho2 m4 hx2F
  have f4 := f3.step m4 hF2'
  refine ⟨_, rfl, (Writer_Bytes_spec w4 (by rw [List.length_append, hpl, be_length]; omega)).mono ?_⟩
  rintro r H5 ⟨x4, rfl, ho5, m5, hb5⟩
  have w5 := w4.keep m5 (fun _ _ e => e)
  have ho5' := Own.keep ho4 m5 (fun _ _ e => e)
  have f5 := f4.step m5 (fun _ h => h.elim)
  have hx24 : ∀ g ∈ x4.blk, g ∉ x2.blk := fun g hg hin => by have := hb5 g hg; have := hlt3 g hin; have := m4.size; omega
  refine ⟨x4, rfl, ?_⟩
  have hx2l : x2.len = s.size + 8 := by have := ho2.1; simp [be_length] at this; omega
  refine Br.yes (by simp; omega) ⟨⟨by omega, by omega⟩, ?_⟩
  obtain ⟨c0, t0, e0⟩ : ∃ c0 t0, be ((s.size : Nat) : Int) 8 ++ s.data.toList = c0 :: t0 := ⟨_, _, rfl⟩
  obtain ⟨_, hle, h3 | ⟨g, cur, ha, hg, hsz, htk⟩⟩ := ho5'
  · have := h3.2; omega
  · have hcur : (cur.toList.take (List.map bv (c0 :: t0)).length) = List.map bv (c0 :: t0) := by rw [← e0]; exact htk
    have hcl : 0 < cur.size := by rw [hsz]; omega
    have hc0 : cur[0]? = some (bv c0) := by
      have h1 : (cur.toList.take (List.map bv (c0 :: t0)).length)[0]? = some (bv c0) := by rw [hcur]; rfl
      rw [List.getElem?_take, if_pos (by simp)] at h1
      simpa using h1
    refine vPtr.mk _ ha ⟨(c0.toNat : Int), by rw [cell_of hg]; exact hc0, ⟨by omega, by omega⟩, vPtr.mk _ ha ⟨wr_one hg hcl, ?_⟩⟩
    have mS : ∀ v, Mod (· = g) H5 (Hp.setCell H5 ⟨g, 0, none⟩ v) := fun v => Mod.setCell H5 ⟨g, 0, none⟩ v rfl
    have hgx : g ∈ x2.blk := by simp [Sl.blk, ha]
    have hg0 : H0.size ≤ g := by have := hb2 g hgx; have := f2.size; omega
    exact PK_k1 (nb := be n 8) hpl (be_length n 8) hs (f5.step (mS _) fun q hq => by omega) (w5.keep (mS _) fun q hq e => hx2F4 g hgx (e ▸ hq)) ((Own.rows ho5).keep (mS _) fun q hq e => hx24 q hq (e ▸ hgx))

/-- A part of a slice of parts. -/
theorem part_get {H : Hp} {x : Sl} {cs : List Pt} (h : Rows H x 3 (cs.map Pt.cells).flatten) {j : Nat} (hj : j < cs.length) :
    ∃ a, x.a = some a ∧ RowAt H (a.add (j * 3)) (cs[j]).cells := by
  have key : ∀ (l : List Pt) (j : Nat) (hj : j < l.length) (k : Nat) (v : Value), (l[j]).cells[k]? = some v → (l.map Pt.cells).flatten[j * 3 + k]? = some v := by
    intro l
    induction l with
    | nil => intro j hj; simp at hj
    | cons p t ih =>
      intro j hj k v hv
      have hp : p.cells.length = 3 := rfl
      rw [List.map_cons, List.flatten_cons]
      cases j with
      | zero =>
        have hv' : p.cells[k]? = some v := hv
        rw [Nat.zero_mul, Nat.zero_add, List.getElem?_append_left (List.getElem?_eq_some_iff.1 hv').1]; exact hv'
      | succ j =>
        rw [List.getElem?_append_right (by rw [hp]; omega), hp, show (j + 1) * 3 + k - 3 = j * 3 + k by omega]
        exact ih j (by simpa using hj) k v hv
  have hfl : (cs.map Pt.cells).flatten.length = cs.length * 3 := by
    clear h hj key
    induction cs with
    | nil => rfl
    | cons p t ih => rw [List.map_cons, List.flatten_cons, List.length_append, ih]; show 3 + _ = _; simp; omega
  have hl : cs.length = x.len := by have := h.1; omega
  cases ha : x.a with
  | none => have h1 := h.2.2.2 ha; have h2 := h.2.1; omega
  | some a =>
    refine ⟨a, rfl, fun k v hv => ?_⟩
    have h1 := h.2.2.1 a ha (j * 3 + k) v (key cs j hj k v hv)
    have h0 := h.2.2.1 a ha (j * 3 + 0) _ (key cs j hj 0 _ rfl)
    have hs := spot_of_cell h0
    by_cases hz : j * 3 = 0
    · rw [hz] at h1 ⊢; rw [Nat.zero_add] at h1; rw [add_zero_of]; exact h1
    · have : (a.add (j * 3)).add k = a.add (j * 3 + k) := by
        obtain ⟨b, o, s⟩ := a
        by_cases hk : k = 0
        · subst hk; rw [add_zero_of]; rfl
        · simp [Addr.add, hz, hk, Nat.add_assoc]
      rw [this]; exact h1

theorem fits3 {m : Nat} {k1 k2 k3 : CK} : ∀ {r : List Value}, Fits m [k1, k2, k3] r → ∃ a b c, r = [a, b, c] ∧ k1.has m a ∧ k2.has m b ∧ k3.has m c
  | [a, b, c], ⟨h1, h2, h3, _⟩ => ⟨a, b, c, rfl, h1, h2, h3⟩

/-- Parts, of what was opened. -/
theorem partsOf {m : Nat} (hm : m ≤ 1048576) {rows : List (List Value)} (h : ∀ r ∈ rows, Fits m [.it .u8, .it .i64, .st] r) : ∃ cs : List Pt, rows = cs.map Pt.cells ∧ ∀ p ∈ cs, p.ok := by
  refine rows_list (f := Pt.cells) (p := Pt.ok) fun r hr => ?_
  obtain ⟨a, b, c, rfl, ⟨n1, e1, w1⟩, ⟨n2, e2, w2⟩, ⟨s, e3, _, hs⟩⟩ := fits3 (h r hr)
  obtain ⟨k, rfl⟩ := u8_of w1
  subst e1; subst e2; subst e3
  exact ⟨⟨k, n2, s⟩, rfl, i64_of w2, Nat.le_trans hs hm⟩

def laidParts (l : List Pt) : List UInt8 := l.flatMap Pt.bytes
theorem laidParts_length : ∀ {l : List Pt}, (∀ p ∈ l, p.ok) → (laidParts l).length ≤ 1048584 * l.length
  | [], _ => by simp [laidParts]
  | p :: t, h => by
    have h1 := Pt.bytes_length (h p (by simp))
    have h2 := laidParts_length (l := t) fun q hq => h q (by simp [hq])
    have e : laidParts (p :: t) = p.bytes ++ laidParts t := rfl
    rw [e, List.length_append, List.length_cons]; omega
theorem laidParts_succ {l : List Pt} {j : Nat} (h : j < l.length) : laidParts (l.take j) ++ (l[j]).bytes = laidParts (l.take (j + 1)) := by
  rw [List.take_succ_eq_append_getElem h]; unfold laidParts; rw [List.flatMap_append]; show _ = _ ++ ((l[j]).bytes ++ []); rw [List.append_nil]

section
variable {H0 : Hp} {ps : Sl} {cs : List Pt}

theorem PL_l2 {b : Nat} {D : List Nat} (hr : Rows H0 ps 3 (cs.map Pt.cells).flatten) (hl : cs.length = ps.len) (hok : ∀ p ∈ cs, p.ok) (hb : H0.size ≤ b) :
    ∀ (d j : Nat) (H : Hp), j + d = min 200 ps.len → Fresh H0 H → Rd H b D false (laidParts ((cs.take (min 200 ps.len)).drop j)) →
      tephralaw01_PackLays.l2 J0 ps (some ⟨b, 0, none⟩) H (j : Int) fun r H' => r = .bool true ∧ Mod (fun _ => False) H0 H' := by
  have e : (if (200 : Int) < ((ps.len : Nat) : Int) then (200 : Int) else ((ps.len : Nat) : Int)).toNat = min 200 ps.len := min_toNat 200 ps.len
  intro d
  induction d with
  | zero =>
    intro j H hj hf hd
    apply tephralaw01_PackLays.l2.step
    unfold tephralaw01_PackLays.l2.body
    rw [e]
    rw [List.drop_eq_nil_of_le (by simp; omega)] at hd
    refine Br.no (by simp; omega) ((Reader_Done_spec hd).mono ?_)
    rintro r H1 ⟨rfl, rfl⟩
    refine ⟨_, rfl, Br.yes rfl ((Reader_Bad_spec hd).mono ?_)⟩
    rintro r H2 ⟨rfl, rfl⟩
    exact ⟨_, rfl, rfl, hf.mod⟩
  | succ d ih =>
    intro j H hj hf hd
    apply tephralaw01_PackLays.l2.step
    unfold tephralaw01_PackLays.l2.body
    rw [e]
    have hjl : j < cs.length := by omega
    obtain ⟨a, ha, hrow⟩ := part_get (hf.rows hr) hjl
    have hdrop : (cs.take (min 200 ps.len)).drop j = cs[j] :: (cs.take (min 200 ps.len)).drop (j + 1) := by
      rw [List.drop_eq_getElem_cons (by simp; omega)]; simp
    rw [hdrop, show laidParts (cs[j] :: (cs.take (min 200 ps.len)).drop (j + 1)) = (cs[j]).bytes ++ laidParts ((cs.take (min 200 ps.len)).drop (j + 1)) from rfl] at hd
    have m0 : Mod (fun _ => False) H (holes H 1) := Mod.holes _ _ _
    have hd' := hd.keep m0 id fun _ _ e => e
    refine Br.yes (by simp; omega) ⟨⟨by omega, by omega⟩, vPtr.mk a (by rw [cutA_zero]; exact ha) ⟨_, _, _, by simpa [Pt.cells] using hrow, (Reader_Bad_spec hd').mono ?_⟩⟩
    rintro r H1 ⟨rfl, rfl⟩
    refine ⟨_, rfl, Br.no rfl ((reads_spec (p := cs[j]) hd').mono ?_)⟩
    rintro r H2 ⟨rfl, m2, h2⟩
    rw [Pt.read_laid (hok _ (List.getElem_mem _))] at h2 ⊢
    refine ⟨_, rfl, ?_⟩
    apply tephralaw01_PackLays.k1.step
    unfold tephralaw01_PackLays.k1.body
    refine Br.no rfl ?_
    rw [w64_id (x := (j : Int) + 1) (by omega) (by omega)]
    have := ih (j + 1) H2 (by omega) ((hf.step m0 fun _ h => h.elim).step m2 fun g hg => by omega) h2
    simpa using this

theorem PL_l1 {H1 : Hp} (hr : Rows H0 ps 3 (cs.map Pt.cells).flatten) (hl : cs.length = ps.len) (hok : ∀ p ∈ cs, p.ok) (hb : H0.size ≤ H1.size) :
    ∀ (d j : Nat) (H : Hp) (F : List Nat), j + d = min 200 ps.len → Fresh H0 H → Wr H H1.size F (laidParts (cs.take j)) → (∀ g ∈ F, H0.size ≤ g) →
      tephralaw01_PackLays.l1 J0 ps H1 H ⟨(laidParts (cs.take j)).toArray⟩ (j : Int) fun r H' => r = .bool true ∧ Mod (fun _ => False) H0 H' := by
  have e : (if (200 : Int) < ((ps.len : Nat) : Int) then (200 : Int) else ((ps.len : Nat) : Int)).toNat = min 200 ps.len := min_toNat 200 ps.len
  have hlen : ∀ j, (laidParts (cs.take j)).length ≤ 1048584 * j := fun j => by
    have := laidParts_length (l := cs.take j) fun p hp => hok p (List.mem_of_mem_take hp)
    have h2 : (cs.take j).length ≤ j := by simp; omega
    exact Nat.le_trans this (Nat.mul_le_mul_left _ h2)
  intro d
  induction d with
  | zero =>
    intro j H F hj hf hw hF
    apply tephralaw01_PackLays.l1.step
    unfold tephralaw01_PackLays.l1.body
    rw [e]
    have hlj := hlen j
    refine Br.no (by simp; omega) ((Writer_Bytes_spec hw (by omega)).mono ?_)
    rintro r H3 ⟨x, rfl, ho, m3, hx⟩
    refine ⟨x, rfl, (Of_spec (Own.rows ho) (fun _ h => h) (Own.lt ho)).mono ?_⟩
    rintro r H4 ⟨rfl, m4, h4⟩
    refine ⟨_, rfl, ?_⟩
    have f3 := hf.step m3 fun _ h => h.elim
    have f4 := f3.step m4 fun _ h => h.elim
    exact PL_l2 hr hl hok f3.size (min 200 ps.len) 0 H4 (by omega) f4 (by rw [show min 200 ps.len = j by omega]; exact h4)
  | succ d ih =>
    intro j H F hj hf hw hF
    apply tephralaw01_PackLays.l1.step
    unfold tephralaw01_PackLays.l1.body
    rw [e]
    have hjl : j < cs.length := by omega
    have hlj := hlen j
    have hlj1 := hlen (j + 1)
    have hokj := hok _ (List.getElem_mem hjl)
    have hts := hokj.2
    obtain ⟨a, ha, hrow⟩ := part_get (hf.rows hr) hjl
    have m0 : Mod (fun _ => False) H (holes H 1) := Mod.holes _ _ _
    refine Br.yes (by simp; omega) ⟨⟨by omega, by omega⟩, vPtr.mk a (by rw [cutA_zero]; exact ha) ⟨_, _, _, by simpa [Pt.cells] using hrow, (lay_spec (p := cs[j]) (hw.keep m0 fun _ _ e => e) (by omega)).mono ?_⟩⟩
    rintro r H2 ⟨rfl, F', hw', hm, hF'⟩
    refine ⟨rfl, (bytes_spec (p := cs[j]) hokj.2).mono ?_⟩
    rintro r H3 ⟨rfl, m3⟩
    rw [laidParts_succ hjl] at hw'
    have hw3 := hw'.keep m3 fun _ _ e => e
    have hbl := laidParts_succ hjl
    have hbl2 := congrArg List.length hbl
    rw [List.length_append] at hbl2
    refine ⟨_, rfl, by rw [ba_size, ba_size]; omega, (Writer_Bytes_spec hw3 (by omega)).mono ?_⟩
    rintro r H4 ⟨x, rfl, ho, m4, hx⟩
    refine ⟨x, rfl, b2s_imp (b2s_rows (Own.rows ho) rfl) ?_⟩
    rintro _ rfl
    rw [ba_append, hbl]
    refine Br.no (by rw [beq_self_eq_true]; rfl) ?_
    rw [w64_id (x := (j : Int) + 1) (by omega) (by omega)]
    have f1 := (hf.step m0 fun _ h => h.elim).step hm fun g hg => hF g hg
    have f2 := (f1.step m3 fun _ h => h.elim).step m4 fun _ h => h.elim
    have := ih (j + 1) H4 F' (by omega) f2 (hw3.keep m4 fun _ _ e => e) (fun g hg => (hF' g hg).elim (hF g) fun h => Nat.le_trans (hf.step m0 fun _ h => h.elim).size h)
    simpa using this

theorem PackLays_spec (hr : Rows H0 ps 3 (cs.map Pt.cells).flatten) (hl : cs.length = ps.len) (hok : ∀ p ∈ cs, p.ok) :
    SCalls Try.prog tephralaw01_PackLays.id [.slice ps.a ps.len ps.cap] H0 fun r H' => r = .bool true ∧ Mod (fun _ => False) H0 H' := by
  apply tephralaw01_PackLays.calls
  have hx := hr.2.1
  refine awake_spec.mono ?_
  rintro r H1 ⟨rfl, m1⟩
  refine ⟨_, rfl, Br.no rfl ⟨⟨by split <;> omega, by split <;> omega⟩, ?_⟩⟩
  have f0 : Fresh H0 H0 := Mod.refl _ _
  have f1 := (f0.step m1 fun _ h => h.elim).step (Mod.push (fun _ => False) H1 (.cells #[.slice none 0 0] T_pack_Writer)) fun _ h => h.elim
  exact PL_l1 hr hl hok m1.size (min 200 ps.len) 0 _ [H1.size] (by omega) f1 (Wr.new H1) (fun g hg => by have := m1.size; simp at hg; omega)
end
end Go.Proofs
