/- LAYER 01: PackShort, PackApart: the walks. -/
import Derived.Test.YtllkdgnagjciiaaKp13
set_option linter.all false
set_option linter.constructorNameAsVariable false
namespace Go.Proofs
open Go Go.KC

theorem rdNum_true (xs : List UInt8) : rdNum true xs = (0, true, xs) := rfl
theorem rdByte_true (xs : List UInt8) : rdByte true xs = (0, true, xs) := rfl
theorem rdText_true (xs : List UInt8) : rdText true xs = ([], true, xs) := rfl
theorem Pt.read_bad (p : Pt) (xs : List UInt8) : (p.read true xs).2 = (true, xs) := by
  unfold Pt.read
  split <;> rfl

theorem rdNum_short {xs : List UInt8} (h : xs.length < 8) : rdNum false xs = (0, true, xs) := by
  unfold rdNum
  have : tkok false 8 xs.length = false := by simp [tkok]; omega
  rw [this]

/-- Where a part is cut, a reader is bad. -/
theorem Pt.read_cut {p : Pt} (h : p.ok) {m : Nat} (hm : m < p.bytes.length) : (p.read false (p.bytes.take m)).2.1 = true := by
  have hs := h.2
  have hl : (p.bytes.take m).length = m := by rw [List.length_take]; omega
  unfold Pt.read
  rcases (by omega : p.kind.toNat % 3 = 0 ∨ p.kind.toNat % 3 = 1 ∨ p.kind.toNat % 3 = 2) with h3 | h3 | h3
  · have hb : p.bytes = be p.num 8 := by unfold Pt.bytes; rw [h3]; rfl
    rw [h3]
    show (rdNum false (p.bytes.take m)).2.1 = true
    rw [rdNum_short (by rw [hl]; rw [hb, be_length] at hm; exact hm)]
  · have hb : p.bytes = [byteAt p.num 0] := by unfold Pt.bytes; rw [h3]; rfl
    rw [h3]
    show (rdByte false (p.bytes.take m)).2.1 = true
    have hm0 : m = 0 := by rw [hb] at hm; simpa using hm
    subst hm0
    rfl
  · have hb : p.bytes = be (p.text.size : Int) 8 ++ p.text.data.toList := by unfold Pt.bytes; rw [h3]; rfl
    rw [h3]
    show (rdText false (p.bytes.take m)).2.1 = true
    by_cases hm8 : m < 8
    · unfold rdText
      rw [rdNum_short (by rw [hl]; exact hm8)]
      rfl
    · rw [hb, List.take_append, be_length, List.take_of_length_le (by rw [be_length]; omega)]
      unfold rdText
      rw [rdNum_be (by omega) (by omega)]
      have hlt : (p.text.data.toList.take (m - 8)).length = m - 8 := by
        rw [hb, List.length_append, be_length, ba_len] at hm
        rw [List.length_take, ba_len]; omega
      have : tkok false ((p.text.size : Nat) : Int) (p.text.data.toList.take (m - 8)).length = false := by
        rw [hlt]
        rw [hb, List.length_append, be_length, ba_len] at hm
        simp [tkok]; omega
      simp only [this]

section
variable {H0 : Hp} {ps : Sl} {cs : List Pt} {D : List Nat}

theorem PS_k3 {rb : Nat} {x11 K N : Int} {T : ByteArray} {ok bad : Bool} {xs : List UInt8} {H : Hp} {Q : Value → Hp → Prop} (h : Rd H rb D bad xs) (hok : bad = false → ok = true)
    (hQ : tephralaw01_PackShort.l2 J0 ps (some ⟨rb, 0, none⟩) H bad (w64 (x11 + 1)) Q) : tephralaw01_PackShort.k3 J0 ps (some ⟨rb, 0, none⟩) x11 K N T ok false H Q := by
  have k4 : tephralaw01_PackShort.k4 J0 ps (some ⟨rb, 0, none⟩) x11 K N T false H Q := by
    apply tephralaw01_PackShort.k4.step
    unfold tephralaw01_PackShort.k4.body
    refine Br.no rfl ((Reader_Bad_spec h).mono ?_)
    rintro r H1 ⟨rfl, rfl⟩
    exact ⟨_, rfl, hQ⟩
  apply tephralaw01_PackShort.k3.step
  unfold tephralaw01_PackShort.k3.body
  refine Br.no rfl ((Reader_Bad_spec h).mono ?_)
  rintro r H1 ⟨rfl, rfl⟩
  refine ⟨_, rfl, ?_⟩
  cases bad with
  | true => exact Br.no rfl k4
  | false =>
    rw [hok rfl]
    exact Br.yes rfl k4

/-- What a reader is, part by part: it has what is left of the bytes, or it is bad. -/
def Left (cs : List Pt) (bad : Bool) (xs : List UInt8) : Prop := bad = true ∨ (bad = false ∧ ∃ m, m < (laidParts cs).length ∧ xs = (laidParts cs).take m)

theorem Left.step {p : Pt} {cs : List Pt} {bad : Bool} {xs : List UInt8} (hok : p.ok) (h : Left (p :: cs) bad xs) :
    Left cs (p.read bad xs).2.1 (p.read bad xs).2.2 ∧ (bad = true → (p.read bad xs).2.1 = true) ∧ ((p.read bad xs).2.1 = false → (p.read bad xs).1 = true) := by
  rcases h with rfl | ⟨rfl, m, hm, rfl⟩
  · rw [Pt.read_bad]
    exact ⟨Or.inl rfl, fun _ => rfl, fun e => nomatch e⟩
  · have e : laidParts (p :: cs) = p.bytes ++ laidParts cs := rfl
    rw [e] at hm ⊢
    rw [List.length_append] at hm
    by_cases hc : m < p.bytes.length
    · have : (p.bytes ++ laidParts cs).take m = p.bytes.take m := by rw [List.take_append, show m - p.bytes.length = 0 by omega]; simp
      rw [this]
      have hb := Pt.read_cut hok hc
      rw [hb]
      exact ⟨Or.inl rfl, (fun e => nomatch e), (fun e => nomatch e)⟩
    · have : (p.bytes ++ laidParts cs).take m = p.bytes ++ (laidParts cs).take (m - p.bytes.length) := by
        rw [List.take_append, List.take_of_length_le (by omega)]
      rw [this, Pt.read_laid hok]
      exact ⟨Or.inr ⟨rfl, m - p.bytes.length, by omega, rfl⟩, (fun e => nomatch e), fun _ => rfl⟩

theorem PS_l2 {b : Nat} (hr : Rows H0 ps 3 (cs.map Pt.cells).flatten) (hl : cs.length = ps.len) (hok : ∀ p ∈ cs, p.ok) (hb : H0.size ≤ b) :
    ∀ (d j : Nat) (H : Hp) (bad : Bool) (xs : List UInt8), j + d = min 60 ps.len → Fresh H0 H → Rd H b D bad xs → Left ((cs.take (min 60 ps.len)).drop j) bad xs →
      tephralaw01_PackShort.l2 J0 ps (some ⟨b, 0, none⟩) H bad (j : Int) fun r H' => r = .bool true ∧ Mod (fun _ => False) H0 H' := by
  have e : (if (60 : Int) < ((ps.len : Nat) : Int) then (60 : Int) else ((ps.len : Nat) : Int)).toNat = min 60 ps.len := min_toNat 60 ps.len
  intro d
  induction d with
  | zero =>
    intro j H bad xs hj hf hd hL
    apply tephralaw01_PackShort.l2.step
    unfold tephralaw01_PackShort.l2.body
    rw [e]
    rw [List.drop_eq_nil_of_le (by simp; omega)] at hL
    rcases hL with rfl | ⟨rfl, m, hm, -⟩
    · refine Br.no (by simp; omega) (Br.yes rfl ((Reader_Num_spec hd).mono ?_))
      rintro r H1 ⟨rfl, m1, h1⟩
      rw [rdNum_true] at h1 ⊢
      refine ⟨_, rfl, ?_⟩
      apply tephralaw01_PackShort.k5.step
      unfold tephralaw01_PackShort.k5.body
      refine Br.yes rfl ((Reader_Byte_spec h1).mono ?_)
      rintro r H2 ⟨rfl, m2, h2⟩
      rw [rdByte_true] at h2 ⊢
      refine ⟨_, rfl, ?_⟩
      apply tephralaw01_PackShort.k6.step
      unfold tephralaw01_PackShort.k6.body
      refine Br.yes rfl ((Reader_Text_spec h2).mono ?_)
      rintro r H3 ⟨rfl, m3, h3⟩
      rw [rdText_true] at h3 ⊢
      refine ⟨_, rfl, ?_⟩
      apply tephralaw01_PackShort.k7.step
      unfold tephralaw01_PackShort.k7.body
      refine Br.yes (beq_self_eq_true _) ((Reader_Done_spec h3).mono ?_)
      rintro r H4 ⟨rfl, rfl⟩
      exact ⟨_, rfl, rfl, (hf.step (m1.trans (m2.trans m3)) fun g hg => by omega).mod⟩
    · simp [laidParts] at hm
  | succ d ih =>
    intro j H bad xs hj hf hd hL
    apply tephralaw01_PackShort.l2.step
    unfold tephralaw01_PackShort.l2.body
    rw [e]
    have hjl : j < cs.length := by omega
    obtain ⟨a, ha, hrow⟩ := part_get (hf.rows hr) hjl
    have hdrop : (cs.take (min 60 ps.len)).drop j = cs[j] :: (cs.take (min 60 ps.len)).drop (j + 1) := by
      rw [List.drop_eq_getElem_cons (by simp; omega)]; simp
    rw [hdrop] at hL
    obtain ⟨hL1, hL2, hL3⟩ := hL.step (hok _ (List.getElem_mem _))
    have m0 : Mod (fun _ => False) H (holes H 1) := Mod.holes _ _ _
    have hd' := hd.keep m0 id fun _ _ e => e
    refine Br.yes (by simp; omega) ⟨⟨by omega, by omega⟩, vPtr.mk a (by rw [cutA_zero]; exact ha) ⟨_, _, _, by simpa [Pt.cells] using hrow, (reads_spec (p := cs[j]) hd').mono ?_⟩⟩
    rintro r H2 ⟨rfl, m2, h2⟩
    refine ⟨_, rfl, ?_⟩
    have next : tephralaw01_PackShort.l2 J0 ps (some ⟨b, 0, none⟩) H2 ((cs[j]).read bad xs).2.1 (w64 ((j : Int) + 1)) fun r H' => r = .bool true ∧ Mod (fun _ => False) H0 H' := by
      rw [w64_id (x := (j : Int) + 1) (by omega) (by omega)]
      have := ih (j + 1) H2 _ _ (by omega) ((hf.step m0 fun _ h => h.elim).step m2 fun g hg => by omega) h2 hL1
      simpa using this
    cases bad with
    | true =>
      refine Br.yes rfl ((Reader_Bad_spec h2).mono ?_)
      rintro r H3 ⟨rfl, rfl⟩
      refine ⟨_, rfl, ?_⟩
      rw [hL2 rfl] at h2 next ⊢
      exact PS_k3 h2 (fun e => nomatch e) next
    | false => exact Br.no rfl (PS_k3 h2 hL3 next)

theorem PS_l1 {H1 : Hp} {c : UInt8} (hr : Rows H0 ps 3 (cs.map Pt.cells).flatten) (hl : cs.length = ps.len) (hok : ∀ p ∈ cs, p.ok) (hb : H0.size ≤ H1.size) :
    ∀ (d j : Nat) (H : Hp) (F : List Nat), j + d = min 60 ps.len → Fresh H0 H → Wr H H1.size F (laidParts (cs.take j)) → (∀ g ∈ F, H0.size ≤ g) →
      tephralaw01_PackShort.l1 J0 ps (c.toNat : Int) H1 H (j : Int) fun r H' => r = .bool true ∧ Mod (fun _ => False) H0 H' := by
  have e : (if (60 : Int) < ((ps.len : Nat) : Int) then (60 : Int) else ((ps.len : Nat) : Int)).toNat = min 60 ps.len := min_toNat 60 ps.len
  have hlen : ∀ j, (laidParts (cs.take j)).length ≤ 1048584 * j := fun j => by
    have := laidParts_length (l := cs.take j) fun p hp => hok p (List.mem_of_mem_take hp)
    have h2 : (cs.take j).length ≤ j := by simp; omega
    exact Nat.le_trans this (Nat.mul_le_mul_left _ h2)
  intro d
  induction d with
  | zero =>
    intro j H F hj hf hw hF
    apply tephralaw01_PackShort.l1.step
    unfold tephralaw01_PackShort.l1.body
    rw [e]
    have hlj := hlen j
    have hjm : min 60 ps.len = j := by omega
    refine Br.no (by simp; omega) ((Writer_Bytes_spec hw (by omega)).mono ?_)
    rintro r H3 ⟨x, rfl, ho, m3, hx⟩
    have hxl : (laidParts (cs.take j)).length = x.len := by have := ho.1; simpa using this
    have f3 := hf.step m3 fun _ h => h.elim
    refine ⟨x, rfl, Br.mk (fun h0 => ?_) (fun h0 => ?_)⟩
    · have h0' : x.len = 0 := by simp at h0; omega
      have hnil : laidParts (cs.take j) = [] := List.eq_nil_of_length_eq_zero (by omega)
      refine (Of_spec (Own.rows ho) (fun _ h => h) (Own.lt ho)).mono ?_
      rintro r H4 ⟨rfl, m4, h4⟩
      rw [hnil] at h4
      have f4 := f3.step m4 fun _ h => h.elim
      refine ⟨_, rfl, (Reader_Done_spec h4).mono ?_⟩
      rintro r H5 ⟨rfl, rfl⟩
      refine ⟨_, rfl, Br.yes rfl ((Reader_Num_spec h4).mono ?_)⟩
      rintro r H6 ⟨rfl, m6, h6⟩
      rw [rdNum_short (by simp)] at h6 ⊢
      refine ⟨_, rfl, ?_⟩
      apply tephralaw01_PackShort.k1.step
      unfold tephralaw01_PackShort.k1.body
      refine Br.yes rfl ((Reader_Bad_spec h6).mono ?_)
      rintro r H7 ⟨rfl, rfl⟩
      refine ⟨_, rfl, ?_⟩
      apply tephralaw01_PackShort.k2.step
      unfold tephralaw01_PackShort.k2.body
      refine Br.yes rfl ((Reader_Done_spec h6).mono ?_)
      rintro r H8 ⟨rfl, rfl⟩
      exact ⟨_, rfl, rfl, (f4.step m6 fun g hg => by have := f3.size; omega).mod⟩
    · have h0' : x.len ≠ 0 := by intro h; simp [h] at h0
      have hc256 : c.toNat < 256 := UInt8.toNat_lt _
      have hmod : c.toNat % x.len < x.len := Nat.mod_lt _ (by omega)
      have e1 : w64 ((c.toNat : Nat) : Int) = ((c.toNat : Nat) : Int) := w64_id (by omega) (by omega)
      have e2 : Int.tmod ((c.toNat : Nat) : Int) ((x.len : Nat) : Int) = ((c.toNat % x.len : Nat) : Int) := by
        rw [Int.tmod_eq_emod_of_nonneg (by omega)]; rfl
      have e3 : w64 (w64 (((x.len : Nat) : Int) - 1) - ((c.toNat % x.len : Nat) : Int)) = ((x.len - 1 - c.toNat % x.len : Nat) : Int) := by
        rw [w64_id (x := ((x.len : Nat) : Int) - 1) (by omega) (by omega), w64_id (by omega) (by omega)]; omega
      have hxc := ho.2.1
      rw [e1, e2, e3]
      have ht := (Own.rows ho).take (n := x.len - 1 - c.toNat % x.len) (by omega)
      rw [Nat.mul_one, ← List.map_take] at ht
      refine ⟨by omega, ⟨by omega, by omega⟩, (Of_spec ht (fun _ h => h) fun g hg => Own.lt ho g (cutA_blk x _ _ _ _ _ g hg)).mono ?_⟩
      rintro r H4 ⟨rfl, m4, h4⟩
      have f4 := f3.step m4 fun _ h => h.elim
      refine ⟨_, rfl, ?_⟩
      refine PS_l2 hr hl hok f3.size (min 60 ps.len) 0 H4 false _ (by omega) f4 h4 (Or.inr ⟨rfl, x.len - 1 - c.toNat % x.len, ?_, ?_⟩)
      · rw [List.drop_zero, hjm, hxl]; omega
      · rw [List.drop_zero, hjm]
  | succ d ih =>
    intro j H F hj hf hw hF
    apply tephralaw01_PackShort.l1.step
    unfold tephralaw01_PackShort.l1.body
    rw [e]
    have hjl : j < cs.length := by omega
    have hlj := hlen j
    have hokj := hok _ (List.getElem_mem hjl)
    have hts := hokj.2
    obtain ⟨a, ha, hrow⟩ := part_get (hf.rows hr) hjl
    have m0 : Mod (fun _ => False) H (holes H 1) := Mod.holes _ _ _
    refine Br.yes (by simp; omega) ⟨⟨by omega, by omega⟩, vPtr.mk a (by rw [cutA_zero]; exact ha) ⟨_, _, _, by simpa [Pt.cells] using hrow, (lay_spec (p := cs[j]) (hw.keep m0 fun _ _ e => e) (by omega)).mono ?_⟩⟩
    rintro r H2 ⟨rfl, F', hw', hm, hF'⟩
    rw [laidParts_succ hjl] at hw'
    refine ⟨rfl, ?_⟩
    rw [w64_id (x := (j : Int) + 1) (by omega) (by omega)]
    have f0 := hf.step m0 fun _ h => h.elim
    have := ih (j + 1) H2 F' (by omega) (f0.step hm fun g hg => hF g hg) hw' (fun g hg => (hF' g hg).elim (hF g) fun h => Nat.le_trans f0.size h)
    simpa using this

theorem PackShort_spec {c : UInt8} (hr : Rows H0 ps 3 (cs.map Pt.cells).flatten) (hl : cs.length = ps.len) (hok : ∀ p ∈ cs, p.ok) :
    SCalls Try.prog tephralaw01_PackShort.id [.slice ps.a ps.len ps.cap, .int .u8 (c.toNat : Int)] H0 fun r H' => r = .bool true ∧ Mod (fun _ => False) H0 H' := by
  apply tephralaw01_PackShort.calls
  have hx := hr.2.1
  refine awake_spec.mono ?_
  rintro r H1 ⟨rfl, m1⟩
  refine ⟨_, rfl, Br.no rfl ⟨⟨by split <;> omega, by split <;> omega⟩, ?_⟩⟩
  have f0 : Fresh H0 H0 := Mod.refl _ _
  have f1 := (f0.step m1 fun _ h => h.elim).step (Mod.push (fun _ => False) H1 (.cells #[.slice none 0 0] T_pack_Writer)) fun _ h => h.elim
  exact PS_l1 hr hl hok m1.size (min 60 ps.len) 0 _ [H1.size] (by omega) f1 (Wr.new H1) (fun g hg => by have := m1.size; simp at hg; omega)
end
end Go.Proofs
