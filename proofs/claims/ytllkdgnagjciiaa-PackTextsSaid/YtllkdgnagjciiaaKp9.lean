/- LAYER 01: PackTexts, the walk. -/
import Derived.Test.YtllkdgnagjciiaaKp8
set_option linter.all false
set_option linter.constructorNameAsVariable false
namespace Go.Proofs
open Go Go.KC

def sv (s : ByteArray) : Value := .string s
/-- A text, cut at 100. -/
def clip (s : ByteArray) : ByteArray := s.extract 0 (min 100 s.size)
def laidText (s : ByteArray) : List UInt8 := be ((clip s).size : Int) 8 ++ (clip s).data.toList
def laidTexts (l : List ByteArray) : List UInt8 := l.flatMap laidText
theorem clip_size (s : ByteArray) : (clip s).size ≤ 100 := by
  unfold clip; simp; omega
theorem ba_len (s : ByteArray) : s.data.toList.length = s.size := by rw [Array.length_toList]; rfl
theorem laidText_length (s : ByteArray) : (laidText s).length ≤ 108 := by
  have := clip_size s
  unfold laidText
  rw [List.length_append, be_length, ba_len]; omega
theorem laidTexts_length (l : List ByteArray) : (laidTexts l).length ≤ 108 * l.length := by
  induction l with
  | nil => simp [laidTexts]
  | cons s t ih =>
    have := laidText_length s
    have e : laidTexts (s :: t) = laidText s ++ laidTexts t := rfl
    rw [e, List.length_append, List.length_cons]; omega
theorem rdText_laid (s : ByteArray) (t : List UInt8) : rdText false (laidText s ++ t) = ((clip s).data.toList, false, t) := by
  have h := rdText_text (clip s).data.toList t (by rw [ba_len]; have := clip_size s; omega)
  rw [ba_len] at h
  unfold laidText
  rw [List.append_assoc]; exact h

section
variable {H0 : Hp} {ts : Sl} {cs : List ByteArray} {c : UInt8}

theorem PT_l2 {b : Nat} {D : List Nat} (hr : Rows H0 ts 1 (cs.map sv)) (hb : H0.size ≤ b) :
    ∀ (d j : Nat) (H : Hp), j + d = min 50 ts.len → Fresh H0 H → Rd H b D false (laidTexts ((cs.take (min 50 ts.len)).drop j) ++ [c]) →
      tephralaw01_PackTexts.l2 J0 ts (c.toNat : Int) (some ⟨b, 0, none⟩) H (j : Int) fun r H' => r = .bool true ∧ Mod (fun _ => False) H0 H' := by
  have hl : cs.length = ts.len := by have := hr.1; simpa using this
  have e : (if (50 : Int) < ((ts.len : Nat) : Int) then (50 : Int) else ((ts.len : Nat) : Int)).toNat = min 50 ts.len := min_toNat 50 ts.len
  intro d
  induction d with
  | zero =>
    intro j H hj hf hd
    apply tephralaw01_PackTexts.l2.step
    unfold tephralaw01_PackTexts.l2.body
    rw [e]
    rw [List.drop_eq_nil_of_le (by simp; omega)] at hd
    refine Br.no (by simp; omega) ((Reader_Done_spec hd).mono ?_)
    rintro r H1 ⟨rfl, rfl⟩
    refine ⟨_, rfl, Br.yes rfl ((Reader_Byte_spec hd).mono ?_)⟩
    rintro r H2 ⟨rfl, hm, h2⟩
    rw [show laidTexts [] ++ [c] = c :: [] from rfl, rdByte_one] at h2 ⊢
    refine ⟨_, rfl, ?_⟩
    apply tephralaw01_PackTexts.k2.step
    unfold tephralaw01_PackTexts.k2.body
    refine Br.yes (by simp) ((Reader_Done_spec h2).mono ?_)
    rintro r H3 ⟨rfl, rfl⟩
    exact ⟨_, rfl, rfl, (hf.step hm fun g hg => by omega).mod⟩
  | succ d ih =>
    intro j H hj hf hd
    apply tephralaw01_PackTexts.l2.step
    unfold tephralaw01_PackTexts.l2.body
    rw [e]
    have hjl : j < cs.length := by omega
    obtain ⟨a, ha, hc⟩ := (hf.rows hr).get (j := j) (v := sv cs[j]) (by simp [hjl])
    have hdrop : (cs.take (min 50 ts.len)).drop j = cs[j] :: (cs.take (min 50 ts.len)).drop (j + 1) := by
      rw [List.drop_eq_getElem_cons (by simp; omega)]; simp
    rw [hdrop, show laidTexts (cs[j] :: (cs.take (min 50 ts.len)).drop (j + 1)) = laidText cs[j] ++ laidTexts ((cs.take (min 50 ts.len)).drop (j + 1)) from rfl, List.append_assoc] at hd
    have ec : (if (100 : Int) < ((cs[j].size : Nat) : Int) then (100 : Int) else ((cs[j].size : Nat) : Int)).toNat = min 100 cs[j].size := min_toNat 100 _
    refine Br.yes (by simp; omega) ⟨⟨by omega, by omega⟩, vPtr.mk a (by rw [cutA_zero]; exact ha) ⟨cs[j], by simpa [sv] using hc, (Reader_Done_spec hd).mono ?_⟩⟩
    rintro r H1 ⟨rfl, rfl⟩
    refine ⟨_, rfl, Br.no ?_ ⟨⟨by split <;> omega, by split <;> omega⟩, (Reader_Text_spec hd).mono ?_⟩⟩
    · simp
    rintro r H2 ⟨rfl, hm, h2⟩
    rw [rdText_laid] at h2 ⊢
    refine ⟨_, rfl, ?_⟩
    rw [ec]
    apply tephralaw01_PackTexts.k1.step
    unfold tephralaw01_PackTexts.k1.body
    refine Br.no ?_ ?_
    · show (!((ByteArray.mk (clip cs[j]).data.toList.toArray).toList == (clip cs[j]).toList)) = false
      rw [Array.toArray_toList, show ByteArray.mk (clip cs[j]).data = clip cs[j] from rfl, beq_self_eq_true]; rfl
    · rw [w64_id (x := (j : Int) + 1) (by omega) (by omega)]
      have := ih (j + 1) H2 (by omega) (hf.step hm fun g hg => by omega) h2
      simpa using this

theorem PT_l1 {H1 : Hp} (hr : Rows H0 ts 1 (cs.map sv)) (hb : H0.size ≤ H1.size) :
    ∀ (d j : Nat) (H : Hp) (F : List Nat), j + d = min 50 ts.len → Fresh H0 H → Wr H H1.size F (laidTexts (cs.take j)) → (∀ g ∈ F, H0.size ≤ g) →
      tephralaw01_PackTexts.l1 J0 ts (c.toNat : Int) H1 H (j : Int) fun r H' => r = .bool true ∧ Mod (fun _ => False) H0 H' := by
  have hl : cs.length = ts.len := by have := hr.1; simpa using this
  have e : (if (50 : Int) < ((ts.len : Nat) : Int) then (50 : Int) else ((ts.len : Nat) : Int)).toNat = min 50 ts.len := min_toNat 50 ts.len
  intro d
  induction d with
  | zero =>
    intro j H F hj hf hw hF
    apply tephralaw01_PackTexts.l1.step
    unfold tephralaw01_PackTexts.l1.body
    rw [e]
    have hlen : (laidTexts (cs.take j)).length ≤ 108 * j := by have := laidTexts_length (cs.take j); simp at this; omega
    refine Br.no (by simp; omega) ((Writer_Byte_spec hw (by omega)).mono ?_)
    rintro r H2 ⟨rfl, F2, hw2, m2, hF2⟩
    refine ⟨_, rfl, (Writer_Bytes_spec hw2 (by simp; omega)).mono ?_⟩
    rintro r H3 ⟨x, rfl, ho, m3, hx⟩
    refine ⟨x, rfl, (Of_spec (Own.rows ho) (fun _ h => h) (Own.lt ho)).mono ?_⟩
    rintro r H4 ⟨rfl, m4, h4⟩
    refine ⟨_, rfl, ?_⟩
    have f2 := hf.step m2 fun g hg => hF g hg
    have f3 := f2.step m3 fun _ h => h.elim
    have f4 := f3.step m4 fun _ h => h.elim
    exact PT_l2 hr f3.size (min 50 ts.len) 0 H4 (by omega) f4 (by rw [show min 50 ts.len = j by omega]; exact h4)
  | succ d ih =>
    intro j H F hj hf hw hF
    apply tephralaw01_PackTexts.l1.step
    unfold tephralaw01_PackTexts.l1.body
    rw [e]
    have hjl : j < cs.length := by omega
    have hlen : (laidTexts (cs.take j)).length ≤ 108 * j := by have := laidTexts_length (cs.take j); simp at this; omega
    obtain ⟨a, ha, hc⟩ := (hf.rows hr).get (j := j) (v := sv cs[j]) (by simp [hjl])
    have ec : (if (100 : Int) < ((cs[j].size : Nat) : Int) then (100 : Int) else ((cs[j].size : Nat) : Int)).toNat = min 100 cs[j].size := min_toNat 100 _
    refine Br.yes (by simp; omega) ⟨⟨by omega, by omega⟩, vPtr.mk a (by rw [cutA_zero]; exact ha) ⟨cs[j], by simpa [sv] using hc, ⟨by split <;> omega, by split <;> omega⟩, ?_⟩⟩
    rw [ec]
    have hcl := clip_size cs[j]
    refine (Writer_Text_spec (s := clip cs[j]) hw (by omega)).mono ?_
    rintro r H2 ⟨rfl, F', hw', hm, hF'⟩
    refine ⟨_, rfl, ?_⟩
    rw [w64_id (x := (j : Int) + 1) (by omega) (by omega)]
    have e2 : laidTexts (cs.take j) ++ be ((clip cs[j]).size : Int) 8 ++ (clip cs[j]).data.toList = laidTexts (cs.take (j + 1)) := by
      rw [List.take_succ_eq_append_getElem hjl]; unfold laidTexts; rw [List.flatMap_append, List.append_assoc]; show _ = _ ++ (laidText cs[j] ++ []); rw [List.append_nil]; rfl
    rw [e2] at hw'
    have := ih (j + 1) H2 F' (by omega) (hf.step hm fun g hg => hF g hg) hw' (fun g hg => (hF' g hg).elim (hF g) fun h => Nat.le_trans hf.size h)
    simpa using this

theorem PackTexts_spec (hr : Rows H0 ts 1 (cs.map sv)) :
    SCalls Try.prog tephralaw01_PackTexts.id [.slice ts.a ts.len ts.cap, .int .u8 (c.toNat : Int)] H0 fun r H' => r = .bool true ∧ Mod (fun _ => False) H0 H' := by
  apply tephralaw01_PackTexts.calls
  have hx := hr.2.1
  refine awake_spec.mono ?_
  rintro r H1 ⟨rfl, m1⟩
  refine ⟨_, rfl, Br.no rfl ⟨⟨by split <;> omega, by split <;> omega⟩, ?_⟩⟩
  have f0 : Fresh H0 H0 := Mod.refl _ _
  have f1 := (f0.step m1 fun _ h => h.elim).step (Mod.push (fun _ => False) H1 (.cells #[.slice none 0 0] T_pack_Writer)) fun _ h => h.elim
  exact PT_l1 hr m1.size (min 50 ts.len) 0 _ [H1.size] (by omega) f1 (Wr.new H1) (fun g hg => by have := m1.size; simp at hg; omega)
end

end Go.Proofs
