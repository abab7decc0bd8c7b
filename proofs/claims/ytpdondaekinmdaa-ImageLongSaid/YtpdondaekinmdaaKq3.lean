/- LAYER 06: what is read of bytes: plain laws. -/
import Derived.Test.YtpdondaekinmdaaKq2
set_option linter.all false
set_option linter.constructorNameAsVariable false
namespace Go.Proofs
open Go Go.KC

/-- The number that bytes are. -/
def valB : List UInt8 → Int
  | [] => 0
  | c :: r => (c.toNat : Int) * 256 ^ r.length + valB r
theorem valB_range : ∀ l : List UInt8, 0 ≤ valB l ∧ valB l < 256 ^ l.length
  | [] => by simp [valB]
  | c :: r => by
    have h := valB_range r
    have hc : c.toNat < 256 := UInt8.toNat_lt _
    have hp : (0 : Int) < 256 ^ r.length := Int.pow_pos (by omega)
    have h1 : 0 ≤ (c.toNat : Int) * 256 ^ r.length := Int.mul_nonneg (by omega) (by omega)
    have h2 : (c.toNat : Int) * 256 ^ r.length ≤ 255 * 256 ^ r.length := Int.mul_le_mul_of_nonneg_right (by omega) (by omega)
    show 0 ≤ _ + _ ∧ _ + _ < (256 : Int) ^ (r.length + 1)
    rw [Int.pow_succ]
    omega
theorem w64_w64 (x : Int) : w64 (w64 x) = w64 x := by rw [w64_mod, w64_mod]; omega
theorem numOf_valB : ∀ (l : List UInt8) (m : Int), w64 (numOf m l) = w64 (m * 256 ^ l.length + valB l)
  | [], m => by simp [numOf, valB]
  | c :: r, m => by
    show w64 (numOf (w64 (m * 256 + (c.toNat : Int))) r) = _
    rw [numOf_valB r, w64_in]
    congr 1
    show _ = m * 256 ^ (r.length + 1) + ((c.toNat : Int) * 256 ^ r.length + valB r)
    rw [Int.pow_succ, Int.add_mul, Int.mul_comm ((256 : Int) ^ r.length) 256, ← Int.mul_assoc, Int.add_assoc]

theorem be_valB : ∀ (l : List UInt8) (q : Int), be (valB l + q * 256 ^ l.length) l.length = l
  | [], q => rfl
  | c :: r, q => by
    have h := valB_range r
    have hp : (0 : Int) < 256 ^ r.length := Int.pow_pos (by omega)
    have hc : c.toNat < 256 := UInt8.toNat_lt _
    have e : valB (c :: r) + q * 256 ^ (c :: r).length = valB r + ((c.toNat : Int) + q * 256) * 256 ^ r.length := by
      show (c.toNat : Int) * 256 ^ r.length + valB r + q * 256 ^ (r.length + 1) = _
      rw [Int.pow_succ, Int.add_mul, Int.mul_comm ((256 : Int) ^ r.length) 256, ← Int.mul_assoc]
      omega
    rw [e]
    show byteAt _ r.length :: be _ r.length = _
    rw [be_valB r]
    congr 1
    apply UInt8.toNat_inj.1
    have := byteAt_toNat (valB r + ((c.toNat : Int) + q * 256) * 256 ^ r.length) r.length
    have e2 : (2 : Int) ^ (8 * r.length) = 256 ^ r.length := by rw [Int.pow_mul]; rfl
    rw [e2, Int.fdiv_eq_ediv_of_nonneg _ (by omega), Int.add_mul_ediv_right _ _ (by omega), Int.ediv_eq_zero_of_lt h.1 h.2] at this
    omega

theorem be_numOf {l : List UInt8} (hl : l.length = 8) : be (numOf 0 l) 8 = l := by
  have h := numOf_valB l 0
  have hr := numOf_range l 0 (by omega) (by omega)
  rw [w64_id hr.1 hr.2, Int.zero_mul, Int.zero_add, w64_mod] at h
  have hv := valB_range l
  rw [hl] at hv
  have e8 : (256 : Int) ^ 8 = 18446744073709551616 := rfl
  rw [e8] at hv
  obtain ⟨q, hq⟩ : ∃ q : Int, numOf 0 l = valB l + q * 18446744073709551616 := ⟨(numOf 0 l - valB l) / 18446744073709551616, by omega⟩
  have := be_valB l q
  rw [hl, e8, ← hq] at this
  exact this

theorem tkok_true {bad : Bool} {n : Int} {l : Nat} (h : tkok bad n l = true) : bad = false ∧ 0 ≤ n ∧ n ≤ l := by
  simp [tkok] at h
  exact ⟨h.1.1, h.1.2, h.2⟩

theorem rdNum_inv {bad : Bool} {xs : List UInt8} (h : (rdNum bad xs).2.1 = false) : bad = false ∧ xs = be (rdNum bad xs).1 8 ++ (rdNum bad xs).2.2 ∧ (-9223372036854775808 ≤ (rdNum bad xs).1 ∧ (rdNum bad xs).1 ≤ 9223372036854775807) := by
  unfold rdNum at h ⊢
  cases ht : tkok bad 8 xs.length with
  | true =>
    obtain ⟨h1, h2, h3⟩ := tkok_true ht
    refine ⟨h1, ?_, numOf_range _ 0 (by omega) (by omega)⟩
    show xs = be (numOf 0 (xs.take 8)) 8 ++ xs.drop 8
    rw [be_numOf (by rw [List.length_take]; omega), List.take_append_drop]
  | false => rw [ht] at h; cases h
theorem rdByte_inv {bad : Bool} {xs : List UInt8} (h : (rdByte bad xs).2.1 = false) : bad = false ∧ ∃ c : UInt8, (rdByte bad xs).1 = (c.toNat : Int) ∧ xs = c :: (rdByte bad xs).2.2 := by
  unfold rdByte at h ⊢
  cases ht : tkok bad 1 xs.length with
  | true =>
    obtain ⟨h1, h2, h3⟩ := tkok_true ht
    refine ⟨h1, ?_⟩
    cases xs with
    | nil => simp at h3
    | cons c t => exact ⟨c, rfl, rfl⟩
  | false => rw [ht] at h; cases h
theorem rdByte_range (bad : Bool) (xs : List UInt8) : 0 ≤ (rdByte bad xs).1 ∧ (rdByte bad xs).1 ≤ 255 := by
  unfold rdByte
  cases tkok bad 1 xs.length with
  | true => have : (xs.headD 0).toNat < 256 := UInt8.toNat_lt _; exact ⟨by show (0 : Int) ≤ ((xs.headD 0).toNat : Int); omega, by show ((xs.headD 0).toNat : Int) ≤ 255; omega⟩
  | false => exact ⟨Int.le_refl 0, by show (0 : Int) ≤ 255; omega⟩
theorem rdText_inv {bad : Bool} {xs : List UInt8} (h : (rdText bad xs).2.1 = false) : bad = false ∧ xs = tx (ByteArray.mk (rdText bad xs).1.toArray) ++ (rdText bad xs).2.2 := by
  unfold rdText at h ⊢
  cases ht : tkok (rdNum bad xs).2.1 (rdNum bad xs).1 (rdNum bad xs).2.2.length with
  | true =>
    obtain ⟨h1, h2, h3⟩ := tkok_true ht
    obtain ⟨g1, g2, _⟩ := rdNum_inv h1
    refine ⟨g1, ?_⟩
    simp only [ht]
    unfold tx
    have e : (((rdNum bad xs).2.2.take (rdNum bad xs).1.toNat).length : Int) = (rdNum bad xs).1 := by rw [List.length_take]; omega
    rw [ba_size, e, List.append_assoc, List.take_append_drop]
    exact g2
  | false => simp only [ht] at h; cases h

/-- What is read of a command. -/
def rdCm (bad : Bool) (xs : List UInt8) : Cm × Bool × List UInt8 :=
  let a := rdByte bad xs
  let b := rdNum a.2.1 a.2.2
  let c := rdNum b.2.1 b.2.2
  let d := rdText c.2.1 c.2.2
  let e := rdText d.2.1 d.2.2
  let f := rdText e.2.1 e.2.2
  (⟨a.1, b.1, c.1, ⟨d.1.toArray⟩, ⟨e.1.toArray⟩, ⟨f.1.toArray⟩⟩, f.2)
theorem rdCm_inv {bad : Bool} {xs : List UInt8} (h : (rdCm bad xs).2.1 = false) : bad = false ∧ xs = (rdCm bad xs).1.bytes ++ (rdCm bad xs).2.2 ∧ 0 ≤ (rdCm bad xs).1.op := by
  unfold rdCm at h ⊢
  simp only at h ⊢
  obtain ⟨h6, e6⟩ := rdText_inv h
  obtain ⟨h5, e5⟩ := rdText_inv h6
  obtain ⟨h4, e4⟩ := rdText_inv h5
  obtain ⟨h3, e3, _⟩ := rdNum_inv h4
  obtain ⟨h2, e2, _⟩ := rdNum_inv h3
  obtain ⟨h1, c, ec, e1⟩ := rdByte_inv h2
  refine ⟨h1, ?_, by rw [ec]; omega⟩
  unfold Cm.bytes
  simp only [List.append_assoc]
  rw [← e6, ← e5, ← e4, ← e3, ← e2, ec]
  have : byteAt (c.toNat : Int) 0 = c := by
    apply UInt8.toNat_inj.1
    have h1 := byteAt_zero (c.toNat : Int)
    have hc : c.toNat < 256 := UInt8.toNat_lt _
    rw [wrapu8] at h1
    omega
  rw [this]
  exact e1

theorem rdText_tx (s : ByteArray) (hs : s.size ≤ 9223372036854775807) (t : List UInt8) : rdText false (tx s ++ t) = (s.data.toList, false, t) := by
  have := rdText_text s.data.toList t (by rw [ba_len]; exact hs)
  rw [ba_len] at this
  unfold tx
  rw [List.append_assoc]; exact this

theorem rdCm_bytes {c : Cm} (h : c.small) (ho : 0 ≤ c.op ∧ c.op ≤ 255) (hc : -9223372036854775808 ≤ c.client ∧ c.client ≤ 9223372036854775807) (hs : -9223372036854775808 ≤ c.seq ∧ c.seq ≤ 9223372036854775807) (t : List UInt8) :
    rdCm false (c.bytes ++ t) = (c, false, t) := by
  unfold Cm.small at h
  unfold rdCm Cm.bytes
  simp only [List.append_assoc, List.singleton_append, List.cons_append, List.nil_append]
  rw [rdByte_one]
  simp only
  rw [rdNum_be hc.1 hc.2]
  simp only
  rw [rdNum_be hs.1 hs.2]
  simp only
  rw [rdText_tx _ (by omega)]
  simp only
  rw [rdText_tx _ (by omega)]
  simp only
  rw [rdText_tx _ (by omega)]
  simp only [Array.toArray_toList]
  have : ((byteAt c.op 0).toNat : Int) = c.op := by
    rw [← byteAt_zero, wrapu8]; omega
  rw [this]

theorem Cm.May.ranges {c : Cm} (h : c.May) : (0 ≤ c.op ∧ c.op ≤ 255) ∧ (-9223372036854775808 ≤ c.client ∧ c.client ≤ 9223372036854775807) ∧ (-9223372036854775808 ≤ c.seq ∧ c.seq ≤ 9223372036854775807) := by
  obtain ⟨h1, h2, _, _, h3⟩ := h
  rcases h3 with h3 | h3
  · exact ⟨by omega, by omega, by omega⟩
  · exact ⟨by omega, by omega, by omega⟩

/-- What is read of an entry. -/
def rdEn (xs : List UInt8) : En × Bool :=
  let a := rdNum false xs
  let b := rdNum a.2.1 a.2.2
  let c := rdCm b.2.1 b.2.2
  if (c.2.1 = false ∧ c.2.2 = []) ∧ En.Right ⟨a.1, b.1, c.1⟩ then (⟨a.1, b.1, c.1⟩, true) else (En.zero, false)
theorem rdEn_ok {xs : List UInt8} (h : (rdEn xs).2 = true) : (rdEn xs).1.Right ∧ (rdEn xs).1.bytes = xs := by
  unfold rdEn at h ⊢
  simp only at h ⊢
  split at h
  · rename_i hc
    rw [if_pos hc]
    obtain ⟨⟨c1, c2⟩, c3⟩ := hc
    refine ⟨c3, ?_⟩
    obtain ⟨g3, e3, _⟩ := rdCm_inv c1
    obtain ⟨g2, e2, _⟩ := rdNum_inv g3
    obtain ⟨g1, e1, _⟩ := rdNum_inv g2
    rw [c2, List.append_nil] at e3
    unfold En.bytes
    simp only
    rw [← e3, ← e2, ← e1]
  · cases h
theorem rdEn_not {xs : List UInt8} (h : (rdEn xs).2 = false) : (rdEn xs).1 = En.zero := by
  unfold rdEn at h ⊢
  simp only at h ⊢
  split at h
  · cases h
  · rename_i hc; rw [if_neg hc]
theorem rdEn_bytes {e : En} (h : e.Right) : rdEn e.bytes = (e, true) := by
  obtain ⟨h1, h2, h3, h4, h5⟩ := id h
  have hr := h5.ranges
  unfold rdEn En.bytes
  simp only
  rw [rdNum_be (by omega) (by omega)]
  simp only
  rw [rdNum_be (by omega) (by omega)]
  simp only
  have := rdCm_bytes h5.small hr.1 hr.2.1 hr.2.2 []
  rw [List.append_nil] at this
  rw [this]
  simp only
  exact if_pos (by simpa using h)
theorem En.bytes_inj {a b : En} (ha : a.Right) (hb : b.Right) : a.bytes = b.bytes ↔ a = b := by
  refine ⟨fun h => ?_, fun h => h ▸ rfl⟩
  have h1 := rdEn_bytes ha
  have h2 := rdEn_bytes hb
  rw [h, h2] at h1
  exact (congrArg Prod.fst h1).symm
end Go.Proofs
