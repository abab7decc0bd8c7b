/- LAYER 09, plain: a frame of which a byte is other is none. -/
import Derived.Test.YtpdondaekinmdaaKb14
import Derived.Test.YtpdondaekinmdaaKb5
set_option linter.all false
set_option linter.constructorNameAsVariable false
namespace Go.Proofs
open Go Go.KC

theorem oneM_zero {q ys r : List UInt8} {e : UInt8} (hq : q.length = 4) (hy : ys.length ≤ 16384) (h : (oneM (be (ys.length : Int) 4 ++ (q ++ (ys ++ (e :: r))))).2.2 = 0) : e = 229 ∧ crc ys = num4 q := by
  have hlen : (be (ys.length : Int) 4 ++ (q ++ (ys ++ (e :: r)))).length = 9 + ys.length + r.length := by
    simp only [List.length_append, be_length, List.length_cons, hq]; omega
  have hn : num4 (be (ys.length : Int) 4 ++ (q ++ (ys ++ (e :: r)))) = ys.length := num_be _ ⟨by omega, by omega⟩ _
  have e4 : (be (ys.length : Int) 4 ++ (q ++ (ys ++ (e :: r)))).drop 4 = q ++ (ys ++ (e :: r)) := List.drop_left' (be_length _ _)
  have e8 : (be (ys.length : Int) 4 ++ (q ++ (ys ++ (e :: r)))).drop 8 = ys ++ (e :: r) := by
    rw [← List.append_assoc]; exact List.drop_left' (by rw [List.length_append, be_length, hq])
  have eg : (be (ys.length : Int) 4 ++ (q ++ (ys ++ (e :: r)))).getD (8 + ys.length) 0 = e := by
    have : (be (ys.length : Int) 4 ++ (q ++ (ys ++ (e :: r))))[8 + ys.length]? = ((be (ys.length : Int) 4 ++ (q ++ (ys ++ (e :: r)))).drop 8)[ys.length]? := by rw [List.getElem?_drop]
    rw [List.getD_eq_getElem?_getD, this, e8, List.getElem?_append_right (Nat.le_refl _), Nat.sub_self]; rfl
  have en : num4 (q ++ (ys ++ (e :: r))) = num4 q := by
    match q, hq with
    | [a, b, c, d], _ => rfl
  unfold oneM at h
  rw [hn, if_neg (by omega), if_neg (by omega), if_neg (by omega), Int.toNat_natCast, eg, e4, e8, List.take_left, en] at h
  by_cases h1 : e = 229
  · rw [if_neg (by simpa using h1)] at h
    by_cases h2 : crc ys = num4 q
    · exact ⟨h1, h2⟩
    · rw [if_pos h2] at h; simp at h
  · rw [if_pos h1] at h; simp at h
theorem num4_inj {p q : List UInt8} (hp : p.length = 4) (hq : q.length = 4) (h : num4 p = num4 q) : p = q := by
  match p, hp, q, hq, h with
  | [a, b, c, d], _, [a', b', c', d'], _, h =>
    have ha := a.toNat_lt; have hb := b.toNat_lt; have hc := c.toNat_lt; have hd := d.toNat_lt
    have ha' := a'.toNat_lt; have hb' := b'.toNat_lt; have hc' := c'.toNat_lt; have hd' := d'.toNat_lt
    have h' : (a.toNat : Int) * 16777216 + b.toNat * 65536 + c.toNat * 256 + d.toNat = (a'.toNat : Int) * 16777216 + b'.toNat * 65536 + c'.toNat * 256 + d'.toNat := by
      simp only [num4] at h; omega
    have e1 : a = a' := UInt8.toNat_inj.1 (by omega)
    have e2 : b = b' := UInt8.toNat_inj.1 (by omega)
    have e3 : c = c' := UInt8.toNat_inj.1 (by omega)
    have e4 : d = d' := UInt8.toNat_inj.1 (by omega)
    rw [e1, e2, e3, e4]
theorem num4_be {n : Int} (h : 0 ≤ n ∧ n < 4294967296) : num4 (be n 4) = n := by have := num_be n h []; rwa [List.append_nil] at this

/-- A frame of which a byte behind its number is other is none. -/
theorem frame_turned {xs r : List UInt8} {k : Nat} {c : UInt8} (hx : xs.length ≤ 16384) (h4 : 4 ≤ k) (hk : k < (frB xs).length) (hc : (frB xs)[k]? ≠ some c) : (oneM ((frB xs).set k c ++ r)).2.2 ≠ 0 := by
  intro h0
  have hfl := frB_len xs
  have e0 : frB xs = be (xs.length : Int) 4 ++ (be (crc xs) 4 ++ (xs ++ [229])) := by unfold frB; simp only [List.append_assoc]
  rw [e0] at h0 hc
  have hcr := crc_range xs
  rw [List.set_append_right _ _ (by rw [be_length]; exact h4), be_length] at h0
  rw [List.getElem?_append_right (by rw [be_length]; exact h4), be_length] at hc
  by_cases h8 : k < 8
  · rw [List.set_append_left _ _ (by rw [be_length]; omega), List.append_assoc, List.append_assoc, List.append_assoc, List.singleton_append] at h0
    rw [List.getElem?_append_left (by rw [be_length]; omega)] at hc
    have := (oneM_zero (q := (be (crc xs) 4).set (k - 4) c) (List.length_set.trans (be_length _ _)) hx h0).2
    have e := num4_inj (be_length (crc xs) 4) (List.length_set.trans (be_length _ _)) (by rw [num4_be hcr]; exact this)
    apply hc
    rw [e]
    exact List.getElem?_set_self (by rw [be_length]; omega)
  · rw [List.set_append_right _ _ (by rw [be_length]; omega), be_length] at h0
    rw [List.getElem?_append_right (by rw [be_length]; omega), be_length] at hc
    by_cases hl : k - 4 - 4 < xs.length
    · rw [List.set_append_left _ _ hl, List.append_assoc, List.append_assoc, List.append_assoc, List.singleton_append] at h0
      rw [List.getElem?_append_left hl] at hc
      have hls : (xs.set (k - 4 - 4) c).length = xs.length := List.length_set
      rw [← hls] at h0
      have := (oneM_zero (be_length _ _) (by omega) h0).2
      rw [num4_be hcr] at this
      rw [List.getElem?_eq_getElem hl] at hc
      have es : xs.set (k - 4 - 4) c = xs.take (k - 4 - 4) ++ c :: xs.drop (k - 4 - 4 + 1) := by rw [List.set_eq_take_append_cons_drop, if_pos hl]
      have ex : xs = xs.take (k - 4 - 4) ++ xs[k - 4 - 4] :: xs.drop (k - 4 - 4 + 1) := by rw [← List.drop_eq_getElem_cons hl, List.take_append_drop]
      rw [es] at this
      have h2 : crc xs = crc (xs.take (k - 4 - 4) ++ xs[k - 4 - 4] :: xs.drop (k - 4 - 4 + 1)) := congrArg crc ex
      rw [h2] at this
      exact hc (by rw [crc_inj this])
    · have hkk : k - 4 - 4 = xs.length := by omega
      rw [hkk, List.set_append_right _ _ (Nat.le_refl _), Nat.sub_self, List.set_cons_zero, List.append_assoc, List.append_assoc, List.append_assoc, List.singleton_append] at h0
      rw [hkk, List.getElem?_append_right (Nat.le_refl _), Nat.sub_self] at hc
      exact hc (by rw [(oneM_zero (be_length _ _) hx h0).1]; rfl)
end Go.Proofs
