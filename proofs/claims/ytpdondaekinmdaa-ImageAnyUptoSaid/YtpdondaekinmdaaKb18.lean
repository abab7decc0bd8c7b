/- LAYER 09: plain: what frames are read of bytes are the bytes' beginning. -/
import Derived.Test.YtpdondaekinmdaaKbx17
set_option linter.all false
set_option linter.constructorNameAsVariable false
namespace Go.Proofs
open Go Go.KC

theorem be_num (a b c d : UInt8) (r : List UInt8) : be (num4 (a :: b :: c :: d :: r)) 4 = [a, b, c, d] := by
  have h0 := num4_range (a :: b :: c :: d :: r)
  have h1 := num_be (num4 (a :: b :: c :: d :: r)) h0 []
  have hl : (be (num4 (a :: b :: c :: d :: r)) 4).length = 4 := be_length _ _
  rw [List.append_nil] at h1
  generalize be (num4 (a :: b :: c :: d :: r)) 4 = l at h1 hl
  match l, hl with
  | [a', b', c', d'], _ =>
    simp only [num4] at h1
    have := a.toNat_lt; have := b.toNat_lt; have := c.toNat_lt; have := d.toNat_lt
    have := a'.toNat_lt; have := b'.toNat_lt; have := c'.toNat_lt; have := d'.toNat_lt
    rw [show a' = a from UInt8.toNat_inj.1 (by omega), show b' = b from UInt8.toNat_inj.1 (by omega), show c' = c from UInt8.toNat_inj.1 (by omega), show d' = d from UInt8.toNat_inj.1 (by omega)]

theorem oneM_inv {xs : List UInt8} (h : (oneM xs).2.2 = 0) : xs = frB (oneM xs).1 ++ xs.drop (oneM xs).2.1.toNat := by
  obtain ⟨h1, h2, h3, h4, h5⟩ := oneM_ok h
  obtain ⟨n, hn⟩ : ∃ n : Nat, num4 xs = (n : Int) := ⟨(num4 xs).toNat, by omega⟩
  have hc : xs.getD (8 + n) 0 = 229 ∧ crc ((xs.drop 8).take n) = num4 (xs.drop 4) := by
    unfold oneM at h
    split at h
    · simp at h
    split at h
    · simp at h
    split at h
    · simp at h
    split at h
    · simp at h
    split at h
    · simp at h
    rename_i g1 g2
    rw [hn] at g1 g2
    exact ⟨Decidable.not_not.1 g1, Decidable.not_not.1 g2⟩
  match xs, h4 with
  | a :: b :: c :: d :: e :: f :: g :: k :: t, h4 =>
    rw [h5, h1, hn]
    have e8 : (a :: b :: c :: d :: e :: f :: g :: k :: t).drop 8 = t := rfl
    have e4 : (a :: b :: c :: d :: e :: f :: g :: k :: t).drop 4 = e :: f :: g :: k :: t := rfl
    rw [e8, e4] at hc
    rw [e8]
    have hl : n + 1 ≤ t.length := by simp only [List.length_cons] at h4; omega
    have ht : t = t.take n ++ (229 :: t.drop (n + 1)) := by
      have h229 : t[n]'(by omega) = 229 := by
        have := hc.1
        rw [List.getD_eq_getElem?_getD] at this
        have e : (a :: b :: c :: d :: e :: f :: g :: k :: t)[8 + n]? = t[n]? := by rw [show 8 + n = n + 8 by omega]; rfl
        rw [e, List.getElem?_eq_getElem (by omega)] at this
        exact this
      conv => lhs; rw [← List.take_append_drop n t]
      rw [List.drop_eq_getElem_cons (by omega), h229]
    have hq : (n : Int).toNat = n := by omega
    have hd : (9 + (n : Int)).toNat = n + 9 := by omega
    rw [hq, hd]
    have ed : (a :: b :: c :: d :: e :: f :: g :: k :: t).drop (n + 9) = t.drop (n + 1) := rfl
    rw [ed]
    unfold frB
    have el : ((t.take n).length : Int) = num4 (a :: b :: c :: d :: e :: f :: g :: k :: t) := by rw [hn, List.length_take]; omega
    rw [el, be_num, hc.2, be_num]
    simp only [List.cons_append, List.nil_append, List.append_assoc]
    rw [← ht]
theorem flat_go : ∀ (f : Nat) (xs : List UInt8), flatF (frGo f xs).1 = xs.take (frGo f xs).2
  | 0, xs => rfl
  | f + 1, xs => by
    by_cases h : (oneM xs).2.2 = 0
    · have e : frGo (f + 1) xs = ((oneM xs).1 :: (frGo f (xs.drop (oneM xs).2.1.toNat)).1, (oneM xs).2.1.toNat + (frGo f (xs.drop (oneM xs).2.1.toNat)).2) := by
        show (if _ then _ else _) = _; rw [if_pos h]
      have hi := oneM_inv h
      have hok := oneM_ok h
      have hl : (frB (oneM xs).1).length = (oneM xs).2.1.toNat := by
        rw [frB_len, hok.2.2.2.2, List.length_take, List.length_drop]; omega
      rw [e, flatF_cons, flat_go f]
      have gen : ∀ (y rest zs : List UInt8) (m : Nat), zs = y ++ rest → y ++ rest.take m = zs.take (y.length + m) := by
        rintro y rest zs m rfl
        rw [List.take_length_add_append]
      have := gen _ _ _ (frGo f (xs.drop (oneM xs).2.1.toNat)).2 hi
      rw [hl] at this
      exact this
    · have e : frGo (f + 1) xs = ([], 0) := by show (if _ then _ else _) = _; rw [if_neg h]
      rw [e]; rfl
theorem flat_frames (xs : List UInt8) : flatF (frames xs).1 = xs.take (frames xs).2 := flat_go _ xs
theorem frames_small (xs : List UInt8) : Small (frames xs).1 := frames_le xs
theorem FlOK.flat {bs : List UInt8} {i t : Int} {ps : List Pr} {xs : List Se} (h : FlOK bs i t ps xs) : flatF [hdB 0 i i, stB i t ps xs] = bs ∧ Small [hdB 0 i i, stB i t ps xs] := by
  have h1 := flat_frames bs
  have h2 := frames_small bs
  rw [h.2] at h1 h2
  exact ⟨by rw [h1]; exact List.take_length, h2⟩
theorem PtOK.flat {bs : List UInt8} {fv : Int} {es : List En} {n : Nat} (h : PtOK bs fv es n) : ptB fv es = bs.take n ∧ n ≤ bs.length ∧ 9 * es.length ≤ bs.length := by
  have h1 := flat_frames bs
  have h2 := frames_len bs
  rw [h.1] at h1 h2
  refine ⟨h1, h2.2, ?_⟩
  have := h2.1
  rw [List.length_cons, List.length_map] at this
  omega
end Go.Proofs
