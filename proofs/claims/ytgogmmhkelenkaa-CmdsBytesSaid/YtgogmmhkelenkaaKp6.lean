/- PACK, part 6: a number laid comes back. -/
import Derived.Test.YtgogmmhkelenkaaKp5
set_option linter.all false
set_option linter.constructorNameAsVariable false
namespace Go.Proofs
open Go Go.KC

theorem emod_step (n q : Int) (hq : 0 < q) : n % (q * 256) = (n / q % 256) * q + n % q := by
  have h1 := Int.emod_add_mul_ediv n q
  have h2 := Int.emod_add_mul_ediv n (q * 256)
  have h3 : n / (q * 256) = n / q / 256 := (Int.ediv_ediv_of_nonneg (by omega)).symm
  have h4 : n / q = n / q % 256 + 256 * (n / q / 256) := by omega
  rw [h3] at h2
  generalize n / q / 256 = a' at h2 h4 ⊢
  generalize n / q % 256 = r' at h4 ⊢
  rw [h4, Int.mul_add] at h1
  rw [Int.mul_comm r' q]
  rw [Int.mul_assoc] at h2
  omega

theorem numOf_be (n : Int) : ∀ (k : Nat) (m : Int), w64 (numOf m (be n k)) = w64 (m * 256 ^ k + n % 256 ^ k) := by
  intro k
  induction k with
  | zero => intro m; simp [be, numOf, Int.emod_one]
  | succ k ih =>
    intro m
    have e : be n (k + 1) = byteAt n k :: be n k := rfl
    rw [e]
    show w64 (numOf (w64 (m * 256 + ((byteAt n k).toNat : Int))) (be n k)) = _
    rw [ih, w64_in, byteAt_toNat]
    have hp : (0 : Int) < 256 ^ k := Int.pow_pos (by omega)
    have e2 : (2 : Int) ^ (8 * k) = 256 ^ k := by rw [Int.pow_mul]; rfl
    rw [e2, Int.fdiv_eq_ediv_of_nonneg _ (by omega), Int.pow_succ, emod_step n _ hp, Int.add_mul, Int.mul_comm ((256 : Int) ^ k) 256, ← Int.mul_assoc, Int.add_assoc]

theorem numOf_range : ∀ (xs : List UInt8) (m : Int), -9223372036854775808 ≤ m → m ≤ 9223372036854775807 → -9223372036854775808 ≤ numOf m xs ∧ numOf m xs ≤ 9223372036854775807 := by
  intro xs
  induction xs with
  | nil => intro m h1 h2; exact ⟨h1, h2⟩
  | cons c t ih =>
    intro m _ _
    refine ih _ ?_ ?_
    · rw [w64_mod]; omega
    · rw [w64_mod]; omega

theorem numOf_be8 {n : Int} (h1 : -9223372036854775808 ≤ n) (h2 : n ≤ 9223372036854775807) : numOf 0 (be n 8) = n := by
  have h := numOf_be n 8 0
  have hr := numOf_range (be n 8) 0 (by omega) (by omega)
  rw [w64_id hr.1 hr.2] at h
  rw [h, w64_mod]
  omega

/-- A number laid ahead is what is read. -/
theorem rdNum_be {n : Int} (h1 : -9223372036854775808 ≤ n) (h2 : n ≤ 9223372036854775807) (t : List UInt8) : rdNum false (be n 8 ++ t) = (n, false, t) := by
  unfold rdNum
  have hl := be_length n 8
  have ht : tkok false 8 (be n 8 ++ t).length = true := by simp [tkok, hl]; omega
  rw [ht]
  simp only
  rw [List.take_left' hl, List.drop_left' hl, numOf_be8 h1 h2]

theorem rdByte_one (c : UInt8) (t : List UInt8) : rdByte false (c :: t) = ((c.toNat : Int), false, t) := by
  unfold rdByte
  have ht : tkok false 1 (c :: t).length = true := by simp [tkok]; omega
  rw [ht]; rfl

theorem rdText_text (s t : List UInt8) (hs : s.length ≤ 9223372036854775807) : rdText false (be (s.length : Int) 8 ++ (s ++ t)) = (s, false, t) := by
  unfold rdText
  rw [rdNum_be (by omega) (by omega)]
  have ht : tkok false ((s.length : Nat) : Int) (s ++ t).length = true := by simp [tkok]; omega
  simp only [ht]
  simp

theorem rdNum_true (xs : List UInt8) : rdNum true xs = (0, true, xs) := rfl

theorem rdByte_true (xs : List UInt8) : rdByte true xs = (0, true, xs) := rfl

theorem rdText_true (xs : List UInt8) : rdText true xs = ([], true, xs) := rfl

theorem rdNum_short {xs : List UInt8} (h : xs.length < 8) : rdNum false xs = (0, true, xs) := by
  unfold rdNum
  have : tkok false 8 xs.length = false := by simp [tkok]; omega
  rw [this]

theorem byteAt_zero (n : Int) : IntKind.u8.wrap n = ((byteAt n 0).toNat : Int) := by
  rw [wrapu8, byteAt_toNat]
  simp [Int.fdiv_one]

theorem one_byte {H : Hp} {c : UInt8} : vB2S (Array.push H (.cells #[.int .u8 (c.toNat : Int)] T_uint8)) (some (Addr.mk (Array.size H) 0 none)) 1 fun s => s = ByteArray.mk [c].toArray := by
  refine b2s_rows (x := ⟨some (Addr.mk (Array.size H) 0 none), 1, 1⟩) ⟨by simp, Nat.le_refl _, fun a ha => ?_, fun e => nomatch e⟩ rfl
  cases ha
  exact (src_byte (H := H) (c := c)).2

theorem Wr.new (H : Hp) : Wr (Array.push H (.cells #[.slice none 0 0] T_pack_Writer)) H.size [H.size] [] :=
  ⟨⟨none, 0, 0⟩, get_push_new _ _, Own.nil _ _ _, rfl, by simp [Sl.blk]⟩

end Go.Proofs
