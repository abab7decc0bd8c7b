/- PACK, part 4: a number of eight bytes; Reader.Num, Byte, Text, Bad, Done. -/
import Derived.Test.YtgogmmhkelenkaaKp3
set_option linter.all false
set_option linter.constructorNameAsVariable false
namespace Go.Proofs
open Go Go.KC

theorem bor_low (a : Int) (c : UInt8) : bor .i64 (w64 (a * 2 ^ 8)) (w64 (c.toNat : Int)) = w64 (a * 256 + (c.toNat : Int)) := by
  have hc : c.toNat < 256 := c.toNat_lt
  have e2 : w64 (c.toNat : Int) = (c.toNat : Int) := w64_id (by omega) (by omega)
  have e1 : w64 (a * 2 ^ 8) = w64 (a * 256) := rfl
  rw [e2, e1]
  have key : ((BitVec.ofInt 64 (w64 (a * 256)) ||| BitVec.ofInt 64 (c.toNat : Int)).toNat : Int) = (a * 256 + (c.toNat : Int)) % 18446744073709551616 := by
    rw [BitVec.toNat_or]
    have h1 : (BitVec.ofInt 64 (w64 (a * 256))).toNat = 256 * (a % 72057594037927936).toNat := by
      rw [BitVec.toNat_ofInt, w64_mod]
      omega
    have h2 : (BitVec.ofInt 64 (c.toNat : Int)).toNat = c.toNat := by
      rw [BitVec.toNat_ofInt]
      omega
    rw [h1, h2]
    have h3 := Nat.two_pow_add_eq_or_of_lt (i := 8) (b := c.toNat) (by omega) (a % 72057594037927936).toNat
    rw [show (256 : Nat) = 2 ^ 8 from rfl, ← h3]
    omega
  show IntKind.i64.wrap ((BitVec.ofInt 64 (w64 (a * 256)) ||| BitVec.ofInt 64 (c.toNat : Int)).toNat : Int) = _
  rw [key]
  show w64 _ = _
  rw [w64_mod, w64_mod]
  omega

/-- What a Reader makes of bytes. -/
def numOf (n : Int) : List UInt8 → Int
  | [] => n
  | c :: r => numOf (w64 (n * 256 + (c.toNat : Int))) r

theorem RNum_loop {x : Sl} {H : Hp} {Q : Value → Hp → Prop} {xs : List UInt8} (h : Rows H x 1 (xs.map bv)) (hm : x.len ≤ 9223372036854775807) : ∀ (d j : Nat) (n : Int), j + d = x.len →
    Q (.int .i64 (numOf n (xs.drop j))) H → pack_Reader_Num.l1 J0 x H n (j : Int) Q := by
  have hl : xs.length = x.len := by have := h.1; simpa using this
  intro d
  induction d with
  | zero =>
    intro j n hj hQ
    apply pack_Reader_Num.l1.step
    unfold pack_Reader_Num.l1.body
    rw [List.drop_eq_nil_of_le (by omega)] at hQ
    exact Br.no (by simp; omega) hQ
  | succ d ih =>
    intro j n hj hQ
    apply pack_Reader_Num.l1.step
    unfold pack_Reader_Num.l1.body
    have hlt : j < xs.length := by omega
    have hget : xs[j]? = some xs[j] := List.getElem?_eq_getElem hlt
    obtain ⟨a, ha, hc⟩ := h.at hget
    refine Br.yes (by simp; omega) ⟨⟨by omega, by omega⟩, vPtr.mk a ha ⟨_, by simpa using hc, by omega, ?_⟩⟩
    rw [bor_low, w64_id (x := (j : Int) + 1) (by omega) (by omega)]
    have := ih (j + 1) (w64 (n * 256 + (xs[j].toNat : Int))) (by omega) (by rw [List.drop_eq_getElem_cons hlt] at hQ; exact hQ)
    simpa using this

/-- What is read of a number. -/
def rdNum (bad : Bool) (xs : List UInt8) : Int × Bool × List UInt8 :=
  match tkok bad 8 xs.length with
  | true => (numOf 0 (xs.take 8), false, xs.drop 8)
  | false => (0, true, xs)

theorem Reader_Num_spec {H : Hp} {b : Nat} {D : List Nat} {bad : Bool} {xs : List UInt8} (h : Rd H b D bad xs) :
    SCalls Try.prog pack_Reader_Num.id [.pointer (some ⟨b, 0, none⟩)] H fun r H' => r = .int .i64 (rdNum bad xs).1 ∧ Mod (· = b) H H' ∧ Rd H' b D (rdNum bad xs).2.1 (rdNum bad xs).2.2 := by
  apply pack_Reader_Num.calls
  refine (Reader_take_spec h).mono ?_
  rintro r H1 ⟨y, rfl, hm, hy⟩
  refine ⟨y, rfl, ?_⟩
  unfold rdNum
  cases ht : tkok bad 8 xs.length with
  | true =>
    rw [ht] at hy
    obtain ⟨h1, h2, h3⟩ := hy
    have hl : (xs.take 8).length = y.len := by have := h1.1; simpa using this
    have := RNum_loop (Q := fun r H' => r = .int .i64 (numOf 0 (xs.take 8)) ∧ Mod (· = b) H H' ∧ Rd H' b D false (xs.drop 8)) h1 (by rw [← hl]; simp; omega) y.len 0 0 (by omega) ⟨rfl, hm, h3⟩
    simpa using this
  | false =>
    rw [ht] at hy
    obtain ⟨rfl, h3⟩ := hy
    have := RNum_loop (Q := fun r H' => r = .int .i64 0 ∧ Mod (· = b) H H' ∧ Rd H' b D true xs) (H := H1) (x := ⟨none, 0, 0⟩) (xs := []) ⟨rfl, Nat.le_refl _, (fun a ha => nomatch ha), (fun _ => rfl)⟩ (by simp) 0 0 0 rfl ⟨rfl, hm, h3⟩
    simpa using this

end Go.Proofs
