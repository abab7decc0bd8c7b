/- LAYER 09, plain: of bytes of which one is other the sum is other. -/
import Derived.Test.YtpdondaekinmdaaKb3
set_option linter.all false
set_option linter.constructorNameAsVariable false
set_option maxRecDepth 100000
namespace Go.Proofs
open Go Go.KC

theorem bxor32_nat {a b : Nat} (ha : a < 2 ^ 32) (hb : b < 2 ^ 32) : bxor .u32 (a : Int) (b : Int) = ((a ^^^ b : Nat) : Int) := by
  have hab : a ^^^ b < 2 ^ 32 := Nat.xor_lt_two_pow ha hb
  have h1 : (BitVec.ofInt 32 (a : Int)).toNat = a := by rw [BitVec.toNat_ofInt]; omega
  have h2 : (BitVec.ofInt 32 (b : Int)).toNat = b := by rw [BitVec.toNat_ofInt]; omega
  have h : ∀ x : Int, IntKind.u32.wrap x = x % 4294967296 := fun x => by
    unfold IntKind.wrap
    simp [IntKind.bits, IntKind.signed]
  show IntKind.u32.wrap ((BitVec.ofInt 32 (a : Int) ^^^ BitVec.ofInt 32 (b : Int)).toNat : Int) = _
  rw [BitVec.toNat_xor, h1, h2, h]
  omega
theorem bxor8_nat {a b : Nat} (ha : a < 2 ^ 8) (hb : b < 2 ^ 8) : bxor .u8 (a : Int) (b : Int) = ((a ^^^ b : Nat) : Int) := by
  have hab : a ^^^ b < 2 ^ 8 := Nat.xor_lt_two_pow ha hb
  have h1 : (BitVec.ofInt 8 (a : Int)).toNat = a := by rw [BitVec.toNat_ofInt]; omega
  have h2 : (BitVec.ofInt 8 (b : Int)).toNat = b := by rw [BitVec.toNat_ofInt]; omega
  show IntKind.u8.wrap ((BitVec.ofInt 8 (a : Int) ^^^ BitVec.ofInt 8 (b : Int)).toNat : Int) = _
  rw [BitVec.toNat_xor, h1, h2, wrapu8]
  omega

abbrev P0 : Int := 3988292384
theorem st1_range {poly n : Int} (h : 0 ≤ n ∧ n < 4294967296) : 0 ≤ st1 poly n ∧ st1 poly n < 4294967296 := by
  unfold st1
  split
  · exact bxor_u32 _ _
  · rw [Int.fdiv_eq_ediv_of_nonneg _ (by omega)]; omega
theorem itr_range {poly : Int} : ∀ (j : Nat) {n : Int}, 0 ≤ n ∧ n < 4294967296 → 0 ≤ itr poly j n ∧ itr poly j n < 4294967296
  | 0, _, h => h
  | j + 1, _, h => itr_range j (st1_range h)
theorem ent_range (poly : Int) (k : Nat) : 0 ≤ ent poly k ∧ ent poly k < 4294967296 := by
  refine itr_range 8 ?_
  have h : ∀ x : Int, IntKind.u32.wrap x = x % 4294967296 := fun x => by
    unfold IntKind.wrap
    simp [IntKind.bits, IntKind.signed]
  rw [h]; omega
def entN (k : Nat) : Nat := (ent P0 k).toNat
theorem entN_lt (k : Nat) : entN k < 2 ^ 32 := by have := ent_range P0 k; unfold entN; omega
theorem entN_int (k : Nat) : ent P0 k = (entN k : Int) := by have := ent_range P0 k; unfold entN; omega
def topN : List Nat := (List.range 256).map fun k => entN k / 16777216
theorem topN_nodup : topN.Nodup := by decide +kernel
theorem top_inj {i j : Nat} (hi : i < 256) (hj : j < 256) (h : entN i / 16777216 = entN j / 16777216) : i = j := by
  have hl : topN.length = 256 := by unfold topN; simp
  have g : ∀ k (hk : k < 256), topN[k]'(by omega) = entN k / 16777216 := fun k hk => by unfold topN; simp
  exact (List.getElem_inj (h₀ := by omega) (h₁ := by omega) topN_nodup).1 (by rw [g i hi, g j hj, h])

/-- A step, on numbers. -/
def stepN (m c : Nat) : Nat := entN ((m % 256) ^^^ c) ^^^ (m / 256)
theorem stepN_lt {m c : Nat} (h : m < 2 ^ 32) : stepN m c < 2 ^ 32 := Nat.xor_lt_two_pow (entN_lt _) (by omega)
theorem crcStep_nat {m : Nat} (h : m < 2 ^ 32) (c : UInt8) : crcStep P0 (m : Int) c = (stepN m c.toNat : Int) := by
  have hc := c.toNat_lt
  unfold crcStep stepN
  have e1 : IntKind.u8.wrap (m : Int) = ((m % 256 : Nat) : Int) := by rw [wrapu8]; omega
  have e2 : Int.fdiv (m : Int) (2 ^ 8) = ((m / 256 : Nat) : Int) := by rw [Int.fdiv_eq_ediv_of_nonneg _ (by omega)]; omega
  rw [e1, e2, bxor8_nat (by omega) (by omega), Int.toNat_natCast, entN_int, bxor32_nat (entN_lt _) (by omega)]
theorem stepN_inj {m m' c c' : Nat} (hm : m < 2 ^ 32) (hm' : m' < 2 ^ 32) (hc : c < 256) (hc' : c' < 256) (h : stepN m c = stepN m' c') : (m % 256) ^^^ c = (m' % 256) ^^^ c' ∧ m / 256 = m' / 256 := by
  unfold stepN at h
  have i1 : (m % 256) ^^^ c < 2 ^ 8 := Nat.xor_lt_two_pow (by omega) (by omega)
  have i2 : (m' % 256) ^^^ c' < 2 ^ 8 := Nat.xor_lt_two_pow (by omega) (by omega)
  have key : ∀ a b : Nat, b < 2 ^ 24 → (a ^^^ b) / 16777216 = a / 16777216 := fun a b hb => by
    have : (16777216 : Nat) = 2 ^ 24 := rfl
    rw [this, ← Nat.shiftRight_eq_div_pow, ← Nat.shiftRight_eq_div_pow, Nat.shiftRight_xor_distrib, Nat.shiftRight_eq_div_pow b, Nat.div_eq_of_lt hb, Nat.xor_zero]
  have e : (m % 256) ^^^ c = (m' % 256) ^^^ c' := top_inj (by omega) (by omega) (by
    have k1 := key (entN ((m % 256) ^^^ c)) (m / 256) (by omega)
    have k2 := key (entN ((m' % 256) ^^^ c')) (m' / 256) (by omega)
    rw [h] at k1
    rw [← k1, ← k2])
  refine ⟨e, ?_⟩
  rw [e] at h
  have h2 := congrArg (fun x => entN ((m' % 256) ^^^ c') ^^^ x) h
  simpa [← Nat.xor_assoc] using h2

def crcM (xs : List UInt8) (m : Nat) : Nat := xs.foldl (fun m c => stepN m c.toNat) m
theorem crcM_lt : ∀ (xs : List UInt8) {m : Nat}, m < 2 ^ 32 → crcM xs m < 2 ^ 32
  | [], _, h => h
  | _ :: xs, _, h => crcM_lt xs (stepN_lt h)
theorem crcN_nat : ∀ (xs : List UInt8) {m : Nat}, m < 2 ^ 32 → crcN P0 xs (m : Int) = (crcM xs m : Int)
  | [], _, _ => rfl
  | c :: xs, m, h => by
    show crcN P0 xs (crcStep P0 (m : Int) c) = (crcM xs (stepN m c.toNat) : Int)
    rw [crcStep_nat h, crcN_nat xs (stepN_lt h)]
theorem crcM_inj : ∀ (xs : List UInt8) {m m' : Nat}, m < 2 ^ 32 → m' < 2 ^ 32 → crcM xs m = crcM xs m' → m = m'
  | [], _, _, _, _, h => h
  | c :: xs, m, m', hm, hm', h => by
    have h1 := crcM_inj xs (stepN_lt hm) (stepN_lt hm') h
    have hc := c.toNat_lt
    obtain ⟨h2, h3⟩ := stepN_inj hm hm' (by omega) (by omega) h1
    have h4 := congrArg (fun x => x ^^^ c.toNat) h2
    simp [Nat.xor_assoc] at h4
    omega
theorem crc_inj {a b : List UInt8} {c c' : UInt8} (h : crc (a ++ c :: b) = crc (a ++ c' :: b)) : c = c' := by
  unfold crc at h
  have e0 : (4294967295 : Int) = ((4294967295 : Nat) : Int) := rfl
  rw [e0, crcN_nat _ (by omega), crcN_nat _ (by omega)] at h
  have l1 := crcM_lt (a ++ c :: b) (m := 4294967295) (by omega)
  have l2 := crcM_lt (a ++ c' :: b) (m := 4294967295) (by omega)
  rw [bxor32_nat (by omega) l1, bxor32_nat (by omega) l2] at h
  have h1 : 4294967295 ^^^ crcM (a ++ c :: b) 4294967295 = 4294967295 ^^^ crcM (a ++ c' :: b) 4294967295 := by omega
  have h2 := congrArg (fun x => 4294967295 ^^^ x) h1
  simp only [← Nat.xor_assoc, Nat.xor_self, Nat.zero_xor] at h2
  have sp : ∀ d : UInt8, crcM (a ++ d :: b) 4294967295 = crcM b (stepN (crcM a 4294967295) d.toNat) := fun d => by
    unfold crcM; rw [List.foldl_append]; rfl
  rw [sp, sp] at h2
  have la := crcM_lt a (m := 4294967295) (by omega)
  have h3 := crcM_inj b (stepN_lt la) (stepN_lt la) h2
  have hc := c.toNat_lt
  have hc' := c'.toNat_lt
  obtain ⟨h4, -⟩ := stepN_inj la la (by omega) (by omega) h3
  have h5 := congrArg (fun x => (crcM a 4294967295 % 256) ^^^ x) h4
  simp only [← Nat.xor_assoc, Nat.xor_self, Nat.zero_xor] at h5
  exact UInt8.toNat_inj.1 h5
end Go.Proofs
