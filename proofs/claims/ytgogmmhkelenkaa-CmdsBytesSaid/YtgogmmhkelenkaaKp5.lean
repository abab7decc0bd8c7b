/- PACK, part 5: Reader.Byte, Text, Bad, Done; Of; a number comes back. -/
import Derived.Test.YtgogmmhkelenkaaKp4
set_option linter.all false
set_option linter.constructorNameAsVariable false
namespace Go.Proofs
open Go Go.KC

def rdByte (bad : Bool) (xs : List UInt8) : Int × Bool × List UInt8 :=
  match tkok bad 1 xs.length with
  | true => ((xs.headD 0).toNat, false, xs.drop 1)
  | false => (0, true, xs)

theorem Reader_Byte_spec {H : Hp} {b : Nat} {D : List Nat} {bad : Bool} {xs : List UInt8} (h : Rd H b D bad xs) :
    SCalls Try.prog pack_Reader_Byte.id [.pointer (some ⟨b, 0, none⟩)] H fun r H' => r = .int .u8 (rdByte bad xs).1 ∧ Mod (· = b) H H' ∧ Rd H' b D (rdByte bad xs).2.1 (rdByte bad xs).2.2 := by
  apply pack_Reader_Byte.calls
  refine (Reader_take_spec h).mono ?_
  rintro r H1 ⟨y, rfl, hm, hy⟩
  refine ⟨y, rfl, ?_⟩
  apply pack_Reader_Byte.l1.step
  unfold pack_Reader_Byte.l1.body rdByte
  cases ht : tkok bad 1 xs.length with
  | true =>
    rw [ht] at hy
    obtain ⟨h1, h2, h3⟩ := hy
    have hpos : 1 ≤ xs.length := by simp [tkok] at ht; omega
    have hl : y.len = 1 := by have := h1.1; simp at this; omega
    cases xs with
    | nil => simp at hpos
    | cons c t =>
      obtain ⟨a, ha, hc⟩ := h1.at (j := 0) (c := c) (by simp)
      rw [add_zero_of] at hc
      refine Br.yes (by simp; omega) ⟨⟨Int.le_refl _, by omega⟩, vPtr.mk a ha ⟨_, hc, rfl, hm, h3⟩⟩
  | false =>
    rw [ht] at hy
    obtain ⟨rfl, h3⟩ := hy
    exact Br.no (by simp) ⟨rfl, hm, h3⟩

def rdText (bad : Bool) (xs : List UInt8) : List UInt8 × Bool × List UInt8 :=
  let q := rdNum bad xs
  match tkok q.2.1 q.1 q.2.2.length with
  | true => (q.2.2.take q.1.toNat, false, q.2.2.drop q.1.toNat)
  | false => ([], true, q.2.2)

theorem Reader_Text_spec {H : Hp} {b : Nat} {D : List Nat} {bad : Bool} {xs : List UInt8} (h : Rd H b D bad xs) :
    SCalls Try.prog pack_Reader_Text.id [.pointer (some ⟨b, 0, none⟩)] H fun r H' => r = .string ⟨(rdText bad xs).1.toArray⟩ ∧ Mod (· = b) H H' ∧ Rd H' b D (rdText bad xs).2.1 (rdText bad xs).2.2 := by
  apply pack_Reader_Text.calls
  refine (Reader_Num_spec h).mono ?_
  rintro r H1 ⟨rfl, hm1, h1⟩
  refine ⟨_, rfl, ?_⟩
  refine (Reader_take_spec h1).mono ?_
  rintro r H2 ⟨y, rfl, hm2, hy⟩
  refine ⟨y, rfl, ?_⟩
  have hm : Mod (· = b) H H2 := hm1.trans hm2
  unfold rdText
  cases ht : tkok (rdNum bad xs).2.1 (rdNum bad xs).1 (rdNum bad xs).2.2.length with
  | true =>
    rw [ht] at hy
    obtain ⟨g1, g2, g3⟩ := hy
    simp only [ht]
    have hl : ((rdNum bad xs).2.2.take (rdNum bad xs).1.toNat).length = y.len := by have := g1.1; simpa using this
    cases hy0 : y.a with
    | none =>
      have e1 := g1.2.2.2 hy0
      have e2 := g1.2.1
      have e0 : (rdNum bad xs).2.2.take (rdNum bad xs).1.toNat = [] := List.eq_nil_of_length_eq_zero (by omega)
      refine ⟨?_, hm, g3⟩
      rw [e0]; rfl
    | some a =>
      refine ⟨⟨((rdNum bad xs).2.2.take (rdNum bad xs).1.toNat).toArray⟩, ⟨by show (List.toArray _).size = _; simpa using hl, ?_⟩, rfl, hm, g3⟩
      exact g1.2.2.1 a hy0
  | false =>
    rw [ht] at hy
    obtain ⟨rfl, g3⟩ := hy
    simp only [ht]
    exact ⟨rfl, hm, g3⟩

theorem Reader_Done_spec {H : Hp} {b : Nat} {D : List Nat} {bad : Bool} {xs : List UInt8} (h : Rd H b D bad xs) :
    SCalls Try.prog pack_Reader_Done.id [.pointer (some ⟨b, 0, none⟩)] H fun r H' => r = .bool (!bad && xs.isEmpty) ∧ H' = H := by
  obtain ⟨x, h1, h2, h3, h4⟩ := h
  have hlen : xs.length = x.len := by have := h2.1; simpa using this
  apply pack_Reader_Done.calls
  refine ⟨bad, by rw [Addr.add_loc, cell_of h1]; rfl, ?_⟩
  cases bad with
  | true => exact Br.no rfl ⟨rfl, rfl⟩
  | false =>
    refine Br.yes rfl ⟨x, by rw [cell_of h1]; rfl, ?_, rfl⟩
    cases xs with
    | nil => simp at hlen; simp [← hlen]
    | cons c t => simp at hlen; simp; omega

theorem Of_spec {H : Hp} {x : Sl} {D : List Nat} {xs : List UInt8} (h : Rows H x 1 (xs.map bv)) (hD : ∀ g ∈ x.blk, g ∈ D) (hlt : ∀ g ∈ D, g < H.size) :
    SCalls Try.prog pack_Of.id [.slice x.a x.len x.cap] H fun r H' => r = .pointer (some ⟨H.size, 0, none⟩) ∧ Mod (fun _ => False) H H' ∧ Rd H' H.size D false xs := by
  apply pack_Of.calls
  refine ⟨rfl, Mod.push _ _ _, x, get_push_new _ _, h.keep (Mod.push (fun _ => False) _ _) (fun _ _ h => h), hD, fun hin => Nat.lt_irrefl _ (hlt _ hin)⟩

end Go.Proofs
