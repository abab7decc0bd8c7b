/- HEAPS, part 2: rows of cells that one reads; what is new; numbers of eight bytes. Generic. -/
import Derived.Test.YtbodlapndgnkgaaKh1
set_option linter.all false
set_option linter.constructorNameAsVariable false
namespace Go.Proofs
open Go Go.KC

def bv (b : UInt8) : Value := .int .u8 (b.toNat : Int)

theorem allOne_bv : ∀ l : List UInt8, allOne (l.map bv) = true
  | [] => rfl
  | _ :: r => by simp [allOne, bv, Value.oneCell', allOne_bv r]

theorem w64_id {x : Int} (h1 : -9223372036854775808 ≤ x) (h2 : x ≤ 9223372036854775807) : w64 x = x := by
  unfold w64 IntKind.wrap
  simp only [IntKind.bits, IntKind.signed, Bool.true_and, decide_eq_true_eq, show (2 : Int) ^ 64 = 18446744073709551616 from rfl, show (2 : Int) ^ (64 - 1) = 9223372036854775808 from rfl]
  split <;> omega

theorem wrapu8 (x : Int) : IntKind.u8.wrap x = x % 256 := by
  unfold IntKind.wrap
  simp [IntKind.bits, IntKind.signed]

theorem src_string (H : Hp) (s : ByteArray) : SrcAt H 1 (srcLen (.string s)) (.string s) (s.data.toList.map bv) := by
  show _ = ((s.extract 0 s.size).data.toList.map fun b => Value.int .u8 b.toNat)
  rw [ByteArray.extract_zero_size]
  rfl

/-- The cells of a slice: cs, of sz cells each element. -/
def Rows (H : Hp) (x : Sl) (sz : Nat) (cs : List Value) : Prop :=
  cs.length = x.len * sz ∧ x.len ≤ x.cap ∧ (∀ a, x.a = some a → RowAt H a cs) ∧ (x.a = none → x.cap = 0)

theorem rowAt_keep {m : Nat → Prop} {H H' : Hp} {a : Addr} {cs : List Value} (h : RowAt H a cs) (hm : Mod m H H') (ha : ¬ m a.block) : RowAt H' a cs := fun j v hj => by
  have hc := h j v hj
  have hb : (a.add j).block = a.block := by unfold Addr.add; split <;> rfl
  unfold Hp.cell? at hc ⊢
  rw [hb] at hc ⊢
  cases hg : H[a.block]? with
  | none => rw [hg] at hc; cases hc
  | some o => rw [hm.get hg ha]; rw [hg] at hc; exact hc

theorem Rows.keep {m : Nat → Prop} {H H' : Hp} {x : Sl} {sz : Nat} {cs : List Value} (h : Rows H x sz cs) (hm : Mod m H H') (hx : ∀ b ∈ x.blk, ¬ m b) : Rows H' x sz cs :=
  ⟨h.1, h.2.1, fun a ha => rowAt_keep (h.2.2.1 a ha) hm (hx _ (by simp [Sl.blk, ha])), h.2.2.2⟩

theorem Own.rows {H : Hp} {x : Sl} {e : TypeId} {sz : Nat} {cs : List Value} (h : Own H x e sz cs) : Rows H x sz cs := by
  refine ⟨h.1, h.2.1, fun a ha => h.row ha, fun ha => ?_⟩
  obtain ⟨_, _, h3 | ⟨g, cur, hg0, _⟩⟩ := h
  · exact h3.2
  · rw [hg0] at ha; cases ha

theorem spot_of_cell {H : Hp} {a : Addr} {v : Value} (h : Hp.cell? H a = some v) : a.spot = none := by
  unfold Hp.cell? at h
  split at h
  · split at h
    · cases h
    · rename_i hs; cases hsp : a.spot <;> simp_all
  · cases h

theorem cutA_zero (a : Option Addr) (c sz : Nat) : cutA a c 0 sz = a := by
  unfold cutA
  split
  · rfl
  · cases a <;> simp [Addr.add]

theorem cutA_blk (x : Sl) (c l sz n m : Nat) : ∀ b ∈ Sl.blk ⟨cutA x.a c l sz, n, m⟩, b ∈ x.blk := by
  intro b hb
  have hadd : ∀ (a : Addr) k, (a.add k).block = a.block := fun a k => by unfold Addr.add; split <;> rfl
  cases ha : x.a with
  | none =>
    have : cutA x.a c l sz = none := by unfold cutA; rw [ha]; split <;> rfl
    simp [Sl.blk, this] at hb
  | some a =>
    by_cases hc : c = l
    · have : cutA x.a c l sz = some a := by unfold cutA; rw [if_pos hc, ha]
      simp [Sl.blk, this] at hb
      simp [Sl.blk, ha, hb]
    · have : cutA x.a c l sz = some (a.add (l * sz)) := by unfold cutA; rw [if_neg hc, ha]; rfl
      simp [Sl.blk, this, hadd] at hb
      simp [Sl.blk, ha, hb]

theorem Rows.take {H : Hp} {x : Sl} {sz : Nat} {cs : List Value} (h : Rows H x sz cs) {n : Nat} (hn : n ≤ x.len) : Rows H ⟨cutA x.a x.cap 0 sz, n, x.cap⟩ sz (cs.take (n * sz)) := by
  rw [cutA_zero]
  have hle : n * sz ≤ x.len * sz := Nat.mul_le_mul_right _ hn
  refine ⟨by show (cs.take (n * sz)).length = n * sz; rw [List.length_take, h.1]; omega, Nat.le_trans hn h.2.1, fun a ha j v hj => h.2.2.1 a ha j v ?_, h.2.2.2⟩
  rw [List.getElem?_take] at hj
  split at hj
  · exact hj
  · cases hj

theorem Rows.drop {H : Hp} {x : Sl} {sz : Nat} {cs : List Value} (h : Rows H x sz cs) {n : Nat} (hn : n ≤ x.len) : Rows H ⟨cutA x.a x.cap n sz, x.len - n, x.cap - n⟩ sz (cs.drop (n * sz)) := by
  have hle : n * sz ≤ x.len * sz := Nat.mul_le_mul_right _ hn
  refine ⟨by rw [List.length_drop, h.1, Nat.sub_mul], Nat.sub_le_sub_right h.2.1 n, fun a ha j v hj => ?_, fun ha => ?_⟩
  · have hj' : cs[n * sz + j]? = some v := by rw [List.getElem?_drop] at hj; exact hj
    have hlt := (List.getElem?_eq_some_iff.1 hj').1
    unfold cutA at ha
    split at ha
    · rename_i hc
      have hx := h.2.1
      have : x.len * sz ≤ n * sz := Nat.mul_le_mul_right _ (by omega)
      rw [h.1] at hlt
      omega
    · cases hxa : x.a with
      | none => simp [hxa] at ha
      | some a0 =>
        simp [hxa] at ha
        subst ha
        have h1 := h.2.2.1 a0 hxa (n * sz + j) v hj'
        have h0 : ∃ u, cs[0]? = some u := ⟨cs[0]'(by omega), List.getElem?_eq_getElem (by omega)⟩
        obtain ⟨u, hu⟩ := h0
        have hs := spot_of_cell (h.2.2.1 a0 hxa 0 u hu)
        have hs' : a0.spot = none := by simpa [Addr.add] using hs
        rw [add_add _ _ _ hs']; exact h1
  · unfold cutA at ha
    split at ha
    · rename_i hc; have := h.2.2.2 ha; show x.cap - n = 0; omega
    · cases hxa : x.a with
      | none => have := h.2.2.2 hxa; show x.cap - n = 0; omega
      | some a0 => simp [hxa] at ha

theorem w64_mod (x : Int) : w64 x = (x + 9223372036854775808) % 18446744073709551616 - 9223372036854775808 := by
  unfold w64 IntKind.wrap
  simp only [IntKind.bits, IntKind.signed, Bool.true_and, decide_eq_true_eq, show (2 : Int) ^ 64 = 18446744073709551616 from rfl, show (2 : Int) ^ (64 - 1) = 9223372036854775808 from rfl]
  split <;> omega

theorem Rows.at {H : Hp} {x : Sl} {xs : List UInt8} (h : Rows H x 1 (xs.map bv)) {j : Nat} {c : UInt8} (hj : xs[j]? = some c) : ∃ a, x.a = some a ∧ Hp.cell? H (a.add j) = some (.int .u8 (c.toNat : Int)) := by
  have hl : xs.length = x.len := by have := h.1; simpa using this
  have hlt := (List.getElem?_eq_some_iff.1 hj).1
  cases ha : x.a with
  | none => have h1 := h.2.2.2 ha; have h2 := h.2.1; omega
  | some a => exact ⟨a, rfl, h.2.2.1 a ha j _ (by rw [List.getElem?_map, hj]; rfl)⟩

theorem add_zero_of (a : Addr) : a.add 0 = a := by
  obtain ⟨b, o, s⟩ := a
  cases s <;> simp [Addr.add]

theorem w64_in (a c d : Int) : w64 (w64 a * c + d) = w64 (a * c + d) := by
  obtain ⟨q, hq⟩ : ∃ q, w64 a = a + 18446744073709551616 * q := by
    refine ⟨- ((a + 9223372036854775808) / 18446744073709551616), ?_⟩
    rw [w64_mod]; omega
  rw [hq, w64_mod, w64_mod, Int.add_mul, show a * c + 18446744073709551616 * q * c + d + 9223372036854775808 = a * c + d + 9223372036854775808 + 18446744073709551616 * (q * c) by rw [Int.mul_assoc]; omega, Int.add_mul_emod_self_left]

/-- What is new may change: the rest is kept. -/
theorem Mod.fresh {m : Nat → Prop} {H H' : Hp} (h : Mod m H H') (hm : ∀ g, m g → H.size ≤ g) : Mod (fun _ => False) H H' :=
  h.mono fun g hg hm' => absurd (hm g hm') (by omega)

def iv (n : Int) : Value := .int .i64 n

/-- A cell of a slice. -/
theorem Rows.get {H : Hp} {x : Sl} {cs : List Value} (h : Rows H x 1 cs) {j : Nat} {v : Value} (hj : cs[j]? = some v) : ∃ a, x.a = some a ∧ Hp.cell? H (a.add j) = some v := by
  have hl : cs.length = x.len := by have := h.1; simpa using this
  have hlt := (List.getElem?_eq_some_iff.1 hj).1
  cases ha : x.a with
  | none => have h1 := h.2.2.2 ha; have h2 := h.2.1; omega
  | some a => exact ⟨a, rfl, h.2.2.1 a ha j _ hj⟩

theorem min_toNat (k n : Nat) : ((if (k : Int) < ((n : Nat) : Int) then (k : Int) else ((n : Nat) : Int)) : Int).toNat = min k n := by
  split <;> omega

/-- Only what is new since H was turned. -/
def Fresh (H H' : Hp) : Prop := Mod (fun g => H.size ≤ g) H H'

theorem Fresh.mod {H H' : Hp} (h : Fresh H H') : Mod (fun _ => False) H H' := Mod.fresh h fun _ h => h

theorem Fresh.step {m : Nat → Prop} {H H1 H2 : Hp} (h : Fresh H H1) (k : Mod m H1 H2) (hm : ∀ g, m g → H.size ≤ g) : Fresh H H2 := Mod.trans' h k fun g _ hg => hm g hg

theorem Fresh.rows {H H' : Hp} {x : Sl} {sz : Nat} {cs : List Value} (h : Fresh H H') (hr : Rows H x sz cs) : Rows H' x sz cs :=
  ⟨hr.1, hr.2.1, fun a ha j v hj => by
    have hc := hr.2.2.1 a ha j v hj
    unfold Hp.cell? at hc ⊢
    cases hg : H[(a.add j).block]? with
    | none => rw [hg] at hc; cases hc
    | some o =>
      rw [Mod.get h hg (by have := lt_of_get hg; omega)]
      rw [hg] at hc; exact hc, hr.2.2.2⟩

def sv (s : ByteArray) : Value := .string s

theorem ba_len (s : ByteArray) : s.data.toList.length = s.size := by rw [Array.length_toList]; rfl

theorem b2s_imp {H : Hp} {a : Option Addr} {n : Nat} {K K' : ByteArray → Prop} (h : vB2S H a n K) (hk : ∀ s, K s → K' s) : vB2S H a n K' := by
  cases a
  · exact hk _ h
  · obtain ⟨s, hs, h⟩ := h
    exact ⟨s, hs, hk _ h⟩

theorem tmod3 {c : UInt8} {t : Nat} (h : c.toNat % 3 = t) : Int.tmod (c.toNat : Int) 3 = (t : Int) := by
  rw [Int.tmod_eq_emod_of_nonneg (by omega)]; omega

theorem b2s_rows {H : Hp} {x : Sl} {ys : List UInt8} {n : Nat} (h : Rows H x 1 (ys.map bv)) (hn : n = x.len) : vB2S H x.a n fun s => s = ByteArray.mk ys.toArray := by
  subst hn
  have hl : ys.length = x.len := by have := h.1; simpa using this
  cases hy0 : x.a with
  | none =>
    have e1 := h.2.2.2 hy0
    have e2 := h.2.1
    have e0 : ys = [] := List.eq_nil_of_length_eq_zero (by omega)
    show ByteArray.empty = _
    rw [e0]; rfl
  | some a => exact ⟨⟨ys.toArray⟩, ⟨by show (List.toArray _).size = _; simpa using hl, h.2.2.1 a hy0⟩, rfl⟩

theorem ba_append (a b : List UInt8) : (ByteArray.mk a.toArray ++ ByteArray.mk b.toArray) = ByteArray.mk (a ++ b).toArray := by
  apply ByteArray.ext
  simp

theorem ba_mk (s : ByteArray) : ByteArray.mk s.data.toList.toArray = s := by
  rw [Array.toArray_toList]

theorem ba_size (a : List UInt8) : (ByteArray.mk a.toArray).size = a.length := by
  show (List.toArray a).size = _
  simp

/-- What 'bytes' tells: it only lays new blocks. -/
def TellPost (H : Hp) (v : Value) (r : Value) (H' : Hp) : Prop := r = v ∧ Mod (fun _ => False) H H'

theorem TellPost.of {H H1 H' : Hp} {v r : Value} (m : Mod (fun _ => False) H H1) (h : TellPost H1 v r H') : TellPost H v r H' := ⟨h.1, m.trans h.2⟩

theorem keepF {H H' : Hp} {x : Sl} {cs : List Value} (h : Rows H x 1 cs) (m : Mod (fun _ => False) H H') : Rows H' x 1 cs := h.keep m fun _ _ e => e

end Go.Proofs
