/- PACK, part 2: Writer.Num, Writer.Text. -/
import Derived.Test.YtgogmmhkelenkaaKp1
set_option linter.all false
set_option linter.constructorNameAsVariable false
namespace Go.Proofs
open Go Go.KC

/-- The byte that stands for the k-th one of a number, from behind. -/
def byteAt (n : Int) (k : Nat) : UInt8 := UInt8.ofNat ((Int.fdiv n (2 ^ (8 * k))) % 256).toNat
theorem byteAt_toNat (n : Int) (k : Nat) : ((byteAt n k).toNat : Int) = (Int.fdiv n (2 ^ (8 * k))) % 256 := by
  unfold byteAt
  have h1 : 0 ≤ (Int.fdiv n (2 ^ (8 * k))) % 256 := Int.emod_nonneg _ (by omega)
  have h2 : (Int.fdiv n (2 ^ (8 * k))) % 256 < 256 := Int.emod_lt_of_pos _ (by omega)
  have h3 : ((Int.fdiv n (2 ^ (8 * k))) % 256).toNat < 256 := by omega
  rw [UInt8.toNat_ofNat_of_lt' h3]
  omega

/-- The last k bytes of a number. -/
def be (n : Int) : Nat → List UInt8
  | 0 => []
  | k + 1 => byteAt n k :: be n k
theorem be_length (n : Int) : ∀ k, (be n k).length = k
  | 0 => rfl
  | k + 1 => by simp [be, be_length n k]

theorem Num_loop {b : Nat} {n : Int} {Q : Value → Hp → Prop} : ∀ (j : Nat) (H : Hp) (F : List Nat) (xs : List UInt8), j ≤ 8 → Wr H b F xs → xs.length + j ≤ 140737488355328 →
    (∀ r H', WrPost H b F (xs ++ be n j) r H' → Q r H') → pack_Writer_Num.l1 J0 ⟨b, 0, none⟩ n H ((j : Int) - 1) Q := by
  intro j
  induction j with
  | zero =>
    intro H F xs _ h _ hQ
    apply pack_Writer_Num.l1.step
    unfold pack_Writer_Num.l1.body
    refine Br.no (by simp) (hQ _ _ ⟨rfl, F, by simpa [be] using h, .refl _ _, fun g hg => Or.inl hg⟩)
  | succ j ih =>
    intro H F xs hj h hb hQ
    apply pack_Writer_Num.l1.step
    unfold pack_Writer_Num.l1.body
    obtain ⟨x, h1, h2, rfl, h4⟩ := h
    have e0 : ((j + 1 : Nat) : Int) - 1 = (j : Int) := by omega
    rw [e0]
    have e1 : w64 ((8 : Int) * (j : Int)) = 8 * (j : Int) := w64_id (by omega) (by omega)
    have e2 : w64 ((j : Int) - 1) = (j : Int) - 1 := w64_id (by omega) (by omega)
    have e3 : min (8 * (j : Int)).toNat 64 = 8 * j := by omega
    rw [e1, e2, e3, wrapu8, ← byteAt_toNat]
    refine Br.yes (by simp) ⟨x, cell_of h1, by omega, ?_⟩
    refine Wr.app (src := .slice (some (Addr.mk (Array.size H) 0 none)) 1 1) (H1 := Array.push H (.cells #[.int .u8 ((byteAt n j).toNat : Int)] T_uint8)) (ys := [byteAt n j]) (K := fun H3 => pack_Writer_Num.l1 J0 ⟨b, 0, none⟩ n H3 ((j : Int) - 1) Q) h1 h2 h4 (Mod.push _ _ _) src_byte (by rfl) (by simp; omega) ?_
    intro H3 F' hw hm hF
    refine ih H3 F' _ (by omega) hw (by simp; omega) fun r H' hp => hQ r H' ?_
    rw [List.append_assoc] at hp
    exact WrPost.trans hm hF hp

theorem Writer_Num_spec {H : Hp} {b : Nat} {F : List Nat} {xs : List UInt8} {n : Int} (h : Wr H b F xs) (hb : xs.length + 8 ≤ 140737488355328) :
    SCalls Try.prog pack_Writer_Num.id [.pointer (some ⟨b, 0, none⟩), .int .i64 n] H (WrPost H b F (xs ++ be n 8)) := by
  apply pack_Writer_Num.calls
  exact Num_loop 8 H F xs (by omega) h hb fun _ _ h => h

theorem Writer_Text_spec {H : Hp} {b : Nat} {F : List Nat} {xs : List UInt8} {s : ByteArray} (h : Wr H b F xs) (hb : xs.length + 8 + s.size ≤ 140737488355328) :
    SCalls Try.prog pack_Writer_Text.id [.pointer (some ⟨b, 0, none⟩), .string s] H (WrPost H b F (xs ++ be (s.size : Int) 8 ++ s.data.toList)) := by
  apply pack_Writer_Text.calls
  refine (Writer_Num_spec h (by omega)).mono ?_
  rintro r H1 ⟨rfl, F', hw, hm, hF⟩
  refine ⟨_, rfl, ?_⟩
  obtain ⟨x, h1, h2, rfl, h4⟩ := hw
  refine ⟨x, cell_of h1, ?_⟩
  refine Wr.app (ys := s.data.toList) h1 h2 h4 (.refl _ _) (src_string H1 s) (by simp [srcLen]) (by simp [be_length]; omega) ?_
  intro H3 F3 hw3 hm3 hF3
  exact WrPost.trans hm hF ⟨rfl, F3, hw3, hm3, hF3⟩

end Go.Proofs
