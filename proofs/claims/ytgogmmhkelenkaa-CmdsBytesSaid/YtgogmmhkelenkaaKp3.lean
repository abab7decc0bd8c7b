/- PACK, part 3: what a Reader has; take, Num, Byte, Text, Bad, Done. -/
import Derived.Test.YtgogmmhkelenkaaKp2
set_option linter.all false
set_option linter.constructorNameAsVariable false
namespace Go.Proofs
open Go Go.KC

/-- The Reader in block b has xs left, in memory of the blocks D. -/
def Rd (H : Hp) (b : Nat) (D : List Nat) (bad : Bool) (xs : List UInt8) : Prop :=
  ∃ x : Sl, H[b]? = some (.cells #[.slice x.a x.len x.cap, .bool bad] T_pack_Reader (0, 0)) ∧ Rows H x 1 (xs.map bv) ∧ (∀ g ∈ x.blk, g ∈ D) ∧ b ∉ D

theorem Rd.keep {m : Nat → Prop} {H H' : Hp} {b : Nat} {D : List Nat} {bad : Bool} {xs : List UInt8} (h : Rd H b D bad xs) (hm : Mod m H H') (hb : ¬ m b) (hD : ∀ g ∈ D, ¬ m g) : Rd H' b D bad xs := by
  obtain ⟨x, h1, h2, h3, h4⟩ := h
  exact ⟨x, hm.get h1 hb, h2.keep hm (fun g hg => hD g (h3 g hg)), h3, h4⟩

def tkok (bad : Bool) (n : Int) (l : Nat) : Bool := !bad && decide (0 ≤ n) && decide (n ≤ l)

theorem take_k3 {H : Hp} {b : Nat} {x : Sl} {n : Int} {bad0 x1 : Bool} {Q : Value → Hp → Prop} (h1 : H[b]? = some (.cells #[.slice x.a x.len x.cap, .bool bad0] T_pack_Reader (0, 0))) (hlen : x.len ≤ x.cap)
    (hx1 : x1 = false → 0 ≤ n ∧ n ≤ x.len)
    (hbad : x1 = true → Q (.slice none 0 0) (Hp.setCell H ⟨b, 1, none⟩ (.bool true)))
    (hgood : x1 = false → Q (.slice (cutA x.a x.cap 0 1) n.toNat x.cap) (Hp.setCell (Hp.setCell H ⟨b, 1, none⟩ (.bool false)) ⟨b, 0, none⟩ (.slice (cutA x.a x.cap n.toNat 1) (x.len - n.toNat) (x.cap - n.toNat)))) :
    pack_Reader_take.k2 J0 ⟨b, 0, none⟩ n H x1 Q := by
  apply pack_Reader_take.k2.step
  unfold pack_Reader_take.k2.body
  rw [Addr.add_loc]
  refine ⟨wr_one h1 (by simp), ?_⟩
  apply pack_Reader_take.k3.step
  unfold pack_Reader_take.k3.body
  rw [Addr.add_loc]
  have h2 : (Hp.setCell H ⟨b, 1, none⟩ (.bool x1))[b]? = some (.cells #[.slice x.a x.len x.cap, .bool x1] T_pack_Reader (0, 0)) := by
    have := get_setCell (o := 1) (.bool x1) h1
    simpa using this
  refine ⟨x1, by rw [cell_of h2]; rfl, ?_⟩
  cases x1 with
  | true => exact hbad rfl
  | false =>
    obtain ⟨q1, q2⟩ := hx1 rfl
    refine ⟨x, by rw [cell_of h2]; rfl, ⟨q1, by omega⟩, x, by rw [cell_of h2]; rfl, ⟨q1, q2⟩, wr_one h2 (by simp), hgood rfl⟩

theorem Reader_take_spec {H : Hp} {b : Nat} {D : List Nat} {bad : Bool} {xs : List UInt8} {n : Int} (h : Rd H b D bad xs) :
    SCalls Try.prog pack_Reader_take.id [.pointer (some ⟨b, 0, none⟩), .int .i64 n] H fun r H' => ∃ y : Sl, r = .slice y.a y.len y.cap ∧ Mod (· = b) H H' ∧
      (match tkok bad n xs.length with
       | true => Rows H' y 1 ((xs.take n.toNat).map bv) ∧ (∀ g ∈ y.blk, g ∈ D) ∧ Rd H' b D false (xs.drop n.toNat)
       | false => y = ⟨none, 0, 0⟩ ∧ Rd H' b D true xs) := by
  obtain ⟨x, h1, h2, h3, h4⟩ := h
  have hlen : xs.length = x.len := by have := h2.1; simpa using this
  have hmod1 : ∀ v, Mod (· = b) H (Hp.setCell H ⟨b, 1, none⟩ v) := fun v => Mod.setCell H _ v rfl
  have hxb : ∀ g ∈ x.blk, ¬ g = b := fun g hg e => h4 (e ▸ h3 g hg)
  have fin : ∀ x1 : Bool, (x1 = !tkok bad n xs.length) → pack_Reader_take.k2 J0 ⟨b, 0, none⟩ n H x1 fun r H' => ∃ y : Sl, r = .slice y.a y.len y.cap ∧ Mod (· = b) H H' ∧
      (match tkok bad n xs.length with
       | true => Rows H' y 1 ((xs.take n.toNat).map bv) ∧ (∀ g ∈ y.blk, g ∈ D) ∧ Rd H' b D false (xs.drop n.toNat)
       | false => y = ⟨none, 0, 0⟩ ∧ Rd H' b D true xs) := by
    intro x1 hx1
    refine take_k3 h1 h2.2.1 (fun e => ?_) (fun e => ?_) (fun e => ?_)
    · rw [e] at hx1
      have : tkok bad n xs.length = true := by cases ht : tkok bad n xs.length <;> simp_all
      simp [tkok] at this
      omega
    · rw [e] at hx1
      have ht : tkok bad n xs.length = false := by cases ht : tkok bad n xs.length <;> simp_all
      rw [ht]
      refine ⟨⟨none, 0, 0⟩, rfl, hmod1 _, rfl, x, ?_, h2.keep (hmod1 _) hxb, h3, h4⟩
      have := get_setCell (o := 1) (.bool true) h1
      simpa using this
    · rw [e] at hx1
      have ht : tkok bad n xs.length = true := by cases ht : tkok bad n xs.length <;> simp_all
      rw [ht]
      have hn : n.toNat ≤ x.len := by simp [tkok] at ht; omega
      have g1 : (Hp.setCell H ⟨b, 1, none⟩ (.bool false))[b]? = some (.cells #[.slice x.a x.len x.cap, .bool false] T_pack_Reader (0, 0)) := by
        have := get_setCell (o := 1) (.bool false) h1
        simpa using this
      have g2 := get_setCell (o := 0) (.slice (cutA x.a x.cap n.toNat 1) (x.len - n.toNat) (x.cap - n.toNat)) g1
      have hm : Mod (· = b) H (Hp.setCell (Hp.setCell H ⟨b, 1, none⟩ (.bool false)) ⟨b, 0, none⟩ (.slice (cutA x.a x.cap n.toNat 1) (x.len - n.toNat) (x.cap - n.toNat))) := (hmod1 _).trans (Mod.setCell _ _ _ rfl)
      have hr := h2.keep hm hxb
      refine ⟨⟨cutA x.a x.cap 0 1, n.toNat, x.cap⟩, rfl, hm, ?_, fun g hg => h3 g (cutA_blk x _ _ _ _ _ g hg), ⟨cutA x.a x.cap n.toNat 1, x.len - n.toNat, x.cap - n.toNat⟩, by simpa using g2, ?_, fun g hg => h3 g (cutA_blk x _ _ _ _ _ g hg), h4⟩
      · have := hr.take hn
        rw [Nat.mul_one, ← List.map_take] at this
        exact this
      · have := hr.drop hn
        rw [Nat.mul_one, ← List.map_drop] at this
        exact this
  apply pack_Reader_take.calls
  refine ⟨bad, by rw [Addr.add_loc, cell_of h1]; rfl, ?_⟩
  have k1 : ∀ z : Bool, (z = (bad || decide (n < 0))) → pack_Reader_take.k1 J0 ⟨b, 0, none⟩ n H z fun r H' => ∃ y : Sl, r = .slice y.a y.len y.cap ∧ Mod (· = b) H H' ∧
      (match tkok bad n xs.length with
       | true => Rows H' y 1 ((xs.take n.toNat).map bv) ∧ (∀ g ∈ y.blk, g ∈ D) ∧ Rd H' b D false (xs.drop n.toNat)
       | false => y = ⟨none, 0, 0⟩ ∧ Rd H' b D true xs) := by
    intro z hz
    apply pack_Reader_take.k1.step
    refine Br.mk (fun hz1 => fin true ?_) (fun hz0 => ⟨x, by rw [cell_of h1]; rfl, fin _ ?_⟩)
    · rw [hz1] at hz
      cases bad
      · simp at hz; simp [tkok, hz]
      · simp [tkok]
    · rw [hz0] at hz
      cases bad
      · simp at hz
        simp only [tkok, hlen]
        by_cases hc : n ≤ x.len
        · simp [hz, hc]
        · simp [hc]; omega
      · simp at hz
  exact Br.mk (fun e => k1 true (by simp [e])) (fun e => k1 _ (by simp [e]))

end Go.Proofs
