/- PACK, part 3: what a Reader has; take, Num, Byte, Text, Bad, Done. -/
import Derived.Test.YtllkdgnagjciiaaKp2
set_option linter.all false
set_option linter.constructorNameAsVariable false
namespace Go.Proofs
open Go Go.KC

/-- The cells of a slice: cs, of sz cells each element. -/
def Rows (H : Hp) (x : Sl) (sz : Nat) (cs : List Value) : Prop :=
  cs.length = x.len * sz ∧ x.len ≤ x.cap ∧ (∀ a, x.a = some a → RowAt H a cs) ∧ (x.a = none → x.cap = 0)

theorem rowAt_keep {m : Nat → Prop} {H H' : Hp} {a : Addr} {cs : List Value} (h : RowAt H a cs) (hm : Mod m H H') (ha : ¬ m a.block) : RowAt H' a cs := fun j v hj => by
  have hc := h j v hj
  have hb : (a.add j).block = a.block := by unfold Addr.add; split <;> rfl
  unfold Hp.cell? at hc ⊢
  rw [hb] at hc ⊢
  cases hg : H[a.block]? with
  | none => rw [hg] at hc; cases hc
  | some o => rw [hm.get hg ha]; rw [hg] at hc; exact hc

theorem Rows.keep {m : Nat → Prop} {H H' : Hp} {x : Sl} {sz : Nat} {cs : List Value} (h : Rows H x sz cs) (hm : Mod m H H') (hx : ∀ b ∈ x.blk, ¬ m b) : Rows H' x sz cs :=
  ⟨h.1, h.2.1, fun a ha => rowAt_keep (h.2.2.1 a ha) hm (hx _ (by simp [Sl.blk, ha])), h.2.2.2⟩

theorem Own.rows {H : Hp} {x : Sl} {e : TypeId} {sz : Nat} {cs : List Value} (h : Own H x e sz cs) : Rows H x sz cs := by
  refine ⟨h.1, h.2.1, fun a ha => h.row ha, fun ha => ?_⟩
  obtain ⟨_, _, h3 | ⟨g, cur, hg0, _⟩⟩ := h
  · exact h3.2
  · rw [hg0] at ha; cases ha

theorem spot_of_cell {H : Hp} {a : Addr} {v : Value} (h : Hp.cell? H a = some v) : a.spot = none := by
  unfold Hp.cell? at h
  split at h
  · split at h
    · cases h
    · rename_i hs; cases hsp : a.spot <;> simp_all
  · cases h

theorem cutA_zero (a : Option Addr) (c sz : Nat) : cutA a c 0 sz = a := by
  unfold cutA
  split
  · rfl
  · cases a <;> simp [Addr.add]

theorem cutA_blk (x : Sl) (c l sz n m : Nat) : ∀ b ∈ Sl.blk ⟨cutA x.a c l sz, n, m⟩, b ∈ x.blk := by
  intro b hb
  have hadd : ∀ (a : Addr) k, (a.add k).block = a.block := fun a k => by unfold Addr.add; split <;> rfl
  cases ha : x.a with
  | none =>
    have : cutA x.a c l sz = none := by unfold cutA; rw [ha]; split <;> rfl
    simp [Sl.blk, this] at hb
  | some a =>
    by_cases hc : c = l
    · have : cutA x.a c l sz = some a := by unfold cutA; rw [if_pos hc, ha]
      simp [Sl.blk, this] at hb
      simp [Sl.blk, ha, hb]
    · have : cutA x.a c l sz = some (a.add (l * sz)) := by unfold cutA; rw [if_neg hc, ha]; rfl
      simp [Sl.blk, this, hadd] at hb
      simp [Sl.blk, ha, hb]

theorem Rows.take {H : Hp} {x : Sl} {sz : Nat} {cs : List Value} (h : Rows H x sz cs) {n : Nat} (hn : n ≤ x.len) : Rows H ⟨cutA x.a x.cap 0 sz, n, x.cap⟩ sz (cs.take (n * sz)) := by
  rw [cutA_zero]
  have hle : n * sz ≤ x.len * sz := Nat.mul_le_mul_right _ hn
  refine ⟨by show (cs.take (n * sz)).length = n * sz; rw [List.length_take, h.1]; omega, Nat.le_trans hn h.2.1, fun a ha j v hj => h.2.2.1 a ha j v ?_, h.2.2.2⟩
  rw [List.getElem?_take] at hj
  split at hj
  · exact hj
  · cases hj

theorem Rows.drop {H : Hp} {x : Sl} {sz : Nat} {cs : List Value} (h : Rows H x sz cs) {n : Nat} (hn : n ≤ x.len) : Rows H ⟨cutA x.a x.cap n sz, x.len - n, x.cap - n⟩ sz (cs.drop (n * sz)) := by
  have hle : n * sz ≤ x.len * sz := Nat.mul_le_mul_right _ hn
  refine ⟨by rw [List.length_drop, h.1, Nat.sub_mul], Nat.sub_le_sub_right h.2.1 n, fun a ha j v hj => ?_, fun ha => ?_⟩
  · have hj' : cs[n * sz + j]? = some v := by rw [List.getElem?_drop] at hj; exact hj
    have hlt := (List.getElem?_eq_some_iff.1 hj').1
    unfold cutA at ha
    split at ha
    · rename_i hc
      have hx := h.2.1
      have : x.len * sz ≤ n * sz := Nat.mul_le_mul_right _ (by omega)
      rw [h.1] at hlt
      omega
    · cases hxa : x.a with
      | none => simp [hxa] at ha
      | some a0 =>
        simp [hxa] at ha
        subst ha
        have h1 := h.2.2.1 a0 hxa (n * sz + j) v hj'
        have h0 : ∃ u, cs[0]? = some u := ⟨cs[0]'(by omega), List.getElem?_eq_getElem (by omega)⟩
        obtain ⟨u, hu⟩ := h0
        have hs := spot_of_cell (h.2.2.1 a0 hxa 0 u hu)
        have hs' : a0.spot = none := by simpa [Addr.add] using hs
        rw [add_add _ _ _ hs']; exact h1
  · unfold cutA at ha
    split at ha
    · rename_i hc; have := h.2.2.2 ha; show x.cap - n = 0; omega
    · cases hxa : x.a with
      | none => have := h.2.2.2 hxa; show x.cap - n = 0; omega
      | some a0 => simp [hxa] at ha

/-- The Reader in block b has xs left, in memory of the blocks D. -/
def Rd (H : Hp) (b : Nat) (D : List Nat) (bad : Bool) (xs : List UInt8) : Prop :=
  ∃ x : Sl, H[b]? = some (.cells #[.slice x.a x.len x.cap, .bool bad] T_pack_Reader (0, 0)) ∧ Rows H x 1 (xs.map bv) ∧ (∀ g ∈ x.blk, g ∈ D) ∧ b ∉ D

theorem Rd.keep {m : Nat → Prop} {H H' : Hp} {b : Nat} {D : List Nat} {bad : Bool} {xs : List UInt8} (h : Rd H b D bad xs) (hm : Mod m H H') (hb : ¬ m b) (hD : ∀ g ∈ D, ¬ m g) : Rd H' b D bad xs := by
  obtain ⟨x, h1, h2, h3, h4⟩ := h
  exact ⟨x, hm.get h1 hb, h2.keep hm (fun g hg => hD g (h3 g hg)), h3, h4⟩

def tkok (bad : Bool) (n : Int) (l : Nat) : Bool := !bad && decide (0 ≤ n) && decide (n ≤ l)

theorem take_k3 {H : Hp} {b : Nat} {x : Sl} {n : Int} {bad0 x1 : Bool} {Q : Value → Hp → Prop} (h1 : H[b]? = some (.cells #[.slice x.a x.len x.cap, .bool bad0] T_pack_Reader (0, 0))) (hlen : x.len ≤ x.cap)
    (hx1 : x1 = false → 0 ≤ n ∧ n ≤ x.len)
    (hbad : x1 = true → Q (.slice none 0 0) (Hp.setCell H ⟨b, 1, none⟩ (.bool true)))
    (hgood : x1 = false → Q (.slice (cutA x.a x.cap 0 1) n.toNat x.cap) (Hp.setCell (Hp.setCell H ⟨b, 1, none⟩ (.bool false)) ⟨b, 0, none⟩ (.slice (cutA x.a x.cap n.toNat 1) (x.len - n.toNat) (x.cap - n.toNat)))) :
    pack_Reader_take.k2 J0 ⟨b, 0, none⟩ n H x1 Q := by
  apply pack_Reader_take.k2.step
  unfold pack_Reader_take.k2.body
  rw [Addr.add_loc]
  refine ⟨wr_one h1 (by simp), ?_⟩
  apply pack_Reader_take.k3.step
  unfold pack_Reader_take.k3.body
  rw [Addr.add_loc]
  have h2 : (Hp.setCell H ⟨b, 1, none⟩ (.bool x1))[b]? = some (.cells #[.slice x.a x.len x.cap, .bool x1] T_pack_Reader (0, 0)) := by
    have := get_setCell (o := 1) (.bool x1) h1
    simpa using this
  refine ⟨x1, by rw [cell_of h2]; rfl, ?_⟩
  cases x1 with
  | true => exact hbad rfl
  | false =>
    obtain ⟨q1, q2⟩ := hx1 rfl
    refine ⟨x, by rw [cell_of h2]; rfl, ⟨q1, by omega⟩, x, by rw [cell_of h2]; rfl, ⟨q1, q2⟩, wr_one h2 (by simp), hgood rfl⟩

theorem Reader_take_spec {H : Hp} {b : Nat} {D : List Nat} {bad : Bool} {xs : List UInt8} {n : Int} (h : Rd H b D bad xs) :
    SCalls Try.prog pack_Reader_take.id [.pointer (some ⟨b, 0, none⟩), .int .i64 n] H fun r H' => ∃ y : Sl, r = .slice y.a y.len y.cap ∧ Mod (· = b) H H' ∧
      (match tkok bad n xs.length with
       | true => Rows H' y 1 ((xs.take n.toNat).map bv) ∧ (∀ g ∈ y.blk, g ∈ D) ∧ Rd H' b D false (xs.drop n.toNat)
       | false => y = ⟨none, 0, 0⟩ ∧ Rd H' b D true xs) := by
  obtain ⟨x, h1, h2, h3, h4⟩ := h
  have hlen : xs.length = x.len := by have := h2.1; simpa using this
  have hmod1 : ∀ v, Mod (· = b) H (Hp.setCell H ⟨b, 1, none⟩ v) := fun v => Mod.setCell H _ v rfl
  have hxb : ∀ g ∈ x.blk, ¬ g = b := fun g hg e => h4 (e ▸ h3 g hg)
  have fin : ∀ x1 : Bool, (x1 = !tkok bad n xs.length) → pack_Reader_take.k2 J0 ⟨b, 0, none⟩ n H x1 fun r H' => ∃ y : Sl, r = .slice y.a y.len y.cap ∧ Mod (· = b) H H' ∧
      (match tkok bad n xs.length with
       | true => Rows H' y 1 ((xs.take n.toNat).map bv) ∧ (∀ g ∈ y.blk, g ∈ D) ∧ Rd H' b D false (xs.drop n.toNat)
       | false => y = ⟨none, 0, 0⟩ ∧ Rd H' b D true xs) := by
    intro x1 hx1
    refine take_k3 h1 h2.2.1 (fun e => ?_) (fun e => ?_) (fun e => ?_)
    · rw [e] at hx1
      have : tkok bad n xs.length = true := by cases ht : tkok bad n xs.length <;> simp_all
      simp [tkok] at this
      omega
    · rw [e] at hx1
      have ht : tkok bad n xs.length = false := by cases ht : tkok bad n xs.length <;> simp_all
      rw [ht]
      refine ⟨⟨none, 0, 0⟩, rfl, hmod1 _, rfl, x, ?_, h2.keep (hmod1 _) hxb, h3, h4⟩
      have := get_setCell (o := 1) (.bool true) h1
      simpa using this
    · rw [e] at hx1
      have ht : tkok bad n xs.length = true := by cases ht : tkok bad n xs.length <;> simp_all
      rw [ht]
      have hn : n.toNat ≤ x.len := by simp [tkok] at ht; omega
      have g1 : (Hp.setCell H ⟨b, 1, none⟩ (.bool false))[b]? = some (.cells #[.slice x.a x.len x.cap, .bool false] T_pack_Reader (0, 0)) := by
        have := get_setCell (o := 1) (.bool false) h1
        simpa using this
      have g2 := get_setCell (o := 0) (.slice (cutA x.a x.cap n.toNat 1) (x.len - n.toNat) (x.cap - n.toNat)) g1
      have hm : Mod (· = b) H (Hp.setCell (Hp.setCell H ⟨b, 1, none⟩ (.bool false)) ⟨b, 0, none⟩ (.slice (cutA x.a x.cap n.toNat 1) (x.len - n.toNat) (x.cap - n.toNat))) := (hmod1 _).trans (Mod.setCell _ _ _ rfl)
      have hr := h2.keep hm hxb
      refine ⟨⟨cutA x.a x.cap 0 1, n.toNat, x.cap⟩, rfl, hm, ?_, fun g hg => h3 g (cutA_blk x _ _ _ _ _ g hg), ⟨cutA x.a x.cap n.toNat 1, x.len - n.toNat, x.cap - n.toNat⟩, by simpa using g2, ?_, fun g hg => h3 g (cutA_blk x _ _ _ _ _ g hg), h4⟩
      · have := hr.take hn
        rw [Nat.mul_one, ← List.map_take] at this
        exact this
      · have := hr.drop hn
        rw [Nat.mul_one, ← List.map_drop] at this
        exact this
  apply pack_Reader_take.calls
  refine ⟨bad, by rw [Addr.add_loc, cell_of h1]; rfl, ?_⟩
  have k1 : ∀ z : Bool, (z = (bad || decide (n < 0))) → pack_Reader_take.k1 J0 ⟨b, 0, none⟩ n H z fun r H' => ∃ y : Sl, r = .slice y.a y.len y.cap ∧ Mod (· = b) H H' ∧
      (match tkok bad n xs.length with
       | true => Rows H' y 1 ((xs.take n.toNat).map bv) ∧ (∀ g ∈ y.blk, g ∈ D) ∧ Rd H' b D false (xs.drop n.toNat)
       | false => y = ⟨none, 0, 0⟩ ∧ Rd H' b D true xs) := by
    intro z hz
    apply pack_Reader_take.k1.step
    refine Br.mk (fun hz1 => fin true ?_) (fun hz0 => ⟨x, by rw [cell_of h1]; rfl, fin _ ?_⟩)
    · rw [hz1] at hz
      cases bad
      · simp at hz; simp [tkok, hz]
      · simp [tkok]
    · rw [hz0] at hz
      cases bad
      · simp at hz
        simp only [tkok, hlen]
        by_cases hc : n ≤ x.len
        · simp [hz, hc]
        · simp [hc]; omega
      · simp at hz
  exact Br.mk (fun e => k1 true (by simp [e])) (fun e => k1 _ (by simp [e]))

end Go.Proofs
