/- LAYER 01: PackAny, the walk. -/
import Derived.Test.YtllkdgnagjciiaaKp7
set_option linter.all false
set_option linter.constructorNameAsVariable false
namespace Go.Proofs
open Go Go.KC

section
variable {b kinds : Sl} {rb : Nat} {D : List Nat} {x2 x3 atv n1 : Int} {bad0 bad1 : Bool} {xs : List UInt8} {H : Hp} {Q : Value → Hp → Prop}

theorem PA_num (ht : Int.tmod x3 3 = 0) (h : Rd H rb D bad0 xs) (hn : (rdNum bad0 xs).1 = n1) (hb : (rdNum bad0 xs).2.1 = bad1)
    (hQ : ∀ H', Mod (· = rb) H H' → Rd H' rb D bad1 (rdNum bad0 xs).2.2 → tephralaw01_PackAny.l1 J0 b kinds (some ⟨rb, 0, none⟩) H' atv bad1 (w64 (x2 + 1)) Q) :
    tephralaw01_PackAny.k4 J0 b kinds (some ⟨rb, 0, none⟩) x2 x3 bad1 atv n1 H false Q := by
  subst hn; subst hb
  apply tephralaw01_PackAny.k4.step
  unfold tephralaw01_PackAny.k4.body
  refine Br.no rfl ⟨by omega, Br.yes (by rw [ht]; rfl) ((Reader_Num_spec h).mono ?_)⟩
  rintro r H1 ⟨rfl, m1, h1⟩
  refine ⟨_, rfl, ?_⟩
  apply tephralaw01_PackAny.k22.step
  unfold tephralaw01_PackAny.k22.body
  refine Br.no (by simp) ⟨by omega, Br.no (by rw [ht]; rfl) ?_⟩
  apply tephralaw01_PackAny.k24.step
  unfold tephralaw01_PackAny.k24.body
  apply tephralaw01_PackAny.k25.step
  unfold tephralaw01_PackAny.k25.body
  refine Br.no rfl ⟨by omega, Br.no (by rw [ht]; rfl) ?_⟩
  apply tephralaw01_PackAny.k27.step
  unfold tephralaw01_PackAny.k27.body
  apply tephralaw01_PackAny.k28.step
  unfold tephralaw01_PackAny.k28.body
  refine Br.no rfl ((Reader_Bad_spec h1).mono ?_)
  rintro r H2 ⟨rfl, rfl⟩
  refine ⟨_, rfl, ?_⟩
  apply tephralaw01_PackAny.k29.step
  unfold tephralaw01_PackAny.k29.body
  exact Br.no (by simp) (hQ _ m1 h1)

theorem PA_byte (ht : Int.tmod x3 3 = 1) (h : Rd H rb D bad0 xs) (hn : w64 (rdByte bad0 xs).1 = n1) (hb : (rdByte bad0 xs).2.1 = bad1)
    (hQ : ∀ H', Mod (· = rb) H H' → Rd H' rb D bad1 (rdByte bad0 xs).2.2 → tephralaw01_PackAny.l1 J0 b kinds (some ⟨rb, 0, none⟩) H' atv bad1 (w64 (x2 + 1)) Q) :
    tephralaw01_PackAny.k4 J0 b kinds (some ⟨rb, 0, none⟩) x2 x3 bad1 atv n1 H false Q := by
  subst hn; subst hb
  apply tephralaw01_PackAny.k4.step
  unfold tephralaw01_PackAny.k4.body
  refine Br.no rfl ⟨by omega, Br.no (by rw [ht]; rfl) ?_⟩
  apply tephralaw01_PackAny.k22.step
  unfold tephralaw01_PackAny.k22.body
  refine Br.no rfl ⟨by omega, Br.yes (by rw [ht]; rfl) ((Reader_Byte_spec h).mono ?_)⟩
  rintro r H1 ⟨rfl, m1, h1⟩
  refine ⟨_, rfl, ?_⟩
  apply tephralaw01_PackAny.k24.step
  unfold tephralaw01_PackAny.k24.body
  apply tephralaw01_PackAny.k25.step
  unfold tephralaw01_PackAny.k25.body
  refine Br.no (by simp) ⟨by omega, Br.no (by rw [ht]; rfl) ?_⟩
  apply tephralaw01_PackAny.k27.step
  unfold tephralaw01_PackAny.k27.body
  apply tephralaw01_PackAny.k28.step
  unfold tephralaw01_PackAny.k28.body
  refine Br.no rfl ((Reader_Bad_spec h1).mono ?_)
  rintro r H2 ⟨rfl, rfl⟩
  refine ⟨_, rfl, ?_⟩
  apply tephralaw01_PackAny.k29.step
  unfold tephralaw01_PackAny.k29.body
  exact Br.no (by simp) (hQ _ m1 h1)

/-- A text of a reader that is bad already. -/
theorem PA_text0 (ht : Int.tmod x3 3 = 2) (h : Rd H rb D bad0 xs) (hn : (rdText bad0 xs).1 = []) (hb : (rdText bad0 xs).2.1 = bad1)
    (hQ : ∀ H', Mod (· = rb) H H' → Rd H' rb D bad1 (rdText bad0 xs).2.2 → tephralaw01_PackAny.l1 J0 b kinds (some ⟨rb, 0, none⟩) H' atv bad1 (w64 (x2 + 1)) Q) :
    tephralaw01_PackAny.k4 J0 b kinds (some ⟨rb, 0, none⟩) x2 x3 bad1 atv n1 H false Q := by
  subst hb
  apply tephralaw01_PackAny.k4.step
  unfold tephralaw01_PackAny.k4.body
  refine Br.no rfl ⟨by omega, Br.no (by rw [ht]; rfl) ?_⟩
  apply tephralaw01_PackAny.k22.step
  unfold tephralaw01_PackAny.k22.body
  refine Br.no rfl ⟨by omega, Br.no (by rw [ht]; rfl) ?_⟩
  apply tephralaw01_PackAny.k24.step
  unfold tephralaw01_PackAny.k24.body
  apply tephralaw01_PackAny.k25.step
  unfold tephralaw01_PackAny.k25.body
  refine Br.no rfl ⟨by omega, Br.yes (by rw [ht]; rfl) ((Reader_Text_spec h).mono ?_)⟩
  rintro r H1 ⟨rfl, m1, h1⟩
  refine ⟨_, rfl, ?_⟩
  rw [hn]
  apply tephralaw01_PackAny.k27.step
  unfold tephralaw01_PackAny.k27.body
  apply tephralaw01_PackAny.k28.step
  unfold tephralaw01_PackAny.k28.body
  refine Br.no (by rw [beq_self_eq_true]; rfl) ((Reader_Bad_spec h1).mono ?_)
  rintro r H2 ⟨rfl, rfl⟩
  refine ⟨_, rfl, ?_⟩
  apply tephralaw01_PackAny.k29.step
  unfold tephralaw01_PackAny.k29.body
  exact Br.no (by simp) (hQ _ m1 h1)

/-- A text that is too long. -/
theorem PA_text1 (ht : Int.tmod x3 3 = 2) (h : Rd H rb D bad0 xs) (hn : (rdText bad0 xs).1 = []) (hb : (rdText bad0 xs).2.1 = true)
    (hQ : ∀ H', Mod (· = rb) H H' → Rd H' rb D true (rdText bad0 xs).2.2 → tephralaw01_PackAny.l1 J0 b kinds (some ⟨rb, 0, none⟩) H' atv true (w64 (x2 + 1)) Q) :
    tephralaw01_PackAny.k5 J0 b kinds (some ⟨rb, 0, none⟩) x2 x3 atv n1 H true Q := by
  apply tephralaw01_PackAny.k5.step
  unfold tephralaw01_PackAny.k5.body
  refine Br.no rfl ⟨by omega, Br.no (by rw [ht]; rfl) ?_⟩
  apply tephralaw01_PackAny.k14.step
  unfold tephralaw01_PackAny.k14.body
  refine Br.no rfl ⟨by omega, Br.no (by rw [ht]; rfl) ?_⟩
  apply tephralaw01_PackAny.k16.step
  unfold tephralaw01_PackAny.k16.body
  apply tephralaw01_PackAny.k17.step
  unfold tephralaw01_PackAny.k17.body
  refine Br.no rfl ⟨by omega, Br.yes (by rw [ht]; rfl) ((Reader_Text_spec h).mono ?_)⟩
  rintro r H1 ⟨rfl, m1, h1⟩
  refine ⟨_, rfl, ?_⟩
  rw [hn]
  rw [hb] at h1
  apply tephralaw01_PackAny.k19.step
  unfold tephralaw01_PackAny.k19.body
  apply tephralaw01_PackAny.k20.step
  unfold tephralaw01_PackAny.k20.body
  refine Br.no (by rw [beq_self_eq_true]; rfl) ((Reader_Bad_spec h1).mono ?_)
  rintro r H2 ⟨rfl, rfl⟩
  refine ⟨_, rfl, ?_⟩
  apply tephralaw01_PackAny.k21.step
  unfold tephralaw01_PackAny.k21.body
  exact Br.no rfl (hQ _ m1 h1)

/-- A text that is there. -/
theorem PA_text2 {ys D0 : List UInt8} (ht : Int.tmod x3 3 = 2) (h : Rd H rb D bad0 xs) (hn : (rdText bad0 xs).1 = ys) (hb : (rdText bad0 xs).2.1 = false)
    (hr : Rows H b 1 (D0.map bv)) (h1 : 0 ≤ atv) (h2 : 0 ≤ n1) (h3 : w64 (atv + n1) = atv + n1) (h4 : atv + n1 ≤ b.len) (hys : ys = (D0.drop atv.toNat).take n1.toNat)
    (hQ : ∀ H', Mod (· = rb) H H' → Rd H' rb D false (rdText bad0 xs).2.2 → tephralaw01_PackAny.l1 J0 b kinds (some ⟨rb, 0, none⟩) H' (atv + n1) false (w64 (x2 + 1)) Q) :
    tephralaw01_PackAny.k5 J0 b kinds (some ⟨rb, 0, none⟩) x2 x3 atv n1 H false Q := by
  have hc := hr.2.1
  apply tephralaw01_PackAny.k5.step
  unfold tephralaw01_PackAny.k5.body
  rw [h3]
  refine Br.yes rfl ⟨⟨by omega, by omega⟩, ⟨by omega, by omega⟩, ?_⟩
  have hd := (hr.drop (n := atv.toNat) (by omega)).take (n := n1.toNat) (by simp; omega)
  rw [cutA_zero, Nat.mul_one, Nat.mul_one, ← List.map_drop, ← List.map_take, ← hys] at hd
  have hyl : ys.length = n1.toNat := by have := hd.1; simpa using this
  have key : vB2S H (cutA b.a b.cap atv.toNat 1) ((atv + n1).toNat - atv.toNat) fun s => s = ByteArray.mk ys.toArray := by
    have e1 : (atv + n1).toNat - atv.toNat = n1.toNat := by omega
    rw [e1]
    cases hy0 : cutA b.a b.cap atv.toNat 1 with
    | none =>
      have e1 := hd.2.2.2 hy0
      have e2 := hd.2.1
      have e3 : n1.toNat = 0 := by simp only at e1 e2; omega
      have e0 : ys = [] := List.eq_nil_of_length_eq_zero (by omega)
      show ByteArray.empty = _
      rw [e0]; rfl
    | some a =>
      exact ⟨⟨ys.toArray⟩, ⟨by show (List.toArray _).size = _; simpa using hyl, hd.2.2.1 a hy0⟩, rfl⟩
  refine b2s_imp key ?_
  rintro s rfl
  refine ⟨by omega, Br.no (by rw [ht]; rfl) ?_⟩
  apply tephralaw01_PackAny.k6.step
  unfold tephralaw01_PackAny.k6.body
  refine Br.no rfl ⟨by omega, Br.no (by rw [ht]; rfl) ?_⟩
  apply tephralaw01_PackAny.k8.step
  unfold tephralaw01_PackAny.k8.body
  apply tephralaw01_PackAny.k9.step
  unfold tephralaw01_PackAny.k9.body
  refine Br.no rfl ⟨by omega, Br.yes (by rw [ht]; rfl) ((Reader_Text_spec h).mono ?_)⟩
  rintro r H1 ⟨rfl, m1, h1⟩
  refine ⟨_, rfl, ?_⟩
  rw [hn]
  rw [hb] at h1
  apply tephralaw01_PackAny.k11.step
  unfold tephralaw01_PackAny.k11.body
  apply tephralaw01_PackAny.k12.step
  unfold tephralaw01_PackAny.k12.body
  refine Br.no (by rw [beq_self_eq_true]; rfl) ((Reader_Bad_spec h1).mono ?_)
  rintro r H2 ⟨rfl, rfl⟩
  refine ⟨_, rfl, ?_⟩
  apply tephralaw01_PackAny.k13.step
  unfold tephralaw01_PackAny.k13.body
  rw [h3]
  exact Br.no rfl (hQ _ m1 h1)
end

end Go.Proofs
