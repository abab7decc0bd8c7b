/- LAYER 01: PackMany, the walk. -/
import Derived.Test.YtllkdgnagjciiaaKp7
set_option linter.all false
set_option linter.constructorNameAsVariable false
namespace Go.Proofs
open Go Go.KC

def iv (n : Int) : Value := .int .i64 n
/-- What the numbers are laid as. -/
def laidNums (l : List Int) : List UInt8 := l.flatMap fun n => be n 8
theorem laidNums_length (l : List Int) : (laidNums l).length = 8 * l.length := by
  induction l with
  | nil => rfl
  | cons n t ih => simp [laidNums, be_length] at ih ⊢; omega

/-- A cell of a slice. -/
theorem Rows.get {H : Hp} {x : Sl} {cs : List Value} (h : Rows H x 1 cs) {j : Nat} {v : Value} (hj : cs[j]? = some v) : ∃ a, x.a = some a ∧ Hp.cell? H (a.add j) = some v := by
  have hl : cs.length = x.len := by have := h.1; simpa using this
  have hlt := (List.getElem?_eq_some_iff.1 hj).1
  cases ha : x.a with
  | none => have h1 := h.2.2.2 ha; have h2 := h.2.1; omega
  | some a => exact ⟨a, rfl, h.2.2.1 a ha j _ hj⟩

theorem min_toNat (k n : Nat) : ((if (k : Int) < ((n : Nat) : Int) then (k : Int) else ((n : Nat) : Int)) : Int).toNat = min k n := by
  split <;> omega

/-- Only what is new since H was turned. -/
def Fresh (H H' : Hp) : Prop := Mod (fun g => H.size ≤ g) H H'
theorem Fresh.mod {H H' : Hp} (h : Fresh H H') : Mod (fun _ => False) H H' := Mod.fresh h fun _ h => h
theorem Fresh.step {m : Nat → Prop} {H H1 H2 : Hp} (h : Fresh H H1) (k : Mod m H1 H2) (hm : ∀ g, m g → H.size ≤ g) : Fresh H H2 := Mod.trans' h k fun g _ hg => hm g hg
theorem Fresh.rows {H H' : Hp} {x : Sl} {sz : Nat} {cs : List Value} (h : Fresh H H') (hr : Rows H x sz cs) : Rows H' x sz cs :=
  ⟨hr.1, hr.2.1, fun a ha j v hj => by
    have hc := hr.2.2.1 a ha j v hj
    unfold Hp.cell? at hc ⊢
    cases hg : H[(a.add j).block]? with
    | none => rw [hg] at hc; cases hc
    | some o =>
      rw [Mod.get h hg (by have := lt_of_get hg; omega)]
      rw [hg] at hc; exact hc, hr.2.2.2⟩

section
variable {H0 : Hp} {ns : Sl} {cs : List Int}

theorem PM_l2 {x4 : Sl} {b : Nat} {D : List Nat} (hr : Rows H0 ns 1 (cs.map iv)) (hcs : ∀ n ∈ cs, -9223372036854775808 ≤ n ∧ n ≤ 9223372036854775807) (hb : H0.size ≤ b) (hx4 : x4.len = 8 * min 200 ns.len) :
    ∀ (d j : Nat) (H : Hp), j + d = min 200 ns.len → Fresh H0 H → Rd H b D false (laidNums ((cs.take (min 200 ns.len)).drop j)) →
      tephralaw01_PackMany.l2 J0 ns x4 (some ⟨b, 0, none⟩) H (j : Int) fun r H' => r = .bool true ∧ Mod (fun _ => False) H0 H' := by
  have hl : cs.length = ns.len := by have := hr.1; simpa using this
  have e : (if (200 : Int) < ((ns.len : Nat) : Int) then (200 : Int) else ((ns.len : Nat) : Int)).toNat = min 200 ns.len := min_toNat 200 ns.len
  intro d
  induction d with
  | zero =>
    intro j H hj hf hd
    apply tephralaw01_PackMany.l2.step
    unfold tephralaw01_PackMany.l2.body
    rw [e]
    refine Br.no (by simp; omega) (Br.yes ?_ ((Reader_Done_spec hd).mono ?_))
    · rw [w64_id (by omega) (by omega), hx4]; simp
    · rintro r H' ⟨rfl, rfl⟩
      refine ⟨_, rfl, ?_, hf.mod⟩
      rw [List.drop_eq_nil_of_le (by simp; omega)]
      rfl
  | succ d ih =>
    intro j H hj hf hd
    apply tephralaw01_PackMany.l2.step
    unfold tephralaw01_PackMany.l2.body
    rw [e]
    have hjl : j < cs.length := by omega
    obtain ⟨a, ha, hc⟩ := (hf.rows hr).get (j := j) (v := iv cs[j]) (by simp [hjl])
    have hh := hcs cs[j] (List.getElem_mem hjl)
    have hdrop : (cs.take (min 200 ns.len)).drop j = cs[j] :: (cs.take (min 200 ns.len)).drop (j + 1) := by
      rw [List.drop_eq_getElem_cons (by simp; omega)]; simp
    refine Br.yes (by simp; omega) ⟨⟨by omega, by omega⟩, vPtr.mk a (by rw [cutA_zero]; exact ha) ⟨cs[j], by simpa [iv] using hc, (Reader_Num_spec hd).mono ?_⟩⟩
    rintro r H1 ⟨rfl, hm, h1⟩
    rw [hdrop] at h1 ⊢
    rw [show laidNums (cs[j] :: (cs.take (min 200 ns.len)).drop (j + 1)) = be cs[j] 8 ++ laidNums ((cs.take (min 200 ns.len)).drop (j + 1)) from rfl, rdNum_be hh.1 hh.2] at h1 ⊢
    refine ⟨_, rfl, Br.no (by simp) ?_⟩
    rw [w64_id (x := (j : Int) + 1) (by omega) (by omega)]
    have := ih (j + 1) H1 (by omega) (hf.step hm fun g hg => by omega) h1
    simpa using this

theorem PM_l1 {H1 : Hp} (hr : Rows H0 ns 1 (cs.map iv)) (hcs : ∀ n ∈ cs, -9223372036854775808 ≤ n ∧ n ≤ 9223372036854775807) (hb : H0.size ≤ H1.size) :
    ∀ (d j : Nat) (H : Hp) (F : List Nat), j + d = min 200 ns.len → Fresh H0 H → Wr H H1.size F (laidNums (cs.take j)) → (∀ g ∈ F, H0.size ≤ g) →
      tephralaw01_PackMany.l1 J0 ns H1 H (j : Int) fun r H' => r = .bool true ∧ Mod (fun _ => False) H0 H' := by
  have hl : cs.length = ns.len := by have := hr.1; simpa using this
  have e : (if (200 : Int) < ((ns.len : Nat) : Int) then (200 : Int) else ((ns.len : Nat) : Int)).toNat = min 200 ns.len := min_toNat 200 ns.len
  intro d
  induction d with
  | zero =>
    intro j H F hj hf hw hF
    apply tephralaw01_PackMany.l1.step
    unfold tephralaw01_PackMany.l1.body
    rw [e]
    have hlen : (laidNums (cs.take j)).length = 8 * j := by rw [laidNums_length]; simp; omega
    refine Br.no (by simp; omega) ((Writer_Bytes_spec hw (by omega)).mono ?_)
    rintro r H2 ⟨x, rfl, ho, m2, hx⟩
    refine ⟨x, rfl, (Of_spec (Own.rows ho) (fun _ h => h) (Own.lt ho)).mono ?_⟩
    rintro r H3 ⟨rfl, m3, h3⟩
    refine ⟨_, rfl, ?_⟩
    have f2 := hf.step m2 fun _ h => h.elim
    have f3 := f2.step m3 fun _ h => h.elim
    have hxl : (laidNums (cs.take j)).length = x.len := by have := ho.1; simpa using this
    exact PM_l2 hr hcs f2.size (by omega) (min 200 ns.len) 0 H3 (by omega) f3 (by rw [show min 200 ns.len = j by omega]; exact h3)
  | succ d ih =>
    intro j H F hj hf hw hF
    apply tephralaw01_PackMany.l1.step
    unfold tephralaw01_PackMany.l1.body
    rw [e]
    have hjl : j < cs.length := by omega
    have hlen : (laidNums (cs.take j)).length = 8 * j := by rw [laidNums_length]; simp; omega
    obtain ⟨a, ha, hc⟩ := (hf.rows hr).get (j := j) (v := iv cs[j]) (by simp [hjl])
    refine Br.yes (by simp; omega) ⟨⟨by omega, by omega⟩, vPtr.mk a (by rw [cutA_zero]; exact ha) ⟨cs[j], by simpa [iv] using hc, (Writer_Num_spec hw (by omega)).mono ?_⟩⟩
    rintro r H2 ⟨rfl, F', hw', hm, hF'⟩
    refine ⟨_, rfl, ?_⟩
    rw [w64_id (x := (j : Int) + 1) (by omega) (by omega)]
    have e2 : laidNums (cs.take j) ++ be cs[j] 8 = laidNums (cs.take (j + 1)) := by
      rw [List.take_succ_eq_append_getElem hjl]; unfold laidNums; rw [List.flatMap_append]; show _ = _ ++ (be cs[j] 8 ++ []); rw [List.append_nil]
    rw [e2] at hw'
    have := ih (j + 1) H2 F' (by omega) (hf.step hm fun g hg => hF g hg) hw' (fun g hg => (hF' g hg).elim (hF g) fun h => Nat.le_trans hf.size h)
    simpa using this

theorem PackMany_spec (hr : Rows H0 ns 1 (cs.map iv)) (hcs : ∀ n ∈ cs, -9223372036854775808 ≤ n ∧ n ≤ 9223372036854775807) :
    SCalls Try.prog tephralaw01_PackMany.id [.slice ns.a ns.len ns.cap] H0 fun r H' => r = .bool true ∧ Mod (fun _ => False) H0 H' := by
  apply tephralaw01_PackMany.calls
  have hx := hr.2.1
  refine awake_spec.mono ?_
  rintro r H1 ⟨rfl, m1⟩
  refine ⟨_, rfl, Br.no rfl ⟨⟨by split <;> omega, by split <;> omega⟩, ?_⟩⟩
  have f0 : Fresh H0 H0 := Mod.refl _ _
  have f1 := (f0.step m1 fun _ h => h.elim).step (Mod.push (fun _ => False) H1 (.cells #[.slice none 0 0] T_pack_Writer)) fun _ h => h.elim
  exact PM_l1 hr hcs m1.size (min 200 ns.len) 0 _ [H1.size] (by omega) f1 (Wr.new H1) (fun g hg => by have := m1.size; simp at hg; omega)
end

end Go.Proofs
