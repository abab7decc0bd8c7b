/- LAYER 01: awake. -/
import Derived.Test.YtllkdgnagjciiaaKp6
import Derived.KernelRfl
set_option linter.all false
set_option linter.constructorNameAsVariable false
namespace Go.Proofs
open Go Go.KC

theorem Wr.new (H : Hp) : Wr (Array.push H (.cells #[.slice none 0 0] T_pack_Writer)) H.size [H.size] [] :=
  ⟨⟨none, 0, 0⟩, get_push_new _ _, Own.nil _ _ _, rfl, by simp [Sl.blk]⟩

def awakeBytes : List UInt8 := [255, 255, 255, 255, 255, 255, 255, 254, 0, 0, 0, 0, 0, 0, 0, 2, 97, 98]
theorem awake_bytes : ([] ++ be (-2) 8 ++ be ((ByteArray.mk #[97, 98]).size : Int) 8 ++ (ByteArray.mk #[97, 98]).data.toList) = awakeBytes := by kernel_rfl
theorem awake_num : rdNum false awakeBytes = (-2, false, [0, 0, 0, 0, 0, 0, 0, 2, 97, 98]) := by kernel_rfl
theorem awake_text : rdText false [0, 0, 0, 0, 0, 0, 0, 2, 97, 98] = ([97, 98], false, []) := by kernel_rfl
theorem awake_byte : rdByte false [] = (0, true, []) := by kernel_rfl

theorem awake_tail {H : Hp} {b : Nat} {D : List Nat} {Q : Value → Hp → Prop} (h : Rd H b D false awakeBytes) (hQ : ∀ H', Mod (· = b) H H' → Q (.bool true) H') :
    tephralaw01_awake.k1 J0 H (some ⟨b, 0, none⟩) true Q := by
  apply tephralaw01_awake.k1.step
  unfold tephralaw01_awake.k1.body
  refine Br.yes rfl ((Reader_Num_spec h).mono ?_)
  rintro r H1 ⟨rfl, m1, h1⟩
  rw [awake_num] at h1 ⊢
  refine ⟨_, rfl, ?_⟩
  apply tephralaw01_awake.k2.step
  unfold tephralaw01_awake.k2.body
  refine Br.yes rfl ((Reader_Text_spec h1).mono ?_)
  rintro r H2 ⟨rfl, m2, h2⟩
  rw [awake_text] at h2 ⊢
  refine ⟨_, rfl, ?_⟩
  apply tephralaw01_awake.k3.step
  unfold tephralaw01_awake.k3.body
  refine Br.yes (beq_self_eq_true (ByteArray.mk #[97, 98]).toList) ((Reader_Done_spec h2).mono ?_)
  rintro r H3 ⟨rfl, rfl⟩
  refine ⟨_, rfl, ?_⟩
  apply tephralaw01_awake.k4.step
  unfold tephralaw01_awake.k4.body
  refine Br.yes rfl ((Reader_Byte_spec h2).mono ?_)
  rintro r H4 ⟨rfl, m4, h4⟩
  rw [awake_byte] at h4 ⊢
  refine ⟨_, rfl, ?_⟩
  apply tephralaw01_awake.k5.step
  unfold tephralaw01_awake.k5.body
  refine Br.yes rfl ((Reader_Bad_spec h4).mono ?_)
  rintro r H5 ⟨rfl, rfl⟩
  exact ⟨_, rfl, hQ _ (m1.trans (m2.trans m4))⟩

theorem awake_spec {H : Hp} : SCalls Try.prog tephralaw01_awake.id [] H fun r H' => r = .bool true ∧ Mod (fun _ => False) H H' := by
  apply tephralaw01_awake.calls
  refine (Writer_Num_spec (Wr.new H) (by simp)).mono ?_
  rintro r H1 ⟨rfl, F1, w1, m1, f1⟩
  refine ⟨_, rfl, (Writer_Text_spec (s := ByteArray.mk #[97, 98]) w1 (by decide)).mono ?_⟩
  rintro r H2 ⟨rfl, F2, w2, m2, f2⟩
  rw [awake_bytes] at w2
  refine ⟨_, rfl, (Writer_Bytes_spec w2 (by decide)).mono ?_⟩
  rintro r H3 ⟨x, rfl, ho, m3, hx⟩
  have hlt : ∀ g ∈ x.blk, g < H3.size := ho.lt
  refine ⟨x, rfl, (Of_spec (Own.rows ho) (fun _ h => h) hlt).mono ?_⟩
  rintro r H4 ⟨rfl, m4, h4⟩
  refine ⟨_, rfl, ?_⟩
  have hlen : awakeBytes.length = x.len := by have := ho.1; simpa using this
  have hl : x.len = 18 := by rw [← hlen]; rfl
  obtain ⟨a, ha, hc⟩ := ((Own.rows ho).keep m4 (fun _ _ h => h)).at (j := 0) (c := 255) rfl
  rw [add_zero_of] at hc
  refine Br.yes (by rw [hl]; rfl) ⟨⟨Int.le_refl _, by omega⟩, vPtr.mk a ha ⟨_, hc, ?_⟩⟩
  refine awake_tail h4 fun H5 m5 => ⟨rfl, ?_⟩
  have e0 : Mod (fun g => H.size ≤ g) H (Array.push H (.cells #[.slice none 0 0] T_pack_Writer)) := Mod.push _ _ _
  have e1 : Mod (fun g => H.size ≤ g) H H1 := e0.trans' m1 fun g _ hg => by simp at hg; omega
  have hf1 : ∀ g ∈ F1, H.size ≤ g := fun g hg => by
    rcases f1 g hg with h | h
    · simp at h; omega
    · have := e0.size; omega
  have e2 : Mod (fun g => H.size ≤ g) H H2 := e1.trans' m2 fun g _ hg => hf1 g hg
  have e3 : Mod (fun g => H.size ≤ g) H H4 := (e2.trans' m3 fun _ _ h => h.elim).trans' m4 fun _ _ h => h.elim
  have e4 : Mod (fun g => H.size ≤ g) H H5 := e3.trans' m5 fun g hg e => by
    have := e2.size; have := m3.size; omega
  exact Mod.fresh e4 fun g h => h

end Go.Proofs
