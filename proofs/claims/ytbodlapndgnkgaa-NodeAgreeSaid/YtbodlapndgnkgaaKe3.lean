/- ENTRIES, part 3: Say.Cmd, Entries: the walks. -/
import Derived.Test.YtbodlapndgnkgaaT14
import Derived.Test.YtbodlapndgnkgaaKe1
set_option linter.all false
set_option linter.constructorNameAsVariable false
namespace Go.Proofs
open Go Go.KC

section
variable {H : Hp}
theorem Say_Cmd_spec {s : Sy} : SCalls Try.prog tephralaw06_Say_Cmd.id [s.val] H (TellPost H s.cmd.val) := by
  apply tephralaw06_Say_Cmd.calls
  have m0 : Mod (fun _ => False) H (holes H 3) := Mod.holes _ _ _
  have t4 := tmodN s.op 4
  have tc := tmodN s.client 4
  have ts := tmodN s.seq 40
  have tk := tmodN s.key 8
  have tv := tmodN s.value 10
  have tv2 := tmodN s.value 2
  have to := tmodN s.old 10
  have to2 := tmodN s.old 2
  have w : ∀ n : Nat, n < 100 → IntKind.u8.wrap ((n : Int) + 1) = ((n + 1 : Nat) : Int) := fun n h => by rw [wrapu8]; omega
  have w6 : ∀ n : Nat, n < 100 → w64 ((n : Nat) : Int) = (n : Int) := fun n h => w64_id (by omega) (by omega)
  have e8 : letters.size = 8 := rfl
  have e10 : digits.size = 10 := rfl
  have e1 : (ByteArray.mk #[107]).size = 1 := rfl
  have e2 : (ByteArray.mk #[118]).size = 1 := rfl
  have hk1 := keyOf_size s.key
  have hv1 := txt_size s.value
  have ho1 := txt_size s.old
  unfold keyOf at hk1
  unfold txt at hv1 ho1
  rw [ByteArray.size_append] at hk1 hv1 ho1
  unfold tephralaw06_Say_Cmd.vc
  simp only [show (4 : Int) = ((4 : Nat) : Int) from rfl, show (40 : Int) = ((40 : Nat) : Int) from rfl, show (8 : Int) = ((8 : Nat) : Int) from rfl, show (10 : Int) = ((10 : Nat) : Int) from rfl, show (2 : Int) = ((2 : Nat) : Int) from rfl]
  rw [t4, tk, tv, tv2]
  rw [w (s.key.toNat % 8) (by omega), w (s.value.toNat % 10) (by omega), w6 (s.op.toNat % 4) (by omega)]
  refine ⟨by omega, by omega, by omega, by omega, by omega, ⟨by omega, ?_⟩, ⟨by omega, by omega⟩, ?_, by omega, ⟨by omega, ?_⟩, by omega, by omega, ⟨by omega, ?_⟩, ⟨by omega, by omega⟩, ?_, ?_⟩
  · show _ ≤ ((letters.size : Nat) : Int); omega
  · show (ByteArray.mk #[107]).size + (letters.extract _ _).size ≤ _; simp only [Int.toNat_natCast]; omega
  · rw [e2]; omega
  · show _ ≤ ((digits.size : Nat) : Int); omega
  · show _ + (digits.extract _ _).size ≤ _; simp only [Int.toNat_natCast]; omega
  · have k1 : ∀ y : ByteArray, (y = if s.op.toNat % 4 = 2 then ByteArray.mk #[] else txt s.value) → s.op.toNat % 4 ≠ 0 →
        tephralaw06_Say_Cmd.k1 J0 (s.op.toNat : Int) (s.client.toNat : Int) (s.seq.toNat : Int) (s.key.toNat : Int) (s.value.toNat : Int) (s.old.toNat : Int) H y (TellPost H s.cmd.val) := by
      intro y hy h0
      apply tephralaw06_Say_Cmd.k1.step; unfold tephralaw06_Say_Cmd.k1.body
      simp only [show (4 : Int) = ((4 : Nat) : Int) from rfl, show (40 : Int) = ((40 : Nat) : Int) from rfl, show (8 : Int) = ((8 : Nat) : Int) from rfl, show (10 : Int) = ((10 : Nat) : Int) from rfl, show (2 : Int) = ((2 : Nat) : Int) from rfl]
      rw [t4, tc, ts, tk, to, to2]
      rw [w (s.key.toNat % 8) (by omega), w (s.old.toNat % 10) (by omega), w6 (s.op.toNat % 4) (by omega), w6 (s.client.toNat % 4) (by omega), w6 (s.seq.toNat % 40) (by omega)]
      simp only [Int.toNat_natCast]
      refine Br.mk (fun h => ⟨by omega, ⟨by omega, by rw [e2]; omega⟩, by omega, by omega, ⟨by omega, by show _ ≤ ((digits.size : Nat) : Int); omega⟩, ⟨by omega, by omega⟩, by show _ + (digits.extract _ _).size ≤ _; omega, ?_⟩) (fun h => ?_)
      · have h3 : s.op.toNat % 4 = 3 := by have := beq_iff_eq.1 h; omega
        refine ⟨?_, m0⟩
        rw [hy]
        unfold Sy.cmd
        rw [if_neg h0, if_pos h3]
        rfl
      · have h3 : s.op.toNat % 4 ≠ 3 := fun e => by have := beq_eq_false_iff_ne.1 h; omega
        refine ⟨?_, m0⟩
        rw [hy]
        unfold Sy.cmd
        rw [if_neg h0, if_neg h3]
        rfl
    refine Br.mk (fun h => ?_) (fun h => ?_)
    · have h0 : s.op.toNat % 4 = 0 := by have := beq_iff_eq.1 h; omega
      refine ⟨?_, m0⟩
      unfold Sy.cmd
      rw [if_pos h0]
      rfl
    · have h0 : s.op.toNat % 4 ≠ 0 := fun e => by have := beq_eq_false_iff_ne.1 h; omega
      refine Br.mk (fun h => ?_) (fun h => ?_)
      · have h2 : s.op.toNat % 4 = 2 := by have := beq_iff_eq.1 h; omega
        exact k1 _ (by rw [if_pos h2]) h0
      · have h2 : s.op.toNat % 4 ≠ 2 := fun e => by have := beq_eq_false_iff_ne.1 h; omega
        refine k1 _ ?_ h0
        rw [if_neg h2]
        simp only [Int.toNat_natCast]
        rfl

theorem und_ents : Try.prog.underlying T_sl_api_Entry = some (.slice T_api_Entry) := by kernel_rfl

theorem inf_en : (Try.prog.info? T_api_Entry).map (fun i => (i.zero, i.size, i.bytes)) = some (some En.zero.val, 8, 88) := by kernel_rfl

theorem en_info : ∃ ti, Try.prog.info? T_api_Entry = some ti ∧ ti.zero = some En.zero.val ∧ ti.size = 8 ∧ ti.bytes = 88 := by
  have h := inf_en
  cases hi : Try.prog.info? T_api_Entry with
  | none => rw [hi] at h; simp at h
  | some ti => rw [hi] at h; simp at h; exact ⟨ti, rfl, h.1, h.2.1, h.2.2⟩

/-- An entry is laid behind entries. -/
theorem ents_app {H H1 : Hp} {x : Sl} {es : List En} {e : En} {K : Sl → Hp → Prop} (h : Own H x T_api_Entry 8 (es.map En.cells).flatten) (hm : Mod (fun _ => False) H H1) (hl : x.len ≤ 1000000000)
    (hK : ∀ x' H', Own H' x' T_api_Entry 8 ((es ++ [e]).map En.cells).flatten → x'.len = x.len + 1 → Mod (· ∈ x.blk) H H' → (∀ b ∈ x'.blk, b ∈ x.blk ∨ H.size ≤ b) → K x' H') :
    vApp Try.prog T_sl_api_Entry x.a x.len x.cap (.slice (some (Addr.mk (Array.size H1) 0 none)) 1 1) (Array.push H1 (.cells e.cells.toArray T_api_Entry)) K := by
  obtain ⟨ti, hi, hz, hsz, hby⟩ := en_info
  have m1 : Mod (fun _ => False) H (Array.push H1 (.cells e.cells.toArray T_api_Entry)) := hm.trans (Mod.push _ _ _)
  have h' := h.keep m1 (fun _ _ e => e)
  refine Own.app (e := T_api_Entry) (ti := ti) (z := En.zero.val) (cs := (es.map En.cells).flatten) (news := e.cells) (by rw [hsz]; exact h') und_ents hi hz (by rw [hsz]; rfl) (by omega) (by rw [hsz]; exact cells_src _ 8 rfl) (by rw [hsz]; rfl) (by have := allOne_ents [e]; simpa using this) (by simp only [srcLen]; rw [hby]; omega) ?_
  intro x' H2 ho hxl hmod hblk _
  rw [hsz] at ho
  refine hK x' H2 (by rw [List.map_append, List.flatten_append]; simpa using ho) hxl ((m1.mono fun _ _ e => e.elim).trans hmod) fun b hb => (hblk b hb).imp id fun h => by have := m1.size; omega

theorem say_step {H0 : Hp} {s : Sy} {K : Int → Int → Int → ByteArray → ByteArray → ByteArray → Hp → Prop} (hf : Mod (fun _ => False) H0 H) (hK : ∀ H', Mod (fun _ => False) H0 H' → K s.cmd.op s.cmd.client s.cmd.seq s.cmd.key s.cmd.value s.cmd.old H') :
    SCalls Try.prog tephralaw06_Say_Cmd.id [s.val] H fun r H' => ∃ a : Int, ∃ b : Int, ∃ c : Int, ∃ d : ByteArray, ∃ e : ByteArray, ∃ f : ByteArray, r = .agg #[.int .i64 a, .int .i64 b, .int .i64 c, .string d, .string e, .string f] ∧ K a b c d e f H' := by
  refine Say_Cmd_spec.mono ?_
  rintro r H1 ⟨rfl, m1⟩
  exact ⟨_, _, _, _, _, _, rfl, hK H1 (hf.trans m1)⟩

theorem bool_step {H0 : Hp} {f : FuncId} {args : List Value} {b : Bool} {K : Bool → Hp → Prop} (h : SCalls Try.prog f args H (TellPost H (.bool b))) (hf : Mod (fun _ => False) H0 H) (hK : ∀ H', Mod (fun _ => False) H0 H' → K b H') :
    SCalls Try.prog f args H fun r H' => ∃ x : Bool, r = .bool x ∧ K x H' := by
  refine h.mono ?_
  rintro r H1 ⟨rfl, m1⟩
  exact ⟨b, rfl, hK H1 (hf.trans m1)⟩
end

end Go.Proofs
