/- LAYER 06: says; an entry's bytes. -/
import Derived.Test.YtgogmmhkelenkaaKq1
set_option linter.all false
set_option linter.constructorNameAsVariable false
namespace Go.Proofs
open Go Go.KC

structure Sy where
  op : UInt8
  client : UInt8
  seq : UInt8
  key : UInt8
  value : UInt8
  old : UInt8
def Sy.cells (s : Sy) : List Value := [.int .u8 (s.op.toNat : Int), .int .u8 (s.client.toNat : Int), .int .u8 (s.seq.toNat : Int), .int .u8 (s.key.toNat : Int), .int .u8 (s.value.toNat : Int), .int .u8 (s.old.toNat : Int)]
def Sy.val (s : Sy) : Value := .agg #[.int .u8 (s.op.toNat : Int), .int .u8 (s.client.toNat : Int), .int .u8 (s.seq.toNat : Int), .int .u8 (s.key.toNat : Int), .int .u8 (s.value.toNat : Int), .int .u8 (s.old.toNat : Int)]
def letters : ByteArray := ByteArray.mk #[97, 98, 99, 100, 101, 102, 103, 104]
def digits : ByteArray := ByteArray.mk #[48, 49, 50, 51, 52, 53, 54, 55, 56, 57]
def txt (c : UInt8) : ByteArray := (ByteArray.mk #[118]).extract 0 (c.toNat % 2) ++ digits.extract (c.toNat % 10) (c.toNat % 10 + 1)
theorem txt_size (c : UInt8) : 1 ≤ (txt c).size ∧ (txt c).size ≤ 2 := by
  have e1 : (ByteArray.mk #[118]).size = 1 := rfl
  have e2 : digits.size = 10 := rfl
  unfold txt
  rw [ByteArray.size_append, ByteArray.size_extract, ByteArray.size_extract, e1, e2]
  omega
def keyOf (c : UInt8) : ByteArray := ByteArray.mk #[107] ++ letters.extract (c.toNat % 8) (c.toNat % 8 + 1)
theorem keyOf_size (c : UInt8) : (keyOf c).size = 2 := by
  have e1 : (ByteArray.mk #[107]).size = 1 := rfl
  have e2 : letters.size = 8 := rfl
  unfold keyOf
  rw [ByteArray.size_append, ByteArray.size_extract, e1, e2]
  omega
/-- A say's command. -/
def Sy.cmd (s : Sy) : Cm :=
  if s.op.toNat % 4 = 0 then Cm.zero else
  { op := (s.op.toNat % 4 : Nat), client := (s.client.toNat % 4 : Nat), seq := (s.seq.toNat % 40 : Nat), key := keyOf s.key,
    value := if s.op.toNat % 4 = 2 then ByteArray.mk #[] else txt s.value, old := if s.op.toNat % 4 = 3 then txt s.old else ByteArray.mk #[] }
theorem Sy.may (s : Sy) : s.cmd.May := by
  have e0 : (ByteArray.mk #[]).size = 0 := rfl
  have hv := txt_size s.value
  have ho := txt_size s.old
  have hk := keyOf_size s.key
  unfold Sy.cmd
  split
  · exact ⟨by decide, by decide, by decide, by decide, Or.inl ⟨rfl, rfl, rfl, rfl, rfl, rfl⟩⟩
  · rename_i h
    refine ⟨by simp only; omega, by simp only; omega, ?_, ?_, Or.inr ⟨?_, ?_, ?_, ?_, ?_, ?_, ?_⟩⟩
    · simp only; split <;> omega
    · simp only; split <;> omega
    · simp only; omega
    · simp only; omega
    · simp only; omega
    · simp only; omega
    · simp only; omega
    · simp only; omega
    · simp only; omega

theorem tmodN (c : UInt8) (k : Nat) : Int.tmod (c.toNat : Int) (k : Int) = ((c.toNat % k : Nat) : Int) := by
  rw [Int.tmod_eq_emod_of_nonneg (by omega)]; rfl

section
variable {H : Hp}
theorem Say_Cmd_spec {s : Sy} : SCalls Try.prog tephralaw06_Say_Cmd.id [s.val] H (TellPost H s.cmd.val) := by
  apply tephralaw06_Say_Cmd.calls
  have m0 : Mod (fun _ => False) H (holes H 3) := Mod.holes _ _ _
  have t4 := tmodN s.op 4
  have tc := tmodN s.client 4
  have ts := tmodN s.seq 40
  have tk := tmodN s.key 8
  have tv := tmodN s.value 10
  have tv2 := tmodN s.value 2
  have to := tmodN s.old 10
  have to2 := tmodN s.old 2
  have w : ∀ n : Nat, n < 100 → IntKind.u8.wrap ((n : Int) + 1) = ((n + 1 : Nat) : Int) := fun n h => by rw [wrapu8]; omega
  have w6 : ∀ n : Nat, n < 100 → w64 ((n : Nat) : Int) = (n : Int) := fun n h => w64_id (by omega) (by omega)
  have e8 : letters.size = 8 := rfl
  have e10 : digits.size = 10 := rfl
  have e1 : (ByteArray.mk #[107]).size = 1 := rfl
  have e2 : (ByteArray.mk #[118]).size = 1 := rfl
  have hk1 := keyOf_size s.key
  have hv1 := txt_size s.value
  have ho1 := txt_size s.old
  unfold keyOf at hk1
  unfold txt at hv1 ho1
  rw [ByteArray.size_append] at hk1 hv1 ho1
  unfold tephralaw06_Say_Cmd.vc
  simp only [show (4 : Int) = ((4 : Nat) : Int) from rfl, show (40 : Int) = ((40 : Nat) : Int) from rfl, show (8 : Int) = ((8 : Nat) : Int) from rfl, show (10 : Int) = ((10 : Nat) : Int) from rfl, show (2 : Int) = ((2 : Nat) : Int) from rfl]
  rw [t4, tk, tv, tv2]
  rw [w (s.key.toNat % 8) (by omega), w (s.value.toNat % 10) (by omega), w6 (s.op.toNat % 4) (by omega)]
  refine ⟨by omega, by omega, by omega, by omega, by omega, ⟨by omega, ?_⟩, ⟨by omega, by omega⟩, ?_, by omega, ⟨by omega, ?_⟩, by omega, by omega, ⟨by omega, ?_⟩, ⟨by omega, by omega⟩, ?_, ?_⟩
  · show _ ≤ ((letters.size : Nat) : Int); omega
  · show (ByteArray.mk #[107]).size + (letters.extract _ _).size ≤ _; simp only [Int.toNat_natCast]; omega
  · rw [e2]; omega
  · show _ ≤ ((digits.size : Nat) : Int); omega
  · show _ + (digits.extract _ _).size ≤ _; simp only [Int.toNat_natCast]; omega
  · have k1 : ∀ y : ByteArray, (y = if s.op.toNat % 4 = 2 then ByteArray.mk #[] else txt s.value) → s.op.toNat % 4 ≠ 0 →
        tephralaw06_Say_Cmd.k1 J0 (s.op.toNat : Int) (s.client.toNat : Int) (s.seq.toNat : Int) (s.key.toNat : Int) (s.value.toNat : Int) (s.old.toNat : Int) H y (TellPost H s.cmd.val) := by
      intro y hy h0
      apply tephralaw06_Say_Cmd.k1.step; unfold tephralaw06_Say_Cmd.k1.body
      simp only [show (4 : Int) = ((4 : Nat) : Int) from rfl, show (40 : Int) = ((40 : Nat) : Int) from rfl, show (8 : Int) = ((8 : Nat) : Int) from rfl, show (10 : Int) = ((10 : Nat) : Int) from rfl, show (2 : Int) = ((2 : Nat) : Int) from rfl]
      rw [t4, tc, ts, tk, to, to2]
      rw [w (s.key.toNat % 8) (by omega), w (s.old.toNat % 10) (by omega), w6 (s.op.toNat % 4) (by omega), w6 (s.client.toNat % 4) (by omega), w6 (s.seq.toNat % 40) (by omega)]
      simp only [Int.toNat_natCast]
      refine Br.mk (fun h => ⟨by omega, ⟨by omega, by rw [e2]; omega⟩, by omega, by omega, ⟨by omega, by show _ ≤ ((digits.size : Nat) : Int); omega⟩, ⟨by omega, by omega⟩, by show _ + (digits.extract _ _).size ≤ _; omega, ?_⟩) (fun h => ?_)
      · have h3 : s.op.toNat % 4 = 3 := by have := beq_iff_eq.1 h; omega
        refine ⟨?_, m0⟩
        rw [hy]
        unfold Sy.cmd
        rw [if_neg h0, if_pos h3]
        rfl
      · have h3 : s.op.toNat % 4 ≠ 3 := fun e => by have := beq_eq_false_iff_ne.1 h; omega
        refine ⟨?_, m0⟩
        rw [hy]
        unfold Sy.cmd
        rw [if_neg h0, if_neg h3]
        rfl
    refine Br.mk (fun h => ?_) (fun h => ?_)
    · have h0 : s.op.toNat % 4 = 0 := by have := beq_iff_eq.1 h; omega
      refine ⟨?_, m0⟩
      unfold Sy.cmd
      rw [if_pos h0]
      rfl
    · have h0 : s.op.toNat % 4 ≠ 0 := fun e => by have := beq_eq_false_iff_ne.1 h; omega
      refine Br.mk (fun h => ?_) (fun h => ?_)
      · have h2 : s.op.toNat % 4 = 2 := by have := beq_iff_eq.1 h; omega
        exact k1 _ (by rw [if_pos h2]) h0
      · have h2 : s.op.toNat % 4 ≠ 2 := fun e => by have := beq_eq_false_iff_ne.1 h; omega
        refine k1 _ ?_ h0
        rw [if_neg h2]
        simp only [Int.toNat_natCast]
        rfl
end

/-- A text as it is laid. -/
def tx (s : ByteArray) : List UInt8 := be (s.size : Int) 8 ++ s.data.toList
theorem tx_length (s : ByteArray) : (tx s).length = s.size + 8 := by unfold tx; rw [List.length_append, be_length, ba_len]; omega
def Cm.bytes (c : Cm) : List UInt8 := [byteAt c.op 0] ++ (be c.client 8 ++ (be c.seq 8 ++ (tx c.key ++ (tx c.value ++ tx c.old))))
def En.bytes (e : En) : List UInt8 := be e.index 8 ++ (be e.term 8 ++ e.cmd.bytes)
theorem Cm.bytes_length (c : Cm) : c.bytes.length = 41 + c.key.size + c.value.size + c.old.size := by
  unfold Cm.bytes
  simp only [List.length_append, be_length, tx_length, List.length_cons, List.length_nil]; omega
theorem En.bytes_length (e : En) : e.bytes.length = 57 + e.cmd.key.size + e.cmd.value.size + e.cmd.old.size := by
  unfold En.bytes
  simp only [List.length_append, be_length, Cm.bytes_length]; omega
/-- Its texts are not too long. -/
def Cm.small (c : Cm) : Prop := c.key.size + c.value.size + c.old.size ≤ 100000000
theorem Cm.May.small {c : Cm} (h : c.May) : c.small := by
  obtain ⟨_, _, h1, h2, h3⟩ := h
  unfold Cm.small
  rcases h3 with h3 | h3
  · have := h3.2.2.2.1; omega
  · have := h3.2.2.2.2.2.2; omega

/-- What laying does: F may be turned. -/
def PutPost (H : Hp) (b : Nat) (F : List Nat) (xs : List UInt8) (r : Value) (H' : Hp) : Prop :=
  r = .tuple #[] ∧ ∃ F', Wr H' b F' xs ∧ Mod (· ∈ F) H H' ∧ ∀ g ∈ F', g ∈ F ∨ H.size ≤ g

section
variable {H : Hp}
theorem put_spec {b : Nat} {F : List Nat} {xs : List UInt8} {c : Cm} (h : Wr H b F xs) (hb : xs.length ≤ 1000000) (hc : c.small) :
    SCalls Try.prog cmds_put.id [.pointer (some ⟨b, 0, none⟩), c.val] H (PutPost H b F (xs ++ c.bytes)) := by
  apply cmds_put.calls
  unfold cmds_put.vc
  unfold Cm.small at hc
  have m0 : Mod (fun _ => False) H (holes H 1) := Mod.holes _ _ _
  rw [byteAt_zero]
  refine (Writer_Byte_spec (h.keep m0 fun _ _ e => e) (by omega)).mono fun r H1 h1 => ⟨_, h1.1, ?_⟩
  obtain ⟨-, F1, w1, k1, f1⟩ := h1
  refine (Writer_Num_spec w1 (by simp [be_length]; omega)).mono fun r H2 h2 => ⟨_, h2.1, ?_⟩
  have h2' := WrPost.trans k1 f1 h2
  obtain ⟨-, F2, w2, k2, f2⟩ := h2'
  refine (Writer_Num_spec w2 (by simp [be_length]; omega)).mono fun r H3 h3 => ⟨_, h3.1, ?_⟩
  have h3' := WrPost.trans k2 f2 h3
  obtain ⟨-, F3, w3, k3, f3⟩ := h3'
  refine (Writer_Text_spec w3 (by simp [be_length]; omega)).mono fun r H4 h4 => ⟨_, h4.1, ?_⟩
  have h4' := WrPost.trans k3 f3 h4
  obtain ⟨-, F4, w4, k4, f4⟩ := h4'
  refine (Writer_Text_spec w4 (by simp [be_length, ba_len]; omega)).mono fun r H5 h5 => ⟨_, h5.1, ?_⟩
  have h5' := WrPost.trans k4 f4 h5
  obtain ⟨-, F5, w5, k5, f5⟩ := h5'
  refine (Writer_Text_spec w5 (by simp [be_length, ba_len]; omega)).mono fun r H6 h6 => ⟨_, h6.1, ?_⟩
  have h6' := WrPost.trans k5 f5 h6
  obtain ⟨-, F6, w6, k6, f6⟩ := h6'
  refine ⟨rfl, F6, ?_, (m0.mono fun _ _ e => e.elim).trans k6, fun g hg => (f6 g hg).imp id fun h => Nat.le_trans m0.size h⟩
  have e : xs ++ c.bytes = xs ++ [byteAt c.op 0] ++ be c.client 8 ++ be c.seq 8 ++ be ↑c.key.size 8 ++ c.key.data.toList ++ be ↑c.value.size 8 ++ c.value.data.toList ++ be ↑c.old.size 8 ++ c.old.data.toList := by
    simp only [Cm.bytes, tx, List.append_assoc]
  rw [e]
  exact w6

/-- What is told of bytes that are laid anew. -/
def NewBytes (H : Hp) (xs : List UInt8) (r : Value) (H' : Hp) : Prop := ∃ x : Sl, r = .slice x.a x.len x.cap ∧ Own H' x T_uint8 1 (xs.map bv) ∧ Mod (fun _ => False) H H' ∧ ∀ g ∈ x.blk, H.size ≤ g

theorem Bytes_spec {e : En} (hc : e.cmd.small) : SCalls Try.prog cmds_Bytes.id [e.val] H (NewBytes H e.bytes) := by
  apply cmds_Bytes.calls
  unfold cmds_Bytes.vc
  have hcl := e.bytes_length
  have hcs := hc
  unfold Cm.small at hcs
  have m0 : Mod (fun _ => False) H (holes H 1) := Mod.holes _ _ _
  have w0 := Wr.new (holes H 1)
  have q0 : Fresh (holes H 1) (Array.push (holes H 1) (.cells #[.slice none 0 0] T_pack_Writer)) := Mod.push _ _ _
  refine (Writer_Num_spec w0 (by simp)).mono fun r H1 h1 => ⟨_, h1.1, ?_⟩
  obtain ⟨-, F1, w1, k1, f1⟩ := h1
  refine (Writer_Num_spec w1 (by simp [be_length])).mono fun r H2 h2 => ⟨_, h2.1, ?_⟩
  have h2' := WrPost.trans k1 f1 h2
  obtain ⟨-, F2, w2, k2, f2⟩ := h2'
  refine (put_spec (c := e.cmd) w2 (by simp [be_length]) hc).mono fun r H3 h3 => ⟨h3.1, ?_⟩
  obtain ⟨-, F3, w3, k3, f3⟩ := h3
  have e3 : [] ++ be e.index 8 ++ be e.term 8 ++ e.cmd.bytes = e.bytes := by simp only [En.bytes, List.append_assoc, List.nil_append]
  rw [e3] at w3
  have q2 := q0.step k2 fun g hg => by simp at hg; omega
  have q3 := q2.step k3 fun g hg => (f2 g hg).elim (fun h => by simp at h; omega) fun h => by have := q0.size; omega
  refine (Writer_Bytes_spec w3 (by omega)).mono ?_
  rintro r H4 ⟨x, rfl, ho, m4, hx⟩
  refine ⟨x, rfl, x, rfl, ho, m0.trans ((q3.step m4 fun _ h => h.elim).mod), fun g hg => ?_⟩
  have := hx g hg
  have h1 := q3.size
  have h2 := m0.size
  omega

theorem law_bytes_spec {e : En} (hc : e.cmd.small) : SCalls Try.prog tephralaw06_bytes.id [e.val] H (TellPost H (.string ⟨e.bytes.toArray⟩)) := by
  apply tephralaw06_bytes.calls
  unfold tephralaw06_bytes.vc
  have hcl := e.bytes_length
  have hcs := hc
  unfold Cm.small at hcs
  have m0 : Mod (fun _ => False) H (holes H 1) := Mod.holes _ _ _
  have w0 := (Wr.new (holes H 1)).keep (Mod.holes (fun _ => False) _ 1) fun _ _ e => e
  have q0 : Fresh (holes H 1) (holes (Array.push (holes H 1) (.cells #[.slice none 0 0] T_pack_Writer)) 1) := Mod.trans (Mod.push _ _ _) (Mod.holes _ _ _)
  refine (Writer_Num_spec w0 (by simp)).mono fun r H1 h1 => ⟨_, h1.1, ?_⟩
  obtain ⟨-, F1, w1, k1, f1⟩ := h1
  refine (Writer_Num_spec w1 (by simp [be_length])).mono fun r H2 h2 => ⟨_, h2.1, ?_⟩
  have h2' := WrPost.trans k1 f1 h2
  obtain ⟨-, F2, w2, k2, f2⟩ := h2'
  rw [byteAt_zero]
  refine (Writer_Byte_spec w2 (by simp [be_length])).mono fun r H3 h3 => ⟨_, h3.1, ?_⟩
  have h3' := WrPost.trans k2 f2 h3
  obtain ⟨-, F3, w3, k3, f3⟩ := h3'
  refine (Writer_Num_spec w3 (by simp [be_length])).mono fun r H4 h4 => ⟨_, h4.1, ?_⟩
  have h4' := WrPost.trans k3 f3 h4
  obtain ⟨-, F4, w4, k4, f4⟩ := h4'
  refine (Writer_Num_spec w4 (by simp [be_length])).mono fun r H5 h5 => ⟨_, h5.1, ?_⟩
  have h5' := WrPost.trans k4 f4 h5
  obtain ⟨-, F5, w5, k5, f5⟩ := h5'
  refine (Writer_Text_spec w5 (by simp [be_length]; omega)).mono fun r H6 h6 => ⟨_, h6.1, ?_⟩
  have h6' := WrPost.trans k5 f5 h6
  obtain ⟨-, F6, w6, k6, f6⟩ := h6'
  refine (Writer_Text_spec w6 (by simp [be_length, ba_len]; omega)).mono fun r H7 h7 => ⟨_, h7.1, ?_⟩
  have h7' := WrPost.trans k6 f6 h7
  obtain ⟨-, F7, w7, k7, f7⟩ := h7'
  refine (Writer_Text_spec w7 (by simp [be_length, ba_len]; omega)).mono fun r H8 h8 => ⟨_, h8.1, ?_⟩
  have h8' := WrPost.trans k7 f7 h8
  obtain ⟨-, F8, w8, k8, f8⟩ := h8'
  have e3 : e.bytes = [] ++ be e.index 8 ++ be e.term 8 ++ [byteAt e.cmd.op 0] ++ be e.cmd.client 8 ++ be e.cmd.seq 8 ++ be ↑e.cmd.key.size 8 ++ e.cmd.key.data.toList ++ be ↑e.cmd.value.size 8 ++ e.cmd.value.data.toList ++ be ↑e.cmd.old.size 8 ++ e.cmd.old.data.toList := by
    simp only [En.bytes, Cm.bytes, tx, List.append_assoc, List.nil_append]
  rw [← e3] at w8
  have q8 := q0.step k8 fun g hg => by simp at hg; omega
  refine (Writer_Bytes_spec w8 (by omega)).mono ?_
  rintro r H9 ⟨x, rfl, ho, m9, hx⟩
  refine ⟨x, rfl, b2s_imp (b2s_rows (Own.rows ho) rfl) ?_⟩
  rintro s rfl
  exact ⟨rfl, m0.trans ((q8.step m9 fun _ h => h.elim).mod)⟩
end
end Go.Proofs
