/- ANY LAYER WITH cmds: an entry's bytes. -/
import Derived.Test.YtpdondaekinmdaaKe5
import Derived.Test.YtpdondaekinmdaaKp6
set_option linter.all false
set_option linter.constructorNameAsVariable false
namespace Go.Proofs
open Go Go.KC

section
variable {H : Hp}
end

/-- A text as it is laid. -/
def tx (s : ByteArray) : List UInt8 := be (s.size : Int) 8 ++ s.data.toList
theorem tx_length (s : ByteArray) : (tx s).length = s.size + 8 := by unfold tx; rw [List.length_append, be_length, ba_len]; omega
def Cm.bytes (c : Cm) : List UInt8 := [byteAt c.op 0] ++ (be c.client 8 ++ (be c.seq 8 ++ (tx c.key ++ (tx c.value ++ tx c.old))))
def En.bytes (e : En) : List UInt8 := be e.index 8 ++ (be e.term 8 ++ e.cmd.bytes)
theorem Cm.bytes_length (c : Cm) : c.bytes.length = 41 + c.key.size + c.value.size + c.old.size := by
  unfold Cm.bytes
  simp only [List.length_append, be_length, tx_length, List.length_cons, List.length_nil]; omega
theorem En.bytes_length (e : En) : e.bytes.length = 57 + e.cmd.key.size + e.cmd.value.size + e.cmd.old.size := by
  unfold En.bytes
  simp only [List.length_append, be_length, Cm.bytes_length]; omega
/-- Its texts are not too long. -/
def Cm.small (c : Cm) : Prop := c.key.size + c.value.size + c.old.size ≤ 100000000
theorem Cm.May.small {c : Cm} (h : c.May) : c.small := by
  obtain ⟨_, _, h1, h2, h3⟩ := h
  unfold Cm.small
  rcases h3 with h3 | h3
  · have := h3.2.2.2.1; omega
  · have := h3.2.2.2.2.2.2; omega

/-- What laying does: F may be turned. -/
def PutPost (H : Hp) (b : Nat) (F : List Nat) (xs : List UInt8) (r : Value) (H' : Hp) : Prop :=
  r = .tuple #[] ∧ ∃ F', Wr H' b F' xs ∧ Mod (· ∈ F) H H' ∧ ∀ g ∈ F', g ∈ F ∨ H.size ≤ g

section
variable {H : Hp}
theorem put_spec {b : Nat} {F : List Nat} {xs : List UInt8} {c : Cm} (h : Wr H b F xs) (hb : xs.length ≤ 1000000) (hc : c.small) :
    SCalls Try.prog cmds_put.id [.pointer (some ⟨b, 0, none⟩), c.val] H (PutPost H b F (xs ++ c.bytes)) := by
  apply cmds_put.calls
  unfold cmds_put.vc
  unfold Cm.small at hc
  have m0 : Mod (fun _ => False) H (holes H 1) := Mod.holes _ _ _
  rw [byteAt_zero]
  refine (Writer_Byte_spec (h.keep m0 fun _ _ e => e) (by omega)).mono fun r H1 h1 => ⟨_, h1.1, ?_⟩
  obtain ⟨-, F1, w1, k1, f1⟩ := h1
  refine (Writer_Num_spec w1 (by simp [be_length]; omega)).mono fun r H2 h2 => ⟨_, h2.1, ?_⟩
  have h2' := WrPost.trans k1 f1 h2
  obtain ⟨-, F2, w2, k2, f2⟩ := h2'
  refine (Writer_Num_spec w2 (by simp [be_length]; omega)).mono fun r H3 h3 => ⟨_, h3.1, ?_⟩
  have h3' := WrPost.trans k2 f2 h3
  obtain ⟨-, F3, w3, k3, f3⟩ := h3'
  refine (Writer_Text_spec w3 (by simp [be_length]; omega)).mono fun r H4 h4 => ⟨_, h4.1, ?_⟩
  have h4' := WrPost.trans k3 f3 h4
  obtain ⟨-, F4, w4, k4, f4⟩ := h4'
  refine (Writer_Text_spec w4 (by simp [be_length, ba_len]; omega)).mono fun r H5 h5 => ⟨_, h5.1, ?_⟩
  have h5' := WrPost.trans k4 f4 h5
  obtain ⟨-, F5, w5, k5, f5⟩ := h5'
  refine (Writer_Text_spec w5 (by simp [be_length, ba_len]; omega)).mono fun r H6 h6 => ⟨_, h6.1, ?_⟩
  have h6' := WrPost.trans k5 f5 h6
  obtain ⟨-, F6, w6, k6, f6⟩ := h6'
  refine ⟨rfl, F6, ?_, (m0.mono fun _ _ e => e.elim).trans k6, fun g hg => (f6 g hg).imp id fun h => Nat.le_trans m0.size h⟩
  have e : xs ++ c.bytes = xs ++ [byteAt c.op 0] ++ be c.client 8 ++ be c.seq 8 ++ be ↑c.key.size 8 ++ c.key.data.toList ++ be ↑c.value.size 8 ++ c.value.data.toList ++ be ↑c.old.size 8 ++ c.old.data.toList := by
    simp only [Cm.bytes, tx, List.append_assoc]
  rw [e]
  exact w6

/-- What is told of bytes that are laid anew. -/
def NewBytes (H : Hp) (xs : List UInt8) (r : Value) (H' : Hp) : Prop := ∃ x : Sl, r = .slice x.a x.len x.cap ∧ Own H' x T_uint8 1 (xs.map bv) ∧ Mod (fun _ => False) H H' ∧ ∀ g ∈ x.blk, H.size ≤ g

theorem cmBytes_spec {e : En} (hc : e.cmd.small) : SCalls Try.prog cmds_Bytes.id [e.val] H (NewBytes H e.bytes) := by
  apply cmds_Bytes.calls
  unfold cmds_Bytes.vc
  have hcl := e.bytes_length
  have hcs := hc
  unfold Cm.small at hcs
  have m0 : Mod (fun _ => False) H (holes H 1) := Mod.holes _ _ _
  have w0 := Wr.new (holes H 1)
  have q0 : Fresh (holes H 1) (Array.push (holes H 1) (.cells #[.slice none 0 0] T_pack_Writer)) := Mod.push _ _ _
  refine (Writer_Num_spec w0 (by simp)).mono fun r H1 h1 => ⟨_, h1.1, ?_⟩
  obtain ⟨-, F1, w1, k1, f1⟩ := h1
  refine (Writer_Num_spec w1 (by simp [be_length])).mono fun r H2 h2 => ⟨_, h2.1, ?_⟩
  have h2' := WrPost.trans k1 f1 h2
  obtain ⟨-, F2, w2, k2, f2⟩ := h2'
  refine (put_spec (c := e.cmd) w2 (by simp [be_length]) hc).mono fun r H3 h3 => ⟨h3.1, ?_⟩
  obtain ⟨-, F3, w3, k3, f3⟩ := h3
  have e3 : [] ++ be e.index 8 ++ be e.term 8 ++ e.cmd.bytes = e.bytes := by simp only [En.bytes, List.append_assoc, List.nil_append]
  rw [e3] at w3
  have q2 := q0.step k2 fun g hg => by simp at hg; omega
  have q3 := q2.step k3 fun g hg => (f2 g hg).elim (fun h => by simp at h; omega) fun h => by have := q0.size; omega
  refine (Writer_Bytes_spec w3 (by omega)).mono ?_
  rintro r H4 ⟨x, rfl, ho, m4, hx⟩
  refine ⟨x, rfl, x, rfl, ho, m0.trans ((q3.step m4 fun _ h => h.elim).mod), fun g hg => ?_⟩
  have := hx g hg
  have h1 := q3.size
  have h2 := m0.size
  omega

end
end Go.Proofs
