/- LAYER 01: parts: lay, bytes, reads. -/
import Derived.Test.YtllkdgnagjciiaaKp7
set_option linter.all false
set_option linter.constructorNameAsVariable false
namespace Go.Proofs
open Go Go.KC

theorem b2s_rows {H : Hp} {x : Sl} {ys : List UInt8} {n : Nat} (h : Rows H x 1 (ys.map bv)) (hn : n = x.len) : vB2S H x.a n fun s => s = ByteArray.mk ys.toArray := by
  subst hn
  have hl : ys.length = x.len := by have := h.1; simpa using this
  cases hy0 : x.a with
  | none =>
    have e1 := h.2.2.2 hy0
    have e2 := h.2.1
    have e0 : ys = [] := List.eq_nil_of_length_eq_zero (by omega)
    show ByteArray.empty = _
    rw [e0]; rfl
  | some a => exact ⟨⟨ys.toArray⟩, ⟨by show (List.toArray _).size = _; simpa using hl, h.2.2.1 a hy0⟩, rfl⟩

theorem ba_append (a b : List UInt8) : (ByteArray.mk a.toArray ++ ByteArray.mk b.toArray) = ByteArray.mk (a ++ b).toArray := by
  apply ByteArray.ext
  simp
theorem ba_mk (s : ByteArray) : ByteArray.mk s.data.toList.toArray = s := by
  rw [Array.toArray_toList]
theorem ba_size (a : List UInt8) : (ByteArray.mk a.toArray).size = a.length := by
  show (List.toArray a).size = _
  simp

structure Pt where
  kind : UInt8
  num : Int
  text : ByteArray
def Pt.cells (p : Pt) : List Value := [.int .u8 (p.kind.toNat : Int), .int .i64 p.num, .string p.text]
def Pt.val (p : Pt) : Value := .agg #[.int .u8 (p.kind.toNat : Int), .int .i64 p.num, .string p.text]
def Pt.ok (p : Pt) : Prop := (-9223372036854775808 ≤ p.num ∧ p.num ≤ 9223372036854775807) ∧ p.text.size ≤ 1048576
/-- What a part is laid as. -/
def Pt.bytes (p : Pt) : List UInt8 :=
  match p.kind.toNat % 3 with
  | 0 => be p.num 8
  | 1 => [byteAt p.num 0]
  | _ => be (p.text.size : Int) 8 ++ p.text.data.toList
theorem Pt.bytes_length {p : Pt} (h : p.ok) : p.bytes.length ≤ 1048584 := by
  have := h.2
  unfold Pt.bytes
  split
  · simp [be_length]
  · simp
  · rw [List.length_append, be_length, ba_len]; omega

theorem byteAt_zero (n : Int) : IntKind.u8.wrap n = ((byteAt n 0).toNat : Int) := by
  rw [wrapu8, byteAt_toNat]
  simp [Int.fdiv_one]

/-- What laying a part does. -/
def LayPost (H : Hp) (b : Nat) (F : List Nat) (xs : List UInt8) (r : Value) (H' : Hp) : Prop :=
  r = .tuple #[] ∧ ∃ F', Wr H' b F' xs ∧ Mod (· ∈ F) H H' ∧ ∀ g ∈ F', g ∈ F ∨ H.size ≤ g

theorem lay_of {H H0 : Hp} {b : Nat} {F : List Nat} {xs : List UInt8} {r : Value} {H' : Hp} (m : Mod (fun _ => False) H0 H) (h : WrPost H b F xs r H') : LayPost H0 b F xs (.tuple #[]) H' := by
  obtain ⟨_, F', h1, h2, h3⟩ := h
  exact ⟨rfl, F', h1, (m.mono fun _ _ e => e.elim).trans h2, fun g hg => (h3 g hg).imp id fun e => Nat.le_trans m.size e⟩

theorem lay_spec {H : Hp} {b : Nat} {F : List Nat} {xs : List UInt8} {p : Pt} (h : Wr H b F xs) (hb : xs.length + 8 + p.text.size ≤ 140737488355328) :
    SCalls Try.prog tephralaw01_lay.id [.pointer (some ⟨b, 0, none⟩), p.val] H (LayPost H b F (xs ++ p.bytes)) := by
  apply tephralaw01_lay.calls
  have m0 : Mod (fun _ => False) H (holes H 1) := Mod.holes _ _ _
  have h' := h.keep m0 fun _ _ e => e
  refine ⟨by omega, ?_⟩
  unfold Pt.bytes
  rcases (by omega : p.kind.toNat % 3 = 0 ∨ p.kind.toNat % 3 = 1 ∨ p.kind.toNat % 3 = 2) with h3 | h3 | h3
  · have ht := tmod3 h3
    rw [h3]
    refine Br.yes (by rw [ht]; rfl) ((Writer_Num_spec h' (by omega)).mono fun r H1 hp => ?_)
    exact ⟨_, hp.1, lay_of m0 hp⟩
  · have ht := tmod3 h3
    rw [h3, byteAt_zero]
    refine Br.no (by rw [ht]; rfl) (Br.yes (by rw [ht]; rfl) ((Writer_Byte_spec h' (by omega)).mono fun r H1 hp => ?_))
    exact ⟨_, hp.1, lay_of m0 hp⟩
  · have ht := tmod3 h3
    rw [h3]
    refine Br.no (by rw [ht]; rfl) (Br.no (by rw [ht]; rfl) ((Writer_Text_spec h' (by omega)).mono fun r H1 hp => ?_))
    rw [List.append_assoc] at hp
    exact ⟨_, hp.1, lay_of m0 hp⟩

theorem one_byte {H : Hp} {c : UInt8} : vB2S (Array.push H (.cells #[.int .u8 (c.toNat : Int)] T_uint8)) (some (Addr.mk (Array.size H) 0 none)) 1 fun s => s = ByteArray.mk [c].toArray := by
  refine b2s_rows (x := ⟨some (Addr.mk (Array.size H) 0 none), 1, 1⟩) ⟨by simp, Nat.le_refl _, fun a ha => ?_, fun e => nomatch e⟩ rfl
  cases ha
  exact (src_one (H := H) (c := c)).2

/-- What 'bytes' tells: it only lays new blocks. -/
def TellPost (H : Hp) (v : Value) (r : Value) (H' : Hp) : Prop := r = v ∧ Mod (fun _ => False) H H'
theorem TellPost.of {H H1 H' : Hp} {v r : Value} (m : Mod (fun _ => False) H H1) (h : TellPost H1 v r H') : TellPost H v r H' := ⟨h.1, m.trans h.2⟩

theorem bytes_loop {p : Pt} {n : Int} {H0 : Hp} {tail : List UInt8} {Q : Value → Hp → Prop} (ht : (p.kind.toNat % 3 = 2 ∧ tail = p.text.data.toList ∧ p.text.size ≤ 1048576) ∨ (p.kind.toNat % 3 ≠ 2 ∧ tail = []))
    (hQ : ∀ r H', TellPost H0 (.string ⟨(be n 8 ++ tail).toArray⟩) r H' → Q r H') : ∀ (j : Nat) (H : Hp) (l : List UInt8), j + l.length = 8 → l ++ be n j = be n 8 → Mod (fun _ => False) H0 H →
    tephralaw01_bytes.l1 J0 (p.kind.toNat : Int) p.num p.text n H ⟨l.toArray⟩ ((j : Int) - 1) Q := by
  intro j
  induction j with
  | zero =>
    intro H l hj hl hm
    apply tephralaw01_bytes.l1.step
    unfold tephralaw01_bytes.l1.body
    rw [show be n 0 = [] from rfl, List.append_nil] at hl
    refine Br.no (by simp) ⟨by omega, ?_⟩
    rcases ht with ⟨h3, rfl, hs⟩ | ⟨h3, rfl⟩
    · have ht := tmod3 h3
      refine Br.yes (by rw [ht]; rfl) ⟨by rw [ba_size]; omega, hQ _ _ ⟨?_, hm⟩⟩
      rw [← ba_mk p.text, ba_append, hl]
    · have : (Int.tmod (p.kind.toNat : Int) 3 == 2) = false := by
        rw [tmod3 rfl]; simp; omega
      refine Br.no this (hQ _ _ ⟨?_, hm⟩)
      rw [hl, List.append_nil]
  | succ j ih =>
    intro H l hj hl hm
    apply tephralaw01_bytes.l1.step
    unfold tephralaw01_bytes.l1.body
    have e0 : ((j + 1 : Nat) : Int) - 1 = (j : Int) := by omega
    rw [e0]
    have e1 : w64 ((8 : Int) * (j : Int)) = 8 * (j : Int) := w64_id (by omega) (by omega)
    have e2 : w64 ((j : Int) - 1) = (j : Int) - 1 := w64_id (by omega) (by omega)
    have e3 : min (8 * (j : Int)).toNat 64 = 8 * j := by omega
    rw [e1, e2, e3, wrapu8, ← byteAt_toNat]
    refine Br.yes (by simp) ⟨by omega, b2s_imp one_byte ?_⟩
    rintro s rfl
    refine ⟨by rw [ba_size, ba_size]; simp; omega, ?_⟩
    rw [ba_append]
    refine ih _ _ (by simp; omega) ?_ (hm.trans (Mod.push _ _ _))
    rw [List.append_assoc]; exact hl

theorem bytes_spec {H : Hp} {p : Pt} (hs : p.text.size ≤ 1048576) : SCalls Try.prog tephralaw01_bytes.id [p.val] H (TellPost H (.string ⟨p.bytes.toArray⟩)) := by
  apply tephralaw01_bytes.calls
  have m0 : Mod (fun _ => False) H (holes H 1) := Mod.holes _ _ _
  refine ⟨by omega, ?_⟩
  unfold Pt.bytes
  rcases (by omega : p.kind.toNat % 3 = 0 ∨ p.kind.toNat % 3 = 1 ∨ p.kind.toNat % 3 = 2) with h3 | h3 | h3
  · have ht := tmod3 h3
    rw [h3]
    refine Br.no (by rw [ht]; rfl) ⟨by omega, Br.no (by rw [ht]; rfl) ?_⟩
    apply tephralaw01_bytes.k1.step
    unfold tephralaw01_bytes.k1.body
    refine bytes_loop (tail := []) (Or.inr ⟨by omega, rfl⟩) (fun r H' h => ?_) 8 (holes H 1) [] rfl rfl m0
    rw [List.append_nil] at h
    exact h
  · have ht := tmod3 h3
    rw [h3, byteAt_zero]
    refine Br.yes (by rw [ht]; rfl) (b2s_imp one_byte ?_)
    rintro s rfl
    exact ⟨rfl, m0.trans (Mod.push _ _ _)⟩
  · have ht := tmod3 h3
    rw [h3]
    refine Br.no (by rw [ht]; rfl) ⟨by omega, Br.yes (by rw [ht]; rfl) ?_⟩
    apply tephralaw01_bytes.k1.step
    unfold tephralaw01_bytes.k1.body
    exact bytes_loop (Or.inl ⟨h3, rfl, hs⟩) (fun r H' h => h) 8 (holes H 1) [] rfl rfl m0

/-- What is read of a part: whether it is it; whether the reader is bad then, and what is left. -/
def Pt.read (p : Pt) (bad : Bool) (xs : List UInt8) : Bool × Bool × List UInt8 :=
  match p.kind.toNat % 3 with
  | 0 => ((rdNum bad xs).1 == p.num, (rdNum bad xs).2)
  | 1 => ((rdByte bad xs).1 == ((byteAt p.num 0).toNat : Int), (rdByte bad xs).2)
  | _ => ((rdText bad xs).1 == p.text.data.toList, (rdText bad xs).2)

theorem reads_spec {H : Hp} {b : Nat} {D : List Nat} {bad : Bool} {xs : List UInt8} {p : Pt} (h : Rd H b D bad xs) :
    SCalls Try.prog tephralaw01_reads.id [.pointer (some ⟨b, 0, none⟩), p.val] H fun r H' => r = .bool (p.read bad xs).1 ∧ Mod (· = b) H H' ∧ Rd H' b D (p.read bad xs).2.1 (p.read bad xs).2.2 := by
  apply tephralaw01_reads.calls
  have m0 : Mod (fun _ => False) H (holes H 1) := Mod.holes _ _ _
  have h' := h.keep m0 id fun _ _ e => e
  have mm : ∀ {H'}, Mod (· = b) (holes H 1) H' → Mod (· = b) H H' := fun k => (m0.mono fun _ _ e => e.elim).trans k
  refine ⟨by omega, ?_⟩
  unfold Pt.read
  rcases (by omega : p.kind.toNat % 3 = 0 ∨ p.kind.toNat % 3 = 1 ∨ p.kind.toNat % 3 = 2) with h3 | h3 | h3
  · have ht := tmod3 h3
    rw [h3]
    refine Br.yes (by rw [ht]; rfl) ((Reader_Num_spec h').mono ?_)
    rintro r H1 ⟨rfl, m1, h1⟩
    exact ⟨_, rfl, rfl, mm m1, h1⟩
  · have ht := tmod3 h3
    rw [h3, byteAt_zero]
    refine Br.no (by rw [ht]; rfl) (Br.yes (by rw [ht]; rfl) ((Reader_Byte_spec h').mono ?_))
    rintro r H1 ⟨rfl, m1, h1⟩
    exact ⟨_, rfl, rfl, mm m1, h1⟩
  · have ht := tmod3 h3
    rw [h3]
    refine Br.no (by rw [ht]; rfl) (Br.no (by rw [ht]; rfl) ((Reader_Text_spec h').mono ?_))
    rintro r H1 ⟨rfl, m1, h1⟩
    refine ⟨_, rfl, ?_, mm m1, h1⟩
    rw [ByteArray.toList_eq, ByteArray.toList_eq]
    rfl

/-- A part that stands there is read. -/
theorem Pt.read_laid {p : Pt} (h : p.ok) (t : List UInt8) : p.read false (p.bytes ++ t) = (true, false, t) := by
  unfold Pt.read Pt.bytes
  rcases (by omega : p.kind.toNat % 3 = 0 ∨ p.kind.toNat % 3 = 1 ∨ p.kind.toNat % 3 = 2) with h3 | h3 | h3
  · rw [h3]
    simp only
    rw [rdNum_be h.1.1 h.1.2]
    simp
  · rw [h3]
    simp only
    rw [List.singleton_append, rdByte_one]
    simp
  · rw [h3]
    simp only
    have := h.2
    have hh := rdText_text p.text.data.toList t (by rw [ba_len]; omega)
    rw [ba_len] at hh
    rw [List.append_assoc, hh]
    simp
end Go.Proofs
