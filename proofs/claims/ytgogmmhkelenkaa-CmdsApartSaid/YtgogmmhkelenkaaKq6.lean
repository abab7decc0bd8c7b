/- LAYER 06: CmdsApart, the walk. -/
import Derived.Test.YtgogmmhkelenkaaKq5
set_option linter.all false
set_option linter.constructorNameAsVariable false
namespace Go.Proofs
open Go Go.KC

section
variable {H : Hp}
theorem leafQ {H0 H' : Hp} {b : Bool} (h : b = true) (m : Mod (fun _ => False) H0 H') : trueQ H0 (.bool b) H' := ⟨congrArg Value.bool h, m⟩

/-- The two entries' bytes are told, and compared. -/
abbrev apartTail (sA sB : Sy) (i j : Int) (H : Hp) (Q : Value → Hp → Prop) : Prop :=
 SCalls Try.prog cmds_Bytes.id [.agg #[.int .i64 i, .int .i64 0, .int .i64 sA.cmd.op, .int .i64 sA.cmd.client, .int .i64 sA.cmd.seq, .string sA.cmd.key, .string sA.cmd.value, .string sA.cmd.old]] H (fun r55 H56 => ∃ x1 : Sl, r55 = .slice x1.a x1.len x1.cap ∧ 
  (vB2S H56 x1.a x1.len (fun s => 
 SCalls Try.prog cmds_Bytes.id [.agg #[.int .i64 j, .int .i64 0, .int .i64 sB.cmd.op, .int .i64 sB.cmd.client, .int .i64 sB.cmd.seq, .string sB.cmd.key, .string sB.cmd.value, .string sB.cmd.old]] H56 (fun r56 H57 => ∃ x2 : Sl, r56 = .slice x2.a x2.len x2.cap ∧ vB2S H57 x2.a x2.len (fun s1 => Q (.bool ((s.toList == s1.toList) == ((i == j) && (((0 : Int) == (0 : Int)) && (((sA.cmd.op == sB.cmd.op) && ((sA.cmd.client == sB.cmd.client) && ((sA.cmd.seq == sB.cmd.seq) && ((sA.cmd.key == sB.cmd.key) && ((sA.cmd.value == sB.cmd.value) && ((sA.cmd.old == sB.cmd.old) && true)))))) && true))))) H57)))) ∧ 
  (
 SCalls Try.prog cmds_Bytes.id [.agg #[.int .i64 j, .int .i64 0, .int .i64 sB.cmd.op, .int .i64 sB.cmd.client, .int .i64 sB.cmd.seq, .string sB.cmd.key, .string sB.cmd.value, .string sB.cmd.old]] H56 (fun r57 H58 => ∃ x3 : Sl, r57 = .slice x3.a x3.len x3.cap ∧ 
  (vB2S H58 x1.a x1.len (fun s2 => vB2S H58 x3.a x3.len (fun s3 => Q (.bool ((s2.toList == s3.toList) == ((i == j) && (((0 : Int) == (0 : Int)) && (((sA.cmd.op == sB.cmd.op) && ((sA.cmd.client == sB.cmd.client) && ((sA.cmd.seq == sB.cmd.seq) && ((sA.cmd.key == sB.cmd.key) && ((sA.cmd.value == sB.cmd.value) && ((sA.cmd.old == sB.cmd.old) && true)))))) && true))))) H58))) ∧ 
  (vB2S H58 x3.a x3.len (fun s4 => vB2S H58 x1.a x1.len (fun s5 => Q (.bool ((s5.toList == s4.toList) == ((i == j) && (((0 : Int) == (0 : Int)) && (((sA.cmd.op == sB.cmd.op) && ((sA.cmd.client == sB.cmd.client) && ((sA.cmd.seq == sB.cmd.seq) && ((sA.cmd.key == sB.cmd.key) && ((sA.cmd.value == sB.cmd.value) && ((sA.cmd.old == sB.cmd.old) && true)))))) && true))))) H58))))))

theorem apart_tail {H0 : Hp} {s t : Sy} {i j : Int} (ra : (En.mk i 0 s.cmd).Right) (rb : (En.mk j 0 t.cmd).Right) (m3 : Mod (fun _ => False) H0 H) : apartTail s t i j H (trueQ H0) := by
  have leaf := en_beq (En.mk i 0 s.cmd) (En.mk j 0 t.cmd)
  have hd : decide (ByteArray.mk (En.mk i 0 s.cmd).bytes.toArray = ByteArray.mk (En.mk j 0 t.cmd).bytes.toArray) = decide (En.mk i 0 s.cmd = En.mk j 0 t.cmd) :=
    decide_eq_decide.2 (ba_list_inj.trans (En.bytes_inj ra rb))
  rw [← beq_list, ← leaf] at hd
  have hleaf := beq_iff_eq.2 hd
  simp only at hleaf
  clear hd leaf
  have sa := ra.2.2.2.2.small
  have sb := rb.2.2.2.2.small
  unfold apartTail
  refine bytes_step (H0 := H0) (e := ⟨i, 0, s.cmd⟩) sa m3 fun x1 H4 q4 m4 r1 => And.intro ?_ ?_
  · refine b2s_imp (b2s_rows r1 rfl) ?_
    rintro _ rfl
    refine bytes_step (H0 := H0) (e := ⟨j, 0, t.cmd⟩) sb m4 fun x2 H5 q5 m5 r2 => ?_
    refine b2s_imp (b2s_rows r2 rfl) ?_
    rintro _ rfl
    exact leafQ hleaf m5
  · refine bytes_step (H0 := H0) (e := ⟨j, 0, t.cmd⟩) sb m4 fun x2 H5 q5 m5 r2 => And.intro ?_ ?_
    · refine b2s_imp (b2s_rows (keepF r1 q5) rfl) ?_
      rintro _ rfl
      refine b2s_imp (b2s_rows r2 rfl) ?_
      rintro _ rfl
      exact leafQ hleaf m5
    · refine b2s_imp (b2s_rows r2 rfl) ?_
      rintro _ rfl
      refine b2s_imp (b2s_rows (keepF r1 q5) rfl) ?_
      rintro _ rfl
      exact leafQ hleaf m5

attribute [local irreducible] SCalls
set_option maxHeartbeats 2000000 in
theorem CmdsApart_spec {s t : Sy} {a b : UInt8} : SCalls Try.prog tephralaw06_CmdsApart.id [s.val, t.val, .int .u8 (a.toNat : Int), .int .u8 (b.toNat : Int)] H (trueQ H) := by
  apply tephralaw06_CmdsApart.calls
  have ia : ∀ a : UInt8, w64 ((1 : Int) + w64 (Int.tmod (a.toNat : Int) 3)) = 1 + ((a.toNat % 3 : Nat) : Int) := fun a => by
    rw [show (3 : Int) = ((3 : Nat) : Int) from rfl, tmodN, w64_id (x := ((a.toNat % 3 : Nat) : Int)) (by omega) (by omega), w64_id (by omega) (by omega)]
  have ra : (En.mk (w64 ((1 : Int) + w64 (Int.tmod (a.toNat : Int) 3))) 0 s.cmd).Right := ⟨by simp only; rw [ia]; omega, by simp only; rw [ia]; omega, Int.le_refl 0, by show (0 : Int) ≤ 1048576; omega, s.may⟩
  have rb : (En.mk (w64 ((1 : Int) + w64 (Int.tmod (b.toNat : Int) 3))) 0 t.cmd).Right := ⟨by simp only; rw [ia]; omega, by simp only; rw [ia]; omega, Int.le_refl 0, by show (0 : Int) ≤ 1048576; omega, t.may⟩
  have fin : ∀ H', Mod (fun _ => False) H H' → apartTail s t (w64 ((1 : Int) + w64 (Int.tmod (a.toNat : Int) 3))) (w64 ((1 : Int) + w64 (Int.tmod (b.toNat : Int) 3))) H' (trueQ H) := fun H' m => apart_tail ra rb m
  refine law_awake (n := 2) fun H1 m1 => ⟨by omega, by omega, ?_⟩
  repeat' (first
    | exact fin _ m3
    | exact fin _ (moreHoles m3 _)
    | (refine say_step (H0 := H) (s := s) m1 fun H2 m2 => ?_)
    | (refine say_step (H0 := H) (s := s) (moreHoles m1 _) fun H2 m2 => ?_)
    | (refine say_step (H0 := H) (s := t) m2 fun H3 m3 => ?_)
    | (refine say_step (H0 := H) (s := t) (moreHoles m2 _) fun H3 m3 => ?_)
    | refine And.intro ?_ ?_)
end
end Go.Proofs
