/- THE SEAT'S CODE, AS WALKED, second half. -/
import Derived.Test.YtihadekhodlacaaT16a
set_option maxRecDepth 100000
set_option linter.all false
set_option linter.constructorNameAsVariable false
namespace Go.Proofs
open Go Go.KC
/-! 39: (*tephra/sorted.Map_int, int_).find$1 -/
noncomputable def sorted_Map_int_int_find_1.cf : Cfg := ⟨[2], [], [], [], true⟩
noncomputable def sorted_Map_int_int_find_1.vc (J : Jn) (xkey : Int) (xvalue : Int) (k : Int) (H : Hp) (Q : Value → Hp → Prop) : Prop :=
 
 SCalls Try.prog cmp_Compare_int.id [.int .i64 xkey, .int .i64 k] (holes H 1) (fun r H1 => ∃ x : Int, r = .int .i64 x ∧ Q (.int .i64 x) H1)
theorem sorted_Map_int_int_find_1.eq (J : Jn) (xkey : Int) (xvalue : Int) (k : Int) (H : Hp) (Q : Value → Hp → Prop) : vFn Try.prog sorted_Map_int_int_find_1.cf J sorted_Map_int_int_find_1.fn [.agg #[.int .i64 xkey, .int .i64 xvalue], .int .i64 k] H Q = sorted_Map_int_int_find_1.vc J xkey xvalue k H Q := by kernel_rfl
theorem sorted_Map_int_int_find_1.calls {xkey : Int} {xvalue : Int} {k : Int} {H : Hp} {Q : Value → Hp → Prop} (h : sorted_Map_int_int_find_1.vc J0 xkey xvalue k H Q) : SCalls Try.prog sorted_Map_int_int_find_1.id [.agg #[.int .i64 xkey, .int .i64 xvalue], .int .i64 k] H Q := vFn_of Try.mixed Try.func39 (sorted_Map_int_int_find_1.eq J0 xkey xvalue k H Q) h

/-! 40: cmp.Compare_int_ -/
noncomputable def cmp_Compare_int.cf : Cfg := ⟨[], [], [], [], true⟩
noncomputable def cmp_Compare_int.vc (J : Jn) (x : Int) (y : Int) (H : Hp) (Q : Value → Hp → Prop) : Prop :=
 
 SCalls Try.prog cmp_isNaN_int.id [.int .i64 x] H (fun r H1 => ∃ x1 : Bool, r = .bool x1 ∧ 
 SCalls Try.prog cmp_isNaN_int.id [.int .i64 y] H1 (fun r1 H2 => ∃ x2 : Bool, r1 = .bool x2 ∧ 
 Br x1 (
 Br x2 (Q (.int .i64 0) H2)
 (Q (.int .i64 (-1)) H2))
 (
 Br x2 (Q (.int .i64 1) H2)
 (
 Br (decide (x < y)) (Q (.int .i64 (-1)) H2)
 (
 Br (decide (x > y)) (Q (.int .i64 1) H2)
 (Q (.int .i64 0) H2))))))
theorem cmp_Compare_int.eq (J : Jn) (x : Int) (y : Int) (H : Hp) (Q : Value → Hp → Prop) : vFn Try.prog cmp_Compare_int.cf J cmp_Compare_int.fn [.int .i64 x, .int .i64 y] H Q = cmp_Compare_int.vc J x y H Q := by kernel_rfl
theorem cmp_Compare_int.calls {x : Int} {y : Int} {H : Hp} {Q : Value → Hp → Prop} (h : cmp_Compare_int.vc J0 x y H Q) : SCalls Try.prog cmp_Compare_int.id [.int .i64 x, .int .i64 y] H Q := vFn_of Try.mixed Try.func40 (cmp_Compare_int.eq J0 x y H Q) h

/-! 42: slices.rotateRight_tephra/sorted.item_int, int__ -/
noncomputable def slices_rotateRight_sorted_item_int_int.cf : Cfg := ⟨[], [], [], [], true⟩
noncomputable def slices_rotateRight_sorted_item_int_int.vc (J : Jn) (s : Sl) (r : Int) (H : Hp) (Q : Value → Hp → Prop) : Prop :=
 
 SCalls Try.prog slices_rotateLeft_sorted_item_int_int.id [.slice s.a s.len s.cap, .int .i64 (w64 (((s.len : Nat) : Int) - r))] H (fun r1 H1 => r1 = .tuple #[] ∧ Q (.tuple #[]) H1)
theorem slices_rotateRight_sorted_item_int_int.eq (J : Jn) (s : Sl) (r : Int) (H : Hp) (Q : Value → Hp → Prop) : vFn Try.prog slices_rotateRight_sorted_item_int_int.cf J slices_rotateRight_sorted_item_int_int.fn [.slice s.a s.len s.cap, .int .i64 r] H Q = slices_rotateRight_sorted_item_int_int.vc J s r H Q := by kernel_rfl
theorem slices_rotateRight_sorted_item_int_int.calls {s : Sl} {r : Int} {H : Hp} {Q : Value → Hp → Prop} (h : slices_rotateRight_sorted_item_int_int.vc J0 s r H Q) : SCalls Try.prog slices_rotateRight_sorted_item_int_int.id [.slice s.a s.len s.cap, .int .i64 r] H Q := vFn_of Try.mixed Try.func42 (slices_rotateRight_sorted_item_int_int.eq J0 s r H Q) h

/-! 43: (*tephra/pack.Writer).Text -/
noncomputable def pack_Writer_Text.cf : Cfg := ⟨[], [], [], [], true⟩
noncomputable def pack_Writer_Text.vc (J : Jn) (w : Addr) (s : ByteArray) (H : Hp) (Q : Value → Hp → Prop) : Prop :=
 
 SCalls Try.prog pack_Writer_Num.id [.pointer (some w), .int .i64 ((s.size : Nat) : Int)] H (fun r H1 => ∃ x : Option Addr, r = .pointer x ∧ ∃ b : Sl, Hp.cell? H1 w = some (.slice b.a b.len b.cap) ∧ 
 vApp Try.prog T_sl_uint8 b.a b.len b.cap (.string s) H1 (fun ap H2 => WrAt H2 w 1 ∧ Q (.pointer (some w)) (Hp.setCell H2 w (.slice ap.a ap.len ap.cap))))
theorem pack_Writer_Text.eq (J : Jn) (w : Addr) (s : ByteArray) (H : Hp) (Q : Value → Hp → Prop) : vFn Try.prog pack_Writer_Text.cf J pack_Writer_Text.fn [.pointer (some w), .string s] H Q = pack_Writer_Text.vc J w s H Q := by kernel_rfl
theorem pack_Writer_Text.calls {w : Addr} {s : ByteArray} {H : Hp} {Q : Value → Hp → Prop} (h : pack_Writer_Text.vc J0 w s H Q) : SCalls Try.prog pack_Writer_Text.id [.pointer (some w), .string s] H Q := vFn_of Try.mixed Try.func43 (pack_Writer_Text.eq J0 w s H Q) h

/-! 44: (*tephra/pack.Writer).Byte -/
noncomputable def pack_Writer_Byte.cf : Cfg := ⟨[], [], [], [], true⟩
noncomputable def pack_Writer_Byte.vc (J : Jn) (w : Addr) (c : Int) (H : Hp) (Q : Value → Hp → Prop) : Prop :=
 ∃ b : Sl, Hp.cell? H w = some (.slice b.a b.len b.cap) ∧ 
 vApp Try.prog T_sl_uint8 b.a b.len b.cap (.slice (some (Addr.mk (Array.size H) 0 none)) 1 1) (Array.push H (.cells #[.int .u8 c] T_uint8)) (fun ap H1 => WrAt H1 w 1 ∧ Q (.pointer (some w)) (Hp.setCell H1 w (.slice ap.a ap.len ap.cap)))
theorem pack_Writer_Byte.eq (J : Jn) (w : Addr) (c : Int) (H : Hp) (Q : Value → Hp → Prop) : vFn Try.prog pack_Writer_Byte.cf J pack_Writer_Byte.fn [.pointer (some w), .int .u8 c] H Q = pack_Writer_Byte.vc J w c H Q := by kernel_rfl
theorem pack_Writer_Byte.calls {w : Addr} {c : Int} {H : Hp} {Q : Value → Hp → Prop} (h : pack_Writer_Byte.vc J0 w c H Q) : SCalls Try.prog pack_Writer_Byte.id [.pointer (some w), .int .u8 c] H Q := vFn_of Try.mixed Try.func44 (pack_Writer_Byte.eq J0 w c H Q) h

/-! 45: tephra/cmds.May -/
noncomputable def cmds_May.cf : Cfg := ⟨[1], [], [(2, [1, 22], true)], [(10, [1, 10]), (16, [1, 16]), (36, [1, 36]), (41, [1, 41]), (46, [1, 46]), (51, [1, 51])], true⟩
noncomputable def cmds_May.k1.st (cOp : Int) (cClient : Int) (cSeq : Int) (cKey : ByteArray) (cValue : ByteArray) (cOld : ByteArray) (H : Hp) (x : Bool) : VS := ⟨mkFr 58 [(1, .loc 0 0), (10, .v (.bool x))], [(T_api_Cmd, [.int .i64 cOp, .int .i64 cClient, .int .i64 cSeq, .string cKey, .string cValue, .string cOld])], (holes H 1)⟩
noncomputable def cmds_May.k1 (J : Jn) (cOp : Int) (cClient : Int) (cSeq : Int) (cKey : ByteArray) (cValue : ByteArray) (cOld : ByteArray) (H : Hp) (x : Bool) (Q : Value → Hp → Prop) : Prop := J (vMid Try.prog cmds_May.cf J cmds_May.fn [1, 0, 0] [0, 1, 1] 8 Q) (cmds_May.k1.st cOp cClient cSeq cKey cValue cOld H x)
noncomputable def cmds_May.k2.st (cOp : Int) (cClient : Int) (cSeq : Int) (cKey : ByteArray) (cValue : ByteArray) (cOld : ByteArray) (H : Hp) (x1 : Bool) : VS := ⟨mkFr 58 [(1, .loc 0 0), (16, .v (.bool x1))], [(T_api_Cmd, [.int .i64 cOp, .int .i64 cClient, .int .i64 cSeq, .string cKey, .string cValue, .string cOld])], (holes H 1)⟩
noncomputable def cmds_May.k2 (J : Jn) (cOp : Int) (cClient : Int) (cSeq : Int) (cKey : ByteArray) (cValue : ByteArray) (cOld : ByteArray) (H : Hp) (x1 : Bool) (Q : Value → Hp → Prop) : Prop := J (vMid Try.prog cmds_May.cf J cmds_May.fn [1, 0, 0] [0, 1, 1] 14 Q) (cmds_May.k2.st cOp cClient cSeq cKey cValue cOld H x1)
noncomputable def cmds_May.k3.st (cOp : Int) (cClient : Int) (cSeq : Int) (cKey : ByteArray) (cValue : ByteArray) (cOld : ByteArray) (H : Hp) (x2 : Bool) : VS := ⟨mkFr 58 [(1, .loc 0 0), (22, .v (.bool x2))], [(T_api_Cmd, [.int .i64 cOp, .int .i64 cClient, .int .i64 cSeq, .string cKey, .string cValue, .string cOld])], (holes H 1)⟩
noncomputable def cmds_May.k3 (J : Jn) (cOp : Int) (cClient : Int) (cSeq : Int) (cKey : ByteArray) (cValue : ByteArray) (cOld : ByteArray) (H : Hp) (x2 : Bool) (Q : Value → Hp → Prop) : Prop := J (vSeg Try.prog cmds_May.cf J cmds_May.fn [1, 0, 1] [0, 1, 1] Q) (cmds_May.k3.st cOp cClient cSeq cKey cValue cOld H x2)
noncomputable def cmds_May.k4.st (cOp : Int) (cClient : Int) (cSeq : Int) (cKey : ByteArray) (cValue : ByteArray) (cOld : ByteArray) (H : Hp) (x3 : Bool) : VS := ⟨mkFr 58 [(1, .loc 0 0), (36, .v (.bool x3))], [(T_api_Cmd, [.int .i64 cOp, .int .i64 cClient, .int .i64 cSeq, .string cKey, .string cValue, .string cOld])], (holes H 1)⟩
noncomputable def cmds_May.k4 (J : Jn) (cOp : Int) (cClient : Int) (cSeq : Int) (cKey : ByteArray) (cValue : ByteArray) (cOld : ByteArray) (H : Hp) (x3 : Bool) (Q : Value → Hp → Prop) : Prop := J (vMid Try.prog cmds_May.cf J cmds_May.fn [1, 1, 1, 0] [0, 1, 1, 1] 8 Q) (cmds_May.k4.st cOp cClient cSeq cKey cValue cOld H x3)
noncomputable def cmds_May.k5.st (cOp : Int) (cClient : Int) (cSeq : Int) (cKey : ByteArray) (cValue : ByteArray) (cOld : ByteArray) (H : Hp) (x4 : Bool) : VS := ⟨mkFr 58 [(1, .loc 0 0), (41, .v (.bool x4))], [(T_api_Cmd, [.int .i64 cOp, .int .i64 cClient, .int .i64 cSeq, .string cKey, .string cValue, .string cOld])], (holes H 1)⟩
noncomputable def cmds_May.k5 (J : Jn) (cOp : Int) (cClient : Int) (cSeq : Int) (cKey : ByteArray) (cValue : ByteArray) (cOld : ByteArray) (H : Hp) (x4 : Bool) (Q : Value → Hp → Prop) : Prop := J (vMid Try.prog cmds_May.cf J cmds_May.fn [1, 1, 1, 0] [0, 1, 1, 1] 13 Q) (cmds_May.k5.st cOp cClient cSeq cKey cValue cOld H x4)
noncomputable def cmds_May.k6.st (cOp : Int) (cClient : Int) (cSeq : Int) (cKey : ByteArray) (cValue : ByteArray) (cOld : ByteArray) (H : Hp) (x5 : Bool) : VS := ⟨mkFr 58 [(1, .loc 0 0), (46, .v (.bool x5))], [(T_api_Cmd, [.int .i64 cOp, .int .i64 cClient, .int .i64 cSeq, .string cKey, .string cValue, .string cOld])], (holes H 1)⟩
noncomputable def cmds_May.k6 (J : Jn) (cOp : Int) (cClient : Int) (cSeq : Int) (cKey : ByteArray) (cValue : ByteArray) (cOld : ByteArray) (H : Hp) (x5 : Bool) (Q : Value → Hp → Prop) : Prop := J (vMid Try.prog cmds_May.cf J cmds_May.fn [1, 1, 1, 0] [0, 1, 1, 1] 18 Q) (cmds_May.k6.st cOp cClient cSeq cKey cValue cOld H x5)
noncomputable def cmds_May.k7.st (cOp : Int) (cClient : Int) (cSeq : Int) (cKey : ByteArray) (cValue : ByteArray) (cOld : ByteArray) (H : Hp) (x6 : Bool) : VS := ⟨mkFr 58 [(1, .loc 0 0), (51, .v (.bool x6))], [(T_api_Cmd, [.int .i64 cOp, .int .i64 cClient, .int .i64 cSeq, .string cKey, .string cValue, .string cOld])], (holes H 1)⟩
noncomputable def cmds_May.k7 (J : Jn) (cOp : Int) (cClient : Int) (cSeq : Int) (cKey : ByteArray) (cValue : ByteArray) (cOld : ByteArray) (H : Hp) (x6 : Bool) (Q : Value → Hp → Prop) : Prop := J (vMid Try.prog cmds_May.cf J cmds_May.fn [1, 1, 1, 0] [0, 1, 1, 1] 23 Q) (cmds_May.k7.st cOp cClient cSeq cKey cValue cOld H x6)
attribute [irreducible] cmds_May.k1 cmds_May.k2 cmds_May.k3 cmds_May.k4 cmds_May.k5 cmds_May.k6 cmds_May.k7
noncomputable def cmds_May.k1.body (J : Jn) (cOp : Int) (cClient : Int) (cSeq : Int) (cKey : ByteArray) (cValue : ByteArray) (cOld : ByteArray) (H : Hp) (x : Bool) (Q : Value → Hp → Prop) : Prop :=
 
 Br x (
 cmds_May.k2 J cOp cClient cSeq cKey cValue cOld H true Q)
 (
 cmds_May.k2 J cOp cClient cSeq cKey cValue cOld H (decide (((cValue.size : Nat) : Int) > 16)) Q)
theorem cmds_May.k1.eq (J : Jn) (cOp : Int) (cClient : Int) (cSeq : Int) (cKey : ByteArray) (cValue : ByteArray) (cOld : ByteArray) (H : Hp) (x : Bool) (Q : Value → Hp → Prop) : vMid Try.prog cmds_May.cf J cmds_May.fn [1, 0, 0] [0, 1, 1] 8 Q (cmds_May.k1.st cOp cClient cSeq cKey cValue cOld H x) = cmds_May.k1.body J cOp cClient cSeq cKey cValue cOld H x Q := by kernel_rfl
theorem cmds_May.k1.step {cOp : Int} {cClient : Int} {cSeq : Int} {cKey : ByteArray} {cValue : ByteArray} {cOld : ByteArray} {H : Hp} {x : Bool} {Q : Value → Hp → Prop} (h : cmds_May.k1.body J0 cOp cClient cSeq cKey cValue cOld H x Q) : cmds_May.k1 J0 cOp cClient cSeq cKey cValue cOld H x Q := step_of (vMid Try.prog cmds_May.cf J0 cmds_May.fn [1, 0, 0] [0, 1, 1] 8 Q) (cmds_May.k1.st cOp cClient cSeq cKey cValue cOld H x) (cmds_May.k1.eq J0 cOp cClient cSeq cKey cValue cOld H x Q) (by kernel_rfl) h
noncomputable def cmds_May.k2.body (J : Jn) (cOp : Int) (cClient : Int) (cSeq : Int) (cKey : ByteArray) (cValue : ByteArray) (cOld : ByteArray) (H : Hp) (x1 : Bool) (Q : Value → Hp → Prop) : Prop :=
 
 Br x1 (
 cmds_May.k3 J cOp cClient cSeq cKey cValue cOld H true Q)
 (
 cmds_May.k3 J cOp cClient cSeq cKey cValue cOld H (decide (((cOld.size : Nat) : Int) > 16)) Q)
theorem cmds_May.k2.eq (J : Jn) (cOp : Int) (cClient : Int) (cSeq : Int) (cKey : ByteArray) (cValue : ByteArray) (cOld : ByteArray) (H : Hp) (x1 : Bool) (Q : Value → Hp → Prop) : vMid Try.prog cmds_May.cf J cmds_May.fn [1, 0, 0] [0, 1, 1] 14 Q (cmds_May.k2.st cOp cClient cSeq cKey cValue cOld H x1) = cmds_May.k2.body J cOp cClient cSeq cKey cValue cOld H x1 Q := by kernel_rfl
theorem cmds_May.k2.step {cOp : Int} {cClient : Int} {cSeq : Int} {cKey : ByteArray} {cValue : ByteArray} {cOld : ByteArray} {H : Hp} {x1 : Bool} {Q : Value → Hp → Prop} (h : cmds_May.k2.body J0 cOp cClient cSeq cKey cValue cOld H x1 Q) : cmds_May.k2 J0 cOp cClient cSeq cKey cValue cOld H x1 Q := step_of (vMid Try.prog cmds_May.cf J0 cmds_May.fn [1, 0, 0] [0, 1, 1] 14 Q) (cmds_May.k2.st cOp cClient cSeq cKey cValue cOld H x1) (cmds_May.k2.eq J0 cOp cClient cSeq cKey cValue cOld H x1 Q) (by kernel_rfl) h
noncomputable def cmds_May.k3.body (J : Jn) (cOp : Int) (cClient : Int) (cSeq : Int) (cKey : ByteArray) (cValue : ByteArray) (cOld : ByteArray) (H : Hp) (x2 : Bool) (Q : Value → Hp → Prop) : Prop :=
 
 Br x2 (Q (.bool false) (holes H 1))
 (
 Br (cOp == 0) (Q (.bool ((cOp == (0 : Int)) && ((cClient == (0 : Int)) && ((cSeq == (0 : Int)) && ((cKey == (ByteArray.mk #[])) && ((cValue == (ByteArray.mk #[])) && ((cOld == (ByteArray.mk #[])) && true))))))) (holes H 1))
 (
 Br (decide (cClient ≥ 0)) (
 cmds_May.k4 J cOp cClient cSeq cKey cValue cOld H (decide (cClient < 4)) Q)
 (
 cmds_May.k4 J cOp cClient cSeq cKey cValue cOld H false Q)))
theorem cmds_May.k3.eq (J : Jn) (cOp : Int) (cClient : Int) (cSeq : Int) (cKey : ByteArray) (cValue : ByteArray) (cOld : ByteArray) (H : Hp) (x2 : Bool) (Q : Value → Hp → Prop) : vSeg Try.prog cmds_May.cf J cmds_May.fn [1, 0, 1] [0, 1, 1] Q (cmds_May.k3.st cOp cClient cSeq cKey cValue cOld H x2) = cmds_May.k3.body J cOp cClient cSeq cKey cValue cOld H x2 Q := by kernel_rfl
theorem cmds_May.k3.step {cOp : Int} {cClient : Int} {cSeq : Int} {cKey : ByteArray} {cValue : ByteArray} {cOld : ByteArray} {H : Hp} {x2 : Bool} {Q : Value → Hp → Prop} (h : cmds_May.k3.body J0 cOp cClient cSeq cKey cValue cOld H x2 Q) : cmds_May.k3 J0 cOp cClient cSeq cKey cValue cOld H x2 Q := step_of (vSeg Try.prog cmds_May.cf J0 cmds_May.fn [1, 0, 1] [0, 1, 1] Q) (cmds_May.k3.st cOp cClient cSeq cKey cValue cOld H x2) (cmds_May.k3.eq J0 cOp cClient cSeq cKey cValue cOld H x2 Q) (by kernel_rfl) h
noncomputable def cmds_May.k4.body (J : Jn) (cOp : Int) (cClient : Int) (cSeq : Int) (cKey : ByteArray) (cValue : ByteArray) (cOld : ByteArray) (H : Hp) (x3 : Bool) (Q : Value → Hp → Prop) : Prop :=
 
 Br x3 (
 cmds_May.k5 J cOp cClient cSeq cKey cValue cOld H (decide (cSeq ≥ 0)) Q)
 (
 cmds_May.k5 J cOp cClient cSeq cKey cValue cOld H false Q)
theorem cmds_May.k4.eq (J : Jn) (cOp : Int) (cClient : Int) (cSeq : Int) (cKey : ByteArray) (cValue : ByteArray) (cOld : ByteArray) (H : Hp) (x3 : Bool) (Q : Value → Hp → Prop) : vMid Try.prog cmds_May.cf J cmds_May.fn [1, 1, 1, 0] [0, 1, 1, 1] 8 Q (cmds_May.k4.st cOp cClient cSeq cKey cValue cOld H x3) = cmds_May.k4.body J cOp cClient cSeq cKey cValue cOld H x3 Q := by kernel_rfl
theorem cmds_May.k4.step {cOp : Int} {cClient : Int} {cSeq : Int} {cKey : ByteArray} {cValue : ByteArray} {cOld : ByteArray} {H : Hp} {x3 : Bool} {Q : Value → Hp → Prop} (h : cmds_May.k4.body J0 cOp cClient cSeq cKey cValue cOld H x3 Q) : cmds_May.k4 J0 cOp cClient cSeq cKey cValue cOld H x3 Q := step_of (vMid Try.prog cmds_May.cf J0 cmds_May.fn [1, 1, 1, 0] [0, 1, 1, 1] 8 Q) (cmds_May.k4.st cOp cClient cSeq cKey cValue cOld H x3) (cmds_May.k4.eq J0 cOp cClient cSeq cKey cValue cOld H x3 Q) (by kernel_rfl) h
noncomputable def cmds_May.k5.body (J : Jn) (cOp : Int) (cClient : Int) (cSeq : Int) (cKey : ByteArray) (cValue : ByteArray) (cOld : ByteArray) (H : Hp) (x4 : Bool) (Q : Value → Hp → Prop) : Prop :=
 
 Br x4 (
 cmds_May.k6 J cOp cClient cSeq cKey cValue cOld H (decide (cSeq ≤ 1048576)) Q)
 (
 cmds_May.k6 J cOp cClient cSeq cKey cValue cOld H false Q)
theorem cmds_May.k5.eq (J : Jn) (cOp : Int) (cClient : Int) (cSeq : Int) (cKey : ByteArray) (cValue : ByteArray) (cOld : ByteArray) (H : Hp) (x4 : Bool) (Q : Value → Hp → Prop) : vMid Try.prog cmds_May.cf J cmds_May.fn [1, 1, 1, 0] [0, 1, 1, 1] 13 Q (cmds_May.k5.st cOp cClient cSeq cKey cValue cOld H x4) = cmds_May.k5.body J cOp cClient cSeq cKey cValue cOld H x4 Q := by kernel_rfl
theorem cmds_May.k5.step {cOp : Int} {cClient : Int} {cSeq : Int} {cKey : ByteArray} {cValue : ByteArray} {cOld : ByteArray} {H : Hp} {x4 : Bool} {Q : Value → Hp → Prop} (h : cmds_May.k5.body J0 cOp cClient cSeq cKey cValue cOld H x4 Q) : cmds_May.k5 J0 cOp cClient cSeq cKey cValue cOld H x4 Q := step_of (vMid Try.prog cmds_May.cf J0 cmds_May.fn [1, 1, 1, 0] [0, 1, 1, 1] 13 Q) (cmds_May.k5.st cOp cClient cSeq cKey cValue cOld H x4) (cmds_May.k5.eq J0 cOp cClient cSeq cKey cValue cOld H x4 Q) (by kernel_rfl) h
noncomputable def cmds_May.k6.body (J : Jn) (cOp : Int) (cClient : Int) (cSeq : Int) (cKey : ByteArray) (cValue : ByteArray) (cOld : ByteArray) (H : Hp) (x5 : Bool) (Q : Value → Hp → Prop) : Prop :=
 
 Br x5 (
 cmds_May.k7 J cOp cClient cSeq cKey cValue cOld H (!(cKey.toList == (ByteArray.mk #[]).toList)) Q)
 (
 cmds_May.k7 J cOp cClient cSeq cKey cValue cOld H false Q)
theorem cmds_May.k6.eq (J : Jn) (cOp : Int) (cClient : Int) (cSeq : Int) (cKey : ByteArray) (cValue : ByteArray) (cOld : ByteArray) (H : Hp) (x5 : Bool) (Q : Value → Hp → Prop) : vMid Try.prog cmds_May.cf J cmds_May.fn [1, 1, 1, 0] [0, 1, 1, 1] 18 Q (cmds_May.k6.st cOp cClient cSeq cKey cValue cOld H x5) = cmds_May.k6.body J cOp cClient cSeq cKey cValue cOld H x5 Q := by kernel_rfl
theorem cmds_May.k6.step {cOp : Int} {cClient : Int} {cSeq : Int} {cKey : ByteArray} {cValue : ByteArray} {cOld : ByteArray} {H : Hp} {x5 : Bool} {Q : Value → Hp → Prop} (h : cmds_May.k6.body J0 cOp cClient cSeq cKey cValue cOld H x5 Q) : cmds_May.k6 J0 cOp cClient cSeq cKey cValue cOld H x5 Q := step_of (vMid Try.prog cmds_May.cf J0 cmds_May.fn [1, 1, 1, 0] [0, 1, 1, 1] 18 Q) (cmds_May.k6.st cOp cClient cSeq cKey cValue cOld H x5) (cmds_May.k6.eq J0 cOp cClient cSeq cKey cValue cOld H x5 Q) (by kernel_rfl) h
noncomputable def cmds_May.k7.body (J : Jn) (cOp : Int) (cClient : Int) (cSeq : Int) (cKey : ByteArray) (cValue : ByteArray) (cOld : ByteArray) (H : Hp) (x6 : Bool) (Q : Value → Hp → Prop) : Prop :=
 
 Br x6 (Q (.bool (decide (((cKey.size : Nat) : Int) ≤ 8))) (holes H 1))
 (Q (.bool false) (holes H 1))
theorem cmds_May.k7.eq (J : Jn) (cOp : Int) (cClient : Int) (cSeq : Int) (cKey : ByteArray) (cValue : ByteArray) (cOld : ByteArray) (H : Hp) (x6 : Bool) (Q : Value → Hp → Prop) : vMid Try.prog cmds_May.cf J cmds_May.fn [1, 1, 1, 0] [0, 1, 1, 1] 23 Q (cmds_May.k7.st cOp cClient cSeq cKey cValue cOld H x6) = cmds_May.k7.body J cOp cClient cSeq cKey cValue cOld H x6 Q := by kernel_rfl
theorem cmds_May.k7.step {cOp : Int} {cClient : Int} {cSeq : Int} {cKey : ByteArray} {cValue : ByteArray} {cOld : ByteArray} {H : Hp} {x6 : Bool} {Q : Value → Hp → Prop} (h : cmds_May.k7.body J0 cOp cClient cSeq cKey cValue cOld H x6 Q) : cmds_May.k7 J0 cOp cClient cSeq cKey cValue cOld H x6 Q := step_of (vMid Try.prog cmds_May.cf J0 cmds_May.fn [1, 1, 1, 0] [0, 1, 1, 1] 23 Q) (cmds_May.k7.st cOp cClient cSeq cKey cValue cOld H x6) (cmds_May.k7.eq J0 cOp cClient cSeq cKey cValue cOld H x6 Q) (by kernel_rfl) h
noncomputable def cmds_May.vc (J : Jn) (cOp : Int) (cClient : Int) (cSeq : Int) (cKey : ByteArray) (cValue : ByteArray) (cOld : ByteArray) (H : Hp) (Q : Value → Hp → Prop) : Prop :=
 
 Br (decide (cOp < 0)) (
 cmds_May.k1 J cOp cClient cSeq cKey cValue cOld H true Q)
 (
 cmds_May.k1 J cOp cClient cSeq cKey cValue cOld H (decide (cOp ≥ 4)) Q)
theorem cmds_May.eq (J : Jn) (cOp : Int) (cClient : Int) (cSeq : Int) (cKey : ByteArray) (cValue : ByteArray) (cOld : ByteArray) (H : Hp) (Q : Value → Hp → Prop) : vFn Try.prog cmds_May.cf J cmds_May.fn [.agg #[.int .i64 cOp, .int .i64 cClient, .int .i64 cSeq, .string cKey, .string cValue, .string cOld]] H Q = cmds_May.vc J cOp cClient cSeq cKey cValue cOld H Q := by kernel_rfl
theorem cmds_May.calls {cOp : Int} {cClient : Int} {cSeq : Int} {cKey : ByteArray} {cValue : ByteArray} {cOld : ByteArray} {H : Hp} {Q : Value → Hp → Prop} (h : cmds_May.vc J0 cOp cClient cSeq cKey cValue cOld H Q) : SCalls Try.prog cmds_May.id [.agg #[.int .i64 cOp, .int .i64 cClient, .int .i64 cSeq, .string cKey, .string cValue, .string cOld]] H Q := vFn_of Try.mixed Try.func45 (cmds_May.eq J0 cOp cClient cSeq cKey cValue cOld H Q) h

/-! 46: (*tephra/sorted.Map_int, tephra/api.Session_).find -/
noncomputable def sorted_Map_int_api_Session_find.cf : Cfg := ⟨[], [], [], [], true⟩
noncomputable def sorted_Map_int_api_Session_find.vc (J : Jn) (m : Addr) (k : Int) (H : Hp) (Q : Value → Hp → Prop) : Prop :=
 ∃ items : Sl, Hp.cell? H m = some (.slice items.a items.len items.cap) ∧ 
 SCalls Try.prog slices_BinarySearchFunc_sl_sorted_item_int_api_Session_sorted_item_int_api_Session_int.id [.slice items.a items.len items.cap, .int .i64 k, .func (.func 57) #[] #[]] H (fun r H1 => ∃ x : Int, ∃ x1 : Bool, r = .tuple #[.int .i64 x, .bool x1] ∧ Q (.tuple #[.int .i64 x, .bool x1]) H1)
theorem sorted_Map_int_api_Session_find.eq (J : Jn) (m : Addr) (k : Int) (H : Hp) (Q : Value → Hp → Prop) : vFn Try.prog sorted_Map_int_api_Session_find.cf J sorted_Map_int_api_Session_find.fn [.pointer (some m), .int .i64 k] H Q = sorted_Map_int_api_Session_find.vc J m k H Q := by kernel_rfl
theorem sorted_Map_int_api_Session_find.calls {m : Addr} {k : Int} {H : Hp} {Q : Value → Hp → Prop} (h : sorted_Map_int_api_Session_find.vc J0 m k H Q) : SCalls Try.prog sorted_Map_int_api_Session_find.id [.pointer (some m), .int .i64 k] H Q := vFn_of Try.mixed Try.func46 (sorted_Map_int_api_Session_find.eq J0 m k H Q) h

/-! 47: (*tephra/sorted.Map_string, string_).Put -/
noncomputable def sorted_Map_string_string_Put.cf : Cfg := ⟨[], [], [], [], true⟩
noncomputable def sorted_Map_string_string_Put.vc (J : Jn) (m : Addr) (k : ByteArray) (v : ByteArray) (H : Hp) (Q : Value → Hp → Prop) : Prop :=
 
 SCalls Try.prog sorted_Map_string_string_find.id [.pointer (some m), .string k] H (fun r H1 => ∃ x : Int, ∃ x1 : Bool, r = .tuple #[.int .i64 x, .bool x1] ∧ 
 Br x1 (∃ items : Sl, Hp.cell? H1 m = some (.slice items.a items.len items.cap) ∧ ((0 : Int) ≤ x ∧ x < ((items.len : Nat) : Int)) ∧ vPtr items.a (fun a => WrAt H1 ((a.add ((x : Int).toNat * 2)).add 1) 1 ∧ Q (.bool false) (Hp.setCell H1 ((a.add ((x : Int).toNat * 2)).add 1) (.string v))))
 (∃ items1 : Sl, Hp.cell? H1 m = some (.slice items1.a items1.len items1.cap) ∧ 
 SCalls Try.prog slices_Insert_sl_sorted_item_string_string_sorted_item_string_string.id [.slice items1.a items1.len items1.cap, .int .i64 x, .slice (some (Addr.mk (Array.size H1) 0 none)) 1 1] (Array.push H1 (.cells #[.string k, .string v] T_sorted_item_string_string)) (fun r1 H2 => ∃ x2 : Sl, r1 = .slice x2.a x2.len x2.cap ∧ WrAt H2 m 1 ∧ Q (.bool true) (Hp.setCell H2 m (.slice x2.a x2.len x2.cap)))))
theorem sorted_Map_string_string_Put.eq (J : Jn) (m : Addr) (k : ByteArray) (v : ByteArray) (H : Hp) (Q : Value → Hp → Prop) : vFn Try.prog sorted_Map_string_string_Put.cf J sorted_Map_string_string_Put.fn [.pointer (some m), .string k, .string v] H Q = sorted_Map_string_string_Put.vc J m k v H Q := by kernel_rfl
theorem sorted_Map_string_string_Put.calls {m : Addr} {k : ByteArray} {v : ByteArray} {H : Hp} {Q : Value → Hp → Prop} (h : sorted_Map_string_string_Put.vc J0 m k v H Q) : SCalls Try.prog sorted_Map_string_string_Put.id [.pointer (some m), .string k, .string v] H Q := vFn_of Try.mixed Try.func47 (sorted_Map_string_string_Put.eq J0 m k v H Q) h

/-! 48: (*tephra/sorted.Map_string, string_).Get -/
noncomputable def sorted_Map_string_string_Get.cf : Cfg := ⟨[], [], [], [], true⟩
noncomputable def sorted_Map_string_string_Get.vc (J : Jn) (m : Addr) (k : ByteArray) (H : Hp) (Q : Value → Hp → Prop) : Prop :=
 
 SCalls Try.prog sorted_Map_string_string_find.id [.pointer (some m), .string k] H (fun r H1 => ∃ x : Int, ∃ x1 : Bool, r = .tuple #[.int .i64 x, .bool x1] ∧ 
 Br x1 (∃ items : Sl, Hp.cell? H1 m = some (.slice items.a items.len items.cap) ∧ ((0 : Int) ≤ x ∧ x < ((items.len : Nat) : Int)) ∧ vPtr items.a (fun a => ∃ value : ByteArray, Hp.cell? H1 ((a.add ((x : Int).toNat * 2)).add 1) = some (.string value) ∧ Q (.tuple #[.string value, .bool true]) H1))
 (Q (.tuple #[.string (ByteArray.mk #[]), .bool false]) H1))
theorem sorted_Map_string_string_Get.eq (J : Jn) (m : Addr) (k : ByteArray) (H : Hp) (Q : Value → Hp → Prop) : vFn Try.prog sorted_Map_string_string_Get.cf J sorted_Map_string_string_Get.fn [.pointer (some m), .string k] H Q = sorted_Map_string_string_Get.vc J m k H Q := by kernel_rfl
theorem sorted_Map_string_string_Get.calls {m : Addr} {k : ByteArray} {H : Hp} {Q : Value → Hp → Prop} (h : sorted_Map_string_string_Get.vc J0 m k H Q) : SCalls Try.prog sorted_Map_string_string_Get.id [.pointer (some m), .string k] H Q := vFn_of Try.mixed Try.func48 (sorted_Map_string_string_Get.eq J0 m k H Q) h

/-! 49: (*tephra/sorted.Map_string, string_).Len -/
noncomputable def sorted_Map_string_string_Len.cf : Cfg := ⟨[], [], [], [], true⟩
noncomputable def sorted_Map_string_string_Len.vc (J : Jn) (m : Addr) (H : Hp) (Q : Value → Hp → Prop) : Prop :=
 ∃ items : Sl, Hp.cell? H m = some (.slice items.a items.len items.cap) ∧ Q (.int .i64 ((items.len : Nat) : Int)) H
theorem sorted_Map_string_string_Len.eq (J : Jn) (m : Addr) (H : Hp) (Q : Value → Hp → Prop) : vFn Try.prog sorted_Map_string_string_Len.cf J sorted_Map_string_string_Len.fn [.pointer (some m)] H Q = sorted_Map_string_string_Len.vc J m H Q := by kernel_rfl
theorem sorted_Map_string_string_Len.calls {m : Addr} {H : Hp} {Q : Value → Hp → Prop} (h : sorted_Map_string_string_Len.vc J0 m H Q) : SCalls Try.prog sorted_Map_string_string_Len.id [.pointer (some m)] H Q := vFn_of Try.mixed Try.func49 (sorted_Map_string_string_Len.eq J0 m H Q) h

/-! 50: (*tephra/sorted.Map_string, string_).Del -/
noncomputable def sorted_Map_string_string_Del.cf : Cfg := ⟨[], [], [], [], true⟩
noncomputable def sorted_Map_string_string_Del.vc (J : Jn) (m : Addr) (k : ByteArray) (H : Hp) (Q : Value → Hp → Prop) : Prop :=
 
 SCalls Try.prog sorted_Map_string_string_find.id [.pointer (some m), .string k] H (fun r H1 => ∃ x : Int, ∃ x1 : Bool, r = .tuple #[.int .i64 x, .bool x1] ∧ 
 Br x1 (∃ items : Sl, Hp.cell? H1 m = some (.slice items.a items.len items.cap) ∧ 
 SCalls Try.prog slices_Delete_sl_sorted_item_string_string_sorted_item_string_string.id [.slice items.a items.len items.cap, .int .i64 x, .int .i64 (w64 (x + 1))] H1 (fun r1 H2 => ∃ x2 : Sl, r1 = .slice x2.a x2.len x2.cap ∧ WrAt H2 m 1 ∧ Q (.bool x1) (Hp.setCell H2 m (.slice x2.a x2.len x2.cap))))
 (Q (.bool x1) H1))
theorem sorted_Map_string_string_Del.eq (J : Jn) (m : Addr) (k : ByteArray) (H : Hp) (Q : Value → Hp → Prop) : vFn Try.prog sorted_Map_string_string_Del.cf J sorted_Map_string_string_Del.fn [.pointer (some m), .string k] H Q = sorted_Map_string_string_Del.vc J m k H Q := by kernel_rfl
theorem sorted_Map_string_string_Del.calls {m : Addr} {k : ByteArray} {H : Hp} {Q : Value → Hp → Prop} (h : sorted_Map_string_string_Del.vc J0 m k H Q) : SCalls Try.prog sorted_Map_string_string_Del.id [.pointer (some m), .string k] H Q := vFn_of Try.mixed Try.func50 (sorted_Map_string_string_Del.eq J0 m k H Q) h

/-! 51: (*tephra/sorted.Map_string, string_).All -/
noncomputable def sorted_Map_string_string_All.cf : Cfg := ⟨[], [], [], [], true⟩
noncomputable def sorted_Map_string_string_All.vc (J : Jn) (m : Addr) (H : Hp) (Q : Value → Hp → Prop) : Prop :=
 Q (.func (.func 61) #[] #[.pointer (some (Addr.mk (Array.size H) 0 none))]) (Array.push H (.cells #[.pointer (some m)] T_p_sorted_Map_string_string))
theorem sorted_Map_string_string_All.eq (J : Jn) (m : Addr) (H : Hp) (Q : Value → Hp → Prop) : vFn Try.prog sorted_Map_string_string_All.cf J sorted_Map_string_string_All.fn [.pointer (some m)] H Q = sorted_Map_string_string_All.vc J m H Q := by kernel_rfl
theorem sorted_Map_string_string_All.calls {m : Addr} {H : Hp} {Q : Value → Hp → Prop} (h : sorted_Map_string_string_All.vc J0 m H Q) : SCalls Try.prog sorted_Map_string_string_All.id [.pointer (some m)] H Q := vFn_of Try.mixed Try.func51 (sorted_Map_string_string_All.eq J0 m H Q) h

/-! 52: slices.Insert___tephra/sorted.item_int, tephra/api.Session_,tephra/sorted.item_int, tephra/api.Session__ -/
noncomputable def slices_Insert_sl_sorted_item_int_api_Session_sorted_item_int_api_Session.cf : Cfg := ⟨[], [], [], [], true⟩
noncomputable def slices_Insert_sl_sorted_item_int_api_Session_sorted_item_int_api_Session.vc (J : Jn) (s : Sl) (i : Int) (v : Sl) (H : Hp) (Q : Value → Hp → Prop) : Prop :=
 ((0 : Int) ≤ i ∧ i ≤ ((s.len : Nat) : Int)) ∧ 
 Br (((v.len : Nat) : Int) == 0) (Q (.slice s.a s.len s.cap) H)
 (
 Br (i == ((s.len : Nat) : Int)) (
 vApp Try.prog T_sl_sorted_item_int_api_Session s.a s.len s.cap (.slice v.a v.len v.cap) H (fun ap H1 => Q (.slice ap.a ap.len ap.cap) H1))
 (
 Br (decide ((w64 (((s.len : Nat) : Int) + ((v.len : Nat) : Int))) > ((s.cap : Nat) : Int))) (((0 : Int) ≤ i ∧ i ≤ ((s.cap : Nat) : Int)) ∧ 
 vAppZ Try.prog T_sl_sorted_item_int_api_Session (cutA s.a s.cap 0 5) ((i : Int).toNat) s.cap (w64 ((w64 (((s.len : Nat) : Int) + ((v.len : Nat) : Int))) - i)) H (fun ap1 H2 => ((0 : Int) ≤ i ∧ i ≤ ((ap1.len : Nat) : Int)) ∧ 
 vCopy Try.prog T_sl_sorted_item_int_api_Session (cutA ap1.a ap1.cap ((i : Int).toNat) 5) (ap1.len - ((i : Int).toNat)) (.slice v.a v.len v.cap) H2 (fun n H3 => ((0 : Int) ≤ (w64 (i + ((v.len : Nat) : Int))) ∧ (w64 (i + ((v.len : Nat) : Int))) ≤ ((ap1.len : Nat) : Int)) ∧ ((0 : Int) ≤ i ∧ i ≤ ((s.len : Nat) : Int)) ∧ 
 vCopy Try.prog T_sl_sorted_item_int_api_Session (cutA ap1.a ap1.cap (((w64 (i + ((v.len : Nat) : Int))) : Int).toNat) 5) (ap1.len - (((w64 (i + ((v.len : Nat) : Int))) : Int).toNat)) (.slice (cutA s.a s.cap ((i : Int).toNat) 5) (s.len - ((i : Int).toNat)) (s.cap - ((i : Int).toNat))) H3 (fun n1 H4 => Q (.slice ap1.a ap1.len ap1.cap) H4))))
 (((0 : Int) ≤ (w64 (((s.len : Nat) : Int) + ((v.len : Nat) : Int))) ∧ (w64 (((s.len : Nat) : Int) + ((v.len : Nat) : Int))) ≤ ((s.cap : Nat) : Int)) ∧ ((0 : Int) ≤ (w64 (i + ((v.len : Nat) : Int))) ∧ (w64 (i + ((v.len : Nat) : Int))) ≤ (((((w64 (((s.len : Nat) : Int) + ((v.len : Nat) : Int))) : Int).toNat) : Nat) : Int)) ∧ 
 ExtC Try.prog 62 [.slice v.a v.len v.cap, .slice (cutA (cutA s.a s.cap 0 5) s.cap (((w64 (i + ((v.len : Nat) : Int))) : Int).toNat) 5) ((((w64 (((s.len : Nat) : Int) + ((v.len : Nat) : Int))) : Int).toNat) - (((w64 (i + ((v.len : Nat) : Int))) : Int).toNat)) (s.cap - (((w64 (i + ((v.len : Nat) : Int))) : Int).toNat))] H (fun r H5 => ∃ x : Bool, r = .bool x ∧ 
 Br (!x) (((0 : Int) ≤ (w64 (i + ((v.len : Nat) : Int))) ∧ (w64 (i + ((v.len : Nat) : Int))) ≤ (((((w64 (((s.len : Nat) : Int) + ((v.len : Nat) : Int))) : Int).toNat) : Nat) : Int)) ∧ ((0 : Int) ≤ i ∧ i ≤ (((((w64 (((s.len : Nat) : Int) + ((v.len : Nat) : Int))) : Int).toNat) : Nat) : Int)) ∧ 
 vCopy Try.prog T_sl_sorted_item_int_api_Session (cutA (cutA s.a s.cap 0 5) s.cap (((w64 (i + ((v.len : Nat) : Int))) : Int).toNat) 5) ((((w64 (((s.len : Nat) : Int) + ((v.len : Nat) : Int))) : Int).toNat) - (((w64 (i + ((v.len : Nat) : Int))) : Int).toNat)) (.slice (cutA (cutA s.a s.cap 0 5) s.cap ((i : Int).toNat) 5) ((((w64 (((s.len : Nat) : Int) + ((v.len : Nat) : Int))) : Int).toNat) - ((i : Int).toNat)) (s.cap - ((i : Int).toNat))) H5 (fun n2 H6 => ((0 : Int) ≤ i ∧ i ≤ (((((w64 (((s.len : Nat) : Int) + ((v.len : Nat) : Int))) : Int).toNat) : Nat) : Int)) ∧ 
 vCopy Try.prog T_sl_sorted_item_int_api_Session (cutA (cutA s.a s.cap 0 5) s.cap ((i : Int).toNat) 5) ((((w64 (((s.len : Nat) : Int) + ((v.len : Nat) : Int))) : Int).toNat) - ((i : Int).toNat)) (.slice v.a v.len v.cap) H6 (fun n3 H7 => Q (.slice (cutA s.a s.cap 0 5) (((w64 (((s.len : Nat) : Int) + ((v.len : Nat) : Int))) : Int).toNat) s.cap) H7)))
 (((0 : Int) ≤ ((s.len : Nat) : Int) ∧ ((s.len : Nat) : Int) ≤ (((((w64 (((s.len : Nat) : Int) + ((v.len : Nat) : Int))) : Int).toNat) : Nat) : Int)) ∧ 
 vCopy Try.prog T_sl_sorted_item_int_api_Session (cutA (cutA s.a s.cap 0 5) s.cap ((((s.len : Nat) : Int) : Int).toNat) 5) ((((w64 (((s.len : Nat) : Int) + ((v.len : Nat) : Int))) : Int).toNat) - ((((s.len : Nat) : Int) : Int).toNat)) (.slice v.a v.len v.cap) H5 (fun n4 H8 => ((0 : Int) ≤ i ∧ i ≤ (((((w64 (((s.len : Nat) : Int) + ((v.len : Nat) : Int))) : Int).toNat) : Nat) : Int)) ∧ 
 SCalls Try.prog slices_rotateRight_sorted_item_int_api_Session.id [.slice (cutA (cutA s.a s.cap 0 5) s.cap ((i : Int).toNat) 5) ((((w64 (((s.len : Nat) : Int) + ((v.len : Nat) : Int))) : Int).toNat) - ((i : Int).toNat)) (s.cap - ((i : Int).toNat)), .int .i64 ((v.len : Nat) : Int)] H8 (fun r1 H9 => r1 = .tuple #[] ∧ Q (.slice (cutA s.a s.cap 0 5) (((w64 (((s.len : Nat) : Int) + ((v.len : Nat) : Int))) : Int).toNat) s.cap) H9)))))))
theorem slices_Insert_sl_sorted_item_int_api_Session_sorted_item_int_api_Session.eq (J : Jn) (s : Sl) (i : Int) (v : Sl) (H : Hp) (Q : Value → Hp → Prop) : vFn Try.prog slices_Insert_sl_sorted_item_int_api_Session_sorted_item_int_api_Session.cf J slices_Insert_sl_sorted_item_int_api_Session_sorted_item_int_api_Session.fn [.slice s.a s.len s.cap, .int .i64 i, .slice v.a v.len v.cap] H Q = slices_Insert_sl_sorted_item_int_api_Session_sorted_item_int_api_Session.vc J s i v H Q := by kernel_rfl
theorem slices_Insert_sl_sorted_item_int_api_Session_sorted_item_int_api_Session.calls {s : Sl} {i : Int} {v : Sl} {H : Hp} {Q : Value → Hp → Prop} (h : slices_Insert_sl_sorted_item_int_api_Session_sorted_item_int_api_Session.vc J0 s i v H Q) : SCalls Try.prog slices_Insert_sl_sorted_item_int_api_Session_sorted_item_int_api_Session.id [.slice s.a s.len s.cap, .int .i64 i, .slice v.a v.len v.cap] H Q := vFn_of Try.mixed Try.func52 (slices_Insert_sl_sorted_item_int_api_Session_sorted_item_int_api_Session.eq J0 s i v H Q) h

/-! 53: (*tephra/sorted.Map_int, tephra/api.Session_).All$1 -/
noncomputable def sorted_Map_int_api_Session_All_1.cf : Cfg := ⟨[4], [(1, [0, 8, 9, 10])], [], [], true⟩
noncomputable def sorted_Map_int_api_Session_All_1.l1.st (yield : Fv) (items : Sl) (H1 : Hp) (x1 : Int) : VS := ⟨mkFr 22 [(0, .v (.func yield.fn yield.fi yield.ca)), (8, .v (.slice items.a items.len items.cap)), (9, .v (.int .i64 ((items.len : Nat) : Int))), (10, .v (.int .i64 x1))], [], H1⟩
noncomputable def sorted_Map_int_api_Session_All_1.l1 (J : Jn) (yield : Fv) (items : Sl) (H1 : Hp) (x1 : Int) (Q : Value → Hp → Prop) : Prop := vAt Try.prog sorted_Map_int_api_Session_All_1.cf J sorted_Map_int_api_Session_All_1.fn [1, 0] [0] Q (sorted_Map_int_api_Session_All_1.l1.st yield items H1 x1)
attribute [irreducible] sorted_Map_int_api_Session_All_1.l1
noncomputable def sorted_Map_int_api_Session_All_1.l1.body (J : Jn) (yield : Fv) (items : Sl) (H1 : Hp) (x1 : Int) (Q : Value → Hp → Prop) : Prop :=
 
 Br (decide (x1 < ((items.len : Nat) : Int))) (((0 : Int) ≤ x1 ∧ x1 < ((items.len : Nat) : Int)) ∧ vPtr items.a (fun a1 => ∃ key : Int, ∃ valueClient : Int, ∃ valueSeq : Int, ∃ valueReplyErr : Int, ∃ valueReplyValue : ByteArray, RowAt H1 (a1.add ((x1 : Int).toNat * 5)) [.int .i64 key, .int .i64 valueClient, .int .i64 valueSeq, .int .i64 valueReplyErr, .string valueReplyValue] ∧ 
 vInv Try.prog (.func yield.fn yield.fi yield.ca) [.int .i64 key, .agg #[.int .i64 valueClient, .int .i64 valueSeq, .int .i64 valueReplyErr, .string valueReplyValue]] (holes H1 1) (fun r H2 => ∃ x2 : Bool, r = .bool x2 ∧ 
 Br (!x2) (Q (.tuple #[]) H2)
 (
 sorted_Map_int_api_Session_All_1.l1 J yield items H2 (w64 (x1 + 1)) Q))))
 (Q (.tuple #[]) H1)
theorem sorted_Map_int_api_Session_All_1.l1.eq (J : Jn) (yield : Fv) (items : Sl) (H1 : Hp) (x1 : Int) (Q : Value → Hp → Prop) : vAtBody Try.prog sorted_Map_int_api_Session_All_1.cf J sorted_Map_int_api_Session_All_1.fn [1, 0] [0] Q (sorted_Map_int_api_Session_All_1.l1.st yield items H1 x1) = sorted_Map_int_api_Session_All_1.l1.body J yield items H1 x1 Q := by kernel_rfl
theorem sorted_Map_int_api_Session_All_1.l1.step {yield : Fv} {items : Sl} {H1 : Hp} {x1 : Int} {Q : Value → Hp → Prop} (h : sorted_Map_int_api_Session_All_1.l1.body J0 yield items H1 x1 Q) : sorted_Map_int_api_Session_All_1.l1 J0 yield items H1 x1 Q := vAt_stepC (sorted_Map_int_api_Session_All_1.l1.st yield items H1 x1) (sorted_Map_int_api_Session_All_1.l1.eq J0 yield items H1 x1 Q) (by kernel_rfl) h
noncomputable def sorted_Map_int_api_Session_All_1.vc (J : Jn) (yield : Fv) (cap0 : Addr) (H : Hp) (Q : Value → Hp → Prop) : Prop :=
 ∃ x : Option Addr, Hp.cell? H cap0 = some (.pointer x) ∧ vPtr x (fun a => ∃ items : Sl, Hp.cell? H a = some (.slice items.a items.len items.cap) ∧ 
 sorted_Map_int_api_Session_All_1.l1 J yield items H 0 Q)
theorem sorted_Map_int_api_Session_All_1.eq (J : Jn) (yield : Fv) (cap0 : Addr) (H : Hp) (Q : Value → Hp → Prop) : vFn Try.prog sorted_Map_int_api_Session_All_1.cf J sorted_Map_int_api_Session_All_1.fn [.func yield.fn yield.fi yield.ca, .pointer (some cap0)] H Q = sorted_Map_int_api_Session_All_1.vc J yield cap0 H Q := by kernel_rfl
theorem sorted_Map_int_api_Session_All_1.calls {yield : Fv} {cap0 : Addr} {H : Hp} {Q : Value → Hp → Prop} (h : sorted_Map_int_api_Session_All_1.vc J0 yield cap0 H Q) : SCalls Try.prog sorted_Map_int_api_Session_All_1.id [.func yield.fn yield.fi yield.ca, .pointer (some cap0)] H Q := vFn_of Try.mixed Try.func53 (sorted_Map_int_api_Session_All_1.eq J0 yield cap0 H Q) h

/-! 54: cmp.isNaN_int_ -/
noncomputable def cmp_isNaN_int.cf : Cfg := ⟨[], [], [], [], true⟩
noncomputable def cmp_isNaN_int.vc (J : Jn) (x : Int) (H : Hp) (Q : Value → Hp → Prop) : Prop :=
 Q (.bool (x != x)) H
theorem cmp_isNaN_int.eq (J : Jn) (x : Int) (H : Hp) (Q : Value → Hp → Prop) : vFn Try.prog cmp_isNaN_int.cf J cmp_isNaN_int.fn [.int .i64 x] H Q = cmp_isNaN_int.vc J x H Q := by kernel_rfl
theorem cmp_isNaN_int.calls {x : Int} {H : Hp} {Q : Value → Hp → Prop} (h : cmp_isNaN_int.vc J0 x H Q) : SCalls Try.prog cmp_isNaN_int.id [.int .i64 x] H Q := vFn_of Try.mixed Try.func54 (cmp_isNaN_int.eq J0 x H Q) h

/-! 55: slices.rotateLeft_tephra/sorted.item_int, int__ -/
noncomputable def slices_rotateLeft_sorted_item_int_int.cf : Cfg := ⟨[], [], [], [], true⟩
noncomputable def slices_rotateLeft_sorted_item_int_int.vc (J : Jn) (s : Sl) (r : Int) (H : Hp) (Q : Value → Hp → Prop) : Prop :=
 ((0 : Int) ≤ r ∧ r ≤ ((s.cap : Nat) : Int)) ∧ 
 SCalls Try.prog slices_Reverse_sl_sorted_item_int_int_sorted_item_int_int.id [.slice (cutA s.a s.cap 0 2) ((r : Int).toNat) s.cap] H (fun r1 H1 => r1 = .tuple #[] ∧ ((0 : Int) ≤ r ∧ r ≤ ((s.len : Nat) : Int)) ∧ 
 SCalls Try.prog slices_Reverse_sl_sorted_item_int_int_sorted_item_int_int.id [.slice (cutA s.a s.cap ((r : Int).toNat) 2) (s.len - ((r : Int).toNat)) (s.cap - ((r : Int).toNat))] H1 (fun r2 H2 => r2 = .tuple #[] ∧ 
 SCalls Try.prog slices_Reverse_sl_sorted_item_int_int_sorted_item_int_int.id [.slice s.a s.len s.cap] H2 (fun r3 H3 => r3 = .tuple #[] ∧ Q (.tuple #[]) H3)))
theorem slices_rotateLeft_sorted_item_int_int.eq (J : Jn) (s : Sl) (r : Int) (H : Hp) (Q : Value → Hp → Prop) : vFn Try.prog slices_rotateLeft_sorted_item_int_int.cf J slices_rotateLeft_sorted_item_int_int.fn [.slice s.a s.len s.cap, .int .i64 r] H Q = slices_rotateLeft_sorted_item_int_int.vc J s r H Q := by kernel_rfl
theorem slices_rotateLeft_sorted_item_int_int.calls {s : Sl} {r : Int} {H : Hp} {Q : Value → Hp → Prop} (h : slices_rotateLeft_sorted_item_int_int.vc J0 s r H Q) : SCalls Try.prog slices_rotateLeft_sorted_item_int_int.id [.slice s.a s.len s.cap, .int .i64 r] H Q := vFn_of Try.mixed Try.func55 (slices_rotateLeft_sorted_item_int_int.eq J0 s r H Q) h

/-! 56: slices.BinarySearchFunc___tephra/sorted.item_int, tephra/api.Session_,tephra/sorted.item_int, tephra/api.Session_,int_ -/
noncomputable def slices_BinarySearchFunc_sl_sorted_item_int_api_Session_sorted_item_int_api_Session_int.cf : Cfg := ⟨[], [(3, [0, 1, 2, 8, 9, 10])], [], [], true⟩
noncomputable def slices_BinarySearchFunc_sl_sorted_item_int_api_Session_sorted_item_int_api_Session_int.l1.st (x : Sl) (target : Int) (cmp : Fv) (H1 : Hp) (i : Int) (j : Int) : VS := ⟨mkFr 49 [(0, .v (.slice x.a x.len x.cap)), (1, .v (.int .i64 target)), (2, .v (.func cmp.fn cmp.fi cmp.ca)), (8, .v (.int .i64 ((x.len : Nat) : Int))), (9, .v (.int .i64 i)), (10, .v (.int .i64 j))], [], H1⟩
noncomputable def slices_BinarySearchFunc_sl_sorted_item_int_api_Session_sorted_item_int_api_Session_int.l1 (J : Jn) (x : Sl) (target : Int) (cmp : Fv) (H1 : Hp) (i : Int) (j : Int) (Q : Value → Hp → Prop) : Prop := vAt Try.prog slices_BinarySearchFunc_sl_sorted_item_int_api_Session_sorted_item_int_api_Session_int.cf J slices_BinarySearchFunc_sl_sorted_item_int_api_Session_sorted_item_int_api_Session_int.fn [1, 1, 1, 0, 0] [0, 0, 0, 0] Q (slices_BinarySearchFunc_sl_sorted_item_int_api_Session_sorted_item_int_api_Session_int.l1.st x target cmp H1 i j)
attribute [irreducible] slices_BinarySearchFunc_sl_sorted_item_int_api_Session_sorted_item_int_api_Session_int.l1
noncomputable def slices_BinarySearchFunc_sl_sorted_item_int_api_Session_sorted_item_int_api_Session_int.l1.body (J : Jn) (x : Sl) (target : Int) (cmp : Fv) (H1 : Hp) (i : Int) (j : Int) (Q : Value → Hp → Prop) : Prop :=
 
 Br (decide (i < j)) ((0 : Int) ≤ 1 ∧ ((0 : Int) ≤ (w64 ((Int.fdiv (IntKind.u64.wrap ((w64 (i + j)))) (2 ^ 1)))) ∧ (w64 ((Int.fdiv (IntKind.u64.wrap ((w64 (i + j)))) (2 ^ 1)))) < ((x.len : Nat) : Int)) ∧ vPtr x.a (fun a => ∃ key : Int, ∃ valueClient : Int, ∃ valueSeq : Int, ∃ valueReplyErr : Int, ∃ valueReplyValue : ByteArray, RowAt H1 (a.add (((w64 ((Int.fdiv (IntKind.u64.wrap ((w64 (i + j)))) (2 ^ 1)))) : Int).toNat * 5)) [.int .i64 key, .int .i64 valueClient, .int .i64 valueSeq, .int .i64 valueReplyErr, .string valueReplyValue] ∧ 
 vInv Try.prog (.func cmp.fn cmp.fi cmp.ca) [.agg #[.int .i64 key, .int .i64 valueClient, .int .i64 valueSeq, .int .i64 valueReplyErr, .string valueReplyValue], .int .i64 target] H1 (fun r H2 => ∃ x1 : Int, r = .int .i64 x1 ∧ 
 Br (decide (x1 < 0)) (
 slices_BinarySearchFunc_sl_sorted_item_int_api_Session_sorted_item_int_api_Session_int.l1 J x target cmp H2 (w64 ((w64 ((Int.fdiv (IntKind.u64.wrap ((w64 (i + j)))) (2 ^ 1)))) + 1)) j Q)
 (
 slices_BinarySearchFunc_sl_sorted_item_int_api_Session_sorted_item_int_api_Session_int.l1 J x target cmp H2 i (w64 ((Int.fdiv (IntKind.u64.wrap ((w64 (i + j)))) (2 ^ 1)))) Q))))
 (
 Br (decide (i < ((x.len : Nat) : Int))) (((0 : Int) ≤ i ∧ i < ((x.len : Nat) : Int)) ∧ vPtr x.a (fun a1 => ∃ key1 : Int, ∃ valueClient1 : Int, ∃ valueSeq1 : Int, ∃ valueReplyErr1 : Int, ∃ valueReplyValue1 : ByteArray, RowAt H1 (a1.add ((i : Int).toNat * 5)) [.int .i64 key1, .int .i64 valueClient1, .int .i64 valueSeq1, .int .i64 valueReplyErr1, .string valueReplyValue1] ∧ 
 vInv Try.prog (.func cmp.fn cmp.fi cmp.ca) [.agg #[.int .i64 key1, .int .i64 valueClient1, .int .i64 valueSeq1, .int .i64 valueReplyErr1, .string valueReplyValue1], .int .i64 target] H1 (fun r1 H3 => ∃ x2 : Int, r1 = .int .i64 x2 ∧ Q (.tuple #[.int .i64 i, .bool (x2 == 0)]) H3)))
 (Q (.tuple #[.int .i64 i, .bool false]) H1))
theorem slices_BinarySearchFunc_sl_sorted_item_int_api_Session_sorted_item_int_api_Session_int.l1.eq (J : Jn) (x : Sl) (target : Int) (cmp : Fv) (H1 : Hp) (i : Int) (j : Int) (Q : Value → Hp → Prop) : vAtBody Try.prog slices_BinarySearchFunc_sl_sorted_item_int_api_Session_sorted_item_int_api_Session_int.cf J slices_BinarySearchFunc_sl_sorted_item_int_api_Session_sorted_item_int_api_Session_int.fn [1, 1, 1, 0, 0] [0, 0, 0, 0] Q (slices_BinarySearchFunc_sl_sorted_item_int_api_Session_sorted_item_int_api_Session_int.l1.st x target cmp H1 i j) = slices_BinarySearchFunc_sl_sorted_item_int_api_Session_sorted_item_int_api_Session_int.l1.body J x target cmp H1 i j Q := by kernel_rfl
theorem slices_BinarySearchFunc_sl_sorted_item_int_api_Session_sorted_item_int_api_Session_int.l1.step {x : Sl} {target : Int} {cmp : Fv} {H1 : Hp} {i : Int} {j : Int} {Q : Value → Hp → Prop} (h : slices_BinarySearchFunc_sl_sorted_item_int_api_Session_sorted_item_int_api_Session_int.l1.body J0 x target cmp H1 i j Q) : slices_BinarySearchFunc_sl_sorted_item_int_api_Session_sorted_item_int_api_Session_int.l1 J0 x target cmp H1 i j Q := vAt_stepC (slices_BinarySearchFunc_sl_sorted_item_int_api_Session_sorted_item_int_api_Session_int.l1.st x target cmp H1 i j) (slices_BinarySearchFunc_sl_sorted_item_int_api_Session_sorted_item_int_api_Session_int.l1.eq J0 x target cmp H1 i j Q) (by kernel_rfl) h
noncomputable def slices_BinarySearchFunc_sl_sorted_item_int_api_Session_sorted_item_int_api_Session_int.vc (J : Jn) (x : Sl) (target : Int) (cmp : Fv) (H : Hp) (Q : Value → Hp → Prop) : Prop :=
 
 slices_BinarySearchFunc_sl_sorted_item_int_api_Session_sorted_item_int_api_Session_int.l1 J x target cmp H 0 ((x.len : Nat) : Int) Q
theorem slices_BinarySearchFunc_sl_sorted_item_int_api_Session_sorted_item_int_api_Session_int.eq (J : Jn) (x : Sl) (target : Int) (cmp : Fv) (H : Hp) (Q : Value → Hp → Prop) : vFn Try.prog slices_BinarySearchFunc_sl_sorted_item_int_api_Session_sorted_item_int_api_Session_int.cf J slices_BinarySearchFunc_sl_sorted_item_int_api_Session_sorted_item_int_api_Session_int.fn [.slice x.a x.len x.cap, .int .i64 target, .func cmp.fn cmp.fi cmp.ca] H Q = slices_BinarySearchFunc_sl_sorted_item_int_api_Session_sorted_item_int_api_Session_int.vc J x target cmp H Q := by kernel_rfl
theorem slices_BinarySearchFunc_sl_sorted_item_int_api_Session_sorted_item_int_api_Session_int.calls {x : Sl} {target : Int} {cmp : Fv} {H : Hp} {Q : Value → Hp → Prop} (h : slices_BinarySearchFunc_sl_sorted_item_int_api_Session_sorted_item_int_api_Session_int.vc J0 x target cmp H Q) : SCalls Try.prog slices_BinarySearchFunc_sl_sorted_item_int_api_Session_sorted_item_int_api_Session_int.id [.slice x.a x.len x.cap, .int .i64 target, .func cmp.fn cmp.fi cmp.ca] H Q := vFn_of Try.mixed Try.func56 (slices_BinarySearchFunc_sl_sorted_item_int_api_Session_sorted_item_int_api_Session_int.eq J0 x target cmp H Q) h

/-! 57: (*tephra/sorted.Map_int, tephra/api.Session_).find$1 -/
noncomputable def sorted_Map_int_api_Session_find_1.cf : Cfg := ⟨[2], [], [], [], true⟩
noncomputable def sorted_Map_int_api_Session_find_1.vc (J : Jn) (xkey : Int) (xvalueClient : Int) (xvalueSeq : Int) (xvalueReplyErr : Int) (xvalueReplyValue : ByteArray) (k : Int) (H : Hp) (Q : Value → Hp → Prop) : Prop :=
 
 SCalls Try.prog cmp_Compare_int.id [.int .i64 xkey, .int .i64 k] (holes H 1) (fun r H1 => ∃ x : Int, r = .int .i64 x ∧ Q (.int .i64 x) H1)
theorem sorted_Map_int_api_Session_find_1.eq (J : Jn) (xkey : Int) (xvalueClient : Int) (xvalueSeq : Int) (xvalueReplyErr : Int) (xvalueReplyValue : ByteArray) (k : Int) (H : Hp) (Q : Value → Hp → Prop) : vFn Try.prog sorted_Map_int_api_Session_find_1.cf J sorted_Map_int_api_Session_find_1.fn [.agg #[.int .i64 xkey, .int .i64 xvalueClient, .int .i64 xvalueSeq, .int .i64 xvalueReplyErr, .string xvalueReplyValue], .int .i64 k] H Q = sorted_Map_int_api_Session_find_1.vc J xkey xvalueClient xvalueSeq xvalueReplyErr xvalueReplyValue k H Q := by kernel_rfl
theorem sorted_Map_int_api_Session_find_1.calls {xkey : Int} {xvalueClient : Int} {xvalueSeq : Int} {xvalueReplyErr : Int} {xvalueReplyValue : ByteArray} {k : Int} {H : Hp} {Q : Value → Hp → Prop} (h : sorted_Map_int_api_Session_find_1.vc J0 xkey xvalueClient xvalueSeq xvalueReplyErr xvalueReplyValue k H Q) : SCalls Try.prog sorted_Map_int_api_Session_find_1.id [.agg #[.int .i64 xkey, .int .i64 xvalueClient, .int .i64 xvalueSeq, .int .i64 xvalueReplyErr, .string xvalueReplyValue], .int .i64 k] H Q := vFn_of Try.mixed Try.func57 (sorted_Map_int_api_Session_find_1.eq J0 xkey xvalueClient xvalueSeq xvalueReplyErr xvalueReplyValue k H Q) h

/-! 58: (*tephra/sorted.Map_string, string_).find -/
noncomputable def sorted_Map_string_string_find.cf : Cfg := ⟨[], [], [], [], true⟩
noncomputable def sorted_Map_string_string_find.vc (J : Jn) (m : Addr) (k : ByteArray) (H : Hp) (Q : Value → Hp → Prop) : Prop :=
 ∃ items : Sl, Hp.cell? H m = some (.slice items.a items.len items.cap) ∧ 
 SCalls Try.prog slices_BinarySearchFunc_sl_sorted_item_string_string_sorted_item_string_string_string.id [.slice items.a items.len items.cap, .string k, .func (.func 66) #[] #[]] H (fun r H1 => ∃ x : Int, ∃ x1 : Bool, r = .tuple #[.int .i64 x, .bool x1] ∧ Q (.tuple #[.int .i64 x, .bool x1]) H1)
theorem sorted_Map_string_string_find.eq (J : Jn) (m : Addr) (k : ByteArray) (H : Hp) (Q : Value → Hp → Prop) : vFn Try.prog sorted_Map_string_string_find.cf J sorted_Map_string_string_find.fn [.pointer (some m), .string k] H Q = sorted_Map_string_string_find.vc J m k H Q := by kernel_rfl
theorem sorted_Map_string_string_find.calls {m : Addr} {k : ByteArray} {H : Hp} {Q : Value → Hp → Prop} (h : sorted_Map_string_string_find.vc J0 m k H Q) : SCalls Try.prog sorted_Map_string_string_find.id [.pointer (some m), .string k] H Q := vFn_of Try.mixed Try.func58 (sorted_Map_string_string_find.eq J0 m k H Q) h

/-! 59: slices.Insert___tephra/sorted.item_string, string_,tephra/sorted.item_string, string__ -/
noncomputable def slices_Insert_sl_sorted_item_string_string_sorted_item_string_string.cf : Cfg := ⟨[], [], [], [], true⟩
noncomputable def slices_Insert_sl_sorted_item_string_string_sorted_item_string_string.vc (J : Jn) (s : Sl) (i : Int) (v : Sl) (H : Hp) (Q : Value → Hp → Prop) : Prop :=
 ((0 : Int) ≤ i ∧ i ≤ ((s.len : Nat) : Int)) ∧ 
 Br (((v.len : Nat) : Int) == 0) (Q (.slice s.a s.len s.cap) H)
 (
 Br (i == ((s.len : Nat) : Int)) (
 vApp Try.prog T_sl_sorted_item_string_string s.a s.len s.cap (.slice v.a v.len v.cap) H (fun ap H1 => Q (.slice ap.a ap.len ap.cap) H1))
 (
 Br (decide ((w64 (((s.len : Nat) : Int) + ((v.len : Nat) : Int))) > ((s.cap : Nat) : Int))) (((0 : Int) ≤ i ∧ i ≤ ((s.cap : Nat) : Int)) ∧ 
 vAppZ Try.prog T_sl_sorted_item_string_string (cutA s.a s.cap 0 2) ((i : Int).toNat) s.cap (w64 ((w64 (((s.len : Nat) : Int) + ((v.len : Nat) : Int))) - i)) H (fun ap1 H2 => ((0 : Int) ≤ i ∧ i ≤ ((ap1.len : Nat) : Int)) ∧ 
 vCopy Try.prog T_sl_sorted_item_string_string (cutA ap1.a ap1.cap ((i : Int).toNat) 2) (ap1.len - ((i : Int).toNat)) (.slice v.a v.len v.cap) H2 (fun n H3 => ((0 : Int) ≤ (w64 (i + ((v.len : Nat) : Int))) ∧ (w64 (i + ((v.len : Nat) : Int))) ≤ ((ap1.len : Nat) : Int)) ∧ ((0 : Int) ≤ i ∧ i ≤ ((s.len : Nat) : Int)) ∧ 
 vCopy Try.prog T_sl_sorted_item_string_string (cutA ap1.a ap1.cap (((w64 (i + ((v.len : Nat) : Int))) : Int).toNat) 2) (ap1.len - (((w64 (i + ((v.len : Nat) : Int))) : Int).toNat)) (.slice (cutA s.a s.cap ((i : Int).toNat) 2) (s.len - ((i : Int).toNat)) (s.cap - ((i : Int).toNat))) H3 (fun n1 H4 => Q (.slice ap1.a ap1.len ap1.cap) H4))))
 (((0 : Int) ≤ (w64 (((s.len : Nat) : Int) + ((v.len : Nat) : Int))) ∧ (w64 (((s.len : Nat) : Int) + ((v.len : Nat) : Int))) ≤ ((s.cap : Nat) : Int)) ∧ ((0 : Int) ≤ (w64 (i + ((v.len : Nat) : Int))) ∧ (w64 (i + ((v.len : Nat) : Int))) ≤ (((((w64 (((s.len : Nat) : Int) + ((v.len : Nat) : Int))) : Int).toNat) : Nat) : Int)) ∧ 
 ExtC Try.prog 68 [.slice v.a v.len v.cap, .slice (cutA (cutA s.a s.cap 0 2) s.cap (((w64 (i + ((v.len : Nat) : Int))) : Int).toNat) 2) ((((w64 (((s.len : Nat) : Int) + ((v.len : Nat) : Int))) : Int).toNat) - (((w64 (i + ((v.len : Nat) : Int))) : Int).toNat)) (s.cap - (((w64 (i + ((v.len : Nat) : Int))) : Int).toNat))] H (fun r H5 => ∃ x : Bool, r = .bool x ∧ 
 Br (!x) (((0 : Int) ≤ (w64 (i + ((v.len : Nat) : Int))) ∧ (w64 (i + ((v.len : Nat) : Int))) ≤ (((((w64 (((s.len : Nat) : Int) + ((v.len : Nat) : Int))) : Int).toNat) : Nat) : Int)) ∧ ((0 : Int) ≤ i ∧ i ≤ (((((w64 (((s.len : Nat) : Int) + ((v.len : Nat) : Int))) : Int).toNat) : Nat) : Int)) ∧ 
 vCopy Try.prog T_sl_sorted_item_string_string (cutA (cutA s.a s.cap 0 2) s.cap (((w64 (i + ((v.len : Nat) : Int))) : Int).toNat) 2) ((((w64 (((s.len : Nat) : Int) + ((v.len : Nat) : Int))) : Int).toNat) - (((w64 (i + ((v.len : Nat) : Int))) : Int).toNat)) (.slice (cutA (cutA s.a s.cap 0 2) s.cap ((i : Int).toNat) 2) ((((w64 (((s.len : Nat) : Int) + ((v.len : Nat) : Int))) : Int).toNat) - ((i : Int).toNat)) (s.cap - ((i : Int).toNat))) H5 (fun n2 H6 => ((0 : Int) ≤ i ∧ i ≤ (((((w64 (((s.len : Nat) : Int) + ((v.len : Nat) : Int))) : Int).toNat) : Nat) : Int)) ∧ 
 vCopy Try.prog T_sl_sorted_item_string_string (cutA (cutA s.a s.cap 0 2) s.cap ((i : Int).toNat) 2) ((((w64 (((s.len : Nat) : Int) + ((v.len : Nat) : Int))) : Int).toNat) - ((i : Int).toNat)) (.slice v.a v.len v.cap) H6 (fun n3 H7 => Q (.slice (cutA s.a s.cap 0 2) (((w64 (((s.len : Nat) : Int) + ((v.len : Nat) : Int))) : Int).toNat) s.cap) H7)))
 (((0 : Int) ≤ ((s.len : Nat) : Int) ∧ ((s.len : Nat) : Int) ≤ (((((w64 (((s.len : Nat) : Int) + ((v.len : Nat) : Int))) : Int).toNat) : Nat) : Int)) ∧ 
 vCopy Try.prog T_sl_sorted_item_string_string (cutA (cutA s.a s.cap 0 2) s.cap ((((s.len : Nat) : Int) : Int).toNat) 2) ((((w64 (((s.len : Nat) : Int) + ((v.len : Nat) : Int))) : Int).toNat) - ((((s.len : Nat) : Int) : Int).toNat)) (.slice v.a v.len v.cap) H5 (fun n4 H8 => ((0 : Int) ≤ i ∧ i ≤ (((((w64 (((s.len : Nat) : Int) + ((v.len : Nat) : Int))) : Int).toNat) : Nat) : Int)) ∧ 
 SCalls Try.prog slices_rotateRight_sorted_item_string_string.id [.slice (cutA (cutA s.a s.cap 0 2) s.cap ((i : Int).toNat) 2) ((((w64 (((s.len : Nat) : Int) + ((v.len : Nat) : Int))) : Int).toNat) - ((i : Int).toNat)) (s.cap - ((i : Int).toNat)), .int .i64 ((v.len : Nat) : Int)] H8 (fun r1 H9 => r1 = .tuple #[] ∧ Q (.slice (cutA s.a s.cap 0 2) (((w64 (((s.len : Nat) : Int) + ((v.len : Nat) : Int))) : Int).toNat) s.cap) H9)))))))
theorem slices_Insert_sl_sorted_item_string_string_sorted_item_string_string.eq (J : Jn) (s : Sl) (i : Int) (v : Sl) (H : Hp) (Q : Value → Hp → Prop) : vFn Try.prog slices_Insert_sl_sorted_item_string_string_sorted_item_string_string.cf J slices_Insert_sl_sorted_item_string_string_sorted_item_string_string.fn [.slice s.a s.len s.cap, .int .i64 i, .slice v.a v.len v.cap] H Q = slices_Insert_sl_sorted_item_string_string_sorted_item_string_string.vc J s i v H Q := by kernel_rfl
theorem slices_Insert_sl_sorted_item_string_string_sorted_item_string_string.calls {s : Sl} {i : Int} {v : Sl} {H : Hp} {Q : Value → Hp → Prop} (h : slices_Insert_sl_sorted_item_string_string_sorted_item_string_string.vc J0 s i v H Q) : SCalls Try.prog slices_Insert_sl_sorted_item_string_string_sorted_item_string_string.id [.slice s.a s.len s.cap, .int .i64 i, .slice v.a v.len v.cap] H Q := vFn_of Try.mixed Try.func59 (slices_Insert_sl_sorted_item_string_string_sorted_item_string_string.eq J0 s i v H Q) h

/-! 60: slices.Delete___tephra/sorted.item_string, string_,tephra/sorted.item_string, string__ -/
noncomputable def slices_Delete_sl_sorted_item_string_string_sorted_item_string_string.cf : Cfg := ⟨[], [], [], [], true⟩
noncomputable def slices_Delete_sl_sorted_item_string_string_sorted_item_string_string.vc (J : Jn) (s : Sl) (i : Int) (j : Int) (H : Hp) (Q : Value → Hp → Prop) : Prop :=
 ((0 : Int) ≤ ((s.len : Nat) : Int) ∧ ((s.len : Nat) : Int) ≤ ((s.cap : Nat) : Int)) ∧ ((0 : Int) ≤ j ∧ j ≤ ((((((s.len : Nat) : Int) : Int).toNat) : Nat) : Int)) ∧ ((0 : Int) ≤ i ∧ i ≤ ((((j : Int).toNat) : Nat) : Int)) ∧ 
 Br (i == j) (Q (.slice s.a s.len s.cap) H)
 (((0 : Int) ≤ i ∧ i ≤ ((s.cap : Nat) : Int)) ∧ ((0 : Int) ≤ j ∧ j ≤ ((s.len : Nat) : Int)) ∧ 
 vApp Try.prog T_sl_sorted_item_string_string (cutA s.a s.cap 0 2) ((i : Int).toNat) s.cap (.slice (cutA s.a s.cap ((j : Int).toNat) 2) (s.len - ((j : Int).toNat)) (s.cap - ((j : Int).toNat))) H (fun ap H1 => ((0 : Int) ≤ ((s.len : Nat) : Int) ∧ ((s.len : Nat) : Int) ≤ ((ap.cap : Nat) : Int)) ∧ ((0 : Int) ≤ ((ap.len : Nat) : Int) ∧ ((ap.len : Nat) : Int) ≤ ((((((s.len : Nat) : Int) : Int).toNat) : Nat) : Int)) ∧ 
 vClear Try.prog T_sl_sorted_item_string_string (cutA ap.a ap.cap ((((ap.len : Nat) : Int) : Int).toNat) 2) (((((s.len : Nat) : Int) : Int).toNat) - ((((ap.len : Nat) : Int) : Int).toNat)) H1 (fun H2 => Q (.slice ap.a ap.len ap.cap) H2)))
theorem slices_Delete_sl_sorted_item_string_string_sorted_item_string_string.eq (J : Jn) (s : Sl) (i : Int) (j : Int) (H : Hp) (Q : Value → Hp → Prop) : vFn Try.prog slices_Delete_sl_sorted_item_string_string_sorted_item_string_string.cf J slices_Delete_sl_sorted_item_string_string_sorted_item_string_string.fn [.slice s.a s.len s.cap, .int .i64 i, .int .i64 j] H Q = slices_Delete_sl_sorted_item_string_string_sorted_item_string_string.vc J s i j H Q := by kernel_rfl
theorem slices_Delete_sl_sorted_item_string_string_sorted_item_string_string.calls {s : Sl} {i : Int} {j : Int} {H : Hp} {Q : Value → Hp → Prop} (h : slices_Delete_sl_sorted_item_string_string_sorted_item_string_string.vc J0 s i j H Q) : SCalls Try.prog slices_Delete_sl_sorted_item_string_string_sorted_item_string_string.id [.slice s.a s.len s.cap, .int .i64 i, .int .i64 j] H Q := vFn_of Try.mixed Try.func60 (slices_Delete_sl_sorted_item_string_string_sorted_item_string_string.eq J0 s i j H Q) h

/-! 61: (*tephra/sorted.Map_string, string_).All$1 -/
noncomputable def sorted_Map_string_string_All_1.cf : Cfg := ⟨[4], [(1, [0, 8, 9, 10])], [], [], true⟩
noncomputable def sorted_Map_string_string_All_1.l1.st (yield : Fv) (items : Sl) (H1 : Hp) (x1 : Int) : VS := ⟨mkFr 22 [(0, .v (.func yield.fn yield.fi yield.ca)), (8, .v (.slice items.a items.len items.cap)), (9, .v (.int .i64 ((items.len : Nat) : Int))), (10, .v (.int .i64 x1))], [], H1⟩
noncomputable def sorted_Map_string_string_All_1.l1 (J : Jn) (yield : Fv) (items : Sl) (H1 : Hp) (x1 : Int) (Q : Value → Hp → Prop) : Prop := vAt Try.prog sorted_Map_string_string_All_1.cf J sorted_Map_string_string_All_1.fn [1, 0] [0] Q (sorted_Map_string_string_All_1.l1.st yield items H1 x1)
attribute [irreducible] sorted_Map_string_string_All_1.l1
noncomputable def sorted_Map_string_string_All_1.l1.body (J : Jn) (yield : Fv) (items : Sl) (H1 : Hp) (x1 : Int) (Q : Value → Hp → Prop) : Prop :=
 
 Br (decide (x1 < ((items.len : Nat) : Int))) (((0 : Int) ≤ x1 ∧ x1 < ((items.len : Nat) : Int)) ∧ vPtr items.a (fun a1 => ∃ key : ByteArray, ∃ value : ByteArray, RowAt H1 (a1.add ((x1 : Int).toNat * 2)) [.string key, .string value] ∧ 
 vInv Try.prog (.func yield.fn yield.fi yield.ca) [.string key, .string value] (holes H1 1) (fun r H2 => ∃ x2 : Bool, r = .bool x2 ∧ 
 Br (!x2) (Q (.tuple #[]) H2)
 (
 sorted_Map_string_string_All_1.l1 J yield items H2 (w64 (x1 + 1)) Q))))
 (Q (.tuple #[]) H1)
theorem sorted_Map_string_string_All_1.l1.eq (J : Jn) (yield : Fv) (items : Sl) (H1 : Hp) (x1 : Int) (Q : Value → Hp → Prop) : vAtBody Try.prog sorted_Map_string_string_All_1.cf J sorted_Map_string_string_All_1.fn [1, 0] [0] Q (sorted_Map_string_string_All_1.l1.st yield items H1 x1) = sorted_Map_string_string_All_1.l1.body J yield items H1 x1 Q := by kernel_rfl
theorem sorted_Map_string_string_All_1.l1.step {yield : Fv} {items : Sl} {H1 : Hp} {x1 : Int} {Q : Value → Hp → Prop} (h : sorted_Map_string_string_All_1.l1.body J0 yield items H1 x1 Q) : sorted_Map_string_string_All_1.l1 J0 yield items H1 x1 Q := vAt_stepC (sorted_Map_string_string_All_1.l1.st yield items H1 x1) (sorted_Map_string_string_All_1.l1.eq J0 yield items H1 x1 Q) (by kernel_rfl) h
noncomputable def sorted_Map_string_string_All_1.vc (J : Jn) (yield : Fv) (cap0 : Addr) (H : Hp) (Q : Value → Hp → Prop) : Prop :=
 ∃ x : Option Addr, Hp.cell? H cap0 = some (.pointer x) ∧ vPtr x (fun a => ∃ items : Sl, Hp.cell? H a = some (.slice items.a items.len items.cap) ∧ 
 sorted_Map_string_string_All_1.l1 J yield items H 0 Q)
theorem sorted_Map_string_string_All_1.eq (J : Jn) (yield : Fv) (cap0 : Addr) (H : Hp) (Q : Value → Hp → Prop) : vFn Try.prog sorted_Map_string_string_All_1.cf J sorted_Map_string_string_All_1.fn [.func yield.fn yield.fi yield.ca, .pointer (some cap0)] H Q = sorted_Map_string_string_All_1.vc J yield cap0 H Q := by kernel_rfl
theorem sorted_Map_string_string_All_1.calls {yield : Fv} {cap0 : Addr} {H : Hp} {Q : Value → Hp → Prop} (h : sorted_Map_string_string_All_1.vc J0 yield cap0 H Q) : SCalls Try.prog sorted_Map_string_string_All_1.id [.func yield.fn yield.fi yield.ca, .pointer (some cap0)] H Q := vFn_of Try.mixed Try.func61 (sorted_Map_string_string_All_1.eq J0 yield cap0 H Q) h

/-! 63: slices.rotateRight_tephra/sorted.item_int, tephra/api.Session__ -/
noncomputable def slices_rotateRight_sorted_item_int_api_Session.cf : Cfg := ⟨[], [], [], [], true⟩
noncomputable def slices_rotateRight_sorted_item_int_api_Session.vc (J : Jn) (s : Sl) (r : Int) (H : Hp) (Q : Value → Hp → Prop) : Prop :=
 
 SCalls Try.prog slices_rotateLeft_sorted_item_int_api_Session.id [.slice s.a s.len s.cap, .int .i64 (w64 (((s.len : Nat) : Int) - r))] H (fun r1 H1 => r1 = .tuple #[] ∧ Q (.tuple #[]) H1)
theorem slices_rotateRight_sorted_item_int_api_Session.eq (J : Jn) (s : Sl) (r : Int) (H : Hp) (Q : Value → Hp → Prop) : vFn Try.prog slices_rotateRight_sorted_item_int_api_Session.cf J slices_rotateRight_sorted_item_int_api_Session.fn [.slice s.a s.len s.cap, .int .i64 r] H Q = slices_rotateRight_sorted_item_int_api_Session.vc J s r H Q := by kernel_rfl
theorem slices_rotateRight_sorted_item_int_api_Session.calls {s : Sl} {r : Int} {H : Hp} {Q : Value → Hp → Prop} (h : slices_rotateRight_sorted_item_int_api_Session.vc J0 s r H Q) : SCalls Try.prog slices_rotateRight_sorted_item_int_api_Session.id [.slice s.a s.len s.cap, .int .i64 r] H Q := vFn_of Try.mixed Try.func63 (slices_rotateRight_sorted_item_int_api_Session.eq J0 s r H Q) h

/-! 64: slices.Reverse___tephra/sorted.item_int, int_,tephra/sorted.item_int, int__ -/
noncomputable def slices_Reverse_sl_sorted_item_int_int_sorted_item_int_int.cf : Cfg := ⟨[], [(1, [0, 2, 3])], [], [], true⟩
noncomputable def slices_Reverse_sl_sorted_item_int_int_sorted_item_int_int.l1.st (s : Sl) (H1 : Hp) (i : Int) (j : Int) : VS := ⟨mkFr 28 [(0, .v (.slice s.a s.len s.cap)), (2, .v (.int .i64 i)), (3, .v (.int .i64 j))], [], H1⟩
noncomputable def slices_Reverse_sl_sorted_item_int_int_sorted_item_int_int.l1 (J : Jn) (s : Sl) (H1 : Hp) (i : Int) (j : Int) (Q : Value → Hp → Prop) : Prop := vAt Try.prog slices_Reverse_sl_sorted_item_int_int_sorted_item_int_int.cf J slices_Reverse_sl_sorted_item_int_int_sorted_item_int_int.fn [1, 0] [0] Q (slices_Reverse_sl_sorted_item_int_int_sorted_item_int_int.l1.st s H1 i j)
attribute [irreducible] slices_Reverse_sl_sorted_item_int_int_sorted_item_int_int.l1
noncomputable def slices_Reverse_sl_sorted_item_int_int_sorted_item_int_int.l1.body (J : Jn) (s : Sl) (H1 : Hp) (i : Int) (j : Int) (Q : Value → Hp → Prop) : Prop :=
 
 Br (decide (i < j)) (((0 : Int) ≤ j ∧ j < ((s.len : Nat) : Int)) ∧ vPtr s.a (fun a => ∃ key : Int, ∃ value : Int, RowAt H1 (a.add ((j : Int).toNat * 2)) [.int .i64 key, .int .i64 value] ∧ ((0 : Int) ≤ i ∧ i < ((s.len : Nat) : Int)) ∧ vPtr s.a (fun a1 => ∃ key1 : Int, ∃ value1 : Int, RowAt H1 (a1.add ((i : Int).toNat * 2)) [.int .i64 key1, .int .i64 value1] ∧ ((0 : Int) ≤ i ∧ i < ((s.len : Nat) : Int)) ∧ vPtr s.a (fun a2 => WrAt H1 (a2.add ((i : Int).toNat * 2)) 2 ∧ ((0 : Int) ≤ j ∧ j < ((s.len : Nat) : Int)) ∧ vPtr s.a (fun a3 => WrAt (Hp.setCells H1 (a2.add ((i : Int).toNat * 2)) [.int .i64 key, .int .i64 value] 0) (a3.add ((j : Int).toNat * 2)) 2 ∧ 
 slices_Reverse_sl_sorted_item_int_int_sorted_item_int_int.l1 J s (Hp.setCells (Hp.setCells H1 (a2.add ((i : Int).toNat * 2)) [.int .i64 key, .int .i64 value] 0) (a3.add ((j : Int).toNat * 2)) [.int .i64 key1, .int .i64 value1] 0) (w64 (i + 1)) (w64 (j - 1)) Q)))))
 (Q (.tuple #[]) H1)
theorem slices_Reverse_sl_sorted_item_int_int_sorted_item_int_int.l1.eq (J : Jn) (s : Sl) (H1 : Hp) (i : Int) (j : Int) (Q : Value → Hp → Prop) : vAtBody Try.prog slices_Reverse_sl_sorted_item_int_int_sorted_item_int_int.cf J slices_Reverse_sl_sorted_item_int_int_sorted_item_int_int.fn [1, 0] [0] Q (slices_Reverse_sl_sorted_item_int_int_sorted_item_int_int.l1.st s H1 i j) = slices_Reverse_sl_sorted_item_int_int_sorted_item_int_int.l1.body J s H1 i j Q := by kernel_rfl
theorem slices_Reverse_sl_sorted_item_int_int_sorted_item_int_int.l1.step {s : Sl} {H1 : Hp} {i : Int} {j : Int} {Q : Value → Hp → Prop} (h : slices_Reverse_sl_sorted_item_int_int_sorted_item_int_int.l1.body J0 s H1 i j Q) : slices_Reverse_sl_sorted_item_int_int_sorted_item_int_int.l1 J0 s H1 i j Q := vAt_stepC (slices_Reverse_sl_sorted_item_int_int_sorted_item_int_int.l1.st s H1 i j) (slices_Reverse_sl_sorted_item_int_int_sorted_item_int_int.l1.eq J0 s H1 i j Q) (by kernel_rfl) h
noncomputable def slices_Reverse_sl_sorted_item_int_int_sorted_item_int_int.vc (J : Jn) (s : Sl) (H : Hp) (Q : Value → Hp → Prop) : Prop :=
 
 slices_Reverse_sl_sorted_item_int_int_sorted_item_int_int.l1 J s H 0 (w64 (((s.len : Nat) : Int) - 1)) Q
theorem slices_Reverse_sl_sorted_item_int_int_sorted_item_int_int.eq (J : Jn) (s : Sl) (H : Hp) (Q : Value → Hp → Prop) : vFn Try.prog slices_Reverse_sl_sorted_item_int_int_sorted_item_int_int.cf J slices_Reverse_sl_sorted_item_int_int_sorted_item_int_int.fn [.slice s.a s.len s.cap] H Q = slices_Reverse_sl_sorted_item_int_int_sorted_item_int_int.vc J s H Q := by kernel_rfl
theorem slices_Reverse_sl_sorted_item_int_int_sorted_item_int_int.calls {s : Sl} {H : Hp} {Q : Value → Hp → Prop} (h : slices_Reverse_sl_sorted_item_int_int_sorted_item_int_int.vc J0 s H Q) : SCalls Try.prog slices_Reverse_sl_sorted_item_int_int_sorted_item_int_int.id [.slice s.a s.len s.cap] H Q := vFn_of Try.mixed Try.func64 (slices_Reverse_sl_sorted_item_int_int_sorted_item_int_int.eq J0 s H Q) h

/-! 65: slices.BinarySearchFunc___tephra/sorted.item_string, string_,tephra/sorted.item_string, string_,string_ -/
noncomputable def slices_BinarySearchFunc_sl_sorted_item_string_string_sorted_item_string_string_string.cf : Cfg := ⟨[], [(3, [0, 1, 2, 8, 9, 10])], [], [], true⟩
noncomputable def slices_BinarySearchFunc_sl_sorted_item_string_string_sorted_item_string_string_string.l1.st (x : Sl) (target : ByteArray) (cmp : Fv) (H1 : Hp) (i : Int) (j : Int) : VS := ⟨mkFr 49 [(0, .v (.slice x.a x.len x.cap)), (1, .v (.string target)), (2, .v (.func cmp.fn cmp.fi cmp.ca)), (8, .v (.int .i64 ((x.len : Nat) : Int))), (9, .v (.int .i64 i)), (10, .v (.int .i64 j))], [], H1⟩
noncomputable def slices_BinarySearchFunc_sl_sorted_item_string_string_sorted_item_string_string_string.l1 (J : Jn) (x : Sl) (target : ByteArray) (cmp : Fv) (H1 : Hp) (i : Int) (j : Int) (Q : Value → Hp → Prop) : Prop := vAt Try.prog slices_BinarySearchFunc_sl_sorted_item_string_string_sorted_item_string_string_string.cf J slices_BinarySearchFunc_sl_sorted_item_string_string_sorted_item_string_string_string.fn [1, 1, 1, 0, 0] [0, 0, 0, 0] Q (slices_BinarySearchFunc_sl_sorted_item_string_string_sorted_item_string_string_string.l1.st x target cmp H1 i j)
attribute [irreducible] slices_BinarySearchFunc_sl_sorted_item_string_string_sorted_item_string_string_string.l1
noncomputable def slices_BinarySearchFunc_sl_sorted_item_string_string_sorted_item_string_string_string.l1.body (J : Jn) (x : Sl) (target : ByteArray) (cmp : Fv) (H1 : Hp) (i : Int) (j : Int) (Q : Value → Hp → Prop) : Prop :=
 
 Br (decide (i < j)) ((0 : Int) ≤ 1 ∧ ((0 : Int) ≤ (w64 ((Int.fdiv (IntKind.u64.wrap ((w64 (i + j)))) (2 ^ 1)))) ∧ (w64 ((Int.fdiv (IntKind.u64.wrap ((w64 (i + j)))) (2 ^ 1)))) < ((x.len : Nat) : Int)) ∧ vPtr x.a (fun a => ∃ key : ByteArray, ∃ value : ByteArray, RowAt H1 (a.add (((w64 ((Int.fdiv (IntKind.u64.wrap ((w64 (i + j)))) (2 ^ 1)))) : Int).toNat * 2)) [.string key, .string value] ∧ 
 vInv Try.prog (.func cmp.fn cmp.fi cmp.ca) [.agg #[.string key, .string value], .string target] H1 (fun r H2 => ∃ x1 : Int, r = .int .i64 x1 ∧ 
 Br (decide (x1 < 0)) (
 slices_BinarySearchFunc_sl_sorted_item_string_string_sorted_item_string_string_string.l1 J x target cmp H2 (w64 ((w64 ((Int.fdiv (IntKind.u64.wrap ((w64 (i + j)))) (2 ^ 1)))) + 1)) j Q)
 (
 slices_BinarySearchFunc_sl_sorted_item_string_string_sorted_item_string_string_string.l1 J x target cmp H2 i (w64 ((Int.fdiv (IntKind.u64.wrap ((w64 (i + j)))) (2 ^ 1)))) Q))))
 (
 Br (decide (i < ((x.len : Nat) : Int))) (((0 : Int) ≤ i ∧ i < ((x.len : Nat) : Int)) ∧ vPtr x.a (fun a1 => ∃ key1 : ByteArray, ∃ value1 : ByteArray, RowAt H1 (a1.add ((i : Int).toNat * 2)) [.string key1, .string value1] ∧ 
 vInv Try.prog (.func cmp.fn cmp.fi cmp.ca) [.agg #[.string key1, .string value1], .string target] H1 (fun r1 H3 => ∃ x2 : Int, r1 = .int .i64 x2 ∧ Q (.tuple #[.int .i64 i, .bool (x2 == 0)]) H3)))
 (Q (.tuple #[.int .i64 i, .bool false]) H1))
theorem slices_BinarySearchFunc_sl_sorted_item_string_string_sorted_item_string_string_string.l1.eq (J : Jn) (x : Sl) (target : ByteArray) (cmp : Fv) (H1 : Hp) (i : Int) (j : Int) (Q : Value → Hp → Prop) : vAtBody Try.prog slices_BinarySearchFunc_sl_sorted_item_string_string_sorted_item_string_string_string.cf J slices_BinarySearchFunc_sl_sorted_item_string_string_sorted_item_string_string_string.fn [1, 1, 1, 0, 0] [0, 0, 0, 0] Q (slices_BinarySearchFunc_sl_sorted_item_string_string_sorted_item_string_string_string.l1.st x target cmp H1 i j) = slices_BinarySearchFunc_sl_sorted_item_string_string_sorted_item_string_string_string.l1.body J x target cmp H1 i j Q := by kernel_rfl
theorem slices_BinarySearchFunc_sl_sorted_item_string_string_sorted_item_string_string_string.l1.step {x : Sl} {target : ByteArray} {cmp : Fv} {H1 : Hp} {i : Int} {j : Int} {Q : Value → Hp → Prop} (h : slices_BinarySearchFunc_sl_sorted_item_string_string_sorted_item_string_string_string.l1.body J0 x target cmp H1 i j Q) : slices_BinarySearchFunc_sl_sorted_item_string_string_sorted_item_string_string_string.l1 J0 x target cmp H1 i j Q := vAt_stepC (slices_BinarySearchFunc_sl_sorted_item_string_string_sorted_item_string_string_string.l1.st x target cmp H1 i j) (slices_BinarySearchFunc_sl_sorted_item_string_string_sorted_item_string_string_string.l1.eq J0 x target cmp H1 i j Q) (by kernel_rfl) h
noncomputable def slices_BinarySearchFunc_sl_sorted_item_string_string_sorted_item_string_string_string.vc (J : Jn) (x : Sl) (target : ByteArray) (cmp : Fv) (H : Hp) (Q : Value → Hp → Prop) : Prop :=
 
 slices_BinarySearchFunc_sl_sorted_item_string_string_sorted_item_string_string_string.l1 J x target cmp H 0 ((x.len : Nat) : Int) Q
theorem slices_BinarySearchFunc_sl_sorted_item_string_string_sorted_item_string_string_string.eq (J : Jn) (x : Sl) (target : ByteArray) (cmp : Fv) (H : Hp) (Q : Value → Hp → Prop) : vFn Try.prog slices_BinarySearchFunc_sl_sorted_item_string_string_sorted_item_string_string_string.cf J slices_BinarySearchFunc_sl_sorted_item_string_string_sorted_item_string_string_string.fn [.slice x.a x.len x.cap, .string target, .func cmp.fn cmp.fi cmp.ca] H Q = slices_BinarySearchFunc_sl_sorted_item_string_string_sorted_item_string_string_string.vc J x target cmp H Q := by kernel_rfl
theorem slices_BinarySearchFunc_sl_sorted_item_string_string_sorted_item_string_string_string.calls {x : Sl} {target : ByteArray} {cmp : Fv} {H : Hp} {Q : Value → Hp → Prop} (h : slices_BinarySearchFunc_sl_sorted_item_string_string_sorted_item_string_string_string.vc J0 x target cmp H Q) : SCalls Try.prog slices_BinarySearchFunc_sl_sorted_item_string_string_sorted_item_string_string_string.id [.slice x.a x.len x.cap, .string target, .func cmp.fn cmp.fi cmp.ca] H Q := vFn_of Try.mixed Try.func65 (slices_BinarySearchFunc_sl_sorted_item_string_string_sorted_item_string_string_string.eq J0 x target cmp H Q) h

/-! 66: (*tephra/sorted.Map_string, string_).find$1 -/
noncomputable def sorted_Map_string_string_find_1.cf : Cfg := ⟨[2], [], [], [], true⟩
noncomputable def sorted_Map_string_string_find_1.vc (J : Jn) (xkey : ByteArray) (xvalue : ByteArray) (k : ByteArray) (H : Hp) (Q : Value → Hp → Prop) : Prop :=
 
 SCalls Try.prog cmp_Compare_string.id [.string xkey, .string k] (holes H 1) (fun r H1 => ∃ x : Int, r = .int .i64 x ∧ Q (.int .i64 x) H1)
theorem sorted_Map_string_string_find_1.eq (J : Jn) (xkey : ByteArray) (xvalue : ByteArray) (k : ByteArray) (H : Hp) (Q : Value → Hp → Prop) : vFn Try.prog sorted_Map_string_string_find_1.cf J sorted_Map_string_string_find_1.fn [.agg #[.string xkey, .string xvalue], .string k] H Q = sorted_Map_string_string_find_1.vc J xkey xvalue k H Q := by kernel_rfl
theorem sorted_Map_string_string_find_1.calls {xkey : ByteArray} {xvalue : ByteArray} {k : ByteArray} {H : Hp} {Q : Value → Hp → Prop} (h : sorted_Map_string_string_find_1.vc J0 xkey xvalue k H Q) : SCalls Try.prog sorted_Map_string_string_find_1.id [.agg #[.string xkey, .string xvalue], .string k] H Q := vFn_of Try.mixed Try.func66 (sorted_Map_string_string_find_1.eq J0 xkey xvalue k H Q) h

/-! 67: cmp.Compare_string_ -/
noncomputable def cmp_Compare_string.cf : Cfg := ⟨[], [], [], [], true⟩
noncomputable def cmp_Compare_string.vc (J : Jn) (x : ByteArray) (y : ByteArray) (H : Hp) (Q : Value → Hp → Prop) : Prop :=
 
 SCalls Try.prog cmp_isNaN_string.id [.string x] H (fun r H1 => ∃ x1 : Bool, r = .bool x1 ∧ 
 SCalls Try.prog cmp_isNaN_string.id [.string y] H1 (fun r1 H2 => ∃ x2 : Bool, r1 = .bool x2 ∧ 
 Br x1 (
 Br x2 (Q (.int .i64 0) H2)
 (Q (.int .i64 (-1)) H2))
 (
 Br x2 (Q (.int .i64 1) H2)
 (
 Br (Op.bytesLess x.toList y.toList) (Q (.int .i64 (-1)) H2)
 (
 Br (!((Op.bytesLess x.toList y.toList) || (x.toList == y.toList))) (Q (.int .i64 1) H2)
 (Q (.int .i64 0) H2))))))
theorem cmp_Compare_string.eq (J : Jn) (x : ByteArray) (y : ByteArray) (H : Hp) (Q : Value → Hp → Prop) : vFn Try.prog cmp_Compare_string.cf J cmp_Compare_string.fn [.string x, .string y] H Q = cmp_Compare_string.vc J x y H Q := by kernel_rfl
theorem cmp_Compare_string.calls {x : ByteArray} {y : ByteArray} {H : Hp} {Q : Value → Hp → Prop} (h : cmp_Compare_string.vc J0 x y H Q) : SCalls Try.prog cmp_Compare_string.id [.string x, .string y] H Q := vFn_of Try.mixed Try.func67 (cmp_Compare_string.eq J0 x y H Q) h

/-! 69: slices.rotateRight_tephra/sorted.item_string, string__ -/
noncomputable def slices_rotateRight_sorted_item_string_string.cf : Cfg := ⟨[], [], [], [], true⟩
noncomputable def slices_rotateRight_sorted_item_string_string.vc (J : Jn) (s : Sl) (r : Int) (H : Hp) (Q : Value → Hp → Prop) : Prop :=
 
 SCalls Try.prog slices_rotateLeft_sorted_item_string_string.id [.slice s.a s.len s.cap, .int .i64 (w64 (((s.len : Nat) : Int) - r))] H (fun r1 H1 => r1 = .tuple #[] ∧ Q (.tuple #[]) H1)
theorem slices_rotateRight_sorted_item_string_string.eq (J : Jn) (s : Sl) (r : Int) (H : Hp) (Q : Value → Hp → Prop) : vFn Try.prog slices_rotateRight_sorted_item_string_string.cf J slices_rotateRight_sorted_item_string_string.fn [.slice s.a s.len s.cap, .int .i64 r] H Q = slices_rotateRight_sorted_item_string_string.vc J s r H Q := by kernel_rfl
theorem slices_rotateRight_sorted_item_string_string.calls {s : Sl} {r : Int} {H : Hp} {Q : Value → Hp → Prop} (h : slices_rotateRight_sorted_item_string_string.vc J0 s r H Q) : SCalls Try.prog slices_rotateRight_sorted_item_string_string.id [.slice s.a s.len s.cap, .int .i64 r] H Q := vFn_of Try.mixed Try.func69 (slices_rotateRight_sorted_item_string_string.eq J0 s r H Q) h

/-! 70: slices.rotateLeft_tephra/sorted.item_int, tephra/api.Session__ -/
noncomputable def slices_rotateLeft_sorted_item_int_api_Session.cf : Cfg := ⟨[], [], [], [], true⟩
noncomputable def slices_rotateLeft_sorted_item_int_api_Session.vc (J : Jn) (s : Sl) (r : Int) (H : Hp) (Q : Value → Hp → Prop) : Prop :=
 ((0 : Int) ≤ r ∧ r ≤ ((s.cap : Nat) : Int)) ∧ 
 SCalls Try.prog slices_Reverse_sl_sorted_item_int_api_Session_sorted_item_int_api_Session.id [.slice (cutA s.a s.cap 0 5) ((r : Int).toNat) s.cap] H (fun r1 H1 => r1 = .tuple #[] ∧ ((0 : Int) ≤ r ∧ r ≤ ((s.len : Nat) : Int)) ∧ 
 SCalls Try.prog slices_Reverse_sl_sorted_item_int_api_Session_sorted_item_int_api_Session.id [.slice (cutA s.a s.cap ((r : Int).toNat) 5) (s.len - ((r : Int).toNat)) (s.cap - ((r : Int).toNat))] H1 (fun r2 H2 => r2 = .tuple #[] ∧ 
 SCalls Try.prog slices_Reverse_sl_sorted_item_int_api_Session_sorted_item_int_api_Session.id [.slice s.a s.len s.cap] H2 (fun r3 H3 => r3 = .tuple #[] ∧ Q (.tuple #[]) H3)))
theorem slices_rotateLeft_sorted_item_int_api_Session.eq (J : Jn) (s : Sl) (r : Int) (H : Hp) (Q : Value → Hp → Prop) : vFn Try.prog slices_rotateLeft_sorted_item_int_api_Session.cf J slices_rotateLeft_sorted_item_int_api_Session.fn [.slice s.a s.len s.cap, .int .i64 r] H Q = slices_rotateLeft_sorted_item_int_api_Session.vc J s r H Q := by kernel_rfl
theorem slices_rotateLeft_sorted_item_int_api_Session.calls {s : Sl} {r : Int} {H : Hp} {Q : Value → Hp → Prop} (h : slices_rotateLeft_sorted_item_int_api_Session.vc J0 s r H Q) : SCalls Try.prog slices_rotateLeft_sorted_item_int_api_Session.id [.slice s.a s.len s.cap, .int .i64 r] H Q := vFn_of Try.mixed Try.func70 (slices_rotateLeft_sorted_item_int_api_Session.eq J0 s r H Q) h

/-! 71: cmp.isNaN_string_ -/
noncomputable def cmp_isNaN_string.cf : Cfg := ⟨[], [], [], [], true⟩
noncomputable def cmp_isNaN_string.vc (J : Jn) (x : ByteArray) (H : Hp) (Q : Value → Hp → Prop) : Prop :=
 Q (.bool (!(x.toList == x.toList))) H
theorem cmp_isNaN_string.eq (J : Jn) (x : ByteArray) (H : Hp) (Q : Value → Hp → Prop) : vFn Try.prog cmp_isNaN_string.cf J cmp_isNaN_string.fn [.string x] H Q = cmp_isNaN_string.vc J x H Q := by kernel_rfl
theorem cmp_isNaN_string.calls {x : ByteArray} {H : Hp} {Q : Value → Hp → Prop} (h : cmp_isNaN_string.vc J0 x H Q) : SCalls Try.prog cmp_isNaN_string.id [.string x] H Q := vFn_of Try.mixed Try.func71 (cmp_isNaN_string.eq J0 x H Q) h

/-! 72: slices.rotateLeft_tephra/sorted.item_string, string__ -/
noncomputable def slices_rotateLeft_sorted_item_string_string.cf : Cfg := ⟨[], [], [], [], true⟩
noncomputable def slices_rotateLeft_sorted_item_string_string.vc (J : Jn) (s : Sl) (r : Int) (H : Hp) (Q : Value → Hp → Prop) : Prop :=
 ((0 : Int) ≤ r ∧ r ≤ ((s.cap : Nat) : Int)) ∧ 
 SCalls Try.prog slices_Reverse_sl_sorted_item_string_string_sorted_item_string_string.id [.slice (cutA s.a s.cap 0 2) ((r : Int).toNat) s.cap] H (fun r1 H1 => r1 = .tuple #[] ∧ ((0 : Int) ≤ r ∧ r ≤ ((s.len : Nat) : Int)) ∧ 
 SCalls Try.prog slices_Reverse_sl_sorted_item_string_string_sorted_item_string_string.id [.slice (cutA s.a s.cap ((r : Int).toNat) 2) (s.len - ((r : Int).toNat)) (s.cap - ((r : Int).toNat))] H1 (fun r2 H2 => r2 = .tuple #[] ∧ 
 SCalls Try.prog slices_Reverse_sl_sorted_item_string_string_sorted_item_string_string.id [.slice s.a s.len s.cap] H2 (fun r3 H3 => r3 = .tuple #[] ∧ Q (.tuple #[]) H3)))
theorem slices_rotateLeft_sorted_item_string_string.eq (J : Jn) (s : Sl) (r : Int) (H : Hp) (Q : Value → Hp → Prop) : vFn Try.prog slices_rotateLeft_sorted_item_string_string.cf J slices_rotateLeft_sorted_item_string_string.fn [.slice s.a s.len s.cap, .int .i64 r] H Q = slices_rotateLeft_sorted_item_string_string.vc J s r H Q := by kernel_rfl
theorem slices_rotateLeft_sorted_item_string_string.calls {s : Sl} {r : Int} {H : Hp} {Q : Value → Hp → Prop} (h : slices_rotateLeft_sorted_item_string_string.vc J0 s r H Q) : SCalls Try.prog slices_rotateLeft_sorted_item_string_string.id [.slice s.a s.len s.cap, .int .i64 r] H Q := vFn_of Try.mixed Try.func72 (slices_rotateLeft_sorted_item_string_string.eq J0 s r H Q) h

/-! 73: slices.Reverse___tephra/sorted.item_int, tephra/api.Session_,tephra/sorted.item_int, tephra/api.Session__ -/
noncomputable def slices_Reverse_sl_sorted_item_int_api_Session_sorted_item_int_api_Session.cf : Cfg := ⟨[], [(1, [0, 2, 3])], [], [], true⟩
noncomputable def slices_Reverse_sl_sorted_item_int_api_Session_sorted_item_int_api_Session.l1.st (s : Sl) (H1 : Hp) (i : Int) (j : Int) : VS := ⟨mkFr 28 [(0, .v (.slice s.a s.len s.cap)), (2, .v (.int .i64 i)), (3, .v (.int .i64 j))], [], H1⟩
noncomputable def slices_Reverse_sl_sorted_item_int_api_Session_sorted_item_int_api_Session.l1 (J : Jn) (s : Sl) (H1 : Hp) (i : Int) (j : Int) (Q : Value → Hp → Prop) : Prop := vAt Try.prog slices_Reverse_sl_sorted_item_int_api_Session_sorted_item_int_api_Session.cf J slices_Reverse_sl_sorted_item_int_api_Session_sorted_item_int_api_Session.fn [1, 0] [0] Q (slices_Reverse_sl_sorted_item_int_api_Session_sorted_item_int_api_Session.l1.st s H1 i j)
attribute [irreducible] slices_Reverse_sl_sorted_item_int_api_Session_sorted_item_int_api_Session.l1
noncomputable def slices_Reverse_sl_sorted_item_int_api_Session_sorted_item_int_api_Session.l1.body (J : Jn) (s : Sl) (H1 : Hp) (i : Int) (j : Int) (Q : Value → Hp → Prop) : Prop :=
 
 Br (decide (i < j)) (((0 : Int) ≤ j ∧ j < ((s.len : Nat) : Int)) ∧ vPtr s.a (fun a => ∃ key : Int, ∃ valueClient : Int, ∃ valueSeq : Int, ∃ valueReplyErr : Int, ∃ valueReplyValue : ByteArray, RowAt H1 (a.add ((j : Int).toNat * 5)) [.int .i64 key, .int .i64 valueClient, .int .i64 valueSeq, .int .i64 valueReplyErr, .string valueReplyValue] ∧ ((0 : Int) ≤ i ∧ i < ((s.len : Nat) : Int)) ∧ vPtr s.a (fun a1 => ∃ key1 : Int, ∃ valueClient1 : Int, ∃ valueSeq1 : Int, ∃ valueReplyErr1 : Int, ∃ valueReplyValue1 : ByteArray, RowAt H1 (a1.add ((i : Int).toNat * 5)) [.int .i64 key1, .int .i64 valueClient1, .int .i64 valueSeq1, .int .i64 valueReplyErr1, .string valueReplyValue1] ∧ ((0 : Int) ≤ i ∧ i < ((s.len : Nat) : Int)) ∧ vPtr s.a (fun a2 => WrAt H1 (a2.add ((i : Int).toNat * 5)) 5 ∧ ((0 : Int) ≤ j ∧ j < ((s.len : Nat) : Int)) ∧ vPtr s.a (fun a3 => WrAt (Hp.setCells H1 (a2.add ((i : Int).toNat * 5)) [.int .i64 key, .int .i64 valueClient, .int .i64 valueSeq, .int .i64 valueReplyErr, .string valueReplyValue] 0) (a3.add ((j : Int).toNat * 5)) 5 ∧ 
 slices_Reverse_sl_sorted_item_int_api_Session_sorted_item_int_api_Session.l1 J s (Hp.setCells (Hp.setCells H1 (a2.add ((i : Int).toNat * 5)) [.int .i64 key, .int .i64 valueClient, .int .i64 valueSeq, .int .i64 valueReplyErr, .string valueReplyValue] 0) (a3.add ((j : Int).toNat * 5)) [.int .i64 key1, .int .i64 valueClient1, .int .i64 valueSeq1, .int .i64 valueReplyErr1, .string valueReplyValue1] 0) (w64 (i + 1)) (w64 (j - 1)) Q)))))
 (Q (.tuple #[]) H1)
theorem slices_Reverse_sl_sorted_item_int_api_Session_sorted_item_int_api_Session.l1.eq (J : Jn) (s : Sl) (H1 : Hp) (i : Int) (j : Int) (Q : Value → Hp → Prop) : vAtBody Try.prog slices_Reverse_sl_sorted_item_int_api_Session_sorted_item_int_api_Session.cf J slices_Reverse_sl_sorted_item_int_api_Session_sorted_item_int_api_Session.fn [1, 0] [0] Q (slices_Reverse_sl_sorted_item_int_api_Session_sorted_item_int_api_Session.l1.st s H1 i j) = slices_Reverse_sl_sorted_item_int_api_Session_sorted_item_int_api_Session.l1.body J s H1 i j Q := by kernel_rfl
theorem slices_Reverse_sl_sorted_item_int_api_Session_sorted_item_int_api_Session.l1.step {s : Sl} {H1 : Hp} {i : Int} {j : Int} {Q : Value → Hp → Prop} (h : slices_Reverse_sl_sorted_item_int_api_Session_sorted_item_int_api_Session.l1.body J0 s H1 i j Q) : slices_Reverse_sl_sorted_item_int_api_Session_sorted_item_int_api_Session.l1 J0 s H1 i j Q := vAt_stepC (slices_Reverse_sl_sorted_item_int_api_Session_sorted_item_int_api_Session.l1.st s H1 i j) (slices_Reverse_sl_sorted_item_int_api_Session_sorted_item_int_api_Session.l1.eq J0 s H1 i j Q) (by kernel_rfl) h
noncomputable def slices_Reverse_sl_sorted_item_int_api_Session_sorted_item_int_api_Session.vc (J : Jn) (s : Sl) (H : Hp) (Q : Value → Hp → Prop) : Prop :=
 
 slices_Reverse_sl_sorted_item_int_api_Session_sorted_item_int_api_Session.l1 J s H 0 (w64 (((s.len : Nat) : Int) - 1)) Q
theorem slices_Reverse_sl_sorted_item_int_api_Session_sorted_item_int_api_Session.eq (J : Jn) (s : Sl) (H : Hp) (Q : Value → Hp → Prop) : vFn Try.prog slices_Reverse_sl_sorted_item_int_api_Session_sorted_item_int_api_Session.cf J slices_Reverse_sl_sorted_item_int_api_Session_sorted_item_int_api_Session.fn [.slice s.a s.len s.cap] H Q = slices_Reverse_sl_sorted_item_int_api_Session_sorted_item_int_api_Session.vc J s H Q := by kernel_rfl
theorem slices_Reverse_sl_sorted_item_int_api_Session_sorted_item_int_api_Session.calls {s : Sl} {H : Hp} {Q : Value → Hp → Prop} (h : slices_Reverse_sl_sorted_item_int_api_Session_sorted_item_int_api_Session.vc J0 s H Q) : SCalls Try.prog slices_Reverse_sl_sorted_item_int_api_Session_sorted_item_int_api_Session.id [.slice s.a s.len s.cap] H Q := vFn_of Try.mixed Try.func73 (slices_Reverse_sl_sorted_item_int_api_Session_sorted_item_int_api_Session.eq J0 s H Q) h

/-! 74: slices.Reverse___tephra/sorted.item_string, string_,tephra/sorted.item_string, string__ -/
noncomputable def slices_Reverse_sl_sorted_item_string_string_sorted_item_string_string.cf : Cfg := ⟨[], [(1, [0, 2, 3])], [], [], true⟩
noncomputable def slices_Reverse_sl_sorted_item_string_string_sorted_item_string_string.l1.st (s : Sl) (H1 : Hp) (i : Int) (j : Int) : VS := ⟨mkFr 28 [(0, .v (.slice s.a s.len s.cap)), (2, .v (.int .i64 i)), (3, .v (.int .i64 j))], [], H1⟩
noncomputable def slices_Reverse_sl_sorted_item_string_string_sorted_item_string_string.l1 (J : Jn) (s : Sl) (H1 : Hp) (i : Int) (j : Int) (Q : Value → Hp → Prop) : Prop := vAt Try.prog slices_Reverse_sl_sorted_item_string_string_sorted_item_string_string.cf J slices_Reverse_sl_sorted_item_string_string_sorted_item_string_string.fn [1, 0] [0] Q (slices_Reverse_sl_sorted_item_string_string_sorted_item_string_string.l1.st s H1 i j)
attribute [irreducible] slices_Reverse_sl_sorted_item_string_string_sorted_item_string_string.l1
noncomputable def slices_Reverse_sl_sorted_item_string_string_sorted_item_string_string.l1.body (J : Jn) (s : Sl) (H1 : Hp) (i : Int) (j : Int) (Q : Value → Hp → Prop) : Prop :=
 
 Br (decide (i < j)) (((0 : Int) ≤ j ∧ j < ((s.len : Nat) : Int)) ∧ vPtr s.a (fun a => ∃ key : ByteArray, ∃ value : ByteArray, RowAt H1 (a.add ((j : Int).toNat * 2)) [.string key, .string value] ∧ ((0 : Int) ≤ i ∧ i < ((s.len : Nat) : Int)) ∧ vPtr s.a (fun a1 => ∃ key1 : ByteArray, ∃ value1 : ByteArray, RowAt H1 (a1.add ((i : Int).toNat * 2)) [.string key1, .string value1] ∧ ((0 : Int) ≤ i ∧ i < ((s.len : Nat) : Int)) ∧ vPtr s.a (fun a2 => WrAt H1 (a2.add ((i : Int).toNat * 2)) 2 ∧ ((0 : Int) ≤ j ∧ j < ((s.len : Nat) : Int)) ∧ vPtr s.a (fun a3 => WrAt (Hp.setCells H1 (a2.add ((i : Int).toNat * 2)) [.string key, .string value] 0) (a3.add ((j : Int).toNat * 2)) 2 ∧ 
 slices_Reverse_sl_sorted_item_string_string_sorted_item_string_string.l1 J s (Hp.setCells (Hp.setCells H1 (a2.add ((i : Int).toNat * 2)) [.string key, .string value] 0) (a3.add ((j : Int).toNat * 2)) [.string key1, .string value1] 0) (w64 (i + 1)) (w64 (j - 1)) Q)))))
 (Q (.tuple #[]) H1)
theorem slices_Reverse_sl_sorted_item_string_string_sorted_item_string_string.l1.eq (J : Jn) (s : Sl) (H1 : Hp) (i : Int) (j : Int) (Q : Value → Hp → Prop) : vAtBody Try.prog slices_Reverse_sl_sorted_item_string_string_sorted_item_string_string.cf J slices_Reverse_sl_sorted_item_string_string_sorted_item_string_string.fn [1, 0] [0] Q (slices_Reverse_sl_sorted_item_string_string_sorted_item_string_string.l1.st s H1 i j) = slices_Reverse_sl_sorted_item_string_string_sorted_item_string_string.l1.body J s H1 i j Q := by kernel_rfl
theorem slices_Reverse_sl_sorted_item_string_string_sorted_item_string_string.l1.step {s : Sl} {H1 : Hp} {i : Int} {j : Int} {Q : Value → Hp → Prop} (h : slices_Reverse_sl_sorted_item_string_string_sorted_item_string_string.l1.body J0 s H1 i j Q) : slices_Reverse_sl_sorted_item_string_string_sorted_item_string_string.l1 J0 s H1 i j Q := vAt_stepC (slices_Reverse_sl_sorted_item_string_string_sorted_item_string_string.l1.st s H1 i j) (slices_Reverse_sl_sorted_item_string_string_sorted_item_string_string.l1.eq J0 s H1 i j Q) (by kernel_rfl) h
noncomputable def slices_Reverse_sl_sorted_item_string_string_sorted_item_string_string.vc (J : Jn) (s : Sl) (H : Hp) (Q : Value → Hp → Prop) : Prop :=
 
 slices_Reverse_sl_sorted_item_string_string_sorted_item_string_string.l1 J s H 0 (w64 (((s.len : Nat) : Int) - 1)) Q
theorem slices_Reverse_sl_sorted_item_string_string_sorted_item_string_string.eq (J : Jn) (s : Sl) (H : Hp) (Q : Value → Hp → Prop) : vFn Try.prog slices_Reverse_sl_sorted_item_string_string_sorted_item_string_string.cf J slices_Reverse_sl_sorted_item_string_string_sorted_item_string_string.fn [.slice s.a s.len s.cap] H Q = slices_Reverse_sl_sorted_item_string_string_sorted_item_string_string.vc J s H Q := by kernel_rfl
theorem slices_Reverse_sl_sorted_item_string_string_sorted_item_string_string.calls {s : Sl} {H : Hp} {Q : Value → Hp → Prop} (h : slices_Reverse_sl_sorted_item_string_string_sorted_item_string_string.vc J0 s H Q) : SCalls Try.prog slices_Reverse_sl_sorted_item_string_string_sorted_item_string_string.id [.slice s.a s.len s.cap] H Q := vFn_of Try.mixed Try.func74 (slices_Reverse_sl_sorted_item_string_string_sorted_item_string_string.eq J0 s H Q) h

end Go.Proofs
