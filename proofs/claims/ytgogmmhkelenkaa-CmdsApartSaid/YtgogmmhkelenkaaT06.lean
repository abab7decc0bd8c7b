/- THE SEAT'S CODE, AS WALKED: for each function what is to be shown of it (printed by the own program gen.py), held by the kernel. -/
import Derived.Test.YtgogmmhkelenkaaProg
import Derived.Test.YtgogmmhkelenkaaKc13
set_option maxRecDepth 100000
set_option linter.all false
set_option linter.constructorNameAsVariable false
namespace Go.Proofs
open Go Go.KC
theorem Try.mixed : Try.prog.follows .mixedOrders = true := by kernel_rfl
abbrev tephralaw06_CmdsMay.id : Nat := 3
noncomputable abbrev tephralaw06_CmdsMay.fn : Func := Try.f3
abbrev tephralaw06_CmdsRight.id : Nat := 4
noncomputable abbrev tephralaw06_CmdsRight.fn : Func := Try.f4
abbrev tephralaw06_CmdsRow.id : Nat := 5
noncomputable abbrev tephralaw06_CmdsRow.fn : Func := Try.f5
abbrev tephralaw06_CmdsBytes.id : Nat := 6
noncomputable abbrev tephralaw06_CmdsBytes.fn : Func := Try.f6
abbrev tephralaw06_CmdsRead.id : Nat := 7
noncomputable abbrev tephralaw06_CmdsRead.fn : Func := Try.f7
abbrev tephralaw06_CmdsApart.id : Nat := 8
noncomputable abbrev tephralaw06_CmdsApart.fn : Func := Try.f8
abbrev tephralaw06_CmdsParts.id : Nat := 9
noncomputable abbrev tephralaw06_CmdsParts.fn : Func := Try.f9
abbrev tephralaw06_awake.id : Nat := 10
noncomputable abbrev tephralaw06_awake.fn : Func := Try.f10
abbrev tephralaw06_Say_Cmd.id : Nat := 11
noncomputable abbrev tephralaw06_Say_Cmd.fn : Func := Try.f11
abbrev cmds_May.id : Nat := 12
noncomputable abbrev cmds_May.fn : Func := Try.f12
abbrev tephralaw06_may.id : Nat := 13
noncomputable abbrev tephralaw06_may.fn : Func := Try.f13
abbrev cmds_Right.id : Nat := 14
noncomputable abbrev cmds_Right.fn : Func := Try.f14
abbrev tephralaw06_right.id : Nat := 15
noncomputable abbrev tephralaw06_right.fn : Func := Try.f15
abbrev tephralaw06_Entries.id : Nat := 16
noncomputable abbrev tephralaw06_Entries.fn : Func := Try.f16
abbrev cmds_Row.id : Nat := 17
noncomputable abbrev cmds_Row.fn : Func := Try.f17
abbrev cmds_Bytes.id : Nat := 18
noncomputable abbrev cmds_Bytes.fn : Func := Try.f18
abbrev cmds_Read.id : Nat := 19
noncomputable abbrev cmds_Read.fn : Func := Try.f19
abbrev tephralaw06_bytes.id : Nat := 20
noncomputable abbrev tephralaw06_bytes.fn : Func := Try.f20
abbrev pack_Writer_Num.id : Nat := 21
noncomputable abbrev pack_Writer_Num.fn : Func := Try.f21
abbrev cmds_put.id : Nat := 22
noncomputable abbrev cmds_put.fn : Func := Try.f22
abbrev pack_Writer_Bytes.id : Nat := 23
noncomputable abbrev pack_Writer_Bytes.fn : Func := Try.f23
abbrev pack_Of.id : Nat := 24
noncomputable abbrev pack_Of.fn : Func := Try.f24
abbrev pack_Reader_Num.id : Nat := 25
noncomputable abbrev pack_Reader_Num.fn : Func := Try.f25
abbrev cmds_get.id : Nat := 26
noncomputable abbrev cmds_get.fn : Func := Try.f26
abbrev pack_Reader_Done.id : Nat := 27
noncomputable abbrev pack_Reader_Done.fn : Func := Try.f27
abbrev pack_Writer_Byte.id : Nat := 28
noncomputable abbrev pack_Writer_Byte.fn : Func := Try.f28
abbrev pack_Writer_Text.id : Nat := 29
noncomputable abbrev pack_Writer_Text.fn : Func := Try.f29
abbrev pack_Reader_take.id : Nat := 30
noncomputable abbrev pack_Reader_take.fn : Func := Try.f30
abbrev pack_Reader_Byte.id : Nat := 31
noncomputable abbrev pack_Reader_Byte.fn : Func := Try.f31
abbrev pack_Reader_Text.id : Nat := 32
noncomputable abbrev pack_Reader_Text.fn : Func := Try.f32
abbrev T_ : Nat := 0
abbrev T_func : Nat := 1
abbrev T_int64 : Nat := 2
abbrev T_int : Nat := 3
abbrev T_bool : Nat := 4
abbrev T_uint8 : Nat := 5
abbrev T_abi_BoundsErrorCode : Nat := 6
abbrev T_struct_x_int64_y_int_signed_bool_code_abi_BoundsErrorCode : Nat := 7
abbrev T_runtime_boundsError : Nat := 8
abbrev T_string : Nat := 9
abbrev T_runtime_errorString : Nat := 10
abbrev T_runtime_plainError : Nat := 11
abbrev T_uintptr : Nat := 12
abbrev T_struct_msg_string_addr_uintptr : Nat := 13
abbrev T_runtime_errorAddressString : Nat := 14
abbrev T_p_runtime_TypeAssertionError : Nat := 15
abbrev T_p_runtime_PanicNilError : Nat := 16
abbrev T_p_abi_Type : Nat := 17
abbrev T_struct_typ_p_abi_Type : Nat := 18
abbrev T_maps_unhashableTypeError : Nat := 19
abbrev T_interface : Nat := 20
abbrev T_int32 : Nat := 21
abbrev T_api_Op : Nat := 22
abbrev T_struct_Op_api_Op_Client_int_Seq_int_Key_string_Value_string_ : Nat := 23
abbrev T_api_Cmd : Nat := 24
abbrev T_struct_Op_uint8_Client_uint8_Seq_uint8_Key_uint8_Value_uint8 : Nat := 25
abbrev T_tephralaw06_Say : Nat := 26
abbrev T_func_bool : Nat := 27
abbrev T_func_api_Cmd : Nat := 28
abbrev T_func_api_Cmd_bool : Nat := 29
abbrev T_func_api_Cmd_tephralaw06_Say_uint8_int_string_bool : Nat := 30
abbrev T_struct_Index_int_Term_int_Cmd_api_Cmd : Nat := 31
abbrev T_api_Entry : Nat := 32
abbrev T_func_api_Entry_bool : Nat := 33
abbrev T_func_api_Entry_tephralaw06_Say_int_int_bool : Nat := 34
abbrev T_sl_tephralaw06_Say : Nat := 35
abbrev T_uint16 : Nat := 36
abbrev T_sl_api_Entry : Nat := 37
abbrev T_func_sl_tephralaw06_Say_int_int_sl_api_Entry : Nat := 38
abbrev T_func_sl_api_Entry_int_bool : Nat := 39
abbrev T_sl_sl_api_Entry : Nat := 40
abbrev T_func_sl_tephralaw06_Say_uint16_uint8_api_Entry_sl_api_Entry_ : Nat := 41
abbrev T_sl_uint8 : Nat := 42
abbrev T_func_api_Entry_sl_uint8 : Nat := 43
abbrev T_api_Entry_bool : Nat := 44
abbrev T_func_sl_uint8_api_Entry_bool : Nat := 45
abbrev T_func_api_Entry_string : Nat := 46
abbrev T_func_api_Entry_sl_tephralaw06_Say_bool : Nat := 47
abbrev T_sl_sl_uint8 : Nat := 48
abbrev T_func_sl_uint8_tephralaw06_Say_uint8_uint8_bool : Nat := 49
abbrev T_func_tephralaw06_Say_tephralaw06_Say_uint8_uint8_bool : Nat := 50
abbrev T_func_sl_tephralaw06_Say_uint8_uint8_bool : Nat := 51
abbrev T_p_pack_Writer : Nat := 52
abbrev T_struct_b_sl_uint8 : Nat := 53
abbrev T_pack_Writer : Nat := 54
abbrev T_func_int_p_pack_Writer : Nat := 55
abbrev T_func_p_pack_Writer_api_Cmd : Nat := 56
abbrev T_func_sl_uint8 : Nat := 57
abbrev T_p_pack_Reader : Nat := 58
abbrev T_func_sl_uint8_p_pack_Reader : Nat := 59
abbrev T_func_int : Nat := 60
abbrev T_func_p_pack_Reader_api_Cmd : Nat := 61
abbrev T_func_uint8_p_pack_Writer : Nat := 62
abbrev T_func_string_p_pack_Writer : Nat := 63
abbrev T_struct_b_sl_uint8_bad_bool : Nat := 64
abbrev T_pack_Reader : Nat := 65
abbrev T_func_int_sl_uint8 : Nat := 66
abbrev T_uint : Nat := 67
abbrev T_func_uint8 : Nat := 68
abbrev T_func_string : Nat := 69
abbrev T_struct__interface_p_abi_Type_concrete_p_abi_Type_asserted_p_ : Nat := 70
abbrev T_runtime_TypeAssertionError : Nat := 71
abbrev T_0_p_runtime_PanicNilError : Nat := 72
abbrev T_struct___0_p_runtime_PanicNilError : Nat := 73
abbrev T_runtime_PanicNilError : Nat := 74
abbrev T_uint32 : Nat := 75
abbrev T_abi_TFlag : Nat := 76
abbrev T_abi_Kind : Nat := 77
abbrev T_func_unsafe_Pointer_unsafe_Pointer_bool : Nat := 78
abbrev T_p_uint8 : Nat := 79
abbrev T_abi_NameOff : Nat := 80
abbrev T_abi_TypeOff : Nat := 81
abbrev T_struct_Size__uintptr_PtrBytes_uintptr_Hash_uint32_TFlag_abi_ : Nat := 82
abbrev T_abi_Type : Nat := 83
abbrev T_unsafe_Pointer : Nat := 84

/-! 3: tephra/tephralaw06.CmdsMay -/
def tephralaw06_CmdsMay.cf : Cfg := ⟨[5, 6, 11], [], [(19, [5, 11], true)], []⟩
def tephralaw06_CmdsMay.k1.st (cOp : Int) (cClient : Int) (cSeq : Int) (cKey : ByteArray) (cValue : ByteArray) (cOld : ByteArray) (sOp : Int) (sClient : Int) (sSeq : Int) (sKey : Int) (sValue : Int) (sOld : Int) (H3 : Hp) (y : Int) (y1 : Int) (y2 : Int) (y3 : ByteArray) (y4 : ByteArray) (y5 : ByteArray) : VS := ⟨mkFr 57 [(5, .loc 0 0), (11, .loc 2 0)], [(T_api_Cmd, [.int .i64 cOp, .int .i64 cClient, .int .i64 cSeq, .string cKey, .string cValue, .string cOld]), (T_tephralaw06_Say, [.int .u8 sOp, .int .u8 sClient, .int .u8 sSeq, .int .u8 sKey, .int .u8 sValue, .int .u8 sOld]), (T_api_Cmd, [.int .i64 y, .int .i64 y1, .int .i64 y2, .string y3, .string y4, .string y5])], H3⟩
def tephralaw06_CmdsMay.k1 (J : Jn) (cOp : Int) (cClient : Int) (cSeq : Int) (cKey : ByteArray) (cValue : ByteArray) (cOld : ByteArray) (sOp : Int) (sClient : Int) (sSeq : Int) (sKey : Int) (sValue : Int) (sOld : Int) (H3 : Hp) (y : Int) (y1 : Int) (y2 : Int) (y3 : ByteArray) (y4 : ByteArray) (y5 : ByteArray) (Q : Value → Hp → Prop) : Prop := J (vSeg Try.prog tephralaw06_CmdsMay.cf J tephralaw06_CmdsMay.fn [1, 1, 1, 1, 1] [0, 2, 2, 3, 3] Q) (tephralaw06_CmdsMay.k1.st cOp cClient cSeq cKey cValue cOld sOp sClient sSeq sKey sValue sOld H3 y y1 y2 y3 y4 y5)
attribute [irreducible] tephralaw06_CmdsMay.k1
def tephralaw06_CmdsMay.k1.body (J : Jn) (cOp : Int) (cClient : Int) (cSeq : Int) (cKey : ByteArray) (cValue : ByteArray) (cOld : ByteArray) (sOp : Int) (sClient : Int) (sSeq : Int) (sKey : Int) (sValue : Int) (sOld : Int) (H3 : Hp) (y : Int) (y1 : Int) (y2 : Int) (y3 : ByteArray) (y4 : ByteArray) (y5 : ByteArray) (Q : Value → Hp → Prop) : Prop :=
 
 SCalls Try.prog cmds_May.id [.agg #[.int .i64 cOp, .int .i64 cClient, .int .i64 cSeq, .string cKey, .string cValue, .string cOld]] H3 (fun r3 H4 => ∃ x2 : Bool, r3 = .bool x2 ∧ 
 SCalls Try.prog tephralaw06_may.id [.agg #[.int .i64 cOp, .int .i64 cClient, .int .i64 cSeq, .string cKey, .string cValue, .string cOld]] H4 (fun r4 H5 => ∃ x3 : Bool, r4 = .bool x3 ∧ 
 Br (x2 == x3) (
 SCalls Try.prog cmds_May.id [.agg #[.int .i64 y, .int .i64 y1, .int .i64 y2, .string y3, .string y4, .string y5]] H5 (fun r5 H6 => ∃ x4 : Bool, r5 = .bool x4 ∧ 
 SCalls Try.prog tephralaw06_may.id [.agg #[.int .i64 y, .int .i64 y1, .int .i64 y2, .string y3, .string y4, .string y5]] H6 (fun r6 H7 => ∃ x5 : Bool, r6 = .bool x5 ∧ Q (.bool (x4 == x5)) H7)))
 (Q (.bool false) H5)))
theorem tephralaw06_CmdsMay.k1.eq (J : Jn) (cOp : Int) (cClient : Int) (cSeq : Int) (cKey : ByteArray) (cValue : ByteArray) (cOld : ByteArray) (sOp : Int) (sClient : Int) (sSeq : Int) (sKey : Int) (sValue : Int) (sOld : Int) (H3 : Hp) (y : Int) (y1 : Int) (y2 : Int) (y3 : ByteArray) (y4 : ByteArray) (y5 : ByteArray) (Q : Value → Hp → Prop) : vSeg Try.prog tephralaw06_CmdsMay.cf J tephralaw06_CmdsMay.fn [1, 1, 1, 1, 1] [0, 2, 2, 3, 3] Q (tephralaw06_CmdsMay.k1.st cOp cClient cSeq cKey cValue cOld sOp sClient sSeq sKey sValue sOld H3 y y1 y2 y3 y4 y5) = tephralaw06_CmdsMay.k1.body J cOp cClient cSeq cKey cValue cOld sOp sClient sSeq sKey sValue sOld H3 y y1 y2 y3 y4 y5 Q := by kernel_rfl
theorem tephralaw06_CmdsMay.k1.step {cOp : Int} {cClient : Int} {cSeq : Int} {cKey : ByteArray} {cValue : ByteArray} {cOld : ByteArray} {sOp : Int} {sClient : Int} {sSeq : Int} {sKey : Int} {sValue : Int} {sOld : Int} {H3 : Hp} {y : Int} {y1 : Int} {y2 : Int} {y3 : ByteArray} {y4 : ByteArray} {y5 : ByteArray} {Q : Value → Hp → Prop} (h : tephralaw06_CmdsMay.k1.body J0 cOp cClient cSeq cKey cValue cOld sOp sClient sSeq sKey sValue sOld H3 y y1 y2 y3 y4 y5 Q) : tephralaw06_CmdsMay.k1 J0 cOp cClient cSeq cKey cValue cOld sOp sClient sSeq sKey sValue sOld H3 y y1 y2 y3 y4 y5 Q := step_of (vSeg Try.prog tephralaw06_CmdsMay.cf J0 tephralaw06_CmdsMay.fn [1, 1, 1, 1, 1] [0, 2, 2, 3, 3] Q) (tephralaw06_CmdsMay.k1.st cOp cClient cSeq cKey cValue cOld sOp sClient sSeq sKey sValue sOld H3 y y1 y2 y3 y4 y5) (tephralaw06_CmdsMay.k1.eq J0 cOp cClient cSeq cKey cValue cOld sOp sClient sSeq sKey sValue sOld H3 y y1 y2 y3 y4 y5 Q) (by kernel_rfl) h
def tephralaw06_CmdsMay.vc (J : Jn) (cOp : Int) (cClient : Int) (cSeq : Int) (cKey : ByteArray) (cValue : ByteArray) (cOld : ByteArray) (sOp : Int) (sClient : Int) (sSeq : Int) (sKey : Int) (sValue : Int) (sOld : Int) (part : Int) (n : Int) (t : ByteArray) (H : Hp) (Q : Value → Hp → Prop) : Prop :=
 
 SCalls Try.prog tephralaw06_awake.id [] (holes H 2) (fun r H1 => ∃ x : Bool, r = .bool x ∧ 
 Br (!x) (Q (.bool false) H1)
 (
 SCalls Try.prog tephralaw06_Say_Cmd.id [.agg #[.int .u8 sOp, .int .u8 sClient, .int .u8 sSeq, .int .u8 sKey, .int .u8 sValue, .int .u8 sOld]] H1 (fun r1 H2 => ∃ Opv : Int, ∃ Client : Int, ∃ Seq : Int, ∃ Key : ByteArray, ∃ Valuev : ByteArray, ∃ Old : ByteArray, r1 = .agg #[.int .i64 Opv, .int .i64 Client, .int .i64 Seq, .string Key, .string Valuev, .string Old] ∧ 
 SCalls Try.prog cmds_May.id [.agg #[.int .i64 Opv, .int .i64 Client, .int .i64 Seq, .string Key, .string Valuev, .string Old]] (holes H2 1) (fun r2 H3 => ∃ x1 : Bool, r2 = .bool x1 ∧ 
 Br (!x1) (Q (.bool false) H3)
 ((7 : Int) ≠ 0 ∧ 
 Br ((Int.tmod part 7) == 0) (
 tephralaw06_CmdsMay.k1 J cOp cClient cSeq cKey cValue cOld sOp sClient sSeq sKey sValue sOld H3 n Client Seq Key Valuev Old Q)
 (
 Br ((Int.tmod part 7) == 1) (
 tephralaw06_CmdsMay.k1 J cOp cClient cSeq cKey cValue cOld sOp sClient sSeq sKey sValue sOld H3 Opv n Seq Key Valuev Old Q)
 (
 Br ((Int.tmod part 7) == 2) (
 tephralaw06_CmdsMay.k1 J cOp cClient cSeq cKey cValue cOld sOp sClient sSeq sKey sValue sOld H3 Opv Client n Key Valuev Old Q)
 (
 Br ((Int.tmod part 7) == 3) (
 tephralaw06_CmdsMay.k1 J cOp cClient cSeq cKey cValue cOld sOp sClient sSeq sKey sValue sOld H3 Opv Client Seq t Valuev Old Q)
 (
 Br ((Int.tmod part 7) == 4) (
 tephralaw06_CmdsMay.k1 J cOp cClient cSeq cKey cValue cOld sOp sClient sSeq sKey sValue sOld H3 Opv Client Seq Key t Old Q)
 (
 Br ((Int.tmod part 7) == 5) (
 tephralaw06_CmdsMay.k1 J cOp cClient cSeq cKey cValue cOld sOp sClient sSeq sKey sValue sOld H3 Opv Client Seq Key Valuev t Q)
 (
 tephralaw06_CmdsMay.k1 J cOp cClient cSeq cKey cValue cOld sOp sClient sSeq sKey sValue sOld H3 Opv Client Seq Key Valuev Old Q)))))))))))
theorem tephralaw06_CmdsMay.eq (J : Jn) (cOp : Int) (cClient : Int) (cSeq : Int) (cKey : ByteArray) (cValue : ByteArray) (cOld : ByteArray) (sOp : Int) (sClient : Int) (sSeq : Int) (sKey : Int) (sValue : Int) (sOld : Int) (part : Int) (n : Int) (t : ByteArray) (H : Hp) (Q : Value → Hp → Prop) : vFn Try.prog tephralaw06_CmdsMay.cf J tephralaw06_CmdsMay.fn [.agg #[.int .i64 cOp, .int .i64 cClient, .int .i64 cSeq, .string cKey, .string cValue, .string cOld], .agg #[.int .u8 sOp, .int .u8 sClient, .int .u8 sSeq, .int .u8 sKey, .int .u8 sValue, .int .u8 sOld], .int .u8 part, .int .i64 n, .string t] H Q = tephralaw06_CmdsMay.vc J cOp cClient cSeq cKey cValue cOld sOp sClient sSeq sKey sValue sOld part n t H Q := by kernel_rfl
theorem tephralaw06_CmdsMay.calls {cOp : Int} {cClient : Int} {cSeq : Int} {cKey : ByteArray} {cValue : ByteArray} {cOld : ByteArray} {sOp : Int} {sClient : Int} {sSeq : Int} {sKey : Int} {sValue : Int} {sOld : Int} {part : Int} {n : Int} {t : ByteArray} {H : Hp} {Q : Value → Hp → Prop} (h : tephralaw06_CmdsMay.vc J0 cOp cClient cSeq cKey cValue cOld sOp sClient sSeq sKey sValue sOld part n t H Q) : SCalls Try.prog tephralaw06_CmdsMay.id [.agg #[.int .i64 cOp, .int .i64 cClient, .int .i64 cSeq, .string cKey, .string cValue, .string cOld], .agg #[.int .u8 sOp, .int .u8 sClient, .int .u8 sSeq, .int .u8 sKey, .int .u8 sValue, .int .u8 sOld], .int .u8 part, .int .i64 n, .string t] H Q := vFn_of Try.mixed Try.func3 (tephralaw06_CmdsMay.eq J0 cOp cClient cSeq cKey cValue cOld sOp sClient sSeq sKey sValue sOld part n t H Q) h

/-! 4: tephra/tephralaw06.CmdsRight -/
def tephralaw06_CmdsRight.cf : Cfg := ⟨[4, 5, 9], [], [], []⟩
def tephralaw06_CmdsRight.vc (J : Jn) (eIndex : Int) (eTerm : Int) (eCmdOp : Int) (eCmdClient : Int) (eCmdSeq : Int) (eCmdKey : ByteArray) (eCmdValue : ByteArray) (eCmdOld : ByteArray) (sOp : Int) (sClient : Int) (sSeq : Int) (sKey : Int) (sValue : Int) (sOld : Int) (n : Int) (m : Int) (H : Hp) (Q : Value → Hp → Prop) : Prop :=
 
 SCalls Try.prog tephralaw06_awake.id [] (holes H 2) (fun r H1 => ∃ x : Bool, r = .bool x ∧ 
 Br (!x) (Q (.bool false) H1)
 (
 SCalls Try.prog tephralaw06_Say_Cmd.id [.agg #[.int .u8 sOp, .int .u8 sClient, .int .u8 sSeq, .int .u8 sKey, .int .u8 sValue, .int .u8 sOld]] H1 (fun r1 H2 => ∃ Opv : Int, ∃ Client : Int, ∃ Seq : Int, ∃ Key : ByteArray, ∃ Valuev : ByteArray, ∃ Old : ByteArray, r1 = .agg #[.int .i64 Opv, .int .i64 Client, .int .i64 Seq, .string Key, .string Valuev, .string Old] ∧ 
 SCalls Try.prog cmds_Right.id [.agg #[.int .i64 eIndex, .int .i64 eTerm, .int .i64 eCmdOp, .int .i64 eCmdClient, .int .i64 eCmdSeq, .string eCmdKey, .string eCmdValue, .string eCmdOld]] (holes H2 1) (fun r2 H3 => ∃ x1 : Bool, r2 = .bool x1 ∧ 
 SCalls Try.prog tephralaw06_right.id [.agg #[.int .i64 eIndex, .int .i64 eTerm, .int .i64 eCmdOp, .int .i64 eCmdClient, .int .i64 eCmdSeq, .string eCmdKey, .string eCmdValue, .string eCmdOld]] H3 (fun r3 H4 => ∃ x2 : Bool, r3 = .bool x2 ∧ 
 Br (x1 == x2) (
 SCalls Try.prog cmds_Right.id [.agg #[.int .i64 n, .int .i64 m, .int .i64 Opv, .int .i64 Client, .int .i64 Seq, .string Key, .string Valuev, .string Old]] H4 (fun r4 H5 => ∃ x3 : Bool, r4 = .bool x3 ∧ 
 SCalls Try.prog tephralaw06_right.id [.agg #[.int .i64 n, .int .i64 m, .int .i64 Opv, .int .i64 Client, .int .i64 Seq, .string Key, .string Valuev, .string Old]] H5 (fun r5 H6 => ∃ x4 : Bool, r5 = .bool x4 ∧ Q (.bool (x3 == x4)) H6)))
 (Q (.bool false) H4))))))
theorem tephralaw06_CmdsRight.eq (J : Jn) (eIndex : Int) (eTerm : Int) (eCmdOp : Int) (eCmdClient : Int) (eCmdSeq : Int) (eCmdKey : ByteArray) (eCmdValue : ByteArray) (eCmdOld : ByteArray) (sOp : Int) (sClient : Int) (sSeq : Int) (sKey : Int) (sValue : Int) (sOld : Int) (n : Int) (m : Int) (H : Hp) (Q : Value → Hp → Prop) : vFn Try.prog tephralaw06_CmdsRight.cf J tephralaw06_CmdsRight.fn [.agg #[.int .i64 eIndex, .int .i64 eTerm, .int .i64 eCmdOp, .int .i64 eCmdClient, .int .i64 eCmdSeq, .string eCmdKey, .string eCmdValue, .string eCmdOld], .agg #[.int .u8 sOp, .int .u8 sClient, .int .u8 sSeq, .int .u8 sKey, .int .u8 sValue, .int .u8 sOld], .int .i64 n, .int .i64 m] H Q = tephralaw06_CmdsRight.vc J eIndex eTerm eCmdOp eCmdClient eCmdSeq eCmdKey eCmdValue eCmdOld sOp sClient sSeq sKey sValue sOld n m H Q := by kernel_rfl
theorem tephralaw06_CmdsRight.calls {eIndex : Int} {eTerm : Int} {eCmdOp : Int} {eCmdClient : Int} {eCmdSeq : Int} {eCmdKey : ByteArray} {eCmdValue : ByteArray} {eCmdOld : ByteArray} {sOp : Int} {sClient : Int} {sSeq : Int} {sKey : Int} {sValue : Int} {sOld : Int} {n : Int} {m : Int} {H : Hp} {Q : Value → Hp → Prop} (h : tephralaw06_CmdsRight.vc J0 eIndex eTerm eCmdOp eCmdClient eCmdSeq eCmdKey eCmdValue eCmdOld sOp sClient sSeq sKey sValue sOld n m H Q) : SCalls Try.prog tephralaw06_CmdsRight.id [.agg #[.int .i64 eIndex, .int .i64 eTerm, .int .i64 eCmdOp, .int .i64 eCmdClient, .int .i64 eCmdSeq, .string eCmdKey, .string eCmdValue, .string eCmdOld], .agg #[.int .u8 sOp, .int .u8 sClient, .int .u8 sSeq, .int .u8 sKey, .int .u8 sValue, .int .u8 sOld], .int .i64 n, .int .i64 m] H Q := vFn_of Try.mixed Try.func4 (tephralaw06_CmdsRight.eq J0 eIndex eTerm eCmdOp eCmdClient eCmdSeq eCmdKey eCmdValue eCmdOld sOp sClient sSeq sKey sValue sOld n m H Q) h

/-! 8: tephra/tephralaw06.CmdsApart -/
def tephralaw06_CmdsApart.cf : Cfg := ⟨[4, 5, 9, 10], [], [], []⟩
def tephralaw06_CmdsApart.vc (J : Jn) (sOp : Int) (sClient : Int) (sSeq : Int) (sKey : Int) (sValue : Int) (sOld : Int) (tOp : Int) (tClient : Int) (tSeq : Int) (tKey : Int) (tValue : Int) (tOld : Int) (a : Int) (b : Int) (H : Hp) (Q : Value → Hp → Prop) : Prop :=
 
 SCalls Try.prog tephralaw06_awake.id [] (holes H 2) (fun r H1 => ∃ x : Bool, r = .bool x ∧ 
 Br (!x) (Q (.bool false) H1)
 ((3 : Int) ≠ 0 ∧ (3 : Int) ≠ 0 ∧ 
  (
 SCalls Try.prog tephralaw06_Say_Cmd.id [.agg #[.int .u8 sOp, .int .u8 sClient, .int .u8 sSeq, .int .u8 sKey, .int .u8 sValue, .int .u8 sOld]] H1 (fun r1 H2 => ∃ Opv : Int, ∃ Client : Int, ∃ Seq : Int, ∃ Key : ByteArray, ∃ Valuev : ByteArray, ∃ Old : ByteArray, r1 = .agg #[.int .i64 Opv, .int .i64 Client, .int .i64 Seq, .string Key, .string Valuev, .string Old] ∧ 
  (
  (
 SCalls Try.prog tephralaw06_Say_Cmd.id [.agg #[.int .u8 tOp, .int .u8 tClient, .int .u8 tSeq, .int .u8 tKey, .int .u8 tValue, .int .u8 tOld]] H2 (fun r2 H3 => ∃ Opv1 : Int, ∃ Client1 : Int, ∃ Seq1 : Int, ∃ Key1 : ByteArray, ∃ Valuev1 : ByteArray, ∃ Old1 : ByteArray, r2 = .agg #[.int .i64 Opv1, .int .i64 Client1, .int .i64 Seq1, .string Key1, .string Valuev1, .string Old1] ∧ 
  (
 SCalls Try.prog cmds_Bytes.id [.agg #[.int .i64 (w64 ((1 : Int) + (w64 ((Int.tmod a 3))))), .int .i64 0, .int .i64 Opv, .int .i64 Client, .int .i64 Seq, .string Key, .string Valuev, .string Old]] (holes H3 2) (fun r55 H56 => ∃ x1 : Sl, r55 = .slice x1.a x1.len x1.cap ∧ 
  (vB2S H56 x1.a x1.len (fun s => 
 SCalls Try.prog cmds_Bytes.id [.agg #[.int .i64 (w64 ((1 : Int) + (w64 ((Int.tmod b 3))))), .int .i64 0, .int .i64 Opv1, .int .i64 Client1, .int .i64 Seq1, .string Key1, .string Valuev1, .string Old1]] H56 (fun r56 H57 => ∃ x2 : Sl, r56 = .slice x2.a x2.len x2.cap ∧ vB2S H57 x2.a x2.len (fun s1 => Q (.bool ((s.toList == s1.toList) == (((w64 ((1 : Int) + (w64 ((Int.tmod a 3))))) == (w64 ((1 : Int) + (w64 ((Int.tmod b 3)))))) && (((0 : Int) == (0 : Int)) && (((Opv == Opv1) && ((Client == Client1) && ((Seq == Seq1) && ((Key == Key1) && ((Valuev == Valuev1) && ((Old == Old1) && true)))))) && true))))) H57)))) ∧ 
  (
 SCalls Try.prog cmds_Bytes.id [.agg #[.int .i64 (w64 ((1 : Int) + (w64 ((Int.tmod b 3))))), .int .i64 0, .int .i64 Opv1, .int .i64 Client1, .int .i64 Seq1, .string Key1, .string Valuev1, .string Old1]] H56 (fun r57 H58 => ∃ x3 : Sl, r57 = .slice x3.a x3.len x3.cap ∧ 
  (vB2S H58 x1.a x1.len (fun s2 => vB2S H58 x3.a x3.len (fun s3 => Q (.bool ((s2.toList == s3.toList) == (((w64 ((1 : Int) + (w64 ((Int.tmod a 3))))) == (w64 ((1 : Int) + (w64 ((Int.tmod b 3)))))) && (((0 : Int) == (0 : Int)) && (((Opv == Opv1) && ((Client == Client1) && ((Seq == Seq1) && ((Key == Key1) && ((Valuev == Valuev1) && ((Old == Old1) && true)))))) && true))))) H58))) ∧ 
  (vB2S H58 x3.a x3.len (fun s4 => vB2S H58 x1.a x1.len (fun s5 => Q (.bool ((s5.toList == s4.toList) == (((w64 ((1 : Int) + (w64 ((Int.tmod a 3))))) == (w64 ((1 : Int) + (w64 ((Int.tmod b 3)))))) && (((0 : Int) == (0 : Int)) && (((Opv == Opv1) && ((Client == Client1) && ((Seq == Seq1) && ((Key == Key1) && ((Valuev == Valuev1) && ((Old == Old1) && true)))))) && true))))) H58))))))) ∧ 
  (
 SCalls Try.prog cmds_Bytes.id [.agg #[.int .i64 (w64 ((1 : Int) + (w64 ((Int.tmod a 3))))), .int .i64 0, .int .i64 Opv, .int .i64 Client, .int .i64 Seq, .string Key, .string Valuev, .string Old]] (holes H3 2) (fun r58 H59 => ∃ x4 : Sl, r58 = .slice x4.a x4.len x4.cap ∧ 
  (vB2S H59 x4.a x4.len (fun s6 => 
 SCalls Try.prog cmds_Bytes.id [.agg #[.int .i64 (w64 ((1 : Int) + (w64 ((Int.tmod b 3))))), .int .i64 0, .int .i64 Opv1, .int .i64 Client1, .int .i64 Seq1, .string Key1, .string Valuev1, .string Old1]] H59 (fun r59 H60 => ∃ x5 : Sl, r59 = .slice x5.a x5.len x5.cap ∧ vB2S H60 x5.a x5.len (fun s7 => Q (.bool ((s6.toList == s7.toList) == (((w64 ((1 : Int) + (w64 ((Int.tmod a 3))))) == (w64 ((1 : Int) + (w64 ((Int.tmod b 3)))))) && (((0 : Int) == (0 : Int)) && (((Opv == Opv1) && ((Client == Client1) && ((Seq == Seq1) && ((Key == Key1) && ((Valuev == Valuev1) && ((Old == Old1) && true)))))) && true))))) H60)))) ∧ 
  (
 SCalls Try.prog cmds_Bytes.id [.agg #[.int .i64 (w64 ((1 : Int) + (w64 ((Int.tmod b 3))))), .int .i64 0, .int .i64 Opv1, .int .i64 Client1, .int .i64 Seq1, .string Key1, .string Valuev1, .string Old1]] H59 (fun r60 H61 => ∃ x6 : Sl, r60 = .slice x6.a x6.len x6.cap ∧ 
  (vB2S H61 x4.a x4.len (fun s8 => vB2S H61 x6.a x6.len (fun s9 => Q (.bool ((s8.toList == s9.toList) == (((w64 ((1 : Int) + (w64 ((Int.tmod a 3))))) == (w64 ((1 : Int) + (w64 ((Int.tmod b 3)))))) && (((0 : Int) == (0 : Int)) && (((Opv == Opv1) && ((Client == Client1) && ((Seq == Seq1) && ((Key == Key1) && ((Valuev == Valuev1) && ((Old == Old1) && true)))))) && true))))) H61))) ∧ 
  (vB2S H61 x6.a x6.len (fun s10 => vB2S H61 x4.a x4.len (fun s11 => Q (.bool ((s11.toList == s10.toList) == (((w64 ((1 : Int) + (w64 ((Int.tmod a 3))))) == (w64 ((1 : Int) + (w64 ((Int.tmod b 3)))))) && (((0 : Int) == (0 : Int)) && (((Opv == Opv1) && ((Client == Client1) && ((Seq == Seq1) && ((Key == Key1) && ((Valuev == Valuev1) && ((Old == Old1) && true)))))) && true))))) H61))))))))) ∧ 
  (
  (
 SCalls Try.prog tephralaw06_Say_Cmd.id [.agg #[.int .u8 tOp, .int .u8 tClient, .int .u8 tSeq, .int .u8 tKey, .int .u8 tValue, .int .u8 tOld]] (holes H2 1) (fun r3 H4 => ∃ Opv2 : Int, ∃ Client2 : Int, ∃ Seq2 : Int, ∃ Key2 : ByteArray, ∃ Valuev2 : ByteArray, ∃ Old2 : ByteArray, r3 = .agg #[.int .i64 Opv2, .int .i64 Client2, .int .i64 Seq2, .string Key2, .string Valuev2, .string Old2] ∧ 
 SCalls Try.prog cmds_Bytes.id [.agg #[.int .i64 (w64 ((1 : Int) + (w64 ((Int.tmod a 3))))), .int .i64 0, .int .i64 Opv, .int .i64 Client, .int .i64 Seq, .string Key, .string Valuev, .string Old]] (holes H4 1) (fun r61 H62 => ∃ x7 : Sl, r61 = .slice x7.a x7.len x7.cap ∧ 
  (vB2S H62 x7.a x7.len (fun s12 => 
 SCalls Try.prog cmds_Bytes.id [.agg #[.int .i64 (w64 ((1 : Int) + (w64 ((Int.tmod b 3))))), .int .i64 0, .int .i64 Opv2, .int .i64 Client2, .int .i64 Seq2, .string Key2, .string Valuev2, .string Old2]] H62 (fun r62 H63 => ∃ x8 : Sl, r62 = .slice x8.a x8.len x8.cap ∧ vB2S H63 x8.a x8.len (fun s13 => Q (.bool ((s12.toList == s13.toList) == (((w64 ((1 : Int) + (w64 ((Int.tmod a 3))))) == (w64 ((1 : Int) + (w64 ((Int.tmod b 3)))))) && (((0 : Int) == (0 : Int)) && (((Opv == Opv2) && ((Client == Client2) && ((Seq == Seq2) && ((Key == Key2) && ((Valuev == Valuev2) && ((Old == Old2) && true)))))) && true))))) H63)))) ∧ 
  (
 SCalls Try.prog cmds_Bytes.id [.agg #[.int .i64 (w64 ((1 : Int) + (w64 ((Int.tmod b 3))))), .int .i64 0, .int .i64 Opv2, .int .i64 Client2, .int .i64 Seq2, .string Key2, .string Valuev2, .string Old2]] H62 (fun r63 H64 => ∃ x9 : Sl, r63 = .slice x9.a x9.len x9.cap ∧ 
  (vB2S H64 x7.a x7.len (fun s14 => vB2S H64 x9.a x9.len (fun s15 => Q (.bool ((s14.toList == s15.toList) == (((w64 ((1 : Int) + (w64 ((Int.tmod a 3))))) == (w64 ((1 : Int) + (w64 ((Int.tmod b 3)))))) && (((0 : Int) == (0 : Int)) && (((Opv == Opv2) && ((Client == Client2) && ((Seq == Seq2) && ((Key == Key2) && ((Valuev == Valuev2) && ((Old == Old2) && true)))))) && true))))) H64))) ∧ 
  (vB2S H64 x9.a x9.len (fun s16 => vB2S H64 x7.a x7.len (fun s17 => Q (.bool ((s17.toList == s16.toList) == (((w64 ((1 : Int) + (w64 ((Int.tmod a 3))))) == (w64 ((1 : Int) + (w64 ((Int.tmod b 3)))))) && (((0 : Int) == (0 : Int)) && (((Opv == Opv2) && ((Client == Client2) && ((Seq == Seq2) && ((Key == Key2) && ((Valuev == Valuev2) && ((Old == Old2) && true)))))) && true))))) H64)))))))) ∧ 
  (
 SCalls Try.prog tephralaw06_Say_Cmd.id [.agg #[.int .u8 tOp, .int .u8 tClient, .int .u8 tSeq, .int .u8 tKey, .int .u8 tValue, .int .u8 tOld]] (holes H2 2) (fun r4 H5 => ∃ Opv3 : Int, ∃ Client3 : Int, ∃ Seq3 : Int, ∃ Key3 : ByteArray, ∃ Valuev3 : ByteArray, ∃ Old3 : ByteArray, r4 = .agg #[.int .i64 Opv3, .int .i64 Client3, .int .i64 Seq3, .string Key3, .string Valuev3, .string Old3] ∧ 
 SCalls Try.prog cmds_Bytes.id [.agg #[.int .i64 (w64 ((1 : Int) + (w64 ((Int.tmod a 3))))), .int .i64 0, .int .i64 Opv, .int .i64 Client, .int .i64 Seq, .string Key, .string Valuev, .string Old]] H5 (fun r64 H65 => ∃ x10 : Sl, r64 = .slice x10.a x10.len x10.cap ∧ 
  (vB2S H65 x10.a x10.len (fun s18 => 
 SCalls Try.prog cmds_Bytes.id [.agg #[.int .i64 (w64 ((1 : Int) + (w64 ((Int.tmod b 3))))), .int .i64 0, .int .i64 Opv3, .int .i64 Client3, .int .i64 Seq3, .string Key3, .string Valuev3, .string Old3]] H65 (fun r65 H66 => ∃ x11 : Sl, r65 = .slice x11.a x11.len x11.cap ∧ vB2S H66 x11.a x11.len (fun s19 => Q (.bool ((s18.toList == s19.toList) == (((w64 ((1 : Int) + (w64 ((Int.tmod a 3))))) == (w64 ((1 : Int) + (w64 ((Int.tmod b 3)))))) && (((0 : Int) == (0 : Int)) && (((Opv == Opv3) && ((Client == Client3) && ((Seq == Seq3) && ((Key == Key3) && ((Valuev == Valuev3) && ((Old == Old3) && true)))))) && true))))) H66)))) ∧ 
  (
 SCalls Try.prog cmds_Bytes.id [.agg #[.int .i64 (w64 ((1 : Int) + (w64 ((Int.tmod b 3))))), .int .i64 0, .int .i64 Opv3, .int .i64 Client3, .int .i64 Seq3, .string Key3, .string Valuev3, .string Old3]] H65 (fun r66 H67 => ∃ x12 : Sl, r66 = .slice x12.a x12.len x12.cap ∧ 
  (vB2S H67 x10.a x10.len (fun s20 => vB2S H67 x12.a x12.len (fun s21 => Q (.bool ((s20.toList == s21.toList) == (((w64 ((1 : Int) + (w64 ((Int.tmod a 3))))) == (w64 ((1 : Int) + (w64 ((Int.tmod b 3)))))) && (((0 : Int) == (0 : Int)) && (((Opv == Opv3) && ((Client == Client3) && ((Seq == Seq3) && ((Key == Key3) && ((Valuev == Valuev3) && ((Old == Old3) && true)))))) && true))))) H67))) ∧ 
  (vB2S H67 x12.a x12.len (fun s22 => vB2S H67 x10.a x10.len (fun s23 => Q (.bool ((s23.toList == s22.toList) == (((w64 ((1 : Int) + (w64 ((Int.tmod a 3))))) == (w64 ((1 : Int) + (w64 ((Int.tmod b 3)))))) && (((0 : Int) == (0 : Int)) && (((Opv == Opv3) && ((Client == Client3) && ((Seq == Seq3) && ((Key == Key3) && ((Valuev == Valuev3) && ((Old == Old3) && true)))))) && true))))) H67))))))))) ∧ 
  (
  (
 SCalls Try.prog tephralaw06_Say_Cmd.id [.agg #[.int .u8 tOp, .int .u8 tClient, .int .u8 tSeq, .int .u8 tKey, .int .u8 tValue, .int .u8 tOld]] (holes H2 1) (fun r5 H6 => ∃ Opv4 : Int, ∃ Client4 : Int, ∃ Seq4 : Int, ∃ Key4 : ByteArray, ∃ Valuev4 : ByteArray, ∃ Old4 : ByteArray, r5 = .agg #[.int .i64 Opv4, .int .i64 Client4, .int .i64 Seq4, .string Key4, .string Valuev4, .string Old4] ∧ 
 SCalls Try.prog cmds_Bytes.id [.agg #[.int .i64 (w64 ((1 : Int) + (w64 ((Int.tmod a 3))))), .int .i64 0, .int .i64 Opv, .int .i64 Client, .int .i64 Seq, .string Key, .string Valuev, .string Old]] (holes H6 1) (fun r67 H68 => ∃ x13 : Sl, r67 = .slice x13.a x13.len x13.cap ∧ 
  (vB2S H68 x13.a x13.len (fun s24 => 
 SCalls Try.prog cmds_Bytes.id [.agg #[.int .i64 (w64 ((1 : Int) + (w64 ((Int.tmod b 3))))), .int .i64 0, .int .i64 Opv4, .int .i64 Client4, .int .i64 Seq4, .string Key4, .string Valuev4, .string Old4]] H68 (fun r68 H69 => ∃ x14 : Sl, r68 = .slice x14.a x14.len x14.cap ∧ vB2S H69 x14.a x14.len (fun s25 => Q (.bool ((s24.toList == s25.toList) == (((w64 ((1 : Int) + (w64 ((Int.tmod a 3))))) == (w64 ((1 : Int) + (w64 ((Int.tmod b 3)))))) && (((0 : Int) == (0 : Int)) && (((Opv == Opv4) && ((Client == Client4) && ((Seq == Seq4) && ((Key == Key4) && ((Valuev == Valuev4) && ((Old == Old4) && true)))))) && true))))) H69)))) ∧ 
  (
 SCalls Try.prog cmds_Bytes.id [.agg #[.int .i64 (w64 ((1 : Int) + (w64 ((Int.tmod b 3))))), .int .i64 0, .int .i64 Opv4, .int .i64 Client4, .int .i64 Seq4, .string Key4, .string Valuev4, .string Old4]] H68 (fun r69 H70 => ∃ x15 : Sl, r69 = .slice x15.a x15.len x15.cap ∧ 
  (vB2S H70 x13.a x13.len (fun s26 => vB2S H70 x15.a x15.len (fun s27 => Q (.bool ((s26.toList == s27.toList) == (((w64 ((1 : Int) + (w64 ((Int.tmod a 3))))) == (w64 ((1 : Int) + (w64 ((Int.tmod b 3)))))) && (((0 : Int) == (0 : Int)) && (((Opv == Opv4) && ((Client == Client4) && ((Seq == Seq4) && ((Key == Key4) && ((Valuev == Valuev4) && ((Old == Old4) && true)))))) && true))))) H70))) ∧ 
  (vB2S H70 x15.a x15.len (fun s28 => vB2S H70 x13.a x13.len (fun s29 => Q (.bool ((s29.toList == s28.toList) == (((w64 ((1 : Int) + (w64 ((Int.tmod a 3))))) == (w64 ((1 : Int) + (w64 ((Int.tmod b 3)))))) && (((0 : Int) == (0 : Int)) && (((Opv == Opv4) && ((Client == Client4) && ((Seq == Seq4) && ((Key == Key4) && ((Valuev == Valuev4) && ((Old == Old4) && true)))))) && true))))) H70)))))))) ∧ 
  (
 SCalls Try.prog tephralaw06_Say_Cmd.id [.agg #[.int .u8 tOp, .int .u8 tClient, .int .u8 tSeq, .int .u8 tKey, .int .u8 tValue, .int .u8 tOld]] (holes H2 2) (fun r6 H7 => ∃ Opv5 : Int, ∃ Client5 : Int, ∃ Seq5 : Int, ∃ Key5 : ByteArray, ∃ Valuev5 : ByteArray, ∃ Old5 : ByteArray, r6 = .agg #[.int .i64 Opv5, .int .i64 Client5, .int .i64 Seq5, .string Key5, .string Valuev5, .string Old5] ∧ 
 SCalls Try.prog cmds_Bytes.id [.agg #[.int .i64 (w64 ((1 : Int) + (w64 ((Int.tmod a 3))))), .int .i64 0, .int .i64 Opv, .int .i64 Client, .int .i64 Seq, .string Key, .string Valuev, .string Old]] H7 (fun r70 H71 => ∃ x16 : Sl, r70 = .slice x16.a x16.len x16.cap ∧ 
  (vB2S H71 x16.a x16.len (fun s30 => 
 SCalls Try.prog cmds_Bytes.id [.agg #[.int .i64 (w64 ((1 : Int) + (w64 ((Int.tmod b 3))))), .int .i64 0, .int .i64 Opv5, .int .i64 Client5, .int .i64 Seq5, .string Key5, .string Valuev5, .string Old5]] H71 (fun r71 H72 => ∃ x17 : Sl, r71 = .slice x17.a x17.len x17.cap ∧ vB2S H72 x17.a x17.len (fun s31 => Q (.bool ((s30.toList == s31.toList) == (((w64 ((1 : Int) + (w64 ((Int.tmod a 3))))) == (w64 ((1 : Int) + (w64 ((Int.tmod b 3)))))) && (((0 : Int) == (0 : Int)) && (((Opv == Opv5) && ((Client == Client5) && ((Seq == Seq5) && ((Key == Key5) && ((Valuev == Valuev5) && ((Old == Old5) && true)))))) && true))))) H72)))) ∧ 
  (
 SCalls Try.prog cmds_Bytes.id [.agg #[.int .i64 (w64 ((1 : Int) + (w64 ((Int.tmod b 3))))), .int .i64 0, .int .i64 Opv5, .int .i64 Client5, .int .i64 Seq5, .string Key5, .string Valuev5, .string Old5]] H71 (fun r72 H73 => ∃ x18 : Sl, r72 = .slice x18.a x18.len x18.cap ∧ 
  (vB2S H73 x16.a x16.len (fun s32 => vB2S H73 x18.a x18.len (fun s33 => Q (.bool ((s32.toList == s33.toList) == (((w64 ((1 : Int) + (w64 ((Int.tmod a 3))))) == (w64 ((1 : Int) + (w64 ((Int.tmod b 3)))))) && (((0 : Int) == (0 : Int)) && (((Opv == Opv5) && ((Client == Client5) && ((Seq == Seq5) && ((Key == Key5) && ((Valuev == Valuev5) && ((Old == Old5) && true)))))) && true))))) H73))) ∧ 
  (vB2S H73 x18.a x18.len (fun s34 => vB2S H73 x16.a x16.len (fun s35 => Q (.bool ((s35.toList == s34.toList) == (((w64 ((1 : Int) + (w64 ((Int.tmod a 3))))) == (w64 ((1 : Int) + (w64 ((Int.tmod b 3)))))) && (((0 : Int) == (0 : Int)) && (((Opv == Opv5) && ((Client == Client5) && ((Seq == Seq5) && ((Key == Key5) && ((Valuev == Valuev5) && ((Old == Old5) && true)))))) && true))))) H73)))))))))) ∧ 
  (
  (
  (
 SCalls Try.prog tephralaw06_Say_Cmd.id [.agg #[.int .u8 tOp, .int .u8 tClient, .int .u8 tSeq, .int .u8 tKey, .int .u8 tValue, .int .u8 tOld]] (holes H2 1) (fun r7 H8 => ∃ Opv6 : Int, ∃ Client6 : Int, ∃ Seq6 : Int, ∃ Key6 : ByteArray, ∃ Valuev6 : ByteArray, ∃ Old6 : ByteArray, r7 = .agg #[.int .i64 Opv6, .int .i64 Client6, .int .i64 Seq6, .string Key6, .string Valuev6, .string Old6] ∧ 
 SCalls Try.prog cmds_Bytes.id [.agg #[.int .i64 (w64 ((1 : Int) + (w64 ((Int.tmod a 3))))), .int .i64 0, .int .i64 Opv, .int .i64 Client, .int .i64 Seq, .string Key, .string Valuev, .string Old]] (holes H8 1) (fun r73 H74 => ∃ x19 : Sl, r73 = .slice x19.a x19.len x19.cap ∧ 
  (vB2S H74 x19.a x19.len (fun s36 => 
 SCalls Try.prog cmds_Bytes.id [.agg #[.int .i64 (w64 ((1 : Int) + (w64 ((Int.tmod b 3))))), .int .i64 0, .int .i64 Opv6, .int .i64 Client6, .int .i64 Seq6, .string Key6, .string Valuev6, .string Old6]] H74 (fun r74 H75 => ∃ x20 : Sl, r74 = .slice x20.a x20.len x20.cap ∧ vB2S H75 x20.a x20.len (fun s37 => Q (.bool ((s36.toList == s37.toList) == (((w64 ((1 : Int) + (w64 ((Int.tmod a 3))))) == (w64 ((1 : Int) + (w64 ((Int.tmod b 3)))))) && (((0 : Int) == (0 : Int)) && (((Opv == Opv6) && ((Client == Client6) && ((Seq == Seq6) && ((Key == Key6) && ((Valuev == Valuev6) && ((Old == Old6) && true)))))) && true))))) H75)))) ∧ 
  (
 SCalls Try.prog cmds_Bytes.id [.agg #[.int .i64 (w64 ((1 : Int) + (w64 ((Int.tmod b 3))))), .int .i64 0, .int .i64 Opv6, .int .i64 Client6, .int .i64 Seq6, .string Key6, .string Valuev6, .string Old6]] H74 (fun r75 H76 => ∃ x21 : Sl, r75 = .slice x21.a x21.len x21.cap ∧ 
  (vB2S H76 x19.a x19.len (fun s38 => vB2S H76 x21.a x21.len (fun s39 => Q (.bool ((s38.toList == s39.toList) == (((w64 ((1 : Int) + (w64 ((Int.tmod a 3))))) == (w64 ((1 : Int) + (w64 ((Int.tmod b 3)))))) && (((0 : Int) == (0 : Int)) && (((Opv == Opv6) && ((Client == Client6) && ((Seq == Seq6) && ((Key == Key6) && ((Valuev == Valuev6) && ((Old == Old6) && true)))))) && true))))) H76))) ∧ 
  (vB2S H76 x21.a x21.len (fun s40 => vB2S H76 x19.a x19.len (fun s41 => Q (.bool ((s41.toList == s40.toList) == (((w64 ((1 : Int) + (w64 ((Int.tmod a 3))))) == (w64 ((1 : Int) + (w64 ((Int.tmod b 3)))))) && (((0 : Int) == (0 : Int)) && (((Opv == Opv6) && ((Client == Client6) && ((Seq == Seq6) && ((Key == Key6) && ((Valuev == Valuev6) && ((Old == Old6) && true)))))) && true))))) H76)))))))) ∧ 
  (
 SCalls Try.prog tephralaw06_Say_Cmd.id [.agg #[.int .u8 tOp, .int .u8 tClient, .int .u8 tSeq, .int .u8 tKey, .int .u8 tValue, .int .u8 tOld]] (holes H2 2) (fun r8 H9 => ∃ Opv7 : Int, ∃ Client7 : Int, ∃ Seq7 : Int, ∃ Key7 : ByteArray, ∃ Valuev7 : ByteArray, ∃ Old7 : ByteArray, r8 = .agg #[.int .i64 Opv7, .int .i64 Client7, .int .i64 Seq7, .string Key7, .string Valuev7, .string Old7] ∧ 
 SCalls Try.prog cmds_Bytes.id [.agg #[.int .i64 (w64 ((1 : Int) + (w64 ((Int.tmod a 3))))), .int .i64 0, .int .i64 Opv, .int .i64 Client, .int .i64 Seq, .string Key, .string Valuev, .string Old]] H9 (fun r76 H77 => ∃ x22 : Sl, r76 = .slice x22.a x22.len x22.cap ∧ 
  (vB2S H77 x22.a x22.len (fun s42 => 
 SCalls Try.prog cmds_Bytes.id [.agg #[.int .i64 (w64 ((1 : Int) + (w64 ((Int.tmod b 3))))), .int .i64 0, .int .i64 Opv7, .int .i64 Client7, .int .i64 Seq7, .string Key7, .string Valuev7, .string Old7]] H77 (fun r77 H78 => ∃ x23 : Sl, r77 = .slice x23.a x23.len x23.cap ∧ vB2S H78 x23.a x23.len (fun s43 => Q (.bool ((s42.toList == s43.toList) == (((w64 ((1 : Int) + (w64 ((Int.tmod a 3))))) == (w64 ((1 : Int) + (w64 ((Int.tmod b 3)))))) && (((0 : Int) == (0 : Int)) && (((Opv == Opv7) && ((Client == Client7) && ((Seq == Seq7) && ((Key == Key7) && ((Valuev == Valuev7) && ((Old == Old7) && true)))))) && true))))) H78)))) ∧ 
  (
 SCalls Try.prog cmds_Bytes.id [.agg #[.int .i64 (w64 ((1 : Int) + (w64 ((Int.tmod b 3))))), .int .i64 0, .int .i64 Opv7, .int .i64 Client7, .int .i64 Seq7, .string Key7, .string Valuev7, .string Old7]] H77 (fun r78 H79 => ∃ x24 : Sl, r78 = .slice x24.a x24.len x24.cap ∧ 
  (vB2S H79 x22.a x22.len (fun s44 => vB2S H79 x24.a x24.len (fun s45 => Q (.bool ((s44.toList == s45.toList) == (((w64 ((1 : Int) + (w64 ((Int.tmod a 3))))) == (w64 ((1 : Int) + (w64 ((Int.tmod b 3)))))) && (((0 : Int) == (0 : Int)) && (((Opv == Opv7) && ((Client == Client7) && ((Seq == Seq7) && ((Key == Key7) && ((Valuev == Valuev7) && ((Old == Old7) && true)))))) && true))))) H79))) ∧ 
  (vB2S H79 x24.a x24.len (fun s46 => vB2S H79 x22.a x22.len (fun s47 => Q (.bool ((s47.toList == s46.toList) == (((w64 ((1 : Int) + (w64 ((Int.tmod a 3))))) == (w64 ((1 : Int) + (w64 ((Int.tmod b 3)))))) && (((0 : Int) == (0 : Int)) && (((Opv == Opv7) && ((Client == Client7) && ((Seq == Seq7) && ((Key == Key7) && ((Valuev == Valuev7) && ((Old == Old7) && true)))))) && true))))) H79))))))))) ∧ 
  (
 SCalls Try.prog tephralaw06_Say_Cmd.id [.agg #[.int .u8 tOp, .int .u8 tClient, .int .u8 tSeq, .int .u8 tKey, .int .u8 tValue, .int .u8 tOld]] (holes H2 2) (fun r9 H10 => ∃ Opv8 : Int, ∃ Client8 : Int, ∃ Seq8 : Int, ∃ Key8 : ByteArray, ∃ Valuev8 : ByteArray, ∃ Old8 : ByteArray, r9 = .agg #[.int .i64 Opv8, .int .i64 Client8, .int .i64 Seq8, .string Key8, .string Valuev8, .string Old8] ∧ 
 SCalls Try.prog cmds_Bytes.id [.agg #[.int .i64 (w64 ((1 : Int) + (w64 ((Int.tmod a 3))))), .int .i64 0, .int .i64 Opv, .int .i64 Client, .int .i64 Seq, .string Key, .string Valuev, .string Old]] H10 (fun r79 H80 => ∃ x25 : Sl, r79 = .slice x25.a x25.len x25.cap ∧ 
  (vB2S H80 x25.a x25.len (fun s48 => 
 SCalls Try.prog cmds_Bytes.id [.agg #[.int .i64 (w64 ((1 : Int) + (w64 ((Int.tmod b 3))))), .int .i64 0, .int .i64 Opv8, .int .i64 Client8, .int .i64 Seq8, .string Key8, .string Valuev8, .string Old8]] H80 (fun r80 H81 => ∃ x26 : Sl, r80 = .slice x26.a x26.len x26.cap ∧ vB2S H81 x26.a x26.len (fun s49 => Q (.bool ((s48.toList == s49.toList) == (((w64 ((1 : Int) + (w64 ((Int.tmod a 3))))) == (w64 ((1 : Int) + (w64 ((Int.tmod b 3)))))) && (((0 : Int) == (0 : Int)) && (((Opv == Opv8) && ((Client == Client8) && ((Seq == Seq8) && ((Key == Key8) && ((Valuev == Valuev8) && ((Old == Old8) && true)))))) && true))))) H81)))) ∧ 
  (
 SCalls Try.prog cmds_Bytes.id [.agg #[.int .i64 (w64 ((1 : Int) + (w64 ((Int.tmod b 3))))), .int .i64 0, .int .i64 Opv8, .int .i64 Client8, .int .i64 Seq8, .string Key8, .string Valuev8, .string Old8]] H80 (fun r81 H82 => ∃ x27 : Sl, r81 = .slice x27.a x27.len x27.cap ∧ 
  (vB2S H82 x25.a x25.len (fun s50 => vB2S H82 x27.a x27.len (fun s51 => Q (.bool ((s50.toList == s51.toList) == (((w64 ((1 : Int) + (w64 ((Int.tmod a 3))))) == (w64 ((1 : Int) + (w64 ((Int.tmod b 3)))))) && (((0 : Int) == (0 : Int)) && (((Opv == Opv8) && ((Client == Client8) && ((Seq == Seq8) && ((Key == Key8) && ((Valuev == Valuev8) && ((Old == Old8) && true)))))) && true))))) H82))) ∧ 
  (vB2S H82 x27.a x27.len (fun s52 => vB2S H82 x25.a x25.len (fun s53 => Q (.bool ((s53.toList == s52.toList) == (((w64 ((1 : Int) + (w64 ((Int.tmod a 3))))) == (w64 ((1 : Int) + (w64 ((Int.tmod b 3)))))) && (((0 : Int) == (0 : Int)) && (((Opv == Opv8) && ((Client == Client8) && ((Seq == Seq8) && ((Key == Key8) && ((Valuev == Valuev8) && ((Old == Old8) && true)))))) && true))))) H82))))))))) ∧ 
  (
  (
  (
 SCalls Try.prog tephralaw06_Say_Cmd.id [.agg #[.int .u8 tOp, .int .u8 tClient, .int .u8 tSeq, .int .u8 tKey, .int .u8 tValue, .int .u8 tOld]] (holes H2 1) (fun r10 H11 => ∃ Opv9 : Int, ∃ Client9 : Int, ∃ Seq9 : Int, ∃ Key9 : ByteArray, ∃ Valuev9 : ByteArray, ∃ Old9 : ByteArray, r10 = .agg #[.int .i64 Opv9, .int .i64 Client9, .int .i64 Seq9, .string Key9, .string Valuev9, .string Old9] ∧ 
 SCalls Try.prog cmds_Bytes.id [.agg #[.int .i64 (w64 ((1 : Int) + (w64 ((Int.tmod a 3))))), .int .i64 0, .int .i64 Opv, .int .i64 Client, .int .i64 Seq, .string Key, .string Valuev, .string Old]] (holes H11 1) (fun r82 H83 => ∃ x28 : Sl, r82 = .slice x28.a x28.len x28.cap ∧ 
  (vB2S H83 x28.a x28.len (fun s54 => 
 SCalls Try.prog cmds_Bytes.id [.agg #[.int .i64 (w64 ((1 : Int) + (w64 ((Int.tmod b 3))))), .int .i64 0, .int .i64 Opv9, .int .i64 Client9, .int .i64 Seq9, .string Key9, .string Valuev9, .string Old9]] H83 (fun r83 H84 => ∃ x29 : Sl, r83 = .slice x29.a x29.len x29.cap ∧ vB2S H84 x29.a x29.len (fun s55 => Q (.bool ((s54.toList == s55.toList) == (((w64 ((1 : Int) + (w64 ((Int.tmod a 3))))) == (w64 ((1 : Int) + (w64 ((Int.tmod b 3)))))) && (((0 : Int) == (0 : Int)) && (((Opv == Opv9) && ((Client == Client9) && ((Seq == Seq9) && ((Key == Key9) && ((Valuev == Valuev9) && ((Old == Old9) && true)))))) && true))))) H84)))) ∧ 
  (
 SCalls Try.prog cmds_Bytes.id [.agg #[.int .i64 (w64 ((1 : Int) + (w64 ((Int.tmod b 3))))), .int .i64 0, .int .i64 Opv9, .int .i64 Client9, .int .i64 Seq9, .string Key9, .string Valuev9, .string Old9]] H83 (fun r84 H85 => ∃ x30 : Sl, r84 = .slice x30.a x30.len x30.cap ∧ 
  (vB2S H85 x28.a x28.len (fun s56 => vB2S H85 x30.a x30.len (fun s57 => Q (.bool ((s56.toList == s57.toList) == (((w64 ((1 : Int) + (w64 ((Int.tmod a 3))))) == (w64 ((1 : Int) + (w64 ((Int.tmod b 3)))))) && (((0 : Int) == (0 : Int)) && (((Opv == Opv9) && ((Client == Client9) && ((Seq == Seq9) && ((Key == Key9) && ((Valuev == Valuev9) && ((Old == Old9) && true)))))) && true))))) H85))) ∧ 
  (vB2S H85 x30.a x30.len (fun s58 => vB2S H85 x28.a x28.len (fun s59 => Q (.bool ((s59.toList == s58.toList) == (((w64 ((1 : Int) + (w64 ((Int.tmod a 3))))) == (w64 ((1 : Int) + (w64 ((Int.tmod b 3)))))) && (((0 : Int) == (0 : Int)) && (((Opv == Opv9) && ((Client == Client9) && ((Seq == Seq9) && ((Key == Key9) && ((Valuev == Valuev9) && ((Old == Old9) && true)))))) && true))))) H85)))))))) ∧ 
  (
 SCalls Try.prog tephralaw06_Say_Cmd.id [.agg #[.int .u8 tOp, .int .u8 tClient, .int .u8 tSeq, .int .u8 tKey, .int .u8 tValue, .int .u8 tOld]] (holes H2 2) (fun r11 H12 => ∃ Opv10 : Int, ∃ Client10 : Int, ∃ Seq10 : Int, ∃ Key10 : ByteArray, ∃ Valuev10 : ByteArray, ∃ Old10 : ByteArray, r11 = .agg #[.int .i64 Opv10, .int .i64 Client10, .int .i64 Seq10, .string Key10, .string Valuev10, .string Old10] ∧ 
 SCalls Try.prog cmds_Bytes.id [.agg #[.int .i64 (w64 ((1 : Int) + (w64 ((Int.tmod a 3))))), .int .i64 0, .int .i64 Opv, .int .i64 Client, .int .i64 Seq, .string Key, .string Valuev, .string Old]] H12 (fun r85 H86 => ∃ x31 : Sl, r85 = .slice x31.a x31.len x31.cap ∧ 
  (vB2S H86 x31.a x31.len (fun s60 => 
 SCalls Try.prog cmds_Bytes.id [.agg #[.int .i64 (w64 ((1 : Int) + (w64 ((Int.tmod b 3))))), .int .i64 0, .int .i64 Opv10, .int .i64 Client10, .int .i64 Seq10, .string Key10, .string Valuev10, .string Old10]] H86 (fun r86 H87 => ∃ x32 : Sl, r86 = .slice x32.a x32.len x32.cap ∧ vB2S H87 x32.a x32.len (fun s61 => Q (.bool ((s60.toList == s61.toList) == (((w64 ((1 : Int) + (w64 ((Int.tmod a 3))))) == (w64 ((1 : Int) + (w64 ((Int.tmod b 3)))))) && (((0 : Int) == (0 : Int)) && (((Opv == Opv10) && ((Client == Client10) && ((Seq == Seq10) && ((Key == Key10) && ((Valuev == Valuev10) && ((Old == Old10) && true)))))) && true))))) H87)))) ∧ 
  (
 SCalls Try.prog cmds_Bytes.id [.agg #[.int .i64 (w64 ((1 : Int) + (w64 ((Int.tmod b 3))))), .int .i64 0, .int .i64 Opv10, .int .i64 Client10, .int .i64 Seq10, .string Key10, .string Valuev10, .string Old10]] H86 (fun r87 H88 => ∃ x33 : Sl, r87 = .slice x33.a x33.len x33.cap ∧ 
  (vB2S H88 x31.a x31.len (fun s62 => vB2S H88 x33.a x33.len (fun s63 => Q (.bool ((s62.toList == s63.toList) == (((w64 ((1 : Int) + (w64 ((Int.tmod a 3))))) == (w64 ((1 : Int) + (w64 ((Int.tmod b 3)))))) && (((0 : Int) == (0 : Int)) && (((Opv == Opv10) && ((Client == Client10) && ((Seq == Seq10) && ((Key == Key10) && ((Valuev == Valuev10) && ((Old == Old10) && true)))))) && true))))) H88))) ∧ 
  (vB2S H88 x33.a x33.len (fun s64 => vB2S H88 x31.a x31.len (fun s65 => Q (.bool ((s65.toList == s64.toList) == (((w64 ((1 : Int) + (w64 ((Int.tmod a 3))))) == (w64 ((1 : Int) + (w64 ((Int.tmod b 3)))))) && (((0 : Int) == (0 : Int)) && (((Opv == Opv10) && ((Client == Client10) && ((Seq == Seq10) && ((Key == Key10) && ((Valuev == Valuev10) && ((Old == Old10) && true)))))) && true))))) H88))))))))) ∧ 
  (
 SCalls Try.prog tephralaw06_Say_Cmd.id [.agg #[.int .u8 tOp, .int .u8 tClient, .int .u8 tSeq, .int .u8 tKey, .int .u8 tValue, .int .u8 tOld]] (holes H2 2) (fun r12 H13 => ∃ Opv11 : Int, ∃ Client11 : Int, ∃ Seq11 : Int, ∃ Key11 : ByteArray, ∃ Valuev11 : ByteArray, ∃ Old11 : ByteArray, r12 = .agg #[.int .i64 Opv11, .int .i64 Client11, .int .i64 Seq11, .string Key11, .string Valuev11, .string Old11] ∧ 
 SCalls Try.prog cmds_Bytes.id [.agg #[.int .i64 (w64 ((1 : Int) + (w64 ((Int.tmod a 3))))), .int .i64 0, .int .i64 Opv, .int .i64 Client, .int .i64 Seq, .string Key, .string Valuev, .string Old]] H13 (fun r88 H89 => ∃ x34 : Sl, r88 = .slice x34.a x34.len x34.cap ∧ 
  (vB2S H89 x34.a x34.len (fun s66 => 
 SCalls Try.prog cmds_Bytes.id [.agg #[.int .i64 (w64 ((1 : Int) + (w64 ((Int.tmod b 3))))), .int .i64 0, .int .i64 Opv11, .int .i64 Client11, .int .i64 Seq11, .string Key11, .string Valuev11, .string Old11]] H89 (fun r89 H90 => ∃ x35 : Sl, r89 = .slice x35.a x35.len x35.cap ∧ vB2S H90 x35.a x35.len (fun s67 => Q (.bool ((s66.toList == s67.toList) == (((w64 ((1 : Int) + (w64 ((Int.tmod a 3))))) == (w64 ((1 : Int) + (w64 ((Int.tmod b 3)))))) && (((0 : Int) == (0 : Int)) && (((Opv == Opv11) && ((Client == Client11) && ((Seq == Seq11) && ((Key == Key11) && ((Valuev == Valuev11) && ((Old == Old11) && true)))))) && true))))) H90)))) ∧ 
  (
 SCalls Try.prog cmds_Bytes.id [.agg #[.int .i64 (w64 ((1 : Int) + (w64 ((Int.tmod b 3))))), .int .i64 0, .int .i64 Opv11, .int .i64 Client11, .int .i64 Seq11, .string Key11, .string Valuev11, .string Old11]] H89 (fun r90 H91 => ∃ x36 : Sl, r90 = .slice x36.a x36.len x36.cap ∧ 
  (vB2S H91 x34.a x34.len (fun s68 => vB2S H91 x36.a x36.len (fun s69 => Q (.bool ((s68.toList == s69.toList) == (((w64 ((1 : Int) + (w64 ((Int.tmod a 3))))) == (w64 ((1 : Int) + (w64 ((Int.tmod b 3)))))) && (((0 : Int) == (0 : Int)) && (((Opv == Opv11) && ((Client == Client11) && ((Seq == Seq11) && ((Key == Key11) && ((Valuev == Valuev11) && ((Old == Old11) && true)))))) && true))))) H91))) ∧ 
  (vB2S H91 x36.a x36.len (fun s70 => vB2S H91 x34.a x34.len (fun s71 => Q (.bool ((s71.toList == s70.toList) == (((w64 ((1 : Int) + (w64 ((Int.tmod a 3))))) == (w64 ((1 : Int) + (w64 ((Int.tmod b 3)))))) && (((0 : Int) == (0 : Int)) && (((Opv == Opv11) && ((Client == Client11) && ((Seq == Seq11) && ((Key == Key11) && ((Valuev == Valuev11) && ((Old == Old11) && true)))))) && true))))) H91))))))))))) ∧ 
  (
  (
 SCalls Try.prog tephralaw06_Say_Cmd.id [.agg #[.int .u8 sOp, .int .u8 sClient, .int .u8 sSeq, .int .u8 sKey, .int .u8 sValue, .int .u8 sOld]] H1 (fun r13 H14 => ∃ Opv12 : Int, ∃ Client12 : Int, ∃ Seq12 : Int, ∃ Key12 : ByteArray, ∃ Valuev12 : ByteArray, ∃ Old12 : ByteArray, r13 = .agg #[.int .i64 Opv12, .int .i64 Client12, .int .i64 Seq12, .string Key12, .string Valuev12, .string Old12] ∧ 
  (
 SCalls Try.prog tephralaw06_Say_Cmd.id [.agg #[.int .u8 tOp, .int .u8 tClient, .int .u8 tSeq, .int .u8 tKey, .int .u8 tValue, .int .u8 tOld]] H14 (fun r14 H15 => ∃ Opv13 : Int, ∃ Client13 : Int, ∃ Seq13 : Int, ∃ Key13 : ByteArray, ∃ Valuev13 : ByteArray, ∃ Old13 : ByteArray, r14 = .agg #[.int .i64 Opv13, .int .i64 Client13, .int .i64 Seq13, .string Key13, .string Valuev13, .string Old13] ∧ 
  (
 SCalls Try.prog cmds_Bytes.id [.agg #[.int .i64 (w64 ((1 : Int) + (w64 ((Int.tmod a 3))))), .int .i64 0, .int .i64 Opv12, .int .i64 Client12, .int .i64 Seq12, .string Key12, .string Valuev12, .string Old12]] (holes H15 2) (fun r91 H92 => ∃ x37 : Sl, r91 = .slice x37.a x37.len x37.cap ∧ 
  (vB2S H92 x37.a x37.len (fun s72 => 
 SCalls Try.prog cmds_Bytes.id [.agg #[.int .i64 (w64 ((1 : Int) + (w64 ((Int.tmod b 3))))), .int .i64 0, .int .i64 Opv13, .int .i64 Client13, .int .i64 Seq13, .string Key13, .string Valuev13, .string Old13]] H92 (fun r92 H93 => ∃ x38 : Sl, r92 = .slice x38.a x38.len x38.cap ∧ vB2S H93 x38.a x38.len (fun s73 => Q (.bool ((s72.toList == s73.toList) == (((w64 ((1 : Int) + (w64 ((Int.tmod a 3))))) == (w64 ((1 : Int) + (w64 ((Int.tmod b 3)))))) && (((0 : Int) == (0 : Int)) && (((Opv12 == Opv13) && ((Client12 == Client13) && ((Seq12 == Seq13) && ((Key12 == Key13) && ((Valuev12 == Valuev13) && ((Old12 == Old13) && true)))))) && true))))) H93)))) ∧ 
  (
 SCalls Try.prog cmds_Bytes.id [.agg #[.int .i64 (w64 ((1 : Int) + (w64 ((Int.tmod b 3))))), .int .i64 0, .int .i64 Opv13, .int .i64 Client13, .int .i64 Seq13, .string Key13, .string Valuev13, .string Old13]] H92 (fun r93 H94 => ∃ x39 : Sl, r93 = .slice x39.a x39.len x39.cap ∧ 
  (vB2S H94 x37.a x37.len (fun s74 => vB2S H94 x39.a x39.len (fun s75 => Q (.bool ((s74.toList == s75.toList) == (((w64 ((1 : Int) + (w64 ((Int.tmod a 3))))) == (w64 ((1 : Int) + (w64 ((Int.tmod b 3)))))) && (((0 : Int) == (0 : Int)) && (((Opv12 == Opv13) && ((Client12 == Client13) && ((Seq12 == Seq13) && ((Key12 == Key13) && ((Valuev12 == Valuev13) && ((Old12 == Old13) && true)))))) && true))))) H94))) ∧ 
  (vB2S H94 x39.a x39.len (fun s76 => vB2S H94 x37.a x37.len (fun s77 => Q (.bool ((s77.toList == s76.toList) == (((w64 ((1 : Int) + (w64 ((Int.tmod a 3))))) == (w64 ((1 : Int) + (w64 ((Int.tmod b 3)))))) && (((0 : Int) == (0 : Int)) && (((Opv12 == Opv13) && ((Client12 == Client13) && ((Seq12 == Seq13) && ((Key12 == Key13) && ((Valuev12 == Valuev13) && ((Old12 == Old13) && true)))))) && true))))) H94))))))) ∧ 
  (
 SCalls Try.prog cmds_Bytes.id [.agg #[.int .i64 (w64 ((1 : Int) + (w64 ((Int.tmod a 3))))), .int .i64 0, .int .i64 Opv12, .int .i64 Client12, .int .i64 Seq12, .string Key12, .string Valuev12, .string Old12]] (holes H15 2) (fun r94 H95 => ∃ x40 : Sl, r94 = .slice x40.a x40.len x40.cap ∧ 
  (vB2S H95 x40.a x40.len (fun s78 => 
 SCalls Try.prog cmds_Bytes.id [.agg #[.int .i64 (w64 ((1 : Int) + (w64 ((Int.tmod b 3))))), .int .i64 0, .int .i64 Opv13, .int .i64 Client13, .int .i64 Seq13, .string Key13, .string Valuev13, .string Old13]] H95 (fun r95 H96 => ∃ x41 : Sl, r95 = .slice x41.a x41.len x41.cap ∧ vB2S H96 x41.a x41.len (fun s79 => Q (.bool ((s78.toList == s79.toList) == (((w64 ((1 : Int) + (w64 ((Int.tmod a 3))))) == (w64 ((1 : Int) + (w64 ((Int.tmod b 3)))))) && (((0 : Int) == (0 : Int)) && (((Opv12 == Opv13) && ((Client12 == Client13) && ((Seq12 == Seq13) && ((Key12 == Key13) && ((Valuev12 == Valuev13) && ((Old12 == Old13) && true)))))) && true))))) H96)))) ∧ 
  (
 SCalls Try.prog cmds_Bytes.id [.agg #[.int .i64 (w64 ((1 : Int) + (w64 ((Int.tmod b 3))))), .int .i64 0, .int .i64 Opv13, .int .i64 Client13, .int .i64 Seq13, .string Key13, .string Valuev13, .string Old13]] H95 (fun r96 H97 => ∃ x42 : Sl, r96 = .slice x42.a x42.len x42.cap ∧ 
  (vB2S H97 x40.a x40.len (fun s80 => vB2S H97 x42.a x42.len (fun s81 => Q (.bool ((s80.toList == s81.toList) == (((w64 ((1 : Int) + (w64 ((Int.tmod a 3))))) == (w64 ((1 : Int) + (w64 ((Int.tmod b 3)))))) && (((0 : Int) == (0 : Int)) && (((Opv12 == Opv13) && ((Client12 == Client13) && ((Seq12 == Seq13) && ((Key12 == Key13) && ((Valuev12 == Valuev13) && ((Old12 == Old13) && true)))))) && true))))) H97))) ∧ 
  (vB2S H97 x42.a x42.len (fun s82 => vB2S H97 x40.a x40.len (fun s83 => Q (.bool ((s83.toList == s82.toList) == (((w64 ((1 : Int) + (w64 ((Int.tmod a 3))))) == (w64 ((1 : Int) + (w64 ((Int.tmod b 3)))))) && (((0 : Int) == (0 : Int)) && (((Opv12 == Opv13) && ((Client12 == Client13) && ((Seq12 == Seq13) && ((Key12 == Key13) && ((Valuev12 == Valuev13) && ((Old12 == Old13) && true)))))) && true))))) H97))))))))) ∧ 
  (
  (
 SCalls Try.prog tephralaw06_Say_Cmd.id [.agg #[.int .u8 tOp, .int .u8 tClient, .int .u8 tSeq, .int .u8 tKey, .int .u8 tValue, .int .u8 tOld]] (holes H14 1) (fun r15 H16 => ∃ Opv14 : Int, ∃ Client14 : Int, ∃ Seq14 : Int, ∃ Key14 : ByteArray, ∃ Valuev14 : ByteArray, ∃ Old14 : ByteArray, r15 = .agg #[.int .i64 Opv14, .int .i64 Client14, .int .i64 Seq14, .string Key14, .string Valuev14, .string Old14] ∧ 
 SCalls Try.prog cmds_Bytes.id [.agg #[.int .i64 (w64 ((1 : Int) + (w64 ((Int.tmod a 3))))), .int .i64 0, .int .i64 Opv12, .int .i64 Client12, .int .i64 Seq12, .string Key12, .string Valuev12, .string Old12]] (holes H16 1) (fun r97 H98 => ∃ x43 : Sl, r97 = .slice x43.a x43.len x43.cap ∧ 
  (vB2S H98 x43.a x43.len (fun s84 => 
 SCalls Try.prog cmds_Bytes.id [.agg #[.int .i64 (w64 ((1 : Int) + (w64 ((Int.tmod b 3))))), .int .i64 0, .int .i64 Opv14, .int .i64 Client14, .int .i64 Seq14, .string Key14, .string Valuev14, .string Old14]] H98 (fun r98 H99 => ∃ x44 : Sl, r98 = .slice x44.a x44.len x44.cap ∧ vB2S H99 x44.a x44.len (fun s85 => Q (.bool ((s84.toList == s85.toList) == (((w64 ((1 : Int) + (w64 ((Int.tmod a 3))))) == (w64 ((1 : Int) + (w64 ((Int.tmod b 3)))))) && (((0 : Int) == (0 : Int)) && (((Opv12 == Opv14) && ((Client12 == Client14) && ((Seq12 == Seq14) && ((Key12 == Key14) && ((Valuev12 == Valuev14) && ((Old12 == Old14) && true)))))) && true))))) H99)))) ∧ 
  (
 SCalls Try.prog cmds_Bytes.id [.agg #[.int .i64 (w64 ((1 : Int) + (w64 ((Int.tmod b 3))))), .int .i64 0, .int .i64 Opv14, .int .i64 Client14, .int .i64 Seq14, .string Key14, .string Valuev14, .string Old14]] H98 (fun r99 H100 => ∃ x45 : Sl, r99 = .slice x45.a x45.len x45.cap ∧ 
  (vB2S H100 x43.a x43.len (fun s86 => vB2S H100 x45.a x45.len (fun s87 => Q (.bool ((s86.toList == s87.toList) == (((w64 ((1 : Int) + (w64 ((Int.tmod a 3))))) == (w64 ((1 : Int) + (w64 ((Int.tmod b 3)))))) && (((0 : Int) == (0 : Int)) && (((Opv12 == Opv14) && ((Client12 == Client14) && ((Seq12 == Seq14) && ((Key12 == Key14) && ((Valuev12 == Valuev14) && ((Old12 == Old14) && true)))))) && true))))) H100))) ∧ 
  (vB2S H100 x45.a x45.len (fun s88 => vB2S H100 x43.a x43.len (fun s89 => Q (.bool ((s89.toList == s88.toList) == (((w64 ((1 : Int) + (w64 ((Int.tmod a 3))))) == (w64 ((1 : Int) + (w64 ((Int.tmod b 3)))))) && (((0 : Int) == (0 : Int)) && (((Opv12 == Opv14) && ((Client12 == Client14) && ((Seq12 == Seq14) && ((Key12 == Key14) && ((Valuev12 == Valuev14) && ((Old12 == Old14) && true)))))) && true))))) H100)))))))) ∧ 
  (
 SCalls Try.prog tephralaw06_Say_Cmd.id [.agg #[.int .u8 tOp, .int .u8 tClient, .int .u8 tSeq, .int .u8 tKey, .int .u8 tValue, .int .u8 tOld]] (holes H14 2) (fun r16 H17 => ∃ Opv15 : Int, ∃ Client15 : Int, ∃ Seq15 : Int, ∃ Key15 : ByteArray, ∃ Valuev15 : ByteArray, ∃ Old15 : ByteArray, r16 = .agg #[.int .i64 Opv15, .int .i64 Client15, .int .i64 Seq15, .string Key15, .string Valuev15, .string Old15] ∧ 
 SCalls Try.prog cmds_Bytes.id [.agg #[.int .i64 (w64 ((1 : Int) + (w64 ((Int.tmod a 3))))), .int .i64 0, .int .i64 Opv12, .int .i64 Client12, .int .i64 Seq12, .string Key12, .string Valuev12, .string Old12]] H17 (fun r100 H101 => ∃ x46 : Sl, r100 = .slice x46.a x46.len x46.cap ∧ 
  (vB2S H101 x46.a x46.len (fun s90 => 
 SCalls Try.prog cmds_Bytes.id [.agg #[.int .i64 (w64 ((1 : Int) + (w64 ((Int.tmod b 3))))), .int .i64 0, .int .i64 Opv15, .int .i64 Client15, .int .i64 Seq15, .string Key15, .string Valuev15, .string Old15]] H101 (fun r101 H102 => ∃ x47 : Sl, r101 = .slice x47.a x47.len x47.cap ∧ vB2S H102 x47.a x47.len (fun s91 => Q (.bool ((s90.toList == s91.toList) == (((w64 ((1 : Int) + (w64 ((Int.tmod a 3))))) == (w64 ((1 : Int) + (w64 ((Int.tmod b 3)))))) && (((0 : Int) == (0 : Int)) && (((Opv12 == Opv15) && ((Client12 == Client15) && ((Seq12 == Seq15) && ((Key12 == Key15) && ((Valuev12 == Valuev15) && ((Old12 == Old15) && true)))))) && true))))) H102)))) ∧ 
  (
 SCalls Try.prog cmds_Bytes.id [.agg #[.int .i64 (w64 ((1 : Int) + (w64 ((Int.tmod b 3))))), .int .i64 0, .int .i64 Opv15, .int .i64 Client15, .int .i64 Seq15, .string Key15, .string Valuev15, .string Old15]] H101 (fun r102 H103 => ∃ x48 : Sl, r102 = .slice x48.a x48.len x48.cap ∧ 
  (vB2S H103 x46.a x46.len (fun s92 => vB2S H103 x48.a x48.len (fun s93 => Q (.bool ((s92.toList == s93.toList) == (((w64 ((1 : Int) + (w64 ((Int.tmod a 3))))) == (w64 ((1 : Int) + (w64 ((Int.tmod b 3)))))) && (((0 : Int) == (0 : Int)) && (((Opv12 == Opv15) && ((Client12 == Client15) && ((Seq12 == Seq15) && ((Key12 == Key15) && ((Valuev12 == Valuev15) && ((Old12 == Old15) && true)))))) && true))))) H103))) ∧ 
  (vB2S H103 x48.a x48.len (fun s94 => vB2S H103 x46.a x46.len (fun s95 => Q (.bool ((s95.toList == s94.toList) == (((w64 ((1 : Int) + (w64 ((Int.tmod a 3))))) == (w64 ((1 : Int) + (w64 ((Int.tmod b 3)))))) && (((0 : Int) == (0 : Int)) && (((Opv12 == Opv15) && ((Client12 == Client15) && ((Seq12 == Seq15) && ((Key12 == Key15) && ((Valuev12 == Valuev15) && ((Old12 == Old15) && true)))))) && true))))) H103))))))))) ∧ 
  (
  (
 SCalls Try.prog tephralaw06_Say_Cmd.id [.agg #[.int .u8 tOp, .int .u8 tClient, .int .u8 tSeq, .int .u8 tKey, .int .u8 tValue, .int .u8 tOld]] (holes H14 1) (fun r17 H18 => ∃ Opv16 : Int, ∃ Client16 : Int, ∃ Seq16 : Int, ∃ Key16 : ByteArray, ∃ Valuev16 : ByteArray, ∃ Old16 : ByteArray, r17 = .agg #[.int .i64 Opv16, .int .i64 Client16, .int .i64 Seq16, .string Key16, .string Valuev16, .string Old16] ∧ 
 SCalls Try.prog cmds_Bytes.id [.agg #[.int .i64 (w64 ((1 : Int) + (w64 ((Int.tmod a 3))))), .int .i64 0, .int .i64 Opv12, .int .i64 Client12, .int .i64 Seq12, .string Key12, .string Valuev12, .string Old12]] (holes H18 1) (fun r103 H104 => ∃ x49 : Sl, r103 = .slice x49.a x49.len x49.cap ∧ 
  (vB2S H104 x49.a x49.len (fun s96 => 
 SCalls Try.prog cmds_Bytes.id [.agg #[.int .i64 (w64 ((1 : Int) + (w64 ((Int.tmod b 3))))), .int .i64 0, .int .i64 Opv16, .int .i64 Client16, .int .i64 Seq16, .string Key16, .string Valuev16, .string Old16]] H104 (fun r104 H105 => ∃ x50 : Sl, r104 = .slice x50.a x50.len x50.cap ∧ vB2S H105 x50.a x50.len (fun s97 => Q (.bool ((s96.toList == s97.toList) == (((w64 ((1 : Int) + (w64 ((Int.tmod a 3))))) == (w64 ((1 : Int) + (w64 ((Int.tmod b 3)))))) && (((0 : Int) == (0 : Int)) && (((Opv12 == Opv16) && ((Client12 == Client16) && ((Seq12 == Seq16) && ((Key12 == Key16) && ((Valuev12 == Valuev16) && ((Old12 == Old16) && true)))))) && true))))) H105)))) ∧ 
  (
 SCalls Try.prog cmds_Bytes.id [.agg #[.int .i64 (w64 ((1 : Int) + (w64 ((Int.tmod b 3))))), .int .i64 0, .int .i64 Opv16, .int .i64 Client16, .int .i64 Seq16, .string Key16, .string Valuev16, .string Old16]] H104 (fun r105 H106 => ∃ x51 : Sl, r105 = .slice x51.a x51.len x51.cap ∧ 
  (vB2S H106 x49.a x49.len (fun s98 => vB2S H106 x51.a x51.len (fun s99 => Q (.bool ((s98.toList == s99.toList) == (((w64 ((1 : Int) + (w64 ((Int.tmod a 3))))) == (w64 ((1 : Int) + (w64 ((Int.tmod b 3)))))) && (((0 : Int) == (0 : Int)) && (((Opv12 == Opv16) && ((Client12 == Client16) && ((Seq12 == Seq16) && ((Key12 == Key16) && ((Valuev12 == Valuev16) && ((Old12 == Old16) && true)))))) && true))))) H106))) ∧ 
  (vB2S H106 x51.a x51.len (fun s100 => vB2S H106 x49.a x49.len (fun s101 => Q (.bool ((s101.toList == s100.toList) == (((w64 ((1 : Int) + (w64 ((Int.tmod a 3))))) == (w64 ((1 : Int) + (w64 ((Int.tmod b 3)))))) && (((0 : Int) == (0 : Int)) && (((Opv12 == Opv16) && ((Client12 == Client16) && ((Seq12 == Seq16) && ((Key12 == Key16) && ((Valuev12 == Valuev16) && ((Old12 == Old16) && true)))))) && true))))) H106)))))))) ∧ 
  (
 SCalls Try.prog tephralaw06_Say_Cmd.id [.agg #[.int .u8 tOp, .int .u8 tClient, .int .u8 tSeq, .int .u8 tKey, .int .u8 tValue, .int .u8 tOld]] (holes H14 2) (fun r18 H19 => ∃ Opv17 : Int, ∃ Client17 : Int, ∃ Seq17 : Int, ∃ Key17 : ByteArray, ∃ Valuev17 : ByteArray, ∃ Old17 : ByteArray, r18 = .agg #[.int .i64 Opv17, .int .i64 Client17, .int .i64 Seq17, .string Key17, .string Valuev17, .string Old17] ∧ 
 SCalls Try.prog cmds_Bytes.id [.agg #[.int .i64 (w64 ((1 : Int) + (w64 ((Int.tmod a 3))))), .int .i64 0, .int .i64 Opv12, .int .i64 Client12, .int .i64 Seq12, .string Key12, .string Valuev12, .string Old12]] H19 (fun r106 H107 => ∃ x52 : Sl, r106 = .slice x52.a x52.len x52.cap ∧ 
  (vB2S H107 x52.a x52.len (fun s102 => 
 SCalls Try.prog cmds_Bytes.id [.agg #[.int .i64 (w64 ((1 : Int) + (w64 ((Int.tmod b 3))))), .int .i64 0, .int .i64 Opv17, .int .i64 Client17, .int .i64 Seq17, .string Key17, .string Valuev17, .string Old17]] H107 (fun r107 H108 => ∃ x53 : Sl, r107 = .slice x53.a x53.len x53.cap ∧ vB2S H108 x53.a x53.len (fun s103 => Q (.bool ((s102.toList == s103.toList) == (((w64 ((1 : Int) + (w64 ((Int.tmod a 3))))) == (w64 ((1 : Int) + (w64 ((Int.tmod b 3)))))) && (((0 : Int) == (0 : Int)) && (((Opv12 == Opv17) && ((Client12 == Client17) && ((Seq12 == Seq17) && ((Key12 == Key17) && ((Valuev12 == Valuev17) && ((Old12 == Old17) && true)))))) && true))))) H108)))) ∧ 
  (
 SCalls Try.prog cmds_Bytes.id [.agg #[.int .i64 (w64 ((1 : Int) + (w64 ((Int.tmod b 3))))), .int .i64 0, .int .i64 Opv17, .int .i64 Client17, .int .i64 Seq17, .string Key17, .string Valuev17, .string Old17]] H107 (fun r108 H109 => ∃ x54 : Sl, r108 = .slice x54.a x54.len x54.cap ∧ 
  (vB2S H109 x52.a x52.len (fun s104 => vB2S H109 x54.a x54.len (fun s105 => Q (.bool ((s104.toList == s105.toList) == (((w64 ((1 : Int) + (w64 ((Int.tmod a 3))))) == (w64 ((1 : Int) + (w64 ((Int.tmod b 3)))))) && (((0 : Int) == (0 : Int)) && (((Opv12 == Opv17) && ((Client12 == Client17) && ((Seq12 == Seq17) && ((Key12 == Key17) && ((Valuev12 == Valuev17) && ((Old12 == Old17) && true)))))) && true))))) H109))) ∧ 
  (vB2S H109 x54.a x54.len (fun s106 => vB2S H109 x52.a x52.len (fun s107 => Q (.bool ((s107.toList == s106.toList) == (((w64 ((1 : Int) + (w64 ((Int.tmod a 3))))) == (w64 ((1 : Int) + (w64 ((Int.tmod b 3)))))) && (((0 : Int) == (0 : Int)) && (((Opv12 == Opv17) && ((Client12 == Client17) && ((Seq12 == Seq17) && ((Key12 == Key17) && ((Valuev12 == Valuev17) && ((Old12 == Old17) && true)))))) && true))))) H109))))))))))) ∧ 
  (
  (
 SCalls Try.prog tephralaw06_Say_Cmd.id [.agg #[.int .u8 sOp, .int .u8 sClient, .int .u8 sSeq, .int .u8 sKey, .int .u8 sValue, .int .u8 sOld]] (holes H1 1) (fun r19 H20 => ∃ Opv18 : Int, ∃ Client18 : Int, ∃ Seq18 : Int, ∃ Key18 : ByteArray, ∃ Valuev18 : ByteArray, ∃ Old18 : ByteArray, r19 = .agg #[.int .i64 Opv18, .int .i64 Client18, .int .i64 Seq18, .string Key18, .string Valuev18, .string Old18] ∧ 
  (
 SCalls Try.prog tephralaw06_Say_Cmd.id [.agg #[.int .u8 tOp, .int .u8 tClient, .int .u8 tSeq, .int .u8 tKey, .int .u8 tValue, .int .u8 tOld]] H20 (fun r20 H21 => ∃ Opv19 : Int, ∃ Client19 : Int, ∃ Seq19 : Int, ∃ Key19 : ByteArray, ∃ Valuev19 : ByteArray, ∃ Old19 : ByteArray, r20 = .agg #[.int .i64 Opv19, .int .i64 Client19, .int .i64 Seq19, .string Key19, .string Valuev19, .string Old19] ∧ 
 SCalls Try.prog cmds_Bytes.id [.agg #[.int .i64 (w64 ((1 : Int) + (w64 ((Int.tmod a 3))))), .int .i64 0, .int .i64 Opv18, .int .i64 Client18, .int .i64 Seq18, .string Key18, .string Valuev18, .string Old18]] (holes H21 1) (fun r109 H110 => ∃ x55 : Sl, r109 = .slice x55.a x55.len x55.cap ∧ 
  (vB2S H110 x55.a x55.len (fun s108 => 
 SCalls Try.prog cmds_Bytes.id [.agg #[.int .i64 (w64 ((1 : Int) + (w64 ((Int.tmod b 3))))), .int .i64 0, .int .i64 Opv19, .int .i64 Client19, .int .i64 Seq19, .string Key19, .string Valuev19, .string Old19]] H110 (fun r110 H111 => ∃ x56 : Sl, r110 = .slice x56.a x56.len x56.cap ∧ vB2S H111 x56.a x56.len (fun s109 => Q (.bool ((s108.toList == s109.toList) == (((w64 ((1 : Int) + (w64 ((Int.tmod a 3))))) == (w64 ((1 : Int) + (w64 ((Int.tmod b 3)))))) && (((0 : Int) == (0 : Int)) && (((Opv18 == Opv19) && ((Client18 == Client19) && ((Seq18 == Seq19) && ((Key18 == Key19) && ((Valuev18 == Valuev19) && ((Old18 == Old19) && true)))))) && true))))) H111)))) ∧ 
  (
 SCalls Try.prog cmds_Bytes.id [.agg #[.int .i64 (w64 ((1 : Int) + (w64 ((Int.tmod b 3))))), .int .i64 0, .int .i64 Opv19, .int .i64 Client19, .int .i64 Seq19, .string Key19, .string Valuev19, .string Old19]] H110 (fun r111 H112 => ∃ x57 : Sl, r111 = .slice x57.a x57.len x57.cap ∧ 
  (vB2S H112 x55.a x55.len (fun s110 => vB2S H112 x57.a x57.len (fun s111 => Q (.bool ((s110.toList == s111.toList) == (((w64 ((1 : Int) + (w64 ((Int.tmod a 3))))) == (w64 ((1 : Int) + (w64 ((Int.tmod b 3)))))) && (((0 : Int) == (0 : Int)) && (((Opv18 == Opv19) && ((Client18 == Client19) && ((Seq18 == Seq19) && ((Key18 == Key19) && ((Valuev18 == Valuev19) && ((Old18 == Old19) && true)))))) && true))))) H112))) ∧ 
  (vB2S H112 x57.a x57.len (fun s112 => vB2S H112 x55.a x55.len (fun s113 => Q (.bool ((s113.toList == s112.toList) == (((w64 ((1 : Int) + (w64 ((Int.tmod a 3))))) == (w64 ((1 : Int) + (w64 ((Int.tmod b 3)))))) && (((0 : Int) == (0 : Int)) && (((Opv18 == Opv19) && ((Client18 == Client19) && ((Seq18 == Seq19) && ((Key18 == Key19) && ((Valuev18 == Valuev19) && ((Old18 == Old19) && true)))))) && true))))) H112)))))))) ∧ 
  (
 SCalls Try.prog tephralaw06_Say_Cmd.id [.agg #[.int .u8 tOp, .int .u8 tClient, .int .u8 tSeq, .int .u8 tKey, .int .u8 tValue, .int .u8 tOld]] (holes H20 1) (fun r21 H22 => ∃ Opv20 : Int, ∃ Client20 : Int, ∃ Seq20 : Int, ∃ Key20 : ByteArray, ∃ Valuev20 : ByteArray, ∃ Old20 : ByteArray, r21 = .agg #[.int .i64 Opv20, .int .i64 Client20, .int .i64 Seq20, .string Key20, .string Valuev20, .string Old20] ∧ 
 SCalls Try.prog cmds_Bytes.id [.agg #[.int .i64 (w64 ((1 : Int) + (w64 ((Int.tmod a 3))))), .int .i64 0, .int .i64 Opv18, .int .i64 Client18, .int .i64 Seq18, .string Key18, .string Valuev18, .string Old18]] H22 (fun r112 H113 => ∃ x58 : Sl, r112 = .slice x58.a x58.len x58.cap ∧ 
  (vB2S H113 x58.a x58.len (fun s114 => 
 SCalls Try.prog cmds_Bytes.id [.agg #[.int .i64 (w64 ((1 : Int) + (w64 ((Int.tmod b 3))))), .int .i64 0, .int .i64 Opv20, .int .i64 Client20, .int .i64 Seq20, .string Key20, .string Valuev20, .string Old20]] H113 (fun r113 H114 => ∃ x59 : Sl, r113 = .slice x59.a x59.len x59.cap ∧ vB2S H114 x59.a x59.len (fun s115 => Q (.bool ((s114.toList == s115.toList) == (((w64 ((1 : Int) + (w64 ((Int.tmod a 3))))) == (w64 ((1 : Int) + (w64 ((Int.tmod b 3)))))) && (((0 : Int) == (0 : Int)) && (((Opv18 == Opv20) && ((Client18 == Client20) && ((Seq18 == Seq20) && ((Key18 == Key20) && ((Valuev18 == Valuev20) && ((Old18 == Old20) && true)))))) && true))))) H114)))) ∧ 
  (
 SCalls Try.prog cmds_Bytes.id [.agg #[.int .i64 (w64 ((1 : Int) + (w64 ((Int.tmod b 3))))), .int .i64 0, .int .i64 Opv20, .int .i64 Client20, .int .i64 Seq20, .string Key20, .string Valuev20, .string Old20]] H113 (fun r114 H115 => ∃ x60 : Sl, r114 = .slice x60.a x60.len x60.cap ∧ 
  (vB2S H115 x58.a x58.len (fun s116 => vB2S H115 x60.a x60.len (fun s117 => Q (.bool ((s116.toList == s117.toList) == (((w64 ((1 : Int) + (w64 ((Int.tmod a 3))))) == (w64 ((1 : Int) + (w64 ((Int.tmod b 3)))))) && (((0 : Int) == (0 : Int)) && (((Opv18 == Opv20) && ((Client18 == Client20) && ((Seq18 == Seq20) && ((Key18 == Key20) && ((Valuev18 == Valuev20) && ((Old18 == Old20) && true)))))) && true))))) H115))) ∧ 
  (vB2S H115 x60.a x60.len (fun s118 => vB2S H115 x58.a x58.len (fun s119 => Q (.bool ((s119.toList == s118.toList) == (((w64 ((1 : Int) + (w64 ((Int.tmod a 3))))) == (w64 ((1 : Int) + (w64 ((Int.tmod b 3)))))) && (((0 : Int) == (0 : Int)) && (((Opv18 == Opv20) && ((Client18 == Client20) && ((Seq18 == Seq20) && ((Key18 == Key20) && ((Valuev18 == Valuev20) && ((Old18 == Old20) && true)))))) && true))))) H115)))))))))) ∧ 
  (
 SCalls Try.prog tephralaw06_Say_Cmd.id [.agg #[.int .u8 sOp, .int .u8 sClient, .int .u8 sSeq, .int .u8 sKey, .int .u8 sValue, .int .u8 sOld]] (holes H1 2) (fun r22 H23 => ∃ Opv21 : Int, ∃ Client21 : Int, ∃ Seq21 : Int, ∃ Key21 : ByteArray, ∃ Valuev21 : ByteArray, ∃ Old21 : ByteArray, r22 = .agg #[.int .i64 Opv21, .int .i64 Client21, .int .i64 Seq21, .string Key21, .string Valuev21, .string Old21] ∧ 
 SCalls Try.prog tephralaw06_Say_Cmd.id [.agg #[.int .u8 tOp, .int .u8 tClient, .int .u8 tSeq, .int .u8 tKey, .int .u8 tValue, .int .u8 tOld]] H23 (fun r23 H24 => ∃ Opv22 : Int, ∃ Client22 : Int, ∃ Seq22 : Int, ∃ Key22 : ByteArray, ∃ Valuev22 : ByteArray, ∃ Old22 : ByteArray, r23 = .agg #[.int .i64 Opv22, .int .i64 Client22, .int .i64 Seq22, .string Key22, .string Valuev22, .string Old22] ∧ 
 SCalls Try.prog cmds_Bytes.id [.agg #[.int .i64 (w64 ((1 : Int) + (w64 ((Int.tmod a 3))))), .int .i64 0, .int .i64 Opv21, .int .i64 Client21, .int .i64 Seq21, .string Key21, .string Valuev21, .string Old21]] H24 (fun r115 H116 => ∃ x61 : Sl, r115 = .slice x61.a x61.len x61.cap ∧ 
  (vB2S H116 x61.a x61.len (fun s120 => 
 SCalls Try.prog cmds_Bytes.id [.agg #[.int .i64 (w64 ((1 : Int) + (w64 ((Int.tmod b 3))))), .int .i64 0, .int .i64 Opv22, .int .i64 Client22, .int .i64 Seq22, .string Key22, .string Valuev22, .string Old22]] H116 (fun r116 H117 => ∃ x62 : Sl, r116 = .slice x62.a x62.len x62.cap ∧ vB2S H117 x62.a x62.len (fun s121 => Q (.bool ((s120.toList == s121.toList) == (((w64 ((1 : Int) + (w64 ((Int.tmod a 3))))) == (w64 ((1 : Int) + (w64 ((Int.tmod b 3)))))) && (((0 : Int) == (0 : Int)) && (((Opv21 == Opv22) && ((Client21 == Client22) && ((Seq21 == Seq22) && ((Key21 == Key22) && ((Valuev21 == Valuev22) && ((Old21 == Old22) && true)))))) && true))))) H117)))) ∧ 
  (
 SCalls Try.prog cmds_Bytes.id [.agg #[.int .i64 (w64 ((1 : Int) + (w64 ((Int.tmod b 3))))), .int .i64 0, .int .i64 Opv22, .int .i64 Client22, .int .i64 Seq22, .string Key22, .string Valuev22, .string Old22]] H116 (fun r117 H118 => ∃ x63 : Sl, r117 = .slice x63.a x63.len x63.cap ∧ 
  (vB2S H118 x61.a x61.len (fun s122 => vB2S H118 x63.a x63.len (fun s123 => Q (.bool ((s122.toList == s123.toList) == (((w64 ((1 : Int) + (w64 ((Int.tmod a 3))))) == (w64 ((1 : Int) + (w64 ((Int.tmod b 3)))))) && (((0 : Int) == (0 : Int)) && (((Opv21 == Opv22) && ((Client21 == Client22) && ((Seq21 == Seq22) && ((Key21 == Key22) && ((Valuev21 == Valuev22) && ((Old21 == Old22) && true)))))) && true))))) H118))) ∧ 
  (vB2S H118 x63.a x63.len (fun s124 => vB2S H118 x61.a x61.len (fun s125 => Q (.bool ((s125.toList == s124.toList) == (((w64 ((1 : Int) + (w64 ((Int.tmod a 3))))) == (w64 ((1 : Int) + (w64 ((Int.tmod b 3)))))) && (((0 : Int) == (0 : Int)) && (((Opv21 == Opv22) && ((Client21 == Client22) && ((Seq21 == Seq22) && ((Key21 == Key22) && ((Valuev21 == Valuev22) && ((Old21 == Old22) && true)))))) && true))))) H118)))))))))) ∧ 
  (
  (
 SCalls Try.prog tephralaw06_Say_Cmd.id [.agg #[.int .u8 sOp, .int .u8 sClient, .int .u8 sSeq, .int .u8 sKey, .int .u8 sValue, .int .u8 sOld]] (holes H1 1) (fun r24 H25 => ∃ Opv23 : Int, ∃ Client23 : Int, ∃ Seq23 : Int, ∃ Key23 : ByteArray, ∃ Valuev23 : ByteArray, ∃ Old23 : ByteArray, r24 = .agg #[.int .i64 Opv23, .int .i64 Client23, .int .i64 Seq23, .string Key23, .string Valuev23, .string Old23] ∧ 
  (
 SCalls Try.prog tephralaw06_Say_Cmd.id [.agg #[.int .u8 tOp, .int .u8 tClient, .int .u8 tSeq, .int .u8 tKey, .int .u8 tValue, .int .u8 tOld]] H25 (fun r25 H26 => ∃ Opv24 : Int, ∃ Client24 : Int, ∃ Seq24 : Int, ∃ Key24 : ByteArray, ∃ Valuev24 : ByteArray, ∃ Old24 : ByteArray, r25 = .agg #[.int .i64 Opv24, .int .i64 Client24, .int .i64 Seq24, .string Key24, .string Valuev24, .string Old24] ∧ 
 SCalls Try.prog cmds_Bytes.id [.agg #[.int .i64 (w64 ((1 : Int) + (w64 ((Int.tmod a 3))))), .int .i64 0, .int .i64 Opv23, .int .i64 Client23, .int .i64 Seq23, .string Key23, .string Valuev23, .string Old23]] (holes H26 1) (fun r118 H119 => ∃ x64 : Sl, r118 = .slice x64.a x64.len x64.cap ∧ 
  (vB2S H119 x64.a x64.len (fun s126 => 
 SCalls Try.prog cmds_Bytes.id [.agg #[.int .i64 (w64 ((1 : Int) + (w64 ((Int.tmod b 3))))), .int .i64 0, .int .i64 Opv24, .int .i64 Client24, .int .i64 Seq24, .string Key24, .string Valuev24, .string Old24]] H119 (fun r119 H120 => ∃ x65 : Sl, r119 = .slice x65.a x65.len x65.cap ∧ vB2S H120 x65.a x65.len (fun s127 => Q (.bool ((s126.toList == s127.toList) == (((w64 ((1 : Int) + (w64 ((Int.tmod a 3))))) == (w64 ((1 : Int) + (w64 ((Int.tmod b 3)))))) && (((0 : Int) == (0 : Int)) && (((Opv23 == Opv24) && ((Client23 == Client24) && ((Seq23 == Seq24) && ((Key23 == Key24) && ((Valuev23 == Valuev24) && ((Old23 == Old24) && true)))))) && true))))) H120)))) ∧ 
  (
 SCalls Try.prog cmds_Bytes.id [.agg #[.int .i64 (w64 ((1 : Int) + (w64 ((Int.tmod b 3))))), .int .i64 0, .int .i64 Opv24, .int .i64 Client24, .int .i64 Seq24, .string Key24, .string Valuev24, .string Old24]] H119 (fun r120 H121 => ∃ x66 : Sl, r120 = .slice x66.a x66.len x66.cap ∧ 
  (vB2S H121 x64.a x64.len (fun s128 => vB2S H121 x66.a x66.len (fun s129 => Q (.bool ((s128.toList == s129.toList) == (((w64 ((1 : Int) + (w64 ((Int.tmod a 3))))) == (w64 ((1 : Int) + (w64 ((Int.tmod b 3)))))) && (((0 : Int) == (0 : Int)) && (((Opv23 == Opv24) && ((Client23 == Client24) && ((Seq23 == Seq24) && ((Key23 == Key24) && ((Valuev23 == Valuev24) && ((Old23 == Old24) && true)))))) && true))))) H121))) ∧ 
  (vB2S H121 x66.a x66.len (fun s130 => vB2S H121 x64.a x64.len (fun s131 => Q (.bool ((s131.toList == s130.toList) == (((w64 ((1 : Int) + (w64 ((Int.tmod a 3))))) == (w64 ((1 : Int) + (w64 ((Int.tmod b 3)))))) && (((0 : Int) == (0 : Int)) && (((Opv23 == Opv24) && ((Client23 == Client24) && ((Seq23 == Seq24) && ((Key23 == Key24) && ((Valuev23 == Valuev24) && ((Old23 == Old24) && true)))))) && true))))) H121)))))))) ∧ 
  (
 SCalls Try.prog tephralaw06_Say_Cmd.id [.agg #[.int .u8 tOp, .int .u8 tClient, .int .u8 tSeq, .int .u8 tKey, .int .u8 tValue, .int .u8 tOld]] (holes H25 1) (fun r26 H27 => ∃ Opv25 : Int, ∃ Client25 : Int, ∃ Seq25 : Int, ∃ Key25 : ByteArray, ∃ Valuev25 : ByteArray, ∃ Old25 : ByteArray, r26 = .agg #[.int .i64 Opv25, .int .i64 Client25, .int .i64 Seq25, .string Key25, .string Valuev25, .string Old25] ∧ 
 SCalls Try.prog cmds_Bytes.id [.agg #[.int .i64 (w64 ((1 : Int) + (w64 ((Int.tmod a 3))))), .int .i64 0, .int .i64 Opv23, .int .i64 Client23, .int .i64 Seq23, .string Key23, .string Valuev23, .string Old23]] H27 (fun r121 H122 => ∃ x67 : Sl, r121 = .slice x67.a x67.len x67.cap ∧ 
  (vB2S H122 x67.a x67.len (fun s132 => 
 SCalls Try.prog cmds_Bytes.id [.agg #[.int .i64 (w64 ((1 : Int) + (w64 ((Int.tmod b 3))))), .int .i64 0, .int .i64 Opv25, .int .i64 Client25, .int .i64 Seq25, .string Key25, .string Valuev25, .string Old25]] H122 (fun r122 H123 => ∃ x68 : Sl, r122 = .slice x68.a x68.len x68.cap ∧ vB2S H123 x68.a x68.len (fun s133 => Q (.bool ((s132.toList == s133.toList) == (((w64 ((1 : Int) + (w64 ((Int.tmod a 3))))) == (w64 ((1 : Int) + (w64 ((Int.tmod b 3)))))) && (((0 : Int) == (0 : Int)) && (((Opv23 == Opv25) && ((Client23 == Client25) && ((Seq23 == Seq25) && ((Key23 == Key25) && ((Valuev23 == Valuev25) && ((Old23 == Old25) && true)))))) && true))))) H123)))) ∧ 
  (
 SCalls Try.prog cmds_Bytes.id [.agg #[.int .i64 (w64 ((1 : Int) + (w64 ((Int.tmod b 3))))), .int .i64 0, .int .i64 Opv25, .int .i64 Client25, .int .i64 Seq25, .string Key25, .string Valuev25, .string Old25]] H122 (fun r123 H124 => ∃ x69 : Sl, r123 = .slice x69.a x69.len x69.cap ∧ 
  (vB2S H124 x67.a x67.len (fun s134 => vB2S H124 x69.a x69.len (fun s135 => Q (.bool ((s134.toList == s135.toList) == (((w64 ((1 : Int) + (w64 ((Int.tmod a 3))))) == (w64 ((1 : Int) + (w64 ((Int.tmod b 3)))))) && (((0 : Int) == (0 : Int)) && (((Opv23 == Opv25) && ((Client23 == Client25) && ((Seq23 == Seq25) && ((Key23 == Key25) && ((Valuev23 == Valuev25) && ((Old23 == Old25) && true)))))) && true))))) H124))) ∧ 
  (vB2S H124 x69.a x69.len (fun s136 => vB2S H124 x67.a x67.len (fun s137 => Q (.bool ((s137.toList == s136.toList) == (((w64 ((1 : Int) + (w64 ((Int.tmod a 3))))) == (w64 ((1 : Int) + (w64 ((Int.tmod b 3)))))) && (((0 : Int) == (0 : Int)) && (((Opv23 == Opv25) && ((Client23 == Client25) && ((Seq23 == Seq25) && ((Key23 == Key25) && ((Valuev23 == Valuev25) && ((Old23 == Old25) && true)))))) && true))))) H124)))))))))) ∧ 
  (
 SCalls Try.prog tephralaw06_Say_Cmd.id [.agg #[.int .u8 sOp, .int .u8 sClient, .int .u8 sSeq, .int .u8 sKey, .int .u8 sValue, .int .u8 sOld]] (holes H1 2) (fun r27 H28 => ∃ Opv26 : Int, ∃ Client26 : Int, ∃ Seq26 : Int, ∃ Key26 : ByteArray, ∃ Valuev26 : ByteArray, ∃ Old26 : ByteArray, r27 = .agg #[.int .i64 Opv26, .int .i64 Client26, .int .i64 Seq26, .string Key26, .string Valuev26, .string Old26] ∧ 
 SCalls Try.prog tephralaw06_Say_Cmd.id [.agg #[.int .u8 tOp, .int .u8 tClient, .int .u8 tSeq, .int .u8 tKey, .int .u8 tValue, .int .u8 tOld]] H28 (fun r28 H29 => ∃ Opv27 : Int, ∃ Client27 : Int, ∃ Seq27 : Int, ∃ Key27 : ByteArray, ∃ Valuev27 : ByteArray, ∃ Old27 : ByteArray, r28 = .agg #[.int .i64 Opv27, .int .i64 Client27, .int .i64 Seq27, .string Key27, .string Valuev27, .string Old27] ∧ 
 SCalls Try.prog cmds_Bytes.id [.agg #[.int .i64 (w64 ((1 : Int) + (w64 ((Int.tmod a 3))))), .int .i64 0, .int .i64 Opv26, .int .i64 Client26, .int .i64 Seq26, .string Key26, .string Valuev26, .string Old26]] H29 (fun r124 H125 => ∃ x70 : Sl, r124 = .slice x70.a x70.len x70.cap ∧ 
  (vB2S H125 x70.a x70.len (fun s138 => 
 SCalls Try.prog cmds_Bytes.id [.agg #[.int .i64 (w64 ((1 : Int) + (w64 ((Int.tmod b 3))))), .int .i64 0, .int .i64 Opv27, .int .i64 Client27, .int .i64 Seq27, .string Key27, .string Valuev27, .string Old27]] H125 (fun r125 H126 => ∃ x71 : Sl, r125 = .slice x71.a x71.len x71.cap ∧ vB2S H126 x71.a x71.len (fun s139 => Q (.bool ((s138.toList == s139.toList) == (((w64 ((1 : Int) + (w64 ((Int.tmod a 3))))) == (w64 ((1 : Int) + (w64 ((Int.tmod b 3)))))) && (((0 : Int) == (0 : Int)) && (((Opv26 == Opv27) && ((Client26 == Client27) && ((Seq26 == Seq27) && ((Key26 == Key27) && ((Valuev26 == Valuev27) && ((Old26 == Old27) && true)))))) && true))))) H126)))) ∧ 
  (
 SCalls Try.prog cmds_Bytes.id [.agg #[.int .i64 (w64 ((1 : Int) + (w64 ((Int.tmod b 3))))), .int .i64 0, .int .i64 Opv27, .int .i64 Client27, .int .i64 Seq27, .string Key27, .string Valuev27, .string Old27]] H125 (fun r126 H127 => ∃ x72 : Sl, r126 = .slice x72.a x72.len x72.cap ∧ 
  (vB2S H127 x70.a x70.len (fun s140 => vB2S H127 x72.a x72.len (fun s141 => Q (.bool ((s140.toList == s141.toList) == (((w64 ((1 : Int) + (w64 ((Int.tmod a 3))))) == (w64 ((1 : Int) + (w64 ((Int.tmod b 3)))))) && (((0 : Int) == (0 : Int)) && (((Opv26 == Opv27) && ((Client26 == Client27) && ((Seq26 == Seq27) && ((Key26 == Key27) && ((Valuev26 == Valuev27) && ((Old26 == Old27) && true)))))) && true))))) H127))) ∧ 
  (vB2S H127 x72.a x72.len (fun s142 => vB2S H127 x70.a x70.len (fun s143 => Q (.bool ((s143.toList == s142.toList) == (((w64 ((1 : Int) + (w64 ((Int.tmod a 3))))) == (w64 ((1 : Int) + (w64 ((Int.tmod b 3)))))) && (((0 : Int) == (0 : Int)) && (((Opv26 == Opv27) && ((Client26 == Client27) && ((Seq26 == Seq27) && ((Key26 == Key27) && ((Valuev26 == Valuev27) && ((Old26 == Old27) && true)))))) && true))))) H127))))))))))) ∧ 
  (
  (
 SCalls Try.prog tephralaw06_Say_Cmd.id [.agg #[.int .u8 sOp, .int .u8 sClient, .int .u8 sSeq, .int .u8 sKey, .int .u8 sValue, .int .u8 sOld]] (holes H1 1) (fun r29 H30 => ∃ Opv28 : Int, ∃ Client28 : Int, ∃ Seq28 : Int, ∃ Key28 : ByteArray, ∃ Valuev28 : ByteArray, ∃ Old28 : ByteArray, r29 = .agg #[.int .i64 Opv28, .int .i64 Client28, .int .i64 Seq28, .string Key28, .string Valuev28, .string Old28] ∧ 
  (
  (
 SCalls Try.prog tephralaw06_Say_Cmd.id [.agg #[.int .u8 tOp, .int .u8 tClient, .int .u8 tSeq, .int .u8 tKey, .int .u8 tValue, .int .u8 tOld]] H30 (fun r30 H31 => ∃ Opv29 : Int, ∃ Client29 : Int, ∃ Seq29 : Int, ∃ Key29 : ByteArray, ∃ Valuev29 : ByteArray, ∃ Old29 : ByteArray, r30 = .agg #[.int .i64 Opv29, .int .i64 Client29, .int .i64 Seq29, .string Key29, .string Valuev29, .string Old29] ∧ 
 SCalls Try.prog cmds_Bytes.id [.agg #[.int .i64 (w64 ((1 : Int) + (w64 ((Int.tmod a 3))))), .int .i64 0, .int .i64 Opv28, .int .i64 Client28, .int .i64 Seq28, .string Key28, .string Valuev28, .string Old28]] (holes H31 1) (fun r127 H128 => ∃ x73 : Sl, r127 = .slice x73.a x73.len x73.cap ∧ 
  (vB2S H128 x73.a x73.len (fun s144 => 
 SCalls Try.prog cmds_Bytes.id [.agg #[.int .i64 (w64 ((1 : Int) + (w64 ((Int.tmod b 3))))), .int .i64 0, .int .i64 Opv29, .int .i64 Client29, .int .i64 Seq29, .string Key29, .string Valuev29, .string Old29]] H128 (fun r128 H129 => ∃ x74 : Sl, r128 = .slice x74.a x74.len x74.cap ∧ vB2S H129 x74.a x74.len (fun s145 => Q (.bool ((s144.toList == s145.toList) == (((w64 ((1 : Int) + (w64 ((Int.tmod a 3))))) == (w64 ((1 : Int) + (w64 ((Int.tmod b 3)))))) && (((0 : Int) == (0 : Int)) && (((Opv28 == Opv29) && ((Client28 == Client29) && ((Seq28 == Seq29) && ((Key28 == Key29) && ((Valuev28 == Valuev29) && ((Old28 == Old29) && true)))))) && true))))) H129)))) ∧ 
  (
 SCalls Try.prog cmds_Bytes.id [.agg #[.int .i64 (w64 ((1 : Int) + (w64 ((Int.tmod b 3))))), .int .i64 0, .int .i64 Opv29, .int .i64 Client29, .int .i64 Seq29, .string Key29, .string Valuev29, .string Old29]] H128 (fun r129 H130 => ∃ x75 : Sl, r129 = .slice x75.a x75.len x75.cap ∧ 
  (vB2S H130 x73.a x73.len (fun s146 => vB2S H130 x75.a x75.len (fun s147 => Q (.bool ((s146.toList == s147.toList) == (((w64 ((1 : Int) + (w64 ((Int.tmod a 3))))) == (w64 ((1 : Int) + (w64 ((Int.tmod b 3)))))) && (((0 : Int) == (0 : Int)) && (((Opv28 == Opv29) && ((Client28 == Client29) && ((Seq28 == Seq29) && ((Key28 == Key29) && ((Valuev28 == Valuev29) && ((Old28 == Old29) && true)))))) && true))))) H130))) ∧ 
  (vB2S H130 x75.a x75.len (fun s148 => vB2S H130 x73.a x73.len (fun s149 => Q (.bool ((s149.toList == s148.toList) == (((w64 ((1 : Int) + (w64 ((Int.tmod a 3))))) == (w64 ((1 : Int) + (w64 ((Int.tmod b 3)))))) && (((0 : Int) == (0 : Int)) && (((Opv28 == Opv29) && ((Client28 == Client29) && ((Seq28 == Seq29) && ((Key28 == Key29) && ((Valuev28 == Valuev29) && ((Old28 == Old29) && true)))))) && true))))) H130)))))))) ∧ 
  (
 SCalls Try.prog tephralaw06_Say_Cmd.id [.agg #[.int .u8 tOp, .int .u8 tClient, .int .u8 tSeq, .int .u8 tKey, .int .u8 tValue, .int .u8 tOld]] (holes H30 1) (fun r31 H32 => ∃ Opv30 : Int, ∃ Client30 : Int, ∃ Seq30 : Int, ∃ Key30 : ByteArray, ∃ Valuev30 : ByteArray, ∃ Old30 : ByteArray, r31 = .agg #[.int .i64 Opv30, .int .i64 Client30, .int .i64 Seq30, .string Key30, .string Valuev30, .string Old30] ∧ 
 SCalls Try.prog cmds_Bytes.id [.agg #[.int .i64 (w64 ((1 : Int) + (w64 ((Int.tmod a 3))))), .int .i64 0, .int .i64 Opv28, .int .i64 Client28, .int .i64 Seq28, .string Key28, .string Valuev28, .string Old28]] H32 (fun r130 H131 => ∃ x76 : Sl, r130 = .slice x76.a x76.len x76.cap ∧ 
  (vB2S H131 x76.a x76.len (fun s150 => 
 SCalls Try.prog cmds_Bytes.id [.agg #[.int .i64 (w64 ((1 : Int) + (w64 ((Int.tmod b 3))))), .int .i64 0, .int .i64 Opv30, .int .i64 Client30, .int .i64 Seq30, .string Key30, .string Valuev30, .string Old30]] H131 (fun r131 H132 => ∃ x77 : Sl, r131 = .slice x77.a x77.len x77.cap ∧ vB2S H132 x77.a x77.len (fun s151 => Q (.bool ((s150.toList == s151.toList) == (((w64 ((1 : Int) + (w64 ((Int.tmod a 3))))) == (w64 ((1 : Int) + (w64 ((Int.tmod b 3)))))) && (((0 : Int) == (0 : Int)) && (((Opv28 == Opv30) && ((Client28 == Client30) && ((Seq28 == Seq30) && ((Key28 == Key30) && ((Valuev28 == Valuev30) && ((Old28 == Old30) && true)))))) && true))))) H132)))) ∧ 
  (
 SCalls Try.prog cmds_Bytes.id [.agg #[.int .i64 (w64 ((1 : Int) + (w64 ((Int.tmod b 3))))), .int .i64 0, .int .i64 Opv30, .int .i64 Client30, .int .i64 Seq30, .string Key30, .string Valuev30, .string Old30]] H131 (fun r132 H133 => ∃ x78 : Sl, r132 = .slice x78.a x78.len x78.cap ∧ 
  (vB2S H133 x76.a x76.len (fun s152 => vB2S H133 x78.a x78.len (fun s153 => Q (.bool ((s152.toList == s153.toList) == (((w64 ((1 : Int) + (w64 ((Int.tmod a 3))))) == (w64 ((1 : Int) + (w64 ((Int.tmod b 3)))))) && (((0 : Int) == (0 : Int)) && (((Opv28 == Opv30) && ((Client28 == Client30) && ((Seq28 == Seq30) && ((Key28 == Key30) && ((Valuev28 == Valuev30) && ((Old28 == Old30) && true)))))) && true))))) H133))) ∧ 
  (vB2S H133 x78.a x78.len (fun s154 => vB2S H133 x76.a x76.len (fun s155 => Q (.bool ((s155.toList == s154.toList) == (((w64 ((1 : Int) + (w64 ((Int.tmod a 3))))) == (w64 ((1 : Int) + (w64 ((Int.tmod b 3)))))) && (((0 : Int) == (0 : Int)) && (((Opv28 == Opv30) && ((Client28 == Client30) && ((Seq28 == Seq30) && ((Key28 == Key30) && ((Valuev28 == Valuev30) && ((Old28 == Old30) && true)))))) && true))))) H133))))))))) ∧ 
  (
 SCalls Try.prog tephralaw06_Say_Cmd.id [.agg #[.int .u8 tOp, .int .u8 tClient, .int .u8 tSeq, .int .u8 tKey, .int .u8 tValue, .int .u8 tOld]] (holes H30 1) (fun r32 H33 => ∃ Opv31 : Int, ∃ Client31 : Int, ∃ Seq31 : Int, ∃ Key31 : ByteArray, ∃ Valuev31 : ByteArray, ∃ Old31 : ByteArray, r32 = .agg #[.int .i64 Opv31, .int .i64 Client31, .int .i64 Seq31, .string Key31, .string Valuev31, .string Old31] ∧ 
 SCalls Try.prog cmds_Bytes.id [.agg #[.int .i64 (w64 ((1 : Int) + (w64 ((Int.tmod a 3))))), .int .i64 0, .int .i64 Opv28, .int .i64 Client28, .int .i64 Seq28, .string Key28, .string Valuev28, .string Old28]] H33 (fun r133 H134 => ∃ x79 : Sl, r133 = .slice x79.a x79.len x79.cap ∧ 
  (vB2S H134 x79.a x79.len (fun s156 => 
 SCalls Try.prog cmds_Bytes.id [.agg #[.int .i64 (w64 ((1 : Int) + (w64 ((Int.tmod b 3))))), .int .i64 0, .int .i64 Opv31, .int .i64 Client31, .int .i64 Seq31, .string Key31, .string Valuev31, .string Old31]] H134 (fun r134 H135 => ∃ x80 : Sl, r134 = .slice x80.a x80.len x80.cap ∧ vB2S H135 x80.a x80.len (fun s157 => Q (.bool ((s156.toList == s157.toList) == (((w64 ((1 : Int) + (w64 ((Int.tmod a 3))))) == (w64 ((1 : Int) + (w64 ((Int.tmod b 3)))))) && (((0 : Int) == (0 : Int)) && (((Opv28 == Opv31) && ((Client28 == Client31) && ((Seq28 == Seq31) && ((Key28 == Key31) && ((Valuev28 == Valuev31) && ((Old28 == Old31) && true)))))) && true))))) H135)))) ∧ 
  (
 SCalls Try.prog cmds_Bytes.id [.agg #[.int .i64 (w64 ((1 : Int) + (w64 ((Int.tmod b 3))))), .int .i64 0, .int .i64 Opv31, .int .i64 Client31, .int .i64 Seq31, .string Key31, .string Valuev31, .string Old31]] H134 (fun r135 H136 => ∃ x81 : Sl, r135 = .slice x81.a x81.len x81.cap ∧ 
  (vB2S H136 x79.a x79.len (fun s158 => vB2S H136 x81.a x81.len (fun s159 => Q (.bool ((s158.toList == s159.toList) == (((w64 ((1 : Int) + (w64 ((Int.tmod a 3))))) == (w64 ((1 : Int) + (w64 ((Int.tmod b 3)))))) && (((0 : Int) == (0 : Int)) && (((Opv28 == Opv31) && ((Client28 == Client31) && ((Seq28 == Seq31) && ((Key28 == Key31) && ((Valuev28 == Valuev31) && ((Old28 == Old31) && true)))))) && true))))) H136))) ∧ 
  (vB2S H136 x81.a x81.len (fun s160 => vB2S H136 x79.a x79.len (fun s161 => Q (.bool ((s161.toList == s160.toList) == (((w64 ((1 : Int) + (w64 ((Int.tmod a 3))))) == (w64 ((1 : Int) + (w64 ((Int.tmod b 3)))))) && (((0 : Int) == (0 : Int)) && (((Opv28 == Opv31) && ((Client28 == Client31) && ((Seq28 == Seq31) && ((Key28 == Key31) && ((Valuev28 == Valuev31) && ((Old28 == Old31) && true)))))) && true))))) H136)))))))))) ∧ 
  (
  (
 SCalls Try.prog tephralaw06_Say_Cmd.id [.agg #[.int .u8 sOp, .int .u8 sClient, .int .u8 sSeq, .int .u8 sKey, .int .u8 sValue, .int .u8 sOld]] (holes H1 1) (fun r33 H34 => ∃ Opv32 : Int, ∃ Client32 : Int, ∃ Seq32 : Int, ∃ Key32 : ByteArray, ∃ Valuev32 : ByteArray, ∃ Old32 : ByteArray, r33 = .agg #[.int .i64 Opv32, .int .i64 Client32, .int .i64 Seq32, .string Key32, .string Valuev32, .string Old32] ∧ 
  (
 SCalls Try.prog tephralaw06_Say_Cmd.id [.agg #[.int .u8 tOp, .int .u8 tClient, .int .u8 tSeq, .int .u8 tKey, .int .u8 tValue, .int .u8 tOld]] H34 (fun r34 H35 => ∃ Opv33 : Int, ∃ Client33 : Int, ∃ Seq33 : Int, ∃ Key33 : ByteArray, ∃ Valuev33 : ByteArray, ∃ Old33 : ByteArray, r34 = .agg #[.int .i64 Opv33, .int .i64 Client33, .int .i64 Seq33, .string Key33, .string Valuev33, .string Old33] ∧ 
 SCalls Try.prog cmds_Bytes.id [.agg #[.int .i64 (w64 ((1 : Int) + (w64 ((Int.tmod a 3))))), .int .i64 0, .int .i64 Opv32, .int .i64 Client32, .int .i64 Seq32, .string Key32, .string Valuev32, .string Old32]] (holes H35 1) (fun r136 H137 => ∃ x82 : Sl, r136 = .slice x82.a x82.len x82.cap ∧ 
  (vB2S H137 x82.a x82.len (fun s162 => 
 SCalls Try.prog cmds_Bytes.id [.agg #[.int .i64 (w64 ((1 : Int) + (w64 ((Int.tmod b 3))))), .int .i64 0, .int .i64 Opv33, .int .i64 Client33, .int .i64 Seq33, .string Key33, .string Valuev33, .string Old33]] H137 (fun r137 H138 => ∃ x83 : Sl, r137 = .slice x83.a x83.len x83.cap ∧ vB2S H138 x83.a x83.len (fun s163 => Q (.bool ((s162.toList == s163.toList) == (((w64 ((1 : Int) + (w64 ((Int.tmod a 3))))) == (w64 ((1 : Int) + (w64 ((Int.tmod b 3)))))) && (((0 : Int) == (0 : Int)) && (((Opv32 == Opv33) && ((Client32 == Client33) && ((Seq32 == Seq33) && ((Key32 == Key33) && ((Valuev32 == Valuev33) && ((Old32 == Old33) && true)))))) && true))))) H138)))) ∧ 
  (
 SCalls Try.prog cmds_Bytes.id [.agg #[.int .i64 (w64 ((1 : Int) + (w64 ((Int.tmod b 3))))), .int .i64 0, .int .i64 Opv33, .int .i64 Client33, .int .i64 Seq33, .string Key33, .string Valuev33, .string Old33]] H137 (fun r138 H139 => ∃ x84 : Sl, r138 = .slice x84.a x84.len x84.cap ∧ 
  (vB2S H139 x82.a x82.len (fun s164 => vB2S H139 x84.a x84.len (fun s165 => Q (.bool ((s164.toList == s165.toList) == (((w64 ((1 : Int) + (w64 ((Int.tmod a 3))))) == (w64 ((1 : Int) + (w64 ((Int.tmod b 3)))))) && (((0 : Int) == (0 : Int)) && (((Opv32 == Opv33) && ((Client32 == Client33) && ((Seq32 == Seq33) && ((Key32 == Key33) && ((Valuev32 == Valuev33) && ((Old32 == Old33) && true)))))) && true))))) H139))) ∧ 
  (vB2S H139 x84.a x84.len (fun s166 => vB2S H139 x82.a x82.len (fun s167 => Q (.bool ((s167.toList == s166.toList) == (((w64 ((1 : Int) + (w64 ((Int.tmod a 3))))) == (w64 ((1 : Int) + (w64 ((Int.tmod b 3)))))) && (((0 : Int) == (0 : Int)) && (((Opv32 == Opv33) && ((Client32 == Client33) && ((Seq32 == Seq33) && ((Key32 == Key33) && ((Valuev32 == Valuev33) && ((Old32 == Old33) && true)))))) && true))))) H139)))))))) ∧ 
  (
 SCalls Try.prog tephralaw06_Say_Cmd.id [.agg #[.int .u8 tOp, .int .u8 tClient, .int .u8 tSeq, .int .u8 tKey, .int .u8 tValue, .int .u8 tOld]] (holes H34 1) (fun r35 H36 => ∃ Opv34 : Int, ∃ Client34 : Int, ∃ Seq34 : Int, ∃ Key34 : ByteArray, ∃ Valuev34 : ByteArray, ∃ Old34 : ByteArray, r35 = .agg #[.int .i64 Opv34, .int .i64 Client34, .int .i64 Seq34, .string Key34, .string Valuev34, .string Old34] ∧ 
 SCalls Try.prog cmds_Bytes.id [.agg #[.int .i64 (w64 ((1 : Int) + (w64 ((Int.tmod a 3))))), .int .i64 0, .int .i64 Opv32, .int .i64 Client32, .int .i64 Seq32, .string Key32, .string Valuev32, .string Old32]] H36 (fun r139 H140 => ∃ x85 : Sl, r139 = .slice x85.a x85.len x85.cap ∧ 
  (vB2S H140 x85.a x85.len (fun s168 => 
 SCalls Try.prog cmds_Bytes.id [.agg #[.int .i64 (w64 ((1 : Int) + (w64 ((Int.tmod b 3))))), .int .i64 0, .int .i64 Opv34, .int .i64 Client34, .int .i64 Seq34, .string Key34, .string Valuev34, .string Old34]] H140 (fun r140 H141 => ∃ x86 : Sl, r140 = .slice x86.a x86.len x86.cap ∧ vB2S H141 x86.a x86.len (fun s169 => Q (.bool ((s168.toList == s169.toList) == (((w64 ((1 : Int) + (w64 ((Int.tmod a 3))))) == (w64 ((1 : Int) + (w64 ((Int.tmod b 3)))))) && (((0 : Int) == (0 : Int)) && (((Opv32 == Opv34) && ((Client32 == Client34) && ((Seq32 == Seq34) && ((Key32 == Key34) && ((Valuev32 == Valuev34) && ((Old32 == Old34) && true)))))) && true))))) H141)))) ∧ 
  (
 SCalls Try.prog cmds_Bytes.id [.agg #[.int .i64 (w64 ((1 : Int) + (w64 ((Int.tmod b 3))))), .int .i64 0, .int .i64 Opv34, .int .i64 Client34, .int .i64 Seq34, .string Key34, .string Valuev34, .string Old34]] H140 (fun r141 H142 => ∃ x87 : Sl, r141 = .slice x87.a x87.len x87.cap ∧ 
  (vB2S H142 x85.a x85.len (fun s170 => vB2S H142 x87.a x87.len (fun s171 => Q (.bool ((s170.toList == s171.toList) == (((w64 ((1 : Int) + (w64 ((Int.tmod a 3))))) == (w64 ((1 : Int) + (w64 ((Int.tmod b 3)))))) && (((0 : Int) == (0 : Int)) && (((Opv32 == Opv34) && ((Client32 == Client34) && ((Seq32 == Seq34) && ((Key32 == Key34) && ((Valuev32 == Valuev34) && ((Old32 == Old34) && true)))))) && true))))) H142))) ∧ 
  (vB2S H142 x87.a x87.len (fun s172 => vB2S H142 x85.a x85.len (fun s173 => Q (.bool ((s173.toList == s172.toList) == (((w64 ((1 : Int) + (w64 ((Int.tmod a 3))))) == (w64 ((1 : Int) + (w64 ((Int.tmod b 3)))))) && (((0 : Int) == (0 : Int)) && (((Opv32 == Opv34) && ((Client32 == Client34) && ((Seq32 == Seq34) && ((Key32 == Key34) && ((Valuev32 == Valuev34) && ((Old32 == Old34) && true)))))) && true))))) H142)))))))))) ∧ 
  (
 SCalls Try.prog tephralaw06_Say_Cmd.id [.agg #[.int .u8 sOp, .int .u8 sClient, .int .u8 sSeq, .int .u8 sKey, .int .u8 sValue, .int .u8 sOld]] (holes H1 2) (fun r36 H37 => ∃ Opv35 : Int, ∃ Client35 : Int, ∃ Seq35 : Int, ∃ Key35 : ByteArray, ∃ Valuev35 : ByteArray, ∃ Old35 : ByteArray, r36 = .agg #[.int .i64 Opv35, .int .i64 Client35, .int .i64 Seq35, .string Key35, .string Valuev35, .string Old35] ∧ 
 SCalls Try.prog tephralaw06_Say_Cmd.id [.agg #[.int .u8 tOp, .int .u8 tClient, .int .u8 tSeq, .int .u8 tKey, .int .u8 tValue, .int .u8 tOld]] H37 (fun r37 H38 => ∃ Opv36 : Int, ∃ Client36 : Int, ∃ Seq36 : Int, ∃ Key36 : ByteArray, ∃ Valuev36 : ByteArray, ∃ Old36 : ByteArray, r37 = .agg #[.int .i64 Opv36, .int .i64 Client36, .int .i64 Seq36, .string Key36, .string Valuev36, .string Old36] ∧ 
 SCalls Try.prog cmds_Bytes.id [.agg #[.int .i64 (w64 ((1 : Int) + (w64 ((Int.tmod a 3))))), .int .i64 0, .int .i64 Opv35, .int .i64 Client35, .int .i64 Seq35, .string Key35, .string Valuev35, .string Old35]] H38 (fun r142 H143 => ∃ x88 : Sl, r142 = .slice x88.a x88.len x88.cap ∧ 
  (vB2S H143 x88.a x88.len (fun s174 => 
 SCalls Try.prog cmds_Bytes.id [.agg #[.int .i64 (w64 ((1 : Int) + (w64 ((Int.tmod b 3))))), .int .i64 0, .int .i64 Opv36, .int .i64 Client36, .int .i64 Seq36, .string Key36, .string Valuev36, .string Old36]] H143 (fun r143 H144 => ∃ x89 : Sl, r143 = .slice x89.a x89.len x89.cap ∧ vB2S H144 x89.a x89.len (fun s175 => Q (.bool ((s174.toList == s175.toList) == (((w64 ((1 : Int) + (w64 ((Int.tmod a 3))))) == (w64 ((1 : Int) + (w64 ((Int.tmod b 3)))))) && (((0 : Int) == (0 : Int)) && (((Opv35 == Opv36) && ((Client35 == Client36) && ((Seq35 == Seq36) && ((Key35 == Key36) && ((Valuev35 == Valuev36) && ((Old35 == Old36) && true)))))) && true))))) H144)))) ∧ 
  (
 SCalls Try.prog cmds_Bytes.id [.agg #[.int .i64 (w64 ((1 : Int) + (w64 ((Int.tmod b 3))))), .int .i64 0, .int .i64 Opv36, .int .i64 Client36, .int .i64 Seq36, .string Key36, .string Valuev36, .string Old36]] H143 (fun r144 H145 => ∃ x90 : Sl, r144 = .slice x90.a x90.len x90.cap ∧ 
  (vB2S H145 x88.a x88.len (fun s176 => vB2S H145 x90.a x90.len (fun s177 => Q (.bool ((s176.toList == s177.toList) == (((w64 ((1 : Int) + (w64 ((Int.tmod a 3))))) == (w64 ((1 : Int) + (w64 ((Int.tmod b 3)))))) && (((0 : Int) == (0 : Int)) && (((Opv35 == Opv36) && ((Client35 == Client36) && ((Seq35 == Seq36) && ((Key35 == Key36) && ((Valuev35 == Valuev36) && ((Old35 == Old36) && true)))))) && true))))) H145))) ∧ 
  (vB2S H145 x90.a x90.len (fun s178 => vB2S H145 x88.a x88.len (fun s179 => Q (.bool ((s179.toList == s178.toList) == (((w64 ((1 : Int) + (w64 ((Int.tmod a 3))))) == (w64 ((1 : Int) + (w64 ((Int.tmod b 3)))))) && (((0 : Int) == (0 : Int)) && (((Opv35 == Opv36) && ((Client35 == Client36) && ((Seq35 == Seq36) && ((Key35 == Key36) && ((Valuev35 == Valuev36) && ((Old35 == Old36) && true)))))) && true))))) H145)))))))))) ∧ 
  (
  (
 SCalls Try.prog tephralaw06_Say_Cmd.id [.agg #[.int .u8 sOp, .int .u8 sClient, .int .u8 sSeq, .int .u8 sKey, .int .u8 sValue, .int .u8 sOld]] (holes H1 2) (fun r38 H39 => ∃ Opv37 : Int, ∃ Client37 : Int, ∃ Seq37 : Int, ∃ Key37 : ByteArray, ∃ Valuev37 : ByteArray, ∃ Old37 : ByteArray, r38 = .agg #[.int .i64 Opv37, .int .i64 Client37, .int .i64 Seq37, .string Key37, .string Valuev37, .string Old37] ∧ 
 SCalls Try.prog tephralaw06_Say_Cmd.id [.agg #[.int .u8 tOp, .int .u8 tClient, .int .u8 tSeq, .int .u8 tKey, .int .u8 tValue, .int .u8 tOld]] H39 (fun r39 H40 => ∃ Opv38 : Int, ∃ Client38 : Int, ∃ Seq38 : Int, ∃ Key38 : ByteArray, ∃ Valuev38 : ByteArray, ∃ Old38 : ByteArray, r39 = .agg #[.int .i64 Opv38, .int .i64 Client38, .int .i64 Seq38, .string Key38, .string Valuev38, .string Old38] ∧ 
 SCalls Try.prog cmds_Bytes.id [.agg #[.int .i64 (w64 ((1 : Int) + (w64 ((Int.tmod a 3))))), .int .i64 0, .int .i64 Opv37, .int .i64 Client37, .int .i64 Seq37, .string Key37, .string Valuev37, .string Old37]] H40 (fun r145 H146 => ∃ x91 : Sl, r145 = .slice x91.a x91.len x91.cap ∧ 
  (vB2S H146 x91.a x91.len (fun s180 => 
 SCalls Try.prog cmds_Bytes.id [.agg #[.int .i64 (w64 ((1 : Int) + (w64 ((Int.tmod b 3))))), .int .i64 0, .int .i64 Opv38, .int .i64 Client38, .int .i64 Seq38, .string Key38, .string Valuev38, .string Old38]] H146 (fun r146 H147 => ∃ x92 : Sl, r146 = .slice x92.a x92.len x92.cap ∧ vB2S H147 x92.a x92.len (fun s181 => Q (.bool ((s180.toList == s181.toList) == (((w64 ((1 : Int) + (w64 ((Int.tmod a 3))))) == (w64 ((1 : Int) + (w64 ((Int.tmod b 3)))))) && (((0 : Int) == (0 : Int)) && (((Opv37 == Opv38) && ((Client37 == Client38) && ((Seq37 == Seq38) && ((Key37 == Key38) && ((Valuev37 == Valuev38) && ((Old37 == Old38) && true)))))) && true))))) H147)))) ∧ 
  (
 SCalls Try.prog cmds_Bytes.id [.agg #[.int .i64 (w64 ((1 : Int) + (w64 ((Int.tmod b 3))))), .int .i64 0, .int .i64 Opv38, .int .i64 Client38, .int .i64 Seq38, .string Key38, .string Valuev38, .string Old38]] H146 (fun r147 H148 => ∃ x93 : Sl, r147 = .slice x93.a x93.len x93.cap ∧ 
  (vB2S H148 x91.a x91.len (fun s182 => vB2S H148 x93.a x93.len (fun s183 => Q (.bool ((s182.toList == s183.toList) == (((w64 ((1 : Int) + (w64 ((Int.tmod a 3))))) == (w64 ((1 : Int) + (w64 ((Int.tmod b 3)))))) && (((0 : Int) == (0 : Int)) && (((Opv37 == Opv38) && ((Client37 == Client38) && ((Seq37 == Seq38) && ((Key37 == Key38) && ((Valuev37 == Valuev38) && ((Old37 == Old38) && true)))))) && true))))) H148))) ∧ 
  (vB2S H148 x93.a x93.len (fun s184 => vB2S H148 x91.a x91.len (fun s185 => Q (.bool ((s185.toList == s184.toList) == (((w64 ((1 : Int) + (w64 ((Int.tmod a 3))))) == (w64 ((1 : Int) + (w64 ((Int.tmod b 3)))))) && (((0 : Int) == (0 : Int)) && (((Opv37 == Opv38) && ((Client37 == Client38) && ((Seq37 == Seq38) && ((Key37 == Key38) && ((Valuev37 == Valuev38) && ((Old37 == Old38) && true)))))) && true))))) H148))))))))) ∧ 
  (
 SCalls Try.prog tephralaw06_Say_Cmd.id [.agg #[.int .u8 sOp, .int .u8 sClient, .int .u8 sSeq, .int .u8 sKey, .int .u8 sValue, .int .u8 sOld]] (holes H1 2) (fun r40 H41 => ∃ Opv39 : Int, ∃ Client39 : Int, ∃ Seq39 : Int, ∃ Key39 : ByteArray, ∃ Valuev39 : ByteArray, ∃ Old39 : ByteArray, r40 = .agg #[.int .i64 Opv39, .int .i64 Client39, .int .i64 Seq39, .string Key39, .string Valuev39, .string Old39] ∧ 
 SCalls Try.prog tephralaw06_Say_Cmd.id [.agg #[.int .u8 tOp, .int .u8 tClient, .int .u8 tSeq, .int .u8 tKey, .int .u8 tValue, .int .u8 tOld]] H41 (fun r41 H42 => ∃ Opv40 : Int, ∃ Client40 : Int, ∃ Seq40 : Int, ∃ Key40 : ByteArray, ∃ Valuev40 : ByteArray, ∃ Old40 : ByteArray, r41 = .agg #[.int .i64 Opv40, .int .i64 Client40, .int .i64 Seq40, .string Key40, .string Valuev40, .string Old40] ∧ 
 SCalls Try.prog cmds_Bytes.id [.agg #[.int .i64 (w64 ((1 : Int) + (w64 ((Int.tmod a 3))))), .int .i64 0, .int .i64 Opv39, .int .i64 Client39, .int .i64 Seq39, .string Key39, .string Valuev39, .string Old39]] H42 (fun r148 H149 => ∃ x94 : Sl, r148 = .slice x94.a x94.len x94.cap ∧ 
  (vB2S H149 x94.a x94.len (fun s186 => 
 SCalls Try.prog cmds_Bytes.id [.agg #[.int .i64 (w64 ((1 : Int) + (w64 ((Int.tmod b 3))))), .int .i64 0, .int .i64 Opv40, .int .i64 Client40, .int .i64 Seq40, .string Key40, .string Valuev40, .string Old40]] H149 (fun r149 H150 => ∃ x95 : Sl, r149 = .slice x95.a x95.len x95.cap ∧ vB2S H150 x95.a x95.len (fun s187 => Q (.bool ((s186.toList == s187.toList) == (((w64 ((1 : Int) + (w64 ((Int.tmod a 3))))) == (w64 ((1 : Int) + (w64 ((Int.tmod b 3)))))) && (((0 : Int) == (0 : Int)) && (((Opv39 == Opv40) && ((Client39 == Client40) && ((Seq39 == Seq40) && ((Key39 == Key40) && ((Valuev39 == Valuev40) && ((Old39 == Old40) && true)))))) && true))))) H150)))) ∧ 
  (
 SCalls Try.prog cmds_Bytes.id [.agg #[.int .i64 (w64 ((1 : Int) + (w64 ((Int.tmod b 3))))), .int .i64 0, .int .i64 Opv40, .int .i64 Client40, .int .i64 Seq40, .string Key40, .string Valuev40, .string Old40]] H149 (fun r150 H151 => ∃ x96 : Sl, r150 = .slice x96.a x96.len x96.cap ∧ 
  (vB2S H151 x94.a x94.len (fun s188 => vB2S H151 x96.a x96.len (fun s189 => Q (.bool ((s188.toList == s189.toList) == (((w64 ((1 : Int) + (w64 ((Int.tmod a 3))))) == (w64 ((1 : Int) + (w64 ((Int.tmod b 3)))))) && (((0 : Int) == (0 : Int)) && (((Opv39 == Opv40) && ((Client39 == Client40) && ((Seq39 == Seq40) && ((Key39 == Key40) && ((Valuev39 == Valuev40) && ((Old39 == Old40) && true)))))) && true))))) H151))) ∧ 
  (vB2S H151 x96.a x96.len (fun s190 => vB2S H151 x94.a x94.len (fun s191 => Q (.bool ((s191.toList == s190.toList) == (((w64 ((1 : Int) + (w64 ((Int.tmod a 3))))) == (w64 ((1 : Int) + (w64 ((Int.tmod b 3)))))) && (((0 : Int) == (0 : Int)) && (((Opv39 == Opv40) && ((Client39 == Client40) && ((Seq39 == Seq40) && ((Key39 == Key40) && ((Valuev39 == Valuev40) && ((Old39 == Old40) && true)))))) && true))))) H151))))))))))) ∧ 
  (
  (
 SCalls Try.prog tephralaw06_Say_Cmd.id [.agg #[.int .u8 sOp, .int .u8 sClient, .int .u8 sSeq, .int .u8 sKey, .int .u8 sValue, .int .u8 sOld]] (holes H1 1) (fun r42 H43 => ∃ Opv41 : Int, ∃ Client41 : Int, ∃ Seq41 : Int, ∃ Key41 : ByteArray, ∃ Valuev41 : ByteArray, ∃ Old41 : ByteArray, r42 = .agg #[.int .i64 Opv41, .int .i64 Client41, .int .i64 Seq41, .string Key41, .string Valuev41, .string Old41] ∧ 
  (
  (
 SCalls Try.prog tephralaw06_Say_Cmd.id [.agg #[.int .u8 tOp, .int .u8 tClient, .int .u8 tSeq, .int .u8 tKey, .int .u8 tValue, .int .u8 tOld]] H43 (fun r43 H44 => ∃ Opv42 : Int, ∃ Client42 : Int, ∃ Seq42 : Int, ∃ Key42 : ByteArray, ∃ Valuev42 : ByteArray, ∃ Old42 : ByteArray, r43 = .agg #[.int .i64 Opv42, .int .i64 Client42, .int .i64 Seq42, .string Key42, .string Valuev42, .string Old42] ∧ 
 SCalls Try.prog cmds_Bytes.id [.agg #[.int .i64 (w64 ((1 : Int) + (w64 ((Int.tmod a 3))))), .int .i64 0, .int .i64 Opv41, .int .i64 Client41, .int .i64 Seq41, .string Key41, .string Valuev41, .string Old41]] (holes H44 1) (fun r151 H152 => ∃ x97 : Sl, r151 = .slice x97.a x97.len x97.cap ∧ 
  (vB2S H152 x97.a x97.len (fun s192 => 
 SCalls Try.prog cmds_Bytes.id [.agg #[.int .i64 (w64 ((1 : Int) + (w64 ((Int.tmod b 3))))), .int .i64 0, .int .i64 Opv42, .int .i64 Client42, .int .i64 Seq42, .string Key42, .string Valuev42, .string Old42]] H152 (fun r152 H153 => ∃ x98 : Sl, r152 = .slice x98.a x98.len x98.cap ∧ vB2S H153 x98.a x98.len (fun s193 => Q (.bool ((s192.toList == s193.toList) == (((w64 ((1 : Int) + (w64 ((Int.tmod a 3))))) == (w64 ((1 : Int) + (w64 ((Int.tmod b 3)))))) && (((0 : Int) == (0 : Int)) && (((Opv41 == Opv42) && ((Client41 == Client42) && ((Seq41 == Seq42) && ((Key41 == Key42) && ((Valuev41 == Valuev42) && ((Old41 == Old42) && true)))))) && true))))) H153)))) ∧ 
  (
 SCalls Try.prog cmds_Bytes.id [.agg #[.int .i64 (w64 ((1 : Int) + (w64 ((Int.tmod b 3))))), .int .i64 0, .int .i64 Opv42, .int .i64 Client42, .int .i64 Seq42, .string Key42, .string Valuev42, .string Old42]] H152 (fun r153 H154 => ∃ x99 : Sl, r153 = .slice x99.a x99.len x99.cap ∧ 
  (vB2S H154 x97.a x97.len (fun s194 => vB2S H154 x99.a x99.len (fun s195 => Q (.bool ((s194.toList == s195.toList) == (((w64 ((1 : Int) + (w64 ((Int.tmod a 3))))) == (w64 ((1 : Int) + (w64 ((Int.tmod b 3)))))) && (((0 : Int) == (0 : Int)) && (((Opv41 == Opv42) && ((Client41 == Client42) && ((Seq41 == Seq42) && ((Key41 == Key42) && ((Valuev41 == Valuev42) && ((Old41 == Old42) && true)))))) && true))))) H154))) ∧ 
  (vB2S H154 x99.a x99.len (fun s196 => vB2S H154 x97.a x97.len (fun s197 => Q (.bool ((s197.toList == s196.toList) == (((w64 ((1 : Int) + (w64 ((Int.tmod a 3))))) == (w64 ((1 : Int) + (w64 ((Int.tmod b 3)))))) && (((0 : Int) == (0 : Int)) && (((Opv41 == Opv42) && ((Client41 == Client42) && ((Seq41 == Seq42) && ((Key41 == Key42) && ((Valuev41 == Valuev42) && ((Old41 == Old42) && true)))))) && true))))) H154)))))))) ∧ 
  (
 SCalls Try.prog tephralaw06_Say_Cmd.id [.agg #[.int .u8 tOp, .int .u8 tClient, .int .u8 tSeq, .int .u8 tKey, .int .u8 tValue, .int .u8 tOld]] (holes H43 1) (fun r44 H45 => ∃ Opv43 : Int, ∃ Client43 : Int, ∃ Seq43 : Int, ∃ Key43 : ByteArray, ∃ Valuev43 : ByteArray, ∃ Old43 : ByteArray, r44 = .agg #[.int .i64 Opv43, .int .i64 Client43, .int .i64 Seq43, .string Key43, .string Valuev43, .string Old43] ∧ 
 SCalls Try.prog cmds_Bytes.id [.agg #[.int .i64 (w64 ((1 : Int) + (w64 ((Int.tmod a 3))))), .int .i64 0, .int .i64 Opv41, .int .i64 Client41, .int .i64 Seq41, .string Key41, .string Valuev41, .string Old41]] H45 (fun r154 H155 => ∃ x100 : Sl, r154 = .slice x100.a x100.len x100.cap ∧ 
  (vB2S H155 x100.a x100.len (fun s198 => 
 SCalls Try.prog cmds_Bytes.id [.agg #[.int .i64 (w64 ((1 : Int) + (w64 ((Int.tmod b 3))))), .int .i64 0, .int .i64 Opv43, .int .i64 Client43, .int .i64 Seq43, .string Key43, .string Valuev43, .string Old43]] H155 (fun r155 H156 => ∃ x101 : Sl, r155 = .slice x101.a x101.len x101.cap ∧ vB2S H156 x101.a x101.len (fun s199 => Q (.bool ((s198.toList == s199.toList) == (((w64 ((1 : Int) + (w64 ((Int.tmod a 3))))) == (w64 ((1 : Int) + (w64 ((Int.tmod b 3)))))) && (((0 : Int) == (0 : Int)) && (((Opv41 == Opv43) && ((Client41 == Client43) && ((Seq41 == Seq43) && ((Key41 == Key43) && ((Valuev41 == Valuev43) && ((Old41 == Old43) && true)))))) && true))))) H156)))) ∧ 
  (
 SCalls Try.prog cmds_Bytes.id [.agg #[.int .i64 (w64 ((1 : Int) + (w64 ((Int.tmod b 3))))), .int .i64 0, .int .i64 Opv43, .int .i64 Client43, .int .i64 Seq43, .string Key43, .string Valuev43, .string Old43]] H155 (fun r156 H157 => ∃ x102 : Sl, r156 = .slice x102.a x102.len x102.cap ∧ 
  (vB2S H157 x100.a x100.len (fun s200 => vB2S H157 x102.a x102.len (fun s201 => Q (.bool ((s200.toList == s201.toList) == (((w64 ((1 : Int) + (w64 ((Int.tmod a 3))))) == (w64 ((1 : Int) + (w64 ((Int.tmod b 3)))))) && (((0 : Int) == (0 : Int)) && (((Opv41 == Opv43) && ((Client41 == Client43) && ((Seq41 == Seq43) && ((Key41 == Key43) && ((Valuev41 == Valuev43) && ((Old41 == Old43) && true)))))) && true))))) H157))) ∧ 
  (vB2S H157 x102.a x102.len (fun s202 => vB2S H157 x100.a x100.len (fun s203 => Q (.bool ((s203.toList == s202.toList) == (((w64 ((1 : Int) + (w64 ((Int.tmod a 3))))) == (w64 ((1 : Int) + (w64 ((Int.tmod b 3)))))) && (((0 : Int) == (0 : Int)) && (((Opv41 == Opv43) && ((Client41 == Client43) && ((Seq41 == Seq43) && ((Key41 == Key43) && ((Valuev41 == Valuev43) && ((Old41 == Old43) && true)))))) && true))))) H157))))))))) ∧ 
  (
 SCalls Try.prog tephralaw06_Say_Cmd.id [.agg #[.int .u8 tOp, .int .u8 tClient, .int .u8 tSeq, .int .u8 tKey, .int .u8 tValue, .int .u8 tOld]] (holes H43 1) (fun r45 H46 => ∃ Opv44 : Int, ∃ Client44 : Int, ∃ Seq44 : Int, ∃ Key44 : ByteArray, ∃ Valuev44 : ByteArray, ∃ Old44 : ByteArray, r45 = .agg #[.int .i64 Opv44, .int .i64 Client44, .int .i64 Seq44, .string Key44, .string Valuev44, .string Old44] ∧ 
 SCalls Try.prog cmds_Bytes.id [.agg #[.int .i64 (w64 ((1 : Int) + (w64 ((Int.tmod a 3))))), .int .i64 0, .int .i64 Opv41, .int .i64 Client41, .int .i64 Seq41, .string Key41, .string Valuev41, .string Old41]] H46 (fun r157 H158 => ∃ x103 : Sl, r157 = .slice x103.a x103.len x103.cap ∧ 
  (vB2S H158 x103.a x103.len (fun s204 => 
 SCalls Try.prog cmds_Bytes.id [.agg #[.int .i64 (w64 ((1 : Int) + (w64 ((Int.tmod b 3))))), .int .i64 0, .int .i64 Opv44, .int .i64 Client44, .int .i64 Seq44, .string Key44, .string Valuev44, .string Old44]] H158 (fun r158 H159 => ∃ x104 : Sl, r158 = .slice x104.a x104.len x104.cap ∧ vB2S H159 x104.a x104.len (fun s205 => Q (.bool ((s204.toList == s205.toList) == (((w64 ((1 : Int) + (w64 ((Int.tmod a 3))))) == (w64 ((1 : Int) + (w64 ((Int.tmod b 3)))))) && (((0 : Int) == (0 : Int)) && (((Opv41 == Opv44) && ((Client41 == Client44) && ((Seq41 == Seq44) && ((Key41 == Key44) && ((Valuev41 == Valuev44) && ((Old41 == Old44) && true)))))) && true))))) H159)))) ∧ 
  (
 SCalls Try.prog cmds_Bytes.id [.agg #[.int .i64 (w64 ((1 : Int) + (w64 ((Int.tmod b 3))))), .int .i64 0, .int .i64 Opv44, .int .i64 Client44, .int .i64 Seq44, .string Key44, .string Valuev44, .string Old44]] H158 (fun r159 H160 => ∃ x105 : Sl, r159 = .slice x105.a x105.len x105.cap ∧ 
  (vB2S H160 x103.a x103.len (fun s206 => vB2S H160 x105.a x105.len (fun s207 => Q (.bool ((s206.toList == s207.toList) == (((w64 ((1 : Int) + (w64 ((Int.tmod a 3))))) == (w64 ((1 : Int) + (w64 ((Int.tmod b 3)))))) && (((0 : Int) == (0 : Int)) && (((Opv41 == Opv44) && ((Client41 == Client44) && ((Seq41 == Seq44) && ((Key41 == Key44) && ((Valuev41 == Valuev44) && ((Old41 == Old44) && true)))))) && true))))) H160))) ∧ 
  (vB2S H160 x105.a x105.len (fun s208 => vB2S H160 x103.a x103.len (fun s209 => Q (.bool ((s209.toList == s208.toList) == (((w64 ((1 : Int) + (w64 ((Int.tmod a 3))))) == (w64 ((1 : Int) + (w64 ((Int.tmod b 3)))))) && (((0 : Int) == (0 : Int)) && (((Opv41 == Opv44) && ((Client41 == Client44) && ((Seq41 == Seq44) && ((Key41 == Key44) && ((Valuev41 == Valuev44) && ((Old41 == Old44) && true)))))) && true))))) H160)))))))))) ∧ 
  (
  (
 SCalls Try.prog tephralaw06_Say_Cmd.id [.agg #[.int .u8 sOp, .int .u8 sClient, .int .u8 sSeq, .int .u8 sKey, .int .u8 sValue, .int .u8 sOld]] (holes H1 1) (fun r46 H47 => ∃ Opv45 : Int, ∃ Client45 : Int, ∃ Seq45 : Int, ∃ Key45 : ByteArray, ∃ Valuev45 : ByteArray, ∃ Old45 : ByteArray, r46 = .agg #[.int .i64 Opv45, .int .i64 Client45, .int .i64 Seq45, .string Key45, .string Valuev45, .string Old45] ∧ 
  (
 SCalls Try.prog tephralaw06_Say_Cmd.id [.agg #[.int .u8 tOp, .int .u8 tClient, .int .u8 tSeq, .int .u8 tKey, .int .u8 tValue, .int .u8 tOld]] H47 (fun r47 H48 => ∃ Opv46 : Int, ∃ Client46 : Int, ∃ Seq46 : Int, ∃ Key46 : ByteArray, ∃ Valuev46 : ByteArray, ∃ Old46 : ByteArray, r47 = .agg #[.int .i64 Opv46, .int .i64 Client46, .int .i64 Seq46, .string Key46, .string Valuev46, .string Old46] ∧ 
 SCalls Try.prog cmds_Bytes.id [.agg #[.int .i64 (w64 ((1 : Int) + (w64 ((Int.tmod a 3))))), .int .i64 0, .int .i64 Opv45, .int .i64 Client45, .int .i64 Seq45, .string Key45, .string Valuev45, .string Old45]] (holes H48 1) (fun r160 H161 => ∃ x106 : Sl, r160 = .slice x106.a x106.len x106.cap ∧ 
  (vB2S H161 x106.a x106.len (fun s210 => 
 SCalls Try.prog cmds_Bytes.id [.agg #[.int .i64 (w64 ((1 : Int) + (w64 ((Int.tmod b 3))))), .int .i64 0, .int .i64 Opv46, .int .i64 Client46, .int .i64 Seq46, .string Key46, .string Valuev46, .string Old46]] H161 (fun r161 H162 => ∃ x107 : Sl, r161 = .slice x107.a x107.len x107.cap ∧ vB2S H162 x107.a x107.len (fun s211 => Q (.bool ((s210.toList == s211.toList) == (((w64 ((1 : Int) + (w64 ((Int.tmod a 3))))) == (w64 ((1 : Int) + (w64 ((Int.tmod b 3)))))) && (((0 : Int) == (0 : Int)) && (((Opv45 == Opv46) && ((Client45 == Client46) && ((Seq45 == Seq46) && ((Key45 == Key46) && ((Valuev45 == Valuev46) && ((Old45 == Old46) && true)))))) && true))))) H162)))) ∧ 
  (
 SCalls Try.prog cmds_Bytes.id [.agg #[.int .i64 (w64 ((1 : Int) + (w64 ((Int.tmod b 3))))), .int .i64 0, .int .i64 Opv46, .int .i64 Client46, .int .i64 Seq46, .string Key46, .string Valuev46, .string Old46]] H161 (fun r162 H163 => ∃ x108 : Sl, r162 = .slice x108.a x108.len x108.cap ∧ 
  (vB2S H163 x106.a x106.len (fun s212 => vB2S H163 x108.a x108.len (fun s213 => Q (.bool ((s212.toList == s213.toList) == (((w64 ((1 : Int) + (w64 ((Int.tmod a 3))))) == (w64 ((1 : Int) + (w64 ((Int.tmod b 3)))))) && (((0 : Int) == (0 : Int)) && (((Opv45 == Opv46) && ((Client45 == Client46) && ((Seq45 == Seq46) && ((Key45 == Key46) && ((Valuev45 == Valuev46) && ((Old45 == Old46) && true)))))) && true))))) H163))) ∧ 
  (vB2S H163 x108.a x108.len (fun s214 => vB2S H163 x106.a x106.len (fun s215 => Q (.bool ((s215.toList == s214.toList) == (((w64 ((1 : Int) + (w64 ((Int.tmod a 3))))) == (w64 ((1 : Int) + (w64 ((Int.tmod b 3)))))) && (((0 : Int) == (0 : Int)) && (((Opv45 == Opv46) && ((Client45 == Client46) && ((Seq45 == Seq46) && ((Key45 == Key46) && ((Valuev45 == Valuev46) && ((Old45 == Old46) && true)))))) && true))))) H163)))))))) ∧ 
  (
 SCalls Try.prog tephralaw06_Say_Cmd.id [.agg #[.int .u8 tOp, .int .u8 tClient, .int .u8 tSeq, .int .u8 tKey, .int .u8 tValue, .int .u8 tOld]] (holes H47 1) (fun r48 H49 => ∃ Opv47 : Int, ∃ Client47 : Int, ∃ Seq47 : Int, ∃ Key47 : ByteArray, ∃ Valuev47 : ByteArray, ∃ Old47 : ByteArray, r48 = .agg #[.int .i64 Opv47, .int .i64 Client47, .int .i64 Seq47, .string Key47, .string Valuev47, .string Old47] ∧ 
 SCalls Try.prog cmds_Bytes.id [.agg #[.int .i64 (w64 ((1 : Int) + (w64 ((Int.tmod a 3))))), .int .i64 0, .int .i64 Opv45, .int .i64 Client45, .int .i64 Seq45, .string Key45, .string Valuev45, .string Old45]] H49 (fun r163 H164 => ∃ x109 : Sl, r163 = .slice x109.a x109.len x109.cap ∧ 
  (vB2S H164 x109.a x109.len (fun s216 => 
 SCalls Try.prog cmds_Bytes.id [.agg #[.int .i64 (w64 ((1 : Int) + (w64 ((Int.tmod b 3))))), .int .i64 0, .int .i64 Opv47, .int .i64 Client47, .int .i64 Seq47, .string Key47, .string Valuev47, .string Old47]] H164 (fun r164 H165 => ∃ x110 : Sl, r164 = .slice x110.a x110.len x110.cap ∧ vB2S H165 x110.a x110.len (fun s217 => Q (.bool ((s216.toList == s217.toList) == (((w64 ((1 : Int) + (w64 ((Int.tmod a 3))))) == (w64 ((1 : Int) + (w64 ((Int.tmod b 3)))))) && (((0 : Int) == (0 : Int)) && (((Opv45 == Opv47) && ((Client45 == Client47) && ((Seq45 == Seq47) && ((Key45 == Key47) && ((Valuev45 == Valuev47) && ((Old45 == Old47) && true)))))) && true))))) H165)))) ∧ 
  (
 SCalls Try.prog cmds_Bytes.id [.agg #[.int .i64 (w64 ((1 : Int) + (w64 ((Int.tmod b 3))))), .int .i64 0, .int .i64 Opv47, .int .i64 Client47, .int .i64 Seq47, .string Key47, .string Valuev47, .string Old47]] H164 (fun r165 H166 => ∃ x111 : Sl, r165 = .slice x111.a x111.len x111.cap ∧ 
  (vB2S H166 x109.a x109.len (fun s218 => vB2S H166 x111.a x111.len (fun s219 => Q (.bool ((s218.toList == s219.toList) == (((w64 ((1 : Int) + (w64 ((Int.tmod a 3))))) == (w64 ((1 : Int) + (w64 ((Int.tmod b 3)))))) && (((0 : Int) == (0 : Int)) && (((Opv45 == Opv47) && ((Client45 == Client47) && ((Seq45 == Seq47) && ((Key45 == Key47) && ((Valuev45 == Valuev47) && ((Old45 == Old47) && true)))))) && true))))) H166))) ∧ 
  (vB2S H166 x111.a x111.len (fun s220 => vB2S H166 x109.a x109.len (fun s221 => Q (.bool ((s221.toList == s220.toList) == (((w64 ((1 : Int) + (w64 ((Int.tmod a 3))))) == (w64 ((1 : Int) + (w64 ((Int.tmod b 3)))))) && (((0 : Int) == (0 : Int)) && (((Opv45 == Opv47) && ((Client45 == Client47) && ((Seq45 == Seq47) && ((Key45 == Key47) && ((Valuev45 == Valuev47) && ((Old45 == Old47) && true)))))) && true))))) H166)))))))))) ∧ 
  (
 SCalls Try.prog tephralaw06_Say_Cmd.id [.agg #[.int .u8 sOp, .int .u8 sClient, .int .u8 sSeq, .int .u8 sKey, .int .u8 sValue, .int .u8 sOld]] (holes H1 2) (fun r49 H50 => ∃ Opv48 : Int, ∃ Client48 : Int, ∃ Seq48 : Int, ∃ Key48 : ByteArray, ∃ Valuev48 : ByteArray, ∃ Old48 : ByteArray, r49 = .agg #[.int .i64 Opv48, .int .i64 Client48, .int .i64 Seq48, .string Key48, .string Valuev48, .string Old48] ∧ 
 SCalls Try.prog tephralaw06_Say_Cmd.id [.agg #[.int .u8 tOp, .int .u8 tClient, .int .u8 tSeq, .int .u8 tKey, .int .u8 tValue, .int .u8 tOld]] H50 (fun r50 H51 => ∃ Opv49 : Int, ∃ Client49 : Int, ∃ Seq49 : Int, ∃ Key49 : ByteArray, ∃ Valuev49 : ByteArray, ∃ Old49 : ByteArray, r50 = .agg #[.int .i64 Opv49, .int .i64 Client49, .int .i64 Seq49, .string Key49, .string Valuev49, .string Old49] ∧ 
 SCalls Try.prog cmds_Bytes.id [.agg #[.int .i64 (w64 ((1 : Int) + (w64 ((Int.tmod a 3))))), .int .i64 0, .int .i64 Opv48, .int .i64 Client48, .int .i64 Seq48, .string Key48, .string Valuev48, .string Old48]] H51 (fun r166 H167 => ∃ x112 : Sl, r166 = .slice x112.a x112.len x112.cap ∧ 
  (vB2S H167 x112.a x112.len (fun s222 => 
 SCalls Try.prog cmds_Bytes.id [.agg #[.int .i64 (w64 ((1 : Int) + (w64 ((Int.tmod b 3))))), .int .i64 0, .int .i64 Opv49, .int .i64 Client49, .int .i64 Seq49, .string Key49, .string Valuev49, .string Old49]] H167 (fun r167 H168 => ∃ x113 : Sl, r167 = .slice x113.a x113.len x113.cap ∧ vB2S H168 x113.a x113.len (fun s223 => Q (.bool ((s222.toList == s223.toList) == (((w64 ((1 : Int) + (w64 ((Int.tmod a 3))))) == (w64 ((1 : Int) + (w64 ((Int.tmod b 3)))))) && (((0 : Int) == (0 : Int)) && (((Opv48 == Opv49) && ((Client48 == Client49) && ((Seq48 == Seq49) && ((Key48 == Key49) && ((Valuev48 == Valuev49) && ((Old48 == Old49) && true)))))) && true))))) H168)))) ∧ 
  (
 SCalls Try.prog cmds_Bytes.id [.agg #[.int .i64 (w64 ((1 : Int) + (w64 ((Int.tmod b 3))))), .int .i64 0, .int .i64 Opv49, .int .i64 Client49, .int .i64 Seq49, .string Key49, .string Valuev49, .string Old49]] H167 (fun r168 H169 => ∃ x114 : Sl, r168 = .slice x114.a x114.len x114.cap ∧ 
  (vB2S H169 x112.a x112.len (fun s224 => vB2S H169 x114.a x114.len (fun s225 => Q (.bool ((s224.toList == s225.toList) == (((w64 ((1 : Int) + (w64 ((Int.tmod a 3))))) == (w64 ((1 : Int) + (w64 ((Int.tmod b 3)))))) && (((0 : Int) == (0 : Int)) && (((Opv48 == Opv49) && ((Client48 == Client49) && ((Seq48 == Seq49) && ((Key48 == Key49) && ((Valuev48 == Valuev49) && ((Old48 == Old49) && true)))))) && true))))) H169))) ∧ 
  (vB2S H169 x114.a x114.len (fun s226 => vB2S H169 x112.a x112.len (fun s227 => Q (.bool ((s227.toList == s226.toList) == (((w64 ((1 : Int) + (w64 ((Int.tmod a 3))))) == (w64 ((1 : Int) + (w64 ((Int.tmod b 3)))))) && (((0 : Int) == (0 : Int)) && (((Opv48 == Opv49) && ((Client48 == Client49) && ((Seq48 == Seq49) && ((Key48 == Key49) && ((Valuev48 == Valuev49) && ((Old48 == Old49) && true)))))) && true))))) H169)))))))))) ∧ 
  (
  (
 SCalls Try.prog tephralaw06_Say_Cmd.id [.agg #[.int .u8 sOp, .int .u8 sClient, .int .u8 sSeq, .int .u8 sKey, .int .u8 sValue, .int .u8 sOld]] (holes H1 2) (fun r51 H52 => ∃ Opv50 : Int, ∃ Client50 : Int, ∃ Seq50 : Int, ∃ Key50 : ByteArray, ∃ Valuev50 : ByteArray, ∃ Old50 : ByteArray, r51 = .agg #[.int .i64 Opv50, .int .i64 Client50, .int .i64 Seq50, .string Key50, .string Valuev50, .string Old50] ∧ 
 SCalls Try.prog tephralaw06_Say_Cmd.id [.agg #[.int .u8 tOp, .int .u8 tClient, .int .u8 tSeq, .int .u8 tKey, .int .u8 tValue, .int .u8 tOld]] H52 (fun r52 H53 => ∃ Opv51 : Int, ∃ Client51 : Int, ∃ Seq51 : Int, ∃ Key51 : ByteArray, ∃ Valuev51 : ByteArray, ∃ Old51 : ByteArray, r52 = .agg #[.int .i64 Opv51, .int .i64 Client51, .int .i64 Seq51, .string Key51, .string Valuev51, .string Old51] ∧ 
 SCalls Try.prog cmds_Bytes.id [.agg #[.int .i64 (w64 ((1 : Int) + (w64 ((Int.tmod a 3))))), .int .i64 0, .int .i64 Opv50, .int .i64 Client50, .int .i64 Seq50, .string Key50, .string Valuev50, .string Old50]] H53 (fun r169 H170 => ∃ x115 : Sl, r169 = .slice x115.a x115.len x115.cap ∧ 
  (vB2S H170 x115.a x115.len (fun s228 => 
 SCalls Try.prog cmds_Bytes.id [.agg #[.int .i64 (w64 ((1 : Int) + (w64 ((Int.tmod b 3))))), .int .i64 0, .int .i64 Opv51, .int .i64 Client51, .int .i64 Seq51, .string Key51, .string Valuev51, .string Old51]] H170 (fun r170 H171 => ∃ x116 : Sl, r170 = .slice x116.a x116.len x116.cap ∧ vB2S H171 x116.a x116.len (fun s229 => Q (.bool ((s228.toList == s229.toList) == (((w64 ((1 : Int) + (w64 ((Int.tmod a 3))))) == (w64 ((1 : Int) + (w64 ((Int.tmod b 3)))))) && (((0 : Int) == (0 : Int)) && (((Opv50 == Opv51) && ((Client50 == Client51) && ((Seq50 == Seq51) && ((Key50 == Key51) && ((Valuev50 == Valuev51) && ((Old50 == Old51) && true)))))) && true))))) H171)))) ∧ 
  (
 SCalls Try.prog cmds_Bytes.id [.agg #[.int .i64 (w64 ((1 : Int) + (w64 ((Int.tmod b 3))))), .int .i64 0, .int .i64 Opv51, .int .i64 Client51, .int .i64 Seq51, .string Key51, .string Valuev51, .string Old51]] H170 (fun r171 H172 => ∃ x117 : Sl, r171 = .slice x117.a x117.len x117.cap ∧ 
  (vB2S H172 x115.a x115.len (fun s230 => vB2S H172 x117.a x117.len (fun s231 => Q (.bool ((s230.toList == s231.toList) == (((w64 ((1 : Int) + (w64 ((Int.tmod a 3))))) == (w64 ((1 : Int) + (w64 ((Int.tmod b 3)))))) && (((0 : Int) == (0 : Int)) && (((Opv50 == Opv51) && ((Client50 == Client51) && ((Seq50 == Seq51) && ((Key50 == Key51) && ((Valuev50 == Valuev51) && ((Old50 == Old51) && true)))))) && true))))) H172))) ∧ 
  (vB2S H172 x117.a x117.len (fun s232 => vB2S H172 x115.a x115.len (fun s233 => Q (.bool ((s233.toList == s232.toList) == (((w64 ((1 : Int) + (w64 ((Int.tmod a 3))))) == (w64 ((1 : Int) + (w64 ((Int.tmod b 3)))))) && (((0 : Int) == (0 : Int)) && (((Opv50 == Opv51) && ((Client50 == Client51) && ((Seq50 == Seq51) && ((Key50 == Key51) && ((Valuev50 == Valuev51) && ((Old50 == Old51) && true)))))) && true))))) H172))))))))) ∧ 
  (
 SCalls Try.prog tephralaw06_Say_Cmd.id [.agg #[.int .u8 sOp, .int .u8 sClient, .int .u8 sSeq, .int .u8 sKey, .int .u8 sValue, .int .u8 sOld]] (holes H1 2) (fun r53 H54 => ∃ Opv52 : Int, ∃ Client52 : Int, ∃ Seq52 : Int, ∃ Key52 : ByteArray, ∃ Valuev52 : ByteArray, ∃ Old52 : ByteArray, r53 = .agg #[.int .i64 Opv52, .int .i64 Client52, .int .i64 Seq52, .string Key52, .string Valuev52, .string Old52] ∧ 
 SCalls Try.prog tephralaw06_Say_Cmd.id [.agg #[.int .u8 tOp, .int .u8 tClient, .int .u8 tSeq, .int .u8 tKey, .int .u8 tValue, .int .u8 tOld]] H54 (fun r54 H55 => ∃ Opv53 : Int, ∃ Client53 : Int, ∃ Seq53 : Int, ∃ Key53 : ByteArray, ∃ Valuev53 : ByteArray, ∃ Old53 : ByteArray, r54 = .agg #[.int .i64 Opv53, .int .i64 Client53, .int .i64 Seq53, .string Key53, .string Valuev53, .string Old53] ∧ 
 SCalls Try.prog cmds_Bytes.id [.agg #[.int .i64 (w64 ((1 : Int) + (w64 ((Int.tmod a 3))))), .int .i64 0, .int .i64 Opv52, .int .i64 Client52, .int .i64 Seq52, .string Key52, .string Valuev52, .string Old52]] H55 (fun r172 H173 => ∃ x118 : Sl, r172 = .slice x118.a x118.len x118.cap ∧ 
  (vB2S H173 x118.a x118.len (fun s234 => 
 SCalls Try.prog cmds_Bytes.id [.agg #[.int .i64 (w64 ((1 : Int) + (w64 ((Int.tmod b 3))))), .int .i64 0, .int .i64 Opv53, .int .i64 Client53, .int .i64 Seq53, .string Key53, .string Valuev53, .string Old53]] H173 (fun r173 H174 => ∃ x119 : Sl, r173 = .slice x119.a x119.len x119.cap ∧ vB2S H174 x119.a x119.len (fun s235 => Q (.bool ((s234.toList == s235.toList) == (((w64 ((1 : Int) + (w64 ((Int.tmod a 3))))) == (w64 ((1 : Int) + (w64 ((Int.tmod b 3)))))) && (((0 : Int) == (0 : Int)) && (((Opv52 == Opv53) && ((Client52 == Client53) && ((Seq52 == Seq53) && ((Key52 == Key53) && ((Valuev52 == Valuev53) && ((Old52 == Old53) && true)))))) && true))))) H174)))) ∧ 
  (
 SCalls Try.prog cmds_Bytes.id [.agg #[.int .i64 (w64 ((1 : Int) + (w64 ((Int.tmod b 3))))), .int .i64 0, .int .i64 Opv53, .int .i64 Client53, .int .i64 Seq53, .string Key53, .string Valuev53, .string Old53]] H173 (fun r174 H175 => ∃ x120 : Sl, r174 = .slice x120.a x120.len x120.cap ∧ 
  (vB2S H175 x118.a x118.len (fun s236 => vB2S H175 x120.a x120.len (fun s237 => Q (.bool ((s236.toList == s237.toList) == (((w64 ((1 : Int) + (w64 ((Int.tmod a 3))))) == (w64 ((1 : Int) + (w64 ((Int.tmod b 3)))))) && (((0 : Int) == (0 : Int)) && (((Opv52 == Opv53) && ((Client52 == Client53) && ((Seq52 == Seq53) && ((Key52 == Key53) && ((Valuev52 == Valuev53) && ((Old52 == Old53) && true)))))) && true))))) H175))) ∧ 
  (vB2S H175 x120.a x120.len (fun s238 => vB2S H175 x118.a x118.len (fun s239 => Q (.bool ((s239.toList == s238.toList) == (((w64 ((1 : Int) + (w64 ((Int.tmod a 3))))) == (w64 ((1 : Int) + (w64 ((Int.tmod b 3)))))) && (((0 : Int) == (0 : Int)) && (((Opv52 == Opv53) && ((Client52 == Client53) && ((Seq52 == Seq53) && ((Key52 == Key53) && ((Valuev52 == Valuev53) && ((Old52 == Old53) && true)))))) && true))))) H175)))))))))))))
theorem tephralaw06_CmdsApart.eq (J : Jn) (sOp : Int) (sClient : Int) (sSeq : Int) (sKey : Int) (sValue : Int) (sOld : Int) (tOp : Int) (tClient : Int) (tSeq : Int) (tKey : Int) (tValue : Int) (tOld : Int) (a : Int) (b : Int) (H : Hp) (Q : Value → Hp → Prop) : vFn Try.prog tephralaw06_CmdsApart.cf J tephralaw06_CmdsApart.fn [.agg #[.int .u8 sOp, .int .u8 sClient, .int .u8 sSeq, .int .u8 sKey, .int .u8 sValue, .int .u8 sOld], .agg #[.int .u8 tOp, .int .u8 tClient, .int .u8 tSeq, .int .u8 tKey, .int .u8 tValue, .int .u8 tOld], .int .u8 a, .int .u8 b] H Q = tephralaw06_CmdsApart.vc J sOp sClient sSeq sKey sValue sOld tOp tClient tSeq tKey tValue tOld a b H Q := by kernel_rfl
theorem tephralaw06_CmdsApart.calls {sOp : Int} {sClient : Int} {sSeq : Int} {sKey : Int} {sValue : Int} {sOld : Int} {tOp : Int} {tClient : Int} {tSeq : Int} {tKey : Int} {tValue : Int} {tOld : Int} {a : Int} {b : Int} {H : Hp} {Q : Value → Hp → Prop} (h : tephralaw06_CmdsApart.vc J0 sOp sClient sSeq sKey sValue sOld tOp tClient tSeq tKey tValue tOld a b H Q) : SCalls Try.prog tephralaw06_CmdsApart.id [.agg #[.int .u8 sOp, .int .u8 sClient, .int .u8 sSeq, .int .u8 sKey, .int .u8 sValue, .int .u8 sOld], .agg #[.int .u8 tOp, .int .u8 tClient, .int .u8 tSeq, .int .u8 tKey, .int .u8 tValue, .int .u8 tOld], .int .u8 a, .int .u8 b] H Q := vFn_of Try.mixed Try.func8 (tephralaw06_CmdsApart.eq J0 sOp sClient sSeq sKey sValue sOld tOp tClient tSeq tKey tValue tOld a b H Q) h

/-! 9: tephra/tephralaw06.CmdsParts -/
def tephralaw06_CmdsParts.cf : Cfg := ⟨[], [], [(6, [2, 7, 8, 49], true)], [(37, [2, 7, 8, 37])]⟩
def tephralaw06_CmdsParts.k1.st (cut : Int) (fromv : Int) (x1 : Sl) (x4 : Bool) (H5 : Hp) : VS := ⟨mkFr 66 [(2, .v (.int .u8 fromv)), (7, .v (.slice x1.a x1.len x1.cap)), (8, .v (.int .i64 (Int.tmod (w64 (cut)) (w64 (((x1.len : Nat) : Int) + 1))))), (37, .v (.bool x4))], [], H5⟩
def tephralaw06_CmdsParts.k1 (J : Jn) (cut : Int) (fromv : Int) (x1 : Sl) (x4 : Bool) (H5 : Hp) (Q : Value → Hp → Prop) : Prop := J (vMid Try.prog tephralaw06_CmdsParts.cf J tephralaw06_CmdsParts.fn [1, 1, 1, 1, 0, 0] [0, 0, 0, 0, 0, 0] 16 Q) (tephralaw06_CmdsParts.k1.st cut fromv x1 x4 H5)
def tephralaw06_CmdsParts.k2.st (cut : Int) (fromv : Int) (x1 : Sl) (x6 : Bool) (H7 : Hp) : VS := ⟨mkFr 66 [(2, .v (.int .u8 fromv)), (7, .v (.slice x1.a x1.len x1.cap)), (8, .v (.int .i64 (Int.tmod (w64 (cut)) (w64 (((x1.len : Nat) : Int) + 1))))), (49, .v (.bool x6))], [], H7⟩
def tephralaw06_CmdsParts.k2 (J : Jn) (cut : Int) (fromv : Int) (x1 : Sl) (x6 : Bool) (H7 : Hp) (Q : Value → Hp → Prop) : Prop := J (vSeg Try.prog tephralaw06_CmdsParts.cf J tephralaw06_CmdsParts.fn [1, 1, 1, 1, 0, 1] [0, 0, 0, 0, 0, 0] Q) (tephralaw06_CmdsParts.k2.st cut fromv x1 x6 H7)
attribute [irreducible] tephralaw06_CmdsParts.k1 tephralaw06_CmdsParts.k2
def tephralaw06_CmdsParts.k1.body (J : Jn) (cut : Int) (fromv : Int) (x1 : Sl) (x4 : Bool) (H5 : Hp) (Q : Value → Hp → Prop) : Prop :=
 
 Br x4 (
 tephralaw06_CmdsParts.k2 J cut fromv x1 true H5 Q)
 (((0 : Int) ≤ (Int.tmod (w64 (cut)) (w64 (((x1.len : Nat) : Int) + 1))) ∧ (Int.tmod (w64 (cut)) (w64 (((x1.len : Nat) : Int) + 1))) ≤ ((x1.len : Nat) : Int)) ∧ 
 SCalls Try.prog cmds_Row.id [.slice (cutA x1.a x1.cap (((Int.tmod (w64 (cut)) (w64 (((x1.len : Nat) : Int) + 1))) : Int).toNat) 8) (x1.len - (((Int.tmod (w64 (cut)) (w64 (((x1.len : Nat) : Int) + 1))) : Int).toNat)) (x1.cap - (((Int.tmod (w64 (cut)) (w64 (((x1.len : Nat) : Int) + 1))) : Int).toNat)), .int .i64 (w64 ((w64 ((w64 (fromv)) + 1)) + (Int.tmod (w64 (cut)) (w64 (((x1.len : Nat) : Int) + 1)))))] H5 (fun r4 H6 => ∃ x5 : Bool, r4 = .bool x5 ∧ 
 tephralaw06_CmdsParts.k2 J cut fromv x1 (!x5) H6 Q))
theorem tephralaw06_CmdsParts.k1.eq (J : Jn) (cut : Int) (fromv : Int) (x1 : Sl) (x4 : Bool) (H5 : Hp) (Q : Value → Hp → Prop) : vMid Try.prog tephralaw06_CmdsParts.cf J tephralaw06_CmdsParts.fn [1, 1, 1, 1, 0, 0] [0, 0, 0, 0, 0, 0] 16 Q (tephralaw06_CmdsParts.k1.st cut fromv x1 x4 H5) = tephralaw06_CmdsParts.k1.body J cut fromv x1 x4 H5 Q := by kernel_rfl
theorem tephralaw06_CmdsParts.k1.step {cut : Int} {fromv : Int} {x1 : Sl} {x4 : Bool} {H5 : Hp} {Q : Value → Hp → Prop} (h : tephralaw06_CmdsParts.k1.body J0 cut fromv x1 x4 H5 Q) : tephralaw06_CmdsParts.k1 J0 cut fromv x1 x4 H5 Q := step_of (vMid Try.prog tephralaw06_CmdsParts.cf J0 tephralaw06_CmdsParts.fn [1, 1, 1, 1, 0, 0] [0, 0, 0, 0, 0, 0] 16 Q) (tephralaw06_CmdsParts.k1.st cut fromv x1 x4 H5) (tephralaw06_CmdsParts.k1.eq J0 cut fromv x1 x4 H5 Q) (by kernel_rfl) h
def tephralaw06_CmdsParts.k2.body (J : Jn) (cut : Int) (fromv : Int) (x1 : Sl) (x6 : Bool) (H7 : Hp) (Q : Value → Hp → Prop) : Prop :=
 
 Br x6 (Q (.bool false) H7)
 (
 Br (((x1.len : Nat) : Int) == (Int.tmod (w64 (cut)) (w64 (((x1.len : Nat) : Int) + 1)))) (Q (.bool true) H7)
 (((0 : Int) ≤ (Int.tmod (w64 (cut)) (w64 (((x1.len : Nat) : Int) + 1))) ∧ (Int.tmod (w64 (cut)) (w64 (((x1.len : Nat) : Int) + 1))) ≤ ((x1.len : Nat) : Int)) ∧ 
 SCalls Try.prog cmds_Row.id [.slice (cutA x1.a x1.cap (((Int.tmod (w64 (cut)) (w64 (((x1.len : Nat) : Int) + 1))) : Int).toNat) 8) (x1.len - (((Int.tmod (w64 (cut)) (w64 (((x1.len : Nat) : Int) + 1))) : Int).toNat)) (x1.cap - (((Int.tmod (w64 (cut)) (w64 (((x1.len : Nat) : Int) + 1))) : Int).toNat)), .int .i64 (w64 ((w64 ((w64 (fromv)) + 2)) + (Int.tmod (w64 (cut)) (w64 (((x1.len : Nat) : Int) + 1)))))] H7 (fun r5 H8 => ∃ x7 : Bool, r5 = .bool x7 ∧ Q (.bool (!x7)) H8)))
theorem tephralaw06_CmdsParts.k2.eq (J : Jn) (cut : Int) (fromv : Int) (x1 : Sl) (x6 : Bool) (H7 : Hp) (Q : Value → Hp → Prop) : vSeg Try.prog tephralaw06_CmdsParts.cf J tephralaw06_CmdsParts.fn [1, 1, 1, 1, 0, 1] [0, 0, 0, 0, 0, 0] Q (tephralaw06_CmdsParts.k2.st cut fromv x1 x6 H7) = tephralaw06_CmdsParts.k2.body J cut fromv x1 x6 H7 Q := by kernel_rfl
theorem tephralaw06_CmdsParts.k2.step {cut : Int} {fromv : Int} {x1 : Sl} {x6 : Bool} {H7 : Hp} {Q : Value → Hp → Prop} (h : tephralaw06_CmdsParts.k2.body J0 cut fromv x1 x6 H7 Q) : tephralaw06_CmdsParts.k2 J0 cut fromv x1 x6 H7 Q := step_of (vSeg Try.prog tephralaw06_CmdsParts.cf J0 tephralaw06_CmdsParts.fn [1, 1, 1, 1, 0, 1] [0, 0, 0, 0, 0, 0] Q) (tephralaw06_CmdsParts.k2.st cut fromv x1 x6 H7) (tephralaw06_CmdsParts.k2.eq J0 cut fromv x1 x6 H7 Q) (by kernel_rfl) h
def tephralaw06_CmdsParts.vc (J : Jn) (says : Sl) (cut : Int) (fromv : Int) (H : Hp) (Q : Value → Hp → Prop) : Prop :=
 
 SCalls Try.prog tephralaw06_awake.id [] H (fun r H1 => ∃ x : Bool, r = .bool x ∧ 
 Br (!x) (Q (.bool false) H1)
 (
 SCalls Try.prog tephralaw06_Entries.id [.slice says.a says.len says.cap, .int .i64 (w64 ((w64 (fromv)) + 1)), .int .i64 0] H1 (fun r1 H2 => ∃ x1 : Sl, r1 = .slice x1.a x1.len x1.cap ∧ ((w64 (((x1.len : Nat) : Int) + 1)) : Int) ≠ 0 ∧ 
 SCalls Try.prog cmds_Row.id [.slice x1.a x1.len x1.cap, .int .i64 (w64 ((w64 (fromv)) + 1))] H2 (fun r2 H3 => ∃ x2 : Bool, r2 = .bool x2 ∧ 
 Br (!x2) (
 tephralaw06_CmdsParts.k1 J cut fromv x1 true H3 Q)
 (((0 : Int) ≤ (Int.tmod (w64 (cut)) (w64 (((x1.len : Nat) : Int) + 1))) ∧ (Int.tmod (w64 (cut)) (w64 (((x1.len : Nat) : Int) + 1))) ≤ ((x1.cap : Nat) : Int)) ∧ 
 SCalls Try.prog cmds_Row.id [.slice (cutA x1.a x1.cap 0 8) (((Int.tmod (w64 (cut)) (w64 (((x1.len : Nat) : Int) + 1))) : Int).toNat) x1.cap, .int .i64 (w64 ((w64 (fromv)) + 1))] H3 (fun r3 H4 => ∃ x3 : Bool, r3 = .bool x3 ∧ 
 tephralaw06_CmdsParts.k1 J cut fromv x1 (!x3) H4 Q))))))
theorem tephralaw06_CmdsParts.eq (J : Jn) (says : Sl) (cut : Int) (fromv : Int) (H : Hp) (Q : Value → Hp → Prop) : vFn Try.prog tephralaw06_CmdsParts.cf J tephralaw06_CmdsParts.fn [.slice says.a says.len says.cap, .int .u8 cut, .int .u8 fromv] H Q = tephralaw06_CmdsParts.vc J says cut fromv H Q := by kernel_rfl
theorem tephralaw06_CmdsParts.calls {says : Sl} {cut : Int} {fromv : Int} {H : Hp} {Q : Value → Hp → Prop} (h : tephralaw06_CmdsParts.vc J0 says cut fromv H Q) : SCalls Try.prog tephralaw06_CmdsParts.id [.slice says.a says.len says.cap, .int .u8 cut, .int .u8 fromv] H Q := vFn_of Try.mixed Try.func9 (tephralaw06_CmdsParts.eq J0 says cut fromv H Q) h

/-! 10: tephra/tephralaw06.awake -/
def tephralaw06_awake.cf : Cfg := ⟨[1, 2], [], [], [(17, [1, 17]), (21, [1, 21]), (26, [1, 26])]⟩
def tephralaw06_awake.k1.st (H2 : Hp) (Index : Int) (Term : Int) (CmdOp : Int) (CmdClient : Int) (CmdSeq : Int) (CmdKey : ByteArray) (CmdValue : ByteArray) (CmdOld : ByteArray) (x2 : Bool) : VS := ⟨mkFr 32 [(1, .loc 0 0), (17, .v (.bool x2))], [(T_api_Entry, [.int .i64 3, .int .i64 1, .int .i64 1, .int .i64 1, .int .i64 2, .string (ByteArray.mk #[107]), .string (ByteArray.mk #[118]), .string (ByteArray.mk #[])]), (T_api_Entry, [.int .i64 Index, .int .i64 Term, .int .i64 CmdOp, .int .i64 CmdClient, .int .i64 CmdSeq, .string CmdKey, .string CmdValue, .string CmdOld])], (holes H2 1)⟩
def tephralaw06_awake.k1 (J : Jn) (H2 : Hp) (Index : Int) (Term : Int) (CmdOp : Int) (CmdClient : Int) (CmdSeq : Int) (CmdKey : ByteArray) (CmdValue : ByteArray) (CmdOld : ByteArray) (x2 : Bool) (Q : Value → Hp → Prop) : Prop := J (vMid Try.prog tephralaw06_awake.cf J tephralaw06_awake.fn [1, 1, 1, 0] [0, 0, 1, 2] 6 Q) (tephralaw06_awake.k1.st H2 Index Term CmdOp CmdClient CmdSeq CmdKey CmdValue CmdOld x2)
def tephralaw06_awake.k2.st (Index : Int) (Term : Int) (CmdOp : Int) (CmdClient : Int) (CmdSeq : Int) (CmdKey : ByteArray) (CmdValue : ByteArray) (CmdOld : ByteArray) (x4 : Bool) (H4 : Hp) : VS := ⟨mkFr 32 [(1, .loc 0 0), (21, .v (.bool x4))], [(T_api_Entry, [.int .i64 3, .int .i64 1, .int .i64 1, .int .i64 1, .int .i64 2, .string (ByteArray.mk #[107]), .string (ByteArray.mk #[118]), .string (ByteArray.mk #[])]), (T_api_Entry, [.int .i64 Index, .int .i64 Term, .int .i64 CmdOp, .int .i64 CmdClient, .int .i64 CmdSeq, .string CmdKey, .string CmdValue, .string CmdOld])], H4⟩
def tephralaw06_awake.k2 (J : Jn) (Index : Int) (Term : Int) (CmdOp : Int) (CmdClient : Int) (CmdSeq : Int) (CmdKey : ByteArray) (CmdValue : ByteArray) (CmdOld : ByteArray) (x4 : Bool) (H4 : Hp) (Q : Value → Hp → Prop) : Prop := J (vMid Try.prog tephralaw06_awake.cf J tephralaw06_awake.fn [1, 1, 1, 0] [0, 0, 1, 2] 10 Q) (tephralaw06_awake.k2.st Index Term CmdOp CmdClient CmdSeq CmdKey CmdValue CmdOld x4 H4)
def tephralaw06_awake.k3.st (Index : Int) (Term : Int) (CmdOp : Int) (CmdClient : Int) (CmdSeq : Int) (CmdKey : ByteArray) (CmdValue : ByteArray) (CmdOld : ByteArray) (x6 : Bool) (H6 : Hp) : VS := ⟨mkFr 32 [(1, .loc 0 0), (26, .v (.bool x6))], [(T_api_Entry, [.int .i64 3, .int .i64 1, .int .i64 1, .int .i64 1, .int .i64 2, .string (ByteArray.mk #[107]), .string (ByteArray.mk #[118]), .string (ByteArray.mk #[])]), (T_api_Entry, [.int .i64 Index, .int .i64 Term, .int .i64 CmdOp, .int .i64 CmdClient, .int .i64 CmdSeq, .string CmdKey, .string CmdValue, .string CmdOld])], H6⟩
def tephralaw06_awake.k3 (J : Jn) (Index : Int) (Term : Int) (CmdOp : Int) (CmdClient : Int) (CmdSeq : Int) (CmdKey : ByteArray) (CmdValue : ByteArray) (CmdOld : ByteArray) (x6 : Bool) (H6 : Hp) (Q : Value → Hp → Prop) : Prop := J (vMid Try.prog tephralaw06_awake.cf J tephralaw06_awake.fn [1, 1, 1, 0] [0, 0, 1, 2] 15 Q) (tephralaw06_awake.k3.st Index Term CmdOp CmdClient CmdSeq CmdKey CmdValue CmdOld x6 H6)
attribute [irreducible] tephralaw06_awake.k1 tephralaw06_awake.k2 tephralaw06_awake.k3
def tephralaw06_awake.k1.body (J : Jn) (H2 : Hp) (Index : Int) (Term : Int) (CmdOp : Int) (CmdClient : Int) (CmdSeq : Int) (CmdKey : ByteArray) (CmdValue : ByteArray) (CmdOld : ByteArray) (x2 : Bool) (Q : Value → Hp → Prop) : Prop :=
 
 Br x2 (
 SCalls Try.prog cmds_May.id [.agg #[.int .i64 0, .int .i64 0, .int .i64 0, .string (ByteArray.mk #[]), .string (ByteArray.mk #[]), .string (ByteArray.mk #[])]] (holes H2 1) (fun r2 H3 => ∃ x3 : Bool, r2 = .bool x3 ∧ 
 tephralaw06_awake.k2 J Index Term CmdOp CmdClient CmdSeq CmdKey CmdValue CmdOld x3 H3 Q))
 (
 tephralaw06_awake.k2 J Index Term CmdOp CmdClient CmdSeq CmdKey CmdValue CmdOld false (holes H2 1) Q)
theorem tephralaw06_awake.k1.eq (J : Jn) (H2 : Hp) (Index : Int) (Term : Int) (CmdOp : Int) (CmdClient : Int) (CmdSeq : Int) (CmdKey : ByteArray) (CmdValue : ByteArray) (CmdOld : ByteArray) (x2 : Bool) (Q : Value → Hp → Prop) : vMid Try.prog tephralaw06_awake.cf J tephralaw06_awake.fn [1, 1, 1, 0] [0, 0, 1, 2] 6 Q (tephralaw06_awake.k1.st H2 Index Term CmdOp CmdClient CmdSeq CmdKey CmdValue CmdOld x2) = tephralaw06_awake.k1.body J H2 Index Term CmdOp CmdClient CmdSeq CmdKey CmdValue CmdOld x2 Q := by kernel_rfl
theorem tephralaw06_awake.k1.step {H2 : Hp} {Index : Int} {Term : Int} {CmdOp : Int} {CmdClient : Int} {CmdSeq : Int} {CmdKey : ByteArray} {CmdValue : ByteArray} {CmdOld : ByteArray} {x2 : Bool} {Q : Value → Hp → Prop} (h : tephralaw06_awake.k1.body J0 H2 Index Term CmdOp CmdClient CmdSeq CmdKey CmdValue CmdOld x2 Q) : tephralaw06_awake.k1 J0 H2 Index Term CmdOp CmdClient CmdSeq CmdKey CmdValue CmdOld x2 Q := step_of (vMid Try.prog tephralaw06_awake.cf J0 tephralaw06_awake.fn [1, 1, 1, 0] [0, 0, 1, 2] 6 Q) (tephralaw06_awake.k1.st H2 Index Term CmdOp CmdClient CmdSeq CmdKey CmdValue CmdOld x2) (tephralaw06_awake.k1.eq J0 H2 Index Term CmdOp CmdClient CmdSeq CmdKey CmdValue CmdOld x2 Q) (by kernel_rfl) h
def tephralaw06_awake.k2.body (J : Jn) (Index : Int) (Term : Int) (CmdOp : Int) (CmdClient : Int) (CmdSeq : Int) (CmdKey : ByteArray) (CmdValue : ByteArray) (CmdOld : ByteArray) (x4 : Bool) (H4 : Hp) (Q : Value → Hp → Prop) : Prop :=
 
 Br x4 (
 SCalls Try.prog cmds_May.id [.agg #[.int .i64 0, .int .i64 0, .int .i64 0, .string (ByteArray.mk #[107]), .string (ByteArray.mk #[]), .string (ByteArray.mk #[])]] H4 (fun r3 H5 => ∃ x5 : Bool, r3 = .bool x5 ∧ 
 tephralaw06_awake.k3 J Index Term CmdOp CmdClient CmdSeq CmdKey CmdValue CmdOld (!x5) H5 Q))
 (
 tephralaw06_awake.k3 J Index Term CmdOp CmdClient CmdSeq CmdKey CmdValue CmdOld false H4 Q)
theorem tephralaw06_awake.k2.eq (J : Jn) (Index : Int) (Term : Int) (CmdOp : Int) (CmdClient : Int) (CmdSeq : Int) (CmdKey : ByteArray) (CmdValue : ByteArray) (CmdOld : ByteArray) (x4 : Bool) (H4 : Hp) (Q : Value → Hp → Prop) : vMid Try.prog tephralaw06_awake.cf J tephralaw06_awake.fn [1, 1, 1, 0] [0, 0, 1, 2] 10 Q (tephralaw06_awake.k2.st Index Term CmdOp CmdClient CmdSeq CmdKey CmdValue CmdOld x4 H4) = tephralaw06_awake.k2.body J Index Term CmdOp CmdClient CmdSeq CmdKey CmdValue CmdOld x4 H4 Q := by kernel_rfl
theorem tephralaw06_awake.k2.step {Index : Int} {Term : Int} {CmdOp : Int} {CmdClient : Int} {CmdSeq : Int} {CmdKey : ByteArray} {CmdValue : ByteArray} {CmdOld : ByteArray} {x4 : Bool} {H4 : Hp} {Q : Value → Hp → Prop} (h : tephralaw06_awake.k2.body J0 Index Term CmdOp CmdClient CmdSeq CmdKey CmdValue CmdOld x4 H4 Q) : tephralaw06_awake.k2 J0 Index Term CmdOp CmdClient CmdSeq CmdKey CmdValue CmdOld x4 H4 Q := step_of (vMid Try.prog tephralaw06_awake.cf J0 tephralaw06_awake.fn [1, 1, 1, 0] [0, 0, 1, 2] 10 Q) (tephralaw06_awake.k2.st Index Term CmdOp CmdClient CmdSeq CmdKey CmdValue CmdOld x4 H4) (tephralaw06_awake.k2.eq J0 Index Term CmdOp CmdClient CmdSeq CmdKey CmdValue CmdOld x4 H4 Q) (by kernel_rfl) h
def tephralaw06_awake.k3.body (J : Jn) (Index : Int) (Term : Int) (CmdOp : Int) (CmdClient : Int) (CmdSeq : Int) (CmdKey : ByteArray) (CmdValue : ByteArray) (CmdOld : ByteArray) (x6 : Bool) (H6 : Hp) (Q : Value → Hp → Prop) : Prop :=
 
 Br x6 (
 SCalls Try.prog cmds_Row.id [.slice (some (Addr.mk (Array.size H6) 0 none)) 1 1, .int .i64 3] (Array.push H6 (.cells #[.int .i64 3, .int .i64 1, .int .i64 1, .int .i64 1, .int .i64 2, .string (ByteArray.mk #[107]), .string (ByteArray.mk #[118]), .string (ByteArray.mk #[])] T_api_Entry)) (fun r4 H7 => ∃ x7 : Bool, r4 = .bool x7 ∧ Q (.bool x7) H7))
 (Q (.bool false) H6)
theorem tephralaw06_awake.k3.eq (J : Jn) (Index : Int) (Term : Int) (CmdOp : Int) (CmdClient : Int) (CmdSeq : Int) (CmdKey : ByteArray) (CmdValue : ByteArray) (CmdOld : ByteArray) (x6 : Bool) (H6 : Hp) (Q : Value → Hp → Prop) : vMid Try.prog tephralaw06_awake.cf J tephralaw06_awake.fn [1, 1, 1, 0] [0, 0, 1, 2] 15 Q (tephralaw06_awake.k3.st Index Term CmdOp CmdClient CmdSeq CmdKey CmdValue CmdOld x6 H6) = tephralaw06_awake.k3.body J Index Term CmdOp CmdClient CmdSeq CmdKey CmdValue CmdOld x6 H6 Q := by kernel_rfl
theorem tephralaw06_awake.k3.step {Index : Int} {Term : Int} {CmdOp : Int} {CmdClient : Int} {CmdSeq : Int} {CmdKey : ByteArray} {CmdValue : ByteArray} {CmdOld : ByteArray} {x6 : Bool} {H6 : Hp} {Q : Value → Hp → Prop} (h : tephralaw06_awake.k3.body J0 Index Term CmdOp CmdClient CmdSeq CmdKey CmdValue CmdOld x6 H6 Q) : tephralaw06_awake.k3 J0 Index Term CmdOp CmdClient CmdSeq CmdKey CmdValue CmdOld x6 H6 Q := step_of (vMid Try.prog tephralaw06_awake.cf J0 tephralaw06_awake.fn [1, 1, 1, 0] [0, 0, 1, 2] 15 Q) (tephralaw06_awake.k3.st Index Term CmdOp CmdClient CmdSeq CmdKey CmdValue CmdOld x6 H6) (tephralaw06_awake.k3.eq J0 Index Term CmdOp CmdClient CmdSeq CmdKey CmdValue CmdOld x6 H6 Q) (by kernel_rfl) h
def tephralaw06_awake.vc (J : Jn) (H : Hp) (Q : Value → Hp → Prop) : Prop :=
 
 SCalls Try.prog cmds_Bytes.id [.agg #[.int .i64 3, .int .i64 1, .int .i64 1, .int .i64 1, .int .i64 2, .string (ByteArray.mk #[107]), .string (ByteArray.mk #[118]), .string (ByteArray.mk #[])]] (holes H 1) (fun r H1 => ∃ x : Sl, r = .slice x.a x.len x.cap ∧ 
 SCalls Try.prog cmds_Read.id [.slice x.a x.len x.cap] H1 (fun r1 H2 => ∃ Index : Int, ∃ Term : Int, ∃ CmdOp : Int, ∃ CmdClient : Int, ∃ CmdSeq : Int, ∃ CmdKey : ByteArray, ∃ CmdValue : ByteArray, ∃ CmdOld : ByteArray, ∃ x1 : Bool, r1 = .tuple #[.agg #[.int .i64 Index, .int .i64 Term, .int .i64 CmdOp, .int .i64 CmdClient, .int .i64 CmdSeq, .string CmdKey, .string CmdValue, .string CmdOld], .bool x1] ∧ 
 Br x1 (
 tephralaw06_awake.k1 J H2 Index Term CmdOp CmdClient CmdSeq CmdKey CmdValue CmdOld ((Index == (3 : Int)) && ((Term == (1 : Int)) && (((CmdOp == (1 : Int)) && ((CmdClient == (1 : Int)) && ((CmdSeq == (2 : Int)) && ((CmdKey == (ByteArray.mk #[107])) && ((CmdValue == (ByteArray.mk #[118])) && ((CmdOld == (ByteArray.mk #[])) && true)))))) && true))) Q)
 (
 tephralaw06_awake.k1 J H2 Index Term CmdOp CmdClient CmdSeq CmdKey CmdValue CmdOld false Q)))
theorem tephralaw06_awake.eq (J : Jn) (H : Hp) (Q : Value → Hp → Prop) : vFn Try.prog tephralaw06_awake.cf J tephralaw06_awake.fn [] H Q = tephralaw06_awake.vc J H Q := by kernel_rfl
theorem tephralaw06_awake.calls {H : Hp} {Q : Value → Hp → Prop} (h : tephralaw06_awake.vc J0 H Q) : SCalls Try.prog tephralaw06_awake.id [] H Q := vFn_of Try.mixed Try.func10 (tephralaw06_awake.eq J0 H Q) h

/-! 11: (tephra/tephralaw06.Say).Cmd -/
def tephralaw06_Say_Cmd.cf : Cfg := ⟨[1, 2, 3], [], [(6, [1, 2, 3], true)], []⟩
def tephralaw06_Say_Cmd.k1.st (sOp : Int) (sClient : Int) (sSeq : Int) (sKey : Int) (sValue : Int) (sOld : Int) (H : Hp) (y : ByteArray) : VS := ⟨mkFr 65 [(1, .loc 0 0), (2, .loc 1 0), (3, .loc 2 0)], [(T_tephralaw06_Say, [.int .u8 sOp, .int .u8 sClient, .int .u8 sSeq, .int .u8 sKey, .int .u8 sValue, .int .u8 sOld]), (T_api_Cmd, [.int .i64 0, .int .i64 0, .int .i64 0, .string (ByteArray.mk #[]), .string (ByteArray.mk #[]), .string (ByteArray.mk #[])]), (T_api_Cmd, [.int .i64 (w64 ((Int.tmod sOp 4))), .int .i64 (w64 ((Int.tmod sClient 4))), .int .i64 (w64 ((Int.tmod sSeq 40))), .string ((ByteArray.mk #[107]) ++ ((ByteArray.mk #[97, 98, 99, 100, 101, 102, 103, 104]).extract (((Int.tmod sKey 8) : Int).toNat) (((IntKind.u8.wrap ((Int.tmod sKey 8) + 1)) : Int).toNat))), .string y, .string (ByteArray.mk #[])])], (holes H 3)⟩
def tephralaw06_Say_Cmd.k1 (J : Jn) (sOp : Int) (sClient : Int) (sSeq : Int) (sKey : Int) (sValue : Int) (sOld : Int) (H : Hp) (y : ByteArray) (Q : Value → Hp → Prop) : Prop := J (vSeg Try.prog tephralaw06_Say_Cmd.cf J tephralaw06_Say_Cmd.fn [1, 1, 1, 1] [0, 2, 3, 3] Q) (tephralaw06_Say_Cmd.k1.st sOp sClient sSeq sKey sValue sOld H y)
attribute [irreducible] tephralaw06_Say_Cmd.k1
def tephralaw06_Say_Cmd.k1.body (J : Jn) (sOp : Int) (sClient : Int) (sSeq : Int) (sKey : Int) (sValue : Int) (sOld : Int) (H : Hp) (y : ByteArray) (Q : Value → Hp → Prop) : Prop :=
 
 Br ((w64 ((Int.tmod sOp 4))) == 3) ((2 : Int) ≠ 0 ∧ ((0 : Int) ≤ (Int.tmod sOld 2) ∧ (Int.tmod sOld 2) ≤ (((ByteArray.mk #[118]).size : Nat) : Int)) ∧ (10 : Int) ≠ 0 ∧ (10 : Int) ≠ 0 ∧ ((0 : Int) ≤ (IntKind.u8.wrap ((Int.tmod sOld 10) + 1)) ∧ (IntKind.u8.wrap ((Int.tmod sOld 10) + 1)) ≤ (((ByteArray.mk #[48, 49, 50, 51, 52, 53, 54, 55, 56, 57]).size : Nat) : Int)) ∧ ((0 : Int) ≤ (Int.tmod sOld 10) ∧ (Int.tmod sOld 10) ≤ (((((IntKind.u8.wrap ((Int.tmod sOld 10) + 1)) : Int).toNat) : Nat) : Int)) ∧ ((ByteArray.mk #[118]).extract 0 (((Int.tmod sOld 2) : Int).toNat)).size + ((ByteArray.mk #[48, 49, 50, 51, 52, 53, 54, 55, 56, 57]).extract (((Int.tmod sOld 10) : Int).toNat) (((IntKind.u8.wrap ((Int.tmod sOld 10) + 1)) : Int).toNat)).size ≤ 9223372036854775807 ∧ Q (.agg #[.int .i64 (w64 ((Int.tmod sOp 4))), .int .i64 (w64 ((Int.tmod sClient 4))), .int .i64 (w64 ((Int.tmod sSeq 40))), .string ((ByteArray.mk #[107]) ++ ((ByteArray.mk #[97, 98, 99, 100, 101, 102, 103, 104]).extract (((Int.tmod sKey 8) : Int).toNat) (((IntKind.u8.wrap ((Int.tmod sKey 8) + 1)) : Int).toNat))), .string y, .string (((ByteArray.mk #[118]).extract 0 (((Int.tmod sOld 2) : Int).toNat)) ++ ((ByteArray.mk #[48, 49, 50, 51, 52, 53, 54, 55, 56, 57]).extract (((Int.tmod sOld 10) : Int).toNat) (((IntKind.u8.wrap ((Int.tmod sOld 10) + 1)) : Int).toNat)))]) (holes H 3))
 (Q (.agg #[.int .i64 (w64 ((Int.tmod sOp 4))), .int .i64 (w64 ((Int.tmod sClient 4))), .int .i64 (w64 ((Int.tmod sSeq 40))), .string ((ByteArray.mk #[107]) ++ ((ByteArray.mk #[97, 98, 99, 100, 101, 102, 103, 104]).extract (((Int.tmod sKey 8) : Int).toNat) (((IntKind.u8.wrap ((Int.tmod sKey 8) + 1)) : Int).toNat))), .string y, .string (ByteArray.mk #[])]) (holes H 3))
theorem tephralaw06_Say_Cmd.k1.eq (J : Jn) (sOp : Int) (sClient : Int) (sSeq : Int) (sKey : Int) (sValue : Int) (sOld : Int) (H : Hp) (y : ByteArray) (Q : Value → Hp → Prop) : vSeg Try.prog tephralaw06_Say_Cmd.cf J tephralaw06_Say_Cmd.fn [1, 1, 1, 1] [0, 2, 3, 3] Q (tephralaw06_Say_Cmd.k1.st sOp sClient sSeq sKey sValue sOld H y) = tephralaw06_Say_Cmd.k1.body J sOp sClient sSeq sKey sValue sOld H y Q := by kernel_rfl
theorem tephralaw06_Say_Cmd.k1.step {sOp : Int} {sClient : Int} {sSeq : Int} {sKey : Int} {sValue : Int} {sOld : Int} {H : Hp} {y : ByteArray} {Q : Value → Hp → Prop} (h : tephralaw06_Say_Cmd.k1.body J0 sOp sClient sSeq sKey sValue sOld H y Q) : tephralaw06_Say_Cmd.k1 J0 sOp sClient sSeq sKey sValue sOld H y Q := step_of (vSeg Try.prog tephralaw06_Say_Cmd.cf J0 tephralaw06_Say_Cmd.fn [1, 1, 1, 1] [0, 2, 3, 3] Q) (tephralaw06_Say_Cmd.k1.st sOp sClient sSeq sKey sValue sOld H y) (tephralaw06_Say_Cmd.k1.eq J0 sOp sClient sSeq sKey sValue sOld H y Q) (by kernel_rfl) h
def tephralaw06_Say_Cmd.vc (J : Jn) (sOp : Int) (sClient : Int) (sSeq : Int) (sKey : Int) (sValue : Int) (sOld : Int) (H : Hp) (Q : Value → Hp → Prop) : Prop :=
 (4 : Int) ≠ 0 ∧ (4 : Int) ≠ 0 ∧ (40 : Int) ≠ 0 ∧ (8 : Int) ≠ 0 ∧ (8 : Int) ≠ 0 ∧ ((0 : Int) ≤ (IntKind.u8.wrap ((Int.tmod sKey 8) + 1)) ∧ (IntKind.u8.wrap ((Int.tmod sKey 8) + 1)) ≤ (((ByteArray.mk #[97, 98, 99, 100, 101, 102, 103, 104]).size : Nat) : Int)) ∧ ((0 : Int) ≤ (Int.tmod sKey 8) ∧ (Int.tmod sKey 8) ≤ (((((IntKind.u8.wrap ((Int.tmod sKey 8) + 1)) : Int).toNat) : Nat) : Int)) ∧ (ByteArray.mk #[107]).size + ((ByteArray.mk #[97, 98, 99, 100, 101, 102, 103, 104]).extract (((Int.tmod sKey 8) : Int).toNat) (((IntKind.u8.wrap ((Int.tmod sKey 8) + 1)) : Int).toNat)).size ≤ 9223372036854775807 ∧ (2 : Int) ≠ 0 ∧ ((0 : Int) ≤ (Int.tmod sValue 2) ∧ (Int.tmod sValue 2) ≤ (((ByteArray.mk #[118]).size : Nat) : Int)) ∧ (10 : Int) ≠ 0 ∧ (10 : Int) ≠ 0 ∧ ((0 : Int) ≤ (IntKind.u8.wrap ((Int.tmod sValue 10) + 1)) ∧ (IntKind.u8.wrap ((Int.tmod sValue 10) + 1)) ≤ (((ByteArray.mk #[48, 49, 50, 51, 52, 53, 54, 55, 56, 57]).size : Nat) : Int)) ∧ ((0 : Int) ≤ (Int.tmod sValue 10) ∧ (Int.tmod sValue 10) ≤ (((((IntKind.u8.wrap ((Int.tmod sValue 10) + 1)) : Int).toNat) : Nat) : Int)) ∧ ((ByteArray.mk #[118]).extract 0 (((Int.tmod sValue 2) : Int).toNat)).size + ((ByteArray.mk #[48, 49, 50, 51, 52, 53, 54, 55, 56, 57]).extract (((Int.tmod sValue 10) : Int).toNat) (((IntKind.u8.wrap ((Int.tmod sValue 10) + 1)) : Int).toNat)).size ≤ 9223372036854775807 ∧ 
 Br ((w64 ((Int.tmod sOp 4))) == 0) (Q (.agg #[.int .i64 0, .int .i64 0, .int .i64 0, .string (ByteArray.mk #[]), .string (ByteArray.mk #[]), .string (ByteArray.mk #[])]) (holes H 3))
 (
 Br ((w64 ((Int.tmod sOp 4))) == 2) (
 tephralaw06_Say_Cmd.k1 J sOp sClient sSeq sKey sValue sOld H (ByteArray.mk #[]) Q)
 (
 tephralaw06_Say_Cmd.k1 J sOp sClient sSeq sKey sValue sOld H (((ByteArray.mk #[118]).extract 0 (((Int.tmod sValue 2) : Int).toNat)) ++ ((ByteArray.mk #[48, 49, 50, 51, 52, 53, 54, 55, 56, 57]).extract (((Int.tmod sValue 10) : Int).toNat) (((IntKind.u8.wrap ((Int.tmod sValue 10) + 1)) : Int).toNat))) Q))
theorem tephralaw06_Say_Cmd.eq (J : Jn) (sOp : Int) (sClient : Int) (sSeq : Int) (sKey : Int) (sValue : Int) (sOld : Int) (H : Hp) (Q : Value → Hp → Prop) : vFn Try.prog tephralaw06_Say_Cmd.cf J tephralaw06_Say_Cmd.fn [.agg #[.int .u8 sOp, .int .u8 sClient, .int .u8 sSeq, .int .u8 sKey, .int .u8 sValue, .int .u8 sOld]] H Q = tephralaw06_Say_Cmd.vc J sOp sClient sSeq sKey sValue sOld H Q := by kernel_rfl
theorem tephralaw06_Say_Cmd.calls {sOp : Int} {sClient : Int} {sSeq : Int} {sKey : Int} {sValue : Int} {sOld : Int} {H : Hp} {Q : Value → Hp → Prop} (h : tephralaw06_Say_Cmd.vc J0 sOp sClient sSeq sKey sValue sOld H Q) : SCalls Try.prog tephralaw06_Say_Cmd.id [.agg #[.int .u8 sOp, .int .u8 sClient, .int .u8 sSeq, .int .u8 sKey, .int .u8 sValue, .int .u8 sOld]] H Q := vFn_of Try.mixed Try.func11 (tephralaw06_Say_Cmd.eq J0 sOp sClient sSeq sKey sValue sOld H Q) h

/-! 12: tephra/cmds.May -/
def cmds_May.cf : Cfg := ⟨[1], [], [(2, [1, 22], true)], [(10, [1, 10]), (16, [1, 16]), (36, [1, 36]), (41, [1, 41]), (46, [1, 46]), (51, [1, 51])]⟩
def cmds_May.k1.st (cOp : Int) (cClient : Int) (cSeq : Int) (cKey : ByteArray) (cValue : ByteArray) (cOld : ByteArray) (H : Hp) (x : Bool) : VS := ⟨mkFr 58 [(1, .loc 0 0), (10, .v (.bool x))], [(T_api_Cmd, [.int .i64 cOp, .int .i64 cClient, .int .i64 cSeq, .string cKey, .string cValue, .string cOld])], (holes H 1)⟩
def cmds_May.k1 (J : Jn) (cOp : Int) (cClient : Int) (cSeq : Int) (cKey : ByteArray) (cValue : ByteArray) (cOld : ByteArray) (H : Hp) (x : Bool) (Q : Value → Hp → Prop) : Prop := J (vMid Try.prog cmds_May.cf J cmds_May.fn [1, 0, 0] [0, 1, 1] 8 Q) (cmds_May.k1.st cOp cClient cSeq cKey cValue cOld H x)
def cmds_May.k2.st (cOp : Int) (cClient : Int) (cSeq : Int) (cKey : ByteArray) (cValue : ByteArray) (cOld : ByteArray) (H : Hp) (x1 : Bool) : VS := ⟨mkFr 58 [(1, .loc 0 0), (16, .v (.bool x1))], [(T_api_Cmd, [.int .i64 cOp, .int .i64 cClient, .int .i64 cSeq, .string cKey, .string cValue, .string cOld])], (holes H 1)⟩
def cmds_May.k2 (J : Jn) (cOp : Int) (cClient : Int) (cSeq : Int) (cKey : ByteArray) (cValue : ByteArray) (cOld : ByteArray) (H : Hp) (x1 : Bool) (Q : Value → Hp → Prop) : Prop := J (vMid Try.prog cmds_May.cf J cmds_May.fn [1, 0, 0] [0, 1, 1] 14 Q) (cmds_May.k2.st cOp cClient cSeq cKey cValue cOld H x1)
def cmds_May.k3.st (cOp : Int) (cClient : Int) (cSeq : Int) (cKey : ByteArray) (cValue : ByteArray) (cOld : ByteArray) (H : Hp) (x2 : Bool) : VS := ⟨mkFr 58 [(1, .loc 0 0), (22, .v (.bool x2))], [(T_api_Cmd, [.int .i64 cOp, .int .i64 cClient, .int .i64 cSeq, .string cKey, .string cValue, .string cOld])], (holes H 1)⟩
def cmds_May.k3 (J : Jn) (cOp : Int) (cClient : Int) (cSeq : Int) (cKey : ByteArray) (cValue : ByteArray) (cOld : ByteArray) (H : Hp) (x2 : Bool) (Q : Value → Hp → Prop) : Prop := J (vSeg Try.prog cmds_May.cf J cmds_May.fn [1, 0, 1] [0, 1, 1] Q) (cmds_May.k3.st cOp cClient cSeq cKey cValue cOld H x2)
def cmds_May.k4.st (cOp : Int) (cClient : Int) (cSeq : Int) (cKey : ByteArray) (cValue : ByteArray) (cOld : ByteArray) (H : Hp) (x3 : Bool) : VS := ⟨mkFr 58 [(1, .loc 0 0), (36, .v (.bool x3))], [(T_api_Cmd, [.int .i64 cOp, .int .i64 cClient, .int .i64 cSeq, .string cKey, .string cValue, .string cOld])], (holes H 1)⟩
def cmds_May.k4 (J : Jn) (cOp : Int) (cClient : Int) (cSeq : Int) (cKey : ByteArray) (cValue : ByteArray) (cOld : ByteArray) (H : Hp) (x3 : Bool) (Q : Value → Hp → Prop) : Prop := J (vMid Try.prog cmds_May.cf J cmds_May.fn [1, 1, 1, 0] [0, 1, 1, 1] 8 Q) (cmds_May.k4.st cOp cClient cSeq cKey cValue cOld H x3)
def cmds_May.k5.st (cOp : Int) (cClient : Int) (cSeq : Int) (cKey : ByteArray) (cValue : ByteArray) (cOld : ByteArray) (H : Hp) (x4 : Bool) : VS := ⟨mkFr 58 [(1, .loc 0 0), (41, .v (.bool x4))], [(T_api_Cmd, [.int .i64 cOp, .int .i64 cClient, .int .i64 cSeq, .string cKey, .string cValue, .string cOld])], (holes H 1)⟩
def cmds_May.k5 (J : Jn) (cOp : Int) (cClient : Int) (cSeq : Int) (cKey : ByteArray) (cValue : ByteArray) (cOld : ByteArray) (H : Hp) (x4 : Bool) (Q : Value → Hp → Prop) : Prop := J (vMid Try.prog cmds_May.cf J cmds_May.fn [1, 1, 1, 0] [0, 1, 1, 1] 13 Q) (cmds_May.k5.st cOp cClient cSeq cKey cValue cOld H x4)
def cmds_May.k6.st (cOp : Int) (cClient : Int) (cSeq : Int) (cKey : ByteArray) (cValue : ByteArray) (cOld : ByteArray) (H : Hp) (x5 : Bool) : VS := ⟨mkFr 58 [(1, .loc 0 0), (46, .v (.bool x5))], [(T_api_Cmd, [.int .i64 cOp, .int .i64 cClient, .int .i64 cSeq, .string cKey, .string cValue, .string cOld])], (holes H 1)⟩
def cmds_May.k6 (J : Jn) (cOp : Int) (cClient : Int) (cSeq : Int) (cKey : ByteArray) (cValue : ByteArray) (cOld : ByteArray) (H : Hp) (x5 : Bool) (Q : Value → Hp → Prop) : Prop := J (vMid Try.prog cmds_May.cf J cmds_May.fn [1, 1, 1, 0] [0, 1, 1, 1] 18 Q) (cmds_May.k6.st cOp cClient cSeq cKey cValue cOld H x5)
def cmds_May.k7.st (cOp : Int) (cClient : Int) (cSeq : Int) (cKey : ByteArray) (cValue : ByteArray) (cOld : ByteArray) (H : Hp) (x6 : Bool) : VS := ⟨mkFr 58 [(1, .loc 0 0), (51, .v (.bool x6))], [(T_api_Cmd, [.int .i64 cOp, .int .i64 cClient, .int .i64 cSeq, .string cKey, .string cValue, .string cOld])], (holes H 1)⟩
def cmds_May.k7 (J : Jn) (cOp : Int) (cClient : Int) (cSeq : Int) (cKey : ByteArray) (cValue : ByteArray) (cOld : ByteArray) (H : Hp) (x6 : Bool) (Q : Value → Hp → Prop) : Prop := J (vMid Try.prog cmds_May.cf J cmds_May.fn [1, 1, 1, 0] [0, 1, 1, 1] 23 Q) (cmds_May.k7.st cOp cClient cSeq cKey cValue cOld H x6)
attribute [irreducible] cmds_May.k1 cmds_May.k2 cmds_May.k3 cmds_May.k4 cmds_May.k5 cmds_May.k6 cmds_May.k7
def cmds_May.k1.body (J : Jn) (cOp : Int) (cClient : Int) (cSeq : Int) (cKey : ByteArray) (cValue : ByteArray) (cOld : ByteArray) (H : Hp) (x : Bool) (Q : Value → Hp → Prop) : Prop :=
 
 Br x (
 cmds_May.k2 J cOp cClient cSeq cKey cValue cOld H true Q)
 (
 cmds_May.k2 J cOp cClient cSeq cKey cValue cOld H (decide (((cValue.size : Nat) : Int) > 16)) Q)
theorem cmds_May.k1.eq (J : Jn) (cOp : Int) (cClient : Int) (cSeq : Int) (cKey : ByteArray) (cValue : ByteArray) (cOld : ByteArray) (H : Hp) (x : Bool) (Q : Value → Hp → Prop) : vMid Try.prog cmds_May.cf J cmds_May.fn [1, 0, 0] [0, 1, 1] 8 Q (cmds_May.k1.st cOp cClient cSeq cKey cValue cOld H x) = cmds_May.k1.body J cOp cClient cSeq cKey cValue cOld H x Q := by kernel_rfl
theorem cmds_May.k1.step {cOp : Int} {cClient : Int} {cSeq : Int} {cKey : ByteArray} {cValue : ByteArray} {cOld : ByteArray} {H : Hp} {x : Bool} {Q : Value → Hp → Prop} (h : cmds_May.k1.body J0 cOp cClient cSeq cKey cValue cOld H x Q) : cmds_May.k1 J0 cOp cClient cSeq cKey cValue cOld H x Q := step_of (vMid Try.prog cmds_May.cf J0 cmds_May.fn [1, 0, 0] [0, 1, 1] 8 Q) (cmds_May.k1.st cOp cClient cSeq cKey cValue cOld H x) (cmds_May.k1.eq J0 cOp cClient cSeq cKey cValue cOld H x Q) (by kernel_rfl) h
def cmds_May.k2.body (J : Jn) (cOp : Int) (cClient : Int) (cSeq : Int) (cKey : ByteArray) (cValue : ByteArray) (cOld : ByteArray) (H : Hp) (x1 : Bool) (Q : Value → Hp → Prop) : Prop :=
 
 Br x1 (
 cmds_May.k3 J cOp cClient cSeq cKey cValue cOld H true Q)
 (
 cmds_May.k3 J cOp cClient cSeq cKey cValue cOld H (decide (((cOld.size : Nat) : Int) > 16)) Q)
theorem cmds_May.k2.eq (J : Jn) (cOp : Int) (cClient : Int) (cSeq : Int) (cKey : ByteArray) (cValue : ByteArray) (cOld : ByteArray) (H : Hp) (x1 : Bool) (Q : Value → Hp → Prop) : vMid Try.prog cmds_May.cf J cmds_May.fn [1, 0, 0] [0, 1, 1] 14 Q (cmds_May.k2.st cOp cClient cSeq cKey cValue cOld H x1) = cmds_May.k2.body J cOp cClient cSeq cKey cValue cOld H x1 Q := by kernel_rfl
theorem cmds_May.k2.step {cOp : Int} {cClient : Int} {cSeq : Int} {cKey : ByteArray} {cValue : ByteArray} {cOld : ByteArray} {H : Hp} {x1 : Bool} {Q : Value → Hp → Prop} (h : cmds_May.k2.body J0 cOp cClient cSeq cKey cValue cOld H x1 Q) : cmds_May.k2 J0 cOp cClient cSeq cKey cValue cOld H x1 Q := step_of (vMid Try.prog cmds_May.cf J0 cmds_May.fn [1, 0, 0] [0, 1, 1] 14 Q) (cmds_May.k2.st cOp cClient cSeq cKey cValue cOld H x1) (cmds_May.k2.eq J0 cOp cClient cSeq cKey cValue cOld H x1 Q) (by kernel_rfl) h
def cmds_May.k3.body (J : Jn) (cOp : Int) (cClient : Int) (cSeq : Int) (cKey : ByteArray) (cValue : ByteArray) (cOld : ByteArray) (H : Hp) (x2 : Bool) (Q : Value → Hp → Prop) : Prop :=
 
 Br x2 (Q (.bool false) (holes H 1))
 (
 Br (cOp == 0) (Q (.bool ((cOp == (0 : Int)) && ((cClient == (0 : Int)) && ((cSeq == (0 : Int)) && ((cKey == (ByteArray.mk #[])) && ((cValue == (ByteArray.mk #[])) && ((cOld == (ByteArray.mk #[])) && true))))))) (holes H 1))
 (
 Br (decide (cClient ≥ 0)) (
 cmds_May.k4 J cOp cClient cSeq cKey cValue cOld H (decide (cClient < 4)) Q)
 (
 cmds_May.k4 J cOp cClient cSeq cKey cValue cOld H false Q)))
theorem cmds_May.k3.eq (J : Jn) (cOp : Int) (cClient : Int) (cSeq : Int) (cKey : ByteArray) (cValue : ByteArray) (cOld : ByteArray) (H : Hp) (x2 : Bool) (Q : Value → Hp → Prop) : vSeg Try.prog cmds_May.cf J cmds_May.fn [1, 0, 1] [0, 1, 1] Q (cmds_May.k3.st cOp cClient cSeq cKey cValue cOld H x2) = cmds_May.k3.body J cOp cClient cSeq cKey cValue cOld H x2 Q := by kernel_rfl
theorem cmds_May.k3.step {cOp : Int} {cClient : Int} {cSeq : Int} {cKey : ByteArray} {cValue : ByteArray} {cOld : ByteArray} {H : Hp} {x2 : Bool} {Q : Value → Hp → Prop} (h : cmds_May.k3.body J0 cOp cClient cSeq cKey cValue cOld H x2 Q) : cmds_May.k3 J0 cOp cClient cSeq cKey cValue cOld H x2 Q := step_of (vSeg Try.prog cmds_May.cf J0 cmds_May.fn [1, 0, 1] [0, 1, 1] Q) (cmds_May.k3.st cOp cClient cSeq cKey cValue cOld H x2) (cmds_May.k3.eq J0 cOp cClient cSeq cKey cValue cOld H x2 Q) (by kernel_rfl) h
def cmds_May.k4.body (J : Jn) (cOp : Int) (cClient : Int) (cSeq : Int) (cKey : ByteArray) (cValue : ByteArray) (cOld : ByteArray) (H : Hp) (x3 : Bool) (Q : Value → Hp → Prop) : Prop :=
 
 Br x3 (
 cmds_May.k5 J cOp cClient cSeq cKey cValue cOld H (decide (cSeq ≥ 0)) Q)
 (
 cmds_May.k5 J cOp cClient cSeq cKey cValue cOld H false Q)
theorem cmds_May.k4.eq (J : Jn) (cOp : Int) (cClient : Int) (cSeq : Int) (cKey : ByteArray) (cValue : ByteArray) (cOld : ByteArray) (H : Hp) (x3 : Bool) (Q : Value → Hp → Prop) : vMid Try.prog cmds_May.cf J cmds_May.fn [1, 1, 1, 0] [0, 1, 1, 1] 8 Q (cmds_May.k4.st cOp cClient cSeq cKey cValue cOld H x3) = cmds_May.k4.body J cOp cClient cSeq cKey cValue cOld H x3 Q := by kernel_rfl
theorem cmds_May.k4.step {cOp : Int} {cClient : Int} {cSeq : Int} {cKey : ByteArray} {cValue : ByteArray} {cOld : ByteArray} {H : Hp} {x3 : Bool} {Q : Value → Hp → Prop} (h : cmds_May.k4.body J0 cOp cClient cSeq cKey cValue cOld H x3 Q) : cmds_May.k4 J0 cOp cClient cSeq cKey cValue cOld H x3 Q := step_of (vMid Try.prog cmds_May.cf J0 cmds_May.fn [1, 1, 1, 0] [0, 1, 1, 1] 8 Q) (cmds_May.k4.st cOp cClient cSeq cKey cValue cOld H x3) (cmds_May.k4.eq J0 cOp cClient cSeq cKey cValue cOld H x3 Q) (by kernel_rfl) h
def cmds_May.k5.body (J : Jn) (cOp : Int) (cClient : Int) (cSeq : Int) (cKey : ByteArray) (cValue : ByteArray) (cOld : ByteArray) (H : Hp) (x4 : Bool) (Q : Value → Hp → Prop) : Prop :=
 
 Br x4 (
 cmds_May.k6 J cOp cClient cSeq cKey cValue cOld H (decide (cSeq ≤ 1048576)) Q)
 (
 cmds_May.k6 J cOp cClient cSeq cKey cValue cOld H false Q)
theorem cmds_May.k5.eq (J : Jn) (cOp : Int) (cClient : Int) (cSeq : Int) (cKey : ByteArray) (cValue : ByteArray) (cOld : ByteArray) (H : Hp) (x4 : Bool) (Q : Value → Hp → Prop) : vMid Try.prog cmds_May.cf J cmds_May.fn [1, 1, 1, 0] [0, 1, 1, 1] 13 Q (cmds_May.k5.st cOp cClient cSeq cKey cValue cOld H x4) = cmds_May.k5.body J cOp cClient cSeq cKey cValue cOld H x4 Q := by kernel_rfl
theorem cmds_May.k5.step {cOp : Int} {cClient : Int} {cSeq : Int} {cKey : ByteArray} {cValue : ByteArray} {cOld : ByteArray} {H : Hp} {x4 : Bool} {Q : Value → Hp → Prop} (h : cmds_May.k5.body J0 cOp cClient cSeq cKey cValue cOld H x4 Q) : cmds_May.k5 J0 cOp cClient cSeq cKey cValue cOld H x4 Q := step_of (vMid Try.prog cmds_May.cf J0 cmds_May.fn [1, 1, 1, 0] [0, 1, 1, 1] 13 Q) (cmds_May.k5.st cOp cClient cSeq cKey cValue cOld H x4) (cmds_May.k5.eq J0 cOp cClient cSeq cKey cValue cOld H x4 Q) (by kernel_rfl) h
def cmds_May.k6.body (J : Jn) (cOp : Int) (cClient : Int) (cSeq : Int) (cKey : ByteArray) (cValue : ByteArray) (cOld : ByteArray) (H : Hp) (x5 : Bool) (Q : Value → Hp → Prop) : Prop :=
 
 Br x5 (
 cmds_May.k7 J cOp cClient cSeq cKey cValue cOld H (!(cKey.toList == (ByteArray.mk #[]).toList)) Q)
 (
 cmds_May.k7 J cOp cClient cSeq cKey cValue cOld H false Q)
theorem cmds_May.k6.eq (J : Jn) (cOp : Int) (cClient : Int) (cSeq : Int) (cKey : ByteArray) (cValue : ByteArray) (cOld : ByteArray) (H : Hp) (x5 : Bool) (Q : Value → Hp → Prop) : vMid Try.prog cmds_May.cf J cmds_May.fn [1, 1, 1, 0] [0, 1, 1, 1] 18 Q (cmds_May.k6.st cOp cClient cSeq cKey cValue cOld H x5) = cmds_May.k6.body J cOp cClient cSeq cKey cValue cOld H x5 Q := by kernel_rfl
theorem cmds_May.k6.step {cOp : Int} {cClient : Int} {cSeq : Int} {cKey : ByteArray} {cValue : ByteArray} {cOld : ByteArray} {H : Hp} {x5 : Bool} {Q : Value → Hp → Prop} (h : cmds_May.k6.body J0 cOp cClient cSeq cKey cValue cOld H x5 Q) : cmds_May.k6 J0 cOp cClient cSeq cKey cValue cOld H x5 Q := step_of (vMid Try.prog cmds_May.cf J0 cmds_May.fn [1, 1, 1, 0] [0, 1, 1, 1] 18 Q) (cmds_May.k6.st cOp cClient cSeq cKey cValue cOld H x5) (cmds_May.k6.eq J0 cOp cClient cSeq cKey cValue cOld H x5 Q) (by kernel_rfl) h
def cmds_May.k7.body (J : Jn) (cOp : Int) (cClient : Int) (cSeq : Int) (cKey : ByteArray) (cValue : ByteArray) (cOld : ByteArray) (H : Hp) (x6 : Bool) (Q : Value → Hp → Prop) : Prop :=
 
 Br x6 (Q (.bool (decide (((cKey.size : Nat) : Int) ≤ 8))) (holes H 1))
 (Q (.bool false) (holes H 1))
theorem cmds_May.k7.eq (J : Jn) (cOp : Int) (cClient : Int) (cSeq : Int) (cKey : ByteArray) (cValue : ByteArray) (cOld : ByteArray) (H : Hp) (x6 : Bool) (Q : Value → Hp → Prop) : vMid Try.prog cmds_May.cf J cmds_May.fn [1, 1, 1, 0] [0, 1, 1, 1] 23 Q (cmds_May.k7.st cOp cClient cSeq cKey cValue cOld H x6) = cmds_May.k7.body J cOp cClient cSeq cKey cValue cOld H x6 Q := by kernel_rfl
theorem cmds_May.k7.step {cOp : Int} {cClient : Int} {cSeq : Int} {cKey : ByteArray} {cValue : ByteArray} {cOld : ByteArray} {H : Hp} {x6 : Bool} {Q : Value → Hp → Prop} (h : cmds_May.k7.body J0 cOp cClient cSeq cKey cValue cOld H x6 Q) : cmds_May.k7 J0 cOp cClient cSeq cKey cValue cOld H x6 Q := step_of (vMid Try.prog cmds_May.cf J0 cmds_May.fn [1, 1, 1, 0] [0, 1, 1, 1] 23 Q) (cmds_May.k7.st cOp cClient cSeq cKey cValue cOld H x6) (cmds_May.k7.eq J0 cOp cClient cSeq cKey cValue cOld H x6 Q) (by kernel_rfl) h
def cmds_May.vc (J : Jn) (cOp : Int) (cClient : Int) (cSeq : Int) (cKey : ByteArray) (cValue : ByteArray) (cOld : ByteArray) (H : Hp) (Q : Value → Hp → Prop) : Prop :=
 
 Br (decide (cOp < 0)) (
 cmds_May.k1 J cOp cClient cSeq cKey cValue cOld H true Q)
 (
 cmds_May.k1 J cOp cClient cSeq cKey cValue cOld H (decide (cOp ≥ 4)) Q)
theorem cmds_May.eq (J : Jn) (cOp : Int) (cClient : Int) (cSeq : Int) (cKey : ByteArray) (cValue : ByteArray) (cOld : ByteArray) (H : Hp) (Q : Value → Hp → Prop) : vFn Try.prog cmds_May.cf J cmds_May.fn [.agg #[.int .i64 cOp, .int .i64 cClient, .int .i64 cSeq, .string cKey, .string cValue, .string cOld]] H Q = cmds_May.vc J cOp cClient cSeq cKey cValue cOld H Q := by kernel_rfl
theorem cmds_May.calls {cOp : Int} {cClient : Int} {cSeq : Int} {cKey : ByteArray} {cValue : ByteArray} {cOld : ByteArray} {H : Hp} {Q : Value → Hp → Prop} (h : cmds_May.vc J0 cOp cClient cSeq cKey cValue cOld H Q) : SCalls Try.prog cmds_May.id [.agg #[.int .i64 cOp, .int .i64 cClient, .int .i64 cSeq, .string cKey, .string cValue, .string cOld]] H Q := vFn_of Try.mixed Try.func12 (cmds_May.eq J0 cOp cClient cSeq cKey cValue cOld H Q) h

/-! 13: tephra/tephralaw06.may -/
def tephralaw06_may.cf : Cfg := ⟨[1], [], [(2, [1, 22], true)], [(10, [1, 10]), (16, [1, 16]), (33, [1, 33]), (38, [1, 38]), (43, [1, 43]), (56, [1, 56]), (61, [1, 61]), (66, [1, 66]), (72, [1, 72])]⟩
def tephralaw06_may.k1.st (cOp : Int) (cClient : Int) (cSeq : Int) (cKey : ByteArray) (cValue : ByteArray) (cOld : ByteArray) (H : Hp) (x : Bool) : VS := ⟨mkFr 79 [(1, .loc 0 0), (10, .v (.bool x))], [(T_api_Cmd, [.int .i64 cOp, .int .i64 cClient, .int .i64 cSeq, .string cKey, .string cValue, .string cOld])], (holes H 1)⟩
def tephralaw06_may.k1 (J : Jn) (cOp : Int) (cClient : Int) (cSeq : Int) (cKey : ByteArray) (cValue : ByteArray) (cOld : ByteArray) (H : Hp) (x : Bool) (Q : Value → Hp → Prop) : Prop := J (vMid Try.prog tephralaw06_may.cf J tephralaw06_may.fn [1, 0, 0] [0, 1, 1] 8 Q) (tephralaw06_may.k1.st cOp cClient cSeq cKey cValue cOld H x)
def tephralaw06_may.k2.st (cOp : Int) (cClient : Int) (cSeq : Int) (cKey : ByteArray) (cValue : ByteArray) (cOld : ByteArray) (H : Hp) (x1 : Bool) : VS := ⟨mkFr 79 [(1, .loc 0 0), (16, .v (.bool x1))], [(T_api_Cmd, [.int .i64 cOp, .int .i64 cClient, .int .i64 cSeq, .string cKey, .string cValue, .string cOld])], (holes H 1)⟩
def tephralaw06_may.k2 (J : Jn) (cOp : Int) (cClient : Int) (cSeq : Int) (cKey : ByteArray) (cValue : ByteArray) (cOld : ByteArray) (H : Hp) (x1 : Bool) (Q : Value → Hp → Prop) : Prop := J (vMid Try.prog tephralaw06_may.cf J tephralaw06_may.fn [1, 0, 0] [0, 1, 1] 14 Q) (tephralaw06_may.k2.st cOp cClient cSeq cKey cValue cOld H x1)
def tephralaw06_may.k3.st (cOp : Int) (cClient : Int) (cSeq : Int) (cKey : ByteArray) (cValue : ByteArray) (cOld : ByteArray) (H : Hp) (x2 : Bool) : VS := ⟨mkFr 79 [(1, .loc 0 0), (22, .v (.bool x2))], [(T_api_Cmd, [.int .i64 cOp, .int .i64 cClient, .int .i64 cSeq, .string cKey, .string cValue, .string cOld])], (holes H 1)⟩
def tephralaw06_may.k3 (J : Jn) (cOp : Int) (cClient : Int) (cSeq : Int) (cKey : ByteArray) (cValue : ByteArray) (cOld : ByteArray) (H : Hp) (x2 : Bool) (Q : Value → Hp → Prop) : Prop := J (vSeg Try.prog tephralaw06_may.cf J tephralaw06_may.fn [1, 0, 1] [0, 1, 1] Q) (tephralaw06_may.k3.st cOp cClient cSeq cKey cValue cOld H x2)
def tephralaw06_may.k4.st (cOp : Int) (cClient : Int) (cSeq : Int) (cKey : ByteArray) (cValue : ByteArray) (cOld : ByteArray) (H : Hp) (x3 : Bool) : VS := ⟨mkFr 79 [(1, .loc 0 0), (33, .v (.bool x3))], [(T_api_Cmd, [.int .i64 cOp, .int .i64 cClient, .int .i64 cSeq, .string cKey, .string cValue, .string cOld])], (holes H 1)⟩
def tephralaw06_may.k4 (J : Jn) (cOp : Int) (cClient : Int) (cSeq : Int) (cKey : ByteArray) (cValue : ByteArray) (cOld : ByteArray) (H : Hp) (x3 : Bool) (Q : Value → Hp → Prop) : Prop := J (vMid Try.prog tephralaw06_may.cf J tephralaw06_may.fn [1, 1, 0, 1, 0, 0] [0, 1, 1, 1, 1] 8 Q) (tephralaw06_may.k4.st cOp cClient cSeq cKey cValue cOld H x3)
def tephralaw06_may.k5.st (cOp : Int) (cClient : Int) (cSeq : Int) (cKey : ByteArray) (cValue : ByteArray) (cOld : ByteArray) (H : Hp) (x4 : Bool) : VS := ⟨mkFr 79 [(1, .loc 0 0), (38, .v (.bool x4))], [(T_api_Cmd, [.int .i64 cOp, .int .i64 cClient, .int .i64 cSeq, .string cKey, .string cValue, .string cOld])], (holes H 1)⟩
def tephralaw06_may.k5 (J : Jn) (cOp : Int) (cClient : Int) (cSeq : Int) (cKey : ByteArray) (cValue : ByteArray) (cOld : ByteArray) (H : Hp) (x4 : Bool) (Q : Value → Hp → Prop) : Prop := J (vMid Try.prog tephralaw06_may.cf J tephralaw06_may.fn [1, 1, 0, 1, 0, 0] [0, 1, 1, 1, 1] 13 Q) (tephralaw06_may.k5.st cOp cClient cSeq cKey cValue cOld H x4)
def tephralaw06_may.k6.st (cOp : Int) (cClient : Int) (cSeq : Int) (cKey : ByteArray) (cValue : ByteArray) (cOld : ByteArray) (H : Hp) (x5 : Bool) : VS := ⟨mkFr 79 [(1, .loc 0 0), (43, .v (.bool x5))], [(T_api_Cmd, [.int .i64 cOp, .int .i64 cClient, .int .i64 cSeq, .string cKey, .string cValue, .string cOld])], (holes H 1)⟩
def tephralaw06_may.k6 (J : Jn) (cOp : Int) (cClient : Int) (cSeq : Int) (cKey : ByteArray) (cValue : ByteArray) (cOld : ByteArray) (H : Hp) (x5 : Bool) (Q : Value → Hp → Prop) : Prop := J (vMid Try.prog tephralaw06_may.cf J tephralaw06_may.fn [1, 1, 0, 1, 0, 0] [0, 1, 1, 1, 1] 18 Q) (tephralaw06_may.k6.st cOp cClient cSeq cKey cValue cOld H x5)
def tephralaw06_may.k7.st (cOp : Int) (cClient : Int) (cSeq : Int) (cKey : ByteArray) (cValue : ByteArray) (cOld : ByteArray) (H : Hp) (x6 : Bool) : VS := ⟨mkFr 79 [(1, .loc 0 0), (56, .v (.bool x6))], [(T_api_Cmd, [.int .i64 cOp, .int .i64 cClient, .int .i64 cSeq, .string cKey, .string cValue, .string cOld])], (holes H 1)⟩
def tephralaw06_may.k7 (J : Jn) (cOp : Int) (cClient : Int) (cSeq : Int) (cKey : ByteArray) (cValue : ByteArray) (cOld : ByteArray) (H : Hp) (x6 : Bool) (Q : Value → Hp → Prop) : Prop := J (vMid Try.prog tephralaw06_may.cf J tephralaw06_may.fn [1, 1, 1, 0] [0, 1, 1, 1] 8 Q) (tephralaw06_may.k7.st cOp cClient cSeq cKey cValue cOld H x6)
def tephralaw06_may.k8.st (cOp : Int) (cClient : Int) (cSeq : Int) (cKey : ByteArray) (cValue : ByteArray) (cOld : ByteArray) (H : Hp) (x7 : Bool) : VS := ⟨mkFr 79 [(1, .loc 0 0), (61, .v (.bool x7))], [(T_api_Cmd, [.int .i64 cOp, .int .i64 cClient, .int .i64 cSeq, .string cKey, .string cValue, .string cOld])], (holes H 1)⟩
def tephralaw06_may.k8 (J : Jn) (cOp : Int) (cClient : Int) (cSeq : Int) (cKey : ByteArray) (cValue : ByteArray) (cOld : ByteArray) (H : Hp) (x7 : Bool) (Q : Value → Hp → Prop) : Prop := J (vMid Try.prog tephralaw06_may.cf J tephralaw06_may.fn [1, 1, 1, 0] [0, 1, 1, 1] 13 Q) (tephralaw06_may.k8.st cOp cClient cSeq cKey cValue cOld H x7)
def tephralaw06_may.k9.st (cOp : Int) (cClient : Int) (cSeq : Int) (cKey : ByteArray) (cValue : ByteArray) (cOld : ByteArray) (H : Hp) (x8 : Bool) : VS := ⟨mkFr 79 [(1, .loc 0 0), (66, .v (.bool x8))], [(T_api_Cmd, [.int .i64 cOp, .int .i64 cClient, .int .i64 cSeq, .string cKey, .string cValue, .string cOld])], (holes H 1)⟩
def tephralaw06_may.k9 (J : Jn) (cOp : Int) (cClient : Int) (cSeq : Int) (cKey : ByteArray) (cValue : ByteArray) (cOld : ByteArray) (H : Hp) (x8 : Bool) (Q : Value → Hp → Prop) : Prop := J (vMid Try.prog tephralaw06_may.cf J tephralaw06_may.fn [1, 1, 1, 0] [0, 1, 1, 1] 18 Q) (tephralaw06_may.k9.st cOp cClient cSeq cKey cValue cOld H x8)
def tephralaw06_may.k10.st (cOp : Int) (cClient : Int) (cSeq : Int) (cKey : ByteArray) (cValue : ByteArray) (cOld : ByteArray) (H : Hp) (x9 : Bool) : VS := ⟨mkFr 79 [(1, .loc 0 0), (72, .v (.bool x9))], [(T_api_Cmd, [.int .i64 cOp, .int .i64 cClient, .int .i64 cSeq, .string cKey, .string cValue, .string cOld])], (holes H 1)⟩
def tephralaw06_may.k10 (J : Jn) (cOp : Int) (cClient : Int) (cSeq : Int) (cKey : ByteArray) (cValue : ByteArray) (cOld : ByteArray) (H : Hp) (x9 : Bool) (Q : Value → Hp → Prop) : Prop := J (vMid Try.prog tephralaw06_may.cf J tephralaw06_may.fn [1, 1, 1, 0] [0, 1, 1, 1] 24 Q) (tephralaw06_may.k10.st cOp cClient cSeq cKey cValue cOld H x9)
attribute [irreducible] tephralaw06_may.k1 tephralaw06_may.k2 tephralaw06_may.k3 tephralaw06_may.k4 tephralaw06_may.k5 tephralaw06_may.k6 tephralaw06_may.k7 tephralaw06_may.k8 tephralaw06_may.k9 tephralaw06_may.k10
def tephralaw06_may.k1.body (J : Jn) (cOp : Int) (cClient : Int) (cSeq : Int) (cKey : ByteArray) (cValue : ByteArray) (cOld : ByteArray) (H : Hp) (x : Bool) (Q : Value → Hp → Prop) : Prop :=
 
 Br x (
 tephralaw06_may.k2 J cOp cClient cSeq cKey cValue cOld H true Q)
 (
 tephralaw06_may.k2 J cOp cClient cSeq cKey cValue cOld H (decide (((cValue.size : Nat) : Int) > 16)) Q)
theorem tephralaw06_may.k1.eq (J : Jn) (cOp : Int) (cClient : Int) (cSeq : Int) (cKey : ByteArray) (cValue : ByteArray) (cOld : ByteArray) (H : Hp) (x : Bool) (Q : Value → Hp → Prop) : vMid Try.prog tephralaw06_may.cf J tephralaw06_may.fn [1, 0, 0] [0, 1, 1] 8 Q (tephralaw06_may.k1.st cOp cClient cSeq cKey cValue cOld H x) = tephralaw06_may.k1.body J cOp cClient cSeq cKey cValue cOld H x Q := by kernel_rfl
theorem tephralaw06_may.k1.step {cOp : Int} {cClient : Int} {cSeq : Int} {cKey : ByteArray} {cValue : ByteArray} {cOld : ByteArray} {H : Hp} {x : Bool} {Q : Value → Hp → Prop} (h : tephralaw06_may.k1.body J0 cOp cClient cSeq cKey cValue cOld H x Q) : tephralaw06_may.k1 J0 cOp cClient cSeq cKey cValue cOld H x Q := step_of (vMid Try.prog tephralaw06_may.cf J0 tephralaw06_may.fn [1, 0, 0] [0, 1, 1] 8 Q) (tephralaw06_may.k1.st cOp cClient cSeq cKey cValue cOld H x) (tephralaw06_may.k1.eq J0 cOp cClient cSeq cKey cValue cOld H x Q) (by kernel_rfl) h
def tephralaw06_may.k2.body (J : Jn) (cOp : Int) (cClient : Int) (cSeq : Int) (cKey : ByteArray) (cValue : ByteArray) (cOld : ByteArray) (H : Hp) (x1 : Bool) (Q : Value → Hp → Prop) : Prop :=
 
 Br x1 (
 tephralaw06_may.k3 J cOp cClient cSeq cKey cValue cOld H true Q)
 (
 tephralaw06_may.k3 J cOp cClient cSeq cKey cValue cOld H (decide (((cOld.size : Nat) : Int) > 16)) Q)
theorem tephralaw06_may.k2.eq (J : Jn) (cOp : Int) (cClient : Int) (cSeq : Int) (cKey : ByteArray) (cValue : ByteArray) (cOld : ByteArray) (H : Hp) (x1 : Bool) (Q : Value → Hp → Prop) : vMid Try.prog tephralaw06_may.cf J tephralaw06_may.fn [1, 0, 0] [0, 1, 1] 14 Q (tephralaw06_may.k2.st cOp cClient cSeq cKey cValue cOld H x1) = tephralaw06_may.k2.body J cOp cClient cSeq cKey cValue cOld H x1 Q := by kernel_rfl
theorem tephralaw06_may.k2.step {cOp : Int} {cClient : Int} {cSeq : Int} {cKey : ByteArray} {cValue : ByteArray} {cOld : ByteArray} {H : Hp} {x1 : Bool} {Q : Value → Hp → Prop} (h : tephralaw06_may.k2.body J0 cOp cClient cSeq cKey cValue cOld H x1 Q) : tephralaw06_may.k2 J0 cOp cClient cSeq cKey cValue cOld H x1 Q := step_of (vMid Try.prog tephralaw06_may.cf J0 tephralaw06_may.fn [1, 0, 0] [0, 1, 1] 14 Q) (tephralaw06_may.k2.st cOp cClient cSeq cKey cValue cOld H x1) (tephralaw06_may.k2.eq J0 cOp cClient cSeq cKey cValue cOld H x1 Q) (by kernel_rfl) h
def tephralaw06_may.k3.body (J : Jn) (cOp : Int) (cClient : Int) (cSeq : Int) (cKey : ByteArray) (cValue : ByteArray) (cOld : ByteArray) (H : Hp) (x2 : Bool) (Q : Value → Hp → Prop) : Prop :=
 
 Br x2 (Q (.bool false) (holes H 1))
 (
 Br (cOp == 0) (
 Br (cClient == 0) (
 tephralaw06_may.k4 J cOp cClient cSeq cKey cValue cOld H (cSeq == 0) Q)
 (
 tephralaw06_may.k4 J cOp cClient cSeq cKey cValue cOld H false Q))
 (
 Br (decide (cClient ≥ 0)) (
 tephralaw06_may.k7 J cOp cClient cSeq cKey cValue cOld H (decide (cClient < 4)) Q)
 (
 tephralaw06_may.k7 J cOp cClient cSeq cKey cValue cOld H false Q)))
theorem tephralaw06_may.k3.eq (J : Jn) (cOp : Int) (cClient : Int) (cSeq : Int) (cKey : ByteArray) (cValue : ByteArray) (cOld : ByteArray) (H : Hp) (x2 : Bool) (Q : Value → Hp → Prop) : vSeg Try.prog tephralaw06_may.cf J tephralaw06_may.fn [1, 0, 1] [0, 1, 1] Q (tephralaw06_may.k3.st cOp cClient cSeq cKey cValue cOld H x2) = tephralaw06_may.k3.body J cOp cClient cSeq cKey cValue cOld H x2 Q := by kernel_rfl
theorem tephralaw06_may.k3.step {cOp : Int} {cClient : Int} {cSeq : Int} {cKey : ByteArray} {cValue : ByteArray} {cOld : ByteArray} {H : Hp} {x2 : Bool} {Q : Value → Hp → Prop} (h : tephralaw06_may.k3.body J0 cOp cClient cSeq cKey cValue cOld H x2 Q) : tephralaw06_may.k3 J0 cOp cClient cSeq cKey cValue cOld H x2 Q := step_of (vSeg Try.prog tephralaw06_may.cf J0 tephralaw06_may.fn [1, 0, 1] [0, 1, 1] Q) (tephralaw06_may.k3.st cOp cClient cSeq cKey cValue cOld H x2) (tephralaw06_may.k3.eq J0 cOp cClient cSeq cKey cValue cOld H x2 Q) (by kernel_rfl) h
def tephralaw06_may.k4.body (J : Jn) (cOp : Int) (cClient : Int) (cSeq : Int) (cKey : ByteArray) (cValue : ByteArray) (cOld : ByteArray) (H : Hp) (x3 : Bool) (Q : Value → Hp → Prop) : Prop :=
 
 Br x3 (
 tephralaw06_may.k5 J cOp cClient cSeq cKey cValue cOld H (cKey.toList == (ByteArray.mk #[]).toList) Q)
 (
 tephralaw06_may.k5 J cOp cClient cSeq cKey cValue cOld H false Q)
theorem tephralaw06_may.k4.eq (J : Jn) (cOp : Int) (cClient : Int) (cSeq : Int) (cKey : ByteArray) (cValue : ByteArray) (cOld : ByteArray) (H : Hp) (x3 : Bool) (Q : Value → Hp → Prop) : vMid Try.prog tephralaw06_may.cf J tephralaw06_may.fn [1, 1, 0, 1, 0, 0] [0, 1, 1, 1, 1] 8 Q (tephralaw06_may.k4.st cOp cClient cSeq cKey cValue cOld H x3) = tephralaw06_may.k4.body J cOp cClient cSeq cKey cValue cOld H x3 Q := by kernel_rfl
theorem tephralaw06_may.k4.step {cOp : Int} {cClient : Int} {cSeq : Int} {cKey : ByteArray} {cValue : ByteArray} {cOld : ByteArray} {H : Hp} {x3 : Bool} {Q : Value → Hp → Prop} (h : tephralaw06_may.k4.body J0 cOp cClient cSeq cKey cValue cOld H x3 Q) : tephralaw06_may.k4 J0 cOp cClient cSeq cKey cValue cOld H x3 Q := step_of (vMid Try.prog tephralaw06_may.cf J0 tephralaw06_may.fn [1, 1, 0, 1, 0, 0] [0, 1, 1, 1, 1] 8 Q) (tephralaw06_may.k4.st cOp cClient cSeq cKey cValue cOld H x3) (tephralaw06_may.k4.eq J0 cOp cClient cSeq cKey cValue cOld H x3 Q) (by kernel_rfl) h
def tephralaw06_may.k5.body (J : Jn) (cOp : Int) (cClient : Int) (cSeq : Int) (cKey : ByteArray) (cValue : ByteArray) (cOld : ByteArray) (H : Hp) (x4 : Bool) (Q : Value → Hp → Prop) : Prop :=
 
 Br x4 (
 tephralaw06_may.k6 J cOp cClient cSeq cKey cValue cOld H (cValue.toList == (ByteArray.mk #[]).toList) Q)
 (
 tephralaw06_may.k6 J cOp cClient cSeq cKey cValue cOld H false Q)
theorem tephralaw06_may.k5.eq (J : Jn) (cOp : Int) (cClient : Int) (cSeq : Int) (cKey : ByteArray) (cValue : ByteArray) (cOld : ByteArray) (H : Hp) (x4 : Bool) (Q : Value → Hp → Prop) : vMid Try.prog tephralaw06_may.cf J tephralaw06_may.fn [1, 1, 0, 1, 0, 0] [0, 1, 1, 1, 1] 13 Q (tephralaw06_may.k5.st cOp cClient cSeq cKey cValue cOld H x4) = tephralaw06_may.k5.body J cOp cClient cSeq cKey cValue cOld H x4 Q := by kernel_rfl
theorem tephralaw06_may.k5.step {cOp : Int} {cClient : Int} {cSeq : Int} {cKey : ByteArray} {cValue : ByteArray} {cOld : ByteArray} {H : Hp} {x4 : Bool} {Q : Value → Hp → Prop} (h : tephralaw06_may.k5.body J0 cOp cClient cSeq cKey cValue cOld H x4 Q) : tephralaw06_may.k5 J0 cOp cClient cSeq cKey cValue cOld H x4 Q := step_of (vMid Try.prog tephralaw06_may.cf J0 tephralaw06_may.fn [1, 1, 0, 1, 0, 0] [0, 1, 1, 1, 1] 13 Q) (tephralaw06_may.k5.st cOp cClient cSeq cKey cValue cOld H x4) (tephralaw06_may.k5.eq J0 cOp cClient cSeq cKey cValue cOld H x4 Q) (by kernel_rfl) h
def tephralaw06_may.k6.body (J : Jn) (cOp : Int) (cClient : Int) (cSeq : Int) (cKey : ByteArray) (cValue : ByteArray) (cOld : ByteArray) (H : Hp) (x5 : Bool) (Q : Value → Hp → Prop) : Prop :=
 
 Br x5 (Q (.bool (cOld.toList == (ByteArray.mk #[]).toList)) (holes H 1))
 (Q (.bool false) (holes H 1))
theorem tephralaw06_may.k6.eq (J : Jn) (cOp : Int) (cClient : Int) (cSeq : Int) (cKey : ByteArray) (cValue : ByteArray) (cOld : ByteArray) (H : Hp) (x5 : Bool) (Q : Value → Hp → Prop) : vMid Try.prog tephralaw06_may.cf J tephralaw06_may.fn [1, 1, 0, 1, 0, 0] [0, 1, 1, 1, 1] 18 Q (tephralaw06_may.k6.st cOp cClient cSeq cKey cValue cOld H x5) = tephralaw06_may.k6.body J cOp cClient cSeq cKey cValue cOld H x5 Q := by kernel_rfl
theorem tephralaw06_may.k6.step {cOp : Int} {cClient : Int} {cSeq : Int} {cKey : ByteArray} {cValue : ByteArray} {cOld : ByteArray} {H : Hp} {x5 : Bool} {Q : Value → Hp → Prop} (h : tephralaw06_may.k6.body J0 cOp cClient cSeq cKey cValue cOld H x5 Q) : tephralaw06_may.k6 J0 cOp cClient cSeq cKey cValue cOld H x5 Q := step_of (vMid Try.prog tephralaw06_may.cf J0 tephralaw06_may.fn [1, 1, 0, 1, 0, 0] [0, 1, 1, 1, 1] 18 Q) (tephralaw06_may.k6.st cOp cClient cSeq cKey cValue cOld H x5) (tephralaw06_may.k6.eq J0 cOp cClient cSeq cKey cValue cOld H x5 Q) (by kernel_rfl) h
def tephralaw06_may.k7.body (J : Jn) (cOp : Int) (cClient : Int) (cSeq : Int) (cKey : ByteArray) (cValue : ByteArray) (cOld : ByteArray) (H : Hp) (x6 : Bool) (Q : Value → Hp → Prop) : Prop :=
 
 Br x6 (
 tephralaw06_may.k8 J cOp cClient cSeq cKey cValue cOld H (decide (cSeq ≥ 0)) Q)
 (
 tephralaw06_may.k8 J cOp cClient cSeq cKey cValue cOld H false Q)
theorem tephralaw06_may.k7.eq (J : Jn) (cOp : Int) (cClient : Int) (cSeq : Int) (cKey : ByteArray) (cValue : ByteArray) (cOld : ByteArray) (H : Hp) (x6 : Bool) (Q : Value → Hp → Prop) : vMid Try.prog tephralaw06_may.cf J tephralaw06_may.fn [1, 1, 1, 0] [0, 1, 1, 1] 8 Q (tephralaw06_may.k7.st cOp cClient cSeq cKey cValue cOld H x6) = tephralaw06_may.k7.body J cOp cClient cSeq cKey cValue cOld H x6 Q := by kernel_rfl
theorem tephralaw06_may.k7.step {cOp : Int} {cClient : Int} {cSeq : Int} {cKey : ByteArray} {cValue : ByteArray} {cOld : ByteArray} {H : Hp} {x6 : Bool} {Q : Value → Hp → Prop} (h : tephralaw06_may.k7.body J0 cOp cClient cSeq cKey cValue cOld H x6 Q) : tephralaw06_may.k7 J0 cOp cClient cSeq cKey cValue cOld H x6 Q := step_of (vMid Try.prog tephralaw06_may.cf J0 tephralaw06_may.fn [1, 1, 1, 0] [0, 1, 1, 1] 8 Q) (tephralaw06_may.k7.st cOp cClient cSeq cKey cValue cOld H x6) (tephralaw06_may.k7.eq J0 cOp cClient cSeq cKey cValue cOld H x6 Q) (by kernel_rfl) h
def tephralaw06_may.k8.body (J : Jn) (cOp : Int) (cClient : Int) (cSeq : Int) (cKey : ByteArray) (cValue : ByteArray) (cOld : ByteArray) (H : Hp) (x7 : Bool) (Q : Value → Hp → Prop) : Prop :=
 
 Br x7 (
 tephralaw06_may.k9 J cOp cClient cSeq cKey cValue cOld H (decide (cSeq ≤ 1048576)) Q)
 (
 tephralaw06_may.k9 J cOp cClient cSeq cKey cValue cOld H false Q)
theorem tephralaw06_may.k8.eq (J : Jn) (cOp : Int) (cClient : Int) (cSeq : Int) (cKey : ByteArray) (cValue : ByteArray) (cOld : ByteArray) (H : Hp) (x7 : Bool) (Q : Value → Hp → Prop) : vMid Try.prog tephralaw06_may.cf J tephralaw06_may.fn [1, 1, 1, 0] [0, 1, 1, 1] 13 Q (tephralaw06_may.k8.st cOp cClient cSeq cKey cValue cOld H x7) = tephralaw06_may.k8.body J cOp cClient cSeq cKey cValue cOld H x7 Q := by kernel_rfl
theorem tephralaw06_may.k8.step {cOp : Int} {cClient : Int} {cSeq : Int} {cKey : ByteArray} {cValue : ByteArray} {cOld : ByteArray} {H : Hp} {x7 : Bool} {Q : Value → Hp → Prop} (h : tephralaw06_may.k8.body J0 cOp cClient cSeq cKey cValue cOld H x7 Q) : tephralaw06_may.k8 J0 cOp cClient cSeq cKey cValue cOld H x7 Q := step_of (vMid Try.prog tephralaw06_may.cf J0 tephralaw06_may.fn [1, 1, 1, 0] [0, 1, 1, 1] 13 Q) (tephralaw06_may.k8.st cOp cClient cSeq cKey cValue cOld H x7) (tephralaw06_may.k8.eq J0 cOp cClient cSeq cKey cValue cOld H x7 Q) (by kernel_rfl) h
def tephralaw06_may.k9.body (J : Jn) (cOp : Int) (cClient : Int) (cSeq : Int) (cKey : ByteArray) (cValue : ByteArray) (cOld : ByteArray) (H : Hp) (x8 : Bool) (Q : Value → Hp → Prop) : Prop :=
 
 Br x8 (
 tephralaw06_may.k10 J cOp cClient cSeq cKey cValue cOld H (decide (((cKey.size : Nat) : Int) > 0)) Q)
 (
 tephralaw06_may.k10 J cOp cClient cSeq cKey cValue cOld H false Q)
theorem tephralaw06_may.k9.eq (J : Jn) (cOp : Int) (cClient : Int) (cSeq : Int) (cKey : ByteArray) (cValue : ByteArray) (cOld : ByteArray) (H : Hp) (x8 : Bool) (Q : Value → Hp → Prop) : vMid Try.prog tephralaw06_may.cf J tephralaw06_may.fn [1, 1, 1, 0] [0, 1, 1, 1] 18 Q (tephralaw06_may.k9.st cOp cClient cSeq cKey cValue cOld H x8) = tephralaw06_may.k9.body J cOp cClient cSeq cKey cValue cOld H x8 Q := by kernel_rfl
theorem tephralaw06_may.k9.step {cOp : Int} {cClient : Int} {cSeq : Int} {cKey : ByteArray} {cValue : ByteArray} {cOld : ByteArray} {H : Hp} {x8 : Bool} {Q : Value → Hp → Prop} (h : tephralaw06_may.k9.body J0 cOp cClient cSeq cKey cValue cOld H x8 Q) : tephralaw06_may.k9 J0 cOp cClient cSeq cKey cValue cOld H x8 Q := step_of (vMid Try.prog tephralaw06_may.cf J0 tephralaw06_may.fn [1, 1, 1, 0] [0, 1, 1, 1] 18 Q) (tephralaw06_may.k9.st cOp cClient cSeq cKey cValue cOld H x8) (tephralaw06_may.k9.eq J0 cOp cClient cSeq cKey cValue cOld H x8 Q) (by kernel_rfl) h
def tephralaw06_may.k10.body (J : Jn) (cOp : Int) (cClient : Int) (cSeq : Int) (cKey : ByteArray) (cValue : ByteArray) (cOld : ByteArray) (H : Hp) (x9 : Bool) (Q : Value → Hp → Prop) : Prop :=
 
 Br x9 (Q (.bool (decide (((cKey.size : Nat) : Int) < 9))) (holes H 1))
 (Q (.bool false) (holes H 1))
theorem tephralaw06_may.k10.eq (J : Jn) (cOp : Int) (cClient : Int) (cSeq : Int) (cKey : ByteArray) (cValue : ByteArray) (cOld : ByteArray) (H : Hp) (x9 : Bool) (Q : Value → Hp → Prop) : vMid Try.prog tephralaw06_may.cf J tephralaw06_may.fn [1, 1, 1, 0] [0, 1, 1, 1] 24 Q (tephralaw06_may.k10.st cOp cClient cSeq cKey cValue cOld H x9) = tephralaw06_may.k10.body J cOp cClient cSeq cKey cValue cOld H x9 Q := by kernel_rfl
theorem tephralaw06_may.k10.step {cOp : Int} {cClient : Int} {cSeq : Int} {cKey : ByteArray} {cValue : ByteArray} {cOld : ByteArray} {H : Hp} {x9 : Bool} {Q : Value → Hp → Prop} (h : tephralaw06_may.k10.body J0 cOp cClient cSeq cKey cValue cOld H x9 Q) : tephralaw06_may.k10 J0 cOp cClient cSeq cKey cValue cOld H x9 Q := step_of (vMid Try.prog tephralaw06_may.cf J0 tephralaw06_may.fn [1, 1, 1, 0] [0, 1, 1, 1] 24 Q) (tephralaw06_may.k10.st cOp cClient cSeq cKey cValue cOld H x9) (tephralaw06_may.k10.eq J0 cOp cClient cSeq cKey cValue cOld H x9 Q) (by kernel_rfl) h
def tephralaw06_may.vc (J : Jn) (cOp : Int) (cClient : Int) (cSeq : Int) (cKey : ByteArray) (cValue : ByteArray) (cOld : ByteArray) (H : Hp) (Q : Value → Hp → Prop) : Prop :=
 
 Br (decide (cOp < 0)) (
 tephralaw06_may.k1 J cOp cClient cSeq cKey cValue cOld H true Q)
 (
 tephralaw06_may.k1 J cOp cClient cSeq cKey cValue cOld H (decide (cOp > 3)) Q)
theorem tephralaw06_may.eq (J : Jn) (cOp : Int) (cClient : Int) (cSeq : Int) (cKey : ByteArray) (cValue : ByteArray) (cOld : ByteArray) (H : Hp) (Q : Value → Hp → Prop) : vFn Try.prog tephralaw06_may.cf J tephralaw06_may.fn [.agg #[.int .i64 cOp, .int .i64 cClient, .int .i64 cSeq, .string cKey, .string cValue, .string cOld]] H Q = tephralaw06_may.vc J cOp cClient cSeq cKey cValue cOld H Q := by kernel_rfl
theorem tephralaw06_may.calls {cOp : Int} {cClient : Int} {cSeq : Int} {cKey : ByteArray} {cValue : ByteArray} {cOld : ByteArray} {H : Hp} {Q : Value → Hp → Prop} (h : tephralaw06_may.vc J0 cOp cClient cSeq cKey cValue cOld H Q) : SCalls Try.prog tephralaw06_may.id [.agg #[.int .i64 cOp, .int .i64 cClient, .int .i64 cSeq, .string cKey, .string cValue, .string cOld]] H Q := vFn_of Try.mixed Try.func13 (tephralaw06_may.eq J0 cOp cClient cSeq cKey cValue cOld H Q) h

/-! 14: tephra/cmds.Right -/
def cmds_Right.cf : Cfg := ⟨[1], [], [], [(10, [1, 10]), (15, [1, 15]), (20, [1, 20])]⟩
def cmds_Right.k1.st (eIndex : Int) (eTerm : Int) (eCmdOp : Int) (eCmdClient : Int) (eCmdSeq : Int) (eCmdKey : ByteArray) (eCmdValue : ByteArray) (eCmdOld : ByteArray) (H : Hp) (x : Bool) : VS := ⟨mkFr 26 [(1, .loc 0 0), (10, .v (.bool x))], [(T_api_Entry, [.int .i64 eIndex, .int .i64 eTerm, .int .i64 eCmdOp, .int .i64 eCmdClient, .int .i64 eCmdSeq, .string eCmdKey, .string eCmdValue, .string eCmdOld])], (holes H 1)⟩
def cmds_Right.k1 (J : Jn) (eIndex : Int) (eTerm : Int) (eCmdOp : Int) (eCmdClient : Int) (eCmdSeq : Int) (eCmdKey : ByteArray) (eCmdValue : ByteArray) (eCmdOld : ByteArray) (H : Hp) (x : Bool) (Q : Value → Hp → Prop) : Prop := J (vMid Try.prog cmds_Right.cf J cmds_Right.fn [1, 0] [0, 1] 8 Q) (cmds_Right.k1.st eIndex eTerm eCmdOp eCmdClient eCmdSeq eCmdKey eCmdValue eCmdOld H x)
def cmds_Right.k2.st (eIndex : Int) (eTerm : Int) (eCmdOp : Int) (eCmdClient : Int) (eCmdSeq : Int) (eCmdKey : ByteArray) (eCmdValue : ByteArray) (eCmdOld : ByteArray) (H : Hp) (x1 : Bool) : VS := ⟨mkFr 26 [(1, .loc 0 0), (15, .v (.bool x1))], [(T_api_Entry, [.int .i64 eIndex, .int .i64 eTerm, .int .i64 eCmdOp, .int .i64 eCmdClient, .int .i64 eCmdSeq, .string eCmdKey, .string eCmdValue, .string eCmdOld])], (holes H 1)⟩
def cmds_Right.k2 (J : Jn) (eIndex : Int) (eTerm : Int) (eCmdOp : Int) (eCmdClient : Int) (eCmdSeq : Int) (eCmdKey : ByteArray) (eCmdValue : ByteArray) (eCmdOld : ByteArray) (H : Hp) (x1 : Bool) (Q : Value → Hp → Prop) : Prop := J (vMid Try.prog cmds_Right.cf J cmds_Right.fn [1, 0] [0, 1] 13 Q) (cmds_Right.k2.st eIndex eTerm eCmdOp eCmdClient eCmdSeq eCmdKey eCmdValue eCmdOld H x1)
def cmds_Right.k3.st (eIndex : Int) (eTerm : Int) (eCmdOp : Int) (eCmdClient : Int) (eCmdSeq : Int) (eCmdKey : ByteArray) (eCmdValue : ByteArray) (eCmdOld : ByteArray) (H : Hp) (x2 : Bool) : VS := ⟨mkFr 26 [(1, .loc 0 0), (20, .v (.bool x2))], [(T_api_Entry, [.int .i64 eIndex, .int .i64 eTerm, .int .i64 eCmdOp, .int .i64 eCmdClient, .int .i64 eCmdSeq, .string eCmdKey, .string eCmdValue, .string eCmdOld])], (holes H 1)⟩
def cmds_Right.k3 (J : Jn) (eIndex : Int) (eTerm : Int) (eCmdOp : Int) (eCmdClient : Int) (eCmdSeq : Int) (eCmdKey : ByteArray) (eCmdValue : ByteArray) (eCmdOld : ByteArray) (H : Hp) (x2 : Bool) (Q : Value → Hp → Prop) : Prop := J (vMid Try.prog cmds_Right.cf J cmds_Right.fn [1, 0] [0, 1] 18 Q) (cmds_Right.k3.st eIndex eTerm eCmdOp eCmdClient eCmdSeq eCmdKey eCmdValue eCmdOld H x2)
attribute [irreducible] cmds_Right.k1 cmds_Right.k2 cmds_Right.k3
def cmds_Right.k1.body (J : Jn) (eIndex : Int) (eTerm : Int) (eCmdOp : Int) (eCmdClient : Int) (eCmdSeq : Int) (eCmdKey : ByteArray) (eCmdValue : ByteArray) (eCmdOld : ByteArray) (H : Hp) (x : Bool) (Q : Value → Hp → Prop) : Prop :=
 
 Br x (
 cmds_Right.k2 J eIndex eTerm eCmdOp eCmdClient eCmdSeq eCmdKey eCmdValue eCmdOld H (decide (eTerm ≥ 0)) Q)
 (
 cmds_Right.k2 J eIndex eTerm eCmdOp eCmdClient eCmdSeq eCmdKey eCmdValue eCmdOld H false Q)
theorem cmds_Right.k1.eq (J : Jn) (eIndex : Int) (eTerm : Int) (eCmdOp : Int) (eCmdClient : Int) (eCmdSeq : Int) (eCmdKey : ByteArray) (eCmdValue : ByteArray) (eCmdOld : ByteArray) (H : Hp) (x : Bool) (Q : Value → Hp → Prop) : vMid Try.prog cmds_Right.cf J cmds_Right.fn [1, 0] [0, 1] 8 Q (cmds_Right.k1.st eIndex eTerm eCmdOp eCmdClient eCmdSeq eCmdKey eCmdValue eCmdOld H x) = cmds_Right.k1.body J eIndex eTerm eCmdOp eCmdClient eCmdSeq eCmdKey eCmdValue eCmdOld H x Q := by kernel_rfl
theorem cmds_Right.k1.step {eIndex : Int} {eTerm : Int} {eCmdOp : Int} {eCmdClient : Int} {eCmdSeq : Int} {eCmdKey : ByteArray} {eCmdValue : ByteArray} {eCmdOld : ByteArray} {H : Hp} {x : Bool} {Q : Value → Hp → Prop} (h : cmds_Right.k1.body J0 eIndex eTerm eCmdOp eCmdClient eCmdSeq eCmdKey eCmdValue eCmdOld H x Q) : cmds_Right.k1 J0 eIndex eTerm eCmdOp eCmdClient eCmdSeq eCmdKey eCmdValue eCmdOld H x Q := step_of (vMid Try.prog cmds_Right.cf J0 cmds_Right.fn [1, 0] [0, 1] 8 Q) (cmds_Right.k1.st eIndex eTerm eCmdOp eCmdClient eCmdSeq eCmdKey eCmdValue eCmdOld H x) (cmds_Right.k1.eq J0 eIndex eTerm eCmdOp eCmdClient eCmdSeq eCmdKey eCmdValue eCmdOld H x Q) (by kernel_rfl) h
def cmds_Right.k2.body (J : Jn) (eIndex : Int) (eTerm : Int) (eCmdOp : Int) (eCmdClient : Int) (eCmdSeq : Int) (eCmdKey : ByteArray) (eCmdValue : ByteArray) (eCmdOld : ByteArray) (H : Hp) (x1 : Bool) (Q : Value → Hp → Prop) : Prop :=
 
 Br x1 (
 cmds_Right.k3 J eIndex eTerm eCmdOp eCmdClient eCmdSeq eCmdKey eCmdValue eCmdOld H (decide (eTerm ≤ 1048576)) Q)
 (
 cmds_Right.k3 J eIndex eTerm eCmdOp eCmdClient eCmdSeq eCmdKey eCmdValue eCmdOld H false Q)
theorem cmds_Right.k2.eq (J : Jn) (eIndex : Int) (eTerm : Int) (eCmdOp : Int) (eCmdClient : Int) (eCmdSeq : Int) (eCmdKey : ByteArray) (eCmdValue : ByteArray) (eCmdOld : ByteArray) (H : Hp) (x1 : Bool) (Q : Value → Hp → Prop) : vMid Try.prog cmds_Right.cf J cmds_Right.fn [1, 0] [0, 1] 13 Q (cmds_Right.k2.st eIndex eTerm eCmdOp eCmdClient eCmdSeq eCmdKey eCmdValue eCmdOld H x1) = cmds_Right.k2.body J eIndex eTerm eCmdOp eCmdClient eCmdSeq eCmdKey eCmdValue eCmdOld H x1 Q := by kernel_rfl
theorem cmds_Right.k2.step {eIndex : Int} {eTerm : Int} {eCmdOp : Int} {eCmdClient : Int} {eCmdSeq : Int} {eCmdKey : ByteArray} {eCmdValue : ByteArray} {eCmdOld : ByteArray} {H : Hp} {x1 : Bool} {Q : Value → Hp → Prop} (h : cmds_Right.k2.body J0 eIndex eTerm eCmdOp eCmdClient eCmdSeq eCmdKey eCmdValue eCmdOld H x1 Q) : cmds_Right.k2 J0 eIndex eTerm eCmdOp eCmdClient eCmdSeq eCmdKey eCmdValue eCmdOld H x1 Q := step_of (vMid Try.prog cmds_Right.cf J0 cmds_Right.fn [1, 0] [0, 1] 13 Q) (cmds_Right.k2.st eIndex eTerm eCmdOp eCmdClient eCmdSeq eCmdKey eCmdValue eCmdOld H x1) (cmds_Right.k2.eq J0 eIndex eTerm eCmdOp eCmdClient eCmdSeq eCmdKey eCmdValue eCmdOld H x1 Q) (by kernel_rfl) h
def cmds_Right.k3.body (J : Jn) (eIndex : Int) (eTerm : Int) (eCmdOp : Int) (eCmdClient : Int) (eCmdSeq : Int) (eCmdKey : ByteArray) (eCmdValue : ByteArray) (eCmdOld : ByteArray) (H : Hp) (x2 : Bool) (Q : Value → Hp → Prop) : Prop :=
 
 Br x2 (
 SCalls Try.prog cmds_May.id [.agg #[.int .i64 eCmdOp, .int .i64 eCmdClient, .int .i64 eCmdSeq, .string eCmdKey, .string eCmdValue, .string eCmdOld]] (holes H 1) (fun r H1 => ∃ x3 : Bool, r = .bool x3 ∧ Q (.bool x3) H1))
 (Q (.bool false) (holes H 1))
theorem cmds_Right.k3.eq (J : Jn) (eIndex : Int) (eTerm : Int) (eCmdOp : Int) (eCmdClient : Int) (eCmdSeq : Int) (eCmdKey : ByteArray) (eCmdValue : ByteArray) (eCmdOld : ByteArray) (H : Hp) (x2 : Bool) (Q : Value → Hp → Prop) : vMid Try.prog cmds_Right.cf J cmds_Right.fn [1, 0] [0, 1] 18 Q (cmds_Right.k3.st eIndex eTerm eCmdOp eCmdClient eCmdSeq eCmdKey eCmdValue eCmdOld H x2) = cmds_Right.k3.body J eIndex eTerm eCmdOp eCmdClient eCmdSeq eCmdKey eCmdValue eCmdOld H x2 Q := by kernel_rfl
theorem cmds_Right.k3.step {eIndex : Int} {eTerm : Int} {eCmdOp : Int} {eCmdClient : Int} {eCmdSeq : Int} {eCmdKey : ByteArray} {eCmdValue : ByteArray} {eCmdOld : ByteArray} {H : Hp} {x2 : Bool} {Q : Value → Hp → Prop} (h : cmds_Right.k3.body J0 eIndex eTerm eCmdOp eCmdClient eCmdSeq eCmdKey eCmdValue eCmdOld H x2 Q) : cmds_Right.k3 J0 eIndex eTerm eCmdOp eCmdClient eCmdSeq eCmdKey eCmdValue eCmdOld H x2 Q := step_of (vMid Try.prog cmds_Right.cf J0 cmds_Right.fn [1, 0] [0, 1] 18 Q) (cmds_Right.k3.st eIndex eTerm eCmdOp eCmdClient eCmdSeq eCmdKey eCmdValue eCmdOld H x2) (cmds_Right.k3.eq J0 eIndex eTerm eCmdOp eCmdClient eCmdSeq eCmdKey eCmdValue eCmdOld H x2 Q) (by kernel_rfl) h
def cmds_Right.vc (J : Jn) (eIndex : Int) (eTerm : Int) (eCmdOp : Int) (eCmdClient : Int) (eCmdSeq : Int) (eCmdKey : ByteArray) (eCmdValue : ByteArray) (eCmdOld : ByteArray) (H : Hp) (Q : Value → Hp → Prop) : Prop :=
 
 Br (decide (eIndex ≥ 1)) (
 cmds_Right.k1 J eIndex eTerm eCmdOp eCmdClient eCmdSeq eCmdKey eCmdValue eCmdOld H (decide (eIndex ≤ 1048576)) Q)
 (
 cmds_Right.k1 J eIndex eTerm eCmdOp eCmdClient eCmdSeq eCmdKey eCmdValue eCmdOld H false Q)
theorem cmds_Right.eq (J : Jn) (eIndex : Int) (eTerm : Int) (eCmdOp : Int) (eCmdClient : Int) (eCmdSeq : Int) (eCmdKey : ByteArray) (eCmdValue : ByteArray) (eCmdOld : ByteArray) (H : Hp) (Q : Value → Hp → Prop) : vFn Try.prog cmds_Right.cf J cmds_Right.fn [.agg #[.int .i64 eIndex, .int .i64 eTerm, .int .i64 eCmdOp, .int .i64 eCmdClient, .int .i64 eCmdSeq, .string eCmdKey, .string eCmdValue, .string eCmdOld]] H Q = cmds_Right.vc J eIndex eTerm eCmdOp eCmdClient eCmdSeq eCmdKey eCmdValue eCmdOld H Q := by kernel_rfl
theorem cmds_Right.calls {eIndex : Int} {eTerm : Int} {eCmdOp : Int} {eCmdClient : Int} {eCmdSeq : Int} {eCmdKey : ByteArray} {eCmdValue : ByteArray} {eCmdOld : ByteArray} {H : Hp} {Q : Value → Hp → Prop} (h : cmds_Right.vc J0 eIndex eTerm eCmdOp eCmdClient eCmdSeq eCmdKey eCmdValue eCmdOld H Q) : SCalls Try.prog cmds_Right.id [.agg #[.int .i64 eIndex, .int .i64 eTerm, .int .i64 eCmdOp, .int .i64 eCmdClient, .int .i64 eCmdSeq, .string eCmdKey, .string eCmdValue, .string eCmdOld]] H Q := vFn_of Try.mixed Try.func14 (cmds_Right.eq J0 eIndex eTerm eCmdOp eCmdClient eCmdSeq eCmdKey eCmdValue eCmdOld H Q) h

/-! 15: tephra/tephralaw06.right -/
def tephralaw06_right.cf : Cfg := ⟨[1], [], [], [(10, [1, 10]), (15, [1, 15]), (20, [1, 20])]⟩
def tephralaw06_right.k1.st (eIndex : Int) (eTerm : Int) (eCmdOp : Int) (eCmdClient : Int) (eCmdSeq : Int) (eCmdKey : ByteArray) (eCmdValue : ByteArray) (eCmdOld : ByteArray) (H : Hp) (x : Bool) : VS := ⟨mkFr 26 [(1, .loc 0 0), (10, .v (.bool x))], [(T_api_Entry, [.int .i64 eIndex, .int .i64 eTerm, .int .i64 eCmdOp, .int .i64 eCmdClient, .int .i64 eCmdSeq, .string eCmdKey, .string eCmdValue, .string eCmdOld])], (holes H 1)⟩
def tephralaw06_right.k1 (J : Jn) (eIndex : Int) (eTerm : Int) (eCmdOp : Int) (eCmdClient : Int) (eCmdSeq : Int) (eCmdKey : ByteArray) (eCmdValue : ByteArray) (eCmdOld : ByteArray) (H : Hp) (x : Bool) (Q : Value → Hp → Prop) : Prop := J (vMid Try.prog tephralaw06_right.cf J tephralaw06_right.fn [1, 0] [0, 1] 8 Q) (tephralaw06_right.k1.st eIndex eTerm eCmdOp eCmdClient eCmdSeq eCmdKey eCmdValue eCmdOld H x)
def tephralaw06_right.k2.st (eIndex : Int) (eTerm : Int) (eCmdOp : Int) (eCmdClient : Int) (eCmdSeq : Int) (eCmdKey : ByteArray) (eCmdValue : ByteArray) (eCmdOld : ByteArray) (H : Hp) (x1 : Bool) : VS := ⟨mkFr 26 [(1, .loc 0 0), (15, .v (.bool x1))], [(T_api_Entry, [.int .i64 eIndex, .int .i64 eTerm, .int .i64 eCmdOp, .int .i64 eCmdClient, .int .i64 eCmdSeq, .string eCmdKey, .string eCmdValue, .string eCmdOld])], (holes H 1)⟩
def tephralaw06_right.k2 (J : Jn) (eIndex : Int) (eTerm : Int) (eCmdOp : Int) (eCmdClient : Int) (eCmdSeq : Int) (eCmdKey : ByteArray) (eCmdValue : ByteArray) (eCmdOld : ByteArray) (H : Hp) (x1 : Bool) (Q : Value → Hp → Prop) : Prop := J (vMid Try.prog tephralaw06_right.cf J tephralaw06_right.fn [1, 0] [0, 1] 13 Q) (tephralaw06_right.k2.st eIndex eTerm eCmdOp eCmdClient eCmdSeq eCmdKey eCmdValue eCmdOld H x1)
def tephralaw06_right.k3.st (eIndex : Int) (eTerm : Int) (eCmdOp : Int) (eCmdClient : Int) (eCmdSeq : Int) (eCmdKey : ByteArray) (eCmdValue : ByteArray) (eCmdOld : ByteArray) (H : Hp) (x2 : Bool) : VS := ⟨mkFr 26 [(1, .loc 0 0), (20, .v (.bool x2))], [(T_api_Entry, [.int .i64 eIndex, .int .i64 eTerm, .int .i64 eCmdOp, .int .i64 eCmdClient, .int .i64 eCmdSeq, .string eCmdKey, .string eCmdValue, .string eCmdOld])], (holes H 1)⟩
def tephralaw06_right.k3 (J : Jn) (eIndex : Int) (eTerm : Int) (eCmdOp : Int) (eCmdClient : Int) (eCmdSeq : Int) (eCmdKey : ByteArray) (eCmdValue : ByteArray) (eCmdOld : ByteArray) (H : Hp) (x2 : Bool) (Q : Value → Hp → Prop) : Prop := J (vMid Try.prog tephralaw06_right.cf J tephralaw06_right.fn [1, 0] [0, 1] 18 Q) (tephralaw06_right.k3.st eIndex eTerm eCmdOp eCmdClient eCmdSeq eCmdKey eCmdValue eCmdOld H x2)
attribute [irreducible] tephralaw06_right.k1 tephralaw06_right.k2 tephralaw06_right.k3
def tephralaw06_right.k1.body (J : Jn) (eIndex : Int) (eTerm : Int) (eCmdOp : Int) (eCmdClient : Int) (eCmdSeq : Int) (eCmdKey : ByteArray) (eCmdValue : ByteArray) (eCmdOld : ByteArray) (H : Hp) (x : Bool) (Q : Value → Hp → Prop) : Prop :=
 
 Br x (
 tephralaw06_right.k2 J eIndex eTerm eCmdOp eCmdClient eCmdSeq eCmdKey eCmdValue eCmdOld H (decide (eTerm ≥ 0)) Q)
 (
 tephralaw06_right.k2 J eIndex eTerm eCmdOp eCmdClient eCmdSeq eCmdKey eCmdValue eCmdOld H false Q)
theorem tephralaw06_right.k1.eq (J : Jn) (eIndex : Int) (eTerm : Int) (eCmdOp : Int) (eCmdClient : Int) (eCmdSeq : Int) (eCmdKey : ByteArray) (eCmdValue : ByteArray) (eCmdOld : ByteArray) (H : Hp) (x : Bool) (Q : Value → Hp → Prop) : vMid Try.prog tephralaw06_right.cf J tephralaw06_right.fn [1, 0] [0, 1] 8 Q (tephralaw06_right.k1.st eIndex eTerm eCmdOp eCmdClient eCmdSeq eCmdKey eCmdValue eCmdOld H x) = tephralaw06_right.k1.body J eIndex eTerm eCmdOp eCmdClient eCmdSeq eCmdKey eCmdValue eCmdOld H x Q := by kernel_rfl
theorem tephralaw06_right.k1.step {eIndex : Int} {eTerm : Int} {eCmdOp : Int} {eCmdClient : Int} {eCmdSeq : Int} {eCmdKey : ByteArray} {eCmdValue : ByteArray} {eCmdOld : ByteArray} {H : Hp} {x : Bool} {Q : Value → Hp → Prop} (h : tephralaw06_right.k1.body J0 eIndex eTerm eCmdOp eCmdClient eCmdSeq eCmdKey eCmdValue eCmdOld H x Q) : tephralaw06_right.k1 J0 eIndex eTerm eCmdOp eCmdClient eCmdSeq eCmdKey eCmdValue eCmdOld H x Q := step_of (vMid Try.prog tephralaw06_right.cf J0 tephralaw06_right.fn [1, 0] [0, 1] 8 Q) (tephralaw06_right.k1.st eIndex eTerm eCmdOp eCmdClient eCmdSeq eCmdKey eCmdValue eCmdOld H x) (tephralaw06_right.k1.eq J0 eIndex eTerm eCmdOp eCmdClient eCmdSeq eCmdKey eCmdValue eCmdOld H x Q) (by kernel_rfl) h
def tephralaw06_right.k2.body (J : Jn) (eIndex : Int) (eTerm : Int) (eCmdOp : Int) (eCmdClient : Int) (eCmdSeq : Int) (eCmdKey : ByteArray) (eCmdValue : ByteArray) (eCmdOld : ByteArray) (H : Hp) (x1 : Bool) (Q : Value → Hp → Prop) : Prop :=
 
 Br x1 (
 tephralaw06_right.k3 J eIndex eTerm eCmdOp eCmdClient eCmdSeq eCmdKey eCmdValue eCmdOld H (decide (eTerm ≤ 1048576)) Q)
 (
 tephralaw06_right.k3 J eIndex eTerm eCmdOp eCmdClient eCmdSeq eCmdKey eCmdValue eCmdOld H false Q)
theorem tephralaw06_right.k2.eq (J : Jn) (eIndex : Int) (eTerm : Int) (eCmdOp : Int) (eCmdClient : Int) (eCmdSeq : Int) (eCmdKey : ByteArray) (eCmdValue : ByteArray) (eCmdOld : ByteArray) (H : Hp) (x1 : Bool) (Q : Value → Hp → Prop) : vMid Try.prog tephralaw06_right.cf J tephralaw06_right.fn [1, 0] [0, 1] 13 Q (tephralaw06_right.k2.st eIndex eTerm eCmdOp eCmdClient eCmdSeq eCmdKey eCmdValue eCmdOld H x1) = tephralaw06_right.k2.body J eIndex eTerm eCmdOp eCmdClient eCmdSeq eCmdKey eCmdValue eCmdOld H x1 Q := by kernel_rfl
theorem tephralaw06_right.k2.step {eIndex : Int} {eTerm : Int} {eCmdOp : Int} {eCmdClient : Int} {eCmdSeq : Int} {eCmdKey : ByteArray} {eCmdValue : ByteArray} {eCmdOld : ByteArray} {H : Hp} {x1 : Bool} {Q : Value → Hp → Prop} (h : tephralaw06_right.k2.body J0 eIndex eTerm eCmdOp eCmdClient eCmdSeq eCmdKey eCmdValue eCmdOld H x1 Q) : tephralaw06_right.k2 J0 eIndex eTerm eCmdOp eCmdClient eCmdSeq eCmdKey eCmdValue eCmdOld H x1 Q := step_of (vMid Try.prog tephralaw06_right.cf J0 tephralaw06_right.fn [1, 0] [0, 1] 13 Q) (tephralaw06_right.k2.st eIndex eTerm eCmdOp eCmdClient eCmdSeq eCmdKey eCmdValue eCmdOld H x1) (tephralaw06_right.k2.eq J0 eIndex eTerm eCmdOp eCmdClient eCmdSeq eCmdKey eCmdValue eCmdOld H x1 Q) (by kernel_rfl) h
def tephralaw06_right.k3.body (J : Jn) (eIndex : Int) (eTerm : Int) (eCmdOp : Int) (eCmdClient : Int) (eCmdSeq : Int) (eCmdKey : ByteArray) (eCmdValue : ByteArray) (eCmdOld : ByteArray) (H : Hp) (x2 : Bool) (Q : Value → Hp → Prop) : Prop :=
 
 Br x2 (
 SCalls Try.prog tephralaw06_may.id [.agg #[.int .i64 eCmdOp, .int .i64 eCmdClient, .int .i64 eCmdSeq, .string eCmdKey, .string eCmdValue, .string eCmdOld]] (holes H 1) (fun r H1 => ∃ x3 : Bool, r = .bool x3 ∧ Q (.bool x3) H1))
 (Q (.bool false) (holes H 1))
theorem tephralaw06_right.k3.eq (J : Jn) (eIndex : Int) (eTerm : Int) (eCmdOp : Int) (eCmdClient : Int) (eCmdSeq : Int) (eCmdKey : ByteArray) (eCmdValue : ByteArray) (eCmdOld : ByteArray) (H : Hp) (x2 : Bool) (Q : Value → Hp → Prop) : vMid Try.prog tephralaw06_right.cf J tephralaw06_right.fn [1, 0] [0, 1] 18 Q (tephralaw06_right.k3.st eIndex eTerm eCmdOp eCmdClient eCmdSeq eCmdKey eCmdValue eCmdOld H x2) = tephralaw06_right.k3.body J eIndex eTerm eCmdOp eCmdClient eCmdSeq eCmdKey eCmdValue eCmdOld H x2 Q := by kernel_rfl
theorem tephralaw06_right.k3.step {eIndex : Int} {eTerm : Int} {eCmdOp : Int} {eCmdClient : Int} {eCmdSeq : Int} {eCmdKey : ByteArray} {eCmdValue : ByteArray} {eCmdOld : ByteArray} {H : Hp} {x2 : Bool} {Q : Value → Hp → Prop} (h : tephralaw06_right.k3.body J0 eIndex eTerm eCmdOp eCmdClient eCmdSeq eCmdKey eCmdValue eCmdOld H x2 Q) : tephralaw06_right.k3 J0 eIndex eTerm eCmdOp eCmdClient eCmdSeq eCmdKey eCmdValue eCmdOld H x2 Q := step_of (vMid Try.prog tephralaw06_right.cf J0 tephralaw06_right.fn [1, 0] [0, 1] 18 Q) (tephralaw06_right.k3.st eIndex eTerm eCmdOp eCmdClient eCmdSeq eCmdKey eCmdValue eCmdOld H x2) (tephralaw06_right.k3.eq J0 eIndex eTerm eCmdOp eCmdClient eCmdSeq eCmdKey eCmdValue eCmdOld H x2 Q) (by kernel_rfl) h
def tephralaw06_right.vc (J : Jn) (eIndex : Int) (eTerm : Int) (eCmdOp : Int) (eCmdClient : Int) (eCmdSeq : Int) (eCmdKey : ByteArray) (eCmdValue : ByteArray) (eCmdOld : ByteArray) (H : Hp) (Q : Value → Hp → Prop) : Prop :=
 
 Br (decide (eIndex > 0)) (
 tephralaw06_right.k1 J eIndex eTerm eCmdOp eCmdClient eCmdSeq eCmdKey eCmdValue eCmdOld H (decide (eIndex ≤ 1048576)) Q)
 (
 tephralaw06_right.k1 J eIndex eTerm eCmdOp eCmdClient eCmdSeq eCmdKey eCmdValue eCmdOld H false Q)
theorem tephralaw06_right.eq (J : Jn) (eIndex : Int) (eTerm : Int) (eCmdOp : Int) (eCmdClient : Int) (eCmdSeq : Int) (eCmdKey : ByteArray) (eCmdValue : ByteArray) (eCmdOld : ByteArray) (H : Hp) (Q : Value → Hp → Prop) : vFn Try.prog tephralaw06_right.cf J tephralaw06_right.fn [.agg #[.int .i64 eIndex, .int .i64 eTerm, .int .i64 eCmdOp, .int .i64 eCmdClient, .int .i64 eCmdSeq, .string eCmdKey, .string eCmdValue, .string eCmdOld]] H Q = tephralaw06_right.vc J eIndex eTerm eCmdOp eCmdClient eCmdSeq eCmdKey eCmdValue eCmdOld H Q := by kernel_rfl
theorem tephralaw06_right.calls {eIndex : Int} {eTerm : Int} {eCmdOp : Int} {eCmdClient : Int} {eCmdSeq : Int} {eCmdKey : ByteArray} {eCmdValue : ByteArray} {eCmdOld : ByteArray} {H : Hp} {Q : Value → Hp → Prop} (h : tephralaw06_right.vc J0 eIndex eTerm eCmdOp eCmdClient eCmdSeq eCmdKey eCmdValue eCmdOld H Q) : SCalls Try.prog tephralaw06_right.id [.agg #[.int .i64 eIndex, .int .i64 eTerm, .int .i64 eCmdOp, .int .i64 eCmdClient, .int .i64 eCmdSeq, .string eCmdKey, .string eCmdValue, .string eCmdOld]] H Q := vFn_of Try.mixed Try.func15 (tephralaw06_right.eq J0 eIndex eTerm eCmdOp eCmdClient eCmdSeq eCmdKey eCmdValue eCmdOld H Q) h

/-! 16: tephra/tephralaw06.Entries -/
def tephralaw06_Entries.cf : Cfg := ⟨[9], [(3, [1, 2, 7, 14, 15, 16])], [(7, [1, 2, 7, 8, 9, 14, 15, 16], true)], []⟩
def tephralaw06_Entries.l1.st (says : Sl) (fromv : Int) (H1 : Hp) (term1 : Int) (out : Sl) (x : Int) : VS := ⟨mkFr 38 [(1, .v (.int .i64 fromv)), (2, .v (.int .i64 term1)), (7, .v (.slice out.a out.len out.cap)), (14, .v (.slice (cutA says.a says.cap 0 6) (((if (80 : Int) < ((says.len : Nat) : Int) then 80 else ((says.len : Nat) : Int)) : Int).toNat) says.cap)), (15, .v (.int .i64 (((((if (80 : Int) < ((says.len : Nat) : Int) then 80 else ((says.len : Nat) : Int)) : Int).toNat) : Nat) : Int))), (16, .v (.int .i64 x))], [], H1⟩
def tephralaw06_Entries.l1 (J : Jn) (says : Sl) (fromv : Int) (H1 : Hp) (term1 : Int) (out : Sl) (x : Int) (Q : Value → Hp → Prop) : Prop := vAt Try.prog tephralaw06_Entries.cf J tephralaw06_Entries.fn [1, 1, 0, 1, 0] [0, 0, 0, 0] Q (tephralaw06_Entries.l1.st says fromv H1 term1 out x)
def tephralaw06_Entries.k1.st (says : Sl) (fromv : Int) (H1 : Hp) (out : Sl) (x : Int) (Opv : Int) (Client : Int) (Seq : Int) (Key : Int) (Valuev : Int) (Old : Int) (term2 : Int) : VS := ⟨mkFr 38 [(1, .v (.int .i64 fromv)), (2, .v (.int .i64 term2)), (7, .v (.slice out.a out.len out.cap)), (8, .v (.int .i64 x)), (9, .loc 0 0), (14, .v (.slice (cutA says.a says.cap 0 6) (((if (80 : Int) < ((says.len : Nat) : Int) then 80 else ((says.len : Nat) : Int)) : Int).toNat) says.cap)), (15, .v (.int .i64 (((((if (80 : Int) < ((says.len : Nat) : Int) then 80 else ((says.len : Nat) : Int)) : Int).toNat) : Nat) : Int))), (16, .v (.int .i64 x))], [(T_tephralaw06_Say, [.int .u8 Opv, .int .u8 Client, .int .u8 Seq, .int .u8 Key, .int .u8 Valuev, .int .u8 Old])], (holes H1 1)⟩
def tephralaw06_Entries.k1 (J : Jn) (says : Sl) (fromv : Int) (H1 : Hp) (out : Sl) (x : Int) (Opv : Int) (Client : Int) (Seq : Int) (Key : Int) (Valuev : Int) (Old : Int) (term2 : Int) (Q : Value → Hp → Prop) : Prop := J (vSeg Try.prog tephralaw06_Entries.cf J tephralaw06_Entries.fn [1, 1, 0, 1, 0, 0, 1, 1, 0, 0, 1, 1] [0, 0, 0, 0, 0, 0, 0, 0, 0, 1] Q) (tephralaw06_Entries.k1.st says fromv H1 out x Opv Client Seq Key Valuev Old term2)
attribute [irreducible] tephralaw06_Entries.l1 tephralaw06_Entries.k1
def tephralaw06_Entries.l1.body (J : Jn) (says : Sl) (fromv : Int) (H1 : Hp) (term1 : Int) (out : Sl) (x : Int) (Q : Value → Hp → Prop) : Prop :=
 
 Br (decide (x < (((((if (80 : Int) < ((says.len : Nat) : Int) then 80 else ((says.len : Nat) : Int)) : Int).toNat) : Nat) : Int))) (((0 : Int) ≤ x ∧ x < (((((if (80 : Int) < ((says.len : Nat) : Int) then 80 else ((says.len : Nat) : Int)) : Int).toNat) : Nat) : Int)) ∧ vPtr (cutA says.a says.cap 0 6) (fun a => ∃ Opv : Int, ∃ Client : Int, ∃ Seq : Int, ∃ Key : Int, ∃ Valuev : Int, ∃ Old : Int, RowAt H1 (a.add ((x : Int).toNat * 6)) [.int .u8 Opv, .int .u8 Client, .int .u8 Seq, .int .u8 Key, .int .u8 Valuev, .int .u8 Old] ∧ 
 Br (decide (Opv > 230)) (
 tephralaw06_Entries.k1 J says fromv H1 out x Opv Client Seq Key Valuev Old (w64 (term1 + 1)) Q)
 (
 tephralaw06_Entries.k1 J says fromv H1 out x Opv Client Seq Key Valuev Old term1 Q)))
 (Q (.slice out.a out.len out.cap) H1)
theorem tephralaw06_Entries.l1.eq (J : Jn) (says : Sl) (fromv : Int) (H1 : Hp) (term1 : Int) (out : Sl) (x : Int) (Q : Value → Hp → Prop) : vAtBody Try.prog tephralaw06_Entries.cf J tephralaw06_Entries.fn [1, 1, 0, 1, 0] [0, 0, 0, 0] Q (tephralaw06_Entries.l1.st says fromv H1 term1 out x) = tephralaw06_Entries.l1.body J says fromv H1 term1 out x Q := by kernel_rfl
theorem tephralaw06_Entries.l1.step {says : Sl} {fromv : Int} {H1 : Hp} {term1 : Int} {out : Sl} {x : Int} {Q : Value → Hp → Prop} (h : tephralaw06_Entries.l1.body J0 says fromv H1 term1 out x Q) : tephralaw06_Entries.l1 J0 says fromv H1 term1 out x Q := vAt_stepC (tephralaw06_Entries.l1.st says fromv H1 term1 out x) (tephralaw06_Entries.l1.eq J0 says fromv H1 term1 out x Q) (by kernel_rfl) h
def tephralaw06_Entries.k1.body (J : Jn) (says : Sl) (fromv : Int) (H1 : Hp) (out : Sl) (x : Int) (Opv : Int) (Client : Int) (Seq : Int) (Key : Int) (Valuev : Int) (Old : Int) (term2 : Int) (Q : Value → Hp → Prop) : Prop :=
 
 SCalls Try.prog tephralaw06_Say_Cmd.id [.agg #[.int .u8 Opv, .int .u8 Client, .int .u8 Seq, .int .u8 Key, .int .u8 Valuev, .int .u8 Old]] (holes H1 1) (fun r H2 => ∃ Opv1 : Int, ∃ Client1 : Int, ∃ Seq1 : Int, ∃ Key1 : ByteArray, ∃ Valuev1 : ByteArray, ∃ Old1 : ByteArray, r = .agg #[.int .i64 Opv1, .int .i64 Client1, .int .i64 Seq1, .string Key1, .string Valuev1, .string Old1] ∧ 
 vApp Try.prog T_sl_api_Entry out.a out.len out.cap (.slice (some (Addr.mk (Array.size H2) 0 none)) 1 1) (Array.push H2 (.cells #[.int .i64 (w64 (fromv + x)), .int .i64 term2, .int .i64 Opv1, .int .i64 Client1, .int .i64 Seq1, .string Key1, .string Valuev1, .string Old1] T_api_Entry)) (fun ap H3 => 
 tephralaw06_Entries.l1 J says fromv H3 term2 ap (w64 (x + 1)) Q))
theorem tephralaw06_Entries.k1.eq (J : Jn) (says : Sl) (fromv : Int) (H1 : Hp) (out : Sl) (x : Int) (Opv : Int) (Client : Int) (Seq : Int) (Key : Int) (Valuev : Int) (Old : Int) (term2 : Int) (Q : Value → Hp → Prop) : vSeg Try.prog tephralaw06_Entries.cf J tephralaw06_Entries.fn [1, 1, 0, 1, 0, 0, 1, 1, 0, 0, 1, 1] [0, 0, 0, 0, 0, 0, 0, 0, 0, 1] Q (tephralaw06_Entries.k1.st says fromv H1 out x Opv Client Seq Key Valuev Old term2) = tephralaw06_Entries.k1.body J says fromv H1 out x Opv Client Seq Key Valuev Old term2 Q := by kernel_rfl
theorem tephralaw06_Entries.k1.step {says : Sl} {fromv : Int} {H1 : Hp} {out : Sl} {x : Int} {Opv : Int} {Client : Int} {Seq : Int} {Key : Int} {Valuev : Int} {Old : Int} {term2 : Int} {Q : Value → Hp → Prop} (h : tephralaw06_Entries.k1.body J0 says fromv H1 out x Opv Client Seq Key Valuev Old term2 Q) : tephralaw06_Entries.k1 J0 says fromv H1 out x Opv Client Seq Key Valuev Old term2 Q := step_of (vSeg Try.prog tephralaw06_Entries.cf J0 tephralaw06_Entries.fn [1, 1, 0, 1, 0, 0, 1, 1, 0, 0, 1, 1] [0, 0, 0, 0, 0, 0, 0, 0, 0, 1] Q) (tephralaw06_Entries.k1.st says fromv H1 out x Opv Client Seq Key Valuev Old term2) (tephralaw06_Entries.k1.eq J0 says fromv H1 out x Opv Client Seq Key Valuev Old term2 Q) (by kernel_rfl) h
def tephralaw06_Entries.vc (J : Jn) (says : Sl) (fromv : Int) (term : Int) (H : Hp) (Q : Value → Hp → Prop) : Prop :=
 ((0 : Int) ≤ (if (80 : Int) < ((says.len : Nat) : Int) then 80 else ((says.len : Nat) : Int)) ∧ (if (80 : Int) < ((says.len : Nat) : Int) then 80 else ((says.len : Nat) : Int)) ≤ ((says.cap : Nat) : Int)) ∧ 
 tephralaw06_Entries.l1 J says fromv H term (Sl.mk none 0 0) 0 Q
theorem tephralaw06_Entries.eq (J : Jn) (says : Sl) (fromv : Int) (term : Int) (H : Hp) (Q : Value → Hp → Prop) : vFn Try.prog tephralaw06_Entries.cf J tephralaw06_Entries.fn [.slice says.a says.len says.cap, .int .i64 fromv, .int .i64 term] H Q = tephralaw06_Entries.vc J says fromv term H Q := by kernel_rfl
theorem tephralaw06_Entries.calls {says : Sl} {fromv : Int} {term : Int} {H : Hp} {Q : Value → Hp → Prop} (h : tephralaw06_Entries.vc J0 says fromv term H Q) : SCalls Try.prog tephralaw06_Entries.id [.slice says.a says.len says.cap, .int .i64 fromv, .int .i64 term] H Q := vFn_of Try.mixed Try.func16 (tephralaw06_Entries.eq J0 says fromv term H Q) h

/-! 17: tephra/cmds.Row -/
def cmds_Row.cf : Cfg := ⟨[6], [(2, [0, 1, 7, 8, 9])], [], []⟩
def cmds_Row.l1.st (es : Sl) (fromv : Int) (H1 : Hp) (x : Int) : VS := ⟨mkFr 41 [(0, .v (.slice es.a es.len es.cap)), (1, .v (.int .i64 fromv)), (7, .v (.slice es.a es.len es.cap)), (8, .v (.int .i64 ((es.len : Nat) : Int))), (9, .v (.int .i64 x))], [], H1⟩
def cmds_Row.l1 (J : Jn) (es : Sl) (fromv : Int) (H1 : Hp) (x : Int) (Q : Value → Hp → Prop) : Prop := vAt Try.prog cmds_Row.cf J cmds_Row.fn [1, 0, 1, 0] [0, 0, 0] Q (cmds_Row.l1.st es fromv H1 x)
attribute [irreducible] cmds_Row.l1
def cmds_Row.l1.body (J : Jn) (es : Sl) (fromv : Int) (H1 : Hp) (x : Int) (Q : Value → Hp → Prop) : Prop :=
 
 Br (decide (x < ((es.len : Nat) : Int))) (((0 : Int) ≤ x ∧ x < ((es.len : Nat) : Int)) ∧ vPtr es.a (fun a => ∃ Index : Int, ∃ Term : Int, ∃ CmdOp : Int, ∃ CmdClient : Int, ∃ CmdSeq : Int, ∃ CmdKey : ByteArray, ∃ CmdValue : ByteArray, ∃ CmdOld : ByteArray, RowAt H1 (a.add ((x : Int).toNat * 8)) [.int .i64 Index, .int .i64 Term, .int .i64 CmdOp, .int .i64 CmdClient, .int .i64 CmdSeq, .string CmdKey, .string CmdValue, .string CmdOld] ∧ 
 SCalls Try.prog cmds_Right.id [.agg #[.int .i64 Index, .int .i64 Term, .int .i64 CmdOp, .int .i64 CmdClient, .int .i64 CmdSeq, .string CmdKey, .string CmdValue, .string CmdOld]] (holes H1 1) (fun r H2 => ∃ x1 : Bool, r = .bool x1 ∧ 
 Br (!x1) (Q (.bool false) H2)
 (
 Br (Index != (w64 (fromv + x))) (Q (.bool false) H2)
 (
 Br (decide (x > 0)) (((0 : Int) ≤ (w64 (x - 1)) ∧ (w64 (x - 1)) < ((es.len : Nat) : Int)) ∧ vPtr es.a (fun a1 => ∃ Term1 : Int, Hp.cell? H2 ((a1.add (((w64 (x - 1)) : Int).toNat * 8)).add 1) = some (.int .i64 Term1) ∧ 
 Br (decide (Term < Term1)) (Q (.bool false) H2)
 (
 cmds_Row.l1 J es fromv H2 (w64 (x + 1)) Q)))
 (
 cmds_Row.l1 J es fromv H2 (w64 (x + 1)) Q))))))
 (Q (.bool true) H1)
theorem cmds_Row.l1.eq (J : Jn) (es : Sl) (fromv : Int) (H1 : Hp) (x : Int) (Q : Value → Hp → Prop) : vAtBody Try.prog cmds_Row.cf J cmds_Row.fn [1, 0, 1, 0] [0, 0, 0] Q (cmds_Row.l1.st es fromv H1 x) = cmds_Row.l1.body J es fromv H1 x Q := by kernel_rfl
theorem cmds_Row.l1.step {es : Sl} {fromv : Int} {H1 : Hp} {x : Int} {Q : Value → Hp → Prop} (h : cmds_Row.l1.body J0 es fromv H1 x Q) : cmds_Row.l1 J0 es fromv H1 x Q := vAt_stepC (cmds_Row.l1.st es fromv H1 x) (cmds_Row.l1.eq J0 es fromv H1 x Q) (by kernel_rfl) h
def cmds_Row.vc (J : Jn) (es : Sl) (fromv : Int) (H : Hp) (Q : Value → Hp → Prop) : Prop :=
 
 cmds_Row.l1 J es fromv H 0 Q
theorem cmds_Row.eq (J : Jn) (es : Sl) (fromv : Int) (H : Hp) (Q : Value → Hp → Prop) : vFn Try.prog cmds_Row.cf J cmds_Row.fn [.slice es.a es.len es.cap, .int .i64 fromv] H Q = cmds_Row.vc J es fromv H Q := by kernel_rfl
theorem cmds_Row.calls {es : Sl} {fromv : Int} {H : Hp} {Q : Value → Hp → Prop} (h : cmds_Row.vc J0 es fromv H Q) : SCalls Try.prog cmds_Row.id [.slice es.a es.len es.cap, .int .i64 fromv] H Q := vFn_of Try.mixed Try.func17 (cmds_Row.eq J0 es fromv H Q) h

/-! 18: tephra/cmds.Bytes -/
def cmds_Bytes.cf : Cfg := ⟨[1], [], [], []⟩
def cmds_Bytes.vc (J : Jn) (eIndex : Int) (eTerm : Int) (eCmdOp : Int) (eCmdClient : Int) (eCmdSeq : Int) (eCmdKey : ByteArray) (eCmdValue : ByteArray) (eCmdOld : ByteArray) (H : Hp) (Q : Value → Hp → Prop) : Prop :=
 
 SCalls Try.prog pack_Writer_Num.id [.pointer (some (Addr.mk (Array.size (holes H 1)) 0 none)), .int .i64 eIndex] (Array.push (holes H 1) (.cells #[.slice none 0 0] T_pack_Writer)) (fun r H1 => ∃ x : Option Addr, r = .pointer x ∧ 
 SCalls Try.prog pack_Writer_Num.id [.pointer x, .int .i64 eTerm] H1 (fun r1 H2 => ∃ x1 : Option Addr, r1 = .pointer x1 ∧ 
 SCalls Try.prog cmds_put.id [.pointer (some (Addr.mk (Array.size (holes H 1)) 0 none)), .agg #[.int .i64 eCmdOp, .int .i64 eCmdClient, .int .i64 eCmdSeq, .string eCmdKey, .string eCmdValue, .string eCmdOld]] H2 (fun r2 H3 => r2 = .tuple #[] ∧ 
 SCalls Try.prog pack_Writer_Bytes.id [.pointer (some (Addr.mk (Array.size (holes H 1)) 0 none))] H3 (fun r3 H4 => ∃ x2 : Sl, r3 = .slice x2.a x2.len x2.cap ∧ Q (.slice x2.a x2.len x2.cap) H4))))
theorem cmds_Bytes.eq (J : Jn) (eIndex : Int) (eTerm : Int) (eCmdOp : Int) (eCmdClient : Int) (eCmdSeq : Int) (eCmdKey : ByteArray) (eCmdValue : ByteArray) (eCmdOld : ByteArray) (H : Hp) (Q : Value → Hp → Prop) : vFn Try.prog cmds_Bytes.cf J cmds_Bytes.fn [.agg #[.int .i64 eIndex, .int .i64 eTerm, .int .i64 eCmdOp, .int .i64 eCmdClient, .int .i64 eCmdSeq, .string eCmdKey, .string eCmdValue, .string eCmdOld]] H Q = cmds_Bytes.vc J eIndex eTerm eCmdOp eCmdClient eCmdSeq eCmdKey eCmdValue eCmdOld H Q := by kernel_rfl
theorem cmds_Bytes.calls {eIndex : Int} {eTerm : Int} {eCmdOp : Int} {eCmdClient : Int} {eCmdSeq : Int} {eCmdKey : ByteArray} {eCmdValue : ByteArray} {eCmdOld : ByteArray} {H : Hp} {Q : Value → Hp → Prop} (h : cmds_Bytes.vc J0 eIndex eTerm eCmdOp eCmdClient eCmdSeq eCmdKey eCmdValue eCmdOld H Q) : SCalls Try.prog cmds_Bytes.id [.agg #[.int .i64 eIndex, .int .i64 eTerm, .int .i64 eCmdOp, .int .i64 eCmdClient, .int .i64 eCmdSeq, .string eCmdKey, .string eCmdValue, .string eCmdOld]] H Q := vFn_of Try.mixed Try.func18 (cmds_Bytes.eq J0 eIndex eTerm eCmdOp eCmdClient eCmdSeq eCmdKey eCmdValue eCmdOld H Q) h

/-! 19: tephra/cmds.Read -/
def cmds_Read.cf : Cfg := ⟨[2, 5], [], [], []⟩
def cmds_Read.vc (J : Jn) (b : Sl) (H : Hp) (Q : Value → Hp → Prop) : Prop :=
 
 SCalls Try.prog pack_Of.id [.slice b.a b.len b.cap] (holes H 1) (fun r H1 => ∃ x : Option Addr, r = .pointer x ∧ 
 SCalls Try.prog pack_Reader_Num.id [.pointer x] H1 (fun r1 H2 => ∃ x1 : Int, r1 = .int .i64 x1 ∧ 
 SCalls Try.prog pack_Reader_Num.id [.pointer x] (holes H2 1) (fun r2 H3 => ∃ x2 : Int, r2 = .int .i64 x2 ∧ 
 SCalls Try.prog cmds_get.id [.pointer x] H3 (fun r3 H4 => ∃ Opv : Int, ∃ Client : Int, ∃ Seq : Int, ∃ Key : ByteArray, ∃ Valuev : ByteArray, ∃ Old : ByteArray, r3 = .agg #[.int .i64 Opv, .int .i64 Client, .int .i64 Seq, .string Key, .string Valuev, .string Old] ∧ 
 SCalls Try.prog pack_Reader_Done.id [.pointer x] H4 (fun r4 H5 => ∃ x3 : Bool, r4 = .bool x3 ∧ 
 Br (!x3) (Q (.tuple #[.agg #[.int .i64 0, .int .i64 0, .int .i64 0, .int .i64 0, .int .i64 0, .string (ByteArray.mk #[]), .string (ByteArray.mk #[]), .string (ByteArray.mk #[])], .bool false]) H5)
 (
 SCalls Try.prog cmds_Right.id [.agg #[.int .i64 x1, .int .i64 x2, .int .i64 Opv, .int .i64 Client, .int .i64 Seq, .string Key, .string Valuev, .string Old]] H5 (fun r5 H6 => ∃ x4 : Bool, r5 = .bool x4 ∧ 
 Br (!x4) (Q (.tuple #[.agg #[.int .i64 0, .int .i64 0, .int .i64 0, .int .i64 0, .int .i64 0, .string (ByteArray.mk #[]), .string (ByteArray.mk #[]), .string (ByteArray.mk #[])], .bool false]) H6)
 (Q (.tuple #[.agg #[.int .i64 x1, .int .i64 x2, .int .i64 Opv, .int .i64 Client, .int .i64 Seq, .string Key, .string Valuev, .string Old], .bool true]) H6))))))))
theorem cmds_Read.eq (J : Jn) (b : Sl) (H : Hp) (Q : Value → Hp → Prop) : vFn Try.prog cmds_Read.cf J cmds_Read.fn [.slice b.a b.len b.cap] H Q = cmds_Read.vc J b H Q := by kernel_rfl
theorem cmds_Read.calls {b : Sl} {H : Hp} {Q : Value → Hp → Prop} (h : cmds_Read.vc J0 b H Q) : SCalls Try.prog cmds_Read.id [.slice b.a b.len b.cap] H Q := vFn_of Try.mixed Try.func19 (cmds_Read.eq J0 b H Q) h

/-! 20: tephra/tephralaw06.bytes -/
def tephralaw06_bytes.cf : Cfg := ⟨[1, 4], [], [], []⟩
def tephralaw06_bytes.vc (J : Jn) (eIndex : Int) (eTerm : Int) (eCmdOp : Int) (eCmdClient : Int) (eCmdSeq : Int) (eCmdKey : ByteArray) (eCmdValue : ByteArray) (eCmdOld : ByteArray) (H : Hp) (Q : Value → Hp → Prop) : Prop :=
 
 SCalls Try.prog pack_Writer_Num.id [.pointer (some (Addr.mk (Array.size (holes H 1)) 0 none)), .int .i64 eIndex] (holes (Array.push (holes H 1) (.cells #[.slice none 0 0] T_pack_Writer)) 1) (fun r H1 => ∃ x : Option Addr, r = .pointer x ∧ 
 SCalls Try.prog pack_Writer_Num.id [.pointer x, .int .i64 eTerm] H1 (fun r1 H2 => ∃ x1 : Option Addr, r1 = .pointer x1 ∧ 
 SCalls Try.prog pack_Writer_Byte.id [.pointer x1, .int .u8 (IntKind.u8.wrap (eCmdOp))] H2 (fun r2 H3 => ∃ x2 : Option Addr, r2 = .pointer x2 ∧ 
 SCalls Try.prog pack_Writer_Num.id [.pointer x2, .int .i64 eCmdClient] H3 (fun r3 H4 => ∃ x3 : Option Addr, r3 = .pointer x3 ∧ 
 SCalls Try.prog pack_Writer_Num.id [.pointer x3, .int .i64 eCmdSeq] H4 (fun r4 H5 => ∃ x4 : Option Addr, r4 = .pointer x4 ∧ 
 SCalls Try.prog pack_Writer_Text.id [.pointer x4, .string eCmdKey] H5 (fun r5 H6 => ∃ x5 : Option Addr, r5 = .pointer x5 ∧ 
 SCalls Try.prog pack_Writer_Text.id [.pointer x5, .string eCmdValue] H6 (fun r6 H7 => ∃ x6 : Option Addr, r6 = .pointer x6 ∧ 
 SCalls Try.prog pack_Writer_Text.id [.pointer x6, .string eCmdOld] H7 (fun r7 H8 => ∃ x7 : Option Addr, r7 = .pointer x7 ∧ 
 SCalls Try.prog pack_Writer_Bytes.id [.pointer x7] H8 (fun r8 H9 => ∃ x8 : Sl, r8 = .slice x8.a x8.len x8.cap ∧ vB2S H9 x8.a x8.len (fun s => Q (.string s) H9))))))))))
theorem tephralaw06_bytes.eq (J : Jn) (eIndex : Int) (eTerm : Int) (eCmdOp : Int) (eCmdClient : Int) (eCmdSeq : Int) (eCmdKey : ByteArray) (eCmdValue : ByteArray) (eCmdOld : ByteArray) (H : Hp) (Q : Value → Hp → Prop) : vFn Try.prog tephralaw06_bytes.cf J tephralaw06_bytes.fn [.agg #[.int .i64 eIndex, .int .i64 eTerm, .int .i64 eCmdOp, .int .i64 eCmdClient, .int .i64 eCmdSeq, .string eCmdKey, .string eCmdValue, .string eCmdOld]] H Q = tephralaw06_bytes.vc J eIndex eTerm eCmdOp eCmdClient eCmdSeq eCmdKey eCmdValue eCmdOld H Q := by kernel_rfl
theorem tephralaw06_bytes.calls {eIndex : Int} {eTerm : Int} {eCmdOp : Int} {eCmdClient : Int} {eCmdSeq : Int} {eCmdKey : ByteArray} {eCmdValue : ByteArray} {eCmdOld : ByteArray} {H : Hp} {Q : Value → Hp → Prop} (h : tephralaw06_bytes.vc J0 eIndex eTerm eCmdOp eCmdClient eCmdSeq eCmdKey eCmdValue eCmdOld H Q) : SCalls Try.prog tephralaw06_bytes.id [.agg #[.int .i64 eIndex, .int .i64 eTerm, .int .i64 eCmdOp, .int .i64 eCmdClient, .int .i64 eCmdSeq, .string eCmdKey, .string eCmdValue, .string eCmdOld]] H Q := vFn_of Try.mixed Try.func20 (tephralaw06_bytes.eq J0 eIndex eTerm eCmdOp eCmdClient eCmdSeq eCmdKey eCmdValue eCmdOld H Q) h

/-! 21: (*tephra/pack.Writer).Num -/
def pack_Writer_Num.cf : Cfg := ⟨[], [(2, [0, 1, 5])], [], []⟩
def pack_Writer_Num.l1.st (w : Addr) (n : Int) (H1 : Hp) (k : Int) : VS := ⟨mkFr 25 [(0, .v (.pointer (some w))), (1, .v (.int .i64 n)), (5, .v (.int .i64 k))], [], H1⟩
def pack_Writer_Num.l1 (J : Jn) (w : Addr) (n : Int) (H1 : Hp) (k : Int) (Q : Value → Hp → Prop) : Prop := vAt Try.prog pack_Writer_Num.cf J pack_Writer_Num.fn [1, 0, 1, 0] [0, 0, 0] Q (pack_Writer_Num.l1.st w n H1 k)
attribute [irreducible] pack_Writer_Num.l1
def pack_Writer_Num.l1.body (J : Jn) (w : Addr) (n : Int) (H1 : Hp) (k : Int) (Q : Value → Hp → Prop) : Prop :=
 
 Br (decide (k ≥ 0)) (∃ b : Sl, Hp.cell? H1 w = some (.slice b.a b.len b.cap) ∧ (0 : Int) ≤ (w64 ((8 : Int) * k)) ∧ 
 vApp Try.prog T_sl_uint8 b.a b.len b.cap (.slice (some (Addr.mk (Array.size H1) 0 none)) 1 1) (Array.push H1 (.cells #[.int .u8 (IntKind.u8.wrap ((Int.fdiv n (2 ^ (min ((w64 ((8 : Int) * k)) : Int).toNat 64)))))] T_uint8)) (fun ap H2 => WrAt H2 w 1 ∧ 
 pack_Writer_Num.l1 J w n (Hp.setCell H2 w (.slice ap.a ap.len ap.cap)) (w64 (k - 1)) Q))
 (Q (.pointer (some w)) H1)
theorem pack_Writer_Num.l1.eq (J : Jn) (w : Addr) (n : Int) (H1 : Hp) (k : Int) (Q : Value → Hp → Prop) : vAtBody Try.prog pack_Writer_Num.cf J pack_Writer_Num.fn [1, 0, 1, 0] [0, 0, 0] Q (pack_Writer_Num.l1.st w n H1 k) = pack_Writer_Num.l1.body J w n H1 k Q := by kernel_rfl
theorem pack_Writer_Num.l1.step {w : Addr} {n : Int} {H1 : Hp} {k : Int} {Q : Value → Hp → Prop} (h : pack_Writer_Num.l1.body J0 w n H1 k Q) : pack_Writer_Num.l1 J0 w n H1 k Q := vAt_stepC (pack_Writer_Num.l1.st w n H1 k) (pack_Writer_Num.l1.eq J0 w n H1 k Q) (by kernel_rfl) h
def pack_Writer_Num.vc (J : Jn) (w : Addr) (n : Int) (H : Hp) (Q : Value → Hp → Prop) : Prop :=
 
 pack_Writer_Num.l1 J w n H 7 Q
theorem pack_Writer_Num.eq (J : Jn) (w : Addr) (n : Int) (H : Hp) (Q : Value → Hp → Prop) : vFn Try.prog pack_Writer_Num.cf J pack_Writer_Num.fn [.pointer (some w), .int .i64 n] H Q = pack_Writer_Num.vc J w n H Q := by kernel_rfl
theorem pack_Writer_Num.calls {w : Addr} {n : Int} {H : Hp} {Q : Value → Hp → Prop} (h : pack_Writer_Num.vc J0 w n H Q) : SCalls Try.prog pack_Writer_Num.id [.pointer (some w), .int .i64 n] H Q := vFn_of Try.mixed Try.func21 (pack_Writer_Num.eq J0 w n H Q) h

/-! 22: tephra/cmds.put -/
def cmds_put.cf : Cfg := ⟨[3], [], [], []⟩
def cmds_put.vc (J : Jn) (w : Addr) (cOp : Int) (cClient : Int) (cSeq : Int) (cKey : ByteArray) (cValue : ByteArray) (cOld : ByteArray) (H : Hp) (Q : Value → Hp → Prop) : Prop :=
 
 SCalls Try.prog pack_Writer_Byte.id [.pointer (some w), .int .u8 (IntKind.u8.wrap (cOp))] (holes H 1) (fun r H1 => ∃ x : Option Addr, r = .pointer x ∧ 
 SCalls Try.prog pack_Writer_Num.id [.pointer x, .int .i64 cClient] H1 (fun r1 H2 => ∃ x1 : Option Addr, r1 = .pointer x1 ∧ 
 SCalls Try.prog pack_Writer_Num.id [.pointer x1, .int .i64 cSeq] H2 (fun r2 H3 => ∃ x2 : Option Addr, r2 = .pointer x2 ∧ 
 SCalls Try.prog pack_Writer_Text.id [.pointer x2, .string cKey] H3 (fun r3 H4 => ∃ x3 : Option Addr, r3 = .pointer x3 ∧ 
 SCalls Try.prog pack_Writer_Text.id [.pointer x3, .string cValue] H4 (fun r4 H5 => ∃ x4 : Option Addr, r4 = .pointer x4 ∧ 
 SCalls Try.prog pack_Writer_Text.id [.pointer x4, .string cOld] H5 (fun r5 H6 => ∃ x5 : Option Addr, r5 = .pointer x5 ∧ Q (.tuple #[]) H6))))))
theorem cmds_put.eq (J : Jn) (w : Addr) (cOp : Int) (cClient : Int) (cSeq : Int) (cKey : ByteArray) (cValue : ByteArray) (cOld : ByteArray) (H : Hp) (Q : Value → Hp → Prop) : vFn Try.prog cmds_put.cf J cmds_put.fn [.pointer (some w), .agg #[.int .i64 cOp, .int .i64 cClient, .int .i64 cSeq, .string cKey, .string cValue, .string cOld]] H Q = cmds_put.vc J w cOp cClient cSeq cKey cValue cOld H Q := by kernel_rfl
theorem cmds_put.calls {w : Addr} {cOp : Int} {cClient : Int} {cSeq : Int} {cKey : ByteArray} {cValue : ByteArray} {cOld : ByteArray} {H : Hp} {Q : Value → Hp → Prop} (h : cmds_put.vc J0 w cOp cClient cSeq cKey cValue cOld H Q) : SCalls Try.prog cmds_put.id [.pointer (some w), .agg #[.int .i64 cOp, .int .i64 cClient, .int .i64 cSeq, .string cKey, .string cValue, .string cOld]] H Q := vFn_of Try.mixed Try.func22 (cmds_put.eq J0 w cOp cClient cSeq cKey cValue cOld H Q) h

/-! 23: (*tephra/pack.Writer).Bytes -/
def pack_Writer_Bytes.cf : Cfg := ⟨[], [], [], []⟩
def pack_Writer_Bytes.vc (J : Jn) (w : Addr) (H : Hp) (Q : Value → Hp → Prop) : Prop :=
 ∃ b : Sl, Hp.cell? H w = some (.slice b.a b.len b.cap) ∧ 
 vApp Try.prog T_sl_uint8 none 0 0 (.slice b.a b.len b.cap) H (fun ap H1 => Q (.slice ap.a ap.len ap.cap) H1)
theorem pack_Writer_Bytes.eq (J : Jn) (w : Addr) (H : Hp) (Q : Value → Hp → Prop) : vFn Try.prog pack_Writer_Bytes.cf J pack_Writer_Bytes.fn [.pointer (some w)] H Q = pack_Writer_Bytes.vc J w H Q := by kernel_rfl
theorem pack_Writer_Bytes.calls {w : Addr} {H : Hp} {Q : Value → Hp → Prop} (h : pack_Writer_Bytes.vc J0 w H Q) : SCalls Try.prog pack_Writer_Bytes.id [.pointer (some w)] H Q := vFn_of Try.mixed Try.func23 (pack_Writer_Bytes.eq J0 w H Q) h

/-! 24: tephra/pack.Of -/
def pack_Of.cf : Cfg := ⟨[], [], [], []⟩
def pack_Of.vc (J : Jn) (b : Sl) (H : Hp) (Q : Value → Hp → Prop) : Prop :=
 Q (.pointer (some (Addr.mk (Array.size H) 0 none))) (Array.push H (.cells #[.slice b.a b.len b.cap, .bool false] T_pack_Reader))
theorem pack_Of.eq (J : Jn) (b : Sl) (H : Hp) (Q : Value → Hp → Prop) : vFn Try.prog pack_Of.cf J pack_Of.fn [.slice b.a b.len b.cap] H Q = pack_Of.vc J b H Q := by kernel_rfl
theorem pack_Of.calls {b : Sl} {H : Hp} {Q : Value → Hp → Prop} (h : pack_Of.vc J0 b H Q) : SCalls Try.prog pack_Of.id [.slice b.a b.len b.cap] H Q := vFn_of Try.mixed Try.func24 (pack_Of.eq J0 b H Q) h

/-! 25: (*tephra/pack.Reader).Num -/
def pack_Reader_Num.cf : Cfg := ⟨[], [(3, [3, 7, 8, 9])], [], []⟩
def pack_Reader_Num.l1.st (x : Sl) (H2 : Hp) (n : Int) (x1 : Int) : VS := ⟨mkFr 20 [(3, .v (.int .i64 n)), (7, .v (.slice x.a x.len x.cap)), (8, .v (.int .i64 ((x.len : Nat) : Int))), (9, .v (.int .i64 x1))], [], H2⟩
def pack_Reader_Num.l1 (J : Jn) (x : Sl) (H2 : Hp) (n : Int) (x1 : Int) (Q : Value → Hp → Prop) : Prop := vAt Try.prog pack_Reader_Num.cf J pack_Reader_Num.fn [1, 1, 0, 1, 0] [0, 0, 0, 0] Q (pack_Reader_Num.l1.st x H2 n x1)
attribute [irreducible] pack_Reader_Num.l1
def pack_Reader_Num.l1.body (J : Jn) (x : Sl) (H2 : Hp) (n : Int) (x1 : Int) (Q : Value → Hp → Prop) : Prop :=
 
 Br (decide (x1 < ((x.len : Nat) : Int))) (((0 : Int) ≤ x1 ∧ x1 < ((x.len : Nat) : Int)) ∧ vPtr x.a (fun a => ∃ x2 : Int, Hp.cell? H2 (a.add ((x1 : Int).toNat * 1)) = some (.int .u8 x2) ∧ (0 : Int) ≤ 8 ∧ 
 pack_Reader_Num.l1 J x H2 (bor .i64 (w64 (n * 2 ^ 8)) (w64 (x2))) (w64 (x1 + 1)) Q))
 (Q (.int .i64 n) H2)
theorem pack_Reader_Num.l1.eq (J : Jn) (x : Sl) (H2 : Hp) (n : Int) (x1 : Int) (Q : Value → Hp → Prop) : vAtBody Try.prog pack_Reader_Num.cf J pack_Reader_Num.fn [1, 1, 0, 1, 0] [0, 0, 0, 0] Q (pack_Reader_Num.l1.st x H2 n x1) = pack_Reader_Num.l1.body J x H2 n x1 Q := by kernel_rfl
theorem pack_Reader_Num.l1.step {x : Sl} {H2 : Hp} {n : Int} {x1 : Int} {Q : Value → Hp → Prop} (h : pack_Reader_Num.l1.body J0 x H2 n x1 Q) : pack_Reader_Num.l1 J0 x H2 n x1 Q := vAt_stepC (pack_Reader_Num.l1.st x H2 n x1) (pack_Reader_Num.l1.eq J0 x H2 n x1 Q) (by kernel_rfl) h
def pack_Reader_Num.vc (J : Jn) (r : Addr) (H : Hp) (Q : Value → Hp → Prop) : Prop :=
 
 SCalls Try.prog pack_Reader_take.id [.pointer (some r), .int .i64 8] H (fun r1 H1 => ∃ x : Sl, r1 = .slice x.a x.len x.cap ∧ 
 pack_Reader_Num.l1 J x H1 0 0 Q)
theorem pack_Reader_Num.eq (J : Jn) (r : Addr) (H : Hp) (Q : Value → Hp → Prop) : vFn Try.prog pack_Reader_Num.cf J pack_Reader_Num.fn [.pointer (some r)] H Q = pack_Reader_Num.vc J r H Q := by kernel_rfl
theorem pack_Reader_Num.calls {r : Addr} {H : Hp} {Q : Value → Hp → Prop} (h : pack_Reader_Num.vc J0 r H Q) : SCalls Try.prog pack_Reader_Num.id [.pointer (some r)] H Q := vFn_of Try.mixed Try.func25 (pack_Reader_Num.eq J0 r H Q) h

/-! 26: tephra/cmds.get -/
def cmds_get.cf : Cfg := ⟨[2, 3], [], [], []⟩
def cmds_get.vc (J : Jn) (r : Addr) (H : Hp) (Q : Value → Hp → Prop) : Prop :=
 
 SCalls Try.prog pack_Reader_Byte.id [.pointer (some r)] (holes H 1) (fun r1 H1 => ∃ x : Int, r1 = .int .u8 x ∧ 
 SCalls Try.prog pack_Reader_Num.id [.pointer (some r)] (holes H1 1) (fun r2 H2 => ∃ x1 : Int, r2 = .int .i64 x1 ∧ 
 SCalls Try.prog pack_Reader_Num.id [.pointer (some r)] H2 (fun r3 H3 => ∃ x2 : Int, r3 = .int .i64 x2 ∧ 
 SCalls Try.prog pack_Reader_Text.id [.pointer (some r)] H3 (fun r4 H4 => ∃ x3 : ByteArray, r4 = .string x3 ∧ 
 SCalls Try.prog pack_Reader_Text.id [.pointer (some r)] H4 (fun r5 H5 => ∃ x4 : ByteArray, r5 = .string x4 ∧ 
 SCalls Try.prog pack_Reader_Text.id [.pointer (some r)] H5 (fun r6 H6 => ∃ x5 : ByteArray, r6 = .string x5 ∧ Q (.agg #[.int .i64 (w64 (x)), .int .i64 x1, .int .i64 x2, .string x3, .string x4, .string x5]) H6))))))
theorem cmds_get.eq (J : Jn) (r : Addr) (H : Hp) (Q : Value → Hp → Prop) : vFn Try.prog cmds_get.cf J cmds_get.fn [.pointer (some r)] H Q = cmds_get.vc J r H Q := by kernel_rfl
theorem cmds_get.calls {r : Addr} {H : Hp} {Q : Value → Hp → Prop} (h : cmds_get.vc J0 r H Q) : SCalls Try.prog cmds_get.id [.pointer (some r)] H Q := vFn_of Try.mixed Try.func26 (cmds_get.eq J0 r H Q) h

/-! 27: (*tephra/pack.Reader).Done -/
def pack_Reader_Done.cf : Cfg := ⟨[], [], [], []⟩
def pack_Reader_Done.vc (J : Jn) (r : Addr) (H : Hp) (Q : Value → Hp → Prop) : Prop :=
 ∃ bad : Bool, Hp.cell? H (r.add 1) = some (.bool bad) ∧ 
 Br (!bad) (∃ b : Sl, Hp.cell? H r = some (.slice b.a b.len b.cap) ∧ Q (.bool (((b.len : Nat) : Int) == 0)) H)
 (Q (.bool false) H)
theorem pack_Reader_Done.eq (J : Jn) (r : Addr) (H : Hp) (Q : Value → Hp → Prop) : vFn Try.prog pack_Reader_Done.cf J pack_Reader_Done.fn [.pointer (some r)] H Q = pack_Reader_Done.vc J r H Q := by kernel_rfl
theorem pack_Reader_Done.calls {r : Addr} {H : Hp} {Q : Value → Hp → Prop} (h : pack_Reader_Done.vc J0 r H Q) : SCalls Try.prog pack_Reader_Done.id [.pointer (some r)] H Q := vFn_of Try.mixed Try.func27 (pack_Reader_Done.eq J0 r H Q) h

/-! 28: (*tephra/pack.Writer).Byte -/
def pack_Writer_Byte.cf : Cfg := ⟨[], [], [], []⟩
def pack_Writer_Byte.vc (J : Jn) (w : Addr) (c : Int) (H : Hp) (Q : Value → Hp → Prop) : Prop :=
 ∃ b : Sl, Hp.cell? H w = some (.slice b.a b.len b.cap) ∧ 
 vApp Try.prog T_sl_uint8 b.a b.len b.cap (.slice (some (Addr.mk (Array.size H) 0 none)) 1 1) (Array.push H (.cells #[.int .u8 c] T_uint8)) (fun ap H1 => WrAt H1 w 1 ∧ Q (.pointer (some w)) (Hp.setCell H1 w (.slice ap.a ap.len ap.cap)))
theorem pack_Writer_Byte.eq (J : Jn) (w : Addr) (c : Int) (H : Hp) (Q : Value → Hp → Prop) : vFn Try.prog pack_Writer_Byte.cf J pack_Writer_Byte.fn [.pointer (some w), .int .u8 c] H Q = pack_Writer_Byte.vc J w c H Q := by kernel_rfl
theorem pack_Writer_Byte.calls {w : Addr} {c : Int} {H : Hp} {Q : Value → Hp → Prop} (h : pack_Writer_Byte.vc J0 w c H Q) : SCalls Try.prog pack_Writer_Byte.id [.pointer (some w), .int .u8 c] H Q := vFn_of Try.mixed Try.func28 (pack_Writer_Byte.eq J0 w c H Q) h

/-! 29: (*tephra/pack.Writer).Text -/
def pack_Writer_Text.cf : Cfg := ⟨[], [], [], []⟩
def pack_Writer_Text.vc (J : Jn) (w : Addr) (s : ByteArray) (H : Hp) (Q : Value → Hp → Prop) : Prop :=
 
 SCalls Try.prog pack_Writer_Num.id [.pointer (some w), .int .i64 ((s.size : Nat) : Int)] H (fun r H1 => ∃ x : Option Addr, r = .pointer x ∧ ∃ b : Sl, Hp.cell? H1 w = some (.slice b.a b.len b.cap) ∧ 
 vApp Try.prog T_sl_uint8 b.a b.len b.cap (.string s) H1 (fun ap H2 => WrAt H2 w 1 ∧ Q (.pointer (some w)) (Hp.setCell H2 w (.slice ap.a ap.len ap.cap))))
theorem pack_Writer_Text.eq (J : Jn) (w : Addr) (s : ByteArray) (H : Hp) (Q : Value → Hp → Prop) : vFn Try.prog pack_Writer_Text.cf J pack_Writer_Text.fn [.pointer (some w), .string s] H Q = pack_Writer_Text.vc J w s H Q := by kernel_rfl
theorem pack_Writer_Text.calls {w : Addr} {s : ByteArray} {H : Hp} {Q : Value → Hp → Prop} (h : pack_Writer_Text.vc J0 w s H Q) : SCalls Try.prog pack_Writer_Text.id [.pointer (some w), .string s] H Q := vFn_of Try.mixed Try.func29 (pack_Writer_Text.eq J0 w s H Q) h

/-! 30: (*tephra/pack.Reader).take -/
def pack_Reader_take.cf : Cfg := ⟨[], [], [(2, [0, 1], true)], [(14, [0, 1, 6, 14]), (23, [0, 1, 6, 23])]⟩
def pack_Reader_take.k1.st (r : Addr) (n : Int) (H : Hp) (x : Bool) : VS := ⟨mkFr 46 [(0, .v (.pointer (some r))), (1, .v (.int .i64 n)), (6, .v (.pointer (some r))), (14, .v (.bool x))], [], H⟩
def pack_Reader_take.k1 (J : Jn) (r : Addr) (n : Int) (H : Hp) (x : Bool) (Q : Value → Hp → Prop) : Prop := J (vMid Try.prog pack_Reader_take.cf J pack_Reader_take.fn [1, 0, 0] [0, 0, 0] 9 Q) (pack_Reader_take.k1.st r n H x)
def pack_Reader_take.k2.st (r : Addr) (n : Int) (H : Hp) (x1 : Bool) : VS := ⟨mkFr 46 [(0, .v (.pointer (some r))), (1, .v (.int .i64 n)), (6, .v (.pointer (some r))), (23, .v (.bool x1))], [], H⟩
def pack_Reader_take.k2 (J : Jn) (r : Addr) (n : Int) (H : Hp) (x1 : Bool) (Q : Value → Hp → Prop) : Prop := J (vMid Try.prog pack_Reader_take.cf J pack_Reader_take.fn [1, 0, 0] [0, 0, 0] 18 Q) (pack_Reader_take.k2.st r n H x1)
def pack_Reader_take.k3.st (r : Addr) (n : Int) (H : Hp) (x1 : Bool) : VS := ⟨mkFr 46 [(0, .v (.pointer (some r))), (1, .v (.int .i64 n))], [], (Hp.setCell H (r.add 1) (.bool x1))⟩
def pack_Reader_take.k3 (J : Jn) (r : Addr) (n : Int) (H : Hp) (x1 : Bool) (Q : Value → Hp → Prop) : Prop := J (vSeg Try.prog pack_Reader_take.cf J pack_Reader_take.fn [1, 0, 1] [0, 0, 0] Q) (pack_Reader_take.k3.st r n H x1)
attribute [irreducible] pack_Reader_take.k1 pack_Reader_take.k2 pack_Reader_take.k3
def pack_Reader_take.k1.body (J : Jn) (r : Addr) (n : Int) (H : Hp) (x : Bool) (Q : Value → Hp → Prop) : Prop :=
 
 Br x (
 pack_Reader_take.k2 J r n H true Q)
 (∃ b : Sl, Hp.cell? H r = some (.slice b.a b.len b.cap) ∧ 
 pack_Reader_take.k2 J r n H (decide (n > ((b.len : Nat) : Int))) Q)
theorem pack_Reader_take.k1.eq (J : Jn) (r : Addr) (n : Int) (H : Hp) (x : Bool) (Q : Value → Hp → Prop) : vMid Try.prog pack_Reader_take.cf J pack_Reader_take.fn [1, 0, 0] [0, 0, 0] 9 Q (pack_Reader_take.k1.st r n H x) = pack_Reader_take.k1.body J r n H x Q := by kernel_rfl
theorem pack_Reader_take.k1.step {r : Addr} {n : Int} {H : Hp} {x : Bool} {Q : Value → Hp → Prop} (h : pack_Reader_take.k1.body J0 r n H x Q) : pack_Reader_take.k1 J0 r n H x Q := step_of (vMid Try.prog pack_Reader_take.cf J0 pack_Reader_take.fn [1, 0, 0] [0, 0, 0] 9 Q) (pack_Reader_take.k1.st r n H x) (pack_Reader_take.k1.eq J0 r n H x Q) (by kernel_rfl) h
def pack_Reader_take.k2.body (J : Jn) (r : Addr) (n : Int) (H : Hp) (x1 : Bool) (Q : Value → Hp → Prop) : Prop :=
 WrAt H (r.add 1) 1 ∧ 
 pack_Reader_take.k3 J r n H x1 Q
theorem pack_Reader_take.k2.eq (J : Jn) (r : Addr) (n : Int) (H : Hp) (x1 : Bool) (Q : Value → Hp → Prop) : vMid Try.prog pack_Reader_take.cf J pack_Reader_take.fn [1, 0, 0] [0, 0, 0] 18 Q (pack_Reader_take.k2.st r n H x1) = pack_Reader_take.k2.body J r n H x1 Q := by kernel_rfl
theorem pack_Reader_take.k2.step {r : Addr} {n : Int} {H : Hp} {x1 : Bool} {Q : Value → Hp → Prop} (h : pack_Reader_take.k2.body J0 r n H x1 Q) : pack_Reader_take.k2 J0 r n H x1 Q := step_of (vMid Try.prog pack_Reader_take.cf J0 pack_Reader_take.fn [1, 0, 0] [0, 0, 0] 18 Q) (pack_Reader_take.k2.st r n H x1) (pack_Reader_take.k2.eq J0 r n H x1 Q) (by kernel_rfl) h
def pack_Reader_take.k3.body (J : Jn) (r : Addr) (n : Int) (H : Hp) (x1 : Bool) (Q : Value → Hp → Prop) : Prop :=
 ∃ bad1 : Bool, Hp.cell? (Hp.setCell H (r.add 1) (.bool x1)) (r.add 1) = some (.bool bad1) ∧ 
 Br bad1 (Q (.slice none 0 0) (Hp.setCell H (r.add 1) (.bool x1)))
 (∃ b1 : Sl, Hp.cell? (Hp.setCell H (r.add 1) (.bool x1)) r = some (.slice b1.a b1.len b1.cap) ∧ ((0 : Int) ≤ n ∧ n ≤ ((b1.cap : Nat) : Int)) ∧ ∃ b2 : Sl, Hp.cell? (Hp.setCell H (r.add 1) (.bool x1)) r = some (.slice b2.a b2.len b2.cap) ∧ ((0 : Int) ≤ n ∧ n ≤ ((b2.len : Nat) : Int)) ∧ WrAt (Hp.setCell H (r.add 1) (.bool x1)) r 1 ∧ Q (.slice (cutA b1.a b1.cap 0 1) ((n : Int).toNat) b1.cap) (Hp.setCell (Hp.setCell H (r.add 1) (.bool x1)) r (.slice (cutA b2.a b2.cap ((n : Int).toNat) 1) (b2.len - ((n : Int).toNat)) (b2.cap - ((n : Int).toNat)))))
theorem pack_Reader_take.k3.eq (J : Jn) (r : Addr) (n : Int) (H : Hp) (x1 : Bool) (Q : Value → Hp → Prop) : vSeg Try.prog pack_Reader_take.cf J pack_Reader_take.fn [1, 0, 1] [0, 0, 0] Q (pack_Reader_take.k3.st r n H x1) = pack_Reader_take.k3.body J r n H x1 Q := by kernel_rfl
theorem pack_Reader_take.k3.step {r : Addr} {n : Int} {H : Hp} {x1 : Bool} {Q : Value → Hp → Prop} (h : pack_Reader_take.k3.body J0 r n H x1 Q) : pack_Reader_take.k3 J0 r n H x1 Q := step_of (vSeg Try.prog pack_Reader_take.cf J0 pack_Reader_take.fn [1, 0, 1] [0, 0, 0] Q) (pack_Reader_take.k3.st r n H x1) (pack_Reader_take.k3.eq J0 r n H x1 Q) (by kernel_rfl) h
def pack_Reader_take.vc (J : Jn) (r : Addr) (n : Int) (H : Hp) (Q : Value → Hp → Prop) : Prop :=
 ∃ bad : Bool, Hp.cell? H (r.add 1) = some (.bool bad) ∧ 
 Br bad (
 pack_Reader_take.k1 J r n H true Q)
 (
 pack_Reader_take.k1 J r n H (decide (n < 0)) Q)
theorem pack_Reader_take.eq (J : Jn) (r : Addr) (n : Int) (H : Hp) (Q : Value → Hp → Prop) : vFn Try.prog pack_Reader_take.cf J pack_Reader_take.fn [.pointer (some r), .int .i64 n] H Q = pack_Reader_take.vc J r n H Q := by kernel_rfl
theorem pack_Reader_take.calls {r : Addr} {n : Int} {H : Hp} {Q : Value → Hp → Prop} (h : pack_Reader_take.vc J0 r n H Q) : SCalls Try.prog pack_Reader_take.id [.pointer (some r), .int .i64 n] H Q := vFn_of Try.mixed Try.func30 (pack_Reader_take.eq J0 r n H Q) h

/-! 31: (*tephra/pack.Reader).Byte -/
def pack_Reader_Byte.cf : Cfg := ⟨[], [(2, [6, 7, 8])], [], []⟩
def pack_Reader_Byte.l1.st (x : Sl) (H2 : Hp) : VS := ⟨mkFr 14 [(6, .v (.slice x.a x.len x.cap)), (7, .v (.int .i64 ((x.len : Nat) : Int))), (8, .v (.int .i64 0))], [], H2⟩
def pack_Reader_Byte.l1 (J : Jn) (x : Sl) (H2 : Hp) (Q : Value → Hp → Prop) : Prop := vAt Try.prog pack_Reader_Byte.cf J pack_Reader_Byte.fn [1, 0, 1, 0] [0, 0, 0] Q (pack_Reader_Byte.l1.st x H2)
attribute [irreducible] pack_Reader_Byte.l1
def pack_Reader_Byte.l1.body (J : Jn) (x : Sl) (H2 : Hp) (Q : Value → Hp → Prop) : Prop :=
 
 Br (decide ((0 : Int) < ((x.len : Nat) : Int))) (((0 : Int) ≤ 0 ∧ (0 : Int) < ((x.len : Nat) : Int)) ∧ vPtr x.a (fun a => ∃ x1 : Int, Hp.cell? H2 a = some (.int .u8 x1) ∧ Q (.int .u8 x1) H2))
 (Q (.int .u8 0) H2)
theorem pack_Reader_Byte.l1.eq (J : Jn) (x : Sl) (H2 : Hp) (Q : Value → Hp → Prop) : vAtBody Try.prog pack_Reader_Byte.cf J pack_Reader_Byte.fn [1, 0, 1, 0] [0, 0, 0] Q (pack_Reader_Byte.l1.st x H2) = pack_Reader_Byte.l1.body J x H2 Q := by kernel_rfl
theorem pack_Reader_Byte.l1.step {x : Sl} {H2 : Hp} {Q : Value → Hp → Prop} (h : pack_Reader_Byte.l1.body J0 x H2 Q) : pack_Reader_Byte.l1 J0 x H2 Q := vAt_stepC (pack_Reader_Byte.l1.st x H2) (pack_Reader_Byte.l1.eq J0 x H2 Q) (by kernel_rfl) h
def pack_Reader_Byte.vc (J : Jn) (r : Addr) (H : Hp) (Q : Value → Hp → Prop) : Prop :=
 
 SCalls Try.prog pack_Reader_take.id [.pointer (some r), .int .i64 1] H (fun r1 H1 => ∃ x : Sl, r1 = .slice x.a x.len x.cap ∧ 
 pack_Reader_Byte.l1 J x H1 Q)
theorem pack_Reader_Byte.eq (J : Jn) (r : Addr) (H : Hp) (Q : Value → Hp → Prop) : vFn Try.prog pack_Reader_Byte.cf J pack_Reader_Byte.fn [.pointer (some r)] H Q = pack_Reader_Byte.vc J r H Q := by kernel_rfl
theorem pack_Reader_Byte.calls {r : Addr} {H : Hp} {Q : Value → Hp → Prop} (h : pack_Reader_Byte.vc J0 r H Q) : SCalls Try.prog pack_Reader_Byte.id [.pointer (some r)] H Q := vFn_of Try.mixed Try.func31 (pack_Reader_Byte.eq J0 r H Q) h

/-! 32: (*tephra/pack.Reader).Text -/
def pack_Reader_Text.cf : Cfg := ⟨[], [], [], []⟩
def pack_Reader_Text.vc (J : Jn) (r : Addr) (H : Hp) (Q : Value → Hp → Prop) : Prop :=
 
 SCalls Try.prog pack_Reader_Num.id [.pointer (some r)] H (fun r1 H1 => ∃ x : Int, r1 = .int .i64 x ∧ 
 SCalls Try.prog pack_Reader_take.id [.pointer (some r), .int .i64 x] H1 (fun r2 H2 => ∃ x1 : Sl, r2 = .slice x1.a x1.len x1.cap ∧ vB2S H2 x1.a x1.len (fun s => Q (.string s) H2)))
theorem pack_Reader_Text.eq (J : Jn) (r : Addr) (H : Hp) (Q : Value → Hp → Prop) : vFn Try.prog pack_Reader_Text.cf J pack_Reader_Text.fn [.pointer (some r)] H Q = pack_Reader_Text.vc J r H Q := by kernel_rfl
theorem pack_Reader_Text.calls {r : Addr} {H : Hp} {Q : Value → Hp → Prop} (h : pack_Reader_Text.vc J0 r H Q) : SCalls Try.prog pack_Reader_Text.id [.pointer (some r)] H Q := vFn_of Try.mixed Try.func32 (pack_Reader_Text.eq J0 r H Q) h

end Go.Proofs
