/- THE SEAT'S CODE, AS WALKED: for each function what is to be shown of it (printed by the own program gen.py), held by the kernel. -/
import Derived.Test.YtdfakiaehkfhnaaProg
import Derived.Test.YtdfakiaehkfhnaaKc13
set_option maxRecDepth 100000
set_option linter.all false
set_option linter.constructorNameAsVariable false
namespace Go.Proofs
open Go Go.KC
theorem Try.mixed : Try.prog.follows .mixedOrders = true := by kernel_rfl
abbrev tephralaw13_RlogMerge.id : Nat := 3
noncomputable abbrev tephralaw13_RlogMerge.fn : Func := Try.f3
abbrev tephralaw13_RlogNewer.id : Nat := 4
noncomputable abbrev tephralaw13_RlogNewer.fn : Func := Try.f4
abbrev tephralaw13_RlogRight.id : Nat := 5
noncomputable abbrev tephralaw13_RlogRight.fn : Func := Try.f5
abbrev tephralaw13_RlogAt.id : Nat := 6
noncomputable abbrev tephralaw13_RlogAt.fn : Func := Try.f6
abbrev tephralaw13_RlogAdd.id : Nat := 7
noncomputable abbrev tephralaw13_RlogAdd.fn : Func := Try.f7
abbrev tephralaw13_RlogPrefix.id : Nat := 8
noncomputable abbrev tephralaw13_RlogPrefix.fn : Func := Try.f8
abbrev tephralaw13_RlogCompact.id : Nat := 9
noncomputable abbrev tephralaw13_RlogCompact.fn : Func := Try.f9
abbrev tephralaw13_awake.id : Nat := 10
noncomputable abbrev tephralaw13_awake.fn : Func := Try.f10
abbrev tephralaw13_Some.id : Nat := 11
noncomputable abbrev tephralaw13_Some.fn : Func := Try.f11
abbrev tephralaw13_term.id : Nat := 12
noncomputable abbrev tephralaw13_term.fn : Func := Try.f12
abbrev tephralaw06_Entries.id : Nat := 13
noncomputable abbrev tephralaw06_Entries.fn : Func := Try.f13
abbrev rlog_Log_Merge.id : Nat := 14
noncomputable abbrev rlog_Log_Merge.fn : Func := Try.f14
abbrev tephralaw13_merge.id : Nat := 15
noncomputable abbrev tephralaw13_merge.fn : Func := Try.f15
abbrev tephralaw13_Same.id : Nat := 16
noncomputable abbrev tephralaw13_Same.fn : Func := Try.f16
abbrev rlog_Log_Newer.id : Nat := 17
noncomputable abbrev rlog_Log_Newer.fn : Func := Try.f17
abbrev rlog_Log_Last.id : Nat := 18
noncomputable abbrev rlog_Log_Last.fn : Func := Try.f18
abbrev rlog_Log_LastTerm.id : Nat := 19
noncomputable abbrev rlog_Log_LastTerm.fn : Func := Try.f19
abbrev rlog_Right.id : Nat := 20
noncomputable abbrev rlog_Right.fn : Func := Try.f20
abbrev rlog_Log_Clone.id : Nat := 21
noncomputable abbrev rlog_Log_Clone.fn : Func := Try.f21
abbrev cmds_Right.id : Nat := 22
noncomputable abbrev cmds_Right.fn : Func := Try.f22
abbrev rlog_Log_TermAt.id : Nat := 23
noncomputable abbrev rlog_Log_TermAt.fn : Func := Try.f23
abbrev rlog_Log_After.id : Nat := 24
noncomputable abbrev rlog_Log_After.fn : Func := Try.f24
abbrev rlog_Log_Add.id : Nat := 25
noncomputable abbrev rlog_Log_Add.fn : Func := Try.f25
abbrev tephralaw06_Say_Cmd.id : Nat := 26
noncomputable abbrev tephralaw06_Say_Cmd.fn : Func := Try.f26
abbrev rlog_Log_Compact.id : Nat := 27
noncomputable abbrev rlog_Log_Compact.fn : Func := Try.f27
abbrev cmds_Row.id : Nat := 28
noncomputable abbrev cmds_Row.fn : Func := Try.f28
abbrev slices_Clone_sl_api_Entry_api_Entry.id : Nat := 29
noncomputable abbrev slices_Clone_sl_api_Entry_api_Entry.fn : Func := Try.f29
abbrev cmds_May.id : Nat := 30
noncomputable abbrev cmds_May.fn : Func := Try.f30
abbrev T_ : Nat := 0
abbrev T_func : Nat := 1
abbrev T_int64 : Nat := 2
abbrev T_int : Nat := 3
abbrev T_bool : Nat := 4
abbrev T_uint8 : Nat := 5
abbrev T_abi_BoundsErrorCode : Nat := 6
abbrev T_struct_x_int64_y_int_signed_bool_code_abi_BoundsErrorCode : Nat := 7
abbrev T_runtime_boundsError : Nat := 8
abbrev T_string : Nat := 9
abbrev T_runtime_errorString : Nat := 10
abbrev T_runtime_plainError : Nat := 11
abbrev T_uintptr : Nat := 12
abbrev T_struct_msg_string_addr_uintptr : Nat := 13
abbrev T_runtime_errorAddressString : Nat := 14
abbrev T_p_runtime_TypeAssertionError : Nat := 15
abbrev T_p_runtime_PanicNilError : Nat := 16
abbrev T_p_abi_Type : Nat := 17
abbrev T_struct_typ_p_abi_Type : Nat := 18
abbrev T_maps_unhashableTypeError : Nat := 19
abbrev T_interface : Nat := 20
abbrev T_int32 : Nat := 21
abbrev T_sl_tephralaw06_Say : Nat := 22
abbrev T_int8 : Nat := 23
abbrev T_func_bool : Nat := 24
abbrev T_sl_api_Entry : Nat := 25
abbrev T_struct_Base_int_Term_int_Entries_sl_api_Entry : Nat := 26
abbrev T_rlog_Log : Nat := 27
abbrev T_func_sl_tephralaw06_Say_uint8_uint8_rlog_Log : Nat := 28
abbrev T_sl_int : Nat := 29
abbrev T_int_bool : Nat := 30
abbrev T_func_rlog_Log_int_int_bool : Nat := 31
abbrev T_func_sl_tephralaw06_Say_int_int_sl_api_Entry : Nat := 32
abbrev T_rlog_Log_bool : Nat := 33
abbrev T_func_int_int_sl_api_Entry_rlog_Log_bool : Nat := 34
abbrev T_func_rlog_Log_int_int_sl_api_Entry_rlog_Log_bool : Nat := 35
abbrev T_func_rlog_Log_rlog_Log_bool : Nat := 36
abbrev T_func_sl_tephralaw06_Say_sl_tephralaw06_Say_uint8_uint8_int8_ : Nat := 37
abbrev T_func_int_int_bool : Nat := 38
abbrev T_func_int : Nat := 39
abbrev T_func_sl_tephralaw06_Say_sl_tephralaw06_Say_uint8_uint8_bool : Nat := 40
abbrev T_api_Op : Nat := 41
abbrev T_struct_Op_api_Op_Client_int_Seq_int_Key_string_Value_string_ : Nat := 42
abbrev T_api_Cmd : Nat := 43
abbrev T_struct_Index_int_Term_int_Cmd_api_Cmd : Nat := 44
abbrev T_api_Entry : Nat := 45
abbrev T_func_rlog_Log_bool : Nat := 46
abbrev T_func_rlog_Log : Nat := 47
abbrev T_sl_rlog_Log : Nat := 48
abbrev T_func_api_Entry_bool : Nat := 49
abbrev T_func_rlog_Log_sl_tephralaw06_Say_uint8_uint8_uint8_api_Entry : Nat := 50
abbrev T_func_int_int_bool_51 : Nat := 51
abbrev T_sl_api_Entry_bool : Nat := 52
abbrev T_func_int_int_sl_api_Entry_bool : Nat := 53
abbrev T_func_sl_tephralaw06_Say_uint8_uint8_int8_int8_bool : Nat := 54
abbrev T_struct_Op_uint8_Client_uint8_Seq_uint8_Key_uint8_Value_uint8 : Nat := 55
abbrev T_tephralaw06_Say : Nat := 56
abbrev T_func_int_api_Cmd_rlog_Log : Nat := 57
abbrev T_func_api_Cmd : Nat := 58
abbrev T_func_sl_tephralaw06_Say_uint8_uint8_tephralaw06_Say_bool : Nat := 59
abbrev T_func_sl_tephralaw06_Say_sl_tephralaw06_Say_uint8_uint8_uint8 : Nat := 60
abbrev T_func_int_rlog_Log : Nat := 61
abbrev T_func_sl_api_Entry_int_bool : Nat := 62
abbrev T_func_sl_api_Entry_sl_api_Entry : Nat := 63
abbrev T_func_api_Cmd_bool : Nat := 64
abbrev T_func_string : Nat := 65
abbrev T_struct__interface_p_abi_Type_concrete_p_abi_Type_asserted_p_ : Nat := 66
abbrev T_runtime_TypeAssertionError : Nat := 67
abbrev T_0_p_runtime_PanicNilError : Nat := 68
abbrev T_struct___0_p_runtime_PanicNilError : Nat := 69
abbrev T_runtime_PanicNilError : Nat := 70
abbrev T_uint32 : Nat := 71
abbrev T_abi_TFlag : Nat := 72
abbrev T_abi_Kind : Nat := 73
abbrev T_func_unsafe_Pointer_unsafe_Pointer_bool : Nat := 74
abbrev T_p_uint8 : Nat := 75
abbrev T_abi_NameOff : Nat := 76
abbrev T_abi_TypeOff : Nat := 77
abbrev T_struct_Size__uintptr_PtrBytes_uintptr_Hash_uint32_TFlag_abi_ : Nat := 78
abbrev T_abi_Type : Nat := 79
abbrev T_unsafe_Pointer : Nat := 80

/-! 3: tephra/tephralaw13.RlogMerge -/
def tephralaw13_RlogMerge.cf : Cfg := ⟨[13, 19, 21], [(5, [0, 1, 2, 3, 5, 13, 37, 38, 39])], [(9, [0, 1, 2, 3, 5, 13, 15, 16, 37, 38, 39, 55], true), (12, [0, 1, 2, 3, 5, 13, 15, 16, 18, 37, 38, 39, 75], true), (16, [0, 1, 2, 3, 5, 13, 37, 38, 39, 102], true)], []⟩
def tephralaw13_RlogMerge.l1.st (says : Sl) (more : Sl) (base : Int) (t : Int) (atv : Int) (H2 : Hp) (Base : Int) (Term : Int) (Entries : Sl) (H3 : Hp) (x1 : Int) : VS := ⟨mkFr 110 [(0, .v (.slice says.a says.len says.cap)), (1, .v (.slice more.a more.len more.cap)), (2, .v (.int .u8 base)), (3, .v (.int .u8 t)), (5, .v (.int .u8 atv)), (13, .loc 0 0), (37, .v (.slice (some (Addr.mk (Array.size (holes H2 1)) 0 none)) 2 2)), (38, .v (.int .i64 ((2 : Nat) : Int))), (39, .v (.int .i64 x1))], [(T_rlog_Log, [.int .i64 Base, .int .i64 Term, .slice Entries.a Entries.len Entries.cap])], H3⟩
def tephralaw13_RlogMerge.l1 (J : Jn) (says : Sl) (more : Sl) (base : Int) (t : Int) (atv : Int) (H2 : Hp) (Base : Int) (Term : Int) (Entries : Sl) (H3 : Hp) (x1 : Int) (Q : Value → Hp → Prop) : Prop := vAt Try.prog tephralaw13_RlogMerge.cf J tephralaw13_RlogMerge.fn [1, 1, 1, 0, 1, 0] [0, 0, 0, 1, 1] Q (tephralaw13_RlogMerge.l1.st says more base t atv H2 Base Term Entries H3 x1)
def tephralaw13_RlogMerge.k1.st (says : Sl) (more : Sl) (base : Int) (t : Int) (atv : Int) (H2 : Hp) (Base : Int) (Term : Int) (Entries : Sl) (x1 : Int) (x2 : Int) (H4 : Hp) (x3 : Int) (x5 : Bool) : VS := ⟨mkFr 110 [(0, .v (.slice says.a says.len says.cap)), (1, .v (.slice more.a more.len more.cap)), (2, .v (.int .u8 base)), (3, .v (.int .u8 t)), (5, .v (.int .u8 atv)), (13, .loc 0 0), (15, .v (.int .i64 x2)), (16, .v (.int .i64 x3)), (37, .v (.slice (some (Addr.mk (Array.size (holes H2 1)) 0 none)) 2 2)), (38, .v (.int .i64 ((2 : Nat) : Int))), (39, .v (.int .i64 x1)), (55, .v (.bool x5))], [(T_rlog_Log, [.int .i64 Base, .int .i64 Term, .slice Entries.a Entries.len Entries.cap])], H4⟩
def tephralaw13_RlogMerge.k1 (J : Jn) (says : Sl) (more : Sl) (base : Int) (t : Int) (atv : Int) (H2 : Hp) (Base : Int) (Term : Int) (Entries : Sl) (x1 : Int) (x2 : Int) (H4 : Hp) (x3 : Int) (x5 : Bool) (Q : Value → Hp → Prop) : Prop := J (vSeg Try.prog tephralaw13_RlogMerge.cf J tephralaw13_RlogMerge.fn [1, 1, 1, 0, 1, 0, 0, 1, 1, 0, 0, 1, 1, 0, 1] [0, 0, 0, 1, 1, 1, 1, 1, 1, 1, 1, 1, 1] Q) (tephralaw13_RlogMerge.k1.st says more base t atv H2 Base Term Entries x1 x2 H4 x3 x5)
def tephralaw13_RlogMerge.k2.st (says : Sl) (more : Sl) (base : Int) (t : Int) (atv : Int) (H2 : Hp) (Base : Int) (Term : Int) (Entries : Sl) (x1 : Int) (x2 : Int) (H5 : Hp) (x6 : Sl) (x7 : Bool) : VS := ⟨mkFr 110 [(0, .v (.slice says.a says.len says.cap)), (1, .v (.slice more.a more.len more.cap)), (2, .v (.int .u8 base)), (3, .v (.int .u8 t)), (5, .v (.int .u8 atv)), (13, .loc 0 0), (15, .v (.int .i64 x2)), (16, .v (.int .i64 (w64 ((Int.tmod atv 7))))), (18, .v (.slice x6.a x6.len x6.cap)), (37, .v (.slice (some (Addr.mk (Array.size (holes H2 1)) 0 none)) 2 2)), (38, .v (.int .i64 ((2 : Nat) : Int))), (39, .v (.int .i64 x1)), (75, .v (.bool x7))], [(T_rlog_Log, [.int .i64 Base, .int .i64 Term, .slice Entries.a Entries.len Entries.cap])], H5⟩
def tephralaw13_RlogMerge.k2 (J : Jn) (says : Sl) (more : Sl) (base : Int) (t : Int) (atv : Int) (H2 : Hp) (Base : Int) (Term : Int) (Entries : Sl) (x1 : Int) (x2 : Int) (H5 : Hp) (x6 : Sl) (x7 : Bool) (Q : Value → Hp → Prop) : Prop := J (vSeg Try.prog tephralaw13_RlogMerge.cf J tephralaw13_RlogMerge.fn [1, 1, 1, 0, 1, 0, 0, 1, 1, 0, 0, 1, 1, 1, 1, 0, 1] [0, 0, 0, 1, 1, 1, 1, 1, 1, 1, 1, 1, 1, 1, 1] Q) (tephralaw13_RlogMerge.k2.st says more base t atv H2 Base Term Entries x1 x2 H5 x6 x7)
def tephralaw13_RlogMerge.k3.st (says : Sl) (more : Sl) (base : Int) (t : Int) (atv : Int) (H2 : Hp) (Base : Int) (Term : Int) (Entries : Sl) (x1 : Int) (Base1 : Int) (Term1 : Int) (Entries1 : Sl) (Base2 : Int) (Term2 : Int) (Entries2 : Sl) (x11 : Bool) (H9 : Hp) : VS := ⟨mkFr 110 [(0, .v (.slice says.a says.len says.cap)), (1, .v (.slice more.a more.len more.cap)), (2, .v (.int .u8 base)), (3, .v (.int .u8 t)), (5, .v (.int .u8 atv)), (13, .loc 0 0), (37, .v (.slice (some (Addr.mk (Array.size (holes H2 1)) 0 none)) 2 2)), (38, .v (.int .i64 ((2 : Nat) : Int))), (39, .v (.int .i64 x1)), (102, .v (.bool x11))], [(T_rlog_Log, [.int .i64 Base, .int .i64 Term, .slice Entries.a Entries.len Entries.cap]), (T_rlog_Log, [.int .i64 Base1, .int .i64 Term1, .slice Entries1.a Entries1.len Entries1.cap]), (T_rlog_Log, [.int .i64 Base2, .int .i64 Term2, .slice Entries2.a Entries2.len Entries2.cap])], H9⟩
def tephralaw13_RlogMerge.k3 (J : Jn) (says : Sl) (more : Sl) (base : Int) (t : Int) (atv : Int) (H2 : Hp) (Base : Int) (Term : Int) (Entries : Sl) (x1 : Int) (Base1 : Int) (Term1 : Int) (Entries1 : Sl) (Base2 : Int) (Term2 : Int) (Entries2 : Sl) (x11 : Bool) (H9 : Hp) (Q : Value → Hp → Prop) : Prop := J (vSeg Try.prog tephralaw13_RlogMerge.cf J tephralaw13_RlogMerge.fn [1, 1, 1, 0, 1, 0, 0, 1, 1, 0, 0, 1, 1, 1, 1, 1, 1, 1, 1] [0, 0, 0, 1, 1, 1, 1, 1, 1, 1, 1, 1, 1, 1, 1, 2, 3] Q) (tephralaw13_RlogMerge.k3.st says more base t atv H2 Base Term Entries x1 Base1 Term1 Entries1 Base2 Term2 Entries2 x11 H9)
def tephralaw13_RlogMerge.k4.st (says : Sl) (more : Sl) (base : Int) (t : Int) (atv : Int) (H2 : Hp) (Base : Int) (Term : Int) (Entries : Sl) (x1 : Int) (Base3 : Int) (Term3 : Int) (Entries3 : Sl) (Base4 : Int) (Term4 : Int) (Entries4 : Sl) (x15 : Bool) (H13 : Hp) : VS := ⟨mkFr 110 [(0, .v (.slice says.a says.len says.cap)), (1, .v (.slice more.a more.len more.cap)), (2, .v (.int .u8 base)), (3, .v (.int .u8 t)), (5, .v (.int .u8 atv)), (13, .loc 0 0), (37, .v (.slice (some (Addr.mk (Array.size (holes H2 1)) 0 none)) 2 2)), (38, .v (.int .i64 ((2 : Nat) : Int))), (39, .v (.int .i64 x1)), (102, .v (.bool x15))], [(T_rlog_Log, [.int .i64 Base, .int .i64 Term, .slice Entries.a Entries.len Entries.cap]), (T_rlog_Log, [.int .i64 Base3, .int .i64 Term3, .slice Entries3.a Entries3.len Entries3.cap]), (T_rlog_Log, [.int .i64 Base4, .int .i64 Term4, .slice Entries4.a Entries4.len Entries4.cap])], H13⟩
def tephralaw13_RlogMerge.k4 (J : Jn) (says : Sl) (more : Sl) (base : Int) (t : Int) (atv : Int) (H2 : Hp) (Base : Int) (Term : Int) (Entries : Sl) (x1 : Int) (Base3 : Int) (Term3 : Int) (Entries3 : Sl) (Base4 : Int) (Term4 : Int) (Entries4 : Sl) (x15 : Bool) (H13 : Hp) (Q : Value → Hp → Prop) : Prop := J (vSeg Try.prog tephralaw13_RlogMerge.cf J tephralaw13_RlogMerge.fn [1, 1, 1, 0, 1, 0, 0, 1, 1, 0, 0, 1, 1, 1, 1, 1, 1, 1, 1] [0, 0, 0, 1, 1, 1, 1, 1, 1, 1, 1, 1, 1, 1, 1, 2, 3] Q) (tephralaw13_RlogMerge.k4.st says more base t atv H2 Base Term Entries x1 Base3 Term3 Entries3 Base4 Term4 Entries4 x15 H13)
def tephralaw13_RlogMerge.k5.st (says : Sl) (more : Sl) (base : Int) (t : Int) (atv : Int) (H2 : Hp) (Base : Int) (Term : Int) (Entries : Sl) (x1 : Int) (x2 : Int) (x3 : Int) (H14 : Hp) (x16 : Sl) (x17 : Bool) : VS := ⟨mkFr 110 [(0, .v (.slice says.a says.len says.cap)), (1, .v (.slice more.a more.len more.cap)), (2, .v (.int .u8 base)), (3, .v (.int .u8 t)), (5, .v (.int .u8 atv)), (13, .loc 0 0), (15, .v (.int .i64 x2)), (16, .v (.int .i64 x3)), (18, .v (.slice x16.a x16.len x16.cap)), (37, .v (.slice (some (Addr.mk (Array.size (holes H2 1)) 0 none)) 2 2)), (38, .v (.int .i64 ((2 : Nat) : Int))), (39, .v (.int .i64 x1)), (75, .v (.bool x17))], [(T_rlog_Log, [.int .i64 Base, .int .i64 Term, .slice Entries.a Entries.len Entries.cap])], H14⟩
def tephralaw13_RlogMerge.k5 (J : Jn) (says : Sl) (more : Sl) (base : Int) (t : Int) (atv : Int) (H2 : Hp) (Base : Int) (Term : Int) (Entries : Sl) (x1 : Int) (x2 : Int) (x3 : Int) (H14 : Hp) (x16 : Sl) (x17 : Bool) (Q : Value → Hp → Prop) : Prop := J (vSeg Try.prog tephralaw13_RlogMerge.cf J tephralaw13_RlogMerge.fn [1, 1, 1, 0, 1, 0, 0, 1, 1, 0, 0, 1, 1, 1, 1, 0, 1] [0, 0, 0, 1, 1, 1, 1, 1, 1, 1, 1, 1, 1, 1, 1] Q) (tephralaw13_RlogMerge.k5.st says more base t atv H2 Base Term Entries x1 x2 x3 H14 x16 x17)
def tephralaw13_RlogMerge.k6.st (says : Sl) (more : Sl) (base : Int) (t : Int) (atv : Int) (H2 : Hp) (Base : Int) (Term : Int) (Entries : Sl) (x1 : Int) (Base5 : Int) (Term5 : Int) (Entries5 : Sl) (Base6 : Int) (Term6 : Int) (Entries6 : Sl) (x21 : Bool) (H18 : Hp) : VS := ⟨mkFr 110 [(0, .v (.slice says.a says.len says.cap)), (1, .v (.slice more.a more.len more.cap)), (2, .v (.int .u8 base)), (3, .v (.int .u8 t)), (5, .v (.int .u8 atv)), (13, .loc 0 0), (37, .v (.slice (some (Addr.mk (Array.size (holes H2 1)) 0 none)) 2 2)), (38, .v (.int .i64 ((2 : Nat) : Int))), (39, .v (.int .i64 x1)), (102, .v (.bool x21))], [(T_rlog_Log, [.int .i64 Base, .int .i64 Term, .slice Entries.a Entries.len Entries.cap]), (T_rlog_Log, [.int .i64 Base5, .int .i64 Term5, .slice Entries5.a Entries5.len Entries5.cap]), (T_rlog_Log, [.int .i64 Base6, .int .i64 Term6, .slice Entries6.a Entries6.len Entries6.cap])], H18⟩
def tephralaw13_RlogMerge.k6 (J : Jn) (says : Sl) (more : Sl) (base : Int) (t : Int) (atv : Int) (H2 : Hp) (Base : Int) (Term : Int) (Entries : Sl) (x1 : Int) (Base5 : Int) (Term5 : Int) (Entries5 : Sl) (Base6 : Int) (Term6 : Int) (Entries6 : Sl) (x21 : Bool) (H18 : Hp) (Q : Value → Hp → Prop) : Prop := J (vSeg Try.prog tephralaw13_RlogMerge.cf J tephralaw13_RlogMerge.fn [1, 1, 1, 0, 1, 0, 0, 1, 1, 0, 0, 1, 1, 1, 1, 1, 1, 1, 1] [0, 0, 0, 1, 1, 1, 1, 1, 1, 1, 1, 1, 1, 1, 1, 2, 3] Q) (tephralaw13_RlogMerge.k6.st says more base t atv H2 Base Term Entries x1 Base5 Term5 Entries5 Base6 Term6 Entries6 x21 H18)
def tephralaw13_RlogMerge.k7.st (says : Sl) (more : Sl) (base : Int) (t : Int) (atv : Int) (H2 : Hp) (Base : Int) (Term : Int) (Entries : Sl) (x1 : Int) (Base7 : Int) (Term7 : Int) (Entries7 : Sl) (Base8 : Int) (Term8 : Int) (Entries8 : Sl) (x25 : Bool) (H22 : Hp) : VS := ⟨mkFr 110 [(0, .v (.slice says.a says.len says.cap)), (1, .v (.slice more.a more.len more.cap)), (2, .v (.int .u8 base)), (3, .v (.int .u8 t)), (5, .v (.int .u8 atv)), (13, .loc 0 0), (37, .v (.slice (some (Addr.mk (Array.size (holes H2 1)) 0 none)) 2 2)), (38, .v (.int .i64 ((2 : Nat) : Int))), (39, .v (.int .i64 x1)), (102, .v (.bool x25))], [(T_rlog_Log, [.int .i64 Base, .int .i64 Term, .slice Entries.a Entries.len Entries.cap]), (T_rlog_Log, [.int .i64 Base7, .int .i64 Term7, .slice Entries7.a Entries7.len Entries7.cap]), (T_rlog_Log, [.int .i64 Base8, .int .i64 Term8, .slice Entries8.a Entries8.len Entries8.cap])], H22⟩
def tephralaw13_RlogMerge.k7 (J : Jn) (says : Sl) (more : Sl) (base : Int) (t : Int) (atv : Int) (H2 : Hp) (Base : Int) (Term : Int) (Entries : Sl) (x1 : Int) (Base7 : Int) (Term7 : Int) (Entries7 : Sl) (Base8 : Int) (Term8 : Int) (Entries8 : Sl) (x25 : Bool) (H22 : Hp) (Q : Value → Hp → Prop) : Prop := J (vSeg Try.prog tephralaw13_RlogMerge.cf J tephralaw13_RlogMerge.fn [1, 1, 1, 0, 1, 0, 0, 1, 1, 0, 0, 1, 1, 1, 1, 1, 1, 1, 1] [0, 0, 0, 1, 1, 1, 1, 1, 1, 1, 1, 1, 1, 1, 1, 2, 3] Q) (tephralaw13_RlogMerge.k7.st says more base t atv H2 Base Term Entries x1 Base7 Term7 Entries7 Base8 Term8 Entries8 x25 H22)
attribute [irreducible] tephralaw13_RlogMerge.l1 tephralaw13_RlogMerge.k1 tephralaw13_RlogMerge.k2 tephralaw13_RlogMerge.k3 tephralaw13_RlogMerge.k4 tephralaw13_RlogMerge.k5 tephralaw13_RlogMerge.k6 tephralaw13_RlogMerge.k7
def tephralaw13_RlogMerge.l1.body (J : Jn) (says : Sl) (more : Sl) (base : Int) (t : Int) (atv : Int) (H2 : Hp) (Base : Int) (Term : Int) (Entries : Sl) (H3 : Hp) (x1 : Int) (Q : Value → Hp → Prop) : Prop :=
 
 Br (decide (x1 < ((2 : Nat) : Int))) (((0 : Int) ≤ x1 ∧ x1 < ((2 : Nat) : Int)) ∧ ∃ x2 : Int, Hp.cell? H3 ((Addr.mk (Array.size (holes H2 1)) 0 none).add ((x1 : Int).toNat * 1)) = some (.int .i64 x2) ∧ 
 SCalls Try.prog tephralaw13_term.id [.agg #[.int .i64 Base, .int .i64 Term, .slice Entries.a Entries.len Entries.cap], .int .i64 x2] H3 (fun r2 H4 => ∃ x3 : Int, ∃ x4 : Bool, r2 = .tuple #[.int .i64 x3, .bool x4] ∧ 
 Br (!x4) (
 tephralaw13_RlogMerge.k1 J says more base t atv H2 Base Term Entries x1 x2 H4 x3 true Q)
 ((4 : Int) ≠ 0 ∧ 
 tephralaw13_RlogMerge.k1 J says more base t atv H2 Base Term Entries x1 x2 H4 x3 ((Int.tmod atv 4) == 0) Q)))
 (
 SCalls Try.prog tephralaw13_Some.id [.slice says.a says.len says.cap, .int .u8 base, .int .u8 t] H3 (fun r17 H23 => ∃ Base9 : Int, ∃ Term9 : Int, ∃ Entries9 : Sl, r17 = .agg #[.int .i64 Base9, .int .i64 Term9, .slice Entries9.a Entries9.len Entries9.cap] ∧ 
 SCalls Try.prog tephralaw13_Same.id [.agg #[.int .i64 Base, .int .i64 Term, .slice Entries.a Entries.len Entries.cap], .agg #[.int .i64 Base9, .int .i64 Term9, .slice Entries9.a Entries9.len Entries9.cap]] H23 (fun r18 H24 => ∃ x26 : Bool, r18 = .bool x26 ∧ Q (.bool x26) H24)))
theorem tephralaw13_RlogMerge.l1.eq (J : Jn) (says : Sl) (more : Sl) (base : Int) (t : Int) (atv : Int) (H2 : Hp) (Base : Int) (Term : Int) (Entries : Sl) (H3 : Hp) (x1 : Int) (Q : Value → Hp → Prop) : vAtBody Try.prog tephralaw13_RlogMerge.cf J tephralaw13_RlogMerge.fn [1, 1, 1, 0, 1, 0] [0, 0, 0, 1, 1] Q (tephralaw13_RlogMerge.l1.st says more base t atv H2 Base Term Entries H3 x1) = tephralaw13_RlogMerge.l1.body J says more base t atv H2 Base Term Entries H3 x1 Q := by kernel_rfl
theorem tephralaw13_RlogMerge.l1.step {says : Sl} {more : Sl} {base : Int} {t : Int} {atv : Int} {H2 : Hp} {Base : Int} {Term : Int} {Entries : Sl} {H3 : Hp} {x1 : Int} {Q : Value → Hp → Prop} (h : tephralaw13_RlogMerge.l1.body J0 says more base t atv H2 Base Term Entries H3 x1 Q) : tephralaw13_RlogMerge.l1 J0 says more base t atv H2 Base Term Entries H3 x1 Q := vAt_stepC (tephralaw13_RlogMerge.l1.st says more base t atv H2 Base Term Entries H3 x1) (tephralaw13_RlogMerge.l1.eq J0 says more base t atv H2 Base Term Entries H3 x1 Q) (by kernel_rfl) h
def tephralaw13_RlogMerge.k1.body (J : Jn) (says : Sl) (more : Sl) (base : Int) (t : Int) (atv : Int) (H2 : Hp) (Base : Int) (Term : Int) (Entries : Sl) (x1 : Int) (x2 : Int) (H4 : Hp) (x3 : Int) (x5 : Bool) (Q : Value → Hp → Prop) : Prop :=
 
 Br x5 ((7 : Int) ≠ 0 ∧ (50 : Int) ≠ 0 ∧ 
 SCalls Try.prog tephralaw06_Entries.id [.slice more.a more.len more.cap, .int .i64 (w64 (x2 + 1)), .int .i64 (w64 ((w64 ((Int.tmod atv 7))) + (w64 ((IntKind.u8.wrap (Int.tdiv atv 50))))))] H4 (fun r3 H5 => ∃ x6 : Sl, r3 = .slice x6.a x6.len x6.cap ∧ (9 : Int) ≠ 0 ∧ 
 Br ((Int.tmod atv 9) == 0) (
 tephralaw13_RlogMerge.k2 J says more base t atv H2 Base Term Entries x1 x2 H5 x6 (decide (((x6.len : Nat) : Int) > 1)) Q)
 (
 tephralaw13_RlogMerge.k2 J says more base t atv H2 Base Term Entries x1 x2 H5 x6 false Q)))
 ((50 : Int) ≠ 0 ∧ 
 SCalls Try.prog tephralaw06_Entries.id [.slice more.a more.len more.cap, .int .i64 (w64 (x2 + 1)), .int .i64 (w64 (x3 + (w64 ((IntKind.u8.wrap (Int.tdiv atv 50))))))] H4 (fun r10 H14 => ∃ x16 : Sl, r10 = .slice x16.a x16.len x16.cap ∧ (9 : Int) ≠ 0 ∧ 
 Br ((Int.tmod atv 9) == 0) (
 tephralaw13_RlogMerge.k5 J says more base t atv H2 Base Term Entries x1 x2 x3 H14 x16 (decide (((x16.len : Nat) : Int) > 1)) Q)
 (
 tephralaw13_RlogMerge.k5 J says more base t atv H2 Base Term Entries x1 x2 x3 H14 x16 false Q)))
theorem tephralaw13_RlogMerge.k1.eq (J : Jn) (says : Sl) (more : Sl) (base : Int) (t : Int) (atv : Int) (H2 : Hp) (Base : Int) (Term : Int) (Entries : Sl) (x1 : Int) (x2 : Int) (H4 : Hp) (x3 : Int) (x5 : Bool) (Q : Value → Hp → Prop) : vSeg Try.prog tephralaw13_RlogMerge.cf J tephralaw13_RlogMerge.fn [1, 1, 1, 0, 1, 0, 0, 1, 1, 0, 0, 1, 1, 0, 1] [0, 0, 0, 1, 1, 1, 1, 1, 1, 1, 1, 1, 1] Q (tephralaw13_RlogMerge.k1.st says more base t atv H2 Base Term Entries x1 x2 H4 x3 x5) = tephralaw13_RlogMerge.k1.body J says more base t atv H2 Base Term Entries x1 x2 H4 x3 x5 Q := by kernel_rfl
theorem tephralaw13_RlogMerge.k1.step {says : Sl} {more : Sl} {base : Int} {t : Int} {atv : Int} {H2 : Hp} {Base : Int} {Term : Int} {Entries : Sl} {x1 : Int} {x2 : Int} {H4 : Hp} {x3 : Int} {x5 : Bool} {Q : Value → Hp → Prop} (h : tephralaw13_RlogMerge.k1.body J0 says more base t atv H2 Base Term Entries x1 x2 H4 x3 x5 Q) : tephralaw13_RlogMerge.k1 J0 says more base t atv H2 Base Term Entries x1 x2 H4 x3 x5 Q := step_of (vSeg Try.prog tephralaw13_RlogMerge.cf J0 tephralaw13_RlogMerge.fn [1, 1, 1, 0, 1, 0, 0, 1, 1, 0, 0, 1, 1, 0, 1] [0, 0, 0, 1, 1, 1, 1, 1, 1, 1, 1, 1, 1] Q) (tephralaw13_RlogMerge.k1.st says more base t atv H2 Base Term Entries x1 x2 H4 x3 x5) (tephralaw13_RlogMerge.k1.eq J0 says more base t atv H2 Base Term Entries x1 x2 H4 x3 x5 Q) (by kernel_rfl) h
def tephralaw13_RlogMerge.k2.body (J : Jn) (says : Sl) (more : Sl) (base : Int) (t : Int) (atv : Int) (H2 : Hp) (Base : Int) (Term : Int) (Entries : Sl) (x1 : Int) (x2 : Int) (H5 : Hp) (x6 : Sl) (x7 : Bool) (Q : Value → Hp → Prop) : Prop :=
 
 Br x7 (((0 : Int) ≤ 1 ∧ (1 : Int) ≤ ((x6.len : Nat) : Int)) ∧ 
 SCalls Try.prog rlog_Log_Merge.id [.agg #[.int .i64 Base, .int .i64 Term, .slice Entries.a Entries.len Entries.cap], .int .i64 x2, .int .i64 (w64 ((Int.tmod atv 7))), .slice (cutA x6.a x6.cap 1 8) (x6.len - 1) (x6.cap - 1)] H5 (fun r4 H6 => ∃ Base1 : Int, ∃ Term1 : Int, ∃ Entries1 : Sl, ∃ x8 : Bool, r4 = .tuple #[.agg #[.int .i64 Base1, .int .i64 Term1, .slice Entries1.a Entries1.len Entries1.cap], .bool x8] ∧ 
 SCalls Try.prog tephralaw13_merge.id [.agg #[.int .i64 Base, .int .i64 Term, .slice Entries.a Entries.len Entries.cap], .int .i64 x2, .int .i64 (w64 ((Int.tmod atv 7))), .slice (cutA x6.a x6.cap 1 8) (x6.len - 1) (x6.cap - 1)] (holes H6 1) (fun r5 H7 => ∃ Base2 : Int, ∃ Term2 : Int, ∃ Entries2 : Sl, ∃ x9 : Bool, r5 = .tuple #[.agg #[.int .i64 Base2, .int .i64 Term2, .slice Entries2.a Entries2.len Entries2.cap], .bool x9] ∧ 
 Br (!(x8 == x9)) (
 tephralaw13_RlogMerge.k3 J says more base t atv H2 Base Term Entries x1 Base1 Term1 Entries1 Base2 Term2 Entries2 true (holes H7 1) Q)
 (
 SCalls Try.prog tephralaw13_Same.id [.agg #[.int .i64 Base1, .int .i64 Term1, .slice Entries1.a Entries1.len Entries1.cap], .agg #[.int .i64 Base2, .int .i64 Term2, .slice Entries2.a Entries2.len Entries2.cap]] (holes H7 1) (fun r6 H8 => ∃ x10 : Bool, r6 = .bool x10 ∧ 
 tephralaw13_RlogMerge.k3 J says more base t atv H2 Base Term Entries x1 Base1 Term1 Entries1 Base2 Term2 Entries2 (!x10) H8 Q)))))
 (
 SCalls Try.prog rlog_Log_Merge.id [.agg #[.int .i64 Base, .int .i64 Term, .slice Entries.a Entries.len Entries.cap], .int .i64 x2, .int .i64 (w64 ((Int.tmod atv 7))), .slice x6.a x6.len x6.cap] H5 (fun r7 H10 => ∃ Base3 : Int, ∃ Term3 : Int, ∃ Entries3 : Sl, ∃ x12 : Bool, r7 = .tuple #[.agg #[.int .i64 Base3, .int .i64 Term3, .slice Entries3.a Entries3.len Entries3.cap], .bool x12] ∧ 
 SCalls Try.prog tephralaw13_merge.id [.agg #[.int .i64 Base, .int .i64 Term, .slice Entries.a Entries.len Entries.cap], .int .i64 x2, .int .i64 (w64 ((Int.tmod atv 7))), .slice x6.a x6.len x6.cap] (holes H10 1) (fun r8 H11 => ∃ Base4 : Int, ∃ Term4 : Int, ∃ Entries4 : Sl, ∃ x13 : Bool, r8 = .tuple #[.agg #[.int .i64 Base4, .int .i64 Term4, .slice Entries4.a Entries4.len Entries4.cap], .bool x13] ∧ 
 Br (!(x12 == x13)) (
 tephralaw13_RlogMerge.k4 J says more base t atv H2 Base Term Entries x1 Base3 Term3 Entries3 Base4 Term4 Entries4 true (holes H11 1) Q)
 (
 SCalls Try.prog tephralaw13_Same.id [.agg #[.int .i64 Base3, .int .i64 Term3, .slice Entries3.a Entries3.len Entries3.cap], .agg #[.int .i64 Base4, .int .i64 Term4, .slice Entries4.a Entries4.len Entries4.cap]] (holes H11 1) (fun r9 H12 => ∃ x14 : Bool, r9 = .bool x14 ∧ 
 tephralaw13_RlogMerge.k4 J says more base t atv H2 Base Term Entries x1 Base3 Term3 Entries3 Base4 Term4 Entries4 (!x14) H12 Q)))))
theorem tephralaw13_RlogMerge.k2.eq (J : Jn) (says : Sl) (more : Sl) (base : Int) (t : Int) (atv : Int) (H2 : Hp) (Base : Int) (Term : Int) (Entries : Sl) (x1 : Int) (x2 : Int) (H5 : Hp) (x6 : Sl) (x7 : Bool) (Q : Value → Hp → Prop) : vSeg Try.prog tephralaw13_RlogMerge.cf J tephralaw13_RlogMerge.fn [1, 1, 1, 0, 1, 0, 0, 1, 1, 0, 0, 1, 1, 1, 1, 0, 1] [0, 0, 0, 1, 1, 1, 1, 1, 1, 1, 1, 1, 1, 1, 1] Q (tephralaw13_RlogMerge.k2.st says more base t atv H2 Base Term Entries x1 x2 H5 x6 x7) = tephralaw13_RlogMerge.k2.body J says more base t atv H2 Base Term Entries x1 x2 H5 x6 x7 Q := by kernel_rfl
theorem tephralaw13_RlogMerge.k2.step {says : Sl} {more : Sl} {base : Int} {t : Int} {atv : Int} {H2 : Hp} {Base : Int} {Term : Int} {Entries : Sl} {x1 : Int} {x2 : Int} {H5 : Hp} {x6 : Sl} {x7 : Bool} {Q : Value → Hp → Prop} (h : tephralaw13_RlogMerge.k2.body J0 says more base t atv H2 Base Term Entries x1 x2 H5 x6 x7 Q) : tephralaw13_RlogMerge.k2 J0 says more base t atv H2 Base Term Entries x1 x2 H5 x6 x7 Q := step_of (vSeg Try.prog tephralaw13_RlogMerge.cf J0 tephralaw13_RlogMerge.fn [1, 1, 1, 0, 1, 0, 0, 1, 1, 0, 0, 1, 1, 1, 1, 0, 1] [0, 0, 0, 1, 1, 1, 1, 1, 1, 1, 1, 1, 1, 1, 1] Q) (tephralaw13_RlogMerge.k2.st says more base t atv H2 Base Term Entries x1 x2 H5 x6 x7) (tephralaw13_RlogMerge.k2.eq J0 says more base t atv H2 Base Term Entries x1 x2 H5 x6 x7 Q) (by kernel_rfl) h
def tephralaw13_RlogMerge.k3.body (J : Jn) (says : Sl) (more : Sl) (base : Int) (t : Int) (atv : Int) (H2 : Hp) (Base : Int) (Term : Int) (Entries : Sl) (x1 : Int) (Base1 : Int) (Term1 : Int) (Entries1 : Sl) (Base2 : Int) (Term2 : Int) (Entries2 : Sl) (x11 : Bool) (H9 : Hp) (Q : Value → Hp → Prop) : Prop :=
 
 Br x11 (Q (.bool false) H9)
 (
 tephralaw13_RlogMerge.l1 J says more base t atv H2 Base Term Entries H9 (w64 (x1 + 1)) Q)
theorem tephralaw13_RlogMerge.k3.eq (J : Jn) (says : Sl) (more : Sl) (base : Int) (t : Int) (atv : Int) (H2 : Hp) (Base : Int) (Term : Int) (Entries : Sl) (x1 : Int) (Base1 : Int) (Term1 : Int) (Entries1 : Sl) (Base2 : Int) (Term2 : Int) (Entries2 : Sl) (x11 : Bool) (H9 : Hp) (Q : Value → Hp → Prop) : vSeg Try.prog tephralaw13_RlogMerge.cf J tephralaw13_RlogMerge.fn [1, 1, 1, 0, 1, 0, 0, 1, 1, 0, 0, 1, 1, 1, 1, 1, 1, 1, 1] [0, 0, 0, 1, 1, 1, 1, 1, 1, 1, 1, 1, 1, 1, 1, 2, 3] Q (tephralaw13_RlogMerge.k3.st says more base t atv H2 Base Term Entries x1 Base1 Term1 Entries1 Base2 Term2 Entries2 x11 H9) = tephralaw13_RlogMerge.k3.body J says more base t atv H2 Base Term Entries x1 Base1 Term1 Entries1 Base2 Term2 Entries2 x11 H9 Q := by kernel_rfl
theorem tephralaw13_RlogMerge.k3.step {says : Sl} {more : Sl} {base : Int} {t : Int} {atv : Int} {H2 : Hp} {Base : Int} {Term : Int} {Entries : Sl} {x1 : Int} {Base1 : Int} {Term1 : Int} {Entries1 : Sl} {Base2 : Int} {Term2 : Int} {Entries2 : Sl} {x11 : Bool} {H9 : Hp} {Q : Value → Hp → Prop} (h : tephralaw13_RlogMerge.k3.body J0 says more base t atv H2 Base Term Entries x1 Base1 Term1 Entries1 Base2 Term2 Entries2 x11 H9 Q) : tephralaw13_RlogMerge.k3 J0 says more base t atv H2 Base Term Entries x1 Base1 Term1 Entries1 Base2 Term2 Entries2 x11 H9 Q := step_of (vSeg Try.prog tephralaw13_RlogMerge.cf J0 tephralaw13_RlogMerge.fn [1, 1, 1, 0, 1, 0, 0, 1, 1, 0, 0, 1, 1, 1, 1, 1, 1, 1, 1] [0, 0, 0, 1, 1, 1, 1, 1, 1, 1, 1, 1, 1, 1, 1, 2, 3] Q) (tephralaw13_RlogMerge.k3.st says more base t atv H2 Base Term Entries x1 Base1 Term1 Entries1 Base2 Term2 Entries2 x11 H9) (tephralaw13_RlogMerge.k3.eq J0 says more base t atv H2 Base Term Entries x1 Base1 Term1 Entries1 Base2 Term2 Entries2 x11 H9 Q) (by kernel_rfl) h
def tephralaw13_RlogMerge.k4.body (J : Jn) (says : Sl) (more : Sl) (base : Int) (t : Int) (atv : Int) (H2 : Hp) (Base : Int) (Term : Int) (Entries : Sl) (x1 : Int) (Base3 : Int) (Term3 : Int) (Entries3 : Sl) (Base4 : Int) (Term4 : Int) (Entries4 : Sl) (x15 : Bool) (H13 : Hp) (Q : Value → Hp → Prop) : Prop :=
 
 Br x15 (Q (.bool false) H13)
 (
 tephralaw13_RlogMerge.l1 J says more base t atv H2 Base Term Entries H13 (w64 (x1 + 1)) Q)
theorem tephralaw13_RlogMerge.k4.eq (J : Jn) (says : Sl) (more : Sl) (base : Int) (t : Int) (atv : Int) (H2 : Hp) (Base : Int) (Term : Int) (Entries : Sl) (x1 : Int) (Base3 : Int) (Term3 : Int) (Entries3 : Sl) (Base4 : Int) (Term4 : Int) (Entries4 : Sl) (x15 : Bool) (H13 : Hp) (Q : Value → Hp → Prop) : vSeg Try.prog tephralaw13_RlogMerge.cf J tephralaw13_RlogMerge.fn [1, 1, 1, 0, 1, 0, 0, 1, 1, 0, 0, 1, 1, 1, 1, 1, 1, 1, 1] [0, 0, 0, 1, 1, 1, 1, 1, 1, 1, 1, 1, 1, 1, 1, 2, 3] Q (tephralaw13_RlogMerge.k4.st says more base t atv H2 Base Term Entries x1 Base3 Term3 Entries3 Base4 Term4 Entries4 x15 H13) = tephralaw13_RlogMerge.k4.body J says more base t atv H2 Base Term Entries x1 Base3 Term3 Entries3 Base4 Term4 Entries4 x15 H13 Q := by kernel_rfl
theorem tephralaw13_RlogMerge.k4.step {says : Sl} {more : Sl} {base : Int} {t : Int} {atv : Int} {H2 : Hp} {Base : Int} {Term : Int} {Entries : Sl} {x1 : Int} {Base3 : Int} {Term3 : Int} {Entries3 : Sl} {Base4 : Int} {Term4 : Int} {Entries4 : Sl} {x15 : Bool} {H13 : Hp} {Q : Value → Hp → Prop} (h : tephralaw13_RlogMerge.k4.body J0 says more base t atv H2 Base Term Entries x1 Base3 Term3 Entries3 Base4 Term4 Entries4 x15 H13 Q) : tephralaw13_RlogMerge.k4 J0 says more base t atv H2 Base Term Entries x1 Base3 Term3 Entries3 Base4 Term4 Entries4 x15 H13 Q := step_of (vSeg Try.prog tephralaw13_RlogMerge.cf J0 tephralaw13_RlogMerge.fn [1, 1, 1, 0, 1, 0, 0, 1, 1, 0, 0, 1, 1, 1, 1, 1, 1, 1, 1] [0, 0, 0, 1, 1, 1, 1, 1, 1, 1, 1, 1, 1, 1, 1, 2, 3] Q) (tephralaw13_RlogMerge.k4.st says more base t atv H2 Base Term Entries x1 Base3 Term3 Entries3 Base4 Term4 Entries4 x15 H13) (tephralaw13_RlogMerge.k4.eq J0 says more base t atv H2 Base Term Entries x1 Base3 Term3 Entries3 Base4 Term4 Entries4 x15 H13 Q) (by kernel_rfl) h
def tephralaw13_RlogMerge.k5.body (J : Jn) (says : Sl) (more : Sl) (base : Int) (t : Int) (atv : Int) (H2 : Hp) (Base : Int) (Term : Int) (Entries : Sl) (x1 : Int) (x2 : Int) (x3 : Int) (H14 : Hp) (x16 : Sl) (x17 : Bool) (Q : Value → Hp → Prop) : Prop :=
 
 Br x17 (((0 : Int) ≤ 1 ∧ (1 : Int) ≤ ((x16.len : Nat) : Int)) ∧ 
 SCalls Try.prog rlog_Log_Merge.id [.agg #[.int .i64 Base, .int .i64 Term, .slice Entries.a Entries.len Entries.cap], .int .i64 x2, .int .i64 x3, .slice (cutA x16.a x16.cap 1 8) (x16.len - 1) (x16.cap - 1)] H14 (fun r11 H15 => ∃ Base5 : Int, ∃ Term5 : Int, ∃ Entries5 : Sl, ∃ x18 : Bool, r11 = .tuple #[.agg #[.int .i64 Base5, .int .i64 Term5, .slice Entries5.a Entries5.len Entries5.cap], .bool x18] ∧ 
 SCalls Try.prog tephralaw13_merge.id [.agg #[.int .i64 Base, .int .i64 Term, .slice Entries.a Entries.len Entries.cap], .int .i64 x2, .int .i64 x3, .slice (cutA x16.a x16.cap 1 8) (x16.len - 1) (x16.cap - 1)] (holes H15 1) (fun r12 H16 => ∃ Base6 : Int, ∃ Term6 : Int, ∃ Entries6 : Sl, ∃ x19 : Bool, r12 = .tuple #[.agg #[.int .i64 Base6, .int .i64 Term6, .slice Entries6.a Entries6.len Entries6.cap], .bool x19] ∧ 
 Br (!(x18 == x19)) (
 tephralaw13_RlogMerge.k6 J says more base t atv H2 Base Term Entries x1 Base5 Term5 Entries5 Base6 Term6 Entries6 true (holes H16 1) Q)
 (
 SCalls Try.prog tephralaw13_Same.id [.agg #[.int .i64 Base5, .int .i64 Term5, .slice Entries5.a Entries5.len Entries5.cap], .agg #[.int .i64 Base6, .int .i64 Term6, .slice Entries6.a Entries6.len Entries6.cap]] (holes H16 1) (fun r13 H17 => ∃ x20 : Bool, r13 = .bool x20 ∧ 
 tephralaw13_RlogMerge.k6 J says more base t atv H2 Base Term Entries x1 Base5 Term5 Entries5 Base6 Term6 Entries6 (!x20) H17 Q)))))
 (
 SCalls Try.prog rlog_Log_Merge.id [.agg #[.int .i64 Base, .int .i64 Term, .slice Entries.a Entries.len Entries.cap], .int .i64 x2, .int .i64 x3, .slice x16.a x16.len x16.cap] H14 (fun r14 H19 => ∃ Base7 : Int, ∃ Term7 : Int, ∃ Entries7 : Sl, ∃ x22 : Bool, r14 = .tuple #[.agg #[.int .i64 Base7, .int .i64 Term7, .slice Entries7.a Entries7.len Entries7.cap], .bool x22] ∧ 
 SCalls Try.prog tephralaw13_merge.id [.agg #[.int .i64 Base, .int .i64 Term, .slice Entries.a Entries.len Entries.cap], .int .i64 x2, .int .i64 x3, .slice x16.a x16.len x16.cap] (holes H19 1) (fun r15 H20 => ∃ Base8 : Int, ∃ Term8 : Int, ∃ Entries8 : Sl, ∃ x23 : Bool, r15 = .tuple #[.agg #[.int .i64 Base8, .int .i64 Term8, .slice Entries8.a Entries8.len Entries8.cap], .bool x23] ∧ 
 Br (!(x22 == x23)) (
 tephralaw13_RlogMerge.k7 J says more base t atv H2 Base Term Entries x1 Base7 Term7 Entries7 Base8 Term8 Entries8 true (holes H20 1) Q)
 (
 SCalls Try.prog tephralaw13_Same.id [.agg #[.int .i64 Base7, .int .i64 Term7, .slice Entries7.a Entries7.len Entries7.cap], .agg #[.int .i64 Base8, .int .i64 Term8, .slice Entries8.a Entries8.len Entries8.cap]] (holes H20 1) (fun r16 H21 => ∃ x24 : Bool, r16 = .bool x24 ∧ 
 tephralaw13_RlogMerge.k7 J says more base t atv H2 Base Term Entries x1 Base7 Term7 Entries7 Base8 Term8 Entries8 (!x24) H21 Q)))))
theorem tephralaw13_RlogMerge.k5.eq (J : Jn) (says : Sl) (more : Sl) (base : Int) (t : Int) (atv : Int) (H2 : Hp) (Base : Int) (Term : Int) (Entries : Sl) (x1 : Int) (x2 : Int) (x3 : Int) (H14 : Hp) (x16 : Sl) (x17 : Bool) (Q : Value → Hp → Prop) : vSeg Try.prog tephralaw13_RlogMerge.cf J tephralaw13_RlogMerge.fn [1, 1, 1, 0, 1, 0, 0, 1, 1, 0, 0, 1, 1, 1, 1, 0, 1] [0, 0, 0, 1, 1, 1, 1, 1, 1, 1, 1, 1, 1, 1, 1] Q (tephralaw13_RlogMerge.k5.st says more base t atv H2 Base Term Entries x1 x2 x3 H14 x16 x17) = tephralaw13_RlogMerge.k5.body J says more base t atv H2 Base Term Entries x1 x2 x3 H14 x16 x17 Q := by kernel_rfl
theorem tephralaw13_RlogMerge.k5.step {says : Sl} {more : Sl} {base : Int} {t : Int} {atv : Int} {H2 : Hp} {Base : Int} {Term : Int} {Entries : Sl} {x1 : Int} {x2 : Int} {x3 : Int} {H14 : Hp} {x16 : Sl} {x17 : Bool} {Q : Value → Hp → Prop} (h : tephralaw13_RlogMerge.k5.body J0 says more base t atv H2 Base Term Entries x1 x2 x3 H14 x16 x17 Q) : tephralaw13_RlogMerge.k5 J0 says more base t atv H2 Base Term Entries x1 x2 x3 H14 x16 x17 Q := step_of (vSeg Try.prog tephralaw13_RlogMerge.cf J0 tephralaw13_RlogMerge.fn [1, 1, 1, 0, 1, 0, 0, 1, 1, 0, 0, 1, 1, 1, 1, 0, 1] [0, 0, 0, 1, 1, 1, 1, 1, 1, 1, 1, 1, 1, 1, 1] Q) (tephralaw13_RlogMerge.k5.st says more base t atv H2 Base Term Entries x1 x2 x3 H14 x16 x17) (tephralaw13_RlogMerge.k5.eq J0 says more base t atv H2 Base Term Entries x1 x2 x3 H14 x16 x17 Q) (by kernel_rfl) h
def tephralaw13_RlogMerge.k6.body (J : Jn) (says : Sl) (more : Sl) (base : Int) (t : Int) (atv : Int) (H2 : Hp) (Base : Int) (Term : Int) (Entries : Sl) (x1 : Int) (Base5 : Int) (Term5 : Int) (Entries5 : Sl) (Base6 : Int) (Term6 : Int) (Entries6 : Sl) (x21 : Bool) (H18 : Hp) (Q : Value → Hp → Prop) : Prop :=
 
 Br x21 (Q (.bool false) H18)
 (
 tephralaw13_RlogMerge.l1 J says more base t atv H2 Base Term Entries H18 (w64 (x1 + 1)) Q)
theorem tephralaw13_RlogMerge.k6.eq (J : Jn) (says : Sl) (more : Sl) (base : Int) (t : Int) (atv : Int) (H2 : Hp) (Base : Int) (Term : Int) (Entries : Sl) (x1 : Int) (Base5 : Int) (Term5 : Int) (Entries5 : Sl) (Base6 : Int) (Term6 : Int) (Entries6 : Sl) (x21 : Bool) (H18 : Hp) (Q : Value → Hp → Prop) : vSeg Try.prog tephralaw13_RlogMerge.cf J tephralaw13_RlogMerge.fn [1, 1, 1, 0, 1, 0, 0, 1, 1, 0, 0, 1, 1, 1, 1, 1, 1, 1, 1] [0, 0, 0, 1, 1, 1, 1, 1, 1, 1, 1, 1, 1, 1, 1, 2, 3] Q (tephralaw13_RlogMerge.k6.st says more base t atv H2 Base Term Entries x1 Base5 Term5 Entries5 Base6 Term6 Entries6 x21 H18) = tephralaw13_RlogMerge.k6.body J says more base t atv H2 Base Term Entries x1 Base5 Term5 Entries5 Base6 Term6 Entries6 x21 H18 Q := by kernel_rfl
theorem tephralaw13_RlogMerge.k6.step {says : Sl} {more : Sl} {base : Int} {t : Int} {atv : Int} {H2 : Hp} {Base : Int} {Term : Int} {Entries : Sl} {x1 : Int} {Base5 : Int} {Term5 : Int} {Entries5 : Sl} {Base6 : Int} {Term6 : Int} {Entries6 : Sl} {x21 : Bool} {H18 : Hp} {Q : Value → Hp → Prop} (h : tephralaw13_RlogMerge.k6.body J0 says more base t atv H2 Base Term Entries x1 Base5 Term5 Entries5 Base6 Term6 Entries6 x21 H18 Q) : tephralaw13_RlogMerge.k6 J0 says more base t atv H2 Base Term Entries x1 Base5 Term5 Entries5 Base6 Term6 Entries6 x21 H18 Q := step_of (vSeg Try.prog tephralaw13_RlogMerge.cf J0 tephralaw13_RlogMerge.fn [1, 1, 1, 0, 1, 0, 0, 1, 1, 0, 0, 1, 1, 1, 1, 1, 1, 1, 1] [0, 0, 0, 1, 1, 1, 1, 1, 1, 1, 1, 1, 1, 1, 1, 2, 3] Q) (tephralaw13_RlogMerge.k6.st says more base t atv H2 Base Term Entries x1 Base5 Term5 Entries5 Base6 Term6 Entries6 x21 H18) (tephralaw13_RlogMerge.k6.eq J0 says more base t atv H2 Base Term Entries x1 Base5 Term5 Entries5 Base6 Term6 Entries6 x21 H18 Q) (by kernel_rfl) h
def tephralaw13_RlogMerge.k7.body (J : Jn) (says : Sl) (more : Sl) (base : Int) (t : Int) (atv : Int) (H2 : Hp) (Base : Int) (Term : Int) (Entries : Sl) (x1 : Int) (Base7 : Int) (Term7 : Int) (Entries7 : Sl) (Base8 : Int) (Term8 : Int) (Entries8 : Sl) (x25 : Bool) (H22 : Hp) (Q : Value → Hp → Prop) : Prop :=
 
 Br x25 (Q (.bool false) H22)
 (
 tephralaw13_RlogMerge.l1 J says more base t atv H2 Base Term Entries H22 (w64 (x1 + 1)) Q)
theorem tephralaw13_RlogMerge.k7.eq (J : Jn) (says : Sl) (more : Sl) (base : Int) (t : Int) (atv : Int) (H2 : Hp) (Base : Int) (Term : Int) (Entries : Sl) (x1 : Int) (Base7 : Int) (Term7 : Int) (Entries7 : Sl) (Base8 : Int) (Term8 : Int) (Entries8 : Sl) (x25 : Bool) (H22 : Hp) (Q : Value → Hp → Prop) : vSeg Try.prog tephralaw13_RlogMerge.cf J tephralaw13_RlogMerge.fn [1, 1, 1, 0, 1, 0, 0, 1, 1, 0, 0, 1, 1, 1, 1, 1, 1, 1, 1] [0, 0, 0, 1, 1, 1, 1, 1, 1, 1, 1, 1, 1, 1, 1, 2, 3] Q (tephralaw13_RlogMerge.k7.st says more base t atv H2 Base Term Entries x1 Base7 Term7 Entries7 Base8 Term8 Entries8 x25 H22) = tephralaw13_RlogMerge.k7.body J says more base t atv H2 Base Term Entries x1 Base7 Term7 Entries7 Base8 Term8 Entries8 x25 H22 Q := by kernel_rfl
theorem tephralaw13_RlogMerge.k7.step {says : Sl} {more : Sl} {base : Int} {t : Int} {atv : Int} {H2 : Hp} {Base : Int} {Term : Int} {Entries : Sl} {x1 : Int} {Base7 : Int} {Term7 : Int} {Entries7 : Sl} {Base8 : Int} {Term8 : Int} {Entries8 : Sl} {x25 : Bool} {H22 : Hp} {Q : Value → Hp → Prop} (h : tephralaw13_RlogMerge.k7.body J0 says more base t atv H2 Base Term Entries x1 Base7 Term7 Entries7 Base8 Term8 Entries8 x25 H22 Q) : tephralaw13_RlogMerge.k7 J0 says more base t atv H2 Base Term Entries x1 Base7 Term7 Entries7 Base8 Term8 Entries8 x25 H22 Q := step_of (vSeg Try.prog tephralaw13_RlogMerge.cf J0 tephralaw13_RlogMerge.fn [1, 1, 1, 0, 1, 0, 0, 1, 1, 0, 0, 1, 1, 1, 1, 1, 1, 1, 1] [0, 0, 0, 1, 1, 1, 1, 1, 1, 1, 1, 1, 1, 1, 1, 2, 3] Q) (tephralaw13_RlogMerge.k7.st says more base t atv H2 Base Term Entries x1 Base7 Term7 Entries7 Base8 Term8 Entries8 x25 H22) (tephralaw13_RlogMerge.k7.eq J0 says more base t atv H2 Base Term Entries x1 Base7 Term7 Entries7 Base8 Term8 Entries8 x25 H22 Q) (by kernel_rfl) h
def tephralaw13_RlogMerge.vc (J : Jn) (says : Sl) (more : Sl) (base : Int) (t : Int) (prev : Int) (atv : Int) (H : Hp) (Q : Value → Hp → Prop) : Prop :=
 
 SCalls Try.prog tephralaw13_awake.id [] H (fun r H1 => ∃ x : Bool, r = .bool x ∧ 
 Br (!x) (Q (.bool false) H1)
 (
 SCalls Try.prog tephralaw13_Some.id [.slice says.a says.len says.cap, .int .u8 base, .int .u8 t] H1 (fun r1 H2 => ∃ Base : Int, ∃ Term : Int, ∃ Entries : Sl, r1 = .agg #[.int .i64 Base, .int .i64 Term, .slice Entries.a Entries.len Entries.cap] ∧ (8 : Int) ≠ 0 ∧ 
 tephralaw13_RlogMerge.l1 J says more base t atv H2 Base Term Entries (Array.push (holes H2 1) (.cells #[.int .i64 (w64 (prev)), .int .i64 (w64 (Base + (Int.tmod (w64 (prev)) 8)))] T_int)) 0 Q)))
theorem tephralaw13_RlogMerge.eq (J : Jn) (says : Sl) (more : Sl) (base : Int) (t : Int) (prev : Int) (atv : Int) (H : Hp) (Q : Value → Hp → Prop) : vFn Try.prog tephralaw13_RlogMerge.cf J tephralaw13_RlogMerge.fn [.slice says.a says.len says.cap, .slice more.a more.len more.cap, .int .u8 base, .int .u8 t, .int .i8 prev, .int .u8 atv] H Q = tephralaw13_RlogMerge.vc J says more base t prev atv H Q := by kernel_rfl
theorem tephralaw13_RlogMerge.calls {says : Sl} {more : Sl} {base : Int} {t : Int} {prev : Int} {atv : Int} {H : Hp} {Q : Value → Hp → Prop} (h : tephralaw13_RlogMerge.vc J0 says more base t prev atv H Q) : SCalls Try.prog tephralaw13_RlogMerge.id [.slice says.a says.len says.cap, .slice more.a more.len more.cap, .int .u8 base, .int .u8 t, .int .i8 prev, .int .u8 atv] H Q := vFn_of Try.mixed Try.func3 (tephralaw13_RlogMerge.eq J0 says more base t prev atv H Q) h

/-! 4: tephra/tephralaw13.RlogNewer -/
def tephralaw13_RlogNewer.cf : Cfg := ⟨[9, 10], [], [], []⟩
def tephralaw13_RlogNewer.vc (J : Jn) (a : Sl) (b : Sl) (x : Int) (y : Int) (H : Hp) (Q : Value → Hp → Prop) : Prop :=
 
 SCalls Try.prog tephralaw13_awake.id [] H (fun r H1 => ∃ x1 : Bool, r = .bool x1 ∧ 
 Br (!x1) (Q (.bool false) H1)
 (
 SCalls Try.prog tephralaw13_Some.id [.slice a.a a.len a.cap, .int .u8 0, .int .u8 x] H1 (fun r1 H2 => ∃ Base : Int, ∃ Term : Int, ∃ Entries : Sl, r1 = .agg #[.int .i64 Base, .int .i64 Term, .slice Entries.a Entries.len Entries.cap] ∧ 
 SCalls Try.prog tephralaw13_Some.id [.slice b.a b.len b.cap, .int .u8 0, .int .u8 y] H2 (fun r2 H3 => ∃ Base1 : Int, ∃ Term1 : Int, ∃ Entries1 : Sl, r2 = .agg #[.int .i64 Base1, .int .i64 Term1, .slice Entries1.a Entries1.len Entries1.cap] ∧ 
 SCalls Try.prog rlog_Log_Last.id [.agg #[.int .i64 Base1, .int .i64 Term1, .slice Entries1.a Entries1.len Entries1.cap]] (holes H3 2) (fun r3 H4 => ∃ x2 : Int, r3 = .int .i64 x2 ∧ 
 SCalls Try.prog rlog_Log_LastTerm.id [.agg #[.int .i64 Base1, .int .i64 Term1, .slice Entries1.a Entries1.len Entries1.cap]] H4 (fun r4 H5 => ∃ x3 : Int, r4 = .int .i64 x3 ∧ 
 SCalls Try.prog rlog_Log_Newer.id [.agg #[.int .i64 Base, .int .i64 Term, .slice Entries.a Entries.len Entries.cap], .int .i64 x2, .int .i64 x3] H5 (fun r5 H6 => ∃ x4 : Bool, r5 = .bool x4 ∧ 
 SCalls Try.prog rlog_Log_Last.id [.agg #[.int .i64 Base, .int .i64 Term, .slice Entries.a Entries.len Entries.cap]] H6 (fun r6 H7 => ∃ x5 : Int, r6 = .int .i64 x5 ∧ 
 SCalls Try.prog rlog_Log_LastTerm.id [.agg #[.int .i64 Base, .int .i64 Term, .slice Entries.a Entries.len Entries.cap]] H7 (fun r7 H8 => ∃ x6 : Int, r7 = .int .i64 x6 ∧ 
 SCalls Try.prog rlog_Log_Newer.id [.agg #[.int .i64 Base1, .int .i64 Term1, .slice Entries1.a Entries1.len Entries1.cap], .int .i64 x5, .int .i64 x6] H8 (fun r8 H9 => ∃ x7 : Bool, r8 = .bool x7 ∧ 
 Br x4 (
 Br x4 (
 SCalls Try.prog rlog_Log_Last.id [.agg #[.int .i64 Base, .int .i64 Term, .slice Entries.a Entries.len Entries.cap]] H9 (fun r9 H10 => ∃ x8 : Int, r9 = .int .i64 x8 ∧ 
 SCalls Try.prog rlog_Log_Last.id [.agg #[.int .i64 Base1, .int .i64 Term1, .slice Entries1.a Entries1.len Entries1.cap]] H10 (fun r10 H11 => ∃ x9 : Int, r10 = .int .i64 x9 ∧ 
 Br (x8 == x9) (
 SCalls Try.prog rlog_Log_LastTerm.id [.agg #[.int .i64 Base, .int .i64 Term, .slice Entries.a Entries.len Entries.cap]] H11 (fun r11 H12 => ∃ x10 : Int, r11 = .int .i64 x10 ∧ 
 SCalls Try.prog rlog_Log_LastTerm.id [.agg #[.int .i64 Base1, .int .i64 Term1, .slice Entries1.a Entries1.len Entries1.cap]] H12 (fun r12 H13 => ∃ x11 : Int, r12 = .int .i64 x11 ∧ Q (.bool (x7 == (x10 == x11))) H13)))
 (Q (.bool (x7 == false)) H11))))
 (
 SCalls Try.prog rlog_Log_Last.id [.agg #[.int .i64 Base, .int .i64 Term, .slice Entries.a Entries.len Entries.cap]] H9 (fun r13 H14 => ∃ x12 : Int, r13 = .int .i64 x12 ∧ 
 SCalls Try.prog rlog_Log_Last.id [.agg #[.int .i64 Base1, .int .i64 Term1, .slice Entries1.a Entries1.len Entries1.cap]] H14 (fun r14 H15 => ∃ x13 : Int, r14 = .int .i64 x13 ∧ 
 Br (x12 == x13) (
 SCalls Try.prog rlog_Log_LastTerm.id [.agg #[.int .i64 Base, .int .i64 Term, .slice Entries.a Entries.len Entries.cap]] H15 (fun r15 H16 => ∃ x14 : Int, r15 = .int .i64 x14 ∧ 
 SCalls Try.prog rlog_Log_LastTerm.id [.agg #[.int .i64 Base1, .int .i64 Term1, .slice Entries1.a Entries1.len Entries1.cap]] H16 (fun r16 H17 => ∃ x15 : Int, r16 = .int .i64 x15 ∧ Q (.bool (false == (x14 == x15))) H17)))
 (Q (.bool (false == false)) H15)))))
 (
 Br x7 (
 Br x4 (
 SCalls Try.prog rlog_Log_Last.id [.agg #[.int .i64 Base, .int .i64 Term, .slice Entries.a Entries.len Entries.cap]] H9 (fun r17 H18 => ∃ x16 : Int, r17 = .int .i64 x16 ∧ 
 SCalls Try.prog rlog_Log_Last.id [.agg #[.int .i64 Base1, .int .i64 Term1, .slice Entries1.a Entries1.len Entries1.cap]] H18 (fun r18 H19 => ∃ x17 : Int, r18 = .int .i64 x17 ∧ 
 Br (x16 == x17) (
 SCalls Try.prog rlog_Log_LastTerm.id [.agg #[.int .i64 Base, .int .i64 Term, .slice Entries.a Entries.len Entries.cap]] H19 (fun r19 H20 => ∃ x18 : Int, r19 = .int .i64 x18 ∧ 
 SCalls Try.prog rlog_Log_LastTerm.id [.agg #[.int .i64 Base1, .int .i64 Term1, .slice Entries1.a Entries1.len Entries1.cap]] H20 (fun r20 H21 => ∃ x19 : Int, r20 = .int .i64 x19 ∧ Q (.bool (x7 == (x18 == x19))) H21)))
 (Q (.bool (x7 == false)) H19))))
 (
 SCalls Try.prog rlog_Log_Last.id [.agg #[.int .i64 Base, .int .i64 Term, .slice Entries.a Entries.len Entries.cap]] H9 (fun r21 H22 => ∃ x20 : Int, r21 = .int .i64 x20 ∧ 
 SCalls Try.prog rlog_Log_Last.id [.agg #[.int .i64 Base1, .int .i64 Term1, .slice Entries1.a Entries1.len Entries1.cap]] H22 (fun r22 H23 => ∃ x21 : Int, r22 = .int .i64 x21 ∧ 
 Br (x20 == x21) (
 SCalls Try.prog rlog_Log_LastTerm.id [.agg #[.int .i64 Base, .int .i64 Term, .slice Entries.a Entries.len Entries.cap]] H23 (fun r23 H24 => ∃ x22 : Int, r23 = .int .i64 x22 ∧ 
 SCalls Try.prog rlog_Log_LastTerm.id [.agg #[.int .i64 Base1, .int .i64 Term1, .slice Entries1.a Entries1.len Entries1.cap]] H24 (fun r24 H25 => ∃ x23 : Int, r24 = .int .i64 x23 ∧ Q (.bool (false == (x22 == x23))) H25)))
 (Q (.bool (false == false)) H23)))))
 (Q (.bool false) H9))))))))))))
theorem tephralaw13_RlogNewer.eq (J : Jn) (a : Sl) (b : Sl) (x : Int) (y : Int) (H : Hp) (Q : Value → Hp → Prop) : vFn Try.prog tephralaw13_RlogNewer.cf J tephralaw13_RlogNewer.fn [.slice a.a a.len a.cap, .slice b.a b.len b.cap, .int .u8 x, .int .u8 y] H Q = tephralaw13_RlogNewer.vc J a b x y H Q := by kernel_rfl
theorem tephralaw13_RlogNewer.calls {a : Sl} {b : Sl} {x : Int} {y : Int} {H : Hp} {Q : Value → Hp → Prop} (h : tephralaw13_RlogNewer.vc J0 a b x y H Q) : SCalls Try.prog tephralaw13_RlogNewer.id [.slice a.a a.len a.cap, .slice b.a b.len b.cap, .int .u8 x, .int .u8 y] H Q := vFn_of Try.mixed Try.func4 (tephralaw13_RlogNewer.eq J0 a b x y H Q) h

/-! 6: tephra/tephralaw13.RlogAt -/
def tephralaw13_RlogAt.cf : Cfg := ⟨[11, 21], [(15, [2, 3, 11, 18, 105, 106, 107])], [(9, [2, 3, 4, 11, 16, 17, 18, 87], true)], [(150, [132, 138, 150])]⟩
def tephralaw13_RlogAt.k1.st (t : Int) (i : Int) (most : Int) (Base : Int) (Term : Int) (Entries : Sl) (x5 : Sl) (x6 : Bool) (x8 : Int) (x12 : Bool) (H10 : Hp) : VS := ⟨mkFr 153 [(2, .v (.int .u8 t)), (3, .v (.int .i8 i)), (4, .v (.int .i8 most)), (11, .loc 0 0), (16, .v (.slice x5.a x5.len x5.cap)), (17, .v (.bool x6)), (18, .v (.int .i64 x8)), (87, .v (.bool x12))], [(T_rlog_Log, [.int .i64 Base, .int .i64 Term, .slice Entries.a Entries.len Entries.cap])], H10⟩
def tephralaw13_RlogAt.k1 (J : Jn) (t : Int) (i : Int) (most : Int) (Base : Int) (Term : Int) (Entries : Sl) (x5 : Sl) (x6 : Bool) (x8 : Int) (x12 : Bool) (H10 : Hp) (Q : Value → Hp → Prop) : Prop := J (vSeg Try.prog tephralaw13_RlogAt.cf J tephralaw13_RlogAt.fn [1, 1, 1, 1, 1, 1, 1, 0, 1] [0, 0, 0, 1, 1, 1, 1, 1, 1] Q) (tephralaw13_RlogAt.k1.st t i most Base Term Entries x5 x6 x8 x12 H10)
def tephralaw13_RlogAt.l1.st (t : Int) (i : Int) (Base : Int) (Term : Int) (Entries : Sl) (x5 : Sl) (x8 : Int) (H12 : Hp) (x14 : Int) : VS := ⟨mkFr 153 [(2, .v (.int .u8 t)), (3, .v (.int .i8 i)), (11, .loc 0 0), (18, .v (.int .i64 x8)), (105, .v (.slice x5.a x5.len x5.cap)), (106, .v (.int .i64 ((x5.len : Nat) : Int))), (107, .v (.int .i64 x14))], [(T_rlog_Log, [.int .i64 Base, .int .i64 Term, .slice Entries.a Entries.len Entries.cap])], H12⟩
def tephralaw13_RlogAt.l1 (J : Jn) (t : Int) (i : Int) (Base : Int) (Term : Int) (Entries : Sl) (x5 : Sl) (x8 : Int) (H12 : Hp) (x14 : Int) (Q : Value → Hp → Prop) : Prop := vAt Try.prog tephralaw13_RlogAt.cf J tephralaw13_RlogAt.fn [1, 1, 1, 1, 1, 1, 1, 1, 1, 1, 0, 1, 0] [0, 0, 0, 1, 1, 1, 1, 1, 1, 1, 1, 1] Q (tephralaw13_RlogAt.l1.st t i Base Term Entries x5 x8 H12 x14)
def tephralaw13_RlogAt.k2.st (Base : Int) (Term : Int) (Entries : Sl) (H13 : Hp) (x15 : Bool) : VS := ⟨mkFr 153 [(132, .v (.bool x15)), (138, .v (.bool true)), (150, .v (.tuple #[]))], [(T_rlog_Log, [.int .i64 Base, .int .i64 Term, .slice Entries.a Entries.len Entries.cap])], H13⟩
def tephralaw13_RlogAt.k2 (J : Jn) (Base : Int) (Term : Int) (Entries : Sl) (H13 : Hp) (x15 : Bool) (Q : Value → Hp → Prop) : Prop := J (vMid Try.prog tephralaw13_RlogAt.cf J tephralaw13_RlogAt.fn [1, 1, 1, 1, 1, 1, 1, 1, 1, 1, 1, 0] [0, 0, 0, 1, 1, 1, 1, 1, 1, 1, 1, 1] 25 Q) (tephralaw13_RlogAt.k2.st Base Term Entries H13 x15)
def tephralaw13_RlogAt.k3.st (Base : Int) (Term : Int) (Entries : Sl) (x15 : Bool) (x17 : Bool) (H15 : Hp) : VS := ⟨mkFr 153 [(132, .v (.bool x15)), (138, .v (.bool false)), (150, .v (.bool x17))], [(T_rlog_Log, [.int .i64 Base, .int .i64 Term, .slice Entries.a Entries.len Entries.cap])], H15⟩
def tephralaw13_RlogAt.k3 (J : Jn) (Base : Int) (Term : Int) (Entries : Sl) (x15 : Bool) (x17 : Bool) (H15 : Hp) (Q : Value → Hp → Prop) : Prop := J (vMid Try.prog tephralaw13_RlogAt.cf J tephralaw13_RlogAt.fn [1, 1, 1, 1, 1, 1, 1, 1, 1, 1, 1, 0] [0, 0, 0, 1, 1, 1, 1, 1, 1, 1, 1, 1] 25 Q) (tephralaw13_RlogAt.k3.st Base Term Entries x15 x17 H15)
attribute [irreducible] tephralaw13_RlogAt.k1 tephralaw13_RlogAt.l1 tephralaw13_RlogAt.k2 tephralaw13_RlogAt.k3
def tephralaw13_RlogAt.k1.body (J : Jn) (t : Int) (i : Int) (most : Int) (Base : Int) (Term : Int) (Entries : Sl) (x5 : Sl) (x6 : Bool) (x8 : Int) (x12 : Bool) (H10 : Hp) (Q : Value → Hp → Prop) : Prop :=
 
 Br x12 (Q (.bool false) H10)
 (
 Br (!x6) (Q (.bool (((x5.len : Nat) : Int) == 0)) H10)
 (
 SCalls Try.prog rlog_Log_Last.id [.agg #[.int .i64 Base, .int .i64 Term, .slice Entries.a Entries.len Entries.cap]] H10 (fun r9 H11 => ∃ x13 : Int, r9 = .int .i64 x13 ∧ 
 Br (((x5.len : Nat) : Int) != (if (if (w64 (x13 - (w64 (i)))) < (w64 (most)) then (w64 (x13 - (w64 (i)))) else (w64 (most))) > 0 then (if (w64 (x13 - (w64 (i)))) < (w64 (most)) then (w64 (x13 - (w64 (i)))) else (w64 (most))) else 0)) (Q (.bool false) H11)
 (
 tephralaw13_RlogAt.l1 J t i Base Term Entries x5 x8 H11 0 Q))))
theorem tephralaw13_RlogAt.k1.eq (J : Jn) (t : Int) (i : Int) (most : Int) (Base : Int) (Term : Int) (Entries : Sl) (x5 : Sl) (x6 : Bool) (x8 : Int) (x12 : Bool) (H10 : Hp) (Q : Value → Hp → Prop) : vSeg Try.prog tephralaw13_RlogAt.cf J tephralaw13_RlogAt.fn [1, 1, 1, 1, 1, 1, 1, 0, 1] [0, 0, 0, 1, 1, 1, 1, 1, 1] Q (tephralaw13_RlogAt.k1.st t i most Base Term Entries x5 x6 x8 x12 H10) = tephralaw13_RlogAt.k1.body J t i most Base Term Entries x5 x6 x8 x12 H10 Q := by kernel_rfl
theorem tephralaw13_RlogAt.k1.step {t : Int} {i : Int} {most : Int} {Base : Int} {Term : Int} {Entries : Sl} {x5 : Sl} {x6 : Bool} {x8 : Int} {x12 : Bool} {H10 : Hp} {Q : Value → Hp → Prop} (h : tephralaw13_RlogAt.k1.body J0 t i most Base Term Entries x5 x6 x8 x12 H10 Q) : tephralaw13_RlogAt.k1 J0 t i most Base Term Entries x5 x6 x8 x12 H10 Q := step_of (vSeg Try.prog tephralaw13_RlogAt.cf J0 tephralaw13_RlogAt.fn [1, 1, 1, 1, 1, 1, 1, 0, 1] [0, 0, 0, 1, 1, 1, 1, 1, 1] Q) (tephralaw13_RlogAt.k1.st t i most Base Term Entries x5 x6 x8 x12 H10) (tephralaw13_RlogAt.k1.eq J0 t i most Base Term Entries x5 x6 x8 x12 H10 Q) (by kernel_rfl) h
def tephralaw13_RlogAt.l1.body (J : Jn) (t : Int) (i : Int) (Base : Int) (Term : Int) (Entries : Sl) (x5 : Sl) (x8 : Int) (H12 : Hp) (x14 : Int) (Q : Value → Hp → Prop) : Prop :=
 
 Br (decide (x14 < ((x5.len : Nat) : Int))) (((0 : Int) ≤ x14 ∧ x14 < ((x5.len : Nat) : Int)) ∧ vPtr x5.a (fun a => ∃ Index : Int, ∃ Term1 : Int, ∃ CmdOp : Int, ∃ CmdClient : Int, ∃ CmdSeq : Int, ∃ CmdKey : ByteArray, ∃ CmdValue : ByteArray, ∃ CmdOld : ByteArray, RowAt H12 (a.add ((x14 : Int).toNat * 8)) [.int .i64 Index, .int .i64 Term1, .int .i64 CmdOp, .int .i64 CmdClient, .int .i64 CmdSeq, .string CmdKey, .string CmdValue, .string CmdOld] ∧ ((0 : Int) ≤ (w64 ((w64 ((w64 (i)) - Base)) + x14)) ∧ (w64 ((w64 ((w64 (i)) - Base)) + x14)) < ((Entries.len : Nat) : Int)) ∧ vPtr Entries.a (fun a1 => ∃ Index1 : Int, ∃ Term2 : Int, ∃ CmdOp1 : Int, ∃ CmdClient1 : Int, ∃ CmdSeq1 : Int, ∃ CmdKey1 : ByteArray, ∃ CmdValue1 : ByteArray, ∃ CmdOld1 : ByteArray, RowAt (holes H12 1) (a1.add (((w64 ((w64 ((w64 (i)) - Base)) + x14)) : Int).toNat * 8)) [.int .i64 Index1, .int .i64 Term2, .int .i64 CmdOp1, .int .i64 CmdClient1, .int .i64 CmdSeq1, .string CmdKey1, .string CmdValue1, .string CmdOld1] ∧ 
 Br (!((Index == Index1) && ((Term1 == Term2) && (((CmdOp == CmdOp1) && ((CmdClient == CmdClient1) && ((CmdSeq == CmdSeq1) && ((CmdKey == CmdKey1) && ((CmdValue == CmdValue1) && ((CmdOld == CmdOld1) && true)))))) && true)))) (Q (.bool false) (holes H12 1))
 (
 tephralaw13_RlogAt.l1 J t i Base Term Entries x5 x8 (holes H12 1) (w64 (x14 + 1)) Q))))
 ((8 : Int) ≠ 0 ∧ 
 SCalls Try.prog rlog_Log_Newer.id [.agg #[.int .i64 Base, .int .i64 Term, .slice Entries.a Entries.len Entries.cap], .int .i64 (w64 (i)), .int .i64 (w64 ((Int.tmod t 8)))] H12 (fun r10 H13 => ∃ x15 : Bool, r10 = .bool x15 ∧ (8 : Int) ≠ 0 ∧ 
 Br (decide ((w64 ((Int.tmod t 8))) > x8)) (
 tephralaw13_RlogAt.k2 J Base Term Entries H13 x15 Q)
 ((8 : Int) ≠ 0 ∧ 
 Br ((w64 ((Int.tmod t 8))) == x8) (
 SCalls Try.prog rlog_Log_Last.id [.agg #[.int .i64 Base, .int .i64 Term, .slice Entries.a Entries.len Entries.cap]] H13 (fun r11 H14 => ∃ x16 : Int, r11 = .int .i64 x16 ∧ 
 tephralaw13_RlogAt.k3 J Base Term Entries x15 (decide ((w64 (i)) ≥ x16)) H14 Q))
 (
 tephralaw13_RlogAt.k3 J Base Term Entries x15 false H13 Q))))
theorem tephralaw13_RlogAt.l1.eq (J : Jn) (t : Int) (i : Int) (Base : Int) (Term : Int) (Entries : Sl) (x5 : Sl) (x8 : Int) (H12 : Hp) (x14 : Int) (Q : Value → Hp → Prop) : vAtBody Try.prog tephralaw13_RlogAt.cf J tephralaw13_RlogAt.fn [1, 1, 1, 1, 1, 1, 1, 1, 1, 1, 0, 1, 0] [0, 0, 0, 1, 1, 1, 1, 1, 1, 1, 1, 1] Q (tephralaw13_RlogAt.l1.st t i Base Term Entries x5 x8 H12 x14) = tephralaw13_RlogAt.l1.body J t i Base Term Entries x5 x8 H12 x14 Q := by kernel_rfl
theorem tephralaw13_RlogAt.l1.step {t : Int} {i : Int} {Base : Int} {Term : Int} {Entries : Sl} {x5 : Sl} {x8 : Int} {H12 : Hp} {x14 : Int} {Q : Value → Hp → Prop} (h : tephralaw13_RlogAt.l1.body J0 t i Base Term Entries x5 x8 H12 x14 Q) : tephralaw13_RlogAt.l1 J0 t i Base Term Entries x5 x8 H12 x14 Q := vAt_stepC (tephralaw13_RlogAt.l1.st t i Base Term Entries x5 x8 H12 x14) (tephralaw13_RlogAt.l1.eq J0 t i Base Term Entries x5 x8 H12 x14 Q) (by kernel_rfl) h
def tephralaw13_RlogAt.k2.body (J : Jn) (Base : Int) (Term : Int) (Entries : Sl) (H13 : Hp) (x15 : Bool) (Q : Value → Hp → Prop) : Prop :=
 Q (.bool (x15 == true)) H13
theorem tephralaw13_RlogAt.k2.eq (J : Jn) (Base : Int) (Term : Int) (Entries : Sl) (H13 : Hp) (x15 : Bool) (Q : Value → Hp → Prop) : vMid Try.prog tephralaw13_RlogAt.cf J tephralaw13_RlogAt.fn [1, 1, 1, 1, 1, 1, 1, 1, 1, 1, 1, 0] [0, 0, 0, 1, 1, 1, 1, 1, 1, 1, 1, 1] 25 Q (tephralaw13_RlogAt.k2.st Base Term Entries H13 x15) = tephralaw13_RlogAt.k2.body J Base Term Entries H13 x15 Q := by kernel_rfl
theorem tephralaw13_RlogAt.k2.step {Base : Int} {Term : Int} {Entries : Sl} {H13 : Hp} {x15 : Bool} {Q : Value → Hp → Prop} (h : tephralaw13_RlogAt.k2.body J0 Base Term Entries H13 x15 Q) : tephralaw13_RlogAt.k2 J0 Base Term Entries H13 x15 Q := step_of (vMid Try.prog tephralaw13_RlogAt.cf J0 tephralaw13_RlogAt.fn [1, 1, 1, 1, 1, 1, 1, 1, 1, 1, 1, 0] [0, 0, 0, 1, 1, 1, 1, 1, 1, 1, 1, 1] 25 Q) (tephralaw13_RlogAt.k2.st Base Term Entries H13 x15) (tephralaw13_RlogAt.k2.eq J0 Base Term Entries H13 x15 Q) (by kernel_rfl) h
def tephralaw13_RlogAt.k3.body (J : Jn) (Base : Int) (Term : Int) (Entries : Sl) (x15 : Bool) (x17 : Bool) (H15 : Hp) (Q : Value → Hp → Prop) : Prop :=
 Q (.bool (x15 == x17)) H15
theorem tephralaw13_RlogAt.k3.eq (J : Jn) (Base : Int) (Term : Int) (Entries : Sl) (x15 : Bool) (x17 : Bool) (H15 : Hp) (Q : Value → Hp → Prop) : vMid Try.prog tephralaw13_RlogAt.cf J tephralaw13_RlogAt.fn [1, 1, 1, 1, 1, 1, 1, 1, 1, 1, 1, 0] [0, 0, 0, 1, 1, 1, 1, 1, 1, 1, 1, 1] 25 Q (tephralaw13_RlogAt.k3.st Base Term Entries x15 x17 H15) = tephralaw13_RlogAt.k3.body J Base Term Entries x15 x17 H15 Q := by kernel_rfl
theorem tephralaw13_RlogAt.k3.step {Base : Int} {Term : Int} {Entries : Sl} {x15 : Bool} {x17 : Bool} {H15 : Hp} {Q : Value → Hp → Prop} (h : tephralaw13_RlogAt.k3.body J0 Base Term Entries x15 x17 H15 Q) : tephralaw13_RlogAt.k3 J0 Base Term Entries x15 x17 H15 Q := step_of (vMid Try.prog tephralaw13_RlogAt.cf J0 tephralaw13_RlogAt.fn [1, 1, 1, 1, 1, 1, 1, 1, 1, 1, 1, 0] [0, 0, 0, 1, 1, 1, 1, 1, 1, 1, 1, 1] 25 Q) (tephralaw13_RlogAt.k3.st Base Term Entries x15 x17 H15) (tephralaw13_RlogAt.k3.eq J0 Base Term Entries x15 x17 H15 Q) (by kernel_rfl) h
def tephralaw13_RlogAt.vc (J : Jn) (says : Sl) (base : Int) (t : Int) (i : Int) (most : Int) (H : Hp) (Q : Value → Hp → Prop) : Prop :=
 
 SCalls Try.prog tephralaw13_awake.id [] H (fun r H1 => ∃ x : Bool, r = .bool x ∧ 
 Br (!x) (Q (.bool false) H1)
 (
 SCalls Try.prog tephralaw13_Some.id [.slice says.a says.len says.cap, .int .u8 base, .int .u8 t] H1 (fun r1 H2 => ∃ Base : Int, ∃ Term : Int, ∃ Entries : Sl, r1 = .agg #[.int .i64 Base, .int .i64 Term, .slice Entries.a Entries.len Entries.cap] ∧ 
 SCalls Try.prog rlog_Log_TermAt.id [.agg #[.int .i64 Base, .int .i64 Term, .slice Entries.a Entries.len Entries.cap], .int .i64 (w64 (i))] (holes H2 1) (fun r2 H3 => ∃ x1 : Int, ∃ x2 : Bool, r2 = .tuple #[.int .i64 x1, .bool x2] ∧ 
 SCalls Try.prog tephralaw13_term.id [.agg #[.int .i64 Base, .int .i64 Term, .slice Entries.a Entries.len Entries.cap], .int .i64 (w64 (i))] H3 (fun r3 H4 => ∃ x3 : Int, ∃ x4 : Bool, r3 = .tuple #[.int .i64 x3, .bool x4] ∧ 
 SCalls Try.prog rlog_Log_After.id [.agg #[.int .i64 Base, .int .i64 Term, .slice Entries.a Entries.len Entries.cap], .int .i64 (w64 (i)), .int .i64 (w64 (most))] H4 (fun r4 H5 => ∃ x5 : Sl, ∃ x6 : Bool, r4 = .tuple #[.slice x5.a x5.len x5.cap, .bool x6] ∧ 
 SCalls Try.prog rlog_Log_Last.id [.agg #[.int .i64 Base, .int .i64 Term, .slice Entries.a Entries.len Entries.cap]] H5 (fun r5 H6 => ∃ x7 : Int, r5 = .int .i64 x7 ∧ 
 SCalls Try.prog tephralaw13_term.id [.agg #[.int .i64 Base, .int .i64 Term, .slice Entries.a Entries.len Entries.cap], .int .i64 x7] H6 (fun r6 H7 => ∃ x8 : Int, ∃ x9 : Bool, r6 = .tuple #[.int .i64 x8, .bool x9] ∧ 
 Br (x1 != x3) (
  (
  (
 tephralaw13_RlogAt.k1 J t i most Base Term Entries x5 x6 x8 true H7 Q) ∧ 
  (
 tephralaw13_RlogAt.k1 J t i most Base Term Entries x5 x6 x8 true H7 Q)) ∧ 
  (
  (
 tephralaw13_RlogAt.k1 J t i most Base Term Entries x5 x6 x8 true H7 Q) ∧ 
  (
 tephralaw13_RlogAt.k1 J t i most Base Term Entries x5 x6 x8 true H7 Q)) ∧ 
  (
  (
 tephralaw13_RlogAt.k1 J t i most Base Term Entries x5 x6 x8 true H7 Q) ∧ 
  (
 tephralaw13_RlogAt.k1 J t i most Base Term Entries x5 x6 x8 true H7 Q)))
 (
 Br (!(x2 == x4)) (
  (
  (
 tephralaw13_RlogAt.k1 J t i most Base Term Entries x5 x6 x8 true H7 Q) ∧ 
  (
 tephralaw13_RlogAt.k1 J t i most Base Term Entries x5 x6 x8 true H7 Q)) ∧ 
  (
  (
 tephralaw13_RlogAt.k1 J t i most Base Term Entries x5 x6 x8 true H7 Q) ∧ 
  (
 tephralaw13_RlogAt.k1 J t i most Base Term Entries x5 x6 x8 true H7 Q)) ∧ 
  (
  (
 tephralaw13_RlogAt.k1 J t i most Base Term Entries x5 x6 x8 true H7 Q) ∧ 
  (
 tephralaw13_RlogAt.k1 J t i most Base Term Entries x5 x6 x8 true H7 Q)))
 (
 Br (!(x6 == x4)) (
  (
  (
 tephralaw13_RlogAt.k1 J t i most Base Term Entries x5 x6 x8 true H7 Q) ∧ 
  (
 tephralaw13_RlogAt.k1 J t i most Base Term Entries x5 x6 x8 true H7 Q)) ∧ 
  (
  (
 tephralaw13_RlogAt.k1 J t i most Base Term Entries x5 x6 x8 true H7 Q) ∧ 
  (
 tephralaw13_RlogAt.k1 J t i most Base Term Entries x5 x6 x8 true H7 Q)) ∧ 
  (
  (
 tephralaw13_RlogAt.k1 J t i most Base Term Entries x5 x6 x8 true H7 Q) ∧ 
  (
 tephralaw13_RlogAt.k1 J t i most Base Term Entries x5 x6 x8 true H7 Q)))
 (
 SCalls Try.prog rlog_Log_Last.id [.agg #[.int .i64 Base, .int .i64 Term, .slice Entries.a Entries.len Entries.cap]] H7 (fun r7 H8 => ∃ x10 : Int, r7 = .int .i64 x10 ∧ 
 Br (x10 != (w64 (Base + ((Entries.len : Nat) : Int)))) (
 tephralaw13_RlogAt.k1 J t i most Base Term Entries x5 x6 x8 true H8 Q)
 (
 SCalls Try.prog rlog_Log_LastTerm.id [.agg #[.int .i64 Base, .int .i64 Term, .slice Entries.a Entries.len Entries.cap]] H8 (fun r8 H9 => ∃ x11 : Int, r8 = .int .i64 x11 ∧ 
 tephralaw13_RlogAt.k1 J t i most Base Term Entries x5 x6 x8 (x11 != x8) H9 Q))))))))))))))
theorem tephralaw13_RlogAt.eq (J : Jn) (says : Sl) (base : Int) (t : Int) (i : Int) (most : Int) (H : Hp) (Q : Value → Hp → Prop) : vFn Try.prog tephralaw13_RlogAt.cf J tephralaw13_RlogAt.fn [.slice says.a says.len says.cap, .int .u8 base, .int .u8 t, .int .i8 i, .int .i8 most] H Q = tephralaw13_RlogAt.vc J says base t i most H Q := by kernel_rfl
theorem tephralaw13_RlogAt.calls {says : Sl} {base : Int} {t : Int} {i : Int} {most : Int} {H : Hp} {Q : Value → Hp → Prop} (h : tephralaw13_RlogAt.vc J0 says base t i most H Q) : SCalls Try.prog tephralaw13_RlogAt.id [.slice says.a says.len says.cap, .int .u8 base, .int .u8 t, .int .i8 i, .int .i8 most] H Q := vFn_of Try.mixed Try.func6 (tephralaw13_RlogAt.eq J0 says base t i most H Q) h

/-! 8: tephra/tephralaw13.RlogPrefix -/
def tephralaw13_RlogPrefix.cf : Cfg := ⟨[13, 15, 17, 23, 25], [(7, [5, 13, 14, 15, 57, 58, 59])], [(16, [13, 14, 15, 18, 19, 21, 23, 108], true)], [(103, [13, 14, 15, 18, 19, 21, 23, 103]), (130, [23, 25, 130])]⟩
def tephralaw13_RlogPrefix.l1.st (n : Int) (k : Int) (Base : Int) (Term : Int) (Entries : Sl) (x3 : Sl) (H8 : Hp) (x4 : Int) (y : Int) (y1 : Int) (y2 : Sl) : VS := ⟨mkFr 136 [(5, .v (.int .u8 k)), (13, .loc 0 0), (14, .v (.int .i64 (Int.tmod (w64 (n)) (w64 (((Entries.len : Nat) : Int) + 1))))), (15, .loc 1 0), (57, .v (.slice x3.a x3.len x3.cap)), (58, .v (.int .i64 ((x3.len : Nat) : Int))), (59, .v (.int .i64 x4))], [(T_rlog_Log, [.int .i64 Base, .int .i64 Term, .slice Entries.a Entries.len Entries.cap]), (T_rlog_Log, [.int .i64 y, .int .i64 y1, .slice y2.a y2.len y2.cap])], H8⟩
def tephralaw13_RlogPrefix.l1 (J : Jn) (n : Int) (k : Int) (Base : Int) (Term : Int) (Entries : Sl) (x3 : Sl) (H8 : Hp) (x4 : Int) (y : Int) (y1 : Int) (y2 : Sl) (Q : Value → Hp → Prop) : Prop := vAt Try.prog tephralaw13_RlogPrefix.cf J tephralaw13_RlogPrefix.fn [1, 1, 1, 1, 1, 0, 1, 0] [0, 0, 0, 1, 1, 2, 2] Q (tephralaw13_RlogPrefix.l1.st n k Base Term Entries x3 H8 x4 y y1 y2)
def tephralaw13_RlogPrefix.k1.st (n : Int) (k : Int) (Base : Int) (Term : Int) (Entries : Sl) (y : Int) (y1 : Int) (y2 : Sl) (x5 : Int) (x7 : Sl) (H12 : Hp) (Base2 : Int) (Term3 : Int) (Entries2 : Sl) (x10 : Bool) : VS := ⟨mkFr 136 [(13, .loc 0 0), (14, .v (.int .i64 (Int.tmod (w64 (n)) (w64 (((Entries.len : Nat) : Int) + 1))))), (15, .loc 1 0), (18, .v (.int .i64 (w64 (Base + (Int.tmod (w64 (k)) (w64 ((Int.tmod (w64 (n)) (w64 (((Entries.len : Nat) : Int) + 1))) + 1))))))), (19, .v (.int .i64 x5)), (21, .v (.slice x7.a x7.len x7.cap)), (23, .loc 2 0), (103, .v (.bool x10))], [(T_rlog_Log, [.int .i64 Base, .int .i64 Term, .slice Entries.a Entries.len Entries.cap]), (T_rlog_Log, [.int .i64 y, .int .i64 y1, .slice y2.a y2.len y2.cap]), (T_rlog_Log, [.int .i64 Base2, .int .i64 Term3, .slice Entries2.a Entries2.len Entries2.cap])], (holes H12 1)⟩
def tephralaw13_RlogPrefix.k1 (J : Jn) (n : Int) (k : Int) (Base : Int) (Term : Int) (Entries : Sl) (y : Int) (y1 : Int) (y2 : Sl) (x5 : Int) (x7 : Sl) (H12 : Hp) (Base2 : Int) (Term3 : Int) (Entries2 : Sl) (x10 : Bool) (Q : Value → Hp → Prop) : Prop := J (vMid Try.prog tephralaw13_RlogPrefix.cf J tephralaw13_RlogPrefix.fn [1, 1, 1, 1, 1, 1, 1, 1, 1, 1, 0, 0] [0, 0, 0, 1, 1, 2, 2, 2, 2, 2, 3, 3] 6 Q) (tephralaw13_RlogPrefix.k1.st n k Base Term Entries y y1 y2 x5 x7 H12 Base2 Term3 Entries2 x10)
def tephralaw13_RlogPrefix.k2.st (n : Int) (k : Int) (Base : Int) (Term : Int) (Entries : Sl) (y : Int) (y1 : Int) (y2 : Sl) (x5 : Int) (x7 : Sl) (Base2 : Int) (Term3 : Int) (Entries2 : Sl) (x12 : Bool) (H14 : Hp) : VS := ⟨mkFr 136 [(13, .loc 0 0), (14, .v (.int .i64 (Int.tmod (w64 (n)) (w64 (((Entries.len : Nat) : Int) + 1))))), (15, .loc 1 0), (18, .v (.int .i64 (w64 (Base + (Int.tmod (w64 (k)) (w64 ((Int.tmod (w64 (n)) (w64 (((Entries.len : Nat) : Int) + 1))) + 1))))))), (19, .v (.int .i64 x5)), (21, .v (.slice x7.a x7.len x7.cap)), (23, .loc 2 0), (108, .v (.bool x12))], [(T_rlog_Log, [.int .i64 Base, .int .i64 Term, .slice Entries.a Entries.len Entries.cap]), (T_rlog_Log, [.int .i64 y, .int .i64 y1, .slice y2.a y2.len y2.cap]), (T_rlog_Log, [.int .i64 Base2, .int .i64 Term3, .slice Entries2.a Entries2.len Entries2.cap])], H14⟩
def tephralaw13_RlogPrefix.k2 (J : Jn) (n : Int) (k : Int) (Base : Int) (Term : Int) (Entries : Sl) (y : Int) (y1 : Int) (y2 : Sl) (x5 : Int) (x7 : Sl) (Base2 : Int) (Term3 : Int) (Entries2 : Sl) (x12 : Bool) (H14 : Hp) (Q : Value → Hp → Prop) : Prop := J (vSeg Try.prog tephralaw13_RlogPrefix.cf J tephralaw13_RlogPrefix.fn [1, 1, 1, 1, 1, 1, 1, 1, 1, 1, 0, 1] [0, 0, 0, 1, 1, 2, 2, 2, 2, 2, 3, 3] Q) (tephralaw13_RlogPrefix.k2.st n k Base Term Entries y y1 y2 x5 x7 Base2 Term3 Entries2 x12 H14)
def tephralaw13_RlogPrefix.k3.st (Base : Int) (Term : Int) (Entries : Sl) (y : Int) (y1 : Int) (y2 : Sl) (Base2 : Int) (Term3 : Int) (Entries2 : Sl) (Base3 : Int) (Term4 : Int) (Entries3 : Sl) (H17 : Hp) (x16 : Bool) : VS := ⟨mkFr 136 [(23, .loc 2 0), (25, .loc 3 0), (130, .v (.bool x16))], [(T_rlog_Log, [.int .i64 Base, .int .i64 Term, .slice Entries.a Entries.len Entries.cap]), (T_rlog_Log, [.int .i64 y, .int .i64 y1, .slice y2.a y2.len y2.cap]), (T_rlog_Log, [.int .i64 Base2, .int .i64 Term3, .slice Entries2.a Entries2.len Entries2.cap]), (T_rlog_Log, [.int .i64 Base3, .int .i64 Term4, .slice Entries3.a Entries3.len Entries3.cap])], H17⟩
def tephralaw13_RlogPrefix.k3 (J : Jn) (Base : Int) (Term : Int) (Entries : Sl) (y : Int) (y1 : Int) (y2 : Sl) (Base2 : Int) (Term3 : Int) (Entries2 : Sl) (Base3 : Int) (Term4 : Int) (Entries3 : Sl) (H17 : Hp) (x16 : Bool) (Q : Value → Hp → Prop) : Prop := J (vMid Try.prog tephralaw13_RlogPrefix.cf J tephralaw13_RlogPrefix.fn [1, 1, 1, 1, 1, 1, 1, 1, 1, 1, 1, 1, 1, 0] [0, 0, 0, 1, 1, 2, 2, 2, 2, 2, 3, 3, 3, 4] 6 Q) (tephralaw13_RlogPrefix.k3.st Base Term Entries y y1 y2 Base2 Term3 Entries2 Base3 Term4 Entries3 H17 x16)
def tephralaw13_RlogPrefix.l2.st (n : Int) (k : Int) (Base : Int) (Term : Int) (Entries : Sl) (x20 : Sl) (H22 : Hp) (x21 : Int) (y3 : Int) (y4 : Int) (y5 : Sl) : VS := ⟨mkFr 136 [(5, .v (.int .u8 k)), (13, .loc 0 0), (14, .v (.int .i64 (Int.tmod (w64 (n)) (w64 (((Entries.len : Nat) : Int) + 1))))), (15, .loc 1 0), (57, .v (.slice x20.a x20.len x20.cap)), (58, .v (.int .i64 ((x20.len : Nat) : Int))), (59, .v (.int .i64 x21))], [(T_rlog_Log, [.int .i64 Base, .int .i64 Term, .slice Entries.a Entries.len Entries.cap]), (T_rlog_Log, [.int .i64 y3, .int .i64 y4, .slice y5.a y5.len y5.cap])], H22⟩
def tephralaw13_RlogPrefix.l2 (J : Jn) (n : Int) (k : Int) (Base : Int) (Term : Int) (Entries : Sl) (x20 : Sl) (H22 : Hp) (x21 : Int) (y3 : Int) (y4 : Int) (y5 : Sl) (Q : Value → Hp → Prop) : Prop := vAt Try.prog tephralaw13_RlogPrefix.cf J tephralaw13_RlogPrefix.fn [1, 1, 1, 1, 1, 0, 1, 0] [0, 0, 0, 1, 1, 2, 2] Q (tephralaw13_RlogPrefix.l2.st n k Base Term Entries x20 H22 x21 y3 y4 y5)
def tephralaw13_RlogPrefix.k4.st (n : Int) (k : Int) (Base : Int) (Term : Int) (Entries : Sl) (y3 : Int) (y4 : Int) (y5 : Sl) (x22 : Int) (x24 : Sl) (H26 : Hp) (Base5 : Int) (Term7 : Int) (Entries5 : Sl) (x27 : Bool) : VS := ⟨mkFr 136 [(13, .loc 0 0), (14, .v (.int .i64 (Int.tmod (w64 (n)) (w64 (((Entries.len : Nat) : Int) + 1))))), (15, .loc 1 0), (18, .v (.int .i64 (w64 (Base + (Int.tmod (w64 (k)) (w64 ((Int.tmod (w64 (n)) (w64 (((Entries.len : Nat) : Int) + 1))) + 1))))))), (19, .v (.int .i64 x22)), (21, .v (.slice x24.a x24.len x24.cap)), (23, .loc 2 0), (103, .v (.bool x27))], [(T_rlog_Log, [.int .i64 Base, .int .i64 Term, .slice Entries.a Entries.len Entries.cap]), (T_rlog_Log, [.int .i64 y3, .int .i64 y4, .slice y5.a y5.len y5.cap]), (T_rlog_Log, [.int .i64 Base5, .int .i64 Term7, .slice Entries5.a Entries5.len Entries5.cap])], (holes H26 1)⟩
def tephralaw13_RlogPrefix.k4 (J : Jn) (n : Int) (k : Int) (Base : Int) (Term : Int) (Entries : Sl) (y3 : Int) (y4 : Int) (y5 : Sl) (x22 : Int) (x24 : Sl) (H26 : Hp) (Base5 : Int) (Term7 : Int) (Entries5 : Sl) (x27 : Bool) (Q : Value → Hp → Prop) : Prop := J (vMid Try.prog tephralaw13_RlogPrefix.cf J tephralaw13_RlogPrefix.fn [1, 1, 1, 1, 1, 1, 1, 1, 1, 1, 0, 0] [0, 0, 0, 1, 1, 2, 2, 2, 2, 2, 3, 3] 6 Q) (tephralaw13_RlogPrefix.k4.st n k Base Term Entries y3 y4 y5 x22 x24 H26 Base5 Term7 Entries5 x27)
def tephralaw13_RlogPrefix.k5.st (n : Int) (k : Int) (Base : Int) (Term : Int) (Entries : Sl) (y3 : Int) (y4 : Int) (y5 : Sl) (x22 : Int) (x24 : Sl) (Base5 : Int) (Term7 : Int) (Entries5 : Sl) (x29 : Bool) (H28 : Hp) : VS := ⟨mkFr 136 [(13, .loc 0 0), (14, .v (.int .i64 (Int.tmod (w64 (n)) (w64 (((Entries.len : Nat) : Int) + 1))))), (15, .loc 1 0), (18, .v (.int .i64 (w64 (Base + (Int.tmod (w64 (k)) (w64 ((Int.tmod (w64 (n)) (w64 (((Entries.len : Nat) : Int) + 1))) + 1))))))), (19, .v (.int .i64 x22)), (21, .v (.slice x24.a x24.len x24.cap)), (23, .loc 2 0), (108, .v (.bool x29))], [(T_rlog_Log, [.int .i64 Base, .int .i64 Term, .slice Entries.a Entries.len Entries.cap]), (T_rlog_Log, [.int .i64 y3, .int .i64 y4, .slice y5.a y5.len y5.cap]), (T_rlog_Log, [.int .i64 Base5, .int .i64 Term7, .slice Entries5.a Entries5.len Entries5.cap])], H28⟩
def tephralaw13_RlogPrefix.k5 (J : Jn) (n : Int) (k : Int) (Base : Int) (Term : Int) (Entries : Sl) (y3 : Int) (y4 : Int) (y5 : Sl) (x22 : Int) (x24 : Sl) (Base5 : Int) (Term7 : Int) (Entries5 : Sl) (x29 : Bool) (H28 : Hp) (Q : Value → Hp → Prop) : Prop := J (vSeg Try.prog tephralaw13_RlogPrefix.cf J tephralaw13_RlogPrefix.fn [1, 1, 1, 1, 1, 1, 1, 1, 1, 1, 0, 1] [0, 0, 0, 1, 1, 2, 2, 2, 2, 2, 3, 3] Q) (tephralaw13_RlogPrefix.k5.st n k Base Term Entries y3 y4 y5 x22 x24 Base5 Term7 Entries5 x29 H28)
def tephralaw13_RlogPrefix.k6.st (Base : Int) (Term : Int) (Entries : Sl) (y3 : Int) (y4 : Int) (y5 : Sl) (Base5 : Int) (Term7 : Int) (Entries5 : Sl) (Base6 : Int) (Term8 : Int) (Entries6 : Sl) (H31 : Hp) (x33 : Bool) : VS := ⟨mkFr 136 [(23, .loc 2 0), (25, .loc 3 0), (130, .v (.bool x33))], [(T_rlog_Log, [.int .i64 Base, .int .i64 Term, .slice Entries.a Entries.len Entries.cap]), (T_rlog_Log, [.int .i64 y3, .int .i64 y4, .slice y5.a y5.len y5.cap]), (T_rlog_Log, [.int .i64 Base5, .int .i64 Term7, .slice Entries5.a Entries5.len Entries5.cap]), (T_rlog_Log, [.int .i64 Base6, .int .i64 Term8, .slice Entries6.a Entries6.len Entries6.cap])], H31⟩
def tephralaw13_RlogPrefix.k6 (J : Jn) (Base : Int) (Term : Int) (Entries : Sl) (y3 : Int) (y4 : Int) (y5 : Sl) (Base5 : Int) (Term7 : Int) (Entries5 : Sl) (Base6 : Int) (Term8 : Int) (Entries6 : Sl) (H31 : Hp) (x33 : Bool) (Q : Value → Hp → Prop) : Prop := J (vMid Try.prog tephralaw13_RlogPrefix.cf J tephralaw13_RlogPrefix.fn [1, 1, 1, 1, 1, 1, 1, 1, 1, 1, 1, 1, 1, 0] [0, 0, 0, 1, 1, 2, 2, 2, 2, 2, 3, 3, 3, 4] 6 Q) (tephralaw13_RlogPrefix.k6.st Base Term Entries y3 y4 y5 Base5 Term7 Entries5 Base6 Term8 Entries6 H31 x33)
attribute [irreducible] tephralaw13_RlogPrefix.l1 tephralaw13_RlogPrefix.k1 tephralaw13_RlogPrefix.k2 tephralaw13_RlogPrefix.k3 tephralaw13_RlogPrefix.l2 tephralaw13_RlogPrefix.k4 tephralaw13_RlogPrefix.k5 tephralaw13_RlogPrefix.k6
def tephralaw13_RlogPrefix.l1.body (J : Jn) (n : Int) (k : Int) (Base : Int) (Term : Int) (Entries : Sl) (x3 : Sl) (H8 : Hp) (x4 : Int) (y : Int) (y1 : Int) (y2 : Sl) (Q : Value → Hp → Prop) : Prop :=
 
 Br (decide (x4 < ((x3.len : Nat) : Int))) (((0 : Int) ≤ x4 ∧ x4 < ((x3.len : Nat) : Int)) ∧ vPtr x3.a (fun a => ∃ Index : Int, ∃ Term1 : Int, ∃ CmdOp : Int, ∃ CmdClient : Int, ∃ CmdSeq : Int, ∃ CmdKey : ByteArray, ∃ CmdValue : ByteArray, ∃ CmdOld : ByteArray, RowAt H8 (a.add ((x4 : Int).toNat * 8)) [.int .i64 Index, .int .i64 Term1, .int .i64 CmdOp, .int .i64 CmdClient, .int .i64 CmdSeq, .string CmdKey, .string CmdValue, .string CmdOld] ∧ 
 SCalls Try.prog rlog_Log_Add.id [.agg #[.int .i64 y, .int .i64 y1, .slice y2.a y2.len y2.cap], .int .i64 Term1, .agg #[.int .i64 CmdOp, .int .i64 CmdClient, .int .i64 CmdSeq, .string CmdKey, .string CmdValue, .string CmdOld]] (holes H8 1) (fun r5 H9 => ∃ Base1 : Int, ∃ Term2 : Int, ∃ Entries1 : Sl, r5 = .agg #[.int .i64 Base1, .int .i64 Term2, .slice Entries1.a Entries1.len Entries1.cap] ∧ 
 tephralaw13_RlogPrefix.l1 J n k Base Term Entries x3 H9 (w64 (x4 + 1)) Base1 Term2 Entries1 Q)))
 (((w64 ((Int.tmod (w64 (n)) (w64 (((Entries.len : Nat) : Int) + 1))) + 1)) : Int) ≠ 0 ∧ 
 SCalls Try.prog rlog_Log_TermAt.id [.agg #[.int .i64 Base, .int .i64 Term, .slice Entries.a Entries.len Entries.cap], .int .i64 (w64 (Base + (Int.tmod (w64 (k)) (w64 ((Int.tmod (w64 (n)) (w64 (((Entries.len : Nat) : Int) + 1))) + 1)))))] H8 (fun r6 H10 => ∃ x5 : Int, ∃ x6 : Bool, r6 = .tuple #[.int .i64 x5, .bool x6] ∧ 
 SCalls Try.prog rlog_Log_After.id [.agg #[.int .i64 y, .int .i64 y1, .slice y2.a y2.len y2.cap], .int .i64 (w64 (Base + (Int.tmod (w64 (k)) (w64 ((Int.tmod (w64 (n)) (w64 (((Entries.len : Nat) : Int) + 1))) + 1))))), .int .i64 1000] H10 (fun r7 H11 => ∃ x7 : Sl, ∃ x8 : Bool, r7 = .tuple #[.slice x7.a x7.len x7.cap, .bool x8] ∧ 
 SCalls Try.prog rlog_Log_Merge.id [.agg #[.int .i64 Base, .int .i64 Term, .slice Entries.a Entries.len Entries.cap], .int .i64 (w64 (Base + (Int.tmod (w64 (k)) (w64 ((Int.tmod (w64 (n)) (w64 (((Entries.len : Nat) : Int) + 1))) + 1))))), .int .i64 x5, .slice x7.a x7.len x7.cap] H11 (fun r8 H12 => ∃ Base2 : Int, ∃ Term3 : Int, ∃ Entries2 : Sl, ∃ x9 : Bool, r8 = .tuple #[.agg #[.int .i64 Base2, .int .i64 Term3, .slice Entries2.a Entries2.len Entries2.cap], .bool x9] ∧ 
 Br (!x8) (
 tephralaw13_RlogPrefix.k1 J n k Base Term Entries y y1 y2 x5 x7 H12 Base2 Term3 Entries2 true Q)
 (
 tephralaw13_RlogPrefix.k1 J n k Base Term Entries y y1 y2 x5 x7 H12 Base2 Term3 Entries2 (!x9) Q)))))
theorem tephralaw13_RlogPrefix.l1.eq (J : Jn) (n : Int) (k : Int) (Base : Int) (Term : Int) (Entries : Sl) (x3 : Sl) (H8 : Hp) (x4 : Int) (y : Int) (y1 : Int) (y2 : Sl) (Q : Value → Hp → Prop) : vAtBody Try.prog tephralaw13_RlogPrefix.cf J tephralaw13_RlogPrefix.fn [1, 1, 1, 1, 1, 0, 1, 0] [0, 0, 0, 1, 1, 2, 2] Q (tephralaw13_RlogPrefix.l1.st n k Base Term Entries x3 H8 x4 y y1 y2) = tephralaw13_RlogPrefix.l1.body J n k Base Term Entries x3 H8 x4 y y1 y2 Q := by kernel_rfl
theorem tephralaw13_RlogPrefix.l1.step {n : Int} {k : Int} {Base : Int} {Term : Int} {Entries : Sl} {x3 : Sl} {H8 : Hp} {x4 : Int} {y : Int} {y1 : Int} {y2 : Sl} {Q : Value → Hp → Prop} (h : tephralaw13_RlogPrefix.l1.body J0 n k Base Term Entries x3 H8 x4 y y1 y2 Q) : tephralaw13_RlogPrefix.l1 J0 n k Base Term Entries x3 H8 x4 y y1 y2 Q := vAt_stepC (tephralaw13_RlogPrefix.l1.st n k Base Term Entries x3 H8 x4 y y1 y2) (tephralaw13_RlogPrefix.l1.eq J0 n k Base Term Entries x3 H8 x4 y y1 y2 Q) (by kernel_rfl) h
def tephralaw13_RlogPrefix.k1.body (J : Jn) (n : Int) (k : Int) (Base : Int) (Term : Int) (Entries : Sl) (y : Int) (y1 : Int) (y2 : Sl) (x5 : Int) (x7 : Sl) (H12 : Hp) (Base2 : Int) (Term3 : Int) (Entries2 : Sl) (x10 : Bool) (Q : Value → Hp → Prop) : Prop :=
 
 Br x10 (
 tephralaw13_RlogPrefix.k2 J n k Base Term Entries y y1 y2 x5 x7 Base2 Term3 Entries2 true (holes H12 1) Q)
 (
 SCalls Try.prog rlog_Right.id [.agg #[.int .i64 y, .int .i64 y1, .slice y2.a y2.len y2.cap]] (holes H12 1) (fun r9 H13 => ∃ x11 : Bool, r9 = .bool x11 ∧ 
 tephralaw13_RlogPrefix.k2 J n k Base Term Entries y y1 y2 x5 x7 Base2 Term3 Entries2 (!x11) H13 Q))
theorem tephralaw13_RlogPrefix.k1.eq (J : Jn) (n : Int) (k : Int) (Base : Int) (Term : Int) (Entries : Sl) (y : Int) (y1 : Int) (y2 : Sl) (x5 : Int) (x7 : Sl) (H12 : Hp) (Base2 : Int) (Term3 : Int) (Entries2 : Sl) (x10 : Bool) (Q : Value → Hp → Prop) : vMid Try.prog tephralaw13_RlogPrefix.cf J tephralaw13_RlogPrefix.fn [1, 1, 1, 1, 1, 1, 1, 1, 1, 1, 0, 0] [0, 0, 0, 1, 1, 2, 2, 2, 2, 2, 3, 3] 6 Q (tephralaw13_RlogPrefix.k1.st n k Base Term Entries y y1 y2 x5 x7 H12 Base2 Term3 Entries2 x10) = tephralaw13_RlogPrefix.k1.body J n k Base Term Entries y y1 y2 x5 x7 H12 Base2 Term3 Entries2 x10 Q := by kernel_rfl
theorem tephralaw13_RlogPrefix.k1.step {n : Int} {k : Int} {Base : Int} {Term : Int} {Entries : Sl} {y : Int} {y1 : Int} {y2 : Sl} {x5 : Int} {x7 : Sl} {H12 : Hp} {Base2 : Int} {Term3 : Int} {Entries2 : Sl} {x10 : Bool} {Q : Value → Hp → Prop} (h : tephralaw13_RlogPrefix.k1.body J0 n k Base Term Entries y y1 y2 x5 x7 H12 Base2 Term3 Entries2 x10 Q) : tephralaw13_RlogPrefix.k1 J0 n k Base Term Entries y y1 y2 x5 x7 H12 Base2 Term3 Entries2 x10 Q := step_of (vMid Try.prog tephralaw13_RlogPrefix.cf J0 tephralaw13_RlogPrefix.fn [1, 1, 1, 1, 1, 1, 1, 1, 1, 1, 0, 0] [0, 0, 0, 1, 1, 2, 2, 2, 2, 2, 3, 3] 6 Q) (tephralaw13_RlogPrefix.k1.st n k Base Term Entries y y1 y2 x5 x7 H12 Base2 Term3 Entries2 x10) (tephralaw13_RlogPrefix.k1.eq J0 n k Base Term Entries y y1 y2 x5 x7 H12 Base2 Term3 Entries2 x10 Q) (by kernel_rfl) h
def tephralaw13_RlogPrefix.k2.body (J : Jn) (n : Int) (k : Int) (Base : Int) (Term : Int) (Entries : Sl) (y : Int) (y1 : Int) (y2 : Sl) (x5 : Int) (x7 : Sl) (Base2 : Int) (Term3 : Int) (Entries2 : Sl) (x12 : Bool) (H14 : Hp) (Q : Value → Hp → Prop) : Prop :=
 
 Br x12 (Q (.bool false) H14)
 (
 Br (((y2.len : Nat) : Int) == (Int.tmod (w64 (n)) (w64 (((Entries.len : Nat) : Int) + 1)))) (
 SCalls Try.prog tephralaw13_Same.id [.agg #[.int .i64 Base2, .int .i64 Term3, .slice Entries2.a Entries2.len Entries2.cap], .agg #[.int .i64 Base, .int .i64 Term, .slice Entries.a Entries.len Entries.cap]] H14 (fun r10 H15 => ∃ x13 : Bool, r10 = .bool x13 ∧ Q (.bool x13) H15))
 (
 SCalls Try.prog rlog_Log_Merge.id [.agg #[.int .i64 Base2, .int .i64 Term3, .slice Entries2.a Entries2.len Entries2.cap], .int .i64 (w64 (Base + (Int.tmod (w64 (k)) (w64 ((Int.tmod (w64 (n)) (w64 (((Entries.len : Nat) : Int) + 1))) + 1))))), .int .i64 x5, .slice x7.a x7.len x7.cap] H14 (fun r11 H16 => ∃ Base3 : Int, ∃ Term4 : Int, ∃ Entries3 : Sl, ∃ x14 : Bool, r11 = .tuple #[.agg #[.int .i64 Base3, .int .i64 Term4, .slice Entries3.a Entries3.len Entries3.cap], .bool x14] ∧ 
 SCalls Try.prog tephralaw13_Same.id [.agg #[.int .i64 Base2, .int .i64 Term3, .slice Entries2.a Entries2.len Entries2.cap], .agg #[.int .i64 y, .int .i64 y1, .slice y2.a y2.len y2.cap]] (holes H16 1) (fun r12 H17 => ∃ x15 : Bool, r12 = .bool x15 ∧ 
 Br x15 (
 tephralaw13_RlogPrefix.k3 J Base Term Entries y y1 y2 Base2 Term3 Entries2 Base3 Term4 Entries3 H17 x14 Q)
 (
 tephralaw13_RlogPrefix.k3 J Base Term Entries y y1 y2 Base2 Term3 Entries2 Base3 Term4 Entries3 H17 false Q)))))
theorem tephralaw13_RlogPrefix.k2.eq (J : Jn) (n : Int) (k : Int) (Base : Int) (Term : Int) (Entries : Sl) (y : Int) (y1 : Int) (y2 : Sl) (x5 : Int) (x7 : Sl) (Base2 : Int) (Term3 : Int) (Entries2 : Sl) (x12 : Bool) (H14 : Hp) (Q : Value → Hp → Prop) : vSeg Try.prog tephralaw13_RlogPrefix.cf J tephralaw13_RlogPrefix.fn [1, 1, 1, 1, 1, 1, 1, 1, 1, 1, 0, 1] [0, 0, 0, 1, 1, 2, 2, 2, 2, 2, 3, 3] Q (tephralaw13_RlogPrefix.k2.st n k Base Term Entries y y1 y2 x5 x7 Base2 Term3 Entries2 x12 H14) = tephralaw13_RlogPrefix.k2.body J n k Base Term Entries y y1 y2 x5 x7 Base2 Term3 Entries2 x12 H14 Q := by kernel_rfl
theorem tephralaw13_RlogPrefix.k2.step {n : Int} {k : Int} {Base : Int} {Term : Int} {Entries : Sl} {y : Int} {y1 : Int} {y2 : Sl} {x5 : Int} {x7 : Sl} {Base2 : Int} {Term3 : Int} {Entries2 : Sl} {x12 : Bool} {H14 : Hp} {Q : Value → Hp → Prop} (h : tephralaw13_RlogPrefix.k2.body J0 n k Base Term Entries y y1 y2 x5 x7 Base2 Term3 Entries2 x12 H14 Q) : tephralaw13_RlogPrefix.k2 J0 n k Base Term Entries y y1 y2 x5 x7 Base2 Term3 Entries2 x12 H14 Q := step_of (vSeg Try.prog tephralaw13_RlogPrefix.cf J0 tephralaw13_RlogPrefix.fn [1, 1, 1, 1, 1, 1, 1, 1, 1, 1, 0, 1] [0, 0, 0, 1, 1, 2, 2, 2, 2, 2, 3, 3] Q) (tephralaw13_RlogPrefix.k2.st n k Base Term Entries y y1 y2 x5 x7 Base2 Term3 Entries2 x12 H14) (tephralaw13_RlogPrefix.k2.eq J0 n k Base Term Entries y y1 y2 x5 x7 Base2 Term3 Entries2 x12 H14 Q) (by kernel_rfl) h
def tephralaw13_RlogPrefix.k3.body (J : Jn) (Base : Int) (Term : Int) (Entries : Sl) (y : Int) (y1 : Int) (y2 : Sl) (Base2 : Int) (Term3 : Int) (Entries2 : Sl) (Base3 : Int) (Term4 : Int) (Entries3 : Sl) (H17 : Hp) (x16 : Bool) (Q : Value → Hp → Prop) : Prop :=
 
 Br x16 (
 SCalls Try.prog tephralaw13_Same.id [.agg #[.int .i64 Base2, .int .i64 Term3, .slice Entries2.a Entries2.len Entries2.cap], .agg #[.int .i64 Base3, .int .i64 Term4, .slice Entries3.a Entries3.len Entries3.cap]] H17 (fun r13 H18 => ∃ x17 : Bool, r13 = .bool x17 ∧ Q (.bool x17) H18))
 (Q (.bool false) H17)
theorem tephralaw13_RlogPrefix.k3.eq (J : Jn) (Base : Int) (Term : Int) (Entries : Sl) (y : Int) (y1 : Int) (y2 : Sl) (Base2 : Int) (Term3 : Int) (Entries2 : Sl) (Base3 : Int) (Term4 : Int) (Entries3 : Sl) (H17 : Hp) (x16 : Bool) (Q : Value → Hp → Prop) : vMid Try.prog tephralaw13_RlogPrefix.cf J tephralaw13_RlogPrefix.fn [1, 1, 1, 1, 1, 1, 1, 1, 1, 1, 1, 1, 1, 0] [0, 0, 0, 1, 1, 2, 2, 2, 2, 2, 3, 3, 3, 4] 6 Q (tephralaw13_RlogPrefix.k3.st Base Term Entries y y1 y2 Base2 Term3 Entries2 Base3 Term4 Entries3 H17 x16) = tephralaw13_RlogPrefix.k3.body J Base Term Entries y y1 y2 Base2 Term3 Entries2 Base3 Term4 Entries3 H17 x16 Q := by kernel_rfl
theorem tephralaw13_RlogPrefix.k3.step {Base : Int} {Term : Int} {Entries : Sl} {y : Int} {y1 : Int} {y2 : Sl} {Base2 : Int} {Term3 : Int} {Entries2 : Sl} {Base3 : Int} {Term4 : Int} {Entries3 : Sl} {H17 : Hp} {x16 : Bool} {Q : Value → Hp → Prop} (h : tephralaw13_RlogPrefix.k3.body J0 Base Term Entries y y1 y2 Base2 Term3 Entries2 Base3 Term4 Entries3 H17 x16 Q) : tephralaw13_RlogPrefix.k3 J0 Base Term Entries y y1 y2 Base2 Term3 Entries2 Base3 Term4 Entries3 H17 x16 Q := step_of (vMid Try.prog tephralaw13_RlogPrefix.cf J0 tephralaw13_RlogPrefix.fn [1, 1, 1, 1, 1, 1, 1, 1, 1, 1, 1, 1, 1, 0] [0, 0, 0, 1, 1, 2, 2, 2, 2, 2, 3, 3, 3, 4] 6 Q) (tephralaw13_RlogPrefix.k3.st Base Term Entries y y1 y2 Base2 Term3 Entries2 Base3 Term4 Entries3 H17 x16) (tephralaw13_RlogPrefix.k3.eq J0 Base Term Entries y y1 y2 Base2 Term3 Entries2 Base3 Term4 Entries3 H17 x16 Q) (by kernel_rfl) h
def tephralaw13_RlogPrefix.l2.body (J : Jn) (n : Int) (k : Int) (Base : Int) (Term : Int) (Entries : Sl) (x20 : Sl) (H22 : Hp) (x21 : Int) (y3 : Int) (y4 : Int) (y5 : Sl) (Q : Value → Hp → Prop) : Prop :=
 
 Br (decide (x21 < ((x20.len : Nat) : Int))) (((0 : Int) ≤ x21 ∧ x21 < ((x20.len : Nat) : Int)) ∧ vPtr x20.a (fun a1 => ∃ Index1 : Int, ∃ Term5 : Int, ∃ CmdOp1 : Int, ∃ CmdClient1 : Int, ∃ CmdSeq1 : Int, ∃ CmdKey1 : ByteArray, ∃ CmdValue1 : ByteArray, ∃ CmdOld1 : ByteArray, RowAt H22 (a1.add ((x21 : Int).toNat * 8)) [.int .i64 Index1, .int .i64 Term5, .int .i64 CmdOp1, .int .i64 CmdClient1, .int .i64 CmdSeq1, .string CmdKey1, .string CmdValue1, .string CmdOld1] ∧ 
 SCalls Try.prog rlog_Log_Add.id [.agg #[.int .i64 y3, .int .i64 y4, .slice y5.a y5.len y5.cap], .int .i64 Term5, .agg #[.int .i64 CmdOp1, .int .i64 CmdClient1, .int .i64 CmdSeq1, .string CmdKey1, .string CmdValue1, .string CmdOld1]] (holes H22 1) (fun r17 H23 => ∃ Base4 : Int, ∃ Term6 : Int, ∃ Entries4 : Sl, r17 = .agg #[.int .i64 Base4, .int .i64 Term6, .slice Entries4.a Entries4.len Entries4.cap] ∧ 
 tephralaw13_RlogPrefix.l2 J n k Base Term Entries x20 H23 (w64 (x21 + 1)) Base4 Term6 Entries4 Q)))
 (((w64 ((Int.tmod (w64 (n)) (w64 (((Entries.len : Nat) : Int) + 1))) + 1)) : Int) ≠ 0 ∧ 
 SCalls Try.prog rlog_Log_TermAt.id [.agg #[.int .i64 Base, .int .i64 Term, .slice Entries.a Entries.len Entries.cap], .int .i64 (w64 (Base + (Int.tmod (w64 (k)) (w64 ((Int.tmod (w64 (n)) (w64 (((Entries.len : Nat) : Int) + 1))) + 1)))))] H22 (fun r18 H24 => ∃ x22 : Int, ∃ x23 : Bool, r18 = .tuple #[.int .i64 x22, .bool x23] ∧ 
 SCalls Try.prog rlog_Log_After.id [.agg #[.int .i64 y3, .int .i64 y4, .slice y5.a y5.len y5.cap], .int .i64 (w64 (Base + (Int.tmod (w64 (k)) (w64 ((Int.tmod (w64 (n)) (w64 (((Entries.len : Nat) : Int) + 1))) + 1))))), .int .i64 1000] H24 (fun r19 H25 => ∃ x24 : Sl, ∃ x25 : Bool, r19 = .tuple #[.slice x24.a x24.len x24.cap, .bool x25] ∧ 
 SCalls Try.prog rlog_Log_Merge.id [.agg #[.int .i64 Base, .int .i64 Term, .slice Entries.a Entries.len Entries.cap], .int .i64 (w64 (Base + (Int.tmod (w64 (k)) (w64 ((Int.tmod (w64 (n)) (w64 (((Entries.len : Nat) : Int) + 1))) + 1))))), .int .i64 x22, .slice x24.a x24.len x24.cap] H25 (fun r20 H26 => ∃ Base5 : Int, ∃ Term7 : Int, ∃ Entries5 : Sl, ∃ x26 : Bool, r20 = .tuple #[.agg #[.int .i64 Base5, .int .i64 Term7, .slice Entries5.a Entries5.len Entries5.cap], .bool x26] ∧ 
 Br (!x25) (
 tephralaw13_RlogPrefix.k4 J n k Base Term Entries y3 y4 y5 x22 x24 H26 Base5 Term7 Entries5 true Q)
 (
 tephralaw13_RlogPrefix.k4 J n k Base Term Entries y3 y4 y5 x22 x24 H26 Base5 Term7 Entries5 (!x26) Q)))))
theorem tephralaw13_RlogPrefix.l2.eq (J : Jn) (n : Int) (k : Int) (Base : Int) (Term : Int) (Entries : Sl) (x20 : Sl) (H22 : Hp) (x21 : Int) (y3 : Int) (y4 : Int) (y5 : Sl) (Q : Value → Hp → Prop) : vAtBody Try.prog tephralaw13_RlogPrefix.cf J tephralaw13_RlogPrefix.fn [1, 1, 1, 1, 1, 0, 1, 0] [0, 0, 0, 1, 1, 2, 2] Q (tephralaw13_RlogPrefix.l2.st n k Base Term Entries x20 H22 x21 y3 y4 y5) = tephralaw13_RlogPrefix.l2.body J n k Base Term Entries x20 H22 x21 y3 y4 y5 Q := by kernel_rfl
theorem tephralaw13_RlogPrefix.l2.step {n : Int} {k : Int} {Base : Int} {Term : Int} {Entries : Sl} {x20 : Sl} {H22 : Hp} {x21 : Int} {y3 : Int} {y4 : Int} {y5 : Sl} {Q : Value → Hp → Prop} (h : tephralaw13_RlogPrefix.l2.body J0 n k Base Term Entries x20 H22 x21 y3 y4 y5 Q) : tephralaw13_RlogPrefix.l2 J0 n k Base Term Entries x20 H22 x21 y3 y4 y5 Q := vAt_stepC (tephralaw13_RlogPrefix.l2.st n k Base Term Entries x20 H22 x21 y3 y4 y5) (tephralaw13_RlogPrefix.l2.eq J0 n k Base Term Entries x20 H22 x21 y3 y4 y5 Q) (by kernel_rfl) h
def tephralaw13_RlogPrefix.k4.body (J : Jn) (n : Int) (k : Int) (Base : Int) (Term : Int) (Entries : Sl) (y3 : Int) (y4 : Int) (y5 : Sl) (x22 : Int) (x24 : Sl) (H26 : Hp) (Base5 : Int) (Term7 : Int) (Entries5 : Sl) (x27 : Bool) (Q : Value → Hp → Prop) : Prop :=
 
 Br x27 (
 tephralaw13_RlogPrefix.k5 J n k Base Term Entries y3 y4 y5 x22 x24 Base5 Term7 Entries5 true (holes H26 1) Q)
 (
 SCalls Try.prog rlog_Right.id [.agg #[.int .i64 y3, .int .i64 y4, .slice y5.a y5.len y5.cap]] (holes H26 1) (fun r21 H27 => ∃ x28 : Bool, r21 = .bool x28 ∧ 
 tephralaw13_RlogPrefix.k5 J n k Base Term Entries y3 y4 y5 x22 x24 Base5 Term7 Entries5 (!x28) H27 Q))
theorem tephralaw13_RlogPrefix.k4.eq (J : Jn) (n : Int) (k : Int) (Base : Int) (Term : Int) (Entries : Sl) (y3 : Int) (y4 : Int) (y5 : Sl) (x22 : Int) (x24 : Sl) (H26 : Hp) (Base5 : Int) (Term7 : Int) (Entries5 : Sl) (x27 : Bool) (Q : Value → Hp → Prop) : vMid Try.prog tephralaw13_RlogPrefix.cf J tephralaw13_RlogPrefix.fn [1, 1, 1, 1, 1, 1, 1, 1, 1, 1, 0, 0] [0, 0, 0, 1, 1, 2, 2, 2, 2, 2, 3, 3] 6 Q (tephralaw13_RlogPrefix.k4.st n k Base Term Entries y3 y4 y5 x22 x24 H26 Base5 Term7 Entries5 x27) = tephralaw13_RlogPrefix.k4.body J n k Base Term Entries y3 y4 y5 x22 x24 H26 Base5 Term7 Entries5 x27 Q := by kernel_rfl
theorem tephralaw13_RlogPrefix.k4.step {n : Int} {k : Int} {Base : Int} {Term : Int} {Entries : Sl} {y3 : Int} {y4 : Int} {y5 : Sl} {x22 : Int} {x24 : Sl} {H26 : Hp} {Base5 : Int} {Term7 : Int} {Entries5 : Sl} {x27 : Bool} {Q : Value → Hp → Prop} (h : tephralaw13_RlogPrefix.k4.body J0 n k Base Term Entries y3 y4 y5 x22 x24 H26 Base5 Term7 Entries5 x27 Q) : tephralaw13_RlogPrefix.k4 J0 n k Base Term Entries y3 y4 y5 x22 x24 H26 Base5 Term7 Entries5 x27 Q := step_of (vMid Try.prog tephralaw13_RlogPrefix.cf J0 tephralaw13_RlogPrefix.fn [1, 1, 1, 1, 1, 1, 1, 1, 1, 1, 0, 0] [0, 0, 0, 1, 1, 2, 2, 2, 2, 2, 3, 3] 6 Q) (tephralaw13_RlogPrefix.k4.st n k Base Term Entries y3 y4 y5 x22 x24 H26 Base5 Term7 Entries5 x27) (tephralaw13_RlogPrefix.k4.eq J0 n k Base Term Entries y3 y4 y5 x22 x24 H26 Base5 Term7 Entries5 x27 Q) (by kernel_rfl) h
def tephralaw13_RlogPrefix.k5.body (J : Jn) (n : Int) (k : Int) (Base : Int) (Term : Int) (Entries : Sl) (y3 : Int) (y4 : Int) (y5 : Sl) (x22 : Int) (x24 : Sl) (Base5 : Int) (Term7 : Int) (Entries5 : Sl) (x29 : Bool) (H28 : Hp) (Q : Value → Hp → Prop) : Prop :=
 
 Br x29 (Q (.bool false) H28)
 (
 Br (((y5.len : Nat) : Int) == (Int.tmod (w64 (n)) (w64 (((Entries.len : Nat) : Int) + 1)))) (
 SCalls Try.prog tephralaw13_Same.id [.agg #[.int .i64 Base5, .int .i64 Term7, .slice Entries5.a Entries5.len Entries5.cap], .agg #[.int .i64 Base, .int .i64 Term, .slice Entries.a Entries.len Entries.cap]] H28 (fun r22 H29 => ∃ x30 : Bool, r22 = .bool x30 ∧ Q (.bool x30) H29))
 (
 SCalls Try.prog rlog_Log_Merge.id [.agg #[.int .i64 Base5, .int .i64 Term7, .slice Entries5.a Entries5.len Entries5.cap], .int .i64 (w64 (Base + (Int.tmod (w64 (k)) (w64 ((Int.tmod (w64 (n)) (w64 (((Entries.len : Nat) : Int) + 1))) + 1))))), .int .i64 x22, .slice x24.a x24.len x24.cap] H28 (fun r23 H30 => ∃ Base6 : Int, ∃ Term8 : Int, ∃ Entries6 : Sl, ∃ x31 : Bool, r23 = .tuple #[.agg #[.int .i64 Base6, .int .i64 Term8, .slice Entries6.a Entries6.len Entries6.cap], .bool x31] ∧ 
 SCalls Try.prog tephralaw13_Same.id [.agg #[.int .i64 Base5, .int .i64 Term7, .slice Entries5.a Entries5.len Entries5.cap], .agg #[.int .i64 y3, .int .i64 y4, .slice y5.a y5.len y5.cap]] (holes H30 1) (fun r24 H31 => ∃ x32 : Bool, r24 = .bool x32 ∧ 
 Br x32 (
 tephralaw13_RlogPrefix.k6 J Base Term Entries y3 y4 y5 Base5 Term7 Entries5 Base6 Term8 Entries6 H31 x31 Q)
 (
 tephralaw13_RlogPrefix.k6 J Base Term Entries y3 y4 y5 Base5 Term7 Entries5 Base6 Term8 Entries6 H31 false Q)))))
theorem tephralaw13_RlogPrefix.k5.eq (J : Jn) (n : Int) (k : Int) (Base : Int) (Term : Int) (Entries : Sl) (y3 : Int) (y4 : Int) (y5 : Sl) (x22 : Int) (x24 : Sl) (Base5 : Int) (Term7 : Int) (Entries5 : Sl) (x29 : Bool) (H28 : Hp) (Q : Value → Hp → Prop) : vSeg Try.prog tephralaw13_RlogPrefix.cf J tephralaw13_RlogPrefix.fn [1, 1, 1, 1, 1, 1, 1, 1, 1, 1, 0, 1] [0, 0, 0, 1, 1, 2, 2, 2, 2, 2, 3, 3] Q (tephralaw13_RlogPrefix.k5.st n k Base Term Entries y3 y4 y5 x22 x24 Base5 Term7 Entries5 x29 H28) = tephralaw13_RlogPrefix.k5.body J n k Base Term Entries y3 y4 y5 x22 x24 Base5 Term7 Entries5 x29 H28 Q := by kernel_rfl
theorem tephralaw13_RlogPrefix.k5.step {n : Int} {k : Int} {Base : Int} {Term : Int} {Entries : Sl} {y3 : Int} {y4 : Int} {y5 : Sl} {x22 : Int} {x24 : Sl} {Base5 : Int} {Term7 : Int} {Entries5 : Sl} {x29 : Bool} {H28 : Hp} {Q : Value → Hp → Prop} (h : tephralaw13_RlogPrefix.k5.body J0 n k Base Term Entries y3 y4 y5 x22 x24 Base5 Term7 Entries5 x29 H28 Q) : tephralaw13_RlogPrefix.k5 J0 n k Base Term Entries y3 y4 y5 x22 x24 Base5 Term7 Entries5 x29 H28 Q := step_of (vSeg Try.prog tephralaw13_RlogPrefix.cf J0 tephralaw13_RlogPrefix.fn [1, 1, 1, 1, 1, 1, 1, 1, 1, 1, 0, 1] [0, 0, 0, 1, 1, 2, 2, 2, 2, 2, 3, 3] Q) (tephralaw13_RlogPrefix.k5.st n k Base Term Entries y3 y4 y5 x22 x24 Base5 Term7 Entries5 x29 H28) (tephralaw13_RlogPrefix.k5.eq J0 n k Base Term Entries y3 y4 y5 x22 x24 Base5 Term7 Entries5 x29 H28 Q) (by kernel_rfl) h
def tephralaw13_RlogPrefix.k6.body (J : Jn) (Base : Int) (Term : Int) (Entries : Sl) (y3 : Int) (y4 : Int) (y5 : Sl) (Base5 : Int) (Term7 : Int) (Entries5 : Sl) (Base6 : Int) (Term8 : Int) (Entries6 : Sl) (H31 : Hp) (x33 : Bool) (Q : Value → Hp → Prop) : Prop :=
 
 Br x33 (
 SCalls Try.prog tephralaw13_Same.id [.agg #[.int .i64 Base5, .int .i64 Term7, .slice Entries5.a Entries5.len Entries5.cap], .agg #[.int .i64 Base6, .int .i64 Term8, .slice Entries6.a Entries6.len Entries6.cap]] H31 (fun r25 H32 => ∃ x34 : Bool, r25 = .bool x34 ∧ Q (.bool x34) H32))
 (Q (.bool false) H31)
theorem tephralaw13_RlogPrefix.k6.eq (J : Jn) (Base : Int) (Term : Int) (Entries : Sl) (y3 : Int) (y4 : Int) (y5 : Sl) (Base5 : Int) (Term7 : Int) (Entries5 : Sl) (Base6 : Int) (Term8 : Int) (Entries6 : Sl) (H31 : Hp) (x33 : Bool) (Q : Value → Hp → Prop) : vMid Try.prog tephralaw13_RlogPrefix.cf J tephralaw13_RlogPrefix.fn [1, 1, 1, 1, 1, 1, 1, 1, 1, 1, 1, 1, 1, 0] [0, 0, 0, 1, 1, 2, 2, 2, 2, 2, 3, 3, 3, 4] 6 Q (tephralaw13_RlogPrefix.k6.st Base Term Entries y3 y4 y5 Base5 Term7 Entries5 Base6 Term8 Entries6 H31 x33) = tephralaw13_RlogPrefix.k6.body J Base Term Entries y3 y4 y5 Base5 Term7 Entries5 Base6 Term8 Entries6 H31 x33 Q := by kernel_rfl
theorem tephralaw13_RlogPrefix.k6.step {Base : Int} {Term : Int} {Entries : Sl} {y3 : Int} {y4 : Int} {y5 : Sl} {Base5 : Int} {Term7 : Int} {Entries5 : Sl} {Base6 : Int} {Term8 : Int} {Entries6 : Sl} {H31 : Hp} {x33 : Bool} {Q : Value → Hp → Prop} (h : tephralaw13_RlogPrefix.k6.body J0 Base Term Entries y3 y4 y5 Base5 Term7 Entries5 Base6 Term8 Entries6 H31 x33 Q) : tephralaw13_RlogPrefix.k6 J0 Base Term Entries y3 y4 y5 Base5 Term7 Entries5 Base6 Term8 Entries6 H31 x33 Q := step_of (vMid Try.prog tephralaw13_RlogPrefix.cf J0 tephralaw13_RlogPrefix.fn [1, 1, 1, 1, 1, 1, 1, 1, 1, 1, 1, 1, 1, 0] [0, 0, 0, 1, 1, 2, 2, 2, 2, 2, 3, 3, 3, 4] 6 Q) (tephralaw13_RlogPrefix.k6.st Base Term Entries y3 y4 y5 Base5 Term7 Entries5 Base6 Term8 Entries6 H31 x33) (tephralaw13_RlogPrefix.k6.eq J0 Base Term Entries y3 y4 y5 Base5 Term7 Entries5 Base6 Term8 Entries6 H31 x33 Q) (by kernel_rfl) h
def tephralaw13_RlogPrefix.vc (J : Jn) (says : Sl) (more : Sl) (base : Int) (t : Int) (n : Int) (k : Int) (H : Hp) (Q : Value → Hp → Prop) : Prop :=
 
 SCalls Try.prog tephralaw13_awake.id [] H (fun r H1 => ∃ x : Bool, r = .bool x ∧ 
 Br (!x) (Q (.bool false) H1)
 (
 SCalls Try.prog tephralaw13_Some.id [.slice says.a says.len says.cap, .int .u8 base, .int .u8 t] H1 (fun r1 H2 => ∃ Base : Int, ∃ Term : Int, ∃ Entries : Sl, r1 = .agg #[.int .i64 Base, .int .i64 Term, .slice Entries.a Entries.len Entries.cap] ∧ ((w64 (((Entries.len : Nat) : Int) + 1)) : Int) ≠ 0 ∧ ((0 : Int) ≤ (Int.tmod (w64 (n)) (w64 (((Entries.len : Nat) : Int) + 1))) ∧ (Int.tmod (w64 (n)) (w64 (((Entries.len : Nat) : Int) + 1))) ≤ ((Entries.cap : Nat) : Int)) ∧ 
  (
 vApp Try.prog T_sl_api_Entry none 0 0 (.slice (cutA Entries.a Entries.cap 0 8) (((Int.tmod (w64 (n)) (w64 (((Entries.len : Nat) : Int) + 1))) : Int).toNat) Entries.cap) (holes H2 1) (fun ap H3 => 
 SCalls Try.prog rlog_Log_Last.id [.agg #[.int .i64 Base, .int .i64 Term, .slice ap.a ap.len ap.cap]] (holes H3 1) (fun r2 H5 => ∃ x1 : Int, r2 = .int .i64 x1 ∧ 
 SCalls Try.prog rlog_Log_LastTerm.id [.agg #[.int .i64 Base, .int .i64 Term, .slice Entries.a Entries.len Entries.cap]] H5 (fun r3 H6 => ∃ x2 : Int, r3 = .int .i64 x2 ∧ 
 SCalls Try.prog tephralaw06_Entries.id [.slice more.a more.len more.cap, .int .i64 (w64 (x1 + 1)), .int .i64 (w64 (x2 + 1))] H6 (fun r4 H7 => ∃ x3 : Sl, r4 = .slice x3.a x3.len x3.cap ∧ 
 tephralaw13_RlogPrefix.l1 J n k Base Term Entries x3 H7 0 Base Term ap Q))))) ∧ 
  (
 vApp Try.prog T_sl_api_Entry none 0 0 (.slice (cutA Entries.a Entries.cap 0 8) (((Int.tmod (w64 (n)) (w64 (((Entries.len : Nat) : Int) + 1))) : Int).toNat) Entries.cap) (holes H2 2) (fun ap1 H4 => 
 SCalls Try.prog rlog_Log_Last.id [.agg #[.int .i64 Base, .int .i64 Term, .slice ap1.a ap1.len ap1.cap]] H4 (fun r14 H19 => ∃ x18 : Int, r14 = .int .i64 x18 ∧ 
 SCalls Try.prog rlog_Log_LastTerm.id [.agg #[.int .i64 Base, .int .i64 Term, .slice Entries.a Entries.len Entries.cap]] H19 (fun r15 H20 => ∃ x19 : Int, r15 = .int .i64 x19 ∧ 
 SCalls Try.prog tephralaw06_Entries.id [.slice more.a more.len more.cap, .int .i64 (w64 (x18 + 1)), .int .i64 (w64 (x19 + 1))] H20 (fun r16 H21 => ∃ x20 : Sl, r16 = .slice x20.a x20.len x20.cap ∧ 
 tephralaw13_RlogPrefix.l2 J n k Base Term Entries x20 H21 0 Base Term ap1 Q))))))))
theorem tephralaw13_RlogPrefix.eq (J : Jn) (says : Sl) (more : Sl) (base : Int) (t : Int) (n : Int) (k : Int) (H : Hp) (Q : Value → Hp → Prop) : vFn Try.prog tephralaw13_RlogPrefix.cf J tephralaw13_RlogPrefix.fn [.slice says.a says.len says.cap, .slice more.a more.len more.cap, .int .u8 base, .int .u8 t, .int .u8 n, .int .u8 k] H Q = tephralaw13_RlogPrefix.vc J says more base t n k H Q := by kernel_rfl
theorem tephralaw13_RlogPrefix.calls {says : Sl} {more : Sl} {base : Int} {t : Int} {n : Int} {k : Int} {H : Hp} {Q : Value → Hp → Prop} (h : tephralaw13_RlogPrefix.vc J0 says more base t n k H Q) : SCalls Try.prog tephralaw13_RlogPrefix.id [.slice says.a says.len says.cap, .slice more.a more.len more.cap, .int .u8 base, .int .u8 t, .int .u8 n, .int .u8 k] H Q := vFn_of Try.mixed Try.func8 (tephralaw13_RlogPrefix.eq J0 says more base t n k H Q) h

/-! 9: tephra/tephralaw13.RlogCompact -/
def tephralaw13_RlogCompact.cf : Cfg := ⟨[11, 12], [], [(11, [3, 4, 11, 12, 16, 105], true)], []⟩
def tephralaw13_RlogCompact.k1.st (i : Int) (j : Int) (Base : Int) (Term : Int) (Entries : Sl) (Base1 : Int) (Term1 : Int) (Entries1 : Sl) (x5 : Bool) (x13 : Bool) (H13 : Hp) : VS := ⟨mkFr 126 [(3, .v (.int .i8 i)), (4, .v (.int .i8 j)), (11, .loc 0 0), (12, .loc 1 0), (16, .v (.bool x5)), (105, .v (.bool x13))], [(T_rlog_Log, [.int .i64 Base, .int .i64 Term, .slice Entries.a Entries.len Entries.cap]), (T_rlog_Log, [.int .i64 Base1, .int .i64 Term1, .slice Entries1.a Entries1.len Entries1.cap])], H13⟩
def tephralaw13_RlogCompact.k1 (J : Jn) (i : Int) (j : Int) (Base : Int) (Term : Int) (Entries : Sl) (Base1 : Int) (Term1 : Int) (Entries1 : Sl) (x5 : Bool) (x13 : Bool) (H13 : Hp) (Q : Value → Hp → Prop) : Prop := J (vSeg Try.prog tephralaw13_RlogCompact.cf J tephralaw13_RlogCompact.fn [1, 1, 1, 1, 1, 1, 1, 0, 1] [0, 0, 0, 1, 2, 2, 2, 2, 2] Q) (tephralaw13_RlogCompact.k1.st i j Base Term Entries Base1 Term1 Entries1 x5 x13 H13)
attribute [irreducible] tephralaw13_RlogCompact.k1
def tephralaw13_RlogCompact.k1.body (J : Jn) (i : Int) (j : Int) (Base : Int) (Term : Int) (Entries : Sl) (Base1 : Int) (Term1 : Int) (Entries1 : Sl) (x5 : Bool) (x13 : Bool) (H13 : Hp) (Q : Value → Hp → Prop) : Prop :=
 
 Br x13 (Q (.bool false) H13)
 (
 SCalls Try.prog rlog_Log_Compact.id [.agg #[.int .i64 Base1, .int .i64 Term1, .slice Entries1.a Entries1.len Entries1.cap], .int .i64 (w64 (j))] H13 (fun r12 H14 => ∃ Base2 : Int, ∃ Term2 : Int, ∃ Entries2 : Sl, r12 = .agg #[.int .i64 Base2, .int .i64 Term2, .slice Entries2.a Entries2.len Entries2.cap] ∧ 
 SCalls Try.prog rlog_Log_Compact.id [.agg #[.int .i64 Base, .int .i64 Term, .slice Entries.a Entries.len Entries.cap], .int .i64 (w64 (j))] H14 (fun r13 H15 => ∃ Base3 : Int, ∃ Term3 : Int, ∃ Entries3 : Sl, r13 = .agg #[.int .i64 Base3, .int .i64 Term3, .slice Entries3.a Entries3.len Entries3.cap] ∧ 
 SCalls Try.prog tephralaw13_Same.id [.agg #[.int .i64 Base2, .int .i64 Term2, .slice Entries2.a Entries2.len Entries2.cap], .agg #[.int .i64 Base3, .int .i64 Term3, .slice Entries3.a Entries3.len Entries3.cap]] H15 (fun r14 H16 => ∃ x14 : Bool, r14 = .bool x14 ∧ 
 Br x14 (
  (Q (.bool true) H16) ∧ 
  (Q (.bool true) H16))
 (
 Br (decide ((w64 (j)) < (w64 (i)))) (Q (.bool true) H16)
 (Q (.bool (!x5)) H16))))))
theorem tephralaw13_RlogCompact.k1.eq (J : Jn) (i : Int) (j : Int) (Base : Int) (Term : Int) (Entries : Sl) (Base1 : Int) (Term1 : Int) (Entries1 : Sl) (x5 : Bool) (x13 : Bool) (H13 : Hp) (Q : Value → Hp → Prop) : vSeg Try.prog tephralaw13_RlogCompact.cf J tephralaw13_RlogCompact.fn [1, 1, 1, 1, 1, 1, 1, 0, 1] [0, 0, 0, 1, 2, 2, 2, 2, 2] Q (tephralaw13_RlogCompact.k1.st i j Base Term Entries Base1 Term1 Entries1 x5 x13 H13) = tephralaw13_RlogCompact.k1.body J i j Base Term Entries Base1 Term1 Entries1 x5 x13 H13 Q := by kernel_rfl
theorem tephralaw13_RlogCompact.k1.step {i : Int} {j : Int} {Base : Int} {Term : Int} {Entries : Sl} {Base1 : Int} {Term1 : Int} {Entries1 : Sl} {x5 : Bool} {x13 : Bool} {H13 : Hp} {Q : Value → Hp → Prop} (h : tephralaw13_RlogCompact.k1.body J0 i j Base Term Entries Base1 Term1 Entries1 x5 x13 H13 Q) : tephralaw13_RlogCompact.k1 J0 i j Base Term Entries Base1 Term1 Entries1 x5 x13 H13 Q := step_of (vSeg Try.prog tephralaw13_RlogCompact.cf J0 tephralaw13_RlogCompact.fn [1, 1, 1, 1, 1, 1, 1, 0, 1] [0, 0, 0, 1, 2, 2, 2, 2, 2] Q) (tephralaw13_RlogCompact.k1.st i j Base Term Entries Base1 Term1 Entries1 x5 x13 H13) (tephralaw13_RlogCompact.k1.eq J0 i j Base Term Entries Base1 Term1 Entries1 x5 x13 H13 Q) (by kernel_rfl) h
def tephralaw13_RlogCompact.vc (J : Jn) (says : Sl) (base : Int) (t : Int) (i : Int) (j : Int) (H : Hp) (Q : Value → Hp → Prop) : Prop :=
 
 SCalls Try.prog tephralaw13_awake.id [] H (fun r H1 => ∃ x : Bool, r = .bool x ∧ 
 Br (!x) (Q (.bool false) H1)
 (
 SCalls Try.prog tephralaw13_Some.id [.slice says.a says.len says.cap, .int .u8 base, .int .u8 t] H1 (fun r1 H2 => ∃ Base : Int, ∃ Term : Int, ∃ Entries : Sl, r1 = .agg #[.int .i64 Base, .int .i64 Term, .slice Entries.a Entries.len Entries.cap] ∧ 
 SCalls Try.prog rlog_Log_Compact.id [.agg #[.int .i64 Base, .int .i64 Term, .slice Entries.a Entries.len Entries.cap], .int .i64 (w64 (i))] (holes H2 1) (fun r2 H3 => ∃ Base1 : Int, ∃ Term1 : Int, ∃ Entries1 : Sl, r2 = .agg #[.int .i64 Base1, .int .i64 Term1, .slice Entries1.a Entries1.len Entries1.cap] ∧ 
 SCalls Try.prog rlog_Log_TermAt.id [.agg #[.int .i64 Base, .int .i64 Term, .slice Entries.a Entries.len Entries.cap], .int .i64 (w64 (i))] (holes H3 1) (fun r3 H4 => ∃ x1 : Int, ∃ x2 : Bool, r3 = .tuple #[.int .i64 x1, .bool x2] ∧ 
 Br (!x2) (
 SCalls Try.prog tephralaw13_Same.id [.agg #[.int .i64 Base, .int .i64 Term, .slice Entries.a Entries.len Entries.cap], .agg #[.int .i64 Base1, .int .i64 Term1, .slice Entries1.a Entries1.len Entries1.cap]] H4 (fun r4 H5 => ∃ x3 : Bool, r4 = .bool x3 ∧ Q (.bool x3) H5))
 (
 SCalls Try.prog rlog_Log_TermAt.id [.agg #[.int .i64 Base, .int .i64 Term, .slice Entries.a Entries.len Entries.cap], .int .i64 (w64 (j))] H4 (fun r5 H6 => ∃ x4 : Int, ∃ x5 : Bool, r5 = .tuple #[.int .i64 x4, .bool x5] ∧ 
 SCalls Try.prog rlog_Log_TermAt.id [.agg #[.int .i64 Base1, .int .i64 Term1, .slice Entries1.a Entries1.len Entries1.cap], .int .i64 (w64 (j))] H6 (fun r6 H7 => ∃ x6 : Int, ∃ x7 : Bool, r6 = .tuple #[.int .i64 x6, .bool x7] ∧ 
 Br (Base1 != (w64 (i))) (
  (
  (
 tephralaw13_RlogCompact.k1 J i j Base Term Entries Base1 Term1 Entries1 x5 true H7 Q) ∧ 
  (
 tephralaw13_RlogCompact.k1 J i j Base Term Entries Base1 Term1 Entries1 x5 true H7 Q)) ∧ 
  (
  (
 tephralaw13_RlogCompact.k1 J i j Base Term Entries Base1 Term1 Entries1 x5 true H7 Q) ∧ 
  (
 tephralaw13_RlogCompact.k1 J i j Base Term Entries Base1 Term1 Entries1 x5 true H7 Q)))
 (
 SCalls Try.prog rlog_Log_Last.id [.agg #[.int .i64 Base1, .int .i64 Term1, .slice Entries1.a Entries1.len Entries1.cap]] H7 (fun r7 H8 => ∃ x8 : Int, r7 = .int .i64 x8 ∧ 
 SCalls Try.prog rlog_Log_Last.id [.agg #[.int .i64 Base, .int .i64 Term, .slice Entries.a Entries.len Entries.cap]] H8 (fun r8 H9 => ∃ x9 : Int, r8 = .int .i64 x9 ∧ 
 Br (x8 != x9) (
  (
  (
 tephralaw13_RlogCompact.k1 J i j Base Term Entries Base1 Term1 Entries1 x5 true H9 Q) ∧ 
  (
 tephralaw13_RlogCompact.k1 J i j Base Term Entries Base1 Term1 Entries1 x5 true H9 Q)) ∧ 
  (
  (
 tephralaw13_RlogCompact.k1 J i j Base Term Entries Base1 Term1 Entries1 x5 true H9 Q) ∧ 
  (
 tephralaw13_RlogCompact.k1 J i j Base Term Entries Base1 Term1 Entries1 x5 true H9 Q)))
 (
 SCalls Try.prog rlog_Log_LastTerm.id [.agg #[.int .i64 Base1, .int .i64 Term1, .slice Entries1.a Entries1.len Entries1.cap]] H9 (fun r9 H10 => ∃ x10 : Int, r9 = .int .i64 x10 ∧ 
 SCalls Try.prog rlog_Log_LastTerm.id [.agg #[.int .i64 Base, .int .i64 Term, .slice Entries.a Entries.len Entries.cap]] H10 (fun r10 H11 => ∃ x11 : Int, r10 = .int .i64 x11 ∧ 
 Br (x10 != x11) (
  (
  (
 tephralaw13_RlogCompact.k1 J i j Base Term Entries Base1 Term1 Entries1 x5 true H11 Q) ∧ 
  (
 tephralaw13_RlogCompact.k1 J i j Base Term Entries Base1 Term1 Entries1 x5 true H11 Q)) ∧ 
  (
  (
 tephralaw13_RlogCompact.k1 J i j Base Term Entries Base1 Term1 Entries1 x5 true H11 Q) ∧ 
  (
 tephralaw13_RlogCompact.k1 J i j Base Term Entries Base1 Term1 Entries1 x5 true H11 Q)))
 (
 SCalls Try.prog rlog_Right.id [.agg #[.int .i64 Base1, .int .i64 Term1, .slice Entries1.a Entries1.len Entries1.cap]] H11 (fun r11 H12 => ∃ x12 : Bool, r11 = .bool x12 ∧ 
 Br (!x12) (
  (
  (
 tephralaw13_RlogCompact.k1 J i j Base Term Entries Base1 Term1 Entries1 x5 true H12 Q) ∧ 
  (
 tephralaw13_RlogCompact.k1 J i j Base Term Entries Base1 Term1 Entries1 x5 true H12 Q)) ∧ 
  (
  (
 tephralaw13_RlogCompact.k1 J i j Base Term Entries Base1 Term1 Entries1 x5 true H12 Q) ∧ 
  (
 tephralaw13_RlogCompact.k1 J i j Base Term Entries Base1 Term1 Entries1 x5 true H12 Q)))
 (
 Br (decide ((w64 (j)) < (w64 (i)))) (
 Br x7 (
  (
 tephralaw13_RlogCompact.k1 J i j Base Term Entries Base1 Term1 Entries1 x5 true H12 Q) ∧ 
  (
 tephralaw13_RlogCompact.k1 J i j Base Term Entries Base1 Term1 Entries1 x5 true H12 Q))
 (
 Br (decide ((w64 (j)) ≥ (w64 (i)))) (
 Br (x4 != x6) (
 tephralaw13_RlogCompact.k1 J i j Base Term Entries Base1 Term1 Entries1 x5 true H12 Q)
 (
 tephralaw13_RlogCompact.k1 J i j Base Term Entries Base1 Term1 Entries1 x5 (!(x5 == x7)) H12 Q))
 (
 tephralaw13_RlogCompact.k1 J i j Base Term Entries Base1 Term1 Entries1 x5 false H12 Q)))
 (
 Br (decide ((w64 (j)) ≥ (w64 (i)))) (
 Br (x4 != x6) (
 tephralaw13_RlogCompact.k1 J i j Base Term Entries Base1 Term1 Entries1 x5 true H12 Q)
 (
 tephralaw13_RlogCompact.k1 J i j Base Term Entries Base1 Term1 Entries1 x5 (!(x5 == x7)) H12 Q))
 (
 tephralaw13_RlogCompact.k1 J i j Base Term Entries Base1 Term1 Entries1 x5 false H12 Q)))))))))))))))))))
theorem tephralaw13_RlogCompact.eq (J : Jn) (says : Sl) (base : Int) (t : Int) (i : Int) (j : Int) (H : Hp) (Q : Value → Hp → Prop) : vFn Try.prog tephralaw13_RlogCompact.cf J tephralaw13_RlogCompact.fn [.slice says.a says.len says.cap, .int .u8 base, .int .u8 t, .int .i8 i, .int .i8 j] H Q = tephralaw13_RlogCompact.vc J says base t i j H Q := by kernel_rfl
theorem tephralaw13_RlogCompact.calls {says : Sl} {base : Int} {t : Int} {i : Int} {j : Int} {H : Hp} {Q : Value → Hp → Prop} (h : tephralaw13_RlogCompact.vc J0 says base t i j H Q) : SCalls Try.prog tephralaw13_RlogCompact.id [.slice says.a says.len says.cap, .int .u8 base, .int .u8 t, .int .i8 i, .int .i8 j] H Q := vFn_of Try.mixed Try.func9 (tephralaw13_RlogCompact.eq J0 says base t i j H Q) h

/-! 10: tephra/tephralaw13.awake -/
def tephralaw13_awake.cf : Cfg := ⟨[1, 2, 4], [], [], [(30, [1, 2, 30]), (35, [1, 2, 35]), (40, [1, 2, 40]), (45, [1, 45]), (49, [1, 49])]⟩
def tephralaw13_awake.k1.st (Base2 : Int) (Term2 : Int) (Entries2 : Sl) (Base3 : Int) (Term3 : Int) (Entries3 : Sl) (H5 : Hp) (Base4 : Int) (Term4 : Int) (Entries4 : Sl) (x2 : Bool) : VS := ⟨mkFr 55 [(1, .loc 0 0), (2, .loc 1 0), (30, .v (.bool x2))], [(T_rlog_Log, [.int .i64 Base2, .int .i64 Term2, .slice Entries2.a Entries2.len Entries2.cap]), (T_rlog_Log, [.int .i64 Base3, .int .i64 Term3, .slice Entries3.a Entries3.len Entries3.cap]), (T_rlog_Log, [.int .i64 Base4, .int .i64 Term4, .slice Entries4.a Entries4.len Entries4.cap])], (holes H5 1)⟩
def tephralaw13_awake.k1 (J : Jn) (Base2 : Int) (Term2 : Int) (Entries2 : Sl) (Base3 : Int) (Term3 : Int) (Entries3 : Sl) (H5 : Hp) (Base4 : Int) (Term4 : Int) (Entries4 : Sl) (x2 : Bool) (Q : Value → Hp → Prop) : Prop := J (vMid Try.prog tephralaw13_awake.cf J tephralaw13_awake.fn [1, 1, 1, 1, 1, 0] [0, 0, 1, 1, 2, 3] 5 Q) (tephralaw13_awake.k1.st Base2 Term2 Entries2 Base3 Term3 Entries3 H5 Base4 Term4 Entries4 x2)
def tephralaw13_awake.k2.st (Base2 : Int) (Term2 : Int) (Entries2 : Sl) (Base3 : Int) (Term3 : Int) (Entries3 : Sl) (Base4 : Int) (Term4 : Int) (Entries4 : Sl) (x4 : Bool) (H7 : Hp) : VS := ⟨mkFr 55 [(1, .loc 0 0), (2, .loc 1 0), (35, .v (.bool x4))], [(T_rlog_Log, [.int .i64 Base2, .int .i64 Term2, .slice Entries2.a Entries2.len Entries2.cap]), (T_rlog_Log, [.int .i64 Base3, .int .i64 Term3, .slice Entries3.a Entries3.len Entries3.cap]), (T_rlog_Log, [.int .i64 Base4, .int .i64 Term4, .slice Entries4.a Entries4.len Entries4.cap])], H7⟩
def tephralaw13_awake.k2 (J : Jn) (Base2 : Int) (Term2 : Int) (Entries2 : Sl) (Base3 : Int) (Term3 : Int) (Entries3 : Sl) (Base4 : Int) (Term4 : Int) (Entries4 : Sl) (x4 : Bool) (H7 : Hp) (Q : Value → Hp → Prop) : Prop := J (vMid Try.prog tephralaw13_awake.cf J tephralaw13_awake.fn [1, 1, 1, 1, 1, 0] [0, 0, 1, 1, 2, 3] 10 Q) (tephralaw13_awake.k2.st Base2 Term2 Entries2 Base3 Term3 Entries3 Base4 Term4 Entries4 x4 H7)
def tephralaw13_awake.k3.st (Base2 : Int) (Term2 : Int) (Entries2 : Sl) (Base3 : Int) (Term3 : Int) (Entries3 : Sl) (Base4 : Int) (Term4 : Int) (Entries4 : Sl) (x6 : Bool) (H9 : Hp) : VS := ⟨mkFr 55 [(1, .loc 0 0), (2, .loc 1 0), (40, .v (.bool x6))], [(T_rlog_Log, [.int .i64 Base2, .int .i64 Term2, .slice Entries2.a Entries2.len Entries2.cap]), (T_rlog_Log, [.int .i64 Base3, .int .i64 Term3, .slice Entries3.a Entries3.len Entries3.cap]), (T_rlog_Log, [.int .i64 Base4, .int .i64 Term4, .slice Entries4.a Entries4.len Entries4.cap])], H9⟩
def tephralaw13_awake.k3 (J : Jn) (Base2 : Int) (Term2 : Int) (Entries2 : Sl) (Base3 : Int) (Term3 : Int) (Entries3 : Sl) (Base4 : Int) (Term4 : Int) (Entries4 : Sl) (x6 : Bool) (H9 : Hp) (Q : Value → Hp → Prop) : Prop := J (vMid Try.prog tephralaw13_awake.cf J tephralaw13_awake.fn [1, 1, 1, 1, 1, 0] [0, 0, 1, 1, 2, 3] 15 Q) (tephralaw13_awake.k3.st Base2 Term2 Entries2 Base3 Term3 Entries3 Base4 Term4 Entries4 x6 H9)
def tephralaw13_awake.k4.st (Base2 : Int) (Term2 : Int) (Entries2 : Sl) (Base3 : Int) (Term3 : Int) (Entries3 : Sl) (Base4 : Int) (Term4 : Int) (Entries4 : Sl) (x8 : Bool) (H11 : Hp) : VS := ⟨mkFr 55 [(1, .loc 0 0), (45, .v (.bool x8))], [(T_rlog_Log, [.int .i64 Base2, .int .i64 Term2, .slice Entries2.a Entries2.len Entries2.cap]), (T_rlog_Log, [.int .i64 Base3, .int .i64 Term3, .slice Entries3.a Entries3.len Entries3.cap]), (T_rlog_Log, [.int .i64 Base4, .int .i64 Term4, .slice Entries4.a Entries4.len Entries4.cap])], H11⟩
def tephralaw13_awake.k4 (J : Jn) (Base2 : Int) (Term2 : Int) (Entries2 : Sl) (Base3 : Int) (Term3 : Int) (Entries3 : Sl) (Base4 : Int) (Term4 : Int) (Entries4 : Sl) (x8 : Bool) (H11 : Hp) (Q : Value → Hp → Prop) : Prop := J (vMid Try.prog tephralaw13_awake.cf J tephralaw13_awake.fn [1, 1, 1, 1, 1, 0] [0, 0, 1, 1, 2, 3] 20 Q) (tephralaw13_awake.k4.st Base2 Term2 Entries2 Base3 Term3 Entries3 Base4 Term4 Entries4 x8 H11)
def tephralaw13_awake.k5.st (Base2 : Int) (Term2 : Int) (Entries2 : Sl) (Base3 : Int) (Term3 : Int) (Entries3 : Sl) (Base4 : Int) (Term4 : Int) (Entries4 : Sl) (x10 : Bool) (H13 : Hp) : VS := ⟨mkFr 55 [(1, .loc 0 0), (49, .v (.bool x10))], [(T_rlog_Log, [.int .i64 Base2, .int .i64 Term2, .slice Entries2.a Entries2.len Entries2.cap]), (T_rlog_Log, [.int .i64 Base3, .int .i64 Term3, .slice Entries3.a Entries3.len Entries3.cap]), (T_rlog_Log, [.int .i64 Base4, .int .i64 Term4, .slice Entries4.a Entries4.len Entries4.cap])], H13⟩
def tephralaw13_awake.k5 (J : Jn) (Base2 : Int) (Term2 : Int) (Entries2 : Sl) (Base3 : Int) (Term3 : Int) (Entries3 : Sl) (Base4 : Int) (Term4 : Int) (Entries4 : Sl) (x10 : Bool) (H13 : Hp) (Q : Value → Hp → Prop) : Prop := J (vMid Try.prog tephralaw13_awake.cf J tephralaw13_awake.fn [1, 1, 1, 1, 1, 0] [0, 0, 1, 1, 2, 3] 24 Q) (tephralaw13_awake.k5.st Base2 Term2 Entries2 Base3 Term3 Entries3 Base4 Term4 Entries4 x10 H13)
attribute [irreducible] tephralaw13_awake.k1 tephralaw13_awake.k2 tephralaw13_awake.k3 tephralaw13_awake.k4 tephralaw13_awake.k5
def tephralaw13_awake.k1.body (J : Jn) (Base2 : Int) (Term2 : Int) (Entries2 : Sl) (Base3 : Int) (Term3 : Int) (Entries3 : Sl) (H5 : Hp) (Base4 : Int) (Term4 : Int) (Entries4 : Sl) (x2 : Bool) (Q : Value → Hp → Prop) : Prop :=
 
 Br x2 (
 SCalls Try.prog rlog_Log_Last.id [.agg #[.int .i64 Base2, .int .i64 Term2, .slice Entries2.a Entries2.len Entries2.cap]] (holes H5 1) (fun r5 H6 => ∃ x3 : Int, r5 = .int .i64 x3 ∧ 
 tephralaw13_awake.k2 J Base2 Term2 Entries2 Base3 Term3 Entries3 Base4 Term4 Entries4 (x3 == 3) H6 Q))
 (
 tephralaw13_awake.k2 J Base2 Term2 Entries2 Base3 Term3 Entries3 Base4 Term4 Entries4 false (holes H5 1) Q)
theorem tephralaw13_awake.k1.eq (J : Jn) (Base2 : Int) (Term2 : Int) (Entries2 : Sl) (Base3 : Int) (Term3 : Int) (Entries3 : Sl) (H5 : Hp) (Base4 : Int) (Term4 : Int) (Entries4 : Sl) (x2 : Bool) (Q : Value → Hp → Prop) : vMid Try.prog tephralaw13_awake.cf J tephralaw13_awake.fn [1, 1, 1, 1, 1, 0] [0, 0, 1, 1, 2, 3] 5 Q (tephralaw13_awake.k1.st Base2 Term2 Entries2 Base3 Term3 Entries3 H5 Base4 Term4 Entries4 x2) = tephralaw13_awake.k1.body J Base2 Term2 Entries2 Base3 Term3 Entries3 H5 Base4 Term4 Entries4 x2 Q := by kernel_rfl
theorem tephralaw13_awake.k1.step {Base2 : Int} {Term2 : Int} {Entries2 : Sl} {Base3 : Int} {Term3 : Int} {Entries3 : Sl} {H5 : Hp} {Base4 : Int} {Term4 : Int} {Entries4 : Sl} {x2 : Bool} {Q : Value → Hp → Prop} (h : tephralaw13_awake.k1.body J0 Base2 Term2 Entries2 Base3 Term3 Entries3 H5 Base4 Term4 Entries4 x2 Q) : tephralaw13_awake.k1 J0 Base2 Term2 Entries2 Base3 Term3 Entries3 H5 Base4 Term4 Entries4 x2 Q := step_of (vMid Try.prog tephralaw13_awake.cf J0 tephralaw13_awake.fn [1, 1, 1, 1, 1, 0] [0, 0, 1, 1, 2, 3] 5 Q) (tephralaw13_awake.k1.st Base2 Term2 Entries2 Base3 Term3 Entries3 H5 Base4 Term4 Entries4 x2) (tephralaw13_awake.k1.eq J0 Base2 Term2 Entries2 Base3 Term3 Entries3 H5 Base4 Term4 Entries4 x2 Q) (by kernel_rfl) h
def tephralaw13_awake.k2.body (J : Jn) (Base2 : Int) (Term2 : Int) (Entries2 : Sl) (Base3 : Int) (Term3 : Int) (Entries3 : Sl) (Base4 : Int) (Term4 : Int) (Entries4 : Sl) (x4 : Bool) (H7 : Hp) (Q : Value → Hp → Prop) : Prop :=
 
 Br x4 (
 SCalls Try.prog rlog_Log_Last.id [.agg #[.int .i64 Base3, .int .i64 Term3, .slice Entries3.a Entries3.len Entries3.cap]] H7 (fun r6 H8 => ∃ x5 : Int, r6 = .int .i64 x5 ∧ 
 tephralaw13_awake.k3 J Base2 Term2 Entries2 Base3 Term3 Entries3 Base4 Term4 Entries4 (x5 == 2) H8 Q))
 (
 tephralaw13_awake.k3 J Base2 Term2 Entries2 Base3 Term3 Entries3 Base4 Term4 Entries4 false H7 Q)
theorem tephralaw13_awake.k2.eq (J : Jn) (Base2 : Int) (Term2 : Int) (Entries2 : Sl) (Base3 : Int) (Term3 : Int) (Entries3 : Sl) (Base4 : Int) (Term4 : Int) (Entries4 : Sl) (x4 : Bool) (H7 : Hp) (Q : Value → Hp → Prop) : vMid Try.prog tephralaw13_awake.cf J tephralaw13_awake.fn [1, 1, 1, 1, 1, 0] [0, 0, 1, 1, 2, 3] 10 Q (tephralaw13_awake.k2.st Base2 Term2 Entries2 Base3 Term3 Entries3 Base4 Term4 Entries4 x4 H7) = tephralaw13_awake.k2.body J Base2 Term2 Entries2 Base3 Term3 Entries3 Base4 Term4 Entries4 x4 H7 Q := by kernel_rfl
theorem tephralaw13_awake.k2.step {Base2 : Int} {Term2 : Int} {Entries2 : Sl} {Base3 : Int} {Term3 : Int} {Entries3 : Sl} {Base4 : Int} {Term4 : Int} {Entries4 : Sl} {x4 : Bool} {H7 : Hp} {Q : Value → Hp → Prop} (h : tephralaw13_awake.k2.body J0 Base2 Term2 Entries2 Base3 Term3 Entries3 Base4 Term4 Entries4 x4 H7 Q) : tephralaw13_awake.k2 J0 Base2 Term2 Entries2 Base3 Term3 Entries3 Base4 Term4 Entries4 x4 H7 Q := step_of (vMid Try.prog tephralaw13_awake.cf J0 tephralaw13_awake.fn [1, 1, 1, 1, 1, 0] [0, 0, 1, 1, 2, 3] 10 Q) (tephralaw13_awake.k2.st Base2 Term2 Entries2 Base3 Term3 Entries3 Base4 Term4 Entries4 x4 H7) (tephralaw13_awake.k2.eq J0 Base2 Term2 Entries2 Base3 Term3 Entries3 Base4 Term4 Entries4 x4 H7 Q) (by kernel_rfl) h
def tephralaw13_awake.k3.body (J : Jn) (Base2 : Int) (Term2 : Int) (Entries2 : Sl) (Base3 : Int) (Term3 : Int) (Entries3 : Sl) (Base4 : Int) (Term4 : Int) (Entries4 : Sl) (x6 : Bool) (H9 : Hp) (Q : Value → Hp → Prop) : Prop :=
 
 Br x6 (
 SCalls Try.prog rlog_Log_LastTerm.id [.agg #[.int .i64 Base3, .int .i64 Term3, .slice Entries3.a Entries3.len Entries3.cap]] H9 (fun r7 H10 => ∃ x7 : Int, r7 = .int .i64 x7 ∧ 
 tephralaw13_awake.k4 J Base2 Term2 Entries2 Base3 Term3 Entries3 Base4 Term4 Entries4 (x7 == 3) H10 Q))
 (
 tephralaw13_awake.k4 J Base2 Term2 Entries2 Base3 Term3 Entries3 Base4 Term4 Entries4 false H9 Q)
theorem tephralaw13_awake.k3.eq (J : Jn) (Base2 : Int) (Term2 : Int) (Entries2 : Sl) (Base3 : Int) (Term3 : Int) (Entries3 : Sl) (Base4 : Int) (Term4 : Int) (Entries4 : Sl) (x6 : Bool) (H9 : Hp) (Q : Value → Hp → Prop) : vMid Try.prog tephralaw13_awake.cf J tephralaw13_awake.fn [1, 1, 1, 1, 1, 0] [0, 0, 1, 1, 2, 3] 15 Q (tephralaw13_awake.k3.st Base2 Term2 Entries2 Base3 Term3 Entries3 Base4 Term4 Entries4 x6 H9) = tephralaw13_awake.k3.body J Base2 Term2 Entries2 Base3 Term3 Entries3 Base4 Term4 Entries4 x6 H9 Q := by kernel_rfl
theorem tephralaw13_awake.k3.step {Base2 : Int} {Term2 : Int} {Entries2 : Sl} {Base3 : Int} {Term3 : Int} {Entries3 : Sl} {Base4 : Int} {Term4 : Int} {Entries4 : Sl} {x6 : Bool} {H9 : Hp} {Q : Value → Hp → Prop} (h : tephralaw13_awake.k3.body J0 Base2 Term2 Entries2 Base3 Term3 Entries3 Base4 Term4 Entries4 x6 H9 Q) : tephralaw13_awake.k3 J0 Base2 Term2 Entries2 Base3 Term3 Entries3 Base4 Term4 Entries4 x6 H9 Q := step_of (vMid Try.prog tephralaw13_awake.cf J0 tephralaw13_awake.fn [1, 1, 1, 1, 1, 0] [0, 0, 1, 1, 2, 3] 15 Q) (tephralaw13_awake.k3.st Base2 Term2 Entries2 Base3 Term3 Entries3 Base4 Term4 Entries4 x6 H9) (tephralaw13_awake.k3.eq J0 Base2 Term2 Entries2 Base3 Term3 Entries3 Base4 Term4 Entries4 x6 H9 Q) (by kernel_rfl) h
def tephralaw13_awake.k4.body (J : Jn) (Base2 : Int) (Term2 : Int) (Entries2 : Sl) (Base3 : Int) (Term3 : Int) (Entries3 : Sl) (Base4 : Int) (Term4 : Int) (Entries4 : Sl) (x8 : Bool) (H11 : Hp) (Q : Value → Hp → Prop) : Prop :=
 
 Br x8 (
 SCalls Try.prog rlog_Log_Newer.id [.agg #[.int .i64 Base2, .int .i64 Term2, .slice Entries2.a Entries2.len Entries2.cap], .int .i64 3, .int .i64 2] H11 (fun r8 H12 => ∃ x9 : Bool, r8 = .bool x9 ∧ 
 tephralaw13_awake.k5 J Base2 Term2 Entries2 Base3 Term3 Entries3 Base4 Term4 Entries4 x9 H12 Q))
 (
 tephralaw13_awake.k5 J Base2 Term2 Entries2 Base3 Term3 Entries3 Base4 Term4 Entries4 false H11 Q)
theorem tephralaw13_awake.k4.eq (J : Jn) (Base2 : Int) (Term2 : Int) (Entries2 : Sl) (Base3 : Int) (Term3 : Int) (Entries3 : Sl) (Base4 : Int) (Term4 : Int) (Entries4 : Sl) (x8 : Bool) (H11 : Hp) (Q : Value → Hp → Prop) : vMid Try.prog tephralaw13_awake.cf J tephralaw13_awake.fn [1, 1, 1, 1, 1, 0] [0, 0, 1, 1, 2, 3] 20 Q (tephralaw13_awake.k4.st Base2 Term2 Entries2 Base3 Term3 Entries3 Base4 Term4 Entries4 x8 H11) = tephralaw13_awake.k4.body J Base2 Term2 Entries2 Base3 Term3 Entries3 Base4 Term4 Entries4 x8 H11 Q := by kernel_rfl
theorem tephralaw13_awake.k4.step {Base2 : Int} {Term2 : Int} {Entries2 : Sl} {Base3 : Int} {Term3 : Int} {Entries3 : Sl} {Base4 : Int} {Term4 : Int} {Entries4 : Sl} {x8 : Bool} {H11 : Hp} {Q : Value → Hp → Prop} (h : tephralaw13_awake.k4.body J0 Base2 Term2 Entries2 Base3 Term3 Entries3 Base4 Term4 Entries4 x8 H11 Q) : tephralaw13_awake.k4 J0 Base2 Term2 Entries2 Base3 Term3 Entries3 Base4 Term4 Entries4 x8 H11 Q := step_of (vMid Try.prog tephralaw13_awake.cf J0 tephralaw13_awake.fn [1, 1, 1, 1, 1, 0] [0, 0, 1, 1, 2, 3] 20 Q) (tephralaw13_awake.k4.st Base2 Term2 Entries2 Base3 Term3 Entries3 Base4 Term4 Entries4 x8 H11) (tephralaw13_awake.k4.eq J0 Base2 Term2 Entries2 Base3 Term3 Entries3 Base4 Term4 Entries4 x8 H11 Q) (by kernel_rfl) h
def tephralaw13_awake.k5.body (J : Jn) (Base2 : Int) (Term2 : Int) (Entries2 : Sl) (Base3 : Int) (Term3 : Int) (Entries3 : Sl) (Base4 : Int) (Term4 : Int) (Entries4 : Sl) (x10 : Bool) (H13 : Hp) (Q : Value → Hp → Prop) : Prop :=
 
 Br x10 (
 SCalls Try.prog rlog_Log_Newer.id [.agg #[.int .i64 Base2, .int .i64 Term2, .slice Entries2.a Entries2.len Entries2.cap], .int .i64 2, .int .i64 2] H13 (fun r9 H14 => ∃ x11 : Bool, r9 = .bool x11 ∧ Q (.bool (!x11)) H14))
 (Q (.bool false) H13)
theorem tephralaw13_awake.k5.eq (J : Jn) (Base2 : Int) (Term2 : Int) (Entries2 : Sl) (Base3 : Int) (Term3 : Int) (Entries3 : Sl) (Base4 : Int) (Term4 : Int) (Entries4 : Sl) (x10 : Bool) (H13 : Hp) (Q : Value → Hp → Prop) : vMid Try.prog tephralaw13_awake.cf J tephralaw13_awake.fn [1, 1, 1, 1, 1, 0] [0, 0, 1, 1, 2, 3] 24 Q (tephralaw13_awake.k5.st Base2 Term2 Entries2 Base3 Term3 Entries3 Base4 Term4 Entries4 x10 H13) = tephralaw13_awake.k5.body J Base2 Term2 Entries2 Base3 Term3 Entries3 Base4 Term4 Entries4 x10 H13 Q := by kernel_rfl
theorem tephralaw13_awake.k5.step {Base2 : Int} {Term2 : Int} {Entries2 : Sl} {Base3 : Int} {Term3 : Int} {Entries3 : Sl} {Base4 : Int} {Term4 : Int} {Entries4 : Sl} {x10 : Bool} {H13 : Hp} {Q : Value → Hp → Prop} (h : tephralaw13_awake.k5.body J0 Base2 Term2 Entries2 Base3 Term3 Entries3 Base4 Term4 Entries4 x10 H13 Q) : tephralaw13_awake.k5 J0 Base2 Term2 Entries2 Base3 Term3 Entries3 Base4 Term4 Entries4 x10 H13 Q := step_of (vMid Try.prog tephralaw13_awake.cf J0 tephralaw13_awake.fn [1, 1, 1, 1, 1, 0] [0, 0, 1, 1, 2, 3] 24 Q) (tephralaw13_awake.k5.st Base2 Term2 Entries2 Base3 Term3 Entries3 Base4 Term4 Entries4 x10 H13) (tephralaw13_awake.k5.eq J0 Base2 Term2 Entries2 Base3 Term3 Entries3 Base4 Term4 Entries4 x10 H13 Q) (by kernel_rfl) h
def tephralaw13_awake.vc (J : Jn) (H : Hp) (Q : Value → Hp → Prop) : Prop :=
 
 SCalls Try.prog rlog_Log_Add.id [.agg #[.int .i64 0, .int .i64 0, .slice none 0 0], .int .i64 1, .agg #[.int .i64 0, .int .i64 0, .int .i64 0, .string (ByteArray.mk #[]), .string (ByteArray.mk #[]), .string (ByteArray.mk #[])]] (holes H 1) (fun r H1 => ∃ Base : Int, ∃ Term : Int, ∃ Entries : Sl, r = .agg #[.int .i64 Base, .int .i64 Term, .slice Entries.a Entries.len Entries.cap] ∧ 
 SCalls Try.prog rlog_Log_Add.id [.agg #[.int .i64 Base, .int .i64 Term, .slice Entries.a Entries.len Entries.cap], .int .i64 1, .agg #[.int .i64 0, .int .i64 0, .int .i64 0, .string (ByteArray.mk #[]), .string (ByteArray.mk #[]), .string (ByteArray.mk #[])]] H1 (fun r1 H2 => ∃ Base1 : Int, ∃ Term1 : Int, ∃ Entries1 : Sl, r1 = .agg #[.int .i64 Base1, .int .i64 Term1, .slice Entries1.a Entries1.len Entries1.cap] ∧ 
 SCalls Try.prog rlog_Log_Add.id [.agg #[.int .i64 Base1, .int .i64 Term1, .slice Entries1.a Entries1.len Entries1.cap], .int .i64 2, .agg #[.int .i64 0, .int .i64 0, .int .i64 0, .string (ByteArray.mk #[]), .string (ByteArray.mk #[]), .string (ByteArray.mk #[])]] H2 (fun r2 H3 => ∃ Base2 : Int, ∃ Term2 : Int, ∃ Entries2 : Sl, r2 = .agg #[.int .i64 Base2, .int .i64 Term2, .slice Entries2.a Entries2.len Entries2.cap] ∧ 
 SCalls Try.prog rlog_Log_Merge.id [.agg #[.int .i64 Base2, .int .i64 Term2, .slice Entries2.a Entries2.len Entries2.cap], .int .i64 1, .int .i64 1, .slice (some (Addr.mk (Array.size H3) 0 none)) 1 1] (Array.push H3 (.cells #[.int .i64 2, .int .i64 3, .int .i64 0, .int .i64 0, .int .i64 0, .string (ByteArray.mk #[]), .string (ByteArray.mk #[]), .string (ByteArray.mk #[])] T_api_Entry)) (fun r3 H4 => ∃ Base3 : Int, ∃ Term3 : Int, ∃ Entries3 : Sl, ∃ x : Bool, r3 = .tuple #[.agg #[.int .i64 Base3, .int .i64 Term3, .slice Entries3.a Entries3.len Entries3.cap], .bool x] ∧ 
 SCalls Try.prog rlog_Log_Merge.id [.agg #[.int .i64 Base2, .int .i64 Term2, .slice Entries2.a Entries2.len Entries2.cap], .int .i64 3, .int .i64 1, .slice none 0 0] (holes H4 1) (fun r4 H5 => ∃ Base4 : Int, ∃ Term4 : Int, ∃ Entries4 : Sl, ∃ x1 : Bool, r4 = .tuple #[.agg #[.int .i64 Base4, .int .i64 Term4, .slice Entries4.a Entries4.len Entries4.cap], .bool x1] ∧ 
 Br x (
 tephralaw13_awake.k1 J Base2 Term2 Entries2 Base3 Term3 Entries3 H5 Base4 Term4 Entries4 (!x1) Q)
 (
 tephralaw13_awake.k1 J Base2 Term2 Entries2 Base3 Term3 Entries3 H5 Base4 Term4 Entries4 false Q))))))
theorem tephralaw13_awake.eq (J : Jn) (H : Hp) (Q : Value → Hp → Prop) : vFn Try.prog tephralaw13_awake.cf J tephralaw13_awake.fn [] H Q = tephralaw13_awake.vc J H Q := by kernel_rfl
theorem tephralaw13_awake.calls {H : Hp} {Q : Value → Hp → Prop} (h : tephralaw13_awake.vc J0 H Q) : SCalls Try.prog tephralaw13_awake.id [] H Q := vFn_of Try.mixed Try.func10 (tephralaw13_awake.eq J0 H Q) h

/-! 11: tephra/tephralaw13.Some -/
def tephralaw13_Some.cf : Cfg := ⟨[6], [], [], []⟩
def tephralaw13_Some.vc (J : Jn) (says : Sl) (base : Int) (term : Int) (H : Hp) (Q : Value → Hp → Prop) : Prop :=
 (20 : Int) ≠ 0 ∧ (5 : Int) ≠ 0 ∧ 
 SCalls Try.prog tephralaw06_Entries.id [.slice says.a says.len says.cap, .int .i64 (w64 ((w64 ((Int.tmod base 20))) + 1)), .int .i64 (w64 ((Int.tmod term 5)))] (holes H 1) (fun r H1 => ∃ x : Sl, r = .slice x.a x.len x.cap ∧ Q (.agg #[.int .i64 (w64 ((Int.tmod base 20))), .int .i64 (w64 ((Int.tmod term 5))), .slice x.a x.len x.cap]) H1)
theorem tephralaw13_Some.eq (J : Jn) (says : Sl) (base : Int) (term : Int) (H : Hp) (Q : Value → Hp → Prop) : vFn Try.prog tephralaw13_Some.cf J tephralaw13_Some.fn [.slice says.a says.len says.cap, .int .u8 base, .int .u8 term] H Q = tephralaw13_Some.vc J says base term H Q := by kernel_rfl
theorem tephralaw13_Some.calls {says : Sl} {base : Int} {term : Int} {H : Hp} {Q : Value → Hp → Prop} (h : tephralaw13_Some.vc J0 says base term H Q) : SCalls Try.prog tephralaw13_Some.id [.slice says.a says.len says.cap, .int .u8 base, .int .u8 term] H Q := vFn_of Try.mixed Try.func11 (tephralaw13_Some.eq J0 says base term H Q) h

/-! 12: tephra/tephralaw13.term -/
def tephralaw13_term.cf : Cfg := ⟨[2, 7], [(4, [1, 15, 16, 17])], [], []⟩
def tephralaw13_term.l1.st (lBase : Int) (lTerm : Int) (lEntries : Sl) (i : Int) (H1 : Hp) (x : Int) : VS := ⟨mkFr 28 [(1, .v (.int .i64 i)), (15, .v (.slice lEntries.a lEntries.len lEntries.cap)), (16, .v (.int .i64 ((lEntries.len : Nat) : Int))), (17, .v (.int .i64 x))], [(T_rlog_Log, [.int .i64 lBase, .int .i64 lTerm, .slice lEntries.a lEntries.len lEntries.cap])], H1⟩
def tephralaw13_term.l1 (J : Jn) (lBase : Int) (lTerm : Int) (lEntries : Sl) (i : Int) (H1 : Hp) (x : Int) (Q : Value → Hp → Prop) : Prop := vAt Try.prog tephralaw13_term.cf J tephralaw13_term.fn [1, 1, 0, 1, 0] [0, 1, 1, 1] Q (tephralaw13_term.l1.st lBase lTerm lEntries i H1 x)
attribute [irreducible] tephralaw13_term.l1
def tephralaw13_term.l1.body (J : Jn) (lBase : Int) (lTerm : Int) (lEntries : Sl) (i : Int) (H1 : Hp) (x : Int) (Q : Value → Hp → Prop) : Prop :=
 
 Br (decide (x < ((lEntries.len : Nat) : Int))) (((0 : Int) ≤ x ∧ x < ((lEntries.len : Nat) : Int)) ∧ vPtr lEntries.a (fun a => ∃ Index : Int, ∃ Term : Int, ∃ CmdOp : Int, ∃ CmdClient : Int, ∃ CmdSeq : Int, ∃ CmdKey : ByteArray, ∃ CmdValue : ByteArray, ∃ CmdOld : ByteArray, RowAt H1 (a.add ((x : Int).toNat * 8)) [.int .i64 Index, .int .i64 Term, .int .i64 CmdOp, .int .i64 CmdClient, .int .i64 CmdSeq, .string CmdKey, .string CmdValue, .string CmdOld] ∧ 
 Br (Index == i) (Q (.tuple #[.int .i64 Term, .bool true]) (holes H1 1))
 (
 tephralaw13_term.l1 J lBase lTerm lEntries i (holes H1 1) (w64 (x + 1)) Q)))
 (Q (.tuple #[.int .i64 0, .bool false]) H1)
theorem tephralaw13_term.l1.eq (J : Jn) (lBase : Int) (lTerm : Int) (lEntries : Sl) (i : Int) (H1 : Hp) (x : Int) (Q : Value → Hp → Prop) : vAtBody Try.prog tephralaw13_term.cf J tephralaw13_term.fn [1, 1, 0, 1, 0] [0, 1, 1, 1] Q (tephralaw13_term.l1.st lBase lTerm lEntries i H1 x) = tephralaw13_term.l1.body J lBase lTerm lEntries i H1 x Q := by kernel_rfl
theorem tephralaw13_term.l1.step {lBase : Int} {lTerm : Int} {lEntries : Sl} {i : Int} {H1 : Hp} {x : Int} {Q : Value → Hp → Prop} (h : tephralaw13_term.l1.body J0 lBase lTerm lEntries i H1 x Q) : tephralaw13_term.l1 J0 lBase lTerm lEntries i H1 x Q := vAt_stepC (tephralaw13_term.l1.st lBase lTerm lEntries i H1 x) (tephralaw13_term.l1.eq J0 lBase lTerm lEntries i H1 x Q) (by kernel_rfl) h
def tephralaw13_term.vc (J : Jn) (lBase : Int) (lTerm : Int) (lEntries : Sl) (i : Int) (H : Hp) (Q : Value → Hp → Prop) : Prop :=
 
 Br (i == lBase) (Q (.tuple #[.int .i64 lTerm, .bool true]) (holes H 1))
 (
 tephralaw13_term.l1 J lBase lTerm lEntries i (holes H 1) 0 Q)
theorem tephralaw13_term.eq (J : Jn) (lBase : Int) (lTerm : Int) (lEntries : Sl) (i : Int) (H : Hp) (Q : Value → Hp → Prop) : vFn Try.prog tephralaw13_term.cf J tephralaw13_term.fn [.agg #[.int .i64 lBase, .int .i64 lTerm, .slice lEntries.a lEntries.len lEntries.cap], .int .i64 i] H Q = tephralaw13_term.vc J lBase lTerm lEntries i H Q := by kernel_rfl
theorem tephralaw13_term.calls {lBase : Int} {lTerm : Int} {lEntries : Sl} {i : Int} {H : Hp} {Q : Value → Hp → Prop} (h : tephralaw13_term.vc J0 lBase lTerm lEntries i H Q) : SCalls Try.prog tephralaw13_term.id [.agg #[.int .i64 lBase, .int .i64 lTerm, .slice lEntries.a lEntries.len lEntries.cap], .int .i64 i] H Q := vFn_of Try.mixed Try.func12 (tephralaw13_term.eq J0 lBase lTerm lEntries i H Q) h

/-! 13: tephra/tephralaw06.Entries -/
def tephralaw06_Entries.cf : Cfg := ⟨[9], [(3, [1, 2, 7, 14, 15, 16])], [(7, [1, 2, 7, 8, 9, 14, 15, 16], true)], []⟩
def tephralaw06_Entries.l1.st (says : Sl) (fromv : Int) (H1 : Hp) (term1 : Int) (out : Sl) (x : Int) : VS := ⟨mkFr 38 [(1, .v (.int .i64 fromv)), (2, .v (.int .i64 term1)), (7, .v (.slice out.a out.len out.cap)), (14, .v (.slice (cutA says.a says.cap 0 6) (((if (80 : Int) < ((says.len : Nat) : Int) then 80 else ((says.len : Nat) : Int)) : Int).toNat) says.cap)), (15, .v (.int .i64 (((((if (80 : Int) < ((says.len : Nat) : Int) then 80 else ((says.len : Nat) : Int)) : Int).toNat) : Nat) : Int))), (16, .v (.int .i64 x))], [], H1⟩
def tephralaw06_Entries.l1 (J : Jn) (says : Sl) (fromv : Int) (H1 : Hp) (term1 : Int) (out : Sl) (x : Int) (Q : Value → Hp → Prop) : Prop := vAt Try.prog tephralaw06_Entries.cf J tephralaw06_Entries.fn [1, 1, 0, 1, 0] [0, 0, 0, 0] Q (tephralaw06_Entries.l1.st says fromv H1 term1 out x)
def tephralaw06_Entries.k1.st (says : Sl) (fromv : Int) (H1 : Hp) (out : Sl) (x : Int) (Opv : Int) (Client : Int) (Seq : Int) (Key : Int) (Valuev : Int) (Old : Int) (term2 : Int) : VS := ⟨mkFr 38 [(1, .v (.int .i64 fromv)), (2, .v (.int .i64 term2)), (7, .v (.slice out.a out.len out.cap)), (8, .v (.int .i64 x)), (9, .loc 0 0), (14, .v (.slice (cutA says.a says.cap 0 6) (((if (80 : Int) < ((says.len : Nat) : Int) then 80 else ((says.len : Nat) : Int)) : Int).toNat) says.cap)), (15, .v (.int .i64 (((((if (80 : Int) < ((says.len : Nat) : Int) then 80 else ((says.len : Nat) : Int)) : Int).toNat) : Nat) : Int))), (16, .v (.int .i64 x))], [(T_tephralaw06_Say, [.int .u8 Opv, .int .u8 Client, .int .u8 Seq, .int .u8 Key, .int .u8 Valuev, .int .u8 Old])], (holes H1 1)⟩
def tephralaw06_Entries.k1 (J : Jn) (says : Sl) (fromv : Int) (H1 : Hp) (out : Sl) (x : Int) (Opv : Int) (Client : Int) (Seq : Int) (Key : Int) (Valuev : Int) (Old : Int) (term2 : Int) (Q : Value → Hp → Prop) : Prop := J (vSeg Try.prog tephralaw06_Entries.cf J tephralaw06_Entries.fn [1, 1, 0, 1, 0, 0, 1, 1, 0, 0, 1, 1] [0, 0, 0, 0, 0, 0, 0, 0, 0, 1] Q) (tephralaw06_Entries.k1.st says fromv H1 out x Opv Client Seq Key Valuev Old term2)
attribute [irreducible] tephralaw06_Entries.l1 tephralaw06_Entries.k1
def tephralaw06_Entries.l1.body (J : Jn) (says : Sl) (fromv : Int) (H1 : Hp) (term1 : Int) (out : Sl) (x : Int) (Q : Value → Hp → Prop) : Prop :=
 
 Br (decide (x < (((((if (80 : Int) < ((says.len : Nat) : Int) then 80 else ((says.len : Nat) : Int)) : Int).toNat) : Nat) : Int))) (((0 : Int) ≤ x ∧ x < (((((if (80 : Int) < ((says.len : Nat) : Int) then 80 else ((says.len : Nat) : Int)) : Int).toNat) : Nat) : Int)) ∧ vPtr (cutA says.a says.cap 0 6) (fun a => ∃ Opv : Int, ∃ Client : Int, ∃ Seq : Int, ∃ Key : Int, ∃ Valuev : Int, ∃ Old : Int, RowAt H1 (a.add ((x : Int).toNat * 6)) [.int .u8 Opv, .int .u8 Client, .int .u8 Seq, .int .u8 Key, .int .u8 Valuev, .int .u8 Old] ∧ 
 Br (decide (Opv > 230)) (
 tephralaw06_Entries.k1 J says fromv H1 out x Opv Client Seq Key Valuev Old (w64 (term1 + 1)) Q)
 (
 tephralaw06_Entries.k1 J says fromv H1 out x Opv Client Seq Key Valuev Old term1 Q)))
 (Q (.slice out.a out.len out.cap) H1)
theorem tephralaw06_Entries.l1.eq (J : Jn) (says : Sl) (fromv : Int) (H1 : Hp) (term1 : Int) (out : Sl) (x : Int) (Q : Value → Hp → Prop) : vAtBody Try.prog tephralaw06_Entries.cf J tephralaw06_Entries.fn [1, 1, 0, 1, 0] [0, 0, 0, 0] Q (tephralaw06_Entries.l1.st says fromv H1 term1 out x) = tephralaw06_Entries.l1.body J says fromv H1 term1 out x Q := by kernel_rfl
theorem tephralaw06_Entries.l1.step {says : Sl} {fromv : Int} {H1 : Hp} {term1 : Int} {out : Sl} {x : Int} {Q : Value → Hp → Prop} (h : tephralaw06_Entries.l1.body J0 says fromv H1 term1 out x Q) : tephralaw06_Entries.l1 J0 says fromv H1 term1 out x Q := vAt_stepC (tephralaw06_Entries.l1.st says fromv H1 term1 out x) (tephralaw06_Entries.l1.eq J0 says fromv H1 term1 out x Q) (by kernel_rfl) h
def tephralaw06_Entries.k1.body (J : Jn) (says : Sl) (fromv : Int) (H1 : Hp) (out : Sl) (x : Int) (Opv : Int) (Client : Int) (Seq : Int) (Key : Int) (Valuev : Int) (Old : Int) (term2 : Int) (Q : Value → Hp → Prop) : Prop :=
 
 SCalls Try.prog tephralaw06_Say_Cmd.id [.agg #[.int .u8 Opv, .int .u8 Client, .int .u8 Seq, .int .u8 Key, .int .u8 Valuev, .int .u8 Old]] (holes H1 1) (fun r H2 => ∃ Opv1 : Int, ∃ Client1 : Int, ∃ Seq1 : Int, ∃ Key1 : ByteArray, ∃ Valuev1 : ByteArray, ∃ Old1 : ByteArray, r = .agg #[.int .i64 Opv1, .int .i64 Client1, .int .i64 Seq1, .string Key1, .string Valuev1, .string Old1] ∧ 
 vApp Try.prog T_sl_api_Entry out.a out.len out.cap (.slice (some (Addr.mk (Array.size H2) 0 none)) 1 1) (Array.push H2 (.cells #[.int .i64 (w64 (fromv + x)), .int .i64 term2, .int .i64 Opv1, .int .i64 Client1, .int .i64 Seq1, .string Key1, .string Valuev1, .string Old1] T_api_Entry)) (fun ap H3 => 
 tephralaw06_Entries.l1 J says fromv H3 term2 ap (w64 (x + 1)) Q))
theorem tephralaw06_Entries.k1.eq (J : Jn) (says : Sl) (fromv : Int) (H1 : Hp) (out : Sl) (x : Int) (Opv : Int) (Client : Int) (Seq : Int) (Key : Int) (Valuev : Int) (Old : Int) (term2 : Int) (Q : Value → Hp → Prop) : vSeg Try.prog tephralaw06_Entries.cf J tephralaw06_Entries.fn [1, 1, 0, 1, 0, 0, 1, 1, 0, 0, 1, 1] [0, 0, 0, 0, 0, 0, 0, 0, 0, 1] Q (tephralaw06_Entries.k1.st says fromv H1 out x Opv Client Seq Key Valuev Old term2) = tephralaw06_Entries.k1.body J says fromv H1 out x Opv Client Seq Key Valuev Old term2 Q := by kernel_rfl
theorem tephralaw06_Entries.k1.step {says : Sl} {fromv : Int} {H1 : Hp} {out : Sl} {x : Int} {Opv : Int} {Client : Int} {Seq : Int} {Key : Int} {Valuev : Int} {Old : Int} {term2 : Int} {Q : Value → Hp → Prop} (h : tephralaw06_Entries.k1.body J0 says fromv H1 out x Opv Client Seq Key Valuev Old term2 Q) : tephralaw06_Entries.k1 J0 says fromv H1 out x Opv Client Seq Key Valuev Old term2 Q := step_of (vSeg Try.prog tephralaw06_Entries.cf J0 tephralaw06_Entries.fn [1, 1, 0, 1, 0, 0, 1, 1, 0, 0, 1, 1] [0, 0, 0, 0, 0, 0, 0, 0, 0, 1] Q) (tephralaw06_Entries.k1.st says fromv H1 out x Opv Client Seq Key Valuev Old term2) (tephralaw06_Entries.k1.eq J0 says fromv H1 out x Opv Client Seq Key Valuev Old term2 Q) (by kernel_rfl) h
def tephralaw06_Entries.vc (J : Jn) (says : Sl) (fromv : Int) (term : Int) (H : Hp) (Q : Value → Hp → Prop) : Prop :=
 ((0 : Int) ≤ (if (80 : Int) < ((says.len : Nat) : Int) then 80 else ((says.len : Nat) : Int)) ∧ (if (80 : Int) < ((says.len : Nat) : Int) then 80 else ((says.len : Nat) : Int)) ≤ ((says.cap : Nat) : Int)) ∧ 
 tephralaw06_Entries.l1 J says fromv H term (Sl.mk none 0 0) 0 Q
theorem tephralaw06_Entries.eq (J : Jn) (says : Sl) (fromv : Int) (term : Int) (H : Hp) (Q : Value → Hp → Prop) : vFn Try.prog tephralaw06_Entries.cf J tephralaw06_Entries.fn [.slice says.a says.len says.cap, .int .i64 fromv, .int .i64 term] H Q = tephralaw06_Entries.vc J says fromv term H Q := by kernel_rfl
theorem tephralaw06_Entries.calls {says : Sl} {fromv : Int} {term : Int} {H : Hp} {Q : Value → Hp → Prop} (h : tephralaw06_Entries.vc J0 says fromv term H Q) : SCalls Try.prog tephralaw06_Entries.id [.slice says.a says.len says.cap, .int .i64 fromv, .int .i64 term] H Q := vFn_of Try.mixed Try.func13 (tephralaw06_Entries.eq J0 says fromv term H Q) h

/-! 14: (tephra/rlog.Log).Merge -/
def rlog_Log_Merge.cf : Cfg := ⟨[4, 8, 13], [(4, [3, 4, 8]), (12, [4, 8, 65, 66, 67])], [(5, [3, 4, 8], true), (6, [3, 4, 8], true), (7, [1, 2, 3, 4, 8], true), (9, [3, 4, 8, 61], true), (16, [4, 8, 13, 65, 66, 67], true)], []⟩
def rlog_Log_Merge.l1.st (lBase : Int) (lTerm : Int) (lEntries : Sl) (H2 : Hp) (es1 : Sl) : VS := ⟨mkFr 100 [(3, .v (.slice es1.a es1.len es1.cap)), (4, .loc 0 0), (8, .loc 1 0)], [(T_rlog_Log, [.int .i64 lBase, .int .i64 lTerm, .slice lEntries.a lEntries.len lEntries.cap]), (T_rlog_Log, [.int .i64 0, .int .i64 0, .slice none 0 0])], H2⟩
def rlog_Log_Merge.l1 (J : Jn) (lBase : Int) (lTerm : Int) (lEntries : Sl) (H2 : Hp) (es1 : Sl) (Q : Value → Hp → Prop) : Prop := vAt Try.prog rlog_Log_Merge.cf J rlog_Log_Merge.fn [1, 1, 0, 1, 0, 0, 0] [0, 2, 2, 2, 2] Q (rlog_Log_Merge.l1.st lBase lTerm lEntries H2 es1)
def rlog_Log_Merge.k1.st (lBase : Int) (lTerm : Int) (lEntries : Sl) (H2 : Hp) (es1 : Sl) : VS := ⟨mkFr 100 [(3, .v (.slice es1.a es1.len es1.cap)), (4, .loc 0 0), (8, .loc 1 0)], [(T_rlog_Log, [.int .i64 lBase, .int .i64 lTerm, .slice lEntries.a lEntries.len lEntries.cap]), (T_rlog_Log, [.int .i64 0, .int .i64 0, .slice none 0 0])], H2⟩
def rlog_Log_Merge.k1 (J : Jn) (lBase : Int) (lTerm : Int) (lEntries : Sl) (H2 : Hp) (es1 : Sl) (Q : Value → Hp → Prop) : Prop := J (vSeg Try.prog rlog_Log_Merge.cf J rlog_Log_Merge.fn [1, 1, 0, 1, 0, 0, 0, 0, 1] [0, 2, 2, 2, 2, 2, 2] Q) (rlog_Log_Merge.k1.st lBase lTerm lEntries H2 es1)
def rlog_Log_Merge.k2.st (lBase : Int) (lTerm : Int) (lEntries : Sl) (H2 : Hp) (es1 : Sl) : VS := ⟨mkFr 100 [(3, .v (.slice es1.a es1.len es1.cap)), (4, .loc 0 0), (8, .loc 1 0)], [(T_rlog_Log, [.int .i64 lBase, .int .i64 lTerm, .slice lEntries.a lEntries.len lEntries.cap]), (T_rlog_Log, [.int .i64 0, .int .i64 0, .slice none 0 0])], H2⟩
def rlog_Log_Merge.k2 (J : Jn) (lBase : Int) (lTerm : Int) (lEntries : Sl) (H2 : Hp) (es1 : Sl) (Q : Value → Hp → Prop) : Prop := J (vSeg Try.prog rlog_Log_Merge.cf J rlog_Log_Merge.fn [1, 1, 0, 1, 0, 1] [0, 2, 2, 2, 2] Q) (rlog_Log_Merge.k2.st lBase lTerm lEntries H2 es1)
def rlog_Log_Merge.k3.st (lBase : Int) (lTerm : Int) (lEntries : Sl) (prev : Int) (term : Int) (es : Sl) (H1 : Hp) : VS := ⟨mkFr 100 [(1, .v (.int .i64 prev)), (2, .v (.int .i64 term)), (3, .v (.slice es.a es.len es.cap)), (4, .loc 0 0), (8, .loc 1 0)], [(T_rlog_Log, [.int .i64 lBase, .int .i64 lTerm, .slice lEntries.a lEntries.len lEntries.cap]), (T_rlog_Log, [.int .i64 0, .int .i64 0, .slice none 0 0])], H1⟩
def rlog_Log_Merge.k3 (J : Jn) (lBase : Int) (lTerm : Int) (lEntries : Sl) (prev : Int) (term : Int) (es : Sl) (H1 : Hp) (Q : Value → Hp → Prop) : Prop := J (vSeg Try.prog rlog_Log_Merge.cf J rlog_Log_Merge.fn [1, 1, 1] [0, 2, 2] Q) (rlog_Log_Merge.k3.st lBase lTerm lEntries prev term es H1)
def rlog_Log_Merge.k4.st (lBase : Int) (lTerm : Int) (lEntries : Sl) (es : Sl) (H4 : Hp) (x4 : Bool) : VS := ⟨mkFr 100 [(3, .v (.slice es.a es.len es.cap)), (4, .loc 0 0), (8, .loc 1 0), (61, .v (.bool x4))], [(T_rlog_Log, [.int .i64 lBase, .int .i64 lTerm, .slice lEntries.a lEntries.len lEntries.cap]), (T_rlog_Log, [.int .i64 0, .int .i64 0, .slice none 0 0])], H4⟩
def rlog_Log_Merge.k4 (J : Jn) (lBase : Int) (lTerm : Int) (lEntries : Sl) (es : Sl) (H4 : Hp) (x4 : Bool) (Q : Value → Hp → Prop) : Prop := J (vSeg Try.prog rlog_Log_Merge.cf J rlog_Log_Merge.fn [1, 1, 1, 0, 1, 1] [0, 2, 2, 2, 2, 2] Q) (rlog_Log_Merge.k4.st lBase lTerm lEntries es H4 x4)
def rlog_Log_Merge.l2.st (es : Sl) (Base1 : Int) (Term1 : Int) (H6 : Hp) (x5 : Int) (y : Sl) : VS := ⟨mkFr 100 [(4, .loc 0 0), (8, .loc 1 0), (65, .v (.slice es.a es.len es.cap)), (66, .v (.int .i64 ((es.len : Nat) : Int))), (67, .v (.int .i64 x5))], [(T_rlog_Log, [.int .i64 Base1, .int .i64 Term1, .slice y.a y.len y.cap]), (T_rlog_Log, [.int .i64 0, .int .i64 0, .slice none 0 0])], H6⟩
def rlog_Log_Merge.l2 (J : Jn) (es : Sl) (Base1 : Int) (Term1 : Int) (H6 : Hp) (x5 : Int) (y : Sl) (Q : Value → Hp → Prop) : Prop := vAt Try.prog rlog_Log_Merge.cf J rlog_Log_Merge.fn [1, 1, 1, 1, 1, 0, 1, 0] [0, 2, 2, 2, 2, 2, 2] Q (rlog_Log_Merge.l2.st es Base1 Term1 H6 x5 y)
def rlog_Log_Merge.k5.st (es : Sl) (Base1 : Int) (Term1 : Int) (x5 : Int) (y : Sl) (Index1 : Int) (Term2 : Int) (CmdOp : Int) (CmdClient : Int) (CmdSeq : Int) (CmdKey : ByteArray) (CmdValue : ByteArray) (CmdOld : ByteArray) (H7 : Hp) : VS := ⟨mkFr 100 [(4, .loc 0 0), (8, .loc 1 0), (13, .loc 2 0), (65, .v (.slice es.a es.len es.cap)), (66, .v (.int .i64 ((es.len : Nat) : Int))), (67, .v (.int .i64 x5))], [(T_rlog_Log, [.int .i64 Base1, .int .i64 Term1, .slice y.a y.len y.cap]), (T_rlog_Log, [.int .i64 0, .int .i64 0, .slice none 0 0]), (T_api_Entry, [.int .i64 Index1, .int .i64 Term2, .int .i64 CmdOp, .int .i64 CmdClient, .int .i64 CmdSeq, .string CmdKey, .string CmdValue, .string CmdOld])], H7⟩
def rlog_Log_Merge.k5 (J : Jn) (es : Sl) (Base1 : Int) (Term1 : Int) (x5 : Int) (y : Sl) (Index1 : Int) (Term2 : Int) (CmdOp : Int) (CmdClient : Int) (CmdSeq : Int) (CmdKey : ByteArray) (CmdValue : ByteArray) (CmdOld : ByteArray) (H7 : Hp) (Q : Value → Hp → Prop) : Prop := J (vSeg Try.prog rlog_Log_Merge.cf J rlog_Log_Merge.fn [1, 1, 1, 1, 1, 0, 1, 0, 0, 1, 1, 0, 0, 1, 1] [0, 2, 2, 2, 2, 2, 2, 2, 2, 2, 2, 2, 3] Q) (rlog_Log_Merge.k5.st es Base1 Term1 x5 y Index1 Term2 CmdOp CmdClient CmdSeq CmdKey CmdValue CmdOld H7)
attribute [irreducible] rlog_Log_Merge.l1 rlog_Log_Merge.k1 rlog_Log_Merge.k2 rlog_Log_Merge.k3 rlog_Log_Merge.k4 rlog_Log_Merge.l2 rlog_Log_Merge.k5
def rlog_Log_Merge.l1.body (J : Jn) (lBase : Int) (lTerm : Int) (lEntries : Sl) (H2 : Hp) (es1 : Sl) (Q : Value → Hp → Prop) : Prop :=
 
 Br (decide (((es1.len : Nat) : Int) > 0)) (((0 : Int) ≤ 0 ∧ (0 : Int) < ((es1.len : Nat) : Int)) ∧ vPtr es1.a (fun a => ∃ Index : Int, Hp.cell? H2 a = some (.int .i64 Index) ∧ 
 Br (decide (Index ≤ lBase)) (
 rlog_Log_Merge.k1 J lBase lTerm lEntries H2 es1 Q)
 (
 rlog_Log_Merge.k2 J lBase lTerm lEntries H2 es1 Q)))
 (
 rlog_Log_Merge.k2 J lBase lTerm lEntries H2 es1 Q)
theorem rlog_Log_Merge.l1.eq (J : Jn) (lBase : Int) (lTerm : Int) (lEntries : Sl) (H2 : Hp) (es1 : Sl) (Q : Value → Hp → Prop) : vAtBody Try.prog rlog_Log_Merge.cf J rlog_Log_Merge.fn [1, 1, 0, 1, 0, 0, 0] [0, 2, 2, 2, 2] Q (rlog_Log_Merge.l1.st lBase lTerm lEntries H2 es1) = rlog_Log_Merge.l1.body J lBase lTerm lEntries H2 es1 Q := by kernel_rfl
theorem rlog_Log_Merge.l1.step {lBase : Int} {lTerm : Int} {lEntries : Sl} {H2 : Hp} {es1 : Sl} {Q : Value → Hp → Prop} (h : rlog_Log_Merge.l1.body J0 lBase lTerm lEntries H2 es1 Q) : rlog_Log_Merge.l1 J0 lBase lTerm lEntries H2 es1 Q := vAt_stepC (rlog_Log_Merge.l1.st lBase lTerm lEntries H2 es1) (rlog_Log_Merge.l1.eq J0 lBase lTerm lEntries H2 es1 Q) (by kernel_rfl) h
def rlog_Log_Merge.k1.body (J : Jn) (lBase : Int) (lTerm : Int) (lEntries : Sl) (H2 : Hp) (es1 : Sl) (Q : Value → Hp → Prop) : Prop :=
 ((0 : Int) ≤ 1 ∧ (1 : Int) ≤ ((es1.len : Nat) : Int)) ∧ 
 rlog_Log_Merge.l1 J lBase lTerm lEntries H2 (Sl.mk (cutA es1.a es1.cap 1 8) (es1.len - 1) (es1.cap - 1)) Q
theorem rlog_Log_Merge.k1.eq (J : Jn) (lBase : Int) (lTerm : Int) (lEntries : Sl) (H2 : Hp) (es1 : Sl) (Q : Value → Hp → Prop) : vSeg Try.prog rlog_Log_Merge.cf J rlog_Log_Merge.fn [1, 1, 0, 1, 0, 0, 0, 0, 1] [0, 2, 2, 2, 2, 2, 2] Q (rlog_Log_Merge.k1.st lBase lTerm lEntries H2 es1) = rlog_Log_Merge.k1.body J lBase lTerm lEntries H2 es1 Q := by kernel_rfl
theorem rlog_Log_Merge.k1.step {lBase : Int} {lTerm : Int} {lEntries : Sl} {H2 : Hp} {es1 : Sl} {Q : Value → Hp → Prop} (h : rlog_Log_Merge.k1.body J0 lBase lTerm lEntries H2 es1 Q) : rlog_Log_Merge.k1 J0 lBase lTerm lEntries H2 es1 Q := step_of (vSeg Try.prog rlog_Log_Merge.cf J0 rlog_Log_Merge.fn [1, 1, 0, 1, 0, 0, 0, 0, 1] [0, 2, 2, 2, 2, 2, 2] Q) (rlog_Log_Merge.k1.st lBase lTerm lEntries H2 es1) (rlog_Log_Merge.k1.eq J0 lBase lTerm lEntries H2 es1 Q) (by kernel_rfl) h
def rlog_Log_Merge.k2.body (J : Jn) (lBase : Int) (lTerm : Int) (lEntries : Sl) (H2 : Hp) (es1 : Sl) (Q : Value → Hp → Prop) : Prop :=
 
 SCalls Try.prog rlog_Log_Merge.id [.agg #[.int .i64 lBase, .int .i64 lTerm, .slice lEntries.a lEntries.len lEntries.cap], .int .i64 lBase, .int .i64 lTerm, .slice es1.a es1.len es1.cap] H2 (fun r1 H3 => ∃ Base : Int, ∃ Term : Int, ∃ Entries : Sl, ∃ x1 : Bool, r1 = .tuple #[.agg #[.int .i64 Base, .int .i64 Term, .slice Entries.a Entries.len Entries.cap], .bool x1] ∧ Q (.tuple #[.agg #[.int .i64 Base, .int .i64 Term, .slice Entries.a Entries.len Entries.cap], .bool x1]) H3)
theorem rlog_Log_Merge.k2.eq (J : Jn) (lBase : Int) (lTerm : Int) (lEntries : Sl) (H2 : Hp) (es1 : Sl) (Q : Value → Hp → Prop) : vSeg Try.prog rlog_Log_Merge.cf J rlog_Log_Merge.fn [1, 1, 0, 1, 0, 1] [0, 2, 2, 2, 2] Q (rlog_Log_Merge.k2.st lBase lTerm lEntries H2 es1) = rlog_Log_Merge.k2.body J lBase lTerm lEntries H2 es1 Q := by kernel_rfl
theorem rlog_Log_Merge.k2.step {lBase : Int} {lTerm : Int} {lEntries : Sl} {H2 : Hp} {es1 : Sl} {Q : Value → Hp → Prop} (h : rlog_Log_Merge.k2.body J0 lBase lTerm lEntries H2 es1 Q) : rlog_Log_Merge.k2 J0 lBase lTerm lEntries H2 es1 Q := step_of (vSeg Try.prog rlog_Log_Merge.cf J0 rlog_Log_Merge.fn [1, 1, 0, 1, 0, 1] [0, 2, 2, 2, 2] Q) (rlog_Log_Merge.k2.st lBase lTerm lEntries H2 es1) (rlog_Log_Merge.k2.eq J0 lBase lTerm lEntries H2 es1 Q) (by kernel_rfl) h
def rlog_Log_Merge.k3.body (J : Jn) (lBase : Int) (lTerm : Int) (lEntries : Sl) (prev : Int) (term : Int) (es : Sl) (H1 : Hp) (Q : Value → Hp → Prop) : Prop :=
 
 SCalls Try.prog rlog_Log_TermAt.id [.agg #[.int .i64 lBase, .int .i64 lTerm, .slice lEntries.a lEntries.len lEntries.cap], .int .i64 prev] H1 (fun r2 H4 => ∃ x2 : Int, ∃ x3 : Bool, r2 = .tuple #[.int .i64 x2, .bool x3] ∧ 
 Br (!x3) (
 rlog_Log_Merge.k4 J lBase lTerm lEntries es H4 true Q)
 (
 rlog_Log_Merge.k4 J lBase lTerm lEntries es H4 (x2 != term) Q))
theorem rlog_Log_Merge.k3.eq (J : Jn) (lBase : Int) (lTerm : Int) (lEntries : Sl) (prev : Int) (term : Int) (es : Sl) (H1 : Hp) (Q : Value → Hp → Prop) : vSeg Try.prog rlog_Log_Merge.cf J rlog_Log_Merge.fn [1, 1, 1] [0, 2, 2] Q (rlog_Log_Merge.k3.st lBase lTerm lEntries prev term es H1) = rlog_Log_Merge.k3.body J lBase lTerm lEntries prev term es H1 Q := by kernel_rfl
theorem rlog_Log_Merge.k3.step {lBase : Int} {lTerm : Int} {lEntries : Sl} {prev : Int} {term : Int} {es : Sl} {H1 : Hp} {Q : Value → Hp → Prop} (h : rlog_Log_Merge.k3.body J0 lBase lTerm lEntries prev term es H1 Q) : rlog_Log_Merge.k3 J0 lBase lTerm lEntries prev term es H1 Q := step_of (vSeg Try.prog rlog_Log_Merge.cf J0 rlog_Log_Merge.fn [1, 1, 1] [0, 2, 2] Q) (rlog_Log_Merge.k3.st lBase lTerm lEntries prev term es H1) (rlog_Log_Merge.k3.eq J0 lBase lTerm lEntries prev term es H1 Q) (by kernel_rfl) h
def rlog_Log_Merge.k4.body (J : Jn) (lBase : Int) (lTerm : Int) (lEntries : Sl) (es : Sl) (H4 : Hp) (x4 : Bool) (Q : Value → Hp → Prop) : Prop :=
 
 Br x4 (Q (.tuple #[.agg #[.int .i64 lBase, .int .i64 lTerm, .slice lEntries.a lEntries.len lEntries.cap], .bool false]) H4)
 (
 SCalls Try.prog rlog_Log_Clone.id [.agg #[.int .i64 lBase, .int .i64 lTerm, .slice lEntries.a lEntries.len lEntries.cap]] H4 (fun r3 H5 => ∃ Base1 : Int, ∃ Term1 : Int, ∃ Entries1 : Sl, r3 = .agg #[.int .i64 Base1, .int .i64 Term1, .slice Entries1.a Entries1.len Entries1.cap] ∧ 
 rlog_Log_Merge.l2 J es Base1 Term1 H5 0 Entries1 Q))
theorem rlog_Log_Merge.k4.eq (J : Jn) (lBase : Int) (lTerm : Int) (lEntries : Sl) (es : Sl) (H4 : Hp) (x4 : Bool) (Q : Value → Hp → Prop) : vSeg Try.prog rlog_Log_Merge.cf J rlog_Log_Merge.fn [1, 1, 1, 0, 1, 1] [0, 2, 2, 2, 2, 2] Q (rlog_Log_Merge.k4.st lBase lTerm lEntries es H4 x4) = rlog_Log_Merge.k4.body J lBase lTerm lEntries es H4 x4 Q := by kernel_rfl
theorem rlog_Log_Merge.k4.step {lBase : Int} {lTerm : Int} {lEntries : Sl} {es : Sl} {H4 : Hp} {x4 : Bool} {Q : Value → Hp → Prop} (h : rlog_Log_Merge.k4.body J0 lBase lTerm lEntries es H4 x4 Q) : rlog_Log_Merge.k4 J0 lBase lTerm lEntries es H4 x4 Q := step_of (vSeg Try.prog rlog_Log_Merge.cf J0 rlog_Log_Merge.fn [1, 1, 1, 0, 1, 1] [0, 2, 2, 2, 2, 2] Q) (rlog_Log_Merge.k4.st lBase lTerm lEntries es H4 x4) (rlog_Log_Merge.k4.eq J0 lBase lTerm lEntries es H4 x4 Q) (by kernel_rfl) h
def rlog_Log_Merge.l2.body (J : Jn) (es : Sl) (Base1 : Int) (Term1 : Int) (H6 : Hp) (x5 : Int) (y : Sl) (Q : Value → Hp → Prop) : Prop :=
 
 Br (decide (x5 < ((es.len : Nat) : Int))) (((0 : Int) ≤ x5 ∧ x5 < ((es.len : Nat) : Int)) ∧ vPtr es.a (fun a1 => ∃ Index1 : Int, ∃ Term2 : Int, ∃ CmdOp : Int, ∃ CmdClient : Int, ∃ CmdSeq : Int, ∃ CmdKey : ByteArray, ∃ CmdValue : ByteArray, ∃ CmdOld : ByteArray, RowAt H6 (a1.add ((x5 : Int).toNat * 8)) [.int .i64 Index1, .int .i64 Term2, .int .i64 CmdOp, .int .i64 CmdClient, .int .i64 CmdSeq, .string CmdKey, .string CmdValue, .string CmdOld] ∧ 
 SCalls Try.prog rlog_Log_TermAt.id [.agg #[.int .i64 Base1, .int .i64 Term1, .slice y.a y.len y.cap], .int .i64 Index1] (holes H6 1) (fun r4 H7 => ∃ x6 : Int, ∃ x7 : Bool, r4 = .tuple #[.int .i64 x6, .bool x7] ∧ 
 Br x7 (
 Br (x6 == Term2) (
 rlog_Log_Merge.l2 J es Base1 Term1 H7 (w64 (x5 + 1)) y Q)
 (
 rlog_Log_Merge.k5 J es Base1 Term1 x5 y Index1 Term2 CmdOp CmdClient CmdSeq CmdKey CmdValue CmdOld H7 Q))
 (
 rlog_Log_Merge.k5 J es Base1 Term1 x5 y Index1 Term2 CmdOp CmdClient CmdSeq CmdKey CmdValue CmdOld H7 Q))))
 (Q (.tuple #[.agg #[.int .i64 Base1, .int .i64 Term1, .slice y.a y.len y.cap], .bool true]) H6)
theorem rlog_Log_Merge.l2.eq (J : Jn) (es : Sl) (Base1 : Int) (Term1 : Int) (H6 : Hp) (x5 : Int) (y : Sl) (Q : Value → Hp → Prop) : vAtBody Try.prog rlog_Log_Merge.cf J rlog_Log_Merge.fn [1, 1, 1, 1, 1, 0, 1, 0] [0, 2, 2, 2, 2, 2, 2] Q (rlog_Log_Merge.l2.st es Base1 Term1 H6 x5 y) = rlog_Log_Merge.l2.body J es Base1 Term1 H6 x5 y Q := by kernel_rfl
theorem rlog_Log_Merge.l2.step {es : Sl} {Base1 : Int} {Term1 : Int} {H6 : Hp} {x5 : Int} {y : Sl} {Q : Value → Hp → Prop} (h : rlog_Log_Merge.l2.body J0 es Base1 Term1 H6 x5 y Q) : rlog_Log_Merge.l2 J0 es Base1 Term1 H6 x5 y Q := vAt_stepC (rlog_Log_Merge.l2.st es Base1 Term1 H6 x5 y) (rlog_Log_Merge.l2.eq J0 es Base1 Term1 H6 x5 y Q) (by kernel_rfl) h
def rlog_Log_Merge.k5.body (J : Jn) (es : Sl) (Base1 : Int) (Term1 : Int) (x5 : Int) (y : Sl) (Index1 : Int) (Term2 : Int) (CmdOp : Int) (CmdClient : Int) (CmdSeq : Int) (CmdKey : ByteArray) (CmdValue : ByteArray) (CmdOld : ByteArray) (H7 : Hp) (Q : Value → Hp → Prop) : Prop :=
 ((0 : Int) ≤ (w64 ((w64 (Index1 - Base1)) - 1)) ∧ (w64 ((w64 (Index1 - Base1)) - 1)) ≤ ((y.cap : Nat) : Int)) ∧ 
 vApp Try.prog T_sl_api_Entry (cutA y.a y.cap 0 8) (((w64 ((w64 (Index1 - Base1)) - 1)) : Int).toNat) y.cap (.slice (some (Addr.mk (Array.size H7) 0 none)) 1 1) (Array.push H7 (.cells #[.int .i64 Index1, .int .i64 Term2, .int .i64 CmdOp, .int .i64 CmdClient, .int .i64 CmdSeq, .string CmdKey, .string CmdValue, .string CmdOld] T_api_Entry)) (fun ap H8 => 
 rlog_Log_Merge.l2 J es Base1 Term1 H8 (w64 (x5 + 1)) ap Q)
theorem rlog_Log_Merge.k5.eq (J : Jn) (es : Sl) (Base1 : Int) (Term1 : Int) (x5 : Int) (y : Sl) (Index1 : Int) (Term2 : Int) (CmdOp : Int) (CmdClient : Int) (CmdSeq : Int) (CmdKey : ByteArray) (CmdValue : ByteArray) (CmdOld : ByteArray) (H7 : Hp) (Q : Value → Hp → Prop) : vSeg Try.prog rlog_Log_Merge.cf J rlog_Log_Merge.fn [1, 1, 1, 1, 1, 0, 1, 0, 0, 1, 1, 0, 0, 1, 1] [0, 2, 2, 2, 2, 2, 2, 2, 2, 2, 2, 2, 3] Q (rlog_Log_Merge.k5.st es Base1 Term1 x5 y Index1 Term2 CmdOp CmdClient CmdSeq CmdKey CmdValue CmdOld H7) = rlog_Log_Merge.k5.body J es Base1 Term1 x5 y Index1 Term2 CmdOp CmdClient CmdSeq CmdKey CmdValue CmdOld H7 Q := by kernel_rfl
theorem rlog_Log_Merge.k5.step {es : Sl} {Base1 : Int} {Term1 : Int} {x5 : Int} {y : Sl} {Index1 : Int} {Term2 : Int} {CmdOp : Int} {CmdClient : Int} {CmdSeq : Int} {CmdKey : ByteArray} {CmdValue : ByteArray} {CmdOld : ByteArray} {H7 : Hp} {Q : Value → Hp → Prop} (h : rlog_Log_Merge.k5.body J0 es Base1 Term1 x5 y Index1 Term2 CmdOp CmdClient CmdSeq CmdKey CmdValue CmdOld H7 Q) : rlog_Log_Merge.k5 J0 es Base1 Term1 x5 y Index1 Term2 CmdOp CmdClient CmdSeq CmdKey CmdValue CmdOld H7 Q := step_of (vSeg Try.prog rlog_Log_Merge.cf J0 rlog_Log_Merge.fn [1, 1, 1, 1, 1, 0, 1, 0, 0, 1, 1, 0, 0, 1, 1] [0, 2, 2, 2, 2, 2, 2, 2, 2, 2, 2, 2, 3] Q) (rlog_Log_Merge.k5.st es Base1 Term1 x5 y Index1 Term2 CmdOp CmdClient CmdSeq CmdKey CmdValue CmdOld H7) (rlog_Log_Merge.k5.eq J0 es Base1 Term1 x5 y Index1 Term2 CmdOp CmdClient CmdSeq CmdKey CmdValue CmdOld H7 Q) (by kernel_rfl) h
def rlog_Log_Merge.vc (J : Jn) (lBase : Int) (lTerm : Int) (lEntries : Sl) (prev : Int) (term : Int) (es : Sl) (H : Hp) (Q : Value → Hp → Prop) : Prop :=
 
 SCalls Try.prog cmds_Row.id [.slice es.a es.len es.cap, .int .i64 (w64 (prev + 1))] (holes H 2) (fun r H1 => ∃ x : Bool, r = .bool x ∧ 
 Br (!x) (Q (.tuple #[.agg #[.int .i64 lBase, .int .i64 lTerm, .slice lEntries.a lEntries.len lEntries.cap], .bool false]) H1)
 (
 Br (decide (prev < lBase)) (
 rlog_Log_Merge.l1 J lBase lTerm lEntries H1 es Q)
 (
 rlog_Log_Merge.k3 J lBase lTerm lEntries prev term es H1 Q)))
theorem rlog_Log_Merge.eq (J : Jn) (lBase : Int) (lTerm : Int) (lEntries : Sl) (prev : Int) (term : Int) (es : Sl) (H : Hp) (Q : Value → Hp → Prop) : vFn Try.prog rlog_Log_Merge.cf J rlog_Log_Merge.fn [.agg #[.int .i64 lBase, .int .i64 lTerm, .slice lEntries.a lEntries.len lEntries.cap], .int .i64 prev, .int .i64 term, .slice es.a es.len es.cap] H Q = rlog_Log_Merge.vc J lBase lTerm lEntries prev term es H Q := by kernel_rfl
theorem rlog_Log_Merge.calls {lBase : Int} {lTerm : Int} {lEntries : Sl} {prev : Int} {term : Int} {es : Sl} {H : Hp} {Q : Value → Hp → Prop} (h : rlog_Log_Merge.vc J0 lBase lTerm lEntries prev term es H Q) : SCalls Try.prog rlog_Log_Merge.id [.agg #[.int .i64 lBase, .int .i64 lTerm, .slice lEntries.a lEntries.len lEntries.cap], .int .i64 prev, .int .i64 term, .slice es.a es.len es.cap] H Q := vFn_of Try.mixed Try.func14 (rlog_Log_Merge.eq J0 lBase lTerm lEntries prev term es H Q) h

/-! 15: tephra/tephralaw13.merge -/
def tephralaw13_merge.cf : Cfg := ⟨[4, 8, 12, 14], [(4, [3, 4, 8]), (12, [4, 8, 12, 67, 68, 69])], [(5, [3, 4, 8], true), (6, [3, 4, 8], true), (7, [1, 2, 3, 4, 8], true), (9, [3, 4, 8, 57], true), (16, [4, 8, 12, 14, 67, 68, 69, 87], true)], []⟩
def tephralaw13_merge.l1.st (lBase : Int) (lTerm : Int) (lEntries : Sl) (H2 : Hp) (es1 : Sl) : VS := ⟨mkFr 103 [(3, .v (.slice es1.a es1.len es1.cap)), (4, .loc 0 0), (8, .loc 1 0)], [(T_rlog_Log, [.int .i64 lBase, .int .i64 lTerm, .slice lEntries.a lEntries.len lEntries.cap]), (T_rlog_Log, [.int .i64 0, .int .i64 0, .slice none 0 0])], H2⟩
def tephralaw13_merge.l1 (J : Jn) (lBase : Int) (lTerm : Int) (lEntries : Sl) (H2 : Hp) (es1 : Sl) (Q : Value → Hp → Prop) : Prop := vAt Try.prog tephralaw13_merge.cf J tephralaw13_merge.fn [1, 1, 0, 1, 0, 0, 0] [0, 2, 2, 2, 2] Q (tephralaw13_merge.l1.st lBase lTerm lEntries H2 es1)
def tephralaw13_merge.k1.st (lBase : Int) (lTerm : Int) (lEntries : Sl) (H2 : Hp) (es1 : Sl) : VS := ⟨mkFr 103 [(3, .v (.slice es1.a es1.len es1.cap)), (4, .loc 0 0), (8, .loc 1 0)], [(T_rlog_Log, [.int .i64 lBase, .int .i64 lTerm, .slice lEntries.a lEntries.len lEntries.cap]), (T_rlog_Log, [.int .i64 0, .int .i64 0, .slice none 0 0])], H2⟩
def tephralaw13_merge.k1 (J : Jn) (lBase : Int) (lTerm : Int) (lEntries : Sl) (H2 : Hp) (es1 : Sl) (Q : Value → Hp → Prop) : Prop := J (vSeg Try.prog tephralaw13_merge.cf J tephralaw13_merge.fn [1, 1, 0, 1, 0, 0, 0, 0, 1] [0, 2, 2, 2, 2, 2, 2] Q) (tephralaw13_merge.k1.st lBase lTerm lEntries H2 es1)
def tephralaw13_merge.k2.st (lBase : Int) (lTerm : Int) (lEntries : Sl) (H2 : Hp) (es1 : Sl) : VS := ⟨mkFr 103 [(3, .v (.slice es1.a es1.len es1.cap)), (4, .loc 0 0), (8, .loc 1 0)], [(T_rlog_Log, [.int .i64 lBase, .int .i64 lTerm, .slice lEntries.a lEntries.len lEntries.cap]), (T_rlog_Log, [.int .i64 0, .int .i64 0, .slice none 0 0])], H2⟩
def tephralaw13_merge.k2 (J : Jn) (lBase : Int) (lTerm : Int) (lEntries : Sl) (H2 : Hp) (es1 : Sl) (Q : Value → Hp → Prop) : Prop := J (vSeg Try.prog tephralaw13_merge.cf J tephralaw13_merge.fn [1, 1, 0, 1, 0, 1] [0, 2, 2, 2, 2] Q) (tephralaw13_merge.k2.st lBase lTerm lEntries H2 es1)
def tephralaw13_merge.k3.st (lBase : Int) (lTerm : Int) (lEntries : Sl) (prev1 : Int) (atv1 : Int) (es2 : Sl) (H3 : Hp) : VS := ⟨mkFr 103 [(1, .v (.int .i64 prev1)), (2, .v (.int .i64 atv1)), (3, .v (.slice es2.a es2.len es2.cap)), (4, .loc 0 0), (8, .loc 1 0)], [(T_rlog_Log, [.int .i64 lBase, .int .i64 lTerm, .slice lEntries.a lEntries.len lEntries.cap]), (T_rlog_Log, [.int .i64 0, .int .i64 0, .slice none 0 0])], H3⟩
def tephralaw13_merge.k3 (J : Jn) (lBase : Int) (lTerm : Int) (lEntries : Sl) (prev1 : Int) (atv1 : Int) (es2 : Sl) (H3 : Hp) (Q : Value → Hp → Prop) : Prop := J (vSeg Try.prog tephralaw13_merge.cf J tephralaw13_merge.fn [1, 1, 1] [0, 2, 2] Q) (tephralaw13_merge.k3.st lBase lTerm lEntries prev1 atv1 es2 H3)
def tephralaw13_merge.k4.st (lBase : Int) (lTerm : Int) (lEntries : Sl) (es2 : Sl) (H4 : Hp) (x3 : Bool) : VS := ⟨mkFr 103 [(3, .v (.slice es2.a es2.len es2.cap)), (4, .loc 0 0), (8, .loc 1 0), (57, .v (.bool x3))], [(T_rlog_Log, [.int .i64 lBase, .int .i64 lTerm, .slice lEntries.a lEntries.len lEntries.cap]), (T_rlog_Log, [.int .i64 0, .int .i64 0, .slice none 0 0])], H4⟩
def tephralaw13_merge.k4 (J : Jn) (lBase : Int) (lTerm : Int) (lEntries : Sl) (es2 : Sl) (H4 : Hp) (x3 : Bool) (Q : Value → Hp → Prop) : Prop := J (vSeg Try.prog tephralaw13_merge.cf J tephralaw13_merge.fn [1, 1, 1, 0, 1, 1] [0, 2, 2, 2, 2, 2] Q) (tephralaw13_merge.k4.st lBase lTerm lEntries es2 H4 x3)
def tephralaw13_merge.l2.st (lBase : Int) (lTerm : Int) (lEntries : Sl) (es2 : Sl) (H7 : Hp) (x4 : Int) (y : Sl) : VS := ⟨mkFr 103 [(4, .loc 0 0), (8, .loc 1 0), (12, .loc 2 0), (67, .v (.slice es2.a es2.len es2.cap)), (68, .v (.int .i64 ((es2.len : Nat) : Int))), (69, .v (.int .i64 x4))], [(T_rlog_Log, [.int .i64 lBase, .int .i64 lTerm, .slice lEntries.a lEntries.len lEntries.cap]), (T_rlog_Log, [.int .i64 0, .int .i64 0, .slice none 0 0]), (T_rlog_Log, [.int .i64 lBase, .int .i64 lTerm, .slice y.a y.len y.cap])], H7⟩
def tephralaw13_merge.l2 (J : Jn) (lBase : Int) (lTerm : Int) (lEntries : Sl) (es2 : Sl) (H7 : Hp) (x4 : Int) (y : Sl) (Q : Value → Hp → Prop) : Prop := vAt Try.prog tephralaw13_merge.cf J tephralaw13_merge.fn [1, 1, 1, 1, 1, 0, 1, 0] [0, 2, 2, 2, 2, 3, 3] Q (tephralaw13_merge.l2.st lBase lTerm lEntries es2 H7 x4 y)
def tephralaw13_merge.k5.st (lBase : Int) (lTerm : Int) (lEntries : Sl) (es2 : Sl) (x4 : Int) (y : Sl) (Index1 : Int) (Term : Int) (CmdOp : Int) (CmdClient : Int) (CmdSeq : Int) (CmdKey : ByteArray) (CmdValue : ByteArray) (CmdOld : ByteArray) (H8 : Hp) (x7 : Bool) : VS := ⟨mkFr 103 [(4, .loc 0 0), (8, .loc 1 0), (12, .loc 2 0), (14, .loc 3 0), (67, .v (.slice es2.a es2.len es2.cap)), (68, .v (.int .i64 ((es2.len : Nat) : Int))), (69, .v (.int .i64 x4)), (87, .v (.bool x7))], [(T_rlog_Log, [.int .i64 lBase, .int .i64 lTerm, .slice lEntries.a lEntries.len lEntries.cap]), (T_rlog_Log, [.int .i64 0, .int .i64 0, .slice none 0 0]), (T_rlog_Log, [.int .i64 lBase, .int .i64 lTerm, .slice y.a y.len y.cap]), (T_api_Entry, [.int .i64 Index1, .int .i64 Term, .int .i64 CmdOp, .int .i64 CmdClient, .int .i64 CmdSeq, .string CmdKey, .string CmdValue, .string CmdOld])], H8⟩
def tephralaw13_merge.k5 (J : Jn) (lBase : Int) (lTerm : Int) (lEntries : Sl) (es2 : Sl) (x4 : Int) (y : Sl) (Index1 : Int) (Term : Int) (CmdOp : Int) (CmdClient : Int) (CmdSeq : Int) (CmdKey : ByteArray) (CmdValue : ByteArray) (CmdOld : ByteArray) (H8 : Hp) (x7 : Bool) (Q : Value → Hp → Prop) : Prop := J (vSeg Try.prog tephralaw13_merge.cf J tephralaw13_merge.fn [1, 1, 1, 1, 1, 0, 1, 0, 0, 1, 1, 0, 0, 1, 1, 1] [0, 2, 2, 2, 2, 3, 3, 3, 3, 3, 3, 3, 4, 4] Q) (tephralaw13_merge.k5.st lBase lTerm lEntries es2 x4 y Index1 Term CmdOp CmdClient CmdSeq CmdKey CmdValue CmdOld H8 x7)
def tephralaw13_merge.l3.st (lBase : Int) (lTerm : Int) (lEntries : Sl) (es2 : Sl) (H10 : Hp) (x8 : Int) (y1 : Sl) : VS := ⟨mkFr 103 [(4, .loc 0 0), (8, .loc 1 0), (12, .loc 2 0), (67, .v (.slice es2.a es2.len es2.cap)), (68, .v (.int .i64 ((es2.len : Nat) : Int))), (69, .v (.int .i64 x8))], [(T_rlog_Log, [.int .i64 lBase, .int .i64 lTerm, .slice lEntries.a lEntries.len lEntries.cap]), (T_rlog_Log, [.int .i64 0, .int .i64 0, .slice none 0 0]), (T_rlog_Log, [.int .i64 lBase, .int .i64 lTerm, .slice y1.a y1.len y1.cap])], H10⟩
def tephralaw13_merge.l3 (J : Jn) (lBase : Int) (lTerm : Int) (lEntries : Sl) (es2 : Sl) (H10 : Hp) (x8 : Int) (y1 : Sl) (Q : Value → Hp → Prop) : Prop := vAt Try.prog tephralaw13_merge.cf J tephralaw13_merge.fn [1, 1, 1, 1, 1, 0, 1, 0] [0, 2, 2, 2, 2, 3, 3] Q (tephralaw13_merge.l3.st lBase lTerm lEntries es2 H10 x8 y1)
def tephralaw13_merge.k6.st (lBase : Int) (lTerm : Int) (lEntries : Sl) (es2 : Sl) (x8 : Int) (y1 : Sl) (Index2 : Int) (Term1 : Int) (CmdOp1 : Int) (CmdClient1 : Int) (CmdSeq1 : Int) (CmdKey1 : ByteArray) (CmdValue1 : ByteArray) (CmdOld1 : ByteArray) (H11 : Hp) (x11 : Bool) : VS := ⟨mkFr 103 [(4, .loc 0 0), (8, .loc 1 0), (12, .loc 2 0), (14, .loc 3 0), (67, .v (.slice es2.a es2.len es2.cap)), (68, .v (.int .i64 ((es2.len : Nat) : Int))), (69, .v (.int .i64 x8)), (87, .v (.bool x11))], [(T_rlog_Log, [.int .i64 lBase, .int .i64 lTerm, .slice lEntries.a lEntries.len lEntries.cap]), (T_rlog_Log, [.int .i64 0, .int .i64 0, .slice none 0 0]), (T_rlog_Log, [.int .i64 lBase, .int .i64 lTerm, .slice y1.a y1.len y1.cap]), (T_api_Entry, [.int .i64 Index2, .int .i64 Term1, .int .i64 CmdOp1, .int .i64 CmdClient1, .int .i64 CmdSeq1, .string CmdKey1, .string CmdValue1, .string CmdOld1])], H11⟩
def tephralaw13_merge.k6 (J : Jn) (lBase : Int) (lTerm : Int) (lEntries : Sl) (es2 : Sl) (x8 : Int) (y1 : Sl) (Index2 : Int) (Term1 : Int) (CmdOp1 : Int) (CmdClient1 : Int) (CmdSeq1 : Int) (CmdKey1 : ByteArray) (CmdValue1 : ByteArray) (CmdOld1 : ByteArray) (H11 : Hp) (x11 : Bool) (Q : Value → Hp → Prop) : Prop := J (vSeg Try.prog tephralaw13_merge.cf J tephralaw13_merge.fn [1, 1, 1, 1, 1, 0, 1, 0, 0, 1, 1, 0, 0, 1, 1, 1] [0, 2, 2, 2, 2, 3, 3, 3, 3, 3, 3, 3, 4, 4] Q) (tephralaw13_merge.k6.st lBase lTerm lEntries es2 x8 y1 Index2 Term1 CmdOp1 CmdClient1 CmdSeq1 CmdKey1 CmdValue1 CmdOld1 H11 x11)
attribute [irreducible] tephralaw13_merge.l1 tephralaw13_merge.k1 tephralaw13_merge.k2 tephralaw13_merge.k3 tephralaw13_merge.k4 tephralaw13_merge.l2 tephralaw13_merge.k5 tephralaw13_merge.l3 tephralaw13_merge.k6
def tephralaw13_merge.l1.body (J : Jn) (lBase : Int) (lTerm : Int) (lEntries : Sl) (H2 : Hp) (es1 : Sl) (Q : Value → Hp → Prop) : Prop :=
 
 Br (decide (((es1.len : Nat) : Int) > 0)) (((0 : Int) ≤ 0 ∧ (0 : Int) < ((es1.len : Nat) : Int)) ∧ vPtr es1.a (fun a => ∃ Index : Int, Hp.cell? H2 a = some (.int .i64 Index) ∧ 
 Br (decide (Index ≤ lBase)) (
 tephralaw13_merge.k1 J lBase lTerm lEntries H2 es1 Q)
 (
 tephralaw13_merge.k2 J lBase lTerm lEntries H2 es1 Q)))
 (
 tephralaw13_merge.k2 J lBase lTerm lEntries H2 es1 Q)
theorem tephralaw13_merge.l1.eq (J : Jn) (lBase : Int) (lTerm : Int) (lEntries : Sl) (H2 : Hp) (es1 : Sl) (Q : Value → Hp → Prop) : vAtBody Try.prog tephralaw13_merge.cf J tephralaw13_merge.fn [1, 1, 0, 1, 0, 0, 0] [0, 2, 2, 2, 2] Q (tephralaw13_merge.l1.st lBase lTerm lEntries H2 es1) = tephralaw13_merge.l1.body J lBase lTerm lEntries H2 es1 Q := by kernel_rfl
theorem tephralaw13_merge.l1.step {lBase : Int} {lTerm : Int} {lEntries : Sl} {H2 : Hp} {es1 : Sl} {Q : Value → Hp → Prop} (h : tephralaw13_merge.l1.body J0 lBase lTerm lEntries H2 es1 Q) : tephralaw13_merge.l1 J0 lBase lTerm lEntries H2 es1 Q := vAt_stepC (tephralaw13_merge.l1.st lBase lTerm lEntries H2 es1) (tephralaw13_merge.l1.eq J0 lBase lTerm lEntries H2 es1 Q) (by kernel_rfl) h
def tephralaw13_merge.k1.body (J : Jn) (lBase : Int) (lTerm : Int) (lEntries : Sl) (H2 : Hp) (es1 : Sl) (Q : Value → Hp → Prop) : Prop :=
 ((0 : Int) ≤ 1 ∧ (1 : Int) ≤ ((es1.len : Nat) : Int)) ∧ 
 tephralaw13_merge.l1 J lBase lTerm lEntries H2 (Sl.mk (cutA es1.a es1.cap 1 8) (es1.len - 1) (es1.cap - 1)) Q
theorem tephralaw13_merge.k1.eq (J : Jn) (lBase : Int) (lTerm : Int) (lEntries : Sl) (H2 : Hp) (es1 : Sl) (Q : Value → Hp → Prop) : vSeg Try.prog tephralaw13_merge.cf J tephralaw13_merge.fn [1, 1, 0, 1, 0, 0, 0, 0, 1] [0, 2, 2, 2, 2, 2, 2] Q (tephralaw13_merge.k1.st lBase lTerm lEntries H2 es1) = tephralaw13_merge.k1.body J lBase lTerm lEntries H2 es1 Q := by kernel_rfl
theorem tephralaw13_merge.k1.step {lBase : Int} {lTerm : Int} {lEntries : Sl} {H2 : Hp} {es1 : Sl} {Q : Value → Hp → Prop} (h : tephralaw13_merge.k1.body J0 lBase lTerm lEntries H2 es1 Q) : tephralaw13_merge.k1 J0 lBase lTerm lEntries H2 es1 Q := step_of (vSeg Try.prog tephralaw13_merge.cf J0 tephralaw13_merge.fn [1, 1, 0, 1, 0, 0, 0, 0, 1] [0, 2, 2, 2, 2, 2, 2] Q) (tephralaw13_merge.k1.st lBase lTerm lEntries H2 es1) (tephralaw13_merge.k1.eq J0 lBase lTerm lEntries H2 es1 Q) (by kernel_rfl) h
def tephralaw13_merge.k2.body (J : Jn) (lBase : Int) (lTerm : Int) (lEntries : Sl) (H2 : Hp) (es1 : Sl) (Q : Value → Hp → Prop) : Prop :=
 
 tephralaw13_merge.k3 J lBase lTerm lEntries lBase lTerm es1 H2 Q
theorem tephralaw13_merge.k2.eq (J : Jn) (lBase : Int) (lTerm : Int) (lEntries : Sl) (H2 : Hp) (es1 : Sl) (Q : Value → Hp → Prop) : vSeg Try.prog tephralaw13_merge.cf J tephralaw13_merge.fn [1, 1, 0, 1, 0, 1] [0, 2, 2, 2, 2] Q (tephralaw13_merge.k2.st lBase lTerm lEntries H2 es1) = tephralaw13_merge.k2.body J lBase lTerm lEntries H2 es1 Q := by kernel_rfl
theorem tephralaw13_merge.k2.step {lBase : Int} {lTerm : Int} {lEntries : Sl} {H2 : Hp} {es1 : Sl} {Q : Value → Hp → Prop} (h : tephralaw13_merge.k2.body J0 lBase lTerm lEntries H2 es1 Q) : tephralaw13_merge.k2 J0 lBase lTerm lEntries H2 es1 Q := step_of (vSeg Try.prog tephralaw13_merge.cf J0 tephralaw13_merge.fn [1, 1, 0, 1, 0, 1] [0, 2, 2, 2, 2] Q) (tephralaw13_merge.k2.st lBase lTerm lEntries H2 es1) (tephralaw13_merge.k2.eq J0 lBase lTerm lEntries H2 es1 Q) (by kernel_rfl) h
def tephralaw13_merge.k3.body (J : Jn) (lBase : Int) (lTerm : Int) (lEntries : Sl) (prev1 : Int) (atv1 : Int) (es2 : Sl) (H3 : Hp) (Q : Value → Hp → Prop) : Prop :=
 
 SCalls Try.prog tephralaw13_term.id [.agg #[.int .i64 lBase, .int .i64 lTerm, .slice lEntries.a lEntries.len lEntries.cap], .int .i64 prev1] H3 (fun r1 H4 => ∃ x1 : Int, ∃ x2 : Bool, r1 = .tuple #[.int .i64 x1, .bool x2] ∧ 
 Br (!x2) (
 tephralaw13_merge.k4 J lBase lTerm lEntries es2 H4 true Q)
 (
 tephralaw13_merge.k4 J lBase lTerm lEntries es2 H4 (x1 != atv1) Q))
theorem tephralaw13_merge.k3.eq (J : Jn) (lBase : Int) (lTerm : Int) (lEntries : Sl) (prev1 : Int) (atv1 : Int) (es2 : Sl) (H3 : Hp) (Q : Value → Hp → Prop) : vSeg Try.prog tephralaw13_merge.cf J tephralaw13_merge.fn [1, 1, 1] [0, 2, 2] Q (tephralaw13_merge.k3.st lBase lTerm lEntries prev1 atv1 es2 H3) = tephralaw13_merge.k3.body J lBase lTerm lEntries prev1 atv1 es2 H3 Q := by kernel_rfl
theorem tephralaw13_merge.k3.step {lBase : Int} {lTerm : Int} {lEntries : Sl} {prev1 : Int} {atv1 : Int} {es2 : Sl} {H3 : Hp} {Q : Value → Hp → Prop} (h : tephralaw13_merge.k3.body J0 lBase lTerm lEntries prev1 atv1 es2 H3 Q) : tephralaw13_merge.k3 J0 lBase lTerm lEntries prev1 atv1 es2 H3 Q := step_of (vSeg Try.prog tephralaw13_merge.cf J0 tephralaw13_merge.fn [1, 1, 1] [0, 2, 2] Q) (tephralaw13_merge.k3.st lBase lTerm lEntries prev1 atv1 es2 H3) (tephralaw13_merge.k3.eq J0 lBase lTerm lEntries prev1 atv1 es2 H3 Q) (by kernel_rfl) h
def tephralaw13_merge.k4.body (J : Jn) (lBase : Int) (lTerm : Int) (lEntries : Sl) (es2 : Sl) (H4 : Hp) (x3 : Bool) (Q : Value → Hp → Prop) : Prop :=
 
 Br x3 (Q (.tuple #[.agg #[.int .i64 lBase, .int .i64 lTerm, .slice lEntries.a lEntries.len lEntries.cap], .bool false]) H4)
 (
  (
 vApp Try.prog T_sl_api_Entry none 0 0 (.slice lEntries.a lEntries.len lEntries.cap) H4 (fun ap H5 => 
 tephralaw13_merge.l2 J lBase lTerm lEntries es2 (holes H5 1) 0 ap Q)) ∧ 
  (
 vApp Try.prog T_sl_api_Entry none 0 0 (.slice lEntries.a lEntries.len lEntries.cap) (holes H4 1) (fun ap1 H6 => 
 tephralaw13_merge.l3 J lBase lTerm lEntries es2 H6 0 ap1 Q)))
theorem tephralaw13_merge.k4.eq (J : Jn) (lBase : Int) (lTerm : Int) (lEntries : Sl) (es2 : Sl) (H4 : Hp) (x3 : Bool) (Q : Value → Hp → Prop) : vSeg Try.prog tephralaw13_merge.cf J tephralaw13_merge.fn [1, 1, 1, 0, 1, 1] [0, 2, 2, 2, 2, 2] Q (tephralaw13_merge.k4.st lBase lTerm lEntries es2 H4 x3) = tephralaw13_merge.k4.body J lBase lTerm lEntries es2 H4 x3 Q := by kernel_rfl
theorem tephralaw13_merge.k4.step {lBase : Int} {lTerm : Int} {lEntries : Sl} {es2 : Sl} {H4 : Hp} {x3 : Bool} {Q : Value → Hp → Prop} (h : tephralaw13_merge.k4.body J0 lBase lTerm lEntries es2 H4 x3 Q) : tephralaw13_merge.k4 J0 lBase lTerm lEntries es2 H4 x3 Q := step_of (vSeg Try.prog tephralaw13_merge.cf J0 tephralaw13_merge.fn [1, 1, 1, 0, 1, 1] [0, 2, 2, 2, 2, 2] Q) (tephralaw13_merge.k4.st lBase lTerm lEntries es2 H4 x3) (tephralaw13_merge.k4.eq J0 lBase lTerm lEntries es2 H4 x3 Q) (by kernel_rfl) h
def tephralaw13_merge.l2.body (J : Jn) (lBase : Int) (lTerm : Int) (lEntries : Sl) (es2 : Sl) (H7 : Hp) (x4 : Int) (y : Sl) (Q : Value → Hp → Prop) : Prop :=
 
 Br (decide (x4 < ((es2.len : Nat) : Int))) (((0 : Int) ≤ x4 ∧ x4 < ((es2.len : Nat) : Int)) ∧ vPtr es2.a (fun a1 => ∃ Index1 : Int, ∃ Term : Int, ∃ CmdOp : Int, ∃ CmdClient : Int, ∃ CmdSeq : Int, ∃ CmdKey : ByteArray, ∃ CmdValue : ByteArray, ∃ CmdOld : ByteArray, RowAt H7 (a1.add ((x4 : Int).toNat * 8)) [.int .i64 Index1, .int .i64 Term, .int .i64 CmdOp, .int .i64 CmdClient, .int .i64 CmdSeq, .string CmdKey, .string CmdValue, .string CmdOld] ∧ 
 SCalls Try.prog tephralaw13_term.id [.agg #[.int .i64 lBase, .int .i64 lTerm, .slice y.a y.len y.cap], .int .i64 Index1] (holes H7 1) (fun r2 H8 => ∃ x5 : Int, ∃ x6 : Bool, r2 = .tuple #[.int .i64 x5, .bool x6] ∧ 
 Br (!x6) (
 tephralaw13_merge.k5 J lBase lTerm lEntries es2 x4 y Index1 Term CmdOp CmdClient CmdSeq CmdKey CmdValue CmdOld H8 true Q)
 (
 tephralaw13_merge.k5 J lBase lTerm lEntries es2 x4 y Index1 Term CmdOp CmdClient CmdSeq CmdKey CmdValue CmdOld H8 (x5 != Term) Q))))
 (Q (.tuple #[.agg #[.int .i64 lBase, .int .i64 lTerm, .slice y.a y.len y.cap], .bool true]) H7)
theorem tephralaw13_merge.l2.eq (J : Jn) (lBase : Int) (lTerm : Int) (lEntries : Sl) (es2 : Sl) (H7 : Hp) (x4 : Int) (y : Sl) (Q : Value → Hp → Prop) : vAtBody Try.prog tephralaw13_merge.cf J tephralaw13_merge.fn [1, 1, 1, 1, 1, 0, 1, 0] [0, 2, 2, 2, 2, 3, 3] Q (tephralaw13_merge.l2.st lBase lTerm lEntries es2 H7 x4 y) = tephralaw13_merge.l2.body J lBase lTerm lEntries es2 H7 x4 y Q := by kernel_rfl
theorem tephralaw13_merge.l2.step {lBase : Int} {lTerm : Int} {lEntries : Sl} {es2 : Sl} {H7 : Hp} {x4 : Int} {y : Sl} {Q : Value → Hp → Prop} (h : tephralaw13_merge.l2.body J0 lBase lTerm lEntries es2 H7 x4 y Q) : tephralaw13_merge.l2 J0 lBase lTerm lEntries es2 H7 x4 y Q := vAt_stepC (tephralaw13_merge.l2.st lBase lTerm lEntries es2 H7 x4 y) (tephralaw13_merge.l2.eq J0 lBase lTerm lEntries es2 H7 x4 y Q) (by kernel_rfl) h
def tephralaw13_merge.k5.body (J : Jn) (lBase : Int) (lTerm : Int) (lEntries : Sl) (es2 : Sl) (x4 : Int) (y : Sl) (Index1 : Int) (Term : Int) (CmdOp : Int) (CmdClient : Int) (CmdSeq : Int) (CmdKey : ByteArray) (CmdValue : ByteArray) (CmdOld : ByteArray) (H8 : Hp) (x7 : Bool) (Q : Value → Hp → Prop) : Prop :=
 
 Br x7 (((0 : Int) ≤ (w64 ((w64 (Index1 - lBase)) - 1)) ∧ (w64 ((w64 (Index1 - lBase)) - 1)) ≤ ((y.cap : Nat) : Int)) ∧ 
 vApp Try.prog T_sl_api_Entry (cutA y.a y.cap 0 8) (((w64 ((w64 (Index1 - lBase)) - 1)) : Int).toNat) y.cap (.slice (some (Addr.mk (Array.size H8) 0 none)) 1 1) (Array.push H8 (.cells #[.int .i64 Index1, .int .i64 Term, .int .i64 CmdOp, .int .i64 CmdClient, .int .i64 CmdSeq, .string CmdKey, .string CmdValue, .string CmdOld] T_api_Entry)) (fun ap2 H9 => 
 tephralaw13_merge.l2 J lBase lTerm lEntries es2 H9 (w64 (x4 + 1)) ap2 Q))
 (
 tephralaw13_merge.l2 J lBase lTerm lEntries es2 H8 (w64 (x4 + 1)) y Q)
theorem tephralaw13_merge.k5.eq (J : Jn) (lBase : Int) (lTerm : Int) (lEntries : Sl) (es2 : Sl) (x4 : Int) (y : Sl) (Index1 : Int) (Term : Int) (CmdOp : Int) (CmdClient : Int) (CmdSeq : Int) (CmdKey : ByteArray) (CmdValue : ByteArray) (CmdOld : ByteArray) (H8 : Hp) (x7 : Bool) (Q : Value → Hp → Prop) : vSeg Try.prog tephralaw13_merge.cf J tephralaw13_merge.fn [1, 1, 1, 1, 1, 0, 1, 0, 0, 1, 1, 0, 0, 1, 1, 1] [0, 2, 2, 2, 2, 3, 3, 3, 3, 3, 3, 3, 4, 4] Q (tephralaw13_merge.k5.st lBase lTerm lEntries es2 x4 y Index1 Term CmdOp CmdClient CmdSeq CmdKey CmdValue CmdOld H8 x7) = tephralaw13_merge.k5.body J lBase lTerm lEntries es2 x4 y Index1 Term CmdOp CmdClient CmdSeq CmdKey CmdValue CmdOld H8 x7 Q := by kernel_rfl
theorem tephralaw13_merge.k5.step {lBase : Int} {lTerm : Int} {lEntries : Sl} {es2 : Sl} {x4 : Int} {y : Sl} {Index1 : Int} {Term : Int} {CmdOp : Int} {CmdClient : Int} {CmdSeq : Int} {CmdKey : ByteArray} {CmdValue : ByteArray} {CmdOld : ByteArray} {H8 : Hp} {x7 : Bool} {Q : Value → Hp → Prop} (h : tephralaw13_merge.k5.body J0 lBase lTerm lEntries es2 x4 y Index1 Term CmdOp CmdClient CmdSeq CmdKey CmdValue CmdOld H8 x7 Q) : tephralaw13_merge.k5 J0 lBase lTerm lEntries es2 x4 y Index1 Term CmdOp CmdClient CmdSeq CmdKey CmdValue CmdOld H8 x7 Q := step_of (vSeg Try.prog tephralaw13_merge.cf J0 tephralaw13_merge.fn [1, 1, 1, 1, 1, 0, 1, 0, 0, 1, 1, 0, 0, 1, 1, 1] [0, 2, 2, 2, 2, 3, 3, 3, 3, 3, 3, 3, 4, 4] Q) (tephralaw13_merge.k5.st lBase lTerm lEntries es2 x4 y Index1 Term CmdOp CmdClient CmdSeq CmdKey CmdValue CmdOld H8 x7) (tephralaw13_merge.k5.eq J0 lBase lTerm lEntries es2 x4 y Index1 Term CmdOp CmdClient CmdSeq CmdKey CmdValue CmdOld H8 x7 Q) (by kernel_rfl) h
def tephralaw13_merge.l3.body (J : Jn) (lBase : Int) (lTerm : Int) (lEntries : Sl) (es2 : Sl) (H10 : Hp) (x8 : Int) (y1 : Sl) (Q : Value → Hp → Prop) : Prop :=
 
 Br (decide (x8 < ((es2.len : Nat) : Int))) (((0 : Int) ≤ x8 ∧ x8 < ((es2.len : Nat) : Int)) ∧ vPtr es2.a (fun a2 => ∃ Index2 : Int, ∃ Term1 : Int, ∃ CmdOp1 : Int, ∃ CmdClient1 : Int, ∃ CmdSeq1 : Int, ∃ CmdKey1 : ByteArray, ∃ CmdValue1 : ByteArray, ∃ CmdOld1 : ByteArray, RowAt H10 (a2.add ((x8 : Int).toNat * 8)) [.int .i64 Index2, .int .i64 Term1, .int .i64 CmdOp1, .int .i64 CmdClient1, .int .i64 CmdSeq1, .string CmdKey1, .string CmdValue1, .string CmdOld1] ∧ 
 SCalls Try.prog tephralaw13_term.id [.agg #[.int .i64 lBase, .int .i64 lTerm, .slice y1.a y1.len y1.cap], .int .i64 Index2] (holes H10 1) (fun r3 H11 => ∃ x9 : Int, ∃ x10 : Bool, r3 = .tuple #[.int .i64 x9, .bool x10] ∧ 
 Br (!x10) (
 tephralaw13_merge.k6 J lBase lTerm lEntries es2 x8 y1 Index2 Term1 CmdOp1 CmdClient1 CmdSeq1 CmdKey1 CmdValue1 CmdOld1 H11 true Q)
 (
 tephralaw13_merge.k6 J lBase lTerm lEntries es2 x8 y1 Index2 Term1 CmdOp1 CmdClient1 CmdSeq1 CmdKey1 CmdValue1 CmdOld1 H11 (x9 != Term1) Q))))
 (Q (.tuple #[.agg #[.int .i64 lBase, .int .i64 lTerm, .slice y1.a y1.len y1.cap], .bool true]) H10)
theorem tephralaw13_merge.l3.eq (J : Jn) (lBase : Int) (lTerm : Int) (lEntries : Sl) (es2 : Sl) (H10 : Hp) (x8 : Int) (y1 : Sl) (Q : Value → Hp → Prop) : vAtBody Try.prog tephralaw13_merge.cf J tephralaw13_merge.fn [1, 1, 1, 1, 1, 0, 1, 0] [0, 2, 2, 2, 2, 3, 3] Q (tephralaw13_merge.l3.st lBase lTerm lEntries es2 H10 x8 y1) = tephralaw13_merge.l3.body J lBase lTerm lEntries es2 H10 x8 y1 Q := by kernel_rfl
theorem tephralaw13_merge.l3.step {lBase : Int} {lTerm : Int} {lEntries : Sl} {es2 : Sl} {H10 : Hp} {x8 : Int} {y1 : Sl} {Q : Value → Hp → Prop} (h : tephralaw13_merge.l3.body J0 lBase lTerm lEntries es2 H10 x8 y1 Q) : tephralaw13_merge.l3 J0 lBase lTerm lEntries es2 H10 x8 y1 Q := vAt_stepC (tephralaw13_merge.l3.st lBase lTerm lEntries es2 H10 x8 y1) (tephralaw13_merge.l3.eq J0 lBase lTerm lEntries es2 H10 x8 y1 Q) (by kernel_rfl) h
def tephralaw13_merge.k6.body (J : Jn) (lBase : Int) (lTerm : Int) (lEntries : Sl) (es2 : Sl) (x8 : Int) (y1 : Sl) (Index2 : Int) (Term1 : Int) (CmdOp1 : Int) (CmdClient1 : Int) (CmdSeq1 : Int) (CmdKey1 : ByteArray) (CmdValue1 : ByteArray) (CmdOld1 : ByteArray) (H11 : Hp) (x11 : Bool) (Q : Value → Hp → Prop) : Prop :=
 
 Br x11 (((0 : Int) ≤ (w64 ((w64 (Index2 - lBase)) - 1)) ∧ (w64 ((w64 (Index2 - lBase)) - 1)) ≤ ((y1.cap : Nat) : Int)) ∧ 
 vApp Try.prog T_sl_api_Entry (cutA y1.a y1.cap 0 8) (((w64 ((w64 (Index2 - lBase)) - 1)) : Int).toNat) y1.cap (.slice (some (Addr.mk (Array.size H11) 0 none)) 1 1) (Array.push H11 (.cells #[.int .i64 Index2, .int .i64 Term1, .int .i64 CmdOp1, .int .i64 CmdClient1, .int .i64 CmdSeq1, .string CmdKey1, .string CmdValue1, .string CmdOld1] T_api_Entry)) (fun ap3 H12 => 
 tephralaw13_merge.l3 J lBase lTerm lEntries es2 H12 (w64 (x8 + 1)) ap3 Q))
 (
 tephralaw13_merge.l3 J lBase lTerm lEntries es2 H11 (w64 (x8 + 1)) y1 Q)
theorem tephralaw13_merge.k6.eq (J : Jn) (lBase : Int) (lTerm : Int) (lEntries : Sl) (es2 : Sl) (x8 : Int) (y1 : Sl) (Index2 : Int) (Term1 : Int) (CmdOp1 : Int) (CmdClient1 : Int) (CmdSeq1 : Int) (CmdKey1 : ByteArray) (CmdValue1 : ByteArray) (CmdOld1 : ByteArray) (H11 : Hp) (x11 : Bool) (Q : Value → Hp → Prop) : vSeg Try.prog tephralaw13_merge.cf J tephralaw13_merge.fn [1, 1, 1, 1, 1, 0, 1, 0, 0, 1, 1, 0, 0, 1, 1, 1] [0, 2, 2, 2, 2, 3, 3, 3, 3, 3, 3, 3, 4, 4] Q (tephralaw13_merge.k6.st lBase lTerm lEntries es2 x8 y1 Index2 Term1 CmdOp1 CmdClient1 CmdSeq1 CmdKey1 CmdValue1 CmdOld1 H11 x11) = tephralaw13_merge.k6.body J lBase lTerm lEntries es2 x8 y1 Index2 Term1 CmdOp1 CmdClient1 CmdSeq1 CmdKey1 CmdValue1 CmdOld1 H11 x11 Q := by kernel_rfl
theorem tephralaw13_merge.k6.step {lBase : Int} {lTerm : Int} {lEntries : Sl} {es2 : Sl} {x8 : Int} {y1 : Sl} {Index2 : Int} {Term1 : Int} {CmdOp1 : Int} {CmdClient1 : Int} {CmdSeq1 : Int} {CmdKey1 : ByteArray} {CmdValue1 : ByteArray} {CmdOld1 : ByteArray} {H11 : Hp} {x11 : Bool} {Q : Value → Hp → Prop} (h : tephralaw13_merge.k6.body J0 lBase lTerm lEntries es2 x8 y1 Index2 Term1 CmdOp1 CmdClient1 CmdSeq1 CmdKey1 CmdValue1 CmdOld1 H11 x11 Q) : tephralaw13_merge.k6 J0 lBase lTerm lEntries es2 x8 y1 Index2 Term1 CmdOp1 CmdClient1 CmdSeq1 CmdKey1 CmdValue1 CmdOld1 H11 x11 Q := step_of (vSeg Try.prog tephralaw13_merge.cf J0 tephralaw13_merge.fn [1, 1, 1, 1, 1, 0, 1, 0, 0, 1, 1, 0, 0, 1, 1, 1] [0, 2, 2, 2, 2, 3, 3, 3, 3, 3, 3, 3, 4, 4] Q) (tephralaw13_merge.k6.st lBase lTerm lEntries es2 x8 y1 Index2 Term1 CmdOp1 CmdClient1 CmdSeq1 CmdKey1 CmdValue1 CmdOld1 H11 x11) (tephralaw13_merge.k6.eq J0 lBase lTerm lEntries es2 x8 y1 Index2 Term1 CmdOp1 CmdClient1 CmdSeq1 CmdKey1 CmdValue1 CmdOld1 H11 x11 Q) (by kernel_rfl) h
def tephralaw13_merge.vc (J : Jn) (lBase : Int) (lTerm : Int) (lEntries : Sl) (prev : Int) (atv : Int) (es : Sl) (H : Hp) (Q : Value → Hp → Prop) : Prop :=
 
 SCalls Try.prog cmds_Row.id [.slice es.a es.len es.cap, .int .i64 (w64 (prev + 1))] (holes H 2) (fun r H1 => ∃ x : Bool, r = .bool x ∧ 
 Br (!x) (Q (.tuple #[.agg #[.int .i64 lBase, .int .i64 lTerm, .slice lEntries.a lEntries.len lEntries.cap], .bool false]) H1)
 (
 Br (decide (prev < lBase)) (
 tephralaw13_merge.l1 J lBase lTerm lEntries H1 es Q)
 (
 tephralaw13_merge.k3 J lBase lTerm lEntries prev atv es H1 Q)))
theorem tephralaw13_merge.eq (J : Jn) (lBase : Int) (lTerm : Int) (lEntries : Sl) (prev : Int) (atv : Int) (es : Sl) (H : Hp) (Q : Value → Hp → Prop) : vFn Try.prog tephralaw13_merge.cf J tephralaw13_merge.fn [.agg #[.int .i64 lBase, .int .i64 lTerm, .slice lEntries.a lEntries.len lEntries.cap], .int .i64 prev, .int .i64 atv, .slice es.a es.len es.cap] H Q = tephralaw13_merge.vc J lBase lTerm lEntries prev atv es H Q := by kernel_rfl
theorem tephralaw13_merge.calls {lBase : Int} {lTerm : Int} {lEntries : Sl} {prev : Int} {atv : Int} {es : Sl} {H : Hp} {Q : Value → Hp → Prop} (h : tephralaw13_merge.vc J0 lBase lTerm lEntries prev atv es H Q) : SCalls Try.prog tephralaw13_merge.id [.agg #[.int .i64 lBase, .int .i64 lTerm, .slice lEntries.a lEntries.len lEntries.cap], .int .i64 prev, .int .i64 atv, .slice es.a es.len es.cap] H Q := vFn_of Try.mixed Try.func15 (tephralaw13_merge.eq J0 lBase lTerm lEntries prev atv es H Q) h

/-! 16: tephra/tephralaw13.Same -/
def tephralaw13_Same.cf : Cfg := ⟨[2, 3], [(4, [2, 3, 29, 30])], [(2, [2, 3, 26], true)], [(17, [2, 3, 17])]⟩
def tephralaw13_Same.k1.st (aBase : Int) (aTerm : Int) (aEntries : Sl) (bBase : Int) (bTerm : Int) (bEntries : Sl) (H : Hp) (x : Bool) : VS := ⟨mkFr 45 [(2, .loc 0 0), (3, .loc 1 0), (17, .v (.bool x))], [(T_rlog_Log, [.int .i64 aBase, .int .i64 aTerm, .slice aEntries.a aEntries.len aEntries.cap]), (T_rlog_Log, [.int .i64 bBase, .int .i64 bTerm, .slice bEntries.a bEntries.len bEntries.cap])], (holes H 2)⟩
def tephralaw13_Same.k1 (J : Jn) (aBase : Int) (aTerm : Int) (aEntries : Sl) (bBase : Int) (bTerm : Int) (bEntries : Sl) (H : Hp) (x : Bool) (Q : Value → Hp → Prop) : Prop := J (vMid Try.prog tephralaw13_Same.cf J tephralaw13_Same.fn [1, 0, 0] [0, 2, 2] 12 Q) (tephralaw13_Same.k1.st aBase aTerm aEntries bBase bTerm bEntries H x)
def tephralaw13_Same.k2.st (aBase : Int) (aTerm : Int) (aEntries : Sl) (bBase : Int) (bTerm : Int) (bEntries : Sl) (H : Hp) (x1 : Bool) : VS := ⟨mkFr 45 [(2, .loc 0 0), (3, .loc 1 0), (26, .v (.bool x1))], [(T_rlog_Log, [.int .i64 aBase, .int .i64 aTerm, .slice aEntries.a aEntries.len aEntries.cap]), (T_rlog_Log, [.int .i64 bBase, .int .i64 bTerm, .slice bEntries.a bEntries.len bEntries.cap])], (holes H 2)⟩
def tephralaw13_Same.k2 (J : Jn) (aBase : Int) (aTerm : Int) (aEntries : Sl) (bBase : Int) (bTerm : Int) (bEntries : Sl) (H : Hp) (x1 : Bool) (Q : Value → Hp → Prop) : Prop := J (vSeg Try.prog tephralaw13_Same.cf J tephralaw13_Same.fn [1, 0, 1] [0, 2, 2] Q) (tephralaw13_Same.k2.st aBase aTerm aEntries bBase bTerm bEntries H x1)
def tephralaw13_Same.l1.st (aBase : Int) (aTerm : Int) (aEntries : Sl) (bBase : Int) (bTerm : Int) (bEntries : Sl) (H1 : Hp) (x2 : Int) : VS := ⟨mkFr 45 [(2, .loc 0 0), (3, .loc 1 0), (29, .v (.int .i64 ((aEntries.len : Nat) : Int))), (30, .v (.int .i64 x2))], [(T_rlog_Log, [.int .i64 aBase, .int .i64 aTerm, .slice aEntries.a aEntries.len aEntries.cap]), (T_rlog_Log, [.int .i64 bBase, .int .i64 bTerm, .slice bEntries.a bEntries.len bEntries.cap])], H1⟩
def tephralaw13_Same.l1 (J : Jn) (aBase : Int) (aTerm : Int) (aEntries : Sl) (bBase : Int) (bTerm : Int) (bEntries : Sl) (H1 : Hp) (x2 : Int) (Q : Value → Hp → Prop) : Prop := vAt Try.prog tephralaw13_Same.cf J tephralaw13_Same.fn [1, 1, 0, 1, 0] [0, 2, 2, 2] Q (tephralaw13_Same.l1.st aBase aTerm aEntries bBase bTerm bEntries H1 x2)
attribute [irreducible] tephralaw13_Same.k1 tephralaw13_Same.k2 tephralaw13_Same.l1
def tephralaw13_Same.k1.body (J : Jn) (aBase : Int) (aTerm : Int) (aEntries : Sl) (bBase : Int) (bTerm : Int) (bEntries : Sl) (H : Hp) (x : Bool) (Q : Value → Hp → Prop) : Prop :=
 
 Br x (
 tephralaw13_Same.k2 J aBase aTerm aEntries bBase bTerm bEntries H true Q)
 (
 tephralaw13_Same.k2 J aBase aTerm aEntries bBase bTerm bEntries H (((aEntries.len : Nat) : Int) != ((bEntries.len : Nat) : Int)) Q)
theorem tephralaw13_Same.k1.eq (J : Jn) (aBase : Int) (aTerm : Int) (aEntries : Sl) (bBase : Int) (bTerm : Int) (bEntries : Sl) (H : Hp) (x : Bool) (Q : Value → Hp → Prop) : vMid Try.prog tephralaw13_Same.cf J tephralaw13_Same.fn [1, 0, 0] [0, 2, 2] 12 Q (tephralaw13_Same.k1.st aBase aTerm aEntries bBase bTerm bEntries H x) = tephralaw13_Same.k1.body J aBase aTerm aEntries bBase bTerm bEntries H x Q := by kernel_rfl
theorem tephralaw13_Same.k1.step {aBase : Int} {aTerm : Int} {aEntries : Sl} {bBase : Int} {bTerm : Int} {bEntries : Sl} {H : Hp} {x : Bool} {Q : Value → Hp → Prop} (h : tephralaw13_Same.k1.body J0 aBase aTerm aEntries bBase bTerm bEntries H x Q) : tephralaw13_Same.k1 J0 aBase aTerm aEntries bBase bTerm bEntries H x Q := step_of (vMid Try.prog tephralaw13_Same.cf J0 tephralaw13_Same.fn [1, 0, 0] [0, 2, 2] 12 Q) (tephralaw13_Same.k1.st aBase aTerm aEntries bBase bTerm bEntries H x) (tephralaw13_Same.k1.eq J0 aBase aTerm aEntries bBase bTerm bEntries H x Q) (by kernel_rfl) h
def tephralaw13_Same.k2.body (J : Jn) (aBase : Int) (aTerm : Int) (aEntries : Sl) (bBase : Int) (bTerm : Int) (bEntries : Sl) (H : Hp) (x1 : Bool) (Q : Value → Hp → Prop) : Prop :=
 
 Br x1 (Q (.bool false) (holes H 2))
 (
 tephralaw13_Same.l1 J aBase aTerm aEntries bBase bTerm bEntries (holes H 2) 0 Q)
theorem tephralaw13_Same.k2.eq (J : Jn) (aBase : Int) (aTerm : Int) (aEntries : Sl) (bBase : Int) (bTerm : Int) (bEntries : Sl) (H : Hp) (x1 : Bool) (Q : Value → Hp → Prop) : vSeg Try.prog tephralaw13_Same.cf J tephralaw13_Same.fn [1, 0, 1] [0, 2, 2] Q (tephralaw13_Same.k2.st aBase aTerm aEntries bBase bTerm bEntries H x1) = tephralaw13_Same.k2.body J aBase aTerm aEntries bBase bTerm bEntries H x1 Q := by kernel_rfl
theorem tephralaw13_Same.k2.step {aBase : Int} {aTerm : Int} {aEntries : Sl} {bBase : Int} {bTerm : Int} {bEntries : Sl} {H : Hp} {x1 : Bool} {Q : Value → Hp → Prop} (h : tephralaw13_Same.k2.body J0 aBase aTerm aEntries bBase bTerm bEntries H x1 Q) : tephralaw13_Same.k2 J0 aBase aTerm aEntries bBase bTerm bEntries H x1 Q := step_of (vSeg Try.prog tephralaw13_Same.cf J0 tephralaw13_Same.fn [1, 0, 1] [0, 2, 2] Q) (tephralaw13_Same.k2.st aBase aTerm aEntries bBase bTerm bEntries H x1) (tephralaw13_Same.k2.eq J0 aBase aTerm aEntries bBase bTerm bEntries H x1 Q) (by kernel_rfl) h
def tephralaw13_Same.l1.body (J : Jn) (aBase : Int) (aTerm : Int) (aEntries : Sl) (bBase : Int) (bTerm : Int) (bEntries : Sl) (H1 : Hp) (x2 : Int) (Q : Value → Hp → Prop) : Prop :=
 
 Br (decide (x2 < ((aEntries.len : Nat) : Int))) (((0 : Int) ≤ x2 ∧ x2 < ((aEntries.len : Nat) : Int)) ∧ vPtr aEntries.a (fun a => ∃ Index : Int, ∃ Term : Int, ∃ CmdOp : Int, ∃ CmdClient : Int, ∃ CmdSeq : Int, ∃ CmdKey : ByteArray, ∃ CmdValue : ByteArray, ∃ CmdOld : ByteArray, RowAt H1 (a.add ((x2 : Int).toNat * 8)) [.int .i64 Index, .int .i64 Term, .int .i64 CmdOp, .int .i64 CmdClient, .int .i64 CmdSeq, .string CmdKey, .string CmdValue, .string CmdOld] ∧ ((0 : Int) ≤ x2 ∧ x2 < ((bEntries.len : Nat) : Int)) ∧ vPtr bEntries.a (fun a1 => ∃ Index1 : Int, ∃ Term1 : Int, ∃ CmdOp1 : Int, ∃ CmdClient1 : Int, ∃ CmdSeq1 : Int, ∃ CmdKey1 : ByteArray, ∃ CmdValue1 : ByteArray, ∃ CmdOld1 : ByteArray, RowAt H1 (a1.add ((x2 : Int).toNat * 8)) [.int .i64 Index1, .int .i64 Term1, .int .i64 CmdOp1, .int .i64 CmdClient1, .int .i64 CmdSeq1, .string CmdKey1, .string CmdValue1, .string CmdOld1] ∧ 
 Br (!((Index == Index1) && ((Term == Term1) && (((CmdOp == CmdOp1) && ((CmdClient == CmdClient1) && ((CmdSeq == CmdSeq1) && ((CmdKey == CmdKey1) && ((CmdValue == CmdValue1) && ((CmdOld == CmdOld1) && true)))))) && true)))) (Q (.bool false) H1)
 (
 tephralaw13_Same.l1 J aBase aTerm aEntries bBase bTerm bEntries H1 (w64 (x2 + 1)) Q))))
 (Q (.bool true) H1)
theorem tephralaw13_Same.l1.eq (J : Jn) (aBase : Int) (aTerm : Int) (aEntries : Sl) (bBase : Int) (bTerm : Int) (bEntries : Sl) (H1 : Hp) (x2 : Int) (Q : Value → Hp → Prop) : vAtBody Try.prog tephralaw13_Same.cf J tephralaw13_Same.fn [1, 1, 0, 1, 0] [0, 2, 2, 2] Q (tephralaw13_Same.l1.st aBase aTerm aEntries bBase bTerm bEntries H1 x2) = tephralaw13_Same.l1.body J aBase aTerm aEntries bBase bTerm bEntries H1 x2 Q := by kernel_rfl
theorem tephralaw13_Same.l1.step {aBase : Int} {aTerm : Int} {aEntries : Sl} {bBase : Int} {bTerm : Int} {bEntries : Sl} {H1 : Hp} {x2 : Int} {Q : Value → Hp → Prop} (h : tephralaw13_Same.l1.body J0 aBase aTerm aEntries bBase bTerm bEntries H1 x2 Q) : tephralaw13_Same.l1 J0 aBase aTerm aEntries bBase bTerm bEntries H1 x2 Q := vAt_stepC (tephralaw13_Same.l1.st aBase aTerm aEntries bBase bTerm bEntries H1 x2) (tephralaw13_Same.l1.eq J0 aBase aTerm aEntries bBase bTerm bEntries H1 x2 Q) (by kernel_rfl) h
def tephralaw13_Same.vc (J : Jn) (aBase : Int) (aTerm : Int) (aEntries : Sl) (bBase : Int) (bTerm : Int) (bEntries : Sl) (H : Hp) (Q : Value → Hp → Prop) : Prop :=
 
 Br (aBase != bBase) (
 tephralaw13_Same.k1 J aBase aTerm aEntries bBase bTerm bEntries H true Q)
 (
 tephralaw13_Same.k1 J aBase aTerm aEntries bBase bTerm bEntries H (aTerm != bTerm) Q)
theorem tephralaw13_Same.eq (J : Jn) (aBase : Int) (aTerm : Int) (aEntries : Sl) (bBase : Int) (bTerm : Int) (bEntries : Sl) (H : Hp) (Q : Value → Hp → Prop) : vFn Try.prog tephralaw13_Same.cf J tephralaw13_Same.fn [.agg #[.int .i64 aBase, .int .i64 aTerm, .slice aEntries.a aEntries.len aEntries.cap], .agg #[.int .i64 bBase, .int .i64 bTerm, .slice bEntries.a bEntries.len bEntries.cap]] H Q = tephralaw13_Same.vc J aBase aTerm aEntries bBase bTerm bEntries H Q := by kernel_rfl
theorem tephralaw13_Same.calls {aBase : Int} {aTerm : Int} {aEntries : Sl} {bBase : Int} {bTerm : Int} {bEntries : Sl} {H : Hp} {Q : Value → Hp → Prop} (h : tephralaw13_Same.vc J0 aBase aTerm aEntries bBase bTerm bEntries H Q) : SCalls Try.prog tephralaw13_Same.id [.agg #[.int .i64 aBase, .int .i64 aTerm, .slice aEntries.a aEntries.len aEntries.cap], .agg #[.int .i64 bBase, .int .i64 bTerm, .slice bEntries.a bEntries.len bEntries.cap]] H Q := vFn_of Try.mixed Try.func16 (tephralaw13_Same.eq J0 aBase aTerm aEntries bBase bTerm bEntries H Q) h

/-! 17: (tephra/rlog.Log).Newer -/
def rlog_Log_Newer.cf : Cfg := ⟨[3], [], [], []⟩
def rlog_Log_Newer.vc (J : Jn) (lBase : Int) (lTerm : Int) (lEntries : Sl) (index : Int) (term : Int) (H : Hp) (Q : Value → Hp → Prop) : Prop :=
 
 SCalls Try.prog rlog_Log_LastTerm.id [.agg #[.int .i64 lBase, .int .i64 lTerm, .slice lEntries.a lEntries.len lEntries.cap]] (holes H 1) (fun r H1 => ∃ x : Int, r = .int .i64 x ∧ 
 Br (decide (term > x)) (Q (.bool true) H1)
 (
 SCalls Try.prog rlog_Log_LastTerm.id [.agg #[.int .i64 lBase, .int .i64 lTerm, .slice lEntries.a lEntries.len lEntries.cap]] H1 (fun r1 H2 => ∃ x1 : Int, r1 = .int .i64 x1 ∧ 
 Br (term == x1) (
 SCalls Try.prog rlog_Log_Last.id [.agg #[.int .i64 lBase, .int .i64 lTerm, .slice lEntries.a lEntries.len lEntries.cap]] H2 (fun r2 H3 => ∃ x2 : Int, r2 = .int .i64 x2 ∧ Q (.bool (decide (index ≥ x2))) H3))
 (Q (.bool false) H2))))
theorem rlog_Log_Newer.eq (J : Jn) (lBase : Int) (lTerm : Int) (lEntries : Sl) (index : Int) (term : Int) (H : Hp) (Q : Value → Hp → Prop) : vFn Try.prog rlog_Log_Newer.cf J rlog_Log_Newer.fn [.agg #[.int .i64 lBase, .int .i64 lTerm, .slice lEntries.a lEntries.len lEntries.cap], .int .i64 index, .int .i64 term] H Q = rlog_Log_Newer.vc J lBase lTerm lEntries index term H Q := by kernel_rfl
theorem rlog_Log_Newer.calls {lBase : Int} {lTerm : Int} {lEntries : Sl} {index : Int} {term : Int} {H : Hp} {Q : Value → Hp → Prop} (h : rlog_Log_Newer.vc J0 lBase lTerm lEntries index term H Q) : SCalls Try.prog rlog_Log_Newer.id [.agg #[.int .i64 lBase, .int .i64 lTerm, .slice lEntries.a lEntries.len lEntries.cap], .int .i64 index, .int .i64 term] H Q := vFn_of Try.mixed Try.func17 (rlog_Log_Newer.eq J0 lBase lTerm lEntries index term H Q) h

/-! 18: (tephra/rlog.Log).Last -/
def rlog_Log_Last.cf : Cfg := ⟨[1], [], [], []⟩
def rlog_Log_Last.vc (J : Jn) (lBase : Int) (lTerm : Int) (lEntries : Sl) (H : Hp) (Q : Value → Hp → Prop) : Prop :=
 Q (.int .i64 (w64 (lBase + ((lEntries.len : Nat) : Int)))) (holes H 1)
theorem rlog_Log_Last.eq (J : Jn) (lBase : Int) (lTerm : Int) (lEntries : Sl) (H : Hp) (Q : Value → Hp → Prop) : vFn Try.prog rlog_Log_Last.cf J rlog_Log_Last.fn [.agg #[.int .i64 lBase, .int .i64 lTerm, .slice lEntries.a lEntries.len lEntries.cap]] H Q = rlog_Log_Last.vc J lBase lTerm lEntries H Q := by kernel_rfl
theorem rlog_Log_Last.calls {lBase : Int} {lTerm : Int} {lEntries : Sl} {H : Hp} {Q : Value → Hp → Prop} (h : rlog_Log_Last.vc J0 lBase lTerm lEntries H Q) : SCalls Try.prog rlog_Log_Last.id [.agg #[.int .i64 lBase, .int .i64 lTerm, .slice lEntries.a lEntries.len lEntries.cap]] H Q := vFn_of Try.mixed Try.func18 (rlog_Log_Last.eq J0 lBase lTerm lEntries H Q) h

/-! 19: (tephra/rlog.Log).LastTerm -/
def rlog_Log_LastTerm.cf : Cfg := ⟨[1], [], [], []⟩
def rlog_Log_LastTerm.vc (J : Jn) (lBase : Int) (lTerm : Int) (lEntries : Sl) (H : Hp) (Q : Value → Hp → Prop) : Prop :=
 
 SCalls Try.prog rlog_Log_Last.id [.agg #[.int .i64 lBase, .int .i64 lTerm, .slice lEntries.a lEntries.len lEntries.cap]] (holes H 1) (fun r H1 => ∃ x : Int, r = .int .i64 x ∧ 
 SCalls Try.prog rlog_Log_TermAt.id [.agg #[.int .i64 lBase, .int .i64 lTerm, .slice lEntries.a lEntries.len lEntries.cap], .int .i64 x] H1 (fun r1 H2 => ∃ x1 : Int, ∃ x2 : Bool, r1 = .tuple #[.int .i64 x1, .bool x2] ∧ Q (.int .i64 x1) H2))
theorem rlog_Log_LastTerm.eq (J : Jn) (lBase : Int) (lTerm : Int) (lEntries : Sl) (H : Hp) (Q : Value → Hp → Prop) : vFn Try.prog rlog_Log_LastTerm.cf J rlog_Log_LastTerm.fn [.agg #[.int .i64 lBase, .int .i64 lTerm, .slice lEntries.a lEntries.len lEntries.cap]] H Q = rlog_Log_LastTerm.vc J lBase lTerm lEntries H Q := by kernel_rfl
theorem rlog_Log_LastTerm.calls {lBase : Int} {lTerm : Int} {lEntries : Sl} {H : Hp} {Q : Value → Hp → Prop} (h : rlog_Log_LastTerm.vc J0 lBase lTerm lEntries H Q) : SCalls Try.prog rlog_Log_LastTerm.id [.agg #[.int .i64 lBase, .int .i64 lTerm, .slice lEntries.a lEntries.len lEntries.cap]] H Q := vFn_of Try.mixed Try.func19 (rlog_Log_LastTerm.eq J0 lBase lTerm lEntries H Q) h

/-! 20: tephra/rlog.Right -/
def rlog_Right.cf : Cfg := ⟨[1], [], [], []⟩
def rlog_Right.vc (J : Jn) (lBase : Int) (lTerm : Int) (lEntries : Sl) (H : Hp) (Q : Value → Hp → Prop) : Prop :=
 
 Br (decide (lBase ≥ 0)) (
 Br (decide (lTerm ≥ 0)) (
 SCalls Try.prog cmds_Row.id [.slice lEntries.a lEntries.len lEntries.cap, .int .i64 (w64 (lBase + 1))] (holes H 1) (fun r H1 => ∃ x : Bool, r = .bool x ∧ 
 Br x (
 Br (((lEntries.len : Nat) : Int) == 0) (Q (.bool true) H1)
 (((0 : Int) ≤ 0 ∧ (0 : Int) < ((lEntries.len : Nat) : Int)) ∧ vPtr lEntries.a (fun a => ∃ Term : Int, Hp.cell? H1 (a.add 1) = some (.int .i64 Term) ∧ Q (.bool (decide (Term ≥ lTerm))) H1)))
 (Q (.bool false) H1)))
 (Q (.bool false) (holes H 1)))
 (Q (.bool false) (holes H 1))
theorem rlog_Right.eq (J : Jn) (lBase : Int) (lTerm : Int) (lEntries : Sl) (H : Hp) (Q : Value → Hp → Prop) : vFn Try.prog rlog_Right.cf J rlog_Right.fn [.agg #[.int .i64 lBase, .int .i64 lTerm, .slice lEntries.a lEntries.len lEntries.cap]] H Q = rlog_Right.vc J lBase lTerm lEntries H Q := by kernel_rfl
theorem rlog_Right.calls {lBase : Int} {lTerm : Int} {lEntries : Sl} {H : Hp} {Q : Value → Hp → Prop} (h : rlog_Right.vc J0 lBase lTerm lEntries H Q) : SCalls Try.prog rlog_Right.id [.agg #[.int .i64 lBase, .int .i64 lTerm, .slice lEntries.a lEntries.len lEntries.cap]] H Q := vFn_of Try.mixed Try.func20 (rlog_Right.eq J0 lBase lTerm lEntries H Q) h

/-! 21: (tephra/rlog.Log).Clone -/
def rlog_Log_Clone.cf : Cfg := ⟨[1, 2], [], [], []⟩
def rlog_Log_Clone.vc (J : Jn) (lBase : Int) (lTerm : Int) (lEntries : Sl) (H : Hp) (Q : Value → Hp → Prop) : Prop :=
 
 SCalls Try.prog slices_Clone_sl_api_Entry_api_Entry.id [.slice lEntries.a lEntries.len lEntries.cap] (holes H 2) (fun r H1 => ∃ x : Sl, r = .slice x.a x.len x.cap ∧ Q (.agg #[.int .i64 lBase, .int .i64 lTerm, .slice x.a x.len x.cap]) H1)
theorem rlog_Log_Clone.eq (J : Jn) (lBase : Int) (lTerm : Int) (lEntries : Sl) (H : Hp) (Q : Value → Hp → Prop) : vFn Try.prog rlog_Log_Clone.cf J rlog_Log_Clone.fn [.agg #[.int .i64 lBase, .int .i64 lTerm, .slice lEntries.a lEntries.len lEntries.cap]] H Q = rlog_Log_Clone.vc J lBase lTerm lEntries H Q := by kernel_rfl
theorem rlog_Log_Clone.calls {lBase : Int} {lTerm : Int} {lEntries : Sl} {H : Hp} {Q : Value → Hp → Prop} (h : rlog_Log_Clone.vc J0 lBase lTerm lEntries H Q) : SCalls Try.prog rlog_Log_Clone.id [.agg #[.int .i64 lBase, .int .i64 lTerm, .slice lEntries.a lEntries.len lEntries.cap]] H Q := vFn_of Try.mixed Try.func21 (rlog_Log_Clone.eq J0 lBase lTerm lEntries H Q) h

/-! 22: tephra/cmds.Right -/
def cmds_Right.cf : Cfg := ⟨[1], [], [], [(10, [1, 10]), (15, [1, 15]), (20, [1, 20])]⟩
def cmds_Right.k1.st (eIndex : Int) (eTerm : Int) (eCmdOp : Int) (eCmdClient : Int) (eCmdSeq : Int) (eCmdKey : ByteArray) (eCmdValue : ByteArray) (eCmdOld : ByteArray) (H : Hp) (x : Bool) : VS := ⟨mkFr 26 [(1, .loc 0 0), (10, .v (.bool x))], [(T_api_Entry, [.int .i64 eIndex, .int .i64 eTerm, .int .i64 eCmdOp, .int .i64 eCmdClient, .int .i64 eCmdSeq, .string eCmdKey, .string eCmdValue, .string eCmdOld])], (holes H 1)⟩
def cmds_Right.k1 (J : Jn) (eIndex : Int) (eTerm : Int) (eCmdOp : Int) (eCmdClient : Int) (eCmdSeq : Int) (eCmdKey : ByteArray) (eCmdValue : ByteArray) (eCmdOld : ByteArray) (H : Hp) (x : Bool) (Q : Value → Hp → Prop) : Prop := J (vMid Try.prog cmds_Right.cf J cmds_Right.fn [1, 0] [0, 1] 8 Q) (cmds_Right.k1.st eIndex eTerm eCmdOp eCmdClient eCmdSeq eCmdKey eCmdValue eCmdOld H x)
def cmds_Right.k2.st (eIndex : Int) (eTerm : Int) (eCmdOp : Int) (eCmdClient : Int) (eCmdSeq : Int) (eCmdKey : ByteArray) (eCmdValue : ByteArray) (eCmdOld : ByteArray) (H : Hp) (x1 : Bool) : VS := ⟨mkFr 26 [(1, .loc 0 0), (15, .v (.bool x1))], [(T_api_Entry, [.int .i64 eIndex, .int .i64 eTerm, .int .i64 eCmdOp, .int .i64 eCmdClient, .int .i64 eCmdSeq, .string eCmdKey, .string eCmdValue, .string eCmdOld])], (holes H 1)⟩
def cmds_Right.k2 (J : Jn) (eIndex : Int) (eTerm : Int) (eCmdOp : Int) (eCmdClient : Int) (eCmdSeq : Int) (eCmdKey : ByteArray) (eCmdValue : ByteArray) (eCmdOld : ByteArray) (H : Hp) (x1 : Bool) (Q : Value → Hp → Prop) : Prop := J (vMid Try.prog cmds_Right.cf J cmds_Right.fn [1, 0] [0, 1] 13 Q) (cmds_Right.k2.st eIndex eTerm eCmdOp eCmdClient eCmdSeq eCmdKey eCmdValue eCmdOld H x1)
def cmds_Right.k3.st (eIndex : Int) (eTerm : Int) (eCmdOp : Int) (eCmdClient : Int) (eCmdSeq : Int) (eCmdKey : ByteArray) (eCmdValue : ByteArray) (eCmdOld : ByteArray) (H : Hp) (x2 : Bool) : VS := ⟨mkFr 26 [(1, .loc 0 0), (20, .v (.bool x2))], [(T_api_Entry, [.int .i64 eIndex, .int .i64 eTerm, .int .i64 eCmdOp, .int .i64 eCmdClient, .int .i64 eCmdSeq, .string eCmdKey, .string eCmdValue, .string eCmdOld])], (holes H 1)⟩
def cmds_Right.k3 (J : Jn) (eIndex : Int) (eTerm : Int) (eCmdOp : Int) (eCmdClient : Int) (eCmdSeq : Int) (eCmdKey : ByteArray) (eCmdValue : ByteArray) (eCmdOld : ByteArray) (H : Hp) (x2 : Bool) (Q : Value → Hp → Prop) : Prop := J (vMid Try.prog cmds_Right.cf J cmds_Right.fn [1, 0] [0, 1] 18 Q) (cmds_Right.k3.st eIndex eTerm eCmdOp eCmdClient eCmdSeq eCmdKey eCmdValue eCmdOld H x2)
attribute [irreducible] cmds_Right.k1 cmds_Right.k2 cmds_Right.k3
def cmds_Right.k1.body (J : Jn) (eIndex : Int) (eTerm : Int) (eCmdOp : Int) (eCmdClient : Int) (eCmdSeq : Int) (eCmdKey : ByteArray) (eCmdValue : ByteArray) (eCmdOld : ByteArray) (H : Hp) (x : Bool) (Q : Value → Hp → Prop) : Prop :=
 
 Br x (
 cmds_Right.k2 J eIndex eTerm eCmdOp eCmdClient eCmdSeq eCmdKey eCmdValue eCmdOld H (decide (eTerm ≥ 0)) Q)
 (
 cmds_Right.k2 J eIndex eTerm eCmdOp eCmdClient eCmdSeq eCmdKey eCmdValue eCmdOld H false Q)
theorem cmds_Right.k1.eq (J : Jn) (eIndex : Int) (eTerm : Int) (eCmdOp : Int) (eCmdClient : Int) (eCmdSeq : Int) (eCmdKey : ByteArray) (eCmdValue : ByteArray) (eCmdOld : ByteArray) (H : Hp) (x : Bool) (Q : Value → Hp → Prop) : vMid Try.prog cmds_Right.cf J cmds_Right.fn [1, 0] [0, 1] 8 Q (cmds_Right.k1.st eIndex eTerm eCmdOp eCmdClient eCmdSeq eCmdKey eCmdValue eCmdOld H x) = cmds_Right.k1.body J eIndex eTerm eCmdOp eCmdClient eCmdSeq eCmdKey eCmdValue eCmdOld H x Q := by kernel_rfl
theorem cmds_Right.k1.step {eIndex : Int} {eTerm : Int} {eCmdOp : Int} {eCmdClient : Int} {eCmdSeq : Int} {eCmdKey : ByteArray} {eCmdValue : ByteArray} {eCmdOld : ByteArray} {H : Hp} {x : Bool} {Q : Value → Hp → Prop} (h : cmds_Right.k1.body J0 eIndex eTerm eCmdOp eCmdClient eCmdSeq eCmdKey eCmdValue eCmdOld H x Q) : cmds_Right.k1 J0 eIndex eTerm eCmdOp eCmdClient eCmdSeq eCmdKey eCmdValue eCmdOld H x Q := step_of (vMid Try.prog cmds_Right.cf J0 cmds_Right.fn [1, 0] [0, 1] 8 Q) (cmds_Right.k1.st eIndex eTerm eCmdOp eCmdClient eCmdSeq eCmdKey eCmdValue eCmdOld H x) (cmds_Right.k1.eq J0 eIndex eTerm eCmdOp eCmdClient eCmdSeq eCmdKey eCmdValue eCmdOld H x Q) (by kernel_rfl) h
def cmds_Right.k2.body (J : Jn) (eIndex : Int) (eTerm : Int) (eCmdOp : Int) (eCmdClient : Int) (eCmdSeq : Int) (eCmdKey : ByteArray) (eCmdValue : ByteArray) (eCmdOld : ByteArray) (H : Hp) (x1 : Bool) (Q : Value → Hp → Prop) : Prop :=
 
 Br x1 (
 cmds_Right.k3 J eIndex eTerm eCmdOp eCmdClient eCmdSeq eCmdKey eCmdValue eCmdOld H (decide (eTerm ≤ 1048576)) Q)
 (
 cmds_Right.k3 J eIndex eTerm eCmdOp eCmdClient eCmdSeq eCmdKey eCmdValue eCmdOld H false Q)
theorem cmds_Right.k2.eq (J : Jn) (eIndex : Int) (eTerm : Int) (eCmdOp : Int) (eCmdClient : Int) (eCmdSeq : Int) (eCmdKey : ByteArray) (eCmdValue : ByteArray) (eCmdOld : ByteArray) (H : Hp) (x1 : Bool) (Q : Value → Hp → Prop) : vMid Try.prog cmds_Right.cf J cmds_Right.fn [1, 0] [0, 1] 13 Q (cmds_Right.k2.st eIndex eTerm eCmdOp eCmdClient eCmdSeq eCmdKey eCmdValue eCmdOld H x1) = cmds_Right.k2.body J eIndex eTerm eCmdOp eCmdClient eCmdSeq eCmdKey eCmdValue eCmdOld H x1 Q := by kernel_rfl
theorem cmds_Right.k2.step {eIndex : Int} {eTerm : Int} {eCmdOp : Int} {eCmdClient : Int} {eCmdSeq : Int} {eCmdKey : ByteArray} {eCmdValue : ByteArray} {eCmdOld : ByteArray} {H : Hp} {x1 : Bool} {Q : Value → Hp → Prop} (h : cmds_Right.k2.body J0 eIndex eTerm eCmdOp eCmdClient eCmdSeq eCmdKey eCmdValue eCmdOld H x1 Q) : cmds_Right.k2 J0 eIndex eTerm eCmdOp eCmdClient eCmdSeq eCmdKey eCmdValue eCmdOld H x1 Q := step_of (vMid Try.prog cmds_Right.cf J0 cmds_Right.fn [1, 0] [0, 1] 13 Q) (cmds_Right.k2.st eIndex eTerm eCmdOp eCmdClient eCmdSeq eCmdKey eCmdValue eCmdOld H x1) (cmds_Right.k2.eq J0 eIndex eTerm eCmdOp eCmdClient eCmdSeq eCmdKey eCmdValue eCmdOld H x1 Q) (by kernel_rfl) h
def cmds_Right.k3.body (J : Jn) (eIndex : Int) (eTerm : Int) (eCmdOp : Int) (eCmdClient : Int) (eCmdSeq : Int) (eCmdKey : ByteArray) (eCmdValue : ByteArray) (eCmdOld : ByteArray) (H : Hp) (x2 : Bool) (Q : Value → Hp → Prop) : Prop :=
 
 Br x2 (
 SCalls Try.prog cmds_May.id [.agg #[.int .i64 eCmdOp, .int .i64 eCmdClient, .int .i64 eCmdSeq, .string eCmdKey, .string eCmdValue, .string eCmdOld]] (holes H 1) (fun r H1 => ∃ x3 : Bool, r = .bool x3 ∧ Q (.bool x3) H1))
 (Q (.bool false) (holes H 1))
theorem cmds_Right.k3.eq (J : Jn) (eIndex : Int) (eTerm : Int) (eCmdOp : Int) (eCmdClient : Int) (eCmdSeq : Int) (eCmdKey : ByteArray) (eCmdValue : ByteArray) (eCmdOld : ByteArray) (H : Hp) (x2 : Bool) (Q : Value → Hp → Prop) : vMid Try.prog cmds_Right.cf J cmds_Right.fn [1, 0] [0, 1] 18 Q (cmds_Right.k3.st eIndex eTerm eCmdOp eCmdClient eCmdSeq eCmdKey eCmdValue eCmdOld H x2) = cmds_Right.k3.body J eIndex eTerm eCmdOp eCmdClient eCmdSeq eCmdKey eCmdValue eCmdOld H x2 Q := by kernel_rfl
theorem cmds_Right.k3.step {eIndex : Int} {eTerm : Int} {eCmdOp : Int} {eCmdClient : Int} {eCmdSeq : Int} {eCmdKey : ByteArray} {eCmdValue : ByteArray} {eCmdOld : ByteArray} {H : Hp} {x2 : Bool} {Q : Value → Hp → Prop} (h : cmds_Right.k3.body J0 eIndex eTerm eCmdOp eCmdClient eCmdSeq eCmdKey eCmdValue eCmdOld H x2 Q) : cmds_Right.k3 J0 eIndex eTerm eCmdOp eCmdClient eCmdSeq eCmdKey eCmdValue eCmdOld H x2 Q := step_of (vMid Try.prog cmds_Right.cf J0 cmds_Right.fn [1, 0] [0, 1] 18 Q) (cmds_Right.k3.st eIndex eTerm eCmdOp eCmdClient eCmdSeq eCmdKey eCmdValue eCmdOld H x2) (cmds_Right.k3.eq J0 eIndex eTerm eCmdOp eCmdClient eCmdSeq eCmdKey eCmdValue eCmdOld H x2 Q) (by kernel_rfl) h
def cmds_Right.vc (J : Jn) (eIndex : Int) (eTerm : Int) (eCmdOp : Int) (eCmdClient : Int) (eCmdSeq : Int) (eCmdKey : ByteArray) (eCmdValue : ByteArray) (eCmdOld : ByteArray) (H : Hp) (Q : Value → Hp → Prop) : Prop :=
 
 Br (decide (eIndex ≥ 1)) (
 cmds_Right.k1 J eIndex eTerm eCmdOp eCmdClient eCmdSeq eCmdKey eCmdValue eCmdOld H (decide (eIndex ≤ 1048576)) Q)
 (
 cmds_Right.k1 J eIndex eTerm eCmdOp eCmdClient eCmdSeq eCmdKey eCmdValue eCmdOld H false Q)
theorem cmds_Right.eq (J : Jn) (eIndex : Int) (eTerm : Int) (eCmdOp : Int) (eCmdClient : Int) (eCmdSeq : Int) (eCmdKey : ByteArray) (eCmdValue : ByteArray) (eCmdOld : ByteArray) (H : Hp) (Q : Value → Hp → Prop) : vFn Try.prog cmds_Right.cf J cmds_Right.fn [.agg #[.int .i64 eIndex, .int .i64 eTerm, .int .i64 eCmdOp, .int .i64 eCmdClient, .int .i64 eCmdSeq, .string eCmdKey, .string eCmdValue, .string eCmdOld]] H Q = cmds_Right.vc J eIndex eTerm eCmdOp eCmdClient eCmdSeq eCmdKey eCmdValue eCmdOld H Q := by kernel_rfl
theorem cmds_Right.calls {eIndex : Int} {eTerm : Int} {eCmdOp : Int} {eCmdClient : Int} {eCmdSeq : Int} {eCmdKey : ByteArray} {eCmdValue : ByteArray} {eCmdOld : ByteArray} {H : Hp} {Q : Value → Hp → Prop} (h : cmds_Right.vc J0 eIndex eTerm eCmdOp eCmdClient eCmdSeq eCmdKey eCmdValue eCmdOld H Q) : SCalls Try.prog cmds_Right.id [.agg #[.int .i64 eIndex, .int .i64 eTerm, .int .i64 eCmdOp, .int .i64 eCmdClient, .int .i64 eCmdSeq, .string eCmdKey, .string eCmdValue, .string eCmdOld]] H Q := vFn_of Try.mixed Try.func22 (cmds_Right.eq J0 eIndex eTerm eCmdOp eCmdClient eCmdSeq eCmdKey eCmdValue eCmdOld H Q) h

/-! 23: (tephra/rlog.Log).TermAt -/
def rlog_Log_TermAt.cf : Cfg := ⟨[2], [], [(4, [1, 2, 13], true)], []⟩
def rlog_Log_TermAt.k1.st (lBase : Int) (lTerm : Int) (lEntries : Sl) (i : Int) (x1 : Bool) (H2 : Hp) : VS := ⟨mkFr 34 [(1, .v (.int .i64 i)), (2, .loc 0 0), (13, .v (.bool x1))], [(T_rlog_Log, [.int .i64 lBase, .int .i64 lTerm, .slice lEntries.a lEntries.len lEntries.cap])], H2⟩
def rlog_Log_TermAt.k1 (J : Jn) (lBase : Int) (lTerm : Int) (lEntries : Sl) (i : Int) (x1 : Bool) (H2 : Hp) (Q : Value → Hp → Prop) : Prop := J (vSeg Try.prog rlog_Log_TermAt.cf J rlog_Log_TermAt.fn [1, 0, 0, 1, 1, 1] [0, 1, 1, 1] Q) (rlog_Log_TermAt.k1.st lBase lTerm lEntries i x1 H2)
attribute [irreducible] rlog_Log_TermAt.k1
def rlog_Log_TermAt.k1.body (J : Jn) (lBase : Int) (lTerm : Int) (lEntries : Sl) (i : Int) (x1 : Bool) (H2 : Hp) (Q : Value → Hp → Prop) : Prop :=
 
 Br x1 (Q (.tuple #[.int .i64 0, .bool false]) H2)
 (((0 : Int) ≤ (w64 ((w64 (i - lBase)) - 1)) ∧ (w64 ((w64 (i - lBase)) - 1)) < ((lEntries.len : Nat) : Int)) ∧ vPtr lEntries.a (fun a => ∃ Term : Int, Hp.cell? H2 ((a.add (((w64 ((w64 (i - lBase)) - 1)) : Int).toNat * 8)).add 1) = some (.int .i64 Term) ∧ Q (.tuple #[.int .i64 Term, .bool true]) H2))
theorem rlog_Log_TermAt.k1.eq (J : Jn) (lBase : Int) (lTerm : Int) (lEntries : Sl) (i : Int) (x1 : Bool) (H2 : Hp) (Q : Value → Hp → Prop) : vSeg Try.prog rlog_Log_TermAt.cf J rlog_Log_TermAt.fn [1, 0, 0, 1, 1, 1] [0, 1, 1, 1] Q (rlog_Log_TermAt.k1.st lBase lTerm lEntries i x1 H2) = rlog_Log_TermAt.k1.body J lBase lTerm lEntries i x1 H2 Q := by kernel_rfl
theorem rlog_Log_TermAt.k1.step {lBase : Int} {lTerm : Int} {lEntries : Sl} {i : Int} {x1 : Bool} {H2 : Hp} {Q : Value → Hp → Prop} (h : rlog_Log_TermAt.k1.body J0 lBase lTerm lEntries i x1 H2 Q) : rlog_Log_TermAt.k1 J0 lBase lTerm lEntries i x1 H2 Q := step_of (vSeg Try.prog rlog_Log_TermAt.cf J0 rlog_Log_TermAt.fn [1, 0, 0, 1, 1, 1] [0, 1, 1, 1] Q) (rlog_Log_TermAt.k1.st lBase lTerm lEntries i x1 H2) (rlog_Log_TermAt.k1.eq J0 lBase lTerm lEntries i x1 H2 Q) (by kernel_rfl) h
def rlog_Log_TermAt.vc (J : Jn) (lBase : Int) (lTerm : Int) (lEntries : Sl) (i : Int) (H : Hp) (Q : Value → Hp → Prop) : Prop :=
 
 Br (i == lBase) (Q (.tuple #[.int .i64 lTerm, .bool true]) (holes H 1))
 (
 Br (decide (i < lBase)) (
 rlog_Log_TermAt.k1 J lBase lTerm lEntries i true (holes H 1) Q)
 (
 SCalls Try.prog rlog_Log_Last.id [.agg #[.int .i64 lBase, .int .i64 lTerm, .slice lEntries.a lEntries.len lEntries.cap]] (holes H 1) (fun r H1 => ∃ x : Int, r = .int .i64 x ∧ 
 rlog_Log_TermAt.k1 J lBase lTerm lEntries i (decide (i > x)) H1 Q)))
theorem rlog_Log_TermAt.eq (J : Jn) (lBase : Int) (lTerm : Int) (lEntries : Sl) (i : Int) (H : Hp) (Q : Value → Hp → Prop) : vFn Try.prog rlog_Log_TermAt.cf J rlog_Log_TermAt.fn [.agg #[.int .i64 lBase, .int .i64 lTerm, .slice lEntries.a lEntries.len lEntries.cap], .int .i64 i] H Q = rlog_Log_TermAt.vc J lBase lTerm lEntries i H Q := by kernel_rfl
theorem rlog_Log_TermAt.calls {lBase : Int} {lTerm : Int} {lEntries : Sl} {i : Int} {H : Hp} {Q : Value → Hp → Prop} (h : rlog_Log_TermAt.vc J0 lBase lTerm lEntries i H Q) : SCalls Try.prog rlog_Log_TermAt.id [.agg #[.int .i64 lBase, .int .i64 lTerm, .slice lEntries.a lEntries.len lEntries.cap], .int .i64 i] H Q := vFn_of Try.mixed Try.func23 (rlog_Log_TermAt.eq J0 lBase lTerm lEntries i H Q) h

/-! 24: (tephra/rlog.Log).After -/
def rlog_Log_After.cf : Cfg := ⟨[3], [], [(2, [1, 2, 3, 18], true)], []⟩
def rlog_Log_After.k1.st (lBase : Int) (lTerm : Int) (lEntries : Sl) (i : Int) (most : Int) (x1 : Bool) (H2 : Hp) : VS := ⟨mkFr 34 [(1, .v (.int .i64 i)), (2, .v (.int .i64 most)), (3, .loc 0 0), (18, .v (.bool x1))], [(T_rlog_Log, [.int .i64 lBase, .int .i64 lTerm, .slice lEntries.a lEntries.len lEntries.cap])], H2⟩
def rlog_Log_After.k1 (J : Jn) (lBase : Int) (lTerm : Int) (lEntries : Sl) (i : Int) (most : Int) (x1 : Bool) (H2 : Hp) (Q : Value → Hp → Prop) : Prop := J (vSeg Try.prog rlog_Log_After.cf J rlog_Log_After.fn [1, 0, 1] [0, 1, 1] Q) (rlog_Log_After.k1.st lBase lTerm lEntries i most x1 H2)
attribute [irreducible] rlog_Log_After.k1
def rlog_Log_After.k1.body (J : Jn) (lBase : Int) (lTerm : Int) (lEntries : Sl) (i : Int) (most : Int) (x1 : Bool) (H2 : Hp) (Q : Value → Hp → Prop) : Prop :=
 
 Br x1 (Q (.tuple #[.slice none 0 0, .bool false]) H2)
 (((0 : Int) ≤ (w64 (i - lBase)) ∧ (w64 (i - lBase)) ≤ ((lEntries.len : Nat) : Int)) ∧ ((0 : Int) ≤ (if (if most > 0 then most else 0) < (((lEntries.len - (((w64 (i - lBase)) : Int).toNat)) : Nat) : Int) then (if most > 0 then most else 0) else (((lEntries.len - (((w64 (i - lBase)) : Int).toNat)) : Nat) : Int)) ∧ (if (if most > 0 then most else 0) < (((lEntries.len - (((w64 (i - lBase)) : Int).toNat)) : Nat) : Int) then (if most > 0 then most else 0) else (((lEntries.len - (((w64 (i - lBase)) : Int).toNat)) : Nat) : Int)) ≤ (((lEntries.cap - (((w64 (i - lBase)) : Int).toNat)) : Nat) : Int)) ∧ 
 SCalls Try.prog slices_Clone_sl_api_Entry_api_Entry.id [.slice (cutA (cutA lEntries.a lEntries.cap (((w64 (i - lBase)) : Int).toNat) 8) (lEntries.cap - (((w64 (i - lBase)) : Int).toNat)) 0 8) (((if (if most > 0 then most else 0) < (((lEntries.len - (((w64 (i - lBase)) : Int).toNat)) : Nat) : Int) then (if most > 0 then most else 0) else (((lEntries.len - (((w64 (i - lBase)) : Int).toNat)) : Nat) : Int)) : Int).toNat) (lEntries.cap - (((w64 (i - lBase)) : Int).toNat))] H2 (fun r1 H3 => ∃ x2 : Sl, r1 = .slice x2.a x2.len x2.cap ∧ Q (.tuple #[.slice x2.a x2.len x2.cap, .bool true]) H3))
theorem rlog_Log_After.k1.eq (J : Jn) (lBase : Int) (lTerm : Int) (lEntries : Sl) (i : Int) (most : Int) (x1 : Bool) (H2 : Hp) (Q : Value → Hp → Prop) : vSeg Try.prog rlog_Log_After.cf J rlog_Log_After.fn [1, 0, 1] [0, 1, 1] Q (rlog_Log_After.k1.st lBase lTerm lEntries i most x1 H2) = rlog_Log_After.k1.body J lBase lTerm lEntries i most x1 H2 Q := by kernel_rfl
theorem rlog_Log_After.k1.step {lBase : Int} {lTerm : Int} {lEntries : Sl} {i : Int} {most : Int} {x1 : Bool} {H2 : Hp} {Q : Value → Hp → Prop} (h : rlog_Log_After.k1.body J0 lBase lTerm lEntries i most x1 H2 Q) : rlog_Log_After.k1 J0 lBase lTerm lEntries i most x1 H2 Q := step_of (vSeg Try.prog rlog_Log_After.cf J0 rlog_Log_After.fn [1, 0, 1] [0, 1, 1] Q) (rlog_Log_After.k1.st lBase lTerm lEntries i most x1 H2) (rlog_Log_After.k1.eq J0 lBase lTerm lEntries i most x1 H2 Q) (by kernel_rfl) h
def rlog_Log_After.vc (J : Jn) (lBase : Int) (lTerm : Int) (lEntries : Sl) (i : Int) (most : Int) (H : Hp) (Q : Value → Hp → Prop) : Prop :=
 
 Br (decide (i < lBase)) (
 rlog_Log_After.k1 J lBase lTerm lEntries i most true (holes H 1) Q)
 (
 SCalls Try.prog rlog_Log_Last.id [.agg #[.int .i64 lBase, .int .i64 lTerm, .slice lEntries.a lEntries.len lEntries.cap]] (holes H 1) (fun r H1 => ∃ x : Int, r = .int .i64 x ∧ 
 rlog_Log_After.k1 J lBase lTerm lEntries i most (decide (i > x)) H1 Q))
theorem rlog_Log_After.eq (J : Jn) (lBase : Int) (lTerm : Int) (lEntries : Sl) (i : Int) (most : Int) (H : Hp) (Q : Value → Hp → Prop) : vFn Try.prog rlog_Log_After.cf J rlog_Log_After.fn [.agg #[.int .i64 lBase, .int .i64 lTerm, .slice lEntries.a lEntries.len lEntries.cap], .int .i64 i, .int .i64 most] H Q = rlog_Log_After.vc J lBase lTerm lEntries i most H Q := by kernel_rfl
theorem rlog_Log_After.calls {lBase : Int} {lTerm : Int} {lEntries : Sl} {i : Int} {most : Int} {H : Hp} {Q : Value → Hp → Prop} (h : rlog_Log_After.vc J0 lBase lTerm lEntries i most H Q) : SCalls Try.prog rlog_Log_After.id [.agg #[.int .i64 lBase, .int .i64 lTerm, .slice lEntries.a lEntries.len lEntries.cap], .int .i64 i, .int .i64 most] H Q := vFn_of Try.mixed Try.func24 (rlog_Log_After.eq J0 lBase lTerm lEntries i most H Q) h

/-! 25: (tephra/rlog.Log).Add -/
def rlog_Log_Add.cf : Cfg := ⟨[3, 5, 6], [], [], []⟩
def rlog_Log_Add.vc (J : Jn) (lBase : Int) (lTerm : Int) (lEntries : Sl) (term : Int) (cOp : Int) (cClient : Int) (cSeq : Int) (cKey : ByteArray) (cValue : ByteArray) (cOld : ByteArray) (H : Hp) (Q : Value → Hp → Prop) : Prop :=
 
 SCalls Try.prog rlog_Log_Clone.id [.agg #[.int .i64 lBase, .int .i64 lTerm, .slice lEntries.a lEntries.len lEntries.cap]] (holes H 3) (fun r H1 => ∃ Base : Int, ∃ Term : Int, ∃ Entries : Sl, r = .agg #[.int .i64 Base, .int .i64 Term, .slice Entries.a Entries.len Entries.cap] ∧ 
 SCalls Try.prog rlog_Log_Last.id [.agg #[.int .i64 Base, .int .i64 Term, .slice Entries.a Entries.len Entries.cap]] H1 (fun r1 H2 => ∃ x : Int, r1 = .int .i64 x ∧ 
 vApp Try.prog T_sl_api_Entry Entries.a Entries.len Entries.cap (.slice (some (Addr.mk (Array.size H2) 0 none)) 1 1) (Array.push H2 (.cells #[.int .i64 (w64 (x + 1)), .int .i64 term, .int .i64 cOp, .int .i64 cClient, .int .i64 cSeq, .string cKey, .string cValue, .string cOld] T_api_Entry)) (fun ap H3 => Q (.agg #[.int .i64 Base, .int .i64 Term, .slice ap.a ap.len ap.cap]) H3)))
theorem rlog_Log_Add.eq (J : Jn) (lBase : Int) (lTerm : Int) (lEntries : Sl) (term : Int) (cOp : Int) (cClient : Int) (cSeq : Int) (cKey : ByteArray) (cValue : ByteArray) (cOld : ByteArray) (H : Hp) (Q : Value → Hp → Prop) : vFn Try.prog rlog_Log_Add.cf J rlog_Log_Add.fn [.agg #[.int .i64 lBase, .int .i64 lTerm, .slice lEntries.a lEntries.len lEntries.cap], .int .i64 term, .agg #[.int .i64 cOp, .int .i64 cClient, .int .i64 cSeq, .string cKey, .string cValue, .string cOld]] H Q = rlog_Log_Add.vc J lBase lTerm lEntries term cOp cClient cSeq cKey cValue cOld H Q := by kernel_rfl
theorem rlog_Log_Add.calls {lBase : Int} {lTerm : Int} {lEntries : Sl} {term : Int} {cOp : Int} {cClient : Int} {cSeq : Int} {cKey : ByteArray} {cValue : ByteArray} {cOld : ByteArray} {H : Hp} {Q : Value → Hp → Prop} (h : rlog_Log_Add.vc J0 lBase lTerm lEntries term cOp cClient cSeq cKey cValue cOld H Q) : SCalls Try.prog rlog_Log_Add.id [.agg #[.int .i64 lBase, .int .i64 lTerm, .slice lEntries.a lEntries.len lEntries.cap], .int .i64 term, .agg #[.int .i64 cOp, .int .i64 cClient, .int .i64 cSeq, .string cKey, .string cValue, .string cOld]] H Q := vFn_of Try.mixed Try.func25 (rlog_Log_Add.eq J0 lBase lTerm lEntries term cOp cClient cSeq cKey cValue cOld H Q) h

/-! 26: (tephra/tephralaw06.Say).Cmd -/
def tephralaw06_Say_Cmd.cf : Cfg := ⟨[1, 2, 3], [], [(6, [1, 2, 3], true)], []⟩
def tephralaw06_Say_Cmd.k1.st (sOp : Int) (sClient : Int) (sSeq : Int) (sKey : Int) (sValue : Int) (sOld : Int) (H : Hp) (y : ByteArray) : VS := ⟨mkFr 65 [(1, .loc 0 0), (2, .loc 1 0), (3, .loc 2 0)], [(T_tephralaw06_Say, [.int .u8 sOp, .int .u8 sClient, .int .u8 sSeq, .int .u8 sKey, .int .u8 sValue, .int .u8 sOld]), (T_api_Cmd, [.int .i64 0, .int .i64 0, .int .i64 0, .string (ByteArray.mk #[]), .string (ByteArray.mk #[]), .string (ByteArray.mk #[])]), (T_api_Cmd, [.int .i64 (w64 ((Int.tmod sOp 4))), .int .i64 (w64 ((Int.tmod sClient 4))), .int .i64 (w64 ((Int.tmod sSeq 40))), .string ((ByteArray.mk #[107]) ++ ((ByteArray.mk #[97, 98, 99, 100, 101, 102, 103, 104]).extract (((Int.tmod sKey 8) : Int).toNat) (((IntKind.u8.wrap ((Int.tmod sKey 8) + 1)) : Int).toNat))), .string y, .string (ByteArray.mk #[])])], (holes H 3)⟩
def tephralaw06_Say_Cmd.k1 (J : Jn) (sOp : Int) (sClient : Int) (sSeq : Int) (sKey : Int) (sValue : Int) (sOld : Int) (H : Hp) (y : ByteArray) (Q : Value → Hp → Prop) : Prop := J (vSeg Try.prog tephralaw06_Say_Cmd.cf J tephralaw06_Say_Cmd.fn [1, 1, 1, 1] [0, 2, 3, 3] Q) (tephralaw06_Say_Cmd.k1.st sOp sClient sSeq sKey sValue sOld H y)
attribute [irreducible] tephralaw06_Say_Cmd.k1
def tephralaw06_Say_Cmd.k1.body (J : Jn) (sOp : Int) (sClient : Int) (sSeq : Int) (sKey : Int) (sValue : Int) (sOld : Int) (H : Hp) (y : ByteArray) (Q : Value → Hp → Prop) : Prop :=
 
 Br ((w64 ((Int.tmod sOp 4))) == 3) ((2 : Int) ≠ 0 ∧ ((0 : Int) ≤ (Int.tmod sOld 2) ∧ (Int.tmod sOld 2) ≤ (((ByteArray.mk #[118]).size : Nat) : Int)) ∧ (10 : Int) ≠ 0 ∧ (10 : Int) ≠ 0 ∧ ((0 : Int) ≤ (IntKind.u8.wrap ((Int.tmod sOld 10) + 1)) ∧ (IntKind.u8.wrap ((Int.tmod sOld 10) + 1)) ≤ (((ByteArray.mk #[48, 49, 50, 51, 52, 53, 54, 55, 56, 57]).size : Nat) : Int)) ∧ ((0 : Int) ≤ (Int.tmod sOld 10) ∧ (Int.tmod sOld 10) ≤ (((((IntKind.u8.wrap ((Int.tmod sOld 10) + 1)) : Int).toNat) : Nat) : Int)) ∧ ((ByteArray.mk #[118]).extract 0 (((Int.tmod sOld 2) : Int).toNat)).size + ((ByteArray.mk #[48, 49, 50, 51, 52, 53, 54, 55, 56, 57]).extract (((Int.tmod sOld 10) : Int).toNat) (((IntKind.u8.wrap ((Int.tmod sOld 10) + 1)) : Int).toNat)).size ≤ 9223372036854775807 ∧ Q (.agg #[.int .i64 (w64 ((Int.tmod sOp 4))), .int .i64 (w64 ((Int.tmod sClient 4))), .int .i64 (w64 ((Int.tmod sSeq 40))), .string ((ByteArray.mk #[107]) ++ ((ByteArray.mk #[97, 98, 99, 100, 101, 102, 103, 104]).extract (((Int.tmod sKey 8) : Int).toNat) (((IntKind.u8.wrap ((Int.tmod sKey 8) + 1)) : Int).toNat))), .string y, .string (((ByteArray.mk #[118]).extract 0 (((Int.tmod sOld 2) : Int).toNat)) ++ ((ByteArray.mk #[48, 49, 50, 51, 52, 53, 54, 55, 56, 57]).extract (((Int.tmod sOld 10) : Int).toNat) (((IntKind.u8.wrap ((Int.tmod sOld 10) + 1)) : Int).toNat)))]) (holes H 3))
 (Q (.agg #[.int .i64 (w64 ((Int.tmod sOp 4))), .int .i64 (w64 ((Int.tmod sClient 4))), .int .i64 (w64 ((Int.tmod sSeq 40))), .string ((ByteArray.mk #[107]) ++ ((ByteArray.mk #[97, 98, 99, 100, 101, 102, 103, 104]).extract (((Int.tmod sKey 8) : Int).toNat) (((IntKind.u8.wrap ((Int.tmod sKey 8) + 1)) : Int).toNat))), .string y, .string (ByteArray.mk #[])]) (holes H 3))
theorem tephralaw06_Say_Cmd.k1.eq (J : Jn) (sOp : Int) (sClient : Int) (sSeq : Int) (sKey : Int) (sValue : Int) (sOld : Int) (H : Hp) (y : ByteArray) (Q : Value → Hp → Prop) : vSeg Try.prog tephralaw06_Say_Cmd.cf J tephralaw06_Say_Cmd.fn [1, 1, 1, 1] [0, 2, 3, 3] Q (tephralaw06_Say_Cmd.k1.st sOp sClient sSeq sKey sValue sOld H y) = tephralaw06_Say_Cmd.k1.body J sOp sClient sSeq sKey sValue sOld H y Q := by kernel_rfl
theorem tephralaw06_Say_Cmd.k1.step {sOp : Int} {sClient : Int} {sSeq : Int} {sKey : Int} {sValue : Int} {sOld : Int} {H : Hp} {y : ByteArray} {Q : Value → Hp → Prop} (h : tephralaw06_Say_Cmd.k1.body J0 sOp sClient sSeq sKey sValue sOld H y Q) : tephralaw06_Say_Cmd.k1 J0 sOp sClient sSeq sKey sValue sOld H y Q := step_of (vSeg Try.prog tephralaw06_Say_Cmd.cf J0 tephralaw06_Say_Cmd.fn [1, 1, 1, 1] [0, 2, 3, 3] Q) (tephralaw06_Say_Cmd.k1.st sOp sClient sSeq sKey sValue sOld H y) (tephralaw06_Say_Cmd.k1.eq J0 sOp sClient sSeq sKey sValue sOld H y Q) (by kernel_rfl) h
def tephralaw06_Say_Cmd.vc (J : Jn) (sOp : Int) (sClient : Int) (sSeq : Int) (sKey : Int) (sValue : Int) (sOld : Int) (H : Hp) (Q : Value → Hp → Prop) : Prop :=
 (4 : Int) ≠ 0 ∧ (4 : Int) ≠ 0 ∧ (40 : Int) ≠ 0 ∧ (8 : Int) ≠ 0 ∧ (8 : Int) ≠ 0 ∧ ((0 : Int) ≤ (IntKind.u8.wrap ((Int.tmod sKey 8) + 1)) ∧ (IntKind.u8.wrap ((Int.tmod sKey 8) + 1)) ≤ (((ByteArray.mk #[97, 98, 99, 100, 101, 102, 103, 104]).size : Nat) : Int)) ∧ ((0 : Int) ≤ (Int.tmod sKey 8) ∧ (Int.tmod sKey 8) ≤ (((((IntKind.u8.wrap ((Int.tmod sKey 8) + 1)) : Int).toNat) : Nat) : Int)) ∧ (ByteArray.mk #[107]).size + ((ByteArray.mk #[97, 98, 99, 100, 101, 102, 103, 104]).extract (((Int.tmod sKey 8) : Int).toNat) (((IntKind.u8.wrap ((Int.tmod sKey 8) + 1)) : Int).toNat)).size ≤ 9223372036854775807 ∧ (2 : Int) ≠ 0 ∧ ((0 : Int) ≤ (Int.tmod sValue 2) ∧ (Int.tmod sValue 2) ≤ (((ByteArray.mk #[118]).size : Nat) : Int)) ∧ (10 : Int) ≠ 0 ∧ (10 : Int) ≠ 0 ∧ ((0 : Int) ≤ (IntKind.u8.wrap ((Int.tmod sValue 10) + 1)) ∧ (IntKind.u8.wrap ((Int.tmod sValue 10) + 1)) ≤ (((ByteArray.mk #[48, 49, 50, 51, 52, 53, 54, 55, 56, 57]).size : Nat) : Int)) ∧ ((0 : Int) ≤ (Int.tmod sValue 10) ∧ (Int.tmod sValue 10) ≤ (((((IntKind.u8.wrap ((Int.tmod sValue 10) + 1)) : Int).toNat) : Nat) : Int)) ∧ ((ByteArray.mk #[118]).extract 0 (((Int.tmod sValue 2) : Int).toNat)).size + ((ByteArray.mk #[48, 49, 50, 51, 52, 53, 54, 55, 56, 57]).extract (((Int.tmod sValue 10) : Int).toNat) (((IntKind.u8.wrap ((Int.tmod sValue 10) + 1)) : Int).toNat)).size ≤ 9223372036854775807 ∧ 
 Br ((w64 ((Int.tmod sOp 4))) == 0) (Q (.agg #[.int .i64 0, .int .i64 0, .int .i64 0, .string (ByteArray.mk #[]), .string (ByteArray.mk #[]), .string (ByteArray.mk #[])]) (holes H 3))
 (
 Br ((w64 ((Int.tmod sOp 4))) == 2) (
 tephralaw06_Say_Cmd.k1 J sOp sClient sSeq sKey sValue sOld H (ByteArray.mk #[]) Q)
 (
 tephralaw06_Say_Cmd.k1 J sOp sClient sSeq sKey sValue sOld H (((ByteArray.mk #[118]).extract 0 (((Int.tmod sValue 2) : Int).toNat)) ++ ((ByteArray.mk #[48, 49, 50, 51, 52, 53, 54, 55, 56, 57]).extract (((Int.tmod sValue 10) : Int).toNat) (((IntKind.u8.wrap ((Int.tmod sValue 10) + 1)) : Int).toNat))) Q))
theorem tephralaw06_Say_Cmd.eq (J : Jn) (sOp : Int) (sClient : Int) (sSeq : Int) (sKey : Int) (sValue : Int) (sOld : Int) (H : Hp) (Q : Value → Hp → Prop) : vFn Try.prog tephralaw06_Say_Cmd.cf J tephralaw06_Say_Cmd.fn [.agg #[.int .u8 sOp, .int .u8 sClient, .int .u8 sSeq, .int .u8 sKey, .int .u8 sValue, .int .u8 sOld]] H Q = tephralaw06_Say_Cmd.vc J sOp sClient sSeq sKey sValue sOld H Q := by kernel_rfl
theorem tephralaw06_Say_Cmd.calls {sOp : Int} {sClient : Int} {sSeq : Int} {sKey : Int} {sValue : Int} {sOld : Int} {H : Hp} {Q : Value → Hp → Prop} (h : tephralaw06_Say_Cmd.vc J0 sOp sClient sSeq sKey sValue sOld H Q) : SCalls Try.prog tephralaw06_Say_Cmd.id [.agg #[.int .u8 sOp, .int .u8 sClient, .int .u8 sSeq, .int .u8 sKey, .int .u8 sValue, .int .u8 sOld]] H Q := vFn_of Try.mixed Try.func26 (tephralaw06_Say_Cmd.eq J0 sOp sClient sSeq sKey sValue sOld H Q) h

/-! 27: (tephra/rlog.Log).Compact -/
def rlog_Log_Compact.cf : Cfg := ⟨[2, 4], [], [], []⟩
def rlog_Log_Compact.vc (J : Jn) (lBase : Int) (lTerm : Int) (lEntries : Sl) (i : Int) (H : Hp) (Q : Value → Hp → Prop) : Prop :=
 
 SCalls Try.prog rlog_Log_TermAt.id [.agg #[.int .i64 lBase, .int .i64 lTerm, .slice lEntries.a lEntries.len lEntries.cap], .int .i64 i] (holes H 2) (fun r H1 => ∃ x : Int, ∃ x1 : Bool, r = .tuple #[.int .i64 x, .bool x1] ∧ 
 Br (!x1) (Q (.agg #[.int .i64 lBase, .int .i64 lTerm, .slice lEntries.a lEntries.len lEntries.cap]) H1)
 (((0 : Int) ≤ (w64 (i - lBase)) ∧ (w64 (i - lBase)) ≤ ((lEntries.len : Nat) : Int)) ∧ 
 SCalls Try.prog slices_Clone_sl_api_Entry_api_Entry.id [.slice (cutA lEntries.a lEntries.cap (((w64 (i - lBase)) : Int).toNat) 8) (lEntries.len - (((w64 (i - lBase)) : Int).toNat)) (lEntries.cap - (((w64 (i - lBase)) : Int).toNat))] H1 (fun r1 H2 => ∃ x2 : Sl, r1 = .slice x2.a x2.len x2.cap ∧ Q (.agg #[.int .i64 i, .int .i64 x, .slice x2.a x2.len x2.cap]) H2)))
theorem rlog_Log_Compact.eq (J : Jn) (lBase : Int) (lTerm : Int) (lEntries : Sl) (i : Int) (H : Hp) (Q : Value → Hp → Prop) : vFn Try.prog rlog_Log_Compact.cf J rlog_Log_Compact.fn [.agg #[.int .i64 lBase, .int .i64 lTerm, .slice lEntries.a lEntries.len lEntries.cap], .int .i64 i] H Q = rlog_Log_Compact.vc J lBase lTerm lEntries i H Q := by kernel_rfl
theorem rlog_Log_Compact.calls {lBase : Int} {lTerm : Int} {lEntries : Sl} {i : Int} {H : Hp} {Q : Value → Hp → Prop} (h : rlog_Log_Compact.vc J0 lBase lTerm lEntries i H Q) : SCalls Try.prog rlog_Log_Compact.id [.agg #[.int .i64 lBase, .int .i64 lTerm, .slice lEntries.a lEntries.len lEntries.cap], .int .i64 i] H Q := vFn_of Try.mixed Try.func27 (rlog_Log_Compact.eq J0 lBase lTerm lEntries i H Q) h

/-! 28: tephra/cmds.Row -/
def cmds_Row.cf : Cfg := ⟨[6], [(2, [0, 1, 7, 8, 9])], [], []⟩
def cmds_Row.l1.st (es : Sl) (fromv : Int) (H1 : Hp) (x : Int) : VS := ⟨mkFr 41 [(0, .v (.slice es.a es.len es.cap)), (1, .v (.int .i64 fromv)), (7, .v (.slice es.a es.len es.cap)), (8, .v (.int .i64 ((es.len : Nat) : Int))), (9, .v (.int .i64 x))], [], H1⟩
def cmds_Row.l1 (J : Jn) (es : Sl) (fromv : Int) (H1 : Hp) (x : Int) (Q : Value → Hp → Prop) : Prop := vAt Try.prog cmds_Row.cf J cmds_Row.fn [1, 0, 1, 0] [0, 0, 0] Q (cmds_Row.l1.st es fromv H1 x)
attribute [irreducible] cmds_Row.l1
def cmds_Row.l1.body (J : Jn) (es : Sl) (fromv : Int) (H1 : Hp) (x : Int) (Q : Value → Hp → Prop) : Prop :=
 
 Br (decide (x < ((es.len : Nat) : Int))) (((0 : Int) ≤ x ∧ x < ((es.len : Nat) : Int)) ∧ vPtr es.a (fun a => ∃ Index : Int, ∃ Term : Int, ∃ CmdOp : Int, ∃ CmdClient : Int, ∃ CmdSeq : Int, ∃ CmdKey : ByteArray, ∃ CmdValue : ByteArray, ∃ CmdOld : ByteArray, RowAt H1 (a.add ((x : Int).toNat * 8)) [.int .i64 Index, .int .i64 Term, .int .i64 CmdOp, .int .i64 CmdClient, .int .i64 CmdSeq, .string CmdKey, .string CmdValue, .string CmdOld] ∧ 
 SCalls Try.prog cmds_Right.id [.agg #[.int .i64 Index, .int .i64 Term, .int .i64 CmdOp, .int .i64 CmdClient, .int .i64 CmdSeq, .string CmdKey, .string CmdValue, .string CmdOld]] (holes H1 1) (fun r H2 => ∃ x1 : Bool, r = .bool x1 ∧ 
 Br (!x1) (Q (.bool false) H2)
 (
 Br (Index != (w64 (fromv + x))) (Q (.bool false) H2)
 (
 Br (decide (x > 0)) (((0 : Int) ≤ (w64 (x - 1)) ∧ (w64 (x - 1)) < ((es.len : Nat) : Int)) ∧ vPtr es.a (fun a1 => ∃ Term1 : Int, Hp.cell? H2 ((a1.add (((w64 (x - 1)) : Int).toNat * 8)).add 1) = some (.int .i64 Term1) ∧ 
 Br (decide (Term < Term1)) (Q (.bool false) H2)
 (
 cmds_Row.l1 J es fromv H2 (w64 (x + 1)) Q)))
 (
 cmds_Row.l1 J es fromv H2 (w64 (x + 1)) Q))))))
 (Q (.bool true) H1)
theorem cmds_Row.l1.eq (J : Jn) (es : Sl) (fromv : Int) (H1 : Hp) (x : Int) (Q : Value → Hp → Prop) : vAtBody Try.prog cmds_Row.cf J cmds_Row.fn [1, 0, 1, 0] [0, 0, 0] Q (cmds_Row.l1.st es fromv H1 x) = cmds_Row.l1.body J es fromv H1 x Q := by kernel_rfl
theorem cmds_Row.l1.step {es : Sl} {fromv : Int} {H1 : Hp} {x : Int} {Q : Value → Hp → Prop} (h : cmds_Row.l1.body J0 es fromv H1 x Q) : cmds_Row.l1 J0 es fromv H1 x Q := vAt_stepC (cmds_Row.l1.st es fromv H1 x) (cmds_Row.l1.eq J0 es fromv H1 x Q) (by kernel_rfl) h
def cmds_Row.vc (J : Jn) (es : Sl) (fromv : Int) (H : Hp) (Q : Value → Hp → Prop) : Prop :=
 
 cmds_Row.l1 J es fromv H 0 Q
theorem cmds_Row.eq (J : Jn) (es : Sl) (fromv : Int) (H : Hp) (Q : Value → Hp → Prop) : vFn Try.prog cmds_Row.cf J cmds_Row.fn [.slice es.a es.len es.cap, .int .i64 fromv] H Q = cmds_Row.vc J es fromv H Q := by kernel_rfl
theorem cmds_Row.calls {es : Sl} {fromv : Int} {H : Hp} {Q : Value → Hp → Prop} (h : cmds_Row.vc J0 es fromv H Q) : SCalls Try.prog cmds_Row.id [.slice es.a es.len es.cap, .int .i64 fromv] H Q := vFn_of Try.mixed Try.func28 (cmds_Row.eq J0 es fromv H Q) h

/-! 29: slices.Clone___tephra/api.Entry,tephra/api.Entry_ -/
def slices_Clone_sl_api_Entry_api_Entry.cf : Cfg := ⟨[], [], [], []⟩
def slices_Clone_sl_api_Entry_api_Entry.vc (J : Jn) (s : Sl) (H : Hp) (Q : Value → Hp → Prop) : Prop :=
 
 Br s.a.isNone (Q (.slice none 0 0) H)
 (
 vApp Try.prog T_sl_api_Entry (some (Addr.mk (Array.size H) 0 none)) 0 0 (.slice s.a s.len s.cap) (Array.push H (.cells #[] T_api_Entry)) (fun ap H1 => Q (.slice ap.a ap.len ap.cap) H1))
theorem slices_Clone_sl_api_Entry_api_Entry.eq (J : Jn) (s : Sl) (H : Hp) (Q : Value → Hp → Prop) : vFn Try.prog slices_Clone_sl_api_Entry_api_Entry.cf J slices_Clone_sl_api_Entry_api_Entry.fn [.slice s.a s.len s.cap] H Q = slices_Clone_sl_api_Entry_api_Entry.vc J s H Q := by kernel_rfl
theorem slices_Clone_sl_api_Entry_api_Entry.calls {s : Sl} {H : Hp} {Q : Value → Hp → Prop} (h : slices_Clone_sl_api_Entry_api_Entry.vc J0 s H Q) : SCalls Try.prog slices_Clone_sl_api_Entry_api_Entry.id [.slice s.a s.len s.cap] H Q := vFn_of Try.mixed Try.func29 (slices_Clone_sl_api_Entry_api_Entry.eq J0 s H Q) h

/-! 30: tephra/cmds.May -/
def cmds_May.cf : Cfg := ⟨[1], [], [(2, [1, 22], true)], [(10, [1, 10]), (16, [1, 16]), (36, [1, 36]), (41, [1, 41]), (46, [1, 46]), (51, [1, 51])]⟩
def cmds_May.k1.st (cOp : Int) (cClient : Int) (cSeq : Int) (cKey : ByteArray) (cValue : ByteArray) (cOld : ByteArray) (H : Hp) (x : Bool) : VS := ⟨mkFr 58 [(1, .loc 0 0), (10, .v (.bool x))], [(T_api_Cmd, [.int .i64 cOp, .int .i64 cClient, .int .i64 cSeq, .string cKey, .string cValue, .string cOld])], (holes H 1)⟩
def cmds_May.k1 (J : Jn) (cOp : Int) (cClient : Int) (cSeq : Int) (cKey : ByteArray) (cValue : ByteArray) (cOld : ByteArray) (H : Hp) (x : Bool) (Q : Value → Hp → Prop) : Prop := J (vMid Try.prog cmds_May.cf J cmds_May.fn [1, 0, 0] [0, 1, 1] 8 Q) (cmds_May.k1.st cOp cClient cSeq cKey cValue cOld H x)
def cmds_May.k2.st (cOp : Int) (cClient : Int) (cSeq : Int) (cKey : ByteArray) (cValue : ByteArray) (cOld : ByteArray) (H : Hp) (x1 : Bool) : VS := ⟨mkFr 58 [(1, .loc 0 0), (16, .v (.bool x1))], [(T_api_Cmd, [.int .i64 cOp, .int .i64 cClient, .int .i64 cSeq, .string cKey, .string cValue, .string cOld])], (holes H 1)⟩
def cmds_May.k2 (J : Jn) (cOp : Int) (cClient : Int) (cSeq : Int) (cKey : ByteArray) (cValue : ByteArray) (cOld : ByteArray) (H : Hp) (x1 : Bool) (Q : Value → Hp → Prop) : Prop := J (vMid Try.prog cmds_May.cf J cmds_May.fn [1, 0, 0] [0, 1, 1] 14 Q) (cmds_May.k2.st cOp cClient cSeq cKey cValue cOld H x1)
def cmds_May.k3.st (cOp : Int) (cClient : Int) (cSeq : Int) (cKey : ByteArray) (cValue : ByteArray) (cOld : ByteArray) (H : Hp) (x2 : Bool) : VS := ⟨mkFr 58 [(1, .loc 0 0), (22, .v (.bool x2))], [(T_api_Cmd, [.int .i64 cOp, .int .i64 cClient, .int .i64 cSeq, .string cKey, .string cValue, .string cOld])], (holes H 1)⟩
def cmds_May.k3 (J : Jn) (cOp : Int) (cClient : Int) (cSeq : Int) (cKey : ByteArray) (cValue : ByteArray) (cOld : ByteArray) (H : Hp) (x2 : Bool) (Q : Value → Hp → Prop) : Prop := J (vSeg Try.prog cmds_May.cf J cmds_May.fn [1, 0, 1] [0, 1, 1] Q) (cmds_May.k3.st cOp cClient cSeq cKey cValue cOld H x2)
def cmds_May.k4.st (cOp : Int) (cClient : Int) (cSeq : Int) (cKey : ByteArray) (cValue : ByteArray) (cOld : ByteArray) (H : Hp) (x3 : Bool) : VS := ⟨mkFr 58 [(1, .loc 0 0), (36, .v (.bool x3))], [(T_api_Cmd, [.int .i64 cOp, .int .i64 cClient, .int .i64 cSeq, .string cKey, .string cValue, .string cOld])], (holes H 1)⟩
def cmds_May.k4 (J : Jn) (cOp : Int) (cClient : Int) (cSeq : Int) (cKey : ByteArray) (cValue : ByteArray) (cOld : ByteArray) (H : Hp) (x3 : Bool) (Q : Value → Hp → Prop) : Prop := J (vMid Try.prog cmds_May.cf J cmds_May.fn [1, 1, 1, 0] [0, 1, 1, 1] 8 Q) (cmds_May.k4.st cOp cClient cSeq cKey cValue cOld H x3)
def cmds_May.k5.st (cOp : Int) (cClient : Int) (cSeq : Int) (cKey : ByteArray) (cValue : ByteArray) (cOld : ByteArray) (H : Hp) (x4 : Bool) : VS := ⟨mkFr 58 [(1, .loc 0 0), (41, .v (.bool x4))], [(T_api_Cmd, [.int .i64 cOp, .int .i64 cClient, .int .i64 cSeq, .string cKey, .string cValue, .string cOld])], (holes H 1)⟩
def cmds_May.k5 (J : Jn) (cOp : Int) (cClient : Int) (cSeq : Int) (cKey : ByteArray) (cValue : ByteArray) (cOld : ByteArray) (H : Hp) (x4 : Bool) (Q : Value → Hp → Prop) : Prop := J (vMid Try.prog cmds_May.cf J cmds_May.fn [1, 1, 1, 0] [0, 1, 1, 1] 13 Q) (cmds_May.k5.st cOp cClient cSeq cKey cValue cOld H x4)
def cmds_May.k6.st (cOp : Int) (cClient : Int) (cSeq : Int) (cKey : ByteArray) (cValue : ByteArray) (cOld : ByteArray) (H : Hp) (x5 : Bool) : VS := ⟨mkFr 58 [(1, .loc 0 0), (46, .v (.bool x5))], [(T_api_Cmd, [.int .i64 cOp, .int .i64 cClient, .int .i64 cSeq, .string cKey, .string cValue, .string cOld])], (holes H 1)⟩
def cmds_May.k6 (J : Jn) (cOp : Int) (cClient : Int) (cSeq : Int) (cKey : ByteArray) (cValue : ByteArray) (cOld : ByteArray) (H : Hp) (x5 : Bool) (Q : Value → Hp → Prop) : Prop := J (vMid Try.prog cmds_May.cf J cmds_May.fn [1, 1, 1, 0] [0, 1, 1, 1] 18 Q) (cmds_May.k6.st cOp cClient cSeq cKey cValue cOld H x5)
def cmds_May.k7.st (cOp : Int) (cClient : Int) (cSeq : Int) (cKey : ByteArray) (cValue : ByteArray) (cOld : ByteArray) (H : Hp) (x6 : Bool) : VS := ⟨mkFr 58 [(1, .loc 0 0), (51, .v (.bool x6))], [(T_api_Cmd, [.int .i64 cOp, .int .i64 cClient, .int .i64 cSeq, .string cKey, .string cValue, .string cOld])], (holes H 1)⟩
def cmds_May.k7 (J : Jn) (cOp : Int) (cClient : Int) (cSeq : Int) (cKey : ByteArray) (cValue : ByteArray) (cOld : ByteArray) (H : Hp) (x6 : Bool) (Q : Value → Hp → Prop) : Prop := J (vMid Try.prog cmds_May.cf J cmds_May.fn [1, 1, 1, 0] [0, 1, 1, 1] 23 Q) (cmds_May.k7.st cOp cClient cSeq cKey cValue cOld H x6)
attribute [irreducible] cmds_May.k1 cmds_May.k2 cmds_May.k3 cmds_May.k4 cmds_May.k5 cmds_May.k6 cmds_May.k7
def cmds_May.k1.body (J : Jn) (cOp : Int) (cClient : Int) (cSeq : Int) (cKey : ByteArray) (cValue : ByteArray) (cOld : ByteArray) (H : Hp) (x : Bool) (Q : Value → Hp → Prop) : Prop :=
 
 Br x (
 cmds_May.k2 J cOp cClient cSeq cKey cValue cOld H true Q)
 (
 cmds_May.k2 J cOp cClient cSeq cKey cValue cOld H (decide (((cValue.size : Nat) : Int) > 16)) Q)
theorem cmds_May.k1.eq (J : Jn) (cOp : Int) (cClient : Int) (cSeq : Int) (cKey : ByteArray) (cValue : ByteArray) (cOld : ByteArray) (H : Hp) (x : Bool) (Q : Value → Hp → Prop) : vMid Try.prog cmds_May.cf J cmds_May.fn [1, 0, 0] [0, 1, 1] 8 Q (cmds_May.k1.st cOp cClient cSeq cKey cValue cOld H x) = cmds_May.k1.body J cOp cClient cSeq cKey cValue cOld H x Q := by kernel_rfl
theorem cmds_May.k1.step {cOp : Int} {cClient : Int} {cSeq : Int} {cKey : ByteArray} {cValue : ByteArray} {cOld : ByteArray} {H : Hp} {x : Bool} {Q : Value → Hp → Prop} (h : cmds_May.k1.body J0 cOp cClient cSeq cKey cValue cOld H x Q) : cmds_May.k1 J0 cOp cClient cSeq cKey cValue cOld H x Q := step_of (vMid Try.prog cmds_May.cf J0 cmds_May.fn [1, 0, 0] [0, 1, 1] 8 Q) (cmds_May.k1.st cOp cClient cSeq cKey cValue cOld H x) (cmds_May.k1.eq J0 cOp cClient cSeq cKey cValue cOld H x Q) (by kernel_rfl) h
def cmds_May.k2.body (J : Jn) (cOp : Int) (cClient : Int) (cSeq : Int) (cKey : ByteArray) (cValue : ByteArray) (cOld : ByteArray) (H : Hp) (x1 : Bool) (Q : Value → Hp → Prop) : Prop :=
 
 Br x1 (
 cmds_May.k3 J cOp cClient cSeq cKey cValue cOld H true Q)
 (
 cmds_May.k3 J cOp cClient cSeq cKey cValue cOld H (decide (((cOld.size : Nat) : Int) > 16)) Q)
theorem cmds_May.k2.eq (J : Jn) (cOp : Int) (cClient : Int) (cSeq : Int) (cKey : ByteArray) (cValue : ByteArray) (cOld : ByteArray) (H : Hp) (x1 : Bool) (Q : Value → Hp → Prop) : vMid Try.prog cmds_May.cf J cmds_May.fn [1, 0, 0] [0, 1, 1] 14 Q (cmds_May.k2.st cOp cClient cSeq cKey cValue cOld H x1) = cmds_May.k2.body J cOp cClient cSeq cKey cValue cOld H x1 Q := by kernel_rfl
theorem cmds_May.k2.step {cOp : Int} {cClient : Int} {cSeq : Int} {cKey : ByteArray} {cValue : ByteArray} {cOld : ByteArray} {H : Hp} {x1 : Bool} {Q : Value → Hp → Prop} (h : cmds_May.k2.body J0 cOp cClient cSeq cKey cValue cOld H x1 Q) : cmds_May.k2 J0 cOp cClient cSeq cKey cValue cOld H x1 Q := step_of (vMid Try.prog cmds_May.cf J0 cmds_May.fn [1, 0, 0] [0, 1, 1] 14 Q) (cmds_May.k2.st cOp cClient cSeq cKey cValue cOld H x1) (cmds_May.k2.eq J0 cOp cClient cSeq cKey cValue cOld H x1 Q) (by kernel_rfl) h
def cmds_May.k3.body (J : Jn) (cOp : Int) (cClient : Int) (cSeq : Int) (cKey : ByteArray) (cValue : ByteArray) (cOld : ByteArray) (H : Hp) (x2 : Bool) (Q : Value → Hp → Prop) : Prop :=
 
 Br x2 (Q (.bool false) (holes H 1))
 (
 Br (cOp == 0) (Q (.bool ((cOp == (0 : Int)) && ((cClient == (0 : Int)) && ((cSeq == (0 : Int)) && ((cKey == (ByteArray.mk #[])) && ((cValue == (ByteArray.mk #[])) && ((cOld == (ByteArray.mk #[])) && true))))))) (holes H 1))
 (
 Br (decide (cClient ≥ 0)) (
 cmds_May.k4 J cOp cClient cSeq cKey cValue cOld H (decide (cClient < 4)) Q)
 (
 cmds_May.k4 J cOp cClient cSeq cKey cValue cOld H false Q)))
theorem cmds_May.k3.eq (J : Jn) (cOp : Int) (cClient : Int) (cSeq : Int) (cKey : ByteArray) (cValue : ByteArray) (cOld : ByteArray) (H : Hp) (x2 : Bool) (Q : Value → Hp → Prop) : vSeg Try.prog cmds_May.cf J cmds_May.fn [1, 0, 1] [0, 1, 1] Q (cmds_May.k3.st cOp cClient cSeq cKey cValue cOld H x2) = cmds_May.k3.body J cOp cClient cSeq cKey cValue cOld H x2 Q := by kernel_rfl
theorem cmds_May.k3.step {cOp : Int} {cClient : Int} {cSeq : Int} {cKey : ByteArray} {cValue : ByteArray} {cOld : ByteArray} {H : Hp} {x2 : Bool} {Q : Value → Hp → Prop} (h : cmds_May.k3.body J0 cOp cClient cSeq cKey cValue cOld H x2 Q) : cmds_May.k3 J0 cOp cClient cSeq cKey cValue cOld H x2 Q := step_of (vSeg Try.prog cmds_May.cf J0 cmds_May.fn [1, 0, 1] [0, 1, 1] Q) (cmds_May.k3.st cOp cClient cSeq cKey cValue cOld H x2) (cmds_May.k3.eq J0 cOp cClient cSeq cKey cValue cOld H x2 Q) (by kernel_rfl) h
def cmds_May.k4.body (J : Jn) (cOp : Int) (cClient : Int) (cSeq : Int) (cKey : ByteArray) (cValue : ByteArray) (cOld : ByteArray) (H : Hp) (x3 : Bool) (Q : Value → Hp → Prop) : Prop :=
 
 Br x3 (
 cmds_May.k5 J cOp cClient cSeq cKey cValue cOld H (decide (cSeq ≥ 0)) Q)
 (
 cmds_May.k5 J cOp cClient cSeq cKey cValue cOld H false Q)
theorem cmds_May.k4.eq (J : Jn) (cOp : Int) (cClient : Int) (cSeq : Int) (cKey : ByteArray) (cValue : ByteArray) (cOld : ByteArray) (H : Hp) (x3 : Bool) (Q : Value → Hp → Prop) : vMid Try.prog cmds_May.cf J cmds_May.fn [1, 1, 1, 0] [0, 1, 1, 1] 8 Q (cmds_May.k4.st cOp cClient cSeq cKey cValue cOld H x3) = cmds_May.k4.body J cOp cClient cSeq cKey cValue cOld H x3 Q := by kernel_rfl
theorem cmds_May.k4.step {cOp : Int} {cClient : Int} {cSeq : Int} {cKey : ByteArray} {cValue : ByteArray} {cOld : ByteArray} {H : Hp} {x3 : Bool} {Q : Value → Hp → Prop} (h : cmds_May.k4.body J0 cOp cClient cSeq cKey cValue cOld H x3 Q) : cmds_May.k4 J0 cOp cClient cSeq cKey cValue cOld H x3 Q := step_of (vMid Try.prog cmds_May.cf J0 cmds_May.fn [1, 1, 1, 0] [0, 1, 1, 1] 8 Q) (cmds_May.k4.st cOp cClient cSeq cKey cValue cOld H x3) (cmds_May.k4.eq J0 cOp cClient cSeq cKey cValue cOld H x3 Q) (by kernel_rfl) h
def cmds_May.k5.body (J : Jn) (cOp : Int) (cClient : Int) (cSeq : Int) (cKey : ByteArray) (cValue : ByteArray) (cOld : ByteArray) (H : Hp) (x4 : Bool) (Q : Value → Hp → Prop) : Prop :=
 
 Br x4 (
 cmds_May.k6 J cOp cClient cSeq cKey cValue cOld H (decide (cSeq ≤ 1048576)) Q)
 (
 cmds_May.k6 J cOp cClient cSeq cKey cValue cOld H false Q)
theorem cmds_May.k5.eq (J : Jn) (cOp : Int) (cClient : Int) (cSeq : Int) (cKey : ByteArray) (cValue : ByteArray) (cOld : ByteArray) (H : Hp) (x4 : Bool) (Q : Value → Hp → Prop) : vMid Try.prog cmds_May.cf J cmds_May.fn [1, 1, 1, 0] [0, 1, 1, 1] 13 Q (cmds_May.k5.st cOp cClient cSeq cKey cValue cOld H x4) = cmds_May.k5.body J cOp cClient cSeq cKey cValue cOld H x4 Q := by kernel_rfl
theorem cmds_May.k5.step {cOp : Int} {cClient : Int} {cSeq : Int} {cKey : ByteArray} {cValue : ByteArray} {cOld : ByteArray} {H : Hp} {x4 : Bool} {Q : Value → Hp → Prop} (h : cmds_May.k5.body J0 cOp cClient cSeq cKey cValue cOld H x4 Q) : cmds_May.k5 J0 cOp cClient cSeq cKey cValue cOld H x4 Q := step_of (vMid Try.prog cmds_May.cf J0 cmds_May.fn [1, 1, 1, 0] [0, 1, 1, 1] 13 Q) (cmds_May.k5.st cOp cClient cSeq cKey cValue cOld H x4) (cmds_May.k5.eq J0 cOp cClient cSeq cKey cValue cOld H x4 Q) (by kernel_rfl) h
def cmds_May.k6.body (J : Jn) (cOp : Int) (cClient : Int) (cSeq : Int) (cKey : ByteArray) (cValue : ByteArray) (cOld : ByteArray) (H : Hp) (x5 : Bool) (Q : Value → Hp → Prop) : Prop :=
 
 Br x5 (
 cmds_May.k7 J cOp cClient cSeq cKey cValue cOld H (!(cKey.toList == (ByteArray.mk #[]).toList)) Q)
 (
 cmds_May.k7 J cOp cClient cSeq cKey cValue cOld H false Q)
theorem cmds_May.k6.eq (J : Jn) (cOp : Int) (cClient : Int) (cSeq : Int) (cKey : ByteArray) (cValue : ByteArray) (cOld : ByteArray) (H : Hp) (x5 : Bool) (Q : Value → Hp → Prop) : vMid Try.prog cmds_May.cf J cmds_May.fn [1, 1, 1, 0] [0, 1, 1, 1] 18 Q (cmds_May.k6.st cOp cClient cSeq cKey cValue cOld H x5) = cmds_May.k6.body J cOp cClient cSeq cKey cValue cOld H x5 Q := by kernel_rfl
theorem cmds_May.k6.step {cOp : Int} {cClient : Int} {cSeq : Int} {cKey : ByteArray} {cValue : ByteArray} {cOld : ByteArray} {H : Hp} {x5 : Bool} {Q : Value → Hp → Prop} (h : cmds_May.k6.body J0 cOp cClient cSeq cKey cValue cOld H x5 Q) : cmds_May.k6 J0 cOp cClient cSeq cKey cValue cOld H x5 Q := step_of (vMid Try.prog cmds_May.cf J0 cmds_May.fn [1, 1, 1, 0] [0, 1, 1, 1] 18 Q) (cmds_May.k6.st cOp cClient cSeq cKey cValue cOld H x5) (cmds_May.k6.eq J0 cOp cClient cSeq cKey cValue cOld H x5 Q) (by kernel_rfl) h
def cmds_May.k7.body (J : Jn) (cOp : Int) (cClient : Int) (cSeq : Int) (cKey : ByteArray) (cValue : ByteArray) (cOld : ByteArray) (H : Hp) (x6 : Bool) (Q : Value → Hp → Prop) : Prop :=
 
 Br x6 (Q (.bool (decide (((cKey.size : Nat) : Int) ≤ 8))) (holes H 1))
 (Q (.bool false) (holes H 1))
theorem cmds_May.k7.eq (J : Jn) (cOp : Int) (cClient : Int) (cSeq : Int) (cKey : ByteArray) (cValue : ByteArray) (cOld : ByteArray) (H : Hp) (x6 : Bool) (Q : Value → Hp → Prop) : vMid Try.prog cmds_May.cf J cmds_May.fn [1, 1, 1, 0] [0, 1, 1, 1] 23 Q (cmds_May.k7.st cOp cClient cSeq cKey cValue cOld H x6) = cmds_May.k7.body J cOp cClient cSeq cKey cValue cOld H x6 Q := by kernel_rfl
theorem cmds_May.k7.step {cOp : Int} {cClient : Int} {cSeq : Int} {cKey : ByteArray} {cValue : ByteArray} {cOld : ByteArray} {H : Hp} {x6 : Bool} {Q : Value → Hp → Prop} (h : cmds_May.k7.body J0 cOp cClient cSeq cKey cValue cOld H x6 Q) : cmds_May.k7 J0 cOp cClient cSeq cKey cValue cOld H x6 Q := step_of (vMid Try.prog cmds_May.cf J0 cmds_May.fn [1, 1, 1, 0] [0, 1, 1, 1] 23 Q) (cmds_May.k7.st cOp cClient cSeq cKey cValue cOld H x6) (cmds_May.k7.eq J0 cOp cClient cSeq cKey cValue cOld H x6 Q) (by kernel_rfl) h
def cmds_May.vc (J : Jn) (cOp : Int) (cClient : Int) (cSeq : Int) (cKey : ByteArray) (cValue : ByteArray) (cOld : ByteArray) (H : Hp) (Q : Value → Hp → Prop) : Prop :=
 
 Br (decide (cOp < 0)) (
 cmds_May.k1 J cOp cClient cSeq cKey cValue cOld H true Q)
 (
 cmds_May.k1 J cOp cClient cSeq cKey cValue cOld H (decide (cOp ≥ 4)) Q)
theorem cmds_May.eq (J : Jn) (cOp : Int) (cClient : Int) (cSeq : Int) (cKey : ByteArray) (cValue : ByteArray) (cOld : ByteArray) (H : Hp) (Q : Value → Hp → Prop) : vFn Try.prog cmds_May.cf J cmds_May.fn [.agg #[.int .i64 cOp, .int .i64 cClient, .int .i64 cSeq, .string cKey, .string cValue, .string cOld]] H Q = cmds_May.vc J cOp cClient cSeq cKey cValue cOld H Q := by kernel_rfl
theorem cmds_May.calls {cOp : Int} {cClient : Int} {cSeq : Int} {cKey : ByteArray} {cValue : ByteArray} {cOld : ByteArray} {H : Hp} {Q : Value → Hp → Prop} (h : cmds_May.vc J0 cOp cClient cSeq cKey cValue cOld H Q) : SCalls Try.prog cmds_May.id [.agg #[.int .i64 cOp, .int .i64 cClient, .int .i64 cSeq, .string cKey, .string cValue, .string cOld]] H Q := vFn_of Try.mixed Try.func30 (cmds_May.eq J0 cOp cClient cSeq cKey cValue cOld H Q) h

end Go.Proofs
