/- THE SEAT'S CODE, AS WALKED, first half: for each function what is to be shown of it (printed by the own program gen.py), held by the kernel. -/
import Derived.Test.YtihadekhodlacaaProg
import Derived.Test.YtihadekhodlacaaKc13
set_option maxRecDepth 100000
set_option linter.all false
set_option linter.constructorNameAsVariable false
namespace Go.Proofs
open Go Go.KC
theorem Try.mixed : Try.prog.follows .mixedOrders = true := by kernel_rfl
abbrev tephralaw16_GhostLead.id : Nat := 3
noncomputable abbrev tephralaw16_GhostLead.fn : Func := Try.f3
abbrev tephralaw16_GhostKeeps.id : Nat := 4
noncomputable abbrev tephralaw16_GhostKeeps.fn : Func := Try.f4
abbrev tephralaw16_GhostAhead.id : Nat := 5
noncomputable abbrev tephralaw16_GhostAhead.fn : Func := Try.f5
abbrev tephralaw16_GhostState.id : Nat := 6
noncomputable abbrev tephralaw16_GhostState.fn : Func := Try.f6
abbrev tephralaw16_GhostScript.id : Nat := 7
noncomputable abbrev tephralaw16_GhostScript.fn : Func := Try.f7
abbrev tephralaw16_awake.id : Nat := 8
noncomputable abbrev tephralaw16_awake.fn : Func := Try.f8
abbrev ghost_Ghost_Lead.id : Nat := 9
noncomputable abbrev ghost_Ghost_Lead.fn : Func := Try.f9
abbrev ghost_Ghost_Leader.id : Nat := 10
noncomputable abbrev ghost_Ghost_Leader.fn : Func := Try.f10
abbrev ghost_Ghost_Wrong.id : Nat := 11
noncomputable abbrev ghost_Ghost_Wrong.fn : Func := Try.f11
abbrev ghost_Ghost_Len.id : Nat := 12
noncomputable abbrev ghost_Ghost_Len.fn : Func := Try.f12
abbrev tephralaw06_Entries.id : Nat := 13
noncomputable abbrev tephralaw06_Entries.fn : Func := Try.f13
abbrev ghost_Ghost_Commit.id : Nat := 14
noncomputable abbrev ghost_Ghost_Commit.fn : Func := Try.f14
abbrev ghost_Ghost_Log.id : Nat := 15
noncomputable abbrev ghost_Ghost_Log.fn : Func := Try.f15
abbrev ghost_Ghost_State.id : Nat := 16
noncomputable abbrev ghost_Ghost_State.fn : Func := Try.f16
abbrev state_Same.id : Nat := 17
noncomputable abbrev state_Same.fn : Func := Try.f17
abbrev state_Fold.id : Nat := 18
noncomputable abbrev state_Fold.fn : Func := Try.f18
abbrev tephralaw06_Say_Cmd.id : Nat := 19
noncomputable abbrev tephralaw06_Say_Cmd.fn : Func := Try.f19
abbrev sorted_Map_int_int_Get.id : Nat := 20
noncomputable abbrev sorted_Map_int_int_Get.fn : Func := Try.f20
abbrev sorted_Map_int_int_Put.id : Nat := 21
noncomputable abbrev sorted_Map_int_int_Put.fn : Func := Try.f21
abbrev slices_Clone_sl_api_Entry_api_Entry.id : Nat := 22
noncomputable abbrev slices_Clone_sl_api_Entry_api_Entry.fn : Func := Try.f22
abbrev state_Bytes.id : Nat := 23
noncomputable abbrev state_Bytes.fn : Func := Try.f23
abbrev state_Apply.id : Nat := 24
noncomputable abbrev state_Apply.fn : Func := Try.f24
abbrev sorted_Map_int_int_find.id : Nat := 25
noncomputable abbrev sorted_Map_int_int_find.fn : Func := Try.f25
abbrev slices_Insert_sl_sorted_item_int_int_sorted_item_int_int.id : Nat := 26
noncomputable abbrev slices_Insert_sl_sorted_item_int_int_sorted_item_int_int.fn : Func := Try.f26
abbrev pack_Writer_Num.id : Nat := 27
noncomputable abbrev pack_Writer_Num.fn : Func := Try.f27
abbrev state_PutRows.id : Nat := 28
noncomputable abbrev state_PutRows.fn : Func := Try.f28
abbrev pack_Writer_Bytes.id : Nat := 29
noncomputable abbrev pack_Writer_Bytes.fn : Func := Try.f29
abbrev cmds_Right.id : Nat := 30
noncomputable abbrev cmds_Right.fn : Func := Try.f30
abbrev state_sessions.id : Nat := 31
noncomputable abbrev state_sessions.fn : Func := Try.f31
abbrev sorted_Map_int_api_Session_Get.id : Nat := 32
noncomputable abbrev sorted_Map_int_api_Session_Get.fn : Func := Try.f32
abbrev state_pairs.id : Nat := 33
noncomputable abbrev state_pairs.fn : Func := Try.f33
abbrev state_do.id : Nat := 34
noncomputable abbrev state_do.fn : Func := Try.f34
abbrev state_rows.id : Nat := 35
noncomputable abbrev state_rows.fn : Func := Try.f35
abbrev sorted_Map_int_api_Session_Put.id : Nat := 36
noncomputable abbrev sorted_Map_int_api_Session_Put.fn : Func := Try.f36
abbrev sorted_Map_int_api_Session_All.id : Nat := 37
noncomputable abbrev sorted_Map_int_api_Session_All.fn : Func := Try.f37
abbrev slices_BinarySearchFunc_sl_sorted_item_int_int_sorted_item_int_int_int.id : Nat := 38
noncomputable abbrev slices_BinarySearchFunc_sl_sorted_item_int_int_sorted_item_int_int_int.fn : Func := Try.f38
abbrev sorted_Map_int_int_find_1.id : Nat := 39
noncomputable abbrev sorted_Map_int_int_find_1.fn : Func := Try.f39
abbrev cmp_Compare_int.id : Nat := 40
noncomputable abbrev cmp_Compare_int.fn : Func := Try.f40
abbrev slices_rotateRight_sorted_item_int_int.id : Nat := 42
noncomputable abbrev slices_rotateRight_sorted_item_int_int.fn : Func := Try.f42
abbrev pack_Writer_Text.id : Nat := 43
noncomputable abbrev pack_Writer_Text.fn : Func := Try.f43
abbrev pack_Writer_Byte.id : Nat := 44
noncomputable abbrev pack_Writer_Byte.fn : Func := Try.f44
abbrev cmds_May.id : Nat := 45
noncomputable abbrev cmds_May.fn : Func := Try.f45
abbrev sorted_Map_int_api_Session_find.id : Nat := 46
noncomputable abbrev sorted_Map_int_api_Session_find.fn : Func := Try.f46
abbrev sorted_Map_string_string_Put.id : Nat := 47
noncomputable abbrev sorted_Map_string_string_Put.fn : Func := Try.f47
abbrev sorted_Map_string_string_Get.id : Nat := 48
noncomputable abbrev sorted_Map_string_string_Get.fn : Func := Try.f48
abbrev sorted_Map_string_string_Len.id : Nat := 49
noncomputable abbrev sorted_Map_string_string_Len.fn : Func := Try.f49
abbrev sorted_Map_string_string_Del.id : Nat := 50
noncomputable abbrev sorted_Map_string_string_Del.fn : Func := Try.f50
abbrev sorted_Map_string_string_All.id : Nat := 51
noncomputable abbrev sorted_Map_string_string_All.fn : Func := Try.f51
abbrev slices_Insert_sl_sorted_item_int_api_Session_sorted_item_int_api_Session.id : Nat := 52
noncomputable abbrev slices_Insert_sl_sorted_item_int_api_Session_sorted_item_int_api_Session.fn : Func := Try.f52
abbrev sorted_Map_int_api_Session_All_1.id : Nat := 53
noncomputable abbrev sorted_Map_int_api_Session_All_1.fn : Func := Try.f53
abbrev cmp_isNaN_int.id : Nat := 54
noncomputable abbrev cmp_isNaN_int.fn : Func := Try.f54
abbrev slices_rotateLeft_sorted_item_int_int.id : Nat := 55
noncomputable abbrev slices_rotateLeft_sorted_item_int_int.fn : Func := Try.f55
abbrev slices_BinarySearchFunc_sl_sorted_item_int_api_Session_sorted_item_int_api_Session_int.id : Nat := 56
noncomputable abbrev slices_BinarySearchFunc_sl_sorted_item_int_api_Session_sorted_item_int_api_Session_int.fn : Func := Try.f56
abbrev sorted_Map_int_api_Session_find_1.id : Nat := 57
noncomputable abbrev sorted_Map_int_api_Session_find_1.fn : Func := Try.f57
abbrev sorted_Map_string_string_find.id : Nat := 58
noncomputable abbrev sorted_Map_string_string_find.fn : Func := Try.f58
abbrev slices_Insert_sl_sorted_item_string_string_sorted_item_string_string.id : Nat := 59
noncomputable abbrev slices_Insert_sl_sorted_item_string_string_sorted_item_string_string.fn : Func := Try.f59
abbrev slices_Delete_sl_sorted_item_string_string_sorted_item_string_string.id : Nat := 60
noncomputable abbrev slices_Delete_sl_sorted_item_string_string_sorted_item_string_string.fn : Func := Try.f60
abbrev sorted_Map_string_string_All_1.id : Nat := 61
noncomputable abbrev sorted_Map_string_string_All_1.fn : Func := Try.f61
abbrev slices_rotateRight_sorted_item_int_api_Session.id : Nat := 63
noncomputable abbrev slices_rotateRight_sorted_item_int_api_Session.fn : Func := Try.f63
abbrev slices_Reverse_sl_sorted_item_int_int_sorted_item_int_int.id : Nat := 64
noncomputable abbrev slices_Reverse_sl_sorted_item_int_int_sorted_item_int_int.fn : Func := Try.f64
abbrev slices_BinarySearchFunc_sl_sorted_item_string_string_sorted_item_string_string_string.id : Nat := 65
noncomputable abbrev slices_BinarySearchFunc_sl_sorted_item_string_string_sorted_item_string_string_string.fn : Func := Try.f65
abbrev sorted_Map_string_string_find_1.id : Nat := 66
noncomputable abbrev sorted_Map_string_string_find_1.fn : Func := Try.f66
abbrev cmp_Compare_string.id : Nat := 67
noncomputable abbrev cmp_Compare_string.fn : Func := Try.f67
abbrev slices_rotateRight_sorted_item_string_string.id : Nat := 69
noncomputable abbrev slices_rotateRight_sorted_item_string_string.fn : Func := Try.f69
abbrev slices_rotateLeft_sorted_item_int_api_Session.id : Nat := 70
noncomputable abbrev slices_rotateLeft_sorted_item_int_api_Session.fn : Func := Try.f70
abbrev cmp_isNaN_string.id : Nat := 71
noncomputable abbrev cmp_isNaN_string.fn : Func := Try.f71
abbrev slices_rotateLeft_sorted_item_string_string.id : Nat := 72
noncomputable abbrev slices_rotateLeft_sorted_item_string_string.fn : Func := Try.f72
abbrev slices_Reverse_sl_sorted_item_int_api_Session_sorted_item_int_api_Session.id : Nat := 73
noncomputable abbrev slices_Reverse_sl_sorted_item_int_api_Session_sorted_item_int_api_Session.fn : Func := Try.f73
abbrev slices_Reverse_sl_sorted_item_string_string_sorted_item_string_string.id : Nat := 74
noncomputable abbrev slices_Reverse_sl_sorted_item_string_string_sorted_item_string_string.fn : Func := Try.f74
abbrev T_ : Nat := 0
abbrev T_func : Nat := 1
abbrev T_int64 : Nat := 2
abbrev T_int : Nat := 3
abbrev T_bool : Nat := 4
abbrev T_uint8 : Nat := 5
abbrev T_abi_BoundsErrorCode : Nat := 6
abbrev T_struct_x_int64_y_int_signed_bool_code_abi_BoundsErrorCode : Nat := 7
abbrev T_runtime_boundsError : Nat := 8
abbrev T_string : Nat := 9
abbrev T_runtime_errorString : Nat := 10
abbrev T_runtime_plainError : Nat := 11
abbrev T_uintptr : Nat := 12
abbrev T_struct_msg_string_addr_uintptr : Nat := 13
abbrev T_runtime_errorAddressString : Nat := 14
abbrev T_p_runtime_TypeAssertionError : Nat := 15
abbrev T_p_runtime_PanicNilError : Nat := 16
abbrev T_p_abi_Type : Nat := 17
abbrev T_struct_typ_p_abi_Type : Nat := 18
abbrev T_maps_unhashableTypeError : Nat := 19
abbrev T_interface : Nat := 20
abbrev T_int32 : Nat := 21
abbrev T_sl_uint8 : Nat := 22
abbrev T_func_bool : Nat := 23
abbrev T_p_ghost_Ghost : Nat := 24
abbrev T_sl_api_Entry : Nat := 25
abbrev T_sl_sorted_item_int_int : Nat := 26
abbrev T_struct_items_sl_sorted_item_int_int : Nat := 27
abbrev T_sorted_Map_int_int : Nat := 28
abbrev T_struct_log_sl_api_Entry_leaders_sorted_Map_int_int_wrong_boo : Nat := 29
abbrev T_ghost_Ghost : Nat := 30
abbrev T_func_int_int_bool : Nat := 31
abbrev T_int_bool : Nat := 32
abbrev T_func_int_int_bool_33 : Nat := 33
abbrev T_func_int : Nat := 34
abbrev T_func_sl_uint8_uint8_bool : Nat := 35
abbrev T_sl_tephralaw06_Say : Nat := 36
abbrev T_api_Op : Nat := 37
abbrev T_struct_Op_api_Op_Client_int_Seq_int_Key_string_Value_string_ : Nat := 38
abbrev T_api_Cmd : Nat := 39
abbrev T_struct_Index_int_Term_int_Cmd_api_Cmd : Nat := 40
abbrev T_api_Entry : Nat := 41
abbrev T_func_sl_tephralaw06_Say_int_int_sl_api_Entry : Nat := 42
abbrev T_func_api_Entry_bool : Nat := 43
abbrev T_func_sl_api_Entry : Nat := 44
abbrev T_func_sl_tephralaw06_Say_api_Entry_bool : Nat := 45
abbrev T_func_sl_tephralaw06_Say_uint8_bool : Nat := 46
abbrev T_sl_api_Pair : Nat := 47
abbrev T_sl_api_Session : Nat := 48
abbrev T_struct_Index_int_Term_int_Pairs_sl_api_Pair_Sessions_sl_api_ : Nat := 49
abbrev T_api_State : Nat := 50
abbrev T_api_State_bool : Nat := 51
abbrev T_func_int_api_State_bool : Nat := 52
abbrev T_func_api_State_api_State_bool : Nat := 53
abbrev T_func_api_State_sl_api_Entry_api_State : Nat := 54
abbrev T_sl_tephralaw16_Act : Nat := 55
abbrev T_int8 : Nat := 56
abbrev T_map_int_int : Nat := 57
abbrev T_struct_Op_uint8_Client_uint8_Seq_uint8_Key_uint8_Value_uint8 : Nat := 58
abbrev T_tephralaw06_Say : Nat := 59
abbrev T_struct_Lead_bool_N_uint8_ID_uint8_Say_tephralaw06_Say : Nat := 60
abbrev T_tephralaw16_Act : Nat := 61
abbrev T_func_api_Cmd : Nat := 62
abbrev T_func_sl_tephralaw16_Act_int8_bool : Nat := 63
abbrev T_func_sl_api_Entry_sl_api_Entry : Nat := 64
abbrev T_func_api_State_sl_uint8 : Nat := 65
abbrev T_api_Errno : Nat := 66
abbrev T_struct_Err_api_Errno_Value_string : Nat := 67
abbrev T_api_Reply : Nat := 68
abbrev T_api_State_api_Reply : Nat := 69
abbrev T_func_api_State_api_Entry_api_State_api_Reply : Nat := 70
abbrev T_p_sorted_Map_int_int : Nat := 71
abbrev T_struct_key_int_value_int : Nat := 72
abbrev T_sorted_item_int_int : Nat := 73
abbrev T_func_sl_sorted_item_int_int_int_sorted_item_int_int_sl_sorte : Nat := 74
abbrev T_p_pack_Writer : Nat := 75
abbrev T_struct_b_sl_uint8 : Nat := 76
abbrev T_pack_Writer : Nat := 77
abbrev T_func_int_p_pack_Writer : Nat := 78
abbrev T_func_p_pack_Writer_sl_api_Pair_sl_api_Session : Nat := 79
abbrev T_func_sl_uint8 : Nat := 80
abbrev T_p_sorted_Map_int_api_Session : Nat := 81
abbrev T_func_api_State_p_sorted_Map_int_api_Session : Nat := 82
abbrev T_struct_Client_int_Seq_int_Reply_api_Reply : Nat := 83
abbrev T_api_Session : Nat := 84
abbrev T_api_Session_bool : Nat := 85
abbrev T_func_int_api_Session_bool : Nat := 86
abbrev T_p_sorted_Map_string_string : Nat := 87
abbrev T_func_api_State_p_sorted_Map_string_string : Nat := 88
abbrev T_func_p_sorted_Map_string_string_api_Cmd_api_Reply : Nat := 89
abbrev T_func_p_sorted_Map_string_string_sl_api_Pair : Nat := 90
abbrev T_func_int_api_Session_bool_91 : Nat := 91
abbrev T_func_func_int_api_Session_bool : Nat := 92
abbrev T_iter_Seq2_int_api_Session : Nat := 93
abbrev T_func_iter_Seq2_int_api_Session : Nat := 94
abbrev T_func_sl_sorted_item_int_int_int_func_sorted_item_int_int_int : Nat := 95
abbrev T_func_int_int_int : Nat := 96
abbrev T_func_sorted_item_int_int_int_int : Nat := 97
abbrev T_func_sl_sorted_item_int_int_sl_sorted_item_int_int_bool : Nat := 98
abbrev T_func_sl_sorted_item_int_int_int : Nat := 99
abbrev T_struct_Key_string_Value_string_Gone_bool : Nat := 100
abbrev T_api_Pair : Nat := 101
abbrev T_func_string_p_pack_Writer : Nat := 102
abbrev T_func_uint8_p_pack_Writer : Nat := 103
abbrev T_func_api_Cmd_bool : Nat := 104
abbrev T_sl_sorted_item_int_api_Session : Nat := 105
abbrev T_struct_items_sl_sorted_item_int_api_Session : Nat := 106
abbrev T_sorted_Map_int_api_Session : Nat := 107
abbrev T_struct_key_int_value_api_Session : Nat := 108
abbrev T_sorted_item_int_api_Session : Nat := 109
abbrev T_sl_sorted_item_string_string : Nat := 110
abbrev T_struct_items_sl_sorted_item_string_string : Nat := 111
abbrev T_sorted_Map_string_string : Nat := 112
abbrev T_func_string_string_bool : Nat := 113
abbrev T_string_bool : Nat := 114
abbrev T_func_string_string_bool_115 : Nat := 115
abbrev T_func_string_bool : Nat := 116
abbrev T_func_func_string_string_bool : Nat := 117
abbrev T_iter_Seq2_string_string : Nat := 118
abbrev T_func_iter_Seq2_string_string : Nat := 119
abbrev T_func_sl_sorted_item_int_api_Session_int_sorted_item_int_api_ : Nat := 120
abbrev T_uint : Nat := 121
abbrev T_func_int_bool : Nat := 122
abbrev T_func_sl_sorted_item_int_api_Session_int_func_sorted_item_int : Nat := 123
abbrev T_func_sorted_item_int_api_Session_int_int : Nat := 124
abbrev T_func_string_int_bool : Nat := 125
abbrev T_struct_key_string_value_string : Nat := 126
abbrev T_sorted_item_string_string : Nat := 127
abbrev T_func_sl_sorted_item_string_string_int_sorted_item_string_str : Nat := 128
abbrev T_func_sl_sorted_item_string_string_int_int_sl_sorted_item_str : Nat := 129
abbrev T_func_sl_sorted_item_int_api_Session_sl_sorted_item_int_api_S : Nat := 130
abbrev T_func_sl_sorted_item_int_api_Session_int : Nat := 131
abbrev T_func_sl_sorted_item_int_int : Nat := 132
abbrev T_func_sl_sorted_item_string_string_string_func_sorted_item_st : Nat := 133
abbrev T_func_string_string_int : Nat := 134
abbrev T_func_sorted_item_string_string_string_int : Nat := 135
abbrev T_func_sl_sorted_item_string_string_sl_sorted_item_string_stri : Nat := 136
abbrev T_func_sl_sorted_item_string_string_int : Nat := 137
abbrev T_func_sl_sorted_item_int_api_Session : Nat := 138
abbrev T_func_sl_sorted_item_string_string : Nat := 139
abbrev T_func_string : Nat := 140
abbrev T_struct__interface_p_abi_Type_concrete_p_abi_Type_asserted_p_ : Nat := 141
abbrev T_runtime_TypeAssertionError : Nat := 142
abbrev T_0_p_runtime_PanicNilError : Nat := 143
abbrev T_struct___0_p_runtime_PanicNilError : Nat := 144
abbrev T_runtime_PanicNilError : Nat := 145
abbrev T_uint32 : Nat := 146
abbrev T_abi_TFlag : Nat := 147
abbrev T_abi_Kind : Nat := 148
abbrev T_func_unsafe_Pointer_unsafe_Pointer_bool : Nat := 149
abbrev T_p_uint8 : Nat := 150
abbrev T_abi_NameOff : Nat := 151
abbrev T_abi_TypeOff : Nat := 152
abbrev T_struct_Size__uintptr_PtrBytes_uintptr_Hash_uint32_TFlag_abi_ : Nat := 153
abbrev T_abi_Type : Nat := 154
abbrev T_func_iter_Seq2_int_int : Nat := 155
abbrev T_unsafe_Pointer : Nat := 156
abbrev T_func_func_int_int_bool : Nat := 157
abbrev T_iter_Seq2_int_int : Nat := 158

/-! 6: tephra/tephralaw16.GhostState -/
noncomputable def tephralaw16_GhostState.cf : Cfg := ⟨[8, 10, 12, 1000003], [(6, [1, 5, 6, 20, 21, 22])], [(9, [1, 5, 6, 20, 21, 22, 35], true)], [], true⟩
noncomputable def tephralaw16_GhostState.l1.st (atv : Int) (b : Nat) (x1 : Sl) (H4 : Hp) (x2 : Int) : VS := ⟨mkFr 87 [(1, .v (.int .u8 atv)), (5, .v (.pointer (some (Addr.mk b 0 none)))), (6, .v (.slice x1.a x1.len x1.cap)), (20, .v (.slice x1.a x1.len x1.cap)), (21, .v (.int .i64 ((x1.len : Nat) : Int))), (22, .v (.int .i64 x2))], [], H4⟩
noncomputable def tephralaw16_GhostState.l1 (J : Jn) (atv : Int) (b : Nat) (x1 : Sl) (H4 : Hp) (x2 : Int) (Q : Value → Hp → Prop) : Prop := vAt Try.prog tephralaw16_GhostState.cf J tephralaw16_GhostState.fn [1, 1, 1, 1, 0, 1, 0] [0, 0, 0, 0, 0, 0] Q (tephralaw16_GhostState.l1.st atv b x1 H4 x2)
noncomputable def tephralaw16_GhostState.k1.st (atv : Int) (b : Nat) (x1 : Sl) (x2 : Int) (Index : Int) (Term : Int) (CmdOp : Int) (CmdClient : Int) (CmdSeq : Int) (CmdKey : ByteArray) (CmdValue : ByteArray) (CmdOld : ByteArray) (x5 : Bool) (H8 : Hp) : VS := ⟨mkFr 87 [(1, .v (.int .u8 atv)), (5, .v (.pointer (some (Addr.mk b 0 none)))), (6, .v (.slice x1.a x1.len x1.cap)), (20, .v (.slice x1.a x1.len x1.cap)), (21, .v (.int .i64 ((x1.len : Nat) : Int))), (22, .v (.int .i64 x2)), (35, .v (.bool x5))], [(T_api_Entry, [.int .i64 Index, .int .i64 Term, .int .i64 CmdOp, .int .i64 CmdClient, .int .i64 CmdSeq, .string CmdKey, .string CmdValue, .string CmdOld])], H8⟩
noncomputable def tephralaw16_GhostState.k1 (J : Jn) (atv : Int) (b : Nat) (x1 : Sl) (x2 : Int) (Index : Int) (Term : Int) (CmdOp : Int) (CmdClient : Int) (CmdSeq : Int) (CmdKey : ByteArray) (CmdValue : ByteArray) (CmdOld : ByteArray) (x5 : Bool) (H8 : Hp) (Q : Value → Hp → Prop) : Prop := J (vSeg Try.prog tephralaw16_GhostState.cf J tephralaw16_GhostState.fn [1, 1, 1, 1, 0, 1, 0, 0, 1, 1, 0, 0, 1, 1] [0, 0, 0, 0, 0, 0, 0, 0, 0, 0, 0, 1] Q) (tephralaw16_GhostState.k1.st atv b x1 x2 Index Term CmdOp CmdClient CmdSeq CmdKey CmdValue CmdOld x5 H8)
attribute [irreducible] tephralaw16_GhostState.l1 tephralaw16_GhostState.k1
noncomputable def tephralaw16_GhostState.l1.body (J : Jn) (atv : Int) (b : Nat) (x1 : Sl) (H4 : Hp) (x2 : Int) (Q : Value → Hp → Prop) : Prop :=
 
 Br (decide (x2 < ((x1.len : Nat) : Int))) (((0 : Int) ≤ x2 ∧ x2 < ((x1.len : Nat) : Int)) ∧ vPtr x1.a (fun a => ∃ Index : Int, ∃ Term : Int, ∃ CmdOp : Int, ∃ CmdClient : Int, ∃ CmdSeq : Int, ∃ CmdKey : ByteArray, ∃ CmdValue : ByteArray, ∃ CmdOld : ByteArray, RowAt H4 (a.add ((x2 : Int).toNat * 8)) [.int .i64 Index, .int .i64 Term, .int .i64 CmdOp, .int .i64 CmdClient, .int .i64 CmdSeq, .string CmdKey, .string CmdValue, .string CmdOld] ∧ ∀ H5 : Hp, H5 = (holes H4 1) → 
 SCalls Try.prog ghost_Ghost_Commit.id [.pointer (some (Addr.mk b 0 none)), .agg #[.int .i64 Index, .int .i64 Term, .int .i64 CmdOp, .int .i64 CmdClient, .int .i64 CmdSeq, .string CmdKey, .string CmdValue, .string CmdOld]] H5 (fun r2 H6 => ∃ x3 : Bool, r2 = .bool x3 ∧ 
 Br (!x3) (
 tephralaw16_GhostState.k1 J atv b x1 x2 Index Term CmdOp CmdClient CmdSeq CmdKey CmdValue CmdOld true H6 Q)
 (
 SCalls Try.prog ghost_Ghost_Commit.id [.pointer (some (Addr.mk b 0 none)), .agg #[.int .i64 Index, .int .i64 Term, .int .i64 CmdOp, .int .i64 CmdClient, .int .i64 CmdSeq, .string CmdKey, .string CmdValue, .string CmdOld]] H6 (fun r3 H7 => ∃ x4 : Bool, r3 = .bool x4 ∧ 
 tephralaw16_GhostState.k1 J atv b x1 x2 Index Term CmdOp CmdClient CmdSeq CmdKey CmdValue CmdOld (!x4) H7 Q)))))
 (((w64 (((x1.len : Nat) : Int) + 1)) : Int) ≠ 0 ∧ 
 SCalls Try.prog ghost_Ghost_State.id [.pointer (some (Addr.mk b 0 none)), .int .i64 (Int.tmod (w64 (atv)) (w64 (((x1.len : Nat) : Int) + 1)))] H4 (fun r4 H9 => ∃ Index1 : Int, ∃ Term1 : Int, ∃ Pairs : Sl, ∃ Sessions : Sl, ∃ x6 : Bool, r4 = .tuple #[.agg #[.int .i64 Index1, .int .i64 Term1, .slice Pairs.a Pairs.len Pairs.cap, .slice Sessions.a Sessions.len Sessions.cap], .bool x6] ∧ ∀ H10 : Hp, H10 = (holes H9 1) → 
 SCalls Try.prog ghost_Ghost_State.id [.pointer (some (Addr.mk b 0 none)), .int .i64 (w64 (((x1.len : Nat) : Int) + 1))] H10 (fun r5 H11 => ∃ Index2 : Int, ∃ Term2 : Int, ∃ Pairs1 : Sl, ∃ Sessions1 : Sl, ∃ x7 : Bool, r5 = .tuple #[.agg #[.int .i64 Index2, .int .i64 Term2, .slice Pairs1.a Pairs1.len Pairs1.cap, .slice Sessions1.a Sessions1.len Sessions1.cap], .bool x7] ∧ ∀ H12 : Hp, H12 = (holes H11 1) → 
 Br x6 (
 Br (Index1 == (Int.tmod (w64 (atv)) (w64 (((x1.len : Nat) : Int) + 1)))) (
 Br (!x7) (
 Br (Index2 == 0) (
 SCalls Try.prog ghost_Ghost_Wrong.id [.pointer (some (Addr.mk b 0 none))] H12 (fun r6 H13 => ∃ x8 : Bool, r6 = .bool x8 ∧ 
 Br (!x8) (((0 : Int) ≤ (Int.tmod (w64 (atv)) (w64 (((x1.len : Nat) : Int) + 1))) ∧ (Int.tmod (w64 (atv)) (w64 (((x1.len : Nat) : Int) + 1))) ≤ ((x1.cap : Nat) : Int)) ∧ 
 SCalls Try.prog state_Fold.id [.agg #[.int .i64 0, .int .i64 0, .slice none 0 0, .slice none 0 0], .slice (cutA x1.a x1.cap 0 8) (((Int.tmod (w64 (atv)) (w64 (((x1.len : Nat) : Int) + 1))) : Int).toNat) x1.cap] H13 (fun r7 H14 => ∃ Index3 : Int, ∃ Term3 : Int, ∃ Pairs2 : Sl, ∃ Sessions2 : Sl, r7 = .agg #[.int .i64 Index3, .int .i64 Term3, .slice Pairs2.a Pairs2.len Pairs2.cap, .slice Sessions2.a Sessions2.len Sessions2.cap] ∧ 
 SCalls Try.prog state_Same.id [.agg #[.int .i64 Index1, .int .i64 Term1, .slice Pairs.a Pairs.len Pairs.cap, .slice Sessions.a Sessions.len Sessions.cap], .agg #[.int .i64 Index3, .int .i64 Term3, .slice Pairs2.a Pairs2.len Pairs2.cap, .slice Sessions2.a Sessions2.len Sessions2.cap]] H14 (fun r8 H15 => ∃ x9 : Bool, r8 = .bool x9 ∧ Q (.bool x9) H15)))
 (Q (.bool false) H13)))
 (Q (.bool false) H12))
 (Q (.bool false) H12))
 (Q (.bool false) H12))
 (Q (.bool false) H12))))
theorem tephralaw16_GhostState.l1.eq (J : Jn) (atv : Int) (b : Nat) (x1 : Sl) (H4 : Hp) (x2 : Int) (Q : Value → Hp → Prop) : vAtBody Try.prog tephralaw16_GhostState.cf J tephralaw16_GhostState.fn [1, 1, 1, 1, 0, 1, 0] [0, 0, 0, 0, 0, 0] Q (tephralaw16_GhostState.l1.st atv b x1 H4 x2) = tephralaw16_GhostState.l1.body J atv b x1 H4 x2 Q := by kernel_rfl
theorem tephralaw16_GhostState.l1.step {atv : Int} {b : Nat} {x1 : Sl} {H4 : Hp} {x2 : Int} {Q : Value → Hp → Prop} (h : tephralaw16_GhostState.l1.body J0 atv b x1 H4 x2 Q) : tephralaw16_GhostState.l1 J0 atv b x1 H4 x2 Q := vAt_stepC (tephralaw16_GhostState.l1.st atv b x1 H4 x2) (tephralaw16_GhostState.l1.eq J0 atv b x1 H4 x2 Q) (by kernel_rfl) h
noncomputable def tephralaw16_GhostState.k1.body (J : Jn) (atv : Int) (b : Nat) (x1 : Sl) (x2 : Int) (Index : Int) (Term : Int) (CmdOp : Int) (CmdClient : Int) (CmdSeq : Int) (CmdKey : ByteArray) (CmdValue : ByteArray) (CmdOld : ByteArray) (x5 : Bool) (H8 : Hp) (Q : Value → Hp → Prop) : Prop :=
 
 Br x5 (Q (.bool false) H8)
 (
 tephralaw16_GhostState.l1 J atv b x1 H8 (w64 (x2 + 1)) Q)
theorem tephralaw16_GhostState.k1.eq (J : Jn) (atv : Int) (b : Nat) (x1 : Sl) (x2 : Int) (Index : Int) (Term : Int) (CmdOp : Int) (CmdClient : Int) (CmdSeq : Int) (CmdKey : ByteArray) (CmdValue : ByteArray) (CmdOld : ByteArray) (x5 : Bool) (H8 : Hp) (Q : Value → Hp → Prop) : vSeg Try.prog tephralaw16_GhostState.cf J tephralaw16_GhostState.fn [1, 1, 1, 1, 0, 1, 0, 0, 1, 1, 0, 0, 1, 1] [0, 0, 0, 0, 0, 0, 0, 0, 0, 0, 0, 1] Q (tephralaw16_GhostState.k1.st atv b x1 x2 Index Term CmdOp CmdClient CmdSeq CmdKey CmdValue CmdOld x5 H8) = tephralaw16_GhostState.k1.body J atv b x1 x2 Index Term CmdOp CmdClient CmdSeq CmdKey CmdValue CmdOld x5 H8 Q := by kernel_rfl
theorem tephralaw16_GhostState.k1.step {atv : Int} {b : Nat} {x1 : Sl} {x2 : Int} {Index : Int} {Term : Int} {CmdOp : Int} {CmdClient : Int} {CmdSeq : Int} {CmdKey : ByteArray} {CmdValue : ByteArray} {CmdOld : ByteArray} {x5 : Bool} {H8 : Hp} {Q : Value → Hp → Prop} (h : tephralaw16_GhostState.k1.body J0 atv b x1 x2 Index Term CmdOp CmdClient CmdSeq CmdKey CmdValue CmdOld x5 H8 Q) : tephralaw16_GhostState.k1 J0 atv b x1 x2 Index Term CmdOp CmdClient CmdSeq CmdKey CmdValue CmdOld x5 H8 Q := step_of (vSeg Try.prog tephralaw16_GhostState.cf J0 tephralaw16_GhostState.fn [1, 1, 1, 1, 0, 1, 0, 0, 1, 1, 0, 0, 1, 1] [0, 0, 0, 0, 0, 0, 0, 0, 0, 0, 0, 1] Q) (tephralaw16_GhostState.k1.st atv b x1 x2 Index Term CmdOp CmdClient CmdSeq CmdKey CmdValue CmdOld x5 H8) (tephralaw16_GhostState.k1.eq J0 atv b x1 x2 Index Term CmdOp CmdClient CmdSeq CmdKey CmdValue CmdOld x5 H8 Q) (by kernel_rfl) h
noncomputable def tephralaw16_GhostState.vc (J : Jn) (says : Sl) (atv : Int) (H : Hp) (Q : Value → Hp → Prop) : Prop :=
 
 SCalls Try.prog tephralaw16_awake.id [] H (fun r H1 => ∃ x : Bool, r = .bool x ∧ 
 Br (!x) (Q (.bool false) H1)
 (∀ b : Nat, b = Array.size H1 → ∀ H2 : Hp, H2 = (Array.push H1 (.cells #[.slice none 0 0, .slice none 0 0, .bool false] T_ghost_Ghost)) → 
 SCalls Try.prog tephralaw06_Entries.id [.slice says.a says.len says.cap, .int .i64 1, .int .i64 0] H2 (fun r1 H3 => ∃ x1 : Sl, r1 = .slice x1.a x1.len x1.cap ∧ 
 tephralaw16_GhostState.l1 J atv b x1 H3 0 Q)))
theorem tephralaw16_GhostState.eq (J : Jn) (says : Sl) (atv : Int) (H : Hp) (Q : Value → Hp → Prop) : vFn Try.prog tephralaw16_GhostState.cf J tephralaw16_GhostState.fn [.slice says.a says.len says.cap, .int .u8 atv] H Q = tephralaw16_GhostState.vc J says atv H Q := by kernel_rfl
theorem tephralaw16_GhostState.calls {says : Sl} {atv : Int} {H : Hp} {Q : Value → Hp → Prop} (h : tephralaw16_GhostState.vc J0 says atv H Q) : SCalls Try.prog tephralaw16_GhostState.id [.slice says.a says.len says.cap, .int .u8 atv] H Q := vFn_of Try.mixed Try.func6 (tephralaw16_GhostState.eq J0 says atv H Q) h

/-! 7: tephra/tephralaw16.GhostScript -/
noncomputable def tephralaw16_GhostScript.cf : Cfg := ⟨[10, 16, 25, 1000003], [(8, [1, 5, 6, 7, 8, 36, 37, 38]), (35, [1, 5, 6, 7, 18, 188, 189]), (41, [1, 5, 6, 7, 20])], [(12, [1, 5, 6, 7, 8, 11, 12, 36, 37, 38], true), (14, [1, 5, 6, 7, 8, 11, 12, 14, 15, 36, 37, 38], true), (16, [1, 5, 6, 7, 8, 11, 12, 15, 36, 37, 38], true), (19, [1, 5, 6, 7, 8, 10, 36, 37, 38], true), (20, [1, 5, 6, 7, 8, 10, 16, 36, 37, 38], false), (22, [1, 5, 6, 7, 8, 10, 16, 36, 37, 38], true), (24, [1, 5, 6, 7, 8, 16, 36, 37, 38], true), (25, [1, 5, 6, 7, 8, 16, 17, 36, 37, 38], true), (27, [1, 5, 6, 7, 8, 16, 17, 36, 37, 38], true), (30, [1, 5, 6, 7, 8, 36, 37, 38], true), (33, [1, 5, 6, 7, 18, 186], true), (38, [1, 5, 6, 7, 18, 188, 189, 200], true), (46, [1, 5, 6, 7, 20, 225], true), (49, [1, 6, 25, 26, 241], true)], [(180, [1, 5, 6, 7, 8, 18, 180]), (248, [25, 248])], true⟩
noncomputable def tephralaw16_GhostScript.l1.st (acts : Sl) (index : Int) (b : Nat) (b1 : Nat) (H4 : Hp) (log : Sl) (wrong : Bool) (x1 : Int) : VS := ⟨mkFr 265 [(1, .v (.int .i8 index)), (5, .v (.pointer (some (Addr.mk b 0 none)))), (6, .v (.slice log.a log.len log.cap)), (7, .v (.map (some b1))), (8, .v (.bool wrong)), (36, .v (.slice (cutA acts.a acts.cap 0 9) (((if (100 : Int) < ((acts.len : Nat) : Int) then 100 else ((acts.len : Nat) : Int)) : Int).toNat) acts.cap)), (37, .v (.int .i64 (((((if (100 : Int) < ((acts.len : Nat) : Int) then 100 else ((acts.len : Nat) : Int)) : Int).toNat) : Nat) : Int))), (38, .v (.int .i64 x1))], [], H4⟩
noncomputable def tephralaw16_GhostScript.l1 (J : Jn) (acts : Sl) (index : Int) (b : Nat) (b1 : Nat) (H4 : Hp) (log : Sl) (wrong : Bool) (x1 : Int) (Q : Value → Hp → Prop) : Prop := vAt Try.prog tephralaw16_GhostScript.cf J tephralaw16_GhostScript.fn [1, 1, 1, 1, 1, 1, 0, 1, 0] [0, 0, 0, 0, 0, 0, 0, 0] Q (tephralaw16_GhostScript.l1.st acts index b b1 H4 log wrong x1)
noncomputable def tephralaw16_GhostScript.k1.st (acts : Sl) (index : Int) (b : Nat) (b1 : Nat) (log : Sl) (wrong : Bool) (x1 : Int) (Lead : Bool) (N : Int) (ID : Int) (SayOp : Int) (SayClient : Int) (SaySeq : Int) (SayKey : Int) (SayValue : Int) (SayOld : Int) (H5 : Hp) : VS := ⟨mkFr 265 [(1, .v (.int .i8 index)), (5, .v (.pointer (some (Addr.mk b 0 none)))), (6, .v (.slice log.a log.len log.cap)), (7, .v (.map (some b1))), (8, .v (.bool wrong)), (11, .v (.int .i64 (w64 ((Int.tmod N 9))))), (12, .v (.int .i64 (w64 ((Int.tmod ID 3))))), (36, .v (.slice (cutA acts.a acts.cap 0 9) (((if (100 : Int) < ((acts.len : Nat) : Int) then 100 else ((acts.len : Nat) : Int)) : Int).toNat) acts.cap)), (37, .v (.int .i64 (((((if (100 : Int) < ((acts.len : Nat) : Int) then 100 else ((acts.len : Nat) : Int)) : Int).toNat) : Nat) : Int))), (38, .v (.int .i64 x1))], [(T_tephralaw16_Act, [.bool Lead, .int .u8 N, .int .u8 ID, .int .u8 SayOp, .int .u8 SayClient, .int .u8 SaySeq, .int .u8 SayKey, .int .u8 SayValue, .int .u8 SayOld])], H5⟩
noncomputable def tephralaw16_GhostScript.k1 (J : Jn) (acts : Sl) (index : Int) (b : Nat) (b1 : Nat) (log : Sl) (wrong : Bool) (x1 : Int) (Lead : Bool) (N : Int) (ID : Int) (SayOp : Int) (SayClient : Int) (SaySeq : Int) (SayKey : Int) (SayValue : Int) (SayOld : Int) (H5 : Hp) (Q : Value → Hp → Prop) : Prop := J (vSeg Try.prog tephralaw16_GhostScript.cf J tephralaw16_GhostScript.fn [1, 1, 1, 1, 1, 1, 0, 1, 0, 0, 1, 1, 0, 0, 1, 0, 1, 0, 1] [0, 0, 0, 0, 0, 0, 0, 0, 0, 0, 0, 0, 0, 1, 1, 1] Q) (tephralaw16_GhostScript.k1.st acts index b b1 log wrong x1 Lead N ID SayOp SayClient SaySeq SayKey SayValue SayOld H5)
noncomputable def tephralaw16_GhostScript.k2.st (acts : Sl) (index : Int) (b : Nat) (b1 : Nat) (log : Sl) (wrong : Bool) (x1 : Int) (Lead : Bool) (N : Int) (ID : Int) (SayOp : Int) (SayClient : Int) (SaySeq : Int) (SayKey : Int) (SayValue : Int) (SayOld : Int) (H5 : Hp) (ok : Bool) (ok1 : Bool) : VS := ⟨mkFr 265 [(1, .v (.int .i8 index)), (5, .v (.pointer (some (Addr.mk b 0 none)))), (6, .v (.slice log.a log.len log.cap)), (7, .v (.map (some b1))), (8, .v (.bool wrong)), (11, .v (.int .i64 (w64 ((Int.tmod N 9))))), (12, .v (.int .i64 (w64 ((Int.tmod ID 3))))), (14, .v (.bool ok)), (15, .v (.bool ok1)), (36, .v (.slice (cutA acts.a acts.cap 0 9) (((if (100 : Int) < ((acts.len : Nat) : Int) then 100 else ((acts.len : Nat) : Int)) : Int).toNat) acts.cap)), (37, .v (.int .i64 (((((if (100 : Int) < ((acts.len : Nat) : Int) then 100 else ((acts.len : Nat) : Int)) : Int).toNat) : Nat) : Int))), (38, .v (.int .i64 x1))], [(T_tephralaw16_Act, [.bool Lead, .int .u8 N, .int .u8 ID, .int .u8 SayOp, .int .u8 SayClient, .int .u8 SaySeq, .int .u8 SayKey, .int .u8 SayValue, .int .u8 SayOld])], H5⟩
noncomputable def tephralaw16_GhostScript.k2 (J : Jn) (acts : Sl) (index : Int) (b : Nat) (b1 : Nat) (log : Sl) (wrong : Bool) (x1 : Int) (Lead : Bool) (N : Int) (ID : Int) (SayOp : Int) (SayClient : Int) (SaySeq : Int) (SayKey : Int) (SayValue : Int) (SayOld : Int) (H5 : Hp) (ok : Bool) (ok1 : Bool) (Q : Value → Hp → Prop) : Prop := J (vSeg Try.prog tephralaw16_GhostScript.cf J tephralaw16_GhostScript.fn [1, 1, 1, 1, 1, 1, 0, 1, 0, 0, 1, 1, 0, 0, 1, 0, 1, 0, 1, 1, 1] [0, 0, 0, 0, 0, 0, 0, 0, 0, 0, 0, 0, 0, 1, 1, 1, 1, 1] Q) (tephralaw16_GhostScript.k2.st acts index b b1 log wrong x1 Lead N ID SayOp SayClient SaySeq SayKey SayValue SayOld H5 ok ok1)
noncomputable def tephralaw16_GhostScript.k3.st (acts : Sl) (index : Int) (b : Nat) (b1 : Nat) (log : Sl) (wrong : Bool) (x1 : Int) (Lead : Bool) (N : Int) (ID : Int) (SayOp : Int) (SayClient : Int) (SaySeq : Int) (SayKey : Int) (SayValue : Int) (SayOld : Int) (ok1 : Bool) (H7 : Hp) : VS := ⟨mkFr 265 [(1, .v (.int .i8 index)), (5, .v (.pointer (some (Addr.mk b 0 none)))), (6, .v (.slice log.a log.len log.cap)), (7, .v (.map (some b1))), (8, .v (.bool wrong)), (11, .v (.int .i64 (w64 ((Int.tmod N 9))))), (12, .v (.int .i64 (w64 ((Int.tmod ID 3))))), (15, .v (.bool ok1)), (36, .v (.slice (cutA acts.a acts.cap 0 9) (((if (100 : Int) < ((acts.len : Nat) : Int) then 100 else ((acts.len : Nat) : Int)) : Int).toNat) acts.cap)), (37, .v (.int .i64 (((((if (100 : Int) < ((acts.len : Nat) : Int) then 100 else ((acts.len : Nat) : Int)) : Int).toNat) : Nat) : Int))), (38, .v (.int .i64 x1))], [(T_tephralaw16_Act, [.bool Lead, .int .u8 N, .int .u8 ID, .int .u8 SayOp, .int .u8 SayClient, .int .u8 SaySeq, .int .u8 SayKey, .int .u8 SayValue, .int .u8 SayOld])], H7⟩
noncomputable def tephralaw16_GhostScript.k3 (J : Jn) (acts : Sl) (index : Int) (b : Nat) (b1 : Nat) (log : Sl) (wrong : Bool) (x1 : Int) (Lead : Bool) (N : Int) (ID : Int) (SayOp : Int) (SayClient : Int) (SaySeq : Int) (SayKey : Int) (SayValue : Int) (SayOld : Int) (ok1 : Bool) (H7 : Hp) (Q : Value → Hp → Prop) : Prop := J (vSeg Try.prog tephralaw16_GhostScript.cf J tephralaw16_GhostScript.fn [1, 1, 1, 1, 1, 1, 0, 1, 0, 0, 1, 1, 0, 0, 1, 0, 1, 0, 1, 1, 1, 1] [0, 0, 0, 0, 0, 0, 0, 0, 0, 0, 0, 0, 0, 1, 1, 1, 1, 1, 1] Q) (tephralaw16_GhostScript.k3.st acts index b b1 log wrong x1 Lead N ID SayOp SayClient SaySeq SayKey SayValue SayOld ok1 H7)
noncomputable def tephralaw16_GhostScript.k4.st (acts : Sl) (index : Int) (b : Nat) (b1 : Nat) (log : Sl) (wrong : Bool) (x1 : Int) (Lead : Bool) (N : Int) (ID : Int) (SayOp : Int) (SayClient : Int) (SaySeq : Int) (SayKey : Int) (SayValue : Int) (SayOld : Int) (H5 : Hp) : VS := ⟨mkFr 265 [(1, .v (.int .i8 index)), (5, .v (.pointer (some (Addr.mk b 0 none)))), (6, .v (.slice log.a log.len log.cap)), (7, .v (.map (some b1))), (8, .v (.bool wrong)), (10, .loc 0 0), (36, .v (.slice (cutA acts.a acts.cap 0 9) (((if (100 : Int) < ((acts.len : Nat) : Int) then 100 else ((acts.len : Nat) : Int)) : Int).toNat) acts.cap)), (37, .v (.int .i64 (((((if (100 : Int) < ((acts.len : Nat) : Int) then 100 else ((acts.len : Nat) : Int)) : Int).toNat) : Nat) : Int))), (38, .v (.int .i64 x1))], [(T_tephralaw16_Act, [.bool Lead, .int .u8 N, .int .u8 ID, .int .u8 SayOp, .int .u8 SayClient, .int .u8 SaySeq, .int .u8 SayKey, .int .u8 SayValue, .int .u8 SayOld])], H5⟩
noncomputable def tephralaw16_GhostScript.k4 (J : Jn) (acts : Sl) (index : Int) (b : Nat) (b1 : Nat) (log : Sl) (wrong : Bool) (x1 : Int) (Lead : Bool) (N : Int) (ID : Int) (SayOp : Int) (SayClient : Int) (SaySeq : Int) (SayKey : Int) (SayValue : Int) (SayOld : Int) (H5 : Hp) (Q : Value → Hp → Prop) : Prop := J (vSeg Try.prog tephralaw16_GhostScript.cf J tephralaw16_GhostScript.fn [1, 1, 1, 1, 1, 1, 0, 1, 0, 0, 1, 1, 0, 0, 1, 1] [0, 0, 0, 0, 0, 0, 0, 0, 0, 0, 0, 0, 0, 1] Q) (tephralaw16_GhostScript.k4.st acts index b b1 log wrong x1 Lead N ID SayOp SayClient SaySeq SayKey SayValue SayOld H5)
noncomputable def tephralaw16_GhostScript.k5.st (acts : Sl) (index : Int) (b : Nat) (b1 : Nat) (log : Sl) (wrong : Bool) (x1 : Int) (Lead : Bool) (N : Int) (ID : Int) (SayOp : Int) (SayClient : Int) (SaySeq : Int) (SayKey : Int) (SayValue : Int) (SayOld : Int) (y : Int) (y1 : Int) (y2 : Int) (y3 : ByteArray) (y4 : ByteArray) (y5 : ByteArray) (H13 : Hp) : VS := ⟨mkFr 265 [(1, .v (.int .i8 index)), (5, .v (.pointer (some (Addr.mk b 0 none)))), (6, .v (.slice log.a log.len log.cap)), (7, .v (.map (some b1))), (8, .v (.bool wrong)), (10, .loc 0 0), (16, .loc 1 0), (36, .v (.slice (cutA acts.a acts.cap 0 9) (((if (100 : Int) < ((acts.len : Nat) : Int) then 100 else ((acts.len : Nat) : Int)) : Int).toNat) acts.cap)), (37, .v (.int .i64 (((((if (100 : Int) < ((acts.len : Nat) : Int) then 100 else ((acts.len : Nat) : Int)) : Int).toNat) : Nat) : Int))), (38, .v (.int .i64 x1))], [(T_tephralaw16_Act, [.bool Lead, .int .u8 N, .int .u8 ID, .int .u8 SayOp, .int .u8 SayClient, .int .u8 SaySeq, .int .u8 SayKey, .int .u8 SayValue, .int .u8 SayOld]), (T_api_Entry, [.int .i64 (w64 (((log.len : Nat) : Int) + 1)), .int .i64 (w64 ((IntKind.u8.wrap (Int.tdiv ID 100)))), .int .i64 y, .int .i64 y1, .int .i64 y2, .string y3, .string y4, .string y5])], H13⟩
noncomputable def tephralaw16_GhostScript.k5 (J : Jn) (acts : Sl) (index : Int) (b : Nat) (b1 : Nat) (log : Sl) (wrong : Bool) (x1 : Int) (Lead : Bool) (N : Int) (ID : Int) (SayOp : Int) (SayClient : Int) (SaySeq : Int) (SayKey : Int) (SayValue : Int) (SayOld : Int) (y : Int) (y1 : Int) (y2 : Int) (y3 : ByteArray) (y4 : ByteArray) (y5 : ByteArray) (H13 : Hp) (Q : Value → Hp → Prop) : Prop := J (vSeg Try.prog tephralaw16_GhostScript.cf J tephralaw16_GhostScript.fn [1, 1, 1, 1, 1, 1, 0, 1, 0, 0, 1, 1, 0, 0, 1, 1, 1] [0, 0, 0, 0, 0, 0, 0, 0, 0, 0, 0, 0, 0, 1, 1] Q) (tephralaw16_GhostScript.k5.st acts index b b1 log wrong x1 Lead N ID SayOp SayClient SaySeq SayKey SayValue SayOld y y1 y2 y3 y4 y5 H13)
noncomputable def tephralaw16_GhostScript.k6.st (acts : Sl) (index : Int) (b : Nat) (b1 : Nat) (log : Sl) (wrong : Bool) (x1 : Int) (Lead : Bool) (N : Int) (ID : Int) (SayOp : Int) (SayClient : Int) (SaySeq : Int) (SayKey : Int) (SayValue : Int) (SayOld : Int) (y : Int) (y1 : Int) (y2 : Int) (y3 : ByteArray) (y4 : ByteArray) (y5 : ByteArray) (H13 : Hp) (y6 : Int) : VS := ⟨mkFr 265 [(1, .v (.int .i8 index)), (5, .v (.pointer (some (Addr.mk b 0 none)))), (6, .v (.slice log.a log.len log.cap)), (7, .v (.map (some b1))), (8, .v (.bool wrong)), (10, .loc 0 0), (16, .loc 1 0), (36, .v (.slice (cutA acts.a acts.cap 0 9) (((if (100 : Int) < ((acts.len : Nat) : Int) then 100 else ((acts.len : Nat) : Int)) : Int).toNat) acts.cap)), (37, .v (.int .i64 (((((if (100 : Int) < ((acts.len : Nat) : Int) then 100 else ((acts.len : Nat) : Int)) : Int).toNat) : Nat) : Int))), (38, .v (.int .i64 x1))], [(T_tephralaw16_Act, [.bool Lead, .int .u8 N, .int .u8 ID, .int .u8 SayOp, .int .u8 SayClient, .int .u8 SaySeq, .int .u8 SayKey, .int .u8 SayValue, .int .u8 SayOld]), (T_api_Entry, [.int .i64 y6, .int .i64 (w64 ((IntKind.u8.wrap (Int.tdiv ID 100)))), .int .i64 y, .int .i64 y1, .int .i64 y2, .string y3, .string y4, .string y5])], H13⟩
noncomputable def tephralaw16_GhostScript.k6 (J : Jn) (acts : Sl) (index : Int) (b : Nat) (b1 : Nat) (log : Sl) (wrong : Bool) (x1 : Int) (Lead : Bool) (N : Int) (ID : Int) (SayOp : Int) (SayClient : Int) (SaySeq : Int) (SayKey : Int) (SayValue : Int) (SayOld : Int) (y : Int) (y1 : Int) (y2 : Int) (y3 : ByteArray) (y4 : ByteArray) (y5 : ByteArray) (H13 : Hp) (y6 : Int) (Q : Value → Hp → Prop) : Prop := J (vSeg Try.prog tephralaw16_GhostScript.cf J tephralaw16_GhostScript.fn [1, 1, 1, 1, 1, 1, 0, 1, 0, 0, 1, 1, 0, 0, 1, 1, 1, 1] [0, 0, 0, 0, 0, 0, 0, 0, 0, 0, 0, 0, 0, 1, 1, 2] Q) (tephralaw16_GhostScript.k6.st acts index b b1 log wrong x1 Lead N ID SayOp SayClient SaySeq SayKey SayValue SayOld y y1 y2 y3 y4 y5 H13 y6)
noncomputable def tephralaw16_GhostScript.k7.st (acts : Sl) (index : Int) (b : Nat) (b1 : Nat) (log : Sl) (wrong : Bool) (x1 : Int) (Lead : Bool) (N : Int) (ID : Int) (SayOp : Int) (SayClient : Int) (SaySeq : Int) (SayKey : Int) (SayValue : Int) (SayOld : Int) (H13 : Hp) (y7 : Int) (y8 : Int) (y9 : Int) (y10 : Int) (y11 : Int) (y12 : ByteArray) (y13 : ByteArray) (y14 : ByteArray) : VS := ⟨mkFr 265 [(1, .v (.int .i8 index)), (5, .v (.pointer (some (Addr.mk b 0 none)))), (6, .v (.slice log.a log.len log.cap)), (7, .v (.map (some b1))), (8, .v (.bool wrong)), (16, .loc 1 0), (36, .v (.slice (cutA acts.a acts.cap 0 9) (((if (100 : Int) < ((acts.len : Nat) : Int) then 100 else ((acts.len : Nat) : Int)) : Int).toNat) acts.cap)), (37, .v (.int .i64 (((((if (100 : Int) < ((acts.len : Nat) : Int) then 100 else ((acts.len : Nat) : Int)) : Int).toNat) : Nat) : Int))), (38, .v (.int .i64 x1))], [(T_tephralaw16_Act, [.bool Lead, .int .u8 N, .int .u8 ID, .int .u8 SayOp, .int .u8 SayClient, .int .u8 SaySeq, .int .u8 SayKey, .int .u8 SayValue, .int .u8 SayOld]), (T_api_Entry, [.int .i64 y7, .int .i64 y8, .int .i64 y9, .int .i64 y10, .int .i64 y11, .string y12, .string y13, .string y14])], H13⟩
noncomputable def tephralaw16_GhostScript.k7 (J : Jn) (acts : Sl) (index : Int) (b : Nat) (b1 : Nat) (log : Sl) (wrong : Bool) (x1 : Int) (Lead : Bool) (N : Int) (ID : Int) (SayOp : Int) (SayClient : Int) (SaySeq : Int) (SayKey : Int) (SayValue : Int) (SayOld : Int) (H13 : Hp) (y7 : Int) (y8 : Int) (y9 : Int) (y10 : Int) (y11 : Int) (y12 : ByteArray) (y13 : ByteArray) (y14 : ByteArray) (Q : Value → Hp → Prop) : Prop := J (vSeg Try.prog tephralaw16_GhostScript.cf J tephralaw16_GhostScript.fn [1, 1, 1, 1, 1, 1, 0, 1, 0, 0, 1, 1, 0, 0, 1, 1, 1, 1, 1] [0, 0, 0, 0, 0, 0, 0, 0, 0, 0, 0, 0, 0, 1, 1, 2, 2] Q) (tephralaw16_GhostScript.k7.st acts index b b1 log wrong x1 Lead N ID SayOp SayClient SaySeq SayKey SayValue SayOld H13 y7 y8 y9 y10 y11 y12 y13 y14)
noncomputable def tephralaw16_GhostScript.k8.st (acts : Sl) (index : Int) (b : Nat) (b1 : Nat) (log : Sl) (wrong : Bool) (x1 : Int) (Lead : Bool) (N : Int) (ID : Int) (SayOp : Int) (SayClient : Int) (SaySeq : Int) (SayKey : Int) (SayValue : Int) (SayOld : Int) (H13 : Hp) (y7 : Int) (y8 : Int) (y9 : Int) (y10 : Int) (y11 : Int) (y12 : ByteArray) (y13 : ByteArray) (y14 : ByteArray) (ok2 : Bool) : VS := ⟨mkFr 265 [(1, .v (.int .i8 index)), (5, .v (.pointer (some (Addr.mk b 0 none)))), (6, .v (.slice log.a log.len log.cap)), (7, .v (.map (some b1))), (8, .v (.bool wrong)), (16, .loc 1 0), (17, .v (.bool ok2)), (36, .v (.slice (cutA acts.a acts.cap 0 9) (((if (100 : Int) < ((acts.len : Nat) : Int) then 100 else ((acts.len : Nat) : Int)) : Int).toNat) acts.cap)), (37, .v (.int .i64 (((((if (100 : Int) < ((acts.len : Nat) : Int) then 100 else ((acts.len : Nat) : Int)) : Int).toNat) : Nat) : Int))), (38, .v (.int .i64 x1))], [(T_tephralaw16_Act, [.bool Lead, .int .u8 N, .int .u8 ID, .int .u8 SayOp, .int .u8 SayClient, .int .u8 SaySeq, .int .u8 SayKey, .int .u8 SayValue, .int .u8 SayOld]), (T_api_Entry, [.int .i64 y7, .int .i64 y8, .int .i64 y9, .int .i64 y10, .int .i64 y11, .string y12, .string y13, .string y14])], H13⟩
noncomputable def tephralaw16_GhostScript.k8 (J : Jn) (acts : Sl) (index : Int) (b : Nat) (b1 : Nat) (log : Sl) (wrong : Bool) (x1 : Int) (Lead : Bool) (N : Int) (ID : Int) (SayOp : Int) (SayClient : Int) (SaySeq : Int) (SayKey : Int) (SayValue : Int) (SayOld : Int) (H13 : Hp) (y7 : Int) (y8 : Int) (y9 : Int) (y10 : Int) (y11 : Int) (y12 : ByteArray) (y13 : ByteArray) (y14 : ByteArray) (ok2 : Bool) (Q : Value → Hp → Prop) : Prop := J (vSeg Try.prog tephralaw16_GhostScript.cf J tephralaw16_GhostScript.fn [1, 1, 1, 1, 1, 1, 0, 1, 0, 0, 1, 1, 0, 0, 1, 1, 1, 1, 1, 1] [0, 0, 0, 0, 0, 0, 0, 0, 0, 0, 0, 0, 0, 1, 1, 2, 2, 2] Q) (tephralaw16_GhostScript.k8.st acts index b b1 log wrong x1 Lead N ID SayOp SayClient SaySeq SayKey SayValue SayOld H13 y7 y8 y9 y10 y11 y12 y13 y14 ok2)
noncomputable def tephralaw16_GhostScript.k9.st (acts : Sl) (index : Int) (b : Nat) (b1 : Nat) (wrong : Bool) (x1 : Int) (Lead : Bool) (N : Int) (ID : Int) (SayOp : Int) (SayClient : Int) (SaySeq : Int) (SayKey : Int) (SayValue : Int) (SayOld : Int) (y7 : Int) (y8 : Int) (y9 : Int) (y10 : Int) (y11 : Int) (y12 : ByteArray) (y13 : ByteArray) (y14 : ByteArray) (ok2 : Bool) (log1 : Sl) (H16 : Hp) : VS := ⟨mkFr 265 [(1, .v (.int .i8 index)), (5, .v (.pointer (some (Addr.mk b 0 none)))), (6, .v (.slice log1.a log1.len log1.cap)), (7, .v (.map (some b1))), (8, .v (.bool wrong)), (16, .loc 1 0), (17, .v (.bool ok2)), (36, .v (.slice (cutA acts.a acts.cap 0 9) (((if (100 : Int) < ((acts.len : Nat) : Int) then 100 else ((acts.len : Nat) : Int)) : Int).toNat) acts.cap)), (37, .v (.int .i64 (((((if (100 : Int) < ((acts.len : Nat) : Int) then 100 else ((acts.len : Nat) : Int)) : Int).toNat) : Nat) : Int))), (38, .v (.int .i64 x1))], [(T_tephralaw16_Act, [.bool Lead, .int .u8 N, .int .u8 ID, .int .u8 SayOp, .int .u8 SayClient, .int .u8 SaySeq, .int .u8 SayKey, .int .u8 SayValue, .int .u8 SayOld]), (T_api_Entry, [.int .i64 y7, .int .i64 y8, .int .i64 y9, .int .i64 y10, .int .i64 y11, .string y12, .string y13, .string y14])], H16⟩
noncomputable def tephralaw16_GhostScript.k9 (J : Jn) (acts : Sl) (index : Int) (b : Nat) (b1 : Nat) (wrong : Bool) (x1 : Int) (Lead : Bool) (N : Int) (ID : Int) (SayOp : Int) (SayClient : Int) (SaySeq : Int) (SayKey : Int) (SayValue : Int) (SayOld : Int) (y7 : Int) (y8 : Int) (y9 : Int) (y10 : Int) (y11 : Int) (y12 : ByteArray) (y13 : ByteArray) (y14 : ByteArray) (ok2 : Bool) (log1 : Sl) (H16 : Hp) (Q : Value → Hp → Prop) : Prop := J (vSeg Try.prog tephralaw16_GhostScript.cf J tephralaw16_GhostScript.fn [1, 1, 1, 1, 1, 1, 0, 1, 0, 0, 1, 1, 0, 0, 1, 1, 1, 1, 1, 1, 1] [0, 0, 0, 0, 0, 0, 0, 0, 0, 0, 0, 0, 0, 1, 1, 2, 2, 2, 2] Q) (tephralaw16_GhostScript.k9.st acts index b b1 wrong x1 Lead N ID SayOp SayClient SaySeq SayKey SayValue SayOld y7 y8 y9 y10 y11 y12 y13 y14 ok2 log1 H16)
noncomputable def tephralaw16_GhostScript.k10.st (acts : Sl) (index : Int) (b : Nat) (b1 : Nat) (x1 : Int) (log2 : Sl) (wrong1 : Bool) (H18 : Hp) : VS := ⟨mkFr 265 [(1, .v (.int .i8 index)), (5, .v (.pointer (some (Addr.mk b 0 none)))), (6, .v (.slice log2.a log2.len log2.cap)), (7, .v (.map (some b1))), (8, .v (.bool wrong1)), (36, .v (.slice (cutA acts.a acts.cap 0 9) (((if (100 : Int) < ((acts.len : Nat) : Int) then 100 else ((acts.len : Nat) : Int)) : Int).toNat) acts.cap)), (37, .v (.int .i64 (((((if (100 : Int) < ((acts.len : Nat) : Int) then 100 else ((acts.len : Nat) : Int)) : Int).toNat) : Nat) : Int))), (38, .v (.int .i64 x1))], [], H18⟩
noncomputable def tephralaw16_GhostScript.k10 (J : Jn) (acts : Sl) (index : Int) (b : Nat) (b1 : Nat) (x1 : Int) (log2 : Sl) (wrong1 : Bool) (H18 : Hp) (Q : Value → Hp → Prop) : Prop := J (vSeg Try.prog tephralaw16_GhostScript.cf J tephralaw16_GhostScript.fn [1, 1, 1, 1, 1, 1, 0, 1, 0, 0, 1, 1, 1] [0, 0, 0, 0, 0, 0, 0, 0, 0, 0, 0, 0] Q) (tephralaw16_GhostScript.k10.st acts index b b1 x1 log2 wrong1 H18)
noncomputable def tephralaw16_GhostScript.k11.st (index : Int) (b : Nat) (b1 : Nat) (log : Sl) (wrong : Bool) (x5 : Sl) (x7 : Bool) (H21 : Hp) : VS := ⟨mkFr 265 [(1, .v (.int .i8 index)), (5, .v (.pointer (some (Addr.mk b 0 none)))), (6, .v (.slice log.a log.len log.cap)), (7, .v (.map (some b1))), (8, .v (.bool wrong)), (18, .v (.slice x5.a x5.len x5.cap)), (180, .v (.bool x7))], [], H21⟩
noncomputable def tephralaw16_GhostScript.k11 (J : Jn) (index : Int) (b : Nat) (b1 : Nat) (log : Sl) (wrong : Bool) (x5 : Sl) (x7 : Bool) (H21 : Hp) (Q : Value → Hp → Prop) : Prop := J (vMid Try.prog tephralaw16_GhostScript.cf J tephralaw16_GhostScript.fn [1, 1, 1, 1, 1, 1, 1, 1, 0, 0] [0, 0, 0, 0, 0, 0, 0, 0, 0, 0] 12 Q) (tephralaw16_GhostScript.k11.st index b b1 log wrong x5 x7 H21)
noncomputable def tephralaw16_GhostScript.k12.st (index : Int) (b : Nat) (b1 : Nat) (log : Sl) (x5 : Sl) (x9 : Bool) (H23 : Hp) : VS := ⟨mkFr 265 [(1, .v (.int .i8 index)), (5, .v (.pointer (some (Addr.mk b 0 none)))), (6, .v (.slice log.a log.len log.cap)), (7, .v (.map (some b1))), (18, .v (.slice x5.a x5.len x5.cap)), (186, .v (.bool x9))], [], H23⟩
noncomputable def tephralaw16_GhostScript.k12 (J : Jn) (index : Int) (b : Nat) (b1 : Nat) (log : Sl) (x5 : Sl) (x9 : Bool) (H23 : Hp) (Q : Value → Hp → Prop) : Prop := J (vSeg Try.prog tephralaw16_GhostScript.cf J tephralaw16_GhostScript.fn [1, 1, 1, 1, 1, 1, 1, 1, 0, 1] [0, 0, 0, 0, 0, 0, 0, 0, 0, 0] Q) (tephralaw16_GhostScript.k12.st index b b1 log x5 x9 H23)
noncomputable def tephralaw16_GhostScript.l2.st (index : Int) (b : Nat) (b1 : Nat) (log : Sl) (x5 : Sl) (H24 : Hp) (x10 : Int) : VS := ⟨mkFr 265 [(1, .v (.int .i8 index)), (5, .v (.pointer (some (Addr.mk b 0 none)))), (6, .v (.slice log.a log.len log.cap)), (7, .v (.map (some b1))), (18, .v (.slice x5.a x5.len x5.cap)), (188, .v (.int .i64 ((x5.len : Nat) : Int))), (189, .v (.int .i64 x10))], [], H24⟩
noncomputable def tephralaw16_GhostScript.l2 (J : Jn) (index : Int) (b : Nat) (b1 : Nat) (log : Sl) (x5 : Sl) (H24 : Hp) (x10 : Int) (Q : Value → Hp → Prop) : Prop := vAt Try.prog tephralaw16_GhostScript.cf J tephralaw16_GhostScript.fn [1, 1, 1, 1, 1, 1, 1, 1, 1, 0, 1, 0] [0, 0, 0, 0, 0, 0, 0, 0, 0, 0, 0] Q (tephralaw16_GhostScript.l2.st index b b1 log x5 H24 x10)
noncomputable def tephralaw16_GhostScript.k13.st (index : Int) (b : Nat) (b1 : Nat) (log : Sl) (x5 : Sl) (H24 : Hp) (x10 : Int) (Index2 : Int) (Term2 : Int) (CmdOp2 : Int) (CmdClient2 : Int) (CmdSeq2 : Int) (CmdKey2 : ByteArray) (CmdValue2 : ByteArray) (CmdOld2 : ByteArray) (Index3 : Int) (Term3 : Int) (CmdOp3 : Int) (CmdClient3 : Int) (CmdSeq3 : Int) (CmdKey3 : ByteArray) (CmdValue3 : ByteArray) (CmdOld3 : ByteArray) : VS := ⟨mkFr 265 [(1, .v (.int .i8 index)), (5, .v (.pointer (some (Addr.mk b 0 none)))), (6, .v (.slice log.a log.len log.cap)), (7, .v (.map (some b1))), (18, .v (.slice x5.a x5.len x5.cap)), (188, .v (.int .i64 ((x5.len : Nat) : Int))), (189, .v (.int .i64 x10)), (200, .v (.bool (!((Index2 == Index3) && ((Term2 == Term3) && (((CmdOp2 == CmdOp3) && ((CmdClient2 == CmdClient3) && ((CmdSeq2 == CmdSeq3) && ((CmdKey2 == CmdKey3) && ((CmdValue2 == CmdValue3) && ((CmdOld2 == CmdOld3) && true)))))) && true))))))], [], H24⟩
noncomputable def tephralaw16_GhostScript.k13 (J : Jn) (index : Int) (b : Nat) (b1 : Nat) (log : Sl) (x5 : Sl) (H24 : Hp) (x10 : Int) (Index2 : Int) (Term2 : Int) (CmdOp2 : Int) (CmdClient2 : Int) (CmdSeq2 : Int) (CmdKey2 : ByteArray) (CmdValue2 : ByteArray) (CmdOld2 : ByteArray) (Index3 : Int) (Term3 : Int) (CmdOp3 : Int) (CmdClient3 : Int) (CmdSeq3 : Int) (CmdKey3 : ByteArray) (CmdValue3 : ByteArray) (CmdOld3 : ByteArray) (Q : Value → Hp → Prop) : Prop := J (vSeg Try.prog tephralaw16_GhostScript.cf J tephralaw16_GhostScript.fn [1, 1, 1, 1, 1, 1, 1, 1, 1, 0, 1, 0, 0, 1, 1, 0, 0, 1, 1] [0, 0, 0, 0, 0, 0, 0, 0, 0, 0, 0, 0, 0, 0, 0, 0, 0] Q) (tephralaw16_GhostScript.k13.st index b b1 log x5 H24 x10 Index2 Term2 CmdOp2 CmdClient2 CmdSeq2 CmdKey2 CmdValue2 CmdOld2 Index3 Term3 CmdOp3 CmdClient3 CmdSeq3 CmdKey3 CmdValue3 CmdOld3)
noncomputable def tephralaw16_GhostScript.l3.st (index : Int) (b : Nat) (b1 : Nat) (log : Sl) (H25 : Hp) (t : Int) : VS := ⟨mkFr 265 [(1, .v (.int .i8 index)), (5, .v (.pointer (some (Addr.mk b 0 none)))), (6, .v (.slice log.a log.len log.cap)), (7, .v (.map (some b1))), (20, .v (.int .i64 t))], [], H25⟩
noncomputable def tephralaw16_GhostScript.l3 (J : Jn) (index : Int) (b : Nat) (b1 : Nat) (log : Sl) (H25 : Hp) (t : Int) (Q : Value → Hp → Prop) : Prop := vAt Try.prog tephralaw16_GhostScript.cf J tephralaw16_GhostScript.fn [1, 1, 1, 1, 1, 1, 1, 1, 1, 1, 0, 1, 0] [0, 0, 0, 0, 0, 0, 0, 0, 0, 0, 0, 0] Q (tephralaw16_GhostScript.l3.st index b b1 log H25 t)
noncomputable def tephralaw16_GhostScript.k14.st (index : Int) (b : Nat) (b1 : Nat) (log : Sl) (t : Int) (H26 : Hp) (x14 : Bool) : VS := ⟨mkFr 265 [(1, .v (.int .i8 index)), (5, .v (.pointer (some (Addr.mk b 0 none)))), (6, .v (.slice log.a log.len log.cap)), (7, .v (.map (some b1))), (20, .v (.int .i64 t)), (225, .v (.bool x14))], [], H26⟩
noncomputable def tephralaw16_GhostScript.k14 (J : Jn) (index : Int) (b : Nat) (b1 : Nat) (log : Sl) (t : Int) (H26 : Hp) (x14 : Bool) (Q : Value → Hp → Prop) : Prop := J (vSeg Try.prog tephralaw16_GhostScript.cf J tephralaw16_GhostScript.fn [1, 1, 1, 1, 1, 1, 1, 1, 1, 1, 0, 1, 0, 0, 1, 0, 0, 1, 1, 1] [0, 0, 0, 0, 0, 0, 0, 0, 0, 0, 0, 0, 0, 0, 0, 0, 0, 0] Q) (tephralaw16_GhostScript.k14.st index b b1 log t H26 x14)
noncomputable def tephralaw16_GhostScript.k15.st (index : Int) (log : Sl) (Index4 : Int) (Term4 : Int) (Pairs : Sl) (Sessions : Sl) (x15 : Bool) (H28 : Hp) (x16 : Bool) : VS := ⟨mkFr 265 [(1, .v (.int .i8 index)), (6, .v (.slice log.a log.len log.cap)), (25, .loc 0 0), (26, .v (.bool x15)), (241, .v (.bool x16))], [(T_api_State, [.int .i64 Index4, .int .i64 Term4, .slice Pairs.a Pairs.len Pairs.cap, .slice Sessions.a Sessions.len Sessions.cap])], H28⟩
noncomputable def tephralaw16_GhostScript.k15 (J : Jn) (index : Int) (log : Sl) (Index4 : Int) (Term4 : Int) (Pairs : Sl) (Sessions : Sl) (x15 : Bool) (H28 : Hp) (x16 : Bool) (Q : Value → Hp → Prop) : Prop := J (vSeg Try.prog tephralaw16_GhostScript.cf J tephralaw16_GhostScript.fn [1, 1, 1, 1, 1, 1, 1, 1, 1, 1, 1, 1, 0, 1] [0, 0, 0, 0, 0, 0, 0, 0, 0, 0, 0, 0, 1, 1] Q) (tephralaw16_GhostScript.k15.st index log Index4 Term4 Pairs Sessions x15 H28 x16)
noncomputable def tephralaw16_GhostScript.k16.st (Index4 : Int) (Term4 : Int) (Pairs : Sl) (Sessions : Sl) (H28 : Hp) (x17 : Bool) : VS := ⟨mkFr 265 [(25, .loc 0 0), (248, .v (.bool x17))], [(T_api_State, [.int .i64 Index4, .int .i64 Term4, .slice Pairs.a Pairs.len Pairs.cap, .slice Sessions.a Sessions.len Sessions.cap])], H28⟩
noncomputable def tephralaw16_GhostScript.k16 (J : Jn) (Index4 : Int) (Term4 : Int) (Pairs : Sl) (Sessions : Sl) (H28 : Hp) (x17 : Bool) (Q : Value → Hp → Prop) : Prop := J (vMid Try.prog tephralaw16_GhostScript.cf J tephralaw16_GhostScript.fn [1, 1, 1, 1, 1, 1, 1, 1, 1, 1, 1, 1, 0, 1, 0, 0] [0, 0, 0, 0, 0, 0, 0, 0, 0, 0, 0, 0, 1, 1, 1] 7 Q) (tephralaw16_GhostScript.k16.st Index4 Term4 Pairs Sessions H28 x17)
attribute [irreducible] tephralaw16_GhostScript.l1 tephralaw16_GhostScript.k1 tephralaw16_GhostScript.k2 tephralaw16_GhostScript.k3 tephralaw16_GhostScript.k4 tephralaw16_GhostScript.k5 tephralaw16_GhostScript.k6 tephralaw16_GhostScript.k7 tephralaw16_GhostScript.k8 tephralaw16_GhostScript.k9 tephralaw16_GhostScript.k10 tephralaw16_GhostScript.k11 tephralaw16_GhostScript.k12 tephralaw16_GhostScript.l2 tephralaw16_GhostScript.k13 tephralaw16_GhostScript.l3 tephralaw16_GhostScript.k14 tephralaw16_GhostScript.k15 tephralaw16_GhostScript.k16
noncomputable def tephralaw16_GhostScript.l1.body (J : Jn) (acts : Sl) (index : Int) (b : Nat) (b1 : Nat) (H4 : Hp) (log : Sl) (wrong : Bool) (x1 : Int) (Q : Value → Hp → Prop) : Prop :=
 
 Br (decide (x1 < (((((if (100 : Int) < ((acts.len : Nat) : Int) then 100 else ((acts.len : Nat) : Int)) : Int).toNat) : Nat) : Int))) (((0 : Int) ≤ x1 ∧ x1 < (((((if (100 : Int) < ((acts.len : Nat) : Int) then 100 else ((acts.len : Nat) : Int)) : Int).toNat) : Nat) : Int)) ∧ vPtr (cutA acts.a acts.cap 0 9) (fun a => ∃ Lead : Bool, ∃ N : Int, ∃ ID : Int, ∃ SayOp : Int, ∃ SayClient : Int, ∃ SaySeq : Int, ∃ SayKey : Int, ∃ SayValue : Int, ∃ SayOld : Int, RowAt H4 (a.add ((x1 : Int).toNat * 9)) [.bool Lead, .int .u8 N, .int .u8 ID, .int .u8 SayOp, .int .u8 SayClient, .int .u8 SaySeq, .int .u8 SayKey, .int .u8 SayValue, .int .u8 SayOld] ∧ ∀ H5 : Hp, H5 = (holes H4 1) → 
 Br Lead ((9 : Int) ≠ 0 ∧ (3 : Int) ≠ 0 ∧ 
 tephralaw16_GhostScript.k1 J acts index b b1 log wrong x1 Lead N ID SayOp SayClient SaySeq SayKey SayValue SayOld H5 Q)
 (
 tephralaw16_GhostScript.k4 J acts index b b1 log wrong x1 Lead N ID SayOp SayClient SaySeq SayKey SayValue SayOld H5 Q)))
 (
 SCalls Try.prog ghost_Ghost_Log.id [.pointer (some (Addr.mk b 0 none))] H4 (fun r5 H19 => ∃ x5 : Sl, r5 = .slice x5.a x5.len x5.cap ∧ 
 Br (((x5.len : Nat) : Int) != ((log.len : Nat) : Int)) (
 tephralaw16_GhostScript.k11 J index b b1 log wrong x5 true H19 Q)
 (
 SCalls Try.prog ghost_Ghost_Len.id [.pointer (some (Addr.mk b 0 none))] H19 (fun r6 H20 => ∃ x6 : Int, r6 = .int .i64 x6 ∧ 
 tephralaw16_GhostScript.k11 J index b b1 log wrong x5 (x6 != ((log.len : Nat) : Int)) H20 Q))))
theorem tephralaw16_GhostScript.l1.eq (J : Jn) (acts : Sl) (index : Int) (b : Nat) (b1 : Nat) (H4 : Hp) (log : Sl) (wrong : Bool) (x1 : Int) (Q : Value → Hp → Prop) : vAtBody Try.prog tephralaw16_GhostScript.cf J tephralaw16_GhostScript.fn [1, 1, 1, 1, 1, 1, 0, 1, 0] [0, 0, 0, 0, 0, 0, 0, 0] Q (tephralaw16_GhostScript.l1.st acts index b b1 H4 log wrong x1) = tephralaw16_GhostScript.l1.body J acts index b b1 H4 log wrong x1 Q := by kernel_rfl
theorem tephralaw16_GhostScript.l1.step {acts : Sl} {index : Int} {b : Nat} {b1 : Nat} {H4 : Hp} {log : Sl} {wrong : Bool} {x1 : Int} {Q : Value → Hp → Prop} (h : tephralaw16_GhostScript.l1.body J0 acts index b b1 H4 log wrong x1 Q) : tephralaw16_GhostScript.l1 J0 acts index b b1 H4 log wrong x1 Q := vAt_stepC (tephralaw16_GhostScript.l1.st acts index b b1 H4 log wrong x1) (tephralaw16_GhostScript.l1.eq J0 acts index b b1 H4 log wrong x1 Q) (by kernel_rfl) h
noncomputable def tephralaw16_GhostScript.k1.body (J : Jn) (acts : Sl) (index : Int) (b : Nat) (b1 : Nat) (log : Sl) (wrong : Bool) (x1 : Int) (Lead : Bool) (N : Int) (ID : Int) (SayOp : Int) (SayClient : Int) (SaySeq : Int) (SayKey : Int) (SayValue : Int) (SayOld : Int) (H5 : Hp) (Q : Value → Hp → Prop) : Prop :=
 ∃ x2 : Int, ∃ ok : Bool, LookIs Try.prog T_map_int_int H5 (some b1) (.int .i64 (w64 ((Int.tmod N 9)))) (.int .i64 x2) ok ∧ 
 Br (!ok) (
 tephralaw16_GhostScript.k2 J acts index b b1 log wrong x1 Lead N ID SayOp SayClient SaySeq SayKey SayValue SayOld H5 ok true Q)
 (
 tephralaw16_GhostScript.k2 J acts index b b1 log wrong x1 Lead N ID SayOp SayClient SaySeq SayKey SayValue SayOld H5 ok (x2 == (w64 ((Int.tmod ID 3)))) Q)
theorem tephralaw16_GhostScript.k1.eq (J : Jn) (acts : Sl) (index : Int) (b : Nat) (b1 : Nat) (log : Sl) (wrong : Bool) (x1 : Int) (Lead : Bool) (N : Int) (ID : Int) (SayOp : Int) (SayClient : Int) (SaySeq : Int) (SayKey : Int) (SayValue : Int) (SayOld : Int) (H5 : Hp) (Q : Value → Hp → Prop) : vSeg Try.prog tephralaw16_GhostScript.cf J tephralaw16_GhostScript.fn [1, 1, 1, 1, 1, 1, 0, 1, 0, 0, 1, 1, 0, 0, 1, 0, 1, 0, 1] [0, 0, 0, 0, 0, 0, 0, 0, 0, 0, 0, 0, 0, 1, 1, 1] Q (tephralaw16_GhostScript.k1.st acts index b b1 log wrong x1 Lead N ID SayOp SayClient SaySeq SayKey SayValue SayOld H5) = tephralaw16_GhostScript.k1.body J acts index b b1 log wrong x1 Lead N ID SayOp SayClient SaySeq SayKey SayValue SayOld H5 Q := by kernel_rfl
theorem tephralaw16_GhostScript.k1.step {acts : Sl} {index : Int} {b : Nat} {b1 : Nat} {log : Sl} {wrong : Bool} {x1 : Int} {Lead : Bool} {N : Int} {ID : Int} {SayOp : Int} {SayClient : Int} {SaySeq : Int} {SayKey : Int} {SayValue : Int} {SayOld : Int} {H5 : Hp} {Q : Value → Hp → Prop} (h : tephralaw16_GhostScript.k1.body J0 acts index b b1 log wrong x1 Lead N ID SayOp SayClient SaySeq SayKey SayValue SayOld H5 Q) : tephralaw16_GhostScript.k1 J0 acts index b b1 log wrong x1 Lead N ID SayOp SayClient SaySeq SayKey SayValue SayOld H5 Q := step_of (vSeg Try.prog tephralaw16_GhostScript.cf J0 tephralaw16_GhostScript.fn [1, 1, 1, 1, 1, 1, 0, 1, 0, 0, 1, 1, 0, 0, 1, 0, 1, 0, 1] [0, 0, 0, 0, 0, 0, 0, 0, 0, 0, 0, 0, 0, 1, 1, 1] Q) (tephralaw16_GhostScript.k1.st acts index b b1 log wrong x1 Lead N ID SayOp SayClient SaySeq SayKey SayValue SayOld H5) (tephralaw16_GhostScript.k1.eq J0 acts index b b1 log wrong x1 Lead N ID SayOp SayClient SaySeq SayKey SayValue SayOld H5 Q) (by kernel_rfl) h
noncomputable def tephralaw16_GhostScript.k2.body (J : Jn) (acts : Sl) (index : Int) (b : Nat) (b1 : Nat) (log : Sl) (wrong : Bool) (x1 : Int) (Lead : Bool) (N : Int) (ID : Int) (SayOp : Int) (SayClient : Int) (SaySeq : Int) (SayKey : Int) (SayValue : Int) (SayOld : Int) (H5 : Hp) (ok : Bool) (ok1 : Bool) (Q : Value → Hp → Prop) : Prop :=
 
 Br (!ok) (
 vMapPut Try.prog T_map_int_int (some b1) (.int .i64 (w64 ((Int.tmod N 9)))) (.int .i64 (w64 ((Int.tmod ID 3)))) H5 (fun H6 => 
 tephralaw16_GhostScript.k3 J acts index b b1 log wrong x1 Lead N ID SayOp SayClient SaySeq SayKey SayValue SayOld ok1 H6 Q))
 (
 tephralaw16_GhostScript.k3 J acts index b b1 log wrong x1 Lead N ID SayOp SayClient SaySeq SayKey SayValue SayOld ok1 H5 Q)
theorem tephralaw16_GhostScript.k2.eq (J : Jn) (acts : Sl) (index : Int) (b : Nat) (b1 : Nat) (log : Sl) (wrong : Bool) (x1 : Int) (Lead : Bool) (N : Int) (ID : Int) (SayOp : Int) (SayClient : Int) (SaySeq : Int) (SayKey : Int) (SayValue : Int) (SayOld : Int) (H5 : Hp) (ok : Bool) (ok1 : Bool) (Q : Value → Hp → Prop) : vSeg Try.prog tephralaw16_GhostScript.cf J tephralaw16_GhostScript.fn [1, 1, 1, 1, 1, 1, 0, 1, 0, 0, 1, 1, 0, 0, 1, 0, 1, 0, 1, 1, 1] [0, 0, 0, 0, 0, 0, 0, 0, 0, 0, 0, 0, 0, 1, 1, 1, 1, 1] Q (tephralaw16_GhostScript.k2.st acts index b b1 log wrong x1 Lead N ID SayOp SayClient SaySeq SayKey SayValue SayOld H5 ok ok1) = tephralaw16_GhostScript.k2.body J acts index b b1 log wrong x1 Lead N ID SayOp SayClient SaySeq SayKey SayValue SayOld H5 ok ok1 Q := by kernel_rfl
theorem tephralaw16_GhostScript.k2.step {acts : Sl} {index : Int} {b : Nat} {b1 : Nat} {log : Sl} {wrong : Bool} {x1 : Int} {Lead : Bool} {N : Int} {ID : Int} {SayOp : Int} {SayClient : Int} {SaySeq : Int} {SayKey : Int} {SayValue : Int} {SayOld : Int} {H5 : Hp} {ok : Bool} {ok1 : Bool} {Q : Value → Hp → Prop} (h : tephralaw16_GhostScript.k2.body J0 acts index b b1 log wrong x1 Lead N ID SayOp SayClient SaySeq SayKey SayValue SayOld H5 ok ok1 Q) : tephralaw16_GhostScript.k2 J0 acts index b b1 log wrong x1 Lead N ID SayOp SayClient SaySeq SayKey SayValue SayOld H5 ok ok1 Q := step_of (vSeg Try.prog tephralaw16_GhostScript.cf J0 tephralaw16_GhostScript.fn [1, 1, 1, 1, 1, 1, 0, 1, 0, 0, 1, 1, 0, 0, 1, 0, 1, 0, 1, 1, 1] [0, 0, 0, 0, 0, 0, 0, 0, 0, 0, 0, 0, 0, 1, 1, 1, 1, 1] Q) (tephralaw16_GhostScript.k2.st acts index b b1 log wrong x1 Lead N ID SayOp SayClient SaySeq SayKey SayValue SayOld H5 ok ok1) (tephralaw16_GhostScript.k2.eq J0 acts index b b1 log wrong x1 Lead N ID SayOp SayClient SaySeq SayKey SayValue SayOld H5 ok ok1 Q) (by kernel_rfl) h
noncomputable def tephralaw16_GhostScript.k3.body (J : Jn) (acts : Sl) (index : Int) (b : Nat) (b1 : Nat) (log : Sl) (wrong : Bool) (x1 : Int) (Lead : Bool) (N : Int) (ID : Int) (SayOp : Int) (SayClient : Int) (SaySeq : Int) (SayKey : Int) (SayValue : Int) (SayOld : Int) (ok1 : Bool) (H7 : Hp) (Q : Value → Hp → Prop) : Prop :=
 
 SCalls Try.prog ghost_Ghost_Lead.id [.pointer (some (Addr.mk b 0 none)), .int .i64 (w64 ((Int.tmod N 9))), .int .i64 (w64 ((Int.tmod ID 3)))] H7 (fun r1 H8 => ∃ x3 : Bool, r1 = .bool x3 ∧ 
 Br (!(x3 == ok1)) (Q (.bool false) H8)
 (
 Br wrong (
 tephralaw16_GhostScript.k10 J acts index b b1 x1 log true H8 Q)
 (
 tephralaw16_GhostScript.k10 J acts index b b1 x1 log (!ok1) H8 Q)))
theorem tephralaw16_GhostScript.k3.eq (J : Jn) (acts : Sl) (index : Int) (b : Nat) (b1 : Nat) (log : Sl) (wrong : Bool) (x1 : Int) (Lead : Bool) (N : Int) (ID : Int) (SayOp : Int) (SayClient : Int) (SaySeq : Int) (SayKey : Int) (SayValue : Int) (SayOld : Int) (ok1 : Bool) (H7 : Hp) (Q : Value → Hp → Prop) : vSeg Try.prog tephralaw16_GhostScript.cf J tephralaw16_GhostScript.fn [1, 1, 1, 1, 1, 1, 0, 1, 0, 0, 1, 1, 0, 0, 1, 0, 1, 0, 1, 1, 1, 1] [0, 0, 0, 0, 0, 0, 0, 0, 0, 0, 0, 0, 0, 1, 1, 1, 1, 1, 1] Q (tephralaw16_GhostScript.k3.st acts index b b1 log wrong x1 Lead N ID SayOp SayClient SaySeq SayKey SayValue SayOld ok1 H7) = tephralaw16_GhostScript.k3.body J acts index b b1 log wrong x1 Lead N ID SayOp SayClient SaySeq SayKey SayValue SayOld ok1 H7 Q := by kernel_rfl
theorem tephralaw16_GhostScript.k3.step {acts : Sl} {index : Int} {b : Nat} {b1 : Nat} {log : Sl} {wrong : Bool} {x1 : Int} {Lead : Bool} {N : Int} {ID : Int} {SayOp : Int} {SayClient : Int} {SaySeq : Int} {SayKey : Int} {SayValue : Int} {SayOld : Int} {ok1 : Bool} {H7 : Hp} {Q : Value → Hp → Prop} (h : tephralaw16_GhostScript.k3.body J0 acts index b b1 log wrong x1 Lead N ID SayOp SayClient SaySeq SayKey SayValue SayOld ok1 H7 Q) : tephralaw16_GhostScript.k3 J0 acts index b b1 log wrong x1 Lead N ID SayOp SayClient SaySeq SayKey SayValue SayOld ok1 H7 Q := step_of (vSeg Try.prog tephralaw16_GhostScript.cf J0 tephralaw16_GhostScript.fn [1, 1, 1, 1, 1, 1, 0, 1, 0, 0, 1, 1, 0, 0, 1, 0, 1, 0, 1, 1, 1, 1] [0, 0, 0, 0, 0, 0, 0, 0, 0, 0, 0, 0, 0, 1, 1, 1, 1, 1, 1] Q) (tephralaw16_GhostScript.k3.st acts index b b1 log wrong x1 Lead N ID SayOp SayClient SaySeq SayKey SayValue SayOld ok1 H7) (tephralaw16_GhostScript.k3.eq J0 acts index b b1 log wrong x1 Lead N ID SayOp SayClient SaySeq SayKey SayValue SayOld ok1 H7 Q) (by kernel_rfl) h
noncomputable def tephralaw16_GhostScript.k4.body (J : Jn) (acts : Sl) (index : Int) (b : Nat) (b1 : Nat) (log : Sl) (wrong : Bool) (x1 : Int) (Lead : Bool) (N : Int) (ID : Int) (SayOp : Int) (SayClient : Int) (SaySeq : Int) (SayKey : Int) (SayValue : Int) (SayOld : Int) (H5 : Hp) (Q : Value → Hp → Prop) : Prop :=
 (100 : Int) ≠ 0 ∧ 
  (
 SCalls Try.prog tephralaw06_Say_Cmd.id [.agg #[.int .u8 SayOp, .int .u8 SayClient, .int .u8 SaySeq, .int .u8 SayKey, .int .u8 SayValue, .int .u8 SayOld]] H5 (fun r2 H9 => ∃ Opv : Int, ∃ Client : Int, ∃ Seq : Int, ∃ Key : ByteArray, ∃ Valuev : ByteArray, ∃ Old : ByteArray, r2 = .agg #[.int .i64 Opv, .int .i64 Client, .int .i64 Seq, .string Key, .string Valuev, .string Old] ∧ ∀ H10 : Hp, H10 = (holes H9 1) → 
 tephralaw16_GhostScript.k5 J acts index b b1 log wrong x1 Lead N ID SayOp SayClient SaySeq SayKey SayValue SayOld Opv Client Seq Key Valuev Old H10 Q)) ∧ 
  (∀ H11 : Hp, H11 = (holes H5 1) → 
 SCalls Try.prog tephralaw06_Say_Cmd.id [.agg #[.int .u8 SayOp, .int .u8 SayClient, .int .u8 SaySeq, .int .u8 SayKey, .int .u8 SayValue, .int .u8 SayOld]] H11 (fun r3 H12 => ∃ Opv1 : Int, ∃ Client1 : Int, ∃ Seq1 : Int, ∃ Key1 : ByteArray, ∃ Valuev1 : ByteArray, ∃ Old1 : ByteArray, r3 = .agg #[.int .i64 Opv1, .int .i64 Client1, .int .i64 Seq1, .string Key1, .string Valuev1, .string Old1] ∧ 
 tephralaw16_GhostScript.k5 J acts index b b1 log wrong x1 Lead N ID SayOp SayClient SaySeq SayKey SayValue SayOld Opv1 Client1 Seq1 Key1 Valuev1 Old1 H12 Q))
theorem tephralaw16_GhostScript.k4.eq (J : Jn) (acts : Sl) (index : Int) (b : Nat) (b1 : Nat) (log : Sl) (wrong : Bool) (x1 : Int) (Lead : Bool) (N : Int) (ID : Int) (SayOp : Int) (SayClient : Int) (SaySeq : Int) (SayKey : Int) (SayValue : Int) (SayOld : Int) (H5 : Hp) (Q : Value → Hp → Prop) : vSeg Try.prog tephralaw16_GhostScript.cf J tephralaw16_GhostScript.fn [1, 1, 1, 1, 1, 1, 0, 1, 0, 0, 1, 1, 0, 0, 1, 1] [0, 0, 0, 0, 0, 0, 0, 0, 0, 0, 0, 0, 0, 1] Q (tephralaw16_GhostScript.k4.st acts index b b1 log wrong x1 Lead N ID SayOp SayClient SaySeq SayKey SayValue SayOld H5) = tephralaw16_GhostScript.k4.body J acts index b b1 log wrong x1 Lead N ID SayOp SayClient SaySeq SayKey SayValue SayOld H5 Q := by kernel_rfl
theorem tephralaw16_GhostScript.k4.step {acts : Sl} {index : Int} {b : Nat} {b1 : Nat} {log : Sl} {wrong : Bool} {x1 : Int} {Lead : Bool} {N : Int} {ID : Int} {SayOp : Int} {SayClient : Int} {SaySeq : Int} {SayKey : Int} {SayValue : Int} {SayOld : Int} {H5 : Hp} {Q : Value → Hp → Prop} (h : tephralaw16_GhostScript.k4.body J0 acts index b b1 log wrong x1 Lead N ID SayOp SayClient SaySeq SayKey SayValue SayOld H5 Q) : tephralaw16_GhostScript.k4 J0 acts index b b1 log wrong x1 Lead N ID SayOp SayClient SaySeq SayKey SayValue SayOld H5 Q := step_of (vSeg Try.prog tephralaw16_GhostScript.cf J0 tephralaw16_GhostScript.fn [1, 1, 1, 1, 1, 1, 0, 1, 0, 0, 1, 1, 0, 0, 1, 1] [0, 0, 0, 0, 0, 0, 0, 0, 0, 0, 0, 0, 0, 1] Q) (tephralaw16_GhostScript.k4.st acts index b b1 log wrong x1 Lead N ID SayOp SayClient SaySeq SayKey SayValue SayOld H5) (tephralaw16_GhostScript.k4.eq J0 acts index b b1 log wrong x1 Lead N ID SayOp SayClient SaySeq SayKey SayValue SayOld H5 Q) (by kernel_rfl) h
noncomputable def tephralaw16_GhostScript.k5.body (J : Jn) (acts : Sl) (index : Int) (b : Nat) (b1 : Nat) (log : Sl) (wrong : Bool) (x1 : Int) (Lead : Bool) (N : Int) (ID : Int) (SayOp : Int) (SayClient : Int) (SaySeq : Int) (SayKey : Int) (SayValue : Int) (SayOld : Int) (y : Int) (y1 : Int) (y2 : Int) (y3 : ByteArray) (y4 : ByteArray) (y5 : ByteArray) (H13 : Hp) (Q : Value → Hp → Prop) : Prop :=
 
 Br (decide (N < 30)) (
 tephralaw16_GhostScript.k6 J acts index b b1 log wrong x1 Lead N ID SayOp SayClient SaySeq SayKey SayValue SayOld y y1 y2 y3 y4 y5 H13 (w64 ((w64 (N)) - 3)) Q)
 (
 tephralaw16_GhostScript.k6 J acts index b b1 log wrong x1 Lead N ID SayOp SayClient SaySeq SayKey SayValue SayOld y y1 y2 y3 y4 y5 H13 (w64 (((log.len : Nat) : Int) + 1)) Q)
theorem tephralaw16_GhostScript.k5.eq (J : Jn) (acts : Sl) (index : Int) (b : Nat) (b1 : Nat) (log : Sl) (wrong : Bool) (x1 : Int) (Lead : Bool) (N : Int) (ID : Int) (SayOp : Int) (SayClient : Int) (SaySeq : Int) (SayKey : Int) (SayValue : Int) (SayOld : Int) (y : Int) (y1 : Int) (y2 : Int) (y3 : ByteArray) (y4 : ByteArray) (y5 : ByteArray) (H13 : Hp) (Q : Value → Hp → Prop) : vSeg Try.prog tephralaw16_GhostScript.cf J tephralaw16_GhostScript.fn [1, 1, 1, 1, 1, 1, 0, 1, 0, 0, 1, 1, 0, 0, 1, 1, 1] [0, 0, 0, 0, 0, 0, 0, 0, 0, 0, 0, 0, 0, 1, 1] Q (tephralaw16_GhostScript.k5.st acts index b b1 log wrong x1 Lead N ID SayOp SayClient SaySeq SayKey SayValue SayOld y y1 y2 y3 y4 y5 H13) = tephralaw16_GhostScript.k5.body J acts index b b1 log wrong x1 Lead N ID SayOp SayClient SaySeq SayKey SayValue SayOld y y1 y2 y3 y4 y5 H13 Q := by kernel_rfl
theorem tephralaw16_GhostScript.k5.step {acts : Sl} {index : Int} {b : Nat} {b1 : Nat} {log : Sl} {wrong : Bool} {x1 : Int} {Lead : Bool} {N : Int} {ID : Int} {SayOp : Int} {SayClient : Int} {SaySeq : Int} {SayKey : Int} {SayValue : Int} {SayOld : Int} {y : Int} {y1 : Int} {y2 : Int} {y3 : ByteArray} {y4 : ByteArray} {y5 : ByteArray} {H13 : Hp} {Q : Value → Hp → Prop} (h : tephralaw16_GhostScript.k5.body J0 acts index b b1 log wrong x1 Lead N ID SayOp SayClient SaySeq SayKey SayValue SayOld y y1 y2 y3 y4 y5 H13 Q) : tephralaw16_GhostScript.k5 J0 acts index b b1 log wrong x1 Lead N ID SayOp SayClient SaySeq SayKey SayValue SayOld y y1 y2 y3 y4 y5 H13 Q := step_of (vSeg Try.prog tephralaw16_GhostScript.cf J0 tephralaw16_GhostScript.fn [1, 1, 1, 1, 1, 1, 0, 1, 0, 0, 1, 1, 0, 0, 1, 1, 1] [0, 0, 0, 0, 0, 0, 0, 0, 0, 0, 0, 0, 0, 1, 1] Q) (tephralaw16_GhostScript.k5.st acts index b b1 log wrong x1 Lead N ID SayOp SayClient SaySeq SayKey SayValue SayOld y y1 y2 y3 y4 y5 H13) (tephralaw16_GhostScript.k5.eq J0 acts index b b1 log wrong x1 Lead N ID SayOp SayClient SaySeq SayKey SayValue SayOld y y1 y2 y3 y4 y5 H13 Q) (by kernel_rfl) h
noncomputable def tephralaw16_GhostScript.k6.body (J : Jn) (acts : Sl) (index : Int) (b : Nat) (b1 : Nat) (log : Sl) (wrong : Bool) (x1 : Int) (Lead : Bool) (N : Int) (ID : Int) (SayOp : Int) (SayClient : Int) (SaySeq : Int) (SayKey : Int) (SayValue : Int) (SayOld : Int) (y : Int) (y1 : Int) (y2 : Int) (y3 : ByteArray) (y4 : ByteArray) (y5 : ByteArray) (H13 : Hp) (y6 : Int) (Q : Value → Hp → Prop) : Prop :=
 (7 : Int) ≠ 0 ∧ 
 Br ((Int.tmod N 7) == 1) (
 Br (decide (((log.len : Nat) : Int) > 0)) ((((log.len : Nat) : Int) : Int) ≠ 0 ∧ ((0 : Int) ≤ (Int.tmod (w64 (ID)) ((log.len : Nat) : Int)) ∧ (Int.tmod (w64 (ID)) ((log.len : Nat) : Int)) < ((log.len : Nat) : Int)) ∧ vPtr log.a (fun a1 => ∃ Index : Int, ∃ Term : Int, ∃ CmdOp : Int, ∃ CmdClient : Int, ∃ CmdSeq : Int, ∃ CmdKey : ByteArray, ∃ CmdValue : ByteArray, ∃ CmdOld : ByteArray, RowAt H13 (a1.add (((Int.tmod (w64 (ID)) ((log.len : Nat) : Int)) : Int).toNat * 8)) [.int .i64 Index, .int .i64 Term, .int .i64 CmdOp, .int .i64 CmdClient, .int .i64 CmdSeq, .string CmdKey, .string CmdValue, .string CmdOld] ∧ 
 tephralaw16_GhostScript.k7 J acts index b b1 log wrong x1 Lead N ID SayOp SayClient SaySeq SayKey SayValue SayOld H13 Index Term CmdOp CmdClient CmdSeq CmdKey CmdValue CmdOld Q))
 (
 tephralaw16_GhostScript.k7 J acts index b b1 log wrong x1 Lead N ID SayOp SayClient SaySeq SayKey SayValue SayOld H13 y6 (w64 ((IntKind.u8.wrap (Int.tdiv ID 100)))) y y1 y2 y3 y4 y5 Q))
 (
 tephralaw16_GhostScript.k7 J acts index b b1 log wrong x1 Lead N ID SayOp SayClient SaySeq SayKey SayValue SayOld H13 y6 (w64 ((IntKind.u8.wrap (Int.tdiv ID 100)))) y y1 y2 y3 y4 y5 Q)
theorem tephralaw16_GhostScript.k6.eq (J : Jn) (acts : Sl) (index : Int) (b : Nat) (b1 : Nat) (log : Sl) (wrong : Bool) (x1 : Int) (Lead : Bool) (N : Int) (ID : Int) (SayOp : Int) (SayClient : Int) (SaySeq : Int) (SayKey : Int) (SayValue : Int) (SayOld : Int) (y : Int) (y1 : Int) (y2 : Int) (y3 : ByteArray) (y4 : ByteArray) (y5 : ByteArray) (H13 : Hp) (y6 : Int) (Q : Value → Hp → Prop) : vSeg Try.prog tephralaw16_GhostScript.cf J tephralaw16_GhostScript.fn [1, 1, 1, 1, 1, 1, 0, 1, 0, 0, 1, 1, 0, 0, 1, 1, 1, 1] [0, 0, 0, 0, 0, 0, 0, 0, 0, 0, 0, 0, 0, 1, 1, 2] Q (tephralaw16_GhostScript.k6.st acts index b b1 log wrong x1 Lead N ID SayOp SayClient SaySeq SayKey SayValue SayOld y y1 y2 y3 y4 y5 H13 y6) = tephralaw16_GhostScript.k6.body J acts index b b1 log wrong x1 Lead N ID SayOp SayClient SaySeq SayKey SayValue SayOld y y1 y2 y3 y4 y5 H13 y6 Q := by kernel_rfl
theorem tephralaw16_GhostScript.k6.step {acts : Sl} {index : Int} {b : Nat} {b1 : Nat} {log : Sl} {wrong : Bool} {x1 : Int} {Lead : Bool} {N : Int} {ID : Int} {SayOp : Int} {SayClient : Int} {SaySeq : Int} {SayKey : Int} {SayValue : Int} {SayOld : Int} {y : Int} {y1 : Int} {y2 : Int} {y3 : ByteArray} {y4 : ByteArray} {y5 : ByteArray} {H13 : Hp} {y6 : Int} {Q : Value → Hp → Prop} (h : tephralaw16_GhostScript.k6.body J0 acts index b b1 log wrong x1 Lead N ID SayOp SayClient SaySeq SayKey SayValue SayOld y y1 y2 y3 y4 y5 H13 y6 Q) : tephralaw16_GhostScript.k6 J0 acts index b b1 log wrong x1 Lead N ID SayOp SayClient SaySeq SayKey SayValue SayOld y y1 y2 y3 y4 y5 H13 y6 Q := step_of (vSeg Try.prog tephralaw16_GhostScript.cf J0 tephralaw16_GhostScript.fn [1, 1, 1, 1, 1, 1, 0, 1, 0, 0, 1, 1, 0, 0, 1, 1, 1, 1] [0, 0, 0, 0, 0, 0, 0, 0, 0, 0, 0, 0, 0, 1, 1, 2] Q) (tephralaw16_GhostScript.k6.st acts index b b1 log wrong x1 Lead N ID SayOp SayClient SaySeq SayKey SayValue SayOld y y1 y2 y3 y4 y5 H13 y6) (tephralaw16_GhostScript.k6.eq J0 acts index b b1 log wrong x1 Lead N ID SayOp SayClient SaySeq SayKey SayValue SayOld y y1 y2 y3 y4 y5 H13 y6 Q) (by kernel_rfl) h
noncomputable def tephralaw16_GhostScript.k7.body (J : Jn) (acts : Sl) (index : Int) (b : Nat) (b1 : Nat) (log : Sl) (wrong : Bool) (x1 : Int) (Lead : Bool) (N : Int) (ID : Int) (SayOp : Int) (SayClient : Int) (SaySeq : Int) (SayKey : Int) (SayValue : Int) (SayOld : Int) (H13 : Hp) (y7 : Int) (y8 : Int) (y9 : Int) (y10 : Int) (y11 : Int) (y12 : ByteArray) (y13 : ByteArray) (y14 : ByteArray) (Q : Value → Hp → Prop) : Prop :=
 
 Br (y7 == (w64 (((log.len : Nat) : Int) + 1))) (
 tephralaw16_GhostScript.k8 J acts index b b1 log wrong x1 Lead N ID SayOp SayClient SaySeq SayKey SayValue SayOld H13 y7 y8 y9 y10 y11 y12 y13 y14 true Q)
 (
 Br (decide (y7 ≥ 1)) (
 Br (decide (y7 ≤ ((log.len : Nat) : Int))) (((0 : Int) ≤ (w64 (y7 - 1)) ∧ (w64 (y7 - 1)) < ((log.len : Nat) : Int)) ∧ vPtr log.a (fun a2 => ∃ Index1 : Int, ∃ Term1 : Int, ∃ CmdOp1 : Int, ∃ CmdClient1 : Int, ∃ CmdSeq1 : Int, ∃ CmdKey1 : ByteArray, ∃ CmdValue1 : ByteArray, ∃ CmdOld1 : ByteArray, RowAt H13 (a2.add (((w64 (y7 - 1)) : Int).toNat * 8)) [.int .i64 Index1, .int .i64 Term1, .int .i64 CmdOp1, .int .i64 CmdClient1, .int .i64 CmdSeq1, .string CmdKey1, .string CmdValue1, .string CmdOld1] ∧ 
 tephralaw16_GhostScript.k8 J acts index b b1 log wrong x1 Lead N ID SayOp SayClient SaySeq SayKey SayValue SayOld H13 y7 y8 y9 y10 y11 y12 y13 y14 ((Index1 == y7) && ((Term1 == y8) && (((CmdOp1 == y9) && ((CmdClient1 == y10) && ((CmdSeq1 == y11) && ((CmdKey1 == y12) && ((CmdValue1 == y13) && ((CmdOld1 == y14) && true)))))) && true))) Q))
 (
 tephralaw16_GhostScript.k8 J acts index b b1 log wrong x1 Lead N ID SayOp SayClient SaySeq SayKey SayValue SayOld H13 y7 y8 y9 y10 y11 y12 y13 y14 false Q))
 (
 tephralaw16_GhostScript.k8 J acts index b b1 log wrong x1 Lead N ID SayOp SayClient SaySeq SayKey SayValue SayOld H13 y7 y8 y9 y10 y11 y12 y13 y14 false Q))
theorem tephralaw16_GhostScript.k7.eq (J : Jn) (acts : Sl) (index : Int) (b : Nat) (b1 : Nat) (log : Sl) (wrong : Bool) (x1 : Int) (Lead : Bool) (N : Int) (ID : Int) (SayOp : Int) (SayClient : Int) (SaySeq : Int) (SayKey : Int) (SayValue : Int) (SayOld : Int) (H13 : Hp) (y7 : Int) (y8 : Int) (y9 : Int) (y10 : Int) (y11 : Int) (y12 : ByteArray) (y13 : ByteArray) (y14 : ByteArray) (Q : Value → Hp → Prop) : vSeg Try.prog tephralaw16_GhostScript.cf J tephralaw16_GhostScript.fn [1, 1, 1, 1, 1, 1, 0, 1, 0, 0, 1, 1, 0, 0, 1, 1, 1, 1, 1] [0, 0, 0, 0, 0, 0, 0, 0, 0, 0, 0, 0, 0, 1, 1, 2, 2] Q (tephralaw16_GhostScript.k7.st acts index b b1 log wrong x1 Lead N ID SayOp SayClient SaySeq SayKey SayValue SayOld H13 y7 y8 y9 y10 y11 y12 y13 y14) = tephralaw16_GhostScript.k7.body J acts index b b1 log wrong x1 Lead N ID SayOp SayClient SaySeq SayKey SayValue SayOld H13 y7 y8 y9 y10 y11 y12 y13 y14 Q := by kernel_rfl
theorem tephralaw16_GhostScript.k7.step {acts : Sl} {index : Int} {b : Nat} {b1 : Nat} {log : Sl} {wrong : Bool} {x1 : Int} {Lead : Bool} {N : Int} {ID : Int} {SayOp : Int} {SayClient : Int} {SaySeq : Int} {SayKey : Int} {SayValue : Int} {SayOld : Int} {H13 : Hp} {y7 : Int} {y8 : Int} {y9 : Int} {y10 : Int} {y11 : Int} {y12 : ByteArray} {y13 : ByteArray} {y14 : ByteArray} {Q : Value → Hp → Prop} (h : tephralaw16_GhostScript.k7.body J0 acts index b b1 log wrong x1 Lead N ID SayOp SayClient SaySeq SayKey SayValue SayOld H13 y7 y8 y9 y10 y11 y12 y13 y14 Q) : tephralaw16_GhostScript.k7 J0 acts index b b1 log wrong x1 Lead N ID SayOp SayClient SaySeq SayKey SayValue SayOld H13 y7 y8 y9 y10 y11 y12 y13 y14 Q := step_of (vSeg Try.prog tephralaw16_GhostScript.cf J0 tephralaw16_GhostScript.fn [1, 1, 1, 1, 1, 1, 0, 1, 0, 0, 1, 1, 0, 0, 1, 1, 1, 1, 1] [0, 0, 0, 0, 0, 0, 0, 0, 0, 0, 0, 0, 0, 1, 1, 2, 2] Q) (tephralaw16_GhostScript.k7.st acts index b b1 log wrong x1 Lead N ID SayOp SayClient SaySeq SayKey SayValue SayOld H13 y7 y8 y9 y10 y11 y12 y13 y14) (tephralaw16_GhostScript.k7.eq J0 acts index b b1 log wrong x1 Lead N ID SayOp SayClient SaySeq SayKey SayValue SayOld H13 y7 y8 y9 y10 y11 y12 y13 y14 Q) (by kernel_rfl) h
noncomputable def tephralaw16_GhostScript.k8.body (J : Jn) (acts : Sl) (index : Int) (b : Nat) (b1 : Nat) (log : Sl) (wrong : Bool) (x1 : Int) (Lead : Bool) (N : Int) (ID : Int) (SayOp : Int) (SayClient : Int) (SaySeq : Int) (SayKey : Int) (SayValue : Int) (SayOld : Int) (H13 : Hp) (y7 : Int) (y8 : Int) (y9 : Int) (y10 : Int) (y11 : Int) (y12 : ByteArray) (y13 : ByteArray) (y14 : ByteArray) (ok2 : Bool) (Q : Value → Hp → Prop) : Prop :=
 
 Br (y7 == (w64 (((log.len : Nat) : Int) + 1))) (∀ b2 : Nat, b2 = Array.size H13 → ∀ H14 : Hp, H14 = (Array.push H13 (.cells #[.int .i64 y7, .int .i64 y8, .int .i64 y9, .int .i64 y10, .int .i64 y11, .string y12, .string y13, .string y14] T_api_Entry)) → 
 vApp Try.prog T_sl_api_Entry log.a log.len log.cap (.slice (some (Addr.mk b2 0 none)) 1 1) H14 (fun ap H15 => 
 tephralaw16_GhostScript.k9 J acts index b b1 wrong x1 Lead N ID SayOp SayClient SaySeq SayKey SayValue SayOld y7 y8 y9 y10 y11 y12 y13 y14 ok2 ap H15 Q))
 (
 tephralaw16_GhostScript.k9 J acts index b b1 wrong x1 Lead N ID SayOp SayClient SaySeq SayKey SayValue SayOld y7 y8 y9 y10 y11 y12 y13 y14 ok2 log H13 Q)
theorem tephralaw16_GhostScript.k8.eq (J : Jn) (acts : Sl) (index : Int) (b : Nat) (b1 : Nat) (log : Sl) (wrong : Bool) (x1 : Int) (Lead : Bool) (N : Int) (ID : Int) (SayOp : Int) (SayClient : Int) (SaySeq : Int) (SayKey : Int) (SayValue : Int) (SayOld : Int) (H13 : Hp) (y7 : Int) (y8 : Int) (y9 : Int) (y10 : Int) (y11 : Int) (y12 : ByteArray) (y13 : ByteArray) (y14 : ByteArray) (ok2 : Bool) (Q : Value → Hp → Prop) : vSeg Try.prog tephralaw16_GhostScript.cf J tephralaw16_GhostScript.fn [1, 1, 1, 1, 1, 1, 0, 1, 0, 0, 1, 1, 0, 0, 1, 1, 1, 1, 1, 1] [0, 0, 0, 0, 0, 0, 0, 0, 0, 0, 0, 0, 0, 1, 1, 2, 2, 2] Q (tephralaw16_GhostScript.k8.st acts index b b1 log wrong x1 Lead N ID SayOp SayClient SaySeq SayKey SayValue SayOld H13 y7 y8 y9 y10 y11 y12 y13 y14 ok2) = tephralaw16_GhostScript.k8.body J acts index b b1 log wrong x1 Lead N ID SayOp SayClient SaySeq SayKey SayValue SayOld H13 y7 y8 y9 y10 y11 y12 y13 y14 ok2 Q := by kernel_rfl
theorem tephralaw16_GhostScript.k8.step {acts : Sl} {index : Int} {b : Nat} {b1 : Nat} {log : Sl} {wrong : Bool} {x1 : Int} {Lead : Bool} {N : Int} {ID : Int} {SayOp : Int} {SayClient : Int} {SaySeq : Int} {SayKey : Int} {SayValue : Int} {SayOld : Int} {H13 : Hp} {y7 : Int} {y8 : Int} {y9 : Int} {y10 : Int} {y11 : Int} {y12 : ByteArray} {y13 : ByteArray} {y14 : ByteArray} {ok2 : Bool} {Q : Value → Hp → Prop} (h : tephralaw16_GhostScript.k8.body J0 acts index b b1 log wrong x1 Lead N ID SayOp SayClient SaySeq SayKey SayValue SayOld H13 y7 y8 y9 y10 y11 y12 y13 y14 ok2 Q) : tephralaw16_GhostScript.k8 J0 acts index b b1 log wrong x1 Lead N ID SayOp SayClient SaySeq SayKey SayValue SayOld H13 y7 y8 y9 y10 y11 y12 y13 y14 ok2 Q := step_of (vSeg Try.prog tephralaw16_GhostScript.cf J0 tephralaw16_GhostScript.fn [1, 1, 1, 1, 1, 1, 0, 1, 0, 0, 1, 1, 0, 0, 1, 1, 1, 1, 1, 1] [0, 0, 0, 0, 0, 0, 0, 0, 0, 0, 0, 0, 0, 1, 1, 2, 2, 2] Q) (tephralaw16_GhostScript.k8.st acts index b b1 log wrong x1 Lead N ID SayOp SayClient SaySeq SayKey SayValue SayOld H13 y7 y8 y9 y10 y11 y12 y13 y14 ok2) (tephralaw16_GhostScript.k8.eq J0 acts index b b1 log wrong x1 Lead N ID SayOp SayClient SaySeq SayKey SayValue SayOld H13 y7 y8 y9 y10 y11 y12 y13 y14 ok2 Q) (by kernel_rfl) h
noncomputable def tephralaw16_GhostScript.k9.body (J : Jn) (acts : Sl) (index : Int) (b : Nat) (b1 : Nat) (wrong : Bool) (x1 : Int) (Lead : Bool) (N : Int) (ID : Int) (SayOp : Int) (SayClient : Int) (SaySeq : Int) (SayKey : Int) (SayValue : Int) (SayOld : Int) (y7 : Int) (y8 : Int) (y9 : Int) (y10 : Int) (y11 : Int) (y12 : ByteArray) (y13 : ByteArray) (y14 : ByteArray) (ok2 : Bool) (log1 : Sl) (H16 : Hp) (Q : Value → Hp → Prop) : Prop :=
 
 SCalls Try.prog ghost_Ghost_Commit.id [.pointer (some (Addr.mk b 0 none)), .agg #[.int .i64 y7, .int .i64 y8, .int .i64 y9, .int .i64 y10, .int .i64 y11, .string y12, .string y13, .string y14]] H16 (fun r4 H17 => ∃ x4 : Bool, r4 = .bool x4 ∧ 
 Br (!(x4 == ok2)) (Q (.bool false) H17)
 (
 Br wrong (
 tephralaw16_GhostScript.k10 J acts index b b1 x1 log1 true H17 Q)
 (
 tephralaw16_GhostScript.k10 J acts index b b1 x1 log1 (!ok2) H17 Q)))
theorem tephralaw16_GhostScript.k9.eq (J : Jn) (acts : Sl) (index : Int) (b : Nat) (b1 : Nat) (wrong : Bool) (x1 : Int) (Lead : Bool) (N : Int) (ID : Int) (SayOp : Int) (SayClient : Int) (SaySeq : Int) (SayKey : Int) (SayValue : Int) (SayOld : Int) (y7 : Int) (y8 : Int) (y9 : Int) (y10 : Int) (y11 : Int) (y12 : ByteArray) (y13 : ByteArray) (y14 : ByteArray) (ok2 : Bool) (log1 : Sl) (H16 : Hp) (Q : Value → Hp → Prop) : vSeg Try.prog tephralaw16_GhostScript.cf J tephralaw16_GhostScript.fn [1, 1, 1, 1, 1, 1, 0, 1, 0, 0, 1, 1, 0, 0, 1, 1, 1, 1, 1, 1, 1] [0, 0, 0, 0, 0, 0, 0, 0, 0, 0, 0, 0, 0, 1, 1, 2, 2, 2, 2] Q (tephralaw16_GhostScript.k9.st acts index b b1 wrong x1 Lead N ID SayOp SayClient SaySeq SayKey SayValue SayOld y7 y8 y9 y10 y11 y12 y13 y14 ok2 log1 H16) = tephralaw16_GhostScript.k9.body J acts index b b1 wrong x1 Lead N ID SayOp SayClient SaySeq SayKey SayValue SayOld y7 y8 y9 y10 y11 y12 y13 y14 ok2 log1 H16 Q := by kernel_rfl
theorem tephralaw16_GhostScript.k9.step {acts : Sl} {index : Int} {b : Nat} {b1 : Nat} {wrong : Bool} {x1 : Int} {Lead : Bool} {N : Int} {ID : Int} {SayOp : Int} {SayClient : Int} {SaySeq : Int} {SayKey : Int} {SayValue : Int} {SayOld : Int} {y7 : Int} {y8 : Int} {y9 : Int} {y10 : Int} {y11 : Int} {y12 : ByteArray} {y13 : ByteArray} {y14 : ByteArray} {ok2 : Bool} {log1 : Sl} {H16 : Hp} {Q : Value → Hp → Prop} (h : tephralaw16_GhostScript.k9.body J0 acts index b b1 wrong x1 Lead N ID SayOp SayClient SaySeq SayKey SayValue SayOld y7 y8 y9 y10 y11 y12 y13 y14 ok2 log1 H16 Q) : tephralaw16_GhostScript.k9 J0 acts index b b1 wrong x1 Lead N ID SayOp SayClient SaySeq SayKey SayValue SayOld y7 y8 y9 y10 y11 y12 y13 y14 ok2 log1 H16 Q := step_of (vSeg Try.prog tephralaw16_GhostScript.cf J0 tephralaw16_GhostScript.fn [1, 1, 1, 1, 1, 1, 0, 1, 0, 0, 1, 1, 0, 0, 1, 1, 1, 1, 1, 1, 1] [0, 0, 0, 0, 0, 0, 0, 0, 0, 0, 0, 0, 0, 1, 1, 2, 2, 2, 2] Q) (tephralaw16_GhostScript.k9.st acts index b b1 wrong x1 Lead N ID SayOp SayClient SaySeq SayKey SayValue SayOld y7 y8 y9 y10 y11 y12 y13 y14 ok2 log1 H16) (tephralaw16_GhostScript.k9.eq J0 acts index b b1 wrong x1 Lead N ID SayOp SayClient SaySeq SayKey SayValue SayOld y7 y8 y9 y10 y11 y12 y13 y14 ok2 log1 H16 Q) (by kernel_rfl) h
noncomputable def tephralaw16_GhostScript.k10.body (J : Jn) (acts : Sl) (index : Int) (b : Nat) (b1 : Nat) (x1 : Int) (log2 : Sl) (wrong1 : Bool) (H18 : Hp) (Q : Value → Hp → Prop) : Prop :=
 
 tephralaw16_GhostScript.l1 J acts index b b1 H18 log2 wrong1 (w64 (x1 + 1)) Q
theorem tephralaw16_GhostScript.k10.eq (J : Jn) (acts : Sl) (index : Int) (b : Nat) (b1 : Nat) (x1 : Int) (log2 : Sl) (wrong1 : Bool) (H18 : Hp) (Q : Value → Hp → Prop) : vSeg Try.prog tephralaw16_GhostScript.cf J tephralaw16_GhostScript.fn [1, 1, 1, 1, 1, 1, 0, 1, 0, 0, 1, 1, 1] [0, 0, 0, 0, 0, 0, 0, 0, 0, 0, 0, 0] Q (tephralaw16_GhostScript.k10.st acts index b b1 x1 log2 wrong1 H18) = tephralaw16_GhostScript.k10.body J acts index b b1 x1 log2 wrong1 H18 Q := by kernel_rfl
theorem tephralaw16_GhostScript.k10.step {acts : Sl} {index : Int} {b : Nat} {b1 : Nat} {x1 : Int} {log2 : Sl} {wrong1 : Bool} {H18 : Hp} {Q : Value → Hp → Prop} (h : tephralaw16_GhostScript.k10.body J0 acts index b b1 x1 log2 wrong1 H18 Q) : tephralaw16_GhostScript.k10 J0 acts index b b1 x1 log2 wrong1 H18 Q := step_of (vSeg Try.prog tephralaw16_GhostScript.cf J0 tephralaw16_GhostScript.fn [1, 1, 1, 1, 1, 1, 0, 1, 0, 0, 1, 1, 1] [0, 0, 0, 0, 0, 0, 0, 0, 0, 0, 0, 0] Q) (tephralaw16_GhostScript.k10.st acts index b b1 x1 log2 wrong1 H18) (tephralaw16_GhostScript.k10.eq J0 acts index b b1 x1 log2 wrong1 H18 Q) (by kernel_rfl) h
noncomputable def tephralaw16_GhostScript.k11.body (J : Jn) (index : Int) (b : Nat) (b1 : Nat) (log : Sl) (wrong : Bool) (x5 : Sl) (x7 : Bool) (H21 : Hp) (Q : Value → Hp → Prop) : Prop :=
 
 Br x7 (
 tephralaw16_GhostScript.k12 J index b b1 log x5 true H21 Q)
 (
 SCalls Try.prog ghost_Ghost_Wrong.id [.pointer (some (Addr.mk b 0 none))] H21 (fun r7 H22 => ∃ x8 : Bool, r7 = .bool x8 ∧ 
 tephralaw16_GhostScript.k12 J index b b1 log x5 (!(x8 == wrong)) H22 Q))
theorem tephralaw16_GhostScript.k11.eq (J : Jn) (index : Int) (b : Nat) (b1 : Nat) (log : Sl) (wrong : Bool) (x5 : Sl) (x7 : Bool) (H21 : Hp) (Q : Value → Hp → Prop) : vMid Try.prog tephralaw16_GhostScript.cf J tephralaw16_GhostScript.fn [1, 1, 1, 1, 1, 1, 1, 1, 0, 0] [0, 0, 0, 0, 0, 0, 0, 0, 0, 0] 12 Q (tephralaw16_GhostScript.k11.st index b b1 log wrong x5 x7 H21) = tephralaw16_GhostScript.k11.body J index b b1 log wrong x5 x7 H21 Q := by kernel_rfl
theorem tephralaw16_GhostScript.k11.step {index : Int} {b : Nat} {b1 : Nat} {log : Sl} {wrong : Bool} {x5 : Sl} {x7 : Bool} {H21 : Hp} {Q : Value → Hp → Prop} (h : tephralaw16_GhostScript.k11.body J0 index b b1 log wrong x5 x7 H21 Q) : tephralaw16_GhostScript.k11 J0 index b b1 log wrong x5 x7 H21 Q := step_of (vMid Try.prog tephralaw16_GhostScript.cf J0 tephralaw16_GhostScript.fn [1, 1, 1, 1, 1, 1, 1, 1, 0, 0] [0, 0, 0, 0, 0, 0, 0, 0, 0, 0] 12 Q) (tephralaw16_GhostScript.k11.st index b b1 log wrong x5 x7 H21) (tephralaw16_GhostScript.k11.eq J0 index b b1 log wrong x5 x7 H21 Q) (by kernel_rfl) h
noncomputable def tephralaw16_GhostScript.k12.body (J : Jn) (index : Int) (b : Nat) (b1 : Nat) (log : Sl) (x5 : Sl) (x9 : Bool) (H23 : Hp) (Q : Value → Hp → Prop) : Prop :=
 
 Br x9 (Q (.bool false) H23)
 (
 tephralaw16_GhostScript.l2 J index b b1 log x5 H23 0 Q)
theorem tephralaw16_GhostScript.k12.eq (J : Jn) (index : Int) (b : Nat) (b1 : Nat) (log : Sl) (x5 : Sl) (x9 : Bool) (H23 : Hp) (Q : Value → Hp → Prop) : vSeg Try.prog tephralaw16_GhostScript.cf J tephralaw16_GhostScript.fn [1, 1, 1, 1, 1, 1, 1, 1, 0, 1] [0, 0, 0, 0, 0, 0, 0, 0, 0, 0] Q (tephralaw16_GhostScript.k12.st index b b1 log x5 x9 H23) = tephralaw16_GhostScript.k12.body J index b b1 log x5 x9 H23 Q := by kernel_rfl
theorem tephralaw16_GhostScript.k12.step {index : Int} {b : Nat} {b1 : Nat} {log : Sl} {x5 : Sl} {x9 : Bool} {H23 : Hp} {Q : Value → Hp → Prop} (h : tephralaw16_GhostScript.k12.body J0 index b b1 log x5 x9 H23 Q) : tephralaw16_GhostScript.k12 J0 index b b1 log x5 x9 H23 Q := step_of (vSeg Try.prog tephralaw16_GhostScript.cf J0 tephralaw16_GhostScript.fn [1, 1, 1, 1, 1, 1, 1, 1, 0, 1] [0, 0, 0, 0, 0, 0, 0, 0, 0, 0] Q) (tephralaw16_GhostScript.k12.st index b b1 log x5 x9 H23) (tephralaw16_GhostScript.k12.eq J0 index b b1 log x5 x9 H23 Q) (by kernel_rfl) h
noncomputable def tephralaw16_GhostScript.l2.body (J : Jn) (index : Int) (b : Nat) (b1 : Nat) (log : Sl) (x5 : Sl) (H24 : Hp) (x10 : Int) (Q : Value → Hp → Prop) : Prop :=
 
 Br (decide (x10 < ((x5.len : Nat) : Int))) (((0 : Int) ≤ x10 ∧ x10 < ((x5.len : Nat) : Int)) ∧ vPtr x5.a (fun a3 => ∃ Index2 : Int, ∃ Term2 : Int, ∃ CmdOp2 : Int, ∃ CmdClient2 : Int, ∃ CmdSeq2 : Int, ∃ CmdKey2 : ByteArray, ∃ CmdValue2 : ByteArray, ∃ CmdOld2 : ByteArray, RowAt H24 (a3.add ((x10 : Int).toNat * 8)) [.int .i64 Index2, .int .i64 Term2, .int .i64 CmdOp2, .int .i64 CmdClient2, .int .i64 CmdSeq2, .string CmdKey2, .string CmdValue2, .string CmdOld2] ∧ ((0 : Int) ≤ x10 ∧ x10 < ((log.len : Nat) : Int)) ∧ vPtr log.a (fun a4 => ∃ Index3 : Int, ∃ Term3 : Int, ∃ CmdOp3 : Int, ∃ CmdClient3 : Int, ∃ CmdSeq3 : Int, ∃ CmdKey3 : ByteArray, ∃ CmdValue3 : ByteArray, ∃ CmdOld3 : ByteArray, RowAt H24 (a4.add ((x10 : Int).toNat * 8)) [.int .i64 Index3, .int .i64 Term3, .int .i64 CmdOp3, .int .i64 CmdClient3, .int .i64 CmdSeq3, .string CmdKey3, .string CmdValue3, .string CmdOld3] ∧ 
 tephralaw16_GhostScript.k13 J index b b1 log x5 H24 x10 Index2 Term2 CmdOp2 CmdClient2 CmdSeq2 CmdKey2 CmdValue2 CmdOld2 Index3 Term3 CmdOp3 CmdClient3 CmdSeq3 CmdKey3 CmdValue3 CmdOld3 Q)))
 (
 tephralaw16_GhostScript.l3 J index b b1 log H24 0 Q)
theorem tephralaw16_GhostScript.l2.eq (J : Jn) (index : Int) (b : Nat) (b1 : Nat) (log : Sl) (x5 : Sl) (H24 : Hp) (x10 : Int) (Q : Value → Hp → Prop) : vAtBody Try.prog tephralaw16_GhostScript.cf J tephralaw16_GhostScript.fn [1, 1, 1, 1, 1, 1, 1, 1, 1, 0, 1, 0] [0, 0, 0, 0, 0, 0, 0, 0, 0, 0, 0] Q (tephralaw16_GhostScript.l2.st index b b1 log x5 H24 x10) = tephralaw16_GhostScript.l2.body J index b b1 log x5 H24 x10 Q := by kernel_rfl
theorem tephralaw16_GhostScript.l2.step {index : Int} {b : Nat} {b1 : Nat} {log : Sl} {x5 : Sl} {H24 : Hp} {x10 : Int} {Q : Value → Hp → Prop} (h : tephralaw16_GhostScript.l2.body J0 index b b1 log x5 H24 x10 Q) : tephralaw16_GhostScript.l2 J0 index b b1 log x5 H24 x10 Q := vAt_stepC (tephralaw16_GhostScript.l2.st index b b1 log x5 H24 x10) (tephralaw16_GhostScript.l2.eq J0 index b b1 log x5 H24 x10 Q) (by kernel_rfl) h
noncomputable def tephralaw16_GhostScript.k13.body (J : Jn) (index : Int) (b : Nat) (b1 : Nat) (log : Sl) (x5 : Sl) (H24 : Hp) (x10 : Int) (Index2 : Int) (Term2 : Int) (CmdOp2 : Int) (CmdClient2 : Int) (CmdSeq2 : Int) (CmdKey2 : ByteArray) (CmdValue2 : ByteArray) (CmdOld2 : ByteArray) (Index3 : Int) (Term3 : Int) (CmdOp3 : Int) (CmdClient3 : Int) (CmdSeq3 : Int) (CmdKey3 : ByteArray) (CmdValue3 : ByteArray) (CmdOld3 : ByteArray) (Q : Value → Hp → Prop) : Prop :=
 
 Br (!((Index2 == Index3) && ((Term2 == Term3) && (((CmdOp2 == CmdOp3) && ((CmdClient2 == CmdClient3) && ((CmdSeq2 == CmdSeq3) && ((CmdKey2 == CmdKey3) && ((CmdValue2 == CmdValue3) && ((CmdOld2 == CmdOld3) && true)))))) && true)))) (Q (.bool false) H24)
 (
 tephralaw16_GhostScript.l2 J index b b1 log x5 H24 (w64 (x10 + 1)) Q)
theorem tephralaw16_GhostScript.k13.eq (J : Jn) (index : Int) (b : Nat) (b1 : Nat) (log : Sl) (x5 : Sl) (H24 : Hp) (x10 : Int) (Index2 : Int) (Term2 : Int) (CmdOp2 : Int) (CmdClient2 : Int) (CmdSeq2 : Int) (CmdKey2 : ByteArray) (CmdValue2 : ByteArray) (CmdOld2 : ByteArray) (Index3 : Int) (Term3 : Int) (CmdOp3 : Int) (CmdClient3 : Int) (CmdSeq3 : Int) (CmdKey3 : ByteArray) (CmdValue3 : ByteArray) (CmdOld3 : ByteArray) (Q : Value → Hp → Prop) : vSeg Try.prog tephralaw16_GhostScript.cf J tephralaw16_GhostScript.fn [1, 1, 1, 1, 1, 1, 1, 1, 1, 0, 1, 0, 0, 1, 1, 0, 0, 1, 1] [0, 0, 0, 0, 0, 0, 0, 0, 0, 0, 0, 0, 0, 0, 0, 0, 0] Q (tephralaw16_GhostScript.k13.st index b b1 log x5 H24 x10 Index2 Term2 CmdOp2 CmdClient2 CmdSeq2 CmdKey2 CmdValue2 CmdOld2 Index3 Term3 CmdOp3 CmdClient3 CmdSeq3 CmdKey3 CmdValue3 CmdOld3) = tephralaw16_GhostScript.k13.body J index b b1 log x5 H24 x10 Index2 Term2 CmdOp2 CmdClient2 CmdSeq2 CmdKey2 CmdValue2 CmdOld2 Index3 Term3 CmdOp3 CmdClient3 CmdSeq3 CmdKey3 CmdValue3 CmdOld3 Q := by kernel_rfl
theorem tephralaw16_GhostScript.k13.step {index : Int} {b : Nat} {b1 : Nat} {log : Sl} {x5 : Sl} {H24 : Hp} {x10 : Int} {Index2 : Int} {Term2 : Int} {CmdOp2 : Int} {CmdClient2 : Int} {CmdSeq2 : Int} {CmdKey2 : ByteArray} {CmdValue2 : ByteArray} {CmdOld2 : ByteArray} {Index3 : Int} {Term3 : Int} {CmdOp3 : Int} {CmdClient3 : Int} {CmdSeq3 : Int} {CmdKey3 : ByteArray} {CmdValue3 : ByteArray} {CmdOld3 : ByteArray} {Q : Value → Hp → Prop} (h : tephralaw16_GhostScript.k13.body J0 index b b1 log x5 H24 x10 Index2 Term2 CmdOp2 CmdClient2 CmdSeq2 CmdKey2 CmdValue2 CmdOld2 Index3 Term3 CmdOp3 CmdClient3 CmdSeq3 CmdKey3 CmdValue3 CmdOld3 Q) : tephralaw16_GhostScript.k13 J0 index b b1 log x5 H24 x10 Index2 Term2 CmdOp2 CmdClient2 CmdSeq2 CmdKey2 CmdValue2 CmdOld2 Index3 Term3 CmdOp3 CmdClient3 CmdSeq3 CmdKey3 CmdValue3 CmdOld3 Q := step_of (vSeg Try.prog tephralaw16_GhostScript.cf J0 tephralaw16_GhostScript.fn [1, 1, 1, 1, 1, 1, 1, 1, 1, 0, 1, 0, 0, 1, 1, 0, 0, 1, 1] [0, 0, 0, 0, 0, 0, 0, 0, 0, 0, 0, 0, 0, 0, 0, 0, 0] Q) (tephralaw16_GhostScript.k13.st index b b1 log x5 H24 x10 Index2 Term2 CmdOp2 CmdClient2 CmdSeq2 CmdKey2 CmdValue2 CmdOld2 Index3 Term3 CmdOp3 CmdClient3 CmdSeq3 CmdKey3 CmdValue3 CmdOld3) (tephralaw16_GhostScript.k13.eq J0 index b b1 log x5 H24 x10 Index2 Term2 CmdOp2 CmdClient2 CmdSeq2 CmdKey2 CmdValue2 CmdOld2 Index3 Term3 CmdOp3 CmdClient3 CmdSeq3 CmdKey3 CmdValue3 CmdOld3 Q) (by kernel_rfl) h
noncomputable def tephralaw16_GhostScript.l3.body (J : Jn) (index : Int) (b : Nat) (b1 : Nat) (log : Sl) (H25 : Hp) (t : Int) (Q : Value → Hp → Prop) : Prop :=
 
 Br (decide (t < 9)) (∃ x11 : Int, ∃ ok3 : Bool, LookIs Try.prog T_map_int_int H25 (some b1) (.int .i64 t) (.int .i64 x11) ok3 ∧ 
 SCalls Try.prog ghost_Ghost_Leader.id [.pointer (some (Addr.mk b 0 none)), .int .i64 t] H25 (fun r8 H26 => ∃ x12 : Int, ∃ x13 : Bool, r8 = .tuple #[.int .i64 x12, .bool x13] ∧ 
 Br (x12 != x11) (
 tephralaw16_GhostScript.k14 J index b b1 log t H26 true Q)
 (
 tephralaw16_GhostScript.k14 J index b b1 log t H26 (!(x13 == ok3)) Q)))
 (
 SCalls Try.prog ghost_Ghost_State.id [.pointer (some (Addr.mk b 0 none)), .int .i64 (w64 (index))] H25 (fun r9 H27 => ∃ Index4 : Int, ∃ Term4 : Int, ∃ Pairs : Sl, ∃ Sessions : Sl, ∃ x15 : Bool, r9 = .tuple #[.agg #[.int .i64 Index4, .int .i64 Term4, .slice Pairs.a Pairs.len Pairs.cap, .slice Sessions.a Sessions.len Sessions.cap], .bool x15] ∧ ∀ H28 : Hp, H28 = (holes H27 1) → 
 Br (decide (index < 0)) (
 tephralaw16_GhostScript.k15 J index log Index4 Term4 Pairs Sessions x15 H28 true Q)
 (
 tephralaw16_GhostScript.k15 J index log Index4 Term4 Pairs Sessions x15 H28 (decide ((w64 (index)) > ((log.len : Nat) : Int))) Q)))
theorem tephralaw16_GhostScript.l3.eq (J : Jn) (index : Int) (b : Nat) (b1 : Nat) (log : Sl) (H25 : Hp) (t : Int) (Q : Value → Hp → Prop) : vAtBody Try.prog tephralaw16_GhostScript.cf J tephralaw16_GhostScript.fn [1, 1, 1, 1, 1, 1, 1, 1, 1, 1, 0, 1, 0] [0, 0, 0, 0, 0, 0, 0, 0, 0, 0, 0, 0] Q (tephralaw16_GhostScript.l3.st index b b1 log H25 t) = tephralaw16_GhostScript.l3.body J index b b1 log H25 t Q := by kernel_rfl
theorem tephralaw16_GhostScript.l3.step {index : Int} {b : Nat} {b1 : Nat} {log : Sl} {H25 : Hp} {t : Int} {Q : Value → Hp → Prop} (h : tephralaw16_GhostScript.l3.body J0 index b b1 log H25 t Q) : tephralaw16_GhostScript.l3 J0 index b b1 log H25 t Q := vAt_stepC (tephralaw16_GhostScript.l3.st index b b1 log H25 t) (tephralaw16_GhostScript.l3.eq J0 index b b1 log H25 t Q) (by kernel_rfl) h
noncomputable def tephralaw16_GhostScript.k14.body (J : Jn) (index : Int) (b : Nat) (b1 : Nat) (log : Sl) (t : Int) (H26 : Hp) (x14 : Bool) (Q : Value → Hp → Prop) : Prop :=
 
 Br x14 (Q (.bool false) H26)
 (
 tephralaw16_GhostScript.l3 J index b b1 log H26 (w64 (t + 1)) Q)
theorem tephralaw16_GhostScript.k14.eq (J : Jn) (index : Int) (b : Nat) (b1 : Nat) (log : Sl) (t : Int) (H26 : Hp) (x14 : Bool) (Q : Value → Hp → Prop) : vSeg Try.prog tephralaw16_GhostScript.cf J tephralaw16_GhostScript.fn [1, 1, 1, 1, 1, 1, 1, 1, 1, 1, 0, 1, 0, 0, 1, 0, 0, 1, 1, 1] [0, 0, 0, 0, 0, 0, 0, 0, 0, 0, 0, 0, 0, 0, 0, 0, 0, 0] Q (tephralaw16_GhostScript.k14.st index b b1 log t H26 x14) = tephralaw16_GhostScript.k14.body J index b b1 log t H26 x14 Q := by kernel_rfl
theorem tephralaw16_GhostScript.k14.step {index : Int} {b : Nat} {b1 : Nat} {log : Sl} {t : Int} {H26 : Hp} {x14 : Bool} {Q : Value → Hp → Prop} (h : tephralaw16_GhostScript.k14.body J0 index b b1 log t H26 x14 Q) : tephralaw16_GhostScript.k14 J0 index b b1 log t H26 x14 Q := step_of (vSeg Try.prog tephralaw16_GhostScript.cf J0 tephralaw16_GhostScript.fn [1, 1, 1, 1, 1, 1, 1, 1, 1, 1, 0, 1, 0, 0, 1, 0, 0, 1, 1, 1] [0, 0, 0, 0, 0, 0, 0, 0, 0, 0, 0, 0, 0, 0, 0, 0, 0, 0] Q) (tephralaw16_GhostScript.k14.st index b b1 log t H26 x14) (tephralaw16_GhostScript.k14.eq J0 index b b1 log t H26 x14 Q) (by kernel_rfl) h
noncomputable def tephralaw16_GhostScript.k15.body (J : Jn) (index : Int) (log : Sl) (Index4 : Int) (Term4 : Int) (Pairs : Sl) (Sessions : Sl) (x15 : Bool) (H28 : Hp) (x16 : Bool) (Q : Value → Hp → Prop) : Prop :=
 
 Br x16 (
 Br (!x15) (
 tephralaw16_GhostScript.k16 J Index4 Term4 Pairs Sessions H28 (Index4 == 0) Q)
 (
 tephralaw16_GhostScript.k16 J Index4 Term4 Pairs Sessions H28 false Q))
 (
 Br x15 (((0 : Int) ≤ index ∧ index ≤ ((log.cap : Nat) : Int)) ∧ 
 SCalls Try.prog state_Fold.id [.agg #[.int .i64 0, .int .i64 0, .slice none 0 0, .slice none 0 0], .slice (cutA log.a log.cap 0 8) ((index : Int).toNat) log.cap] H28 (fun r10 H29 => ∃ Index5 : Int, ∃ Term5 : Int, ∃ Pairs1 : Sl, ∃ Sessions1 : Sl, r10 = .agg #[.int .i64 Index5, .int .i64 Term5, .slice Pairs1.a Pairs1.len Pairs1.cap, .slice Sessions1.a Sessions1.len Sessions1.cap] ∧ 
 SCalls Try.prog state_Same.id [.agg #[.int .i64 Index4, .int .i64 Term4, .slice Pairs.a Pairs.len Pairs.cap, .slice Sessions.a Sessions.len Sessions.cap], .agg #[.int .i64 Index5, .int .i64 Term5, .slice Pairs1.a Pairs1.len Pairs1.cap, .slice Sessions1.a Sessions1.len Sessions1.cap]] H29 (fun r11 H30 => ∃ x18 : Bool, r11 = .bool x18 ∧ Q (.bool x18) H30)))
 (Q (.bool false) H28))
theorem tephralaw16_GhostScript.k15.eq (J : Jn) (index : Int) (log : Sl) (Index4 : Int) (Term4 : Int) (Pairs : Sl) (Sessions : Sl) (x15 : Bool) (H28 : Hp) (x16 : Bool) (Q : Value → Hp → Prop) : vSeg Try.prog tephralaw16_GhostScript.cf J tephralaw16_GhostScript.fn [1, 1, 1, 1, 1, 1, 1, 1, 1, 1, 1, 1, 0, 1] [0, 0, 0, 0, 0, 0, 0, 0, 0, 0, 0, 0, 1, 1] Q (tephralaw16_GhostScript.k15.st index log Index4 Term4 Pairs Sessions x15 H28 x16) = tephralaw16_GhostScript.k15.body J index log Index4 Term4 Pairs Sessions x15 H28 x16 Q := by kernel_rfl
theorem tephralaw16_GhostScript.k15.step {index : Int} {log : Sl} {Index4 : Int} {Term4 : Int} {Pairs : Sl} {Sessions : Sl} {x15 : Bool} {H28 : Hp} {x16 : Bool} {Q : Value → Hp → Prop} (h : tephralaw16_GhostScript.k15.body J0 index log Index4 Term4 Pairs Sessions x15 H28 x16 Q) : tephralaw16_GhostScript.k15 J0 index log Index4 Term4 Pairs Sessions x15 H28 x16 Q := step_of (vSeg Try.prog tephralaw16_GhostScript.cf J0 tephralaw16_GhostScript.fn [1, 1, 1, 1, 1, 1, 1, 1, 1, 1, 1, 1, 0, 1] [0, 0, 0, 0, 0, 0, 0, 0, 0, 0, 0, 0, 1, 1] Q) (tephralaw16_GhostScript.k15.st index log Index4 Term4 Pairs Sessions x15 H28 x16) (tephralaw16_GhostScript.k15.eq J0 index log Index4 Term4 Pairs Sessions x15 H28 x16 Q) (by kernel_rfl) h
noncomputable def tephralaw16_GhostScript.k16.body (J : Jn) (Index4 : Int) (Term4 : Int) (Pairs : Sl) (Sessions : Sl) (H28 : Hp) (x17 : Bool) (Q : Value → Hp → Prop) : Prop :=
 
 Br x17 (Q (.bool (((Pairs.len : Nat) : Int) == 0)) H28)
 (Q (.bool false) H28)
theorem tephralaw16_GhostScript.k16.eq (J : Jn) (Index4 : Int) (Term4 : Int) (Pairs : Sl) (Sessions : Sl) (H28 : Hp) (x17 : Bool) (Q : Value → Hp → Prop) : vMid Try.prog tephralaw16_GhostScript.cf J tephralaw16_GhostScript.fn [1, 1, 1, 1, 1, 1, 1, 1, 1, 1, 1, 1, 0, 1, 0, 0] [0, 0, 0, 0, 0, 0, 0, 0, 0, 0, 0, 0, 1, 1, 1] 7 Q (tephralaw16_GhostScript.k16.st Index4 Term4 Pairs Sessions H28 x17) = tephralaw16_GhostScript.k16.body J Index4 Term4 Pairs Sessions H28 x17 Q := by kernel_rfl
theorem tephralaw16_GhostScript.k16.step {Index4 : Int} {Term4 : Int} {Pairs : Sl} {Sessions : Sl} {H28 : Hp} {x17 : Bool} {Q : Value → Hp → Prop} (h : tephralaw16_GhostScript.k16.body J0 Index4 Term4 Pairs Sessions H28 x17 Q) : tephralaw16_GhostScript.k16 J0 Index4 Term4 Pairs Sessions H28 x17 Q := step_of (vMid Try.prog tephralaw16_GhostScript.cf J0 tephralaw16_GhostScript.fn [1, 1, 1, 1, 1, 1, 1, 1, 1, 1, 1, 1, 0, 1, 0, 0] [0, 0, 0, 0, 0, 0, 0, 0, 0, 0, 0, 0, 1, 1, 1] 7 Q) (tephralaw16_GhostScript.k16.st Index4 Term4 Pairs Sessions H28 x17) (tephralaw16_GhostScript.k16.eq J0 Index4 Term4 Pairs Sessions H28 x17 Q) (by kernel_rfl) h
noncomputable def tephralaw16_GhostScript.vc (J : Jn) (acts : Sl) (index : Int) (H : Hp) (Q : Value → Hp → Prop) : Prop :=
 
 SCalls Try.prog tephralaw16_awake.id [] H (fun r H1 => ∃ x : Bool, r = .bool x ∧ 
 Br (!x) (Q (.bool false) H1)
 (∀ b : Nat, b = Array.size H1 → ∀ H2 : Hp, H2 = (Array.push H1 (.cells #[.slice none 0 0, .slice none 0 0, .bool false] T_ghost_Ghost)) → ∀ b1 : Nat, b1 = Array.size H2 → ∀ H3 : Hp, H3 = (Array.push H2 (.map #[] 0)) → ((0 : Int) ≤ (if (100 : Int) < ((acts.len : Nat) : Int) then 100 else ((acts.len : Nat) : Int)) ∧ (if (100 : Int) < ((acts.len : Nat) : Int) then 100 else ((acts.len : Nat) : Int)) ≤ ((acts.cap : Nat) : Int)) ∧ 
 tephralaw16_GhostScript.l1 J acts index b b1 H3 (Sl.mk none 0 0) false 0 Q))
theorem tephralaw16_GhostScript.eq (J : Jn) (acts : Sl) (index : Int) (H : Hp) (Q : Value → Hp → Prop) : vFn Try.prog tephralaw16_GhostScript.cf J tephralaw16_GhostScript.fn [.slice acts.a acts.len acts.cap, .int .i8 index] H Q = tephralaw16_GhostScript.vc J acts index H Q := by kernel_rfl
theorem tephralaw16_GhostScript.calls {acts : Sl} {index : Int} {H : Hp} {Q : Value → Hp → Prop} (h : tephralaw16_GhostScript.vc J0 acts index H Q) : SCalls Try.prog tephralaw16_GhostScript.id [.slice acts.a acts.len acts.cap, .int .i8 index] H Q := vFn_of Try.mixed Try.func7 (tephralaw16_GhostScript.eq J0 acts index H Q) h

/-! 8: tephra/tephralaw16.awake -/
noncomputable def tephralaw16_awake.cf : Cfg := ⟨[], [], [], [(35, [1, 4, 5, 6, 7, 8, 9, 35]), (38, [1, 5, 6, 7, 8, 9, 38]), (42, [1, 6, 7, 8, 9, 42]), (46, [1, 7, 8, 9, 46]), (50, [1, 8, 9, 50]), (54, [1, 8, 9, 54]), (58, [1, 9, 58]), (61, [1, 61])], true⟩
noncomputable def tephralaw16_awake.k1.st (H : Hp) (x2 : Bool) (x3 : Bool) (x4 : Bool) (x5 : Bool) (H7 : Hp) (x6 : Int) (x7 : Bool) (x8 : Bool) : VS := ⟨mkFr 67 [(1, .v (.pointer (some (Addr.mk (Array.size H) 0 none)))), (4, .v (.bool x2)), (5, .v (.bool x3)), (6, .v (.bool x4)), (7, .v (.bool x5)), (8, .v (.int .i64 x6)), (9, .v (.bool x7)), (35, .v (.bool x8))], [], H7⟩
noncomputable def tephralaw16_awake.k1 (J : Jn) (H : Hp) (x2 : Bool) (x3 : Bool) (x4 : Bool) (x5 : Bool) (H7 : Hp) (x6 : Int) (x7 : Bool) (x8 : Bool) (Q : Value → Hp → Prop) : Prop := J (vMid Try.prog tephralaw16_awake.cf J tephralaw16_awake.fn [1, 1, 1, 1, 1, 1, 1, 0] [0, 0, 0, 0, 0, 0, 0, 0] 4 Q) (tephralaw16_awake.k1.st H x2 x3 x4 x5 H7 x6 x7 x8)
noncomputable def tephralaw16_awake.k2.st (H : Hp) (x3 : Bool) (x4 : Bool) (x5 : Bool) (H7 : Hp) (x6 : Int) (x7 : Bool) (x9 : Bool) : VS := ⟨mkFr 67 [(1, .v (.pointer (some (Addr.mk (Array.size H) 0 none)))), (5, .v (.bool x3)), (6, .v (.bool x4)), (7, .v (.bool x5)), (8, .v (.int .i64 x6)), (9, .v (.bool x7)), (38, .v (.bool x9))], [], H7⟩
noncomputable def tephralaw16_awake.k2 (J : Jn) (H : Hp) (x3 : Bool) (x4 : Bool) (x5 : Bool) (H7 : Hp) (x6 : Int) (x7 : Bool) (x9 : Bool) (Q : Value → Hp → Prop) : Prop := J (vMid Try.prog tephralaw16_awake.cf J tephralaw16_awake.fn [1, 1, 1, 1, 1, 1, 1, 0] [0, 0, 0, 0, 0, 0, 0, 0] 7 Q) (tephralaw16_awake.k2.st H x3 x4 x5 H7 x6 x7 x9)
noncomputable def tephralaw16_awake.k3.st (H : Hp) (x4 : Bool) (x5 : Bool) (H7 : Hp) (x6 : Int) (x7 : Bool) (x10 : Bool) : VS := ⟨mkFr 67 [(1, .v (.pointer (some (Addr.mk (Array.size H) 0 none)))), (6, .v (.bool x4)), (7, .v (.bool x5)), (8, .v (.int .i64 x6)), (9, .v (.bool x7)), (42, .v (.bool x10))], [], H7⟩
noncomputable def tephralaw16_awake.k3 (J : Jn) (H : Hp) (x4 : Bool) (x5 : Bool) (H7 : Hp) (x6 : Int) (x7 : Bool) (x10 : Bool) (Q : Value → Hp → Prop) : Prop := J (vMid Try.prog tephralaw16_awake.cf J tephralaw16_awake.fn [1, 1, 1, 1, 1, 1, 1, 0] [0, 0, 0, 0, 0, 0, 0, 0] 11 Q) (tephralaw16_awake.k3.st H x4 x5 H7 x6 x7 x10)
noncomputable def tephralaw16_awake.k4.st (H : Hp) (x5 : Bool) (H7 : Hp) (x6 : Int) (x7 : Bool) (x11 : Bool) : VS := ⟨mkFr 67 [(1, .v (.pointer (some (Addr.mk (Array.size H) 0 none)))), (7, .v (.bool x5)), (8, .v (.int .i64 x6)), (9, .v (.bool x7)), (46, .v (.bool x11))], [], H7⟩
noncomputable def tephralaw16_awake.k4 (J : Jn) (H : Hp) (x5 : Bool) (H7 : Hp) (x6 : Int) (x7 : Bool) (x11 : Bool) (Q : Value → Hp → Prop) : Prop := J (vMid Try.prog tephralaw16_awake.cf J tephralaw16_awake.fn [1, 1, 1, 1, 1, 1, 1, 0] [0, 0, 0, 0, 0, 0, 0, 0] 15 Q) (tephralaw16_awake.k4.st H x5 H7 x6 x7 x11)
noncomputable def tephralaw16_awake.k5.st (H : Hp) (H7 : Hp) (x6 : Int) (x7 : Bool) (x12 : Bool) : VS := ⟨mkFr 67 [(1, .v (.pointer (some (Addr.mk (Array.size H) 0 none)))), (8, .v (.int .i64 x6)), (9, .v (.bool x7)), (50, .v (.bool x12))], [], H7⟩
noncomputable def tephralaw16_awake.k5 (J : Jn) (H : Hp) (H7 : Hp) (x6 : Int) (x7 : Bool) (x12 : Bool) (Q : Value → Hp → Prop) : Prop := J (vMid Try.prog tephralaw16_awake.cf J tephralaw16_awake.fn [1, 1, 1, 1, 1, 1, 1, 0] [0, 0, 0, 0, 0, 0, 0, 0] 19 Q) (tephralaw16_awake.k5.st H H7 x6 x7 x12)
noncomputable def tephralaw16_awake.k6.st (H : Hp) (x6 : Int) (x7 : Bool) (x14 : Bool) (H9 : Hp) : VS := ⟨mkFr 67 [(1, .v (.pointer (some (Addr.mk (Array.size H) 0 none)))), (8, .v (.int .i64 x6)), (9, .v (.bool x7)), (54, .v (.bool x14))], [], H9⟩
noncomputable def tephralaw16_awake.k6 (J : Jn) (H : Hp) (x6 : Int) (x7 : Bool) (x14 : Bool) (H9 : Hp) (Q : Value → Hp → Prop) : Prop := J (vMid Try.prog tephralaw16_awake.cf J tephralaw16_awake.fn [1, 1, 1, 1, 1, 1, 1, 0] [0, 0, 0, 0, 0, 0, 0, 0] 23 Q) (tephralaw16_awake.k6.st H x6 x7 x14 H9)
noncomputable def tephralaw16_awake.k7.st (H : Hp) (x7 : Bool) (H9 : Hp) (x15 : Bool) : VS := ⟨mkFr 67 [(1, .v (.pointer (some (Addr.mk (Array.size H) 0 none)))), (9, .v (.bool x7)), (58, .v (.bool x15))], [], H9⟩
noncomputable def tephralaw16_awake.k7 (J : Jn) (H : Hp) (x7 : Bool) (H9 : Hp) (x15 : Bool) (Q : Value → Hp → Prop) : Prop := J (vMid Try.prog tephralaw16_awake.cf J tephralaw16_awake.fn [1, 1, 1, 1, 1, 1, 1, 0] [0, 0, 0, 0, 0, 0, 0, 0] 27 Q) (tephralaw16_awake.k7.st H x7 H9 x15)
noncomputable def tephralaw16_awake.k8.st (H : Hp) (H9 : Hp) (x16 : Bool) : VS := ⟨mkFr 67 [(1, .v (.pointer (some (Addr.mk (Array.size H) 0 none)))), (61, .v (.bool x16))], [], H9⟩
noncomputable def tephralaw16_awake.k8 (J : Jn) (H : Hp) (H9 : Hp) (x16 : Bool) (Q : Value → Hp → Prop) : Prop := J (vMid Try.prog tephralaw16_awake.cf J tephralaw16_awake.fn [1, 1, 1, 1, 1, 1, 1, 0] [0, 0, 0, 0, 0, 0, 0, 0] 30 Q) (tephralaw16_awake.k8.st H H9 x16)
attribute [irreducible] tephralaw16_awake.k1 tephralaw16_awake.k2 tephralaw16_awake.k3 tephralaw16_awake.k4 tephralaw16_awake.k5 tephralaw16_awake.k6 tephralaw16_awake.k7 tephralaw16_awake.k8
noncomputable def tephralaw16_awake.k1.body (J : Jn) (H : Hp) (x2 : Bool) (x3 : Bool) (x4 : Bool) (x5 : Bool) (H7 : Hp) (x6 : Int) (x7 : Bool) (x8 : Bool) (Q : Value → Hp → Prop) : Prop :=
 
 Br x8 (
 tephralaw16_awake.k2 J H x3 x4 x5 H7 x6 x7 x2 Q)
 (
 tephralaw16_awake.k2 J H x3 x4 x5 H7 x6 x7 false Q)
theorem tephralaw16_awake.k1.eq (J : Jn) (H : Hp) (x2 : Bool) (x3 : Bool) (x4 : Bool) (x5 : Bool) (H7 : Hp) (x6 : Int) (x7 : Bool) (x8 : Bool) (Q : Value → Hp → Prop) : vMid Try.prog tephralaw16_awake.cf J tephralaw16_awake.fn [1, 1, 1, 1, 1, 1, 1, 0] [0, 0, 0, 0, 0, 0, 0, 0] 4 Q (tephralaw16_awake.k1.st H x2 x3 x4 x5 H7 x6 x7 x8) = tephralaw16_awake.k1.body J H x2 x3 x4 x5 H7 x6 x7 x8 Q := by kernel_rfl
theorem tephralaw16_awake.k1.step {H : Hp} {x2 : Bool} {x3 : Bool} {x4 : Bool} {x5 : Bool} {H7 : Hp} {x6 : Int} {x7 : Bool} {x8 : Bool} {Q : Value → Hp → Prop} (h : tephralaw16_awake.k1.body J0 H x2 x3 x4 x5 H7 x6 x7 x8 Q) : tephralaw16_awake.k1 J0 H x2 x3 x4 x5 H7 x6 x7 x8 Q := step_of (vMid Try.prog tephralaw16_awake.cf J0 tephralaw16_awake.fn [1, 1, 1, 1, 1, 1, 1, 0] [0, 0, 0, 0, 0, 0, 0, 0] 4 Q) (tephralaw16_awake.k1.st H x2 x3 x4 x5 H7 x6 x7 x8) (tephralaw16_awake.k1.eq J0 H x2 x3 x4 x5 H7 x6 x7 x8 Q) (by kernel_rfl) h
noncomputable def tephralaw16_awake.k2.body (J : Jn) (H : Hp) (x3 : Bool) (x4 : Bool) (x5 : Bool) (H7 : Hp) (x6 : Int) (x7 : Bool) (x9 : Bool) (Q : Value → Hp → Prop) : Prop :=
 
 Br x9 (
 tephralaw16_awake.k3 J H x4 x5 H7 x6 x7 (!x3) Q)
 (
 tephralaw16_awake.k3 J H x4 x5 H7 x6 x7 false Q)
theorem tephralaw16_awake.k2.eq (J : Jn) (H : Hp) (x3 : Bool) (x4 : Bool) (x5 : Bool) (H7 : Hp) (x6 : Int) (x7 : Bool) (x9 : Bool) (Q : Value → Hp → Prop) : vMid Try.prog tephralaw16_awake.cf J tephralaw16_awake.fn [1, 1, 1, 1, 1, 1, 1, 0] [0, 0, 0, 0, 0, 0, 0, 0] 7 Q (tephralaw16_awake.k2.st H x3 x4 x5 H7 x6 x7 x9) = tephralaw16_awake.k2.body J H x3 x4 x5 H7 x6 x7 x9 Q := by kernel_rfl
theorem tephralaw16_awake.k2.step {H : Hp} {x3 : Bool} {x4 : Bool} {x5 : Bool} {H7 : Hp} {x6 : Int} {x7 : Bool} {x9 : Bool} {Q : Value → Hp → Prop} (h : tephralaw16_awake.k2.body J0 H x3 x4 x5 H7 x6 x7 x9 Q) : tephralaw16_awake.k2 J0 H x3 x4 x5 H7 x6 x7 x9 Q := step_of (vMid Try.prog tephralaw16_awake.cf J0 tephralaw16_awake.fn [1, 1, 1, 1, 1, 1, 1, 0] [0, 0, 0, 0, 0, 0, 0, 0] 7 Q) (tephralaw16_awake.k2.st H x3 x4 x5 H7 x6 x7 x9) (tephralaw16_awake.k2.eq J0 H x3 x4 x5 H7 x6 x7 x9 Q) (by kernel_rfl) h
noncomputable def tephralaw16_awake.k3.body (J : Jn) (H : Hp) (x4 : Bool) (x5 : Bool) (H7 : Hp) (x6 : Int) (x7 : Bool) (x10 : Bool) (Q : Value → Hp → Prop) : Prop :=
 
 Br x10 (
 tephralaw16_awake.k4 J H x5 H7 x6 x7 (!x4) Q)
 (
 tephralaw16_awake.k4 J H x5 H7 x6 x7 false Q)
theorem tephralaw16_awake.k3.eq (J : Jn) (H : Hp) (x4 : Bool) (x5 : Bool) (H7 : Hp) (x6 : Int) (x7 : Bool) (x10 : Bool) (Q : Value → Hp → Prop) : vMid Try.prog tephralaw16_awake.cf J tephralaw16_awake.fn [1, 1, 1, 1, 1, 1, 1, 0] [0, 0, 0, 0, 0, 0, 0, 0] 11 Q (tephralaw16_awake.k3.st H x4 x5 H7 x6 x7 x10) = tephralaw16_awake.k3.body J H x4 x5 H7 x6 x7 x10 Q := by kernel_rfl
theorem tephralaw16_awake.k3.step {H : Hp} {x4 : Bool} {x5 : Bool} {H7 : Hp} {x6 : Int} {x7 : Bool} {x10 : Bool} {Q : Value → Hp → Prop} (h : tephralaw16_awake.k3.body J0 H x4 x5 H7 x6 x7 x10 Q) : tephralaw16_awake.k3 J0 H x4 x5 H7 x6 x7 x10 Q := step_of (vMid Try.prog tephralaw16_awake.cf J0 tephralaw16_awake.fn [1, 1, 1, 1, 1, 1, 1, 0] [0, 0, 0, 0, 0, 0, 0, 0] 11 Q) (tephralaw16_awake.k3.st H x4 x5 H7 x6 x7 x10) (tephralaw16_awake.k3.eq J0 H x4 x5 H7 x6 x7 x10 Q) (by kernel_rfl) h
noncomputable def tephralaw16_awake.k4.body (J : Jn) (H : Hp) (x5 : Bool) (H7 : Hp) (x6 : Int) (x7 : Bool) (x11 : Bool) (Q : Value → Hp → Prop) : Prop :=
 
 Br x11 (
 tephralaw16_awake.k5 J H H7 x6 x7 (!x5) Q)
 (
 tephralaw16_awake.k5 J H H7 x6 x7 false Q)
theorem tephralaw16_awake.k4.eq (J : Jn) (H : Hp) (x5 : Bool) (H7 : Hp) (x6 : Int) (x7 : Bool) (x11 : Bool) (Q : Value → Hp → Prop) : vMid Try.prog tephralaw16_awake.cf J tephralaw16_awake.fn [1, 1, 1, 1, 1, 1, 1, 0] [0, 0, 0, 0, 0, 0, 0, 0] 15 Q (tephralaw16_awake.k4.st H x5 H7 x6 x7 x11) = tephralaw16_awake.k4.body J H x5 H7 x6 x7 x11 Q := by kernel_rfl
theorem tephralaw16_awake.k4.step {H : Hp} {x5 : Bool} {H7 : Hp} {x6 : Int} {x7 : Bool} {x11 : Bool} {Q : Value → Hp → Prop} (h : tephralaw16_awake.k4.body J0 H x5 H7 x6 x7 x11 Q) : tephralaw16_awake.k4 J0 H x5 H7 x6 x7 x11 Q := step_of (vMid Try.prog tephralaw16_awake.cf J0 tephralaw16_awake.fn [1, 1, 1, 1, 1, 1, 1, 0] [0, 0, 0, 0, 0, 0, 0, 0] 15 Q) (tephralaw16_awake.k4.st H x5 H7 x6 x7 x11) (tephralaw16_awake.k4.eq J0 H x5 H7 x6 x7 x11 Q) (by kernel_rfl) h
noncomputable def tephralaw16_awake.k5.body (J : Jn) (H : Hp) (H7 : Hp) (x6 : Int) (x7 : Bool) (x12 : Bool) (Q : Value → Hp → Prop) : Prop :=
 
 Br x12 (
 SCalls Try.prog ghost_Ghost_Wrong.id [.pointer (some (Addr.mk (Array.size H) 0 none))] H7 (fun r7 H8 => ∃ x13 : Bool, r7 = .bool x13 ∧ 
 tephralaw16_awake.k6 J H x6 x7 x13 H8 Q))
 (
 tephralaw16_awake.k6 J H x6 x7 false H7 Q)
theorem tephralaw16_awake.k5.eq (J : Jn) (H : Hp) (H7 : Hp) (x6 : Int) (x7 : Bool) (x12 : Bool) (Q : Value → Hp → Prop) : vMid Try.prog tephralaw16_awake.cf J tephralaw16_awake.fn [1, 1, 1, 1, 1, 1, 1, 0] [0, 0, 0, 0, 0, 0, 0, 0] 19 Q (tephralaw16_awake.k5.st H H7 x6 x7 x12) = tephralaw16_awake.k5.body J H H7 x6 x7 x12 Q := by kernel_rfl
theorem tephralaw16_awake.k5.step {H : Hp} {H7 : Hp} {x6 : Int} {x7 : Bool} {x12 : Bool} {Q : Value → Hp → Prop} (h : tephralaw16_awake.k5.body J0 H H7 x6 x7 x12 Q) : tephralaw16_awake.k5 J0 H H7 x6 x7 x12 Q := step_of (vMid Try.prog tephralaw16_awake.cf J0 tephralaw16_awake.fn [1, 1, 1, 1, 1, 1, 1, 0] [0, 0, 0, 0, 0, 0, 0, 0] 19 Q) (tephralaw16_awake.k5.st H H7 x6 x7 x12) (tephralaw16_awake.k5.eq J0 H H7 x6 x7 x12 Q) (by kernel_rfl) h
noncomputable def tephralaw16_awake.k6.body (J : Jn) (H : Hp) (x6 : Int) (x7 : Bool) (x14 : Bool) (H9 : Hp) (Q : Value → Hp → Prop) : Prop :=
 
 Br x14 (
 tephralaw16_awake.k7 J H x7 H9 (x6 == 2) Q)
 (
 tephralaw16_awake.k7 J H x7 H9 false Q)
theorem tephralaw16_awake.k6.eq (J : Jn) (H : Hp) (x6 : Int) (x7 : Bool) (x14 : Bool) (H9 : Hp) (Q : Value → Hp → Prop) : vMid Try.prog tephralaw16_awake.cf J tephralaw16_awake.fn [1, 1, 1, 1, 1, 1, 1, 0] [0, 0, 0, 0, 0, 0, 0, 0] 23 Q (tephralaw16_awake.k6.st H x6 x7 x14 H9) = tephralaw16_awake.k6.body J H x6 x7 x14 H9 Q := by kernel_rfl
theorem tephralaw16_awake.k6.step {H : Hp} {x6 : Int} {x7 : Bool} {x14 : Bool} {H9 : Hp} {Q : Value → Hp → Prop} (h : tephralaw16_awake.k6.body J0 H x6 x7 x14 H9 Q) : tephralaw16_awake.k6 J0 H x6 x7 x14 H9 Q := step_of (vMid Try.prog tephralaw16_awake.cf J0 tephralaw16_awake.fn [1, 1, 1, 1, 1, 1, 1, 0] [0, 0, 0, 0, 0, 0, 0, 0] 23 Q) (tephralaw16_awake.k6.st H x6 x7 x14 H9) (tephralaw16_awake.k6.eq J0 H x6 x7 x14 H9 Q) (by kernel_rfl) h
noncomputable def tephralaw16_awake.k7.body (J : Jn) (H : Hp) (x7 : Bool) (H9 : Hp) (x15 : Bool) (Q : Value → Hp → Prop) : Prop :=
 
 Br x15 (
 tephralaw16_awake.k8 J H H9 x7 Q)
 (
 tephralaw16_awake.k8 J H H9 false Q)
theorem tephralaw16_awake.k7.eq (J : Jn) (H : Hp) (x7 : Bool) (H9 : Hp) (x15 : Bool) (Q : Value → Hp → Prop) : vMid Try.prog tephralaw16_awake.cf J tephralaw16_awake.fn [1, 1, 1, 1, 1, 1, 1, 0] [0, 0, 0, 0, 0, 0, 0, 0] 27 Q (tephralaw16_awake.k7.st H x7 H9 x15) = tephralaw16_awake.k7.body J H x7 H9 x15 Q := by kernel_rfl
theorem tephralaw16_awake.k7.step {H : Hp} {x7 : Bool} {H9 : Hp} {x15 : Bool} {Q : Value → Hp → Prop} (h : tephralaw16_awake.k7.body J0 H x7 H9 x15 Q) : tephralaw16_awake.k7 J0 H x7 H9 x15 Q := step_of (vMid Try.prog tephralaw16_awake.cf J0 tephralaw16_awake.fn [1, 1, 1, 1, 1, 1, 1, 0] [0, 0, 0, 0, 0, 0, 0, 0] 27 Q) (tephralaw16_awake.k7.st H x7 H9 x15) (tephralaw16_awake.k7.eq J0 H x7 H9 x15 Q) (by kernel_rfl) h
noncomputable def tephralaw16_awake.k8.body (J : Jn) (H : Hp) (H9 : Hp) (x16 : Bool) (Q : Value → Hp → Prop) : Prop :=
 
 Br x16 (
 SCalls Try.prog ghost_Ghost_Len.id [.pointer (some (Addr.mk (Array.size H) 0 none))] H9 (fun r8 H10 => ∃ x17 : Int, r8 = .int .i64 x17 ∧ Q (.bool (x17 == 1)) H10))
 (Q (.bool false) H9)
theorem tephralaw16_awake.k8.eq (J : Jn) (H : Hp) (H9 : Hp) (x16 : Bool) (Q : Value → Hp → Prop) : vMid Try.prog tephralaw16_awake.cf J tephralaw16_awake.fn [1, 1, 1, 1, 1, 1, 1, 0] [0, 0, 0, 0, 0, 0, 0, 0] 30 Q (tephralaw16_awake.k8.st H H9 x16) = tephralaw16_awake.k8.body J H H9 x16 Q := by kernel_rfl
theorem tephralaw16_awake.k8.step {H : Hp} {H9 : Hp} {x16 : Bool} {Q : Value → Hp → Prop} (h : tephralaw16_awake.k8.body J0 H H9 x16 Q) : tephralaw16_awake.k8 J0 H H9 x16 Q := step_of (vMid Try.prog tephralaw16_awake.cf J0 tephralaw16_awake.fn [1, 1, 1, 1, 1, 1, 1, 0] [0, 0, 0, 0, 0, 0, 0, 0] 30 Q) (tephralaw16_awake.k8.st H H9 x16) (tephralaw16_awake.k8.eq J0 H H9 x16 Q) (by kernel_rfl) h
noncomputable def tephralaw16_awake.vc (J : Jn) (H : Hp) (Q : Value → Hp → Prop) : Prop :=
 
 SCalls Try.prog ghost_Ghost_Commit.id [.pointer (some (Addr.mk (Array.size H) 0 none)), .agg #[.int .i64 1, .int .i64 0, .int .i64 0, .int .i64 0, .int .i64 0, .string (ByteArray.mk #[]), .string (ByteArray.mk #[]), .string (ByteArray.mk #[])]] (Array.push H (.cells #[.slice none 0 0, .slice none 0 0, .bool false] T_ghost_Ghost)) (fun r H1 => ∃ x : Bool, r = .bool x ∧ 
 SCalls Try.prog ghost_Ghost_Commit.id [.pointer (some (Addr.mk (Array.size H) 0 none)), .agg #[.int .i64 1, .int .i64 0, .int .i64 0, .int .i64 0, .int .i64 0, .string (ByteArray.mk #[]), .string (ByteArray.mk #[]), .string (ByteArray.mk #[])]] H1 (fun r1 H2 => ∃ x1 : Bool, r1 = .bool x1 ∧ 
 SCalls Try.prog ghost_Ghost_Lead.id [.pointer (some (Addr.mk (Array.size H) 0 none)), .int .i64 1, .int .i64 2] H2 (fun r2 H3 => ∃ x2 : Bool, r2 = .bool x2 ∧ 
 SCalls Try.prog ghost_Ghost_Wrong.id [.pointer (some (Addr.mk (Array.size H) 0 none))] H3 (fun r3 H4 => ∃ x3 : Bool, r3 = .bool x3 ∧ 
 SCalls Try.prog ghost_Ghost_Lead.id [.pointer (some (Addr.mk (Array.size H) 0 none)), .int .i64 1, .int .i64 0] H4 (fun r4 H5 => ∃ x4 : Bool, r4 = .bool x4 ∧ 
 SCalls Try.prog ghost_Ghost_Commit.id [.pointer (some (Addr.mk (Array.size H) 0 none)), .agg #[.int .i64 3, .int .i64 0, .int .i64 0, .int .i64 0, .int .i64 0, .string (ByteArray.mk #[]), .string (ByteArray.mk #[]), .string (ByteArray.mk #[])]] H5 (fun r5 H6 => ∃ x5 : Bool, r5 = .bool x5 ∧ 
 SCalls Try.prog ghost_Ghost_Leader.id [.pointer (some (Addr.mk (Array.size H) 0 none)), .int .i64 1] H6 (fun r6 H7 => ∃ x6 : Int, ∃ x7 : Bool, r6 = .tuple #[.int .i64 x6, .bool x7] ∧ 
 Br x (
 tephralaw16_awake.k1 J H x2 x3 x4 x5 H7 x6 x7 x1 Q)
 (
 tephralaw16_awake.k1 J H x2 x3 x4 x5 H7 x6 x7 false Q))))))))
theorem tephralaw16_awake.eq (J : Jn) (H : Hp) (Q : Value → Hp → Prop) : vFn Try.prog tephralaw16_awake.cf J tephralaw16_awake.fn [] H Q = tephralaw16_awake.vc J H Q := by kernel_rfl
theorem tephralaw16_awake.calls {H : Hp} {Q : Value → Hp → Prop} (h : tephralaw16_awake.vc J0 H Q) : SCalls Try.prog tephralaw16_awake.id [] H Q := vFn_of Try.mixed Try.func8 (tephralaw16_awake.eq J0 H Q) h

/-! 9: (*tephra/ghost.Ghost).Lead -/
noncomputable def ghost_Ghost_Lead.cf : Cfg := ⟨[], [], [(3, [0, 1, 2, 8, 9], true), (5, [0, 9], true)], [(41, [9, 33, 41])], true⟩
noncomputable def ghost_Ghost_Lead.k1.st (g : Addr) (term : Int) (id : Int) (H1 : Hp) (x1 : Bool) (ok : Bool) : VS := ⟨mkFr 45 [(0, .v (.pointer (some g))), (1, .v (.int .i64 term)), (2, .v (.int .i64 id)), (8, .v (.bool x1)), (9, .v (.bool ok))], [], H1⟩
noncomputable def ghost_Ghost_Lead.k1 (J : Jn) (g : Addr) (term : Int) (id : Int) (H1 : Hp) (x1 : Bool) (ok : Bool) (Q : Value → Hp → Prop) : Prop := J (vSeg Try.prog ghost_Ghost_Lead.cf J ghost_Ghost_Lead.fn [1, 1, 1] [0, 0, 0] Q) (ghost_Ghost_Lead.k1.st g term id H1 x1 ok)
noncomputable def ghost_Ghost_Lead.k2.st (g : Addr) (ok : Bool) (H3 : Hp) : VS := ⟨mkFr 45 [(0, .v (.pointer (some g))), (9, .v (.bool ok))], [], H3⟩
noncomputable def ghost_Ghost_Lead.k2 (J : Jn) (g : Addr) (ok : Bool) (H3 : Hp) (Q : Value → Hp → Prop) : Prop := J (vSeg Try.prog ghost_Ghost_Lead.cf J ghost_Ghost_Lead.fn [1, 1, 1, 1] [0, 0, 0, 0] Q) (ghost_Ghost_Lead.k2.st g ok H3)
noncomputable def ghost_Ghost_Lead.k3.st (g : Addr) (ok : Bool) (H3 : Hp) (x3 : Bool) : VS := ⟨mkFr 45 [(9, .v (.bool ok)), (33, .v (.pointer (some g))), (41, .v (.bool x3))], [], H3⟩
noncomputable def ghost_Ghost_Lead.k3 (J : Jn) (g : Addr) (ok : Bool) (H3 : Hp) (x3 : Bool) (Q : Value → Hp → Prop) : Prop := J (vMid Try.prog ghost_Ghost_Lead.cf J ghost_Ghost_Lead.fn [1, 1, 1, 1, 0] [0, 0, 0, 0, 0] 9 Q) (ghost_Ghost_Lead.k3.st g ok H3 x3)
attribute [irreducible] ghost_Ghost_Lead.k1 ghost_Ghost_Lead.k2 ghost_Ghost_Lead.k3
noncomputable def ghost_Ghost_Lead.k1.body (J : Jn) (g : Addr) (term : Int) (id : Int) (H1 : Hp) (x1 : Bool) (ok : Bool) (Q : Value → Hp → Prop) : Prop :=
 
 Br (!x1) (
 SCalls Try.prog sorted_Map_int_int_Put.id [.pointer (some (g.add 1)), .int .i64 term, .int .i64 id] H1 (fun r1 H2 => ∃ x2 : Bool, r1 = .bool x2 ∧ 
 ghost_Ghost_Lead.k2 J g ok H2 Q))
 (
 ghost_Ghost_Lead.k2 J g ok H1 Q)
theorem ghost_Ghost_Lead.k1.eq (J : Jn) (g : Addr) (term : Int) (id : Int) (H1 : Hp) (x1 : Bool) (ok : Bool) (Q : Value → Hp → Prop) : vSeg Try.prog ghost_Ghost_Lead.cf J ghost_Ghost_Lead.fn [1, 1, 1] [0, 0, 0] Q (ghost_Ghost_Lead.k1.st g term id H1 x1 ok) = ghost_Ghost_Lead.k1.body J g term id H1 x1 ok Q := by kernel_rfl
theorem ghost_Ghost_Lead.k1.step {g : Addr} {term : Int} {id : Int} {H1 : Hp} {x1 : Bool} {ok : Bool} {Q : Value → Hp → Prop} (h : ghost_Ghost_Lead.k1.body J0 g term id H1 x1 ok Q) : ghost_Ghost_Lead.k1 J0 g term id H1 x1 ok Q := step_of (vSeg Try.prog ghost_Ghost_Lead.cf J0 ghost_Ghost_Lead.fn [1, 1, 1] [0, 0, 0] Q) (ghost_Ghost_Lead.k1.st g term id H1 x1 ok) (ghost_Ghost_Lead.k1.eq J0 g term id H1 x1 ok Q) (by kernel_rfl) h
noncomputable def ghost_Ghost_Lead.k2.body (J : Jn) (g : Addr) (ok : Bool) (H3 : Hp) (Q : Value → Hp → Prop) : Prop :=
 ∃ wrong : Bool, Hp.cell? H3 (g.add 2) = some (.bool wrong) ∧ 
 Br wrong (
 ghost_Ghost_Lead.k3 J g ok H3 true Q)
 (
 ghost_Ghost_Lead.k3 J g ok H3 (!ok) Q)
theorem ghost_Ghost_Lead.k2.eq (J : Jn) (g : Addr) (ok : Bool) (H3 : Hp) (Q : Value → Hp → Prop) : vSeg Try.prog ghost_Ghost_Lead.cf J ghost_Ghost_Lead.fn [1, 1, 1, 1] [0, 0, 0, 0] Q (ghost_Ghost_Lead.k2.st g ok H3) = ghost_Ghost_Lead.k2.body J g ok H3 Q := by kernel_rfl
theorem ghost_Ghost_Lead.k2.step {g : Addr} {ok : Bool} {H3 : Hp} {Q : Value → Hp → Prop} (h : ghost_Ghost_Lead.k2.body J0 g ok H3 Q) : ghost_Ghost_Lead.k2 J0 g ok H3 Q := step_of (vSeg Try.prog ghost_Ghost_Lead.cf J0 ghost_Ghost_Lead.fn [1, 1, 1, 1] [0, 0, 0, 0] Q) (ghost_Ghost_Lead.k2.st g ok H3) (ghost_Ghost_Lead.k2.eq J0 g ok H3 Q) (by kernel_rfl) h
noncomputable def ghost_Ghost_Lead.k3.body (J : Jn) (g : Addr) (ok : Bool) (H3 : Hp) (x3 : Bool) (Q : Value → Hp → Prop) : Prop :=
 WrAt H3 (g.add 2) 1 ∧ Q (.bool ok) (Hp.setCell H3 (g.add 2) (.bool x3))
theorem ghost_Ghost_Lead.k3.eq (J : Jn) (g : Addr) (ok : Bool) (H3 : Hp) (x3 : Bool) (Q : Value → Hp → Prop) : vMid Try.prog ghost_Ghost_Lead.cf J ghost_Ghost_Lead.fn [1, 1, 1, 1, 0] [0, 0, 0, 0, 0] 9 Q (ghost_Ghost_Lead.k3.st g ok H3 x3) = ghost_Ghost_Lead.k3.body J g ok H3 x3 Q := by kernel_rfl
theorem ghost_Ghost_Lead.k3.step {g : Addr} {ok : Bool} {H3 : Hp} {x3 : Bool} {Q : Value → Hp → Prop} (h : ghost_Ghost_Lead.k3.body J0 g ok H3 x3 Q) : ghost_Ghost_Lead.k3 J0 g ok H3 x3 Q := step_of (vMid Try.prog ghost_Ghost_Lead.cf J0 ghost_Ghost_Lead.fn [1, 1, 1, 1, 0] [0, 0, 0, 0, 0] 9 Q) (ghost_Ghost_Lead.k3.st g ok H3 x3) (ghost_Ghost_Lead.k3.eq J0 g ok H3 x3 Q) (by kernel_rfl) h
noncomputable def ghost_Ghost_Lead.vc (J : Jn) (g : Addr) (term : Int) (id : Int) (H : Hp) (Q : Value → Hp → Prop) : Prop :=
 
 SCalls Try.prog sorted_Map_int_int_Get.id [.pointer (some (g.add 1)), .int .i64 term] H (fun r H1 => ∃ x : Int, ∃ x1 : Bool, r = .tuple #[.int .i64 x, .bool x1] ∧ 
 Br (!x1) (
 ghost_Ghost_Lead.k1 J g term id H1 x1 true Q)
 (
 ghost_Ghost_Lead.k1 J g term id H1 x1 (x == id) Q))
theorem ghost_Ghost_Lead.eq (J : Jn) (g : Addr) (term : Int) (id : Int) (H : Hp) (Q : Value → Hp → Prop) : vFn Try.prog ghost_Ghost_Lead.cf J ghost_Ghost_Lead.fn [.pointer (some g), .int .i64 term, .int .i64 id] H Q = ghost_Ghost_Lead.vc J g term id H Q := by kernel_rfl
theorem ghost_Ghost_Lead.calls {g : Addr} {term : Int} {id : Int} {H : Hp} {Q : Value → Hp → Prop} (h : ghost_Ghost_Lead.vc J0 g term id H Q) : SCalls Try.prog ghost_Ghost_Lead.id [.pointer (some g), .int .i64 term, .int .i64 id] H Q := vFn_of Try.mixed Try.func9 (ghost_Ghost_Lead.eq J0 g term id H Q) h

/-! 10: (*tephra/ghost.Ghost).Leader -/
noncomputable def ghost_Ghost_Leader.cf : Cfg := ⟨[], [], [], [], true⟩
noncomputable def ghost_Ghost_Leader.vc (J : Jn) (g : Addr) (term : Int) (H : Hp) (Q : Value → Hp → Prop) : Prop :=
 
 SCalls Try.prog sorted_Map_int_int_Get.id [.pointer (some (g.add 1)), .int .i64 term] H (fun r H1 => ∃ x : Int, ∃ x1 : Bool, r = .tuple #[.int .i64 x, .bool x1] ∧ Q (.tuple #[.int .i64 x, .bool x1]) H1)
theorem ghost_Ghost_Leader.eq (J : Jn) (g : Addr) (term : Int) (H : Hp) (Q : Value → Hp → Prop) : vFn Try.prog ghost_Ghost_Leader.cf J ghost_Ghost_Leader.fn [.pointer (some g), .int .i64 term] H Q = ghost_Ghost_Leader.vc J g term H Q := by kernel_rfl
theorem ghost_Ghost_Leader.calls {g : Addr} {term : Int} {H : Hp} {Q : Value → Hp → Prop} (h : ghost_Ghost_Leader.vc J0 g term H Q) : SCalls Try.prog ghost_Ghost_Leader.id [.pointer (some g), .int .i64 term] H Q := vFn_of Try.mixed Try.func10 (ghost_Ghost_Leader.eq J0 g term H Q) h

/-! 11: (*tephra/ghost.Ghost).Wrong -/
noncomputable def ghost_Ghost_Wrong.cf : Cfg := ⟨[], [], [], [], true⟩
noncomputable def ghost_Ghost_Wrong.vc (J : Jn) (g : Addr) (H : Hp) (Q : Value → Hp → Prop) : Prop :=
 ∃ wrong : Bool, Hp.cell? H (g.add 2) = some (.bool wrong) ∧ Q (.bool wrong) H
theorem ghost_Ghost_Wrong.eq (J : Jn) (g : Addr) (H : Hp) (Q : Value → Hp → Prop) : vFn Try.prog ghost_Ghost_Wrong.cf J ghost_Ghost_Wrong.fn [.pointer (some g)] H Q = ghost_Ghost_Wrong.vc J g H Q := by kernel_rfl
theorem ghost_Ghost_Wrong.calls {g : Addr} {H : Hp} {Q : Value → Hp → Prop} (h : ghost_Ghost_Wrong.vc J0 g H Q) : SCalls Try.prog ghost_Ghost_Wrong.id [.pointer (some g)] H Q := vFn_of Try.mixed Try.func11 (ghost_Ghost_Wrong.eq J0 g H Q) h

/-! 12: (*tephra/ghost.Ghost).Len -/
noncomputable def ghost_Ghost_Len.cf : Cfg := ⟨[], [], [], [], true⟩
noncomputable def ghost_Ghost_Len.vc (J : Jn) (g : Addr) (H : Hp) (Q : Value → Hp → Prop) : Prop :=
 ∃ log : Sl, Hp.cell? H g = some (.slice log.a log.len log.cap) ∧ Q (.int .i64 ((log.len : Nat) : Int)) H
theorem ghost_Ghost_Len.eq (J : Jn) (g : Addr) (H : Hp) (Q : Value → Hp → Prop) : vFn Try.prog ghost_Ghost_Len.cf J ghost_Ghost_Len.fn [.pointer (some g)] H Q = ghost_Ghost_Len.vc J g H Q := by kernel_rfl
theorem ghost_Ghost_Len.calls {g : Addr} {H : Hp} {Q : Value → Hp → Prop} (h : ghost_Ghost_Len.vc J0 g H Q) : SCalls Try.prog ghost_Ghost_Len.id [.pointer (some g)] H Q := vFn_of Try.mixed Try.func12 (ghost_Ghost_Len.eq J0 g H Q) h

/-! 13: tephra/tephralaw06.Entries -/
noncomputable def tephralaw06_Entries.cf : Cfg := ⟨[9], [(3, [1, 2, 7, 14, 15, 16])], [(7, [1, 2, 7, 8, 9, 14, 15, 16], true)], [], true⟩
noncomputable def tephralaw06_Entries.l1.st (says : Sl) (fromv : Int) (H1 : Hp) (term1 : Int) (out : Sl) (x : Int) : VS := ⟨mkFr 38 [(1, .v (.int .i64 fromv)), (2, .v (.int .i64 term1)), (7, .v (.slice out.a out.len out.cap)), (14, .v (.slice (cutA says.a says.cap 0 6) (((if (80 : Int) < ((says.len : Nat) : Int) then 80 else ((says.len : Nat) : Int)) : Int).toNat) says.cap)), (15, .v (.int .i64 (((((if (80 : Int) < ((says.len : Nat) : Int) then 80 else ((says.len : Nat) : Int)) : Int).toNat) : Nat) : Int))), (16, .v (.int .i64 x))], [], H1⟩
noncomputable def tephralaw06_Entries.l1 (J : Jn) (says : Sl) (fromv : Int) (H1 : Hp) (term1 : Int) (out : Sl) (x : Int) (Q : Value → Hp → Prop) : Prop := vAt Try.prog tephralaw06_Entries.cf J tephralaw06_Entries.fn [1, 1, 0, 1, 0] [0, 0, 0, 0] Q (tephralaw06_Entries.l1.st says fromv H1 term1 out x)
noncomputable def tephralaw06_Entries.k1.st (says : Sl) (fromv : Int) (H1 : Hp) (out : Sl) (x : Int) (Opv : Int) (Client : Int) (Seq : Int) (Key : Int) (Valuev : Int) (Old : Int) (term2 : Int) : VS := ⟨mkFr 38 [(1, .v (.int .i64 fromv)), (2, .v (.int .i64 term2)), (7, .v (.slice out.a out.len out.cap)), (8, .v (.int .i64 x)), (9, .loc 0 0), (14, .v (.slice (cutA says.a says.cap 0 6) (((if (80 : Int) < ((says.len : Nat) : Int) then 80 else ((says.len : Nat) : Int)) : Int).toNat) says.cap)), (15, .v (.int .i64 (((((if (80 : Int) < ((says.len : Nat) : Int) then 80 else ((says.len : Nat) : Int)) : Int).toNat) : Nat) : Int))), (16, .v (.int .i64 x))], [(T_tephralaw06_Say, [.int .u8 Opv, .int .u8 Client, .int .u8 Seq, .int .u8 Key, .int .u8 Valuev, .int .u8 Old])], (holes H1 1)⟩
noncomputable def tephralaw06_Entries.k1 (J : Jn) (says : Sl) (fromv : Int) (H1 : Hp) (out : Sl) (x : Int) (Opv : Int) (Client : Int) (Seq : Int) (Key : Int) (Valuev : Int) (Old : Int) (term2 : Int) (Q : Value → Hp → Prop) : Prop := J (vSeg Try.prog tephralaw06_Entries.cf J tephralaw06_Entries.fn [1, 1, 0, 1, 0, 0, 1, 1, 0, 0, 1, 1] [0, 0, 0, 0, 0, 0, 0, 0, 0, 1] Q) (tephralaw06_Entries.k1.st says fromv H1 out x Opv Client Seq Key Valuev Old term2)
attribute [irreducible] tephralaw06_Entries.l1 tephralaw06_Entries.k1
noncomputable def tephralaw06_Entries.l1.body (J : Jn) (says : Sl) (fromv : Int) (H1 : Hp) (term1 : Int) (out : Sl) (x : Int) (Q : Value → Hp → Prop) : Prop :=
 
 Br (decide (x < (((((if (80 : Int) < ((says.len : Nat) : Int) then 80 else ((says.len : Nat) : Int)) : Int).toNat) : Nat) : Int))) (((0 : Int) ≤ x ∧ x < (((((if (80 : Int) < ((says.len : Nat) : Int) then 80 else ((says.len : Nat) : Int)) : Int).toNat) : Nat) : Int)) ∧ vPtr (cutA says.a says.cap 0 6) (fun a => ∃ Opv : Int, ∃ Client : Int, ∃ Seq : Int, ∃ Key : Int, ∃ Valuev : Int, ∃ Old : Int, RowAt H1 (a.add ((x : Int).toNat * 6)) [.int .u8 Opv, .int .u8 Client, .int .u8 Seq, .int .u8 Key, .int .u8 Valuev, .int .u8 Old] ∧ 
 Br (decide (Opv > 230)) (
 tephralaw06_Entries.k1 J says fromv H1 out x Opv Client Seq Key Valuev Old (w64 (term1 + 1)) Q)
 (
 tephralaw06_Entries.k1 J says fromv H1 out x Opv Client Seq Key Valuev Old term1 Q)))
 (Q (.slice out.a out.len out.cap) H1)
theorem tephralaw06_Entries.l1.eq (J : Jn) (says : Sl) (fromv : Int) (H1 : Hp) (term1 : Int) (out : Sl) (x : Int) (Q : Value → Hp → Prop) : vAtBody Try.prog tephralaw06_Entries.cf J tephralaw06_Entries.fn [1, 1, 0, 1, 0] [0, 0, 0, 0] Q (tephralaw06_Entries.l1.st says fromv H1 term1 out x) = tephralaw06_Entries.l1.body J says fromv H1 term1 out x Q := by kernel_rfl
theorem tephralaw06_Entries.l1.step {says : Sl} {fromv : Int} {H1 : Hp} {term1 : Int} {out : Sl} {x : Int} {Q : Value → Hp → Prop} (h : tephralaw06_Entries.l1.body J0 says fromv H1 term1 out x Q) : tephralaw06_Entries.l1 J0 says fromv H1 term1 out x Q := vAt_stepC (tephralaw06_Entries.l1.st says fromv H1 term1 out x) (tephralaw06_Entries.l1.eq J0 says fromv H1 term1 out x Q) (by kernel_rfl) h
noncomputable def tephralaw06_Entries.k1.body (J : Jn) (says : Sl) (fromv : Int) (H1 : Hp) (out : Sl) (x : Int) (Opv : Int) (Client : Int) (Seq : Int) (Key : Int) (Valuev : Int) (Old : Int) (term2 : Int) (Q : Value → Hp → Prop) : Prop :=
 
 SCalls Try.prog tephralaw06_Say_Cmd.id [.agg #[.int .u8 Opv, .int .u8 Client, .int .u8 Seq, .int .u8 Key, .int .u8 Valuev, .int .u8 Old]] (holes H1 1) (fun r H2 => ∃ Opv1 : Int, ∃ Client1 : Int, ∃ Seq1 : Int, ∃ Key1 : ByteArray, ∃ Valuev1 : ByteArray, ∃ Old1 : ByteArray, r = .agg #[.int .i64 Opv1, .int .i64 Client1, .int .i64 Seq1, .string Key1, .string Valuev1, .string Old1] ∧ 
 vApp Try.prog T_sl_api_Entry out.a out.len out.cap (.slice (some (Addr.mk (Array.size H2) 0 none)) 1 1) (Array.push H2 (.cells #[.int .i64 (w64 (fromv + x)), .int .i64 term2, .int .i64 Opv1, .int .i64 Client1, .int .i64 Seq1, .string Key1, .string Valuev1, .string Old1] T_api_Entry)) (fun ap H3 => 
 tephralaw06_Entries.l1 J says fromv H3 term2 ap (w64 (x + 1)) Q))
theorem tephralaw06_Entries.k1.eq (J : Jn) (says : Sl) (fromv : Int) (H1 : Hp) (out : Sl) (x : Int) (Opv : Int) (Client : Int) (Seq : Int) (Key : Int) (Valuev : Int) (Old : Int) (term2 : Int) (Q : Value → Hp → Prop) : vSeg Try.prog tephralaw06_Entries.cf J tephralaw06_Entries.fn [1, 1, 0, 1, 0, 0, 1, 1, 0, 0, 1, 1] [0, 0, 0, 0, 0, 0, 0, 0, 0, 1] Q (tephralaw06_Entries.k1.st says fromv H1 out x Opv Client Seq Key Valuev Old term2) = tephralaw06_Entries.k1.body J says fromv H1 out x Opv Client Seq Key Valuev Old term2 Q := by kernel_rfl
theorem tephralaw06_Entries.k1.step {says : Sl} {fromv : Int} {H1 : Hp} {out : Sl} {x : Int} {Opv : Int} {Client : Int} {Seq : Int} {Key : Int} {Valuev : Int} {Old : Int} {term2 : Int} {Q : Value → Hp → Prop} (h : tephralaw06_Entries.k1.body J0 says fromv H1 out x Opv Client Seq Key Valuev Old term2 Q) : tephralaw06_Entries.k1 J0 says fromv H1 out x Opv Client Seq Key Valuev Old term2 Q := step_of (vSeg Try.prog tephralaw06_Entries.cf J0 tephralaw06_Entries.fn [1, 1, 0, 1, 0, 0, 1, 1, 0, 0, 1, 1] [0, 0, 0, 0, 0, 0, 0, 0, 0, 1] Q) (tephralaw06_Entries.k1.st says fromv H1 out x Opv Client Seq Key Valuev Old term2) (tephralaw06_Entries.k1.eq J0 says fromv H1 out x Opv Client Seq Key Valuev Old term2 Q) (by kernel_rfl) h
noncomputable def tephralaw06_Entries.vc (J : Jn) (says : Sl) (fromv : Int) (term : Int) (H : Hp) (Q : Value → Hp → Prop) : Prop :=
 ((0 : Int) ≤ (if (80 : Int) < ((says.len : Nat) : Int) then 80 else ((says.len : Nat) : Int)) ∧ (if (80 : Int) < ((says.len : Nat) : Int) then 80 else ((says.len : Nat) : Int)) ≤ ((says.cap : Nat) : Int)) ∧ 
 tephralaw06_Entries.l1 J says fromv H term (Sl.mk none 0 0) 0 Q
theorem tephralaw06_Entries.eq (J : Jn) (says : Sl) (fromv : Int) (term : Int) (H : Hp) (Q : Value → Hp → Prop) : vFn Try.prog tephralaw06_Entries.cf J tephralaw06_Entries.fn [.slice says.a says.len says.cap, .int .i64 fromv, .int .i64 term] H Q = tephralaw06_Entries.vc J says fromv term H Q := by kernel_rfl
theorem tephralaw06_Entries.calls {says : Sl} {fromv : Int} {term : Int} {H : Hp} {Q : Value → Hp → Prop} (h : tephralaw06_Entries.vc J0 says fromv term H Q) : SCalls Try.prog tephralaw06_Entries.id [.slice says.a says.len says.cap, .int .i64 fromv, .int .i64 term] H Q := vFn_of Try.mixed Try.func13 (tephralaw06_Entries.eq J0 says fromv term H Q) h

/-! 14: (*tephra/ghost.Ghost).Commit -/
noncomputable def ghost_Ghost_Commit.cf : Cfg := ⟨[3], [], [(2, [0, 3, 5], true), (3, [0, 3, 5, 20], true)], [(63, [5, 55, 63])], true⟩
noncomputable def ghost_Ghost_Commit.k1.st (g : Addr) (eIndex : Int) (eTerm : Int) (eCmdOp : Int) (eCmdClient : Int) (eCmdSeq : Int) (eCmdKey : ByteArray) (eCmdValue : ByteArray) (eCmdOld : ByteArray) (H : Hp) (ok : Bool) : VS := ⟨mkFr 67 [(0, .v (.pointer (some g))), (3, .loc 0 0), (5, .v (.bool ok))], [(T_api_Entry, [.int .i64 eIndex, .int .i64 eTerm, .int .i64 eCmdOp, .int .i64 eCmdClient, .int .i64 eCmdSeq, .string eCmdKey, .string eCmdValue, .string eCmdOld])], (holes H 1)⟩
noncomputable def ghost_Ghost_Commit.k1 (J : Jn) (g : Addr) (eIndex : Int) (eTerm : Int) (eCmdOp : Int) (eCmdClient : Int) (eCmdSeq : Int) (eCmdKey : ByteArray) (eCmdValue : ByteArray) (eCmdOld : ByteArray) (H : Hp) (ok : Bool) (Q : Value → Hp → Prop) : Prop := J (vSeg Try.prog ghost_Ghost_Commit.cf J ghost_Ghost_Commit.fn [1, 1] [0, 1] Q) (ghost_Ghost_Commit.k1.st g eIndex eTerm eCmdOp eCmdClient eCmdSeq eCmdKey eCmdValue eCmdOld H ok)
noncomputable def ghost_Ghost_Commit.k2.st (g : Addr) (eIndex : Int) (eTerm : Int) (eCmdOp : Int) (eCmdClient : Int) (eCmdSeq : Int) (eCmdKey : ByteArray) (eCmdValue : ByteArray) (eCmdOld : ByteArray) (H : Hp) (ok : Bool) (x : Bool) : VS := ⟨mkFr 67 [(0, .v (.pointer (some g))), (3, .loc 0 0), (5, .v (.bool ok)), (20, .v (.bool x))], [(T_api_Entry, [.int .i64 eIndex, .int .i64 eTerm, .int .i64 eCmdOp, .int .i64 eCmdClient, .int .i64 eCmdSeq, .string eCmdKey, .string eCmdValue, .string eCmdOld])], (holes H 1)⟩
noncomputable def ghost_Ghost_Commit.k2 (J : Jn) (g : Addr) (eIndex : Int) (eTerm : Int) (eCmdOp : Int) (eCmdClient : Int) (eCmdSeq : Int) (eCmdKey : ByteArray) (eCmdValue : ByteArray) (eCmdOld : ByteArray) (H : Hp) (ok : Bool) (x : Bool) (Q : Value → Hp → Prop) : Prop := J (vSeg Try.prog ghost_Ghost_Commit.cf J ghost_Ghost_Commit.fn [1, 1, 0, 0, 1] [0, 1, 1, 1] Q) (ghost_Ghost_Commit.k2.st g eIndex eTerm eCmdOp eCmdClient eCmdSeq eCmdKey eCmdValue eCmdOld H ok x)
noncomputable def ghost_Ghost_Commit.k3.st (g : Addr) (eIndex : Int) (eTerm : Int) (eCmdOp : Int) (eCmdClient : Int) (eCmdSeq : Int) (eCmdKey : ByteArray) (eCmdValue : ByteArray) (eCmdOld : ByteArray) (H : Hp) (Index : Int) (Term : Int) (CmdOp : Int) (CmdClient : Int) (CmdSeq : Int) (CmdKey : ByteArray) (CmdValue : ByteArray) (CmdOld : ByteArray) (x1 : Bool) : VS := ⟨mkFr 67 [(5, .v (.bool ((Index == eIndex) && ((Term == eTerm) && (((CmdOp == eCmdOp) && ((CmdClient == eCmdClient) && ((CmdSeq == eCmdSeq) && ((CmdKey == eCmdKey) && ((CmdValue == eCmdValue) && ((CmdOld == eCmdOld) && true)))))) && true))))), (55, .v (.pointer (some g))), (63, .v (.bool x1))], [(T_api_Entry, [.int .i64 eIndex, .int .i64 eTerm, .int .i64 eCmdOp, .int .i64 eCmdClient, .int .i64 eCmdSeq, .string eCmdKey, .string eCmdValue, .string eCmdOld])], (holes H 1)⟩
noncomputable def ghost_Ghost_Commit.k3 (J : Jn) (g : Addr) (eIndex : Int) (eTerm : Int) (eCmdOp : Int) (eCmdClient : Int) (eCmdSeq : Int) (eCmdKey : ByteArray) (eCmdValue : ByteArray) (eCmdOld : ByteArray) (H : Hp) (Index : Int) (Term : Int) (CmdOp : Int) (CmdClient : Int) (CmdSeq : Int) (CmdKey : ByteArray) (CmdValue : ByteArray) (CmdOld : ByteArray) (x1 : Bool) (Q : Value → Hp → Prop) : Prop := J (vMid Try.prog ghost_Ghost_Commit.cf J ghost_Ghost_Commit.fn [1, 1, 1, 0] [0, 1, 1, 1] 9 Q) (ghost_Ghost_Commit.k3.st g eIndex eTerm eCmdOp eCmdClient eCmdSeq eCmdKey eCmdValue eCmdOld H Index Term CmdOp CmdClient CmdSeq CmdKey CmdValue CmdOld x1)
noncomputable def ghost_Ghost_Commit.k4.st (g : Addr) (eIndex : Int) (eTerm : Int) (eCmdOp : Int) (eCmdClient : Int) (eCmdSeq : Int) (eCmdKey : ByteArray) (eCmdValue : ByteArray) (eCmdOld : ByteArray) (ok : Bool) (ap : Sl) (H1 : Hp) (x2 : Bool) : VS := ⟨mkFr 67 [(5, .v (.bool ok)), (55, .v (.pointer (some g))), (63, .v (.bool x2))], [(T_api_Entry, [.int .i64 eIndex, .int .i64 eTerm, .int .i64 eCmdOp, .int .i64 eCmdClient, .int .i64 eCmdSeq, .string eCmdKey, .string eCmdValue, .string eCmdOld])], (Hp.setCell H1 g (.slice ap.a ap.len ap.cap))⟩
noncomputable def ghost_Ghost_Commit.k4 (J : Jn) (g : Addr) (eIndex : Int) (eTerm : Int) (eCmdOp : Int) (eCmdClient : Int) (eCmdSeq : Int) (eCmdKey : ByteArray) (eCmdValue : ByteArray) (eCmdOld : ByteArray) (ok : Bool) (ap : Sl) (H1 : Hp) (x2 : Bool) (Q : Value → Hp → Prop) : Prop := J (vMid Try.prog ghost_Ghost_Commit.cf J ghost_Ghost_Commit.fn [1, 1, 1, 0] [0, 1, 1, 1] 9 Q) (ghost_Ghost_Commit.k4.st g eIndex eTerm eCmdOp eCmdClient eCmdSeq eCmdKey eCmdValue eCmdOld ok ap H1 x2)
noncomputable def ghost_Ghost_Commit.k5.st (g : Addr) (eIndex : Int) (eTerm : Int) (eCmdOp : Int) (eCmdClient : Int) (eCmdSeq : Int) (eCmdKey : ByteArray) (eCmdValue : ByteArray) (eCmdOld : ByteArray) (H : Hp) (ok : Bool) (x3 : Bool) : VS := ⟨mkFr 67 [(5, .v (.bool ok)), (55, .v (.pointer (some g))), (63, .v (.bool x3))], [(T_api_Entry, [.int .i64 eIndex, .int .i64 eTerm, .int .i64 eCmdOp, .int .i64 eCmdClient, .int .i64 eCmdSeq, .string eCmdKey, .string eCmdValue, .string eCmdOld])], (holes H 1)⟩
noncomputable def ghost_Ghost_Commit.k5 (J : Jn) (g : Addr) (eIndex : Int) (eTerm : Int) (eCmdOp : Int) (eCmdClient : Int) (eCmdSeq : Int) (eCmdKey : ByteArray) (eCmdValue : ByteArray) (eCmdOld : ByteArray) (H : Hp) (ok : Bool) (x3 : Bool) (Q : Value → Hp → Prop) : Prop := J (vMid Try.prog ghost_Ghost_Commit.cf J ghost_Ghost_Commit.fn [1, 1, 1, 0] [0, 1, 1, 1] 9 Q) (ghost_Ghost_Commit.k5.st g eIndex eTerm eCmdOp eCmdClient eCmdSeq eCmdKey eCmdValue eCmdOld H ok x3)
attribute [irreducible] ghost_Ghost_Commit.k1 ghost_Ghost_Commit.k2 ghost_Ghost_Commit.k3 ghost_Ghost_Commit.k4 ghost_Ghost_Commit.k5
noncomputable def ghost_Ghost_Commit.k1.body (J : Jn) (g : Addr) (eIndex : Int) (eTerm : Int) (eCmdOp : Int) (eCmdClient : Int) (eCmdSeq : Int) (eCmdKey : ByteArray) (eCmdValue : ByteArray) (eCmdOld : ByteArray) (H : Hp) (ok : Bool) (Q : Value → Hp → Prop) : Prop :=
 
 Br ok (∃ log1 : Sl, Hp.cell? (holes H 1) g = some (.slice log1.a log1.len log1.cap) ∧ 
 ghost_Ghost_Commit.k2 J g eIndex eTerm eCmdOp eCmdClient eCmdSeq eCmdKey eCmdValue eCmdOld H ok (decide (eIndex ≤ ((log1.len : Nat) : Int))) Q)
 (
 ghost_Ghost_Commit.k2 J g eIndex eTerm eCmdOp eCmdClient eCmdSeq eCmdKey eCmdValue eCmdOld H ok false Q)
theorem ghost_Ghost_Commit.k1.eq (J : Jn) (g : Addr) (eIndex : Int) (eTerm : Int) (eCmdOp : Int) (eCmdClient : Int) (eCmdSeq : Int) (eCmdKey : ByteArray) (eCmdValue : ByteArray) (eCmdOld : ByteArray) (H : Hp) (ok : Bool) (Q : Value → Hp → Prop) : vSeg Try.prog ghost_Ghost_Commit.cf J ghost_Ghost_Commit.fn [1, 1] [0, 1] Q (ghost_Ghost_Commit.k1.st g eIndex eTerm eCmdOp eCmdClient eCmdSeq eCmdKey eCmdValue eCmdOld H ok) = ghost_Ghost_Commit.k1.body J g eIndex eTerm eCmdOp eCmdClient eCmdSeq eCmdKey eCmdValue eCmdOld H ok Q := by kernel_rfl
theorem ghost_Ghost_Commit.k1.step {g : Addr} {eIndex : Int} {eTerm : Int} {eCmdOp : Int} {eCmdClient : Int} {eCmdSeq : Int} {eCmdKey : ByteArray} {eCmdValue : ByteArray} {eCmdOld : ByteArray} {H : Hp} {ok : Bool} {Q : Value → Hp → Prop} (h : ghost_Ghost_Commit.k1.body J0 g eIndex eTerm eCmdOp eCmdClient eCmdSeq eCmdKey eCmdValue eCmdOld H ok Q) : ghost_Ghost_Commit.k1 J0 g eIndex eTerm eCmdOp eCmdClient eCmdSeq eCmdKey eCmdValue eCmdOld H ok Q := step_of (vSeg Try.prog ghost_Ghost_Commit.cf J0 ghost_Ghost_Commit.fn [1, 1] [0, 1] Q) (ghost_Ghost_Commit.k1.st g eIndex eTerm eCmdOp eCmdClient eCmdSeq eCmdKey eCmdValue eCmdOld H ok) (ghost_Ghost_Commit.k1.eq J0 g eIndex eTerm eCmdOp eCmdClient eCmdSeq eCmdKey eCmdValue eCmdOld H ok Q) (by kernel_rfl) h
noncomputable def ghost_Ghost_Commit.k2.body (J : Jn) (g : Addr) (eIndex : Int) (eTerm : Int) (eCmdOp : Int) (eCmdClient : Int) (eCmdSeq : Int) (eCmdKey : ByteArray) (eCmdValue : ByteArray) (eCmdOld : ByteArray) (H : Hp) (ok : Bool) (x : Bool) (Q : Value → Hp → Prop) : Prop :=
 
 Br x (∃ log2 : Sl, Hp.cell? (holes H 1) g = some (.slice log2.a log2.len log2.cap) ∧ ((0 : Int) ≤ (w64 (eIndex - 1)) ∧ (w64 (eIndex - 1)) < ((log2.len : Nat) : Int)) ∧ vPtr log2.a (fun a => ∃ Index : Int, ∃ Term : Int, ∃ CmdOp : Int, ∃ CmdClient : Int, ∃ CmdSeq : Int, ∃ CmdKey : ByteArray, ∃ CmdValue : ByteArray, ∃ CmdOld : ByteArray, RowAt (holes H 1) (a.add (((w64 (eIndex - 1)) : Int).toNat * 8)) [.int .i64 Index, .int .i64 Term, .int .i64 CmdOp, .int .i64 CmdClient, .int .i64 CmdSeq, .string CmdKey, .string CmdValue, .string CmdOld] ∧ ∃ wrong : Bool, Hp.cell? (holes H 1) (g.add 2) = some (.bool wrong) ∧ 
 Br wrong (
 ghost_Ghost_Commit.k3 J g eIndex eTerm eCmdOp eCmdClient eCmdSeq eCmdKey eCmdValue eCmdOld H Index Term CmdOp CmdClient CmdSeq CmdKey CmdValue CmdOld true Q)
 (
 ghost_Ghost_Commit.k3 J g eIndex eTerm eCmdOp eCmdClient eCmdSeq eCmdKey eCmdValue eCmdOld H Index Term CmdOp CmdClient CmdSeq CmdKey CmdValue CmdOld (!((Index == eIndex) && ((Term == eTerm) && (((CmdOp == eCmdOp) && ((CmdClient == eCmdClient) && ((CmdSeq == eCmdSeq) && ((CmdKey == eCmdKey) && ((CmdValue == eCmdValue) && ((CmdOld == eCmdOld) && true)))))) && true)))) Q)))
 (
 Br ok (∃ log3 : Sl, Hp.cell? (holes H 1) g = some (.slice log3.a log3.len log3.cap) ∧ 
 vApp Try.prog T_sl_api_Entry log3.a log3.len log3.cap (.slice (some (Addr.mk (Array.size (holes H 1)) 0 none)) 1 1) (Array.push (holes H 1) (.cells #[.int .i64 eIndex, .int .i64 eTerm, .int .i64 eCmdOp, .int .i64 eCmdClient, .int .i64 eCmdSeq, .string eCmdKey, .string eCmdValue, .string eCmdOld] T_api_Entry)) (fun ap H1 => WrAt H1 g 1 ∧ ∃ wrong1 : Bool, Hp.cell? (Hp.setCell H1 g (.slice ap.a ap.len ap.cap)) (g.add 2) = some (.bool wrong1) ∧ 
 Br wrong1 (
 ghost_Ghost_Commit.k4 J g eIndex eTerm eCmdOp eCmdClient eCmdSeq eCmdKey eCmdValue eCmdOld ok ap H1 true Q)
 (
 ghost_Ghost_Commit.k4 J g eIndex eTerm eCmdOp eCmdClient eCmdSeq eCmdKey eCmdValue eCmdOld ok ap H1 (!ok) Q)))
 (∃ wrong2 : Bool, Hp.cell? (holes H 1) (g.add 2) = some (.bool wrong2) ∧ 
 Br wrong2 (
 ghost_Ghost_Commit.k5 J g eIndex eTerm eCmdOp eCmdClient eCmdSeq eCmdKey eCmdValue eCmdOld H ok true Q)
 (
 ghost_Ghost_Commit.k5 J g eIndex eTerm eCmdOp eCmdClient eCmdSeq eCmdKey eCmdValue eCmdOld H ok (!ok) Q)))
theorem ghost_Ghost_Commit.k2.eq (J : Jn) (g : Addr) (eIndex : Int) (eTerm : Int) (eCmdOp : Int) (eCmdClient : Int) (eCmdSeq : Int) (eCmdKey : ByteArray) (eCmdValue : ByteArray) (eCmdOld : ByteArray) (H : Hp) (ok : Bool) (x : Bool) (Q : Value → Hp → Prop) : vSeg Try.prog ghost_Ghost_Commit.cf J ghost_Ghost_Commit.fn [1, 1, 0, 0, 1] [0, 1, 1, 1] Q (ghost_Ghost_Commit.k2.st g eIndex eTerm eCmdOp eCmdClient eCmdSeq eCmdKey eCmdValue eCmdOld H ok x) = ghost_Ghost_Commit.k2.body J g eIndex eTerm eCmdOp eCmdClient eCmdSeq eCmdKey eCmdValue eCmdOld H ok x Q := by kernel_rfl
theorem ghost_Ghost_Commit.k2.step {g : Addr} {eIndex : Int} {eTerm : Int} {eCmdOp : Int} {eCmdClient : Int} {eCmdSeq : Int} {eCmdKey : ByteArray} {eCmdValue : ByteArray} {eCmdOld : ByteArray} {H : Hp} {ok : Bool} {x : Bool} {Q : Value → Hp → Prop} (h : ghost_Ghost_Commit.k2.body J0 g eIndex eTerm eCmdOp eCmdClient eCmdSeq eCmdKey eCmdValue eCmdOld H ok x Q) : ghost_Ghost_Commit.k2 J0 g eIndex eTerm eCmdOp eCmdClient eCmdSeq eCmdKey eCmdValue eCmdOld H ok x Q := step_of (vSeg Try.prog ghost_Ghost_Commit.cf J0 ghost_Ghost_Commit.fn [1, 1, 0, 0, 1] [0, 1, 1, 1] Q) (ghost_Ghost_Commit.k2.st g eIndex eTerm eCmdOp eCmdClient eCmdSeq eCmdKey eCmdValue eCmdOld H ok x) (ghost_Ghost_Commit.k2.eq J0 g eIndex eTerm eCmdOp eCmdClient eCmdSeq eCmdKey eCmdValue eCmdOld H ok x Q) (by kernel_rfl) h
noncomputable def ghost_Ghost_Commit.k3.body (J : Jn) (g : Addr) (eIndex : Int) (eTerm : Int) (eCmdOp : Int) (eCmdClient : Int) (eCmdSeq : Int) (eCmdKey : ByteArray) (eCmdValue : ByteArray) (eCmdOld : ByteArray) (H : Hp) (Index : Int) (Term : Int) (CmdOp : Int) (CmdClient : Int) (CmdSeq : Int) (CmdKey : ByteArray) (CmdValue : ByteArray) (CmdOld : ByteArray) (x1 : Bool) (Q : Value → Hp → Prop) : Prop :=
 WrAt (holes H 1) (g.add 2) 1 ∧ Q (.bool ((Index == eIndex) && ((Term == eTerm) && (((CmdOp == eCmdOp) && ((CmdClient == eCmdClient) && ((CmdSeq == eCmdSeq) && ((CmdKey == eCmdKey) && ((CmdValue == eCmdValue) && ((CmdOld == eCmdOld) && true)))))) && true)))) (Hp.setCell (holes H 1) (g.add 2) (.bool x1))
theorem ghost_Ghost_Commit.k3.eq (J : Jn) (g : Addr) (eIndex : Int) (eTerm : Int) (eCmdOp : Int) (eCmdClient : Int) (eCmdSeq : Int) (eCmdKey : ByteArray) (eCmdValue : ByteArray) (eCmdOld : ByteArray) (H : Hp) (Index : Int) (Term : Int) (CmdOp : Int) (CmdClient : Int) (CmdSeq : Int) (CmdKey : ByteArray) (CmdValue : ByteArray) (CmdOld : ByteArray) (x1 : Bool) (Q : Value → Hp → Prop) : vMid Try.prog ghost_Ghost_Commit.cf J ghost_Ghost_Commit.fn [1, 1, 1, 0] [0, 1, 1, 1] 9 Q (ghost_Ghost_Commit.k3.st g eIndex eTerm eCmdOp eCmdClient eCmdSeq eCmdKey eCmdValue eCmdOld H Index Term CmdOp CmdClient CmdSeq CmdKey CmdValue CmdOld x1) = ghost_Ghost_Commit.k3.body J g eIndex eTerm eCmdOp eCmdClient eCmdSeq eCmdKey eCmdValue eCmdOld H Index Term CmdOp CmdClient CmdSeq CmdKey CmdValue CmdOld x1 Q := by kernel_rfl
theorem ghost_Ghost_Commit.k3.step {g : Addr} {eIndex : Int} {eTerm : Int} {eCmdOp : Int} {eCmdClient : Int} {eCmdSeq : Int} {eCmdKey : ByteArray} {eCmdValue : ByteArray} {eCmdOld : ByteArray} {H : Hp} {Index : Int} {Term : Int} {CmdOp : Int} {CmdClient : Int} {CmdSeq : Int} {CmdKey : ByteArray} {CmdValue : ByteArray} {CmdOld : ByteArray} {x1 : Bool} {Q : Value → Hp → Prop} (h : ghost_Ghost_Commit.k3.body J0 g eIndex eTerm eCmdOp eCmdClient eCmdSeq eCmdKey eCmdValue eCmdOld H Index Term CmdOp CmdClient CmdSeq CmdKey CmdValue CmdOld x1 Q) : ghost_Ghost_Commit.k3 J0 g eIndex eTerm eCmdOp eCmdClient eCmdSeq eCmdKey eCmdValue eCmdOld H Index Term CmdOp CmdClient CmdSeq CmdKey CmdValue CmdOld x1 Q := step_of (vMid Try.prog ghost_Ghost_Commit.cf J0 ghost_Ghost_Commit.fn [1, 1, 1, 0] [0, 1, 1, 1] 9 Q) (ghost_Ghost_Commit.k3.st g eIndex eTerm eCmdOp eCmdClient eCmdSeq eCmdKey eCmdValue eCmdOld H Index Term CmdOp CmdClient CmdSeq CmdKey CmdValue CmdOld x1) (ghost_Ghost_Commit.k3.eq J0 g eIndex eTerm eCmdOp eCmdClient eCmdSeq eCmdKey eCmdValue eCmdOld H Index Term CmdOp CmdClient CmdSeq CmdKey CmdValue CmdOld x1 Q) (by kernel_rfl) h
noncomputable def ghost_Ghost_Commit.k4.body (J : Jn) (g : Addr) (eIndex : Int) (eTerm : Int) (eCmdOp : Int) (eCmdClient : Int) (eCmdSeq : Int) (eCmdKey : ByteArray) (eCmdValue : ByteArray) (eCmdOld : ByteArray) (ok : Bool) (ap : Sl) (H1 : Hp) (x2 : Bool) (Q : Value → Hp → Prop) : Prop :=
 WrAt (Hp.setCell H1 g (.slice ap.a ap.len ap.cap)) (g.add 2) 1 ∧ Q (.bool ok) (Hp.setCell (Hp.setCell H1 g (.slice ap.a ap.len ap.cap)) (g.add 2) (.bool x2))
theorem ghost_Ghost_Commit.k4.eq (J : Jn) (g : Addr) (eIndex : Int) (eTerm : Int) (eCmdOp : Int) (eCmdClient : Int) (eCmdSeq : Int) (eCmdKey : ByteArray) (eCmdValue : ByteArray) (eCmdOld : ByteArray) (ok : Bool) (ap : Sl) (H1 : Hp) (x2 : Bool) (Q : Value → Hp → Prop) : vMid Try.prog ghost_Ghost_Commit.cf J ghost_Ghost_Commit.fn [1, 1, 1, 0] [0, 1, 1, 1] 9 Q (ghost_Ghost_Commit.k4.st g eIndex eTerm eCmdOp eCmdClient eCmdSeq eCmdKey eCmdValue eCmdOld ok ap H1 x2) = ghost_Ghost_Commit.k4.body J g eIndex eTerm eCmdOp eCmdClient eCmdSeq eCmdKey eCmdValue eCmdOld ok ap H1 x2 Q := by kernel_rfl
theorem ghost_Ghost_Commit.k4.step {g : Addr} {eIndex : Int} {eTerm : Int} {eCmdOp : Int} {eCmdClient : Int} {eCmdSeq : Int} {eCmdKey : ByteArray} {eCmdValue : ByteArray} {eCmdOld : ByteArray} {ok : Bool} {ap : Sl} {H1 : Hp} {x2 : Bool} {Q : Value → Hp → Prop} (h : ghost_Ghost_Commit.k4.body J0 g eIndex eTerm eCmdOp eCmdClient eCmdSeq eCmdKey eCmdValue eCmdOld ok ap H1 x2 Q) : ghost_Ghost_Commit.k4 J0 g eIndex eTerm eCmdOp eCmdClient eCmdSeq eCmdKey eCmdValue eCmdOld ok ap H1 x2 Q := step_of (vMid Try.prog ghost_Ghost_Commit.cf J0 ghost_Ghost_Commit.fn [1, 1, 1, 0] [0, 1, 1, 1] 9 Q) (ghost_Ghost_Commit.k4.st g eIndex eTerm eCmdOp eCmdClient eCmdSeq eCmdKey eCmdValue eCmdOld ok ap H1 x2) (ghost_Ghost_Commit.k4.eq J0 g eIndex eTerm eCmdOp eCmdClient eCmdSeq eCmdKey eCmdValue eCmdOld ok ap H1 x2 Q) (by kernel_rfl) h
noncomputable def ghost_Ghost_Commit.k5.body (J : Jn) (g : Addr) (eIndex : Int) (eTerm : Int) (eCmdOp : Int) (eCmdClient : Int) (eCmdSeq : Int) (eCmdKey : ByteArray) (eCmdValue : ByteArray) (eCmdOld : ByteArray) (H : Hp) (ok : Bool) (x3 : Bool) (Q : Value → Hp → Prop) : Prop :=
 WrAt (holes H 1) (g.add 2) 1 ∧ Q (.bool ok) (Hp.setCell (holes H 1) (g.add 2) (.bool x3))
theorem ghost_Ghost_Commit.k5.eq (J : Jn) (g : Addr) (eIndex : Int) (eTerm : Int) (eCmdOp : Int) (eCmdClient : Int) (eCmdSeq : Int) (eCmdKey : ByteArray) (eCmdValue : ByteArray) (eCmdOld : ByteArray) (H : Hp) (ok : Bool) (x3 : Bool) (Q : Value → Hp → Prop) : vMid Try.prog ghost_Ghost_Commit.cf J ghost_Ghost_Commit.fn [1, 1, 1, 0] [0, 1, 1, 1] 9 Q (ghost_Ghost_Commit.k5.st g eIndex eTerm eCmdOp eCmdClient eCmdSeq eCmdKey eCmdValue eCmdOld H ok x3) = ghost_Ghost_Commit.k5.body J g eIndex eTerm eCmdOp eCmdClient eCmdSeq eCmdKey eCmdValue eCmdOld H ok x3 Q := by kernel_rfl
theorem ghost_Ghost_Commit.k5.step {g : Addr} {eIndex : Int} {eTerm : Int} {eCmdOp : Int} {eCmdClient : Int} {eCmdSeq : Int} {eCmdKey : ByteArray} {eCmdValue : ByteArray} {eCmdOld : ByteArray} {H : Hp} {ok : Bool} {x3 : Bool} {Q : Value → Hp → Prop} (h : ghost_Ghost_Commit.k5.body J0 g eIndex eTerm eCmdOp eCmdClient eCmdSeq eCmdKey eCmdValue eCmdOld H ok x3 Q) : ghost_Ghost_Commit.k5 J0 g eIndex eTerm eCmdOp eCmdClient eCmdSeq eCmdKey eCmdValue eCmdOld H ok x3 Q := step_of (vMid Try.prog ghost_Ghost_Commit.cf J0 ghost_Ghost_Commit.fn [1, 1, 1, 0] [0, 1, 1, 1] 9 Q) (ghost_Ghost_Commit.k5.st g eIndex eTerm eCmdOp eCmdClient eCmdSeq eCmdKey eCmdValue eCmdOld H ok x3) (ghost_Ghost_Commit.k5.eq J0 g eIndex eTerm eCmdOp eCmdClient eCmdSeq eCmdKey eCmdValue eCmdOld H ok x3 Q) (by kernel_rfl) h
noncomputable def ghost_Ghost_Commit.vc (J : Jn) (g : Addr) (eIndex : Int) (eTerm : Int) (eCmdOp : Int) (eCmdClient : Int) (eCmdSeq : Int) (eCmdKey : ByteArray) (eCmdValue : ByteArray) (eCmdOld : ByteArray) (H : Hp) (Q : Value → Hp → Prop) : Prop :=
 
 Br (decide (eIndex ≥ 1)) (∃ log : Sl, Hp.cell? (holes H 1) g = some (.slice log.a log.len log.cap) ∧ 
 ghost_Ghost_Commit.k1 J g eIndex eTerm eCmdOp eCmdClient eCmdSeq eCmdKey eCmdValue eCmdOld H (decide (eIndex ≤ (w64 (((log.len : Nat) : Int) + 1)))) Q)
 (
 ghost_Ghost_Commit.k1 J g eIndex eTerm eCmdOp eCmdClient eCmdSeq eCmdKey eCmdValue eCmdOld H false Q)
theorem ghost_Ghost_Commit.eq (J : Jn) (g : Addr) (eIndex : Int) (eTerm : Int) (eCmdOp : Int) (eCmdClient : Int) (eCmdSeq : Int) (eCmdKey : ByteArray) (eCmdValue : ByteArray) (eCmdOld : ByteArray) (H : Hp) (Q : Value → Hp → Prop) : vFn Try.prog ghost_Ghost_Commit.cf J ghost_Ghost_Commit.fn [.pointer (some g), .agg #[.int .i64 eIndex, .int .i64 eTerm, .int .i64 eCmdOp, .int .i64 eCmdClient, .int .i64 eCmdSeq, .string eCmdKey, .string eCmdValue, .string eCmdOld]] H Q = ghost_Ghost_Commit.vc J g eIndex eTerm eCmdOp eCmdClient eCmdSeq eCmdKey eCmdValue eCmdOld H Q := by kernel_rfl
theorem ghost_Ghost_Commit.calls {g : Addr} {eIndex : Int} {eTerm : Int} {eCmdOp : Int} {eCmdClient : Int} {eCmdSeq : Int} {eCmdKey : ByteArray} {eCmdValue : ByteArray} {eCmdOld : ByteArray} {H : Hp} {Q : Value → Hp → Prop} (h : ghost_Ghost_Commit.vc J0 g eIndex eTerm eCmdOp eCmdClient eCmdSeq eCmdKey eCmdValue eCmdOld H Q) : SCalls Try.prog ghost_Ghost_Commit.id [.pointer (some g), .agg #[.int .i64 eIndex, .int .i64 eTerm, .int .i64 eCmdOp, .int .i64 eCmdClient, .int .i64 eCmdSeq, .string eCmdKey, .string eCmdValue, .string eCmdOld]] H Q := vFn_of Try.mixed Try.func14 (ghost_Ghost_Commit.eq J0 g eIndex eTerm eCmdOp eCmdClient eCmdSeq eCmdKey eCmdValue eCmdOld H Q) h

/-! 15: (*tephra/ghost.Ghost).Log -/
noncomputable def ghost_Ghost_Log.cf : Cfg := ⟨[], [], [], [], true⟩
noncomputable def ghost_Ghost_Log.vc (J : Jn) (g : Addr) (H : Hp) (Q : Value → Hp → Prop) : Prop :=
 ∃ log : Sl, Hp.cell? H g = some (.slice log.a log.len log.cap) ∧ 
 SCalls Try.prog slices_Clone_sl_api_Entry_api_Entry.id [.slice log.a log.len log.cap] H (fun r H1 => ∃ x : Sl, r = .slice x.a x.len x.cap ∧ Q (.slice x.a x.len x.cap) H1)
theorem ghost_Ghost_Log.eq (J : Jn) (g : Addr) (H : Hp) (Q : Value → Hp → Prop) : vFn Try.prog ghost_Ghost_Log.cf J ghost_Ghost_Log.fn [.pointer (some g)] H Q = ghost_Ghost_Log.vc J g H Q := by kernel_rfl
theorem ghost_Ghost_Log.calls {g : Addr} {H : Hp} {Q : Value → Hp → Prop} (h : ghost_Ghost_Log.vc J0 g H Q) : SCalls Try.prog ghost_Ghost_Log.id [.pointer (some g)] H Q := vFn_of Try.mixed Try.func15 (ghost_Ghost_Log.eq J0 g H Q) h

/-! 16: (*tephra/ghost.Ghost).State -/
noncomputable def ghost_Ghost_State.cf : Cfg := ⟨[4, 1000003], [], [(2, [0, 1, 4, 16], true)], [], true⟩
noncomputable def ghost_Ghost_State.k1.st (g : Addr) (index : Int) (H1 : Hp) (x : Bool) : VS := ⟨mkFr 26 [(0, .v (.pointer (some g))), (1, .v (.int .i64 index)), (4, .loc 0 0), (16, .v (.bool x))], [(T_api_State, [.int .i64 0, .int .i64 0, .slice none 0 0, .slice none 0 0])], H1⟩
noncomputable def ghost_Ghost_State.k1 (J : Jn) (g : Addr) (index : Int) (H1 : Hp) (x : Bool) (Q : Value → Hp → Prop) : Prop := J (vSeg Try.prog ghost_Ghost_State.cf J ghost_Ghost_State.fn [1, 0, 1] [0, 1, 1] Q) (ghost_Ghost_State.k1.st g index H1 x)
attribute [irreducible] ghost_Ghost_State.k1
noncomputable def ghost_Ghost_State.k1.body (J : Jn) (g : Addr) (index : Int) (H1 : Hp) (x : Bool) (Q : Value → Hp → Prop) : Prop :=
 
 Br x (Q (.tuple #[.agg #[.int .i64 0, .int .i64 0, .slice none 0 0, .slice none 0 0], .bool false]) H1)
 (∃ log1 : Sl, Hp.cell? H1 g = some (.slice log1.a log1.len log1.cap) ∧ ((0 : Int) ≤ index ∧ index ≤ ((log1.cap : Nat) : Int)) ∧ 
 SCalls Try.prog state_Fold.id [.agg #[.int .i64 0, .int .i64 0, .slice none 0 0, .slice none 0 0], .slice (cutA log1.a log1.cap 0 8) ((index : Int).toNat) log1.cap] H1 (fun r H2 => ∃ Index : Int, ∃ Term : Int, ∃ Pairs : Sl, ∃ Sessions : Sl, r = .agg #[.int .i64 Index, .int .i64 Term, .slice Pairs.a Pairs.len Pairs.cap, .slice Sessions.a Sessions.len Sessions.cap] ∧ Q (.tuple #[.agg #[.int .i64 Index, .int .i64 Term, .slice Pairs.a Pairs.len Pairs.cap, .slice Sessions.a Sessions.len Sessions.cap], .bool true]) H2))
theorem ghost_Ghost_State.k1.eq (J : Jn) (g : Addr) (index : Int) (H1 : Hp) (x : Bool) (Q : Value → Hp → Prop) : vSeg Try.prog ghost_Ghost_State.cf J ghost_Ghost_State.fn [1, 0, 1] [0, 1, 1] Q (ghost_Ghost_State.k1.st g index H1 x) = ghost_Ghost_State.k1.body J g index H1 x Q := by kernel_rfl
theorem ghost_Ghost_State.k1.step {g : Addr} {index : Int} {H1 : Hp} {x : Bool} {Q : Value → Hp → Prop} (h : ghost_Ghost_State.k1.body J0 g index H1 x Q) : ghost_Ghost_State.k1 J0 g index H1 x Q := step_of (vSeg Try.prog ghost_Ghost_State.cf J0 ghost_Ghost_State.fn [1, 0, 1] [0, 1, 1] Q) (ghost_Ghost_State.k1.st g index H1 x) (ghost_Ghost_State.k1.eq J0 g index H1 x Q) (by kernel_rfl) h
noncomputable def ghost_Ghost_State.vc (J : Jn) (g : Addr) (index : Int) (H : Hp) (Q : Value → Hp → Prop) : Prop :=
 ∀ H1 : Hp, H1 = (holes H 1) → 
 Br (decide (index < 0)) (
 ghost_Ghost_State.k1 J g index H1 true Q)
 (∃ log : Sl, Hp.cell? H1 g = some (.slice log.a log.len log.cap) ∧ 
 ghost_Ghost_State.k1 J g index H1 (decide (index > ((log.len : Nat) : Int))) Q)
theorem ghost_Ghost_State.eq (J : Jn) (g : Addr) (index : Int) (H : Hp) (Q : Value → Hp → Prop) : vFn Try.prog ghost_Ghost_State.cf J ghost_Ghost_State.fn [.pointer (some g), .int .i64 index] H Q = ghost_Ghost_State.vc J g index H Q := by kernel_rfl
theorem ghost_Ghost_State.calls {g : Addr} {index : Int} {H : Hp} {Q : Value → Hp → Prop} (h : ghost_Ghost_State.vc J0 g index H Q) : SCalls Try.prog ghost_Ghost_State.id [.pointer (some g), .int .i64 index] H Q := vFn_of Try.mixed Try.func16 (ghost_Ghost_State.eq J0 g index H Q) h

/-! 17: tephra/state.Same -/
noncomputable def state_Same.cf : Cfg := ⟨[2, 3, 1000003], [], [], [], true⟩
noncomputable def state_Same.vc (J : Jn) (aIndex : Int) (aTerm : Int) (aPairs : Sl) (aSessions : Sl) (bIndex : Int) (bTerm : Int) (bPairs : Sl) (bSessions : Sl) (H : Hp) (Q : Value → Hp → Prop) : Prop :=
 ∀ H1 : Hp, H1 = (holes H 1) → ∀ H2 : Hp, H2 = (holes H1 1) → 
 SCalls Try.prog state_Bytes.id [.agg #[.int .i64 aIndex, .int .i64 aTerm, .slice aPairs.a aPairs.len aPairs.cap, .slice aSessions.a aSessions.len aSessions.cap]] H2 (fun r H3 => ∃ x : Sl, r = .slice x.a x.len x.cap ∧ 
  (vB2S H3 x.a x.len (fun s => 
 SCalls Try.prog state_Bytes.id [.agg #[.int .i64 bIndex, .int .i64 bTerm, .slice bPairs.a bPairs.len bPairs.cap, .slice bSessions.a bSessions.len bSessions.cap]] H3 (fun r1 H4 => ∃ x1 : Sl, r1 = .slice x1.a x1.len x1.cap ∧ vB2S H4 x1.a x1.len (fun s1 => Q (.bool (s.toList == s1.toList)) H4)))) ∧ 
  (
 SCalls Try.prog state_Bytes.id [.agg #[.int .i64 bIndex, .int .i64 bTerm, .slice bPairs.a bPairs.len bPairs.cap, .slice bSessions.a bSessions.len bSessions.cap]] H3 (fun r2 H5 => ∃ x2 : Sl, r2 = .slice x2.a x2.len x2.cap ∧ 
  (vB2S H5 x.a x.len (fun s2 => vB2S H5 x2.a x2.len (fun s3 => Q (.bool (s2.toList == s3.toList)) H5))) ∧ 
  (vB2S H5 x2.a x2.len (fun s4 => vB2S H5 x.a x.len (fun s5 => Q (.bool (s5.toList == s4.toList)) H5))))))
theorem state_Same.eq (J : Jn) (aIndex : Int) (aTerm : Int) (aPairs : Sl) (aSessions : Sl) (bIndex : Int) (bTerm : Int) (bPairs : Sl) (bSessions : Sl) (H : Hp) (Q : Value → Hp → Prop) : vFn Try.prog state_Same.cf J state_Same.fn [.agg #[.int .i64 aIndex, .int .i64 aTerm, .slice aPairs.a aPairs.len aPairs.cap, .slice aSessions.a aSessions.len aSessions.cap], .agg #[.int .i64 bIndex, .int .i64 bTerm, .slice bPairs.a bPairs.len bPairs.cap, .slice bSessions.a bSessions.len bSessions.cap]] H Q = state_Same.vc J aIndex aTerm aPairs aSessions bIndex bTerm bPairs bSessions H Q := by kernel_rfl
theorem state_Same.calls {aIndex : Int} {aTerm : Int} {aPairs : Sl} {aSessions : Sl} {bIndex : Int} {bTerm : Int} {bPairs : Sl} {bSessions : Sl} {H : Hp} {Q : Value → Hp → Prop} (h : state_Same.vc J0 aIndex aTerm aPairs aSessions bIndex bTerm bPairs bSessions H Q) : SCalls Try.prog state_Same.id [.agg #[.int .i64 aIndex, .int .i64 aTerm, .slice aPairs.a aPairs.len aPairs.cap, .slice aSessions.a aSessions.len aSessions.cap], .agg #[.int .i64 bIndex, .int .i64 bTerm, .slice bPairs.a bPairs.len bPairs.cap, .slice bSessions.a bSessions.len bSessions.cap]] H Q := vFn_of Try.mixed Try.func17 (state_Same.eq J0 aIndex aTerm aPairs aSessions bIndex bTerm bPairs bSessions H Q) h

/-! 18: tephra/state.Fold -/
noncomputable def state_Fold.cf : Cfg := ⟨[2, 4, 6, 1000003], [(2, [2, 4, 7, 8, 9])], [], [], true⟩
noncomputable def state_Fold.l1.st (es : Sl) (H3 : Hp) (x : Int) (y : Int) (y1 : Int) (y2 : Sl) (y3 : Sl) : VS := ⟨mkFr 21 [(2, .loc 0 0), (4, .loc 1 0), (7, .v (.slice es.a es.len es.cap)), (8, .v (.int .i64 ((es.len : Nat) : Int))), (9, .v (.int .i64 x))], [(T_api_State, [.int .i64 y, .int .i64 y1, .slice y2.a y2.len y2.cap, .slice y3.a y3.len y3.cap]), (T_api_State, [.int .i64 0, .int .i64 0, .slice none 0 0, .slice none 0 0])], H3⟩
noncomputable def state_Fold.l1 (J : Jn) (es : Sl) (H3 : Hp) (x : Int) (y : Int) (y1 : Int) (y2 : Sl) (y3 : Sl) (Q : Value → Hp → Prop) : Prop := vAt Try.prog state_Fold.cf J state_Fold.fn [1, 0, 1, 0] [0, 2, 2] Q (state_Fold.l1.st es H3 x y y1 y2 y3)
attribute [irreducible] state_Fold.l1
noncomputable def state_Fold.l1.body (J : Jn) (es : Sl) (H3 : Hp) (x : Int) (y : Int) (y1 : Int) (y2 : Sl) (y3 : Sl) (Q : Value → Hp → Prop) : Prop :=
 
 Br (decide (x < ((es.len : Nat) : Int))) (((0 : Int) ≤ x ∧ x < ((es.len : Nat) : Int)) ∧ vPtr es.a (fun a => ∃ Index : Int, ∃ Term : Int, ∃ CmdOp : Int, ∃ CmdClient : Int, ∃ CmdSeq : Int, ∃ CmdKey : ByteArray, ∃ CmdValue : ByteArray, ∃ CmdOld : ByteArray, RowAt H3 (a.add ((x : Int).toNat * 8)) [.int .i64 Index, .int .i64 Term, .int .i64 CmdOp, .int .i64 CmdClient, .int .i64 CmdSeq, .string CmdKey, .string CmdValue, .string CmdOld] ∧ ∀ H4 : Hp, H4 = (holes H3 1) → 
 SCalls Try.prog state_Apply.id [.agg #[.int .i64 y, .int .i64 y1, .slice y2.a y2.len y2.cap, .slice y3.a y3.len y3.cap], .agg #[.int .i64 Index, .int .i64 Term, .int .i64 CmdOp, .int .i64 CmdClient, .int .i64 CmdSeq, .string CmdKey, .string CmdValue, .string CmdOld]] H4 (fun r H5 => ∃ Index1 : Int, ∃ Term1 : Int, ∃ Pairs : Sl, ∃ Sessions : Sl, ∃ Err : Int, ∃ Valuev : ByteArray, r = .tuple #[.agg #[.int .i64 Index1, .int .i64 Term1, .slice Pairs.a Pairs.len Pairs.cap, .slice Sessions.a Sessions.len Sessions.cap], .agg #[.int .i64 Err, .string Valuev]] ∧ 
 state_Fold.l1 J es H5 (w64 (x + 1)) Index1 Term1 Pairs Sessions Q)))
 (Q (.agg #[.int .i64 y, .int .i64 y1, .slice y2.a y2.len y2.cap, .slice y3.a y3.len y3.cap]) H3)
theorem state_Fold.l1.eq (J : Jn) (es : Sl) (H3 : Hp) (x : Int) (y : Int) (y1 : Int) (y2 : Sl) (y3 : Sl) (Q : Value → Hp → Prop) : vAtBody Try.prog state_Fold.cf J state_Fold.fn [1, 0, 1, 0] [0, 2, 2] Q (state_Fold.l1.st es H3 x y y1 y2 y3) = state_Fold.l1.body J es H3 x y y1 y2 y3 Q := by kernel_rfl
theorem state_Fold.l1.step {es : Sl} {H3 : Hp} {x : Int} {y : Int} {y1 : Int} {y2 : Sl} {y3 : Sl} {Q : Value → Hp → Prop} (h : state_Fold.l1.body J0 es H3 x y y1 y2 y3 Q) : state_Fold.l1 J0 es H3 x y y1 y2 y3 Q := vAt_stepC (state_Fold.l1.st es H3 x y y1 y2 y3) (state_Fold.l1.eq J0 es H3 x y y1 y2 y3 Q) (by kernel_rfl) h
noncomputable def state_Fold.vc (J : Jn) (sIndex : Int) (sTerm : Int) (sPairs : Sl) (sSessions : Sl) (es : Sl) (H : Hp) (Q : Value → Hp → Prop) : Prop :=
 ∀ H1 : Hp, H1 = (holes H 1) → ∀ H2 : Hp, H2 = (holes H1 1) → 
 state_Fold.l1 J es H2 0 sIndex sTerm sPairs sSessions Q
theorem state_Fold.eq (J : Jn) (sIndex : Int) (sTerm : Int) (sPairs : Sl) (sSessions : Sl) (es : Sl) (H : Hp) (Q : Value → Hp → Prop) : vFn Try.prog state_Fold.cf J state_Fold.fn [.agg #[.int .i64 sIndex, .int .i64 sTerm, .slice sPairs.a sPairs.len sPairs.cap, .slice sSessions.a sSessions.len sSessions.cap], .slice es.a es.len es.cap] H Q = state_Fold.vc J sIndex sTerm sPairs sSessions es H Q := by kernel_rfl
theorem state_Fold.calls {sIndex : Int} {sTerm : Int} {sPairs : Sl} {sSessions : Sl} {es : Sl} {H : Hp} {Q : Value → Hp → Prop} (h : state_Fold.vc J0 sIndex sTerm sPairs sSessions es H Q) : SCalls Try.prog state_Fold.id [.agg #[.int .i64 sIndex, .int .i64 sTerm, .slice sPairs.a sPairs.len sPairs.cap, .slice sSessions.a sSessions.len sSessions.cap], .slice es.a es.len es.cap] H Q := vFn_of Try.mixed Try.func18 (state_Fold.eq J0 sIndex sTerm sPairs sSessions es H Q) h

/-! 19: (tephra/tephralaw06.Say).Cmd -/
noncomputable def tephralaw06_Say_Cmd.cf : Cfg := ⟨[1, 2, 3], [], [(6, [1, 2, 3], true)], [], true⟩
noncomputable def tephralaw06_Say_Cmd.k1.st (sOp : Int) (sClient : Int) (sSeq : Int) (sKey : Int) (sValue : Int) (sOld : Int) (H : Hp) (y : ByteArray) : VS := ⟨mkFr 65 [(1, .loc 0 0), (2, .loc 1 0), (3, .loc 2 0)], [(T_tephralaw06_Say, [.int .u8 sOp, .int .u8 sClient, .int .u8 sSeq, .int .u8 sKey, .int .u8 sValue, .int .u8 sOld]), (T_api_Cmd, [.int .i64 0, .int .i64 0, .int .i64 0, .string (ByteArray.mk #[]), .string (ByteArray.mk #[]), .string (ByteArray.mk #[])]), (T_api_Cmd, [.int .i64 (w64 ((Int.tmod sOp 4))), .int .i64 (w64 ((Int.tmod sClient 4))), .int .i64 (w64 ((Int.tmod sSeq 40))), .string ((ByteArray.mk #[107]) ++ ((ByteArray.mk #[97, 98, 99, 100, 101, 102, 103, 104]).extract (((Int.tmod sKey 8) : Int).toNat) (((IntKind.u8.wrap ((Int.tmod sKey 8) + 1)) : Int).toNat))), .string y, .string (ByteArray.mk #[])])], (holes H 3)⟩
noncomputable def tephralaw06_Say_Cmd.k1 (J : Jn) (sOp : Int) (sClient : Int) (sSeq : Int) (sKey : Int) (sValue : Int) (sOld : Int) (H : Hp) (y : ByteArray) (Q : Value → Hp → Prop) : Prop := J (vSeg Try.prog tephralaw06_Say_Cmd.cf J tephralaw06_Say_Cmd.fn [1, 1, 1, 1] [0, 2, 3, 3] Q) (tephralaw06_Say_Cmd.k1.st sOp sClient sSeq sKey sValue sOld H y)
attribute [irreducible] tephralaw06_Say_Cmd.k1
noncomputable def tephralaw06_Say_Cmd.k1.body (J : Jn) (sOp : Int) (sClient : Int) (sSeq : Int) (sKey : Int) (sValue : Int) (sOld : Int) (H : Hp) (y : ByteArray) (Q : Value → Hp → Prop) : Prop :=
 
 Br ((w64 ((Int.tmod sOp 4))) == 3) ((2 : Int) ≠ 0 ∧ ((0 : Int) ≤ (Int.tmod sOld 2) ∧ (Int.tmod sOld 2) ≤ (((ByteArray.mk #[118]).size : Nat) : Int)) ∧ (10 : Int) ≠ 0 ∧ (10 : Int) ≠ 0 ∧ ((0 : Int) ≤ (IntKind.u8.wrap ((Int.tmod sOld 10) + 1)) ∧ (IntKind.u8.wrap ((Int.tmod sOld 10) + 1)) ≤ (((ByteArray.mk #[48, 49, 50, 51, 52, 53, 54, 55, 56, 57]).size : Nat) : Int)) ∧ ((0 : Int) ≤ (Int.tmod sOld 10) ∧ (Int.tmod sOld 10) ≤ (((((IntKind.u8.wrap ((Int.tmod sOld 10) + 1)) : Int).toNat) : Nat) : Int)) ∧ ((ByteArray.mk #[118]).extract 0 (((Int.tmod sOld 2) : Int).toNat)).size + ((ByteArray.mk #[48, 49, 50, 51, 52, 53, 54, 55, 56, 57]).extract (((Int.tmod sOld 10) : Int).toNat) (((IntKind.u8.wrap ((Int.tmod sOld 10) + 1)) : Int).toNat)).size ≤ 9223372036854775807 ∧ Q (.agg #[.int .i64 (w64 ((Int.tmod sOp 4))), .int .i64 (w64 ((Int.tmod sClient 4))), .int .i64 (w64 ((Int.tmod sSeq 40))), .string ((ByteArray.mk #[107]) ++ ((ByteArray.mk #[97, 98, 99, 100, 101, 102, 103, 104]).extract (((Int.tmod sKey 8) : Int).toNat) (((IntKind.u8.wrap ((Int.tmod sKey 8) + 1)) : Int).toNat))), .string y, .string (((ByteArray.mk #[118]).extract 0 (((Int.tmod sOld 2) : Int).toNat)) ++ ((ByteArray.mk #[48, 49, 50, 51, 52, 53, 54, 55, 56, 57]).extract (((Int.tmod sOld 10) : Int).toNat) (((IntKind.u8.wrap ((Int.tmod sOld 10) + 1)) : Int).toNat)))]) (holes H 3))
 (Q (.agg #[.int .i64 (w64 ((Int.tmod sOp 4))), .int .i64 (w64 ((Int.tmod sClient 4))), .int .i64 (w64 ((Int.tmod sSeq 40))), .string ((ByteArray.mk #[107]) ++ ((ByteArray.mk #[97, 98, 99, 100, 101, 102, 103, 104]).extract (((Int.tmod sKey 8) : Int).toNat) (((IntKind.u8.wrap ((Int.tmod sKey 8) + 1)) : Int).toNat))), .string y, .string (ByteArray.mk #[])]) (holes H 3))
theorem tephralaw06_Say_Cmd.k1.eq (J : Jn) (sOp : Int) (sClient : Int) (sSeq : Int) (sKey : Int) (sValue : Int) (sOld : Int) (H : Hp) (y : ByteArray) (Q : Value → Hp → Prop) : vSeg Try.prog tephralaw06_Say_Cmd.cf J tephralaw06_Say_Cmd.fn [1, 1, 1, 1] [0, 2, 3, 3] Q (tephralaw06_Say_Cmd.k1.st sOp sClient sSeq sKey sValue sOld H y) = tephralaw06_Say_Cmd.k1.body J sOp sClient sSeq sKey sValue sOld H y Q := by kernel_rfl
theorem tephralaw06_Say_Cmd.k1.step {sOp : Int} {sClient : Int} {sSeq : Int} {sKey : Int} {sValue : Int} {sOld : Int} {H : Hp} {y : ByteArray} {Q : Value → Hp → Prop} (h : tephralaw06_Say_Cmd.k1.body J0 sOp sClient sSeq sKey sValue sOld H y Q) : tephralaw06_Say_Cmd.k1 J0 sOp sClient sSeq sKey sValue sOld H y Q := step_of (vSeg Try.prog tephralaw06_Say_Cmd.cf J0 tephralaw06_Say_Cmd.fn [1, 1, 1, 1] [0, 2, 3, 3] Q) (tephralaw06_Say_Cmd.k1.st sOp sClient sSeq sKey sValue sOld H y) (tephralaw06_Say_Cmd.k1.eq J0 sOp sClient sSeq sKey sValue sOld H y Q) (by kernel_rfl) h
noncomputable def tephralaw06_Say_Cmd.vc (J : Jn) (sOp : Int) (sClient : Int) (sSeq : Int) (sKey : Int) (sValue : Int) (sOld : Int) (H : Hp) (Q : Value → Hp → Prop) : Prop :=
 (4 : Int) ≠ 0 ∧ (4 : Int) ≠ 0 ∧ (40 : Int) ≠ 0 ∧ (8 : Int) ≠ 0 ∧ (8 : Int) ≠ 0 ∧ ((0 : Int) ≤ (IntKind.u8.wrap ((Int.tmod sKey 8) + 1)) ∧ (IntKind.u8.wrap ((Int.tmod sKey 8) + 1)) ≤ (((ByteArray.mk #[97, 98, 99, 100, 101, 102, 103, 104]).size : Nat) : Int)) ∧ ((0 : Int) ≤ (Int.tmod sKey 8) ∧ (Int.tmod sKey 8) ≤ (((((IntKind.u8.wrap ((Int.tmod sKey 8) + 1)) : Int).toNat) : Nat) : Int)) ∧ (ByteArray.mk #[107]).size + ((ByteArray.mk #[97, 98, 99, 100, 101, 102, 103, 104]).extract (((Int.tmod sKey 8) : Int).toNat) (((IntKind.u8.wrap ((Int.tmod sKey 8) + 1)) : Int).toNat)).size ≤ 9223372036854775807 ∧ (2 : Int) ≠ 0 ∧ ((0 : Int) ≤ (Int.tmod sValue 2) ∧ (Int.tmod sValue 2) ≤ (((ByteArray.mk #[118]).size : Nat) : Int)) ∧ (10 : Int) ≠ 0 ∧ (10 : Int) ≠ 0 ∧ ((0 : Int) ≤ (IntKind.u8.wrap ((Int.tmod sValue 10) + 1)) ∧ (IntKind.u8.wrap ((Int.tmod sValue 10) + 1)) ≤ (((ByteArray.mk #[48, 49, 50, 51, 52, 53, 54, 55, 56, 57]).size : Nat) : Int)) ∧ ((0 : Int) ≤ (Int.tmod sValue 10) ∧ (Int.tmod sValue 10) ≤ (((((IntKind.u8.wrap ((Int.tmod sValue 10) + 1)) : Int).toNat) : Nat) : Int)) ∧ ((ByteArray.mk #[118]).extract 0 (((Int.tmod sValue 2) : Int).toNat)).size + ((ByteArray.mk #[48, 49, 50, 51, 52, 53, 54, 55, 56, 57]).extract (((Int.tmod sValue 10) : Int).toNat) (((IntKind.u8.wrap ((Int.tmod sValue 10) + 1)) : Int).toNat)).size ≤ 9223372036854775807 ∧ 
 Br ((w64 ((Int.tmod sOp 4))) == 0) (Q (.agg #[.int .i64 0, .int .i64 0, .int .i64 0, .string (ByteArray.mk #[]), .string (ByteArray.mk #[]), .string (ByteArray.mk #[])]) (holes H 3))
 (
 Br ((w64 ((Int.tmod sOp 4))) == 2) (
 tephralaw06_Say_Cmd.k1 J sOp sClient sSeq sKey sValue sOld H (ByteArray.mk #[]) Q)
 (
 tephralaw06_Say_Cmd.k1 J sOp sClient sSeq sKey sValue sOld H (((ByteArray.mk #[118]).extract 0 (((Int.tmod sValue 2) : Int).toNat)) ++ ((ByteArray.mk #[48, 49, 50, 51, 52, 53, 54, 55, 56, 57]).extract (((Int.tmod sValue 10) : Int).toNat) (((IntKind.u8.wrap ((Int.tmod sValue 10) + 1)) : Int).toNat))) Q))
theorem tephralaw06_Say_Cmd.eq (J : Jn) (sOp : Int) (sClient : Int) (sSeq : Int) (sKey : Int) (sValue : Int) (sOld : Int) (H : Hp) (Q : Value → Hp → Prop) : vFn Try.prog tephralaw06_Say_Cmd.cf J tephralaw06_Say_Cmd.fn [.agg #[.int .u8 sOp, .int .u8 sClient, .int .u8 sSeq, .int .u8 sKey, .int .u8 sValue, .int .u8 sOld]] H Q = tephralaw06_Say_Cmd.vc J sOp sClient sSeq sKey sValue sOld H Q := by kernel_rfl
theorem tephralaw06_Say_Cmd.calls {sOp : Int} {sClient : Int} {sSeq : Int} {sKey : Int} {sValue : Int} {sOld : Int} {H : Hp} {Q : Value → Hp → Prop} (h : tephralaw06_Say_Cmd.vc J0 sOp sClient sSeq sKey sValue sOld H Q) : SCalls Try.prog tephralaw06_Say_Cmd.id [.agg #[.int .u8 sOp, .int .u8 sClient, .int .u8 sSeq, .int .u8 sKey, .int .u8 sValue, .int .u8 sOld]] H Q := vFn_of Try.mixed Try.func19 (tephralaw06_Say_Cmd.eq J0 sOp sClient sSeq sKey sValue sOld H Q) h

/-! 20: (*tephra/sorted.Map_int, int_).Get -/
noncomputable def sorted_Map_int_int_Get.cf : Cfg := ⟨[], [], [], [], true⟩
noncomputable def sorted_Map_int_int_Get.vc (J : Jn) (m : Addr) (k : Int) (H : Hp) (Q : Value → Hp → Prop) : Prop :=
 
 SCalls Try.prog sorted_Map_int_int_find.id [.pointer (some m), .int .i64 k] H (fun r H1 => ∃ x : Int, ∃ x1 : Bool, r = .tuple #[.int .i64 x, .bool x1] ∧ 
 Br x1 (∃ items : Sl, Hp.cell? H1 m = some (.slice items.a items.len items.cap) ∧ ((0 : Int) ≤ x ∧ x < ((items.len : Nat) : Int)) ∧ vPtr items.a (fun a => ∃ value : Int, Hp.cell? H1 ((a.add ((x : Int).toNat * 2)).add 1) = some (.int .i64 value) ∧ Q (.tuple #[.int .i64 value, .bool true]) H1))
 (Q (.tuple #[.int .i64 0, .bool false]) H1))
theorem sorted_Map_int_int_Get.eq (J : Jn) (m : Addr) (k : Int) (H : Hp) (Q : Value → Hp → Prop) : vFn Try.prog sorted_Map_int_int_Get.cf J sorted_Map_int_int_Get.fn [.pointer (some m), .int .i64 k] H Q = sorted_Map_int_int_Get.vc J m k H Q := by kernel_rfl
theorem sorted_Map_int_int_Get.calls {m : Addr} {k : Int} {H : Hp} {Q : Value → Hp → Prop} (h : sorted_Map_int_int_Get.vc J0 m k H Q) : SCalls Try.prog sorted_Map_int_int_Get.id [.pointer (some m), .int .i64 k] H Q := vFn_of Try.mixed Try.func20 (sorted_Map_int_int_Get.eq J0 m k H Q) h

/-! 21: (*tephra/sorted.Map_int, int_).Put -/
noncomputable def sorted_Map_int_int_Put.cf : Cfg := ⟨[], [], [], [], true⟩
noncomputable def sorted_Map_int_int_Put.vc (J : Jn) (m : Addr) (k : Int) (v : Int) (H : Hp) (Q : Value → Hp → Prop) : Prop :=
 
 SCalls Try.prog sorted_Map_int_int_find.id [.pointer (some m), .int .i64 k] H (fun r H1 => ∃ x : Int, ∃ x1 : Bool, r = .tuple #[.int .i64 x, .bool x1] ∧ 
 Br x1 (∃ items : Sl, Hp.cell? H1 m = some (.slice items.a items.len items.cap) ∧ ((0 : Int) ≤ x ∧ x < ((items.len : Nat) : Int)) ∧ vPtr items.a (fun a => WrAt H1 ((a.add ((x : Int).toNat * 2)).add 1) 1 ∧ Q (.bool false) (Hp.setCell H1 ((a.add ((x : Int).toNat * 2)).add 1) (.int .i64 v))))
 (∃ items1 : Sl, Hp.cell? H1 m = some (.slice items1.a items1.len items1.cap) ∧ 
 SCalls Try.prog slices_Insert_sl_sorted_item_int_int_sorted_item_int_int.id [.slice items1.a items1.len items1.cap, .int .i64 x, .slice (some (Addr.mk (Array.size H1) 0 none)) 1 1] (Array.push H1 (.cells #[.int .i64 k, .int .i64 v] T_sorted_item_int_int)) (fun r1 H2 => ∃ x2 : Sl, r1 = .slice x2.a x2.len x2.cap ∧ WrAt H2 m 1 ∧ Q (.bool true) (Hp.setCell H2 m (.slice x2.a x2.len x2.cap)))))
theorem sorted_Map_int_int_Put.eq (J : Jn) (m : Addr) (k : Int) (v : Int) (H : Hp) (Q : Value → Hp → Prop) : vFn Try.prog sorted_Map_int_int_Put.cf J sorted_Map_int_int_Put.fn [.pointer (some m), .int .i64 k, .int .i64 v] H Q = sorted_Map_int_int_Put.vc J m k v H Q := by kernel_rfl
theorem sorted_Map_int_int_Put.calls {m : Addr} {k : Int} {v : Int} {H : Hp} {Q : Value → Hp → Prop} (h : sorted_Map_int_int_Put.vc J0 m k v H Q) : SCalls Try.prog sorted_Map_int_int_Put.id [.pointer (some m), .int .i64 k, .int .i64 v] H Q := vFn_of Try.mixed Try.func21 (sorted_Map_int_int_Put.eq J0 m k v H Q) h

/-! 22: slices.Clone___tephra/api.Entry,tephra/api.Entry_ -/
noncomputable def slices_Clone_sl_api_Entry_api_Entry.cf : Cfg := ⟨[], [], [], [], true⟩
noncomputable def slices_Clone_sl_api_Entry_api_Entry.vc (J : Jn) (s : Sl) (H : Hp) (Q : Value → Hp → Prop) : Prop :=
 
 Br s.a.isNone (Q (.slice none 0 0) H)
 (
 vApp Try.prog T_sl_api_Entry (some (Addr.mk (Array.size H) 0 none)) 0 0 (.slice s.a s.len s.cap) (Array.push H (.cells #[] T_api_Entry)) (fun ap H1 => Q (.slice ap.a ap.len ap.cap) H1))
theorem slices_Clone_sl_api_Entry_api_Entry.eq (J : Jn) (s : Sl) (H : Hp) (Q : Value → Hp → Prop) : vFn Try.prog slices_Clone_sl_api_Entry_api_Entry.cf J slices_Clone_sl_api_Entry_api_Entry.fn [.slice s.a s.len s.cap] H Q = slices_Clone_sl_api_Entry_api_Entry.vc J s H Q := by kernel_rfl
theorem slices_Clone_sl_api_Entry_api_Entry.calls {s : Sl} {H : Hp} {Q : Value → Hp → Prop} (h : slices_Clone_sl_api_Entry_api_Entry.vc J0 s H Q) : SCalls Try.prog slices_Clone_sl_api_Entry_api_Entry.id [.slice s.a s.len s.cap] H Q := vFn_of Try.mixed Try.func22 (slices_Clone_sl_api_Entry_api_Entry.eq J0 s H Q) h

/-! 23: tephra/state.Bytes -/
noncomputable def state_Bytes.cf : Cfg := ⟨[1, 1000003], [], [(3, [1, 3], true)], [], true⟩
noncomputable def state_Bytes.k1.st (sIndex : Int) (sTerm : Int) (sPairs : Sl) (sSessions : Sl) (b : Nat) (H4 : Hp) : VS := ⟨mkFr 21 [(1, .loc 0 0), (3, .v (.pointer (some (Addr.mk b 0 none))))], [(T_api_State, [.int .i64 sIndex, .int .i64 sTerm, .slice sPairs.a sPairs.len sPairs.cap, .slice sSessions.a sSessions.len sSessions.cap])], H4⟩
noncomputable def state_Bytes.k1 (J : Jn) (sIndex : Int) (sTerm : Int) (sPairs : Sl) (sSessions : Sl) (b : Nat) (H4 : Hp) (Q : Value → Hp → Prop) : Prop := J (vSeg Try.prog state_Bytes.cf J state_Bytes.fn [1, 1, 1] [0, 1, 1] Q) (state_Bytes.k1.st sIndex sTerm sPairs sSessions b H4)
attribute [irreducible] state_Bytes.k1
noncomputable def state_Bytes.k1.body (J : Jn) (sIndex : Int) (sTerm : Int) (sPairs : Sl) (sSessions : Sl) (b : Nat) (H4 : Hp) (Q : Value → Hp → Prop) : Prop :=
 
 SCalls Try.prog state_PutRows.id [.pointer (some (Addr.mk b 0 none)), .slice sPairs.a sPairs.len sPairs.cap, .slice sSessions.a sSessions.len sSessions.cap] H4 (fun r2 H5 => r2 = .tuple #[] ∧ 
 SCalls Try.prog pack_Writer_Bytes.id [.pointer (some (Addr.mk b 0 none))] H5 (fun r3 H6 => ∃ x2 : Sl, r3 = .slice x2.a x2.len x2.cap ∧ Q (.slice x2.a x2.len x2.cap) H6))
theorem state_Bytes.k1.eq (J : Jn) (sIndex : Int) (sTerm : Int) (sPairs : Sl) (sSessions : Sl) (b : Nat) (H4 : Hp) (Q : Value → Hp → Prop) : vSeg Try.prog state_Bytes.cf J state_Bytes.fn [1, 1, 1] [0, 1, 1] Q (state_Bytes.k1.st sIndex sTerm sPairs sSessions b H4) = state_Bytes.k1.body J sIndex sTerm sPairs sSessions b H4 Q := by kernel_rfl
theorem state_Bytes.k1.step {sIndex : Int} {sTerm : Int} {sPairs : Sl} {sSessions : Sl} {b : Nat} {H4 : Hp} {Q : Value → Hp → Prop} (h : state_Bytes.k1.body J0 sIndex sTerm sPairs sSessions b H4 Q) : state_Bytes.k1 J0 sIndex sTerm sPairs sSessions b H4 Q := step_of (vSeg Try.prog state_Bytes.cf J0 state_Bytes.fn [1, 1, 1] [0, 1, 1] Q) (state_Bytes.k1.st sIndex sTerm sPairs sSessions b H4) (state_Bytes.k1.eq J0 sIndex sTerm sPairs sSessions b H4 Q) (by kernel_rfl) h
noncomputable def state_Bytes.vc (J : Jn) (sIndex : Int) (sTerm : Int) (sPairs : Sl) (sSessions : Sl) (H : Hp) (Q : Value → Hp → Prop) : Prop :=
 ∀ H1 : Hp, H1 = (holes H 1) → ∀ b : Nat, b = Array.size H1 → ∀ H2 : Hp, H2 = (Array.push H1 (.cells #[.slice none 0 0] T_pack_Writer)) → 
 SCalls Try.prog pack_Writer_Num.id [.pointer (some (Addr.mk b 0 none)), .int .i64 sIndex] H2 (fun r H3 => ∃ x : Option Addr, r = .pointer x ∧ 
 SCalls Try.prog pack_Writer_Num.id [.pointer x, .int .i64 sTerm] H3 (fun r1 H4 => ∃ x1 : Option Addr, r1 = .pointer x1 ∧ 
 state_Bytes.k1 J sIndex sTerm sPairs sSessions b H4 Q))
theorem state_Bytes.eq (J : Jn) (sIndex : Int) (sTerm : Int) (sPairs : Sl) (sSessions : Sl) (H : Hp) (Q : Value → Hp → Prop) : vFn Try.prog state_Bytes.cf J state_Bytes.fn [.agg #[.int .i64 sIndex, .int .i64 sTerm, .slice sPairs.a sPairs.len sPairs.cap, .slice sSessions.a sSessions.len sSessions.cap]] H Q = state_Bytes.vc J sIndex sTerm sPairs sSessions H Q := by kernel_rfl
theorem state_Bytes.calls {sIndex : Int} {sTerm : Int} {sPairs : Sl} {sSessions : Sl} {H : Hp} {Q : Value → Hp → Prop} (h : state_Bytes.vc J0 sIndex sTerm sPairs sSessions H Q) : SCalls Try.prog state_Bytes.id [.agg #[.int .i64 sIndex, .int .i64 sTerm, .slice sPairs.a sPairs.len sPairs.cap, .slice sSessions.a sSessions.len sSessions.cap]] H Q := vFn_of Try.mixed Try.func23 (state_Bytes.eq J0 sIndex sTerm sPairs sSessions H Q) h

/-! 24: tephra/state.Apply -/
noncomputable def state_Apply.cf : Cfg := ⟨[3, 4, 5, 7, 10, 12, 1000003], [(1000021, [2])], [(4, [2, 3, 4, 5, 19], true), (6, [2, 3, 4, 5], true), (11, [2, 3, 4, 5, 6, 7, 65], true)], [], true⟩
noncomputable def state_Apply.cfr : Cfg := { state_Apply.cf with rf := false }
noncomputable def state_Apply.r1.fr (b : Nat) : List AV := mkFr 112 [(2, .v (.pointer (some (Addr.mk b 0 none))))]
noncomputable def state_Apply.r1.code : Code := sub (bodyOf state_Apply.fn) [1, 1, 1, 1, 1, 1, 1, 1, 1, 1, 1, 0, 1, 0]
noncomputable def state_Apply.r1.rec (fn : FuncId) (tm : Array Value) (d : Nat) (st : LoopState) (pd : Option Code) : Obj := recO fn tm (rgP state_Apply.r1.code) (rgA state_Apply.r1.code) (rgB state_Apply.r1.code) d st pd
noncomputable def state_Apply.k1.st (eIndex : Int) (eTerm : Int) (eCmdOp : Int) (eCmdClient : Int) (eCmdSeq : Int) (eCmdKey : ByteArray) (eCmdValue : ByteArray) (eCmdOld : ByteArray) (b : Nat) (H5 : Hp) (x1 : Bool) : VS := ⟨mkFr 112 [(2, .v (.pointer (some (Addr.mk b 0 none)))), (3, .loc 0 0), (4, .loc 1 0), (5, .loc 2 0), (19, .v (.bool x1))], [(T_api_Entry, [.int .i64 eIndex, .int .i64 eTerm, .int .i64 eCmdOp, .int .i64 eCmdClient, .int .i64 eCmdSeq, .string eCmdKey, .string eCmdValue, .string eCmdOld]), (T_api_State, [.int .i64 0, .int .i64 0, .slice none 0 0, .slice none 0 0]), (T_api_Reply, [.int .i64 0, .string (ByteArray.mk #[])])], H5⟩
noncomputable def state_Apply.k1 (J : Jn) (eIndex : Int) (eTerm : Int) (eCmdOp : Int) (eCmdClient : Int) (eCmdSeq : Int) (eCmdKey : ByteArray) (eCmdValue : ByteArray) (eCmdOld : ByteArray) (b : Nat) (H5 : Hp) (x1 : Bool) (Q : Value → Hp → Prop) : Prop := J (vSeg Try.prog state_Apply.cf J state_Apply.fn [1, 0, 0, 1, 1, 1] [0, 3, 3, 3] Q) (state_Apply.k1.st eIndex eTerm eCmdOp eCmdClient eCmdSeq eCmdKey eCmdValue eCmdOld b H5 x1)
noncomputable def state_Apply.k2.st (eIndex : Int) (eTerm : Int) (eCmdOp : Int) (eCmdClient : Int) (eCmdSeq : Int) (eCmdKey : ByteArray) (eCmdValue : ByteArray) (eCmdOld : ByteArray) (b : Nat) (H10 : Hp) : VS := ⟨mkFr 112 [(2, .v (.pointer (some (Addr.mk b 0 none)))), (3, .loc 0 0), (4, .loc 1 0), (5, .loc 2 0)], [(T_api_Entry, [.int .i64 eIndex, .int .i64 eTerm, .int .i64 eCmdOp, .int .i64 eCmdClient, .int .i64 eCmdSeq, .string eCmdKey, .string eCmdValue, .string eCmdOld]), (T_api_State, [.int .i64 0, .int .i64 0, .slice none 0 0, .slice none 0 0]), (T_api_Reply, [.int .i64 0, .string (ByteArray.mk #[])])], H10⟩
noncomputable def state_Apply.k2 (J : Jn) (eIndex : Int) (eTerm : Int) (eCmdOp : Int) (eCmdClient : Int) (eCmdSeq : Int) (eCmdKey : ByteArray) (eCmdValue : ByteArray) (eCmdOld : ByteArray) (b : Nat) (H10 : Hp) (Q : Value → Hp → Prop) : Prop := J (vSeg Try.prog state_Apply.cf J state_Apply.fn [1, 1, 1] [0, 3, 3] Q) (state_Apply.k2.st eIndex eTerm eCmdOp eCmdClient eCmdSeq eCmdKey eCmdValue eCmdOld b H10)
noncomputable def state_Apply.k3.st (eIndex : Int) (eTerm : Int) (eCmdOp : Int) (eCmdClient : Int) (eCmdSeq : Int) (eCmdKey : ByteArray) (eCmdValue : ByteArray) (eCmdOld : ByteArray) (b : Nat) (x2 : Option Addr) (Client : Int) (Seq : Int) (ReplyErr : Int) (ReplyValue : ByteArray) (H13 : Hp) (x4 : Bool) : VS := ⟨mkFr 112 [(2, .v (.pointer (some (Addr.mk b 0 none)))), (3, .loc 0 0), (4, .loc 1 0), (5, .loc 2 0), (6, .v (.pointer x2)), (7, .loc 3 0), (65, .v (.bool x4))], [(T_api_Entry, [.int .i64 eIndex, .int .i64 eTerm, .int .i64 eCmdOp, .int .i64 eCmdClient, .int .i64 eCmdSeq, .string eCmdKey, .string eCmdValue, .string eCmdOld]), (T_api_State, [.int .i64 0, .int .i64 0, .slice none 0 0, .slice none 0 0]), (T_api_Reply, [.int .i64 0, .string (ByteArray.mk #[])]), (T_api_Session, [.int .i64 Client, .int .i64 Seq, .int .i64 ReplyErr, .string ReplyValue])], H13⟩
noncomputable def state_Apply.k3 (J : Jn) (eIndex : Int) (eTerm : Int) (eCmdOp : Int) (eCmdClient : Int) (eCmdSeq : Int) (eCmdKey : ByteArray) (eCmdValue : ByteArray) (eCmdOld : ByteArray) (b : Nat) (x2 : Option Addr) (Client : Int) (Seq : Int) (ReplyErr : Int) (ReplyValue : ByteArray) (H13 : Hp) (x4 : Bool) (Q : Value → Hp → Prop) : Prop := J (vSeg Try.prog state_Apply.cf J state_Apply.fn [1, 1, 1, 1, 1, 0, 1, 1] [0, 3, 3, 3, 3, 3, 3, 4] Q) (state_Apply.k3.st eIndex eTerm eCmdOp eCmdClient eCmdSeq eCmdKey eCmdValue eCmdOld b x2 Client Seq ReplyErr ReplyValue H13 x4)
attribute [irreducible] state_Apply.k1 state_Apply.k2 state_Apply.k3
noncomputable def state_Apply.k1.body (J : Jn) (eIndex : Int) (eTerm : Int) (eCmdOp : Int) (eCmdClient : Int) (eCmdSeq : Int) (eCmdKey : ByteArray) (eCmdValue : ByteArray) (eCmdOld : ByteArray) (b : Nat) (H5 : Hp) (x1 : Bool) (Q : Value → Hp → Prop) : Prop :=
 
 Br x1 (∃ Index2 : Int, ∃ Term2 : Int, ∃ Pairs1 : Sl, ∃ Sessions1 : Sl, RowAt H5 (Addr.mk b 0 none) [.int .i64 Index2, .int .i64 Term2, .slice Pairs1.a Pairs1.len Pairs1.cap, .slice Sessions1.a Sessions1.len Sessions1.cap] ∧ Q (.tuple #[.agg #[.int .i64 Index2, .int .i64 Term2, .slice Pairs1.a Pairs1.len Pairs1.cap, .slice Sessions1.a Sessions1.len Sessions1.cap], .agg #[.int .i64 8, .string (ByteArray.mk #[])]]) H5)
 (
  (WrAt H5 (Addr.mk b 0 none) 1 ∧ ∀ H6 : Hp, H6 = (Hp.setCell H5 (Addr.mk b 0 none) (.int .i64 eIndex)) → WrAt H6 ((Addr.mk b 0 none).add 1) 1 ∧ ∀ H7 : Hp, H7 = (Hp.setCell H6 ((Addr.mk b 0 none).add 1) (.int .i64 eTerm)) → 
 state_Apply.k2 J eIndex eTerm eCmdOp eCmdClient eCmdSeq eCmdKey eCmdValue eCmdOld b H7 Q) ∧ 
  (WrAt H5 (Addr.mk b 0 none) 1 ∧ ∀ H8 : Hp, H8 = (Hp.setCell H5 (Addr.mk b 0 none) (.int .i64 eIndex)) → WrAt H8 ((Addr.mk b 0 none).add 1) 1 ∧ ∀ H9 : Hp, H9 = (Hp.setCell H8 ((Addr.mk b 0 none).add 1) (.int .i64 eTerm)) → 
 state_Apply.k2 J eIndex eTerm eCmdOp eCmdClient eCmdSeq eCmdKey eCmdValue eCmdOld b H9 Q))
theorem state_Apply.k1.eq (J : Jn) (eIndex : Int) (eTerm : Int) (eCmdOp : Int) (eCmdClient : Int) (eCmdSeq : Int) (eCmdKey : ByteArray) (eCmdValue : ByteArray) (eCmdOld : ByteArray) (b : Nat) (H5 : Hp) (x1 : Bool) (Q : Value → Hp → Prop) : vSeg Try.prog state_Apply.cf J state_Apply.fn [1, 0, 0, 1, 1, 1] [0, 3, 3, 3] Q (state_Apply.k1.st eIndex eTerm eCmdOp eCmdClient eCmdSeq eCmdKey eCmdValue eCmdOld b H5 x1) = state_Apply.k1.body J eIndex eTerm eCmdOp eCmdClient eCmdSeq eCmdKey eCmdValue eCmdOld b H5 x1 Q := by kernel_rfl
theorem state_Apply.k1.step {eIndex : Int} {eTerm : Int} {eCmdOp : Int} {eCmdClient : Int} {eCmdSeq : Int} {eCmdKey : ByteArray} {eCmdValue : ByteArray} {eCmdOld : ByteArray} {b : Nat} {H5 : Hp} {x1 : Bool} {Q : Value → Hp → Prop} (h : state_Apply.k1.body J0 eIndex eTerm eCmdOp eCmdClient eCmdSeq eCmdKey eCmdValue eCmdOld b H5 x1 Q) : state_Apply.k1 J0 eIndex eTerm eCmdOp eCmdClient eCmdSeq eCmdKey eCmdValue eCmdOld b H5 x1 Q := step_of (vSeg Try.prog state_Apply.cf J0 state_Apply.fn [1, 0, 0, 1, 1, 1] [0, 3, 3, 3] Q) (state_Apply.k1.st eIndex eTerm eCmdOp eCmdClient eCmdSeq eCmdKey eCmdValue eCmdOld b H5 x1) (state_Apply.k1.eq J0 eIndex eTerm eCmdOp eCmdClient eCmdSeq eCmdKey eCmdValue eCmdOld b H5 x1 Q) (by kernel_rfl) h
noncomputable def state_Apply.k2.body (J : Jn) (eIndex : Int) (eTerm : Int) (eCmdOp : Int) (eCmdClient : Int) (eCmdSeq : Int) (eCmdKey : ByteArray) (eCmdValue : ByteArray) (eCmdOld : ByteArray) (b : Nat) (H10 : Hp) (Q : Value → Hp → Prop) : Prop :=
 
 Br (eCmdOp == 0) (∃ Index3 : Int, ∃ Term3 : Int, ∃ Pairs2 : Sl, ∃ Sessions2 : Sl, RowAt H10 (Addr.mk b 0 none) [.int .i64 Index3, .int .i64 Term3, .slice Pairs2.a Pairs2.len Pairs2.cap, .slice Sessions2.a Sessions2.len Sessions2.cap] ∧ Q (.tuple #[.agg #[.int .i64 Index3, .int .i64 Term3, .slice Pairs2.a Pairs2.len Pairs2.cap, .slice Sessions2.a Sessions2.len Sessions2.cap], .agg #[.int .i64 0, .string (ByteArray.mk #[])]]) H10)
 (∃ Index4 : Int, ∃ Term4 : Int, ∃ Pairs3 : Sl, ∃ Sessions3 : Sl, RowAt H10 (Addr.mk b 0 none) [.int .i64 Index4, .int .i64 Term4, .slice Pairs3.a Pairs3.len Pairs3.cap, .slice Sessions3.a Sessions3.len Sessions3.cap] ∧ 
 SCalls Try.prog state_sessions.id [.agg #[.int .i64 Index4, .int .i64 Term4, .slice Pairs3.a Pairs3.len Pairs3.cap, .slice Sessions3.a Sessions3.len Sessions3.cap]] H10 (fun r1 H11 => ∃ x2 : Option Addr, r1 = .pointer x2 ∧ 
 SCalls Try.prog sorted_Map_int_api_Session_Get.id [.pointer x2, .int .i64 eCmdClient] H11 (fun r2 H12 => ∃ Client : Int, ∃ Seq : Int, ∃ ReplyErr : Int, ∃ ReplyValue : ByteArray, ∃ x3 : Bool, r2 = .tuple #[.agg #[.int .i64 Client, .int .i64 Seq, .int .i64 ReplyErr, .string ReplyValue], .bool x3] ∧ ∀ H13 : Hp, H13 = (holes H12 1) → 
 Br x3 (
 state_Apply.k3 J eIndex eTerm eCmdOp eCmdClient eCmdSeq eCmdKey eCmdValue eCmdOld b x2 Client Seq ReplyErr ReplyValue H13 (decide (Seq ≥ eCmdSeq)) Q)
 (
 state_Apply.k3 J eIndex eTerm eCmdOp eCmdClient eCmdSeq eCmdKey eCmdValue eCmdOld b x2 Client Seq ReplyErr ReplyValue H13 false Q))))
theorem state_Apply.k2.eq (J : Jn) (eIndex : Int) (eTerm : Int) (eCmdOp : Int) (eCmdClient : Int) (eCmdSeq : Int) (eCmdKey : ByteArray) (eCmdValue : ByteArray) (eCmdOld : ByteArray) (b : Nat) (H10 : Hp) (Q : Value → Hp → Prop) : vSeg Try.prog state_Apply.cf J state_Apply.fn [1, 1, 1] [0, 3, 3] Q (state_Apply.k2.st eIndex eTerm eCmdOp eCmdClient eCmdSeq eCmdKey eCmdValue eCmdOld b H10) = state_Apply.k2.body J eIndex eTerm eCmdOp eCmdClient eCmdSeq eCmdKey eCmdValue eCmdOld b H10 Q := by kernel_rfl
theorem state_Apply.k2.step {eIndex : Int} {eTerm : Int} {eCmdOp : Int} {eCmdClient : Int} {eCmdSeq : Int} {eCmdKey : ByteArray} {eCmdValue : ByteArray} {eCmdOld : ByteArray} {b : Nat} {H10 : Hp} {Q : Value → Hp → Prop} (h : state_Apply.k2.body J0 eIndex eTerm eCmdOp eCmdClient eCmdSeq eCmdKey eCmdValue eCmdOld b H10 Q) : state_Apply.k2 J0 eIndex eTerm eCmdOp eCmdClient eCmdSeq eCmdKey eCmdValue eCmdOld b H10 Q := step_of (vSeg Try.prog state_Apply.cf J0 state_Apply.fn [1, 1, 1] [0, 3, 3] Q) (state_Apply.k2.st eIndex eTerm eCmdOp eCmdClient eCmdSeq eCmdKey eCmdValue eCmdOld b H10) (state_Apply.k2.eq J0 eIndex eTerm eCmdOp eCmdClient eCmdSeq eCmdKey eCmdValue eCmdOld b H10 Q) (by kernel_rfl) h
noncomputable def state_Apply.k3.body (J : Jn) (eIndex : Int) (eTerm : Int) (eCmdOp : Int) (eCmdClient : Int) (eCmdSeq : Int) (eCmdKey : ByteArray) (eCmdValue : ByteArray) (eCmdOld : ByteArray) (b : Nat) (x2 : Option Addr) (Client : Int) (Seq : Int) (ReplyErr : Int) (ReplyValue : ByteArray) (H13 : Hp) (x4 : Bool) (Q : Value → Hp → Prop) : Prop :=
 
 Br x4 (
 Br (Seq == eCmdSeq) (∃ Index5 : Int, ∃ Term5 : Int, ∃ Pairs4 : Sl, ∃ Sessions4 : Sl, RowAt H13 (Addr.mk b 0 none) [.int .i64 Index5, .int .i64 Term5, .slice Pairs4.a Pairs4.len Pairs4.cap, .slice Sessions4.a Sessions4.len Sessions4.cap] ∧ 
  (Q (.tuple #[.agg #[.int .i64 Index5, .int .i64 Term5, .slice Pairs4.a Pairs4.len Pairs4.cap, .slice Sessions4.a Sessions4.len Sessions4.cap], .agg #[.int .i64 ReplyErr, .string ReplyValue]]) H13) ∧ 
  (Q (.tuple #[.agg #[.int .i64 Index5, .int .i64 Term5, .slice Pairs4.a Pairs4.len Pairs4.cap, .slice Sessions4.a Sessions4.len Sessions4.cap], .agg #[.int .i64 ReplyErr, .string ReplyValue]]) H13))
 (∃ Index6 : Int, ∃ Term6 : Int, ∃ Pairs5 : Sl, ∃ Sessions5 : Sl, RowAt H13 (Addr.mk b 0 none) [.int .i64 Index6, .int .i64 Term6, .slice Pairs5.a Pairs5.len Pairs5.cap, .slice Sessions5.a Sessions5.len Sessions5.cap] ∧ Q (.tuple #[.agg #[.int .i64 Index6, .int .i64 Term6, .slice Pairs5.a Pairs5.len Pairs5.cap, .slice Sessions5.a Sessions5.len Sessions5.cap], .agg #[.int .i64 12, .string (ByteArray.mk #[])]]) H13))
 (∃ Index7 : Int, ∃ Term7 : Int, ∃ Pairs6 : Sl, ∃ Sessions6 : Sl, RowAt H13 (Addr.mk b 0 none) [.int .i64 Index7, .int .i64 Term7, .slice Pairs6.a Pairs6.len Pairs6.cap, .slice Sessions6.a Sessions6.len Sessions6.cap] ∧ 
 SCalls Try.prog state_pairs.id [.agg #[.int .i64 Index7, .int .i64 Term7, .slice Pairs6.a Pairs6.len Pairs6.cap, .slice Sessions6.a Sessions6.len Sessions6.cap]] H13 (fun r3 H14 => ∃ x5 : Option Addr, r3 = .pointer x5 ∧ 
 SCalls Try.prog state_do.id [.pointer x5, .agg #[.int .i64 eCmdOp, .int .i64 eCmdClient, .int .i64 eCmdSeq, .string eCmdKey, .string eCmdValue, .string eCmdOld]] H14 (fun r4 H15 => ∃ Err : Int, ∃ Valuev : ByteArray, r4 = .agg #[.int .i64 Err, .string Valuev] ∧ ∀ H16 : Hp, H16 = (holes H15 1) → 
 SCalls Try.prog state_rows.id [.pointer x5] H16 (fun r5 H17 => ∃ x6 : Sl, r5 = .slice x6.a x6.len x6.cap ∧ WrAt H17 ((Addr.mk b 0 none).add 2) 1 ∧ ∀ H18 : Hp, H18 = (Hp.setCell H17 ((Addr.mk b 0 none).add 2) (.slice x6.a x6.len x6.cap)) → 
 SCalls Try.prog sorted_Map_int_api_Session_Put.id [.pointer x2, .int .i64 eCmdClient, .agg #[.int .i64 eCmdClient, .int .i64 eCmdSeq, .int .i64 Err, .string Valuev]] H18 (fun r6 H19 => ∃ x7 : Bool, r6 = .bool x7 ∧ WrAt H19 ((Addr.mk b 0 none).add 3) 1 ∧ ∀ H20 : Hp, H20 = (Hp.setCell H19 ((Addr.mk b 0 none).add 3) (.slice none 0 0)) → 
 SCalls Try.prog sorted_Map_int_api_Session_All.id [.pointer x2] H20 (fun r7 H21 => ∃ x8 : Fv, r7 = .func x8.fn x8.fi x8.ca ∧ 
 ∀ fn : FuncId, ∀ tm : Array Value, TmOf (state_Apply.r1.fr b) tm → vRg Try.prog (.func x8.fn x8.fi x8.ca) (Array.size H21 + 1) (Array.push (Array.push H21 hole) (state_Apply.r1.rec fn tm (Array.size H21) .ready none)) (fun H28 => ∃ st : LoopState, ∃ pd : Option Code, H28[(Array.size H21 + 1)]? = some (state_Apply.r1.rec fn tm (Array.size H21) st pd) ∧ st ≠ .busy ∧ ∀ H29 : Hp, H29 = (Array.setIfInBounds H28 (Array.size H21 + 1) (state_Apply.r1.rec fn tm (Array.size H21) .exhausted pd)) → ((pd = none → ∃ Index8 : Int, ∃ Term8 : Int, ∃ Pairs7 : Sl, ∃ Sessions8 : Sl, RowAt H29 (Addr.mk b 0 none) [.int .i64 Index8, .int .i64 Term8, .slice Pairs7.a Pairs7.len Pairs7.cap, .slice Sessions8.a Sessions8.len Sessions8.cap] ∧ 
  (Q (.tuple #[.agg #[.int .i64 Index8, .int .i64 Term8, .slice Pairs7.a Pairs7.len Pairs7.cap, .slice Sessions8.a Sessions8.len Sessions8.cap], .agg #[.int .i64 Err, .string Valuev]]) H29) ∧ 
  (Q (.tuple #[.agg #[.int .i64 Index8, .int .i64 Term8, .slice Pairs7.a Pairs7.len Pairs7.cap, .slice Sessions8.a Sessions8.len Sessions8.cap], .agg #[.int .i64 Err, .string Valuev]]) H29)) ∧ (pd = some .ret → Q (.tuple #[.agg #[.int .i64 0, .int .i64 0, .slice none 0 0, .slice none 0 0], .agg #[.int .i64 0, .string (ByteArray.mk #[])]]) H29) ∧ (True) ∧ (pd = none ∨ pd = some .ret ∨ ∃ i ∈ ([] : List Nat), pd = some (.exit i))))))))))
theorem state_Apply.k3.eq (J : Jn) (eIndex : Int) (eTerm : Int) (eCmdOp : Int) (eCmdClient : Int) (eCmdSeq : Int) (eCmdKey : ByteArray) (eCmdValue : ByteArray) (eCmdOld : ByteArray) (b : Nat) (x2 : Option Addr) (Client : Int) (Seq : Int) (ReplyErr : Int) (ReplyValue : ByteArray) (H13 : Hp) (x4 : Bool) (Q : Value → Hp → Prop) : vSeg Try.prog state_Apply.cf J state_Apply.fn [1, 1, 1, 1, 1, 0, 1, 1] [0, 3, 3, 3, 3, 3, 3, 4] Q (state_Apply.k3.st eIndex eTerm eCmdOp eCmdClient eCmdSeq eCmdKey eCmdValue eCmdOld b x2 Client Seq ReplyErr ReplyValue H13 x4) = state_Apply.k3.body J eIndex eTerm eCmdOp eCmdClient eCmdSeq eCmdKey eCmdValue eCmdOld b x2 Client Seq ReplyErr ReplyValue H13 x4 Q := by kernel_rfl
theorem state_Apply.k3.step {eIndex : Int} {eTerm : Int} {eCmdOp : Int} {eCmdClient : Int} {eCmdSeq : Int} {eCmdKey : ByteArray} {eCmdValue : ByteArray} {eCmdOld : ByteArray} {b : Nat} {x2 : Option Addr} {Client : Int} {Seq : Int} {ReplyErr : Int} {ReplyValue : ByteArray} {H13 : Hp} {x4 : Bool} {Q : Value → Hp → Prop} (h : state_Apply.k3.body J0 eIndex eTerm eCmdOp eCmdClient eCmdSeq eCmdKey eCmdValue eCmdOld b x2 Client Seq ReplyErr ReplyValue H13 x4 Q) : state_Apply.k3 J0 eIndex eTerm eCmdOp eCmdClient eCmdSeq eCmdKey eCmdValue eCmdOld b x2 Client Seq ReplyErr ReplyValue H13 x4 Q := step_of (vSeg Try.prog state_Apply.cf J0 state_Apply.fn [1, 1, 1, 1, 1, 0, 1, 1] [0, 3, 3, 3, 3, 3, 3, 4] Q) (state_Apply.k3.st eIndex eTerm eCmdOp eCmdClient eCmdSeq eCmdKey eCmdValue eCmdOld b x2 Client Seq ReplyErr ReplyValue H13 x4) (state_Apply.k3.eq J0 eIndex eTerm eCmdOp eCmdClient eCmdSeq eCmdKey eCmdValue eCmdOld b x2 Client Seq ReplyErr ReplyValue H13 x4 Q) (by kernel_rfl) h
noncomputable def state_Apply.r1.body (J : Jn) (b : Nat) (l : Nat) (rc : LoopState → Option Code → Obj) (k : Int) (vClient : Int) (vSeq : Int) (vReplyErr : Int) (vReplyValue : ByteArray) (H22 : Hp) (Q : Value → Hp → Prop) : Prop :=
 ∀ H23 : Hp, H23 = (holes H22 1) → H23[l]? = some (rc .ready none) ∧ ∀ H24 : Hp, H24 = (Array.setIfInBounds H23 l (rc .busy none)) → ∃ Sessions7 : Sl, Hp.cell? H24 ((Addr.mk b 0 none).add 3) = some (.slice Sessions7.a Sessions7.len Sessions7.cap) ∧ ∀ b1 : Nat, b1 = Array.size H24 → ∀ H25 : Hp, H25 = (Array.push H24 (.cells #[.int .i64 vClient, .int .i64 vSeq, .int .i64 vReplyErr, .string vReplyValue] T_api_Session)) → 
 vApp Try.prog T_sl_api_Session Sessions7.a Sessions7.len Sessions7.cap (.slice (some (Addr.mk b1 0 none)) 1 1) H25 (fun ap H26 => WrAt H26 ((Addr.mk b 0 none).add 3) 1 ∧ ∀ H27 : Hp, H27 = (Hp.setCell H26 ((Addr.mk b 0 none).add 3) (.slice ap.a ap.len ap.cap)) → 
 ((∃ st : LoopState, ∃ pd : Option Code, H27[l]? = some (rc st pd)) ∧ Q (.bool true) (Array.setIfInBounds H27 l (rc .ready none))))
theorem state_Apply.r1.eq (J : Jn) (b : Nat) (l : Nat) (rc : LoopState → Option Code → Obj) (k : Int) (vClient : Int) (vSeq : Int) (vReplyErr : Int) (vReplyValue : ByteArray) (H22 : Hp) (Q : Value → Hp → Prop) : vRound Try.prog state_Apply.cfr J (rgA state_Apply.r1.code) (rgB state_Apply.r1.code) (setFr (state_Apply.r1.fr b) (rgP state_Apply.r1.code).toList [.int .i64 k, .agg #[.int .i64 vClient, .int .i64 vSeq, .int .i64 vReplyErr, .string vReplyValue]]) l rc H22 Q = state_Apply.r1.body J b l rc k vClient vSeq vReplyErr vReplyValue H22 Q := by kernel_rfl
theorem state_Apply.r1.calls {b : Nat} {l : Nat} {k : Int} {vClient : Int} {vSeq : Int} {vReplyErr : Int} {vReplyValue : ByteArray} {H22 : Hp} {fnA : FuncId} {tmA : Array Value} {dA : Nat} {Q : Value → Hp → Prop} (hl : H22[l]? = some (state_Apply.r1.rec fnA tmA dA .ready none)) (hT : TmOf (state_Apply.r1.fr b) tmA) (h : state_Apply.r1.body J0 b l (state_Apply.r1.rec fnA tmA dA) k vClient vSeq vReplyErr vReplyValue H22 Q) : YCalls Try.prog l [.int .i64 k, .agg #[.int .i64 vClient, .int .i64 vSeq, .int .i64 vReplyErr, .string vReplyValue]] H22 Q := vRound_calls (cf := state_Apply.cfr) (fn := fnA) (tm := tmA) (ps := rgP state_Apply.r1.code) (asg := rgA state_Apply.r1.code) (body := rgB state_Apply.r1.code) (d := dA) (fr := (state_Apply.r1.fr b)) Try.mixed (by kernel_rfl) hl (by kernel_rfl) hT ((state_Apply.r1.eq J0 b l (state_Apply.r1.rec fnA tmA dA) k vClient vSeq vReplyErr vReplyValue H22 Q).mpr h)
attribute [irreducible] state_Apply.r1.rec state_Apply.r1.fr state_Apply.r1.code
noncomputable def state_Apply.vc (J : Jn) (sIndex : Int) (sTerm : Int) (sPairs : Sl) (sSessions : Sl) (eIndex : Int) (eTerm : Int) (eCmdOp : Int) (eCmdClient : Int) (eCmdSeq : Int) (eCmdKey : ByteArray) (eCmdValue : ByteArray) (eCmdOld : ByteArray) (H : Hp) (Q : Value → Hp → Prop) : Prop :=
 ∀ b : Nat, b = Array.size H → ∀ H1 : Hp, H1 = (Array.push H (.cells #[.int .i64 sIndex, .int .i64 sTerm, .slice sPairs.a sPairs.len sPairs.cap, .slice sSessions.a sSessions.len sSessions.cap] T_api_State)) → ∀ H2 : Hp, H2 = (holes H1 1) → ∀ H3 : Hp, H3 = (holes H2 1) → ∀ H4 : Hp, H4 = (holes H3 1) → 
 SCalls Try.prog cmds_Right.id [.agg #[.int .i64 eIndex, .int .i64 eTerm, .int .i64 eCmdOp, .int .i64 eCmdClient, .int .i64 eCmdSeq, .string eCmdKey, .string eCmdValue, .string eCmdOld]] H4 (fun r H5 => ∃ x : Bool, r = .bool x ∧ 
 Br (!x) (∃ Index : Int, ∃ Term : Int, ∃ Pairs : Sl, ∃ Sessions : Sl, RowAt H5 (Addr.mk b 0 none) [.int .i64 Index, .int .i64 Term, .slice Pairs.a Pairs.len Pairs.cap, .slice Sessions.a Sessions.len Sessions.cap] ∧ Q (.tuple #[.agg #[.int .i64 Index, .int .i64 Term, .slice Pairs.a Pairs.len Pairs.cap, .slice Sessions.a Sessions.len Sessions.cap], .agg #[.int .i64 14, .string (ByteArray.mk #[])]]) H5)
 (∃ Index1 : Int, Hp.cell? H5 (Addr.mk b 0 none) = some (.int .i64 Index1) ∧ 
 Br (eIndex != (w64 (Index1 + 1))) (
 state_Apply.k1 J eIndex eTerm eCmdOp eCmdClient eCmdSeq eCmdKey eCmdValue eCmdOld b H5 true Q)
 (∃ Term1 : Int, Hp.cell? H5 ((Addr.mk b 0 none).add 1) = some (.int .i64 Term1) ∧ 
 state_Apply.k1 J eIndex eTerm eCmdOp eCmdClient eCmdSeq eCmdKey eCmdValue eCmdOld b H5 (decide (eTerm < Term1)) Q)))
theorem state_Apply.eq (J : Jn) (sIndex : Int) (sTerm : Int) (sPairs : Sl) (sSessions : Sl) (eIndex : Int) (eTerm : Int) (eCmdOp : Int) (eCmdClient : Int) (eCmdSeq : Int) (eCmdKey : ByteArray) (eCmdValue : ByteArray) (eCmdOld : ByteArray) (H : Hp) (Q : Value → Hp → Prop) : vFn Try.prog state_Apply.cf J state_Apply.fn [.agg #[.int .i64 sIndex, .int .i64 sTerm, .slice sPairs.a sPairs.len sPairs.cap, .slice sSessions.a sSessions.len sSessions.cap], .agg #[.int .i64 eIndex, .int .i64 eTerm, .int .i64 eCmdOp, .int .i64 eCmdClient, .int .i64 eCmdSeq, .string eCmdKey, .string eCmdValue, .string eCmdOld]] H Q = state_Apply.vc J sIndex sTerm sPairs sSessions eIndex eTerm eCmdOp eCmdClient eCmdSeq eCmdKey eCmdValue eCmdOld H Q := by kernel_rfl
theorem state_Apply.calls {sIndex : Int} {sTerm : Int} {sPairs : Sl} {sSessions : Sl} {eIndex : Int} {eTerm : Int} {eCmdOp : Int} {eCmdClient : Int} {eCmdSeq : Int} {eCmdKey : ByteArray} {eCmdValue : ByteArray} {eCmdOld : ByteArray} {H : Hp} {Q : Value → Hp → Prop} (h : state_Apply.vc J0 sIndex sTerm sPairs sSessions eIndex eTerm eCmdOp eCmdClient eCmdSeq eCmdKey eCmdValue eCmdOld H Q) : SCalls Try.prog state_Apply.id [.agg #[.int .i64 sIndex, .int .i64 sTerm, .slice sPairs.a sPairs.len sPairs.cap, .slice sSessions.a sSessions.len sSessions.cap], .agg #[.int .i64 eIndex, .int .i64 eTerm, .int .i64 eCmdOp, .int .i64 eCmdClient, .int .i64 eCmdSeq, .string eCmdKey, .string eCmdValue, .string eCmdOld]] H Q := vFn_of Try.mixed Try.func24 (state_Apply.eq J0 sIndex sTerm sPairs sSessions eIndex eTerm eCmdOp eCmdClient eCmdSeq eCmdKey eCmdValue eCmdOld H Q) h

/-! 25: (*tephra/sorted.Map_int, int_).find -/
noncomputable def sorted_Map_int_int_find.cf : Cfg := ⟨[], [], [], [], true⟩
noncomputable def sorted_Map_int_int_find.vc (J : Jn) (m : Addr) (k : Int) (H : Hp) (Q : Value → Hp → Prop) : Prop :=
 ∃ items : Sl, Hp.cell? H m = some (.slice items.a items.len items.cap) ∧ 
 SCalls Try.prog slices_BinarySearchFunc_sl_sorted_item_int_int_sorted_item_int_int_int.id [.slice items.a items.len items.cap, .int .i64 k, .func (.func 39) #[] #[]] H (fun r H1 => ∃ x : Int, ∃ x1 : Bool, r = .tuple #[.int .i64 x, .bool x1] ∧ Q (.tuple #[.int .i64 x, .bool x1]) H1)
theorem sorted_Map_int_int_find.eq (J : Jn) (m : Addr) (k : Int) (H : Hp) (Q : Value → Hp → Prop) : vFn Try.prog sorted_Map_int_int_find.cf J sorted_Map_int_int_find.fn [.pointer (some m), .int .i64 k] H Q = sorted_Map_int_int_find.vc J m k H Q := by kernel_rfl
theorem sorted_Map_int_int_find.calls {m : Addr} {k : Int} {H : Hp} {Q : Value → Hp → Prop} (h : sorted_Map_int_int_find.vc J0 m k H Q) : SCalls Try.prog sorted_Map_int_int_find.id [.pointer (some m), .int .i64 k] H Q := vFn_of Try.mixed Try.func25 (sorted_Map_int_int_find.eq J0 m k H Q) h

/-! 26: slices.Insert___tephra/sorted.item_int, int_,tephra/sorted.item_int, int__ -/
noncomputable def slices_Insert_sl_sorted_item_int_int_sorted_item_int_int.cf : Cfg := ⟨[], [], [], [], true⟩
noncomputable def slices_Insert_sl_sorted_item_int_int_sorted_item_int_int.vc (J : Jn) (s : Sl) (i : Int) (v : Sl) (H : Hp) (Q : Value → Hp → Prop) : Prop :=
 ((0 : Int) ≤ i ∧ i ≤ ((s.len : Nat) : Int)) ∧ 
 Br (((v.len : Nat) : Int) == 0) (Q (.slice s.a s.len s.cap) H)
 (
 Br (i == ((s.len : Nat) : Int)) (
 vApp Try.prog T_sl_sorted_item_int_int s.a s.len s.cap (.slice v.a v.len v.cap) H (fun ap H1 => Q (.slice ap.a ap.len ap.cap) H1))
 (
 Br (decide ((w64 (((s.len : Nat) : Int) + ((v.len : Nat) : Int))) > ((s.cap : Nat) : Int))) (((0 : Int) ≤ i ∧ i ≤ ((s.cap : Nat) : Int)) ∧ 
 vAppZ Try.prog T_sl_sorted_item_int_int (cutA s.a s.cap 0 2) ((i : Int).toNat) s.cap (w64 ((w64 (((s.len : Nat) : Int) + ((v.len : Nat) : Int))) - i)) H (fun ap1 H2 => ((0 : Int) ≤ i ∧ i ≤ ((ap1.len : Nat) : Int)) ∧ 
 vCopy Try.prog T_sl_sorted_item_int_int (cutA ap1.a ap1.cap ((i : Int).toNat) 2) (ap1.len - ((i : Int).toNat)) (.slice v.a v.len v.cap) H2 (fun n H3 => ((0 : Int) ≤ (w64 (i + ((v.len : Nat) : Int))) ∧ (w64 (i + ((v.len : Nat) : Int))) ≤ ((ap1.len : Nat) : Int)) ∧ ((0 : Int) ≤ i ∧ i ≤ ((s.len : Nat) : Int)) ∧ 
 vCopy Try.prog T_sl_sorted_item_int_int (cutA ap1.a ap1.cap (((w64 (i + ((v.len : Nat) : Int))) : Int).toNat) 2) (ap1.len - (((w64 (i + ((v.len : Nat) : Int))) : Int).toNat)) (.slice (cutA s.a s.cap ((i : Int).toNat) 2) (s.len - ((i : Int).toNat)) (s.cap - ((i : Int).toNat))) H3 (fun n1 H4 => Q (.slice ap1.a ap1.len ap1.cap) H4))))
 (((0 : Int) ≤ (w64 (((s.len : Nat) : Int) + ((v.len : Nat) : Int))) ∧ (w64 (((s.len : Nat) : Int) + ((v.len : Nat) : Int))) ≤ ((s.cap : Nat) : Int)) ∧ ((0 : Int) ≤ (w64 (i + ((v.len : Nat) : Int))) ∧ (w64 (i + ((v.len : Nat) : Int))) ≤ (((((w64 (((s.len : Nat) : Int) + ((v.len : Nat) : Int))) : Int).toNat) : Nat) : Int)) ∧ 
 ExtC Try.prog 41 [.slice v.a v.len v.cap, .slice (cutA (cutA s.a s.cap 0 2) s.cap (((w64 (i + ((v.len : Nat) : Int))) : Int).toNat) 2) ((((w64 (((s.len : Nat) : Int) + ((v.len : Nat) : Int))) : Int).toNat) - (((w64 (i + ((v.len : Nat) : Int))) : Int).toNat)) (s.cap - (((w64 (i + ((v.len : Nat) : Int))) : Int).toNat))] H (fun r H5 => ∃ x : Bool, r = .bool x ∧ 
 Br (!x) (((0 : Int) ≤ (w64 (i + ((v.len : Nat) : Int))) ∧ (w64 (i + ((v.len : Nat) : Int))) ≤ (((((w64 (((s.len : Nat) : Int) + ((v.len : Nat) : Int))) : Int).toNat) : Nat) : Int)) ∧ ((0 : Int) ≤ i ∧ i ≤ (((((w64 (((s.len : Nat) : Int) + ((v.len : Nat) : Int))) : Int).toNat) : Nat) : Int)) ∧ 
 vCopy Try.prog T_sl_sorted_item_int_int (cutA (cutA s.a s.cap 0 2) s.cap (((w64 (i + ((v.len : Nat) : Int))) : Int).toNat) 2) ((((w64 (((s.len : Nat) : Int) + ((v.len : Nat) : Int))) : Int).toNat) - (((w64 (i + ((v.len : Nat) : Int))) : Int).toNat)) (.slice (cutA (cutA s.a s.cap 0 2) s.cap ((i : Int).toNat) 2) ((((w64 (((s.len : Nat) : Int) + ((v.len : Nat) : Int))) : Int).toNat) - ((i : Int).toNat)) (s.cap - ((i : Int).toNat))) H5 (fun n2 H6 => ((0 : Int) ≤ i ∧ i ≤ (((((w64 (((s.len : Nat) : Int) + ((v.len : Nat) : Int))) : Int).toNat) : Nat) : Int)) ∧ 
 vCopy Try.prog T_sl_sorted_item_int_int (cutA (cutA s.a s.cap 0 2) s.cap ((i : Int).toNat) 2) ((((w64 (((s.len : Nat) : Int) + ((v.len : Nat) : Int))) : Int).toNat) - ((i : Int).toNat)) (.slice v.a v.len v.cap) H6 (fun n3 H7 => Q (.slice (cutA s.a s.cap 0 2) (((w64 (((s.len : Nat) : Int) + ((v.len : Nat) : Int))) : Int).toNat) s.cap) H7)))
 (((0 : Int) ≤ ((s.len : Nat) : Int) ∧ ((s.len : Nat) : Int) ≤ (((((w64 (((s.len : Nat) : Int) + ((v.len : Nat) : Int))) : Int).toNat) : Nat) : Int)) ∧ 
 vCopy Try.prog T_sl_sorted_item_int_int (cutA (cutA s.a s.cap 0 2) s.cap ((((s.len : Nat) : Int) : Int).toNat) 2) ((((w64 (((s.len : Nat) : Int) + ((v.len : Nat) : Int))) : Int).toNat) - ((((s.len : Nat) : Int) : Int).toNat)) (.slice v.a v.len v.cap) H5 (fun n4 H8 => ((0 : Int) ≤ i ∧ i ≤ (((((w64 (((s.len : Nat) : Int) + ((v.len : Nat) : Int))) : Int).toNat) : Nat) : Int)) ∧ 
 SCalls Try.prog slices_rotateRight_sorted_item_int_int.id [.slice (cutA (cutA s.a s.cap 0 2) s.cap ((i : Int).toNat) 2) ((((w64 (((s.len : Nat) : Int) + ((v.len : Nat) : Int))) : Int).toNat) - ((i : Int).toNat)) (s.cap - ((i : Int).toNat)), .int .i64 ((v.len : Nat) : Int)] H8 (fun r1 H9 => r1 = .tuple #[] ∧ Q (.slice (cutA s.a s.cap 0 2) (((w64 (((s.len : Nat) : Int) + ((v.len : Nat) : Int))) : Int).toNat) s.cap) H9)))))))
theorem slices_Insert_sl_sorted_item_int_int_sorted_item_int_int.eq (J : Jn) (s : Sl) (i : Int) (v : Sl) (H : Hp) (Q : Value → Hp → Prop) : vFn Try.prog slices_Insert_sl_sorted_item_int_int_sorted_item_int_int.cf J slices_Insert_sl_sorted_item_int_int_sorted_item_int_int.fn [.slice s.a s.len s.cap, .int .i64 i, .slice v.a v.len v.cap] H Q = slices_Insert_sl_sorted_item_int_int_sorted_item_int_int.vc J s i v H Q := by kernel_rfl
theorem slices_Insert_sl_sorted_item_int_int_sorted_item_int_int.calls {s : Sl} {i : Int} {v : Sl} {H : Hp} {Q : Value → Hp → Prop} (h : slices_Insert_sl_sorted_item_int_int_sorted_item_int_int.vc J0 s i v H Q) : SCalls Try.prog slices_Insert_sl_sorted_item_int_int_sorted_item_int_int.id [.slice s.a s.len s.cap, .int .i64 i, .slice v.a v.len v.cap] H Q := vFn_of Try.mixed Try.func26 (slices_Insert_sl_sorted_item_int_int_sorted_item_int_int.eq J0 s i v H Q) h

/-! 27: (*tephra/pack.Writer).Num -/
noncomputable def pack_Writer_Num.cf : Cfg := ⟨[], [(2, [0, 1, 5])], [], [], true⟩
noncomputable def pack_Writer_Num.l1.st (w : Addr) (n : Int) (H1 : Hp) (k : Int) : VS := ⟨mkFr 25 [(0, .v (.pointer (some w))), (1, .v (.int .i64 n)), (5, .v (.int .i64 k))], [], H1⟩
noncomputable def pack_Writer_Num.l1 (J : Jn) (w : Addr) (n : Int) (H1 : Hp) (k : Int) (Q : Value → Hp → Prop) : Prop := vAt Try.prog pack_Writer_Num.cf J pack_Writer_Num.fn [1, 0, 1, 0] [0, 0, 0] Q (pack_Writer_Num.l1.st w n H1 k)
attribute [irreducible] pack_Writer_Num.l1
noncomputable def pack_Writer_Num.l1.body (J : Jn) (w : Addr) (n : Int) (H1 : Hp) (k : Int) (Q : Value → Hp → Prop) : Prop :=
 
 Br (decide (k ≥ 0)) (∃ b : Sl, Hp.cell? H1 w = some (.slice b.a b.len b.cap) ∧ (0 : Int) ≤ (w64 ((8 : Int) * k)) ∧ 
 vApp Try.prog T_sl_uint8 b.a b.len b.cap (.slice (some (Addr.mk (Array.size H1) 0 none)) 1 1) (Array.push H1 (.cells #[.int .u8 (IntKind.u8.wrap ((Int.fdiv n (2 ^ (min ((w64 ((8 : Int) * k)) : Int).toNat 64)))))] T_uint8)) (fun ap H2 => WrAt H2 w 1 ∧ 
 pack_Writer_Num.l1 J w n (Hp.setCell H2 w (.slice ap.a ap.len ap.cap)) (w64 (k - 1)) Q))
 (Q (.pointer (some w)) H1)
theorem pack_Writer_Num.l1.eq (J : Jn) (w : Addr) (n : Int) (H1 : Hp) (k : Int) (Q : Value → Hp → Prop) : vAtBody Try.prog pack_Writer_Num.cf J pack_Writer_Num.fn [1, 0, 1, 0] [0, 0, 0] Q (pack_Writer_Num.l1.st w n H1 k) = pack_Writer_Num.l1.body J w n H1 k Q := by kernel_rfl
theorem pack_Writer_Num.l1.step {w : Addr} {n : Int} {H1 : Hp} {k : Int} {Q : Value → Hp → Prop} (h : pack_Writer_Num.l1.body J0 w n H1 k Q) : pack_Writer_Num.l1 J0 w n H1 k Q := vAt_stepC (pack_Writer_Num.l1.st w n H1 k) (pack_Writer_Num.l1.eq J0 w n H1 k Q) (by kernel_rfl) h
noncomputable def pack_Writer_Num.vc (J : Jn) (w : Addr) (n : Int) (H : Hp) (Q : Value → Hp → Prop) : Prop :=
 
 pack_Writer_Num.l1 J w n H 7 Q
theorem pack_Writer_Num.eq (J : Jn) (w : Addr) (n : Int) (H : Hp) (Q : Value → Hp → Prop) : vFn Try.prog pack_Writer_Num.cf J pack_Writer_Num.fn [.pointer (some w), .int .i64 n] H Q = pack_Writer_Num.vc J w n H Q := by kernel_rfl
theorem pack_Writer_Num.calls {w : Addr} {n : Int} {H : Hp} {Q : Value → Hp → Prop} (h : pack_Writer_Num.vc J0 w n H Q) : SCalls Try.prog pack_Writer_Num.id [.pointer (some w), .int .i64 n] H Q := vFn_of Try.mixed Try.func27 (pack_Writer_Num.eq J0 w n H Q) h

/-! 28: tephra/state.PutRows -/
noncomputable def state_PutRows.cf : Cfg := ⟨[7, 10, 1000003], [(2, [0, 2, 15, 16, 17]), (11, [0, 37, 38, 39])], [(7, [0, 2, 7, 8, 15, 16, 17], true)], [], true⟩
noncomputable def state_PutRows.l1.st (w : Addr) (ps : Sl) (xs : Sl) (H2 : Hp) (x1 : Int) : VS := ⟨mkFr 59 [(0, .v (.pointer (some w))), (2, .v (.slice xs.a xs.len xs.cap)), (15, .v (.slice ps.a ps.len ps.cap)), (16, .v (.int .i64 ((ps.len : Nat) : Int))), (17, .v (.int .i64 x1))], [], H2⟩
noncomputable def state_PutRows.l1 (J : Jn) (w : Addr) (ps : Sl) (xs : Sl) (H2 : Hp) (x1 : Int) (Q : Value → Hp → Prop) : Prop := vAt Try.prog state_PutRows.cf J state_PutRows.fn [1, 0, 1, 0] [0, 0, 0] Q (state_PutRows.l1.st w ps xs H2 x1)
noncomputable def state_PutRows.k1.st (w : Addr) (ps : Sl) (xs : Sl) (x1 : Int) (Key : ByteArray) (Valuev : ByteArray) (Gone : Bool) (H3 : Hp) (gone : Int) : VS := ⟨mkFr 59 [(0, .v (.pointer (some w))), (2, .v (.slice xs.a xs.len xs.cap)), (7, .loc 0 0), (8, .v (.int .u8 gone)), (15, .v (.slice ps.a ps.len ps.cap)), (16, .v (.int .i64 ((ps.len : Nat) : Int))), (17, .v (.int .i64 x1))], [(T_api_Pair, [.string Key, .string Valuev, .bool Gone])], H3⟩
noncomputable def state_PutRows.k1 (J : Jn) (w : Addr) (ps : Sl) (xs : Sl) (x1 : Int) (Key : ByteArray) (Valuev : ByteArray) (Gone : Bool) (H3 : Hp) (gone : Int) (Q : Value → Hp → Prop) : Prop := J (vSeg Try.prog state_PutRows.cf J state_PutRows.fn [1, 0, 1, 0, 0, 1, 1, 0, 0, 1, 1, 1] [0, 0, 0, 0, 0, 0, 0, 0, 1, 1] Q) (state_PutRows.k1.st w ps xs x1 Key Valuev Gone H3 gone)
noncomputable def state_PutRows.l2.st (w : Addr) (xs : Sl) (H8 : Hp) (x6 : Int) : VS := ⟨mkFr 59 [(0, .v (.pointer (some w))), (37, .v (.slice xs.a xs.len xs.cap)), (38, .v (.int .i64 ((xs.len : Nat) : Int))), (39, .v (.int .i64 x6))], [], H8⟩
noncomputable def state_PutRows.l2 (J : Jn) (w : Addr) (xs : Sl) (H8 : Hp) (x6 : Int) (Q : Value → Hp → Prop) : Prop := vAt Try.prog state_PutRows.cf J state_PutRows.fn [1, 1, 1, 1, 0] [0, 0, 0, 0] Q (state_PutRows.l2.st w xs H8 x6)
attribute [irreducible] state_PutRows.l1 state_PutRows.k1 state_PutRows.l2
noncomputable def state_PutRows.l1.body (J : Jn) (w : Addr) (ps : Sl) (xs : Sl) (H2 : Hp) (x1 : Int) (Q : Value → Hp → Prop) : Prop :=
 
 Br (decide (x1 < ((ps.len : Nat) : Int))) (((0 : Int) ≤ x1 ∧ x1 < ((ps.len : Nat) : Int)) ∧ vPtr ps.a (fun a => ∃ Key : ByteArray, ∃ Valuev : ByteArray, ∃ Gone : Bool, RowAt H2 (a.add ((x1 : Int).toNat * 3)) [.string Key, .string Valuev, .bool Gone] ∧ ∀ H3 : Hp, H3 = (holes H2 1) → 
 Br Gone (
 state_PutRows.k1 J w ps xs x1 Key Valuev Gone H3 1 Q)
 (
 state_PutRows.k1 J w ps xs x1 Key Valuev Gone H3 0 Q)))
 (
 SCalls Try.prog pack_Writer_Num.id [.pointer (some w), .int .i64 ((xs.len : Nat) : Int)] H2 (fun r4 H7 => ∃ x5 : Option Addr, r4 = .pointer x5 ∧ 
 state_PutRows.l2 J w xs H7 0 Q))
theorem state_PutRows.l1.eq (J : Jn) (w : Addr) (ps : Sl) (xs : Sl) (H2 : Hp) (x1 : Int) (Q : Value → Hp → Prop) : vAtBody Try.prog state_PutRows.cf J state_PutRows.fn [1, 0, 1, 0] [0, 0, 0] Q (state_PutRows.l1.st w ps xs H2 x1) = state_PutRows.l1.body J w ps xs H2 x1 Q := by kernel_rfl
theorem state_PutRows.l1.step {w : Addr} {ps : Sl} {xs : Sl} {H2 : Hp} {x1 : Int} {Q : Value → Hp → Prop} (h : state_PutRows.l1.body J0 w ps xs H2 x1 Q) : state_PutRows.l1 J0 w ps xs H2 x1 Q := vAt_stepC (state_PutRows.l1.st w ps xs H2 x1) (state_PutRows.l1.eq J0 w ps xs H2 x1 Q) (by kernel_rfl) h
noncomputable def state_PutRows.k1.body (J : Jn) (w : Addr) (ps : Sl) (xs : Sl) (x1 : Int) (Key : ByteArray) (Valuev : ByteArray) (Gone : Bool) (H3 : Hp) (gone : Int) (Q : Value → Hp → Prop) : Prop :=
 
 SCalls Try.prog pack_Writer_Text.id [.pointer (some w), .string Key] H3 (fun r1 H4 => ∃ x2 : Option Addr, r1 = .pointer x2 ∧ 
 SCalls Try.prog pack_Writer_Text.id [.pointer x2, .string Valuev] H4 (fun r2 H5 => ∃ x3 : Option Addr, r2 = .pointer x3 ∧ 
 SCalls Try.prog pack_Writer_Byte.id [.pointer x3, .int .u8 gone] H5 (fun r3 H6 => ∃ x4 : Option Addr, r3 = .pointer x4 ∧ 
 state_PutRows.l1 J w ps xs H6 (w64 (x1 + 1)) Q)))
theorem state_PutRows.k1.eq (J : Jn) (w : Addr) (ps : Sl) (xs : Sl) (x1 : Int) (Key : ByteArray) (Valuev : ByteArray) (Gone : Bool) (H3 : Hp) (gone : Int) (Q : Value → Hp → Prop) : vSeg Try.prog state_PutRows.cf J state_PutRows.fn [1, 0, 1, 0, 0, 1, 1, 0, 0, 1, 1, 1] [0, 0, 0, 0, 0, 0, 0, 0, 1, 1] Q (state_PutRows.k1.st w ps xs x1 Key Valuev Gone H3 gone) = state_PutRows.k1.body J w ps xs x1 Key Valuev Gone H3 gone Q := by kernel_rfl
theorem state_PutRows.k1.step {w : Addr} {ps : Sl} {xs : Sl} {x1 : Int} {Key : ByteArray} {Valuev : ByteArray} {Gone : Bool} {H3 : Hp} {gone : Int} {Q : Value → Hp → Prop} (h : state_PutRows.k1.body J0 w ps xs x1 Key Valuev Gone H3 gone Q) : state_PutRows.k1 J0 w ps xs x1 Key Valuev Gone H3 gone Q := step_of (vSeg Try.prog state_PutRows.cf J0 state_PutRows.fn [1, 0, 1, 0, 0, 1, 1, 0, 0, 1, 1, 1] [0, 0, 0, 0, 0, 0, 0, 0, 1, 1] Q) (state_PutRows.k1.st w ps xs x1 Key Valuev Gone H3 gone) (state_PutRows.k1.eq J0 w ps xs x1 Key Valuev Gone H3 gone Q) (by kernel_rfl) h
noncomputable def state_PutRows.l2.body (J : Jn) (w : Addr) (xs : Sl) (H8 : Hp) (x6 : Int) (Q : Value → Hp → Prop) : Prop :=
 
 Br (decide (x6 < ((xs.len : Nat) : Int))) (((0 : Int) ≤ x6 ∧ x6 < ((xs.len : Nat) : Int)) ∧ vPtr xs.a (fun a1 => ∃ Client : Int, ∃ Seq : Int, ∃ ReplyErr : Int, ∃ ReplyValue : ByteArray, RowAt H8 (a1.add ((x6 : Int).toNat * 4)) [.int .i64 Client, .int .i64 Seq, .int .i64 ReplyErr, .string ReplyValue] ∧ ∀ H9 : Hp, H9 = (holes H8 1) → 
 SCalls Try.prog pack_Writer_Num.id [.pointer (some w), .int .i64 Client] H9 (fun r5 H10 => ∃ x7 : Option Addr, r5 = .pointer x7 ∧ 
 SCalls Try.prog pack_Writer_Num.id [.pointer x7, .int .i64 Seq] H10 (fun r6 H11 => ∃ x8 : Option Addr, r6 = .pointer x8 ∧ 
 SCalls Try.prog pack_Writer_Num.id [.pointer x8, .int .i64 ReplyErr] H11 (fun r7 H12 => ∃ x9 : Option Addr, r7 = .pointer x9 ∧ 
 SCalls Try.prog pack_Writer_Text.id [.pointer x9, .string ReplyValue] H12 (fun r8 H13 => ∃ x10 : Option Addr, r8 = .pointer x10 ∧ 
 state_PutRows.l2 J w xs H13 (w64 (x6 + 1)) Q))))))
 (Q (.tuple #[]) H8)
theorem state_PutRows.l2.eq (J : Jn) (w : Addr) (xs : Sl) (H8 : Hp) (x6 : Int) (Q : Value → Hp → Prop) : vAtBody Try.prog state_PutRows.cf J state_PutRows.fn [1, 1, 1, 1, 0] [0, 0, 0, 0] Q (state_PutRows.l2.st w xs H8 x6) = state_PutRows.l2.body J w xs H8 x6 Q := by kernel_rfl
theorem state_PutRows.l2.step {w : Addr} {xs : Sl} {H8 : Hp} {x6 : Int} {Q : Value → Hp → Prop} (h : state_PutRows.l2.body J0 w xs H8 x6 Q) : state_PutRows.l2 J0 w xs H8 x6 Q := vAt_stepC (state_PutRows.l2.st w xs H8 x6) (state_PutRows.l2.eq J0 w xs H8 x6 Q) (by kernel_rfl) h
noncomputable def state_PutRows.vc (J : Jn) (w : Addr) (ps : Sl) (xs : Sl) (H : Hp) (Q : Value → Hp → Prop) : Prop :=
 
 SCalls Try.prog pack_Writer_Num.id [.pointer (some w), .int .i64 ((ps.len : Nat) : Int)] H (fun r H1 => ∃ x : Option Addr, r = .pointer x ∧ 
 state_PutRows.l1 J w ps xs H1 0 Q)
theorem state_PutRows.eq (J : Jn) (w : Addr) (ps : Sl) (xs : Sl) (H : Hp) (Q : Value → Hp → Prop) : vFn Try.prog state_PutRows.cf J state_PutRows.fn [.pointer (some w), .slice ps.a ps.len ps.cap, .slice xs.a xs.len xs.cap] H Q = state_PutRows.vc J w ps xs H Q := by kernel_rfl
theorem state_PutRows.calls {w : Addr} {ps : Sl} {xs : Sl} {H : Hp} {Q : Value → Hp → Prop} (h : state_PutRows.vc J0 w ps xs H Q) : SCalls Try.prog state_PutRows.id [.pointer (some w), .slice ps.a ps.len ps.cap, .slice xs.a xs.len xs.cap] H Q := vFn_of Try.mixed Try.func28 (state_PutRows.eq J0 w ps xs H Q) h

/-! 29: (*tephra/pack.Writer).Bytes -/
noncomputable def pack_Writer_Bytes.cf : Cfg := ⟨[], [], [], [], true⟩
noncomputable def pack_Writer_Bytes.vc (J : Jn) (w : Addr) (H : Hp) (Q : Value → Hp → Prop) : Prop :=
 ∃ b : Sl, Hp.cell? H w = some (.slice b.a b.len b.cap) ∧ 
 vApp Try.prog T_sl_uint8 none 0 0 (.slice b.a b.len b.cap) H (fun ap H1 => Q (.slice ap.a ap.len ap.cap) H1)
theorem pack_Writer_Bytes.eq (J : Jn) (w : Addr) (H : Hp) (Q : Value → Hp → Prop) : vFn Try.prog pack_Writer_Bytes.cf J pack_Writer_Bytes.fn [.pointer (some w)] H Q = pack_Writer_Bytes.vc J w H Q := by kernel_rfl
theorem pack_Writer_Bytes.calls {w : Addr} {H : Hp} {Q : Value → Hp → Prop} (h : pack_Writer_Bytes.vc J0 w H Q) : SCalls Try.prog pack_Writer_Bytes.id [.pointer (some w)] H Q := vFn_of Try.mixed Try.func29 (pack_Writer_Bytes.eq J0 w H Q) h

/-! 30: tephra/cmds.Right -/
noncomputable def cmds_Right.cf : Cfg := ⟨[1], [], [], [(10, [1, 10]), (15, [1, 15]), (20, [1, 20])], true⟩
noncomputable def cmds_Right.k1.st (eIndex : Int) (eTerm : Int) (eCmdOp : Int) (eCmdClient : Int) (eCmdSeq : Int) (eCmdKey : ByteArray) (eCmdValue : ByteArray) (eCmdOld : ByteArray) (H : Hp) (x : Bool) : VS := ⟨mkFr 26 [(1, .loc 0 0), (10, .v (.bool x))], [(T_api_Entry, [.int .i64 eIndex, .int .i64 eTerm, .int .i64 eCmdOp, .int .i64 eCmdClient, .int .i64 eCmdSeq, .string eCmdKey, .string eCmdValue, .string eCmdOld])], (holes H 1)⟩
noncomputable def cmds_Right.k1 (J : Jn) (eIndex : Int) (eTerm : Int) (eCmdOp : Int) (eCmdClient : Int) (eCmdSeq : Int) (eCmdKey : ByteArray) (eCmdValue : ByteArray) (eCmdOld : ByteArray) (H : Hp) (x : Bool) (Q : Value → Hp → Prop) : Prop := J (vMid Try.prog cmds_Right.cf J cmds_Right.fn [1, 0] [0, 1] 8 Q) (cmds_Right.k1.st eIndex eTerm eCmdOp eCmdClient eCmdSeq eCmdKey eCmdValue eCmdOld H x)
noncomputable def cmds_Right.k2.st (eIndex : Int) (eTerm : Int) (eCmdOp : Int) (eCmdClient : Int) (eCmdSeq : Int) (eCmdKey : ByteArray) (eCmdValue : ByteArray) (eCmdOld : ByteArray) (H : Hp) (x1 : Bool) : VS := ⟨mkFr 26 [(1, .loc 0 0), (15, .v (.bool x1))], [(T_api_Entry, [.int .i64 eIndex, .int .i64 eTerm, .int .i64 eCmdOp, .int .i64 eCmdClient, .int .i64 eCmdSeq, .string eCmdKey, .string eCmdValue, .string eCmdOld])], (holes H 1)⟩
noncomputable def cmds_Right.k2 (J : Jn) (eIndex : Int) (eTerm : Int) (eCmdOp : Int) (eCmdClient : Int) (eCmdSeq : Int) (eCmdKey : ByteArray) (eCmdValue : ByteArray) (eCmdOld : ByteArray) (H : Hp) (x1 : Bool) (Q : Value → Hp → Prop) : Prop := J (vMid Try.prog cmds_Right.cf J cmds_Right.fn [1, 0] [0, 1] 13 Q) (cmds_Right.k2.st eIndex eTerm eCmdOp eCmdClient eCmdSeq eCmdKey eCmdValue eCmdOld H x1)
noncomputable def cmds_Right.k3.st (eIndex : Int) (eTerm : Int) (eCmdOp : Int) (eCmdClient : Int) (eCmdSeq : Int) (eCmdKey : ByteArray) (eCmdValue : ByteArray) (eCmdOld : ByteArray) (H : Hp) (x2 : Bool) : VS := ⟨mkFr 26 [(1, .loc 0 0), (20, .v (.bool x2))], [(T_api_Entry, [.int .i64 eIndex, .int .i64 eTerm, .int .i64 eCmdOp, .int .i64 eCmdClient, .int .i64 eCmdSeq, .string eCmdKey, .string eCmdValue, .string eCmdOld])], (holes H 1)⟩
noncomputable def cmds_Right.k3 (J : Jn) (eIndex : Int) (eTerm : Int) (eCmdOp : Int) (eCmdClient : Int) (eCmdSeq : Int) (eCmdKey : ByteArray) (eCmdValue : ByteArray) (eCmdOld : ByteArray) (H : Hp) (x2 : Bool) (Q : Value → Hp → Prop) : Prop := J (vMid Try.prog cmds_Right.cf J cmds_Right.fn [1, 0] [0, 1] 18 Q) (cmds_Right.k3.st eIndex eTerm eCmdOp eCmdClient eCmdSeq eCmdKey eCmdValue eCmdOld H x2)
attribute [irreducible] cmds_Right.k1 cmds_Right.k2 cmds_Right.k3
noncomputable def cmds_Right.k1.body (J : Jn) (eIndex : Int) (eTerm : Int) (eCmdOp : Int) (eCmdClient : Int) (eCmdSeq : Int) (eCmdKey : ByteArray) (eCmdValue : ByteArray) (eCmdOld : ByteArray) (H : Hp) (x : Bool) (Q : Value → Hp → Prop) : Prop :=
 
 Br x (
 cmds_Right.k2 J eIndex eTerm eCmdOp eCmdClient eCmdSeq eCmdKey eCmdValue eCmdOld H (decide (eTerm ≥ 0)) Q)
 (
 cmds_Right.k2 J eIndex eTerm eCmdOp eCmdClient eCmdSeq eCmdKey eCmdValue eCmdOld H false Q)
theorem cmds_Right.k1.eq (J : Jn) (eIndex : Int) (eTerm : Int) (eCmdOp : Int) (eCmdClient : Int) (eCmdSeq : Int) (eCmdKey : ByteArray) (eCmdValue : ByteArray) (eCmdOld : ByteArray) (H : Hp) (x : Bool) (Q : Value → Hp → Prop) : vMid Try.prog cmds_Right.cf J cmds_Right.fn [1, 0] [0, 1] 8 Q (cmds_Right.k1.st eIndex eTerm eCmdOp eCmdClient eCmdSeq eCmdKey eCmdValue eCmdOld H x) = cmds_Right.k1.body J eIndex eTerm eCmdOp eCmdClient eCmdSeq eCmdKey eCmdValue eCmdOld H x Q := by kernel_rfl
theorem cmds_Right.k1.step {eIndex : Int} {eTerm : Int} {eCmdOp : Int} {eCmdClient : Int} {eCmdSeq : Int} {eCmdKey : ByteArray} {eCmdValue : ByteArray} {eCmdOld : ByteArray} {H : Hp} {x : Bool} {Q : Value → Hp → Prop} (h : cmds_Right.k1.body J0 eIndex eTerm eCmdOp eCmdClient eCmdSeq eCmdKey eCmdValue eCmdOld H x Q) : cmds_Right.k1 J0 eIndex eTerm eCmdOp eCmdClient eCmdSeq eCmdKey eCmdValue eCmdOld H x Q := step_of (vMid Try.prog cmds_Right.cf J0 cmds_Right.fn [1, 0] [0, 1] 8 Q) (cmds_Right.k1.st eIndex eTerm eCmdOp eCmdClient eCmdSeq eCmdKey eCmdValue eCmdOld H x) (cmds_Right.k1.eq J0 eIndex eTerm eCmdOp eCmdClient eCmdSeq eCmdKey eCmdValue eCmdOld H x Q) (by kernel_rfl) h
noncomputable def cmds_Right.k2.body (J : Jn) (eIndex : Int) (eTerm : Int) (eCmdOp : Int) (eCmdClient : Int) (eCmdSeq : Int) (eCmdKey : ByteArray) (eCmdValue : ByteArray) (eCmdOld : ByteArray) (H : Hp) (x1 : Bool) (Q : Value → Hp → Prop) : Prop :=
 
 Br x1 (
 cmds_Right.k3 J eIndex eTerm eCmdOp eCmdClient eCmdSeq eCmdKey eCmdValue eCmdOld H (decide (eTerm ≤ 1048576)) Q)
 (
 cmds_Right.k3 J eIndex eTerm eCmdOp eCmdClient eCmdSeq eCmdKey eCmdValue eCmdOld H false Q)
theorem cmds_Right.k2.eq (J : Jn) (eIndex : Int) (eTerm : Int) (eCmdOp : Int) (eCmdClient : Int) (eCmdSeq : Int) (eCmdKey : ByteArray) (eCmdValue : ByteArray) (eCmdOld : ByteArray) (H : Hp) (x1 : Bool) (Q : Value → Hp → Prop) : vMid Try.prog cmds_Right.cf J cmds_Right.fn [1, 0] [0, 1] 13 Q (cmds_Right.k2.st eIndex eTerm eCmdOp eCmdClient eCmdSeq eCmdKey eCmdValue eCmdOld H x1) = cmds_Right.k2.body J eIndex eTerm eCmdOp eCmdClient eCmdSeq eCmdKey eCmdValue eCmdOld H x1 Q := by kernel_rfl
theorem cmds_Right.k2.step {eIndex : Int} {eTerm : Int} {eCmdOp : Int} {eCmdClient : Int} {eCmdSeq : Int} {eCmdKey : ByteArray} {eCmdValue : ByteArray} {eCmdOld : ByteArray} {H : Hp} {x1 : Bool} {Q : Value → Hp → Prop} (h : cmds_Right.k2.body J0 eIndex eTerm eCmdOp eCmdClient eCmdSeq eCmdKey eCmdValue eCmdOld H x1 Q) : cmds_Right.k2 J0 eIndex eTerm eCmdOp eCmdClient eCmdSeq eCmdKey eCmdValue eCmdOld H x1 Q := step_of (vMid Try.prog cmds_Right.cf J0 cmds_Right.fn [1, 0] [0, 1] 13 Q) (cmds_Right.k2.st eIndex eTerm eCmdOp eCmdClient eCmdSeq eCmdKey eCmdValue eCmdOld H x1) (cmds_Right.k2.eq J0 eIndex eTerm eCmdOp eCmdClient eCmdSeq eCmdKey eCmdValue eCmdOld H x1 Q) (by kernel_rfl) h
noncomputable def cmds_Right.k3.body (J : Jn) (eIndex : Int) (eTerm : Int) (eCmdOp : Int) (eCmdClient : Int) (eCmdSeq : Int) (eCmdKey : ByteArray) (eCmdValue : ByteArray) (eCmdOld : ByteArray) (H : Hp) (x2 : Bool) (Q : Value → Hp → Prop) : Prop :=
 
 Br x2 (
 SCalls Try.prog cmds_May.id [.agg #[.int .i64 eCmdOp, .int .i64 eCmdClient, .int .i64 eCmdSeq, .string eCmdKey, .string eCmdValue, .string eCmdOld]] (holes H 1) (fun r H1 => ∃ x3 : Bool, r = .bool x3 ∧ Q (.bool x3) H1))
 (Q (.bool false) (holes H 1))
theorem cmds_Right.k3.eq (J : Jn) (eIndex : Int) (eTerm : Int) (eCmdOp : Int) (eCmdClient : Int) (eCmdSeq : Int) (eCmdKey : ByteArray) (eCmdValue : ByteArray) (eCmdOld : ByteArray) (H : Hp) (x2 : Bool) (Q : Value → Hp → Prop) : vMid Try.prog cmds_Right.cf J cmds_Right.fn [1, 0] [0, 1] 18 Q (cmds_Right.k3.st eIndex eTerm eCmdOp eCmdClient eCmdSeq eCmdKey eCmdValue eCmdOld H x2) = cmds_Right.k3.body J eIndex eTerm eCmdOp eCmdClient eCmdSeq eCmdKey eCmdValue eCmdOld H x2 Q := by kernel_rfl
theorem cmds_Right.k3.step {eIndex : Int} {eTerm : Int} {eCmdOp : Int} {eCmdClient : Int} {eCmdSeq : Int} {eCmdKey : ByteArray} {eCmdValue : ByteArray} {eCmdOld : ByteArray} {H : Hp} {x2 : Bool} {Q : Value → Hp → Prop} (h : cmds_Right.k3.body J0 eIndex eTerm eCmdOp eCmdClient eCmdSeq eCmdKey eCmdValue eCmdOld H x2 Q) : cmds_Right.k3 J0 eIndex eTerm eCmdOp eCmdClient eCmdSeq eCmdKey eCmdValue eCmdOld H x2 Q := step_of (vMid Try.prog cmds_Right.cf J0 cmds_Right.fn [1, 0] [0, 1] 18 Q) (cmds_Right.k3.st eIndex eTerm eCmdOp eCmdClient eCmdSeq eCmdKey eCmdValue eCmdOld H x2) (cmds_Right.k3.eq J0 eIndex eTerm eCmdOp eCmdClient eCmdSeq eCmdKey eCmdValue eCmdOld H x2 Q) (by kernel_rfl) h
noncomputable def cmds_Right.vc (J : Jn) (eIndex : Int) (eTerm : Int) (eCmdOp : Int) (eCmdClient : Int) (eCmdSeq : Int) (eCmdKey : ByteArray) (eCmdValue : ByteArray) (eCmdOld : ByteArray) (H : Hp) (Q : Value → Hp → Prop) : Prop :=
 
 Br (decide (eIndex ≥ 1)) (
 cmds_Right.k1 J eIndex eTerm eCmdOp eCmdClient eCmdSeq eCmdKey eCmdValue eCmdOld H (decide (eIndex ≤ 1048576)) Q)
 (
 cmds_Right.k1 J eIndex eTerm eCmdOp eCmdClient eCmdSeq eCmdKey eCmdValue eCmdOld H false Q)
theorem cmds_Right.eq (J : Jn) (eIndex : Int) (eTerm : Int) (eCmdOp : Int) (eCmdClient : Int) (eCmdSeq : Int) (eCmdKey : ByteArray) (eCmdValue : ByteArray) (eCmdOld : ByteArray) (H : Hp) (Q : Value → Hp → Prop) : vFn Try.prog cmds_Right.cf J cmds_Right.fn [.agg #[.int .i64 eIndex, .int .i64 eTerm, .int .i64 eCmdOp, .int .i64 eCmdClient, .int .i64 eCmdSeq, .string eCmdKey, .string eCmdValue, .string eCmdOld]] H Q = cmds_Right.vc J eIndex eTerm eCmdOp eCmdClient eCmdSeq eCmdKey eCmdValue eCmdOld H Q := by kernel_rfl
theorem cmds_Right.calls {eIndex : Int} {eTerm : Int} {eCmdOp : Int} {eCmdClient : Int} {eCmdSeq : Int} {eCmdKey : ByteArray} {eCmdValue : ByteArray} {eCmdOld : ByteArray} {H : Hp} {Q : Value → Hp → Prop} (h : cmds_Right.vc J0 eIndex eTerm eCmdOp eCmdClient eCmdSeq eCmdKey eCmdValue eCmdOld H Q) : SCalls Try.prog cmds_Right.id [.agg #[.int .i64 eIndex, .int .i64 eTerm, .int .i64 eCmdOp, .int .i64 eCmdClient, .int .i64 eCmdSeq, .string eCmdKey, .string eCmdValue, .string eCmdOld]] H Q := vFn_of Try.mixed Try.func30 (cmds_Right.eq J0 eIndex eTerm eCmdOp eCmdClient eCmdSeq eCmdKey eCmdValue eCmdOld H Q) h

/-! 31: tephra/state.sessions -/
noncomputable def state_sessions.cf : Cfg := ⟨[1, 5, 1000003], [(3, [3, 9, 10, 11])], [], [], true⟩
noncomputable def state_sessions.l1.st (sIndex : Int) (sTerm : Int) (sPairs : Sl) (sSessions : Sl) (b : Nat) (H3 : Hp) (x : Int) : VS := ⟨mkFr 22 [(3, .v (.pointer (some (Addr.mk b 0 none)))), (9, .v (.slice sSessions.a sSessions.len sSessions.cap)), (10, .v (.int .i64 ((sSessions.len : Nat) : Int))), (11, .v (.int .i64 x))], [(T_api_State, [.int .i64 sIndex, .int .i64 sTerm, .slice sPairs.a sPairs.len sPairs.cap, .slice sSessions.a sSessions.len sSessions.cap])], H3⟩
noncomputable def state_sessions.l1 (J : Jn) (sIndex : Int) (sTerm : Int) (sPairs : Sl) (sSessions : Sl) (b : Nat) (H3 : Hp) (x : Int) (Q : Value → Hp → Prop) : Prop := vAt Try.prog state_sessions.cf J state_sessions.fn [1, 1, 0, 1, 0] [0, 1, 1, 1] Q (state_sessions.l1.st sIndex sTerm sPairs sSessions b H3 x)
attribute [irreducible] state_sessions.l1
noncomputable def state_sessions.l1.body (J : Jn) (sIndex : Int) (sTerm : Int) (sPairs : Sl) (sSessions : Sl) (b : Nat) (H3 : Hp) (x : Int) (Q : Value → Hp → Prop) : Prop :=
 
 Br (decide (x < ((sSessions.len : Nat) : Int))) (((0 : Int) ≤ x ∧ x < ((sSessions.len : Nat) : Int)) ∧ vPtr sSessions.a (fun a => ∃ Client : Int, ∃ Seq : Int, ∃ ReplyErr : Int, ∃ ReplyValue : ByteArray, RowAt H3 (a.add ((x : Int).toNat * 4)) [.int .i64 Client, .int .i64 Seq, .int .i64 ReplyErr, .string ReplyValue] ∧ ∀ H4 : Hp, H4 = (holes H3 1) → 
 SCalls Try.prog sorted_Map_int_api_Session_Put.id [.pointer (some (Addr.mk b 0 none)), .int .i64 Client, .agg #[.int .i64 Client, .int .i64 Seq, .int .i64 ReplyErr, .string ReplyValue]] H4 (fun r H5 => ∃ x1 : Bool, r = .bool x1 ∧ 
 state_sessions.l1 J sIndex sTerm sPairs sSessions b H5 (w64 (x + 1)) Q)))
 (Q (.pointer (some (Addr.mk b 0 none))) H3)
theorem state_sessions.l1.eq (J : Jn) (sIndex : Int) (sTerm : Int) (sPairs : Sl) (sSessions : Sl) (b : Nat) (H3 : Hp) (x : Int) (Q : Value → Hp → Prop) : vAtBody Try.prog state_sessions.cf J state_sessions.fn [1, 1, 0, 1, 0] [0, 1, 1, 1] Q (state_sessions.l1.st sIndex sTerm sPairs sSessions b H3 x) = state_sessions.l1.body J sIndex sTerm sPairs sSessions b H3 x Q := by kernel_rfl
theorem state_sessions.l1.step {sIndex : Int} {sTerm : Int} {sPairs : Sl} {sSessions : Sl} {b : Nat} {H3 : Hp} {x : Int} {Q : Value → Hp → Prop} (h : state_sessions.l1.body J0 sIndex sTerm sPairs sSessions b H3 x Q) : state_sessions.l1 J0 sIndex sTerm sPairs sSessions b H3 x Q := vAt_stepC (state_sessions.l1.st sIndex sTerm sPairs sSessions b H3 x) (state_sessions.l1.eq J0 sIndex sTerm sPairs sSessions b H3 x Q) (by kernel_rfl) h
noncomputable def state_sessions.vc (J : Jn) (sIndex : Int) (sTerm : Int) (sPairs : Sl) (sSessions : Sl) (H : Hp) (Q : Value → Hp → Prop) : Prop :=
 ∀ H1 : Hp, H1 = (holes H 1) → ∀ b : Nat, b = Array.size H1 → ∀ H2 : Hp, H2 = (Array.push H1 (.cells #[.slice none 0 0] T_sorted_Map_int_api_Session)) → 
 state_sessions.l1 J sIndex sTerm sPairs sSessions b H2 0 Q
theorem state_sessions.eq (J : Jn) (sIndex : Int) (sTerm : Int) (sPairs : Sl) (sSessions : Sl) (H : Hp) (Q : Value → Hp → Prop) : vFn Try.prog state_sessions.cf J state_sessions.fn [.agg #[.int .i64 sIndex, .int .i64 sTerm, .slice sPairs.a sPairs.len sPairs.cap, .slice sSessions.a sSessions.len sSessions.cap]] H Q = state_sessions.vc J sIndex sTerm sPairs sSessions H Q := by kernel_rfl
theorem state_sessions.calls {sIndex : Int} {sTerm : Int} {sPairs : Sl} {sSessions : Sl} {H : Hp} {Q : Value → Hp → Prop} (h : state_sessions.vc J0 sIndex sTerm sPairs sSessions H Q) : SCalls Try.prog state_sessions.id [.agg #[.int .i64 sIndex, .int .i64 sTerm, .slice sPairs.a sPairs.len sPairs.cap, .slice sSessions.a sSessions.len sSessions.cap]] H Q := vFn_of Try.mixed Try.func31 (state_sessions.eq J0 sIndex sTerm sPairs sSessions H Q) h

/-! 32: (*tephra/sorted.Map_int, tephra/api.Session_).Get -/
noncomputable def sorted_Map_int_api_Session_Get.cf : Cfg := ⟨[4, 8], [], [], [], true⟩
noncomputable def sorted_Map_int_api_Session_Get.vc (J : Jn) (m : Addr) (k : Int) (H : Hp) (Q : Value → Hp → Prop) : Prop :=
 
 SCalls Try.prog sorted_Map_int_api_Session_find.id [.pointer (some m), .int .i64 k] (holes H 1) (fun r H1 => ∃ x : Int, ∃ x1 : Bool, r = .tuple #[.int .i64 x, .bool x1] ∧ 
 Br x1 (∃ items : Sl, Hp.cell? H1 m = some (.slice items.a items.len items.cap) ∧ ((0 : Int) ≤ x ∧ x < ((items.len : Nat) : Int)) ∧ vPtr items.a (fun a => ∃ Client : Int, ∃ Seq : Int, ∃ ReplyErr : Int, ∃ ReplyValue : ByteArray, RowAt H1 ((a.add ((x : Int).toNat * 5)).add 1) [.int .i64 Client, .int .i64 Seq, .int .i64 ReplyErr, .string ReplyValue] ∧ Q (.tuple #[.agg #[.int .i64 Client, .int .i64 Seq, .int .i64 ReplyErr, .string ReplyValue], .bool true]) H1))
 (Q (.tuple #[.agg #[.int .i64 0, .int .i64 0, .int .i64 0, .string (ByteArray.mk #[])], .bool false]) (holes H1 1)))
theorem sorted_Map_int_api_Session_Get.eq (J : Jn) (m : Addr) (k : Int) (H : Hp) (Q : Value → Hp → Prop) : vFn Try.prog sorted_Map_int_api_Session_Get.cf J sorted_Map_int_api_Session_Get.fn [.pointer (some m), .int .i64 k] H Q = sorted_Map_int_api_Session_Get.vc J m k H Q := by kernel_rfl
theorem sorted_Map_int_api_Session_Get.calls {m : Addr} {k : Int} {H : Hp} {Q : Value → Hp → Prop} (h : sorted_Map_int_api_Session_Get.vc J0 m k H Q) : SCalls Try.prog sorted_Map_int_api_Session_Get.id [.pointer (some m), .int .i64 k] H Q := vFn_of Try.mixed Try.func32 (sorted_Map_int_api_Session_Get.eq J0 m k H Q) h

/-! 33: tephra/state.pairs -/
noncomputable def state_pairs.cf : Cfg := ⟨[1, 5, 1000003], [(3, [3, 9, 10, 11])], [], [], true⟩
noncomputable def state_pairs.l1.st (sIndex : Int) (sTerm : Int) (sPairs : Sl) (sSessions : Sl) (b : Nat) (H3 : Hp) (x : Int) : VS := ⟨mkFr 23 [(3, .v (.pointer (some (Addr.mk b 0 none)))), (9, .v (.slice sPairs.a sPairs.len sPairs.cap)), (10, .v (.int .i64 ((sPairs.len : Nat) : Int))), (11, .v (.int .i64 x))], [(T_api_State, [.int .i64 sIndex, .int .i64 sTerm, .slice sPairs.a sPairs.len sPairs.cap, .slice sSessions.a sSessions.len sSessions.cap])], H3⟩
noncomputable def state_pairs.l1 (J : Jn) (sIndex : Int) (sTerm : Int) (sPairs : Sl) (sSessions : Sl) (b : Nat) (H3 : Hp) (x : Int) (Q : Value → Hp → Prop) : Prop := vAt Try.prog state_pairs.cf J state_pairs.fn [1, 1, 0, 1, 0] [0, 1, 1, 1] Q (state_pairs.l1.st sIndex sTerm sPairs sSessions b H3 x)
attribute [irreducible] state_pairs.l1
noncomputable def state_pairs.l1.body (J : Jn) (sIndex : Int) (sTerm : Int) (sPairs : Sl) (sSessions : Sl) (b : Nat) (H3 : Hp) (x : Int) (Q : Value → Hp → Prop) : Prop :=
 
 Br (decide (x < ((sPairs.len : Nat) : Int))) (((0 : Int) ≤ x ∧ x < ((sPairs.len : Nat) : Int)) ∧ vPtr sPairs.a (fun a => ∃ Key : ByteArray, ∃ Valuev : ByteArray, ∃ Gone : Bool, RowAt H3 (a.add ((x : Int).toNat * 3)) [.string Key, .string Valuev, .bool Gone] ∧ ∀ H4 : Hp, H4 = (holes H3 1) → 
 SCalls Try.prog sorted_Map_string_string_Put.id [.pointer (some (Addr.mk b 0 none)), .string Key, .string Valuev] H4 (fun r H5 => ∃ x1 : Bool, r = .bool x1 ∧ 
 state_pairs.l1 J sIndex sTerm sPairs sSessions b H5 (w64 (x + 1)) Q)))
 (Q (.pointer (some (Addr.mk b 0 none))) H3)
theorem state_pairs.l1.eq (J : Jn) (sIndex : Int) (sTerm : Int) (sPairs : Sl) (sSessions : Sl) (b : Nat) (H3 : Hp) (x : Int) (Q : Value → Hp → Prop) : vAtBody Try.prog state_pairs.cf J state_pairs.fn [1, 1, 0, 1, 0] [0, 1, 1, 1] Q (state_pairs.l1.st sIndex sTerm sPairs sSessions b H3 x) = state_pairs.l1.body J sIndex sTerm sPairs sSessions b H3 x Q := by kernel_rfl
theorem state_pairs.l1.step {sIndex : Int} {sTerm : Int} {sPairs : Sl} {sSessions : Sl} {b : Nat} {H3 : Hp} {x : Int} {Q : Value → Hp → Prop} (h : state_pairs.l1.body J0 sIndex sTerm sPairs sSessions b H3 x Q) : state_pairs.l1 J0 sIndex sTerm sPairs sSessions b H3 x Q := vAt_stepC (state_pairs.l1.st sIndex sTerm sPairs sSessions b H3 x) (state_pairs.l1.eq J0 sIndex sTerm sPairs sSessions b H3 x Q) (by kernel_rfl) h
noncomputable def state_pairs.vc (J : Jn) (sIndex : Int) (sTerm : Int) (sPairs : Sl) (sSessions : Sl) (H : Hp) (Q : Value → Hp → Prop) : Prop :=
 ∀ H1 : Hp, H1 = (holes H 1) → ∀ b : Nat, b = Array.size H1 → ∀ H2 : Hp, H2 = (Array.push H1 (.cells #[.slice none 0 0] T_sorted_Map_string_string)) → 
 state_pairs.l1 J sIndex sTerm sPairs sSessions b H2 0 Q
theorem state_pairs.eq (J : Jn) (sIndex : Int) (sTerm : Int) (sPairs : Sl) (sSessions : Sl) (H : Hp) (Q : Value → Hp → Prop) : vFn Try.prog state_pairs.cf J state_pairs.fn [.agg #[.int .i64 sIndex, .int .i64 sTerm, .slice sPairs.a sPairs.len sPairs.cap, .slice sSessions.a sSessions.len sSessions.cap]] H Q = state_pairs.vc J sIndex sTerm sPairs sSessions H Q := by kernel_rfl
theorem state_pairs.calls {sIndex : Int} {sTerm : Int} {sPairs : Sl} {sSessions : Sl} {H : Hp} {Q : Value → Hp → Prop} (h : state_pairs.vc J0 sIndex sTerm sPairs sSessions H Q) : SCalls Try.prog state_pairs.id [.agg #[.int .i64 sIndex, .int .i64 sTerm, .slice sPairs.a sPairs.len sPairs.cap, .slice sSessions.a sSessions.len sSessions.cap]] H Q := vFn_of Try.mixed Try.func33 (state_pairs.eq J0 sIndex sTerm sPairs sSessions H Q) h

/-! 34: tephra/state.do -/
noncomputable def state_do.cf : Cfg := ⟨[3, 4, 1000003], [], [(4, [0, 3, 4, 5, 6, 20], true), (6, [0, 3, 4, 5, 34], true), (8, [0, 3, 4, 5, 43], true)], [(27, [0, 3, 4, 5, 6, 27])], true⟩
noncomputable def state_do.k1.st (m : Addr) (cOp : Int) (cClient : Int) (cSeq : Int) (cKey : ByteArray) (cValue : ByteArray) (cOld : ByteArray) (H3 : Hp) (x : ByteArray) (x1 : Bool) (x2 : Bool) : VS := ⟨mkFr 65 [(0, .v (.pointer (some m))), (3, .loc 0 0), (4, .loc 1 0), (5, .v (.string x)), (6, .v (.bool x1)), (27, .v (.bool x2))], [(T_api_Cmd, [.int .i64 cOp, .int .i64 cClient, .int .i64 cSeq, .string cKey, .string cValue, .string cOld]), (T_api_Reply, [.int .i64 0, .string (ByteArray.mk #[])])], H3⟩
noncomputable def state_do.k1 (J : Jn) (m : Addr) (cOp : Int) (cClient : Int) (cSeq : Int) (cKey : ByteArray) (cValue : ByteArray) (cOld : ByteArray) (H3 : Hp) (x : ByteArray) (x1 : Bool) (x2 : Bool) (Q : Value → Hp → Prop) : Prop := J (vMid Try.prog state_do.cf J state_do.fn [1, 1, 0, 0, 0] [0, 2, 2, 2] 7 Q) (state_do.k1.st m cOp cClient cSeq cKey cValue cOld H3 x x1 x2)
noncomputable def state_do.k2.st (m : Addr) (cOp : Int) (cClient : Int) (cSeq : Int) (cKey : ByteArray) (cValue : ByteArray) (cOld : ByteArray) (x : ByteArray) (x1 : Bool) (x4 : Bool) (H5 : Hp) : VS := ⟨mkFr 65 [(0, .v (.pointer (some m))), (3, .loc 0 0), (4, .loc 1 0), (5, .v (.string x)), (6, .v (.bool x1)), (20, .v (.bool x4))], [(T_api_Cmd, [.int .i64 cOp, .int .i64 cClient, .int .i64 cSeq, .string cKey, .string cValue, .string cOld]), (T_api_Reply, [.int .i64 0, .string (ByteArray.mk #[])])], H5⟩
noncomputable def state_do.k2 (J : Jn) (m : Addr) (cOp : Int) (cClient : Int) (cSeq : Int) (cKey : ByteArray) (cValue : ByteArray) (cOld : ByteArray) (x : ByteArray) (x1 : Bool) (x4 : Bool) (H5 : Hp) (Q : Value → Hp → Prop) : Prop := J (vSeg Try.prog state_do.cf J state_do.fn [1, 1, 0, 0, 1] [0, 2, 2, 2] Q) (state_do.k2.st m cOp cClient cSeq cKey cValue cOld x x1 x4 H5)
noncomputable def state_do.k3.st (m : Addr) (cOp : Int) (cClient : Int) (cSeq : Int) (cKey : ByteArray) (cValue : ByteArray) (cOld : ByteArray) (x : ByteArray) (H5 : Hp) (x5 : Bool) : VS := ⟨mkFr 65 [(0, .v (.pointer (some m))), (3, .loc 0 0), (4, .loc 1 0), (5, .v (.string x)), (34, .v (.bool x5))], [(T_api_Cmd, [.int .i64 cOp, .int .i64 cClient, .int .i64 cSeq, .string cKey, .string cValue, .string cOld]), (T_api_Reply, [.int .i64 0, .string (ByteArray.mk #[])])], H5⟩
noncomputable def state_do.k3 (J : Jn) (m : Addr) (cOp : Int) (cClient : Int) (cSeq : Int) (cKey : ByteArray) (cValue : ByteArray) (cOld : ByteArray) (x : ByteArray) (H5 : Hp) (x5 : Bool) (Q : Value → Hp → Prop) : Prop := J (vSeg Try.prog state_do.cf J state_do.fn [1, 1, 0, 0, 1, 1, 1] [0, 2, 2, 2, 2] Q) (state_do.k3.st m cOp cClient cSeq cKey cValue cOld x H5 x5)
noncomputable def state_do.k4.st (m : Addr) (cOp : Int) (cClient : Int) (cSeq : Int) (cKey : ByteArray) (cValue : ByteArray) (cOld : ByteArray) (x : ByteArray) (H5 : Hp) (x6 : Bool) : VS := ⟨mkFr 65 [(0, .v (.pointer (some m))), (3, .loc 0 0), (4, .loc 1 0), (5, .v (.string x)), (43, .v (.bool x6))], [(T_api_Cmd, [.int .i64 cOp, .int .i64 cClient, .int .i64 cSeq, .string cKey, .string cValue, .string cOld]), (T_api_Reply, [.int .i64 0, .string (ByteArray.mk #[])])], H5⟩
noncomputable def state_do.k4 (J : Jn) (m : Addr) (cOp : Int) (cClient : Int) (cSeq : Int) (cKey : ByteArray) (cValue : ByteArray) (cOld : ByteArray) (x : ByteArray) (H5 : Hp) (x6 : Bool) (Q : Value → Hp → Prop) : Prop := J (vSeg Try.prog state_do.cf J state_do.fn [1, 1, 0, 0, 1, 1, 1, 1, 1] [0, 2, 2, 2, 2, 2] Q) (state_do.k4.st m cOp cClient cSeq cKey cValue cOld x H5 x6)
attribute [irreducible] state_do.k1 state_do.k2 state_do.k3 state_do.k4
noncomputable def state_do.k1.body (J : Jn) (m : Addr) (cOp : Int) (cClient : Int) (cSeq : Int) (cKey : ByteArray) (cValue : ByteArray) (cOld : ByteArray) (H3 : Hp) (x : ByteArray) (x1 : Bool) (x2 : Bool) (Q : Value → Hp → Prop) : Prop :=
 
 Br x2 (
 SCalls Try.prog sorted_Map_string_string_Len.id [.pointer (some m)] H3 (fun r1 H4 => ∃ x3 : Int, r1 = .int .i64 x3 ∧ 
 state_do.k2 J m cOp cClient cSeq cKey cValue cOld x x1 (decide (x3 ≥ 64)) H4 Q))
 (
 state_do.k2 J m cOp cClient cSeq cKey cValue cOld x x1 false H3 Q)
theorem state_do.k1.eq (J : Jn) (m : Addr) (cOp : Int) (cClient : Int) (cSeq : Int) (cKey : ByteArray) (cValue : ByteArray) (cOld : ByteArray) (H3 : Hp) (x : ByteArray) (x1 : Bool) (x2 : Bool) (Q : Value → Hp → Prop) : vMid Try.prog state_do.cf J state_do.fn [1, 1, 0, 0, 0] [0, 2, 2, 2] 7 Q (state_do.k1.st m cOp cClient cSeq cKey cValue cOld H3 x x1 x2) = state_do.k1.body J m cOp cClient cSeq cKey cValue cOld H3 x x1 x2 Q := by kernel_rfl
theorem state_do.k1.step {m : Addr} {cOp : Int} {cClient : Int} {cSeq : Int} {cKey : ByteArray} {cValue : ByteArray} {cOld : ByteArray} {H3 : Hp} {x : ByteArray} {x1 : Bool} {x2 : Bool} {Q : Value → Hp → Prop} (h : state_do.k1.body J0 m cOp cClient cSeq cKey cValue cOld H3 x x1 x2 Q) : state_do.k1 J0 m cOp cClient cSeq cKey cValue cOld H3 x x1 x2 Q := step_of (vMid Try.prog state_do.cf J0 state_do.fn [1, 1, 0, 0, 0] [0, 2, 2, 2] 7 Q) (state_do.k1.st m cOp cClient cSeq cKey cValue cOld H3 x x1 x2) (state_do.k1.eq J0 m cOp cClient cSeq cKey cValue cOld H3 x x1 x2 Q) (by kernel_rfl) h
noncomputable def state_do.k2.body (J : Jn) (m : Addr) (cOp : Int) (cClient : Int) (cSeq : Int) (cKey : ByteArray) (cValue : ByteArray) (cOld : ByteArray) (x : ByteArray) (x1 : Bool) (x4 : Bool) (H5 : Hp) (Q : Value → Hp → Prop) : Prop :=
 
 Br x4 (Q (.agg #[.int .i64 4, .string (ByteArray.mk #[])]) H5)
 (
 Br (cOp != 1) (
 state_do.k3 J m cOp cClient cSeq cKey cValue cOld x H5 (!x1) Q)
 (
 state_do.k3 J m cOp cClient cSeq cKey cValue cOld x H5 false Q))
theorem state_do.k2.eq (J : Jn) (m : Addr) (cOp : Int) (cClient : Int) (cSeq : Int) (cKey : ByteArray) (cValue : ByteArray) (cOld : ByteArray) (x : ByteArray) (x1 : Bool) (x4 : Bool) (H5 : Hp) (Q : Value → Hp → Prop) : vSeg Try.prog state_do.cf J state_do.fn [1, 1, 0, 0, 1] [0, 2, 2, 2] Q (state_do.k2.st m cOp cClient cSeq cKey cValue cOld x x1 x4 H5) = state_do.k2.body J m cOp cClient cSeq cKey cValue cOld x x1 x4 H5 Q := by kernel_rfl
theorem state_do.k2.step {m : Addr} {cOp : Int} {cClient : Int} {cSeq : Int} {cKey : ByteArray} {cValue : ByteArray} {cOld : ByteArray} {x : ByteArray} {x1 : Bool} {x4 : Bool} {H5 : Hp} {Q : Value → Hp → Prop} (h : state_do.k2.body J0 m cOp cClient cSeq cKey cValue cOld x x1 x4 H5 Q) : state_do.k2 J0 m cOp cClient cSeq cKey cValue cOld x x1 x4 H5 Q := step_of (vSeg Try.prog state_do.cf J0 state_do.fn [1, 1, 0, 0, 1] [0, 2, 2, 2] Q) (state_do.k2.st m cOp cClient cSeq cKey cValue cOld x x1 x4 H5) (state_do.k2.eq J0 m cOp cClient cSeq cKey cValue cOld x x1 x4 H5 Q) (by kernel_rfl) h
noncomputable def state_do.k3.body (J : Jn) (m : Addr) (cOp : Int) (cClient : Int) (cSeq : Int) (cKey : ByteArray) (cValue : ByteArray) (cOld : ByteArray) (x : ByteArray) (H5 : Hp) (x5 : Bool) (Q : Value → Hp → Prop) : Prop :=
 
 Br x5 (Q (.agg #[.int .i64 6, .string (ByteArray.mk #[])]) H5)
 (
 Br (cOp == 3) (
 state_do.k4 J m cOp cClient cSeq cKey cValue cOld x H5 (!(x.toList == cOld.toList)) Q)
 (
 state_do.k4 J m cOp cClient cSeq cKey cValue cOld x H5 false Q))
theorem state_do.k3.eq (J : Jn) (m : Addr) (cOp : Int) (cClient : Int) (cSeq : Int) (cKey : ByteArray) (cValue : ByteArray) (cOld : ByteArray) (x : ByteArray) (H5 : Hp) (x5 : Bool) (Q : Value → Hp → Prop) : vSeg Try.prog state_do.cf J state_do.fn [1, 1, 0, 0, 1, 1, 1] [0, 2, 2, 2, 2] Q (state_do.k3.st m cOp cClient cSeq cKey cValue cOld x H5 x5) = state_do.k3.body J m cOp cClient cSeq cKey cValue cOld x H5 x5 Q := by kernel_rfl
theorem state_do.k3.step {m : Addr} {cOp : Int} {cClient : Int} {cSeq : Int} {cKey : ByteArray} {cValue : ByteArray} {cOld : ByteArray} {x : ByteArray} {H5 : Hp} {x5 : Bool} {Q : Value → Hp → Prop} (h : state_do.k3.body J0 m cOp cClient cSeq cKey cValue cOld x H5 x5 Q) : state_do.k3 J0 m cOp cClient cSeq cKey cValue cOld x H5 x5 Q := step_of (vSeg Try.prog state_do.cf J0 state_do.fn [1, 1, 0, 0, 1, 1, 1] [0, 2, 2, 2, 2] Q) (state_do.k3.st m cOp cClient cSeq cKey cValue cOld x H5 x5) (state_do.k3.eq J0 m cOp cClient cSeq cKey cValue cOld x H5 x5 Q) (by kernel_rfl) h
noncomputable def state_do.k4.body (J : Jn) (m : Addr) (cOp : Int) (cClient : Int) (cSeq : Int) (cKey : ByteArray) (cValue : ByteArray) (cOld : ByteArray) (x : ByteArray) (H5 : Hp) (x6 : Bool) (Q : Value → Hp → Prop) : Prop :=
 
 Br x6 (Q (.agg #[.int .i64 11, .string x]) H5)
 (
 Br (cOp == 2) (
 SCalls Try.prog sorted_Map_string_string_Del.id [.pointer (some m), .string cKey] H5 (fun r2 H6 => ∃ x7 : Bool, r2 = .bool x7 ∧ Q (.agg #[.int .i64 0, .string x]) H6))
 (
 SCalls Try.prog sorted_Map_string_string_Put.id [.pointer (some m), .string cKey, .string cValue] H5 (fun r3 H7 => ∃ x8 : Bool, r3 = .bool x8 ∧ Q (.agg #[.int .i64 0, .string x]) H7)))
theorem state_do.k4.eq (J : Jn) (m : Addr) (cOp : Int) (cClient : Int) (cSeq : Int) (cKey : ByteArray) (cValue : ByteArray) (cOld : ByteArray) (x : ByteArray) (H5 : Hp) (x6 : Bool) (Q : Value → Hp → Prop) : vSeg Try.prog state_do.cf J state_do.fn [1, 1, 0, 0, 1, 1, 1, 1, 1] [0, 2, 2, 2, 2, 2] Q (state_do.k4.st m cOp cClient cSeq cKey cValue cOld x H5 x6) = state_do.k4.body J m cOp cClient cSeq cKey cValue cOld x H5 x6 Q := by kernel_rfl
theorem state_do.k4.step {m : Addr} {cOp : Int} {cClient : Int} {cSeq : Int} {cKey : ByteArray} {cValue : ByteArray} {cOld : ByteArray} {x : ByteArray} {H5 : Hp} {x6 : Bool} {Q : Value → Hp → Prop} (h : state_do.k4.body J0 m cOp cClient cSeq cKey cValue cOld x H5 x6 Q) : state_do.k4 J0 m cOp cClient cSeq cKey cValue cOld x H5 x6 Q := step_of (vSeg Try.prog state_do.cf J0 state_do.fn [1, 1, 0, 0, 1, 1, 1, 1, 1] [0, 2, 2, 2, 2, 2] Q) (state_do.k4.st m cOp cClient cSeq cKey cValue cOld x H5 x6) (state_do.k4.eq J0 m cOp cClient cSeq cKey cValue cOld x H5 x6 Q) (by kernel_rfl) h
noncomputable def state_do.vc (J : Jn) (m : Addr) (cOp : Int) (cClient : Int) (cSeq : Int) (cKey : ByteArray) (cValue : ByteArray) (cOld : ByteArray) (H : Hp) (Q : Value → Hp → Prop) : Prop :=
 ∀ H1 : Hp, H1 = (holes H 1) → ∀ H2 : Hp, H2 = (holes H1 1) → 
 SCalls Try.prog sorted_Map_string_string_Get.id [.pointer (some m), .string cKey] H2 (fun r H3 => ∃ x : ByteArray, ∃ x1 : Bool, r = .tuple #[.string x, .bool x1] ∧ 
 Br (cOp == 1) (
 state_do.k1 J m cOp cClient cSeq cKey cValue cOld H3 x x1 (!x1) Q)
 (
 state_do.k1 J m cOp cClient cSeq cKey cValue cOld H3 x x1 false Q))
theorem state_do.eq (J : Jn) (m : Addr) (cOp : Int) (cClient : Int) (cSeq : Int) (cKey : ByteArray) (cValue : ByteArray) (cOld : ByteArray) (H : Hp) (Q : Value → Hp → Prop) : vFn Try.prog state_do.cf J state_do.fn [.pointer (some m), .agg #[.int .i64 cOp, .int .i64 cClient, .int .i64 cSeq, .string cKey, .string cValue, .string cOld]] H Q = state_do.vc J m cOp cClient cSeq cKey cValue cOld H Q := by kernel_rfl
theorem state_do.calls {m : Addr} {cOp : Int} {cClient : Int} {cSeq : Int} {cKey : ByteArray} {cValue : ByteArray} {cOld : ByteArray} {H : Hp} {Q : Value → Hp → Prop} (h : state_do.vc J0 m cOp cClient cSeq cKey cValue cOld H Q) : SCalls Try.prog state_do.id [.pointer (some m), .agg #[.int .i64 cOp, .int .i64 cClient, .int .i64 cSeq, .string cKey, .string cValue, .string cOld]] H Q := vFn_of Try.mixed Try.func34 (state_do.eq J0 m cOp cClient cSeq cKey cValue cOld H Q) h

/-! 35: tephra/state.rows -/
noncomputable def state_rows.cf : Cfg := ⟨[1000003], [(1000005, [3])], [], [], true⟩
noncomputable def state_rows.cfr : Cfg := { state_rows.cf with rf := false }
noncomputable def state_rows.r1.fr (b : Nat) : List AV := mkFr 17 [(3, .v (.pointer (some (Addr.mk b 0 none))))]
noncomputable def state_rows.r1.code : Code := sub (bodyOf state_rows.fn) [1, 1, 0, 1, 0]
noncomputable def state_rows.r1.rec (fn : FuncId) (tm : Array Value) (d : Nat) (st : LoopState) (pd : Option Code) : Obj := recO fn tm (rgP state_rows.r1.code) (rgA state_rows.r1.code) (rgB state_rows.r1.code) d st pd
noncomputable def state_rows.r1.body (J : Jn) (b : Nat) (l : Nat) (rc : LoopState → Option Code → Obj) (k : ByteArray) (v : ByteArray) (H3 : Hp) (Q : Value → Hp → Prop) : Prop :=
 H3[l]? = some (rc .ready none) ∧ ∀ H4 : Hp, H4 = (Array.setIfInBounds H3 l (rc .busy none)) → ∃ x1 : Sl, Hp.cell? H4 (Addr.mk b 0 none) = some (.slice x1.a x1.len x1.cap) ∧ ∀ b1 : Nat, b1 = Array.size H4 → ∀ H5 : Hp, H5 = (Array.push H4 (.cells #[.string k, .string v, .bool false] T_api_Pair)) → 
 vApp Try.prog T_sl_api_Pair x1.a x1.len x1.cap (.slice (some (Addr.mk b1 0 none)) 1 1) H5 (fun ap H6 => WrAt H6 (Addr.mk b 0 none) 1 ∧ ∀ H7 : Hp, H7 = (Hp.setCell H6 (Addr.mk b 0 none) (.slice ap.a ap.len ap.cap)) → 
 ((∃ st : LoopState, ∃ pd : Option Code, H7[l]? = some (rc st pd)) ∧ Q (.bool true) (Array.setIfInBounds H7 l (rc .ready none))))
theorem state_rows.r1.eq (J : Jn) (b : Nat) (l : Nat) (rc : LoopState → Option Code → Obj) (k : ByteArray) (v : ByteArray) (H3 : Hp) (Q : Value → Hp → Prop) : vRound Try.prog state_rows.cfr J (rgA state_rows.r1.code) (rgB state_rows.r1.code) (setFr (state_rows.r1.fr b) (rgP state_rows.r1.code).toList [.string k, .string v]) l rc H3 Q = state_rows.r1.body J b l rc k v H3 Q := by kernel_rfl
theorem state_rows.r1.calls {b : Nat} {l : Nat} {k : ByteArray} {v : ByteArray} {H3 : Hp} {fnA : FuncId} {tmA : Array Value} {dA : Nat} {Q : Value → Hp → Prop} (hl : H3[l]? = some (state_rows.r1.rec fnA tmA dA .ready none)) (hT : TmOf (state_rows.r1.fr b) tmA) (h : state_rows.r1.body J0 b l (state_rows.r1.rec fnA tmA dA) k v H3 Q) : YCalls Try.prog l [.string k, .string v] H3 Q := vRound_calls (cf := state_rows.cfr) (fn := fnA) (tm := tmA) (ps := rgP state_rows.r1.code) (asg := rgA state_rows.r1.code) (body := rgB state_rows.r1.code) (d := dA) (fr := (state_rows.r1.fr b)) Try.mixed (by kernel_rfl) hl (by kernel_rfl) hT ((state_rows.r1.eq J0 b l (state_rows.r1.rec fnA tmA dA) k v H3 Q).mpr h)
attribute [irreducible] state_rows.r1.rec state_rows.r1.fr state_rows.r1.code
noncomputable def state_rows.vc (J : Jn) (m : Addr) (H : Hp) (Q : Value → Hp → Prop) : Prop :=
 ∀ b : Nat, b = Array.size H → ∀ H1 : Hp, H1 = (Array.push H (.cells #[.slice none 0 0] T_sl_api_Pair)) → 
 SCalls Try.prog sorted_Map_string_string_All.id [.pointer (some m)] H1 (fun r H2 => ∃ x : Fv, r = .func x.fn x.fi x.ca ∧ 
 ∀ fn : FuncId, ∀ tm : Array Value, TmOf (state_rows.r1.fr b) tm → vRg Try.prog (.func x.fn x.fi x.ca) (Array.size H2 + 1) (Array.push (Array.push H2 hole) (state_rows.r1.rec fn tm (Array.size H2) .ready none)) (fun H8 => ∃ st : LoopState, ∃ pd : Option Code, H8[(Array.size H2 + 1)]? = some (state_rows.r1.rec fn tm (Array.size H2) st pd) ∧ st ≠ .busy ∧ ∀ H9 : Hp, H9 = (Array.setIfInBounds H8 (Array.size H2 + 1) (state_rows.r1.rec fn tm (Array.size H2) .exhausted pd)) → ((pd = none → ∃ x2 : Sl, Hp.cell? H9 (Addr.mk b 0 none) = some (.slice x2.a x2.len x2.cap) ∧ Q (.slice x2.a x2.len x2.cap) H9) ∧ (pd = some .ret → Q (.slice none 0 0) H9) ∧ (True) ∧ (pd = none ∨ pd = some .ret ∨ ∃ i ∈ ([] : List Nat), pd = some (.exit i)))))
theorem state_rows.eq (J : Jn) (m : Addr) (H : Hp) (Q : Value → Hp → Prop) : vFn Try.prog state_rows.cf J state_rows.fn [.pointer (some m)] H Q = state_rows.vc J m H Q := by kernel_rfl
theorem state_rows.calls {m : Addr} {H : Hp} {Q : Value → Hp → Prop} (h : state_rows.vc J0 m H Q) : SCalls Try.prog state_rows.id [.pointer (some m)] H Q := vFn_of Try.mixed Try.func35 (state_rows.eq J0 m H Q) h

/-! 36: (*tephra/sorted.Map_int, tephra/api.Session_).Put -/
noncomputable def sorted_Map_int_api_Session_Put.cf : Cfg := ⟨[5], [], [], [], true⟩
noncomputable def sorted_Map_int_api_Session_Put.vc (J : Jn) (m : Addr) (k : Int) (vClient : Int) (vSeq : Int) (vReplyErr : Int) (vReplyValue : ByteArray) (H : Hp) (Q : Value → Hp → Prop) : Prop :=
 
 SCalls Try.prog sorted_Map_int_api_Session_find.id [.pointer (some m), .int .i64 k] (holes H 1) (fun r H1 => ∃ x : Int, ∃ x1 : Bool, r = .tuple #[.int .i64 x, .bool x1] ∧ 
 Br x1 (∃ items : Sl, Hp.cell? H1 m = some (.slice items.a items.len items.cap) ∧ ((0 : Int) ≤ x ∧ x < ((items.len : Nat) : Int)) ∧ vPtr items.a (fun a => WrAt H1 ((a.add ((x : Int).toNat * 5)).add 1) 4 ∧ Q (.bool false) (Hp.setCells H1 ((a.add ((x : Int).toNat * 5)).add 1) [.int .i64 vClient, .int .i64 vSeq, .int .i64 vReplyErr, .string vReplyValue] 0)))
 (∃ items1 : Sl, Hp.cell? H1 m = some (.slice items1.a items1.len items1.cap) ∧ 
 SCalls Try.prog slices_Insert_sl_sorted_item_int_api_Session_sorted_item_int_api_Session.id [.slice items1.a items1.len items1.cap, .int .i64 x, .slice (some (Addr.mk (Array.size H1) 0 none)) 1 1] (Array.push H1 (.cells #[.int .i64 k, .int .i64 vClient, .int .i64 vSeq, .int .i64 vReplyErr, .string vReplyValue] T_sorted_item_int_api_Session)) (fun r1 H2 => ∃ x2 : Sl, r1 = .slice x2.a x2.len x2.cap ∧ WrAt H2 m 1 ∧ Q (.bool true) (Hp.setCell H2 m (.slice x2.a x2.len x2.cap)))))
theorem sorted_Map_int_api_Session_Put.eq (J : Jn) (m : Addr) (k : Int) (vClient : Int) (vSeq : Int) (vReplyErr : Int) (vReplyValue : ByteArray) (H : Hp) (Q : Value → Hp → Prop) : vFn Try.prog sorted_Map_int_api_Session_Put.cf J sorted_Map_int_api_Session_Put.fn [.pointer (some m), .int .i64 k, .agg #[.int .i64 vClient, .int .i64 vSeq, .int .i64 vReplyErr, .string vReplyValue]] H Q = sorted_Map_int_api_Session_Put.vc J m k vClient vSeq vReplyErr vReplyValue H Q := by kernel_rfl
theorem sorted_Map_int_api_Session_Put.calls {m : Addr} {k : Int} {vClient : Int} {vSeq : Int} {vReplyErr : Int} {vReplyValue : ByteArray} {H : Hp} {Q : Value → Hp → Prop} (h : sorted_Map_int_api_Session_Put.vc J0 m k vClient vSeq vReplyErr vReplyValue H Q) : SCalls Try.prog sorted_Map_int_api_Session_Put.id [.pointer (some m), .int .i64 k, .agg #[.int .i64 vClient, .int .i64 vSeq, .int .i64 vReplyErr, .string vReplyValue]] H Q := vFn_of Try.mixed Try.func36 (sorted_Map_int_api_Session_Put.eq J0 m k vClient vSeq vReplyErr vReplyValue H Q) h

/-! 37: (*tephra/sorted.Map_int, tephra/api.Session_).All -/
noncomputable def sorted_Map_int_api_Session_All.cf : Cfg := ⟨[], [], [], [], true⟩
noncomputable def sorted_Map_int_api_Session_All.vc (J : Jn) (m : Addr) (H : Hp) (Q : Value → Hp → Prop) : Prop :=
 Q (.func (.func 53) #[] #[.pointer (some (Addr.mk (Array.size H) 0 none))]) (Array.push H (.cells #[.pointer (some m)] T_p_sorted_Map_int_api_Session))
theorem sorted_Map_int_api_Session_All.eq (J : Jn) (m : Addr) (H : Hp) (Q : Value → Hp → Prop) : vFn Try.prog sorted_Map_int_api_Session_All.cf J sorted_Map_int_api_Session_All.fn [.pointer (some m)] H Q = sorted_Map_int_api_Session_All.vc J m H Q := by kernel_rfl
theorem sorted_Map_int_api_Session_All.calls {m : Addr} {H : Hp} {Q : Value → Hp → Prop} (h : sorted_Map_int_api_Session_All.vc J0 m H Q) : SCalls Try.prog sorted_Map_int_api_Session_All.id [.pointer (some m)] H Q := vFn_of Try.mixed Try.func37 (sorted_Map_int_api_Session_All.eq J0 m H Q) h

/-! 38: slices.BinarySearchFunc___tephra/sorted.item_int, int_,tephra/sorted.item_int, int_,int_ -/
noncomputable def slices_BinarySearchFunc_sl_sorted_item_int_int_sorted_item_int_int_int.cf : Cfg := ⟨[], [(3, [0, 1, 2, 8, 9, 10])], [], [], true⟩
noncomputable def slices_BinarySearchFunc_sl_sorted_item_int_int_sorted_item_int_int_int.l1.st (x : Sl) (target : Int) (cmp : Fv) (H1 : Hp) (i : Int) (j : Int) : VS := ⟨mkFr 49 [(0, .v (.slice x.a x.len x.cap)), (1, .v (.int .i64 target)), (2, .v (.func cmp.fn cmp.fi cmp.ca)), (8, .v (.int .i64 ((x.len : Nat) : Int))), (9, .v (.int .i64 i)), (10, .v (.int .i64 j))], [], H1⟩
noncomputable def slices_BinarySearchFunc_sl_sorted_item_int_int_sorted_item_int_int_int.l1 (J : Jn) (x : Sl) (target : Int) (cmp : Fv) (H1 : Hp) (i : Int) (j : Int) (Q : Value → Hp → Prop) : Prop := vAt Try.prog slices_BinarySearchFunc_sl_sorted_item_int_int_sorted_item_int_int_int.cf J slices_BinarySearchFunc_sl_sorted_item_int_int_sorted_item_int_int_int.fn [1, 1, 1, 0, 0] [0, 0, 0, 0] Q (slices_BinarySearchFunc_sl_sorted_item_int_int_sorted_item_int_int_int.l1.st x target cmp H1 i j)
attribute [irreducible] slices_BinarySearchFunc_sl_sorted_item_int_int_sorted_item_int_int_int.l1
noncomputable def slices_BinarySearchFunc_sl_sorted_item_int_int_sorted_item_int_int_int.l1.body (J : Jn) (x : Sl) (target : Int) (cmp : Fv) (H1 : Hp) (i : Int) (j : Int) (Q : Value → Hp → Prop) : Prop :=
 
 Br (decide (i < j)) ((0 : Int) ≤ 1 ∧ ((0 : Int) ≤ (w64 ((Int.fdiv (IntKind.u64.wrap ((w64 (i + j)))) (2 ^ 1)))) ∧ (w64 ((Int.fdiv (IntKind.u64.wrap ((w64 (i + j)))) (2 ^ 1)))) < ((x.len : Nat) : Int)) ∧ vPtr x.a (fun a => ∃ key : Int, ∃ value : Int, RowAt H1 (a.add (((w64 ((Int.fdiv (IntKind.u64.wrap ((w64 (i + j)))) (2 ^ 1)))) : Int).toNat * 2)) [.int .i64 key, .int .i64 value] ∧ 
 vInv Try.prog (.func cmp.fn cmp.fi cmp.ca) [.agg #[.int .i64 key, .int .i64 value], .int .i64 target] H1 (fun r H2 => ∃ x1 : Int, r = .int .i64 x1 ∧ 
 Br (decide (x1 < 0)) (
 slices_BinarySearchFunc_sl_sorted_item_int_int_sorted_item_int_int_int.l1 J x target cmp H2 (w64 ((w64 ((Int.fdiv (IntKind.u64.wrap ((w64 (i + j)))) (2 ^ 1)))) + 1)) j Q)
 (
 slices_BinarySearchFunc_sl_sorted_item_int_int_sorted_item_int_int_int.l1 J x target cmp H2 i (w64 ((Int.fdiv (IntKind.u64.wrap ((w64 (i + j)))) (2 ^ 1)))) Q))))
 (
 Br (decide (i < ((x.len : Nat) : Int))) (((0 : Int) ≤ i ∧ i < ((x.len : Nat) : Int)) ∧ vPtr x.a (fun a1 => ∃ key1 : Int, ∃ value1 : Int, RowAt H1 (a1.add ((i : Int).toNat * 2)) [.int .i64 key1, .int .i64 value1] ∧ 
 vInv Try.prog (.func cmp.fn cmp.fi cmp.ca) [.agg #[.int .i64 key1, .int .i64 value1], .int .i64 target] H1 (fun r1 H3 => ∃ x2 : Int, r1 = .int .i64 x2 ∧ Q (.tuple #[.int .i64 i, .bool (x2 == 0)]) H3)))
 (Q (.tuple #[.int .i64 i, .bool false]) H1))
theorem slices_BinarySearchFunc_sl_sorted_item_int_int_sorted_item_int_int_int.l1.eq (J : Jn) (x : Sl) (target : Int) (cmp : Fv) (H1 : Hp) (i : Int) (j : Int) (Q : Value → Hp → Prop) : vAtBody Try.prog slices_BinarySearchFunc_sl_sorted_item_int_int_sorted_item_int_int_int.cf J slices_BinarySearchFunc_sl_sorted_item_int_int_sorted_item_int_int_int.fn [1, 1, 1, 0, 0] [0, 0, 0, 0] Q (slices_BinarySearchFunc_sl_sorted_item_int_int_sorted_item_int_int_int.l1.st x target cmp H1 i j) = slices_BinarySearchFunc_sl_sorted_item_int_int_sorted_item_int_int_int.l1.body J x target cmp H1 i j Q := by kernel_rfl
theorem slices_BinarySearchFunc_sl_sorted_item_int_int_sorted_item_int_int_int.l1.step {x : Sl} {target : Int} {cmp : Fv} {H1 : Hp} {i : Int} {j : Int} {Q : Value → Hp → Prop} (h : slices_BinarySearchFunc_sl_sorted_item_int_int_sorted_item_int_int_int.l1.body J0 x target cmp H1 i j Q) : slices_BinarySearchFunc_sl_sorted_item_int_int_sorted_item_int_int_int.l1 J0 x target cmp H1 i j Q := vAt_stepC (slices_BinarySearchFunc_sl_sorted_item_int_int_sorted_item_int_int_int.l1.st x target cmp H1 i j) (slices_BinarySearchFunc_sl_sorted_item_int_int_sorted_item_int_int_int.l1.eq J0 x target cmp H1 i j Q) (by kernel_rfl) h
noncomputable def slices_BinarySearchFunc_sl_sorted_item_int_int_sorted_item_int_int_int.vc (J : Jn) (x : Sl) (target : Int) (cmp : Fv) (H : Hp) (Q : Value → Hp → Prop) : Prop :=
 
 slices_BinarySearchFunc_sl_sorted_item_int_int_sorted_item_int_int_int.l1 J x target cmp H 0 ((x.len : Nat) : Int) Q
theorem slices_BinarySearchFunc_sl_sorted_item_int_int_sorted_item_int_int_int.eq (J : Jn) (x : Sl) (target : Int) (cmp : Fv) (H : Hp) (Q : Value → Hp → Prop) : vFn Try.prog slices_BinarySearchFunc_sl_sorted_item_int_int_sorted_item_int_int_int.cf J slices_BinarySearchFunc_sl_sorted_item_int_int_sorted_item_int_int_int.fn [.slice x.a x.len x.cap, .int .i64 target, .func cmp.fn cmp.fi cmp.ca] H Q = slices_BinarySearchFunc_sl_sorted_item_int_int_sorted_item_int_int_int.vc J x target cmp H Q := by kernel_rfl
theorem slices_BinarySearchFunc_sl_sorted_item_int_int_sorted_item_int_int_int.calls {x : Sl} {target : Int} {cmp : Fv} {H : Hp} {Q : Value → Hp → Prop} (h : slices_BinarySearchFunc_sl_sorted_item_int_int_sorted_item_int_int_int.vc J0 x target cmp H Q) : SCalls Try.prog slices_BinarySearchFunc_sl_sorted_item_int_int_sorted_item_int_int_int.id [.slice x.a x.len x.cap, .int .i64 target, .func cmp.fn cmp.fi cmp.ca] H Q := vFn_of Try.mixed Try.func38 (slices_BinarySearchFunc_sl_sorted_item_int_int_sorted_item_int_int_int.eq J0 x target cmp H Q) h

end Go.Proofs
