/- THE SEAT'S CODE, AS WALKED: for each function what is to be shown of it (printed by the own program gen.py), held by the kernel. -/
import Derived.Test.YtihadekhodlacaaProg
import Derived.Test.YtihadekhodlacaaKc13
set_option maxRecDepth 100000
set_option linter.all false
set_option linter.constructorNameAsVariable false
namespace Go.Proofs
open Go Go.KC
theorem Try.mixed : Try.prog.follows .mixedOrders = true := by kernel_rfl
abbrev tephralaw16_GhostLead.id : Nat := 3
noncomputable abbrev tephralaw16_GhostLead.fn : Func := Try.f3
abbrev tephralaw16_GhostKeeps.id : Nat := 4
noncomputable abbrev tephralaw16_GhostKeeps.fn : Func := Try.f4
abbrev tephralaw16_GhostAhead.id : Nat := 5
noncomputable abbrev tephralaw16_GhostAhead.fn : Func := Try.f5
abbrev tephralaw16_GhostState.id : Nat := 6
noncomputable abbrev tephralaw16_GhostState.fn : Func := Try.f6
abbrev tephralaw16_GhostScript.id : Nat := 7
noncomputable abbrev tephralaw16_GhostScript.fn : Func := Try.f7
abbrev tephralaw16_awake.id : Nat := 8
noncomputable abbrev tephralaw16_awake.fn : Func := Try.f8
abbrev ghost_Ghost_Lead.id : Nat := 9
noncomputable abbrev ghost_Ghost_Lead.fn : Func := Try.f9
abbrev ghost_Ghost_Leader.id : Nat := 10
noncomputable abbrev ghost_Ghost_Leader.fn : Func := Try.f10
abbrev ghost_Ghost_Wrong.id : Nat := 11
noncomputable abbrev ghost_Ghost_Wrong.fn : Func := Try.f11
abbrev ghost_Ghost_Len.id : Nat := 12
noncomputable abbrev ghost_Ghost_Len.fn : Func := Try.f12
abbrev tephralaw06_Entries.id : Nat := 13
noncomputable abbrev tephralaw06_Entries.fn : Func := Try.f13
abbrev ghost_Ghost_Commit.id : Nat := 14
noncomputable abbrev ghost_Ghost_Commit.fn : Func := Try.f14
abbrev ghost_Ghost_Log.id : Nat := 15
noncomputable abbrev ghost_Ghost_Log.fn : Func := Try.f15
abbrev ghost_Ghost_State.id : Nat := 16
noncomputable abbrev ghost_Ghost_State.fn : Func := Try.f16
abbrev state_Same.id : Nat := 17
noncomputable abbrev state_Same.fn : Func := Try.f17
abbrev state_Fold.id : Nat := 18
noncomputable abbrev state_Fold.fn : Func := Try.f18
abbrev tephralaw06_Say_Cmd.id : Nat := 19
noncomputable abbrev tephralaw06_Say_Cmd.fn : Func := Try.f19
abbrev sorted_Map_int_int_Get.id : Nat := 20
noncomputable abbrev sorted_Map_int_int_Get.fn : Func := Try.f20
abbrev sorted_Map_int_int_Put.id : Nat := 21
noncomputable abbrev sorted_Map_int_int_Put.fn : Func := Try.f21
abbrev slices_Clone_sl_api_Entry_api_Entry.id : Nat := 22
noncomputable abbrev slices_Clone_sl_api_Entry_api_Entry.fn : Func := Try.f22
abbrev state_Bytes.id : Nat := 23
noncomputable abbrev state_Bytes.fn : Func := Try.f23
abbrev state_Apply.id : Nat := 24
noncomputable abbrev state_Apply.fn : Func := Try.f24
abbrev sorted_Map_int_int_find.id : Nat := 25
noncomputable abbrev sorted_Map_int_int_find.fn : Func := Try.f25
abbrev slices_Insert_sl_sorted_item_int_int_sorted_item_int_int.id : Nat := 26
noncomputable abbrev slices_Insert_sl_sorted_item_int_int_sorted_item_int_int.fn : Func := Try.f26
abbrev pack_Writer_Num.id : Nat := 27
noncomputable abbrev pack_Writer_Num.fn : Func := Try.f27
abbrev state_PutRows.id : Nat := 28
noncomputable abbrev state_PutRows.fn : Func := Try.f28
abbrev pack_Writer_Bytes.id : Nat := 29
noncomputable abbrev pack_Writer_Bytes.fn : Func := Try.f29
abbrev cmds_Right.id : Nat := 30
noncomputable abbrev cmds_Right.fn : Func := Try.f30
abbrev state_sessions.id : Nat := 31
noncomputable abbrev state_sessions.fn : Func := Try.f31
abbrev sorted_Map_int_api_Session_Get.id : Nat := 32
noncomputable abbrev sorted_Map_int_api_Session_Get.fn : Func := Try.f32
abbrev state_pairs.id : Nat := 33
noncomputable abbrev state_pairs.fn : Func := Try.f33
abbrev state_do.id : Nat := 34
noncomputable abbrev state_do.fn : Func := Try.f34
abbrev state_rows.id : Nat := 35
noncomputable abbrev state_rows.fn : Func := Try.f35
abbrev sorted_Map_int_api_Session_Put.id : Nat := 36
noncomputable abbrev sorted_Map_int_api_Session_Put.fn : Func := Try.f36
abbrev sorted_Map_int_api_Session_All.id : Nat := 37
noncomputable abbrev sorted_Map_int_api_Session_All.fn : Func := Try.f37
abbrev slices_BinarySearchFunc_sl_sorted_item_int_int_sorted_item_int_int_int.id : Nat := 38
noncomputable abbrev slices_BinarySearchFunc_sl_sorted_item_int_int_sorted_item_int_int_int.fn : Func := Try.f38
abbrev sorted_Map_int_int_find_1.id : Nat := 39
noncomputable abbrev sorted_Map_int_int_find_1.fn : Func := Try.f39
abbrev cmp_Compare_int.id : Nat := 40
noncomputable abbrev cmp_Compare_int.fn : Func := Try.f40
abbrev slices_rotateRight_sorted_item_int_int.id : Nat := 42
noncomputable abbrev slices_rotateRight_sorted_item_int_int.fn : Func := Try.f42
abbrev pack_Writer_Text.id : Nat := 43
noncomputable abbrev pack_Writer_Text.fn : Func := Try.f43
abbrev pack_Writer_Byte.id : Nat := 44
noncomputable abbrev pack_Writer_Byte.fn : Func := Try.f44
abbrev cmds_May.id : Nat := 45
noncomputable abbrev cmds_May.fn : Func := Try.f45
abbrev sorted_Map_int_api_Session_find.id : Nat := 46
noncomputable abbrev sorted_Map_int_api_Session_find.fn : Func := Try.f46
abbrev sorted_Map_string_string_Put.id : Nat := 47
noncomputable abbrev sorted_Map_string_string_Put.fn : Func := Try.f47
abbrev sorted_Map_string_string_Get.id : Nat := 48
noncomputable abbrev sorted_Map_string_string_Get.fn : Func := Try.f48
abbrev sorted_Map_string_string_Len.id : Nat := 49
noncomputable abbrev sorted_Map_string_string_Len.fn : Func := Try.f49
abbrev sorted_Map_string_string_Del.id : Nat := 50
noncomputable abbrev sorted_Map_string_string_Del.fn : Func := Try.f50
abbrev sorted_Map_string_string_All.id : Nat := 51
noncomputable abbrev sorted_Map_string_string_All.fn : Func := Try.f51
abbrev slices_Insert_sl_sorted_item_int_api_Session_sorted_item_int_api_Session.id : Nat := 52
noncomputable abbrev slices_Insert_sl_sorted_item_int_api_Session_sorted_item_int_api_Session.fn : Func := Try.f52
abbrev sorted_Map_int_api_Session_All_1.id : Nat := 53
noncomputable abbrev sorted_Map_int_api_Session_All_1.fn : Func := Try.f53
abbrev cmp_isNaN_int.id : Nat := 54
noncomputable abbrev cmp_isNaN_int.fn : Func := Try.f54
abbrev slices_rotateLeft_sorted_item_int_int.id : Nat := 55
noncomputable abbrev slices_rotateLeft_sorted_item_int_int.fn : Func := Try.f55
abbrev slices_BinarySearchFunc_sl_sorted_item_int_api_Session_sorted_item_int_api_Session_int.id : Nat := 56
noncomputable abbrev slices_BinarySearchFunc_sl_sorted_item_int_api_Session_sorted_item_int_api_Session_int.fn : Func := Try.f56
abbrev sorted_Map_int_api_Session_find_1.id : Nat := 57
noncomputable abbrev sorted_Map_int_api_Session_find_1.fn : Func := Try.f57
abbrev sorted_Map_string_string_find.id : Nat := 58
noncomputable abbrev sorted_Map_string_string_find.fn : Func := Try.f58
abbrev slices_Insert_sl_sorted_item_string_string_sorted_item_string_string.id : Nat := 59
noncomputable abbrev slices_Insert_sl_sorted_item_string_string_sorted_item_string_string.fn : Func := Try.f59
abbrev slices_Delete_sl_sorted_item_string_string_sorted_item_string_string.id : Nat := 60
noncomputable abbrev slices_Delete_sl_sorted_item_string_string_sorted_item_string_string.fn : Func := Try.f60
abbrev sorted_Map_string_string_All_1.id : Nat := 61
noncomputable abbrev sorted_Map_string_string_All_1.fn : Func := Try.f61
abbrev slices_rotateRight_sorted_item_int_api_Session.id : Nat := 63
noncomputable abbrev slices_rotateRight_sorted_item_int_api_Session.fn : Func := Try.f63
abbrev slices_Reverse_sl_sorted_item_int_int_sorted_item_int_int.id : Nat := 64
noncomputable abbrev slices_Reverse_sl_sorted_item_int_int_sorted_item_int_int.fn : Func := Try.f64
abbrev slices_BinarySearchFunc_sl_sorted_item_string_string_sorted_item_string_string_string.id : Nat := 65
noncomputable abbrev slices_BinarySearchFunc_sl_sorted_item_string_string_sorted_item_string_string_string.fn : Func := Try.f65
abbrev sorted_Map_string_string_find_1.id : Nat := 66
noncomputable abbrev sorted_Map_string_string_find_1.fn : Func := Try.f66
abbrev cmp_Compare_string.id : Nat := 67
noncomputable abbrev cmp_Compare_string.fn : Func := Try.f67
abbrev slices_rotateRight_sorted_item_string_string.id : Nat := 69
noncomputable abbrev slices_rotateRight_sorted_item_string_string.fn : Func := Try.f69
abbrev slices_rotateLeft_sorted_item_int_api_Session.id : Nat := 70
noncomputable abbrev slices_rotateLeft_sorted_item_int_api_Session.fn : Func := Try.f70
abbrev cmp_isNaN_string.id : Nat := 71
noncomputable abbrev cmp_isNaN_string.fn : Func := Try.f71
abbrev slices_rotateLeft_sorted_item_string_string.id : Nat := 72
noncomputable abbrev slices_rotateLeft_sorted_item_string_string.fn : Func := Try.f72
abbrev slices_Reverse_sl_sorted_item_int_api_Session_sorted_item_int_api_Session.id : Nat := 73
noncomputable abbrev slices_Reverse_sl_sorted_item_int_api_Session_sorted_item_int_api_Session.fn : Func := Try.f73
abbrev slices_Reverse_sl_sorted_item_string_string_sorted_item_string_string.id : Nat := 74
noncomputable abbrev slices_Reverse_sl_sorted_item_string_string_sorted_item_string_string.fn : Func := Try.f74
abbrev T_ : Nat := 0
abbrev T_func : Nat := 1
abbrev T_int64 : Nat := 2
abbrev T_int : Nat := 3
abbrev T_bool : Nat := 4
abbrev T_uint8 : Nat := 5
abbrev T_abi_BoundsErrorCode : Nat := 6
abbrev T_struct_x_int64_y_int_signed_bool_code_abi_BoundsErrorCode : Nat := 7
abbrev T_runtime_boundsError : Nat := 8
abbrev T_string : Nat := 9
abbrev T_runtime_errorString : Nat := 10
abbrev T_runtime_plainError : Nat := 11
abbrev T_uintptr : Nat := 12
abbrev T_struct_msg_string_addr_uintptr : Nat := 13
abbrev T_runtime_errorAddressString : Nat := 14
abbrev T_p_runtime_TypeAssertionError : Nat := 15
abbrev T_p_runtime_PanicNilError : Nat := 16
abbrev T_p_abi_Type : Nat := 17
abbrev T_struct_typ_p_abi_Type : Nat := 18
abbrev T_maps_unhashableTypeError : Nat := 19
abbrev T_interface : Nat := 20
abbrev T_int32 : Nat := 21
abbrev T_sl_uint8 : Nat := 22
abbrev T_func_bool : Nat := 23
abbrev T_p_ghost_Ghost : Nat := 24
abbrev T_sl_api_Entry : Nat := 25
abbrev T_sl_sorted_item_int_int : Nat := 26
abbrev T_struct_items_sl_sorted_item_int_int : Nat := 27
abbrev T_sorted_Map_int_int : Nat := 28
abbrev T_struct_log_sl_api_Entry_leaders_sorted_Map_int_int_wrong_boo : Nat := 29
abbrev T_ghost_Ghost : Nat := 30
abbrev T_func_int_int_bool : Nat := 31
abbrev T_int_bool : Nat := 32
abbrev T_func_int_int_bool_33 : Nat := 33
abbrev T_func_int : Nat := 34
abbrev T_func_sl_uint8_uint8_bool : Nat := 35
abbrev T_sl_tephralaw06_Say : Nat := 36
abbrev T_api_Op : Nat := 37
abbrev T_struct_Op_api_Op_Client_int_Seq_int_Key_string_Value_string_ : Nat := 38
abbrev T_api_Cmd : Nat := 39
abbrev T_struct_Index_int_Term_int_Cmd_api_Cmd : Nat := 40
abbrev T_api_Entry : Nat := 41
abbrev T_func_sl_tephralaw06_Say_int_int_sl_api_Entry : Nat := 42
abbrev T_func_api_Entry_bool : Nat := 43
abbrev T_func_sl_api_Entry : Nat := 44
abbrev T_func_sl_tephralaw06_Say_api_Entry_bool : Nat := 45
abbrev T_func_sl_tephralaw06_Say_uint8_bool : Nat := 46
abbrev T_sl_api_Pair : Nat := 47
abbrev T_sl_api_Session : Nat := 48
abbrev T_struct_Index_int_Term_int_Pairs_sl_api_Pair_Sessions_sl_api_ : Nat := 49
abbrev T_api_State : Nat := 50
abbrev T_api_State_bool : Nat := 51
abbrev T_func_int_api_State_bool : Nat := 52
abbrev T_func_api_State_api_State_bool : Nat := 53
abbrev T_func_api_State_sl_api_Entry_api_State : Nat := 54
abbrev T_sl_tephralaw16_Act : Nat := 55
abbrev T_int8 : Nat := 56
abbrev T_map_int_int : Nat := 57
abbrev T_struct_Op_uint8_Client_uint8_Seq_uint8_Key_uint8_Value_uint8 : Nat := 58
abbrev T_tephralaw06_Say : Nat := 59
abbrev T_struct_Lead_bool_N_uint8_ID_uint8_Say_tephralaw06_Say : Nat := 60
abbrev T_tephralaw16_Act : Nat := 61
abbrev T_func_api_Cmd : Nat := 62
abbrev T_func_sl_tephralaw16_Act_int8_bool : Nat := 63
abbrev T_func_sl_api_Entry_sl_api_Entry : Nat := 64
abbrev T_func_api_State_sl_uint8 : Nat := 65
abbrev T_api_Errno : Nat := 66
abbrev T_struct_Err_api_Errno_Value_string : Nat := 67
abbrev T_api_Reply : Nat := 68
abbrev T_api_State_api_Reply : Nat := 69
abbrev T_func_api_State_api_Entry_api_State_api_Reply : Nat := 70
abbrev T_p_sorted_Map_int_int : Nat := 71
abbrev T_struct_key_int_value_int : Nat := 72
abbrev T_sorted_item_int_int : Nat := 73
abbrev T_func_sl_sorted_item_int_int_int_sorted_item_int_int_sl_sorte : Nat := 74
abbrev T_p_pack_Writer : Nat := 75
abbrev T_struct_b_sl_uint8 : Nat := 76
abbrev T_pack_Writer : Nat := 77
abbrev T_func_int_p_pack_Writer : Nat := 78
abbrev T_func_p_pack_Writer_sl_api_Pair_sl_api_Session : Nat := 79
abbrev T_func_sl_uint8 : Nat := 80
abbrev T_p_sorted_Map_int_api_Session : Nat := 81
abbrev T_func_api_State_p_sorted_Map_int_api_Session : Nat := 82
abbrev T_struct_Client_int_Seq_int_Reply_api_Reply : Nat := 83
abbrev T_api_Session : Nat := 84
abbrev T_api_Session_bool : Nat := 85
abbrev T_func_int_api_Session_bool : Nat := 86
abbrev T_p_sorted_Map_string_string : Nat := 87
abbrev T_func_api_State_p_sorted_Map_string_string : Nat := 88
abbrev T_func_p_sorted_Map_string_string_api_Cmd_api_Reply : Nat := 89
abbrev T_func_p_sorted_Map_string_string_sl_api_Pair : Nat := 90
abbrev T_func_int_api_Session_bool_91 : Nat := 91
abbrev T_func_func_int_api_Session_bool : Nat := 92
abbrev T_iter_Seq2_int_api_Session : Nat := 93
abbrev T_func_iter_Seq2_int_api_Session : Nat := 94
abbrev T_func_sl_sorted_item_int_int_int_func_sorted_item_int_int_int : Nat := 95
abbrev T_func_int_int_int : Nat := 96
abbrev T_func_sorted_item_int_int_int_int : Nat := 97
abbrev T_func_sl_sorted_item_int_int_sl_sorted_item_int_int_bool : Nat := 98
abbrev T_func_sl_sorted_item_int_int_int : Nat := 99
abbrev T_struct_Key_string_Value_string_Gone_bool : Nat := 100
abbrev T_api_Pair : Nat := 101
abbrev T_func_string_p_pack_Writer : Nat := 102
abbrev T_func_uint8_p_pack_Writer : Nat := 103
abbrev T_func_api_Cmd_bool : Nat := 104
abbrev T_sl_sorted_item_int_api_Session : Nat := 105
abbrev T_struct_items_sl_sorted_item_int_api_Session : Nat := 106
abbrev T_sorted_Map_int_api_Session : Nat := 107
abbrev T_struct_key_int_value_api_Session : Nat := 108
abbrev T_sorted_item_int_api_Session : Nat := 109
abbrev T_sl_sorted_item_string_string : Nat := 110
abbrev T_struct_items_sl_sorted_item_string_string : Nat := 111
abbrev T_sorted_Map_string_string : Nat := 112
abbrev T_func_string_string_bool : Nat := 113
abbrev T_string_bool : Nat := 114
abbrev T_func_string_string_bool_115 : Nat := 115
abbrev T_func_string_bool : Nat := 116
abbrev T_func_func_string_string_bool : Nat := 117
abbrev T_iter_Seq2_string_string : Nat := 118
abbrev T_func_iter_Seq2_string_string : Nat := 119
abbrev T_func_sl_sorted_item_int_api_Session_int_sorted_item_int_api_ : Nat := 120
abbrev T_uint : Nat := 121
abbrev T_func_int_bool : Nat := 122
abbrev T_func_sl_sorted_item_int_api_Session_int_func_sorted_item_int : Nat := 123
abbrev T_func_sorted_item_int_api_Session_int_int : Nat := 124
abbrev T_func_string_int_bool : Nat := 125
abbrev T_struct_key_string_value_string : Nat := 126
abbrev T_sorted_item_string_string : Nat := 127
abbrev T_func_sl_sorted_item_string_string_int_sorted_item_string_str : Nat := 128
abbrev T_func_sl_sorted_item_string_string_int_int_sl_sorted_item_str : Nat := 129
abbrev T_func_sl_sorted_item_int_api_Session_sl_sorted_item_int_api_S : Nat := 130
abbrev T_func_sl_sorted_item_int_api_Session_int : Nat := 131
abbrev T_func_sl_sorted_item_int_int : Nat := 132
abbrev T_func_sl_sorted_item_string_string_string_func_sorted_item_st : Nat := 133
abbrev T_func_string_string_int : Nat := 134
abbrev T_func_sorted_item_string_string_string_int : Nat := 135
abbrev T_func_sl_sorted_item_string_string_sl_sorted_item_string_stri : Nat := 136
abbrev T_func_sl_sorted_item_string_string_int : Nat := 137
abbrev T_func_sl_sorted_item_int_api_Session : Nat := 138
abbrev T_func_sl_sorted_item_string_string : Nat := 139
abbrev T_func_string : Nat := 140
abbrev T_struct__interface_p_abi_Type_concrete_p_abi_Type_asserted_p_ : Nat := 141
abbrev T_runtime_TypeAssertionError : Nat := 142
abbrev T_0_p_runtime_PanicNilError : Nat := 143
abbrev T_struct___0_p_runtime_PanicNilError : Nat := 144
abbrev T_runtime_PanicNilError : Nat := 145
abbrev T_uint32 : Nat := 146
abbrev T_abi_TFlag : Nat := 147
abbrev T_abi_Kind : Nat := 148
abbrev T_func_unsafe_Pointer_unsafe_Pointer_bool : Nat := 149
abbrev T_p_uint8 : Nat := 150
abbrev T_abi_NameOff : Nat := 151
abbrev T_abi_TypeOff : Nat := 152
abbrev T_struct_Size__uintptr_PtrBytes_uintptr_Hash_uint32_TFlag_abi_ : Nat := 153
abbrev T_abi_Type : Nat := 154
abbrev T_func_iter_Seq2_int_int : Nat := 155
abbrev T_unsafe_Pointer : Nat := 156
abbrev T_func_func_int_int_bool : Nat := 157
abbrev T_iter_Seq2_int_int : Nat := 158

/-! 3: tephra/tephralaw16.GhostLead -/
def tephralaw16_GhostLead.cf : Cfg := ⟨[], [(6, [0, 1, 5, 6, 22, 23, 24])], [(10, [0, 1, 5, 6, 9, 22, 23, 24, 52], true), (12, [0, 1, 5, 6, 22, 23, 24], true)], [(81, [0, 5, 10, 11, 81]), (88, [0, 5, 10, 11, 88]), (100, [5, 89, 100]), (101, [5, 101])]⟩
def tephralaw16_GhostLead.l1.st (ids : Sl) (term : Int) (H1 : Hp) (H2 : Hp) (wrong : Bool) (x1 : Int) : VS := ⟨mkFr 107 [(0, .v (.slice ids.a ids.len ids.cap)), (1, .v (.int .u8 term)), (5, .v (.pointer (some (Addr.mk (Array.size H1) 0 none)))), (6, .v (.bool wrong)), (22, .v (.slice (cutA ids.a ids.cap 0 1) (((if (60 : Int) < ((ids.len : Nat) : Int) then 60 else ((ids.len : Nat) : Int)) : Int).toNat) ids.cap)), (23, .v (.int .i64 (((((if (60 : Int) < ((ids.len : Nat) : Int) then 60 else ((ids.len : Nat) : Int)) : Int).toNat) : Nat) : Int))), (24, .v (.int .i64 x1))], [], H2⟩
def tephralaw16_GhostLead.l1 (J : Jn) (ids : Sl) (term : Int) (H1 : Hp) (H2 : Hp) (wrong : Bool) (x1 : Int) (Q : Value → Hp → Prop) : Prop := vAt Try.prog tephralaw16_GhostLead.cf J tephralaw16_GhostLead.fn [1, 1, 1, 1, 0, 1, 0] [0, 0, 0, 0, 0, 0] Q (tephralaw16_GhostLead.l1.st ids term H1 H2 wrong x1)
def tephralaw16_GhostLead.k1.st (ids : Sl) (term : Int) (H1 : Hp) (wrong : Bool) (x1 : Int) (H3 : Hp) (x3 : Bool) (x5 : Bool) : VS := ⟨mkFr 107 [(0, .v (.slice ids.a ids.len ids.cap)), (1, .v (.int .u8 term)), (5, .v (.pointer (some (Addr.mk (Array.size H1) 0 none)))), (6, .v (.bool wrong)), (9, .v (.bool x3)), (22, .v (.slice (cutA ids.a ids.cap 0 1) (((if (60 : Int) < ((ids.len : Nat) : Int) then 60 else ((ids.len : Nat) : Int)) : Int).toNat) ids.cap)), (23, .v (.int .i64 (((((if (60 : Int) < ((ids.len : Nat) : Int) then 60 else ((ids.len : Nat) : Int)) : Int).toNat) : Nat) : Int))), (24, .v (.int .i64 x1)), (52, .v (.bool x5))], [], H3⟩
def tephralaw16_GhostLead.k1 (J : Jn) (ids : Sl) (term : Int) (H1 : Hp) (wrong : Bool) (x1 : Int) (H3 : Hp) (x3 : Bool) (x5 : Bool) (Q : Value → Hp → Prop) : Prop := J (vSeg Try.prog tephralaw16_GhostLead.cf J tephralaw16_GhostLead.fn [1, 1, 1, 1, 0, 1, 0, 0, 1, 1, 0, 0, 1, 1, 0, 1] [0, 0, 0, 0, 0, 0, 0, 0, 0, 0, 0, 0, 0, 0] Q) (tephralaw16_GhostLead.k1.st ids term H1 wrong x1 H3 x3 x5)
def tephralaw16_GhostLead.k2.st (ids : Sl) (term : Int) (H1 : Hp) (x1 : Int) (H3 : Hp) (wrong1 : Bool) : VS := ⟨mkFr 107 [(0, .v (.slice ids.a ids.len ids.cap)), (1, .v (.int .u8 term)), (5, .v (.pointer (some (Addr.mk (Array.size H1) 0 none)))), (6, .v (.bool wrong1)), (22, .v (.slice (cutA ids.a ids.cap 0 1) (((if (60 : Int) < ((ids.len : Nat) : Int) then 60 else ((ids.len : Nat) : Int)) : Int).toNat) ids.cap)), (23, .v (.int .i64 (((((if (60 : Int) < ((ids.len : Nat) : Int) then 60 else ((ids.len : Nat) : Int)) : Int).toNat) : Nat) : Int))), (24, .v (.int .i64 x1))], [], H3⟩
def tephralaw16_GhostLead.k2 (J : Jn) (ids : Sl) (term : Int) (H1 : Hp) (x1 : Int) (H3 : Hp) (wrong1 : Bool) (Q : Value → Hp → Prop) : Prop := J (vSeg Try.prog tephralaw16_GhostLead.cf J tephralaw16_GhostLead.fn [1, 1, 1, 1, 0, 1, 0, 0, 1, 1, 1] [0, 0, 0, 0, 0, 0, 0, 0, 0, 0] Q) (tephralaw16_GhostLead.k2.st ids term H1 x1 H3 wrong1)
def tephralaw16_GhostLead.k3.st (ids : Sl) (H1 : Hp) (x6 : Int) (x7 : Bool) (x11 : Bool) (H7 : Hp) : VS := ⟨mkFr 107 [(0, .v (.slice ids.a ids.len ids.cap)), (5, .v (.pointer (some (Addr.mk (Array.size H1) 0 none)))), (10, .v (.int .i64 x6)), (11, .v (.bool x7)), (81, .v (.bool x11))], [], H7⟩
def tephralaw16_GhostLead.k3 (J : Jn) (ids : Sl) (H1 : Hp) (x6 : Int) (x7 : Bool) (x11 : Bool) (H7 : Hp) (Q : Value → Hp → Prop) : Prop := J (vMid Try.prog tephralaw16_GhostLead.cf J tephralaw16_GhostLead.fn [1, 1, 1, 1, 1, 1, 1, 0] [0, 0, 0, 0, 0, 0, 0, 0] 8 Q) (tephralaw16_GhostLead.k3.st ids H1 x6 x7 x11 H7)
def tephralaw16_GhostLead.k4.st (ids : Sl) (H1 : Hp) (x6 : Int) (x7 : Bool) (H7 : Hp) (x12 : Bool) : VS := ⟨mkFr 107 [(0, .v (.slice ids.a ids.len ids.cap)), (5, .v (.pointer (some (Addr.mk (Array.size H1) 0 none)))), (10, .v (.int .i64 x6)), (11, .v (.bool x7)), (88, .v (.bool x12))], [], H7⟩
def tephralaw16_GhostLead.k4 (J : Jn) (ids : Sl) (H1 : Hp) (x6 : Int) (x7 : Bool) (H7 : Hp) (x12 : Bool) (Q : Value → Hp → Prop) : Prop := J (vMid Try.prog tephralaw16_GhostLead.cf J tephralaw16_GhostLead.fn [1, 1, 1, 1, 1, 1, 1, 0] [0, 0, 0, 0, 0, 0, 0, 0] 15 Q) (tephralaw16_GhostLead.k4.st ids H1 x6 x7 H7 x12)
def tephralaw16_GhostLead.k5.st (H1 : Hp) (H7 : Hp) (x14 : Bool) : VS := ⟨mkFr 107 [(5, .v (.pointer (some (Addr.mk (Array.size H1) 0 none)))), (89, .v (.bool true)), (100, .v (.bool x14))], [], H7⟩
def tephralaw16_GhostLead.k5 (J : Jn) (H1 : Hp) (H7 : Hp) (x14 : Bool) (Q : Value → Hp → Prop) : Prop := J (vMid Try.prog tephralaw16_GhostLead.cf J tephralaw16_GhostLead.fn [1, 1, 1, 1, 1, 1, 1, 0] [0, 0, 0, 0, 0, 0, 0, 0] 27 Q) (tephralaw16_GhostLead.k5.st H1 H7 x14)
def tephralaw16_GhostLead.k6.st (H1 : Hp) (H7 : Hp) : VS := ⟨mkFr 107 [(5, .v (.pointer (some (Addr.mk (Array.size H1) 0 none)))), (89, .v (.bool false)), (100, .v (.tuple #[]))], [], H7⟩
def tephralaw16_GhostLead.k6 (J : Jn) (H1 : Hp) (H7 : Hp) (Q : Value → Hp → Prop) : Prop := J (vMid Try.prog tephralaw16_GhostLead.cf J tephralaw16_GhostLead.fn [1, 1, 1, 1, 1, 1, 1, 0] [0, 0, 0, 0, 0, 0, 0, 0] 27 Q) (tephralaw16_GhostLead.k6.st H1 H7)
def tephralaw16_GhostLead.k7.st (H1 : Hp) (H7 : Hp) (x15 : Bool) : VS := ⟨mkFr 107 [(5, .v (.pointer (some (Addr.mk (Array.size H1) 0 none)))), (101, .v (.bool x15))], [], H7⟩
def tephralaw16_GhostLead.k7 (J : Jn) (H1 : Hp) (H7 : Hp) (x15 : Bool) (Q : Value → Hp → Prop) : Prop := J (vMid Try.prog tephralaw16_GhostLead.cf J tephralaw16_GhostLead.fn [1, 1, 1, 1, 1, 1, 1, 0] [0, 0, 0, 0, 0, 0, 0, 0] 28 Q) (tephralaw16_GhostLead.k7.st H1 H7 x15)
attribute [irreducible] tephralaw16_GhostLead.l1 tephralaw16_GhostLead.k1 tephralaw16_GhostLead.k2 tephralaw16_GhostLead.k3 tephralaw16_GhostLead.k4 tephralaw16_GhostLead.k5 tephralaw16_GhostLead.k6 tephralaw16_GhostLead.k7
def tephralaw16_GhostLead.l1.body (J : Jn) (ids : Sl) (term : Int) (H1 : Hp) (H2 : Hp) (wrong : Bool) (x1 : Int) (Q : Value → Hp → Prop) : Prop :=
 
 Br (decide (x1 < (((((if (60 : Int) < ((ids.len : Nat) : Int) then 60 else ((ids.len : Nat) : Int)) : Int).toNat) : Nat) : Int))) (((0 : Int) ≤ x1 ∧ x1 < (((((if (60 : Int) < ((ids.len : Nat) : Int) then 60 else ((ids.len : Nat) : Int)) : Int).toNat) : Nat) : Int)) ∧ vPtr (cutA ids.a ids.cap 0 1) (fun a => ∃ x2 : Int, Hp.cell? H2 (a.add ((x1 : Int).toNat * 1)) = some (.int .u8 x2) ∧ (3 : Int) ≠ 0 ∧ 
 SCalls Try.prog ghost_Ghost_Lead.id [.pointer (some (Addr.mk (Array.size H1) 0 none)), .int .i64 (w64 (term)), .int .i64 (w64 ((Int.tmod x2 3)))] H2 (fun r1 H3 => ∃ x3 : Bool, r1 = .bool x3 ∧ (3 : Int) ≠ 0 ∧ ((0 : Int) ≤ 0 ∧ (0 : Int) < ((ids.len : Nat) : Int)) ∧ vPtr ids.a (fun a1 => ∃ x4 : Int, Hp.cell? H3 a1 = some (.int .u8 x4) ∧ (3 : Int) ≠ 0 ∧ 
 Br (!(x3 == ((Int.tmod x2 3) == (Int.tmod x4 3)))) (
 tephralaw16_GhostLead.k1 J ids term H1 wrong x1 H3 x3 true Q)
 (
 Br (x1 == 0) (
 tephralaw16_GhostLead.k1 J ids term H1 wrong x1 H3 x3 (!x3) Q)
 (
 tephralaw16_GhostLead.k1 J ids term H1 wrong x1 H3 x3 false Q))))))
 (
 SCalls Try.prog ghost_Ghost_Leader.id [.pointer (some (Addr.mk (Array.size H1) 0 none)), .int .i64 (w64 (term))] H2 (fun r2 H4 => ∃ x6 : Int, ∃ x7 : Bool, r2 = .tuple #[.int .i64 x6, .bool x7] ∧ 
 SCalls Try.prog ghost_Ghost_Leader.id [.pointer (some (Addr.mk (Array.size H1) 0 none)), .int .i64 (w64 ((w64 (term)) + 1))] H4 (fun r3 H5 => ∃ x8 : Int, ∃ x9 : Bool, r3 = .tuple #[.int .i64 x8, .bool x9] ∧ 
 Br (!x9) (
 SCalls Try.prog ghost_Ghost_Wrong.id [.pointer (some (Addr.mk (Array.size H1) 0 none))] H5 (fun r4 H6 => ∃ x10 : Bool, r4 = .bool x10 ∧ 
 tephralaw16_GhostLead.k3 J ids H1 x6 x7 (x10 == wrong) H6 Q))
 (
 tephralaw16_GhostLead.k3 J ids H1 x6 x7 false H5 Q))))
theorem tephralaw16_GhostLead.l1.eq (J : Jn) (ids : Sl) (term : Int) (H1 : Hp) (H2 : Hp) (wrong : Bool) (x1 : Int) (Q : Value → Hp → Prop) : vAtBody Try.prog tephralaw16_GhostLead.cf J tephralaw16_GhostLead.fn [1, 1, 1, 1, 0, 1, 0] [0, 0, 0, 0, 0, 0] Q (tephralaw16_GhostLead.l1.st ids term H1 H2 wrong x1) = tephralaw16_GhostLead.l1.body J ids term H1 H2 wrong x1 Q := by kernel_rfl
theorem tephralaw16_GhostLead.l1.step {ids : Sl} {term : Int} {H1 : Hp} {H2 : Hp} {wrong : Bool} {x1 : Int} {Q : Value → Hp → Prop} (h : tephralaw16_GhostLead.l1.body J0 ids term H1 H2 wrong x1 Q) : tephralaw16_GhostLead.l1 J0 ids term H1 H2 wrong x1 Q := vAt_stepC (tephralaw16_GhostLead.l1.st ids term H1 H2 wrong x1) (tephralaw16_GhostLead.l1.eq J0 ids term H1 H2 wrong x1 Q) (by kernel_rfl) h
def tephralaw16_GhostLead.k1.body (J : Jn) (ids : Sl) (term : Int) (H1 : Hp) (wrong : Bool) (x1 : Int) (H3 : Hp) (x3 : Bool) (x5 : Bool) (Q : Value → Hp → Prop) : Prop :=
 
 Br x5 (Q (.bool false) H3)
 (
 Br wrong (
 tephralaw16_GhostLead.k2 J ids term H1 x1 H3 true Q)
 (
 tephralaw16_GhostLead.k2 J ids term H1 x1 H3 (!x3) Q))
theorem tephralaw16_GhostLead.k1.eq (J : Jn) (ids : Sl) (term : Int) (H1 : Hp) (wrong : Bool) (x1 : Int) (H3 : Hp) (x3 : Bool) (x5 : Bool) (Q : Value → Hp → Prop) : vSeg Try.prog tephralaw16_GhostLead.cf J tephralaw16_GhostLead.fn [1, 1, 1, 1, 0, 1, 0, 0, 1, 1, 0, 0, 1, 1, 0, 1] [0, 0, 0, 0, 0, 0, 0, 0, 0, 0, 0, 0, 0, 0] Q (tephralaw16_GhostLead.k1.st ids term H1 wrong x1 H3 x3 x5) = tephralaw16_GhostLead.k1.body J ids term H1 wrong x1 H3 x3 x5 Q := by kernel_rfl
theorem tephralaw16_GhostLead.k1.step {ids : Sl} {term : Int} {H1 : Hp} {wrong : Bool} {x1 : Int} {H3 : Hp} {x3 : Bool} {x5 : Bool} {Q : Value → Hp → Prop} (h : tephralaw16_GhostLead.k1.body J0 ids term H1 wrong x1 H3 x3 x5 Q) : tephralaw16_GhostLead.k1 J0 ids term H1 wrong x1 H3 x3 x5 Q := step_of (vSeg Try.prog tephralaw16_GhostLead.cf J0 tephralaw16_GhostLead.fn [1, 1, 1, 1, 0, 1, 0, 0, 1, 1, 0, 0, 1, 1, 0, 1] [0, 0, 0, 0, 0, 0, 0, 0, 0, 0, 0, 0, 0, 0] Q) (tephralaw16_GhostLead.k1.st ids term H1 wrong x1 H3 x3 x5) (tephralaw16_GhostLead.k1.eq J0 ids term H1 wrong x1 H3 x3 x5 Q) (by kernel_rfl) h
def tephralaw16_GhostLead.k2.body (J : Jn) (ids : Sl) (term : Int) (H1 : Hp) (x1 : Int) (H3 : Hp) (wrong1 : Bool) (Q : Value → Hp → Prop) : Prop :=
 
 tephralaw16_GhostLead.l1 J ids term H1 H3 wrong1 (w64 (x1 + 1)) Q
theorem tephralaw16_GhostLead.k2.eq (J : Jn) (ids : Sl) (term : Int) (H1 : Hp) (x1 : Int) (H3 : Hp) (wrong1 : Bool) (Q : Value → Hp → Prop) : vSeg Try.prog tephralaw16_GhostLead.cf J tephralaw16_GhostLead.fn [1, 1, 1, 1, 0, 1, 0, 0, 1, 1, 1] [0, 0, 0, 0, 0, 0, 0, 0, 0, 0] Q (tephralaw16_GhostLead.k2.st ids term H1 x1 H3 wrong1) = tephralaw16_GhostLead.k2.body J ids term H1 x1 H3 wrong1 Q := by kernel_rfl
theorem tephralaw16_GhostLead.k2.step {ids : Sl} {term : Int} {H1 : Hp} {x1 : Int} {H3 : Hp} {wrong1 : Bool} {Q : Value → Hp → Prop} (h : tephralaw16_GhostLead.k2.body J0 ids term H1 x1 H3 wrong1 Q) : tephralaw16_GhostLead.k2 J0 ids term H1 x1 H3 wrong1 Q := step_of (vSeg Try.prog tephralaw16_GhostLead.cf J0 tephralaw16_GhostLead.fn [1, 1, 1, 1, 0, 1, 0, 0, 1, 1, 1] [0, 0, 0, 0, 0, 0, 0, 0, 0, 0] Q) (tephralaw16_GhostLead.k2.st ids term H1 x1 H3 wrong1) (tephralaw16_GhostLead.k2.eq J0 ids term H1 x1 H3 wrong1 Q) (by kernel_rfl) h
def tephralaw16_GhostLead.k3.body (J : Jn) (ids : Sl) (H1 : Hp) (x6 : Int) (x7 : Bool) (x11 : Bool) (H7 : Hp) (Q : Value → Hp → Prop) : Prop :=
 
 Br x11 (
 tephralaw16_GhostLead.k4 J ids H1 x6 x7 H7 (x7 == (decide (((ids.len : Nat) : Int) > 0))) Q)
 (
 tephralaw16_GhostLead.k4 J ids H1 x6 x7 H7 false Q)
theorem tephralaw16_GhostLead.k3.eq (J : Jn) (ids : Sl) (H1 : Hp) (x6 : Int) (x7 : Bool) (x11 : Bool) (H7 : Hp) (Q : Value → Hp → Prop) : vMid Try.prog tephralaw16_GhostLead.cf J tephralaw16_GhostLead.fn [1, 1, 1, 1, 1, 1, 1, 0] [0, 0, 0, 0, 0, 0, 0, 0] 8 Q (tephralaw16_GhostLead.k3.st ids H1 x6 x7 x11 H7) = tephralaw16_GhostLead.k3.body J ids H1 x6 x7 x11 H7 Q := by kernel_rfl
theorem tephralaw16_GhostLead.k3.step {ids : Sl} {H1 : Hp} {x6 : Int} {x7 : Bool} {x11 : Bool} {H7 : Hp} {Q : Value → Hp → Prop} (h : tephralaw16_GhostLead.k3.body J0 ids H1 x6 x7 x11 H7 Q) : tephralaw16_GhostLead.k3 J0 ids H1 x6 x7 x11 H7 Q := step_of (vMid Try.prog tephralaw16_GhostLead.cf J0 tephralaw16_GhostLead.fn [1, 1, 1, 1, 1, 1, 1, 0] [0, 0, 0, 0, 0, 0, 0, 0] 8 Q) (tephralaw16_GhostLead.k3.st ids H1 x6 x7 x11 H7) (tephralaw16_GhostLead.k3.eq J0 ids H1 x6 x7 x11 H7 Q) (by kernel_rfl) h
def tephralaw16_GhostLead.k4.body (J : Jn) (ids : Sl) (H1 : Hp) (x6 : Int) (x7 : Bool) (H7 : Hp) (x12 : Bool) (Q : Value → Hp → Prop) : Prop :=
 
 Br x12 (
 Br (!x7) (
 tephralaw16_GhostLead.k5 J H1 H7 true Q)
 (((0 : Int) ≤ 0 ∧ (0 : Int) < ((ids.len : Nat) : Int)) ∧ vPtr ids.a (fun a2 => ∃ x13 : Int, Hp.cell? H7 a2 = some (.int .u8 x13) ∧ (3 : Int) ≠ 0 ∧ 
 tephralaw16_GhostLead.k5 J H1 H7 (x6 == (w64 ((Int.tmod x13 3)))) Q)))
 (
 tephralaw16_GhostLead.k6 J H1 H7 Q)
theorem tephralaw16_GhostLead.k4.eq (J : Jn) (ids : Sl) (H1 : Hp) (x6 : Int) (x7 : Bool) (H7 : Hp) (x12 : Bool) (Q : Value → Hp → Prop) : vMid Try.prog tephralaw16_GhostLead.cf J tephralaw16_GhostLead.fn [1, 1, 1, 1, 1, 1, 1, 0] [0, 0, 0, 0, 0, 0, 0, 0] 15 Q (tephralaw16_GhostLead.k4.st ids H1 x6 x7 H7 x12) = tephralaw16_GhostLead.k4.body J ids H1 x6 x7 H7 x12 Q := by kernel_rfl
theorem tephralaw16_GhostLead.k4.step {ids : Sl} {H1 : Hp} {x6 : Int} {x7 : Bool} {H7 : Hp} {x12 : Bool} {Q : Value → Hp → Prop} (h : tephralaw16_GhostLead.k4.body J0 ids H1 x6 x7 H7 x12 Q) : tephralaw16_GhostLead.k4 J0 ids H1 x6 x7 H7 x12 Q := step_of (vMid Try.prog tephralaw16_GhostLead.cf J0 tephralaw16_GhostLead.fn [1, 1, 1, 1, 1, 1, 1, 0] [0, 0, 0, 0, 0, 0, 0, 0] 15 Q) (tephralaw16_GhostLead.k4.st ids H1 x6 x7 H7 x12) (tephralaw16_GhostLead.k4.eq J0 ids H1 x6 x7 H7 x12 Q) (by kernel_rfl) h
def tephralaw16_GhostLead.k5.body (J : Jn) (H1 : Hp) (H7 : Hp) (x14 : Bool) (Q : Value → Hp → Prop) : Prop :=
 
 tephralaw16_GhostLead.k7 J H1 H7 x14 Q
theorem tephralaw16_GhostLead.k5.eq (J : Jn) (H1 : Hp) (H7 : Hp) (x14 : Bool) (Q : Value → Hp → Prop) : vMid Try.prog tephralaw16_GhostLead.cf J tephralaw16_GhostLead.fn [1, 1, 1, 1, 1, 1, 1, 0] [0, 0, 0, 0, 0, 0, 0, 0] 27 Q (tephralaw16_GhostLead.k5.st H1 H7 x14) = tephralaw16_GhostLead.k5.body J H1 H7 x14 Q := by kernel_rfl
theorem tephralaw16_GhostLead.k5.step {H1 : Hp} {H7 : Hp} {x14 : Bool} {Q : Value → Hp → Prop} (h : tephralaw16_GhostLead.k5.body J0 H1 H7 x14 Q) : tephralaw16_GhostLead.k5 J0 H1 H7 x14 Q := step_of (vMid Try.prog tephralaw16_GhostLead.cf J0 tephralaw16_GhostLead.fn [1, 1, 1, 1, 1, 1, 1, 0] [0, 0, 0, 0, 0, 0, 0, 0] 27 Q) (tephralaw16_GhostLead.k5.st H1 H7 x14) (tephralaw16_GhostLead.k5.eq J0 H1 H7 x14 Q) (by kernel_rfl) h
def tephralaw16_GhostLead.k6.body (J : Jn) (H1 : Hp) (H7 : Hp) (Q : Value → Hp → Prop) : Prop :=
 
 tephralaw16_GhostLead.k7 J H1 H7 false Q
theorem tephralaw16_GhostLead.k6.eq (J : Jn) (H1 : Hp) (H7 : Hp) (Q : Value → Hp → Prop) : vMid Try.prog tephralaw16_GhostLead.cf J tephralaw16_GhostLead.fn [1, 1, 1, 1, 1, 1, 1, 0] [0, 0, 0, 0, 0, 0, 0, 0] 27 Q (tephralaw16_GhostLead.k6.st H1 H7) = tephralaw16_GhostLead.k6.body J H1 H7 Q := by kernel_rfl
theorem tephralaw16_GhostLead.k6.step {H1 : Hp} {H7 : Hp} {Q : Value → Hp → Prop} (h : tephralaw16_GhostLead.k6.body J0 H1 H7 Q) : tephralaw16_GhostLead.k6 J0 H1 H7 Q := step_of (vMid Try.prog tephralaw16_GhostLead.cf J0 tephralaw16_GhostLead.fn [1, 1, 1, 1, 1, 1, 1, 0] [0, 0, 0, 0, 0, 0, 0, 0] 27 Q) (tephralaw16_GhostLead.k6.st H1 H7) (tephralaw16_GhostLead.k6.eq J0 H1 H7 Q) (by kernel_rfl) h
def tephralaw16_GhostLead.k7.body (J : Jn) (H1 : Hp) (H7 : Hp) (x15 : Bool) (Q : Value → Hp → Prop) : Prop :=
 
 Br x15 (
 SCalls Try.prog ghost_Ghost_Len.id [.pointer (some (Addr.mk (Array.size H1) 0 none))] H7 (fun r5 H8 => ∃ x16 : Int, r5 = .int .i64 x16 ∧ Q (.bool (x16 == 0)) H8))
 (Q (.bool false) H7)
theorem tephralaw16_GhostLead.k7.eq (J : Jn) (H1 : Hp) (H7 : Hp) (x15 : Bool) (Q : Value → Hp → Prop) : vMid Try.prog tephralaw16_GhostLead.cf J tephralaw16_GhostLead.fn [1, 1, 1, 1, 1, 1, 1, 0] [0, 0, 0, 0, 0, 0, 0, 0] 28 Q (tephralaw16_GhostLead.k7.st H1 H7 x15) = tephralaw16_GhostLead.k7.body J H1 H7 x15 Q := by kernel_rfl
theorem tephralaw16_GhostLead.k7.step {H1 : Hp} {H7 : Hp} {x15 : Bool} {Q : Value → Hp → Prop} (h : tephralaw16_GhostLead.k7.body J0 H1 H7 x15 Q) : tephralaw16_GhostLead.k7 J0 H1 H7 x15 Q := step_of (vMid Try.prog tephralaw16_GhostLead.cf J0 tephralaw16_GhostLead.fn [1, 1, 1, 1, 1, 1, 1, 0] [0, 0, 0, 0, 0, 0, 0, 0] 28 Q) (tephralaw16_GhostLead.k7.st H1 H7 x15) (tephralaw16_GhostLead.k7.eq J0 H1 H7 x15 Q) (by kernel_rfl) h
def tephralaw16_GhostLead.vc (J : Jn) (ids : Sl) (term : Int) (H : Hp) (Q : Value → Hp → Prop) : Prop :=
 
 SCalls Try.prog tephralaw16_awake.id [] H (fun r H1 => ∃ x : Bool, r = .bool x ∧ 
 Br (!x) (Q (.bool false) H1)
 (((0 : Int) ≤ (if (60 : Int) < ((ids.len : Nat) : Int) then 60 else ((ids.len : Nat) : Int)) ∧ (if (60 : Int) < ((ids.len : Nat) : Int) then 60 else ((ids.len : Nat) : Int)) ≤ ((ids.cap : Nat) : Int)) ∧ 
 tephralaw16_GhostLead.l1 J ids term H1 (Array.push H1 (.cells #[.slice none 0 0, .slice none 0 0, .bool false] T_ghost_Ghost)) false 0 Q))
theorem tephralaw16_GhostLead.eq (J : Jn) (ids : Sl) (term : Int) (H : Hp) (Q : Value → Hp → Prop) : vFn Try.prog tephralaw16_GhostLead.cf J tephralaw16_GhostLead.fn [.slice ids.a ids.len ids.cap, .int .u8 term] H Q = tephralaw16_GhostLead.vc J ids term H Q := by kernel_rfl
theorem tephralaw16_GhostLead.calls {ids : Sl} {term : Int} {H : Hp} {Q : Value → Hp → Prop} (h : tephralaw16_GhostLead.vc J0 ids term H Q) : SCalls Try.prog tephralaw16_GhostLead.id [.slice ids.a ids.len ids.cap, .int .u8 term] H Q := vFn_of Try.mixed Try.func3 (tephralaw16_GhostLead.eq J0 ids term H Q) h

/-! 4: tephra/tephralaw16.GhostKeeps -/
def tephralaw16_GhostKeeps.cf : Cfg := ⟨[3, 8], [(6, [3, 5, 6, 19, 20, 21]), (12, [3, 5, 6, 9, 32, 33]), (18, [6, 9, 11, 44, 45])], [], []⟩
def tephralaw16_GhostKeeps.l1.st (eIndex : Int) (eTerm : Int) (eCmdOp : Int) (eCmdClient : Int) (eCmdSeq : Int) (eCmdKey : ByteArray) (eCmdValue : ByteArray) (eCmdOld : ByteArray) (H1 : Hp) (x1 : Sl) (H3 : Hp) (x2 : Int) : VS := ⟨mkFr 70 [(3, .loc 0 0), (5, .v (.pointer (some (Addr.mk (Array.size H1) 0 none)))), (6, .v (.slice x1.a x1.len x1.cap)), (19, .v (.slice x1.a x1.len x1.cap)), (20, .v (.int .i64 ((x1.len : Nat) : Int))), (21, .v (.int .i64 x2))], [(T_api_Entry, [.int .i64 eIndex, .int .i64 eTerm, .int .i64 eCmdOp, .int .i64 eCmdClient, .int .i64 eCmdSeq, .string eCmdKey, .string eCmdValue, .string eCmdOld])], H3⟩
def tephralaw16_GhostKeeps.l1 (J : Jn) (eIndex : Int) (eTerm : Int) (eCmdOp : Int) (eCmdClient : Int) (eCmdSeq : Int) (eCmdKey : ByteArray) (eCmdValue : ByteArray) (eCmdOld : ByteArray) (H1 : Hp) (x1 : Sl) (H3 : Hp) (x2 : Int) (Q : Value → Hp → Prop) : Prop := vAt Try.prog tephralaw16_GhostKeeps.cf J tephralaw16_GhostKeeps.fn [1, 1, 1, 1, 0, 1, 0] [0, 1, 1, 1, 1, 1] Q (tephralaw16_GhostKeeps.l1.st eIndex eTerm eCmdOp eCmdClient eCmdSeq eCmdKey eCmdValue eCmdOld H1 x1 H3 x2)
def tephralaw16_GhostKeeps.l2.st (eIndex : Int) (eTerm : Int) (eCmdOp : Int) (eCmdClient : Int) (eCmdSeq : Int) (eCmdKey : ByteArray) (eCmdValue : ByteArray) (eCmdOld : ByteArray) (H1 : Hp) (x1 : Sl) (x4 : Sl) (H6 : Hp) (x5 : Int) : VS := ⟨mkFr 70 [(3, .loc 0 0), (5, .v (.pointer (some (Addr.mk (Array.size H1) 0 none)))), (6, .v (.slice x1.a x1.len x1.cap)), (9, .v (.slice x4.a x4.len x4.cap)), (32, .v (.int .i64 ((x4.len : Nat) : Int))), (33, .v (.int .i64 x5))], [(T_api_Entry, [.int .i64 eIndex, .int .i64 eTerm, .int .i64 eCmdOp, .int .i64 eCmdClient, .int .i64 eCmdSeq, .string eCmdKey, .string eCmdValue, .string eCmdOld])], H6⟩
def tephralaw16_GhostKeeps.l2 (J : Jn) (eIndex : Int) (eTerm : Int) (eCmdOp : Int) (eCmdClient : Int) (eCmdSeq : Int) (eCmdKey : ByteArray) (eCmdValue : ByteArray) (eCmdOld : ByteArray) (H1 : Hp) (x1 : Sl) (x4 : Sl) (H6 : Hp) (x5 : Int) (Q : Value → Hp → Prop) : Prop := vAt Try.prog tephralaw16_GhostKeeps.cf J tephralaw16_GhostKeeps.fn [1, 1, 1, 1, 1, 1, 0, 1, 0] [0, 1, 1, 1, 1, 1, 1, 1] Q (tephralaw16_GhostKeeps.l2.st eIndex eTerm eCmdOp eCmdClient eCmdSeq eCmdKey eCmdValue eCmdOld H1 x1 x4 H6 x5)
def tephralaw16_GhostKeeps.l3.st (eIndex : Int) (eTerm : Int) (eCmdOp : Int) (eCmdClient : Int) (eCmdSeq : Int) (eCmdKey : ByteArray) (eCmdValue : ByteArray) (eCmdOld : ByteArray) (x1 : Sl) (x4 : Sl) (x6 : Sl) (H8 : Hp) (x7 : Int) : VS := ⟨mkFr 70 [(6, .v (.slice x1.a x1.len x1.cap)), (9, .v (.slice x4.a x4.len x4.cap)), (11, .v (.slice x6.a x6.len x6.cap)), (44, .v (.int .i64 ((x6.len : Nat) : Int))), (45, .v (.int .i64 x7))], [(T_api_Entry, [.int .i64 eIndex, .int .i64 eTerm, .int .i64 eCmdOp, .int .i64 eCmdClient, .int .i64 eCmdSeq, .string eCmdKey, .string eCmdValue, .string eCmdOld])], H8⟩
def tephralaw16_GhostKeeps.l3 (J : Jn) (eIndex : Int) (eTerm : Int) (eCmdOp : Int) (eCmdClient : Int) (eCmdSeq : Int) (eCmdKey : ByteArray) (eCmdValue : ByteArray) (eCmdOld : ByteArray) (x1 : Sl) (x4 : Sl) (x6 : Sl) (H8 : Hp) (x7 : Int) (Q : Value → Hp → Prop) : Prop := vAt Try.prog tephralaw16_GhostKeeps.cf J tephralaw16_GhostKeeps.fn [1, 1, 1, 1, 1, 1, 1, 1, 0, 1, 0] [0, 1, 1, 1, 1, 1, 1, 1, 1, 1] Q (tephralaw16_GhostKeeps.l3.st eIndex eTerm eCmdOp eCmdClient eCmdSeq eCmdKey eCmdValue eCmdOld x1 x4 x6 H8 x7)
attribute [irreducible] tephralaw16_GhostKeeps.l1 tephralaw16_GhostKeeps.l2 tephralaw16_GhostKeeps.l3
def tephralaw16_GhostKeeps.l1.body (J : Jn) (eIndex : Int) (eTerm : Int) (eCmdOp : Int) (eCmdClient : Int) (eCmdSeq : Int) (eCmdKey : ByteArray) (eCmdValue : ByteArray) (eCmdOld : ByteArray) (H1 : Hp) (x1 : Sl) (H3 : Hp) (x2 : Int) (Q : Value → Hp → Prop) : Prop :=
 
 Br (decide (x2 < ((x1.len : Nat) : Int))) (((0 : Int) ≤ x2 ∧ x2 < ((x1.len : Nat) : Int)) ∧ vPtr x1.a (fun a => ∃ Index : Int, ∃ Term : Int, ∃ CmdOp : Int, ∃ CmdClient : Int, ∃ CmdSeq : Int, ∃ CmdKey : ByteArray, ∃ CmdValue : ByteArray, ∃ CmdOld : ByteArray, RowAt H3 (a.add ((x2 : Int).toNat * 8)) [.int .i64 Index, .int .i64 Term, .int .i64 CmdOp, .int .i64 CmdClient, .int .i64 CmdSeq, .string CmdKey, .string CmdValue, .string CmdOld] ∧ 
 SCalls Try.prog ghost_Ghost_Commit.id [.pointer (some (Addr.mk (Array.size H1) 0 none)), .agg #[.int .i64 Index, .int .i64 Term, .int .i64 CmdOp, .int .i64 CmdClient, .int .i64 CmdSeq, .string CmdKey, .string CmdValue, .string CmdOld]] (holes H3 1) (fun r2 H4 => ∃ x3 : Bool, r2 = .bool x3 ∧ 
 tephralaw16_GhostKeeps.l1 J eIndex eTerm eCmdOp eCmdClient eCmdSeq eCmdKey eCmdValue eCmdOld H1 x1 H4 (w64 (x2 + 1)) Q)))
 (
 SCalls Try.prog ghost_Ghost_Log.id [.pointer (some (Addr.mk (Array.size H1) 0 none))] H3 (fun r3 H5 => ∃ x4 : Sl, r3 = .slice x4.a x4.len x4.cap ∧ 
 tephralaw16_GhostKeeps.l2 J eIndex eTerm eCmdOp eCmdClient eCmdSeq eCmdKey eCmdValue eCmdOld H1 x1 x4 H5 0 Q))
theorem tephralaw16_GhostKeeps.l1.eq (J : Jn) (eIndex : Int) (eTerm : Int) (eCmdOp : Int) (eCmdClient : Int) (eCmdSeq : Int) (eCmdKey : ByteArray) (eCmdValue : ByteArray) (eCmdOld : ByteArray) (H1 : Hp) (x1 : Sl) (H3 : Hp) (x2 : Int) (Q : Value → Hp → Prop) : vAtBody Try.prog tephralaw16_GhostKeeps.cf J tephralaw16_GhostKeeps.fn [1, 1, 1, 1, 0, 1, 0] [0, 1, 1, 1, 1, 1] Q (tephralaw16_GhostKeeps.l1.st eIndex eTerm eCmdOp eCmdClient eCmdSeq eCmdKey eCmdValue eCmdOld H1 x1 H3 x2) = tephralaw16_GhostKeeps.l1.body J eIndex eTerm eCmdOp eCmdClient eCmdSeq eCmdKey eCmdValue eCmdOld H1 x1 H3 x2 Q := by kernel_rfl
theorem tephralaw16_GhostKeeps.l1.step {eIndex : Int} {eTerm : Int} {eCmdOp : Int} {eCmdClient : Int} {eCmdSeq : Int} {eCmdKey : ByteArray} {eCmdValue : ByteArray} {eCmdOld : ByteArray} {H1 : Hp} {x1 : Sl} {H3 : Hp} {x2 : Int} {Q : Value → Hp → Prop} (h : tephralaw16_GhostKeeps.l1.body J0 eIndex eTerm eCmdOp eCmdClient eCmdSeq eCmdKey eCmdValue eCmdOld H1 x1 H3 x2 Q) : tephralaw16_GhostKeeps.l1 J0 eIndex eTerm eCmdOp eCmdClient eCmdSeq eCmdKey eCmdValue eCmdOld H1 x1 H3 x2 Q := vAt_stepC (tephralaw16_GhostKeeps.l1.st eIndex eTerm eCmdOp eCmdClient eCmdSeq eCmdKey eCmdValue eCmdOld H1 x1 H3 x2) (tephralaw16_GhostKeeps.l1.eq J0 eIndex eTerm eCmdOp eCmdClient eCmdSeq eCmdKey eCmdValue eCmdOld H1 x1 H3 x2 Q) (by kernel_rfl) h
def tephralaw16_GhostKeeps.l2.body (J : Jn) (eIndex : Int) (eTerm : Int) (eCmdOp : Int) (eCmdClient : Int) (eCmdSeq : Int) (eCmdKey : ByteArray) (eCmdValue : ByteArray) (eCmdOld : ByteArray) (H1 : Hp) (x1 : Sl) (x4 : Sl) (H6 : Hp) (x5 : Int) (Q : Value → Hp → Prop) : Prop :=
 
 Br (decide (x5 < ((x4.len : Nat) : Int))) (((0 : Int) ≤ x5 ∧ x5 < ((x4.len : Nat) : Int)) ∧ vPtr x4.a (fun a1 => WrAt H6 (a1.add ((x5 : Int).toNat * 8)) 8 ∧ 
 tephralaw16_GhostKeeps.l2 J eIndex eTerm eCmdOp eCmdClient eCmdSeq eCmdKey eCmdValue eCmdOld H1 x1 x4 (Hp.setCells H6 (a1.add ((x5 : Int).toNat * 8)) [.int .i64 eIndex, .int .i64 eTerm, .int .i64 eCmdOp, .int .i64 eCmdClient, .int .i64 eCmdSeq, .string eCmdKey, .string eCmdValue, .string eCmdOld] 0) (w64 (x5 + 1)) Q))
 (
 SCalls Try.prog ghost_Ghost_Log.id [.pointer (some (Addr.mk (Array.size H1) 0 none))] H6 (fun r4 H7 => ∃ x6 : Sl, r4 = .slice x6.a x6.len x6.cap ∧ 
 tephralaw16_GhostKeeps.l3 J eIndex eTerm eCmdOp eCmdClient eCmdSeq eCmdKey eCmdValue eCmdOld x1 x4 x6 H7 0 Q))
theorem tephralaw16_GhostKeeps.l2.eq (J : Jn) (eIndex : Int) (eTerm : Int) (eCmdOp : Int) (eCmdClient : Int) (eCmdSeq : Int) (eCmdKey : ByteArray) (eCmdValue : ByteArray) (eCmdOld : ByteArray) (H1 : Hp) (x1 : Sl) (x4 : Sl) (H6 : Hp) (x5 : Int) (Q : Value → Hp → Prop) : vAtBody Try.prog tephralaw16_GhostKeeps.cf J tephralaw16_GhostKeeps.fn [1, 1, 1, 1, 1, 1, 0, 1, 0] [0, 1, 1, 1, 1, 1, 1, 1] Q (tephralaw16_GhostKeeps.l2.st eIndex eTerm eCmdOp eCmdClient eCmdSeq eCmdKey eCmdValue eCmdOld H1 x1 x4 H6 x5) = tephralaw16_GhostKeeps.l2.body J eIndex eTerm eCmdOp eCmdClient eCmdSeq eCmdKey eCmdValue eCmdOld H1 x1 x4 H6 x5 Q := by kernel_rfl
theorem tephralaw16_GhostKeeps.l2.step {eIndex : Int} {eTerm : Int} {eCmdOp : Int} {eCmdClient : Int} {eCmdSeq : Int} {eCmdKey : ByteArray} {eCmdValue : ByteArray} {eCmdOld : ByteArray} {H1 : Hp} {x1 : Sl} {x4 : Sl} {H6 : Hp} {x5 : Int} {Q : Value → Hp → Prop} (h : tephralaw16_GhostKeeps.l2.body J0 eIndex eTerm eCmdOp eCmdClient eCmdSeq eCmdKey eCmdValue eCmdOld H1 x1 x4 H6 x5 Q) : tephralaw16_GhostKeeps.l2 J0 eIndex eTerm eCmdOp eCmdClient eCmdSeq eCmdKey eCmdValue eCmdOld H1 x1 x4 H6 x5 Q := vAt_stepC (tephralaw16_GhostKeeps.l2.st eIndex eTerm eCmdOp eCmdClient eCmdSeq eCmdKey eCmdValue eCmdOld H1 x1 x4 H6 x5) (tephralaw16_GhostKeeps.l2.eq J0 eIndex eTerm eCmdOp eCmdClient eCmdSeq eCmdKey eCmdValue eCmdOld H1 x1 x4 H6 x5 Q) (by kernel_rfl) h
def tephralaw16_GhostKeeps.l3.body (J : Jn) (eIndex : Int) (eTerm : Int) (eCmdOp : Int) (eCmdClient : Int) (eCmdSeq : Int) (eCmdKey : ByteArray) (eCmdValue : ByteArray) (eCmdOld : ByteArray) (x1 : Sl) (x4 : Sl) (x6 : Sl) (H8 : Hp) (x7 : Int) (Q : Value → Hp → Prop) : Prop :=
 
 Br (decide (x7 < ((x6.len : Nat) : Int))) (((0 : Int) ≤ x7 ∧ x7 < ((x6.len : Nat) : Int)) ∧ vPtr x6.a (fun a2 => ∃ Index1 : Int, ∃ Term1 : Int, ∃ CmdOp1 : Int, ∃ CmdClient1 : Int, ∃ CmdSeq1 : Int, ∃ CmdKey1 : ByteArray, ∃ CmdValue1 : ByteArray, ∃ CmdOld1 : ByteArray, RowAt H8 (a2.add ((x7 : Int).toNat * 8)) [.int .i64 Index1, .int .i64 Term1, .int .i64 CmdOp1, .int .i64 CmdClient1, .int .i64 CmdSeq1, .string CmdKey1, .string CmdValue1, .string CmdOld1] ∧ ((0 : Int) ≤ x7 ∧ x7 < ((x1.len : Nat) : Int)) ∧ vPtr x1.a (fun a3 => ∃ Index2 : Int, ∃ Term2 : Int, ∃ CmdOp2 : Int, ∃ CmdClient2 : Int, ∃ CmdSeq2 : Int, ∃ CmdKey2 : ByteArray, ∃ CmdValue2 : ByteArray, ∃ CmdOld2 : ByteArray, RowAt H8 (a3.add ((x7 : Int).toNat * 8)) [.int .i64 Index2, .int .i64 Term2, .int .i64 CmdOp2, .int .i64 CmdClient2, .int .i64 CmdSeq2, .string CmdKey2, .string CmdValue2, .string CmdOld2] ∧ 
 Br (!((Index1 == Index2) && ((Term1 == Term2) && (((CmdOp1 == CmdOp2) && ((CmdClient1 == CmdClient2) && ((CmdSeq1 == CmdSeq2) && ((CmdKey1 == CmdKey2) && ((CmdValue1 == CmdValue2) && ((CmdOld1 == CmdOld2) && true)))))) && true)))) (Q (.bool false) H8)
 (
 tephralaw16_GhostKeeps.l3 J eIndex eTerm eCmdOp eCmdClient eCmdSeq eCmdKey eCmdValue eCmdOld x1 x4 x6 H8 (w64 (x7 + 1)) Q))))
 (
 Br (((x4.len : Nat) : Int) == ((x1.len : Nat) : Int)) (Q (.bool (((x6.len : Nat) : Int) == ((x1.len : Nat) : Int))) H8)
 (Q (.bool false) H8))
theorem tephralaw16_GhostKeeps.l3.eq (J : Jn) (eIndex : Int) (eTerm : Int) (eCmdOp : Int) (eCmdClient : Int) (eCmdSeq : Int) (eCmdKey : ByteArray) (eCmdValue : ByteArray) (eCmdOld : ByteArray) (x1 : Sl) (x4 : Sl) (x6 : Sl) (H8 : Hp) (x7 : Int) (Q : Value → Hp → Prop) : vAtBody Try.prog tephralaw16_GhostKeeps.cf J tephralaw16_GhostKeeps.fn [1, 1, 1, 1, 1, 1, 1, 1, 0, 1, 0] [0, 1, 1, 1, 1, 1, 1, 1, 1, 1] Q (tephralaw16_GhostKeeps.l3.st eIndex eTerm eCmdOp eCmdClient eCmdSeq eCmdKey eCmdValue eCmdOld x1 x4 x6 H8 x7) = tephralaw16_GhostKeeps.l3.body J eIndex eTerm eCmdOp eCmdClient eCmdSeq eCmdKey eCmdValue eCmdOld x1 x4 x6 H8 x7 Q := by kernel_rfl
theorem tephralaw16_GhostKeeps.l3.step {eIndex : Int} {eTerm : Int} {eCmdOp : Int} {eCmdClient : Int} {eCmdSeq : Int} {eCmdKey : ByteArray} {eCmdValue : ByteArray} {eCmdOld : ByteArray} {x1 : Sl} {x4 : Sl} {x6 : Sl} {H8 : Hp} {x7 : Int} {Q : Value → Hp → Prop} (h : tephralaw16_GhostKeeps.l3.body J0 eIndex eTerm eCmdOp eCmdClient eCmdSeq eCmdKey eCmdValue eCmdOld x1 x4 x6 H8 x7 Q) : tephralaw16_GhostKeeps.l3 J0 eIndex eTerm eCmdOp eCmdClient eCmdSeq eCmdKey eCmdValue eCmdOld x1 x4 x6 H8 x7 Q := vAt_stepC (tephralaw16_GhostKeeps.l3.st eIndex eTerm eCmdOp eCmdClient eCmdSeq eCmdKey eCmdValue eCmdOld x1 x4 x6 H8 x7) (tephralaw16_GhostKeeps.l3.eq J0 eIndex eTerm eCmdOp eCmdClient eCmdSeq eCmdKey eCmdValue eCmdOld x1 x4 x6 H8 x7 Q) (by kernel_rfl) h
def tephralaw16_GhostKeeps.vc (J : Jn) (says : Sl) (eIndex : Int) (eTerm : Int) (eCmdOp : Int) (eCmdClient : Int) (eCmdSeq : Int) (eCmdKey : ByteArray) (eCmdValue : ByteArray) (eCmdOld : ByteArray) (H : Hp) (Q : Value → Hp → Prop) : Prop :=
 
 SCalls Try.prog tephralaw16_awake.id [] (holes H 1) (fun r H1 => ∃ x : Bool, r = .bool x ∧ 
 Br (!x) (Q (.bool false) H1)
 (
 SCalls Try.prog tephralaw06_Entries.id [.slice says.a says.len says.cap, .int .i64 1, .int .i64 0] (Array.push H1 (.cells #[.slice none 0 0, .slice none 0 0, .bool false] T_ghost_Ghost)) (fun r1 H2 => ∃ x1 : Sl, r1 = .slice x1.a x1.len x1.cap ∧ 
 tephralaw16_GhostKeeps.l1 J eIndex eTerm eCmdOp eCmdClient eCmdSeq eCmdKey eCmdValue eCmdOld H1 x1 H2 0 Q)))
theorem tephralaw16_GhostKeeps.eq (J : Jn) (says : Sl) (eIndex : Int) (eTerm : Int) (eCmdOp : Int) (eCmdClient : Int) (eCmdSeq : Int) (eCmdKey : ByteArray) (eCmdValue : ByteArray) (eCmdOld : ByteArray) (H : Hp) (Q : Value → Hp → Prop) : vFn Try.prog tephralaw16_GhostKeeps.cf J tephralaw16_GhostKeeps.fn [.slice says.a says.len says.cap, .agg #[.int .i64 eIndex, .int .i64 eTerm, .int .i64 eCmdOp, .int .i64 eCmdClient, .int .i64 eCmdSeq, .string eCmdKey, .string eCmdValue, .string eCmdOld]] H Q = tephralaw16_GhostKeeps.vc J says eIndex eTerm eCmdOp eCmdClient eCmdSeq eCmdKey eCmdValue eCmdOld H Q := by kernel_rfl
theorem tephralaw16_GhostKeeps.calls {says : Sl} {eIndex : Int} {eTerm : Int} {eCmdOp : Int} {eCmdClient : Int} {eCmdSeq : Int} {eCmdKey : ByteArray} {eCmdValue : ByteArray} {eCmdOld : ByteArray} {H : Hp} {Q : Value → Hp → Prop} (h : tephralaw16_GhostKeeps.vc J0 says eIndex eTerm eCmdOp eCmdClient eCmdSeq eCmdKey eCmdValue eCmdOld H Q) : SCalls Try.prog tephralaw16_GhostKeeps.id [.slice says.a says.len says.cap, .agg #[.int .i64 eIndex, .int .i64 eTerm, .int .i64 eCmdOp, .int .i64 eCmdClient, .int .i64 eCmdSeq, .string eCmdKey, .string eCmdValue, .string eCmdOld]] H Q := vFn_of Try.mixed Try.func4 (tephralaw16_GhostKeeps.eq J0 says eIndex eTerm eCmdOp eCmdClient eCmdSeq eCmdKey eCmdValue eCmdOld H Q) h

/-! 5: tephra/tephralaw16.GhostAhead -/
def tephralaw16_GhostAhead.cf : Cfg := ⟨[8, 9], [(6, [1, 5, 6, 16, 17, 18])], [(11, [1, 5, 6, 46], true)], [(39, [1, 5, 6, 39])]⟩
def tephralaw16_GhostAhead.l1.st (n : Int) (H1 : Hp) (x1 : Sl) (H3 : Hp) (x2 : Int) : VS := ⟨mkFr 101 [(1, .v (.int .u8 n)), (5, .v (.pointer (some (Addr.mk (Array.size H1) 0 none)))), (6, .v (.slice x1.a x1.len x1.cap)), (16, .v (.slice x1.a x1.len x1.cap)), (17, .v (.int .i64 ((x1.len : Nat) : Int))), (18, .v (.int .i64 x2))], [], H3⟩
def tephralaw16_GhostAhead.l1 (J : Jn) (n : Int) (H1 : Hp) (x1 : Sl) (H3 : Hp) (x2 : Int) (Q : Value → Hp → Prop) : Prop := vAt Try.prog tephralaw16_GhostAhead.cf J tephralaw16_GhostAhead.fn [1, 1, 1, 1, 0, 1, 0] [0, 0, 0, 0, 0, 0] Q (tephralaw16_GhostAhead.l1.st n H1 x1 H3 x2)
def tephralaw16_GhostAhead.k1.st (n : Int) (H1 : Hp) (x1 : Sl) (x6 : Bool) (H7 : Hp) : VS := ⟨mkFr 101 [(1, .v (.int .u8 n)), (5, .v (.pointer (some (Addr.mk (Array.size H1) 0 none)))), (6, .v (.slice x1.a x1.len x1.cap)), (39, .v (.bool x6))], [], H7⟩
def tephralaw16_GhostAhead.k1 (J : Jn) (n : Int) (H1 : Hp) (x1 : Sl) (x6 : Bool) (H7 : Hp) (Q : Value → Hp → Prop) : Prop := J (vMid Try.prog tephralaw16_GhostAhead.cf J tephralaw16_GhostAhead.fn [1, 1, 1, 1, 1, 0, 0] [0, 0, 0, 0, 0, 0, 0] 14 Q) (tephralaw16_GhostAhead.k1.st n H1 x1 x6 H7)
def tephralaw16_GhostAhead.k2.st (n : Int) (H1 : Hp) (x1 : Sl) (x8 : Bool) (H9 : Hp) : VS := ⟨mkFr 101 [(1, .v (.int .u8 n)), (5, .v (.pointer (some (Addr.mk (Array.size H1) 0 none)))), (6, .v (.slice x1.a x1.len x1.cap)), (46, .v (.bool x8))], [], H9⟩
def tephralaw16_GhostAhead.k2 (J : Jn) (n : Int) (H1 : Hp) (x1 : Sl) (x8 : Bool) (H9 : Hp) (Q : Value → Hp → Prop) : Prop := J (vSeg Try.prog tephralaw16_GhostAhead.cf J tephralaw16_GhostAhead.fn [1, 1, 1, 1, 1, 0, 1] [0, 0, 0, 0, 0, 0, 0] Q) (tephralaw16_GhostAhead.k2.st n H1 x1 x8 H9)
attribute [irreducible] tephralaw16_GhostAhead.l1 tephralaw16_GhostAhead.k1 tephralaw16_GhostAhead.k2
def tephralaw16_GhostAhead.l1.body (J : Jn) (n : Int) (H1 : Hp) (x1 : Sl) (H3 : Hp) (x2 : Int) (Q : Value → Hp → Prop) : Prop :=
 
 Br (decide (x2 < ((x1.len : Nat) : Int))) (((0 : Int) ≤ x2 ∧ x2 < ((x1.len : Nat) : Int)) ∧ vPtr x1.a (fun a => ∃ Index : Int, ∃ Term : Int, ∃ CmdOp : Int, ∃ CmdClient : Int, ∃ CmdSeq : Int, ∃ CmdKey : ByteArray, ∃ CmdValue : ByteArray, ∃ CmdOld : ByteArray, RowAt H3 (a.add ((x2 : Int).toNat * 8)) [.int .i64 Index, .int .i64 Term, .int .i64 CmdOp, .int .i64 CmdClient, .int .i64 CmdSeq, .string CmdKey, .string CmdValue, .string CmdOld] ∧ 
 SCalls Try.prog ghost_Ghost_Commit.id [.pointer (some (Addr.mk (Array.size H1) 0 none)), .agg #[.int .i64 Index, .int .i64 Term, .int .i64 CmdOp, .int .i64 CmdClient, .int .i64 CmdSeq, .string CmdKey, .string CmdValue, .string CmdOld]] (holes H3 1) (fun r2 H4 => ∃ x3 : Bool, r2 = .bool x3 ∧ 
 tephralaw16_GhostAhead.l1 J n H1 x1 H4 (w64 (x2 + 1)) Q)))
 (
 SCalls Try.prog ghost_Ghost_Commit.id [.pointer (some (Addr.mk (Array.size H1) 0 none)), .agg #[.int .i64 (w64 ((w64 (((x1.len : Nat) : Int) + 2)) + (w64 (n)))), .int .i64 0, .int .i64 0, .int .i64 0, .int .i64 0, .string (ByteArray.mk #[]), .string (ByteArray.mk #[]), .string (ByteArray.mk #[])]] H3 (fun r3 H5 => ∃ x4 : Bool, r3 = .bool x4 ∧ 
 Br x4 (
 tephralaw16_GhostAhead.k1 J n H1 x1 true H5 Q)
 (
 SCalls Try.prog ghost_Ghost_Wrong.id [.pointer (some (Addr.mk (Array.size H1) 0 none))] H5 (fun r4 H6 => ∃ x5 : Bool, r4 = .bool x5 ∧ 
 tephralaw16_GhostAhead.k1 J n H1 x1 (!x5) H6 Q))))
theorem tephralaw16_GhostAhead.l1.eq (J : Jn) (n : Int) (H1 : Hp) (x1 : Sl) (H3 : Hp) (x2 : Int) (Q : Value → Hp → Prop) : vAtBody Try.prog tephralaw16_GhostAhead.cf J tephralaw16_GhostAhead.fn [1, 1, 1, 1, 0, 1, 0] [0, 0, 0, 0, 0, 0] Q (tephralaw16_GhostAhead.l1.st n H1 x1 H3 x2) = tephralaw16_GhostAhead.l1.body J n H1 x1 H3 x2 Q := by kernel_rfl
theorem tephralaw16_GhostAhead.l1.step {n : Int} {H1 : Hp} {x1 : Sl} {H3 : Hp} {x2 : Int} {Q : Value → Hp → Prop} (h : tephralaw16_GhostAhead.l1.body J0 n H1 x1 H3 x2 Q) : tephralaw16_GhostAhead.l1 J0 n H1 x1 H3 x2 Q := vAt_stepC (tephralaw16_GhostAhead.l1.st n H1 x1 H3 x2) (tephralaw16_GhostAhead.l1.eq J0 n H1 x1 H3 x2 Q) (by kernel_rfl) h
def tephralaw16_GhostAhead.k1.body (J : Jn) (n : Int) (H1 : Hp) (x1 : Sl) (x6 : Bool) (H7 : Hp) (Q : Value → Hp → Prop) : Prop :=
 
 Br x6 (
 tephralaw16_GhostAhead.k2 J n H1 x1 true H7 Q)
 (
 SCalls Try.prog ghost_Ghost_Len.id [.pointer (some (Addr.mk (Array.size H1) 0 none))] H7 (fun r5 H8 => ∃ x7 : Int, r5 = .int .i64 x7 ∧ 
 tephralaw16_GhostAhead.k2 J n H1 x1 (x7 != ((x1.len : Nat) : Int)) H8 Q))
theorem tephralaw16_GhostAhead.k1.eq (J : Jn) (n : Int) (H1 : Hp) (x1 : Sl) (x6 : Bool) (H7 : Hp) (Q : Value → Hp → Prop) : vMid Try.prog tephralaw16_GhostAhead.cf J tephralaw16_GhostAhead.fn [1, 1, 1, 1, 1, 0, 0] [0, 0, 0, 0, 0, 0, 0] 14 Q (tephralaw16_GhostAhead.k1.st n H1 x1 x6 H7) = tephralaw16_GhostAhead.k1.body J n H1 x1 x6 H7 Q := by kernel_rfl
theorem tephralaw16_GhostAhead.k1.step {n : Int} {H1 : Hp} {x1 : Sl} {x6 : Bool} {H7 : Hp} {Q : Value → Hp → Prop} (h : tephralaw16_GhostAhead.k1.body J0 n H1 x1 x6 H7 Q) : tephralaw16_GhostAhead.k1 J0 n H1 x1 x6 H7 Q := step_of (vMid Try.prog tephralaw16_GhostAhead.cf J0 tephralaw16_GhostAhead.fn [1, 1, 1, 1, 1, 0, 0] [0, 0, 0, 0, 0, 0, 0] 14 Q) (tephralaw16_GhostAhead.k1.st n H1 x1 x6 H7) (tephralaw16_GhostAhead.k1.eq J0 n H1 x1 x6 H7 Q) (by kernel_rfl) h
def tephralaw16_GhostAhead.k2.body (J : Jn) (n : Int) (H1 : Hp) (x1 : Sl) (x8 : Bool) (H9 : Hp) (Q : Value → Hp → Prop) : Prop :=
 
 Br x8 (Q (.bool false) H9)
 (
 Br (((x1.len : Nat) : Int) == 0) (
 SCalls Try.prog ghost_Ghost_Commit.id [.pointer (some (Addr.mk (Array.size H1) 0 none)), .agg #[.int .i64 0, .int .i64 0, .int .i64 0, .int .i64 0, .int .i64 0, .string (ByteArray.mk #[]), .string (ByteArray.mk #[]), .string (ByteArray.mk #[])]] H9 (fun r6 H10 => ∃ x9 : Bool, r6 = .bool x9 ∧ 
 Br (!x9) (
 SCalls Try.prog ghost_Ghost_Len.id [.pointer (some (Addr.mk (Array.size H1) 0 none))] H10 (fun r7 H11 => ∃ x10 : Int, r7 = .int .i64 x10 ∧ Q (.bool (x10 == 0)) H11))
 (Q (.bool false) H10)))
 ((((x1.len : Nat) : Int) : Int) ≠ 0 ∧ ((0 : Int) ≤ (Int.tmod (w64 (n)) ((x1.len : Nat) : Int)) ∧ (Int.tmod (w64 (n)) ((x1.len : Nat) : Int)) < ((x1.len : Nat) : Int)) ∧ vPtr x1.a (fun a1 => ∃ Index1 : Int, ∃ Term1 : Int, ∃ CmdOp1 : Int, ∃ CmdClient1 : Int, ∃ CmdSeq1 : Int, ∃ CmdKey1 : ByteArray, ∃ CmdValue1 : ByteArray, ∃ CmdOld1 : ByteArray, RowAt H9 (a1.add (((Int.tmod (w64 (n)) ((x1.len : Nat) : Int)) : Int).toNat * 8)) [.int .i64 Index1, .int .i64 Term1, .int .i64 CmdOp1, .int .i64 CmdClient1, .int .i64 CmdSeq1, .string CmdKey1, .string CmdValue1, .string CmdOld1] ∧ 
 SCalls Try.prog ghost_Ghost_Commit.id [.pointer (some (Addr.mk (Array.size H1) 0 none)), .agg #[.int .i64 Index1, .int .i64 (w64 (Term1 + 1000)), .int .i64 CmdOp1, .int .i64 CmdClient1, .int .i64 CmdSeq1, .string CmdKey1, .string CmdValue1, .string CmdOld1]] (holes H9 1) (fun r8 H12 => ∃ x11 : Bool, r8 = .bool x11 ∧ 
 Br (!x11) (((0 : Int) ≤ (w64 (Index1 - 1)) ∧ (w64 (Index1 - 1)) < ((x1.len : Nat) : Int)) ∧ vPtr x1.a (fun a2 => 
  (
 SCalls Try.prog ghost_Ghost_Log.id [.pointer (some (Addr.mk (Array.size H1) 0 none))] H12 (fun r9 H13 => ∃ x12 : Sl, r9 = .slice x12.a x12.len x12.cap ∧ ((0 : Int) ≤ (w64 (Index1 - 1)) ∧ (w64 (Index1 - 1)) < ((x12.len : Nat) : Int)) ∧ vPtr x12.a (fun a3 => 
  (∃ Index2 : Int, ∃ Term2 : Int, ∃ CmdOp2 : Int, ∃ CmdClient2 : Int, ∃ CmdSeq2 : Int, ∃ CmdKey2 : ByteArray, ∃ CmdValue2 : ByteArray, ∃ CmdOld2 : ByteArray, RowAt H13 (a3.add (((w64 (Index1 - 1)) : Int).toNat * 8)) [.int .i64 Index2, .int .i64 Term2, .int .i64 CmdOp2, .int .i64 CmdClient2, .int .i64 CmdSeq2, .string CmdKey2, .string CmdValue2, .string CmdOld2] ∧ ∃ Index3 : Int, ∃ Term3 : Int, ∃ CmdOp3 : Int, ∃ CmdClient3 : Int, ∃ CmdSeq3 : Int, ∃ CmdKey3 : ByteArray, ∃ CmdValue3 : ByteArray, ∃ CmdOld3 : ByteArray, RowAt H13 (a2.add (((w64 (Index1 - 1)) : Int).toNat * 8)) [.int .i64 Index3, .int .i64 Term3, .int .i64 CmdOp3, .int .i64 CmdClient3, .int .i64 CmdSeq3, .string CmdKey3, .string CmdValue3, .string CmdOld3] ∧ 
 Br ((Index2 == Index3) && ((Term2 == Term3) && (((CmdOp2 == CmdOp3) && ((CmdClient2 == CmdClient3) && ((CmdSeq2 == CmdSeq3) && ((CmdKey2 == CmdKey3) && ((CmdValue2 == CmdValue3) && ((CmdOld2 == CmdOld3) && true)))))) && true))) (((0 : Int) ≤ (w64 (Index1 - 1)) ∧ (w64 (Index1 - 1)) < ((x1.len : Nat) : Int)) ∧ vPtr x1.a (fun a4 => ∃ Index4 : Int, ∃ Term4 : Int, ∃ CmdOp4 : Int, ∃ CmdClient4 : Int, ∃ CmdSeq4 : Int, ∃ CmdKey4 : ByteArray, ∃ CmdValue4 : ByteArray, ∃ CmdOld4 : ByteArray, RowAt H13 (a4.add (((w64 (Index1 - 1)) : Int).toNat * 8)) [.int .i64 Index4, .int .i64 Term4, .int .i64 CmdOp4, .int .i64 CmdClient4, .int .i64 CmdSeq4, .string CmdKey4, .string CmdValue4, .string CmdOld4] ∧ 
 SCalls Try.prog ghost_Ghost_Commit.id [.pointer (some (Addr.mk (Array.size H1) 0 none)), .agg #[.int .i64 Index4, .int .i64 Term4, .int .i64 CmdOp4, .int .i64 CmdClient4, .int .i64 CmdSeq4, .string CmdKey4, .string CmdValue4, .string CmdOld4]] H13 (fun r10 H14 => ∃ x13 : Bool, r10 = .bool x13 ∧ Q (.bool x13) H14)))
 (Q (.bool false) H13)) ∧ 
  (∃ Index5 : Int, ∃ Term5 : Int, ∃ CmdOp5 : Int, ∃ CmdClient5 : Int, ∃ CmdSeq5 : Int, ∃ CmdKey5 : ByteArray, ∃ CmdValue5 : ByteArray, ∃ CmdOld5 : ByteArray, RowAt H13 (a2.add (((w64 (Index1 - 1)) : Int).toNat * 8)) [.int .i64 Index5, .int .i64 Term5, .int .i64 CmdOp5, .int .i64 CmdClient5, .int .i64 CmdSeq5, .string CmdKey5, .string CmdValue5, .string CmdOld5] ∧ ∃ Index6 : Int, ∃ Term6 : Int, ∃ CmdOp6 : Int, ∃ CmdClient6 : Int, ∃ CmdSeq6 : Int, ∃ CmdKey6 : ByteArray, ∃ CmdValue6 : ByteArray, ∃ CmdOld6 : ByteArray, RowAt H13 (a3.add (((w64 (Index1 - 1)) : Int).toNat * 8)) [.int .i64 Index6, .int .i64 Term6, .int .i64 CmdOp6, .int .i64 CmdClient6, .int .i64 CmdSeq6, .string CmdKey6, .string CmdValue6, .string CmdOld6] ∧ 
 Br ((Index6 == Index5) && ((Term6 == Term5) && (((CmdOp6 == CmdOp5) && ((CmdClient6 == CmdClient5) && ((CmdSeq6 == CmdSeq5) && ((CmdKey6 == CmdKey5) && ((CmdValue6 == CmdValue5) && ((CmdOld6 == CmdOld5) && true)))))) && true))) (((0 : Int) ≤ (w64 (Index1 - 1)) ∧ (w64 (Index1 - 1)) < ((x1.len : Nat) : Int)) ∧ vPtr x1.a (fun a5 => ∃ Index7 : Int, ∃ Term7 : Int, ∃ CmdOp7 : Int, ∃ CmdClient7 : Int, ∃ CmdSeq7 : Int, ∃ CmdKey7 : ByteArray, ∃ CmdValue7 : ByteArray, ∃ CmdOld7 : ByteArray, RowAt H13 (a5.add (((w64 (Index1 - 1)) : Int).toNat * 8)) [.int .i64 Index7, .int .i64 Term7, .int .i64 CmdOp7, .int .i64 CmdClient7, .int .i64 CmdSeq7, .string CmdKey7, .string CmdValue7, .string CmdOld7] ∧ 
 SCalls Try.prog ghost_Ghost_Commit.id [.pointer (some (Addr.mk (Array.size H1) 0 none)), .agg #[.int .i64 Index7, .int .i64 Term7, .int .i64 CmdOp7, .int .i64 CmdClient7, .int .i64 CmdSeq7, .string CmdKey7, .string CmdValue7, .string CmdOld7]] H13 (fun r11 H15 => ∃ x14 : Bool, r11 = .bool x14 ∧ Q (.bool x14) H15)))
 (Q (.bool false) H13))))) ∧ 
  (∃ Index8 : Int, ∃ Term8 : Int, ∃ CmdOp8 : Int, ∃ CmdClient8 : Int, ∃ CmdSeq8 : Int, ∃ CmdKey8 : ByteArray, ∃ CmdValue8 : ByteArray, ∃ CmdOld8 : ByteArray, RowAt H12 (a2.add (((w64 (Index1 - 1)) : Int).toNat * 8)) [.int .i64 Index8, .int .i64 Term8, .int .i64 CmdOp8, .int .i64 CmdClient8, .int .i64 CmdSeq8, .string CmdKey8, .string CmdValue8, .string CmdOld8] ∧ 
 SCalls Try.prog ghost_Ghost_Log.id [.pointer (some (Addr.mk (Array.size H1) 0 none))] H12 (fun r12 H16 => ∃ x15 : Sl, r12 = .slice x15.a x15.len x15.cap ∧ ((0 : Int) ≤ (w64 (Index1 - 1)) ∧ (w64 (Index1 - 1)) < ((x15.len : Nat) : Int)) ∧ vPtr x15.a (fun a6 => ∃ Index9 : Int, ∃ Term9 : Int, ∃ CmdOp9 : Int, ∃ CmdClient9 : Int, ∃ CmdSeq9 : Int, ∃ CmdKey9 : ByteArray, ∃ CmdValue9 : ByteArray, ∃ CmdOld9 : ByteArray, RowAt H16 (a6.add (((w64 (Index1 - 1)) : Int).toNat * 8)) [.int .i64 Index9, .int .i64 Term9, .int .i64 CmdOp9, .int .i64 CmdClient9, .int .i64 CmdSeq9, .string CmdKey9, .string CmdValue9, .string CmdOld9] ∧ 
 Br ((Index9 == Index8) && ((Term9 == Term8) && (((CmdOp9 == CmdOp8) && ((CmdClient9 == CmdClient8) && ((CmdSeq9 == CmdSeq8) && ((CmdKey9 == CmdKey8) && ((CmdValue9 == CmdValue8) && ((CmdOld9 == CmdOld8) && true)))))) && true))) (((0 : Int) ≤ (w64 (Index1 - 1)) ∧ (w64 (Index1 - 1)) < ((x1.len : Nat) : Int)) ∧ vPtr x1.a (fun a7 => ∃ Index10 : Int, ∃ Term10 : Int, ∃ CmdOp10 : Int, ∃ CmdClient10 : Int, ∃ CmdSeq10 : Int, ∃ CmdKey10 : ByteArray, ∃ CmdValue10 : ByteArray, ∃ CmdOld10 : ByteArray, RowAt H16 (a7.add (((w64 (Index1 - 1)) : Int).toNat * 8)) [.int .i64 Index10, .int .i64 Term10, .int .i64 CmdOp10, .int .i64 CmdClient10, .int .i64 CmdSeq10, .string CmdKey10, .string CmdValue10, .string CmdOld10] ∧ 
 SCalls Try.prog ghost_Ghost_Commit.id [.pointer (some (Addr.mk (Array.size H1) 0 none)), .agg #[.int .i64 Index10, .int .i64 Term10, .int .i64 CmdOp10, .int .i64 CmdClient10, .int .i64 CmdSeq10, .string CmdKey10, .string CmdValue10, .string CmdOld10]] H16 (fun r13 H17 => ∃ x16 : Bool, r13 = .bool x16 ∧ Q (.bool x16) H17)))
 (Q (.bool false) H16))))))
 (
  (
  (
  (Q (.bool false) H12) ∧ 
  (
  (Q (.bool false) H12) ∧ 
  (Q (.bool false) H12))) ∧ 
  (
  (
  (Q (.bool false) H12) ∧ 
  (Q (.bool false) H12)) ∧ 
  (Q (.bool false) H12))) ∧ 
  (
  (
  (Q (.bool false) H12) ∧ 
  (
  (Q (.bool false) H12) ∧ 
  (Q (.bool false) H12))) ∧ 
  (
  (
  (Q (.bool false) H12) ∧ 
  (Q (.bool false) H12)) ∧ 
  (Q (.bool false) H12))) ∧ 
  (
  (
  (
  (Q (.bool false) H12) ∧ 
  (Q (.bool false) H12)) ∧ 
  (Q (.bool false) H12)) ∧ 
  (
  (
  (Q (.bool false) H12) ∧ 
  (Q (.bool false) H12)) ∧ 
  (Q (.bool false) H12)) ∧ 
  (
  (Q (.bool false) H12) ∧ 
  (Q (.bool false) H12))))))))
theorem tephralaw16_GhostAhead.k2.eq (J : Jn) (n : Int) (H1 : Hp) (x1 : Sl) (x8 : Bool) (H9 : Hp) (Q : Value → Hp → Prop) : vSeg Try.prog tephralaw16_GhostAhead.cf J tephralaw16_GhostAhead.fn [1, 1, 1, 1, 1, 0, 1] [0, 0, 0, 0, 0, 0, 0] Q (tephralaw16_GhostAhead.k2.st n H1 x1 x8 H9) = tephralaw16_GhostAhead.k2.body J n H1 x1 x8 H9 Q := by kernel_rfl
theorem tephralaw16_GhostAhead.k2.step {n : Int} {H1 : Hp} {x1 : Sl} {x8 : Bool} {H9 : Hp} {Q : Value → Hp → Prop} (h : tephralaw16_GhostAhead.k2.body J0 n H1 x1 x8 H9 Q) : tephralaw16_GhostAhead.k2 J0 n H1 x1 x8 H9 Q := step_of (vSeg Try.prog tephralaw16_GhostAhead.cf J0 tephralaw16_GhostAhead.fn [1, 1, 1, 1, 1, 0, 1] [0, 0, 0, 0, 0, 0, 0] Q) (tephralaw16_GhostAhead.k2.st n H1 x1 x8 H9) (tephralaw16_GhostAhead.k2.eq J0 n H1 x1 x8 H9 Q) (by kernel_rfl) h
def tephralaw16_GhostAhead.vc (J : Jn) (says : Sl) (n : Int) (H : Hp) (Q : Value → Hp → Prop) : Prop :=
 
 SCalls Try.prog tephralaw16_awake.id [] H (fun r H1 => ∃ x : Bool, r = .bool x ∧ 
 Br (!x) (Q (.bool false) H1)
 (
 SCalls Try.prog tephralaw06_Entries.id [.slice says.a says.len says.cap, .int .i64 1, .int .i64 0] (Array.push H1 (.cells #[.slice none 0 0, .slice none 0 0, .bool false] T_ghost_Ghost)) (fun r1 H2 => ∃ x1 : Sl, r1 = .slice x1.a x1.len x1.cap ∧ 
 tephralaw16_GhostAhead.l1 J n H1 x1 H2 0 Q)))
theorem tephralaw16_GhostAhead.eq (J : Jn) (says : Sl) (n : Int) (H : Hp) (Q : Value → Hp → Prop) : vFn Try.prog tephralaw16_GhostAhead.cf J tephralaw16_GhostAhead.fn [.slice says.a says.len says.cap, .int .u8 n] H Q = tephralaw16_GhostAhead.vc J says n H Q := by kernel_rfl
theorem tephralaw16_GhostAhead.calls {says : Sl} {n : Int} {H : Hp} {Q : Value → Hp → Prop} (h : tephralaw16_GhostAhead.vc J0 says n H Q) : SCalls Try.prog tephralaw16_GhostAhead.id [.slice says.a says.len says.cap, .int .u8 n] H Q := vFn_of Try.mixed Try.func5 (tephralaw16_GhostAhead.eq J0 says n H Q) h

/-! 8: tephra/tephralaw16.awake -/
def tephralaw16_awake.cf : Cfg := ⟨[], [], [], [(35, [1, 4, 5, 6, 7, 8, 9, 35]), (38, [1, 5, 6, 7, 8, 9, 38]), (42, [1, 6, 7, 8, 9, 42]), (46, [1, 7, 8, 9, 46]), (50, [1, 8, 9, 50]), (54, [1, 8, 9, 54]), (58, [1, 9, 58]), (61, [1, 61])]⟩
def tephralaw16_awake.k1.st (H : Hp) (x2 : Bool) (x3 : Bool) (x4 : Bool) (x5 : Bool) (H7 : Hp) (x6 : Int) (x7 : Bool) (x8 : Bool) : VS := ⟨mkFr 67 [(1, .v (.pointer (some (Addr.mk (Array.size H) 0 none)))), (4, .v (.bool x2)), (5, .v (.bool x3)), (6, .v (.bool x4)), (7, .v (.bool x5)), (8, .v (.int .i64 x6)), (9, .v (.bool x7)), (35, .v (.bool x8))], [], H7⟩
def tephralaw16_awake.k1 (J : Jn) (H : Hp) (x2 : Bool) (x3 : Bool) (x4 : Bool) (x5 : Bool) (H7 : Hp) (x6 : Int) (x7 : Bool) (x8 : Bool) (Q : Value → Hp → Prop) : Prop := J (vMid Try.prog tephralaw16_awake.cf J tephralaw16_awake.fn [1, 1, 1, 1, 1, 1, 1, 0] [0, 0, 0, 0, 0, 0, 0, 0] 4 Q) (tephralaw16_awake.k1.st H x2 x3 x4 x5 H7 x6 x7 x8)
def tephralaw16_awake.k2.st (H : Hp) (x3 : Bool) (x4 : Bool) (x5 : Bool) (H7 : Hp) (x6 : Int) (x7 : Bool) (x9 : Bool) : VS := ⟨mkFr 67 [(1, .v (.pointer (some (Addr.mk (Array.size H) 0 none)))), (5, .v (.bool x3)), (6, .v (.bool x4)), (7, .v (.bool x5)), (8, .v (.int .i64 x6)), (9, .v (.bool x7)), (38, .v (.bool x9))], [], H7⟩
def tephralaw16_awake.k2 (J : Jn) (H : Hp) (x3 : Bool) (x4 : Bool) (x5 : Bool) (H7 : Hp) (x6 : Int) (x7 : Bool) (x9 : Bool) (Q : Value → Hp → Prop) : Prop := J (vMid Try.prog tephralaw16_awake.cf J tephralaw16_awake.fn [1, 1, 1, 1, 1, 1, 1, 0] [0, 0, 0, 0, 0, 0, 0, 0] 7 Q) (tephralaw16_awake.k2.st H x3 x4 x5 H7 x6 x7 x9)
def tephralaw16_awake.k3.st (H : Hp) (x4 : Bool) (x5 : Bool) (H7 : Hp) (x6 : Int) (x7 : Bool) (x10 : Bool) : VS := ⟨mkFr 67 [(1, .v (.pointer (some (Addr.mk (Array.size H) 0 none)))), (6, .v (.bool x4)), (7, .v (.bool x5)), (8, .v (.int .i64 x6)), (9, .v (.bool x7)), (42, .v (.bool x10))], [], H7⟩
def tephralaw16_awake.k3 (J : Jn) (H : Hp) (x4 : Bool) (x5 : Bool) (H7 : Hp) (x6 : Int) (x7 : Bool) (x10 : Bool) (Q : Value → Hp → Prop) : Prop := J (vMid Try.prog tephralaw16_awake.cf J tephralaw16_awake.fn [1, 1, 1, 1, 1, 1, 1, 0] [0, 0, 0, 0, 0, 0, 0, 0] 11 Q) (tephralaw16_awake.k3.st H x4 x5 H7 x6 x7 x10)
def tephralaw16_awake.k4.st (H : Hp) (x5 : Bool) (H7 : Hp) (x6 : Int) (x7 : Bool) (x11 : Bool) : VS := ⟨mkFr 67 [(1, .v (.pointer (some (Addr.mk (Array.size H) 0 none)))), (7, .v (.bool x5)), (8, .v (.int .i64 x6)), (9, .v (.bool x7)), (46, .v (.bool x11))], [], H7⟩
def tephralaw16_awake.k4 (J : Jn) (H : Hp) (x5 : Bool) (H7 : Hp) (x6 : Int) (x7 : Bool) (x11 : Bool) (Q : Value → Hp → Prop) : Prop := J (vMid Try.prog tephralaw16_awake.cf J tephralaw16_awake.fn [1, 1, 1, 1, 1, 1, 1, 0] [0, 0, 0, 0, 0, 0, 0, 0] 15 Q) (tephralaw16_awake.k4.st H x5 H7 x6 x7 x11)
def tephralaw16_awake.k5.st (H : Hp) (H7 : Hp) (x6 : Int) (x7 : Bool) (x12 : Bool) : VS := ⟨mkFr 67 [(1, .v (.pointer (some (Addr.mk (Array.size H) 0 none)))), (8, .v (.int .i64 x6)), (9, .v (.bool x7)), (50, .v (.bool x12))], [], H7⟩
def tephralaw16_awake.k5 (J : Jn) (H : Hp) (H7 : Hp) (x6 : Int) (x7 : Bool) (x12 : Bool) (Q : Value → Hp → Prop) : Prop := J (vMid Try.prog tephralaw16_awake.cf J tephralaw16_awake.fn [1, 1, 1, 1, 1, 1, 1, 0] [0, 0, 0, 0, 0, 0, 0, 0] 19 Q) (tephralaw16_awake.k5.st H H7 x6 x7 x12)
def tephralaw16_awake.k6.st (H : Hp) (x6 : Int) (x7 : Bool) (x14 : Bool) (H9 : Hp) : VS := ⟨mkFr 67 [(1, .v (.pointer (some (Addr.mk (Array.size H) 0 none)))), (8, .v (.int .i64 x6)), (9, .v (.bool x7)), (54, .v (.bool x14))], [], H9⟩
def tephralaw16_awake.k6 (J : Jn) (H : Hp) (x6 : Int) (x7 : Bool) (x14 : Bool) (H9 : Hp) (Q : Value → Hp → Prop) : Prop := J (vMid Try.prog tephralaw16_awake.cf J tephralaw16_awake.fn [1, 1, 1, 1, 1, 1, 1, 0] [0, 0, 0, 0, 0, 0, 0, 0] 23 Q) (tephralaw16_awake.k6.st H x6 x7 x14 H9)
def tephralaw16_awake.k7.st (H : Hp) (x7 : Bool) (H9 : Hp) (x15 : Bool) : VS := ⟨mkFr 67 [(1, .v (.pointer (some (Addr.mk (Array.size H) 0 none)))), (9, .v (.bool x7)), (58, .v (.bool x15))], [], H9⟩
def tephralaw16_awake.k7 (J : Jn) (H : Hp) (x7 : Bool) (H9 : Hp) (x15 : Bool) (Q : Value → Hp → Prop) : Prop := J (vMid Try.prog tephralaw16_awake.cf J tephralaw16_awake.fn [1, 1, 1, 1, 1, 1, 1, 0] [0, 0, 0, 0, 0, 0, 0, 0] 27 Q) (tephralaw16_awake.k7.st H x7 H9 x15)
def tephralaw16_awake.k8.st (H : Hp) (H9 : Hp) (x16 : Bool) : VS := ⟨mkFr 67 [(1, .v (.pointer (some (Addr.mk (Array.size H) 0 none)))), (61, .v (.bool x16))], [], H9⟩
def tephralaw16_awake.k8 (J : Jn) (H : Hp) (H9 : Hp) (x16 : Bool) (Q : Value → Hp → Prop) : Prop := J (vMid Try.prog tephralaw16_awake.cf J tephralaw16_awake.fn [1, 1, 1, 1, 1, 1, 1, 0] [0, 0, 0, 0, 0, 0, 0, 0] 30 Q) (tephralaw16_awake.k8.st H H9 x16)
attribute [irreducible] tephralaw16_awake.k1 tephralaw16_awake.k2 tephralaw16_awake.k3 tephralaw16_awake.k4 tephralaw16_awake.k5 tephralaw16_awake.k6 tephralaw16_awake.k7 tephralaw16_awake.k8
def tephralaw16_awake.k1.body (J : Jn) (H : Hp) (x2 : Bool) (x3 : Bool) (x4 : Bool) (x5 : Bool) (H7 : Hp) (x6 : Int) (x7 : Bool) (x8 : Bool) (Q : Value → Hp → Prop) : Prop :=
 
 Br x8 (
 tephralaw16_awake.k2 J H x3 x4 x5 H7 x6 x7 x2 Q)
 (
 tephralaw16_awake.k2 J H x3 x4 x5 H7 x6 x7 false Q)
theorem tephralaw16_awake.k1.eq (J : Jn) (H : Hp) (x2 : Bool) (x3 : Bool) (x4 : Bool) (x5 : Bool) (H7 : Hp) (x6 : Int) (x7 : Bool) (x8 : Bool) (Q : Value → Hp → Prop) : vMid Try.prog tephralaw16_awake.cf J tephralaw16_awake.fn [1, 1, 1, 1, 1, 1, 1, 0] [0, 0, 0, 0, 0, 0, 0, 0] 4 Q (tephralaw16_awake.k1.st H x2 x3 x4 x5 H7 x6 x7 x8) = tephralaw16_awake.k1.body J H x2 x3 x4 x5 H7 x6 x7 x8 Q := by kernel_rfl
theorem tephralaw16_awake.k1.step {H : Hp} {x2 : Bool} {x3 : Bool} {x4 : Bool} {x5 : Bool} {H7 : Hp} {x6 : Int} {x7 : Bool} {x8 : Bool} {Q : Value → Hp → Prop} (h : tephralaw16_awake.k1.body J0 H x2 x3 x4 x5 H7 x6 x7 x8 Q) : tephralaw16_awake.k1 J0 H x2 x3 x4 x5 H7 x6 x7 x8 Q := step_of (vMid Try.prog tephralaw16_awake.cf J0 tephralaw16_awake.fn [1, 1, 1, 1, 1, 1, 1, 0] [0, 0, 0, 0, 0, 0, 0, 0] 4 Q) (tephralaw16_awake.k1.st H x2 x3 x4 x5 H7 x6 x7 x8) (tephralaw16_awake.k1.eq J0 H x2 x3 x4 x5 H7 x6 x7 x8 Q) (by kernel_rfl) h
def tephralaw16_awake.k2.body (J : Jn) (H : Hp) (x3 : Bool) (x4 : Bool) (x5 : Bool) (H7 : Hp) (x6 : Int) (x7 : Bool) (x9 : Bool) (Q : Value → Hp → Prop) : Prop :=
 
 Br x9 (
 tephralaw16_awake.k3 J H x4 x5 H7 x6 x7 (!x3) Q)
 (
 tephralaw16_awake.k3 J H x4 x5 H7 x6 x7 false Q)
theorem tephralaw16_awake.k2.eq (J : Jn) (H : Hp) (x3 : Bool) (x4 : Bool) (x5 : Bool) (H7 : Hp) (x6 : Int) (x7 : Bool) (x9 : Bool) (Q : Value → Hp → Prop) : vMid Try.prog tephralaw16_awake.cf J tephralaw16_awake.fn [1, 1, 1, 1, 1, 1, 1, 0] [0, 0, 0, 0, 0, 0, 0, 0] 7 Q (tephralaw16_awake.k2.st H x3 x4 x5 H7 x6 x7 x9) = tephralaw16_awake.k2.body J H x3 x4 x5 H7 x6 x7 x9 Q := by kernel_rfl
theorem tephralaw16_awake.k2.step {H : Hp} {x3 : Bool} {x4 : Bool} {x5 : Bool} {H7 : Hp} {x6 : Int} {x7 : Bool} {x9 : Bool} {Q : Value → Hp → Prop} (h : tephralaw16_awake.k2.body J0 H x3 x4 x5 H7 x6 x7 x9 Q) : tephralaw16_awake.k2 J0 H x3 x4 x5 H7 x6 x7 x9 Q := step_of (vMid Try.prog tephralaw16_awake.cf J0 tephralaw16_awake.fn [1, 1, 1, 1, 1, 1, 1, 0] [0, 0, 0, 0, 0, 0, 0, 0] 7 Q) (tephralaw16_awake.k2.st H x3 x4 x5 H7 x6 x7 x9) (tephralaw16_awake.k2.eq J0 H x3 x4 x5 H7 x6 x7 x9 Q) (by kernel_rfl) h
def tephralaw16_awake.k3.body (J : Jn) (H : Hp) (x4 : Bool) (x5 : Bool) (H7 : Hp) (x6 : Int) (x7 : Bool) (x10 : Bool) (Q : Value → Hp → Prop) : Prop :=
 
 Br x10 (
 tephralaw16_awake.k4 J H x5 H7 x6 x7 (!x4) Q)
 (
 tephralaw16_awake.k4 J H x5 H7 x6 x7 false Q)
theorem tephralaw16_awake.k3.eq (J : Jn) (H : Hp) (x4 : Bool) (x5 : Bool) (H7 : Hp) (x6 : Int) (x7 : Bool) (x10 : Bool) (Q : Value → Hp → Prop) : vMid Try.prog tephralaw16_awake.cf J tephralaw16_awake.fn [1, 1, 1, 1, 1, 1, 1, 0] [0, 0, 0, 0, 0, 0, 0, 0] 11 Q (tephralaw16_awake.k3.st H x4 x5 H7 x6 x7 x10) = tephralaw16_awake.k3.body J H x4 x5 H7 x6 x7 x10 Q := by kernel_rfl
theorem tephralaw16_awake.k3.step {H : Hp} {x4 : Bool} {x5 : Bool} {H7 : Hp} {x6 : Int} {x7 : Bool} {x10 : Bool} {Q : Value → Hp → Prop} (h : tephralaw16_awake.k3.body J0 H x4 x5 H7 x6 x7 x10 Q) : tephralaw16_awake.k3 J0 H x4 x5 H7 x6 x7 x10 Q := step_of (vMid Try.prog tephralaw16_awake.cf J0 tephralaw16_awake.fn [1, 1, 1, 1, 1, 1, 1, 0] [0, 0, 0, 0, 0, 0, 0, 0] 11 Q) (tephralaw16_awake.k3.st H x4 x5 H7 x6 x7 x10) (tephralaw16_awake.k3.eq J0 H x4 x5 H7 x6 x7 x10 Q) (by kernel_rfl) h
def tephralaw16_awake.k4.body (J : Jn) (H : Hp) (x5 : Bool) (H7 : Hp) (x6 : Int) (x7 : Bool) (x11 : Bool) (Q : Value → Hp → Prop) : Prop :=
 
 Br x11 (
 tephralaw16_awake.k5 J H H7 x6 x7 (!x5) Q)
 (
 tephralaw16_awake.k5 J H H7 x6 x7 false Q)
theorem tephralaw16_awake.k4.eq (J : Jn) (H : Hp) (x5 : Bool) (H7 : Hp) (x6 : Int) (x7 : Bool) (x11 : Bool) (Q : Value → Hp → Prop) : vMid Try.prog tephralaw16_awake.cf J tephralaw16_awake.fn [1, 1, 1, 1, 1, 1, 1, 0] [0, 0, 0, 0, 0, 0, 0, 0] 15 Q (tephralaw16_awake.k4.st H x5 H7 x6 x7 x11) = tephralaw16_awake.k4.body J H x5 H7 x6 x7 x11 Q := by kernel_rfl
theorem tephralaw16_awake.k4.step {H : Hp} {x5 : Bool} {H7 : Hp} {x6 : Int} {x7 : Bool} {x11 : Bool} {Q : Value → Hp → Prop} (h : tephralaw16_awake.k4.body J0 H x5 H7 x6 x7 x11 Q) : tephralaw16_awake.k4 J0 H x5 H7 x6 x7 x11 Q := step_of (vMid Try.prog tephralaw16_awake.cf J0 tephralaw16_awake.fn [1, 1, 1, 1, 1, 1, 1, 0] [0, 0, 0, 0, 0, 0, 0, 0] 15 Q) (tephralaw16_awake.k4.st H x5 H7 x6 x7 x11) (tephralaw16_awake.k4.eq J0 H x5 H7 x6 x7 x11 Q) (by kernel_rfl) h
def tephralaw16_awake.k5.body (J : Jn) (H : Hp) (H7 : Hp) (x6 : Int) (x7 : Bool) (x12 : Bool) (Q : Value → Hp → Prop) : Prop :=
 
 Br x12 (
 SCalls Try.prog ghost_Ghost_Wrong.id [.pointer (some (Addr.mk (Array.size H) 0 none))] H7 (fun r7 H8 => ∃ x13 : Bool, r7 = .bool x13 ∧ 
 tephralaw16_awake.k6 J H x6 x7 x13 H8 Q))
 (
 tephralaw16_awake.k6 J H x6 x7 false H7 Q)
theorem tephralaw16_awake.k5.eq (J : Jn) (H : Hp) (H7 : Hp) (x6 : Int) (x7 : Bool) (x12 : Bool) (Q : Value → Hp → Prop) : vMid Try.prog tephralaw16_awake.cf J tephralaw16_awake.fn [1, 1, 1, 1, 1, 1, 1, 0] [0, 0, 0, 0, 0, 0, 0, 0] 19 Q (tephralaw16_awake.k5.st H H7 x6 x7 x12) = tephralaw16_awake.k5.body J H H7 x6 x7 x12 Q := by kernel_rfl
theorem tephralaw16_awake.k5.step {H : Hp} {H7 : Hp} {x6 : Int} {x7 : Bool} {x12 : Bool} {Q : Value → Hp → Prop} (h : tephralaw16_awake.k5.body J0 H H7 x6 x7 x12 Q) : tephralaw16_awake.k5 J0 H H7 x6 x7 x12 Q := step_of (vMid Try.prog tephralaw16_awake.cf J0 tephralaw16_awake.fn [1, 1, 1, 1, 1, 1, 1, 0] [0, 0, 0, 0, 0, 0, 0, 0] 19 Q) (tephralaw16_awake.k5.st H H7 x6 x7 x12) (tephralaw16_awake.k5.eq J0 H H7 x6 x7 x12 Q) (by kernel_rfl) h
def tephralaw16_awake.k6.body (J : Jn) (H : Hp) (x6 : Int) (x7 : Bool) (x14 : Bool) (H9 : Hp) (Q : Value → Hp → Prop) : Prop :=
 
 Br x14 (
 tephralaw16_awake.k7 J H x7 H9 (x6 == 2) Q)
 (
 tephralaw16_awake.k7 J H x7 H9 false Q)
theorem tephralaw16_awake.k6.eq (J : Jn) (H : Hp) (x6 : Int) (x7 : Bool) (x14 : Bool) (H9 : Hp) (Q : Value → Hp → Prop) : vMid Try.prog tephralaw16_awake.cf J tephralaw16_awake.fn [1, 1, 1, 1, 1, 1, 1, 0] [0, 0, 0, 0, 0, 0, 0, 0] 23 Q (tephralaw16_awake.k6.st H x6 x7 x14 H9) = tephralaw16_awake.k6.body J H x6 x7 x14 H9 Q := by kernel_rfl
theorem tephralaw16_awake.k6.step {H : Hp} {x6 : Int} {x7 : Bool} {x14 : Bool} {H9 : Hp} {Q : Value → Hp → Prop} (h : tephralaw16_awake.k6.body J0 H x6 x7 x14 H9 Q) : tephralaw16_awake.k6 J0 H x6 x7 x14 H9 Q := step_of (vMid Try.prog tephralaw16_awake.cf J0 tephralaw16_awake.fn [1, 1, 1, 1, 1, 1, 1, 0] [0, 0, 0, 0, 0, 0, 0, 0] 23 Q) (tephralaw16_awake.k6.st H x6 x7 x14 H9) (tephralaw16_awake.k6.eq J0 H x6 x7 x14 H9 Q) (by kernel_rfl) h
def tephralaw16_awake.k7.body (J : Jn) (H : Hp) (x7 : Bool) (H9 : Hp) (x15 : Bool) (Q : Value → Hp → Prop) : Prop :=
 
 Br x15 (
 tephralaw16_awake.k8 J H H9 x7 Q)
 (
 tephralaw16_awake.k8 J H H9 false Q)
theorem tephralaw16_awake.k7.eq (J : Jn) (H : Hp) (x7 : Bool) (H9 : Hp) (x15 : Bool) (Q : Value → Hp → Prop) : vMid Try.prog tephralaw16_awake.cf J tephralaw16_awake.fn [1, 1, 1, 1, 1, 1, 1, 0] [0, 0, 0, 0, 0, 0, 0, 0] 27 Q (tephralaw16_awake.k7.st H x7 H9 x15) = tephralaw16_awake.k7.body J H x7 H9 x15 Q := by kernel_rfl
theorem tephralaw16_awake.k7.step {H : Hp} {x7 : Bool} {H9 : Hp} {x15 : Bool} {Q : Value → Hp → Prop} (h : tephralaw16_awake.k7.body J0 H x7 H9 x15 Q) : tephralaw16_awake.k7 J0 H x7 H9 x15 Q := step_of (vMid Try.prog tephralaw16_awake.cf J0 tephralaw16_awake.fn [1, 1, 1, 1, 1, 1, 1, 0] [0, 0, 0, 0, 0, 0, 0, 0] 27 Q) (tephralaw16_awake.k7.st H x7 H9 x15) (tephralaw16_awake.k7.eq J0 H x7 H9 x15 Q) (by kernel_rfl) h
def tephralaw16_awake.k8.body (J : Jn) (H : Hp) (H9 : Hp) (x16 : Bool) (Q : Value → Hp → Prop) : Prop :=
 
 Br x16 (
 SCalls Try.prog ghost_Ghost_Len.id [.pointer (some (Addr.mk (Array.size H) 0 none))] H9 (fun r8 H10 => ∃ x17 : Int, r8 = .int .i64 x17 ∧ Q (.bool (x17 == 1)) H10))
 (Q (.bool false) H9)
theorem tephralaw16_awake.k8.eq (J : Jn) (H : Hp) (H9 : Hp) (x16 : Bool) (Q : Value → Hp → Prop) : vMid Try.prog tephralaw16_awake.cf J tephralaw16_awake.fn [1, 1, 1, 1, 1, 1, 1, 0] [0, 0, 0, 0, 0, 0, 0, 0] 30 Q (tephralaw16_awake.k8.st H H9 x16) = tephralaw16_awake.k8.body J H H9 x16 Q := by kernel_rfl
theorem tephralaw16_awake.k8.step {H : Hp} {H9 : Hp} {x16 : Bool} {Q : Value → Hp → Prop} (h : tephralaw16_awake.k8.body J0 H H9 x16 Q) : tephralaw16_awake.k8 J0 H H9 x16 Q := step_of (vMid Try.prog tephralaw16_awake.cf J0 tephralaw16_awake.fn [1, 1, 1, 1, 1, 1, 1, 0] [0, 0, 0, 0, 0, 0, 0, 0] 30 Q) (tephralaw16_awake.k8.st H H9 x16) (tephralaw16_awake.k8.eq J0 H H9 x16 Q) (by kernel_rfl) h
def tephralaw16_awake.vc (J : Jn) (H : Hp) (Q : Value → Hp → Prop) : Prop :=
 
 SCalls Try.prog ghost_Ghost_Commit.id [.pointer (some (Addr.mk (Array.size H) 0 none)), .agg #[.int .i64 1, .int .i64 0, .int .i64 0, .int .i64 0, .int .i64 0, .string (ByteArray.mk #[]), .string (ByteArray.mk #[]), .string (ByteArray.mk #[])]] (Array.push H (.cells #[.slice none 0 0, .slice none 0 0, .bool false] T_ghost_Ghost)) (fun r H1 => ∃ x : Bool, r = .bool x ∧ 
 SCalls Try.prog ghost_Ghost_Commit.id [.pointer (some (Addr.mk (Array.size H) 0 none)), .agg #[.int .i64 1, .int .i64 0, .int .i64 0, .int .i64 0, .int .i64 0, .string (ByteArray.mk #[]), .string (ByteArray.mk #[]), .string (ByteArray.mk #[])]] H1 (fun r1 H2 => ∃ x1 : Bool, r1 = .bool x1 ∧ 
 SCalls Try.prog ghost_Ghost_Lead.id [.pointer (some (Addr.mk (Array.size H) 0 none)), .int .i64 1, .int .i64 2] H2 (fun r2 H3 => ∃ x2 : Bool, r2 = .bool x2 ∧ 
 SCalls Try.prog ghost_Ghost_Wrong.id [.pointer (some (Addr.mk (Array.size H) 0 none))] H3 (fun r3 H4 => ∃ x3 : Bool, r3 = .bool x3 ∧ 
 SCalls Try.prog ghost_Ghost_Lead.id [.pointer (some (Addr.mk (Array.size H) 0 none)), .int .i64 1, .int .i64 0] H4 (fun r4 H5 => ∃ x4 : Bool, r4 = .bool x4 ∧ 
 SCalls Try.prog ghost_Ghost_Commit.id [.pointer (some (Addr.mk (Array.size H) 0 none)), .agg #[.int .i64 3, .int .i64 0, .int .i64 0, .int .i64 0, .int .i64 0, .string (ByteArray.mk #[]), .string (ByteArray.mk #[]), .string (ByteArray.mk #[])]] H5 (fun r5 H6 => ∃ x5 : Bool, r5 = .bool x5 ∧ 
 SCalls Try.prog ghost_Ghost_Leader.id [.pointer (some (Addr.mk (Array.size H) 0 none)), .int .i64 1] H6 (fun r6 H7 => ∃ x6 : Int, ∃ x7 : Bool, r6 = .tuple #[.int .i64 x6, .bool x7] ∧ 
 Br x (
 tephralaw16_awake.k1 J H x2 x3 x4 x5 H7 x6 x7 x1 Q)
 (
 tephralaw16_awake.k1 J H x2 x3 x4 x5 H7 x6 x7 false Q))))))))
theorem tephralaw16_awake.eq (J : Jn) (H : Hp) (Q : Value → Hp → Prop) : vFn Try.prog tephralaw16_awake.cf J tephralaw16_awake.fn [] H Q = tephralaw16_awake.vc J H Q := by kernel_rfl
theorem tephralaw16_awake.calls {H : Hp} {Q : Value → Hp → Prop} (h : tephralaw16_awake.vc J0 H Q) : SCalls Try.prog tephralaw16_awake.id [] H Q := vFn_of Try.mixed Try.func8 (tephralaw16_awake.eq J0 H Q) h

/-! 9: (*tephra/ghost.Ghost).Lead -/
def ghost_Ghost_Lead.cf : Cfg := ⟨[], [], [(3, [0, 1, 2, 8, 9], true), (5, [0, 9], true)], [(41, [9, 33, 41])]⟩
def ghost_Ghost_Lead.k1.st (g : Addr) (term : Int) (id : Int) (H1 : Hp) (x1 : Bool) (ok : Bool) : VS := ⟨mkFr 45 [(0, .v (.pointer (some g))), (1, .v (.int .i64 term)), (2, .v (.int .i64 id)), (8, .v (.bool x1)), (9, .v (.bool ok))], [], H1⟩
def ghost_Ghost_Lead.k1 (J : Jn) (g : Addr) (term : Int) (id : Int) (H1 : Hp) (x1 : Bool) (ok : Bool) (Q : Value → Hp → Prop) : Prop := J (vSeg Try.prog ghost_Ghost_Lead.cf J ghost_Ghost_Lead.fn [1, 1, 1] [0, 0, 0] Q) (ghost_Ghost_Lead.k1.st g term id H1 x1 ok)
def ghost_Ghost_Lead.k2.st (g : Addr) (ok : Bool) (H3 : Hp) : VS := ⟨mkFr 45 [(0, .v (.pointer (some g))), (9, .v (.bool ok))], [], H3⟩
def ghost_Ghost_Lead.k2 (J : Jn) (g : Addr) (ok : Bool) (H3 : Hp) (Q : Value → Hp → Prop) : Prop := J (vSeg Try.prog ghost_Ghost_Lead.cf J ghost_Ghost_Lead.fn [1, 1, 1, 1] [0, 0, 0, 0] Q) (ghost_Ghost_Lead.k2.st g ok H3)
def ghost_Ghost_Lead.k3.st (g : Addr) (ok : Bool) (H3 : Hp) (x3 : Bool) : VS := ⟨mkFr 45 [(9, .v (.bool ok)), (33, .v (.pointer (some g))), (41, .v (.bool x3))], [], H3⟩
def ghost_Ghost_Lead.k3 (J : Jn) (g : Addr) (ok : Bool) (H3 : Hp) (x3 : Bool) (Q : Value → Hp → Prop) : Prop := J (vMid Try.prog ghost_Ghost_Lead.cf J ghost_Ghost_Lead.fn [1, 1, 1, 1, 0] [0, 0, 0, 0, 0] 9 Q) (ghost_Ghost_Lead.k3.st g ok H3 x3)
attribute [irreducible] ghost_Ghost_Lead.k1 ghost_Ghost_Lead.k2 ghost_Ghost_Lead.k3
def ghost_Ghost_Lead.k1.body (J : Jn) (g : Addr) (term : Int) (id : Int) (H1 : Hp) (x1 : Bool) (ok : Bool) (Q : Value → Hp → Prop) : Prop :=
 
 Br (!x1) (
 SCalls Try.prog sorted_Map_int_int_Put.id [.pointer (some (g.add 1)), .int .i64 term, .int .i64 id] H1 (fun r1 H2 => ∃ x2 : Bool, r1 = .bool x2 ∧ 
 ghost_Ghost_Lead.k2 J g ok H2 Q))
 (
 ghost_Ghost_Lead.k2 J g ok H1 Q)
theorem ghost_Ghost_Lead.k1.eq (J : Jn) (g : Addr) (term : Int) (id : Int) (H1 : Hp) (x1 : Bool) (ok : Bool) (Q : Value → Hp → Prop) : vSeg Try.prog ghost_Ghost_Lead.cf J ghost_Ghost_Lead.fn [1, 1, 1] [0, 0, 0] Q (ghost_Ghost_Lead.k1.st g term id H1 x1 ok) = ghost_Ghost_Lead.k1.body J g term id H1 x1 ok Q := by kernel_rfl
theorem ghost_Ghost_Lead.k1.step {g : Addr} {term : Int} {id : Int} {H1 : Hp} {x1 : Bool} {ok : Bool} {Q : Value → Hp → Prop} (h : ghost_Ghost_Lead.k1.body J0 g term id H1 x1 ok Q) : ghost_Ghost_Lead.k1 J0 g term id H1 x1 ok Q := step_of (vSeg Try.prog ghost_Ghost_Lead.cf J0 ghost_Ghost_Lead.fn [1, 1, 1] [0, 0, 0] Q) (ghost_Ghost_Lead.k1.st g term id H1 x1 ok) (ghost_Ghost_Lead.k1.eq J0 g term id H1 x1 ok Q) (by kernel_rfl) h
def ghost_Ghost_Lead.k2.body (J : Jn) (g : Addr) (ok : Bool) (H3 : Hp) (Q : Value → Hp → Prop) : Prop :=
 ∃ wrong : Bool, Hp.cell? H3 (g.add 2) = some (.bool wrong) ∧ 
 Br wrong (
 ghost_Ghost_Lead.k3 J g ok H3 true Q)
 (
 ghost_Ghost_Lead.k3 J g ok H3 (!ok) Q)
theorem ghost_Ghost_Lead.k2.eq (J : Jn) (g : Addr) (ok : Bool) (H3 : Hp) (Q : Value → Hp → Prop) : vSeg Try.prog ghost_Ghost_Lead.cf J ghost_Ghost_Lead.fn [1, 1, 1, 1] [0, 0, 0, 0] Q (ghost_Ghost_Lead.k2.st g ok H3) = ghost_Ghost_Lead.k2.body J g ok H3 Q := by kernel_rfl
theorem ghost_Ghost_Lead.k2.step {g : Addr} {ok : Bool} {H3 : Hp} {Q : Value → Hp → Prop} (h : ghost_Ghost_Lead.k2.body J0 g ok H3 Q) : ghost_Ghost_Lead.k2 J0 g ok H3 Q := step_of (vSeg Try.prog ghost_Ghost_Lead.cf J0 ghost_Ghost_Lead.fn [1, 1, 1, 1] [0, 0, 0, 0] Q) (ghost_Ghost_Lead.k2.st g ok H3) (ghost_Ghost_Lead.k2.eq J0 g ok H3 Q) (by kernel_rfl) h
def ghost_Ghost_Lead.k3.body (J : Jn) (g : Addr) (ok : Bool) (H3 : Hp) (x3 : Bool) (Q : Value → Hp → Prop) : Prop :=
 WrAt H3 (g.add 2) 1 ∧ Q (.bool ok) (Hp.setCell H3 (g.add 2) (.bool x3))
theorem ghost_Ghost_Lead.k3.eq (J : Jn) (g : Addr) (ok : Bool) (H3 : Hp) (x3 : Bool) (Q : Value → Hp → Prop) : vMid Try.prog ghost_Ghost_Lead.cf J ghost_Ghost_Lead.fn [1, 1, 1, 1, 0] [0, 0, 0, 0, 0] 9 Q (ghost_Ghost_Lead.k3.st g ok H3 x3) = ghost_Ghost_Lead.k3.body J g ok H3 x3 Q := by kernel_rfl
theorem ghost_Ghost_Lead.k3.step {g : Addr} {ok : Bool} {H3 : Hp} {x3 : Bool} {Q : Value → Hp → Prop} (h : ghost_Ghost_Lead.k3.body J0 g ok H3 x3 Q) : ghost_Ghost_Lead.k3 J0 g ok H3 x3 Q := step_of (vMid Try.prog ghost_Ghost_Lead.cf J0 ghost_Ghost_Lead.fn [1, 1, 1, 1, 0] [0, 0, 0, 0, 0] 9 Q) (ghost_Ghost_Lead.k3.st g ok H3 x3) (ghost_Ghost_Lead.k3.eq J0 g ok H3 x3 Q) (by kernel_rfl) h
def ghost_Ghost_Lead.vc (J : Jn) (g : Addr) (term : Int) (id : Int) (H : Hp) (Q : Value → Hp → Prop) : Prop :=
 
 SCalls Try.prog sorted_Map_int_int_Get.id [.pointer (some (g.add 1)), .int .i64 term] H (fun r H1 => ∃ x : Int, ∃ x1 : Bool, r = .tuple #[.int .i64 x, .bool x1] ∧ 
 Br (!x1) (
 ghost_Ghost_Lead.k1 J g term id H1 x1 true Q)
 (
 ghost_Ghost_Lead.k1 J g term id H1 x1 (x == id) Q))
theorem ghost_Ghost_Lead.eq (J : Jn) (g : Addr) (term : Int) (id : Int) (H : Hp) (Q : Value → Hp → Prop) : vFn Try.prog ghost_Ghost_Lead.cf J ghost_Ghost_Lead.fn [.pointer (some g), .int .i64 term, .int .i64 id] H Q = ghost_Ghost_Lead.vc J g term id H Q := by kernel_rfl
theorem ghost_Ghost_Lead.calls {g : Addr} {term : Int} {id : Int} {H : Hp} {Q : Value → Hp → Prop} (h : ghost_Ghost_Lead.vc J0 g term id H Q) : SCalls Try.prog ghost_Ghost_Lead.id [.pointer (some g), .int .i64 term, .int .i64 id] H Q := vFn_of Try.mixed Try.func9 (ghost_Ghost_Lead.eq J0 g term id H Q) h

/-! 10: (*tephra/ghost.Ghost).Leader -/
def ghost_Ghost_Leader.cf : Cfg := ⟨[], [], [], []⟩
def ghost_Ghost_Leader.vc (J : Jn) (g : Addr) (term : Int) (H : Hp) (Q : Value → Hp → Prop) : Prop :=
 
 SCalls Try.prog sorted_Map_int_int_Get.id [.pointer (some (g.add 1)), .int .i64 term] H (fun r H1 => ∃ x : Int, ∃ x1 : Bool, r = .tuple #[.int .i64 x, .bool x1] ∧ Q (.tuple #[.int .i64 x, .bool x1]) H1)
theorem ghost_Ghost_Leader.eq (J : Jn) (g : Addr) (term : Int) (H : Hp) (Q : Value → Hp → Prop) : vFn Try.prog ghost_Ghost_Leader.cf J ghost_Ghost_Leader.fn [.pointer (some g), .int .i64 term] H Q = ghost_Ghost_Leader.vc J g term H Q := by kernel_rfl
theorem ghost_Ghost_Leader.calls {g : Addr} {term : Int} {H : Hp} {Q : Value → Hp → Prop} (h : ghost_Ghost_Leader.vc J0 g term H Q) : SCalls Try.prog ghost_Ghost_Leader.id [.pointer (some g), .int .i64 term] H Q := vFn_of Try.mixed Try.func10 (ghost_Ghost_Leader.eq J0 g term H Q) h

/-! 11: (*tephra/ghost.Ghost).Wrong -/
def ghost_Ghost_Wrong.cf : Cfg := ⟨[], [], [], []⟩
def ghost_Ghost_Wrong.vc (J : Jn) (g : Addr) (H : Hp) (Q : Value → Hp → Prop) : Prop :=
 ∃ wrong : Bool, Hp.cell? H (g.add 2) = some (.bool wrong) ∧ Q (.bool wrong) H
theorem ghost_Ghost_Wrong.eq (J : Jn) (g : Addr) (H : Hp) (Q : Value → Hp → Prop) : vFn Try.prog ghost_Ghost_Wrong.cf J ghost_Ghost_Wrong.fn [.pointer (some g)] H Q = ghost_Ghost_Wrong.vc J g H Q := by kernel_rfl
theorem ghost_Ghost_Wrong.calls {g : Addr} {H : Hp} {Q : Value → Hp → Prop} (h : ghost_Ghost_Wrong.vc J0 g H Q) : SCalls Try.prog ghost_Ghost_Wrong.id [.pointer (some g)] H Q := vFn_of Try.mixed Try.func11 (ghost_Ghost_Wrong.eq J0 g H Q) h

/-! 12: (*tephra/ghost.Ghost).Len -/
def ghost_Ghost_Len.cf : Cfg := ⟨[], [], [], []⟩
def ghost_Ghost_Len.vc (J : Jn) (g : Addr) (H : Hp) (Q : Value → Hp → Prop) : Prop :=
 ∃ log : Sl, Hp.cell? H g = some (.slice log.a log.len log.cap) ∧ Q (.int .i64 ((log.len : Nat) : Int)) H
theorem ghost_Ghost_Len.eq (J : Jn) (g : Addr) (H : Hp) (Q : Value → Hp → Prop) : vFn Try.prog ghost_Ghost_Len.cf J ghost_Ghost_Len.fn [.pointer (some g)] H Q = ghost_Ghost_Len.vc J g H Q := by kernel_rfl
theorem ghost_Ghost_Len.calls {g : Addr} {H : Hp} {Q : Value → Hp → Prop} (h : ghost_Ghost_Len.vc J0 g H Q) : SCalls Try.prog ghost_Ghost_Len.id [.pointer (some g)] H Q := vFn_of Try.mixed Try.func12 (ghost_Ghost_Len.eq J0 g H Q) h

/-! 13: tephra/tephralaw06.Entries -/
def tephralaw06_Entries.cf : Cfg := ⟨[9], [(3, [1, 2, 7, 14, 15, 16])], [(7, [1, 2, 7, 8, 9, 14, 15, 16], true)], []⟩
def tephralaw06_Entries.l1.st (says : Sl) (fromv : Int) (H1 : Hp) (term1 : Int) (out : Sl) (x : Int) : VS := ⟨mkFr 38 [(1, .v (.int .i64 fromv)), (2, .v (.int .i64 term1)), (7, .v (.slice out.a out.len out.cap)), (14, .v (.slice (cutA says.a says.cap 0 6) (((if (80 : Int) < ((says.len : Nat) : Int) then 80 else ((says.len : Nat) : Int)) : Int).toNat) says.cap)), (15, .v (.int .i64 (((((if (80 : Int) < ((says.len : Nat) : Int) then 80 else ((says.len : Nat) : Int)) : Int).toNat) : Nat) : Int))), (16, .v (.int .i64 x))], [], H1⟩
def tephralaw06_Entries.l1 (J : Jn) (says : Sl) (fromv : Int) (H1 : Hp) (term1 : Int) (out : Sl) (x : Int) (Q : Value → Hp → Prop) : Prop := vAt Try.prog tephralaw06_Entries.cf J tephralaw06_Entries.fn [1, 1, 0, 1, 0] [0, 0, 0, 0] Q (tephralaw06_Entries.l1.st says fromv H1 term1 out x)
def tephralaw06_Entries.k1.st (says : Sl) (fromv : Int) (H1 : Hp) (out : Sl) (x : Int) (Opv : Int) (Client : Int) (Seq : Int) (Key : Int) (Valuev : Int) (Old : Int) (term2 : Int) : VS := ⟨mkFr 38 [(1, .v (.int .i64 fromv)), (2, .v (.int .i64 term2)), (7, .v (.slice out.a out.len out.cap)), (8, .v (.int .i64 x)), (9, .loc 0 0), (14, .v (.slice (cutA says.a says.cap 0 6) (((if (80 : Int) < ((says.len : Nat) : Int) then 80 else ((says.len : Nat) : Int)) : Int).toNat) says.cap)), (15, .v (.int .i64 (((((if (80 : Int) < ((says.len : Nat) : Int) then 80 else ((says.len : Nat) : Int)) : Int).toNat) : Nat) : Int))), (16, .v (.int .i64 x))], [(T_tephralaw06_Say, [.int .u8 Opv, .int .u8 Client, .int .u8 Seq, .int .u8 Key, .int .u8 Valuev, .int .u8 Old])], (holes H1 1)⟩
def tephralaw06_Entries.k1 (J : Jn) (says : Sl) (fromv : Int) (H1 : Hp) (out : Sl) (x : Int) (Opv : Int) (Client : Int) (Seq : Int) (Key : Int) (Valuev : Int) (Old : Int) (term2 : Int) (Q : Value → Hp → Prop) : Prop := J (vSeg Try.prog tephralaw06_Entries.cf J tephralaw06_Entries.fn [1, 1, 0, 1, 0, 0, 1, 1, 0, 0, 1, 1] [0, 0, 0, 0, 0, 0, 0, 0, 0, 1] Q) (tephralaw06_Entries.k1.st says fromv H1 out x Opv Client Seq Key Valuev Old term2)
attribute [irreducible] tephralaw06_Entries.l1 tephralaw06_Entries.k1
def tephralaw06_Entries.l1.body (J : Jn) (says : Sl) (fromv : Int) (H1 : Hp) (term1 : Int) (out : Sl) (x : Int) (Q : Value → Hp → Prop) : Prop :=
 
 Br (decide (x < (((((if (80 : Int) < ((says.len : Nat) : Int) then 80 else ((says.len : Nat) : Int)) : Int).toNat) : Nat) : Int))) (((0 : Int) ≤ x ∧ x < (((((if (80 : Int) < ((says.len : Nat) : Int) then 80 else ((says.len : Nat) : Int)) : Int).toNat) : Nat) : Int)) ∧ vPtr (cutA says.a says.cap 0 6) (fun a => ∃ Opv : Int, ∃ Client : Int, ∃ Seq : Int, ∃ Key : Int, ∃ Valuev : Int, ∃ Old : Int, RowAt H1 (a.add ((x : Int).toNat * 6)) [.int .u8 Opv, .int .u8 Client, .int .u8 Seq, .int .u8 Key, .int .u8 Valuev, .int .u8 Old] ∧ 
 Br (decide (Opv > 230)) (
 tephralaw06_Entries.k1 J says fromv H1 out x Opv Client Seq Key Valuev Old (w64 (term1 + 1)) Q)
 (
 tephralaw06_Entries.k1 J says fromv H1 out x Opv Client Seq Key Valuev Old term1 Q)))
 (Q (.slice out.a out.len out.cap) H1)
theorem tephralaw06_Entries.l1.eq (J : Jn) (says : Sl) (fromv : Int) (H1 : Hp) (term1 : Int) (out : Sl) (x : Int) (Q : Value → Hp → Prop) : vAtBody Try.prog tephralaw06_Entries.cf J tephralaw06_Entries.fn [1, 1, 0, 1, 0] [0, 0, 0, 0] Q (tephralaw06_Entries.l1.st says fromv H1 term1 out x) = tephralaw06_Entries.l1.body J says fromv H1 term1 out x Q := by kernel_rfl
theorem tephralaw06_Entries.l1.step {says : Sl} {fromv : Int} {H1 : Hp} {term1 : Int} {out : Sl} {x : Int} {Q : Value → Hp → Prop} (h : tephralaw06_Entries.l1.body J0 says fromv H1 term1 out x Q) : tephralaw06_Entries.l1 J0 says fromv H1 term1 out x Q := vAt_stepC (tephralaw06_Entries.l1.st says fromv H1 term1 out x) (tephralaw06_Entries.l1.eq J0 says fromv H1 term1 out x Q) (by kernel_rfl) h
def tephralaw06_Entries.k1.body (J : Jn) (says : Sl) (fromv : Int) (H1 : Hp) (out : Sl) (x : Int) (Opv : Int) (Client : Int) (Seq : Int) (Key : Int) (Valuev : Int) (Old : Int) (term2 : Int) (Q : Value → Hp → Prop) : Prop :=
 
 SCalls Try.prog tephralaw06_Say_Cmd.id [.agg #[.int .u8 Opv, .int .u8 Client, .int .u8 Seq, .int .u8 Key, .int .u8 Valuev, .int .u8 Old]] (holes H1 1) (fun r H2 => ∃ Opv1 : Int, ∃ Client1 : Int, ∃ Seq1 : Int, ∃ Key1 : ByteArray, ∃ Valuev1 : ByteArray, ∃ Old1 : ByteArray, r = .agg #[.int .i64 Opv1, .int .i64 Client1, .int .i64 Seq1, .string Key1, .string Valuev1, .string Old1] ∧ 
 vApp Try.prog T_sl_api_Entry out.a out.len out.cap (.slice (some (Addr.mk (Array.size H2) 0 none)) 1 1) (Array.push H2 (.cells #[.int .i64 (w64 (fromv + x)), .int .i64 term2, .int .i64 Opv1, .int .i64 Client1, .int .i64 Seq1, .string Key1, .string Valuev1, .string Old1] T_api_Entry)) (fun ap H3 => 
 tephralaw06_Entries.l1 J says fromv H3 term2 ap (w64 (x + 1)) Q))
theorem tephralaw06_Entries.k1.eq (J : Jn) (says : Sl) (fromv : Int) (H1 : Hp) (out : Sl) (x : Int) (Opv : Int) (Client : Int) (Seq : Int) (Key : Int) (Valuev : Int) (Old : Int) (term2 : Int) (Q : Value → Hp → Prop) : vSeg Try.prog tephralaw06_Entries.cf J tephralaw06_Entries.fn [1, 1, 0, 1, 0, 0, 1, 1, 0, 0, 1, 1] [0, 0, 0, 0, 0, 0, 0, 0, 0, 1] Q (tephralaw06_Entries.k1.st says fromv H1 out x Opv Client Seq Key Valuev Old term2) = tephralaw06_Entries.k1.body J says fromv H1 out x Opv Client Seq Key Valuev Old term2 Q := by kernel_rfl
theorem tephralaw06_Entries.k1.step {says : Sl} {fromv : Int} {H1 : Hp} {out : Sl} {x : Int} {Opv : Int} {Client : Int} {Seq : Int} {Key : Int} {Valuev : Int} {Old : Int} {term2 : Int} {Q : Value → Hp → Prop} (h : tephralaw06_Entries.k1.body J0 says fromv H1 out x Opv Client Seq Key Valuev Old term2 Q) : tephralaw06_Entries.k1 J0 says fromv H1 out x Opv Client Seq Key Valuev Old term2 Q := step_of (vSeg Try.prog tephralaw06_Entries.cf J0 tephralaw06_Entries.fn [1, 1, 0, 1, 0, 0, 1, 1, 0, 0, 1, 1] [0, 0, 0, 0, 0, 0, 0, 0, 0, 1] Q) (tephralaw06_Entries.k1.st says fromv H1 out x Opv Client Seq Key Valuev Old term2) (tephralaw06_Entries.k1.eq J0 says fromv H1 out x Opv Client Seq Key Valuev Old term2 Q) (by kernel_rfl) h
def tephralaw06_Entries.vc (J : Jn) (says : Sl) (fromv : Int) (term : Int) (H : Hp) (Q : Value → Hp → Prop) : Prop :=
 ((0 : Int) ≤ (if (80 : Int) < ((says.len : Nat) : Int) then 80 else ((says.len : Nat) : Int)) ∧ (if (80 : Int) < ((says.len : Nat) : Int) then 80 else ((says.len : Nat) : Int)) ≤ ((says.cap : Nat) : Int)) ∧ 
 tephralaw06_Entries.l1 J says fromv H term (Sl.mk none 0 0) 0 Q
theorem tephralaw06_Entries.eq (J : Jn) (says : Sl) (fromv : Int) (term : Int) (H : Hp) (Q : Value → Hp → Prop) : vFn Try.prog tephralaw06_Entries.cf J tephralaw06_Entries.fn [.slice says.a says.len says.cap, .int .i64 fromv, .int .i64 term] H Q = tephralaw06_Entries.vc J says fromv term H Q := by kernel_rfl
theorem tephralaw06_Entries.calls {says : Sl} {fromv : Int} {term : Int} {H : Hp} {Q : Value → Hp → Prop} (h : tephralaw06_Entries.vc J0 says fromv term H Q) : SCalls Try.prog tephralaw06_Entries.id [.slice says.a says.len says.cap, .int .i64 fromv, .int .i64 term] H Q := vFn_of Try.mixed Try.func13 (tephralaw06_Entries.eq J0 says fromv term H Q) h

/-! 14: (*tephra/ghost.Ghost).Commit -/
def ghost_Ghost_Commit.cf : Cfg := ⟨[3], [], [(2, [0, 3, 5], true), (3, [0, 3, 5, 20], true)], [(63, [5, 55, 63])]⟩
def ghost_Ghost_Commit.k1.st (g : Addr) (eIndex : Int) (eTerm : Int) (eCmdOp : Int) (eCmdClient : Int) (eCmdSeq : Int) (eCmdKey : ByteArray) (eCmdValue : ByteArray) (eCmdOld : ByteArray) (H : Hp) (ok : Bool) : VS := ⟨mkFr 67 [(0, .v (.pointer (some g))), (3, .loc 0 0), (5, .v (.bool ok))], [(T_api_Entry, [.int .i64 eIndex, .int .i64 eTerm, .int .i64 eCmdOp, .int .i64 eCmdClient, .int .i64 eCmdSeq, .string eCmdKey, .string eCmdValue, .string eCmdOld])], (holes H 1)⟩
def ghost_Ghost_Commit.k1 (J : Jn) (g : Addr) (eIndex : Int) (eTerm : Int) (eCmdOp : Int) (eCmdClient : Int) (eCmdSeq : Int) (eCmdKey : ByteArray) (eCmdValue : ByteArray) (eCmdOld : ByteArray) (H : Hp) (ok : Bool) (Q : Value → Hp → Prop) : Prop := J (vSeg Try.prog ghost_Ghost_Commit.cf J ghost_Ghost_Commit.fn [1, 1] [0, 1] Q) (ghost_Ghost_Commit.k1.st g eIndex eTerm eCmdOp eCmdClient eCmdSeq eCmdKey eCmdValue eCmdOld H ok)
def ghost_Ghost_Commit.k2.st (g : Addr) (eIndex : Int) (eTerm : Int) (eCmdOp : Int) (eCmdClient : Int) (eCmdSeq : Int) (eCmdKey : ByteArray) (eCmdValue : ByteArray) (eCmdOld : ByteArray) (H : Hp) (ok : Bool) (x : Bool) : VS := ⟨mkFr 67 [(0, .v (.pointer (some g))), (3, .loc 0 0), (5, .v (.bool ok)), (20, .v (.bool x))], [(T_api_Entry, [.int .i64 eIndex, .int .i64 eTerm, .int .i64 eCmdOp, .int .i64 eCmdClient, .int .i64 eCmdSeq, .string eCmdKey, .string eCmdValue, .string eCmdOld])], (holes H 1)⟩
def ghost_Ghost_Commit.k2 (J : Jn) (g : Addr) (eIndex : Int) (eTerm : Int) (eCmdOp : Int) (eCmdClient : Int) (eCmdSeq : Int) (eCmdKey : ByteArray) (eCmdValue : ByteArray) (eCmdOld : ByteArray) (H : Hp) (ok : Bool) (x : Bool) (Q : Value → Hp → Prop) : Prop := J (vSeg Try.prog ghost_Ghost_Commit.cf J ghost_Ghost_Commit.fn [1, 1, 0, 0, 1] [0, 1, 1, 1] Q) (ghost_Ghost_Commit.k2.st g eIndex eTerm eCmdOp eCmdClient eCmdSeq eCmdKey eCmdValue eCmdOld H ok x)
def ghost_Ghost_Commit.k3.st (g : Addr) (eIndex : Int) (eTerm : Int) (eCmdOp : Int) (eCmdClient : Int) (eCmdSeq : Int) (eCmdKey : ByteArray) (eCmdValue : ByteArray) (eCmdOld : ByteArray) (H : Hp) (Index : Int) (Term : Int) (CmdOp : Int) (CmdClient : Int) (CmdSeq : Int) (CmdKey : ByteArray) (CmdValue : ByteArray) (CmdOld : ByteArray) (x1 : Bool) : VS := ⟨mkFr 67 [(5, .v (.bool ((Index == eIndex) && ((Term == eTerm) && (((CmdOp == eCmdOp) && ((CmdClient == eCmdClient) && ((CmdSeq == eCmdSeq) && ((CmdKey == eCmdKey) && ((CmdValue == eCmdValue) && ((CmdOld == eCmdOld) && true)))))) && true))))), (55, .v (.pointer (some g))), (63, .v (.bool x1))], [(T_api_Entry, [.int .i64 eIndex, .int .i64 eTerm, .int .i64 eCmdOp, .int .i64 eCmdClient, .int .i64 eCmdSeq, .string eCmdKey, .string eCmdValue, .string eCmdOld])], (holes H 1)⟩
def ghost_Ghost_Commit.k3 (J : Jn) (g : Addr) (eIndex : Int) (eTerm : Int) (eCmdOp : Int) (eCmdClient : Int) (eCmdSeq : Int) (eCmdKey : ByteArray) (eCmdValue : ByteArray) (eCmdOld : ByteArray) (H : Hp) (Index : Int) (Term : Int) (CmdOp : Int) (CmdClient : Int) (CmdSeq : Int) (CmdKey : ByteArray) (CmdValue : ByteArray) (CmdOld : ByteArray) (x1 : Bool) (Q : Value → Hp → Prop) : Prop := J (vMid Try.prog ghost_Ghost_Commit.cf J ghost_Ghost_Commit.fn [1, 1, 1, 0] [0, 1, 1, 1] 9 Q) (ghost_Ghost_Commit.k3.st g eIndex eTerm eCmdOp eCmdClient eCmdSeq eCmdKey eCmdValue eCmdOld H Index Term CmdOp CmdClient CmdSeq CmdKey CmdValue CmdOld x1)
def ghost_Ghost_Commit.k4.st (g : Addr) (eIndex : Int) (eTerm : Int) (eCmdOp : Int) (eCmdClient : Int) (eCmdSeq : Int) (eCmdKey : ByteArray) (eCmdValue : ByteArray) (eCmdOld : ByteArray) (ok : Bool) (ap : Sl) (H1 : Hp) (x2 : Bool) : VS := ⟨mkFr 67 [(5, .v (.bool ok)), (55, .v (.pointer (some g))), (63, .v (.bool x2))], [(T_api_Entry, [.int .i64 eIndex, .int .i64 eTerm, .int .i64 eCmdOp, .int .i64 eCmdClient, .int .i64 eCmdSeq, .string eCmdKey, .string eCmdValue, .string eCmdOld])], (Hp.setCell H1 g (.slice ap.a ap.len ap.cap))⟩
def ghost_Ghost_Commit.k4 (J : Jn) (g : Addr) (eIndex : Int) (eTerm : Int) (eCmdOp : Int) (eCmdClient : Int) (eCmdSeq : Int) (eCmdKey : ByteArray) (eCmdValue : ByteArray) (eCmdOld : ByteArray) (ok : Bool) (ap : Sl) (H1 : Hp) (x2 : Bool) (Q : Value → Hp → Prop) : Prop := J (vMid Try.prog ghost_Ghost_Commit.cf J ghost_Ghost_Commit.fn [1, 1, 1, 0] [0, 1, 1, 1] 9 Q) (ghost_Ghost_Commit.k4.st g eIndex eTerm eCmdOp eCmdClient eCmdSeq eCmdKey eCmdValue eCmdOld ok ap H1 x2)
def ghost_Ghost_Commit.k5.st (g : Addr) (eIndex : Int) (eTerm : Int) (eCmdOp : Int) (eCmdClient : Int) (eCmdSeq : Int) (eCmdKey : ByteArray) (eCmdValue : ByteArray) (eCmdOld : ByteArray) (H : Hp) (ok : Bool) (x3 : Bool) : VS := ⟨mkFr 67 [(5, .v (.bool ok)), (55, .v (.pointer (some g))), (63, .v (.bool x3))], [(T_api_Entry, [.int .i64 eIndex, .int .i64 eTerm, .int .i64 eCmdOp, .int .i64 eCmdClient, .int .i64 eCmdSeq, .string eCmdKey, .string eCmdValue, .string eCmdOld])], (holes H 1)⟩
def ghost_Ghost_Commit.k5 (J : Jn) (g : Addr) (eIndex : Int) (eTerm : Int) (eCmdOp : Int) (eCmdClient : Int) (eCmdSeq : Int) (eCmdKey : ByteArray) (eCmdValue : ByteArray) (eCmdOld : ByteArray) (H : Hp) (ok : Bool) (x3 : Bool) (Q : Value → Hp → Prop) : Prop := J (vMid Try.prog ghost_Ghost_Commit.cf J ghost_Ghost_Commit.fn [1, 1, 1, 0] [0, 1, 1, 1] 9 Q) (ghost_Ghost_Commit.k5.st g eIndex eTerm eCmdOp eCmdClient eCmdSeq eCmdKey eCmdValue eCmdOld H ok x3)
attribute [irreducible] ghost_Ghost_Commit.k1 ghost_Ghost_Commit.k2 ghost_Ghost_Commit.k3 ghost_Ghost_Commit.k4 ghost_Ghost_Commit.k5
def ghost_Ghost_Commit.k1.body (J : Jn) (g : Addr) (eIndex : Int) (eTerm : Int) (eCmdOp : Int) (eCmdClient : Int) (eCmdSeq : Int) (eCmdKey : ByteArray) (eCmdValue : ByteArray) (eCmdOld : ByteArray) (H : Hp) (ok : Bool) (Q : Value → Hp → Prop) : Prop :=
 
 Br ok (∃ log1 : Sl, Hp.cell? (holes H 1) g = some (.slice log1.a log1.len log1.cap) ∧ 
 ghost_Ghost_Commit.k2 J g eIndex eTerm eCmdOp eCmdClient eCmdSeq eCmdKey eCmdValue eCmdOld H ok (decide (eIndex ≤ ((log1.len : Nat) : Int))) Q)
 (
 ghost_Ghost_Commit.k2 J g eIndex eTerm eCmdOp eCmdClient eCmdSeq eCmdKey eCmdValue eCmdOld H ok false Q)
theorem ghost_Ghost_Commit.k1.eq (J : Jn) (g : Addr) (eIndex : Int) (eTerm : Int) (eCmdOp : Int) (eCmdClient : Int) (eCmdSeq : Int) (eCmdKey : ByteArray) (eCmdValue : ByteArray) (eCmdOld : ByteArray) (H : Hp) (ok : Bool) (Q : Value → Hp → Prop) : vSeg Try.prog ghost_Ghost_Commit.cf J ghost_Ghost_Commit.fn [1, 1] [0, 1] Q (ghost_Ghost_Commit.k1.st g eIndex eTerm eCmdOp eCmdClient eCmdSeq eCmdKey eCmdValue eCmdOld H ok) = ghost_Ghost_Commit.k1.body J g eIndex eTerm eCmdOp eCmdClient eCmdSeq eCmdKey eCmdValue eCmdOld H ok Q := by kernel_rfl
theorem ghost_Ghost_Commit.k1.step {g : Addr} {eIndex : Int} {eTerm : Int} {eCmdOp : Int} {eCmdClient : Int} {eCmdSeq : Int} {eCmdKey : ByteArray} {eCmdValue : ByteArray} {eCmdOld : ByteArray} {H : Hp} {ok : Bool} {Q : Value → Hp → Prop} (h : ghost_Ghost_Commit.k1.body J0 g eIndex eTerm eCmdOp eCmdClient eCmdSeq eCmdKey eCmdValue eCmdOld H ok Q) : ghost_Ghost_Commit.k1 J0 g eIndex eTerm eCmdOp eCmdClient eCmdSeq eCmdKey eCmdValue eCmdOld H ok Q := step_of (vSeg Try.prog ghost_Ghost_Commit.cf J0 ghost_Ghost_Commit.fn [1, 1] [0, 1] Q) (ghost_Ghost_Commit.k1.st g eIndex eTerm eCmdOp eCmdClient eCmdSeq eCmdKey eCmdValue eCmdOld H ok) (ghost_Ghost_Commit.k1.eq J0 g eIndex eTerm eCmdOp eCmdClient eCmdSeq eCmdKey eCmdValue eCmdOld H ok Q) (by kernel_rfl) h
def ghost_Ghost_Commit.k2.body (J : Jn) (g : Addr) (eIndex : Int) (eTerm : Int) (eCmdOp : Int) (eCmdClient : Int) (eCmdSeq : Int) (eCmdKey : ByteArray) (eCmdValue : ByteArray) (eCmdOld : ByteArray) (H : Hp) (ok : Bool) (x : Bool) (Q : Value → Hp → Prop) : Prop :=
 
 Br x (∃ log2 : Sl, Hp.cell? (holes H 1) g = some (.slice log2.a log2.len log2.cap) ∧ ((0 : Int) ≤ (w64 (eIndex - 1)) ∧ (w64 (eIndex - 1)) < ((log2.len : Nat) : Int)) ∧ vPtr log2.a (fun a => ∃ Index : Int, ∃ Term : Int, ∃ CmdOp : Int, ∃ CmdClient : Int, ∃ CmdSeq : Int, ∃ CmdKey : ByteArray, ∃ CmdValue : ByteArray, ∃ CmdOld : ByteArray, RowAt (holes H 1) (a.add (((w64 (eIndex - 1)) : Int).toNat * 8)) [.int .i64 Index, .int .i64 Term, .int .i64 CmdOp, .int .i64 CmdClient, .int .i64 CmdSeq, .string CmdKey, .string CmdValue, .string CmdOld] ∧ ∃ wrong : Bool, Hp.cell? (holes H 1) (g.add 2) = some (.bool wrong) ∧ 
 Br wrong (
 ghost_Ghost_Commit.k3 J g eIndex eTerm eCmdOp eCmdClient eCmdSeq eCmdKey eCmdValue eCmdOld H Index Term CmdOp CmdClient CmdSeq CmdKey CmdValue CmdOld true Q)
 (
 ghost_Ghost_Commit.k3 J g eIndex eTerm eCmdOp eCmdClient eCmdSeq eCmdKey eCmdValue eCmdOld H Index Term CmdOp CmdClient CmdSeq CmdKey CmdValue CmdOld (!((Index == eIndex) && ((Term == eTerm) && (((CmdOp == eCmdOp) && ((CmdClient == eCmdClient) && ((CmdSeq == eCmdSeq) && ((CmdKey == eCmdKey) && ((CmdValue == eCmdValue) && ((CmdOld == eCmdOld) && true)))))) && true)))) Q)))
 (
 Br ok (∃ log3 : Sl, Hp.cell? (holes H 1) g = some (.slice log3.a log3.len log3.cap) ∧ 
 vApp Try.prog T_sl_api_Entry log3.a log3.len log3.cap (.slice (some (Addr.mk (Array.size (holes H 1)) 0 none)) 1 1) (Array.push (holes H 1) (.cells #[.int .i64 eIndex, .int .i64 eTerm, .int .i64 eCmdOp, .int .i64 eCmdClient, .int .i64 eCmdSeq, .string eCmdKey, .string eCmdValue, .string eCmdOld] T_api_Entry)) (fun ap H1 => WrAt H1 g 1 ∧ ∃ wrong1 : Bool, Hp.cell? (Hp.setCell H1 g (.slice ap.a ap.len ap.cap)) (g.add 2) = some (.bool wrong1) ∧ 
 Br wrong1 (
 ghost_Ghost_Commit.k4 J g eIndex eTerm eCmdOp eCmdClient eCmdSeq eCmdKey eCmdValue eCmdOld ok ap H1 true Q)
 (
 ghost_Ghost_Commit.k4 J g eIndex eTerm eCmdOp eCmdClient eCmdSeq eCmdKey eCmdValue eCmdOld ok ap H1 (!ok) Q)))
 (∃ wrong2 : Bool, Hp.cell? (holes H 1) (g.add 2) = some (.bool wrong2) ∧ 
 Br wrong2 (
 ghost_Ghost_Commit.k5 J g eIndex eTerm eCmdOp eCmdClient eCmdSeq eCmdKey eCmdValue eCmdOld H ok true Q)
 (
 ghost_Ghost_Commit.k5 J g eIndex eTerm eCmdOp eCmdClient eCmdSeq eCmdKey eCmdValue eCmdOld H ok (!ok) Q)))
theorem ghost_Ghost_Commit.k2.eq (J : Jn) (g : Addr) (eIndex : Int) (eTerm : Int) (eCmdOp : Int) (eCmdClient : Int) (eCmdSeq : Int) (eCmdKey : ByteArray) (eCmdValue : ByteArray) (eCmdOld : ByteArray) (H : Hp) (ok : Bool) (x : Bool) (Q : Value → Hp → Prop) : vSeg Try.prog ghost_Ghost_Commit.cf J ghost_Ghost_Commit.fn [1, 1, 0, 0, 1] [0, 1, 1, 1] Q (ghost_Ghost_Commit.k2.st g eIndex eTerm eCmdOp eCmdClient eCmdSeq eCmdKey eCmdValue eCmdOld H ok x) = ghost_Ghost_Commit.k2.body J g eIndex eTerm eCmdOp eCmdClient eCmdSeq eCmdKey eCmdValue eCmdOld H ok x Q := by kernel_rfl
theorem ghost_Ghost_Commit.k2.step {g : Addr} {eIndex : Int} {eTerm : Int} {eCmdOp : Int} {eCmdClient : Int} {eCmdSeq : Int} {eCmdKey : ByteArray} {eCmdValue : ByteArray} {eCmdOld : ByteArray} {H : Hp} {ok : Bool} {x : Bool} {Q : Value → Hp → Prop} (h : ghost_Ghost_Commit.k2.body J0 g eIndex eTerm eCmdOp eCmdClient eCmdSeq eCmdKey eCmdValue eCmdOld H ok x Q) : ghost_Ghost_Commit.k2 J0 g eIndex eTerm eCmdOp eCmdClient eCmdSeq eCmdKey eCmdValue eCmdOld H ok x Q := step_of (vSeg Try.prog ghost_Ghost_Commit.cf J0 ghost_Ghost_Commit.fn [1, 1, 0, 0, 1] [0, 1, 1, 1] Q) (ghost_Ghost_Commit.k2.st g eIndex eTerm eCmdOp eCmdClient eCmdSeq eCmdKey eCmdValue eCmdOld H ok x) (ghost_Ghost_Commit.k2.eq J0 g eIndex eTerm eCmdOp eCmdClient eCmdSeq eCmdKey eCmdValue eCmdOld H ok x Q) (by kernel_rfl) h
def ghost_Ghost_Commit.k3.body (J : Jn) (g : Addr) (eIndex : Int) (eTerm : Int) (eCmdOp : Int) (eCmdClient : Int) (eCmdSeq : Int) (eCmdKey : ByteArray) (eCmdValue : ByteArray) (eCmdOld : ByteArray) (H : Hp) (Index : Int) (Term : Int) (CmdOp : Int) (CmdClient : Int) (CmdSeq : Int) (CmdKey : ByteArray) (CmdValue : ByteArray) (CmdOld : ByteArray) (x1 : Bool) (Q : Value → Hp → Prop) : Prop :=
 WrAt (holes H 1) (g.add 2) 1 ∧ Q (.bool ((Index == eIndex) && ((Term == eTerm) && (((CmdOp == eCmdOp) && ((CmdClient == eCmdClient) && ((CmdSeq == eCmdSeq) && ((CmdKey == eCmdKey) && ((CmdValue == eCmdValue) && ((CmdOld == eCmdOld) && true)))))) && true)))) (Hp.setCell (holes H 1) (g.add 2) (.bool x1))
theorem ghost_Ghost_Commit.k3.eq (J : Jn) (g : Addr) (eIndex : Int) (eTerm : Int) (eCmdOp : Int) (eCmdClient : Int) (eCmdSeq : Int) (eCmdKey : ByteArray) (eCmdValue : ByteArray) (eCmdOld : ByteArray) (H : Hp) (Index : Int) (Term : Int) (CmdOp : Int) (CmdClient : Int) (CmdSeq : Int) (CmdKey : ByteArray) (CmdValue : ByteArray) (CmdOld : ByteArray) (x1 : Bool) (Q : Value → Hp → Prop) : vMid Try.prog ghost_Ghost_Commit.cf J ghost_Ghost_Commit.fn [1, 1, 1, 0] [0, 1, 1, 1] 9 Q (ghost_Ghost_Commit.k3.st g eIndex eTerm eCmdOp eCmdClient eCmdSeq eCmdKey eCmdValue eCmdOld H Index Term CmdOp CmdClient CmdSeq CmdKey CmdValue CmdOld x1) = ghost_Ghost_Commit.k3.body J g eIndex eTerm eCmdOp eCmdClient eCmdSeq eCmdKey eCmdValue eCmdOld H Index Term CmdOp CmdClient CmdSeq CmdKey CmdValue CmdOld x1 Q := by kernel_rfl
theorem ghost_Ghost_Commit.k3.step {g : Addr} {eIndex : Int} {eTerm : Int} {eCmdOp : Int} {eCmdClient : Int} {eCmdSeq : Int} {eCmdKey : ByteArray} {eCmdValue : ByteArray} {eCmdOld : ByteArray} {H : Hp} {Index : Int} {Term : Int} {CmdOp : Int} {CmdClient : Int} {CmdSeq : Int} {CmdKey : ByteArray} {CmdValue : ByteArray} {CmdOld : ByteArray} {x1 : Bool} {Q : Value → Hp → Prop} (h : ghost_Ghost_Commit.k3.body J0 g eIndex eTerm eCmdOp eCmdClient eCmdSeq eCmdKey eCmdValue eCmdOld H Index Term CmdOp CmdClient CmdSeq CmdKey CmdValue CmdOld x1 Q) : ghost_Ghost_Commit.k3 J0 g eIndex eTerm eCmdOp eCmdClient eCmdSeq eCmdKey eCmdValue eCmdOld H Index Term CmdOp CmdClient CmdSeq CmdKey CmdValue CmdOld x1 Q := step_of (vMid Try.prog ghost_Ghost_Commit.cf J0 ghost_Ghost_Commit.fn [1, 1, 1, 0] [0, 1, 1, 1] 9 Q) (ghost_Ghost_Commit.k3.st g eIndex eTerm eCmdOp eCmdClient eCmdSeq eCmdKey eCmdValue eCmdOld H Index Term CmdOp CmdClient CmdSeq CmdKey CmdValue CmdOld x1) (ghost_Ghost_Commit.k3.eq J0 g eIndex eTerm eCmdOp eCmdClient eCmdSeq eCmdKey eCmdValue eCmdOld H Index Term CmdOp CmdClient CmdSeq CmdKey CmdValue CmdOld x1 Q) (by kernel_rfl) h
def ghost_Ghost_Commit.k4.body (J : Jn) (g : Addr) (eIndex : Int) (eTerm : Int) (eCmdOp : Int) (eCmdClient : Int) (eCmdSeq : Int) (eCmdKey : ByteArray) (eCmdValue : ByteArray) (eCmdOld : ByteArray) (ok : Bool) (ap : Sl) (H1 : Hp) (x2 : Bool) (Q : Value → Hp → Prop) : Prop :=
 WrAt (Hp.setCell H1 g (.slice ap.a ap.len ap.cap)) (g.add 2) 1 ∧ Q (.bool ok) (Hp.setCell (Hp.setCell H1 g (.slice ap.a ap.len ap.cap)) (g.add 2) (.bool x2))
theorem ghost_Ghost_Commit.k4.eq (J : Jn) (g : Addr) (eIndex : Int) (eTerm : Int) (eCmdOp : Int) (eCmdClient : Int) (eCmdSeq : Int) (eCmdKey : ByteArray) (eCmdValue : ByteArray) (eCmdOld : ByteArray) (ok : Bool) (ap : Sl) (H1 : Hp) (x2 : Bool) (Q : Value → Hp → Prop) : vMid Try.prog ghost_Ghost_Commit.cf J ghost_Ghost_Commit.fn [1, 1, 1, 0] [0, 1, 1, 1] 9 Q (ghost_Ghost_Commit.k4.st g eIndex eTerm eCmdOp eCmdClient eCmdSeq eCmdKey eCmdValue eCmdOld ok ap H1 x2) = ghost_Ghost_Commit.k4.body J g eIndex eTerm eCmdOp eCmdClient eCmdSeq eCmdKey eCmdValue eCmdOld ok ap H1 x2 Q := by kernel_rfl
theorem ghost_Ghost_Commit.k4.step {g : Addr} {eIndex : Int} {eTerm : Int} {eCmdOp : Int} {eCmdClient : Int} {eCmdSeq : Int} {eCmdKey : ByteArray} {eCmdValue : ByteArray} {eCmdOld : ByteArray} {ok : Bool} {ap : Sl} {H1 : Hp} {x2 : Bool} {Q : Value → Hp → Prop} (h : ghost_Ghost_Commit.k4.body J0 g eIndex eTerm eCmdOp eCmdClient eCmdSeq eCmdKey eCmdValue eCmdOld ok ap H1 x2 Q) : ghost_Ghost_Commit.k4 J0 g eIndex eTerm eCmdOp eCmdClient eCmdSeq eCmdKey eCmdValue eCmdOld ok ap H1 x2 Q := step_of (vMid Try.prog ghost_Ghost_Commit.cf J0 ghost_Ghost_Commit.fn [1, 1, 1, 0] [0, 1, 1, 1] 9 Q) (ghost_Ghost_Commit.k4.st g eIndex eTerm eCmdOp eCmdClient eCmdSeq eCmdKey eCmdValue eCmdOld ok ap H1 x2) (ghost_Ghost_Commit.k4.eq J0 g eIndex eTerm eCmdOp eCmdClient eCmdSeq eCmdKey eCmdValue eCmdOld ok ap H1 x2 Q) (by kernel_rfl) h
def ghost_Ghost_Commit.k5.body (J : Jn) (g : Addr) (eIndex : Int) (eTerm : Int) (eCmdOp : Int) (eCmdClient : Int) (eCmdSeq : Int) (eCmdKey : ByteArray) (eCmdValue : ByteArray) (eCmdOld : ByteArray) (H : Hp) (ok : Bool) (x3 : Bool) (Q : Value → Hp → Prop) : Prop :=
 WrAt (holes H 1) (g.add 2) 1 ∧ Q (.bool ok) (Hp.setCell (holes H 1) (g.add 2) (.bool x3))
theorem ghost_Ghost_Commit.k5.eq (J : Jn) (g : Addr) (eIndex : Int) (eTerm : Int) (eCmdOp : Int) (eCmdClient : Int) (eCmdSeq : Int) (eCmdKey : ByteArray) (eCmdValue : ByteArray) (eCmdOld : ByteArray) (H : Hp) (ok : Bool) (x3 : Bool) (Q : Value → Hp → Prop) : vMid Try.prog ghost_Ghost_Commit.cf J ghost_Ghost_Commit.fn [1, 1, 1, 0] [0, 1, 1, 1] 9 Q (ghost_Ghost_Commit.k5.st g eIndex eTerm eCmdOp eCmdClient eCmdSeq eCmdKey eCmdValue eCmdOld H ok x3) = ghost_Ghost_Commit.k5.body J g eIndex eTerm eCmdOp eCmdClient eCmdSeq eCmdKey eCmdValue eCmdOld H ok x3 Q := by kernel_rfl
theorem ghost_Ghost_Commit.k5.step {g : Addr} {eIndex : Int} {eTerm : Int} {eCmdOp : Int} {eCmdClient : Int} {eCmdSeq : Int} {eCmdKey : ByteArray} {eCmdValue : ByteArray} {eCmdOld : ByteArray} {H : Hp} {ok : Bool} {x3 : Bool} {Q : Value → Hp → Prop} (h : ghost_Ghost_Commit.k5.body J0 g eIndex eTerm eCmdOp eCmdClient eCmdSeq eCmdKey eCmdValue eCmdOld H ok x3 Q) : ghost_Ghost_Commit.k5 J0 g eIndex eTerm eCmdOp eCmdClient eCmdSeq eCmdKey eCmdValue eCmdOld H ok x3 Q := step_of (vMid Try.prog ghost_Ghost_Commit.cf J0 ghost_Ghost_Commit.fn [1, 1, 1, 0] [0, 1, 1, 1] 9 Q) (ghost_Ghost_Commit.k5.st g eIndex eTerm eCmdOp eCmdClient eCmdSeq eCmdKey eCmdValue eCmdOld H ok x3) (ghost_Ghost_Commit.k5.eq J0 g eIndex eTerm eCmdOp eCmdClient eCmdSeq eCmdKey eCmdValue eCmdOld H ok x3 Q) (by kernel_rfl) h
def ghost_Ghost_Commit.vc (J : Jn) (g : Addr) (eIndex : Int) (eTerm : Int) (eCmdOp : Int) (eCmdClient : Int) (eCmdSeq : Int) (eCmdKey : ByteArray) (eCmdValue : ByteArray) (eCmdOld : ByteArray) (H : Hp) (Q : Value → Hp → Prop) : Prop :=
 
 Br (decide (eIndex ≥ 1)) (∃ log : Sl, Hp.cell? (holes H 1) g = some (.slice log.a log.len log.cap) ∧ 
 ghost_Ghost_Commit.k1 J g eIndex eTerm eCmdOp eCmdClient eCmdSeq eCmdKey eCmdValue eCmdOld H (decide (eIndex ≤ (w64 (((log.len : Nat) : Int) + 1)))) Q)
 (
 ghost_Ghost_Commit.k1 J g eIndex eTerm eCmdOp eCmdClient eCmdSeq eCmdKey eCmdValue eCmdOld H false Q)
theorem ghost_Ghost_Commit.eq (J : Jn) (g : Addr) (eIndex : Int) (eTerm : Int) (eCmdOp : Int) (eCmdClient : Int) (eCmdSeq : Int) (eCmdKey : ByteArray) (eCmdValue : ByteArray) (eCmdOld : ByteArray) (H : Hp) (Q : Value → Hp → Prop) : vFn Try.prog ghost_Ghost_Commit.cf J ghost_Ghost_Commit.fn [.pointer (some g), .agg #[.int .i64 eIndex, .int .i64 eTerm, .int .i64 eCmdOp, .int .i64 eCmdClient, .int .i64 eCmdSeq, .string eCmdKey, .string eCmdValue, .string eCmdOld]] H Q = ghost_Ghost_Commit.vc J g eIndex eTerm eCmdOp eCmdClient eCmdSeq eCmdKey eCmdValue eCmdOld H Q := by kernel_rfl
theorem ghost_Ghost_Commit.calls {g : Addr} {eIndex : Int} {eTerm : Int} {eCmdOp : Int} {eCmdClient : Int} {eCmdSeq : Int} {eCmdKey : ByteArray} {eCmdValue : ByteArray} {eCmdOld : ByteArray} {H : Hp} {Q : Value → Hp → Prop} (h : ghost_Ghost_Commit.vc J0 g eIndex eTerm eCmdOp eCmdClient eCmdSeq eCmdKey eCmdValue eCmdOld H Q) : SCalls Try.prog ghost_Ghost_Commit.id [.pointer (some g), .agg #[.int .i64 eIndex, .int .i64 eTerm, .int .i64 eCmdOp, .int .i64 eCmdClient, .int .i64 eCmdSeq, .string eCmdKey, .string eCmdValue, .string eCmdOld]] H Q := vFn_of Try.mixed Try.func14 (ghost_Ghost_Commit.eq J0 g eIndex eTerm eCmdOp eCmdClient eCmdSeq eCmdKey eCmdValue eCmdOld H Q) h

/-! 15: (*tephra/ghost.Ghost).Log -/
def ghost_Ghost_Log.cf : Cfg := ⟨[], [], [], []⟩
def ghost_Ghost_Log.vc (J : Jn) (g : Addr) (H : Hp) (Q : Value → Hp → Prop) : Prop :=
 ∃ log : Sl, Hp.cell? H g = some (.slice log.a log.len log.cap) ∧ 
 SCalls Try.prog slices_Clone_sl_api_Entry_api_Entry.id [.slice log.a log.len log.cap] H (fun r H1 => ∃ x : Sl, r = .slice x.a x.len x.cap ∧ Q (.slice x.a x.len x.cap) H1)
theorem ghost_Ghost_Log.eq (J : Jn) (g : Addr) (H : Hp) (Q : Value → Hp → Prop) : vFn Try.prog ghost_Ghost_Log.cf J ghost_Ghost_Log.fn [.pointer (some g)] H Q = ghost_Ghost_Log.vc J g H Q := by kernel_rfl
theorem ghost_Ghost_Log.calls {g : Addr} {H : Hp} {Q : Value → Hp → Prop} (h : ghost_Ghost_Log.vc J0 g H Q) : SCalls Try.prog ghost_Ghost_Log.id [.pointer (some g)] H Q := vFn_of Try.mixed Try.func15 (ghost_Ghost_Log.eq J0 g H Q) h

/-! 19: (tephra/tephralaw06.Say).Cmd -/
def tephralaw06_Say_Cmd.cf : Cfg := ⟨[1, 2, 3], [], [(6, [1, 2, 3], true)], []⟩
def tephralaw06_Say_Cmd.k1.st (sOp : Int) (sClient : Int) (sSeq : Int) (sKey : Int) (sValue : Int) (sOld : Int) (H : Hp) (y : ByteArray) : VS := ⟨mkFr 65 [(1, .loc 0 0), (2, .loc 1 0), (3, .loc 2 0)], [(T_tephralaw06_Say, [.int .u8 sOp, .int .u8 sClient, .int .u8 sSeq, .int .u8 sKey, .int .u8 sValue, .int .u8 sOld]), (T_api_Cmd, [.int .i64 0, .int .i64 0, .int .i64 0, .string (ByteArray.mk #[]), .string (ByteArray.mk #[]), .string (ByteArray.mk #[])]), (T_api_Cmd, [.int .i64 (w64 ((Int.tmod sOp 4))), .int .i64 (w64 ((Int.tmod sClient 4))), .int .i64 (w64 ((Int.tmod sSeq 40))), .string ((ByteArray.mk #[107]) ++ ((ByteArray.mk #[97, 98, 99, 100, 101, 102, 103, 104]).extract (((Int.tmod sKey 8) : Int).toNat) (((IntKind.u8.wrap ((Int.tmod sKey 8) + 1)) : Int).toNat))), .string y, .string (ByteArray.mk #[])])], (holes H 3)⟩
def tephralaw06_Say_Cmd.k1 (J : Jn) (sOp : Int) (sClient : Int) (sSeq : Int) (sKey : Int) (sValue : Int) (sOld : Int) (H : Hp) (y : ByteArray) (Q : Value → Hp → Prop) : Prop := J (vSeg Try.prog tephralaw06_Say_Cmd.cf J tephralaw06_Say_Cmd.fn [1, 1, 1, 1] [0, 2, 3, 3] Q) (tephralaw06_Say_Cmd.k1.st sOp sClient sSeq sKey sValue sOld H y)
attribute [irreducible] tephralaw06_Say_Cmd.k1
def tephralaw06_Say_Cmd.k1.body (J : Jn) (sOp : Int) (sClient : Int) (sSeq : Int) (sKey : Int) (sValue : Int) (sOld : Int) (H : Hp) (y : ByteArray) (Q : Value → Hp → Prop) : Prop :=
 
 Br ((w64 ((Int.tmod sOp 4))) == 3) ((2 : Int) ≠ 0 ∧ ((0 : Int) ≤ (Int.tmod sOld 2) ∧ (Int.tmod sOld 2) ≤ (((ByteArray.mk #[118]).size : Nat) : Int)) ∧ (10 : Int) ≠ 0 ∧ (10 : Int) ≠ 0 ∧ ((0 : Int) ≤ (IntKind.u8.wrap ((Int.tmod sOld 10) + 1)) ∧ (IntKind.u8.wrap ((Int.tmod sOld 10) + 1)) ≤ (((ByteArray.mk #[48, 49, 50, 51, 52, 53, 54, 55, 56, 57]).size : Nat) : Int)) ∧ ((0 : Int) ≤ (Int.tmod sOld 10) ∧ (Int.tmod sOld 10) ≤ (((((IntKind.u8.wrap ((Int.tmod sOld 10) + 1)) : Int).toNat) : Nat) : Int)) ∧ ((ByteArray.mk #[118]).extract 0 (((Int.tmod sOld 2) : Int).toNat)).size + ((ByteArray.mk #[48, 49, 50, 51, 52, 53, 54, 55, 56, 57]).extract (((Int.tmod sOld 10) : Int).toNat) (((IntKind.u8.wrap ((Int.tmod sOld 10) + 1)) : Int).toNat)).size ≤ 9223372036854775807 ∧ Q (.agg #[.int .i64 (w64 ((Int.tmod sOp 4))), .int .i64 (w64 ((Int.tmod sClient 4))), .int .i64 (w64 ((Int.tmod sSeq 40))), .string ((ByteArray.mk #[107]) ++ ((ByteArray.mk #[97, 98, 99, 100, 101, 102, 103, 104]).extract (((Int.tmod sKey 8) : Int).toNat) (((IntKind.u8.wrap ((Int.tmod sKey 8) + 1)) : Int).toNat))), .string y, .string (((ByteArray.mk #[118]).extract 0 (((Int.tmod sOld 2) : Int).toNat)) ++ ((ByteArray.mk #[48, 49, 50, 51, 52, 53, 54, 55, 56, 57]).extract (((Int.tmod sOld 10) : Int).toNat) (((IntKind.u8.wrap ((Int.tmod sOld 10) + 1)) : Int).toNat)))]) (holes H 3))
 (Q (.agg #[.int .i64 (w64 ((Int.tmod sOp 4))), .int .i64 (w64 ((Int.tmod sClient 4))), .int .i64 (w64 ((Int.tmod sSeq 40))), .string ((ByteArray.mk #[107]) ++ ((ByteArray.mk #[97, 98, 99, 100, 101, 102, 103, 104]).extract (((Int.tmod sKey 8) : Int).toNat) (((IntKind.u8.wrap ((Int.tmod sKey 8) + 1)) : Int).toNat))), .string y, .string (ByteArray.mk #[])]) (holes H 3))
theorem tephralaw06_Say_Cmd.k1.eq (J : Jn) (sOp : Int) (sClient : Int) (sSeq : Int) (sKey : Int) (sValue : Int) (sOld : Int) (H : Hp) (y : ByteArray) (Q : Value → Hp → Prop) : vSeg Try.prog tephralaw06_Say_Cmd.cf J tephralaw06_Say_Cmd.fn [1, 1, 1, 1] [0, 2, 3, 3] Q (tephralaw06_Say_Cmd.k1.st sOp sClient sSeq sKey sValue sOld H y) = tephralaw06_Say_Cmd.k1.body J sOp sClient sSeq sKey sValue sOld H y Q := by kernel_rfl
theorem tephralaw06_Say_Cmd.k1.step {sOp : Int} {sClient : Int} {sSeq : Int} {sKey : Int} {sValue : Int} {sOld : Int} {H : Hp} {y : ByteArray} {Q : Value → Hp → Prop} (h : tephralaw06_Say_Cmd.k1.body J0 sOp sClient sSeq sKey sValue sOld H y Q) : tephralaw06_Say_Cmd.k1 J0 sOp sClient sSeq sKey sValue sOld H y Q := step_of (vSeg Try.prog tephralaw06_Say_Cmd.cf J0 tephralaw06_Say_Cmd.fn [1, 1, 1, 1] [0, 2, 3, 3] Q) (tephralaw06_Say_Cmd.k1.st sOp sClient sSeq sKey sValue sOld H y) (tephralaw06_Say_Cmd.k1.eq J0 sOp sClient sSeq sKey sValue sOld H y Q) (by kernel_rfl) h
def tephralaw06_Say_Cmd.vc (J : Jn) (sOp : Int) (sClient : Int) (sSeq : Int) (sKey : Int) (sValue : Int) (sOld : Int) (H : Hp) (Q : Value → Hp → Prop) : Prop :=
 (4 : Int) ≠ 0 ∧ (4 : Int) ≠ 0 ∧ (40 : Int) ≠ 0 ∧ (8 : Int) ≠ 0 ∧ (8 : Int) ≠ 0 ∧ ((0 : Int) ≤ (IntKind.u8.wrap ((Int.tmod sKey 8) + 1)) ∧ (IntKind.u8.wrap ((Int.tmod sKey 8) + 1)) ≤ (((ByteArray.mk #[97, 98, 99, 100, 101, 102, 103, 104]).size : Nat) : Int)) ∧ ((0 : Int) ≤ (Int.tmod sKey 8) ∧ (Int.tmod sKey 8) ≤ (((((IntKind.u8.wrap ((Int.tmod sKey 8) + 1)) : Int).toNat) : Nat) : Int)) ∧ (ByteArray.mk #[107]).size + ((ByteArray.mk #[97, 98, 99, 100, 101, 102, 103, 104]).extract (((Int.tmod sKey 8) : Int).toNat) (((IntKind.u8.wrap ((Int.tmod sKey 8) + 1)) : Int).toNat)).size ≤ 9223372036854775807 ∧ (2 : Int) ≠ 0 ∧ ((0 : Int) ≤ (Int.tmod sValue 2) ∧ (Int.tmod sValue 2) ≤ (((ByteArray.mk #[118]).size : Nat) : Int)) ∧ (10 : Int) ≠ 0 ∧ (10 : Int) ≠ 0 ∧ ((0 : Int) ≤ (IntKind.u8.wrap ((Int.tmod sValue 10) + 1)) ∧ (IntKind.u8.wrap ((Int.tmod sValue 10) + 1)) ≤ (((ByteArray.mk #[48, 49, 50, 51, 52, 53, 54, 55, 56, 57]).size : Nat) : Int)) ∧ ((0 : Int) ≤ (Int.tmod sValue 10) ∧ (Int.tmod sValue 10) ≤ (((((IntKind.u8.wrap ((Int.tmod sValue 10) + 1)) : Int).toNat) : Nat) : Int)) ∧ ((ByteArray.mk #[118]).extract 0 (((Int.tmod sValue 2) : Int).toNat)).size + ((ByteArray.mk #[48, 49, 50, 51, 52, 53, 54, 55, 56, 57]).extract (((Int.tmod sValue 10) : Int).toNat) (((IntKind.u8.wrap ((Int.tmod sValue 10) + 1)) : Int).toNat)).size ≤ 9223372036854775807 ∧ 
 Br ((w64 ((Int.tmod sOp 4))) == 0) (Q (.agg #[.int .i64 0, .int .i64 0, .int .i64 0, .string (ByteArray.mk #[]), .string (ByteArray.mk #[]), .string (ByteArray.mk #[])]) (holes H 3))
 (
 Br ((w64 ((Int.tmod sOp 4))) == 2) (
 tephralaw06_Say_Cmd.k1 J sOp sClient sSeq sKey sValue sOld H (ByteArray.mk #[]) Q)
 (
 tephralaw06_Say_Cmd.k1 J sOp sClient sSeq sKey sValue sOld H (((ByteArray.mk #[118]).extract 0 (((Int.tmod sValue 2) : Int).toNat)) ++ ((ByteArray.mk #[48, 49, 50, 51, 52, 53, 54, 55, 56, 57]).extract (((Int.tmod sValue 10) : Int).toNat) (((IntKind.u8.wrap ((Int.tmod sValue 10) + 1)) : Int).toNat))) Q))
theorem tephralaw06_Say_Cmd.eq (J : Jn) (sOp : Int) (sClient : Int) (sSeq : Int) (sKey : Int) (sValue : Int) (sOld : Int) (H : Hp) (Q : Value → Hp → Prop) : vFn Try.prog tephralaw06_Say_Cmd.cf J tephralaw06_Say_Cmd.fn [.agg #[.int .u8 sOp, .int .u8 sClient, .int .u8 sSeq, .int .u8 sKey, .int .u8 sValue, .int .u8 sOld]] H Q = tephralaw06_Say_Cmd.vc J sOp sClient sSeq sKey sValue sOld H Q := by kernel_rfl
theorem tephralaw06_Say_Cmd.calls {sOp : Int} {sClient : Int} {sSeq : Int} {sKey : Int} {sValue : Int} {sOld : Int} {H : Hp} {Q : Value → Hp → Prop} (h : tephralaw06_Say_Cmd.vc J0 sOp sClient sSeq sKey sValue sOld H Q) : SCalls Try.prog tephralaw06_Say_Cmd.id [.agg #[.int .u8 sOp, .int .u8 sClient, .int .u8 sSeq, .int .u8 sKey, .int .u8 sValue, .int .u8 sOld]] H Q := vFn_of Try.mixed Try.func19 (tephralaw06_Say_Cmd.eq J0 sOp sClient sSeq sKey sValue sOld H Q) h

/-! 20: (*tephra/sorted.Map_int, int_).Get -/
def sorted_Map_int_int_Get.cf : Cfg := ⟨[], [], [], []⟩
def sorted_Map_int_int_Get.vc (J : Jn) (m : Addr) (k : Int) (H : Hp) (Q : Value → Hp → Prop) : Prop :=
 
 SCalls Try.prog sorted_Map_int_int_find.id [.pointer (some m), .int .i64 k] H (fun r H1 => ∃ x : Int, ∃ x1 : Bool, r = .tuple #[.int .i64 x, .bool x1] ∧ 
 Br x1 (∃ items : Sl, Hp.cell? H1 m = some (.slice items.a items.len items.cap) ∧ ((0 : Int) ≤ x ∧ x < ((items.len : Nat) : Int)) ∧ vPtr items.a (fun a => ∃ value : Int, Hp.cell? H1 ((a.add ((x : Int).toNat * 2)).add 1) = some (.int .i64 value) ∧ Q (.tuple #[.int .i64 value, .bool true]) H1))
 (Q (.tuple #[.int .i64 0, .bool false]) H1))
theorem sorted_Map_int_int_Get.eq (J : Jn) (m : Addr) (k : Int) (H : Hp) (Q : Value → Hp → Prop) : vFn Try.prog sorted_Map_int_int_Get.cf J sorted_Map_int_int_Get.fn [.pointer (some m), .int .i64 k] H Q = sorted_Map_int_int_Get.vc J m k H Q := by kernel_rfl
theorem sorted_Map_int_int_Get.calls {m : Addr} {k : Int} {H : Hp} {Q : Value → Hp → Prop} (h : sorted_Map_int_int_Get.vc J0 m k H Q) : SCalls Try.prog sorted_Map_int_int_Get.id [.pointer (some m), .int .i64 k] H Q := vFn_of Try.mixed Try.func20 (sorted_Map_int_int_Get.eq J0 m k H Q) h

/-! 21: (*tephra/sorted.Map_int, int_).Put -/
def sorted_Map_int_int_Put.cf : Cfg := ⟨[], [], [], []⟩
def sorted_Map_int_int_Put.vc (J : Jn) (m : Addr) (k : Int) (v : Int) (H : Hp) (Q : Value → Hp → Prop) : Prop :=
 
 SCalls Try.prog sorted_Map_int_int_find.id [.pointer (some m), .int .i64 k] H (fun r H1 => ∃ x : Int, ∃ x1 : Bool, r = .tuple #[.int .i64 x, .bool x1] ∧ 
 Br x1 (∃ items : Sl, Hp.cell? H1 m = some (.slice items.a items.len items.cap) ∧ ((0 : Int) ≤ x ∧ x < ((items.len : Nat) : Int)) ∧ vPtr items.a (fun a => WrAt H1 ((a.add ((x : Int).toNat * 2)).add 1) 1 ∧ Q (.bool false) (Hp.setCell H1 ((a.add ((x : Int).toNat * 2)).add 1) (.int .i64 v))))
 (∃ items1 : Sl, Hp.cell? H1 m = some (.slice items1.a items1.len items1.cap) ∧ 
 SCalls Try.prog slices_Insert_sl_sorted_item_int_int_sorted_item_int_int.id [.slice items1.a items1.len items1.cap, .int .i64 x, .slice (some (Addr.mk (Array.size H1) 0 none)) 1 1] (Array.push H1 (.cells #[.int .i64 k, .int .i64 v] T_sorted_item_int_int)) (fun r1 H2 => ∃ x2 : Sl, r1 = .slice x2.a x2.len x2.cap ∧ WrAt H2 m 1 ∧ Q (.bool true) (Hp.setCell H2 m (.slice x2.a x2.len x2.cap)))))
theorem sorted_Map_int_int_Put.eq (J : Jn) (m : Addr) (k : Int) (v : Int) (H : Hp) (Q : Value → Hp → Prop) : vFn Try.prog sorted_Map_int_int_Put.cf J sorted_Map_int_int_Put.fn [.pointer (some m), .int .i64 k, .int .i64 v] H Q = sorted_Map_int_int_Put.vc J m k v H Q := by kernel_rfl
theorem sorted_Map_int_int_Put.calls {m : Addr} {k : Int} {v : Int} {H : Hp} {Q : Value → Hp → Prop} (h : sorted_Map_int_int_Put.vc J0 m k v H Q) : SCalls Try.prog sorted_Map_int_int_Put.id [.pointer (some m), .int .i64 k, .int .i64 v] H Q := vFn_of Try.mixed Try.func21 (sorted_Map_int_int_Put.eq J0 m k v H Q) h

/-! 22: slices.Clone___tephra/api.Entry,tephra/api.Entry_ -/
def slices_Clone_sl_api_Entry_api_Entry.cf : Cfg := ⟨[], [], [], []⟩
def slices_Clone_sl_api_Entry_api_Entry.vc (J : Jn) (s : Sl) (H : Hp) (Q : Value → Hp → Prop) : Prop :=
 
 Br s.a.isNone (Q (.slice none 0 0) H)
 (
 vApp Try.prog T_sl_api_Entry (some (Addr.mk (Array.size H) 0 none)) 0 0 (.slice s.a s.len s.cap) (Array.push H (.cells #[] T_api_Entry)) (fun ap H1 => Q (.slice ap.a ap.len ap.cap) H1))
theorem slices_Clone_sl_api_Entry_api_Entry.eq (J : Jn) (s : Sl) (H : Hp) (Q : Value → Hp → Prop) : vFn Try.prog slices_Clone_sl_api_Entry_api_Entry.cf J slices_Clone_sl_api_Entry_api_Entry.fn [.slice s.a s.len s.cap] H Q = slices_Clone_sl_api_Entry_api_Entry.vc J s H Q := by kernel_rfl
theorem slices_Clone_sl_api_Entry_api_Entry.calls {s : Sl} {H : Hp} {Q : Value → Hp → Prop} (h : slices_Clone_sl_api_Entry_api_Entry.vc J0 s H Q) : SCalls Try.prog slices_Clone_sl_api_Entry_api_Entry.id [.slice s.a s.len s.cap] H Q := vFn_of Try.mixed Try.func22 (slices_Clone_sl_api_Entry_api_Entry.eq J0 s H Q) h

/-! 25: (*tephra/sorted.Map_int, int_).find -/
def sorted_Map_int_int_find.cf : Cfg := ⟨[], [], [], []⟩
def sorted_Map_int_int_find.vc (J : Jn) (m : Addr) (k : Int) (H : Hp) (Q : Value → Hp → Prop) : Prop :=
 ∃ items : Sl, Hp.cell? H m = some (.slice items.a items.len items.cap) ∧ 
 SCalls Try.prog slices_BinarySearchFunc_sl_sorted_item_int_int_sorted_item_int_int_int.id [.slice items.a items.len items.cap, .int .i64 k, .func (.func 39) #[] #[]] H (fun r H1 => ∃ x : Int, ∃ x1 : Bool, r = .tuple #[.int .i64 x, .bool x1] ∧ Q (.tuple #[.int .i64 x, .bool x1]) H1)
theorem sorted_Map_int_int_find.eq (J : Jn) (m : Addr) (k : Int) (H : Hp) (Q : Value → Hp → Prop) : vFn Try.prog sorted_Map_int_int_find.cf J sorted_Map_int_int_find.fn [.pointer (some m), .int .i64 k] H Q = sorted_Map_int_int_find.vc J m k H Q := by kernel_rfl
theorem sorted_Map_int_int_find.calls {m : Addr} {k : Int} {H : Hp} {Q : Value → Hp → Prop} (h : sorted_Map_int_int_find.vc J0 m k H Q) : SCalls Try.prog sorted_Map_int_int_find.id [.pointer (some m), .int .i64 k] H Q := vFn_of Try.mixed Try.func25 (sorted_Map_int_int_find.eq J0 m k H Q) h

/-! 26: slices.Insert___tephra/sorted.item_int, int_,tephra/sorted.item_int, int__ -/
def slices_Insert_sl_sorted_item_int_int_sorted_item_int_int.cf : Cfg := ⟨[], [], [], []⟩
def slices_Insert_sl_sorted_item_int_int_sorted_item_int_int.vc (J : Jn) (s : Sl) (i : Int) (v : Sl) (H : Hp) (Q : Value → Hp → Prop) : Prop :=
 ((0 : Int) ≤ i ∧ i ≤ ((s.len : Nat) : Int)) ∧ 
 Br (((v.len : Nat) : Int) == 0) (Q (.slice s.a s.len s.cap) H)
 (
 Br (i == ((s.len : Nat) : Int)) (
 vApp Try.prog T_sl_sorted_item_int_int s.a s.len s.cap (.slice v.a v.len v.cap) H (fun ap H1 => Q (.slice ap.a ap.len ap.cap) H1))
 (
 Br (decide ((w64 (((s.len : Nat) : Int) + ((v.len : Nat) : Int))) > ((s.cap : Nat) : Int))) (((0 : Int) ≤ i ∧ i ≤ ((s.cap : Nat) : Int)) ∧ 
 False)
 (((0 : Int) ≤ (w64 (((s.len : Nat) : Int) + ((v.len : Nat) : Int))) ∧ (w64 (((s.len : Nat) : Int) + ((v.len : Nat) : Int))) ≤ ((s.cap : Nat) : Int)) ∧ ((0 : Int) ≤ (w64 (i + ((v.len : Nat) : Int))) ∧ (w64 (i + ((v.len : Nat) : Int))) ≤ (((((w64 (((s.len : Nat) : Int) + ((v.len : Nat) : Int))) : Int).toNat) : Nat) : Int)) ∧ 
 False)))
theorem slices_Insert_sl_sorted_item_int_int_sorted_item_int_int.eq (J : Jn) (s : Sl) (i : Int) (v : Sl) (H : Hp) (Q : Value → Hp → Prop) : vFn Try.prog slices_Insert_sl_sorted_item_int_int_sorted_item_int_int.cf J slices_Insert_sl_sorted_item_int_int_sorted_item_int_int.fn [.slice s.a s.len s.cap, .int .i64 i, .slice v.a v.len v.cap] H Q = slices_Insert_sl_sorted_item_int_int_sorted_item_int_int.vc J s i v H Q := by kernel_rfl
theorem slices_Insert_sl_sorted_item_int_int_sorted_item_int_int.calls {s : Sl} {i : Int} {v : Sl} {H : Hp} {Q : Value → Hp → Prop} (h : slices_Insert_sl_sorted_item_int_int_sorted_item_int_int.vc J0 s i v H Q) : SCalls Try.prog slices_Insert_sl_sorted_item_int_int_sorted_item_int_int.id [.slice s.a s.len s.cap, .int .i64 i, .slice v.a v.len v.cap] H Q := vFn_of Try.mixed Try.func26 (slices_Insert_sl_sorted_item_int_int_sorted_item_int_int.eq J0 s i v H Q) h

/-! 38: slices.BinarySearchFunc___tephra/sorted.item_int, int_,tephra/sorted.item_int, int_,int_ -/
def slices_BinarySearchFunc_sl_sorted_item_int_int_sorted_item_int_int_int.cf : Cfg := ⟨[], [(3, [0, 1, 2, 8, 9, 10])], [], []⟩
def slices_BinarySearchFunc_sl_sorted_item_int_int_sorted_item_int_int_int.l1.st (x : Sl) (target : Int) (cmp : Value) (H1 : Hp) (i : Int) (j : Int) : VS := ⟨mkFr 49 [(0, .v (.slice x.a x.len x.cap)), (1, .v (.int .i64 target)), (2, .v cmp), (8, .v (.int .i64 ((x.len : Nat) : Int))), (9, .v (.int .i64 i)), (10, .v (.int .i64 j))], [], H1⟩
def slices_BinarySearchFunc_sl_sorted_item_int_int_sorted_item_int_int_int.l1 (J : Jn) (x : Sl) (target : Int) (cmp : Value) (H1 : Hp) (i : Int) (j : Int) (Q : Value → Hp → Prop) : Prop := vAt Try.prog slices_BinarySearchFunc_sl_sorted_item_int_int_sorted_item_int_int_int.cf J slices_BinarySearchFunc_sl_sorted_item_int_int_sorted_item_int_int_int.fn [1, 1, 1, 0, 0] [0, 0, 0, 0] Q (slices_BinarySearchFunc_sl_sorted_item_int_int_sorted_item_int_int_int.l1.st x target cmp H1 i j)
attribute [irreducible] slices_BinarySearchFunc_sl_sorted_item_int_int_sorted_item_int_int_int.l1
def slices_BinarySearchFunc_sl_sorted_item_int_int_sorted_item_int_int_int.l1.body (J : Jn) (x : Sl) (target : Int) (cmp : Value) (H1 : Hp) (i : Int) (j : Int) (Q : Value → Hp → Prop) : Prop :=
 
 Br (decide (i < j)) ((0 : Int) ≤ 1 ∧ ((0 : Int) ≤ (w64 ((Int.fdiv (IntKind.u64.wrap ((w64 (i + j)))) (2 ^ 1)))) ∧ (w64 ((Int.fdiv (IntKind.u64.wrap ((w64 (i + j)))) (2 ^ 1)))) < ((x.len : Nat) : Int)) ∧ vPtr x.a (fun a => ∃ key : Int, ∃ value : Int, RowAt H1 (a.add (((w64 ((Int.fdiv (IntKind.u64.wrap ((w64 (i + j)))) (2 ^ 1)))) : Int).toNat * 2)) [.int .i64 key, .int .i64 value] ∧ 
 vInv Try.prog cmp [.agg #[.int .i64 key, .int .i64 value], .int .i64 target] H1 (fun r H2 => ∃ x1 : Int, r = .int .i64 x1 ∧ 
 Br (decide (x1 < 0)) (
 slices_BinarySearchFunc_sl_sorted_item_int_int_sorted_item_int_int_int.l1 J x target cmp H2 (w64 ((w64 ((Int.fdiv (IntKind.u64.wrap ((w64 (i + j)))) (2 ^ 1)))) + 1)) j Q)
 (
 slices_BinarySearchFunc_sl_sorted_item_int_int_sorted_item_int_int_int.l1 J x target cmp H2 i (w64 ((Int.fdiv (IntKind.u64.wrap ((w64 (i + j)))) (2 ^ 1)))) Q))))
 (
 Br (decide (i < ((x.len : Nat) : Int))) (((0 : Int) ≤ i ∧ i < ((x.len : Nat) : Int)) ∧ vPtr x.a (fun a1 => ∃ key1 : Int, ∃ value1 : Int, RowAt H1 (a1.add ((i : Int).toNat * 2)) [.int .i64 key1, .int .i64 value1] ∧ 
 vInv Try.prog cmp [.agg #[.int .i64 key1, .int .i64 value1], .int .i64 target] H1 (fun r1 H3 => ∃ x2 : Int, r1 = .int .i64 x2 ∧ Q (.tuple #[.int .i64 i, .bool (x2 == 0)]) H3)))
 (Q (.tuple #[.int .i64 i, .bool false]) H1))
theorem slices_BinarySearchFunc_sl_sorted_item_int_int_sorted_item_int_int_int.l1.eq (J : Jn) (x : Sl) (target : Int) (cmp : Value) (H1 : Hp) (i : Int) (j : Int) (Q : Value → Hp → Prop) : vAtBody Try.prog slices_BinarySearchFunc_sl_sorted_item_int_int_sorted_item_int_int_int.cf J slices_BinarySearchFunc_sl_sorted_item_int_int_sorted_item_int_int_int.fn [1, 1, 1, 0, 0] [0, 0, 0, 0] Q (slices_BinarySearchFunc_sl_sorted_item_int_int_sorted_item_int_int_int.l1.st x target cmp H1 i j) = slices_BinarySearchFunc_sl_sorted_item_int_int_sorted_item_int_int_int.l1.body J x target cmp H1 i j Q := by kernel_rfl
theorem slices_BinarySearchFunc_sl_sorted_item_int_int_sorted_item_int_int_int.l1.step {x : Sl} {target : Int} {cmp : Value} {H1 : Hp} {i : Int} {j : Int} {Q : Value → Hp → Prop} (h : slices_BinarySearchFunc_sl_sorted_item_int_int_sorted_item_int_int_int.l1.body J0 x target cmp H1 i j Q) : slices_BinarySearchFunc_sl_sorted_item_int_int_sorted_item_int_int_int.l1 J0 x target cmp H1 i j Q := vAt_stepC (slices_BinarySearchFunc_sl_sorted_item_int_int_sorted_item_int_int_int.l1.st x target cmp H1 i j) (slices_BinarySearchFunc_sl_sorted_item_int_int_sorted_item_int_int_int.l1.eq J0 x target cmp H1 i j Q) (by kernel_rfl) h
def slices_BinarySearchFunc_sl_sorted_item_int_int_sorted_item_int_int_int.vc (J : Jn) (x : Sl) (target : Int) (cmp : Value) (H : Hp) (Q : Value → Hp → Prop) : Prop :=
 
 slices_BinarySearchFunc_sl_sorted_item_int_int_sorted_item_int_int_int.l1 J x target cmp H 0 ((x.len : Nat) : Int) Q
theorem slices_BinarySearchFunc_sl_sorted_item_int_int_sorted_item_int_int_int.eq (J : Jn) (x : Sl) (target : Int) (cmp : Value) (H : Hp) (Q : Value → Hp → Prop) : vFn Try.prog slices_BinarySearchFunc_sl_sorted_item_int_int_sorted_item_int_int_int.cf J slices_BinarySearchFunc_sl_sorted_item_int_int_sorted_item_int_int_int.fn [.slice x.a x.len x.cap, .int .i64 target, cmp] H Q = slices_BinarySearchFunc_sl_sorted_item_int_int_sorted_item_int_int_int.vc J x target cmp H Q := by kernel_rfl
theorem slices_BinarySearchFunc_sl_sorted_item_int_int_sorted_item_int_int_int.calls {x : Sl} {target : Int} {cmp : Value} {H : Hp} {Q : Value → Hp → Prop} (h : slices_BinarySearchFunc_sl_sorted_item_int_int_sorted_item_int_int_int.vc J0 x target cmp H Q) : SCalls Try.prog slices_BinarySearchFunc_sl_sorted_item_int_int_sorted_item_int_int_int.id [.slice x.a x.len x.cap, .int .i64 target, cmp] H Q := vFn_of Try.mixed Try.func38 (slices_BinarySearchFunc_sl_sorted_item_int_int_sorted_item_int_int_int.eq J0 x target cmp H Q) h

/-! 39: (*tephra/sorted.Map_int, int_).find$1 -/
def sorted_Map_int_int_find_1.cf : Cfg := ⟨[2], [], [], []⟩
def sorted_Map_int_int_find_1.vc (J : Jn) (xkey : Int) (xvalue : Int) (k : Int) (H : Hp) (Q : Value → Hp → Prop) : Prop :=
 
 SCalls Try.prog cmp_Compare_int.id [.int .i64 xkey, .int .i64 k] (holes H 1) (fun r H1 => ∃ x : Int, r = .int .i64 x ∧ Q (.int .i64 x) H1)
theorem sorted_Map_int_int_find_1.eq (J : Jn) (xkey : Int) (xvalue : Int) (k : Int) (H : Hp) (Q : Value → Hp → Prop) : vFn Try.prog sorted_Map_int_int_find_1.cf J sorted_Map_int_int_find_1.fn [.agg #[.int .i64 xkey, .int .i64 xvalue], .int .i64 k] H Q = sorted_Map_int_int_find_1.vc J xkey xvalue k H Q := by kernel_rfl
theorem sorted_Map_int_int_find_1.calls {xkey : Int} {xvalue : Int} {k : Int} {H : Hp} {Q : Value → Hp → Prop} (h : sorted_Map_int_int_find_1.vc J0 xkey xvalue k H Q) : SCalls Try.prog sorted_Map_int_int_find_1.id [.agg #[.int .i64 xkey, .int .i64 xvalue], .int .i64 k] H Q := vFn_of Try.mixed Try.func39 (sorted_Map_int_int_find_1.eq J0 xkey xvalue k H Q) h

/-! 40: cmp.Compare_int_ -/
def cmp_Compare_int.cf : Cfg := ⟨[], [], [], []⟩
def cmp_Compare_int.vc (J : Jn) (x : Int) (y : Int) (H : Hp) (Q : Value → Hp → Prop) : Prop :=
 
 SCalls Try.prog cmp_isNaN_int.id [.int .i64 x] H (fun r H1 => ∃ x1 : Bool, r = .bool x1 ∧ 
 SCalls Try.prog cmp_isNaN_int.id [.int .i64 y] H1 (fun r1 H2 => ∃ x2 : Bool, r1 = .bool x2 ∧ 
 Br x1 (
 Br x2 (Q (.int .i64 0) H2)
 (Q (.int .i64 (-1)) H2))
 (
 Br x2 (Q (.int .i64 1) H2)
 (
 Br (decide (x < y)) (Q (.int .i64 (-1)) H2)
 (
 Br (decide (x > y)) (Q (.int .i64 1) H2)
 (Q (.int .i64 0) H2))))))
theorem cmp_Compare_int.eq (J : Jn) (x : Int) (y : Int) (H : Hp) (Q : Value → Hp → Prop) : vFn Try.prog cmp_Compare_int.cf J cmp_Compare_int.fn [.int .i64 x, .int .i64 y] H Q = cmp_Compare_int.vc J x y H Q := by kernel_rfl
theorem cmp_Compare_int.calls {x : Int} {y : Int} {H : Hp} {Q : Value → Hp → Prop} (h : cmp_Compare_int.vc J0 x y H Q) : SCalls Try.prog cmp_Compare_int.id [.int .i64 x, .int .i64 y] H Q := vFn_of Try.mixed Try.func40 (cmp_Compare_int.eq J0 x y H Q) h

/-! 54: cmp.isNaN_int_ -/
def cmp_isNaN_int.cf : Cfg := ⟨[], [], [], []⟩
def cmp_isNaN_int.vc (J : Jn) (x : Int) (H : Hp) (Q : Value → Hp → Prop) : Prop :=
 Q (.bool (x != x)) H
theorem cmp_isNaN_int.eq (J : Jn) (x : Int) (H : Hp) (Q : Value → Hp → Prop) : vFn Try.prog cmp_isNaN_int.cf J cmp_isNaN_int.fn [.int .i64 x] H Q = cmp_isNaN_int.vc J x H Q := by kernel_rfl
theorem cmp_isNaN_int.calls {x : Int} {H : Hp} {Q : Value → Hp → Prop} (h : cmp_isNaN_int.vc J0 x H Q) : SCalls Try.prog cmp_isNaN_int.id [.int .i64 x] H Q := vFn_of Try.mixed Try.func54 (cmp_isNaN_int.eq J0 x H Q) h

end Go.Proofs
