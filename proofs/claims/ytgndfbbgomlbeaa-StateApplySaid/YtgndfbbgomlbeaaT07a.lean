/- THE SEAT'S CODE, AS WALKED, first half: for each function what is to be shown of it (printed by the own program gen.py), held by the kernel. -/
import Derived.Test.YtgndfbbgomlbeaaProg
import Derived.Test.YtgndfbbgomlbeaaKc13
set_option maxRecDepth 100000
set_option linter.all false
set_option linter.constructorNameAsVariable false
namespace Go.Proofs
open Go Go.KC
theorem Try.mixed : Try.prog.follows .mixedOrders = true := by kernel_rfl
abbrev tephralaw07_StateSwap.id : Nat := 3
noncomputable abbrev tephralaw07_StateSwap.fn : Func := Try.f3
abbrev tephralaw07_StateApply.id : Nat := 4
noncomputable abbrev tephralaw07_StateApply.fn : Func := Try.f4
abbrev tephralaw07_StateOnce.id : Nat := 5
noncomputable abbrev tephralaw07_StateOnce.fn : Func := Try.f5
abbrev tephralaw07_StateOrder.id : Nat := 6
noncomputable abbrev tephralaw07_StateOrder.fn : Func := Try.f6
abbrev tephralaw07_StateFold.id : Nat := 7
noncomputable abbrev tephralaw07_StateFold.fn : Func := Try.f7
abbrev tephralaw07_StateRows.id : Nat := 8
noncomputable abbrev tephralaw07_StateRows.fn : Func := Try.f8
abbrev tephralaw07_StateRead.id : Nat := 9
noncomputable abbrev tephralaw07_StateRead.fn : Func := Try.f9
abbrev tephralaw07_StateBytes.id : Nat := 10
noncomputable abbrev tephralaw07_StateBytes.fn : Func := Try.f10
abbrev tephralaw07_awake.id : Nat := 11
noncomputable abbrev tephralaw07_awake.fn : Func := Try.f11
abbrev tephralaw07_Some.id : Nat := 12
noncomputable abbrev tephralaw07_Some.fn : Func := Try.f12
abbrev state_Apply.id : Nat := 13
noncomputable abbrev state_Apply.fn : Func := Try.f13
abbrev state_Get.id : Nat := 14
noncomputable abbrev state_Get.fn : Func := Try.f14
abbrev tephralaw06_Entries.id : Nat := 15
noncomputable abbrev tephralaw06_Entries.fn : Func := Try.f15
abbrev tephralaw07_Model_apply.id : Nat := 16
noncomputable abbrev tephralaw07_Model_apply.fn : Func := Try.f16
abbrev tephralaw07_Model_shows.id : Nat := 17
noncomputable abbrev tephralaw07_Model_shows.fn : Func := Try.f17
abbrev state_Right.id : Nat := 18
noncomputable abbrev state_Right.fn : Func := Try.f18
abbrev tephralaw06_Say_Cmd.id : Nat := 19
noncomputable abbrev tephralaw06_Say_Cmd.fn : Func := Try.f19
abbrev cmds_Right.id : Nat := 20
noncomputable abbrev cmds_Right.fn : Func := Try.f20
abbrev state_Same.id : Nat := 21
noncomputable abbrev state_Same.fn : Func := Try.f21
abbrev state_Fold.id : Nat := 22
noncomputable abbrev state_Fold.fn : Func := Try.f22
abbrev state_PutRows.id : Nat := 23
noncomputable abbrev state_PutRows.fn : Func := Try.f23
abbrev tephralaw07_Lays.id : Nat := 24
noncomputable abbrev tephralaw07_Lays.fn : Func := Try.f24
abbrev pack_Of.id : Nat := 25
noncomputable abbrev pack_Of.fn : Func := Try.f25
abbrev pack_Writer_Bytes.id : Nat := 26
noncomputable abbrev pack_Writer_Bytes.fn : Func := Try.f26
abbrev state_ReadRows.id : Nat := 27
noncomputable abbrev state_ReadRows.fn : Func := Try.f27
abbrev pack_Reader_Done.id : Nat := 28
noncomputable abbrev pack_Reader_Done.fn : Func := Try.f28
abbrev state_RightRows.id : Nat := 29
noncomputable abbrev state_RightRows.fn : Func := Try.f29
abbrev tephralaw07_rows.id : Nat := 30
noncomputable abbrev tephralaw07_rows.fn : Func := Try.f30
abbrev state_Bytes.id : Nat := 31
noncomputable abbrev state_Bytes.fn : Func := Try.f31
abbrev state_Read.id : Nat := 32
noncomputable abbrev state_Read.fn : Func := Try.f32
abbrev tephralaw07_Right.id : Nat := 33
noncomputable abbrev tephralaw07_Right.fn : Func := Try.f33
abbrev tephralaw07_bytes.id : Nat := 34
noncomputable abbrev tephralaw07_bytes.fn : Func := Try.f34
abbrev state_sessions.id : Nat := 35
noncomputable abbrev state_sessions.fn : Func := Try.f35
abbrev sorted_Map_int_api_Session_Get.id : Nat := 36
noncomputable abbrev sorted_Map_int_api_Session_Get.fn : Func := Try.f36
abbrev state_pairs.id : Nat := 37
noncomputable abbrev state_pairs.fn : Func := Try.f37
abbrev state_do.id : Nat := 38
noncomputable abbrev state_do.fn : Func := Try.f38
abbrev state_rows.id : Nat := 39
noncomputable abbrev state_rows.fn : Func := Try.f39
abbrev sorted_Map_int_api_Session_Put.id : Nat := 40
noncomputable abbrev sorted_Map_int_api_Session_Put.fn : Func := Try.f40
abbrev sorted_Map_int_api_Session_All.id : Nat := 41
noncomputable abbrev sorted_Map_int_api_Session_All.fn : Func := Try.f41
abbrev cmds_May.id : Nat := 42
noncomputable abbrev cmds_May.fn : Func := Try.f42
abbrev pack_Writer_Num.id : Nat := 43
noncomputable abbrev pack_Writer_Num.fn : Func := Try.f43
abbrev pack_Writer_Text.id : Nat := 44
noncomputable abbrev pack_Writer_Text.fn : Func := Try.f44
abbrev pack_Writer_Byte.id : Nat := 45
noncomputable abbrev pack_Writer_Byte.fn : Func := Try.f45
abbrev pack_Reader_Num.id : Nat := 46
noncomputable abbrev pack_Reader_Num.fn : Func := Try.f46
abbrev pack_Reader_Bad.id : Nat := 47
noncomputable abbrev pack_Reader_Bad.fn : Func := Try.f47
abbrev pack_Reader_Text.id : Nat := 48
noncomputable abbrev pack_Reader_Text.fn : Func := Try.f48
abbrev pack_Reader_Byte.id : Nat := 49
noncomputable abbrev pack_Reader_Byte.fn : Func := Try.f49
abbrev sorted_Map_int_api_Session_find.id : Nat := 50
noncomputable abbrev sorted_Map_int_api_Session_find.fn : Func := Try.f50
abbrev sorted_Map_string_string_Put.id : Nat := 51
noncomputable abbrev sorted_Map_string_string_Put.fn : Func := Try.f51
abbrev sorted_Map_string_string_Get.id : Nat := 52
noncomputable abbrev sorted_Map_string_string_Get.fn : Func := Try.f52
abbrev sorted_Map_string_string_Len.id : Nat := 53
noncomputable abbrev sorted_Map_string_string_Len.fn : Func := Try.f53
abbrev sorted_Map_string_string_Del.id : Nat := 54
noncomputable abbrev sorted_Map_string_string_Del.fn : Func := Try.f54
abbrev sorted_Map_string_string_All.id : Nat := 55
noncomputable abbrev sorted_Map_string_string_All.fn : Func := Try.f55
abbrev slices_Insert_sl_sorted_item_int_api_Session_sorted_item_int_api_Session.id : Nat := 56
noncomputable abbrev slices_Insert_sl_sorted_item_int_api_Session_sorted_item_int_api_Session.fn : Func := Try.f56
abbrev sorted_Map_int_api_Session_All_1.id : Nat := 57
noncomputable abbrev sorted_Map_int_api_Session_All_1.fn : Func := Try.f57
abbrev pack_Reader_take.id : Nat := 58
noncomputable abbrev pack_Reader_take.fn : Func := Try.f58
abbrev slices_BinarySearchFunc_sl_sorted_item_int_api_Session_sorted_item_int_api_Session_int.id : Nat := 59
noncomputable abbrev slices_BinarySearchFunc_sl_sorted_item_int_api_Session_sorted_item_int_api_Session_int.fn : Func := Try.f59
abbrev sorted_Map_int_api_Session_find_1.id : Nat := 60
noncomputable abbrev sorted_Map_int_api_Session_find_1.fn : Func := Try.f60
abbrev cmp_Compare_int.id : Nat := 61
noncomputable abbrev cmp_Compare_int.fn : Func := Try.f61
abbrev sorted_Map_string_string_find.id : Nat := 62
noncomputable abbrev sorted_Map_string_string_find.fn : Func := Try.f62
abbrev slices_Insert_sl_sorted_item_string_string_sorted_item_string_string.id : Nat := 63
noncomputable abbrev slices_Insert_sl_sorted_item_string_string_sorted_item_string_string.fn : Func := Try.f63
abbrev slices_Delete_sl_sorted_item_string_string_sorted_item_string_string.id : Nat := 64
noncomputable abbrev slices_Delete_sl_sorted_item_string_string_sorted_item_string_string.fn : Func := Try.f64
abbrev sorted_Map_string_string_All_1.id : Nat := 65
noncomputable abbrev sorted_Map_string_string_All_1.fn : Func := Try.f65
abbrev slices_rotateRight_sorted_item_int_api_Session.id : Nat := 67
noncomputable abbrev slices_rotateRight_sorted_item_int_api_Session.fn : Func := Try.f67
abbrev cmp_isNaN_int.id : Nat := 68
noncomputable abbrev cmp_isNaN_int.fn : Func := Try.f68
abbrev slices_BinarySearchFunc_sl_sorted_item_string_string_sorted_item_string_string_string.id : Nat := 69
noncomputable abbrev slices_BinarySearchFunc_sl_sorted_item_string_string_sorted_item_string_string_string.fn : Func := Try.f69
abbrev sorted_Map_string_string_find_1.id : Nat := 70
noncomputable abbrev sorted_Map_string_string_find_1.fn : Func := Try.f70
abbrev cmp_Compare_string.id : Nat := 71
noncomputable abbrev cmp_Compare_string.fn : Func := Try.f71
abbrev slices_rotateRight_sorted_item_string_string.id : Nat := 73
noncomputable abbrev slices_rotateRight_sorted_item_string_string.fn : Func := Try.f73
abbrev slices_rotateLeft_sorted_item_int_api_Session.id : Nat := 74
noncomputable abbrev slices_rotateLeft_sorted_item_int_api_Session.fn : Func := Try.f74
abbrev cmp_isNaN_string.id : Nat := 75
noncomputable abbrev cmp_isNaN_string.fn : Func := Try.f75
abbrev slices_rotateLeft_sorted_item_string_string.id : Nat := 76
noncomputable abbrev slices_rotateLeft_sorted_item_string_string.fn : Func := Try.f76
abbrev slices_Reverse_sl_sorted_item_int_api_Session_sorted_item_int_api_Session.id : Nat := 77
noncomputable abbrev slices_Reverse_sl_sorted_item_int_api_Session_sorted_item_int_api_Session.fn : Func := Try.f77
abbrev slices_Reverse_sl_sorted_item_string_string_sorted_item_string_string.id : Nat := 78
noncomputable abbrev slices_Reverse_sl_sorted_item_string_string_sorted_item_string_string.fn : Func := Try.f78
abbrev T_ : Nat := 0
abbrev T_func : Nat := 1
abbrev T_int64 : Nat := 2
abbrev T_int : Nat := 3
abbrev T_bool : Nat := 4
abbrev T_uint8 : Nat := 5
abbrev T_abi_BoundsErrorCode : Nat := 6
abbrev T_struct_x_int64_y_int_signed_bool_code_abi_BoundsErrorCode : Nat := 7
abbrev T_runtime_boundsError : Nat := 8
abbrev T_string : Nat := 9
abbrev T_runtime_errorString : Nat := 10
abbrev T_runtime_plainError : Nat := 11
abbrev T_uintptr : Nat := 12
abbrev T_struct_msg_string_addr_uintptr : Nat := 13
abbrev T_runtime_errorAddressString : Nat := 14
abbrev T_p_runtime_TypeAssertionError : Nat := 15
abbrev T_p_runtime_PanicNilError : Nat := 16
abbrev T_p_abi_Type : Nat := 17
abbrev T_struct_typ_p_abi_Type : Nat := 18
abbrev T_maps_unhashableTypeError : Nat := 19
abbrev T_interface : Nat := 20
abbrev T_int32 : Nat := 21
abbrev T_sl_tephralaw06_Say : Nat := 22
abbrev T_func_bool : Nat := 23
abbrev T_sl_api_Pair : Nat := 24
abbrev T_sl_api_Session : Nat := 25
abbrev T_struct_Index_int_Term_int_Pairs_sl_api_Pair_Sessions_sl_api_ : Nat := 26
abbrev T_api_State : Nat := 27
abbrev T_func_sl_tephralaw06_Say_api_State : Nat := 28
abbrev T_api_Errno : Nat := 29
abbrev T_struct_Err_api_Errno_Value_string : Nat := 30
abbrev T_api_Reply : Nat := 31
abbrev T_api_State_api_Reply : Nat := 32
abbrev T_func_api_State_api_Entry_api_State_api_Reply : Nat := 33
abbrev T_api_Op : Nat := 34
abbrev T_struct_Op_api_Op_Client_int_Seq_int_Key_string_Value_string_ : Nat := 35
abbrev T_api_Cmd : Nat := 36
abbrev T_struct_Index_int_Term_int_Cmd_api_Cmd : Nat := 37
abbrev T_api_Entry : Nat := 38
abbrev T_func_api_State_string_api_Reply : Nat := 39
abbrev T_func_sl_tephralaw06_Say_uint8_uint8_uint8_bool : Nat := 40
abbrev T_p_tephralaw07_Model : Nat := 41
abbrev T_map_string_string : Nat := 42
abbrev T_map_int_int : Nat := 43
abbrev T_map_int_api_Reply : Nat := 44
abbrev T_struct_index_int_term_int_keys_map_string_string_seqs_map_in : Nat := 45
abbrev T_tephralaw07_Model : Nat := 46
abbrev T_sl_api_Entry : Nat := 47
abbrev T_func_sl_tephralaw06_Say_int_int_sl_api_Entry : Nat := 48
abbrev T_sl_uint8 : Nat := 49
abbrev T_func_api_Entry_api_Reply : Nat := 50
abbrev T_func_api_State_bool : Nat := 51
abbrev T_string_bool : Nat := 52
abbrev T_func_sl_tephralaw06_Say_uint8_bool : Nat := 53
abbrev T_struct_Op_uint8_Client_uint8_Seq_uint8_Key_uint8_Value_uint8 : Nat := 54
abbrev T_tephralaw06_Say : Nat := 55
abbrev T_func_api_Cmd : Nat := 56
abbrev T_struct_Key_string_Value_string_Gone_bool : Nat := 57
abbrev T_api_Pair : Nat := 58
abbrev T_func_sl_tephralaw06_Say_tephralaw06_Say_uint8_bool : Nat := 59
abbrev T_int8 : Nat := 60
abbrev T_func_api_Entry_bool : Nat := 61
abbrev T_func_api_State_api_State_bool : Nat := 62
abbrev T_func_sl_tephralaw06_Say_api_Entry_int8_int8_bool : Nat := 63
abbrev T_func_api_State_sl_api_Entry_api_State : Nat := 64
abbrev T_p_pack_Writer : Nat := 65
abbrev T_struct_b_sl_uint8 : Nat := 66
abbrev T_pack_Writer : Nat := 67
abbrev T_func_p_pack_Writer_sl_api_Pair_sl_api_Session : Nat := 68
abbrev T_p_pack_Reader : Nat := 69
abbrev T_func_sl_uint8_p_pack_Reader : Nat := 70
abbrev T_func_sl_uint8 : Nat := 71
abbrev T_sl_api_Pair_sl_api_Session : Nat := 72
abbrev T_func_p_pack_Reader_sl_api_Pair_sl_api_Session : Nat := 73
abbrev T_func_sl_api_Pair_sl_api_Session_int_bool : Nat := 74
abbrev T_struct_Client_int_Seq_int_Reply_api_Reply : Nat := 75
abbrev T_api_Session : Nat := 76
abbrev T_func_sl_api_Pair_sl_api_Session_uint8_bool : Nat := 77
abbrev T_uint16 : Nat := 78
abbrev T_func_api_State_sl_uint8 : Nat := 79
abbrev T_sl_sl_uint8 : Nat := 80
abbrev T_api_State_bool : Nat := 81
abbrev T_func_sl_uint8_api_State_bool : Nat := 82
abbrev T_func_api_State_string : Nat := 83
abbrev T_func_sl_tephralaw06_Say_uint16_uint8_sl_uint8_bool : Nat := 84
abbrev T_sl_api_State : Nat := 85
abbrev T_func_sl_tephralaw06_Say_api_State_bool : Nat := 86
abbrev T_p_sorted_Map_int_api_Session : Nat := 87
abbrev T_func_api_State_p_sorted_Map_int_api_Session : Nat := 88
abbrev T_api_Session_bool : Nat := 89
abbrev T_func_int_api_Session_bool : Nat := 90
abbrev T_p_sorted_Map_string_string : Nat := 91
abbrev T_func_api_State_p_sorted_Map_string_string : Nat := 92
abbrev T_func_p_sorted_Map_string_string_api_Cmd_api_Reply : Nat := 93
abbrev T_func_p_sorted_Map_string_string_sl_api_Pair : Nat := 94
abbrev T_func_int_api_Session_bool_95 : Nat := 95
abbrev T_func_func_int_api_Session_bool : Nat := 96
abbrev T_iter_Seq2_int_api_Session : Nat := 97
abbrev T_func_iter_Seq2_int_api_Session : Nat := 98
abbrev T_int_bool : Nat := 99
abbrev T_func_api_Cmd_bool : Nat := 100
abbrev T_func_int_p_pack_Writer : Nat := 101
abbrev T_func_string_p_pack_Writer : Nat := 102
abbrev T_func_uint8_p_pack_Writer : Nat := 103
abbrev T_struct_b_sl_uint8_bad_bool : Nat := 104
abbrev T_pack_Reader : Nat := 105
abbrev T_func_int : Nat := 106
abbrev T_func_string : Nat := 107
abbrev T_func_uint8 : Nat := 108
abbrev T_sl_sorted_item_int_api_Session : Nat := 109
abbrev T_struct_items_sl_sorted_item_int_api_Session : Nat := 110
abbrev T_sorted_Map_int_api_Session : Nat := 111
abbrev T_func_int_int_bool : Nat := 112
abbrev T_struct_key_int_value_api_Session : Nat := 113
abbrev T_sorted_item_int_api_Session : Nat := 114
abbrev T_sl_sorted_item_string_string : Nat := 115
abbrev T_struct_items_sl_sorted_item_string_string : Nat := 116
abbrev T_sorted_Map_string_string : Nat := 117
abbrev T_func_string_string_bool : Nat := 118
abbrev T_func_string_string_bool_119 : Nat := 119
abbrev T_func_string_bool : Nat := 120
abbrev T_func_func_string_string_bool : Nat := 121
abbrev T_iter_Seq2_string_string : Nat := 122
abbrev T_func_iter_Seq2_string_string : Nat := 123
abbrev T_func_sl_sorted_item_int_api_Session_int_sorted_item_int_api_ : Nat := 124
abbrev T_func_int_sl_uint8 : Nat := 125
abbrev T_uint : Nat := 126
abbrev T_func_sl_sorted_item_int_api_Session_int_func_sorted_item_int : Nat := 127
abbrev T_func_int_int_int : Nat := 128
abbrev T_func_sorted_item_int_api_Session_int_int : Nat := 129
abbrev T_func_string_int_bool : Nat := 130
abbrev T_struct_key_string_value_string : Nat := 131
abbrev T_sorted_item_string_string : Nat := 132
abbrev T_func_sl_sorted_item_string_string_int_sorted_item_string_str : Nat := 133
abbrev T_func_sl_sorted_item_string_string_int_int_sl_sorted_item_str : Nat := 134
abbrev T_func_sl_sorted_item_int_api_Session_sl_sorted_item_int_api_S : Nat := 135
abbrev T_func_sl_sorted_item_int_api_Session_int : Nat := 136
abbrev T_func_int_bool : Nat := 137
abbrev T_func_sl_sorted_item_string_string_string_func_sorted_item_st : Nat := 138
abbrev T_func_string_string_int : Nat := 139
abbrev T_func_sorted_item_string_string_string_int : Nat := 140
abbrev T_func_sl_sorted_item_string_string_sl_sorted_item_string_stri : Nat := 141
abbrev T_func_sl_sorted_item_string_string_int : Nat := 142
abbrev T_func_sl_sorted_item_int_api_Session : Nat := 143
abbrev T_func_sl_sorted_item_string_string : Nat := 144
abbrev T_struct__interface_p_abi_Type_concrete_p_abi_Type_asserted_p_ : Nat := 145
abbrev T_runtime_TypeAssertionError : Nat := 146
abbrev T_0_p_runtime_PanicNilError : Nat := 147
abbrev T_struct___0_p_runtime_PanicNilError : Nat := 148
abbrev T_runtime_PanicNilError : Nat := 149
abbrev T_uint32 : Nat := 150
abbrev T_abi_TFlag : Nat := 151
abbrev T_abi_Kind : Nat := 152
abbrev T_func_unsafe_Pointer_unsafe_Pointer_bool : Nat := 153
abbrev T_p_uint8 : Nat := 154
abbrev T_abi_NameOff : Nat := 155
abbrev T_abi_TypeOff : Nat := 156
abbrev T_struct_Size__uintptr_PtrBytes_uintptr_Hash_uint32_TFlag_abi_ : Nat := 157
abbrev T_abi_Type : Nat := 158
abbrev T_unsafe_Pointer : Nat := 159

/-! 11: tephra/tephralaw07.awake -/
noncomputable def tephralaw07_awake.cf : Cfg := ⟨[1, 2, 3, 4, 5, 6, 1000003], [], [], [(35, [3, 5, 35]), (41, [3, 5, 41]), (47, [3, 5, 47]), (52, [3, 52])], true⟩
noncomputable def tephralaw07_awake.k1.st (Index : Int) (Term : Int) (Pairs : Sl) (Sessions : Sl) (Err : Int) (Valuev : ByteArray) (Index1 : Int) (Term1 : Int) (Pairs1 : Sl) (Sessions1 : Sl) (Err1 : Int) (Valuev1 : ByteArray) (Index2 : Int) (Term2 : Int) (Pairs2 : Sl) (Sessions2 : Sl) (Err2 : Int) (Valuev2 : ByteArray) (H9 : Hp) (x : Bool) : VS := ⟨mkFr 59 [(3, .loc 2 0), (5, .loc 4 0), (35, .v (.bool x))], [(T_api_State, [.int .i64 Index, .int .i64 Term, .slice Pairs.a Pairs.len Pairs.cap, .slice Sessions.a Sessions.len Sessions.cap]), (T_api_Reply, [.int .i64 Err, .string Valuev]), (T_api_State, [.int .i64 Index1, .int .i64 Term1, .slice Pairs1.a Pairs1.len Pairs1.cap, .slice Sessions1.a Sessions1.len Sessions1.cap]), (T_api_Reply, [.int .i64 Err1, .string Valuev1]), (T_api_State, [.int .i64 Index2, .int .i64 Term2, .slice Pairs2.a Pairs2.len Pairs2.cap, .slice Sessions2.a Sessions2.len Sessions2.cap]), (T_api_Reply, [.int .i64 Err2, .string Valuev2])], H9⟩
noncomputable def tephralaw07_awake.k1 (J : Jn) (Index : Int) (Term : Int) (Pairs : Sl) (Sessions : Sl) (Err : Int) (Valuev : ByteArray) (Index1 : Int) (Term1 : Int) (Pairs1 : Sl) (Sessions1 : Sl) (Err1 : Int) (Valuev1 : ByteArray) (Index2 : Int) (Term2 : Int) (Pairs2 : Sl) (Sessions2 : Sl) (Err2 : Int) (Valuev2 : ByteArray) (H9 : Hp) (x : Bool) (Q : Value → Hp → Prop) : Prop := J (vMid Try.prog tephralaw07_awake.cf J tephralaw07_awake.fn [1, 1, 1, 1, 0] [0, 0, 2, 4, 6] 8 Q) (tephralaw07_awake.k1.st Index Term Pairs Sessions Err Valuev Index1 Term1 Pairs1 Sessions1 Err1 Valuev1 Index2 Term2 Pairs2 Sessions2 Err2 Valuev2 H9 x)
noncomputable def tephralaw07_awake.k2.st (Index : Int) (Term : Int) (Pairs : Sl) (Sessions : Sl) (Err : Int) (Valuev : ByteArray) (Index1 : Int) (Term1 : Int) (Pairs1 : Sl) (Sessions1 : Sl) (Err1 : Int) (Valuev1 : ByteArray) (Index2 : Int) (Term2 : Int) (Pairs2 : Sl) (Sessions2 : Sl) (Err2 : Int) (Valuev2 : ByteArray) (H9 : Hp) (x1 : Bool) : VS := ⟨mkFr 59 [(3, .loc 2 0), (5, .loc 4 0), (41, .v (.bool x1))], [(T_api_State, [.int .i64 Index, .int .i64 Term, .slice Pairs.a Pairs.len Pairs.cap, .slice Sessions.a Sessions.len Sessions.cap]), (T_api_Reply, [.int .i64 Err, .string Valuev]), (T_api_State, [.int .i64 Index1, .int .i64 Term1, .slice Pairs1.a Pairs1.len Pairs1.cap, .slice Sessions1.a Sessions1.len Sessions1.cap]), (T_api_Reply, [.int .i64 Err1, .string Valuev1]), (T_api_State, [.int .i64 Index2, .int .i64 Term2, .slice Pairs2.a Pairs2.len Pairs2.cap, .slice Sessions2.a Sessions2.len Sessions2.cap]), (T_api_Reply, [.int .i64 Err2, .string Valuev2])], H9⟩
noncomputable def tephralaw07_awake.k2 (J : Jn) (Index : Int) (Term : Int) (Pairs : Sl) (Sessions : Sl) (Err : Int) (Valuev : ByteArray) (Index1 : Int) (Term1 : Int) (Pairs1 : Sl) (Sessions1 : Sl) (Err1 : Int) (Valuev1 : ByteArray) (Index2 : Int) (Term2 : Int) (Pairs2 : Sl) (Sessions2 : Sl) (Err2 : Int) (Valuev2 : ByteArray) (H9 : Hp) (x1 : Bool) (Q : Value → Hp → Prop) : Prop := J (vMid Try.prog tephralaw07_awake.cf J tephralaw07_awake.fn [1, 1, 1, 1, 0] [0, 0, 2, 4, 6] 14 Q) (tephralaw07_awake.k2.st Index Term Pairs Sessions Err Valuev Index1 Term1 Pairs1 Sessions1 Err1 Valuev1 Index2 Term2 Pairs2 Sessions2 Err2 Valuev2 H9 x1)
noncomputable def tephralaw07_awake.k3.st (Index : Int) (Term : Int) (Pairs : Sl) (Sessions : Sl) (Err : Int) (Valuev : ByteArray) (Index1 : Int) (Term1 : Int) (Pairs1 : Sl) (Sessions1 : Sl) (Err1 : Int) (Valuev1 : ByteArray) (Index2 : Int) (Term2 : Int) (Pairs2 : Sl) (Sessions2 : Sl) (Err2 : Int) (Valuev2 : ByteArray) (H9 : Hp) (x2 : Bool) : VS := ⟨mkFr 59 [(3, .loc 2 0), (5, .loc 4 0), (47, .v (.bool x2))], [(T_api_State, [.int .i64 Index, .int .i64 Term, .slice Pairs.a Pairs.len Pairs.cap, .slice Sessions.a Sessions.len Sessions.cap]), (T_api_Reply, [.int .i64 Err, .string Valuev]), (T_api_State, [.int .i64 Index1, .int .i64 Term1, .slice Pairs1.a Pairs1.len Pairs1.cap, .slice Sessions1.a Sessions1.len Sessions1.cap]), (T_api_Reply, [.int .i64 Err1, .string Valuev1]), (T_api_State, [.int .i64 Index2, .int .i64 Term2, .slice Pairs2.a Pairs2.len Pairs2.cap, .slice Sessions2.a Sessions2.len Sessions2.cap]), (T_api_Reply, [.int .i64 Err2, .string Valuev2])], H9⟩
noncomputable def tephralaw07_awake.k3 (J : Jn) (Index : Int) (Term : Int) (Pairs : Sl) (Sessions : Sl) (Err : Int) (Valuev : ByteArray) (Index1 : Int) (Term1 : Int) (Pairs1 : Sl) (Sessions1 : Sl) (Err1 : Int) (Valuev1 : ByteArray) (Index2 : Int) (Term2 : Int) (Pairs2 : Sl) (Sessions2 : Sl) (Err2 : Int) (Valuev2 : ByteArray) (H9 : Hp) (x2 : Bool) (Q : Value → Hp → Prop) : Prop := J (vMid Try.prog tephralaw07_awake.cf J tephralaw07_awake.fn [1, 1, 1, 1, 0] [0, 0, 2, 4, 6] 20 Q) (tephralaw07_awake.k3.st Index Term Pairs Sessions Err Valuev Index1 Term1 Pairs1 Sessions1 Err1 Valuev1 Index2 Term2 Pairs2 Sessions2 Err2 Valuev2 H9 x2)
noncomputable def tephralaw07_awake.k4.st (Index : Int) (Term : Int) (Pairs : Sl) (Sessions : Sl) (Err : Int) (Valuev : ByteArray) (Index1 : Int) (Term1 : Int) (Pairs1 : Sl) (Sessions1 : Sl) (Err1 : Int) (Valuev1 : ByteArray) (Index2 : Int) (Term2 : Int) (Pairs2 : Sl) (Sessions2 : Sl) (Err2 : Int) (Valuev2 : ByteArray) (H9 : Hp) (x3 : Bool) : VS := ⟨mkFr 59 [(3, .loc 2 0), (52, .v (.bool x3))], [(T_api_State, [.int .i64 Index, .int .i64 Term, .slice Pairs.a Pairs.len Pairs.cap, .slice Sessions.a Sessions.len Sessions.cap]), (T_api_Reply, [.int .i64 Err, .string Valuev]), (T_api_State, [.int .i64 Index1, .int .i64 Term1, .slice Pairs1.a Pairs1.len Pairs1.cap, .slice Sessions1.a Sessions1.len Sessions1.cap]), (T_api_Reply, [.int .i64 Err1, .string Valuev1]), (T_api_State, [.int .i64 Index2, .int .i64 Term2, .slice Pairs2.a Pairs2.len Pairs2.cap, .slice Sessions2.a Sessions2.len Sessions2.cap]), (T_api_Reply, [.int .i64 Err2, .string Valuev2])], H9⟩
noncomputable def tephralaw07_awake.k4 (J : Jn) (Index : Int) (Term : Int) (Pairs : Sl) (Sessions : Sl) (Err : Int) (Valuev : ByteArray) (Index1 : Int) (Term1 : Int) (Pairs1 : Sl) (Sessions1 : Sl) (Err1 : Int) (Valuev1 : ByteArray) (Index2 : Int) (Term2 : Int) (Pairs2 : Sl) (Sessions2 : Sl) (Err2 : Int) (Valuev2 : ByteArray) (H9 : Hp) (x3 : Bool) (Q : Value → Hp → Prop) : Prop := J (vMid Try.prog tephralaw07_awake.cf J tephralaw07_awake.fn [1, 1, 1, 1, 0] [0, 0, 2, 4, 6] 25 Q) (tephralaw07_awake.k4.st Index Term Pairs Sessions Err Valuev Index1 Term1 Pairs1 Sessions1 Err1 Valuev1 Index2 Term2 Pairs2 Sessions2 Err2 Valuev2 H9 x3)
attribute [irreducible] tephralaw07_awake.k1 tephralaw07_awake.k2 tephralaw07_awake.k3 tephralaw07_awake.k4
noncomputable def tephralaw07_awake.k1.body (J : Jn) (Index : Int) (Term : Int) (Pairs : Sl) (Sessions : Sl) (Err : Int) (Valuev : ByteArray) (Index1 : Int) (Term1 : Int) (Pairs1 : Sl) (Sessions1 : Sl) (Err1 : Int) (Valuev1 : ByteArray) (Index2 : Int) (Term2 : Int) (Pairs2 : Sl) (Sessions2 : Sl) (Err2 : Int) (Valuev2 : ByteArray) (H9 : Hp) (x : Bool) (Q : Value → Hp → Prop) : Prop :=
 
 Br x (
 tephralaw07_awake.k2 J Index Term Pairs Sessions Err Valuev Index1 Term1 Pairs1 Sessions1 Err1 Valuev1 Index2 Term2 Pairs2 Sessions2 Err2 Valuev2 H9 (((Pairs1.len : Nat) : Int) == 1) Q)
 (
 tephralaw07_awake.k2 J Index Term Pairs Sessions Err Valuev Index1 Term1 Pairs1 Sessions1 Err1 Valuev1 Index2 Term2 Pairs2 Sessions2 Err2 Valuev2 H9 false Q)
theorem tephralaw07_awake.k1.eq (J : Jn) (Index : Int) (Term : Int) (Pairs : Sl) (Sessions : Sl) (Err : Int) (Valuev : ByteArray) (Index1 : Int) (Term1 : Int) (Pairs1 : Sl) (Sessions1 : Sl) (Err1 : Int) (Valuev1 : ByteArray) (Index2 : Int) (Term2 : Int) (Pairs2 : Sl) (Sessions2 : Sl) (Err2 : Int) (Valuev2 : ByteArray) (H9 : Hp) (x : Bool) (Q : Value → Hp → Prop) : vMid Try.prog tephralaw07_awake.cf J tephralaw07_awake.fn [1, 1, 1, 1, 0] [0, 0, 2, 4, 6] 8 Q (tephralaw07_awake.k1.st Index Term Pairs Sessions Err Valuev Index1 Term1 Pairs1 Sessions1 Err1 Valuev1 Index2 Term2 Pairs2 Sessions2 Err2 Valuev2 H9 x) = tephralaw07_awake.k1.body J Index Term Pairs Sessions Err Valuev Index1 Term1 Pairs1 Sessions1 Err1 Valuev1 Index2 Term2 Pairs2 Sessions2 Err2 Valuev2 H9 x Q := by kernel_rfl
theorem tephralaw07_awake.k1.step {Index : Int} {Term : Int} {Pairs : Sl} {Sessions : Sl} {Err : Int} {Valuev : ByteArray} {Index1 : Int} {Term1 : Int} {Pairs1 : Sl} {Sessions1 : Sl} {Err1 : Int} {Valuev1 : ByteArray} {Index2 : Int} {Term2 : Int} {Pairs2 : Sl} {Sessions2 : Sl} {Err2 : Int} {Valuev2 : ByteArray} {H9 : Hp} {x : Bool} {Q : Value → Hp → Prop} (h : tephralaw07_awake.k1.body J0 Index Term Pairs Sessions Err Valuev Index1 Term1 Pairs1 Sessions1 Err1 Valuev1 Index2 Term2 Pairs2 Sessions2 Err2 Valuev2 H9 x Q) : tephralaw07_awake.k1 J0 Index Term Pairs Sessions Err Valuev Index1 Term1 Pairs1 Sessions1 Err1 Valuev1 Index2 Term2 Pairs2 Sessions2 Err2 Valuev2 H9 x Q := step_of (vMid Try.prog tephralaw07_awake.cf J0 tephralaw07_awake.fn [1, 1, 1, 1, 0] [0, 0, 2, 4, 6] 8 Q) (tephralaw07_awake.k1.st Index Term Pairs Sessions Err Valuev Index1 Term1 Pairs1 Sessions1 Err1 Valuev1 Index2 Term2 Pairs2 Sessions2 Err2 Valuev2 H9 x) (tephralaw07_awake.k1.eq J0 Index Term Pairs Sessions Err Valuev Index1 Term1 Pairs1 Sessions1 Err1 Valuev1 Index2 Term2 Pairs2 Sessions2 Err2 Valuev2 H9 x Q) (by kernel_rfl) h
noncomputable def tephralaw07_awake.k2.body (J : Jn) (Index : Int) (Term : Int) (Pairs : Sl) (Sessions : Sl) (Err : Int) (Valuev : ByteArray) (Index1 : Int) (Term1 : Int) (Pairs1 : Sl) (Sessions1 : Sl) (Err1 : Int) (Valuev1 : ByteArray) (Index2 : Int) (Term2 : Int) (Pairs2 : Sl) (Sessions2 : Sl) (Err2 : Int) (Valuev2 : ByteArray) (H9 : Hp) (x1 : Bool) (Q : Value → Hp → Prop) : Prop :=
 
 Br x1 (
 tephralaw07_awake.k3 J Index Term Pairs Sessions Err Valuev Index1 Term1 Pairs1 Sessions1 Err1 Valuev1 Index2 Term2 Pairs2 Sessions2 Err2 Valuev2 H9 (((Pairs2.len : Nat) : Int) == 0) Q)
 (
 tephralaw07_awake.k3 J Index Term Pairs Sessions Err Valuev Index1 Term1 Pairs1 Sessions1 Err1 Valuev1 Index2 Term2 Pairs2 Sessions2 Err2 Valuev2 H9 false Q)
theorem tephralaw07_awake.k2.eq (J : Jn) (Index : Int) (Term : Int) (Pairs : Sl) (Sessions : Sl) (Err : Int) (Valuev : ByteArray) (Index1 : Int) (Term1 : Int) (Pairs1 : Sl) (Sessions1 : Sl) (Err1 : Int) (Valuev1 : ByteArray) (Index2 : Int) (Term2 : Int) (Pairs2 : Sl) (Sessions2 : Sl) (Err2 : Int) (Valuev2 : ByteArray) (H9 : Hp) (x1 : Bool) (Q : Value → Hp → Prop) : vMid Try.prog tephralaw07_awake.cf J tephralaw07_awake.fn [1, 1, 1, 1, 0] [0, 0, 2, 4, 6] 14 Q (tephralaw07_awake.k2.st Index Term Pairs Sessions Err Valuev Index1 Term1 Pairs1 Sessions1 Err1 Valuev1 Index2 Term2 Pairs2 Sessions2 Err2 Valuev2 H9 x1) = tephralaw07_awake.k2.body J Index Term Pairs Sessions Err Valuev Index1 Term1 Pairs1 Sessions1 Err1 Valuev1 Index2 Term2 Pairs2 Sessions2 Err2 Valuev2 H9 x1 Q := by kernel_rfl
theorem tephralaw07_awake.k2.step {Index : Int} {Term : Int} {Pairs : Sl} {Sessions : Sl} {Err : Int} {Valuev : ByteArray} {Index1 : Int} {Term1 : Int} {Pairs1 : Sl} {Sessions1 : Sl} {Err1 : Int} {Valuev1 : ByteArray} {Index2 : Int} {Term2 : Int} {Pairs2 : Sl} {Sessions2 : Sl} {Err2 : Int} {Valuev2 : ByteArray} {H9 : Hp} {x1 : Bool} {Q : Value → Hp → Prop} (h : tephralaw07_awake.k2.body J0 Index Term Pairs Sessions Err Valuev Index1 Term1 Pairs1 Sessions1 Err1 Valuev1 Index2 Term2 Pairs2 Sessions2 Err2 Valuev2 H9 x1 Q) : tephralaw07_awake.k2 J0 Index Term Pairs Sessions Err Valuev Index1 Term1 Pairs1 Sessions1 Err1 Valuev1 Index2 Term2 Pairs2 Sessions2 Err2 Valuev2 H9 x1 Q := step_of (vMid Try.prog tephralaw07_awake.cf J0 tephralaw07_awake.fn [1, 1, 1, 1, 0] [0, 0, 2, 4, 6] 14 Q) (tephralaw07_awake.k2.st Index Term Pairs Sessions Err Valuev Index1 Term1 Pairs1 Sessions1 Err1 Valuev1 Index2 Term2 Pairs2 Sessions2 Err2 Valuev2 H9 x1) (tephralaw07_awake.k2.eq J0 Index Term Pairs Sessions Err Valuev Index1 Term1 Pairs1 Sessions1 Err1 Valuev1 Index2 Term2 Pairs2 Sessions2 Err2 Valuev2 H9 x1 Q) (by kernel_rfl) h
noncomputable def tephralaw07_awake.k3.body (J : Jn) (Index : Int) (Term : Int) (Pairs : Sl) (Sessions : Sl) (Err : Int) (Valuev : ByteArray) (Index1 : Int) (Term1 : Int) (Pairs1 : Sl) (Sessions1 : Sl) (Err1 : Int) (Valuev1 : ByteArray) (Index2 : Int) (Term2 : Int) (Pairs2 : Sl) (Sessions2 : Sl) (Err2 : Int) (Valuev2 : ByteArray) (H9 : Hp) (x2 : Bool) (Q : Value → Hp → Prop) : Prop :=
 
 Br x2 (
 tephralaw07_awake.k4 J Index Term Pairs Sessions Err Valuev Index1 Term1 Pairs1 Sessions1 Err1 Valuev1 Index2 Term2 Pairs2 Sessions2 Err2 Valuev2 H9 (Index2 == 3) Q)
 (
 tephralaw07_awake.k4 J Index Term Pairs Sessions Err Valuev Index1 Term1 Pairs1 Sessions1 Err1 Valuev1 Index2 Term2 Pairs2 Sessions2 Err2 Valuev2 H9 false Q)
theorem tephralaw07_awake.k3.eq (J : Jn) (Index : Int) (Term : Int) (Pairs : Sl) (Sessions : Sl) (Err : Int) (Valuev : ByteArray) (Index1 : Int) (Term1 : Int) (Pairs1 : Sl) (Sessions1 : Sl) (Err1 : Int) (Valuev1 : ByteArray) (Index2 : Int) (Term2 : Int) (Pairs2 : Sl) (Sessions2 : Sl) (Err2 : Int) (Valuev2 : ByteArray) (H9 : Hp) (x2 : Bool) (Q : Value → Hp → Prop) : vMid Try.prog tephralaw07_awake.cf J tephralaw07_awake.fn [1, 1, 1, 1, 0] [0, 0, 2, 4, 6] 20 Q (tephralaw07_awake.k3.st Index Term Pairs Sessions Err Valuev Index1 Term1 Pairs1 Sessions1 Err1 Valuev1 Index2 Term2 Pairs2 Sessions2 Err2 Valuev2 H9 x2) = tephralaw07_awake.k3.body J Index Term Pairs Sessions Err Valuev Index1 Term1 Pairs1 Sessions1 Err1 Valuev1 Index2 Term2 Pairs2 Sessions2 Err2 Valuev2 H9 x2 Q := by kernel_rfl
theorem tephralaw07_awake.k3.step {Index : Int} {Term : Int} {Pairs : Sl} {Sessions : Sl} {Err : Int} {Valuev : ByteArray} {Index1 : Int} {Term1 : Int} {Pairs1 : Sl} {Sessions1 : Sl} {Err1 : Int} {Valuev1 : ByteArray} {Index2 : Int} {Term2 : Int} {Pairs2 : Sl} {Sessions2 : Sl} {Err2 : Int} {Valuev2 : ByteArray} {H9 : Hp} {x2 : Bool} {Q : Value → Hp → Prop} (h : tephralaw07_awake.k3.body J0 Index Term Pairs Sessions Err Valuev Index1 Term1 Pairs1 Sessions1 Err1 Valuev1 Index2 Term2 Pairs2 Sessions2 Err2 Valuev2 H9 x2 Q) : tephralaw07_awake.k3 J0 Index Term Pairs Sessions Err Valuev Index1 Term1 Pairs1 Sessions1 Err1 Valuev1 Index2 Term2 Pairs2 Sessions2 Err2 Valuev2 H9 x2 Q := step_of (vMid Try.prog tephralaw07_awake.cf J0 tephralaw07_awake.fn [1, 1, 1, 1, 0] [0, 0, 2, 4, 6] 20 Q) (tephralaw07_awake.k3.st Index Term Pairs Sessions Err Valuev Index1 Term1 Pairs1 Sessions1 Err1 Valuev1 Index2 Term2 Pairs2 Sessions2 Err2 Valuev2 H9 x2) (tephralaw07_awake.k3.eq J0 Index Term Pairs Sessions Err Valuev Index1 Term1 Pairs1 Sessions1 Err1 Valuev1 Index2 Term2 Pairs2 Sessions2 Err2 Valuev2 H9 x2 Q) (by kernel_rfl) h
noncomputable def tephralaw07_awake.k4.body (J : Jn) (Index : Int) (Term : Int) (Pairs : Sl) (Sessions : Sl) (Err : Int) (Valuev : ByteArray) (Index1 : Int) (Term1 : Int) (Pairs1 : Sl) (Sessions1 : Sl) (Err1 : Int) (Valuev1 : ByteArray) (Index2 : Int) (Term2 : Int) (Pairs2 : Sl) (Sessions2 : Sl) (Err2 : Int) (Valuev2 : ByteArray) (H9 : Hp) (x3 : Bool) (Q : Value → Hp → Prop) : Prop :=
 
 Br x3 (
 SCalls Try.prog state_Get.id [.agg #[.int .i64 Index1, .int .i64 Term1, .slice Pairs1.a Pairs1.len Pairs1.cap, .slice Sessions1.a Sessions1.len Sessions1.cap], .string (ByteArray.mk #[107])] H9 (fun r3 H10 => ∃ Err3 : Int, ∃ Valuev3 : ByteArray, r3 = .agg #[.int .i64 Err3, .string Valuev3] ∧ Q (.bool (Valuev3.toList == (ByteArray.mk #[118]).toList)) H10))
 (Q (.bool false) H9)
theorem tephralaw07_awake.k4.eq (J : Jn) (Index : Int) (Term : Int) (Pairs : Sl) (Sessions : Sl) (Err : Int) (Valuev : ByteArray) (Index1 : Int) (Term1 : Int) (Pairs1 : Sl) (Sessions1 : Sl) (Err1 : Int) (Valuev1 : ByteArray) (Index2 : Int) (Term2 : Int) (Pairs2 : Sl) (Sessions2 : Sl) (Err2 : Int) (Valuev2 : ByteArray) (H9 : Hp) (x3 : Bool) (Q : Value → Hp → Prop) : vMid Try.prog tephralaw07_awake.cf J tephralaw07_awake.fn [1, 1, 1, 1, 0] [0, 0, 2, 4, 6] 25 Q (tephralaw07_awake.k4.st Index Term Pairs Sessions Err Valuev Index1 Term1 Pairs1 Sessions1 Err1 Valuev1 Index2 Term2 Pairs2 Sessions2 Err2 Valuev2 H9 x3) = tephralaw07_awake.k4.body J Index Term Pairs Sessions Err Valuev Index1 Term1 Pairs1 Sessions1 Err1 Valuev1 Index2 Term2 Pairs2 Sessions2 Err2 Valuev2 H9 x3 Q := by kernel_rfl
theorem tephralaw07_awake.k4.step {Index : Int} {Term : Int} {Pairs : Sl} {Sessions : Sl} {Err : Int} {Valuev : ByteArray} {Index1 : Int} {Term1 : Int} {Pairs1 : Sl} {Sessions1 : Sl} {Err1 : Int} {Valuev1 : ByteArray} {Index2 : Int} {Term2 : Int} {Pairs2 : Sl} {Sessions2 : Sl} {Err2 : Int} {Valuev2 : ByteArray} {H9 : Hp} {x3 : Bool} {Q : Value → Hp → Prop} (h : tephralaw07_awake.k4.body J0 Index Term Pairs Sessions Err Valuev Index1 Term1 Pairs1 Sessions1 Err1 Valuev1 Index2 Term2 Pairs2 Sessions2 Err2 Valuev2 H9 x3 Q) : tephralaw07_awake.k4 J0 Index Term Pairs Sessions Err Valuev Index1 Term1 Pairs1 Sessions1 Err1 Valuev1 Index2 Term2 Pairs2 Sessions2 Err2 Valuev2 H9 x3 Q := step_of (vMid Try.prog tephralaw07_awake.cf J0 tephralaw07_awake.fn [1, 1, 1, 1, 0] [0, 0, 2, 4, 6] 25 Q) (tephralaw07_awake.k4.st Index Term Pairs Sessions Err Valuev Index1 Term1 Pairs1 Sessions1 Err1 Valuev1 Index2 Term2 Pairs2 Sessions2 Err2 Valuev2 H9 x3) (tephralaw07_awake.k4.eq J0 Index Term Pairs Sessions Err Valuev Index1 Term1 Pairs1 Sessions1 Err1 Valuev1 Index2 Term2 Pairs2 Sessions2 Err2 Valuev2 H9 x3 Q) (by kernel_rfl) h
noncomputable def tephralaw07_awake.vc (J : Jn) (H : Hp) (Q : Value → Hp → Prop) : Prop :=
 
 SCalls Try.prog state_Apply.id [.agg #[.int .i64 0, .int .i64 0, .slice none 0 0, .slice none 0 0], .agg #[.int .i64 1, .int .i64 0, .int .i64 1, .int .i64 0, .int .i64 1, .string (ByteArray.mk #[107]), .string (ByteArray.mk #[118]), .string (ByteArray.mk #[])]] H (fun r H1 => ∃ Index : Int, ∃ Term : Int, ∃ Pairs : Sl, ∃ Sessions : Sl, ∃ Err : Int, ∃ Valuev : ByteArray, r = .tuple #[.agg #[.int .i64 Index, .int .i64 Term, .slice Pairs.a Pairs.len Pairs.cap, .slice Sessions.a Sessions.len Sessions.cap], .agg #[.int .i64 Err, .string Valuev]] ∧ ∀ H2 : Hp, H2 = (holes H1 1) → ∀ H3 : Hp, H3 = (holes H2 1) → 
 SCalls Try.prog state_Apply.id [.agg #[.int .i64 Index, .int .i64 Term, .slice Pairs.a Pairs.len Pairs.cap, .slice Sessions.a Sessions.len Sessions.cap], .agg #[.int .i64 2, .int .i64 0, .int .i64 2, .int .i64 0, .int .i64 1, .string (ByteArray.mk #[107]), .string (ByteArray.mk #[]), .string (ByteArray.mk #[])]] H3 (fun r1 H4 => ∃ Index1 : Int, ∃ Term1 : Int, ∃ Pairs1 : Sl, ∃ Sessions1 : Sl, ∃ Err1 : Int, ∃ Valuev1 : ByteArray, r1 = .tuple #[.agg #[.int .i64 Index1, .int .i64 Term1, .slice Pairs1.a Pairs1.len Pairs1.cap, .slice Sessions1.a Sessions1.len Sessions1.cap], .agg #[.int .i64 Err1, .string Valuev1]] ∧ ∀ H5 : Hp, H5 = (holes H4 1) → ∀ H6 : Hp, H6 = (holes H5 1) → 
 SCalls Try.prog state_Apply.id [.agg #[.int .i64 Index1, .int .i64 Term1, .slice Pairs1.a Pairs1.len Pairs1.cap, .slice Sessions1.a Sessions1.len Sessions1.cap], .agg #[.int .i64 3, .int .i64 0, .int .i64 2, .int .i64 0, .int .i64 2, .string (ByteArray.mk #[107]), .string (ByteArray.mk #[]), .string (ByteArray.mk #[])]] H6 (fun r2 H7 => ∃ Index2 : Int, ∃ Term2 : Int, ∃ Pairs2 : Sl, ∃ Sessions2 : Sl, ∃ Err2 : Int, ∃ Valuev2 : ByteArray, r2 = .tuple #[.agg #[.int .i64 Index2, .int .i64 Term2, .slice Pairs2.a Pairs2.len Pairs2.cap, .slice Sessions2.a Sessions2.len Sessions2.cap], .agg #[.int .i64 Err2, .string Valuev2]] ∧ ∀ H8 : Hp, H8 = (holes H7 1) → ∀ H9 : Hp, H9 = (holes H8 1) → 
 Br ((Err == Err1) && ((Valuev == Valuev1) && true)) (
 tephralaw07_awake.k1 J Index Term Pairs Sessions Err Valuev Index1 Term1 Pairs1 Sessions1 Err1 Valuev1 Index2 Term2 Pairs2 Sessions2 Err2 Valuev2 H9 (Valuev2.toList == (ByteArray.mk #[118]).toList) Q)
 (
 tephralaw07_awake.k1 J Index Term Pairs Sessions Err Valuev Index1 Term1 Pairs1 Sessions1 Err1 Valuev1 Index2 Term2 Pairs2 Sessions2 Err2 Valuev2 H9 false Q))))
theorem tephralaw07_awake.eq (J : Jn) (H : Hp) (Q : Value → Hp → Prop) : vFn Try.prog tephralaw07_awake.cf J tephralaw07_awake.fn [] H Q = tephralaw07_awake.vc J H Q := by kernel_rfl
theorem tephralaw07_awake.calls {H : Hp} {Q : Value → Hp → Prop} (h : tephralaw07_awake.vc J0 H Q) : SCalls Try.prog tephralaw07_awake.id [] H Q := vFn_of Try.mixed Try.func11 (tephralaw07_awake.eq J0 H Q) h

/-! 12: tephra/tephralaw07.Some -/
noncomputable def tephralaw07_Some.cf : Cfg := ⟨[2, 1000003], [], [], [], true⟩
noncomputable def tephralaw07_Some.vc (J : Jn) (says : Sl) (H : Hp) (Q : Value → Hp → Prop) : Prop :=
 ∀ H1 : Hp, H1 = (holes H 1) → 
 SCalls Try.prog tephralaw06_Entries.id [.slice says.a says.len says.cap, .int .i64 1, .int .i64 0] H1 (fun r H2 => ∃ x : Sl, r = .slice x.a x.len x.cap ∧ 
 SCalls Try.prog state_Fold.id [.agg #[.int .i64 0, .int .i64 0, .slice none 0 0, .slice none 0 0], .slice x.a x.len x.cap] H2 (fun r1 H3 => ∃ Index : Int, ∃ Term : Int, ∃ Pairs : Sl, ∃ Sessions : Sl, r1 = .agg #[.int .i64 Index, .int .i64 Term, .slice Pairs.a Pairs.len Pairs.cap, .slice Sessions.a Sessions.len Sessions.cap] ∧ Q (.agg #[.int .i64 Index, .int .i64 Term, .slice Pairs.a Pairs.len Pairs.cap, .slice Sessions.a Sessions.len Sessions.cap]) H3))
theorem tephralaw07_Some.eq (J : Jn) (says : Sl) (H : Hp) (Q : Value → Hp → Prop) : vFn Try.prog tephralaw07_Some.cf J tephralaw07_Some.fn [.slice says.a says.len says.cap] H Q = tephralaw07_Some.vc J says H Q := by kernel_rfl
theorem tephralaw07_Some.calls {says : Sl} {H : Hp} {Q : Value → Hp → Prop} (h : tephralaw07_Some.vc J0 says H Q) : SCalls Try.prog tephralaw07_Some.id [.slice says.a says.len says.cap] H Q := vFn_of Try.mixed Try.func12 (tephralaw07_Some.eq J0 says H Q) h

/-! 13: tephra/state.Apply -/
noncomputable def state_Apply.cf : Cfg := ⟨[3, 4, 5, 7, 10, 12, 1000003], [(1000021, [2])], [(4, [2, 3, 4, 5, 19], true), (6, [2, 3, 4, 5], true), (11, [2, 3, 4, 5, 6, 7, 65], true)], [], true⟩
noncomputable def state_Apply.cfr : Cfg := { state_Apply.cf with rf := false }
noncomputable def state_Apply.r1.fr (b : Nat) : List AV := mkFr 112 [(2, .v (.pointer (some (Addr.mk b 0 none))))]
noncomputable def state_Apply.r1.code : Code := sub (bodyOf state_Apply.fn) [1, 1, 1, 1, 1, 1, 1, 1, 1, 1, 1, 0, 1, 0]
noncomputable def state_Apply.r1.rec (fn : FuncId) (tm : Array Value) (d : Nat) (st : LoopState) (pd : Option Code) : Obj := recO fn tm (rgP state_Apply.r1.code) (rgA state_Apply.r1.code) (rgB state_Apply.r1.code) d st pd
noncomputable def state_Apply.k1.st (eIndex : Int) (eTerm : Int) (eCmdOp : Int) (eCmdClient : Int) (eCmdSeq : Int) (eCmdKey : ByteArray) (eCmdValue : ByteArray) (eCmdOld : ByteArray) (b : Nat) (H5 : Hp) (x1 : Bool) : VS := ⟨mkFr 112 [(2, .v (.pointer (some (Addr.mk b 0 none)))), (3, .loc 0 0), (4, .loc 1 0), (5, .loc 2 0), (19, .v (.bool x1))], [(T_api_Entry, [.int .i64 eIndex, .int .i64 eTerm, .int .i64 eCmdOp, .int .i64 eCmdClient, .int .i64 eCmdSeq, .string eCmdKey, .string eCmdValue, .string eCmdOld]), (T_api_State, [.int .i64 0, .int .i64 0, .slice none 0 0, .slice none 0 0]), (T_api_Reply, [.int .i64 0, .string (ByteArray.mk #[])])], H5⟩
noncomputable def state_Apply.k1 (J : Jn) (eIndex : Int) (eTerm : Int) (eCmdOp : Int) (eCmdClient : Int) (eCmdSeq : Int) (eCmdKey : ByteArray) (eCmdValue : ByteArray) (eCmdOld : ByteArray) (b : Nat) (H5 : Hp) (x1 : Bool) (Q : Value → Hp → Prop) : Prop := J (vSeg Try.prog state_Apply.cf J state_Apply.fn [1, 0, 0, 1, 1, 1] [0, 3, 3, 3] Q) (state_Apply.k1.st eIndex eTerm eCmdOp eCmdClient eCmdSeq eCmdKey eCmdValue eCmdOld b H5 x1)
noncomputable def state_Apply.k2.st (eIndex : Int) (eTerm : Int) (eCmdOp : Int) (eCmdClient : Int) (eCmdSeq : Int) (eCmdKey : ByteArray) (eCmdValue : ByteArray) (eCmdOld : ByteArray) (b : Nat) (H10 : Hp) : VS := ⟨mkFr 112 [(2, .v (.pointer (some (Addr.mk b 0 none)))), (3, .loc 0 0), (4, .loc 1 0), (5, .loc 2 0)], [(T_api_Entry, [.int .i64 eIndex, .int .i64 eTerm, .int .i64 eCmdOp, .int .i64 eCmdClient, .int .i64 eCmdSeq, .string eCmdKey, .string eCmdValue, .string eCmdOld]), (T_api_State, [.int .i64 0, .int .i64 0, .slice none 0 0, .slice none 0 0]), (T_api_Reply, [.int .i64 0, .string (ByteArray.mk #[])])], H10⟩
noncomputable def state_Apply.k2 (J : Jn) (eIndex : Int) (eTerm : Int) (eCmdOp : Int) (eCmdClient : Int) (eCmdSeq : Int) (eCmdKey : ByteArray) (eCmdValue : ByteArray) (eCmdOld : ByteArray) (b : Nat) (H10 : Hp) (Q : Value → Hp → Prop) : Prop := J (vSeg Try.prog state_Apply.cf J state_Apply.fn [1, 1, 1] [0, 3, 3] Q) (state_Apply.k2.st eIndex eTerm eCmdOp eCmdClient eCmdSeq eCmdKey eCmdValue eCmdOld b H10)
noncomputable def state_Apply.k3.st (eIndex : Int) (eTerm : Int) (eCmdOp : Int) (eCmdClient : Int) (eCmdSeq : Int) (eCmdKey : ByteArray) (eCmdValue : ByteArray) (eCmdOld : ByteArray) (b : Nat) (x2 : Option Addr) (Client : Int) (Seq : Int) (ReplyErr : Int) (ReplyValue : ByteArray) (H13 : Hp) (x4 : Bool) : VS := ⟨mkFr 112 [(2, .v (.pointer (some (Addr.mk b 0 none)))), (3, .loc 0 0), (4, .loc 1 0), (5, .loc 2 0), (6, .v (.pointer x2)), (7, .loc 3 0), (65, .v (.bool x4))], [(T_api_Entry, [.int .i64 eIndex, .int .i64 eTerm, .int .i64 eCmdOp, .int .i64 eCmdClient, .int .i64 eCmdSeq, .string eCmdKey, .string eCmdValue, .string eCmdOld]), (T_api_State, [.int .i64 0, .int .i64 0, .slice none 0 0, .slice none 0 0]), (T_api_Reply, [.int .i64 0, .string (ByteArray.mk #[])]), (T_api_Session, [.int .i64 Client, .int .i64 Seq, .int .i64 ReplyErr, .string ReplyValue])], H13⟩
noncomputable def state_Apply.k3 (J : Jn) (eIndex : Int) (eTerm : Int) (eCmdOp : Int) (eCmdClient : Int) (eCmdSeq : Int) (eCmdKey : ByteArray) (eCmdValue : ByteArray) (eCmdOld : ByteArray) (b : Nat) (x2 : Option Addr) (Client : Int) (Seq : Int) (ReplyErr : Int) (ReplyValue : ByteArray) (H13 : Hp) (x4 : Bool) (Q : Value → Hp → Prop) : Prop := J (vSeg Try.prog state_Apply.cf J state_Apply.fn [1, 1, 1, 1, 1, 0, 1, 1] [0, 3, 3, 3, 3, 3, 3, 4] Q) (state_Apply.k3.st eIndex eTerm eCmdOp eCmdClient eCmdSeq eCmdKey eCmdValue eCmdOld b x2 Client Seq ReplyErr ReplyValue H13 x4)
attribute [irreducible] state_Apply.k1 state_Apply.k2 state_Apply.k3
noncomputable def state_Apply.k1.body (J : Jn) (eIndex : Int) (eTerm : Int) (eCmdOp : Int) (eCmdClient : Int) (eCmdSeq : Int) (eCmdKey : ByteArray) (eCmdValue : ByteArray) (eCmdOld : ByteArray) (b : Nat) (H5 : Hp) (x1 : Bool) (Q : Value → Hp → Prop) : Prop :=
 
 Br x1 (∃ Index2 : Int, ∃ Term2 : Int, ∃ Pairs1 : Sl, ∃ Sessions1 : Sl, RowAt H5 (Addr.mk b 0 none) [.int .i64 Index2, .int .i64 Term2, .slice Pairs1.a Pairs1.len Pairs1.cap, .slice Sessions1.a Sessions1.len Sessions1.cap] ∧ Q (.tuple #[.agg #[.int .i64 Index2, .int .i64 Term2, .slice Pairs1.a Pairs1.len Pairs1.cap, .slice Sessions1.a Sessions1.len Sessions1.cap], .agg #[.int .i64 8, .string (ByteArray.mk #[])]]) H5)
 (
  (WrAt H5 (Addr.mk b 0 none) 1 ∧ ∀ H6 : Hp, H6 = (Hp.setCell H5 (Addr.mk b 0 none) (.int .i64 eIndex)) → WrAt H6 ((Addr.mk b 0 none).add 1) 1 ∧ ∀ H7 : Hp, H7 = (Hp.setCell H6 ((Addr.mk b 0 none).add 1) (.int .i64 eTerm)) → 
 state_Apply.k2 J eIndex eTerm eCmdOp eCmdClient eCmdSeq eCmdKey eCmdValue eCmdOld b H7 Q) ∧ 
  (WrAt H5 (Addr.mk b 0 none) 1 ∧ ∀ H8 : Hp, H8 = (Hp.setCell H5 (Addr.mk b 0 none) (.int .i64 eIndex)) → WrAt H8 ((Addr.mk b 0 none).add 1) 1 ∧ ∀ H9 : Hp, H9 = (Hp.setCell H8 ((Addr.mk b 0 none).add 1) (.int .i64 eTerm)) → 
 state_Apply.k2 J eIndex eTerm eCmdOp eCmdClient eCmdSeq eCmdKey eCmdValue eCmdOld b H9 Q))
theorem state_Apply.k1.eq (J : Jn) (eIndex : Int) (eTerm : Int) (eCmdOp : Int) (eCmdClient : Int) (eCmdSeq : Int) (eCmdKey : ByteArray) (eCmdValue : ByteArray) (eCmdOld : ByteArray) (b : Nat) (H5 : Hp) (x1 : Bool) (Q : Value → Hp → Prop) : vSeg Try.prog state_Apply.cf J state_Apply.fn [1, 0, 0, 1, 1, 1] [0, 3, 3, 3] Q (state_Apply.k1.st eIndex eTerm eCmdOp eCmdClient eCmdSeq eCmdKey eCmdValue eCmdOld b H5 x1) = state_Apply.k1.body J eIndex eTerm eCmdOp eCmdClient eCmdSeq eCmdKey eCmdValue eCmdOld b H5 x1 Q := by kernel_rfl
theorem state_Apply.k1.step {eIndex : Int} {eTerm : Int} {eCmdOp : Int} {eCmdClient : Int} {eCmdSeq : Int} {eCmdKey : ByteArray} {eCmdValue : ByteArray} {eCmdOld : ByteArray} {b : Nat} {H5 : Hp} {x1 : Bool} {Q : Value → Hp → Prop} (h : state_Apply.k1.body J0 eIndex eTerm eCmdOp eCmdClient eCmdSeq eCmdKey eCmdValue eCmdOld b H5 x1 Q) : state_Apply.k1 J0 eIndex eTerm eCmdOp eCmdClient eCmdSeq eCmdKey eCmdValue eCmdOld b H5 x1 Q := step_of (vSeg Try.prog state_Apply.cf J0 state_Apply.fn [1, 0, 0, 1, 1, 1] [0, 3, 3, 3] Q) (state_Apply.k1.st eIndex eTerm eCmdOp eCmdClient eCmdSeq eCmdKey eCmdValue eCmdOld b H5 x1) (state_Apply.k1.eq J0 eIndex eTerm eCmdOp eCmdClient eCmdSeq eCmdKey eCmdValue eCmdOld b H5 x1 Q) (by kernel_rfl) h
noncomputable def state_Apply.k2.body (J : Jn) (eIndex : Int) (eTerm : Int) (eCmdOp : Int) (eCmdClient : Int) (eCmdSeq : Int) (eCmdKey : ByteArray) (eCmdValue : ByteArray) (eCmdOld : ByteArray) (b : Nat) (H10 : Hp) (Q : Value → Hp → Prop) : Prop :=
 
 Br (eCmdOp == 0) (∃ Index3 : Int, ∃ Term3 : Int, ∃ Pairs2 : Sl, ∃ Sessions2 : Sl, RowAt H10 (Addr.mk b 0 none) [.int .i64 Index3, .int .i64 Term3, .slice Pairs2.a Pairs2.len Pairs2.cap, .slice Sessions2.a Sessions2.len Sessions2.cap] ∧ Q (.tuple #[.agg #[.int .i64 Index3, .int .i64 Term3, .slice Pairs2.a Pairs2.len Pairs2.cap, .slice Sessions2.a Sessions2.len Sessions2.cap], .agg #[.int .i64 0, .string (ByteArray.mk #[])]]) H10)
 (∃ Index4 : Int, ∃ Term4 : Int, ∃ Pairs3 : Sl, ∃ Sessions3 : Sl, RowAt H10 (Addr.mk b 0 none) [.int .i64 Index4, .int .i64 Term4, .slice Pairs3.a Pairs3.len Pairs3.cap, .slice Sessions3.a Sessions3.len Sessions3.cap] ∧ 
 SCalls Try.prog state_sessions.id [.agg #[.int .i64 Index4, .int .i64 Term4, .slice Pairs3.a Pairs3.len Pairs3.cap, .slice Sessions3.a Sessions3.len Sessions3.cap]] H10 (fun r1 H11 => ∃ x2 : Option Addr, r1 = .pointer x2 ∧ 
 SCalls Try.prog sorted_Map_int_api_Session_Get.id [.pointer x2, .int .i64 eCmdClient] H11 (fun r2 H12 => ∃ Client : Int, ∃ Seq : Int, ∃ ReplyErr : Int, ∃ ReplyValue : ByteArray, ∃ x3 : Bool, r2 = .tuple #[.agg #[.int .i64 Client, .int .i64 Seq, .int .i64 ReplyErr, .string ReplyValue], .bool x3] ∧ ∀ H13 : Hp, H13 = (holes H12 1) → 
 Br x3 (
 state_Apply.k3 J eIndex eTerm eCmdOp eCmdClient eCmdSeq eCmdKey eCmdValue eCmdOld b x2 Client Seq ReplyErr ReplyValue H13 (decide (Seq ≥ eCmdSeq)) Q)
 (
 state_Apply.k3 J eIndex eTerm eCmdOp eCmdClient eCmdSeq eCmdKey eCmdValue eCmdOld b x2 Client Seq ReplyErr ReplyValue H13 false Q))))
theorem state_Apply.k2.eq (J : Jn) (eIndex : Int) (eTerm : Int) (eCmdOp : Int) (eCmdClient : Int) (eCmdSeq : Int) (eCmdKey : ByteArray) (eCmdValue : ByteArray) (eCmdOld : ByteArray) (b : Nat) (H10 : Hp) (Q : Value → Hp → Prop) : vSeg Try.prog state_Apply.cf J state_Apply.fn [1, 1, 1] [0, 3, 3] Q (state_Apply.k2.st eIndex eTerm eCmdOp eCmdClient eCmdSeq eCmdKey eCmdValue eCmdOld b H10) = state_Apply.k2.body J eIndex eTerm eCmdOp eCmdClient eCmdSeq eCmdKey eCmdValue eCmdOld b H10 Q := by kernel_rfl
theorem state_Apply.k2.step {eIndex : Int} {eTerm : Int} {eCmdOp : Int} {eCmdClient : Int} {eCmdSeq : Int} {eCmdKey : ByteArray} {eCmdValue : ByteArray} {eCmdOld : ByteArray} {b : Nat} {H10 : Hp} {Q : Value → Hp → Prop} (h : state_Apply.k2.body J0 eIndex eTerm eCmdOp eCmdClient eCmdSeq eCmdKey eCmdValue eCmdOld b H10 Q) : state_Apply.k2 J0 eIndex eTerm eCmdOp eCmdClient eCmdSeq eCmdKey eCmdValue eCmdOld b H10 Q := step_of (vSeg Try.prog state_Apply.cf J0 state_Apply.fn [1, 1, 1] [0, 3, 3] Q) (state_Apply.k2.st eIndex eTerm eCmdOp eCmdClient eCmdSeq eCmdKey eCmdValue eCmdOld b H10) (state_Apply.k2.eq J0 eIndex eTerm eCmdOp eCmdClient eCmdSeq eCmdKey eCmdValue eCmdOld b H10 Q) (by kernel_rfl) h
noncomputable def state_Apply.k3.body (J : Jn) (eIndex : Int) (eTerm : Int) (eCmdOp : Int) (eCmdClient : Int) (eCmdSeq : Int) (eCmdKey : ByteArray) (eCmdValue : ByteArray) (eCmdOld : ByteArray) (b : Nat) (x2 : Option Addr) (Client : Int) (Seq : Int) (ReplyErr : Int) (ReplyValue : ByteArray) (H13 : Hp) (x4 : Bool) (Q : Value → Hp → Prop) : Prop :=
 
 Br x4 (
 Br (Seq == eCmdSeq) (∃ Index5 : Int, ∃ Term5 : Int, ∃ Pairs4 : Sl, ∃ Sessions4 : Sl, RowAt H13 (Addr.mk b 0 none) [.int .i64 Index5, .int .i64 Term5, .slice Pairs4.a Pairs4.len Pairs4.cap, .slice Sessions4.a Sessions4.len Sessions4.cap] ∧ 
  (Q (.tuple #[.agg #[.int .i64 Index5, .int .i64 Term5, .slice Pairs4.a Pairs4.len Pairs4.cap, .slice Sessions4.a Sessions4.len Sessions4.cap], .agg #[.int .i64 ReplyErr, .string ReplyValue]]) H13) ∧ 
  (Q (.tuple #[.agg #[.int .i64 Index5, .int .i64 Term5, .slice Pairs4.a Pairs4.len Pairs4.cap, .slice Sessions4.a Sessions4.len Sessions4.cap], .agg #[.int .i64 ReplyErr, .string ReplyValue]]) H13))
 (∃ Index6 : Int, ∃ Term6 : Int, ∃ Pairs5 : Sl, ∃ Sessions5 : Sl, RowAt H13 (Addr.mk b 0 none) [.int .i64 Index6, .int .i64 Term6, .slice Pairs5.a Pairs5.len Pairs5.cap, .slice Sessions5.a Sessions5.len Sessions5.cap] ∧ Q (.tuple #[.agg #[.int .i64 Index6, .int .i64 Term6, .slice Pairs5.a Pairs5.len Pairs5.cap, .slice Sessions5.a Sessions5.len Sessions5.cap], .agg #[.int .i64 12, .string (ByteArray.mk #[])]]) H13))
 (∃ Index7 : Int, ∃ Term7 : Int, ∃ Pairs6 : Sl, ∃ Sessions6 : Sl, RowAt H13 (Addr.mk b 0 none) [.int .i64 Index7, .int .i64 Term7, .slice Pairs6.a Pairs6.len Pairs6.cap, .slice Sessions6.a Sessions6.len Sessions6.cap] ∧ 
 SCalls Try.prog state_pairs.id [.agg #[.int .i64 Index7, .int .i64 Term7, .slice Pairs6.a Pairs6.len Pairs6.cap, .slice Sessions6.a Sessions6.len Sessions6.cap]] H13 (fun r3 H14 => ∃ x5 : Option Addr, r3 = .pointer x5 ∧ 
 SCalls Try.prog state_do.id [.pointer x5, .agg #[.int .i64 eCmdOp, .int .i64 eCmdClient, .int .i64 eCmdSeq, .string eCmdKey, .string eCmdValue, .string eCmdOld]] H14 (fun r4 H15 => ∃ Err : Int, ∃ Valuev : ByteArray, r4 = .agg #[.int .i64 Err, .string Valuev] ∧ ∀ H16 : Hp, H16 = (holes H15 1) → 
 SCalls Try.prog state_rows.id [.pointer x5] H16 (fun r5 H17 => ∃ x6 : Sl, r5 = .slice x6.a x6.len x6.cap ∧ WrAt H17 ((Addr.mk b 0 none).add 2) 1 ∧ ∀ H18 : Hp, H18 = (Hp.setCell H17 ((Addr.mk b 0 none).add 2) (.slice x6.a x6.len x6.cap)) → 
 SCalls Try.prog sorted_Map_int_api_Session_Put.id [.pointer x2, .int .i64 eCmdClient, .agg #[.int .i64 eCmdClient, .int .i64 eCmdSeq, .int .i64 Err, .string Valuev]] H18 (fun r6 H19 => ∃ x7 : Bool, r6 = .bool x7 ∧ WrAt H19 ((Addr.mk b 0 none).add 3) 1 ∧ ∀ H20 : Hp, H20 = (Hp.setCell H19 ((Addr.mk b 0 none).add 3) (.slice none 0 0)) → 
 SCalls Try.prog sorted_Map_int_api_Session_All.id [.pointer x2] H20 (fun r7 H21 => ∃ x8 : Fv, r7 = .func x8.fn x8.fi x8.ca ∧ 
 ∀ fn : FuncId, ∀ tm : Array Value, TmOf (state_Apply.r1.fr b) tm → vRg Try.prog (.func x8.fn x8.fi x8.ca) (Array.size H21 + 1) (Array.push (Array.push H21 hole) (state_Apply.r1.rec fn tm (Array.size H21) .ready none)) (fun H28 => ∃ st : LoopState, ∃ pd : Option Code, H28[(Array.size H21 + 1)]? = some (state_Apply.r1.rec fn tm (Array.size H21) st pd) ∧ st ≠ .busy ∧ ∀ H29 : Hp, H29 = (Array.setIfInBounds H28 (Array.size H21 + 1) (state_Apply.r1.rec fn tm (Array.size H21) .exhausted pd)) → ((pd = none → ∃ Index8 : Int, ∃ Term8 : Int, ∃ Pairs7 : Sl, ∃ Sessions8 : Sl, RowAt H29 (Addr.mk b 0 none) [.int .i64 Index8, .int .i64 Term8, .slice Pairs7.a Pairs7.len Pairs7.cap, .slice Sessions8.a Sessions8.len Sessions8.cap] ∧ 
  (Q (.tuple #[.agg #[.int .i64 Index8, .int .i64 Term8, .slice Pairs7.a Pairs7.len Pairs7.cap, .slice Sessions8.a Sessions8.len Sessions8.cap], .agg #[.int .i64 Err, .string Valuev]]) H29) ∧ 
  (Q (.tuple #[.agg #[.int .i64 Index8, .int .i64 Term8, .slice Pairs7.a Pairs7.len Pairs7.cap, .slice Sessions8.a Sessions8.len Sessions8.cap], .agg #[.int .i64 Err, .string Valuev]]) H29)) ∧ (pd = some .ret → Q (.tuple #[.agg #[.int .i64 0, .int .i64 0, .slice none 0 0, .slice none 0 0], .agg #[.int .i64 0, .string (ByteArray.mk #[])]]) H29) ∧ (True) ∧ (pd = none ∨ pd = some .ret ∨ ∃ i ∈ ([] : List Nat), pd = some (.exit i))))))))))
theorem state_Apply.k3.eq (J : Jn) (eIndex : Int) (eTerm : Int) (eCmdOp : Int) (eCmdClient : Int) (eCmdSeq : Int) (eCmdKey : ByteArray) (eCmdValue : ByteArray) (eCmdOld : ByteArray) (b : Nat) (x2 : Option Addr) (Client : Int) (Seq : Int) (ReplyErr : Int) (ReplyValue : ByteArray) (H13 : Hp) (x4 : Bool) (Q : Value → Hp → Prop) : vSeg Try.prog state_Apply.cf J state_Apply.fn [1, 1, 1, 1, 1, 0, 1, 1] [0, 3, 3, 3, 3, 3, 3, 4] Q (state_Apply.k3.st eIndex eTerm eCmdOp eCmdClient eCmdSeq eCmdKey eCmdValue eCmdOld b x2 Client Seq ReplyErr ReplyValue H13 x4) = state_Apply.k3.body J eIndex eTerm eCmdOp eCmdClient eCmdSeq eCmdKey eCmdValue eCmdOld b x2 Client Seq ReplyErr ReplyValue H13 x4 Q := by kernel_rfl
theorem state_Apply.k3.step {eIndex : Int} {eTerm : Int} {eCmdOp : Int} {eCmdClient : Int} {eCmdSeq : Int} {eCmdKey : ByteArray} {eCmdValue : ByteArray} {eCmdOld : ByteArray} {b : Nat} {x2 : Option Addr} {Client : Int} {Seq : Int} {ReplyErr : Int} {ReplyValue : ByteArray} {H13 : Hp} {x4 : Bool} {Q : Value → Hp → Prop} (h : state_Apply.k3.body J0 eIndex eTerm eCmdOp eCmdClient eCmdSeq eCmdKey eCmdValue eCmdOld b x2 Client Seq ReplyErr ReplyValue H13 x4 Q) : state_Apply.k3 J0 eIndex eTerm eCmdOp eCmdClient eCmdSeq eCmdKey eCmdValue eCmdOld b x2 Client Seq ReplyErr ReplyValue H13 x4 Q := step_of (vSeg Try.prog state_Apply.cf J0 state_Apply.fn [1, 1, 1, 1, 1, 0, 1, 1] [0, 3, 3, 3, 3, 3, 3, 4] Q) (state_Apply.k3.st eIndex eTerm eCmdOp eCmdClient eCmdSeq eCmdKey eCmdValue eCmdOld b x2 Client Seq ReplyErr ReplyValue H13 x4) (state_Apply.k3.eq J0 eIndex eTerm eCmdOp eCmdClient eCmdSeq eCmdKey eCmdValue eCmdOld b x2 Client Seq ReplyErr ReplyValue H13 x4 Q) (by kernel_rfl) h
noncomputable def state_Apply.r1.body (J : Jn) (b : Nat) (l : Nat) (rc : LoopState → Option Code → Obj) (k : Int) (vClient : Int) (vSeq : Int) (vReplyErr : Int) (vReplyValue : ByteArray) (H22 : Hp) (Q : Value → Hp → Prop) : Prop :=
 ∀ H23 : Hp, H23 = (holes H22 1) → H23[l]? = some (rc .ready none) ∧ ∀ H24 : Hp, H24 = (Array.setIfInBounds H23 l (rc .busy none)) → ∃ Sessions7 : Sl, Hp.cell? H24 ((Addr.mk b 0 none).add 3) = some (.slice Sessions7.a Sessions7.len Sessions7.cap) ∧ ∀ b1 : Nat, b1 = Array.size H24 → ∀ H25 : Hp, H25 = (Array.push H24 (.cells #[.int .i64 vClient, .int .i64 vSeq, .int .i64 vReplyErr, .string vReplyValue] T_api_Session)) → 
 vApp Try.prog T_sl_api_Session Sessions7.a Sessions7.len Sessions7.cap (.slice (some (Addr.mk b1 0 none)) 1 1) H25 (fun ap H26 => WrAt H26 ((Addr.mk b 0 none).add 3) 1 ∧ ∀ H27 : Hp, H27 = (Hp.setCell H26 ((Addr.mk b 0 none).add 3) (.slice ap.a ap.len ap.cap)) → 
 ((∃ st : LoopState, ∃ pd : Option Code, H27[l]? = some (rc st pd)) ∧ Q (.bool true) (Array.setIfInBounds H27 l (rc .ready none))))
theorem state_Apply.r1.eq (J : Jn) (b : Nat) (l : Nat) (rc : LoopState → Option Code → Obj) (k : Int) (vClient : Int) (vSeq : Int) (vReplyErr : Int) (vReplyValue : ByteArray) (H22 : Hp) (Q : Value → Hp → Prop) : vRound Try.prog state_Apply.cfr J (rgA state_Apply.r1.code) (rgB state_Apply.r1.code) (setFr (state_Apply.r1.fr b) (rgP state_Apply.r1.code).toList [.int .i64 k, .agg #[.int .i64 vClient, .int .i64 vSeq, .int .i64 vReplyErr, .string vReplyValue]]) l rc H22 Q = state_Apply.r1.body J b l rc k vClient vSeq vReplyErr vReplyValue H22 Q := by kernel_rfl
theorem state_Apply.r1.calls {b : Nat} {l : Nat} {k : Int} {vClient : Int} {vSeq : Int} {vReplyErr : Int} {vReplyValue : ByteArray} {H22 : Hp} {fnA : FuncId} {tmA : Array Value} {dA : Nat} {Q : Value → Hp → Prop} (hl : H22[l]? = some (state_Apply.r1.rec fnA tmA dA .ready none)) (hT : TmOf (state_Apply.r1.fr b) tmA) (h : state_Apply.r1.body J0 b l (state_Apply.r1.rec fnA tmA dA) k vClient vSeq vReplyErr vReplyValue H22 Q) : YCalls Try.prog l [.int .i64 k, .agg #[.int .i64 vClient, .int .i64 vSeq, .int .i64 vReplyErr, .string vReplyValue]] H22 Q := vRound_calls (cf := state_Apply.cfr) (fn := fnA) (tm := tmA) (ps := rgP state_Apply.r1.code) (asg := rgA state_Apply.r1.code) (body := rgB state_Apply.r1.code) (d := dA) (fr := (state_Apply.r1.fr b)) Try.mixed (by kernel_rfl) hl (by kernel_rfl) hT ((state_Apply.r1.eq J0 b l (state_Apply.r1.rec fnA tmA dA) k vClient vSeq vReplyErr vReplyValue H22 Q).mpr h)
attribute [irreducible] state_Apply.r1.rec state_Apply.r1.fr state_Apply.r1.code
noncomputable def state_Apply.vc (J : Jn) (sIndex : Int) (sTerm : Int) (sPairs : Sl) (sSessions : Sl) (eIndex : Int) (eTerm : Int) (eCmdOp : Int) (eCmdClient : Int) (eCmdSeq : Int) (eCmdKey : ByteArray) (eCmdValue : ByteArray) (eCmdOld : ByteArray) (H : Hp) (Q : Value → Hp → Prop) : Prop :=
 ∀ b : Nat, b = Array.size H → ∀ H1 : Hp, H1 = (Array.push H (.cells #[.int .i64 sIndex, .int .i64 sTerm, .slice sPairs.a sPairs.len sPairs.cap, .slice sSessions.a sSessions.len sSessions.cap] T_api_State)) → ∀ H2 : Hp, H2 = (holes H1 1) → ∀ H3 : Hp, H3 = (holes H2 1) → ∀ H4 : Hp, H4 = (holes H3 1) → 
 SCalls Try.prog cmds_Right.id [.agg #[.int .i64 eIndex, .int .i64 eTerm, .int .i64 eCmdOp, .int .i64 eCmdClient, .int .i64 eCmdSeq, .string eCmdKey, .string eCmdValue, .string eCmdOld]] H4 (fun r H5 => ∃ x : Bool, r = .bool x ∧ 
 Br (!x) (∃ Index : Int, ∃ Term : Int, ∃ Pairs : Sl, ∃ Sessions : Sl, RowAt H5 (Addr.mk b 0 none) [.int .i64 Index, .int .i64 Term, .slice Pairs.a Pairs.len Pairs.cap, .slice Sessions.a Sessions.len Sessions.cap] ∧ Q (.tuple #[.agg #[.int .i64 Index, .int .i64 Term, .slice Pairs.a Pairs.len Pairs.cap, .slice Sessions.a Sessions.len Sessions.cap], .agg #[.int .i64 14, .string (ByteArray.mk #[])]]) H5)
 (∃ Index1 : Int, Hp.cell? H5 (Addr.mk b 0 none) = some (.int .i64 Index1) ∧ 
 Br (eIndex != (w64 (Index1 + 1))) (
 state_Apply.k1 J eIndex eTerm eCmdOp eCmdClient eCmdSeq eCmdKey eCmdValue eCmdOld b H5 true Q)
 (∃ Term1 : Int, Hp.cell? H5 ((Addr.mk b 0 none).add 1) = some (.int .i64 Term1) ∧ 
 state_Apply.k1 J eIndex eTerm eCmdOp eCmdClient eCmdSeq eCmdKey eCmdValue eCmdOld b H5 (decide (eTerm < Term1)) Q)))
theorem state_Apply.eq (J : Jn) (sIndex : Int) (sTerm : Int) (sPairs : Sl) (sSessions : Sl) (eIndex : Int) (eTerm : Int) (eCmdOp : Int) (eCmdClient : Int) (eCmdSeq : Int) (eCmdKey : ByteArray) (eCmdValue : ByteArray) (eCmdOld : ByteArray) (H : Hp) (Q : Value → Hp → Prop) : vFn Try.prog state_Apply.cf J state_Apply.fn [.agg #[.int .i64 sIndex, .int .i64 sTerm, .slice sPairs.a sPairs.len sPairs.cap, .slice sSessions.a sSessions.len sSessions.cap], .agg #[.int .i64 eIndex, .int .i64 eTerm, .int .i64 eCmdOp, .int .i64 eCmdClient, .int .i64 eCmdSeq, .string eCmdKey, .string eCmdValue, .string eCmdOld]] H Q = state_Apply.vc J sIndex sTerm sPairs sSessions eIndex eTerm eCmdOp eCmdClient eCmdSeq eCmdKey eCmdValue eCmdOld H Q := by kernel_rfl
theorem state_Apply.calls {sIndex : Int} {sTerm : Int} {sPairs : Sl} {sSessions : Sl} {eIndex : Int} {eTerm : Int} {eCmdOp : Int} {eCmdClient : Int} {eCmdSeq : Int} {eCmdKey : ByteArray} {eCmdValue : ByteArray} {eCmdOld : ByteArray} {H : Hp} {Q : Value → Hp → Prop} (h : state_Apply.vc J0 sIndex sTerm sPairs sSessions eIndex eTerm eCmdOp eCmdClient eCmdSeq eCmdKey eCmdValue eCmdOld H Q) : SCalls Try.prog state_Apply.id [.agg #[.int .i64 sIndex, .int .i64 sTerm, .slice sPairs.a sPairs.len sPairs.cap, .slice sSessions.a sSessions.len sSessions.cap], .agg #[.int .i64 eIndex, .int .i64 eTerm, .int .i64 eCmdOp, .int .i64 eCmdClient, .int .i64 eCmdSeq, .string eCmdKey, .string eCmdValue, .string eCmdOld]] H Q := vFn_of Try.mixed Try.func13 (state_Apply.eq J0 sIndex sTerm sPairs sSessions eIndex eTerm eCmdOp eCmdClient eCmdSeq eCmdKey eCmdValue eCmdOld H Q) h

/-! 14: tephra/state.Get -/
noncomputable def state_Get.cf : Cfg := ⟨[2, 4, 6, 1000003], [(2, [1, 4, 8, 9, 10])], [], [], true⟩
noncomputable def state_Get.l1.st (sIndex : Int) (sTerm : Int) (sPairs : Sl) (sSessions : Sl) (key : ByteArray) (H3 : Hp) (x : Int) : VS := ⟨mkFr 23 [(1, .v (.string key)), (4, .loc 1 0), (8, .v (.slice sPairs.a sPairs.len sPairs.cap)), (9, .v (.int .i64 ((sPairs.len : Nat) : Int))), (10, .v (.int .i64 x))], [(T_api_State, [.int .i64 sIndex, .int .i64 sTerm, .slice sPairs.a sPairs.len sPairs.cap, .slice sSessions.a sSessions.len sSessions.cap]), (T_api_Reply, [.int .i64 0, .string (ByteArray.mk #[])])], H3⟩
noncomputable def state_Get.l1 (J : Jn) (sIndex : Int) (sTerm : Int) (sPairs : Sl) (sSessions : Sl) (key : ByteArray) (H3 : Hp) (x : Int) (Q : Value → Hp → Prop) : Prop := vAt Try.prog state_Get.cf J state_Get.fn [1, 0, 1, 0] [0, 2, 2] Q (state_Get.l1.st sIndex sTerm sPairs sSessions key H3 x)
attribute [irreducible] state_Get.l1
noncomputable def state_Get.l1.body (J : Jn) (sIndex : Int) (sTerm : Int) (sPairs : Sl) (sSessions : Sl) (key : ByteArray) (H3 : Hp) (x : Int) (Q : Value → Hp → Prop) : Prop :=
 
 Br (decide (x < ((sPairs.len : Nat) : Int))) (((0 : Int) ≤ x ∧ x < ((sPairs.len : Nat) : Int)) ∧ vPtr sPairs.a (fun a => ∃ Key : ByteArray, ∃ Valuev : ByteArray, ∃ Gone : Bool, RowAt H3 (a.add ((x : Int).toNat * 3)) [.string Key, .string Valuev, .bool Gone] ∧ ∀ H4 : Hp, H4 = (holes H3 1) → 
 Br (Key.toList == key.toList) (Q (.agg #[.int .i64 0, .string Valuev]) H4)
 (
 state_Get.l1 J sIndex sTerm sPairs sSessions key H4 (w64 (x + 1)) Q)))
 (Q (.agg #[.int .i64 6, .string (ByteArray.mk #[])]) H3)
theorem state_Get.l1.eq (J : Jn) (sIndex : Int) (sTerm : Int) (sPairs : Sl) (sSessions : Sl) (key : ByteArray) (H3 : Hp) (x : Int) (Q : Value → Hp → Prop) : vAtBody Try.prog state_Get.cf J state_Get.fn [1, 0, 1, 0] [0, 2, 2] Q (state_Get.l1.st sIndex sTerm sPairs sSessions key H3 x) = state_Get.l1.body J sIndex sTerm sPairs sSessions key H3 x Q := by kernel_rfl
theorem state_Get.l1.step {sIndex : Int} {sTerm : Int} {sPairs : Sl} {sSessions : Sl} {key : ByteArray} {H3 : Hp} {x : Int} {Q : Value → Hp → Prop} (h : state_Get.l1.body J0 sIndex sTerm sPairs sSessions key H3 x Q) : state_Get.l1 J0 sIndex sTerm sPairs sSessions key H3 x Q := vAt_stepC (state_Get.l1.st sIndex sTerm sPairs sSessions key H3 x) (state_Get.l1.eq J0 sIndex sTerm sPairs sSessions key H3 x Q) (by kernel_rfl) h
noncomputable def state_Get.vc (J : Jn) (sIndex : Int) (sTerm : Int) (sPairs : Sl) (sSessions : Sl) (key : ByteArray) (H : Hp) (Q : Value → Hp → Prop) : Prop :=
 ∀ H1 : Hp, H1 = (holes H 1) → ∀ H2 : Hp, H2 = (holes H1 1) → 
 state_Get.l1 J sIndex sTerm sPairs sSessions key H2 0 Q
theorem state_Get.eq (J : Jn) (sIndex : Int) (sTerm : Int) (sPairs : Sl) (sSessions : Sl) (key : ByteArray) (H : Hp) (Q : Value → Hp → Prop) : vFn Try.prog state_Get.cf J state_Get.fn [.agg #[.int .i64 sIndex, .int .i64 sTerm, .slice sPairs.a sPairs.len sPairs.cap, .slice sSessions.a sSessions.len sSessions.cap], .string key] H Q = state_Get.vc J sIndex sTerm sPairs sSessions key H Q := by kernel_rfl
theorem state_Get.calls {sIndex : Int} {sTerm : Int} {sPairs : Sl} {sSessions : Sl} {key : ByteArray} {H : Hp} {Q : Value → Hp → Prop} (h : state_Get.vc J0 sIndex sTerm sPairs sSessions key H Q) : SCalls Try.prog state_Get.id [.agg #[.int .i64 sIndex, .int .i64 sTerm, .slice sPairs.a sPairs.len sPairs.cap, .slice sSessions.a sSessions.len sSessions.cap], .string key] H Q := vFn_of Try.mixed Try.func14 (state_Get.eq J0 sIndex sTerm sPairs sSessions key H Q) h

/-! 15: tephra/tephralaw06.Entries -/
noncomputable def tephralaw06_Entries.cf : Cfg := ⟨[9], [(3, [1, 2, 7, 14, 15, 16])], [(7, [1, 2, 7, 8, 9, 14, 15, 16], true)], [], true⟩
noncomputable def tephralaw06_Entries.l1.st (says : Sl) (fromv : Int) (H1 : Hp) (term1 : Int) (out : Sl) (x : Int) : VS := ⟨mkFr 38 [(1, .v (.int .i64 fromv)), (2, .v (.int .i64 term1)), (7, .v (.slice out.a out.len out.cap)), (14, .v (.slice (cutA says.a says.cap 0 6) (((if (80 : Int) < ((says.len : Nat) : Int) then 80 else ((says.len : Nat) : Int)) : Int).toNat) says.cap)), (15, .v (.int .i64 (((((if (80 : Int) < ((says.len : Nat) : Int) then 80 else ((says.len : Nat) : Int)) : Int).toNat) : Nat) : Int))), (16, .v (.int .i64 x))], [], H1⟩
noncomputable def tephralaw06_Entries.l1 (J : Jn) (says : Sl) (fromv : Int) (H1 : Hp) (term1 : Int) (out : Sl) (x : Int) (Q : Value → Hp → Prop) : Prop := vAt Try.prog tephralaw06_Entries.cf J tephralaw06_Entries.fn [1, 1, 0, 1, 0] [0, 0, 0, 0] Q (tephralaw06_Entries.l1.st says fromv H1 term1 out x)
noncomputable def tephralaw06_Entries.k1.st (says : Sl) (fromv : Int) (H1 : Hp) (out : Sl) (x : Int) (Opv : Int) (Client : Int) (Seq : Int) (Key : Int) (Valuev : Int) (Old : Int) (term2 : Int) : VS := ⟨mkFr 38 [(1, .v (.int .i64 fromv)), (2, .v (.int .i64 term2)), (7, .v (.slice out.a out.len out.cap)), (8, .v (.int .i64 x)), (9, .loc 0 0), (14, .v (.slice (cutA says.a says.cap 0 6) (((if (80 : Int) < ((says.len : Nat) : Int) then 80 else ((says.len : Nat) : Int)) : Int).toNat) says.cap)), (15, .v (.int .i64 (((((if (80 : Int) < ((says.len : Nat) : Int) then 80 else ((says.len : Nat) : Int)) : Int).toNat) : Nat) : Int))), (16, .v (.int .i64 x))], [(T_tephralaw06_Say, [.int .u8 Opv, .int .u8 Client, .int .u8 Seq, .int .u8 Key, .int .u8 Valuev, .int .u8 Old])], (holes H1 1)⟩
noncomputable def tephralaw06_Entries.k1 (J : Jn) (says : Sl) (fromv : Int) (H1 : Hp) (out : Sl) (x : Int) (Opv : Int) (Client : Int) (Seq : Int) (Key : Int) (Valuev : Int) (Old : Int) (term2 : Int) (Q : Value → Hp → Prop) : Prop := J (vSeg Try.prog tephralaw06_Entries.cf J tephralaw06_Entries.fn [1, 1, 0, 1, 0, 0, 1, 1, 0, 0, 1, 1] [0, 0, 0, 0, 0, 0, 0, 0, 0, 1] Q) (tephralaw06_Entries.k1.st says fromv H1 out x Opv Client Seq Key Valuev Old term2)
attribute [irreducible] tephralaw06_Entries.l1 tephralaw06_Entries.k1
noncomputable def tephralaw06_Entries.l1.body (J : Jn) (says : Sl) (fromv : Int) (H1 : Hp) (term1 : Int) (out : Sl) (x : Int) (Q : Value → Hp → Prop) : Prop :=
 
 Br (decide (x < (((((if (80 : Int) < ((says.len : Nat) : Int) then 80 else ((says.len : Nat) : Int)) : Int).toNat) : Nat) : Int))) (((0 : Int) ≤ x ∧ x < (((((if (80 : Int) < ((says.len : Nat) : Int) then 80 else ((says.len : Nat) : Int)) : Int).toNat) : Nat) : Int)) ∧ vPtr (cutA says.a says.cap 0 6) (fun a => ∃ Opv : Int, ∃ Client : Int, ∃ Seq : Int, ∃ Key : Int, ∃ Valuev : Int, ∃ Old : Int, RowAt H1 (a.add ((x : Int).toNat * 6)) [.int .u8 Opv, .int .u8 Client, .int .u8 Seq, .int .u8 Key, .int .u8 Valuev, .int .u8 Old] ∧ 
 Br (decide (Opv > 230)) (
 tephralaw06_Entries.k1 J says fromv H1 out x Opv Client Seq Key Valuev Old (w64 (term1 + 1)) Q)
 (
 tephralaw06_Entries.k1 J says fromv H1 out x Opv Client Seq Key Valuev Old term1 Q)))
 (Q (.slice out.a out.len out.cap) H1)
theorem tephralaw06_Entries.l1.eq (J : Jn) (says : Sl) (fromv : Int) (H1 : Hp) (term1 : Int) (out : Sl) (x : Int) (Q : Value → Hp → Prop) : vAtBody Try.prog tephralaw06_Entries.cf J tephralaw06_Entries.fn [1, 1, 0, 1, 0] [0, 0, 0, 0] Q (tephralaw06_Entries.l1.st says fromv H1 term1 out x) = tephralaw06_Entries.l1.body J says fromv H1 term1 out x Q := by kernel_rfl
theorem tephralaw06_Entries.l1.step {says : Sl} {fromv : Int} {H1 : Hp} {term1 : Int} {out : Sl} {x : Int} {Q : Value → Hp → Prop} (h : tephralaw06_Entries.l1.body J0 says fromv H1 term1 out x Q) : tephralaw06_Entries.l1 J0 says fromv H1 term1 out x Q := vAt_stepC (tephralaw06_Entries.l1.st says fromv H1 term1 out x) (tephralaw06_Entries.l1.eq J0 says fromv H1 term1 out x Q) (by kernel_rfl) h
noncomputable def tephralaw06_Entries.k1.body (J : Jn) (says : Sl) (fromv : Int) (H1 : Hp) (out : Sl) (x : Int) (Opv : Int) (Client : Int) (Seq : Int) (Key : Int) (Valuev : Int) (Old : Int) (term2 : Int) (Q : Value → Hp → Prop) : Prop :=
 
 SCalls Try.prog tephralaw06_Say_Cmd.id [.agg #[.int .u8 Opv, .int .u8 Client, .int .u8 Seq, .int .u8 Key, .int .u8 Valuev, .int .u8 Old]] (holes H1 1) (fun r H2 => ∃ Opv1 : Int, ∃ Client1 : Int, ∃ Seq1 : Int, ∃ Key1 : ByteArray, ∃ Valuev1 : ByteArray, ∃ Old1 : ByteArray, r = .agg #[.int .i64 Opv1, .int .i64 Client1, .int .i64 Seq1, .string Key1, .string Valuev1, .string Old1] ∧ 
 vApp Try.prog T_sl_api_Entry out.a out.len out.cap (.slice (some (Addr.mk (Array.size H2) 0 none)) 1 1) (Array.push H2 (.cells #[.int .i64 (w64 (fromv + x)), .int .i64 term2, .int .i64 Opv1, .int .i64 Client1, .int .i64 Seq1, .string Key1, .string Valuev1, .string Old1] T_api_Entry)) (fun ap H3 => 
 tephralaw06_Entries.l1 J says fromv H3 term2 ap (w64 (x + 1)) Q))
theorem tephralaw06_Entries.k1.eq (J : Jn) (says : Sl) (fromv : Int) (H1 : Hp) (out : Sl) (x : Int) (Opv : Int) (Client : Int) (Seq : Int) (Key : Int) (Valuev : Int) (Old : Int) (term2 : Int) (Q : Value → Hp → Prop) : vSeg Try.prog tephralaw06_Entries.cf J tephralaw06_Entries.fn [1, 1, 0, 1, 0, 0, 1, 1, 0, 0, 1, 1] [0, 0, 0, 0, 0, 0, 0, 0, 0, 1] Q (tephralaw06_Entries.k1.st says fromv H1 out x Opv Client Seq Key Valuev Old term2) = tephralaw06_Entries.k1.body J says fromv H1 out x Opv Client Seq Key Valuev Old term2 Q := by kernel_rfl
theorem tephralaw06_Entries.k1.step {says : Sl} {fromv : Int} {H1 : Hp} {out : Sl} {x : Int} {Opv : Int} {Client : Int} {Seq : Int} {Key : Int} {Valuev : Int} {Old : Int} {term2 : Int} {Q : Value → Hp → Prop} (h : tephralaw06_Entries.k1.body J0 says fromv H1 out x Opv Client Seq Key Valuev Old term2 Q) : tephralaw06_Entries.k1 J0 says fromv H1 out x Opv Client Seq Key Valuev Old term2 Q := step_of (vSeg Try.prog tephralaw06_Entries.cf J0 tephralaw06_Entries.fn [1, 1, 0, 1, 0, 0, 1, 1, 0, 0, 1, 1] [0, 0, 0, 0, 0, 0, 0, 0, 0, 1] Q) (tephralaw06_Entries.k1.st says fromv H1 out x Opv Client Seq Key Valuev Old term2) (tephralaw06_Entries.k1.eq J0 says fromv H1 out x Opv Client Seq Key Valuev Old term2 Q) (by kernel_rfl) h
noncomputable def tephralaw06_Entries.vc (J : Jn) (says : Sl) (fromv : Int) (term : Int) (H : Hp) (Q : Value → Hp → Prop) : Prop :=
 ((0 : Int) ≤ (if (80 : Int) < ((says.len : Nat) : Int) then 80 else ((says.len : Nat) : Int)) ∧ (if (80 : Int) < ((says.len : Nat) : Int) then 80 else ((says.len : Nat) : Int)) ≤ ((says.cap : Nat) : Int)) ∧ 
 tephralaw06_Entries.l1 J says fromv H term (Sl.mk none 0 0) 0 Q
theorem tephralaw06_Entries.eq (J : Jn) (says : Sl) (fromv : Int) (term : Int) (H : Hp) (Q : Value → Hp → Prop) : vFn Try.prog tephralaw06_Entries.cf J tephralaw06_Entries.fn [.slice says.a says.len says.cap, .int .i64 fromv, .int .i64 term] H Q = tephralaw06_Entries.vc J says fromv term H Q := by kernel_rfl
theorem tephralaw06_Entries.calls {says : Sl} {fromv : Int} {term : Int} {H : Hp} {Q : Value → Hp → Prop} (h : tephralaw06_Entries.vc J0 says fromv term H Q) : SCalls Try.prog tephralaw06_Entries.id [.slice says.a says.len says.cap, .int .i64 fromv, .int .i64 term] H Q := vFn_of Try.mixed Try.func15 (tephralaw06_Entries.eq J0 says fromv term H Q) h

/-! 18: tephra/state.Right -/
noncomputable def state_Right.cf : Cfg := ⟨[1, 4, 1000003], [(2, [1, 6, 7, 8])], [], [(22, [1, 22]), (27, [1, 27]), (32, [1, 32])], true⟩
noncomputable def state_Right.l1.st (sIndex : Int) (sTerm : Int) (sPairs : Sl) (sSessions : Sl) (H2 : Hp) (x : Int) : VS := ⟨mkFr 40 [(1, .loc 0 0), (6, .v (.slice sPairs.a sPairs.len sPairs.cap)), (7, .v (.int .i64 ((sPairs.len : Nat) : Int))), (8, .v (.int .i64 x))], [(T_api_State, [.int .i64 sIndex, .int .i64 sTerm, .slice sPairs.a sPairs.len sPairs.cap, .slice sSessions.a sSessions.len sSessions.cap])], H2⟩
noncomputable def state_Right.l1 (J : Jn) (sIndex : Int) (sTerm : Int) (sPairs : Sl) (sSessions : Sl) (H2 : Hp) (x : Int) (Q : Value → Hp → Prop) : Prop := vAt Try.prog state_Right.cf J state_Right.fn [1, 0, 1, 0] [0, 1, 1] Q (state_Right.l1.st sIndex sTerm sPairs sSessions H2 x)
noncomputable def state_Right.k1.st (sIndex : Int) (sTerm : Int) (sPairs : Sl) (sSessions : Sl) (H2 : Hp) (x1 : Bool) : VS := ⟨mkFr 40 [(1, .loc 0 0), (22, .v (.bool x1))], [(T_api_State, [.int .i64 sIndex, .int .i64 sTerm, .slice sPairs.a sPairs.len sPairs.cap, .slice sSessions.a sSessions.len sSessions.cap])], H2⟩
noncomputable def state_Right.k1 (J : Jn) (sIndex : Int) (sTerm : Int) (sPairs : Sl) (sSessions : Sl) (H2 : Hp) (x1 : Bool) (Q : Value → Hp → Prop) : Prop := J (vMid Try.prog state_Right.cf J state_Right.fn [1, 1, 0] [0, 1, 1] 8 Q) (state_Right.k1.st sIndex sTerm sPairs sSessions H2 x1)
noncomputable def state_Right.k2.st (sIndex : Int) (sTerm : Int) (sPairs : Sl) (sSessions : Sl) (H2 : Hp) (x2 : Bool) : VS := ⟨mkFr 40 [(1, .loc 0 0), (27, .v (.bool x2))], [(T_api_State, [.int .i64 sIndex, .int .i64 sTerm, .slice sPairs.a sPairs.len sPairs.cap, .slice sSessions.a sSessions.len sSessions.cap])], H2⟩
noncomputable def state_Right.k2 (J : Jn) (sIndex : Int) (sTerm : Int) (sPairs : Sl) (sSessions : Sl) (H2 : Hp) (x2 : Bool) (Q : Value → Hp → Prop) : Prop := J (vMid Try.prog state_Right.cf J state_Right.fn [1, 1, 0] [0, 1, 1] 13 Q) (state_Right.k2.st sIndex sTerm sPairs sSessions H2 x2)
noncomputable def state_Right.k3.st (sIndex : Int) (sTerm : Int) (sPairs : Sl) (sSessions : Sl) (H2 : Hp) (x3 : Bool) : VS := ⟨mkFr 40 [(1, .loc 0 0), (32, .v (.bool x3))], [(T_api_State, [.int .i64 sIndex, .int .i64 sTerm, .slice sPairs.a sPairs.len sPairs.cap, .slice sSessions.a sSessions.len sSessions.cap])], H2⟩
noncomputable def state_Right.k3 (J : Jn) (sIndex : Int) (sTerm : Int) (sPairs : Sl) (sSessions : Sl) (H2 : Hp) (x3 : Bool) (Q : Value → Hp → Prop) : Prop := J (vMid Try.prog state_Right.cf J state_Right.fn [1, 1, 0] [0, 1, 1] 18 Q) (state_Right.k3.st sIndex sTerm sPairs sSessions H2 x3)
attribute [irreducible] state_Right.l1 state_Right.k1 state_Right.k2 state_Right.k3
noncomputable def state_Right.l1.body (J : Jn) (sIndex : Int) (sTerm : Int) (sPairs : Sl) (sSessions : Sl) (H2 : Hp) (x : Int) (Q : Value → Hp → Prop) : Prop :=
 
 Br (decide (x < ((sPairs.len : Nat) : Int))) (((0 : Int) ≤ x ∧ x < ((sPairs.len : Nat) : Int)) ∧ vPtr sPairs.a (fun a => ∃ Key : ByteArray, ∃ Valuev : ByteArray, ∃ Gone : Bool, RowAt H2 (a.add ((x : Int).toNat * 3)) [.string Key, .string Valuev, .bool Gone] ∧ ∀ H3 : Hp, H3 = (holes H2 1) → 
 Br Gone (Q (.bool false) H3)
 (
 state_Right.l1 J sIndex sTerm sPairs sSessions H3 (w64 (x + 1)) Q)))
 (
 Br (decide (sIndex ≥ 0)) (
 state_Right.k1 J sIndex sTerm sPairs sSessions H2 (decide (sIndex ≤ 1048576)) Q)
 (
 state_Right.k1 J sIndex sTerm sPairs sSessions H2 false Q))
theorem state_Right.l1.eq (J : Jn) (sIndex : Int) (sTerm : Int) (sPairs : Sl) (sSessions : Sl) (H2 : Hp) (x : Int) (Q : Value → Hp → Prop) : vAtBody Try.prog state_Right.cf J state_Right.fn [1, 0, 1, 0] [0, 1, 1] Q (state_Right.l1.st sIndex sTerm sPairs sSessions H2 x) = state_Right.l1.body J sIndex sTerm sPairs sSessions H2 x Q := by kernel_rfl
theorem state_Right.l1.step {sIndex : Int} {sTerm : Int} {sPairs : Sl} {sSessions : Sl} {H2 : Hp} {x : Int} {Q : Value → Hp → Prop} (h : state_Right.l1.body J0 sIndex sTerm sPairs sSessions H2 x Q) : state_Right.l1 J0 sIndex sTerm sPairs sSessions H2 x Q := vAt_stepC (state_Right.l1.st sIndex sTerm sPairs sSessions H2 x) (state_Right.l1.eq J0 sIndex sTerm sPairs sSessions H2 x Q) (by kernel_rfl) h
noncomputable def state_Right.k1.body (J : Jn) (sIndex : Int) (sTerm : Int) (sPairs : Sl) (sSessions : Sl) (H2 : Hp) (x1 : Bool) (Q : Value → Hp → Prop) : Prop :=
 
 Br x1 (
 state_Right.k2 J sIndex sTerm sPairs sSessions H2 (decide (sTerm ≥ 0)) Q)
 (
 state_Right.k2 J sIndex sTerm sPairs sSessions H2 false Q)
theorem state_Right.k1.eq (J : Jn) (sIndex : Int) (sTerm : Int) (sPairs : Sl) (sSessions : Sl) (H2 : Hp) (x1 : Bool) (Q : Value → Hp → Prop) : vMid Try.prog state_Right.cf J state_Right.fn [1, 1, 0] [0, 1, 1] 8 Q (state_Right.k1.st sIndex sTerm sPairs sSessions H2 x1) = state_Right.k1.body J sIndex sTerm sPairs sSessions H2 x1 Q := by kernel_rfl
theorem state_Right.k1.step {sIndex : Int} {sTerm : Int} {sPairs : Sl} {sSessions : Sl} {H2 : Hp} {x1 : Bool} {Q : Value → Hp → Prop} (h : state_Right.k1.body J0 sIndex sTerm sPairs sSessions H2 x1 Q) : state_Right.k1 J0 sIndex sTerm sPairs sSessions H2 x1 Q := step_of (vMid Try.prog state_Right.cf J0 state_Right.fn [1, 1, 0] [0, 1, 1] 8 Q) (state_Right.k1.st sIndex sTerm sPairs sSessions H2 x1) (state_Right.k1.eq J0 sIndex sTerm sPairs sSessions H2 x1 Q) (by kernel_rfl) h
noncomputable def state_Right.k2.body (J : Jn) (sIndex : Int) (sTerm : Int) (sPairs : Sl) (sSessions : Sl) (H2 : Hp) (x2 : Bool) (Q : Value → Hp → Prop) : Prop :=
 
 Br x2 (
 state_Right.k3 J sIndex sTerm sPairs sSessions H2 (decide (sTerm ≤ 1048576)) Q)
 (
 state_Right.k3 J sIndex sTerm sPairs sSessions H2 false Q)
theorem state_Right.k2.eq (J : Jn) (sIndex : Int) (sTerm : Int) (sPairs : Sl) (sSessions : Sl) (H2 : Hp) (x2 : Bool) (Q : Value → Hp → Prop) : vMid Try.prog state_Right.cf J state_Right.fn [1, 1, 0] [0, 1, 1] 13 Q (state_Right.k2.st sIndex sTerm sPairs sSessions H2 x2) = state_Right.k2.body J sIndex sTerm sPairs sSessions H2 x2 Q := by kernel_rfl
theorem state_Right.k2.step {sIndex : Int} {sTerm : Int} {sPairs : Sl} {sSessions : Sl} {H2 : Hp} {x2 : Bool} {Q : Value → Hp → Prop} (h : state_Right.k2.body J0 sIndex sTerm sPairs sSessions H2 x2 Q) : state_Right.k2 J0 sIndex sTerm sPairs sSessions H2 x2 Q := step_of (vMid Try.prog state_Right.cf J0 state_Right.fn [1, 1, 0] [0, 1, 1] 13 Q) (state_Right.k2.st sIndex sTerm sPairs sSessions H2 x2) (state_Right.k2.eq J0 sIndex sTerm sPairs sSessions H2 x2 Q) (by kernel_rfl) h
noncomputable def state_Right.k3.body (J : Jn) (sIndex : Int) (sTerm : Int) (sPairs : Sl) (sSessions : Sl) (H2 : Hp) (x3 : Bool) (Q : Value → Hp → Prop) : Prop :=
 
 Br x3 (
 SCalls Try.prog state_RightRows.id [.slice sPairs.a sPairs.len sPairs.cap, .slice sSessions.a sSessions.len sSessions.cap, .int .i64 64] H2 (fun r H4 => ∃ x4 : Bool, r = .bool x4 ∧ Q (.bool x4) H4))
 (Q (.bool false) H2)
theorem state_Right.k3.eq (J : Jn) (sIndex : Int) (sTerm : Int) (sPairs : Sl) (sSessions : Sl) (H2 : Hp) (x3 : Bool) (Q : Value → Hp → Prop) : vMid Try.prog state_Right.cf J state_Right.fn [1, 1, 0] [0, 1, 1] 18 Q (state_Right.k3.st sIndex sTerm sPairs sSessions H2 x3) = state_Right.k3.body J sIndex sTerm sPairs sSessions H2 x3 Q := by kernel_rfl
theorem state_Right.k3.step {sIndex : Int} {sTerm : Int} {sPairs : Sl} {sSessions : Sl} {H2 : Hp} {x3 : Bool} {Q : Value → Hp → Prop} (h : state_Right.k3.body J0 sIndex sTerm sPairs sSessions H2 x3 Q) : state_Right.k3 J0 sIndex sTerm sPairs sSessions H2 x3 Q := step_of (vMid Try.prog state_Right.cf J0 state_Right.fn [1, 1, 0] [0, 1, 1] 18 Q) (state_Right.k3.st sIndex sTerm sPairs sSessions H2 x3) (state_Right.k3.eq J0 sIndex sTerm sPairs sSessions H2 x3 Q) (by kernel_rfl) h
noncomputable def state_Right.vc (J : Jn) (sIndex : Int) (sTerm : Int) (sPairs : Sl) (sSessions : Sl) (H : Hp) (Q : Value → Hp → Prop) : Prop :=
 ∀ H1 : Hp, H1 = (holes H 1) → 
 state_Right.l1 J sIndex sTerm sPairs sSessions H1 0 Q
theorem state_Right.eq (J : Jn) (sIndex : Int) (sTerm : Int) (sPairs : Sl) (sSessions : Sl) (H : Hp) (Q : Value → Hp → Prop) : vFn Try.prog state_Right.cf J state_Right.fn [.agg #[.int .i64 sIndex, .int .i64 sTerm, .slice sPairs.a sPairs.len sPairs.cap, .slice sSessions.a sSessions.len sSessions.cap]] H Q = state_Right.vc J sIndex sTerm sPairs sSessions H Q := by kernel_rfl
theorem state_Right.calls {sIndex : Int} {sTerm : Int} {sPairs : Sl} {sSessions : Sl} {H : Hp} {Q : Value → Hp → Prop} (h : state_Right.vc J0 sIndex sTerm sPairs sSessions H Q) : SCalls Try.prog state_Right.id [.agg #[.int .i64 sIndex, .int .i64 sTerm, .slice sPairs.a sPairs.len sPairs.cap, .slice sSessions.a sSessions.len sSessions.cap]] H Q := vFn_of Try.mixed Try.func18 (state_Right.eq J0 sIndex sTerm sPairs sSessions H Q) h

/-! 19: (tephra/tephralaw06.Say).Cmd -/
noncomputable def tephralaw06_Say_Cmd.cf : Cfg := ⟨[1, 2, 3], [], [(6, [1, 2, 3], true)], [], true⟩
noncomputable def tephralaw06_Say_Cmd.k1.st (sOp : Int) (sClient : Int) (sSeq : Int) (sKey : Int) (sValue : Int) (sOld : Int) (H : Hp) (y : ByteArray) : VS := ⟨mkFr 65 [(1, .loc 0 0), (2, .loc 1 0), (3, .loc 2 0)], [(T_tephralaw06_Say, [.int .u8 sOp, .int .u8 sClient, .int .u8 sSeq, .int .u8 sKey, .int .u8 sValue, .int .u8 sOld]), (T_api_Cmd, [.int .i64 0, .int .i64 0, .int .i64 0, .string (ByteArray.mk #[]), .string (ByteArray.mk #[]), .string (ByteArray.mk #[])]), (T_api_Cmd, [.int .i64 (w64 ((Int.tmod sOp 4))), .int .i64 (w64 ((Int.tmod sClient 4))), .int .i64 (w64 ((Int.tmod sSeq 40))), .string ((ByteArray.mk #[107]) ++ ((ByteArray.mk #[97, 98, 99, 100, 101, 102, 103, 104]).extract (((Int.tmod sKey 8) : Int).toNat) (((IntKind.u8.wrap ((Int.tmod sKey 8) + 1)) : Int).toNat))), .string y, .string (ByteArray.mk #[])])], (holes H 3)⟩
noncomputable def tephralaw06_Say_Cmd.k1 (J : Jn) (sOp : Int) (sClient : Int) (sSeq : Int) (sKey : Int) (sValue : Int) (sOld : Int) (H : Hp) (y : ByteArray) (Q : Value → Hp → Prop) : Prop := J (vSeg Try.prog tephralaw06_Say_Cmd.cf J tephralaw06_Say_Cmd.fn [1, 1, 1, 1] [0, 2, 3, 3] Q) (tephralaw06_Say_Cmd.k1.st sOp sClient sSeq sKey sValue sOld H y)
attribute [irreducible] tephralaw06_Say_Cmd.k1
noncomputable def tephralaw06_Say_Cmd.k1.body (J : Jn) (sOp : Int) (sClient : Int) (sSeq : Int) (sKey : Int) (sValue : Int) (sOld : Int) (H : Hp) (y : ByteArray) (Q : Value → Hp → Prop) : Prop :=
 
 Br ((w64 ((Int.tmod sOp 4))) == 3) ((2 : Int) ≠ 0 ∧ ((0 : Int) ≤ (Int.tmod sOld 2) ∧ (Int.tmod sOld 2) ≤ (((ByteArray.mk #[118]).size : Nat) : Int)) ∧ (10 : Int) ≠ 0 ∧ (10 : Int) ≠ 0 ∧ ((0 : Int) ≤ (IntKind.u8.wrap ((Int.tmod sOld 10) + 1)) ∧ (IntKind.u8.wrap ((Int.tmod sOld 10) + 1)) ≤ (((ByteArray.mk #[48, 49, 50, 51, 52, 53, 54, 55, 56, 57]).size : Nat) : Int)) ∧ ((0 : Int) ≤ (Int.tmod sOld 10) ∧ (Int.tmod sOld 10) ≤ (((((IntKind.u8.wrap ((Int.tmod sOld 10) + 1)) : Int).toNat) : Nat) : Int)) ∧ ((ByteArray.mk #[118]).extract 0 (((Int.tmod sOld 2) : Int).toNat)).size + ((ByteArray.mk #[48, 49, 50, 51, 52, 53, 54, 55, 56, 57]).extract (((Int.tmod sOld 10) : Int).toNat) (((IntKind.u8.wrap ((Int.tmod sOld 10) + 1)) : Int).toNat)).size ≤ 9223372036854775807 ∧ Q (.agg #[.int .i64 (w64 ((Int.tmod sOp 4))), .int .i64 (w64 ((Int.tmod sClient 4))), .int .i64 (w64 ((Int.tmod sSeq 40))), .string ((ByteArray.mk #[107]) ++ ((ByteArray.mk #[97, 98, 99, 100, 101, 102, 103, 104]).extract (((Int.tmod sKey 8) : Int).toNat) (((IntKind.u8.wrap ((Int.tmod sKey 8) + 1)) : Int).toNat))), .string y, .string (((ByteArray.mk #[118]).extract 0 (((Int.tmod sOld 2) : Int).toNat)) ++ ((ByteArray.mk #[48, 49, 50, 51, 52, 53, 54, 55, 56, 57]).extract (((Int.tmod sOld 10) : Int).toNat) (((IntKind.u8.wrap ((Int.tmod sOld 10) + 1)) : Int).toNat)))]) (holes H 3))
 (Q (.agg #[.int .i64 (w64 ((Int.tmod sOp 4))), .int .i64 (w64 ((Int.tmod sClient 4))), .int .i64 (w64 ((Int.tmod sSeq 40))), .string ((ByteArray.mk #[107]) ++ ((ByteArray.mk #[97, 98, 99, 100, 101, 102, 103, 104]).extract (((Int.tmod sKey 8) : Int).toNat) (((IntKind.u8.wrap ((Int.tmod sKey 8) + 1)) : Int).toNat))), .string y, .string (ByteArray.mk #[])]) (holes H 3))
theorem tephralaw06_Say_Cmd.k1.eq (J : Jn) (sOp : Int) (sClient : Int) (sSeq : Int) (sKey : Int) (sValue : Int) (sOld : Int) (H : Hp) (y : ByteArray) (Q : Value → Hp → Prop) : vSeg Try.prog tephralaw06_Say_Cmd.cf J tephralaw06_Say_Cmd.fn [1, 1, 1, 1] [0, 2, 3, 3] Q (tephralaw06_Say_Cmd.k1.st sOp sClient sSeq sKey sValue sOld H y) = tephralaw06_Say_Cmd.k1.body J sOp sClient sSeq sKey sValue sOld H y Q := by kernel_rfl
theorem tephralaw06_Say_Cmd.k1.step {sOp : Int} {sClient : Int} {sSeq : Int} {sKey : Int} {sValue : Int} {sOld : Int} {H : Hp} {y : ByteArray} {Q : Value → Hp → Prop} (h : tephralaw06_Say_Cmd.k1.body J0 sOp sClient sSeq sKey sValue sOld H y Q) : tephralaw06_Say_Cmd.k1 J0 sOp sClient sSeq sKey sValue sOld H y Q := step_of (vSeg Try.prog tephralaw06_Say_Cmd.cf J0 tephralaw06_Say_Cmd.fn [1, 1, 1, 1] [0, 2, 3, 3] Q) (tephralaw06_Say_Cmd.k1.st sOp sClient sSeq sKey sValue sOld H y) (tephralaw06_Say_Cmd.k1.eq J0 sOp sClient sSeq sKey sValue sOld H y Q) (by kernel_rfl) h
noncomputable def tephralaw06_Say_Cmd.vc (J : Jn) (sOp : Int) (sClient : Int) (sSeq : Int) (sKey : Int) (sValue : Int) (sOld : Int) (H : Hp) (Q : Value → Hp → Prop) : Prop :=
 (4 : Int) ≠ 0 ∧ (4 : Int) ≠ 0 ∧ (40 : Int) ≠ 0 ∧ (8 : Int) ≠ 0 ∧ (8 : Int) ≠ 0 ∧ ((0 : Int) ≤ (IntKind.u8.wrap ((Int.tmod sKey 8) + 1)) ∧ (IntKind.u8.wrap ((Int.tmod sKey 8) + 1)) ≤ (((ByteArray.mk #[97, 98, 99, 100, 101, 102, 103, 104]).size : Nat) : Int)) ∧ ((0 : Int) ≤ (Int.tmod sKey 8) ∧ (Int.tmod sKey 8) ≤ (((((IntKind.u8.wrap ((Int.tmod sKey 8) + 1)) : Int).toNat) : Nat) : Int)) ∧ (ByteArray.mk #[107]).size + ((ByteArray.mk #[97, 98, 99, 100, 101, 102, 103, 104]).extract (((Int.tmod sKey 8) : Int).toNat) (((IntKind.u8.wrap ((Int.tmod sKey 8) + 1)) : Int).toNat)).size ≤ 9223372036854775807 ∧ (2 : Int) ≠ 0 ∧ ((0 : Int) ≤ (Int.tmod sValue 2) ∧ (Int.tmod sValue 2) ≤ (((ByteArray.mk #[118]).size : Nat) : Int)) ∧ (10 : Int) ≠ 0 ∧ (10 : Int) ≠ 0 ∧ ((0 : Int) ≤ (IntKind.u8.wrap ((Int.tmod sValue 10) + 1)) ∧ (IntKind.u8.wrap ((Int.tmod sValue 10) + 1)) ≤ (((ByteArray.mk #[48, 49, 50, 51, 52, 53, 54, 55, 56, 57]).size : Nat) : Int)) ∧ ((0 : Int) ≤ (Int.tmod sValue 10) ∧ (Int.tmod sValue 10) ≤ (((((IntKind.u8.wrap ((Int.tmod sValue 10) + 1)) : Int).toNat) : Nat) : Int)) ∧ ((ByteArray.mk #[118]).extract 0 (((Int.tmod sValue 2) : Int).toNat)).size + ((ByteArray.mk #[48, 49, 50, 51, 52, 53, 54, 55, 56, 57]).extract (((Int.tmod sValue 10) : Int).toNat) (((IntKind.u8.wrap ((Int.tmod sValue 10) + 1)) : Int).toNat)).size ≤ 9223372036854775807 ∧ 
 Br ((w64 ((Int.tmod sOp 4))) == 0) (Q (.agg #[.int .i64 0, .int .i64 0, .int .i64 0, .string (ByteArray.mk #[]), .string (ByteArray.mk #[]), .string (ByteArray.mk #[])]) (holes H 3))
 (
 Br ((w64 ((Int.tmod sOp 4))) == 2) (
 tephralaw06_Say_Cmd.k1 J sOp sClient sSeq sKey sValue sOld H (ByteArray.mk #[]) Q)
 (
 tephralaw06_Say_Cmd.k1 J sOp sClient sSeq sKey sValue sOld H (((ByteArray.mk #[118]).extract 0 (((Int.tmod sValue 2) : Int).toNat)) ++ ((ByteArray.mk #[48, 49, 50, 51, 52, 53, 54, 55, 56, 57]).extract (((Int.tmod sValue 10) : Int).toNat) (((IntKind.u8.wrap ((Int.tmod sValue 10) + 1)) : Int).toNat))) Q))
theorem tephralaw06_Say_Cmd.eq (J : Jn) (sOp : Int) (sClient : Int) (sSeq : Int) (sKey : Int) (sValue : Int) (sOld : Int) (H : Hp) (Q : Value → Hp → Prop) : vFn Try.prog tephralaw06_Say_Cmd.cf J tephralaw06_Say_Cmd.fn [.agg #[.int .u8 sOp, .int .u8 sClient, .int .u8 sSeq, .int .u8 sKey, .int .u8 sValue, .int .u8 sOld]] H Q = tephralaw06_Say_Cmd.vc J sOp sClient sSeq sKey sValue sOld H Q := by kernel_rfl
theorem tephralaw06_Say_Cmd.calls {sOp : Int} {sClient : Int} {sSeq : Int} {sKey : Int} {sValue : Int} {sOld : Int} {H : Hp} {Q : Value → Hp → Prop} (h : tephralaw06_Say_Cmd.vc J0 sOp sClient sSeq sKey sValue sOld H Q) : SCalls Try.prog tephralaw06_Say_Cmd.id [.agg #[.int .u8 sOp, .int .u8 sClient, .int .u8 sSeq, .int .u8 sKey, .int .u8 sValue, .int .u8 sOld]] H Q := vFn_of Try.mixed Try.func19 (tephralaw06_Say_Cmd.eq J0 sOp sClient sSeq sKey sValue sOld H Q) h

/-! 20: tephra/cmds.Right -/
noncomputable def cmds_Right.cf : Cfg := ⟨[1], [], [], [(10, [1, 10]), (15, [1, 15]), (20, [1, 20])], true⟩
noncomputable def cmds_Right.k1.st (eIndex : Int) (eTerm : Int) (eCmdOp : Int) (eCmdClient : Int) (eCmdSeq : Int) (eCmdKey : ByteArray) (eCmdValue : ByteArray) (eCmdOld : ByteArray) (H : Hp) (x : Bool) : VS := ⟨mkFr 26 [(1, .loc 0 0), (10, .v (.bool x))], [(T_api_Entry, [.int .i64 eIndex, .int .i64 eTerm, .int .i64 eCmdOp, .int .i64 eCmdClient, .int .i64 eCmdSeq, .string eCmdKey, .string eCmdValue, .string eCmdOld])], (holes H 1)⟩
noncomputable def cmds_Right.k1 (J : Jn) (eIndex : Int) (eTerm : Int) (eCmdOp : Int) (eCmdClient : Int) (eCmdSeq : Int) (eCmdKey : ByteArray) (eCmdValue : ByteArray) (eCmdOld : ByteArray) (H : Hp) (x : Bool) (Q : Value → Hp → Prop) : Prop := J (vMid Try.prog cmds_Right.cf J cmds_Right.fn [1, 0] [0, 1] 8 Q) (cmds_Right.k1.st eIndex eTerm eCmdOp eCmdClient eCmdSeq eCmdKey eCmdValue eCmdOld H x)
noncomputable def cmds_Right.k2.st (eIndex : Int) (eTerm : Int) (eCmdOp : Int) (eCmdClient : Int) (eCmdSeq : Int) (eCmdKey : ByteArray) (eCmdValue : ByteArray) (eCmdOld : ByteArray) (H : Hp) (x1 : Bool) : VS := ⟨mkFr 26 [(1, .loc 0 0), (15, .v (.bool x1))], [(T_api_Entry, [.int .i64 eIndex, .int .i64 eTerm, .int .i64 eCmdOp, .int .i64 eCmdClient, .int .i64 eCmdSeq, .string eCmdKey, .string eCmdValue, .string eCmdOld])], (holes H 1)⟩
noncomputable def cmds_Right.k2 (J : Jn) (eIndex : Int) (eTerm : Int) (eCmdOp : Int) (eCmdClient : Int) (eCmdSeq : Int) (eCmdKey : ByteArray) (eCmdValue : ByteArray) (eCmdOld : ByteArray) (H : Hp) (x1 : Bool) (Q : Value → Hp → Prop) : Prop := J (vMid Try.prog cmds_Right.cf J cmds_Right.fn [1, 0] [0, 1] 13 Q) (cmds_Right.k2.st eIndex eTerm eCmdOp eCmdClient eCmdSeq eCmdKey eCmdValue eCmdOld H x1)
noncomputable def cmds_Right.k3.st (eIndex : Int) (eTerm : Int) (eCmdOp : Int) (eCmdClient : Int) (eCmdSeq : Int) (eCmdKey : ByteArray) (eCmdValue : ByteArray) (eCmdOld : ByteArray) (H : Hp) (x2 : Bool) : VS := ⟨mkFr 26 [(1, .loc 0 0), (20, .v (.bool x2))], [(T_api_Entry, [.int .i64 eIndex, .int .i64 eTerm, .int .i64 eCmdOp, .int .i64 eCmdClient, .int .i64 eCmdSeq, .string eCmdKey, .string eCmdValue, .string eCmdOld])], (holes H 1)⟩
noncomputable def cmds_Right.k3 (J : Jn) (eIndex : Int) (eTerm : Int) (eCmdOp : Int) (eCmdClient : Int) (eCmdSeq : Int) (eCmdKey : ByteArray) (eCmdValue : ByteArray) (eCmdOld : ByteArray) (H : Hp) (x2 : Bool) (Q : Value → Hp → Prop) : Prop := J (vMid Try.prog cmds_Right.cf J cmds_Right.fn [1, 0] [0, 1] 18 Q) (cmds_Right.k3.st eIndex eTerm eCmdOp eCmdClient eCmdSeq eCmdKey eCmdValue eCmdOld H x2)
attribute [irreducible] cmds_Right.k1 cmds_Right.k2 cmds_Right.k3
noncomputable def cmds_Right.k1.body (J : Jn) (eIndex : Int) (eTerm : Int) (eCmdOp : Int) (eCmdClient : Int) (eCmdSeq : Int) (eCmdKey : ByteArray) (eCmdValue : ByteArray) (eCmdOld : ByteArray) (H : Hp) (x : Bool) (Q : Value → Hp → Prop) : Prop :=
 
 Br x (
 cmds_Right.k2 J eIndex eTerm eCmdOp eCmdClient eCmdSeq eCmdKey eCmdValue eCmdOld H (decide (eTerm ≥ 0)) Q)
 (
 cmds_Right.k2 J eIndex eTerm eCmdOp eCmdClient eCmdSeq eCmdKey eCmdValue eCmdOld H false Q)
theorem cmds_Right.k1.eq (J : Jn) (eIndex : Int) (eTerm : Int) (eCmdOp : Int) (eCmdClient : Int) (eCmdSeq : Int) (eCmdKey : ByteArray) (eCmdValue : ByteArray) (eCmdOld : ByteArray) (H : Hp) (x : Bool) (Q : Value → Hp → Prop) : vMid Try.prog cmds_Right.cf J cmds_Right.fn [1, 0] [0, 1] 8 Q (cmds_Right.k1.st eIndex eTerm eCmdOp eCmdClient eCmdSeq eCmdKey eCmdValue eCmdOld H x) = cmds_Right.k1.body J eIndex eTerm eCmdOp eCmdClient eCmdSeq eCmdKey eCmdValue eCmdOld H x Q := by kernel_rfl
theorem cmds_Right.k1.step {eIndex : Int} {eTerm : Int} {eCmdOp : Int} {eCmdClient : Int} {eCmdSeq : Int} {eCmdKey : ByteArray} {eCmdValue : ByteArray} {eCmdOld : ByteArray} {H : Hp} {x : Bool} {Q : Value → Hp → Prop} (h : cmds_Right.k1.body J0 eIndex eTerm eCmdOp eCmdClient eCmdSeq eCmdKey eCmdValue eCmdOld H x Q) : cmds_Right.k1 J0 eIndex eTerm eCmdOp eCmdClient eCmdSeq eCmdKey eCmdValue eCmdOld H x Q := step_of (vMid Try.prog cmds_Right.cf J0 cmds_Right.fn [1, 0] [0, 1] 8 Q) (cmds_Right.k1.st eIndex eTerm eCmdOp eCmdClient eCmdSeq eCmdKey eCmdValue eCmdOld H x) (cmds_Right.k1.eq J0 eIndex eTerm eCmdOp eCmdClient eCmdSeq eCmdKey eCmdValue eCmdOld H x Q) (by kernel_rfl) h
noncomputable def cmds_Right.k2.body (J : Jn) (eIndex : Int) (eTerm : Int) (eCmdOp : Int) (eCmdClient : Int) (eCmdSeq : Int) (eCmdKey : ByteArray) (eCmdValue : ByteArray) (eCmdOld : ByteArray) (H : Hp) (x1 : Bool) (Q : Value → Hp → Prop) : Prop :=
 
 Br x1 (
 cmds_Right.k3 J eIndex eTerm eCmdOp eCmdClient eCmdSeq eCmdKey eCmdValue eCmdOld H (decide (eTerm ≤ 1048576)) Q)
 (
 cmds_Right.k3 J eIndex eTerm eCmdOp eCmdClient eCmdSeq eCmdKey eCmdValue eCmdOld H false Q)
theorem cmds_Right.k2.eq (J : Jn) (eIndex : Int) (eTerm : Int) (eCmdOp : Int) (eCmdClient : Int) (eCmdSeq : Int) (eCmdKey : ByteArray) (eCmdValue : ByteArray) (eCmdOld : ByteArray) (H : Hp) (x1 : Bool) (Q : Value → Hp → Prop) : vMid Try.prog cmds_Right.cf J cmds_Right.fn [1, 0] [0, 1] 13 Q (cmds_Right.k2.st eIndex eTerm eCmdOp eCmdClient eCmdSeq eCmdKey eCmdValue eCmdOld H x1) = cmds_Right.k2.body J eIndex eTerm eCmdOp eCmdClient eCmdSeq eCmdKey eCmdValue eCmdOld H x1 Q := by kernel_rfl
theorem cmds_Right.k2.step {eIndex : Int} {eTerm : Int} {eCmdOp : Int} {eCmdClient : Int} {eCmdSeq : Int} {eCmdKey : ByteArray} {eCmdValue : ByteArray} {eCmdOld : ByteArray} {H : Hp} {x1 : Bool} {Q : Value → Hp → Prop} (h : cmds_Right.k2.body J0 eIndex eTerm eCmdOp eCmdClient eCmdSeq eCmdKey eCmdValue eCmdOld H x1 Q) : cmds_Right.k2 J0 eIndex eTerm eCmdOp eCmdClient eCmdSeq eCmdKey eCmdValue eCmdOld H x1 Q := step_of (vMid Try.prog cmds_Right.cf J0 cmds_Right.fn [1, 0] [0, 1] 13 Q) (cmds_Right.k2.st eIndex eTerm eCmdOp eCmdClient eCmdSeq eCmdKey eCmdValue eCmdOld H x1) (cmds_Right.k2.eq J0 eIndex eTerm eCmdOp eCmdClient eCmdSeq eCmdKey eCmdValue eCmdOld H x1 Q) (by kernel_rfl) h
noncomputable def cmds_Right.k3.body (J : Jn) (eIndex : Int) (eTerm : Int) (eCmdOp : Int) (eCmdClient : Int) (eCmdSeq : Int) (eCmdKey : ByteArray) (eCmdValue : ByteArray) (eCmdOld : ByteArray) (H : Hp) (x2 : Bool) (Q : Value → Hp → Prop) : Prop :=
 
 Br x2 (
 SCalls Try.prog cmds_May.id [.agg #[.int .i64 eCmdOp, .int .i64 eCmdClient, .int .i64 eCmdSeq, .string eCmdKey, .string eCmdValue, .string eCmdOld]] (holes H 1) (fun r H1 => ∃ x3 : Bool, r = .bool x3 ∧ Q (.bool x3) H1))
 (Q (.bool false) (holes H 1))
theorem cmds_Right.k3.eq (J : Jn) (eIndex : Int) (eTerm : Int) (eCmdOp : Int) (eCmdClient : Int) (eCmdSeq : Int) (eCmdKey : ByteArray) (eCmdValue : ByteArray) (eCmdOld : ByteArray) (H : Hp) (x2 : Bool) (Q : Value → Hp → Prop) : vMid Try.prog cmds_Right.cf J cmds_Right.fn [1, 0] [0, 1] 18 Q (cmds_Right.k3.st eIndex eTerm eCmdOp eCmdClient eCmdSeq eCmdKey eCmdValue eCmdOld H x2) = cmds_Right.k3.body J eIndex eTerm eCmdOp eCmdClient eCmdSeq eCmdKey eCmdValue eCmdOld H x2 Q := by kernel_rfl
theorem cmds_Right.k3.step {eIndex : Int} {eTerm : Int} {eCmdOp : Int} {eCmdClient : Int} {eCmdSeq : Int} {eCmdKey : ByteArray} {eCmdValue : ByteArray} {eCmdOld : ByteArray} {H : Hp} {x2 : Bool} {Q : Value → Hp → Prop} (h : cmds_Right.k3.body J0 eIndex eTerm eCmdOp eCmdClient eCmdSeq eCmdKey eCmdValue eCmdOld H x2 Q) : cmds_Right.k3 J0 eIndex eTerm eCmdOp eCmdClient eCmdSeq eCmdKey eCmdValue eCmdOld H x2 Q := step_of (vMid Try.prog cmds_Right.cf J0 cmds_Right.fn [1, 0] [0, 1] 18 Q) (cmds_Right.k3.st eIndex eTerm eCmdOp eCmdClient eCmdSeq eCmdKey eCmdValue eCmdOld H x2) (cmds_Right.k3.eq J0 eIndex eTerm eCmdOp eCmdClient eCmdSeq eCmdKey eCmdValue eCmdOld H x2 Q) (by kernel_rfl) h
noncomputable def cmds_Right.vc (J : Jn) (eIndex : Int) (eTerm : Int) (eCmdOp : Int) (eCmdClient : Int) (eCmdSeq : Int) (eCmdKey : ByteArray) (eCmdValue : ByteArray) (eCmdOld : ByteArray) (H : Hp) (Q : Value → Hp → Prop) : Prop :=
 
 Br (decide (eIndex ≥ 1)) (
 cmds_Right.k1 J eIndex eTerm eCmdOp eCmdClient eCmdSeq eCmdKey eCmdValue eCmdOld H (decide (eIndex ≤ 1048576)) Q)
 (
 cmds_Right.k1 J eIndex eTerm eCmdOp eCmdClient eCmdSeq eCmdKey eCmdValue eCmdOld H false Q)
theorem cmds_Right.eq (J : Jn) (eIndex : Int) (eTerm : Int) (eCmdOp : Int) (eCmdClient : Int) (eCmdSeq : Int) (eCmdKey : ByteArray) (eCmdValue : ByteArray) (eCmdOld : ByteArray) (H : Hp) (Q : Value → Hp → Prop) : vFn Try.prog cmds_Right.cf J cmds_Right.fn [.agg #[.int .i64 eIndex, .int .i64 eTerm, .int .i64 eCmdOp, .int .i64 eCmdClient, .int .i64 eCmdSeq, .string eCmdKey, .string eCmdValue, .string eCmdOld]] H Q = cmds_Right.vc J eIndex eTerm eCmdOp eCmdClient eCmdSeq eCmdKey eCmdValue eCmdOld H Q := by kernel_rfl
theorem cmds_Right.calls {eIndex : Int} {eTerm : Int} {eCmdOp : Int} {eCmdClient : Int} {eCmdSeq : Int} {eCmdKey : ByteArray} {eCmdValue : ByteArray} {eCmdOld : ByteArray} {H : Hp} {Q : Value → Hp → Prop} (h : cmds_Right.vc J0 eIndex eTerm eCmdOp eCmdClient eCmdSeq eCmdKey eCmdValue eCmdOld H Q) : SCalls Try.prog cmds_Right.id [.agg #[.int .i64 eIndex, .int .i64 eTerm, .int .i64 eCmdOp, .int .i64 eCmdClient, .int .i64 eCmdSeq, .string eCmdKey, .string eCmdValue, .string eCmdOld]] H Q := vFn_of Try.mixed Try.func20 (cmds_Right.eq J0 eIndex eTerm eCmdOp eCmdClient eCmdSeq eCmdKey eCmdValue eCmdOld H Q) h

/-! 21: tephra/state.Same -/
noncomputable def state_Same.cf : Cfg := ⟨[2, 3, 1000003], [], [], [], true⟩
noncomputable def state_Same.vc (J : Jn) (aIndex : Int) (aTerm : Int) (aPairs : Sl) (aSessions : Sl) (bIndex : Int) (bTerm : Int) (bPairs : Sl) (bSessions : Sl) (H : Hp) (Q : Value → Hp → Prop) : Prop :=
 ∀ H1 : Hp, H1 = (holes H 1) → ∀ H2 : Hp, H2 = (holes H1 1) → 
 SCalls Try.prog state_Bytes.id [.agg #[.int .i64 aIndex, .int .i64 aTerm, .slice aPairs.a aPairs.len aPairs.cap, .slice aSessions.a aSessions.len aSessions.cap]] H2 (fun r H3 => ∃ x : Sl, r = .slice x.a x.len x.cap ∧ 
  (vB2S H3 x.a x.len (fun s => 
 SCalls Try.prog state_Bytes.id [.agg #[.int .i64 bIndex, .int .i64 bTerm, .slice bPairs.a bPairs.len bPairs.cap, .slice bSessions.a bSessions.len bSessions.cap]] H3 (fun r1 H4 => ∃ x1 : Sl, r1 = .slice x1.a x1.len x1.cap ∧ vB2S H4 x1.a x1.len (fun s1 => Q (.bool (s.toList == s1.toList)) H4)))) ∧ 
  (
 SCalls Try.prog state_Bytes.id [.agg #[.int .i64 bIndex, .int .i64 bTerm, .slice bPairs.a bPairs.len bPairs.cap, .slice bSessions.a bSessions.len bSessions.cap]] H3 (fun r2 H5 => ∃ x2 : Sl, r2 = .slice x2.a x2.len x2.cap ∧ 
  (vB2S H5 x.a x.len (fun s2 => vB2S H5 x2.a x2.len (fun s3 => Q (.bool (s2.toList == s3.toList)) H5))) ∧ 
  (vB2S H5 x2.a x2.len (fun s4 => vB2S H5 x.a x.len (fun s5 => Q (.bool (s5.toList == s4.toList)) H5))))))
theorem state_Same.eq (J : Jn) (aIndex : Int) (aTerm : Int) (aPairs : Sl) (aSessions : Sl) (bIndex : Int) (bTerm : Int) (bPairs : Sl) (bSessions : Sl) (H : Hp) (Q : Value → Hp → Prop) : vFn Try.prog state_Same.cf J state_Same.fn [.agg #[.int .i64 aIndex, .int .i64 aTerm, .slice aPairs.a aPairs.len aPairs.cap, .slice aSessions.a aSessions.len aSessions.cap], .agg #[.int .i64 bIndex, .int .i64 bTerm, .slice bPairs.a bPairs.len bPairs.cap, .slice bSessions.a bSessions.len bSessions.cap]] H Q = state_Same.vc J aIndex aTerm aPairs aSessions bIndex bTerm bPairs bSessions H Q := by kernel_rfl
theorem state_Same.calls {aIndex : Int} {aTerm : Int} {aPairs : Sl} {aSessions : Sl} {bIndex : Int} {bTerm : Int} {bPairs : Sl} {bSessions : Sl} {H : Hp} {Q : Value → Hp → Prop} (h : state_Same.vc J0 aIndex aTerm aPairs aSessions bIndex bTerm bPairs bSessions H Q) : SCalls Try.prog state_Same.id [.agg #[.int .i64 aIndex, .int .i64 aTerm, .slice aPairs.a aPairs.len aPairs.cap, .slice aSessions.a aSessions.len aSessions.cap], .agg #[.int .i64 bIndex, .int .i64 bTerm, .slice bPairs.a bPairs.len bPairs.cap, .slice bSessions.a bSessions.len bSessions.cap]] H Q := vFn_of Try.mixed Try.func21 (state_Same.eq J0 aIndex aTerm aPairs aSessions bIndex bTerm bPairs bSessions H Q) h

/-! 22: tephra/state.Fold -/
noncomputable def state_Fold.cf : Cfg := ⟨[2, 4, 6, 1000003], [(2, [2, 4, 7, 8, 9])], [], [], true⟩
noncomputable def state_Fold.l1.st (es : Sl) (H3 : Hp) (x : Int) (y : Int) (y1 : Int) (y2 : Sl) (y3 : Sl) : VS := ⟨mkFr 21 [(2, .loc 0 0), (4, .loc 1 0), (7, .v (.slice es.a es.len es.cap)), (8, .v (.int .i64 ((es.len : Nat) : Int))), (9, .v (.int .i64 x))], [(T_api_State, [.int .i64 y, .int .i64 y1, .slice y2.a y2.len y2.cap, .slice y3.a y3.len y3.cap]), (T_api_State, [.int .i64 0, .int .i64 0, .slice none 0 0, .slice none 0 0])], H3⟩
noncomputable def state_Fold.l1 (J : Jn) (es : Sl) (H3 : Hp) (x : Int) (y : Int) (y1 : Int) (y2 : Sl) (y3 : Sl) (Q : Value → Hp → Prop) : Prop := vAt Try.prog state_Fold.cf J state_Fold.fn [1, 0, 1, 0] [0, 2, 2] Q (state_Fold.l1.st es H3 x y y1 y2 y3)
attribute [irreducible] state_Fold.l1
noncomputable def state_Fold.l1.body (J : Jn) (es : Sl) (H3 : Hp) (x : Int) (y : Int) (y1 : Int) (y2 : Sl) (y3 : Sl) (Q : Value → Hp → Prop) : Prop :=
 
 Br (decide (x < ((es.len : Nat) : Int))) (((0 : Int) ≤ x ∧ x < ((es.len : Nat) : Int)) ∧ vPtr es.a (fun a => ∃ Index : Int, ∃ Term : Int, ∃ CmdOp : Int, ∃ CmdClient : Int, ∃ CmdSeq : Int, ∃ CmdKey : ByteArray, ∃ CmdValue : ByteArray, ∃ CmdOld : ByteArray, RowAt H3 (a.add ((x : Int).toNat * 8)) [.int .i64 Index, .int .i64 Term, .int .i64 CmdOp, .int .i64 CmdClient, .int .i64 CmdSeq, .string CmdKey, .string CmdValue, .string CmdOld] ∧ ∀ H4 : Hp, H4 = (holes H3 1) → 
 SCalls Try.prog state_Apply.id [.agg #[.int .i64 y, .int .i64 y1, .slice y2.a y2.len y2.cap, .slice y3.a y3.len y3.cap], .agg #[.int .i64 Index, .int .i64 Term, .int .i64 CmdOp, .int .i64 CmdClient, .int .i64 CmdSeq, .string CmdKey, .string CmdValue, .string CmdOld]] H4 (fun r H5 => ∃ Index1 : Int, ∃ Term1 : Int, ∃ Pairs : Sl, ∃ Sessions : Sl, ∃ Err : Int, ∃ Valuev : ByteArray, r = .tuple #[.agg #[.int .i64 Index1, .int .i64 Term1, .slice Pairs.a Pairs.len Pairs.cap, .slice Sessions.a Sessions.len Sessions.cap], .agg #[.int .i64 Err, .string Valuev]] ∧ 
 state_Fold.l1 J es H5 (w64 (x + 1)) Index1 Term1 Pairs Sessions Q)))
 (Q (.agg #[.int .i64 y, .int .i64 y1, .slice y2.a y2.len y2.cap, .slice y3.a y3.len y3.cap]) H3)
theorem state_Fold.l1.eq (J : Jn) (es : Sl) (H3 : Hp) (x : Int) (y : Int) (y1 : Int) (y2 : Sl) (y3 : Sl) (Q : Value → Hp → Prop) : vAtBody Try.prog state_Fold.cf J state_Fold.fn [1, 0, 1, 0] [0, 2, 2] Q (state_Fold.l1.st es H3 x y y1 y2 y3) = state_Fold.l1.body J es H3 x y y1 y2 y3 Q := by kernel_rfl
theorem state_Fold.l1.step {es : Sl} {H3 : Hp} {x : Int} {y : Int} {y1 : Int} {y2 : Sl} {y3 : Sl} {Q : Value → Hp → Prop} (h : state_Fold.l1.body J0 es H3 x y y1 y2 y3 Q) : state_Fold.l1 J0 es H3 x y y1 y2 y3 Q := vAt_stepC (state_Fold.l1.st es H3 x y y1 y2 y3) (state_Fold.l1.eq J0 es H3 x y y1 y2 y3 Q) (by kernel_rfl) h
noncomputable def state_Fold.vc (J : Jn) (sIndex : Int) (sTerm : Int) (sPairs : Sl) (sSessions : Sl) (es : Sl) (H : Hp) (Q : Value → Hp → Prop) : Prop :=
 ∀ H1 : Hp, H1 = (holes H 1) → ∀ H2 : Hp, H2 = (holes H1 1) → 
 state_Fold.l1 J es H2 0 sIndex sTerm sPairs sSessions Q
theorem state_Fold.eq (J : Jn) (sIndex : Int) (sTerm : Int) (sPairs : Sl) (sSessions : Sl) (es : Sl) (H : Hp) (Q : Value → Hp → Prop) : vFn Try.prog state_Fold.cf J state_Fold.fn [.agg #[.int .i64 sIndex, .int .i64 sTerm, .slice sPairs.a sPairs.len sPairs.cap, .slice sSessions.a sSessions.len sSessions.cap], .slice es.a es.len es.cap] H Q = state_Fold.vc J sIndex sTerm sPairs sSessions es H Q := by kernel_rfl
theorem state_Fold.calls {sIndex : Int} {sTerm : Int} {sPairs : Sl} {sSessions : Sl} {es : Sl} {H : Hp} {Q : Value → Hp → Prop} (h : state_Fold.vc J0 sIndex sTerm sPairs sSessions es H Q) : SCalls Try.prog state_Fold.id [.agg #[.int .i64 sIndex, .int .i64 sTerm, .slice sPairs.a sPairs.len sPairs.cap, .slice sSessions.a sSessions.len sSessions.cap], .slice es.a es.len es.cap] H Q := vFn_of Try.mixed Try.func22 (state_Fold.eq J0 sIndex sTerm sPairs sSessions es H Q) h

/-! 23: tephra/state.PutRows -/
noncomputable def state_PutRows.cf : Cfg := ⟨[7, 10, 1000003], [(2, [0, 2, 15, 16, 17]), (11, [0, 37, 38, 39])], [(7, [0, 2, 7, 8, 15, 16, 17], true)], [], true⟩
noncomputable def state_PutRows.l1.st (w : Addr) (ps : Sl) (xs : Sl) (H2 : Hp) (x1 : Int) : VS := ⟨mkFr 59 [(0, .v (.pointer (some w))), (2, .v (.slice xs.a xs.len xs.cap)), (15, .v (.slice ps.a ps.len ps.cap)), (16, .v (.int .i64 ((ps.len : Nat) : Int))), (17, .v (.int .i64 x1))], [], H2⟩
noncomputable def state_PutRows.l1 (J : Jn) (w : Addr) (ps : Sl) (xs : Sl) (H2 : Hp) (x1 : Int) (Q : Value → Hp → Prop) : Prop := vAt Try.prog state_PutRows.cf J state_PutRows.fn [1, 0, 1, 0] [0, 0, 0] Q (state_PutRows.l1.st w ps xs H2 x1)
noncomputable def state_PutRows.k1.st (w : Addr) (ps : Sl) (xs : Sl) (x1 : Int) (Key : ByteArray) (Valuev : ByteArray) (Gone : Bool) (H3 : Hp) (gone : Int) : VS := ⟨mkFr 59 [(0, .v (.pointer (some w))), (2, .v (.slice xs.a xs.len xs.cap)), (7, .loc 0 0), (8, .v (.int .u8 gone)), (15, .v (.slice ps.a ps.len ps.cap)), (16, .v (.int .i64 ((ps.len : Nat) : Int))), (17, .v (.int .i64 x1))], [(T_api_Pair, [.string Key, .string Valuev, .bool Gone])], H3⟩
noncomputable def state_PutRows.k1 (J : Jn) (w : Addr) (ps : Sl) (xs : Sl) (x1 : Int) (Key : ByteArray) (Valuev : ByteArray) (Gone : Bool) (H3 : Hp) (gone : Int) (Q : Value → Hp → Prop) : Prop := J (vSeg Try.prog state_PutRows.cf J state_PutRows.fn [1, 0, 1, 0, 0, 1, 1, 0, 0, 1, 1, 1] [0, 0, 0, 0, 0, 0, 0, 0, 1, 1] Q) (state_PutRows.k1.st w ps xs x1 Key Valuev Gone H3 gone)
noncomputable def state_PutRows.l2.st (w : Addr) (xs : Sl) (H8 : Hp) (x6 : Int) : VS := ⟨mkFr 59 [(0, .v (.pointer (some w))), (37, .v (.slice xs.a xs.len xs.cap)), (38, .v (.int .i64 ((xs.len : Nat) : Int))), (39, .v (.int .i64 x6))], [], H8⟩
noncomputable def state_PutRows.l2 (J : Jn) (w : Addr) (xs : Sl) (H8 : Hp) (x6 : Int) (Q : Value → Hp → Prop) : Prop := vAt Try.prog state_PutRows.cf J state_PutRows.fn [1, 1, 1, 1, 0] [0, 0, 0, 0] Q (state_PutRows.l2.st w xs H8 x6)
attribute [irreducible] state_PutRows.l1 state_PutRows.k1 state_PutRows.l2
noncomputable def state_PutRows.l1.body (J : Jn) (w : Addr) (ps : Sl) (xs : Sl) (H2 : Hp) (x1 : Int) (Q : Value → Hp → Prop) : Prop :=
 
 Br (decide (x1 < ((ps.len : Nat) : Int))) (((0 : Int) ≤ x1 ∧ x1 < ((ps.len : Nat) : Int)) ∧ vPtr ps.a (fun a => ∃ Key : ByteArray, ∃ Valuev : ByteArray, ∃ Gone : Bool, RowAt H2 (a.add ((x1 : Int).toNat * 3)) [.string Key, .string Valuev, .bool Gone] ∧ ∀ H3 : Hp, H3 = (holes H2 1) → 
 Br Gone (
 state_PutRows.k1 J w ps xs x1 Key Valuev Gone H3 1 Q)
 (
 state_PutRows.k1 J w ps xs x1 Key Valuev Gone H3 0 Q)))
 (
 SCalls Try.prog pack_Writer_Num.id [.pointer (some w), .int .i64 ((xs.len : Nat) : Int)] H2 (fun r4 H7 => ∃ x5 : Option Addr, r4 = .pointer x5 ∧ 
 state_PutRows.l2 J w xs H7 0 Q))
theorem state_PutRows.l1.eq (J : Jn) (w : Addr) (ps : Sl) (xs : Sl) (H2 : Hp) (x1 : Int) (Q : Value → Hp → Prop) : vAtBody Try.prog state_PutRows.cf J state_PutRows.fn [1, 0, 1, 0] [0, 0, 0] Q (state_PutRows.l1.st w ps xs H2 x1) = state_PutRows.l1.body J w ps xs H2 x1 Q := by kernel_rfl
theorem state_PutRows.l1.step {w : Addr} {ps : Sl} {xs : Sl} {H2 : Hp} {x1 : Int} {Q : Value → Hp → Prop} (h : state_PutRows.l1.body J0 w ps xs H2 x1 Q) : state_PutRows.l1 J0 w ps xs H2 x1 Q := vAt_stepC (state_PutRows.l1.st w ps xs H2 x1) (state_PutRows.l1.eq J0 w ps xs H2 x1 Q) (by kernel_rfl) h
noncomputable def state_PutRows.k1.body (J : Jn) (w : Addr) (ps : Sl) (xs : Sl) (x1 : Int) (Key : ByteArray) (Valuev : ByteArray) (Gone : Bool) (H3 : Hp) (gone : Int) (Q : Value → Hp → Prop) : Prop :=
 
 SCalls Try.prog pack_Writer_Text.id [.pointer (some w), .string Key] H3 (fun r1 H4 => ∃ x2 : Option Addr, r1 = .pointer x2 ∧ 
 SCalls Try.prog pack_Writer_Text.id [.pointer x2, .string Valuev] H4 (fun r2 H5 => ∃ x3 : Option Addr, r2 = .pointer x3 ∧ 
 SCalls Try.prog pack_Writer_Byte.id [.pointer x3, .int .u8 gone] H5 (fun r3 H6 => ∃ x4 : Option Addr, r3 = .pointer x4 ∧ 
 state_PutRows.l1 J w ps xs H6 (w64 (x1 + 1)) Q)))
theorem state_PutRows.k1.eq (J : Jn) (w : Addr) (ps : Sl) (xs : Sl) (x1 : Int) (Key : ByteArray) (Valuev : ByteArray) (Gone : Bool) (H3 : Hp) (gone : Int) (Q : Value → Hp → Prop) : vSeg Try.prog state_PutRows.cf J state_PutRows.fn [1, 0, 1, 0, 0, 1, 1, 0, 0, 1, 1, 1] [0, 0, 0, 0, 0, 0, 0, 0, 1, 1] Q (state_PutRows.k1.st w ps xs x1 Key Valuev Gone H3 gone) = state_PutRows.k1.body J w ps xs x1 Key Valuev Gone H3 gone Q := by kernel_rfl
theorem state_PutRows.k1.step {w : Addr} {ps : Sl} {xs : Sl} {x1 : Int} {Key : ByteArray} {Valuev : ByteArray} {Gone : Bool} {H3 : Hp} {gone : Int} {Q : Value → Hp → Prop} (h : state_PutRows.k1.body J0 w ps xs x1 Key Valuev Gone H3 gone Q) : state_PutRows.k1 J0 w ps xs x1 Key Valuev Gone H3 gone Q := step_of (vSeg Try.prog state_PutRows.cf J0 state_PutRows.fn [1, 0, 1, 0, 0, 1, 1, 0, 0, 1, 1, 1] [0, 0, 0, 0, 0, 0, 0, 0, 1, 1] Q) (state_PutRows.k1.st w ps xs x1 Key Valuev Gone H3 gone) (state_PutRows.k1.eq J0 w ps xs x1 Key Valuev Gone H3 gone Q) (by kernel_rfl) h
noncomputable def state_PutRows.l2.body (J : Jn) (w : Addr) (xs : Sl) (H8 : Hp) (x6 : Int) (Q : Value → Hp → Prop) : Prop :=
 
 Br (decide (x6 < ((xs.len : Nat) : Int))) (((0 : Int) ≤ x6 ∧ x6 < ((xs.len : Nat) : Int)) ∧ vPtr xs.a (fun a1 => ∃ Client : Int, ∃ Seq : Int, ∃ ReplyErr : Int, ∃ ReplyValue : ByteArray, RowAt H8 (a1.add ((x6 : Int).toNat * 4)) [.int .i64 Client, .int .i64 Seq, .int .i64 ReplyErr, .string ReplyValue] ∧ ∀ H9 : Hp, H9 = (holes H8 1) → 
 SCalls Try.prog pack_Writer_Num.id [.pointer (some w), .int .i64 Client] H9 (fun r5 H10 => ∃ x7 : Option Addr, r5 = .pointer x7 ∧ 
 SCalls Try.prog pack_Writer_Num.id [.pointer x7, .int .i64 Seq] H10 (fun r6 H11 => ∃ x8 : Option Addr, r6 = .pointer x8 ∧ 
 SCalls Try.prog pack_Writer_Num.id [.pointer x8, .int .i64 ReplyErr] H11 (fun r7 H12 => ∃ x9 : Option Addr, r7 = .pointer x9 ∧ 
 SCalls Try.prog pack_Writer_Text.id [.pointer x9, .string ReplyValue] H12 (fun r8 H13 => ∃ x10 : Option Addr, r8 = .pointer x10 ∧ 
 state_PutRows.l2 J w xs H13 (w64 (x6 + 1)) Q))))))
 (Q (.tuple #[]) H8)
theorem state_PutRows.l2.eq (J : Jn) (w : Addr) (xs : Sl) (H8 : Hp) (x6 : Int) (Q : Value → Hp → Prop) : vAtBody Try.prog state_PutRows.cf J state_PutRows.fn [1, 1, 1, 1, 0] [0, 0, 0, 0] Q (state_PutRows.l2.st w xs H8 x6) = state_PutRows.l2.body J w xs H8 x6 Q := by kernel_rfl
theorem state_PutRows.l2.step {w : Addr} {xs : Sl} {H8 : Hp} {x6 : Int} {Q : Value → Hp → Prop} (h : state_PutRows.l2.body J0 w xs H8 x6 Q) : state_PutRows.l2 J0 w xs H8 x6 Q := vAt_stepC (state_PutRows.l2.st w xs H8 x6) (state_PutRows.l2.eq J0 w xs H8 x6 Q) (by kernel_rfl) h
noncomputable def state_PutRows.vc (J : Jn) (w : Addr) (ps : Sl) (xs : Sl) (H : Hp) (Q : Value → Hp → Prop) : Prop :=
 
 SCalls Try.prog pack_Writer_Num.id [.pointer (some w), .int .i64 ((ps.len : Nat) : Int)] H (fun r H1 => ∃ x : Option Addr, r = .pointer x ∧ 
 state_PutRows.l1 J w ps xs H1 0 Q)
theorem state_PutRows.eq (J : Jn) (w : Addr) (ps : Sl) (xs : Sl) (H : Hp) (Q : Value → Hp → Prop) : vFn Try.prog state_PutRows.cf J state_PutRows.fn [.pointer (some w), .slice ps.a ps.len ps.cap, .slice xs.a xs.len xs.cap] H Q = state_PutRows.vc J w ps xs H Q := by kernel_rfl
theorem state_PutRows.calls {w : Addr} {ps : Sl} {xs : Sl} {H : Hp} {Q : Value → Hp → Prop} (h : state_PutRows.vc J0 w ps xs H Q) : SCalls Try.prog state_PutRows.id [.pointer (some w), .slice ps.a ps.len ps.cap, .slice xs.a xs.len xs.cap] H Q := vFn_of Try.mixed Try.func23 (state_PutRows.eq J0 w ps xs H Q) h

/-! 25: tephra/pack.Of -/
noncomputable def pack_Of.cf : Cfg := ⟨[], [], [], [], true⟩
noncomputable def pack_Of.vc (J : Jn) (b : Sl) (H : Hp) (Q : Value → Hp → Prop) : Prop :=
 Q (.pointer (some (Addr.mk (Array.size H) 0 none))) (Array.push H (.cells #[.slice b.a b.len b.cap, .bool false] T_pack_Reader))
theorem pack_Of.eq (J : Jn) (b : Sl) (H : Hp) (Q : Value → Hp → Prop) : vFn Try.prog pack_Of.cf J pack_Of.fn [.slice b.a b.len b.cap] H Q = pack_Of.vc J b H Q := by kernel_rfl
theorem pack_Of.calls {b : Sl} {H : Hp} {Q : Value → Hp → Prop} (h : pack_Of.vc J0 b H Q) : SCalls Try.prog pack_Of.id [.slice b.a b.len b.cap] H Q := vFn_of Try.mixed Try.func25 (pack_Of.eq J0 b H Q) h

/-! 26: (*tephra/pack.Writer).Bytes -/
noncomputable def pack_Writer_Bytes.cf : Cfg := ⟨[], [], [], [], true⟩
noncomputable def pack_Writer_Bytes.vc (J : Jn) (w : Addr) (H : Hp) (Q : Value → Hp → Prop) : Prop :=
 ∃ b : Sl, Hp.cell? H w = some (.slice b.a b.len b.cap) ∧ 
 vApp Try.prog T_sl_uint8 none 0 0 (.slice b.a b.len b.cap) H (fun ap H1 => Q (.slice ap.a ap.len ap.cap) H1)
theorem pack_Writer_Bytes.eq (J : Jn) (w : Addr) (H : Hp) (Q : Value → Hp → Prop) : vFn Try.prog pack_Writer_Bytes.cf J pack_Writer_Bytes.fn [.pointer (some w)] H Q = pack_Writer_Bytes.vc J w H Q := by kernel_rfl
theorem pack_Writer_Bytes.calls {w : Addr} {H : Hp} {Q : Value → Hp → Prop} (h : pack_Writer_Bytes.vc J0 w H Q) : SCalls Try.prog pack_Writer_Bytes.id [.pointer (some w)] H Q := vFn_of Try.mixed Try.func26 (pack_Writer_Bytes.eq J0 w H Q) h

/-! 28: (*tephra/pack.Reader).Done -/
noncomputable def pack_Reader_Done.cf : Cfg := ⟨[], [], [], [], true⟩
noncomputable def pack_Reader_Done.vc (J : Jn) (r : Addr) (H : Hp) (Q : Value → Hp → Prop) : Prop :=
 ∃ bad : Bool, Hp.cell? H (r.add 1) = some (.bool bad) ∧ 
 Br (!bad) (∃ b : Sl, Hp.cell? H r = some (.slice b.a b.len b.cap) ∧ Q (.bool (((b.len : Nat) : Int) == 0)) H)
 (Q (.bool false) H)
theorem pack_Reader_Done.eq (J : Jn) (r : Addr) (H : Hp) (Q : Value → Hp → Prop) : vFn Try.prog pack_Reader_Done.cf J pack_Reader_Done.fn [.pointer (some r)] H Q = pack_Reader_Done.vc J r H Q := by kernel_rfl
theorem pack_Reader_Done.calls {r : Addr} {H : Hp} {Q : Value → Hp → Prop} (h : pack_Reader_Done.vc J0 r H Q) : SCalls Try.prog pack_Reader_Done.id [.pointer (some r)] H Q := vFn_of Try.mixed Try.func28 (pack_Reader_Done.eq J0 r H Q) h

/-! 29: tephra/state.RightRows -/
noncomputable def state_RightRows.cf : Cfg := ⟨[8, 10, 1000003], [(2, [0, 1, 2, 11, 12, 13]), (8, [0, 1, 2, 58, 59, 60])], [(5, [0, 1, 2, 11, 12, 13, 56], true), (11, [0, 1, 2, 58, 59, 60, 116], true)], [], true⟩
noncomputable def state_RightRows.l1.st (ps : Sl) (xs : Sl) (most : Int) (H1 : Hp) (x : Int) : VS := ⟨mkFr 122 [(0, .v (.slice ps.a ps.len ps.cap)), (1, .v (.slice xs.a xs.len xs.cap)), (2, .v (.int .i64 most)), (11, .v (.slice ps.a ps.len ps.cap)), (12, .v (.int .i64 ((ps.len : Nat) : Int))), (13, .v (.int .i64 x))], [], H1⟩
noncomputable def state_RightRows.l1 (J : Jn) (ps : Sl) (xs : Sl) (most : Int) (H1 : Hp) (x : Int) (Q : Value → Hp → Prop) : Prop := vAt Try.prog state_RightRows.cf J state_RightRows.fn [1, 0, 1, 0] [0, 0, 0] Q (state_RightRows.l1.st ps xs most H1 x)
noncomputable def state_RightRows.k1.st (ps : Sl) (xs : Sl) (most : Int) (x : Int) (Key : ByteArray) (Valuev : ByteArray) (Gone : Bool) (H2 : Hp) (x1 : Bool) : VS := ⟨mkFr 122 [(0, .v (.slice ps.a ps.len ps.cap)), (1, .v (.slice xs.a xs.len xs.cap)), (2, .v (.int .i64 most)), (11, .v (.slice ps.a ps.len ps.cap)), (12, .v (.int .i64 ((ps.len : Nat) : Int))), (13, .v (.int .i64 x)), (56, .v (.bool x1))], [(T_api_Pair, [.string Key, .string Valuev, .bool Gone])], H2⟩
noncomputable def state_RightRows.k1 (J : Jn) (ps : Sl) (xs : Sl) (most : Int) (x : Int) (Key : ByteArray) (Valuev : ByteArray) (Gone : Bool) (H2 : Hp) (x1 : Bool) (Q : Value → Hp → Prop) : Prop := J (vSeg Try.prog state_RightRows.cf J state_RightRows.fn [1, 0, 1, 0, 0, 1, 1, 0, 0, 1, 1] [0, 0, 0, 0, 0, 0, 0, 0, 1] Q) (state_RightRows.k1.st ps xs most x Key Valuev Gone H2 x1)
noncomputable def state_RightRows.l2.st (ps : Sl) (xs : Sl) (most : Int) (H3 : Hp) (x2 : Int) : VS := ⟨mkFr 122 [(0, .v (.slice ps.a ps.len ps.cap)), (1, .v (.slice xs.a xs.len xs.cap)), (2, .v (.int .i64 most)), (58, .v (.slice xs.a xs.len xs.cap)), (59, .v (.int .i64 ((xs.len : Nat) : Int))), (60, .v (.int .i64 x2))], [], H3⟩
noncomputable def state_RightRows.l2 (J : Jn) (ps : Sl) (xs : Sl) (most : Int) (H3 : Hp) (x2 : Int) (Q : Value → Hp → Prop) : Prop := vAt Try.prog state_RightRows.cf J state_RightRows.fn [1, 1, 0, 1, 0] [0, 0, 0, 0] Q (state_RightRows.l2.st ps xs most H3 x2)
noncomputable def state_RightRows.k2.st (ps : Sl) (xs : Sl) (most : Int) (x2 : Int) (Client : Int) (Seq : Int) (ReplyErr : Int) (ReplyValue : ByteArray) (H4 : Hp) (x3 : Bool) : VS := ⟨mkFr 122 [(0, .v (.slice ps.a ps.len ps.cap)), (1, .v (.slice xs.a xs.len xs.cap)), (2, .v (.int .i64 most)), (58, .v (.slice xs.a xs.len xs.cap)), (59, .v (.int .i64 ((xs.len : Nat) : Int))), (60, .v (.int .i64 x2)), (116, .v (.bool x3))], [(T_api_Session, [.int .i64 Client, .int .i64 Seq, .int .i64 ReplyErr, .string ReplyValue])], H4⟩
noncomputable def state_RightRows.k2 (J : Jn) (ps : Sl) (xs : Sl) (most : Int) (x2 : Int) (Client : Int) (Seq : Int) (ReplyErr : Int) (ReplyValue : ByteArray) (H4 : Hp) (x3 : Bool) (Q : Value → Hp → Prop) : Prop := J (vSeg Try.prog state_RightRows.cf J state_RightRows.fn [1, 1, 0, 1, 0, 0, 1, 1, 0, 0, 1, 1] [0, 0, 0, 0, 0, 0, 0, 0, 0, 1] Q) (state_RightRows.k2.st ps xs most x2 Client Seq ReplyErr ReplyValue H4 x3)
attribute [irreducible] state_RightRows.l1 state_RightRows.k1 state_RightRows.l2 state_RightRows.k2
noncomputable def state_RightRows.l1.body (J : Jn) (ps : Sl) (xs : Sl) (most : Int) (H1 : Hp) (x : Int) (Q : Value → Hp → Prop) : Prop :=
 
 Br (decide (x < ((ps.len : Nat) : Int))) (((0 : Int) ≤ x ∧ x < ((ps.len : Nat) : Int)) ∧ vPtr ps.a (fun a => ∃ Key : ByteArray, ∃ Valuev : ByteArray, ∃ Gone : Bool, RowAt H1 (a.add ((x : Int).toNat * 3)) [.string Key, .string Valuev, .bool Gone] ∧ ∀ H2 : Hp, H2 = (holes H1 1) → 
 Br (Key.toList == (ByteArray.mk #[]).toList) (
 state_RightRows.k1 J ps xs most x Key Valuev Gone H2 true Q)
 (
 Br (decide (((Key.size : Nat) : Int) > 8)) (
 state_RightRows.k1 J ps xs most x Key Valuev Gone H2 true Q)
 (
 Br (decide (((Valuev.size : Nat) : Int) > 16)) (
 state_RightRows.k1 J ps xs most x Key Valuev Gone H2 true Q)
 (
 Br Gone (
 Br (!(Valuev.toList == (ByteArray.mk #[]).toList)) (
 state_RightRows.k1 J ps xs most x Key Valuev Gone H2 true Q)
 (
 Br (decide (x > 0)) (((0 : Int) ≤ (w64 (x - 1)) ∧ (w64 (x - 1)) < ((ps.len : Nat) : Int)) ∧ vPtr ps.a (fun a1 => ∃ Key1 : ByteArray, Hp.cell? H2 (a1.add (((w64 (x - 1)) : Int).toNat * 3)) = some (.string Key1) ∧ 
 state_RightRows.k1 J ps xs most x Key Valuev Gone H2 (!(Op.bytesLess Key1.toList Key.toList)) Q))
 (
 state_RightRows.k1 J ps xs most x Key Valuev Gone H2 false Q)))
 (
 Br (decide (x > 0)) (((0 : Int) ≤ (w64 (x - 1)) ∧ (w64 (x - 1)) < ((ps.len : Nat) : Int)) ∧ vPtr ps.a (fun a2 => ∃ Key2 : ByteArray, Hp.cell? H2 (a2.add (((w64 (x - 1)) : Int).toNat * 3)) = some (.string Key2) ∧ 
 state_RightRows.k1 J ps xs most x Key Valuev Gone H2 (!(Op.bytesLess Key2.toList Key.toList)) Q))
 (
 state_RightRows.k1 J ps xs most x Key Valuev Gone H2 false Q)))))))
 (
 state_RightRows.l2 J ps xs most H1 0 Q)
theorem state_RightRows.l1.eq (J : Jn) (ps : Sl) (xs : Sl) (most : Int) (H1 : Hp) (x : Int) (Q : Value → Hp → Prop) : vAtBody Try.prog state_RightRows.cf J state_RightRows.fn [1, 0, 1, 0] [0, 0, 0] Q (state_RightRows.l1.st ps xs most H1 x) = state_RightRows.l1.body J ps xs most H1 x Q := by kernel_rfl
theorem state_RightRows.l1.step {ps : Sl} {xs : Sl} {most : Int} {H1 : Hp} {x : Int} {Q : Value → Hp → Prop} (h : state_RightRows.l1.body J0 ps xs most H1 x Q) : state_RightRows.l1 J0 ps xs most H1 x Q := vAt_stepC (state_RightRows.l1.st ps xs most H1 x) (state_RightRows.l1.eq J0 ps xs most H1 x Q) (by kernel_rfl) h
noncomputable def state_RightRows.k1.body (J : Jn) (ps : Sl) (xs : Sl) (most : Int) (x : Int) (Key : ByteArray) (Valuev : ByteArray) (Gone : Bool) (H2 : Hp) (x1 : Bool) (Q : Value → Hp → Prop) : Prop :=
 
 Br x1 (Q (.bool false) H2)
 (
 state_RightRows.l1 J ps xs most H2 (w64 (x + 1)) Q)
theorem state_RightRows.k1.eq (J : Jn) (ps : Sl) (xs : Sl) (most : Int) (x : Int) (Key : ByteArray) (Valuev : ByteArray) (Gone : Bool) (H2 : Hp) (x1 : Bool) (Q : Value → Hp → Prop) : vSeg Try.prog state_RightRows.cf J state_RightRows.fn [1, 0, 1, 0, 0, 1, 1, 0, 0, 1, 1] [0, 0, 0, 0, 0, 0, 0, 0, 1] Q (state_RightRows.k1.st ps xs most x Key Valuev Gone H2 x1) = state_RightRows.k1.body J ps xs most x Key Valuev Gone H2 x1 Q := by kernel_rfl
theorem state_RightRows.k1.step {ps : Sl} {xs : Sl} {most : Int} {x : Int} {Key : ByteArray} {Valuev : ByteArray} {Gone : Bool} {H2 : Hp} {x1 : Bool} {Q : Value → Hp → Prop} (h : state_RightRows.k1.body J0 ps xs most x Key Valuev Gone H2 x1 Q) : state_RightRows.k1 J0 ps xs most x Key Valuev Gone H2 x1 Q := step_of (vSeg Try.prog state_RightRows.cf J0 state_RightRows.fn [1, 0, 1, 0, 0, 1, 1, 0, 0, 1, 1] [0, 0, 0, 0, 0, 0, 0, 0, 1] Q) (state_RightRows.k1.st ps xs most x Key Valuev Gone H2 x1) (state_RightRows.k1.eq J0 ps xs most x Key Valuev Gone H2 x1 Q) (by kernel_rfl) h
noncomputable def state_RightRows.l2.body (J : Jn) (ps : Sl) (xs : Sl) (most : Int) (H3 : Hp) (x2 : Int) (Q : Value → Hp → Prop) : Prop :=
 
 Br (decide (x2 < ((xs.len : Nat) : Int))) (((0 : Int) ≤ x2 ∧ x2 < ((xs.len : Nat) : Int)) ∧ vPtr xs.a (fun a3 => ∃ Client : Int, ∃ Seq : Int, ∃ ReplyErr : Int, ∃ ReplyValue : ByteArray, RowAt H3 (a3.add ((x2 : Int).toNat * 4)) [.int .i64 Client, .int .i64 Seq, .int .i64 ReplyErr, .string ReplyValue] ∧ ∀ H4 : Hp, H4 = (holes H3 1) → 
 Br (decide (Client < 0)) (
 state_RightRows.k2 J ps xs most x2 Client Seq ReplyErr ReplyValue H4 true Q)
 (
 Br (decide (Client ≥ 4)) (
 state_RightRows.k2 J ps xs most x2 Client Seq ReplyErr ReplyValue H4 true Q)
 (
 Br (decide (Seq < 0)) (
 state_RightRows.k2 J ps xs most x2 Client Seq ReplyErr ReplyValue H4 true Q)
 (
 Br (decide (Seq > 1048576)) (
 state_RightRows.k2 J ps xs most x2 Client Seq ReplyErr ReplyValue H4 true Q)
 (
 Br (decide (ReplyErr < 0)) (
 state_RightRows.k2 J ps xs most x2 Client Seq ReplyErr ReplyValue H4 true Q)
 (
 Br (decide (ReplyErr > 14)) (
 state_RightRows.k2 J ps xs most x2 Client Seq ReplyErr ReplyValue H4 true Q)
 (
 Br (decide (((ReplyValue.size : Nat) : Int) > 16)) (
 state_RightRows.k2 J ps xs most x2 Client Seq ReplyErr ReplyValue H4 true Q)
 (
 Br (decide (x2 > 0)) (((0 : Int) ≤ (w64 (x2 - 1)) ∧ (w64 (x2 - 1)) < ((xs.len : Nat) : Int)) ∧ vPtr xs.a (fun a4 => ∃ Client1 : Int, Hp.cell? H4 (a4.add (((w64 (x2 - 1)) : Int).toNat * 4)) = some (.int .i64 Client1) ∧ 
 state_RightRows.k2 J ps xs most x2 Client Seq ReplyErr ReplyValue H4 (decide (Client1 ≥ Client)) Q))
 (
 state_RightRows.k2 J ps xs most x2 Client Seq ReplyErr ReplyValue H4 false Q))))))))))
 (Q (.bool (decide (((ps.len : Nat) : Int) ≤ most))) H3)
theorem state_RightRows.l2.eq (J : Jn) (ps : Sl) (xs : Sl) (most : Int) (H3 : Hp) (x2 : Int) (Q : Value → Hp → Prop) : vAtBody Try.prog state_RightRows.cf J state_RightRows.fn [1, 1, 0, 1, 0] [0, 0, 0, 0] Q (state_RightRows.l2.st ps xs most H3 x2) = state_RightRows.l2.body J ps xs most H3 x2 Q := by kernel_rfl
theorem state_RightRows.l2.step {ps : Sl} {xs : Sl} {most : Int} {H3 : Hp} {x2 : Int} {Q : Value → Hp → Prop} (h : state_RightRows.l2.body J0 ps xs most H3 x2 Q) : state_RightRows.l2 J0 ps xs most H3 x2 Q := vAt_stepC (state_RightRows.l2.st ps xs most H3 x2) (state_RightRows.l2.eq J0 ps xs most H3 x2 Q) (by kernel_rfl) h
noncomputable def state_RightRows.k2.body (J : Jn) (ps : Sl) (xs : Sl) (most : Int) (x2 : Int) (Client : Int) (Seq : Int) (ReplyErr : Int) (ReplyValue : ByteArray) (H4 : Hp) (x3 : Bool) (Q : Value → Hp → Prop) : Prop :=
 
 Br x3 (Q (.bool false) H4)
 (
 state_RightRows.l2 J ps xs most H4 (w64 (x2 + 1)) Q)
theorem state_RightRows.k2.eq (J : Jn) (ps : Sl) (xs : Sl) (most : Int) (x2 : Int) (Client : Int) (Seq : Int) (ReplyErr : Int) (ReplyValue : ByteArray) (H4 : Hp) (x3 : Bool) (Q : Value → Hp → Prop) : vSeg Try.prog state_RightRows.cf J state_RightRows.fn [1, 1, 0, 1, 0, 0, 1, 1, 0, 0, 1, 1] [0, 0, 0, 0, 0, 0, 0, 0, 0, 1] Q (state_RightRows.k2.st ps xs most x2 Client Seq ReplyErr ReplyValue H4 x3) = state_RightRows.k2.body J ps xs most x2 Client Seq ReplyErr ReplyValue H4 x3 Q := by kernel_rfl
theorem state_RightRows.k2.step {ps : Sl} {xs : Sl} {most : Int} {x2 : Int} {Client : Int} {Seq : Int} {ReplyErr : Int} {ReplyValue : ByteArray} {H4 : Hp} {x3 : Bool} {Q : Value → Hp → Prop} (h : state_RightRows.k2.body J0 ps xs most x2 Client Seq ReplyErr ReplyValue H4 x3 Q) : state_RightRows.k2 J0 ps xs most x2 Client Seq ReplyErr ReplyValue H4 x3 Q := step_of (vSeg Try.prog state_RightRows.cf J0 state_RightRows.fn [1, 1, 0, 1, 0, 0, 1, 1, 0, 0, 1, 1] [0, 0, 0, 0, 0, 0, 0, 0, 0, 1] Q) (state_RightRows.k2.st ps xs most x2 Client Seq ReplyErr ReplyValue H4 x3) (state_RightRows.k2.eq J0 ps xs most x2 Client Seq ReplyErr ReplyValue H4 x3 Q) (by kernel_rfl) h
noncomputable def state_RightRows.vc (J : Jn) (ps : Sl) (xs : Sl) (most : Int) (H : Hp) (Q : Value → Hp → Prop) : Prop :=
 
 state_RightRows.l1 J ps xs most H 0 Q
theorem state_RightRows.eq (J : Jn) (ps : Sl) (xs : Sl) (most : Int) (H : Hp) (Q : Value → Hp → Prop) : vFn Try.prog state_RightRows.cf J state_RightRows.fn [.slice ps.a ps.len ps.cap, .slice xs.a xs.len xs.cap, .int .i64 most] H Q = state_RightRows.vc J ps xs most H Q := by kernel_rfl
theorem state_RightRows.calls {ps : Sl} {xs : Sl} {most : Int} {H : Hp} {Q : Value → Hp → Prop} (h : state_RightRows.vc J0 ps xs most H Q) : SCalls Try.prog state_RightRows.id [.slice ps.a ps.len ps.cap, .slice xs.a xs.len xs.cap, .int .i64 most] H Q := vFn_of Try.mixed Try.func29 (state_RightRows.eq J0 ps xs most H Q) h

/-! 31: tephra/state.Bytes -/
noncomputable def state_Bytes.cf : Cfg := ⟨[1, 1000003], [], [(3, [1, 3], true)], [], true⟩
noncomputable def state_Bytes.k1.st (sIndex : Int) (sTerm : Int) (sPairs : Sl) (sSessions : Sl) (b : Nat) (H4 : Hp) : VS := ⟨mkFr 21 [(1, .loc 0 0), (3, .v (.pointer (some (Addr.mk b 0 none))))], [(T_api_State, [.int .i64 sIndex, .int .i64 sTerm, .slice sPairs.a sPairs.len sPairs.cap, .slice sSessions.a sSessions.len sSessions.cap])], H4⟩
noncomputable def state_Bytes.k1 (J : Jn) (sIndex : Int) (sTerm : Int) (sPairs : Sl) (sSessions : Sl) (b : Nat) (H4 : Hp) (Q : Value → Hp → Prop) : Prop := J (vSeg Try.prog state_Bytes.cf J state_Bytes.fn [1, 1, 1] [0, 1, 1] Q) (state_Bytes.k1.st sIndex sTerm sPairs sSessions b H4)
attribute [irreducible] state_Bytes.k1
noncomputable def state_Bytes.k1.body (J : Jn) (sIndex : Int) (sTerm : Int) (sPairs : Sl) (sSessions : Sl) (b : Nat) (H4 : Hp) (Q : Value → Hp → Prop) : Prop :=
 
 SCalls Try.prog state_PutRows.id [.pointer (some (Addr.mk b 0 none)), .slice sPairs.a sPairs.len sPairs.cap, .slice sSessions.a sSessions.len sSessions.cap] H4 (fun r2 H5 => r2 = .tuple #[] ∧ 
 SCalls Try.prog pack_Writer_Bytes.id [.pointer (some (Addr.mk b 0 none))] H5 (fun r3 H6 => ∃ x2 : Sl, r3 = .slice x2.a x2.len x2.cap ∧ Q (.slice x2.a x2.len x2.cap) H6))
theorem state_Bytes.k1.eq (J : Jn) (sIndex : Int) (sTerm : Int) (sPairs : Sl) (sSessions : Sl) (b : Nat) (H4 : Hp) (Q : Value → Hp → Prop) : vSeg Try.prog state_Bytes.cf J state_Bytes.fn [1, 1, 1] [0, 1, 1] Q (state_Bytes.k1.st sIndex sTerm sPairs sSessions b H4) = state_Bytes.k1.body J sIndex sTerm sPairs sSessions b H4 Q := by kernel_rfl
theorem state_Bytes.k1.step {sIndex : Int} {sTerm : Int} {sPairs : Sl} {sSessions : Sl} {b : Nat} {H4 : Hp} {Q : Value → Hp → Prop} (h : state_Bytes.k1.body J0 sIndex sTerm sPairs sSessions b H4 Q) : state_Bytes.k1 J0 sIndex sTerm sPairs sSessions b H4 Q := step_of (vSeg Try.prog state_Bytes.cf J0 state_Bytes.fn [1, 1, 1] [0, 1, 1] Q) (state_Bytes.k1.st sIndex sTerm sPairs sSessions b H4) (state_Bytes.k1.eq J0 sIndex sTerm sPairs sSessions b H4 Q) (by kernel_rfl) h
noncomputable def state_Bytes.vc (J : Jn) (sIndex : Int) (sTerm : Int) (sPairs : Sl) (sSessions : Sl) (H : Hp) (Q : Value → Hp → Prop) : Prop :=
 ∀ H1 : Hp, H1 = (holes H 1) → ∀ b : Nat, b = Array.size H1 → ∀ H2 : Hp, H2 = (Array.push H1 (.cells #[.slice none 0 0] T_pack_Writer)) → 
 SCalls Try.prog pack_Writer_Num.id [.pointer (some (Addr.mk b 0 none)), .int .i64 sIndex] H2 (fun r H3 => ∃ x : Option Addr, r = .pointer x ∧ 
 SCalls Try.prog pack_Writer_Num.id [.pointer x, .int .i64 sTerm] H3 (fun r1 H4 => ∃ x1 : Option Addr, r1 = .pointer x1 ∧ 
 state_Bytes.k1 J sIndex sTerm sPairs sSessions b H4 Q))
theorem state_Bytes.eq (J : Jn) (sIndex : Int) (sTerm : Int) (sPairs : Sl) (sSessions : Sl) (H : Hp) (Q : Value → Hp → Prop) : vFn Try.prog state_Bytes.cf J state_Bytes.fn [.agg #[.int .i64 sIndex, .int .i64 sTerm, .slice sPairs.a sPairs.len sPairs.cap, .slice sSessions.a sSessions.len sSessions.cap]] H Q = state_Bytes.vc J sIndex sTerm sPairs sSessions H Q := by kernel_rfl
theorem state_Bytes.calls {sIndex : Int} {sTerm : Int} {sPairs : Sl} {sSessions : Sl} {H : Hp} {Q : Value → Hp → Prop} (h : state_Bytes.vc J0 sIndex sTerm sPairs sSessions H Q) : SCalls Try.prog state_Bytes.id [.agg #[.int .i64 sIndex, .int .i64 sTerm, .slice sPairs.a sPairs.len sPairs.cap, .slice sSessions.a sSessions.len sSessions.cap]] H Q := vFn_of Try.mixed Try.func31 (state_Bytes.eq J0 sIndex sTerm sPairs sSessions H Q) h

/-! 35: tephra/state.sessions -/
noncomputable def state_sessions.cf : Cfg := ⟨[1, 5, 1000003], [(3, [3, 9, 10, 11])], [], [], true⟩
noncomputable def state_sessions.l1.st (sIndex : Int) (sTerm : Int) (sPairs : Sl) (sSessions : Sl) (b : Nat) (H3 : Hp) (x : Int) : VS := ⟨mkFr 22 [(3, .v (.pointer (some (Addr.mk b 0 none)))), (9, .v (.slice sSessions.a sSessions.len sSessions.cap)), (10, .v (.int .i64 ((sSessions.len : Nat) : Int))), (11, .v (.int .i64 x))], [(T_api_State, [.int .i64 sIndex, .int .i64 sTerm, .slice sPairs.a sPairs.len sPairs.cap, .slice sSessions.a sSessions.len sSessions.cap])], H3⟩
noncomputable def state_sessions.l1 (J : Jn) (sIndex : Int) (sTerm : Int) (sPairs : Sl) (sSessions : Sl) (b : Nat) (H3 : Hp) (x : Int) (Q : Value → Hp → Prop) : Prop := vAt Try.prog state_sessions.cf J state_sessions.fn [1, 1, 0, 1, 0] [0, 1, 1, 1] Q (state_sessions.l1.st sIndex sTerm sPairs sSessions b H3 x)
attribute [irreducible] state_sessions.l1
noncomputable def state_sessions.l1.body (J : Jn) (sIndex : Int) (sTerm : Int) (sPairs : Sl) (sSessions : Sl) (b : Nat) (H3 : Hp) (x : Int) (Q : Value → Hp → Prop) : Prop :=
 
 Br (decide (x < ((sSessions.len : Nat) : Int))) (((0 : Int) ≤ x ∧ x < ((sSessions.len : Nat) : Int)) ∧ vPtr sSessions.a (fun a => ∃ Client : Int, ∃ Seq : Int, ∃ ReplyErr : Int, ∃ ReplyValue : ByteArray, RowAt H3 (a.add ((x : Int).toNat * 4)) [.int .i64 Client, .int .i64 Seq, .int .i64 ReplyErr, .string ReplyValue] ∧ ∀ H4 : Hp, H4 = (holes H3 1) → 
 SCalls Try.prog sorted_Map_int_api_Session_Put.id [.pointer (some (Addr.mk b 0 none)), .int .i64 Client, .agg #[.int .i64 Client, .int .i64 Seq, .int .i64 ReplyErr, .string ReplyValue]] H4 (fun r H5 => ∃ x1 : Bool, r = .bool x1 ∧ 
 state_sessions.l1 J sIndex sTerm sPairs sSessions b H5 (w64 (x + 1)) Q)))
 (Q (.pointer (some (Addr.mk b 0 none))) H3)
theorem state_sessions.l1.eq (J : Jn) (sIndex : Int) (sTerm : Int) (sPairs : Sl) (sSessions : Sl) (b : Nat) (H3 : Hp) (x : Int) (Q : Value → Hp → Prop) : vAtBody Try.prog state_sessions.cf J state_sessions.fn [1, 1, 0, 1, 0] [0, 1, 1, 1] Q (state_sessions.l1.st sIndex sTerm sPairs sSessions b H3 x) = state_sessions.l1.body J sIndex sTerm sPairs sSessions b H3 x Q := by kernel_rfl
theorem state_sessions.l1.step {sIndex : Int} {sTerm : Int} {sPairs : Sl} {sSessions : Sl} {b : Nat} {H3 : Hp} {x : Int} {Q : Value → Hp → Prop} (h : state_sessions.l1.body J0 sIndex sTerm sPairs sSessions b H3 x Q) : state_sessions.l1 J0 sIndex sTerm sPairs sSessions b H3 x Q := vAt_stepC (state_sessions.l1.st sIndex sTerm sPairs sSessions b H3 x) (state_sessions.l1.eq J0 sIndex sTerm sPairs sSessions b H3 x Q) (by kernel_rfl) h
noncomputable def state_sessions.vc (J : Jn) (sIndex : Int) (sTerm : Int) (sPairs : Sl) (sSessions : Sl) (H : Hp) (Q : Value → Hp → Prop) : Prop :=
 ∀ H1 : Hp, H1 = (holes H 1) → ∀ b : Nat, b = Array.size H1 → ∀ H2 : Hp, H2 = (Array.push H1 (.cells #[.slice none 0 0] T_sorted_Map_int_api_Session)) → 
 state_sessions.l1 J sIndex sTerm sPairs sSessions b H2 0 Q
theorem state_sessions.eq (J : Jn) (sIndex : Int) (sTerm : Int) (sPairs : Sl) (sSessions : Sl) (H : Hp) (Q : Value → Hp → Prop) : vFn Try.prog state_sessions.cf J state_sessions.fn [.agg #[.int .i64 sIndex, .int .i64 sTerm, .slice sPairs.a sPairs.len sPairs.cap, .slice sSessions.a sSessions.len sSessions.cap]] H Q = state_sessions.vc J sIndex sTerm sPairs sSessions H Q := by kernel_rfl
theorem state_sessions.calls {sIndex : Int} {sTerm : Int} {sPairs : Sl} {sSessions : Sl} {H : Hp} {Q : Value → Hp → Prop} (h : state_sessions.vc J0 sIndex sTerm sPairs sSessions H Q) : SCalls Try.prog state_sessions.id [.agg #[.int .i64 sIndex, .int .i64 sTerm, .slice sPairs.a sPairs.len sPairs.cap, .slice sSessions.a sSessions.len sSessions.cap]] H Q := vFn_of Try.mixed Try.func35 (state_sessions.eq J0 sIndex sTerm sPairs sSessions H Q) h

/-! 36: (*tephra/sorted.Map_int, tephra/api.Session_).Get -/
noncomputable def sorted_Map_int_api_Session_Get.cf : Cfg := ⟨[4, 8], [], [], [], true⟩
noncomputable def sorted_Map_int_api_Session_Get.vc (J : Jn) (m : Addr) (k : Int) (H : Hp) (Q : Value → Hp → Prop) : Prop :=
 
 SCalls Try.prog sorted_Map_int_api_Session_find.id [.pointer (some m), .int .i64 k] (holes H 1) (fun r H1 => ∃ x : Int, ∃ x1 : Bool, r = .tuple #[.int .i64 x, .bool x1] ∧ 
 Br x1 (∃ items : Sl, Hp.cell? H1 m = some (.slice items.a items.len items.cap) ∧ ((0 : Int) ≤ x ∧ x < ((items.len : Nat) : Int)) ∧ vPtr items.a (fun a => ∃ Client : Int, ∃ Seq : Int, ∃ ReplyErr : Int, ∃ ReplyValue : ByteArray, RowAt H1 ((a.add ((x : Int).toNat * 5)).add 1) [.int .i64 Client, .int .i64 Seq, .int .i64 ReplyErr, .string ReplyValue] ∧ Q (.tuple #[.agg #[.int .i64 Client, .int .i64 Seq, .int .i64 ReplyErr, .string ReplyValue], .bool true]) H1))
 (Q (.tuple #[.agg #[.int .i64 0, .int .i64 0, .int .i64 0, .string (ByteArray.mk #[])], .bool false]) (holes H1 1)))
theorem sorted_Map_int_api_Session_Get.eq (J : Jn) (m : Addr) (k : Int) (H : Hp) (Q : Value → Hp → Prop) : vFn Try.prog sorted_Map_int_api_Session_Get.cf J sorted_Map_int_api_Session_Get.fn [.pointer (some m), .int .i64 k] H Q = sorted_Map_int_api_Session_Get.vc J m k H Q := by kernel_rfl
theorem sorted_Map_int_api_Session_Get.calls {m : Addr} {k : Int} {H : Hp} {Q : Value → Hp → Prop} (h : sorted_Map_int_api_Session_Get.vc J0 m k H Q) : SCalls Try.prog sorted_Map_int_api_Session_Get.id [.pointer (some m), .int .i64 k] H Q := vFn_of Try.mixed Try.func36 (sorted_Map_int_api_Session_Get.eq J0 m k H Q) h

/-! 37: tephra/state.pairs -/
noncomputable def state_pairs.cf : Cfg := ⟨[1, 5, 1000003], [(3, [3, 9, 10, 11])], [], [], true⟩
noncomputable def state_pairs.l1.st (sIndex : Int) (sTerm : Int) (sPairs : Sl) (sSessions : Sl) (b : Nat) (H3 : Hp) (x : Int) : VS := ⟨mkFr 23 [(3, .v (.pointer (some (Addr.mk b 0 none)))), (9, .v (.slice sPairs.a sPairs.len sPairs.cap)), (10, .v (.int .i64 ((sPairs.len : Nat) : Int))), (11, .v (.int .i64 x))], [(T_api_State, [.int .i64 sIndex, .int .i64 sTerm, .slice sPairs.a sPairs.len sPairs.cap, .slice sSessions.a sSessions.len sSessions.cap])], H3⟩
noncomputable def state_pairs.l1 (J : Jn) (sIndex : Int) (sTerm : Int) (sPairs : Sl) (sSessions : Sl) (b : Nat) (H3 : Hp) (x : Int) (Q : Value → Hp → Prop) : Prop := vAt Try.prog state_pairs.cf J state_pairs.fn [1, 1, 0, 1, 0] [0, 1, 1, 1] Q (state_pairs.l1.st sIndex sTerm sPairs sSessions b H3 x)
attribute [irreducible] state_pairs.l1
noncomputable def state_pairs.l1.body (J : Jn) (sIndex : Int) (sTerm : Int) (sPairs : Sl) (sSessions : Sl) (b : Nat) (H3 : Hp) (x : Int) (Q : Value → Hp → Prop) : Prop :=
 
 Br (decide (x < ((sPairs.len : Nat) : Int))) (((0 : Int) ≤ x ∧ x < ((sPairs.len : Nat) : Int)) ∧ vPtr sPairs.a (fun a => ∃ Key : ByteArray, ∃ Valuev : ByteArray, ∃ Gone : Bool, RowAt H3 (a.add ((x : Int).toNat * 3)) [.string Key, .string Valuev, .bool Gone] ∧ ∀ H4 : Hp, H4 = (holes H3 1) → 
 SCalls Try.prog sorted_Map_string_string_Put.id [.pointer (some (Addr.mk b 0 none)), .string Key, .string Valuev] H4 (fun r H5 => ∃ x1 : Bool, r = .bool x1 ∧ 
 state_pairs.l1 J sIndex sTerm sPairs sSessions b H5 (w64 (x + 1)) Q)))
 (Q (.pointer (some (Addr.mk b 0 none))) H3)
theorem state_pairs.l1.eq (J : Jn) (sIndex : Int) (sTerm : Int) (sPairs : Sl) (sSessions : Sl) (b : Nat) (H3 : Hp) (x : Int) (Q : Value → Hp → Prop) : vAtBody Try.prog state_pairs.cf J state_pairs.fn [1, 1, 0, 1, 0] [0, 1, 1, 1] Q (state_pairs.l1.st sIndex sTerm sPairs sSessions b H3 x) = state_pairs.l1.body J sIndex sTerm sPairs sSessions b H3 x Q := by kernel_rfl
theorem state_pairs.l1.step {sIndex : Int} {sTerm : Int} {sPairs : Sl} {sSessions : Sl} {b : Nat} {H3 : Hp} {x : Int} {Q : Value → Hp → Prop} (h : state_pairs.l1.body J0 sIndex sTerm sPairs sSessions b H3 x Q) : state_pairs.l1 J0 sIndex sTerm sPairs sSessions b H3 x Q := vAt_stepC (state_pairs.l1.st sIndex sTerm sPairs sSessions b H3 x) (state_pairs.l1.eq J0 sIndex sTerm sPairs sSessions b H3 x Q) (by kernel_rfl) h
noncomputable def state_pairs.vc (J : Jn) (sIndex : Int) (sTerm : Int) (sPairs : Sl) (sSessions : Sl) (H : Hp) (Q : Value → Hp → Prop) : Prop :=
 ∀ H1 : Hp, H1 = (holes H 1) → ∀ b : Nat, b = Array.size H1 → ∀ H2 : Hp, H2 = (Array.push H1 (.cells #[.slice none 0 0] T_sorted_Map_string_string)) → 
 state_pairs.l1 J sIndex sTerm sPairs sSessions b H2 0 Q
theorem state_pairs.eq (J : Jn) (sIndex : Int) (sTerm : Int) (sPairs : Sl) (sSessions : Sl) (H : Hp) (Q : Value → Hp → Prop) : vFn Try.prog state_pairs.cf J state_pairs.fn [.agg #[.int .i64 sIndex, .int .i64 sTerm, .slice sPairs.a sPairs.len sPairs.cap, .slice sSessions.a sSessions.len sSessions.cap]] H Q = state_pairs.vc J sIndex sTerm sPairs sSessions H Q := by kernel_rfl
theorem state_pairs.calls {sIndex : Int} {sTerm : Int} {sPairs : Sl} {sSessions : Sl} {H : Hp} {Q : Value → Hp → Prop} (h : state_pairs.vc J0 sIndex sTerm sPairs sSessions H Q) : SCalls Try.prog state_pairs.id [.agg #[.int .i64 sIndex, .int .i64 sTerm, .slice sPairs.a sPairs.len sPairs.cap, .slice sSessions.a sSessions.len sSessions.cap]] H Q := vFn_of Try.mixed Try.func37 (state_pairs.eq J0 sIndex sTerm sPairs sSessions H Q) h

/-! 38: tephra/state.do -/
noncomputable def state_do.cf : Cfg := ⟨[3, 4, 1000003], [], [(4, [0, 3, 4, 5, 6, 20], true), (6, [0, 3, 4, 5, 34], true), (8, [0, 3, 4, 5, 43], true)], [(27, [0, 3, 4, 5, 6, 27])], true⟩
noncomputable def state_do.k1.st (m : Addr) (cOp : Int) (cClient : Int) (cSeq : Int) (cKey : ByteArray) (cValue : ByteArray) (cOld : ByteArray) (H3 : Hp) (x : ByteArray) (x1 : Bool) (x2 : Bool) : VS := ⟨mkFr 65 [(0, .v (.pointer (some m))), (3, .loc 0 0), (4, .loc 1 0), (5, .v (.string x)), (6, .v (.bool x1)), (27, .v (.bool x2))], [(T_api_Cmd, [.int .i64 cOp, .int .i64 cClient, .int .i64 cSeq, .string cKey, .string cValue, .string cOld]), (T_api_Reply, [.int .i64 0, .string (ByteArray.mk #[])])], H3⟩
noncomputable def state_do.k1 (J : Jn) (m : Addr) (cOp : Int) (cClient : Int) (cSeq : Int) (cKey : ByteArray) (cValue : ByteArray) (cOld : ByteArray) (H3 : Hp) (x : ByteArray) (x1 : Bool) (x2 : Bool) (Q : Value → Hp → Prop) : Prop := J (vMid Try.prog state_do.cf J state_do.fn [1, 1, 0, 0, 0] [0, 2, 2, 2] 7 Q) (state_do.k1.st m cOp cClient cSeq cKey cValue cOld H3 x x1 x2)
noncomputable def state_do.k2.st (m : Addr) (cOp : Int) (cClient : Int) (cSeq : Int) (cKey : ByteArray) (cValue : ByteArray) (cOld : ByteArray) (x : ByteArray) (x1 : Bool) (x4 : Bool) (H5 : Hp) : VS := ⟨mkFr 65 [(0, .v (.pointer (some m))), (3, .loc 0 0), (4, .loc 1 0), (5, .v (.string x)), (6, .v (.bool x1)), (20, .v (.bool x4))], [(T_api_Cmd, [.int .i64 cOp, .int .i64 cClient, .int .i64 cSeq, .string cKey, .string cValue, .string cOld]), (T_api_Reply, [.int .i64 0, .string (ByteArray.mk #[])])], H5⟩
noncomputable def state_do.k2 (J : Jn) (m : Addr) (cOp : Int) (cClient : Int) (cSeq : Int) (cKey : ByteArray) (cValue : ByteArray) (cOld : ByteArray) (x : ByteArray) (x1 : Bool) (x4 : Bool) (H5 : Hp) (Q : Value → Hp → Prop) : Prop := J (vSeg Try.prog state_do.cf J state_do.fn [1, 1, 0, 0, 1] [0, 2, 2, 2] Q) (state_do.k2.st m cOp cClient cSeq cKey cValue cOld x x1 x4 H5)
noncomputable def state_do.k3.st (m : Addr) (cOp : Int) (cClient : Int) (cSeq : Int) (cKey : ByteArray) (cValue : ByteArray) (cOld : ByteArray) (x : ByteArray) (H5 : Hp) (x5 : Bool) : VS := ⟨mkFr 65 [(0, .v (.pointer (some m))), (3, .loc 0 0), (4, .loc 1 0), (5, .v (.string x)), (34, .v (.bool x5))], [(T_api_Cmd, [.int .i64 cOp, .int .i64 cClient, .int .i64 cSeq, .string cKey, .string cValue, .string cOld]), (T_api_Reply, [.int .i64 0, .string (ByteArray.mk #[])])], H5⟩
noncomputable def state_do.k3 (J : Jn) (m : Addr) (cOp : Int) (cClient : Int) (cSeq : Int) (cKey : ByteArray) (cValue : ByteArray) (cOld : ByteArray) (x : ByteArray) (H5 : Hp) (x5 : Bool) (Q : Value → Hp → Prop) : Prop := J (vSeg Try.prog state_do.cf J state_do.fn [1, 1, 0, 0, 1, 1, 1] [0, 2, 2, 2, 2] Q) (state_do.k3.st m cOp cClient cSeq cKey cValue cOld x H5 x5)
noncomputable def state_do.k4.st (m : Addr) (cOp : Int) (cClient : Int) (cSeq : Int) (cKey : ByteArray) (cValue : ByteArray) (cOld : ByteArray) (x : ByteArray) (H5 : Hp) (x6 : Bool) : VS := ⟨mkFr 65 [(0, .v (.pointer (some m))), (3, .loc 0 0), (4, .loc 1 0), (5, .v (.string x)), (43, .v (.bool x6))], [(T_api_Cmd, [.int .i64 cOp, .int .i64 cClient, .int .i64 cSeq, .string cKey, .string cValue, .string cOld]), (T_api_Reply, [.int .i64 0, .string (ByteArray.mk #[])])], H5⟩
noncomputable def state_do.k4 (J : Jn) (m : Addr) (cOp : Int) (cClient : Int) (cSeq : Int) (cKey : ByteArray) (cValue : ByteArray) (cOld : ByteArray) (x : ByteArray) (H5 : Hp) (x6 : Bool) (Q : Value → Hp → Prop) : Prop := J (vSeg Try.prog state_do.cf J state_do.fn [1, 1, 0, 0, 1, 1, 1, 1, 1] [0, 2, 2, 2, 2, 2] Q) (state_do.k4.st m cOp cClient cSeq cKey cValue cOld x H5 x6)
attribute [irreducible] state_do.k1 state_do.k2 state_do.k3 state_do.k4
noncomputable def state_do.k1.body (J : Jn) (m : Addr) (cOp : Int) (cClient : Int) (cSeq : Int) (cKey : ByteArray) (cValue : ByteArray) (cOld : ByteArray) (H3 : Hp) (x : ByteArray) (x1 : Bool) (x2 : Bool) (Q : Value → Hp → Prop) : Prop :=
 
 Br x2 (
 SCalls Try.prog sorted_Map_string_string_Len.id [.pointer (some m)] H3 (fun r1 H4 => ∃ x3 : Int, r1 = .int .i64 x3 ∧ 
 state_do.k2 J m cOp cClient cSeq cKey cValue cOld x x1 (decide (x3 ≥ 64)) H4 Q))
 (
 state_do.k2 J m cOp cClient cSeq cKey cValue cOld x x1 false H3 Q)
theorem state_do.k1.eq (J : Jn) (m : Addr) (cOp : Int) (cClient : Int) (cSeq : Int) (cKey : ByteArray) (cValue : ByteArray) (cOld : ByteArray) (H3 : Hp) (x : ByteArray) (x1 : Bool) (x2 : Bool) (Q : Value → Hp → Prop) : vMid Try.prog state_do.cf J state_do.fn [1, 1, 0, 0, 0] [0, 2, 2, 2] 7 Q (state_do.k1.st m cOp cClient cSeq cKey cValue cOld H3 x x1 x2) = state_do.k1.body J m cOp cClient cSeq cKey cValue cOld H3 x x1 x2 Q := by kernel_rfl
theorem state_do.k1.step {m : Addr} {cOp : Int} {cClient : Int} {cSeq : Int} {cKey : ByteArray} {cValue : ByteArray} {cOld : ByteArray} {H3 : Hp} {x : ByteArray} {x1 : Bool} {x2 : Bool} {Q : Value → Hp → Prop} (h : state_do.k1.body J0 m cOp cClient cSeq cKey cValue cOld H3 x x1 x2 Q) : state_do.k1 J0 m cOp cClient cSeq cKey cValue cOld H3 x x1 x2 Q := step_of (vMid Try.prog state_do.cf J0 state_do.fn [1, 1, 0, 0, 0] [0, 2, 2, 2] 7 Q) (state_do.k1.st m cOp cClient cSeq cKey cValue cOld H3 x x1 x2) (state_do.k1.eq J0 m cOp cClient cSeq cKey cValue cOld H3 x x1 x2 Q) (by kernel_rfl) h
noncomputable def state_do.k2.body (J : Jn) (m : Addr) (cOp : Int) (cClient : Int) (cSeq : Int) (cKey : ByteArray) (cValue : ByteArray) (cOld : ByteArray) (x : ByteArray) (x1 : Bool) (x4 : Bool) (H5 : Hp) (Q : Value → Hp → Prop) : Prop :=
 
 Br x4 (Q (.agg #[.int .i64 4, .string (ByteArray.mk #[])]) H5)
 (
 Br (cOp != 1) (
 state_do.k3 J m cOp cClient cSeq cKey cValue cOld x H5 (!x1) Q)
 (
 state_do.k3 J m cOp cClient cSeq cKey cValue cOld x H5 false Q))
theorem state_do.k2.eq (J : Jn) (m : Addr) (cOp : Int) (cClient : Int) (cSeq : Int) (cKey : ByteArray) (cValue : ByteArray) (cOld : ByteArray) (x : ByteArray) (x1 : Bool) (x4 : Bool) (H5 : Hp) (Q : Value → Hp → Prop) : vSeg Try.prog state_do.cf J state_do.fn [1, 1, 0, 0, 1] [0, 2, 2, 2] Q (state_do.k2.st m cOp cClient cSeq cKey cValue cOld x x1 x4 H5) = state_do.k2.body J m cOp cClient cSeq cKey cValue cOld x x1 x4 H5 Q := by kernel_rfl
theorem state_do.k2.step {m : Addr} {cOp : Int} {cClient : Int} {cSeq : Int} {cKey : ByteArray} {cValue : ByteArray} {cOld : ByteArray} {x : ByteArray} {x1 : Bool} {x4 : Bool} {H5 : Hp} {Q : Value → Hp → Prop} (h : state_do.k2.body J0 m cOp cClient cSeq cKey cValue cOld x x1 x4 H5 Q) : state_do.k2 J0 m cOp cClient cSeq cKey cValue cOld x x1 x4 H5 Q := step_of (vSeg Try.prog state_do.cf J0 state_do.fn [1, 1, 0, 0, 1] [0, 2, 2, 2] Q) (state_do.k2.st m cOp cClient cSeq cKey cValue cOld x x1 x4 H5) (state_do.k2.eq J0 m cOp cClient cSeq cKey cValue cOld x x1 x4 H5 Q) (by kernel_rfl) h
noncomputable def state_do.k3.body (J : Jn) (m : Addr) (cOp : Int) (cClient : Int) (cSeq : Int) (cKey : ByteArray) (cValue : ByteArray) (cOld : ByteArray) (x : ByteArray) (H5 : Hp) (x5 : Bool) (Q : Value → Hp → Prop) : Prop :=
 
 Br x5 (Q (.agg #[.int .i64 6, .string (ByteArray.mk #[])]) H5)
 (
 Br (cOp == 3) (
 state_do.k4 J m cOp cClient cSeq cKey cValue cOld x H5 (!(x.toList == cOld.toList)) Q)
 (
 state_do.k4 J m cOp cClient cSeq cKey cValue cOld x H5 false Q))
theorem state_do.k3.eq (J : Jn) (m : Addr) (cOp : Int) (cClient : Int) (cSeq : Int) (cKey : ByteArray) (cValue : ByteArray) (cOld : ByteArray) (x : ByteArray) (H5 : Hp) (x5 : Bool) (Q : Value → Hp → Prop) : vSeg Try.prog state_do.cf J state_do.fn [1, 1, 0, 0, 1, 1, 1] [0, 2, 2, 2, 2] Q (state_do.k3.st m cOp cClient cSeq cKey cValue cOld x H5 x5) = state_do.k3.body J m cOp cClient cSeq cKey cValue cOld x H5 x5 Q := by kernel_rfl
theorem state_do.k3.step {m : Addr} {cOp : Int} {cClient : Int} {cSeq : Int} {cKey : ByteArray} {cValue : ByteArray} {cOld : ByteArray} {x : ByteArray} {H5 : Hp} {x5 : Bool} {Q : Value → Hp → Prop} (h : state_do.k3.body J0 m cOp cClient cSeq cKey cValue cOld x H5 x5 Q) : state_do.k3 J0 m cOp cClient cSeq cKey cValue cOld x H5 x5 Q := step_of (vSeg Try.prog state_do.cf J0 state_do.fn [1, 1, 0, 0, 1, 1, 1] [0, 2, 2, 2, 2] Q) (state_do.k3.st m cOp cClient cSeq cKey cValue cOld x H5 x5) (state_do.k3.eq J0 m cOp cClient cSeq cKey cValue cOld x H5 x5 Q) (by kernel_rfl) h
noncomputable def state_do.k4.body (J : Jn) (m : Addr) (cOp : Int) (cClient : Int) (cSeq : Int) (cKey : ByteArray) (cValue : ByteArray) (cOld : ByteArray) (x : ByteArray) (H5 : Hp) (x6 : Bool) (Q : Value → Hp → Prop) : Prop :=
 
 Br x6 (Q (.agg #[.int .i64 11, .string x]) H5)
 (
 Br (cOp == 2) (
 SCalls Try.prog sorted_Map_string_string_Del.id [.pointer (some m), .string cKey] H5 (fun r2 H6 => ∃ x7 : Bool, r2 = .bool x7 ∧ Q (.agg #[.int .i64 0, .string x]) H6))
 (
 SCalls Try.prog sorted_Map_string_string_Put.id [.pointer (some m), .string cKey, .string cValue] H5 (fun r3 H7 => ∃ x8 : Bool, r3 = .bool x8 ∧ Q (.agg #[.int .i64 0, .string x]) H7)))
theorem state_do.k4.eq (J : Jn) (m : Addr) (cOp : Int) (cClient : Int) (cSeq : Int) (cKey : ByteArray) (cValue : ByteArray) (cOld : ByteArray) (x : ByteArray) (H5 : Hp) (x6 : Bool) (Q : Value → Hp → Prop) : vSeg Try.prog state_do.cf J state_do.fn [1, 1, 0, 0, 1, 1, 1, 1, 1] [0, 2, 2, 2, 2, 2] Q (state_do.k4.st m cOp cClient cSeq cKey cValue cOld x H5 x6) = state_do.k4.body J m cOp cClient cSeq cKey cValue cOld x H5 x6 Q := by kernel_rfl
theorem state_do.k4.step {m : Addr} {cOp : Int} {cClient : Int} {cSeq : Int} {cKey : ByteArray} {cValue : ByteArray} {cOld : ByteArray} {x : ByteArray} {H5 : Hp} {x6 : Bool} {Q : Value → Hp → Prop} (h : state_do.k4.body J0 m cOp cClient cSeq cKey cValue cOld x H5 x6 Q) : state_do.k4 J0 m cOp cClient cSeq cKey cValue cOld x H5 x6 Q := step_of (vSeg Try.prog state_do.cf J0 state_do.fn [1, 1, 0, 0, 1, 1, 1, 1, 1] [0, 2, 2, 2, 2, 2] Q) (state_do.k4.st m cOp cClient cSeq cKey cValue cOld x H5 x6) (state_do.k4.eq J0 m cOp cClient cSeq cKey cValue cOld x H5 x6 Q) (by kernel_rfl) h
noncomputable def state_do.vc (J : Jn) (m : Addr) (cOp : Int) (cClient : Int) (cSeq : Int) (cKey : ByteArray) (cValue : ByteArray) (cOld : ByteArray) (H : Hp) (Q : Value → Hp → Prop) : Prop :=
 ∀ H1 : Hp, H1 = (holes H 1) → ∀ H2 : Hp, H2 = (holes H1 1) → 
 SCalls Try.prog sorted_Map_string_string_Get.id [.pointer (some m), .string cKey] H2 (fun r H3 => ∃ x : ByteArray, ∃ x1 : Bool, r = .tuple #[.string x, .bool x1] ∧ 
 Br (cOp == 1) (
 state_do.k1 J m cOp cClient cSeq cKey cValue cOld H3 x x1 (!x1) Q)
 (
 state_do.k1 J m cOp cClient cSeq cKey cValue cOld H3 x x1 false Q))
theorem state_do.eq (J : Jn) (m : Addr) (cOp : Int) (cClient : Int) (cSeq : Int) (cKey : ByteArray) (cValue : ByteArray) (cOld : ByteArray) (H : Hp) (Q : Value → Hp → Prop) : vFn Try.prog state_do.cf J state_do.fn [.pointer (some m), .agg #[.int .i64 cOp, .int .i64 cClient, .int .i64 cSeq, .string cKey, .string cValue, .string cOld]] H Q = state_do.vc J m cOp cClient cSeq cKey cValue cOld H Q := by kernel_rfl
theorem state_do.calls {m : Addr} {cOp : Int} {cClient : Int} {cSeq : Int} {cKey : ByteArray} {cValue : ByteArray} {cOld : ByteArray} {H : Hp} {Q : Value → Hp → Prop} (h : state_do.vc J0 m cOp cClient cSeq cKey cValue cOld H Q) : SCalls Try.prog state_do.id [.pointer (some m), .agg #[.int .i64 cOp, .int .i64 cClient, .int .i64 cSeq, .string cKey, .string cValue, .string cOld]] H Q := vFn_of Try.mixed Try.func38 (state_do.eq J0 m cOp cClient cSeq cKey cValue cOld H Q) h

/-! 39: tephra/state.rows -/
noncomputable def state_rows.cf : Cfg := ⟨[1000003], [(1000005, [3])], [], [], true⟩
noncomputable def state_rows.cfr : Cfg := { state_rows.cf with rf := false }
noncomputable def state_rows.r1.fr (b : Nat) : List AV := mkFr 17 [(3, .v (.pointer (some (Addr.mk b 0 none))))]
noncomputable def state_rows.r1.code : Code := sub (bodyOf state_rows.fn) [1, 1, 0, 1, 0]
noncomputable def state_rows.r1.rec (fn : FuncId) (tm : Array Value) (d : Nat) (st : LoopState) (pd : Option Code) : Obj := recO fn tm (rgP state_rows.r1.code) (rgA state_rows.r1.code) (rgB state_rows.r1.code) d st pd
noncomputable def state_rows.r1.body (J : Jn) (b : Nat) (l : Nat) (rc : LoopState → Option Code → Obj) (k : ByteArray) (v : ByteArray) (H3 : Hp) (Q : Value → Hp → Prop) : Prop :=
 H3[l]? = some (rc .ready none) ∧ ∀ H4 : Hp, H4 = (Array.setIfInBounds H3 l (rc .busy none)) → ∃ x1 : Sl, Hp.cell? H4 (Addr.mk b 0 none) = some (.slice x1.a x1.len x1.cap) ∧ ∀ b1 : Nat, b1 = Array.size H4 → ∀ H5 : Hp, H5 = (Array.push H4 (.cells #[.string k, .string v, .bool false] T_api_Pair)) → 
 vApp Try.prog T_sl_api_Pair x1.a x1.len x1.cap (.slice (some (Addr.mk b1 0 none)) 1 1) H5 (fun ap H6 => WrAt H6 (Addr.mk b 0 none) 1 ∧ ∀ H7 : Hp, H7 = (Hp.setCell H6 (Addr.mk b 0 none) (.slice ap.a ap.len ap.cap)) → 
 ((∃ st : LoopState, ∃ pd : Option Code, H7[l]? = some (rc st pd)) ∧ Q (.bool true) (Array.setIfInBounds H7 l (rc .ready none))))
theorem state_rows.r1.eq (J : Jn) (b : Nat) (l : Nat) (rc : LoopState → Option Code → Obj) (k : ByteArray) (v : ByteArray) (H3 : Hp) (Q : Value → Hp → Prop) : vRound Try.prog state_rows.cfr J (rgA state_rows.r1.code) (rgB state_rows.r1.code) (setFr (state_rows.r1.fr b) (rgP state_rows.r1.code).toList [.string k, .string v]) l rc H3 Q = state_rows.r1.body J b l rc k v H3 Q := by kernel_rfl
theorem state_rows.r1.calls {b : Nat} {l : Nat} {k : ByteArray} {v : ByteArray} {H3 : Hp} {fnA : FuncId} {tmA : Array Value} {dA : Nat} {Q : Value → Hp → Prop} (hl : H3[l]? = some (state_rows.r1.rec fnA tmA dA .ready none)) (hT : TmOf (state_rows.r1.fr b) tmA) (h : state_rows.r1.body J0 b l (state_rows.r1.rec fnA tmA dA) k v H3 Q) : YCalls Try.prog l [.string k, .string v] H3 Q := vRound_calls (cf := state_rows.cfr) (fn := fnA) (tm := tmA) (ps := rgP state_rows.r1.code) (asg := rgA state_rows.r1.code) (body := rgB state_rows.r1.code) (d := dA) (fr := (state_rows.r1.fr b)) Try.mixed (by kernel_rfl) hl (by kernel_rfl) hT ((state_rows.r1.eq J0 b l (state_rows.r1.rec fnA tmA dA) k v H3 Q).mpr h)
attribute [irreducible] state_rows.r1.rec state_rows.r1.fr state_rows.r1.code
noncomputable def state_rows.vc (J : Jn) (m : Addr) (H : Hp) (Q : Value → Hp → Prop) : Prop :=
 ∀ b : Nat, b = Array.size H → ∀ H1 : Hp, H1 = (Array.push H (.cells #[.slice none 0 0] T_sl_api_Pair)) → 
 SCalls Try.prog sorted_Map_string_string_All.id [.pointer (some m)] H1 (fun r H2 => ∃ x : Fv, r = .func x.fn x.fi x.ca ∧ 
 ∀ fn : FuncId, ∀ tm : Array Value, TmOf (state_rows.r1.fr b) tm → vRg Try.prog (.func x.fn x.fi x.ca) (Array.size H2 + 1) (Array.push (Array.push H2 hole) (state_rows.r1.rec fn tm (Array.size H2) .ready none)) (fun H8 => ∃ st : LoopState, ∃ pd : Option Code, H8[(Array.size H2 + 1)]? = some (state_rows.r1.rec fn tm (Array.size H2) st pd) ∧ st ≠ .busy ∧ ∀ H9 : Hp, H9 = (Array.setIfInBounds H8 (Array.size H2 + 1) (state_rows.r1.rec fn tm (Array.size H2) .exhausted pd)) → ((pd = none → ∃ x2 : Sl, Hp.cell? H9 (Addr.mk b 0 none) = some (.slice x2.a x2.len x2.cap) ∧ Q (.slice x2.a x2.len x2.cap) H9) ∧ (pd = some .ret → Q (.slice none 0 0) H9) ∧ (True) ∧ (pd = none ∨ pd = some .ret ∨ ∃ i ∈ ([] : List Nat), pd = some (.exit i)))))
theorem state_rows.eq (J : Jn) (m : Addr) (H : Hp) (Q : Value → Hp → Prop) : vFn Try.prog state_rows.cf J state_rows.fn [.pointer (some m)] H Q = state_rows.vc J m H Q := by kernel_rfl
theorem state_rows.calls {m : Addr} {H : Hp} {Q : Value → Hp → Prop} (h : state_rows.vc J0 m H Q) : SCalls Try.prog state_rows.id [.pointer (some m)] H Q := vFn_of Try.mixed Try.func39 (state_rows.eq J0 m H Q) h

/-! 40: (*tephra/sorted.Map_int, tephra/api.Session_).Put -/
noncomputable def sorted_Map_int_api_Session_Put.cf : Cfg := ⟨[5], [], [], [], true⟩
noncomputable def sorted_Map_int_api_Session_Put.vc (J : Jn) (m : Addr) (k : Int) (vClient : Int) (vSeq : Int) (vReplyErr : Int) (vReplyValue : ByteArray) (H : Hp) (Q : Value → Hp → Prop) : Prop :=
 
 SCalls Try.prog sorted_Map_int_api_Session_find.id [.pointer (some m), .int .i64 k] (holes H 1) (fun r H1 => ∃ x : Int, ∃ x1 : Bool, r = .tuple #[.int .i64 x, .bool x1] ∧ 
 Br x1 (∃ items : Sl, Hp.cell? H1 m = some (.slice items.a items.len items.cap) ∧ ((0 : Int) ≤ x ∧ x < ((items.len : Nat) : Int)) ∧ vPtr items.a (fun a => WrAt H1 ((a.add ((x : Int).toNat * 5)).add 1) 4 ∧ Q (.bool false) (Hp.setCells H1 ((a.add ((x : Int).toNat * 5)).add 1) [.int .i64 vClient, .int .i64 vSeq, .int .i64 vReplyErr, .string vReplyValue] 0)))
 (∃ items1 : Sl, Hp.cell? H1 m = some (.slice items1.a items1.len items1.cap) ∧ 
 SCalls Try.prog slices_Insert_sl_sorted_item_int_api_Session_sorted_item_int_api_Session.id [.slice items1.a items1.len items1.cap, .int .i64 x, .slice (some (Addr.mk (Array.size H1) 0 none)) 1 1] (Array.push H1 (.cells #[.int .i64 k, .int .i64 vClient, .int .i64 vSeq, .int .i64 vReplyErr, .string vReplyValue] T_sorted_item_int_api_Session)) (fun r1 H2 => ∃ x2 : Sl, r1 = .slice x2.a x2.len x2.cap ∧ WrAt H2 m 1 ∧ Q (.bool true) (Hp.setCell H2 m (.slice x2.a x2.len x2.cap)))))
theorem sorted_Map_int_api_Session_Put.eq (J : Jn) (m : Addr) (k : Int) (vClient : Int) (vSeq : Int) (vReplyErr : Int) (vReplyValue : ByteArray) (H : Hp) (Q : Value → Hp → Prop) : vFn Try.prog sorted_Map_int_api_Session_Put.cf J sorted_Map_int_api_Session_Put.fn [.pointer (some m), .int .i64 k, .agg #[.int .i64 vClient, .int .i64 vSeq, .int .i64 vReplyErr, .string vReplyValue]] H Q = sorted_Map_int_api_Session_Put.vc J m k vClient vSeq vReplyErr vReplyValue H Q := by kernel_rfl
theorem sorted_Map_int_api_Session_Put.calls {m : Addr} {k : Int} {vClient : Int} {vSeq : Int} {vReplyErr : Int} {vReplyValue : ByteArray} {H : Hp} {Q : Value → Hp → Prop} (h : sorted_Map_int_api_Session_Put.vc J0 m k vClient vSeq vReplyErr vReplyValue H Q) : SCalls Try.prog sorted_Map_int_api_Session_Put.id [.pointer (some m), .int .i64 k, .agg #[.int .i64 vClient, .int .i64 vSeq, .int .i64 vReplyErr, .string vReplyValue]] H Q := vFn_of Try.mixed Try.func40 (sorted_Map_int_api_Session_Put.eq J0 m k vClient vSeq vReplyErr vReplyValue H Q) h

/-! 41: (*tephra/sorted.Map_int, tephra/api.Session_).All -/
noncomputable def sorted_Map_int_api_Session_All.cf : Cfg := ⟨[], [], [], [], true⟩
noncomputable def sorted_Map_int_api_Session_All.vc (J : Jn) (m : Addr) (H : Hp) (Q : Value → Hp → Prop) : Prop :=
 Q (.func (.func 57) #[] #[.pointer (some (Addr.mk (Array.size H) 0 none))]) (Array.push H (.cells #[.pointer (some m)] T_p_sorted_Map_int_api_Session))
theorem sorted_Map_int_api_Session_All.eq (J : Jn) (m : Addr) (H : Hp) (Q : Value → Hp → Prop) : vFn Try.prog sorted_Map_int_api_Session_All.cf J sorted_Map_int_api_Session_All.fn [.pointer (some m)] H Q = sorted_Map_int_api_Session_All.vc J m H Q := by kernel_rfl
theorem sorted_Map_int_api_Session_All.calls {m : Addr} {H : Hp} {Q : Value → Hp → Prop} (h : sorted_Map_int_api_Session_All.vc J0 m H Q) : SCalls Try.prog sorted_Map_int_api_Session_All.id [.pointer (some m)] H Q := vFn_of Try.mixed Try.func41 (sorted_Map_int_api_Session_All.eq J0 m H Q) h

/-! 42: tephra/cmds.May -/
noncomputable def cmds_May.cf : Cfg := ⟨[1], [], [(2, [1, 22], true)], [(10, [1, 10]), (16, [1, 16]), (36, [1, 36]), (41, [1, 41]), (46, [1, 46]), (51, [1, 51])], true⟩
noncomputable def cmds_May.k1.st (cOp : Int) (cClient : Int) (cSeq : Int) (cKey : ByteArray) (cValue : ByteArray) (cOld : ByteArray) (H : Hp) (x : Bool) : VS := ⟨mkFr 58 [(1, .loc 0 0), (10, .v (.bool x))], [(T_api_Cmd, [.int .i64 cOp, .int .i64 cClient, .int .i64 cSeq, .string cKey, .string cValue, .string cOld])], (holes H 1)⟩
noncomputable def cmds_May.k1 (J : Jn) (cOp : Int) (cClient : Int) (cSeq : Int) (cKey : ByteArray) (cValue : ByteArray) (cOld : ByteArray) (H : Hp) (x : Bool) (Q : Value → Hp → Prop) : Prop := J (vMid Try.prog cmds_May.cf J cmds_May.fn [1, 0, 0] [0, 1, 1] 8 Q) (cmds_May.k1.st cOp cClient cSeq cKey cValue cOld H x)
noncomputable def cmds_May.k2.st (cOp : Int) (cClient : Int) (cSeq : Int) (cKey : ByteArray) (cValue : ByteArray) (cOld : ByteArray) (H : Hp) (x1 : Bool) : VS := ⟨mkFr 58 [(1, .loc 0 0), (16, .v (.bool x1))], [(T_api_Cmd, [.int .i64 cOp, .int .i64 cClient, .int .i64 cSeq, .string cKey, .string cValue, .string cOld])], (holes H 1)⟩
noncomputable def cmds_May.k2 (J : Jn) (cOp : Int) (cClient : Int) (cSeq : Int) (cKey : ByteArray) (cValue : ByteArray) (cOld : ByteArray) (H : Hp) (x1 : Bool) (Q : Value → Hp → Prop) : Prop := J (vMid Try.prog cmds_May.cf J cmds_May.fn [1, 0, 0] [0, 1, 1] 14 Q) (cmds_May.k2.st cOp cClient cSeq cKey cValue cOld H x1)
noncomputable def cmds_May.k3.st (cOp : Int) (cClient : Int) (cSeq : Int) (cKey : ByteArray) (cValue : ByteArray) (cOld : ByteArray) (H : Hp) (x2 : Bool) : VS := ⟨mkFr 58 [(1, .loc 0 0), (22, .v (.bool x2))], [(T_api_Cmd, [.int .i64 cOp, .int .i64 cClient, .int .i64 cSeq, .string cKey, .string cValue, .string cOld])], (holes H 1)⟩
noncomputable def cmds_May.k3 (J : Jn) (cOp : Int) (cClient : Int) (cSeq : Int) (cKey : ByteArray) (cValue : ByteArray) (cOld : ByteArray) (H : Hp) (x2 : Bool) (Q : Value → Hp → Prop) : Prop := J (vSeg Try.prog cmds_May.cf J cmds_May.fn [1, 0, 1] [0, 1, 1] Q) (cmds_May.k3.st cOp cClient cSeq cKey cValue cOld H x2)
noncomputable def cmds_May.k4.st (cOp : Int) (cClient : Int) (cSeq : Int) (cKey : ByteArray) (cValue : ByteArray) (cOld : ByteArray) (H : Hp) (x3 : Bool) : VS := ⟨mkFr 58 [(1, .loc 0 0), (36, .v (.bool x3))], [(T_api_Cmd, [.int .i64 cOp, .int .i64 cClient, .int .i64 cSeq, .string cKey, .string cValue, .string cOld])], (holes H 1)⟩
noncomputable def cmds_May.k4 (J : Jn) (cOp : Int) (cClient : Int) (cSeq : Int) (cKey : ByteArray) (cValue : ByteArray) (cOld : ByteArray) (H : Hp) (x3 : Bool) (Q : Value → Hp → Prop) : Prop := J (vMid Try.prog cmds_May.cf J cmds_May.fn [1, 1, 1, 0] [0, 1, 1, 1] 8 Q) (cmds_May.k4.st cOp cClient cSeq cKey cValue cOld H x3)
noncomputable def cmds_May.k5.st (cOp : Int) (cClient : Int) (cSeq : Int) (cKey : ByteArray) (cValue : ByteArray) (cOld : ByteArray) (H : Hp) (x4 : Bool) : VS := ⟨mkFr 58 [(1, .loc 0 0), (41, .v (.bool x4))], [(T_api_Cmd, [.int .i64 cOp, .int .i64 cClient, .int .i64 cSeq, .string cKey, .string cValue, .string cOld])], (holes H 1)⟩
noncomputable def cmds_May.k5 (J : Jn) (cOp : Int) (cClient : Int) (cSeq : Int) (cKey : ByteArray) (cValue : ByteArray) (cOld : ByteArray) (H : Hp) (x4 : Bool) (Q : Value → Hp → Prop) : Prop := J (vMid Try.prog cmds_May.cf J cmds_May.fn [1, 1, 1, 0] [0, 1, 1, 1] 13 Q) (cmds_May.k5.st cOp cClient cSeq cKey cValue cOld H x4)
noncomputable def cmds_May.k6.st (cOp : Int) (cClient : Int) (cSeq : Int) (cKey : ByteArray) (cValue : ByteArray) (cOld : ByteArray) (H : Hp) (x5 : Bool) : VS := ⟨mkFr 58 [(1, .loc 0 0), (46, .v (.bool x5))], [(T_api_Cmd, [.int .i64 cOp, .int .i64 cClient, .int .i64 cSeq, .string cKey, .string cValue, .string cOld])], (holes H 1)⟩
noncomputable def cmds_May.k6 (J : Jn) (cOp : Int) (cClient : Int) (cSeq : Int) (cKey : ByteArray) (cValue : ByteArray) (cOld : ByteArray) (H : Hp) (x5 : Bool) (Q : Value → Hp → Prop) : Prop := J (vMid Try.prog cmds_May.cf J cmds_May.fn [1, 1, 1, 0] [0, 1, 1, 1] 18 Q) (cmds_May.k6.st cOp cClient cSeq cKey cValue cOld H x5)
noncomputable def cmds_May.k7.st (cOp : Int) (cClient : Int) (cSeq : Int) (cKey : ByteArray) (cValue : ByteArray) (cOld : ByteArray) (H : Hp) (x6 : Bool) : VS := ⟨mkFr 58 [(1, .loc 0 0), (51, .v (.bool x6))], [(T_api_Cmd, [.int .i64 cOp, .int .i64 cClient, .int .i64 cSeq, .string cKey, .string cValue, .string cOld])], (holes H 1)⟩
noncomputable def cmds_May.k7 (J : Jn) (cOp : Int) (cClient : Int) (cSeq : Int) (cKey : ByteArray) (cValue : ByteArray) (cOld : ByteArray) (H : Hp) (x6 : Bool) (Q : Value → Hp → Prop) : Prop := J (vMid Try.prog cmds_May.cf J cmds_May.fn [1, 1, 1, 0] [0, 1, 1, 1] 23 Q) (cmds_May.k7.st cOp cClient cSeq cKey cValue cOld H x6)
attribute [irreducible] cmds_May.k1 cmds_May.k2 cmds_May.k3 cmds_May.k4 cmds_May.k5 cmds_May.k6 cmds_May.k7
noncomputable def cmds_May.k1.body (J : Jn) (cOp : Int) (cClient : Int) (cSeq : Int) (cKey : ByteArray) (cValue : ByteArray) (cOld : ByteArray) (H : Hp) (x : Bool) (Q : Value → Hp → Prop) : Prop :=
 
 Br x (
 cmds_May.k2 J cOp cClient cSeq cKey cValue cOld H true Q)
 (
 cmds_May.k2 J cOp cClient cSeq cKey cValue cOld H (decide (((cValue.size : Nat) : Int) > 16)) Q)
theorem cmds_May.k1.eq (J : Jn) (cOp : Int) (cClient : Int) (cSeq : Int) (cKey : ByteArray) (cValue : ByteArray) (cOld : ByteArray) (H : Hp) (x : Bool) (Q : Value → Hp → Prop) : vMid Try.prog cmds_May.cf J cmds_May.fn [1, 0, 0] [0, 1, 1] 8 Q (cmds_May.k1.st cOp cClient cSeq cKey cValue cOld H x) = cmds_May.k1.body J cOp cClient cSeq cKey cValue cOld H x Q := by kernel_rfl
theorem cmds_May.k1.step {cOp : Int} {cClient : Int} {cSeq : Int} {cKey : ByteArray} {cValue : ByteArray} {cOld : ByteArray} {H : Hp} {x : Bool} {Q : Value → Hp → Prop} (h : cmds_May.k1.body J0 cOp cClient cSeq cKey cValue cOld H x Q) : cmds_May.k1 J0 cOp cClient cSeq cKey cValue cOld H x Q := step_of (vMid Try.prog cmds_May.cf J0 cmds_May.fn [1, 0, 0] [0, 1, 1] 8 Q) (cmds_May.k1.st cOp cClient cSeq cKey cValue cOld H x) (cmds_May.k1.eq J0 cOp cClient cSeq cKey cValue cOld H x Q) (by kernel_rfl) h
noncomputable def cmds_May.k2.body (J : Jn) (cOp : Int) (cClient : Int) (cSeq : Int) (cKey : ByteArray) (cValue : ByteArray) (cOld : ByteArray) (H : Hp) (x1 : Bool) (Q : Value → Hp → Prop) : Prop :=
 
 Br x1 (
 cmds_May.k3 J cOp cClient cSeq cKey cValue cOld H true Q)
 (
 cmds_May.k3 J cOp cClient cSeq cKey cValue cOld H (decide (((cOld.size : Nat) : Int) > 16)) Q)
theorem cmds_May.k2.eq (J : Jn) (cOp : Int) (cClient : Int) (cSeq : Int) (cKey : ByteArray) (cValue : ByteArray) (cOld : ByteArray) (H : Hp) (x1 : Bool) (Q : Value → Hp → Prop) : vMid Try.prog cmds_May.cf J cmds_May.fn [1, 0, 0] [0, 1, 1] 14 Q (cmds_May.k2.st cOp cClient cSeq cKey cValue cOld H x1) = cmds_May.k2.body J cOp cClient cSeq cKey cValue cOld H x1 Q := by kernel_rfl
theorem cmds_May.k2.step {cOp : Int} {cClient : Int} {cSeq : Int} {cKey : ByteArray} {cValue : ByteArray} {cOld : ByteArray} {H : Hp} {x1 : Bool} {Q : Value → Hp → Prop} (h : cmds_May.k2.body J0 cOp cClient cSeq cKey cValue cOld H x1 Q) : cmds_May.k2 J0 cOp cClient cSeq cKey cValue cOld H x1 Q := step_of (vMid Try.prog cmds_May.cf J0 cmds_May.fn [1, 0, 0] [0, 1, 1] 14 Q) (cmds_May.k2.st cOp cClient cSeq cKey cValue cOld H x1) (cmds_May.k2.eq J0 cOp cClient cSeq cKey cValue cOld H x1 Q) (by kernel_rfl) h
noncomputable def cmds_May.k3.body (J : Jn) (cOp : Int) (cClient : Int) (cSeq : Int) (cKey : ByteArray) (cValue : ByteArray) (cOld : ByteArray) (H : Hp) (x2 : Bool) (Q : Value → Hp → Prop) : Prop :=
 
 Br x2 (Q (.bool false) (holes H 1))
 (
 Br (cOp == 0) (Q (.bool ((cOp == (0 : Int)) && ((cClient == (0 : Int)) && ((cSeq == (0 : Int)) && ((cKey == (ByteArray.mk #[])) && ((cValue == (ByteArray.mk #[])) && ((cOld == (ByteArray.mk #[])) && true))))))) (holes H 1))
 (
 Br (decide (cClient ≥ 0)) (
 cmds_May.k4 J cOp cClient cSeq cKey cValue cOld H (decide (cClient < 4)) Q)
 (
 cmds_May.k4 J cOp cClient cSeq cKey cValue cOld H false Q)))
theorem cmds_May.k3.eq (J : Jn) (cOp : Int) (cClient : Int) (cSeq : Int) (cKey : ByteArray) (cValue : ByteArray) (cOld : ByteArray) (H : Hp) (x2 : Bool) (Q : Value → Hp → Prop) : vSeg Try.prog cmds_May.cf J cmds_May.fn [1, 0, 1] [0, 1, 1] Q (cmds_May.k3.st cOp cClient cSeq cKey cValue cOld H x2) = cmds_May.k3.body J cOp cClient cSeq cKey cValue cOld H x2 Q := by kernel_rfl
theorem cmds_May.k3.step {cOp : Int} {cClient : Int} {cSeq : Int} {cKey : ByteArray} {cValue : ByteArray} {cOld : ByteArray} {H : Hp} {x2 : Bool} {Q : Value → Hp → Prop} (h : cmds_May.k3.body J0 cOp cClient cSeq cKey cValue cOld H x2 Q) : cmds_May.k3 J0 cOp cClient cSeq cKey cValue cOld H x2 Q := step_of (vSeg Try.prog cmds_May.cf J0 cmds_May.fn [1, 0, 1] [0, 1, 1] Q) (cmds_May.k3.st cOp cClient cSeq cKey cValue cOld H x2) (cmds_May.k3.eq J0 cOp cClient cSeq cKey cValue cOld H x2 Q) (by kernel_rfl) h
noncomputable def cmds_May.k4.body (J : Jn) (cOp : Int) (cClient : Int) (cSeq : Int) (cKey : ByteArray) (cValue : ByteArray) (cOld : ByteArray) (H : Hp) (x3 : Bool) (Q : Value → Hp → Prop) : Prop :=
 
 Br x3 (
 cmds_May.k5 J cOp cClient cSeq cKey cValue cOld H (decide (cSeq ≥ 0)) Q)
 (
 cmds_May.k5 J cOp cClient cSeq cKey cValue cOld H false Q)
theorem cmds_May.k4.eq (J : Jn) (cOp : Int) (cClient : Int) (cSeq : Int) (cKey : ByteArray) (cValue : ByteArray) (cOld : ByteArray) (H : Hp) (x3 : Bool) (Q : Value → Hp → Prop) : vMid Try.prog cmds_May.cf J cmds_May.fn [1, 1, 1, 0] [0, 1, 1, 1] 8 Q (cmds_May.k4.st cOp cClient cSeq cKey cValue cOld H x3) = cmds_May.k4.body J cOp cClient cSeq cKey cValue cOld H x3 Q := by kernel_rfl
theorem cmds_May.k4.step {cOp : Int} {cClient : Int} {cSeq : Int} {cKey : ByteArray} {cValue : ByteArray} {cOld : ByteArray} {H : Hp} {x3 : Bool} {Q : Value → Hp → Prop} (h : cmds_May.k4.body J0 cOp cClient cSeq cKey cValue cOld H x3 Q) : cmds_May.k4 J0 cOp cClient cSeq cKey cValue cOld H x3 Q := step_of (vMid Try.prog cmds_May.cf J0 cmds_May.fn [1, 1, 1, 0] [0, 1, 1, 1] 8 Q) (cmds_May.k4.st cOp cClient cSeq cKey cValue cOld H x3) (cmds_May.k4.eq J0 cOp cClient cSeq cKey cValue cOld H x3 Q) (by kernel_rfl) h
noncomputable def cmds_May.k5.body (J : Jn) (cOp : Int) (cClient : Int) (cSeq : Int) (cKey : ByteArray) (cValue : ByteArray) (cOld : ByteArray) (H : Hp) (x4 : Bool) (Q : Value → Hp → Prop) : Prop :=
 
 Br x4 (
 cmds_May.k6 J cOp cClient cSeq cKey cValue cOld H (decide (cSeq ≤ 1048576)) Q)
 (
 cmds_May.k6 J cOp cClient cSeq cKey cValue cOld H false Q)
theorem cmds_May.k5.eq (J : Jn) (cOp : Int) (cClient : Int) (cSeq : Int) (cKey : ByteArray) (cValue : ByteArray) (cOld : ByteArray) (H : Hp) (x4 : Bool) (Q : Value → Hp → Prop) : vMid Try.prog cmds_May.cf J cmds_May.fn [1, 1, 1, 0] [0, 1, 1, 1] 13 Q (cmds_May.k5.st cOp cClient cSeq cKey cValue cOld H x4) = cmds_May.k5.body J cOp cClient cSeq cKey cValue cOld H x4 Q := by kernel_rfl
theorem cmds_May.k5.step {cOp : Int} {cClient : Int} {cSeq : Int} {cKey : ByteArray} {cValue : ByteArray} {cOld : ByteArray} {H : Hp} {x4 : Bool} {Q : Value → Hp → Prop} (h : cmds_May.k5.body J0 cOp cClient cSeq cKey cValue cOld H x4 Q) : cmds_May.k5 J0 cOp cClient cSeq cKey cValue cOld H x4 Q := step_of (vMid Try.prog cmds_May.cf J0 cmds_May.fn [1, 1, 1, 0] [0, 1, 1, 1] 13 Q) (cmds_May.k5.st cOp cClient cSeq cKey cValue cOld H x4) (cmds_May.k5.eq J0 cOp cClient cSeq cKey cValue cOld H x4 Q) (by kernel_rfl) h
noncomputable def cmds_May.k6.body (J : Jn) (cOp : Int) (cClient : Int) (cSeq : Int) (cKey : ByteArray) (cValue : ByteArray) (cOld : ByteArray) (H : Hp) (x5 : Bool) (Q : Value → Hp → Prop) : Prop :=
 
 Br x5 (
 cmds_May.k7 J cOp cClient cSeq cKey cValue cOld H (!(cKey.toList == (ByteArray.mk #[]).toList)) Q)
 (
 cmds_May.k7 J cOp cClient cSeq cKey cValue cOld H false Q)
theorem cmds_May.k6.eq (J : Jn) (cOp : Int) (cClient : Int) (cSeq : Int) (cKey : ByteArray) (cValue : ByteArray) (cOld : ByteArray) (H : Hp) (x5 : Bool) (Q : Value → Hp → Prop) : vMid Try.prog cmds_May.cf J cmds_May.fn [1, 1, 1, 0] [0, 1, 1, 1] 18 Q (cmds_May.k6.st cOp cClient cSeq cKey cValue cOld H x5) = cmds_May.k6.body J cOp cClient cSeq cKey cValue cOld H x5 Q := by kernel_rfl
theorem cmds_May.k6.step {cOp : Int} {cClient : Int} {cSeq : Int} {cKey : ByteArray} {cValue : ByteArray} {cOld : ByteArray} {H : Hp} {x5 : Bool} {Q : Value → Hp → Prop} (h : cmds_May.k6.body J0 cOp cClient cSeq cKey cValue cOld H x5 Q) : cmds_May.k6 J0 cOp cClient cSeq cKey cValue cOld H x5 Q := step_of (vMid Try.prog cmds_May.cf J0 cmds_May.fn [1, 1, 1, 0] [0, 1, 1, 1] 18 Q) (cmds_May.k6.st cOp cClient cSeq cKey cValue cOld H x5) (cmds_May.k6.eq J0 cOp cClient cSeq cKey cValue cOld H x5 Q) (by kernel_rfl) h
noncomputable def cmds_May.k7.body (J : Jn) (cOp : Int) (cClient : Int) (cSeq : Int) (cKey : ByteArray) (cValue : ByteArray) (cOld : ByteArray) (H : Hp) (x6 : Bool) (Q : Value → Hp → Prop) : Prop :=
 
 Br x6 (Q (.bool (decide (((cKey.size : Nat) : Int) ≤ 8))) (holes H 1))
 (Q (.bool false) (holes H 1))
theorem cmds_May.k7.eq (J : Jn) (cOp : Int) (cClient : Int) (cSeq : Int) (cKey : ByteArray) (cValue : ByteArray) (cOld : ByteArray) (H : Hp) (x6 : Bool) (Q : Value → Hp → Prop) : vMid Try.prog cmds_May.cf J cmds_May.fn [1, 1, 1, 0] [0, 1, 1, 1] 23 Q (cmds_May.k7.st cOp cClient cSeq cKey cValue cOld H x6) = cmds_May.k7.body J cOp cClient cSeq cKey cValue cOld H x6 Q := by kernel_rfl
theorem cmds_May.k7.step {cOp : Int} {cClient : Int} {cSeq : Int} {cKey : ByteArray} {cValue : ByteArray} {cOld : ByteArray} {H : Hp} {x6 : Bool} {Q : Value → Hp → Prop} (h : cmds_May.k7.body J0 cOp cClient cSeq cKey cValue cOld H x6 Q) : cmds_May.k7 J0 cOp cClient cSeq cKey cValue cOld H x6 Q := step_of (vMid Try.prog cmds_May.cf J0 cmds_May.fn [1, 1, 1, 0] [0, 1, 1, 1] 23 Q) (cmds_May.k7.st cOp cClient cSeq cKey cValue cOld H x6) (cmds_May.k7.eq J0 cOp cClient cSeq cKey cValue cOld H x6 Q) (by kernel_rfl) h
noncomputable def cmds_May.vc (J : Jn) (cOp : Int) (cClient : Int) (cSeq : Int) (cKey : ByteArray) (cValue : ByteArray) (cOld : ByteArray) (H : Hp) (Q : Value → Hp → Prop) : Prop :=
 
 Br (decide (cOp < 0)) (
 cmds_May.k1 J cOp cClient cSeq cKey cValue cOld H true Q)
 (
 cmds_May.k1 J cOp cClient cSeq cKey cValue cOld H (decide (cOp ≥ 4)) Q)
theorem cmds_May.eq (J : Jn) (cOp : Int) (cClient : Int) (cSeq : Int) (cKey : ByteArray) (cValue : ByteArray) (cOld : ByteArray) (H : Hp) (Q : Value → Hp → Prop) : vFn Try.prog cmds_May.cf J cmds_May.fn [.agg #[.int .i64 cOp, .int .i64 cClient, .int .i64 cSeq, .string cKey, .string cValue, .string cOld]] H Q = cmds_May.vc J cOp cClient cSeq cKey cValue cOld H Q := by kernel_rfl
theorem cmds_May.calls {cOp : Int} {cClient : Int} {cSeq : Int} {cKey : ByteArray} {cValue : ByteArray} {cOld : ByteArray} {H : Hp} {Q : Value → Hp → Prop} (h : cmds_May.vc J0 cOp cClient cSeq cKey cValue cOld H Q) : SCalls Try.prog cmds_May.id [.agg #[.int .i64 cOp, .int .i64 cClient, .int .i64 cSeq, .string cKey, .string cValue, .string cOld]] H Q := vFn_of Try.mixed Try.func42 (cmds_May.eq J0 cOp cClient cSeq cKey cValue cOld H Q) h

/-! 43: (*tephra/pack.Writer).Num -/
noncomputable def pack_Writer_Num.cf : Cfg := ⟨[], [(2, [0, 1, 5])], [], [], true⟩
noncomputable def pack_Writer_Num.l1.st (w : Addr) (n : Int) (H1 : Hp) (k : Int) : VS := ⟨mkFr 25 [(0, .v (.pointer (some w))), (1, .v (.int .i64 n)), (5, .v (.int .i64 k))], [], H1⟩
noncomputable def pack_Writer_Num.l1 (J : Jn) (w : Addr) (n : Int) (H1 : Hp) (k : Int) (Q : Value → Hp → Prop) : Prop := vAt Try.prog pack_Writer_Num.cf J pack_Writer_Num.fn [1, 0, 1, 0] [0, 0, 0] Q (pack_Writer_Num.l1.st w n H1 k)
attribute [irreducible] pack_Writer_Num.l1
noncomputable def pack_Writer_Num.l1.body (J : Jn) (w : Addr) (n : Int) (H1 : Hp) (k : Int) (Q : Value → Hp → Prop) : Prop :=
 
 Br (decide (k ≥ 0)) (∃ b : Sl, Hp.cell? H1 w = some (.slice b.a b.len b.cap) ∧ (0 : Int) ≤ (w64 ((8 : Int) * k)) ∧ 
 vApp Try.prog T_sl_uint8 b.a b.len b.cap (.slice (some (Addr.mk (Array.size H1) 0 none)) 1 1) (Array.push H1 (.cells #[.int .u8 (IntKind.u8.wrap ((Int.fdiv n (2 ^ (min ((w64 ((8 : Int) * k)) : Int).toNat 64)))))] T_uint8)) (fun ap H2 => WrAt H2 w 1 ∧ 
 pack_Writer_Num.l1 J w n (Hp.setCell H2 w (.slice ap.a ap.len ap.cap)) (w64 (k - 1)) Q))
 (Q (.pointer (some w)) H1)
theorem pack_Writer_Num.l1.eq (J : Jn) (w : Addr) (n : Int) (H1 : Hp) (k : Int) (Q : Value → Hp → Prop) : vAtBody Try.prog pack_Writer_Num.cf J pack_Writer_Num.fn [1, 0, 1, 0] [0, 0, 0] Q (pack_Writer_Num.l1.st w n H1 k) = pack_Writer_Num.l1.body J w n H1 k Q := by kernel_rfl
theorem pack_Writer_Num.l1.step {w : Addr} {n : Int} {H1 : Hp} {k : Int} {Q : Value → Hp → Prop} (h : pack_Writer_Num.l1.body J0 w n H1 k Q) : pack_Writer_Num.l1 J0 w n H1 k Q := vAt_stepC (pack_Writer_Num.l1.st w n H1 k) (pack_Writer_Num.l1.eq J0 w n H1 k Q) (by kernel_rfl) h
noncomputable def pack_Writer_Num.vc (J : Jn) (w : Addr) (n : Int) (H : Hp) (Q : Value → Hp → Prop) : Prop :=
 
 pack_Writer_Num.l1 J w n H 7 Q
theorem pack_Writer_Num.eq (J : Jn) (w : Addr) (n : Int) (H : Hp) (Q : Value → Hp → Prop) : vFn Try.prog pack_Writer_Num.cf J pack_Writer_Num.fn [.pointer (some w), .int .i64 n] H Q = pack_Writer_Num.vc J w n H Q := by kernel_rfl
theorem pack_Writer_Num.calls {w : Addr} {n : Int} {H : Hp} {Q : Value → Hp → Prop} (h : pack_Writer_Num.vc J0 w n H Q) : SCalls Try.prog pack_Writer_Num.id [.pointer (some w), .int .i64 n] H Q := vFn_of Try.mixed Try.func43 (pack_Writer_Num.eq J0 w n H Q) h

/-! 44: (*tephra/pack.Writer).Text -/
noncomputable def pack_Writer_Text.cf : Cfg := ⟨[], [], [], [], true⟩
noncomputable def pack_Writer_Text.vc (J : Jn) (w : Addr) (s : ByteArray) (H : Hp) (Q : Value → Hp → Prop) : Prop :=
 
 SCalls Try.prog pack_Writer_Num.id [.pointer (some w), .int .i64 ((s.size : Nat) : Int)] H (fun r H1 => ∃ x : Option Addr, r = .pointer x ∧ ∃ b : Sl, Hp.cell? H1 w = some (.slice b.a b.len b.cap) ∧ 
 vApp Try.prog T_sl_uint8 b.a b.len b.cap (.string s) H1 (fun ap H2 => WrAt H2 w 1 ∧ Q (.pointer (some w)) (Hp.setCell H2 w (.slice ap.a ap.len ap.cap))))
theorem pack_Writer_Text.eq (J : Jn) (w : Addr) (s : ByteArray) (H : Hp) (Q : Value → Hp → Prop) : vFn Try.prog pack_Writer_Text.cf J pack_Writer_Text.fn [.pointer (some w), .string s] H Q = pack_Writer_Text.vc J w s H Q := by kernel_rfl
theorem pack_Writer_Text.calls {w : Addr} {s : ByteArray} {H : Hp} {Q : Value → Hp → Prop} (h : pack_Writer_Text.vc J0 w s H Q) : SCalls Try.prog pack_Writer_Text.id [.pointer (some w), .string s] H Q := vFn_of Try.mixed Try.func44 (pack_Writer_Text.eq J0 w s H Q) h

/-! 45: (*tephra/pack.Writer).Byte -/
noncomputable def pack_Writer_Byte.cf : Cfg := ⟨[], [], [], [], true⟩
noncomputable def pack_Writer_Byte.vc (J : Jn) (w : Addr) (c : Int) (H : Hp) (Q : Value → Hp → Prop) : Prop :=
 ∃ b : Sl, Hp.cell? H w = some (.slice b.a b.len b.cap) ∧ 
 vApp Try.prog T_sl_uint8 b.a b.len b.cap (.slice (some (Addr.mk (Array.size H) 0 none)) 1 1) (Array.push H (.cells #[.int .u8 c] T_uint8)) (fun ap H1 => WrAt H1 w 1 ∧ Q (.pointer (some w)) (Hp.setCell H1 w (.slice ap.a ap.len ap.cap)))
theorem pack_Writer_Byte.eq (J : Jn) (w : Addr) (c : Int) (H : Hp) (Q : Value → Hp → Prop) : vFn Try.prog pack_Writer_Byte.cf J pack_Writer_Byte.fn [.pointer (some w), .int .u8 c] H Q = pack_Writer_Byte.vc J w c H Q := by kernel_rfl
theorem pack_Writer_Byte.calls {w : Addr} {c : Int} {H : Hp} {Q : Value → Hp → Prop} (h : pack_Writer_Byte.vc J0 w c H Q) : SCalls Try.prog pack_Writer_Byte.id [.pointer (some w), .int .u8 c] H Q := vFn_of Try.mixed Try.func45 (pack_Writer_Byte.eq J0 w c H Q) h

/-! 46: (*tephra/pack.Reader).Num -/
noncomputable def pack_Reader_Num.cf : Cfg := ⟨[], [(3, [3, 7, 8, 9])], [], [], true⟩
noncomputable def pack_Reader_Num.l1.st (x : Sl) (H2 : Hp) (n : Int) (x1 : Int) : VS := ⟨mkFr 20 [(3, .v (.int .i64 n)), (7, .v (.slice x.a x.len x.cap)), (8, .v (.int .i64 ((x.len : Nat) : Int))), (9, .v (.int .i64 x1))], [], H2⟩
noncomputable def pack_Reader_Num.l1 (J : Jn) (x : Sl) (H2 : Hp) (n : Int) (x1 : Int) (Q : Value → Hp → Prop) : Prop := vAt Try.prog pack_Reader_Num.cf J pack_Reader_Num.fn [1, 1, 0, 1, 0] [0, 0, 0, 0] Q (pack_Reader_Num.l1.st x H2 n x1)
attribute [irreducible] pack_Reader_Num.l1
noncomputable def pack_Reader_Num.l1.body (J : Jn) (x : Sl) (H2 : Hp) (n : Int) (x1 : Int) (Q : Value → Hp → Prop) : Prop :=
 
 Br (decide (x1 < ((x.len : Nat) : Int))) (((0 : Int) ≤ x1 ∧ x1 < ((x.len : Nat) : Int)) ∧ vPtr x.a (fun a => ∃ x2 : Int, Hp.cell? H2 (a.add ((x1 : Int).toNat * 1)) = some (.int .u8 x2) ∧ (0 : Int) ≤ 8 ∧ 
 pack_Reader_Num.l1 J x H2 (bor .i64 (w64 (n * 2 ^ 8)) (w64 (x2))) (w64 (x1 + 1)) Q))
 (Q (.int .i64 n) H2)
theorem pack_Reader_Num.l1.eq (J : Jn) (x : Sl) (H2 : Hp) (n : Int) (x1 : Int) (Q : Value → Hp → Prop) : vAtBody Try.prog pack_Reader_Num.cf J pack_Reader_Num.fn [1, 1, 0, 1, 0] [0, 0, 0, 0] Q (pack_Reader_Num.l1.st x H2 n x1) = pack_Reader_Num.l1.body J x H2 n x1 Q := by kernel_rfl
theorem pack_Reader_Num.l1.step {x : Sl} {H2 : Hp} {n : Int} {x1 : Int} {Q : Value → Hp → Prop} (h : pack_Reader_Num.l1.body J0 x H2 n x1 Q) : pack_Reader_Num.l1 J0 x H2 n x1 Q := vAt_stepC (pack_Reader_Num.l1.st x H2 n x1) (pack_Reader_Num.l1.eq J0 x H2 n x1 Q) (by kernel_rfl) h
noncomputable def pack_Reader_Num.vc (J : Jn) (r : Addr) (H : Hp) (Q : Value → Hp → Prop) : Prop :=
 
 SCalls Try.prog pack_Reader_take.id [.pointer (some r), .int .i64 8] H (fun r1 H1 => ∃ x : Sl, r1 = .slice x.a x.len x.cap ∧ 
 pack_Reader_Num.l1 J x H1 0 0 Q)
theorem pack_Reader_Num.eq (J : Jn) (r : Addr) (H : Hp) (Q : Value → Hp → Prop) : vFn Try.prog pack_Reader_Num.cf J pack_Reader_Num.fn [.pointer (some r)] H Q = pack_Reader_Num.vc J r H Q := by kernel_rfl
theorem pack_Reader_Num.calls {r : Addr} {H : Hp} {Q : Value → Hp → Prop} (h : pack_Reader_Num.vc J0 r H Q) : SCalls Try.prog pack_Reader_Num.id [.pointer (some r)] H Q := vFn_of Try.mixed Try.func46 (pack_Reader_Num.eq J0 r H Q) h

/-! 48: (*tephra/pack.Reader).Text -/
noncomputable def pack_Reader_Text.cf : Cfg := ⟨[], [], [], [], true⟩
noncomputable def pack_Reader_Text.vc (J : Jn) (r : Addr) (H : Hp) (Q : Value → Hp → Prop) : Prop :=
 
 SCalls Try.prog pack_Reader_Num.id [.pointer (some r)] H (fun r1 H1 => ∃ x : Int, r1 = .int .i64 x ∧ 
 SCalls Try.prog pack_Reader_take.id [.pointer (some r), .int .i64 x] H1 (fun r2 H2 => ∃ x1 : Sl, r2 = .slice x1.a x1.len x1.cap ∧ vB2S H2 x1.a x1.len (fun s => Q (.string s) H2)))
theorem pack_Reader_Text.eq (J : Jn) (r : Addr) (H : Hp) (Q : Value → Hp → Prop) : vFn Try.prog pack_Reader_Text.cf J pack_Reader_Text.fn [.pointer (some r)] H Q = pack_Reader_Text.vc J r H Q := by kernel_rfl
theorem pack_Reader_Text.calls {r : Addr} {H : Hp} {Q : Value → Hp → Prop} (h : pack_Reader_Text.vc J0 r H Q) : SCalls Try.prog pack_Reader_Text.id [.pointer (some r)] H Q := vFn_of Try.mixed Try.func48 (pack_Reader_Text.eq J0 r H Q) h

/-! 49: (*tephra/pack.Reader).Byte -/
noncomputable def pack_Reader_Byte.cf : Cfg := ⟨[], [(2, [6, 7, 8])], [], [], true⟩
noncomputable def pack_Reader_Byte.l1.st (x : Sl) (H2 : Hp) : VS := ⟨mkFr 14 [(6, .v (.slice x.a x.len x.cap)), (7, .v (.int .i64 ((x.len : Nat) : Int))), (8, .v (.int .i64 0))], [], H2⟩
noncomputable def pack_Reader_Byte.l1 (J : Jn) (x : Sl) (H2 : Hp) (Q : Value → Hp → Prop) : Prop := vAt Try.prog pack_Reader_Byte.cf J pack_Reader_Byte.fn [1, 0, 1, 0] [0, 0, 0] Q (pack_Reader_Byte.l1.st x H2)
attribute [irreducible] pack_Reader_Byte.l1
noncomputable def pack_Reader_Byte.l1.body (J : Jn) (x : Sl) (H2 : Hp) (Q : Value → Hp → Prop) : Prop :=
 
 Br (decide ((0 : Int) < ((x.len : Nat) : Int))) (((0 : Int) ≤ 0 ∧ (0 : Int) < ((x.len : Nat) : Int)) ∧ vPtr x.a (fun a => ∃ x1 : Int, Hp.cell? H2 a = some (.int .u8 x1) ∧ Q (.int .u8 x1) H2))
 (Q (.int .u8 0) H2)
theorem pack_Reader_Byte.l1.eq (J : Jn) (x : Sl) (H2 : Hp) (Q : Value → Hp → Prop) : vAtBody Try.prog pack_Reader_Byte.cf J pack_Reader_Byte.fn [1, 0, 1, 0] [0, 0, 0] Q (pack_Reader_Byte.l1.st x H2) = pack_Reader_Byte.l1.body J x H2 Q := by kernel_rfl
theorem pack_Reader_Byte.l1.step {x : Sl} {H2 : Hp} {Q : Value → Hp → Prop} (h : pack_Reader_Byte.l1.body J0 x H2 Q) : pack_Reader_Byte.l1 J0 x H2 Q := vAt_stepC (pack_Reader_Byte.l1.st x H2) (pack_Reader_Byte.l1.eq J0 x H2 Q) (by kernel_rfl) h
noncomputable def pack_Reader_Byte.vc (J : Jn) (r : Addr) (H : Hp) (Q : Value → Hp → Prop) : Prop :=
 
 SCalls Try.prog pack_Reader_take.id [.pointer (some r), .int .i64 1] H (fun r1 H1 => ∃ x : Sl, r1 = .slice x.a x.len x.cap ∧ 
 pack_Reader_Byte.l1 J x H1 Q)
theorem pack_Reader_Byte.eq (J : Jn) (r : Addr) (H : Hp) (Q : Value → Hp → Prop) : vFn Try.prog pack_Reader_Byte.cf J pack_Reader_Byte.fn [.pointer (some r)] H Q = pack_Reader_Byte.vc J r H Q := by kernel_rfl
theorem pack_Reader_Byte.calls {r : Addr} {H : Hp} {Q : Value → Hp → Prop} (h : pack_Reader_Byte.vc J0 r H Q) : SCalls Try.prog pack_Reader_Byte.id [.pointer (some r)] H Q := vFn_of Try.mixed Try.func49 (pack_Reader_Byte.eq J0 r H Q) h

/-! 50: (*tephra/sorted.Map_int, tephra/api.Session_).find -/
noncomputable def sorted_Map_int_api_Session_find.cf : Cfg := ⟨[], [], [], [], true⟩
noncomputable def sorted_Map_int_api_Session_find.vc (J : Jn) (m : Addr) (k : Int) (H : Hp) (Q : Value → Hp → Prop) : Prop :=
 ∃ items : Sl, Hp.cell? H m = some (.slice items.a items.len items.cap) ∧ 
 SCalls Try.prog slices_BinarySearchFunc_sl_sorted_item_int_api_Session_sorted_item_int_api_Session_int.id [.slice items.a items.len items.cap, .int .i64 k, .func (.func 60) #[] #[]] H (fun r H1 => ∃ x : Int, ∃ x1 : Bool, r = .tuple #[.int .i64 x, .bool x1] ∧ Q (.tuple #[.int .i64 x, .bool x1]) H1)
theorem sorted_Map_int_api_Session_find.eq (J : Jn) (m : Addr) (k : Int) (H : Hp) (Q : Value → Hp → Prop) : vFn Try.prog sorted_Map_int_api_Session_find.cf J sorted_Map_int_api_Session_find.fn [.pointer (some m), .int .i64 k] H Q = sorted_Map_int_api_Session_find.vc J m k H Q := by kernel_rfl
theorem sorted_Map_int_api_Session_find.calls {m : Addr} {k : Int} {H : Hp} {Q : Value → Hp → Prop} (h : sorted_Map_int_api_Session_find.vc J0 m k H Q) : SCalls Try.prog sorted_Map_int_api_Session_find.id [.pointer (some m), .int .i64 k] H Q := vFn_of Try.mixed Try.func50 (sorted_Map_int_api_Session_find.eq J0 m k H Q) h

end Go.Proofs
