/- THE SEAT'S CODE, AS WALKED, first half: for each function what is to be shown of it (printed by the own program gen.py), held by the kernel. -/
import Derived.Test.YthehagkjoofjiaaProg
import Derived.Test.YthehagkjoofjiaaKc13
set_option maxRecDepth 100000
set_option linter.all false
set_option linter.constructorNameAsVariable false
namespace Go.Proofs
open Go Go.KC
theorem Try.mixed : Try.prog.follows .mixedOrders = true := by kernel_rfl
abbrev tephralaw08_DeltaDo.id : Nat := 3
noncomputable abbrev tephralaw08_DeltaDo.fn : Func := Try.f3
abbrev tephralaw08_DeltaFull.id : Nat := 4
noncomputable abbrev tephralaw08_DeltaFull.fn : Func := Try.f4
abbrev tephralaw08_DeltaSame.id : Nat := 5
noncomputable abbrev tephralaw08_DeltaSame.fn : Func := Try.f5
abbrev tephralaw08_DeltaBetween.id : Nat := 6
noncomputable abbrev tephralaw08_DeltaBetween.fn : Func := Try.f6
abbrev tephralaw08_DeltaThree.id : Nat := 7
noncomputable abbrev tephralaw08_DeltaThree.fn : Func := Try.f7
abbrev tephralaw08_DeltaJoin.id : Nat := 8
noncomputable abbrev tephralaw08_DeltaJoin.fn : Func := Try.f8
abbrev tephralaw08_DeltaMany.id : Nat := 9
noncomputable abbrev tephralaw08_DeltaMany.fn : Func := Try.f9
abbrev tephralaw08_awake.id : Nat := 10
noncomputable abbrev tephralaw08_awake.fn : Func := Try.f10
abbrev tephralaw08_Three.id : Nat := 11
noncomputable abbrev tephralaw08_Three.fn : Func := Try.f11
abbrev delta_Between.id : Nat := 12
noncomputable abbrev delta_Between.fn : Func := Try.f12
abbrev delta_Do.id : Nat := 13
noncomputable abbrev delta_Do.fn : Func := Try.f13
abbrev state_Same.id : Nat := 14
noncomputable abbrev state_Same.fn : Func := Try.f14
abbrev tephralaw07_Some.id : Nat := 15
noncomputable abbrev tephralaw07_Some.fn : Func := Try.f15
abbrev delta_Right.id : Nat := 16
noncomputable abbrev delta_Right.fn : Func := Try.f16
abbrev tephralaw08_values.id : Nat := 17
noncomputable abbrev tephralaw08_values.fn : Func := Try.f17
abbrev state_Fold.id : Nat := 18
noncomputable abbrev state_Fold.fn : Func := Try.f18
abbrev tephralaw06_Entries.id : Nat := 19
noncomputable abbrev tephralaw06_Entries.fn : Func := Try.f19
abbrev delta_Join.id : Nat := 20
noncomputable abbrev delta_Join.fn : Func := Try.f20
abbrev delta_Same.id : Nat := 21
noncomputable abbrev delta_Same.fn : Func := Try.f21
abbrev delta_seq.id : Nat := 22
noncomputable abbrev delta_seq.fn : Func := Try.f22
abbrev sorted_Map_string_string_Put.id : Nat := 23
noncomputable abbrev sorted_Map_string_string_Put.fn : Func := Try.f23
abbrev sorted_Merge_string_string.id : Nat := 24
noncomputable abbrev sorted_Merge_string_string.fn : Func := Try.f24
abbrev sorted_Map_string_string_All.id : Nat := 25
noncomputable abbrev sorted_Map_string_string_All.fn : Func := Try.f25
abbrev sorted_Map_string_string_Get.id : Nat := 26
noncomputable abbrev sorted_Map_string_string_Get.fn : Func := Try.f26
abbrev sorted_Merge_string_api_Pair.id : Nat := 27
noncomputable abbrev sorted_Merge_string_api_Pair.fn : Func := Try.f27
abbrev state_Bytes.id : Nat := 28
noncomputable abbrev state_Bytes.fn : Func := Try.f28
abbrev state_RightRows.id : Nat := 29
noncomputable abbrev state_RightRows.fn : Func := Try.f29
abbrev state_Apply.id : Nat := 30
noncomputable abbrev state_Apply.fn : Func := Try.f30
abbrev tephralaw06_Say_Cmd.id : Nat := 31
noncomputable abbrev tephralaw06_Say_Cmd.fn : Func := Try.f31
abbrev delta_Bytes.id : Nat := 32
noncomputable abbrev delta_Bytes.fn : Func := Try.f32
abbrev delta_seq_1.id : Nat := 33
noncomputable abbrev delta_seq_1.fn : Func := Try.f33
abbrev sorted_Map_string_string_find.id : Nat := 34
noncomputable abbrev sorted_Map_string_string_find.fn : Func := Try.f34
abbrev slices_Insert_sl_sorted_item_string_string_sorted_item_string_string.id : Nat := 35
noncomputable abbrev slices_Insert_sl_sorted_item_string_string_sorted_item_string_string.fn : Func := Try.f35
abbrev sorted_Merge_string_string_1.id : Nat := 36
noncomputable abbrev sorted_Merge_string_string_1.fn : Func := Try.f36
abbrev sorted_Map_string_string_All_1.id : Nat := 37
noncomputable abbrev sorted_Map_string_string_All_1.fn : Func := Try.f37
abbrev sorted_Merge_string_api_Pair_1.id : Nat := 38
noncomputable abbrev sorted_Merge_string_api_Pair_1.fn : Func := Try.f38
abbrev pack_Writer_Num.id : Nat := 39
noncomputable abbrev pack_Writer_Num.fn : Func := Try.f39
abbrev state_PutRows.id : Nat := 40
noncomputable abbrev state_PutRows.fn : Func := Try.f40
abbrev pack_Writer_Bytes.id : Nat := 41
noncomputable abbrev pack_Writer_Bytes.fn : Func := Try.f41
abbrev cmds_Right.id : Nat := 42
noncomputable abbrev cmds_Right.fn : Func := Try.f42
abbrev state_sessions.id : Nat := 43
noncomputable abbrev state_sessions.fn : Func := Try.f43
abbrev sorted_Map_int_api_Session_Get.id : Nat := 44
noncomputable abbrev sorted_Map_int_api_Session_Get.fn : Func := Try.f44
abbrev state_pairs.id : Nat := 45
noncomputable abbrev state_pairs.fn : Func := Try.f45
abbrev state_do.id : Nat := 46
noncomputable abbrev state_do.fn : Func := Try.f46
abbrev state_rows.id : Nat := 47
noncomputable abbrev state_rows.fn : Func := Try.f47
abbrev sorted_Map_int_api_Session_Put.id : Nat := 48
noncomputable abbrev sorted_Map_int_api_Session_Put.fn : Func := Try.f48
abbrev sorted_Map_int_api_Session_All.id : Nat := 49
noncomputable abbrev sorted_Map_int_api_Session_All.fn : Func := Try.f49
abbrev slices_BinarySearchFunc_sl_sorted_item_string_string_sorted_item_string_string_string.id : Nat := 50
noncomputable abbrev slices_BinarySearchFunc_sl_sorted_item_string_string_sorted_item_string_string_string.fn : Func := Try.f50
abbrev sorted_Map_string_string_find_1.id : Nat := 51
noncomputable abbrev sorted_Map_string_string_find_1.fn : Func := Try.f51
abbrev cmp_Compare_string.id : Nat := 52
noncomputable abbrev cmp_Compare_string.fn : Func := Try.f52
abbrev slices_rotateRight_sorted_item_string_string.id : Nat := 54
noncomputable abbrev slices_rotateRight_sorted_item_string_string.fn : Func := Try.f54
abbrev pack_Writer_Text.id : Nat := 55
noncomputable abbrev pack_Writer_Text.fn : Func := Try.f55
abbrev pack_Writer_Byte.id : Nat := 56
noncomputable abbrev pack_Writer_Byte.fn : Func := Try.f56
abbrev cmds_May.id : Nat := 57
noncomputable abbrev cmds_May.fn : Func := Try.f57
abbrev sorted_Map_int_api_Session_find.id : Nat := 58
noncomputable abbrev sorted_Map_int_api_Session_find.fn : Func := Try.f58
abbrev sorted_Map_string_string_Len.id : Nat := 59
noncomputable abbrev sorted_Map_string_string_Len.fn : Func := Try.f59
abbrev sorted_Map_string_string_Del.id : Nat := 60
noncomputable abbrev sorted_Map_string_string_Del.fn : Func := Try.f60
abbrev slices_Insert_sl_sorted_item_int_api_Session_sorted_item_int_api_Session.id : Nat := 61
noncomputable abbrev slices_Insert_sl_sorted_item_int_api_Session_sorted_item_int_api_Session.fn : Func := Try.f61
abbrev sorted_Map_int_api_Session_All_1.id : Nat := 62
noncomputable abbrev sorted_Map_int_api_Session_All_1.fn : Func := Try.f62
abbrev cmp_isNaN_string.id : Nat := 63
noncomputable abbrev cmp_isNaN_string.fn : Func := Try.f63
abbrev slices_rotateLeft_sorted_item_string_string.id : Nat := 64
noncomputable abbrev slices_rotateLeft_sorted_item_string_string.fn : Func := Try.f64
abbrev slices_BinarySearchFunc_sl_sorted_item_int_api_Session_sorted_item_int_api_Session_int.id : Nat := 65
noncomputable abbrev slices_BinarySearchFunc_sl_sorted_item_int_api_Session_sorted_item_int_api_Session_int.fn : Func := Try.f65
abbrev sorted_Map_int_api_Session_find_1.id : Nat := 66
noncomputable abbrev sorted_Map_int_api_Session_find_1.fn : Func := Try.f66
abbrev cmp_Compare_int.id : Nat := 67
noncomputable abbrev cmp_Compare_int.fn : Func := Try.f67
abbrev slices_Delete_sl_sorted_item_string_string_sorted_item_string_string.id : Nat := 68
noncomputable abbrev slices_Delete_sl_sorted_item_string_string_sorted_item_string_string.fn : Func := Try.f68
abbrev slices_rotateRight_sorted_item_int_api_Session.id : Nat := 70
noncomputable abbrev slices_rotateRight_sorted_item_int_api_Session.fn : Func := Try.f70
abbrev slices_Reverse_sl_sorted_item_string_string_sorted_item_string_string.id : Nat := 71
noncomputable abbrev slices_Reverse_sl_sorted_item_string_string_sorted_item_string_string.fn : Func := Try.f71
abbrev cmp_isNaN_int.id : Nat := 72
noncomputable abbrev cmp_isNaN_int.fn : Func := Try.f72
abbrev slices_rotateLeft_sorted_item_int_api_Session.id : Nat := 73
noncomputable abbrev slices_rotateLeft_sorted_item_int_api_Session.fn : Func := Try.f73
abbrev slices_Reverse_sl_sorted_item_int_api_Session_sorted_item_int_api_Session.id : Nat := 74
noncomputable abbrev slices_Reverse_sl_sorted_item_int_api_Session_sorted_item_int_api_Session.fn : Func := Try.f74
abbrev T_ : Nat := 0
abbrev T_func : Nat := 1
abbrev T_int64 : Nat := 2
abbrev T_int : Nat := 3
abbrev T_bool : Nat := 4
abbrev T_uint8 : Nat := 5
abbrev T_abi_BoundsErrorCode : Nat := 6
abbrev T_struct_x_int64_y_int_signed_bool_code_abi_BoundsErrorCode : Nat := 7
abbrev T_runtime_boundsError : Nat := 8
abbrev T_string : Nat := 9
abbrev T_runtime_errorString : Nat := 10
abbrev T_runtime_plainError : Nat := 11
abbrev T_uintptr : Nat := 12
abbrev T_struct_msg_string_addr_uintptr : Nat := 13
abbrev T_runtime_errorAddressString : Nat := 14
abbrev T_p_runtime_TypeAssertionError : Nat := 15
abbrev T_p_runtime_PanicNilError : Nat := 16
abbrev T_p_abi_Type : Nat := 17
abbrev T_struct_typ_p_abi_Type : Nat := 18
abbrev T_maps_unhashableTypeError : Nat := 19
abbrev T_interface : Nat := 20
abbrev T_int32 : Nat := 21
abbrev T_sl_tephralaw06_Say : Nat := 22
abbrev T_func_bool : Nat := 23
abbrev T_sl_api_Pair : Nat := 24
abbrev T_sl_api_Session : Nat := 25
abbrev T_struct_Index_int_Term_int_Pairs_sl_api_Pair_Sessions_sl_api_ : Nat := 26
abbrev T_api_State : Nat := 27
abbrev T_3_api_State : Nat := 28
abbrev T_func_sl_tephralaw06_Say_uint8_uint8_3_api_State : Nat := 29
abbrev T_struct_From_int_To_int_Term_int_Pairs_sl_api_Pair_Sessions_s : Nat := 30
abbrev T_delta_Delta : Nat := 31
abbrev T_api_Errno : Nat := 32
abbrev T_delta_Delta_api_Errno : Nat := 33
abbrev T_func_api_State_api_State_delta_Delta_api_Errno : Nat := 34
abbrev T_api_State_api_Errno : Nat := 35
abbrev T_func_api_State_delta_Delta_api_State_api_Errno : Nat := 36
abbrev T_func_api_State_api_State_bool : Nat := 37
abbrev T_func_sl_tephralaw06_Say_uint8_uint8_bool : Nat := 38
abbrev T_sl_uint8 : Nat := 39
abbrev T_struct_Key_string_Value_string_Gone_bool : Nat := 40
abbrev T_api_Pair : Nat := 41
abbrev T_func_uint8_uint8_bool : Nat := 42
abbrev T_func_sl_tephralaw06_Say_api_State : Nat := 43
abbrev T_func_sl_tephralaw06_Say_bool : Nat := 44
abbrev T_func_delta_Delta_bool : Nat := 45
abbrev T_map_string_api_Pair : Nat := 46
abbrev T_func_sl_api_Pair_map_string_api_Pair : Nat := 47
abbrev T_api_Pair_bool : Nat := 48
abbrev T_func_api_State_sl_api_Entry_api_State : Nat := 49
abbrev T_sl_api_Entry : Nat := 50
abbrev T_func_sl_tephralaw06_Say_int_int_sl_api_Entry : Nat := 51
abbrev T_func_delta_Delta_delta_Delta_delta_Delta_api_Errno : Nat := 52
abbrev T_func_delta_Delta_delta_Delta_bool : Nat := 53
abbrev T_func_sl_tephralaw06_Say_sl_tephralaw06_Say_uint8_uint8_bool : Nat := 54
abbrev T_func_uint8_bool : Nat := 55
abbrev T_sl_sorted_item_string_string : Nat := 56
abbrev T_struct_items_sl_sorted_item_string_string : Nat := 57
abbrev T_sorted_Map_string_string : Nat := 58
abbrev T_func_func_string_api_Pair_bool : Nat := 59
abbrev T_iter_Seq2_string_api_Pair : Nat := 60
abbrev T_func_sl_api_Pair_iter_Seq2_string_api_Pair : Nat := 61
abbrev T_func_string_string_bool : Nat := 62
abbrev T_func_func_string_string_bool : Nat := 63
abbrev T_iter_Seq2_string_string : Nat := 64
abbrev T_func_iter_Seq2_string_string_iter_Seq2_string_string_iter_Se : Nat := 65
abbrev T_func_iter_Seq2_string_string : Nat := 66
abbrev T_string_bool : Nat := 67
abbrev T_func_string_string_bool_68 : Nat := 68
abbrev T_func_iter_Seq2_string_api_Pair_iter_Seq2_string_api_Pair_ite : Nat := 69
abbrev T_func_api_State_sl_uint8 : Nat := 70
abbrev T_func_sl_api_Pair_sl_api_Session_int_bool : Nat := 71
abbrev T_api_Op : Nat := 72
abbrev T_struct_Op_api_Op_Client_int_Seq_int_Key_string_Value_string_ : Nat := 73
abbrev T_api_Cmd : Nat := 74
abbrev T_struct_Index_int_Term_int_Cmd_api_Cmd : Nat := 75
abbrev T_api_Entry : Nat := 76
abbrev T_struct_Err_api_Errno_Value_string : Nat := 77
abbrev T_api_Reply : Nat := 78
abbrev T_api_State_api_Reply : Nat := 79
abbrev T_func_api_State_api_Entry_api_State_api_Reply : Nat := 80
abbrev T_struct_Op_uint8_Client_uint8_Seq_uint8_Key_uint8_Value_uint8 : Nat := 81
abbrev T_tephralaw06_Say : Nat := 82
abbrev T_func_api_Cmd : Nat := 83
abbrev T_func_delta_Delta_sl_uint8 : Nat := 84
abbrev T_func_string_api_Pair_bool : Nat := 85
abbrev T_p_sorted_Map_string_string : Nat := 86
abbrev T_int_bool : Nat := 87
abbrev T_func_string_int_bool : Nat := 88
abbrev T_struct_key_string_value_string : Nat := 89
abbrev T_sorted_item_string_string : Nat := 90
abbrev T_func_sl_sorted_item_string_string_int_sorted_item_string_str : Nat := 91
abbrev T_sl_sorted_item_string_api_Pair : Nat := 92
abbrev T_struct_key_string_value_api_Pair : Nat := 93
abbrev T_sorted_item_string_api_Pair : Nat := 94
abbrev T_p_pack_Writer : Nat := 95
abbrev T_struct_b_sl_uint8 : Nat := 96
abbrev T_pack_Writer : Nat := 97
abbrev T_func_int_p_pack_Writer : Nat := 98
abbrev T_func_p_pack_Writer_sl_api_Pair_sl_api_Session : Nat := 99
abbrev T_func_sl_uint8 : Nat := 100
abbrev T_struct_Client_int_Seq_int_Reply_api_Reply : Nat := 101
abbrev T_api_Session : Nat := 102
abbrev T_func_api_Entry_bool : Nat := 103
abbrev T_p_sorted_Map_int_api_Session : Nat := 104
abbrev T_func_api_State_p_sorted_Map_int_api_Session : Nat := 105
abbrev T_api_Session_bool : Nat := 106
abbrev T_func_int_api_Session_bool : Nat := 107
abbrev T_func_api_State_p_sorted_Map_string_string : Nat := 108
abbrev T_func_p_sorted_Map_string_string_api_Cmd_api_Reply : Nat := 109
abbrev T_func_p_sorted_Map_string_string_sl_api_Pair : Nat := 110
abbrev T_func_int_api_Session_bool_111 : Nat := 111
abbrev T_func_func_int_api_Session_bool : Nat := 112
abbrev T_iter_Seq2_int_api_Session : Nat := 113
abbrev T_func_iter_Seq2_int_api_Session : Nat := 114
abbrev T_func_sl_sorted_item_string_string_string_func_sorted_item_st : Nat := 115
abbrev T_func_string_string_int : Nat := 116
abbrev T_func_sorted_item_string_string_string_int : Nat := 117
abbrev T_func_sl_sorted_item_string_string_sl_sorted_item_string_stri : Nat := 118
abbrev T_func_sl_sorted_item_string_string_int : Nat := 119
abbrev T_func_string_p_pack_Writer : Nat := 120
abbrev T_func_uint8_p_pack_Writer : Nat := 121
abbrev T_func_api_Cmd_bool : Nat := 122
abbrev T_sl_sorted_item_int_api_Session : Nat := 123
abbrev T_struct_items_sl_sorted_item_int_api_Session : Nat := 124
abbrev T_sorted_Map_int_api_Session : Nat := 125
abbrev T_func_int_int_bool : Nat := 126
abbrev T_struct_key_int_value_api_Session : Nat := 127
abbrev T_sorted_item_int_api_Session : Nat := 128
abbrev T_func_int : Nat := 129
abbrev T_func_string_bool : Nat := 130
abbrev T_func_sl_sorted_item_int_api_Session_int_sorted_item_int_api_ : Nat := 131
abbrev T_uint : Nat := 132
abbrev T_func_sl_sorted_item_int_api_Session_int_func_sorted_item_int : Nat := 133
abbrev T_func_int_int_int : Nat := 134
abbrev T_func_sorted_item_int_api_Session_int_int : Nat := 135
abbrev T_func_sl_sorted_item_string_string_int_int_sl_sorted_item_str : Nat := 136
abbrev T_func_sl_sorted_item_int_api_Session_sl_sorted_item_int_api_S : Nat := 137
abbrev T_func_sl_sorted_item_int_api_Session_int : Nat := 138
abbrev T_func_sl_sorted_item_string_string : Nat := 139
abbrev T_func_int_bool : Nat := 140
abbrev T_func_sl_sorted_item_int_api_Session : Nat := 141
abbrev T_func_string : Nat := 142
abbrev T_struct__interface_p_abi_Type_concrete_p_abi_Type_asserted_p_ : Nat := 143
abbrev T_runtime_TypeAssertionError : Nat := 144
abbrev T_0_p_runtime_PanicNilError : Nat := 145
abbrev T_struct___0_p_runtime_PanicNilError : Nat := 146
abbrev T_runtime_PanicNilError : Nat := 147
abbrev T_uint32 : Nat := 148
abbrev T_abi_TFlag : Nat := 149
abbrev T_abi_Kind : Nat := 150
abbrev T_func_unsafe_Pointer_unsafe_Pointer_bool : Nat := 151
abbrev T_p_uint8 : Nat := 152
abbrev T_abi_NameOff : Nat := 153
abbrev T_abi_TypeOff : Nat := 154
abbrev T_struct_Size__uintptr_PtrBytes_uintptr_Hash_uint32_TFlag_abi_ : Nat := 155
abbrev T_abi_Type : Nat := 156
abbrev T_unsafe_Pointer : Nat := 157

/-! 10: tephra/tephralaw08.awake -/
noncomputable def tephralaw08_awake.cf : Cfg := ⟨[1, 2, 3, 5, 7, 1000003], [], [], [(36, [2, 5, 7, 8, 36]), (40, [2, 5, 7, 40]), (45, [5, 45]), (51, [5, 51]), (58, [5, 58])], true⟩
noncomputable def tephralaw08_awake.k1.st (Index : Int) (Term : Int) (Pairs : Sl) (Sessions : Sl) (b : Nat) (From : Int) (To : Int) (Term1 : Int) (Pairs1 : Sl) (Sessions1 : Sl) (From1 : Int) (To1 : Int) (Term2 : Int) (Pairs2 : Sl) (Sessions2 : Sl) (Index1 : Int) (Term3 : Int) (Pairs3 : Sl) (Sessions3 : Sl) (x2 : Int) (H10 : Hp) (x3 : Bool) : VS := ⟨mkFr 64 [(2, .loc 1 0), (5, .loc 3 0), (7, .loc 4 0), (8, .v (.int .i64 x2)), (36, .v (.bool x3))], [(T_api_State, [.int .i64 Index, .int .i64 Term, .slice Pairs.a Pairs.len Pairs.cap, .slice Sessions.a Sessions.len Sessions.cap]), (T_api_State, [.int .i64 2, .int .i64 0, .slice (some (Addr.mk b 0 none)) 1 1, .slice none 0 0]), (T_delta_Delta, [.int .i64 From, .int .i64 To, .int .i64 Term1, .slice Pairs1.a Pairs1.len Pairs1.cap, .slice Sessions1.a Sessions1.len Sessions1.cap]), (T_delta_Delta, [.int .i64 From1, .int .i64 To1, .int .i64 Term2, .slice Pairs2.a Pairs2.len Pairs2.cap, .slice Sessions2.a Sessions2.len Sessions2.cap]), (T_api_State, [.int .i64 Index1, .int .i64 Term3, .slice Pairs3.a Pairs3.len Pairs3.cap, .slice Sessions3.a Sessions3.len Sessions3.cap])], H10⟩
noncomputable def tephralaw08_awake.k1 (J : Jn) (Index : Int) (Term : Int) (Pairs : Sl) (Sessions : Sl) (b : Nat) (From : Int) (To : Int) (Term1 : Int) (Pairs1 : Sl) (Sessions1 : Sl) (From1 : Int) (To1 : Int) (Term2 : Int) (Pairs2 : Sl) (Sessions2 : Sl) (Index1 : Int) (Term3 : Int) (Pairs3 : Sl) (Sessions3 : Sl) (x2 : Int) (H10 : Hp) (x3 : Bool) (Q : Value → Hp → Prop) : Prop := J (vMid Try.prog tephralaw08_awake.cf J tephralaw08_awake.fn [1, 1, 1, 1, 1, 1, 0] [0, 0, 1, 2, 3, 4, 5] 6 Q) (tephralaw08_awake.k1.st Index Term Pairs Sessions b From To Term1 Pairs1 Sessions1 From1 To1 Term2 Pairs2 Sessions2 Index1 Term3 Pairs3 Sessions3 x2 H10 x3)
noncomputable def tephralaw08_awake.k2.st (Index : Int) (Term : Int) (Pairs : Sl) (Sessions : Sl) (b : Nat) (From : Int) (To : Int) (Term1 : Int) (Pairs1 : Sl) (Sessions1 : Sl) (From1 : Int) (To1 : Int) (Term2 : Int) (Pairs2 : Sl) (Sessions2 : Sl) (Index1 : Int) (Term3 : Int) (Pairs3 : Sl) (Sessions3 : Sl) (H10 : Hp) (x4 : Bool) : VS := ⟨mkFr 64 [(2, .loc 1 0), (5, .loc 3 0), (7, .loc 4 0), (40, .v (.bool x4))], [(T_api_State, [.int .i64 Index, .int .i64 Term, .slice Pairs.a Pairs.len Pairs.cap, .slice Sessions.a Sessions.len Sessions.cap]), (T_api_State, [.int .i64 2, .int .i64 0, .slice (some (Addr.mk b 0 none)) 1 1, .slice none 0 0]), (T_delta_Delta, [.int .i64 From, .int .i64 To, .int .i64 Term1, .slice Pairs1.a Pairs1.len Pairs1.cap, .slice Sessions1.a Sessions1.len Sessions1.cap]), (T_delta_Delta, [.int .i64 From1, .int .i64 To1, .int .i64 Term2, .slice Pairs2.a Pairs2.len Pairs2.cap, .slice Sessions2.a Sessions2.len Sessions2.cap]), (T_api_State, [.int .i64 Index1, .int .i64 Term3, .slice Pairs3.a Pairs3.len Pairs3.cap, .slice Sessions3.a Sessions3.len Sessions3.cap])], H10⟩
noncomputable def tephralaw08_awake.k2 (J : Jn) (Index : Int) (Term : Int) (Pairs : Sl) (Sessions : Sl) (b : Nat) (From : Int) (To : Int) (Term1 : Int) (Pairs1 : Sl) (Sessions1 : Sl) (From1 : Int) (To1 : Int) (Term2 : Int) (Pairs2 : Sl) (Sessions2 : Sl) (Index1 : Int) (Term3 : Int) (Pairs3 : Sl) (Sessions3 : Sl) (H10 : Hp) (x4 : Bool) (Q : Value → Hp → Prop) : Prop := J (vMid Try.prog tephralaw08_awake.cf J tephralaw08_awake.fn [1, 1, 1, 1, 1, 1, 0] [0, 0, 1, 2, 3, 4, 5] 10 Q) (tephralaw08_awake.k2.st Index Term Pairs Sessions b From To Term1 Pairs1 Sessions1 From1 To1 Term2 Pairs2 Sessions2 Index1 Term3 Pairs3 Sessions3 H10 x4)
noncomputable def tephralaw08_awake.k3.st (Index : Int) (Term : Int) (Pairs : Sl) (Sessions : Sl) (b : Nat) (From : Int) (To : Int) (Term1 : Int) (Pairs1 : Sl) (Sessions1 : Sl) (From1 : Int) (To1 : Int) (Term2 : Int) (Pairs2 : Sl) (Sessions2 : Sl) (Index1 : Int) (Term3 : Int) (Pairs3 : Sl) (Sessions3 : Sl) (x6 : Bool) (H12 : Hp) : VS := ⟨mkFr 64 [(5, .loc 3 0), (45, .v (.bool x6))], [(T_api_State, [.int .i64 Index, .int .i64 Term, .slice Pairs.a Pairs.len Pairs.cap, .slice Sessions.a Sessions.len Sessions.cap]), (T_api_State, [.int .i64 2, .int .i64 0, .slice (some (Addr.mk b 0 none)) 1 1, .slice none 0 0]), (T_delta_Delta, [.int .i64 From, .int .i64 To, .int .i64 Term1, .slice Pairs1.a Pairs1.len Pairs1.cap, .slice Sessions1.a Sessions1.len Sessions1.cap]), (T_delta_Delta, [.int .i64 From1, .int .i64 To1, .int .i64 Term2, .slice Pairs2.a Pairs2.len Pairs2.cap, .slice Sessions2.a Sessions2.len Sessions2.cap]), (T_api_State, [.int .i64 Index1, .int .i64 Term3, .slice Pairs3.a Pairs3.len Pairs3.cap, .slice Sessions3.a Sessions3.len Sessions3.cap])], H12⟩
noncomputable def tephralaw08_awake.k3 (J : Jn) (Index : Int) (Term : Int) (Pairs : Sl) (Sessions : Sl) (b : Nat) (From : Int) (To : Int) (Term1 : Int) (Pairs1 : Sl) (Sessions1 : Sl) (From1 : Int) (To1 : Int) (Term2 : Int) (Pairs2 : Sl) (Sessions2 : Sl) (Index1 : Int) (Term3 : Int) (Pairs3 : Sl) (Sessions3 : Sl) (x6 : Bool) (H12 : Hp) (Q : Value → Hp → Prop) : Prop := J (vMid Try.prog tephralaw08_awake.cf J tephralaw08_awake.fn [1, 1, 1, 1, 1, 1, 0] [0, 0, 1, 2, 3, 4, 5] 15 Q) (tephralaw08_awake.k3.st Index Term Pairs Sessions b From To Term1 Pairs1 Sessions1 From1 To1 Term2 Pairs2 Sessions2 Index1 Term3 Pairs3 Sessions3 x6 H12)
noncomputable def tephralaw08_awake.k4.st (Index : Int) (Term : Int) (Pairs : Sl) (Sessions : Sl) (b : Nat) (From : Int) (To : Int) (Term1 : Int) (Pairs1 : Sl) (Sessions1 : Sl) (From1 : Int) (To1 : Int) (Term2 : Int) (Pairs2 : Sl) (Sessions2 : Sl) (Index1 : Int) (Term3 : Int) (Pairs3 : Sl) (Sessions3 : Sl) (H12 : Hp) (x7 : Bool) : VS := ⟨mkFr 64 [(5, .loc 3 0), (51, .v (.bool x7))], [(T_api_State, [.int .i64 Index, .int .i64 Term, .slice Pairs.a Pairs.len Pairs.cap, .slice Sessions.a Sessions.len Sessions.cap]), (T_api_State, [.int .i64 2, .int .i64 0, .slice (some (Addr.mk b 0 none)) 1 1, .slice none 0 0]), (T_delta_Delta, [.int .i64 From, .int .i64 To, .int .i64 Term1, .slice Pairs1.a Pairs1.len Pairs1.cap, .slice Sessions1.a Sessions1.len Sessions1.cap]), (T_delta_Delta, [.int .i64 From1, .int .i64 To1, .int .i64 Term2, .slice Pairs2.a Pairs2.len Pairs2.cap, .slice Sessions2.a Sessions2.len Sessions2.cap]), (T_api_State, [.int .i64 Index1, .int .i64 Term3, .slice Pairs3.a Pairs3.len Pairs3.cap, .slice Sessions3.a Sessions3.len Sessions3.cap])], H12⟩
noncomputable def tephralaw08_awake.k4 (J : Jn) (Index : Int) (Term : Int) (Pairs : Sl) (Sessions : Sl) (b : Nat) (From : Int) (To : Int) (Term1 : Int) (Pairs1 : Sl) (Sessions1 : Sl) (From1 : Int) (To1 : Int) (Term2 : Int) (Pairs2 : Sl) (Sessions2 : Sl) (Index1 : Int) (Term3 : Int) (Pairs3 : Sl) (Sessions3 : Sl) (H12 : Hp) (x7 : Bool) (Q : Value → Hp → Prop) : Prop := J (vMid Try.prog tephralaw08_awake.cf J tephralaw08_awake.fn [1, 1, 1, 1, 1, 1, 0] [0, 0, 1, 2, 3, 4, 5] 21 Q) (tephralaw08_awake.k4.st Index Term Pairs Sessions b From To Term1 Pairs1 Sessions1 From1 To1 Term2 Pairs2 Sessions2 Index1 Term3 Pairs3 Sessions3 H12 x7)
noncomputable def tephralaw08_awake.k5.st (Index : Int) (Term : Int) (Pairs : Sl) (Sessions : Sl) (b : Nat) (From : Int) (To : Int) (Term1 : Int) (Pairs1 : Sl) (Sessions1 : Sl) (From1 : Int) (To1 : Int) (Term2 : Int) (Pairs2 : Sl) (Sessions2 : Sl) (Index1 : Int) (Term3 : Int) (Pairs3 : Sl) (Sessions3 : Sl) (H12 : Hp) (x8 : Bool) : VS := ⟨mkFr 64 [(5, .loc 3 0), (58, .v (.bool x8))], [(T_api_State, [.int .i64 Index, .int .i64 Term, .slice Pairs.a Pairs.len Pairs.cap, .slice Sessions.a Sessions.len Sessions.cap]), (T_api_State, [.int .i64 2, .int .i64 0, .slice (some (Addr.mk b 0 none)) 1 1, .slice none 0 0]), (T_delta_Delta, [.int .i64 From, .int .i64 To, .int .i64 Term1, .slice Pairs1.a Pairs1.len Pairs1.cap, .slice Sessions1.a Sessions1.len Sessions1.cap]), (T_delta_Delta, [.int .i64 From1, .int .i64 To1, .int .i64 Term2, .slice Pairs2.a Pairs2.len Pairs2.cap, .slice Sessions2.a Sessions2.len Sessions2.cap]), (T_api_State, [.int .i64 Index1, .int .i64 Term3, .slice Pairs3.a Pairs3.len Pairs3.cap, .slice Sessions3.a Sessions3.len Sessions3.cap])], H12⟩
noncomputable def tephralaw08_awake.k5 (J : Jn) (Index : Int) (Term : Int) (Pairs : Sl) (Sessions : Sl) (b : Nat) (From : Int) (To : Int) (Term1 : Int) (Pairs1 : Sl) (Sessions1 : Sl) (From1 : Int) (To1 : Int) (Term2 : Int) (Pairs2 : Sl) (Sessions2 : Sl) (Index1 : Int) (Term3 : Int) (Pairs3 : Sl) (Sessions3 : Sl) (H12 : Hp) (x8 : Bool) (Q : Value → Hp → Prop) : Prop := J (vMid Try.prog tephralaw08_awake.cf J tephralaw08_awake.fn [1, 1, 1, 1, 1, 1, 0] [0, 0, 1, 2, 3, 4, 5] 28 Q) (tephralaw08_awake.k5.st Index Term Pairs Sessions b From To Term1 Pairs1 Sessions1 From1 To1 Term2 Pairs2 Sessions2 Index1 Term3 Pairs3 Sessions3 H12 x8)
attribute [irreducible] tephralaw08_awake.k1 tephralaw08_awake.k2 tephralaw08_awake.k3 tephralaw08_awake.k4 tephralaw08_awake.k5
noncomputable def tephralaw08_awake.k1.body (J : Jn) (Index : Int) (Term : Int) (Pairs : Sl) (Sessions : Sl) (b : Nat) (From : Int) (To : Int) (Term1 : Int) (Pairs1 : Sl) (Sessions1 : Sl) (From1 : Int) (To1 : Int) (Term2 : Int) (Pairs2 : Sl) (Sessions2 : Sl) (Index1 : Int) (Term3 : Int) (Pairs3 : Sl) (Sessions3 : Sl) (x2 : Int) (H10 : Hp) (x3 : Bool) (Q : Value → Hp → Prop) : Prop :=
 
 Br x3 (
 tephralaw08_awake.k2 J Index Term Pairs Sessions b From To Term1 Pairs1 Sessions1 From1 To1 Term2 Pairs2 Sessions2 Index1 Term3 Pairs3 Sessions3 H10 (x2 == 0) Q)
 (
 tephralaw08_awake.k2 J Index Term Pairs Sessions b From To Term1 Pairs1 Sessions1 From1 To1 Term2 Pairs2 Sessions2 Index1 Term3 Pairs3 Sessions3 H10 false Q)
theorem tephralaw08_awake.k1.eq (J : Jn) (Index : Int) (Term : Int) (Pairs : Sl) (Sessions : Sl) (b : Nat) (From : Int) (To : Int) (Term1 : Int) (Pairs1 : Sl) (Sessions1 : Sl) (From1 : Int) (To1 : Int) (Term2 : Int) (Pairs2 : Sl) (Sessions2 : Sl) (Index1 : Int) (Term3 : Int) (Pairs3 : Sl) (Sessions3 : Sl) (x2 : Int) (H10 : Hp) (x3 : Bool) (Q : Value → Hp → Prop) : vMid Try.prog tephralaw08_awake.cf J tephralaw08_awake.fn [1, 1, 1, 1, 1, 1, 0] [0, 0, 1, 2, 3, 4, 5] 6 Q (tephralaw08_awake.k1.st Index Term Pairs Sessions b From To Term1 Pairs1 Sessions1 From1 To1 Term2 Pairs2 Sessions2 Index1 Term3 Pairs3 Sessions3 x2 H10 x3) = tephralaw08_awake.k1.body J Index Term Pairs Sessions b From To Term1 Pairs1 Sessions1 From1 To1 Term2 Pairs2 Sessions2 Index1 Term3 Pairs3 Sessions3 x2 H10 x3 Q := by kernel_rfl
theorem tephralaw08_awake.k1.step {Index : Int} {Term : Int} {Pairs : Sl} {Sessions : Sl} {b : Nat} {From : Int} {To : Int} {Term1 : Int} {Pairs1 : Sl} {Sessions1 : Sl} {From1 : Int} {To1 : Int} {Term2 : Int} {Pairs2 : Sl} {Sessions2 : Sl} {Index1 : Int} {Term3 : Int} {Pairs3 : Sl} {Sessions3 : Sl} {x2 : Int} {H10 : Hp} {x3 : Bool} {Q : Value → Hp → Prop} (h : tephralaw08_awake.k1.body J0 Index Term Pairs Sessions b From To Term1 Pairs1 Sessions1 From1 To1 Term2 Pairs2 Sessions2 Index1 Term3 Pairs3 Sessions3 x2 H10 x3 Q) : tephralaw08_awake.k1 J0 Index Term Pairs Sessions b From To Term1 Pairs1 Sessions1 From1 To1 Term2 Pairs2 Sessions2 Index1 Term3 Pairs3 Sessions3 x2 H10 x3 Q := step_of (vMid Try.prog tephralaw08_awake.cf J0 tephralaw08_awake.fn [1, 1, 1, 1, 1, 1, 0] [0, 0, 1, 2, 3, 4, 5] 6 Q) (tephralaw08_awake.k1.st Index Term Pairs Sessions b From To Term1 Pairs1 Sessions1 From1 To1 Term2 Pairs2 Sessions2 Index1 Term3 Pairs3 Sessions3 x2 H10 x3) (tephralaw08_awake.k1.eq J0 Index Term Pairs Sessions b From To Term1 Pairs1 Sessions1 From1 To1 Term2 Pairs2 Sessions2 Index1 Term3 Pairs3 Sessions3 x2 H10 x3 Q) (by kernel_rfl) h
noncomputable def tephralaw08_awake.k2.body (J : Jn) (Index : Int) (Term : Int) (Pairs : Sl) (Sessions : Sl) (b : Nat) (From : Int) (To : Int) (Term1 : Int) (Pairs1 : Sl) (Sessions1 : Sl) (From1 : Int) (To1 : Int) (Term2 : Int) (Pairs2 : Sl) (Sessions2 : Sl) (Index1 : Int) (Term3 : Int) (Pairs3 : Sl) (Sessions3 : Sl) (H10 : Hp) (x4 : Bool) (Q : Value → Hp → Prop) : Prop :=
 
 Br x4 (
 SCalls Try.prog state_Same.id [.agg #[.int .i64 Index1, .int .i64 Term3, .slice Pairs3.a Pairs3.len Pairs3.cap, .slice Sessions3.a Sessions3.len Sessions3.cap], .agg #[.int .i64 2, .int .i64 0, .slice (some (Addr.mk b 0 none)) 1 1, .slice none 0 0]] H10 (fun r4 H11 => ∃ x5 : Bool, r4 = .bool x5 ∧ 
 tephralaw08_awake.k3 J Index Term Pairs Sessions b From To Term1 Pairs1 Sessions1 From1 To1 Term2 Pairs2 Sessions2 Index1 Term3 Pairs3 Sessions3 x5 H11 Q))
 (
 tephralaw08_awake.k3 J Index Term Pairs Sessions b From To Term1 Pairs1 Sessions1 From1 To1 Term2 Pairs2 Sessions2 Index1 Term3 Pairs3 Sessions3 false H10 Q)
theorem tephralaw08_awake.k2.eq (J : Jn) (Index : Int) (Term : Int) (Pairs : Sl) (Sessions : Sl) (b : Nat) (From : Int) (To : Int) (Term1 : Int) (Pairs1 : Sl) (Sessions1 : Sl) (From1 : Int) (To1 : Int) (Term2 : Int) (Pairs2 : Sl) (Sessions2 : Sl) (Index1 : Int) (Term3 : Int) (Pairs3 : Sl) (Sessions3 : Sl) (H10 : Hp) (x4 : Bool) (Q : Value → Hp → Prop) : vMid Try.prog tephralaw08_awake.cf J tephralaw08_awake.fn [1, 1, 1, 1, 1, 1, 0] [0, 0, 1, 2, 3, 4, 5] 10 Q (tephralaw08_awake.k2.st Index Term Pairs Sessions b From To Term1 Pairs1 Sessions1 From1 To1 Term2 Pairs2 Sessions2 Index1 Term3 Pairs3 Sessions3 H10 x4) = tephralaw08_awake.k2.body J Index Term Pairs Sessions b From To Term1 Pairs1 Sessions1 From1 To1 Term2 Pairs2 Sessions2 Index1 Term3 Pairs3 Sessions3 H10 x4 Q := by kernel_rfl
theorem tephralaw08_awake.k2.step {Index : Int} {Term : Int} {Pairs : Sl} {Sessions : Sl} {b : Nat} {From : Int} {To : Int} {Term1 : Int} {Pairs1 : Sl} {Sessions1 : Sl} {From1 : Int} {To1 : Int} {Term2 : Int} {Pairs2 : Sl} {Sessions2 : Sl} {Index1 : Int} {Term3 : Int} {Pairs3 : Sl} {Sessions3 : Sl} {H10 : Hp} {x4 : Bool} {Q : Value → Hp → Prop} (h : tephralaw08_awake.k2.body J0 Index Term Pairs Sessions b From To Term1 Pairs1 Sessions1 From1 To1 Term2 Pairs2 Sessions2 Index1 Term3 Pairs3 Sessions3 H10 x4 Q) : tephralaw08_awake.k2 J0 Index Term Pairs Sessions b From To Term1 Pairs1 Sessions1 From1 To1 Term2 Pairs2 Sessions2 Index1 Term3 Pairs3 Sessions3 H10 x4 Q := step_of (vMid Try.prog tephralaw08_awake.cf J0 tephralaw08_awake.fn [1, 1, 1, 1, 1, 1, 0] [0, 0, 1, 2, 3, 4, 5] 10 Q) (tephralaw08_awake.k2.st Index Term Pairs Sessions b From To Term1 Pairs1 Sessions1 From1 To1 Term2 Pairs2 Sessions2 Index1 Term3 Pairs3 Sessions3 H10 x4) (tephralaw08_awake.k2.eq J0 Index Term Pairs Sessions b From To Term1 Pairs1 Sessions1 From1 To1 Term2 Pairs2 Sessions2 Index1 Term3 Pairs3 Sessions3 H10 x4 Q) (by kernel_rfl) h
noncomputable def tephralaw08_awake.k3.body (J : Jn) (Index : Int) (Term : Int) (Pairs : Sl) (Sessions : Sl) (b : Nat) (From : Int) (To : Int) (Term1 : Int) (Pairs1 : Sl) (Sessions1 : Sl) (From1 : Int) (To1 : Int) (Term2 : Int) (Pairs2 : Sl) (Sessions2 : Sl) (Index1 : Int) (Term3 : Int) (Pairs3 : Sl) (Sessions3 : Sl) (x6 : Bool) (H12 : Hp) (Q : Value → Hp → Prop) : Prop :=
 
 Br x6 (
 tephralaw08_awake.k4 J Index Term Pairs Sessions b From To Term1 Pairs1 Sessions1 From1 To1 Term2 Pairs2 Sessions2 Index1 Term3 Pairs3 Sessions3 H12 (((Pairs2.len : Nat) : Int) == 1) Q)
 (
 tephralaw08_awake.k4 J Index Term Pairs Sessions b From To Term1 Pairs1 Sessions1 From1 To1 Term2 Pairs2 Sessions2 Index1 Term3 Pairs3 Sessions3 H12 false Q)
theorem tephralaw08_awake.k3.eq (J : Jn) (Index : Int) (Term : Int) (Pairs : Sl) (Sessions : Sl) (b : Nat) (From : Int) (To : Int) (Term1 : Int) (Pairs1 : Sl) (Sessions1 : Sl) (From1 : Int) (To1 : Int) (Term2 : Int) (Pairs2 : Sl) (Sessions2 : Sl) (Index1 : Int) (Term3 : Int) (Pairs3 : Sl) (Sessions3 : Sl) (x6 : Bool) (H12 : Hp) (Q : Value → Hp → Prop) : vMid Try.prog tephralaw08_awake.cf J tephralaw08_awake.fn [1, 1, 1, 1, 1, 1, 0] [0, 0, 1, 2, 3, 4, 5] 15 Q (tephralaw08_awake.k3.st Index Term Pairs Sessions b From To Term1 Pairs1 Sessions1 From1 To1 Term2 Pairs2 Sessions2 Index1 Term3 Pairs3 Sessions3 x6 H12) = tephralaw08_awake.k3.body J Index Term Pairs Sessions b From To Term1 Pairs1 Sessions1 From1 To1 Term2 Pairs2 Sessions2 Index1 Term3 Pairs3 Sessions3 x6 H12 Q := by kernel_rfl
theorem tephralaw08_awake.k3.step {Index : Int} {Term : Int} {Pairs : Sl} {Sessions : Sl} {b : Nat} {From : Int} {To : Int} {Term1 : Int} {Pairs1 : Sl} {Sessions1 : Sl} {From1 : Int} {To1 : Int} {Term2 : Int} {Pairs2 : Sl} {Sessions2 : Sl} {Index1 : Int} {Term3 : Int} {Pairs3 : Sl} {Sessions3 : Sl} {x6 : Bool} {H12 : Hp} {Q : Value → Hp → Prop} (h : tephralaw08_awake.k3.body J0 Index Term Pairs Sessions b From To Term1 Pairs1 Sessions1 From1 To1 Term2 Pairs2 Sessions2 Index1 Term3 Pairs3 Sessions3 x6 H12 Q) : tephralaw08_awake.k3 J0 Index Term Pairs Sessions b From To Term1 Pairs1 Sessions1 From1 To1 Term2 Pairs2 Sessions2 Index1 Term3 Pairs3 Sessions3 x6 H12 Q := step_of (vMid Try.prog tephralaw08_awake.cf J0 tephralaw08_awake.fn [1, 1, 1, 1, 1, 1, 0] [0, 0, 1, 2, 3, 4, 5] 15 Q) (tephralaw08_awake.k3.st Index Term Pairs Sessions b From To Term1 Pairs1 Sessions1 From1 To1 Term2 Pairs2 Sessions2 Index1 Term3 Pairs3 Sessions3 x6 H12) (tephralaw08_awake.k3.eq J0 Index Term Pairs Sessions b From To Term1 Pairs1 Sessions1 From1 To1 Term2 Pairs2 Sessions2 Index1 Term3 Pairs3 Sessions3 x6 H12 Q) (by kernel_rfl) h
noncomputable def tephralaw08_awake.k4.body (J : Jn) (Index : Int) (Term : Int) (Pairs : Sl) (Sessions : Sl) (b : Nat) (From : Int) (To : Int) (Term1 : Int) (Pairs1 : Sl) (Sessions1 : Sl) (From1 : Int) (To1 : Int) (Term2 : Int) (Pairs2 : Sl) (Sessions2 : Sl) (Index1 : Int) (Term3 : Int) (Pairs3 : Sl) (Sessions3 : Sl) (H12 : Hp) (x7 : Bool) (Q : Value → Hp → Prop) : Prop :=
 
 Br x7 (((0 : Int) ≤ 0 ∧ (0 : Int) < ((Pairs2.len : Nat) : Int)) ∧ vPtr Pairs2.a (fun a => ∃ Gone : Bool, Hp.cell? H12 (a.add 2) = some (.bool Gone) ∧ 
 tephralaw08_awake.k5 J Index Term Pairs Sessions b From To Term1 Pairs1 Sessions1 From1 To1 Term2 Pairs2 Sessions2 Index1 Term3 Pairs3 Sessions3 H12 Gone Q))
 (
 tephralaw08_awake.k5 J Index Term Pairs Sessions b From To Term1 Pairs1 Sessions1 From1 To1 Term2 Pairs2 Sessions2 Index1 Term3 Pairs3 Sessions3 H12 false Q)
theorem tephralaw08_awake.k4.eq (J : Jn) (Index : Int) (Term : Int) (Pairs : Sl) (Sessions : Sl) (b : Nat) (From : Int) (To : Int) (Term1 : Int) (Pairs1 : Sl) (Sessions1 : Sl) (From1 : Int) (To1 : Int) (Term2 : Int) (Pairs2 : Sl) (Sessions2 : Sl) (Index1 : Int) (Term3 : Int) (Pairs3 : Sl) (Sessions3 : Sl) (H12 : Hp) (x7 : Bool) (Q : Value → Hp → Prop) : vMid Try.prog tephralaw08_awake.cf J tephralaw08_awake.fn [1, 1, 1, 1, 1, 1, 0] [0, 0, 1, 2, 3, 4, 5] 21 Q (tephralaw08_awake.k4.st Index Term Pairs Sessions b From To Term1 Pairs1 Sessions1 From1 To1 Term2 Pairs2 Sessions2 Index1 Term3 Pairs3 Sessions3 H12 x7) = tephralaw08_awake.k4.body J Index Term Pairs Sessions b From To Term1 Pairs1 Sessions1 From1 To1 Term2 Pairs2 Sessions2 Index1 Term3 Pairs3 Sessions3 H12 x7 Q := by kernel_rfl
theorem tephralaw08_awake.k4.step {Index : Int} {Term : Int} {Pairs : Sl} {Sessions : Sl} {b : Nat} {From : Int} {To : Int} {Term1 : Int} {Pairs1 : Sl} {Sessions1 : Sl} {From1 : Int} {To1 : Int} {Term2 : Int} {Pairs2 : Sl} {Sessions2 : Sl} {Index1 : Int} {Term3 : Int} {Pairs3 : Sl} {Sessions3 : Sl} {H12 : Hp} {x7 : Bool} {Q : Value → Hp → Prop} (h : tephralaw08_awake.k4.body J0 Index Term Pairs Sessions b From To Term1 Pairs1 Sessions1 From1 To1 Term2 Pairs2 Sessions2 Index1 Term3 Pairs3 Sessions3 H12 x7 Q) : tephralaw08_awake.k4 J0 Index Term Pairs Sessions b From To Term1 Pairs1 Sessions1 From1 To1 Term2 Pairs2 Sessions2 Index1 Term3 Pairs3 Sessions3 H12 x7 Q := step_of (vMid Try.prog tephralaw08_awake.cf J0 tephralaw08_awake.fn [1, 1, 1, 1, 1, 1, 0] [0, 0, 1, 2, 3, 4, 5] 21 Q) (tephralaw08_awake.k4.st Index Term Pairs Sessions b From To Term1 Pairs1 Sessions1 From1 To1 Term2 Pairs2 Sessions2 Index1 Term3 Pairs3 Sessions3 H12 x7) (tephralaw08_awake.k4.eq J0 Index Term Pairs Sessions b From To Term1 Pairs1 Sessions1 From1 To1 Term2 Pairs2 Sessions2 Index1 Term3 Pairs3 Sessions3 H12 x7 Q) (by kernel_rfl) h
noncomputable def tephralaw08_awake.k5.body (J : Jn) (Index : Int) (Term : Int) (Pairs : Sl) (Sessions : Sl) (b : Nat) (From : Int) (To : Int) (Term1 : Int) (Pairs1 : Sl) (Sessions1 : Sl) (From1 : Int) (To1 : Int) (Term2 : Int) (Pairs2 : Sl) (Sessions2 : Sl) (Index1 : Int) (Term3 : Int) (Pairs3 : Sl) (Sessions3 : Sl) (H12 : Hp) (x8 : Bool) (Q : Value → Hp → Prop) : Prop :=
 
 Br x8 (Q (.bool (From1 == 2)) H12)
 (Q (.bool false) H12)
theorem tephralaw08_awake.k5.eq (J : Jn) (Index : Int) (Term : Int) (Pairs : Sl) (Sessions : Sl) (b : Nat) (From : Int) (To : Int) (Term1 : Int) (Pairs1 : Sl) (Sessions1 : Sl) (From1 : Int) (To1 : Int) (Term2 : Int) (Pairs2 : Sl) (Sessions2 : Sl) (Index1 : Int) (Term3 : Int) (Pairs3 : Sl) (Sessions3 : Sl) (H12 : Hp) (x8 : Bool) (Q : Value → Hp → Prop) : vMid Try.prog tephralaw08_awake.cf J tephralaw08_awake.fn [1, 1, 1, 1, 1, 1, 0] [0, 0, 1, 2, 3, 4, 5] 28 Q (tephralaw08_awake.k5.st Index Term Pairs Sessions b From To Term1 Pairs1 Sessions1 From1 To1 Term2 Pairs2 Sessions2 Index1 Term3 Pairs3 Sessions3 H12 x8) = tephralaw08_awake.k5.body J Index Term Pairs Sessions b From To Term1 Pairs1 Sessions1 From1 To1 Term2 Pairs2 Sessions2 Index1 Term3 Pairs3 Sessions3 H12 x8 Q := by kernel_rfl
theorem tephralaw08_awake.k5.step {Index : Int} {Term : Int} {Pairs : Sl} {Sessions : Sl} {b : Nat} {From : Int} {To : Int} {Term1 : Int} {Pairs1 : Sl} {Sessions1 : Sl} {From1 : Int} {To1 : Int} {Term2 : Int} {Pairs2 : Sl} {Sessions2 : Sl} {Index1 : Int} {Term3 : Int} {Pairs3 : Sl} {Sessions3 : Sl} {H12 : Hp} {x8 : Bool} {Q : Value → Hp → Prop} (h : tephralaw08_awake.k5.body J0 Index Term Pairs Sessions b From To Term1 Pairs1 Sessions1 From1 To1 Term2 Pairs2 Sessions2 Index1 Term3 Pairs3 Sessions3 H12 x8 Q) : tephralaw08_awake.k5 J0 Index Term Pairs Sessions b From To Term1 Pairs1 Sessions1 From1 To1 Term2 Pairs2 Sessions2 Index1 Term3 Pairs3 Sessions3 H12 x8 Q := step_of (vMid Try.prog tephralaw08_awake.cf J0 tephralaw08_awake.fn [1, 1, 1, 1, 1, 1, 0] [0, 0, 1, 2, 3, 4, 5] 28 Q) (tephralaw08_awake.k5.st Index Term Pairs Sessions b From To Term1 Pairs1 Sessions1 From1 To1 Term2 Pairs2 Sessions2 Index1 Term3 Pairs3 Sessions3 H12 x8) (tephralaw08_awake.k5.eq J0 Index Term Pairs Sessions b From To Term1 Pairs1 Sessions1 From1 To1 Term2 Pairs2 Sessions2 Index1 Term3 Pairs3 Sessions3 H12 x8 Q) (by kernel_rfl) h
noncomputable def tephralaw08_awake.vc (J : Jn) (H : Hp) (Q : Value → Hp → Prop) : Prop :=
 
 SCalls Try.prog tephralaw07_Some.id [.slice none 0 0] H (fun r H1 => ∃ Index : Int, ∃ Term : Int, ∃ Pairs : Sl, ∃ Sessions : Sl, r = .agg #[.int .i64 Index, .int .i64 Term, .slice Pairs.a Pairs.len Pairs.cap, .slice Sessions.a Sessions.len Sessions.cap] ∧ ∀ H2 : Hp, H2 = (holes H1 1) → ∀ b : Nat, b = Array.size H2 → ∀ H3 : Hp, H3 = (Array.push H2 (.cells #[.string (ByteArray.mk #[107]), .string (ByteArray.mk #[118]), .bool false] T_api_Pair)) → ∀ H4 : Hp, H4 = (holes H3 1) → 
 SCalls Try.prog delta_Between.id [.agg #[.int .i64 Index, .int .i64 Term, .slice Pairs.a Pairs.len Pairs.cap, .slice Sessions.a Sessions.len Sessions.cap], .agg #[.int .i64 2, .int .i64 0, .slice (some (Addr.mk b 0 none)) 1 1, .slice none 0 0]] H4 (fun r1 H5 => ∃ From : Int, ∃ To : Int, ∃ Term1 : Int, ∃ Pairs1 : Sl, ∃ Sessions1 : Sl, ∃ x : Int, r1 = .tuple #[.agg #[.int .i64 From, .int .i64 To, .int .i64 Term1, .slice Pairs1.a Pairs1.len Pairs1.cap, .slice Sessions1.a Sessions1.len Sessions1.cap], .int .i64 x] ∧ ∀ H6 : Hp, H6 = (holes H5 1) → 
 SCalls Try.prog delta_Between.id [.agg #[.int .i64 2, .int .i64 0, .slice (some (Addr.mk b 0 none)) 1 1, .slice none 0 0], .agg #[.int .i64 3, .int .i64 0, .slice none 0 0, .slice none 0 0]] H6 (fun r2 H7 => ∃ From1 : Int, ∃ To1 : Int, ∃ Term2 : Int, ∃ Pairs2 : Sl, ∃ Sessions2 : Sl, ∃ x1 : Int, r2 = .tuple #[.agg #[.int .i64 From1, .int .i64 To1, .int .i64 Term2, .slice Pairs2.a Pairs2.len Pairs2.cap, .slice Sessions2.a Sessions2.len Sessions2.cap], .int .i64 x1] ∧ ∀ H8 : Hp, H8 = (holes H7 1) → 
 SCalls Try.prog delta_Do.id [.agg #[.int .i64 Index, .int .i64 Term, .slice Pairs.a Pairs.len Pairs.cap, .slice Sessions.a Sessions.len Sessions.cap], .agg #[.int .i64 From, .int .i64 To, .int .i64 Term1, .slice Pairs1.a Pairs1.len Pairs1.cap, .slice Sessions1.a Sessions1.len Sessions1.cap]] H8 (fun r3 H9 => ∃ Index1 : Int, ∃ Term3 : Int, ∃ Pairs3 : Sl, ∃ Sessions3 : Sl, ∃ x2 : Int, r3 = .tuple #[.agg #[.int .i64 Index1, .int .i64 Term3, .slice Pairs3.a Pairs3.len Pairs3.cap, .slice Sessions3.a Sessions3.len Sessions3.cap], .int .i64 x2] ∧ ∀ H10 : Hp, H10 = (holes H9 1) → 
 Br (x == 0) (
 tephralaw08_awake.k1 J Index Term Pairs Sessions b From To Term1 Pairs1 Sessions1 From1 To1 Term2 Pairs2 Sessions2 Index1 Term3 Pairs3 Sessions3 x2 H10 (x1 == 0) Q)
 (
 tephralaw08_awake.k1 J Index Term Pairs Sessions b From To Term1 Pairs1 Sessions1 From1 To1 Term2 Pairs2 Sessions2 Index1 Term3 Pairs3 Sessions3 x2 H10 false Q)))))
theorem tephralaw08_awake.eq (J : Jn) (H : Hp) (Q : Value → Hp → Prop) : vFn Try.prog tephralaw08_awake.cf J tephralaw08_awake.fn [] H Q = tephralaw08_awake.vc J H Q := by kernel_rfl
theorem tephralaw08_awake.calls {H : Hp} {Q : Value → Hp → Prop} (h : tephralaw08_awake.vc J0 H Q) : SCalls Try.prog tephralaw08_awake.id [] H Q := vFn_of Try.mixed Try.func10 (tephralaw08_awake.eq J0 H Q) h

/-! 11: tephra/tephralaw08.Three -/
noncomputable def tephralaw08_Three.cf : Cfg := ⟨[6, 1000003], [], [], [], true⟩
noncomputable def tephralaw08_Three.vc (J : Jn) (says : Sl) (one : Int) (two : Int) (H : Hp) (Q : Value → Hp → Prop) : Prop :=
 ∀ H1 : Hp, H1 = (holes H 1) → 
 SCalls Try.prog tephralaw06_Entries.id [.slice says.a says.len says.cap, .int .i64 1, .int .i64 0] H1 (fun r H2 => ∃ x : Sl, r = .slice x.a x.len x.cap ∧ ((w64 (((x.len : Nat) : Int) + 1)) : Int) ≠ 0 ∧ ((w64 ((w64 (((x.len : Nat) : Int) - (Int.tmod (w64 (one)) (w64 (((x.len : Nat) : Int) + 1))))) + 1)) : Int) ≠ 0 ∧ ((0 : Int) ≤ (Int.tmod (w64 (one)) (w64 (((x.len : Nat) : Int) + 1))) ∧ (Int.tmod (w64 (one)) (w64 (((x.len : Nat) : Int) + 1))) ≤ ((x.cap : Nat) : Int)) ∧ ((0 : Int) ≤ (w64 ((Int.tmod (w64 (one)) (w64 (((x.len : Nat) : Int) + 1))) + (Int.tmod (w64 (two)) (w64 ((w64 (((x.len : Nat) : Int) - (Int.tmod (w64 (one)) (w64 (((x.len : Nat) : Int) + 1))))) + 1))))) ∧ (w64 ((Int.tmod (w64 (one)) (w64 (((x.len : Nat) : Int) + 1))) + (Int.tmod (w64 (two)) (w64 ((w64 (((x.len : Nat) : Int) - (Int.tmod (w64 (one)) (w64 (((x.len : Nat) : Int) + 1))))) + 1))))) ≤ ((x.cap : Nat) : Int)) ∧ 
 SCalls Try.prog state_Fold.id [.agg #[.int .i64 0, .int .i64 0, .slice none 0 0, .slice none 0 0], .slice (cutA x.a x.cap 0 8) (((Int.tmod (w64 (one)) (w64 (((x.len : Nat) : Int) + 1))) : Int).toNat) x.cap] H2 (fun r1 H3 => ∃ Index : Int, ∃ Term : Int, ∃ Pairs : Sl, ∃ Sessions : Sl, r1 = .agg #[.int .i64 Index, .int .i64 Term, .slice Pairs.a Pairs.len Pairs.cap, .slice Sessions.a Sessions.len Sessions.cap] ∧ 
 SCalls Try.prog state_Fold.id [.agg #[.int .i64 0, .int .i64 0, .slice none 0 0, .slice none 0 0], .slice (cutA x.a x.cap 0 8) (((w64 ((Int.tmod (w64 (one)) (w64 (((x.len : Nat) : Int) + 1))) + (Int.tmod (w64 (two)) (w64 ((w64 (((x.len : Nat) : Int) - (Int.tmod (w64 (one)) (w64 (((x.len : Nat) : Int) + 1))))) + 1))))) : Int).toNat) x.cap] H3 (fun r2 H4 => ∃ Index1 : Int, ∃ Term1 : Int, ∃ Pairs1 : Sl, ∃ Sessions1 : Sl, r2 = .agg #[.int .i64 Index1, .int .i64 Term1, .slice Pairs1.a Pairs1.len Pairs1.cap, .slice Sessions1.a Sessions1.len Sessions1.cap] ∧ 
 SCalls Try.prog state_Fold.id [.agg #[.int .i64 0, .int .i64 0, .slice none 0 0, .slice none 0 0], .slice x.a x.len x.cap] H4 (fun r3 H5 => ∃ Index2 : Int, ∃ Term2 : Int, ∃ Pairs2 : Sl, ∃ Sessions2 : Sl, r3 = .agg #[.int .i64 Index2, .int .i64 Term2, .slice Pairs2.a Pairs2.len Pairs2.cap, .slice Sessions2.a Sessions2.len Sessions2.cap] ∧ Q (.agg #[.int .i64 Index, .int .i64 Term, .slice Pairs.a Pairs.len Pairs.cap, .slice Sessions.a Sessions.len Sessions.cap, .int .i64 Index1, .int .i64 Term1, .slice Pairs1.a Pairs1.len Pairs1.cap, .slice Sessions1.a Sessions1.len Sessions1.cap, .int .i64 Index2, .int .i64 Term2, .slice Pairs2.a Pairs2.len Pairs2.cap, .slice Sessions2.a Sessions2.len Sessions2.cap]) H5))))
theorem tephralaw08_Three.eq (J : Jn) (says : Sl) (one : Int) (two : Int) (H : Hp) (Q : Value → Hp → Prop) : vFn Try.prog tephralaw08_Three.cf J tephralaw08_Three.fn [.slice says.a says.len says.cap, .int .u8 one, .int .u8 two] H Q = tephralaw08_Three.vc J says one two H Q := by kernel_rfl
theorem tephralaw08_Three.calls {says : Sl} {one : Int} {two : Int} {H : Hp} {Q : Value → Hp → Prop} (h : tephralaw08_Three.vc J0 says one two H Q) : SCalls Try.prog tephralaw08_Three.id [.slice says.a says.len says.cap, .int .u8 one, .int .u8 two] H Q := vFn_of Try.mixed Try.func11 (tephralaw08_Three.eq J0 says one two H Q) h

/-! 12: tephra/delta.Between -/
noncomputable def delta_Between.cf : Cfg := ⟨[2, 3, 4, 10, 12, 1000003], [(1000008, [7]), (1000012, [8]), (1000015, [6, 7, 8])], [(2, [2, 3, 4, 5, 29], true), (4, [2, 3, 4, 5, 6], true), (20, [6, 13, 14, 84], true)], [], true⟩
noncomputable def delta_Between.cfr : Cfg := { delta_Between.cf with rf := false }
noncomputable def delta_Between.r1.fr (b2 : Nat) : List AV := mkFr 101 [(7, .v (.pointer (some (Addr.mk b2 0 none))))]
noncomputable def delta_Between.r1.code : Code := sub (bodyOf delta_Between.fn) [1, 1, 1, 1, 0, 1, 0]
noncomputable def delta_Between.r1.rec (fn : FuncId) (tm : Array Value) (d : Nat) (st : LoopState) (pd : Option Code) : Obj := recO fn tm (rgP delta_Between.r1.code) (rgA delta_Between.r1.code) (rgB delta_Between.r1.code) d st pd
noncomputable def delta_Between.r2.fr (b3 : Nat) : List AV := mkFr 101 [(8, .v (.pointer (some (Addr.mk b3 0 none))))]
noncomputable def delta_Between.r2.code : Code := sub (bodyOf delta_Between.fn) [1, 1, 1, 1, 1, 0, 1, 0]
noncomputable def delta_Between.r2.rec (fn : FuncId) (tm : Array Value) (d : Nat) (st : LoopState) (pd : Option Code) : Obj := recO fn tm (rgP delta_Between.r2.code) (rgA delta_Between.r2.code) (rgB delta_Between.r2.code) d st pd
noncomputable def delta_Between.r3.fr (d : Addr) (b2 : Nat) (b3 : Nat) : List AV := mkFr 101 [(6, .v (.pointer (some d))), (7, .v (.pointer (some (Addr.mk b2 0 none)))), (8, .v (.pointer (some (Addr.mk b3 0 none))))]
noncomputable def delta_Between.r3.code : Code := sub (bodyOf delta_Between.fn) [1, 1, 1, 1, 1, 1, 0, 1, 0]
noncomputable def delta_Between.r3.rec (fn : FuncId) (tm : Array Value) (d : Nat) (st : LoopState) (pd : Option Code) : Obj := recO fn tm (rgP delta_Between.r3.code) (rgA delta_Between.r3.code) (rgB delta_Between.r3.code) d st pd
noncomputable def delta_Between.k1.st (aIndex : Int) (aTerm : Int) (aPairs : Sl) (aSessions : Sl) (bIndex : Int) (bTerm : Int) (bPairs : Sl) (bSessions : Sl) (H3 : Hp) (x : Bool) : VS := ⟨mkFr 101 [(2, .loc 0 0), (3, .loc 1 0), (4, .loc 2 0), (5, .v (.int .i64 0)), (29, .v (.bool x))], [(T_api_State, [.int .i64 aIndex, .int .i64 aTerm, .slice aPairs.a aPairs.len aPairs.cap, .slice aSessions.a aSessions.len aSessions.cap]), (T_api_State, [.int .i64 bIndex, .int .i64 bTerm, .slice bPairs.a bPairs.len bPairs.cap, .slice bSessions.a bSessions.len bSessions.cap]), (T_delta_Delta, [.int .i64 0, .int .i64 0, .int .i64 0, .slice none 0 0, .slice none 0 0])], H3⟩
noncomputable def delta_Between.k1 (J : Jn) (aIndex : Int) (aTerm : Int) (aPairs : Sl) (aSessions : Sl) (bIndex : Int) (bTerm : Int) (bPairs : Sl) (bSessions : Sl) (H3 : Hp) (x : Bool) (Q : Value → Hp → Prop) : Prop := J (vSeg Try.prog delta_Between.cf J delta_Between.fn [1, 0, 1] [0, 3, 3] Q) (delta_Between.k1.st aIndex aTerm aPairs aSessions bIndex bTerm bPairs bSessions H3 x)
noncomputable def delta_Between.k2.st (aIndex : Int) (aTerm : Int) (aPairs : Sl) (aSessions : Sl) (bIndex : Int) (bTerm : Int) (bPairs : Sl) (bSessions : Sl) (d : Addr) (H10 : Hp) : VS := ⟨mkFr 101 [(2, .loc 0 0), (3, .loc 1 0), (4, .loc 2 0), (5, .v (.int .i64 0)), (6, .v (.pointer (some d)))], [(T_api_State, [.int .i64 aIndex, .int .i64 aTerm, .slice aPairs.a aPairs.len aPairs.cap, .slice aSessions.a aSessions.len aSessions.cap]), (T_api_State, [.int .i64 bIndex, .int .i64 bTerm, .slice bPairs.a bPairs.len bPairs.cap, .slice bSessions.a bSessions.len bSessions.cap]), (T_delta_Delta, [.int .i64 0, .int .i64 0, .int .i64 0, .slice none 0 0, .slice none 0 0])], H10⟩
noncomputable def delta_Between.k2 (J : Jn) (aIndex : Int) (aTerm : Int) (aPairs : Sl) (aSessions : Sl) (bIndex : Int) (bTerm : Int) (bPairs : Sl) (bSessions : Sl) (d : Addr) (H10 : Hp) (Q : Value → Hp → Prop) : Prop := J (vSeg Try.prog delta_Between.cf J delta_Between.fn [1, 1, 1] [0, 3, 3] Q) (delta_Between.k2.st aIndex aTerm aPairs aSessions bIndex bTerm bPairs bSessions d H10)
noncomputable def delta_Between.k3.st (d : Addr) (k2 : ByteArray) (x8 : ByteArray) (H33 : Hp) (x12 : Bool) : VS := ⟨mkFr 101 [(6, .v (.pointer (some d))), (13, .v (.string k2)), (14, .v (.string x8)), (84, .v (.bool x12))], [], H33⟩
noncomputable def delta_Between.k3 (J : Jn) (d : Addr) (l2 : Nat) (rc2 : LoopState → Option Code → Obj) (k2 : ByteArray) (x8 : ByteArray) (H33 : Hp) (x12 : Bool) (Q : Value → Hp → Prop) : Prop := J (vSegC Try.prog delta_Between.cfr J (rgB delta_Between.r3.code) [0, 1, 1, 0, 1, 1, 1] [0, 0, 0, 0] (roundK l2 rc2 Q)) (delta_Between.k3.st d k2 x8 H33 x12)
attribute [irreducible] delta_Between.k1 delta_Between.k2 delta_Between.k3
noncomputable def delta_Between.k1.body (J : Jn) (aIndex : Int) (aTerm : Int) (aPairs : Sl) (aSessions : Sl) (bIndex : Int) (bTerm : Int) (bPairs : Sl) (bSessions : Sl) (H3 : Hp) (x : Bool) (Q : Value → Hp → Prop) : Prop :=
 
 Br x (Q (.tuple #[.agg #[.int .i64 0, .int .i64 0, .int .i64 0, .slice none 0 0, .slice none 0 0], .int .i64 8]) H3)
 (
  (
 vApp Try.prog T_sl_api_Session none 0 0 (.slice bSessions.a bSessions.len bSessions.cap) H3 (fun ap H4 => ∀ b : Nat, b = Array.size H4 → ∀ H5 : Hp, H5 = (Array.push H4 (.cells #[.int .i64 0, .int .i64 0, .int .i64 0, .slice none 0 0, .slice none 0 0] T_delta_Delta)) → WrAt H5 (Addr.mk b 0 none) 5 ∧ ∀ H6 : Hp, H6 = (Hp.setCells H5 (Addr.mk b 0 none) [.int .i64 aIndex, .int .i64 bIndex, .int .i64 bTerm, .slice none 0 0, .slice ap.a ap.len ap.cap] 0) → 
 delta_Between.k2 J aIndex aTerm aPairs aSessions bIndex bTerm bPairs bSessions ((Addr.mk b 0 none)) H6 Q)) ∧ 
  (∀ b1 : Nat, b1 = Array.size H3 → ∀ H7 : Hp, H7 = (Array.push H3 (.cells #[.int .i64 0, .int .i64 0, .int .i64 0, .slice none 0 0, .slice none 0 0] T_delta_Delta)) → 
 vApp Try.prog T_sl_api_Session none 0 0 (.slice bSessions.a bSessions.len bSessions.cap) H7 (fun ap1 H8 => WrAt H8 (Addr.mk b1 0 none) 5 ∧ ∀ H9 : Hp, H9 = (Hp.setCells H8 (Addr.mk b1 0 none) [.int .i64 aIndex, .int .i64 bIndex, .int .i64 bTerm, .slice none 0 0, .slice ap1.a ap1.len ap1.cap] 0) → 
 delta_Between.k2 J aIndex aTerm aPairs aSessions bIndex bTerm bPairs bSessions ((Addr.mk b1 0 none)) H9 Q)))
theorem delta_Between.k1.eq (J : Jn) (aIndex : Int) (aTerm : Int) (aPairs : Sl) (aSessions : Sl) (bIndex : Int) (bTerm : Int) (bPairs : Sl) (bSessions : Sl) (H3 : Hp) (x : Bool) (Q : Value → Hp → Prop) : vSeg Try.prog delta_Between.cf J delta_Between.fn [1, 0, 1] [0, 3, 3] Q (delta_Between.k1.st aIndex aTerm aPairs aSessions bIndex bTerm bPairs bSessions H3 x) = delta_Between.k1.body J aIndex aTerm aPairs aSessions bIndex bTerm bPairs bSessions H3 x Q := by kernel_rfl
theorem delta_Between.k1.step {aIndex : Int} {aTerm : Int} {aPairs : Sl} {aSessions : Sl} {bIndex : Int} {bTerm : Int} {bPairs : Sl} {bSessions : Sl} {H3 : Hp} {x : Bool} {Q : Value → Hp → Prop} (h : delta_Between.k1.body J0 aIndex aTerm aPairs aSessions bIndex bTerm bPairs bSessions H3 x Q) : delta_Between.k1 J0 aIndex aTerm aPairs aSessions bIndex bTerm bPairs bSessions H3 x Q := step_of (vSeg Try.prog delta_Between.cf J0 delta_Between.fn [1, 0, 1] [0, 3, 3] Q) (delta_Between.k1.st aIndex aTerm aPairs aSessions bIndex bTerm bPairs bSessions H3 x) (delta_Between.k1.eq J0 aIndex aTerm aPairs aSessions bIndex bTerm bPairs bSessions H3 x Q) (by kernel_rfl) h
noncomputable def delta_Between.k2.body (J : Jn) (aIndex : Int) (aTerm : Int) (aPairs : Sl) (aSessions : Sl) (bIndex : Int) (bTerm : Int) (bPairs : Sl) (bSessions : Sl) (d : Addr) (H10 : Hp) (Q : Value → Hp → Prop) : Prop :=
 ∀ b2 : Nat, b2 = Array.size H10 → ∀ H11 : Hp, H11 = (Array.push H10 (.cells #[.slice none 0 0] T_sorted_Map_string_string)) → ∀ b3 : Nat, b3 = Array.size H11 → ∀ H12 : Hp, H12 = (Array.push H11 (.cells #[.slice none 0 0] T_sorted_Map_string_string)) → 
 SCalls Try.prog delta_seq.id [.slice aPairs.a aPairs.len aPairs.cap] H12 (fun r H13 => ∃ x1 : Fv, r = .func x1.fn x1.fi x1.ca ∧ 
 ∀ fn : FuncId, ∀ tm : Array Value, TmOf (delta_Between.r1.fr b2) tm → vRg Try.prog (.func x1.fn x1.fi x1.ca) (Array.size H13 + 1) (Array.push (Array.push H13 hole) (delta_Between.r1.rec fn tm (Array.size H13) .ready none)) (fun H18 => ∃ st : LoopState, ∃ pd : Option Code, H18[(Array.size H13 + 1)]? = some (delta_Between.r1.rec fn tm (Array.size H13) st pd) ∧ st ≠ .busy ∧ ∀ H19 : Hp, H19 = (Array.setIfInBounds H18 (Array.size H13 + 1) (delta_Between.r1.rec fn tm (Array.size H13) .exhausted pd)) → ((pd = none → 
 SCalls Try.prog delta_seq.id [.slice bPairs.a bPairs.len bPairs.cap] H19 (fun r2 H20 => ∃ x3 : Fv, r2 = .func x3.fn x3.fi x3.ca ∧ 
 ∀ fn1 : FuncId, ∀ tm1 : Array Value, TmOf (delta_Between.r2.fr b3) tm1 → vRg Try.prog (.func x3.fn x3.fi x3.ca) (Array.size H20 + 1) (Array.push (Array.push H20 hole) (delta_Between.r2.rec fn1 tm1 (Array.size H20) .ready none)) (fun H25 => ∃ st1 : LoopState, ∃ pd1 : Option Code, H25[(Array.size H20 + 1)]? = some (delta_Between.r2.rec fn1 tm1 (Array.size H20) st1 pd1) ∧ st1 ≠ .busy ∧ ∀ H26 : Hp, H26 = (Array.setIfInBounds H25 (Array.size H20 + 1) (delta_Between.r2.rec fn1 tm1 (Array.size H20) .exhausted pd1)) → ((pd1 = none → 
 SCalls Try.prog sorted_Map_string_string_All.id [.pointer (some (Addr.mk b2 0 none))] H26 (fun r4 H27 => ∃ x5 : Fv, r4 = .func x5.fn x5.fi x5.ca ∧ 
 SCalls Try.prog sorted_Map_string_string_All.id [.pointer (some (Addr.mk b3 0 none))] H27 (fun r5 H28 => ∃ x6 : Fv, r5 = .func x6.fn x6.fi x6.ca ∧ 
 SCalls Try.prog sorted_Merge_string_string.id [.func x5.fn x5.fi x5.ca, .func x6.fn x6.fi x6.ca] H28 (fun r6 H29 => ∃ x7 : Fv, r6 = .func x7.fn x7.fi x7.ca ∧ 
 ∀ fn2 : FuncId, ∀ tm2 : Array Value, TmOf (delta_Between.r3.fr d b2 b3) tm2 → vRg Try.prog (.func x7.fn x7.fi x7.ca) (Array.size H29 + 1) (Array.push (Array.push H29 hole) (delta_Between.r3.rec fn2 tm2 (Array.size H29) .ready none)) (fun H40 => ∃ st2 : LoopState, ∃ pd2 : Option Code, H40[(Array.size H29 + 1)]? = some (delta_Between.r3.rec fn2 tm2 (Array.size H29) st2 pd2) ∧ st2 ≠ .busy ∧ ∀ H41 : Hp, H41 = (Array.setIfInBounds H40 (Array.size H29 + 1) (delta_Between.r3.rec fn2 tm2 (Array.size H29) .exhausted pd2)) → ((pd2 = none → ∃ From : Int, ∃ To : Int, ∃ Term : Int, ∃ Pairs2 : Sl, ∃ Sessions : Sl, RowAt H41 d [.int .i64 From, .int .i64 To, .int .i64 Term, .slice Pairs2.a Pairs2.len Pairs2.cap, .slice Sessions.a Sessions.len Sessions.cap] ∧ Q (.tuple #[.agg #[.int .i64 From, .int .i64 To, .int .i64 Term, .slice Pairs2.a Pairs2.len Pairs2.cap, .slice Sessions.a Sessions.len Sessions.cap], .int .i64 0]) H41) ∧ (pd2 = some .ret → Q (.tuple #[.agg #[.int .i64 0, .int .i64 0, .int .i64 0, .slice none 0 0, .slice none 0 0], .int .i64 0]) H41) ∧ (True) ∧ (pd2 = none ∨ pd2 = some .ret ∨ ∃ i ∈ ([] : List Nat), pd2 = some (.exit i)))))))) ∧ (pd1 = some .ret → Q (.tuple #[.agg #[.int .i64 0, .int .i64 0, .int .i64 0, .slice none 0 0, .slice none 0 0], .int .i64 0]) H26) ∧ (True) ∧ (pd1 = none ∨ pd1 = some .ret ∨ ∃ i ∈ ([] : List Nat), pd1 = some (.exit i)))))) ∧ (pd = some .ret → Q (.tuple #[.agg #[.int .i64 0, .int .i64 0, .int .i64 0, .slice none 0 0, .slice none 0 0], .int .i64 0]) H19) ∧ (True) ∧ (pd = none ∨ pd = some .ret ∨ ∃ i ∈ ([] : List Nat), pd = some (.exit i)))))
theorem delta_Between.k2.eq (J : Jn) (aIndex : Int) (aTerm : Int) (aPairs : Sl) (aSessions : Sl) (bIndex : Int) (bTerm : Int) (bPairs : Sl) (bSessions : Sl) (d : Addr) (H10 : Hp) (Q : Value → Hp → Prop) : vSeg Try.prog delta_Between.cf J delta_Between.fn [1, 1, 1] [0, 3, 3] Q (delta_Between.k2.st aIndex aTerm aPairs aSessions bIndex bTerm bPairs bSessions d H10) = delta_Between.k2.body J aIndex aTerm aPairs aSessions bIndex bTerm bPairs bSessions d H10 Q := by kernel_rfl
theorem delta_Between.k2.step {aIndex : Int} {aTerm : Int} {aPairs : Sl} {aSessions : Sl} {bIndex : Int} {bTerm : Int} {bPairs : Sl} {bSessions : Sl} {d : Addr} {H10 : Hp} {Q : Value → Hp → Prop} (h : delta_Between.k2.body J0 aIndex aTerm aPairs aSessions bIndex bTerm bPairs bSessions d H10 Q) : delta_Between.k2 J0 aIndex aTerm aPairs aSessions bIndex bTerm bPairs bSessions d H10 Q := step_of (vSeg Try.prog delta_Between.cf J0 delta_Between.fn [1, 1, 1] [0, 3, 3] Q) (delta_Between.k2.st aIndex aTerm aPairs aSessions bIndex bTerm bPairs bSessions d H10) (delta_Between.k2.eq J0 aIndex aTerm aPairs aSessions bIndex bTerm bPairs bSessions d H10 Q) (by kernel_rfl) h
noncomputable def delta_Between.k3.body (J : Jn) (d : Addr) (l2 : Nat) (rc2 : LoopState → Option Code → Obj) (k2 : ByteArray) (x8 : ByteArray) (H33 : Hp) (x12 : Bool) (Q : Value → Hp → Prop) : Prop :=
 
 Br x12 (∃ Pairs1 : Sl, Hp.cell? H33 (d.add 3) = some (.slice Pairs1.a Pairs1.len Pairs1.cap) ∧ ∀ b5 : Nat, b5 = Array.size H33 → ∀ H37 : Hp, H37 = (Array.push H33 (.cells #[.string k2, .string x8, .bool false] T_api_Pair)) → 
 vApp Try.prog T_sl_api_Pair Pairs1.a Pairs1.len Pairs1.cap (.slice (some (Addr.mk b5 0 none)) 1 1) H37 (fun ap3 H38 => WrAt H38 (d.add 3) 1 ∧ ∀ H39 : Hp, H39 = (Hp.setCell H38 (d.add 3) (.slice ap3.a ap3.len ap3.cap)) → 
 ((∃ st : LoopState, ∃ pd : Option Code, H39[l2]? = some (rc2 st pd)) ∧ Q (.bool true) (Array.setIfInBounds H39 l2 (rc2 .ready none)))))
 (
 ((∃ st : LoopState, ∃ pd : Option Code, H33[l2]? = some (rc2 st pd)) ∧ Q (.bool true) (Array.setIfInBounds H33 l2 (rc2 .ready none))))
theorem delta_Between.k3.eq (J : Jn) (d : Addr) (l2 : Nat) (rc2 : LoopState → Option Code → Obj) (k2 : ByteArray) (x8 : ByteArray) (H33 : Hp) (x12 : Bool) (Q : Value → Hp → Prop) : vSegC Try.prog delta_Between.cfr J (rgB delta_Between.r3.code) [0, 1, 1, 0, 1, 1, 1] [0, 0, 0, 0] (roundK l2 rc2 Q) (delta_Between.k3.st d k2 x8 H33 x12) = delta_Between.k3.body J d l2 rc2 k2 x8 H33 x12 Q := by kernel_rfl
theorem delta_Between.k3.step {d : Addr} {l2 : Nat} {rc2 : LoopState → Option Code → Obj} {k2 : ByteArray} {x8 : ByteArray} {H33 : Hp} {x12 : Bool} {Q : Value → Hp → Prop} (h : delta_Between.k3.body J0 d l2 rc2 k2 x8 H33 x12 Q) : delta_Between.k3 J0 d l2 rc2 k2 x8 H33 x12 Q := step_of (vSegC Try.prog delta_Between.cfr J0 (rgB delta_Between.r3.code) [0, 1, 1, 0, 1, 1, 1] [0, 0, 0, 0] (roundK l2 rc2 Q)) (delta_Between.k3.st d k2 x8 H33 x12) (delta_Between.k3.eq J0 d l2 rc2 k2 x8 H33 x12 Q) (by kernel_rfl) h
noncomputable def delta_Between.r1.body (J : Jn) (b2 : Nat) (l : Nat) (rc : LoopState → Option Code → Obj) (k : ByteArray) (vKey : ByteArray) (vValue : ByteArray) (vGone : Bool) (H14 : Hp) (Q : Value → Hp → Prop) : Prop :=
 ∀ H15 : Hp, H15 = (holes H14 1) → H15[l]? = some (rc .ready none) ∧ ∀ H16 : Hp, H16 = (Array.setIfInBounds H15 l (rc .busy none)) → 
 SCalls Try.prog sorted_Map_string_string_Put.id [.pointer (some (Addr.mk b2 0 none)), .string k, .string vValue] H16 (fun r1 H17 => ∃ x2 : Bool, r1 = .bool x2 ∧ 
 ((∃ st : LoopState, ∃ pd : Option Code, H17[l]? = some (rc st pd)) ∧ Q (.bool true) (Array.setIfInBounds H17 l (rc .ready none))))
theorem delta_Between.r1.eq (J : Jn) (b2 : Nat) (l : Nat) (rc : LoopState → Option Code → Obj) (k : ByteArray) (vKey : ByteArray) (vValue : ByteArray) (vGone : Bool) (H14 : Hp) (Q : Value → Hp → Prop) : vRound Try.prog delta_Between.cfr J (rgA delta_Between.r1.code) (rgB delta_Between.r1.code) (setFr (delta_Between.r1.fr b2) (rgP delta_Between.r1.code).toList [.string k, .agg #[.string vKey, .string vValue, .bool vGone]]) l rc H14 Q = delta_Between.r1.body J b2 l rc k vKey vValue vGone H14 Q := by kernel_rfl
theorem delta_Between.r1.calls {b2 : Nat} {l : Nat} {k : ByteArray} {vKey : ByteArray} {vValue : ByteArray} {vGone : Bool} {H14 : Hp} {fnA : FuncId} {tmA : Array Value} {dA : Nat} {Q : Value → Hp → Prop} (hl : H14[l]? = some (delta_Between.r1.rec fnA tmA dA .ready none)) (hT : TmOf (delta_Between.r1.fr b2) tmA) (h : delta_Between.r1.body J0 b2 l (delta_Between.r1.rec fnA tmA dA) k vKey vValue vGone H14 Q) : YCalls Try.prog l [.string k, .agg #[.string vKey, .string vValue, .bool vGone]] H14 Q := vRound_calls (cf := delta_Between.cfr) (fn := fnA) (tm := tmA) (ps := rgP delta_Between.r1.code) (asg := rgA delta_Between.r1.code) (body := rgB delta_Between.r1.code) (d := dA) (fr := (delta_Between.r1.fr b2)) Try.mixed (by kernel_rfl) hl (by kernel_rfl) hT ((delta_Between.r1.eq J0 b2 l (delta_Between.r1.rec fnA tmA dA) k vKey vValue vGone H14 Q).mpr h)
noncomputable def delta_Between.r2.body (J : Jn) (b3 : Nat) (l1 : Nat) (rc1 : LoopState → Option Code → Obj) (k1 : ByteArray) (vKey1 : ByteArray) (vValue1 : ByteArray) (vGone1 : Bool) (H21 : Hp) (Q : Value → Hp → Prop) : Prop :=
 ∀ H22 : Hp, H22 = (holes H21 1) → H22[l1]? = some (rc1 .ready none) ∧ ∀ H23 : Hp, H23 = (Array.setIfInBounds H22 l1 (rc1 .busy none)) → 
 SCalls Try.prog sorted_Map_string_string_Put.id [.pointer (some (Addr.mk b3 0 none)), .string k1, .string vValue1] H23 (fun r3 H24 => ∃ x4 : Bool, r3 = .bool x4 ∧ 
 ((∃ st : LoopState, ∃ pd : Option Code, H24[l1]? = some (rc1 st pd)) ∧ Q (.bool true) (Array.setIfInBounds H24 l1 (rc1 .ready none))))
theorem delta_Between.r2.eq (J : Jn) (b3 : Nat) (l1 : Nat) (rc1 : LoopState → Option Code → Obj) (k1 : ByteArray) (vKey1 : ByteArray) (vValue1 : ByteArray) (vGone1 : Bool) (H21 : Hp) (Q : Value → Hp → Prop) : vRound Try.prog delta_Between.cfr J (rgA delta_Between.r2.code) (rgB delta_Between.r2.code) (setFr (delta_Between.r2.fr b3) (rgP delta_Between.r2.code).toList [.string k1, .agg #[.string vKey1, .string vValue1, .bool vGone1]]) l1 rc1 H21 Q = delta_Between.r2.body J b3 l1 rc1 k1 vKey1 vValue1 vGone1 H21 Q := by kernel_rfl
theorem delta_Between.r2.calls {b3 : Nat} {l1 : Nat} {k1 : ByteArray} {vKey1 : ByteArray} {vValue1 : ByteArray} {vGone1 : Bool} {H21 : Hp} {fnA : FuncId} {tmA : Array Value} {dA : Nat} {Q : Value → Hp → Prop} (hl : H21[l1]? = some (delta_Between.r2.rec fnA tmA dA .ready none)) (hT : TmOf (delta_Between.r2.fr b3) tmA) (h : delta_Between.r2.body J0 b3 l1 (delta_Between.r2.rec fnA tmA dA) k1 vKey1 vValue1 vGone1 H21 Q) : YCalls Try.prog l1 [.string k1, .agg #[.string vKey1, .string vValue1, .bool vGone1]] H21 Q := vRound_calls (cf := delta_Between.cfr) (fn := fnA) (tm := tmA) (ps := rgP delta_Between.r2.code) (asg := rgA delta_Between.r2.code) (body := rgB delta_Between.r2.code) (d := dA) (fr := (delta_Between.r2.fr b3)) Try.mixed (by kernel_rfl) hl (by kernel_rfl) hT ((delta_Between.r2.eq J0 b3 l1 (delta_Between.r2.rec fnA tmA dA) k1 vKey1 vValue1 vGone1 H21 Q).mpr h)
noncomputable def delta_Between.r3.body (J : Jn) (d : Addr) (b2 : Nat) (b3 : Nat) (l2 : Nat) (rc2 : LoopState → Option Code → Obj) (k2 : ByteArray) (v : ByteArray) (H30 : Hp) (Q : Value → Hp → Prop) : Prop :=
 H30[l2]? = some (rc2 .ready none) ∧ ∀ H31 : Hp, H31 = (Array.setIfInBounds H30 l2 (rc2 .busy none)) → 
 SCalls Try.prog sorted_Map_string_string_Get.id [.pointer (some (Addr.mk b3 0 none)), .string k2] H31 (fun r7 H32 => ∃ x8 : ByteArray, ∃ x9 : Bool, r7 = .tuple #[.string x8, .bool x9] ∧ 
 SCalls Try.prog sorted_Map_string_string_Get.id [.pointer (some (Addr.mk b2 0 none)), .string k2] H32 (fun r8 H33 => ∃ x10 : ByteArray, ∃ x11 : Bool, r8 = .tuple #[.string x10, .bool x11] ∧ 
 Br (!x9) (∃ Pairs : Sl, Hp.cell? H33 (d.add 3) = some (.slice Pairs.a Pairs.len Pairs.cap) ∧ ∀ b4 : Nat, b4 = Array.size H33 → ∀ H34 : Hp, H34 = (Array.push H33 (.cells #[.string k2, .string (ByteArray.mk #[]), .bool true] T_api_Pair)) → 
 vApp Try.prog T_sl_api_Pair Pairs.a Pairs.len Pairs.cap (.slice (some (Addr.mk b4 0 none)) 1 1) H34 (fun ap2 H35 => WrAt H35 (d.add 3) 1 ∧ ∀ H36 : Hp, H36 = (Hp.setCell H35 (d.add 3) (.slice ap2.a ap2.len ap2.cap)) → 
 ((∃ st : LoopState, ∃ pd : Option Code, H36[l2]? = some (rc2 st pd)) ∧ Q (.bool true) (Array.setIfInBounds H36 l2 (rc2 .ready none)))))
 (
 Br (!x11) (
 delta_Between.k3 J d l2 rc2 k2 x8 H33 true Q)
 (
 delta_Between.k3 J d l2 rc2 k2 x8 H33 (!(x10.toList == x8.toList)) Q))))
theorem delta_Between.r3.eq (J : Jn) (d : Addr) (b2 : Nat) (b3 : Nat) (l2 : Nat) (rc2 : LoopState → Option Code → Obj) (k2 : ByteArray) (v : ByteArray) (H30 : Hp) (Q : Value → Hp → Prop) : vRound Try.prog delta_Between.cfr J (rgA delta_Between.r3.code) (rgB delta_Between.r3.code) (setFr (delta_Between.r3.fr d b2 b3) (rgP delta_Between.r3.code).toList [.string k2, .string v]) l2 rc2 H30 Q = delta_Between.r3.body J d b2 b3 l2 rc2 k2 v H30 Q := by kernel_rfl
theorem delta_Between.r3.calls {d : Addr} {b2 : Nat} {b3 : Nat} {l2 : Nat} {k2 : ByteArray} {v : ByteArray} {H30 : Hp} {fnA : FuncId} {tmA : Array Value} {dA : Nat} {Q : Value → Hp → Prop} (hl : H30[l2]? = some (delta_Between.r3.rec fnA tmA dA .ready none)) (hT : TmOf (delta_Between.r3.fr d b2 b3) tmA) (h : delta_Between.r3.body J0 d b2 b3 l2 (delta_Between.r3.rec fnA tmA dA) k2 v H30 Q) : YCalls Try.prog l2 [.string k2, .string v] H30 Q := vRound_calls (cf := delta_Between.cfr) (fn := fnA) (tm := tmA) (ps := rgP delta_Between.r3.code) (asg := rgA delta_Between.r3.code) (body := rgB delta_Between.r3.code) (d := dA) (fr := (delta_Between.r3.fr d b2 b3)) Try.mixed (by kernel_rfl) hl (by kernel_rfl) hT ((delta_Between.r3.eq J0 d b2 b3 l2 (delta_Between.r3.rec fnA tmA dA) k2 v H30 Q).mpr h)
attribute [irreducible] delta_Between.r1.rec delta_Between.r1.fr delta_Between.r1.code delta_Between.r2.rec delta_Between.r2.fr delta_Between.r2.code delta_Between.r3.rec delta_Between.r3.fr delta_Between.r3.code
noncomputable def delta_Between.vc (J : Jn) (aIndex : Int) (aTerm : Int) (aPairs : Sl) (aSessions : Sl) (bIndex : Int) (bTerm : Int) (bPairs : Sl) (bSessions : Sl) (H : Hp) (Q : Value → Hp → Prop) : Prop :=
 ∀ H1 : Hp, H1 = (holes H 1) → ∀ H2 : Hp, H2 = (holes H1 1) → ∀ H3 : Hp, H3 = (holes H2 1) → 
 Br (decide (bIndex < aIndex)) (
 delta_Between.k1 J aIndex aTerm aPairs aSessions bIndex bTerm bPairs bSessions H3 true Q)
 (
 delta_Between.k1 J aIndex aTerm aPairs aSessions bIndex bTerm bPairs bSessions H3 (decide (bTerm < aTerm)) Q)
theorem delta_Between.eq (J : Jn) (aIndex : Int) (aTerm : Int) (aPairs : Sl) (aSessions : Sl) (bIndex : Int) (bTerm : Int) (bPairs : Sl) (bSessions : Sl) (H : Hp) (Q : Value → Hp → Prop) : vFn Try.prog delta_Between.cf J delta_Between.fn [.agg #[.int .i64 aIndex, .int .i64 aTerm, .slice aPairs.a aPairs.len aPairs.cap, .slice aSessions.a aSessions.len aSessions.cap], .agg #[.int .i64 bIndex, .int .i64 bTerm, .slice bPairs.a bPairs.len bPairs.cap, .slice bSessions.a bSessions.len bSessions.cap]] H Q = delta_Between.vc J aIndex aTerm aPairs aSessions bIndex bTerm bPairs bSessions H Q := by kernel_rfl
theorem delta_Between.calls {aIndex : Int} {aTerm : Int} {aPairs : Sl} {aSessions : Sl} {bIndex : Int} {bTerm : Int} {bPairs : Sl} {bSessions : Sl} {H : Hp} {Q : Value → Hp → Prop} (h : delta_Between.vc J0 aIndex aTerm aPairs aSessions bIndex bTerm bPairs bSessions H Q) : SCalls Try.prog delta_Between.id [.agg #[.int .i64 aIndex, .int .i64 aTerm, .slice aPairs.a aPairs.len aPairs.cap, .slice aSessions.a aSessions.len aSessions.cap], .agg #[.int .i64 bIndex, .int .i64 bTerm, .slice bPairs.a bPairs.len bPairs.cap, .slice bSessions.a bSessions.len bSessions.cap]] H Q := vFn_of Try.mixed Try.func12 (delta_Between.eq J0 aIndex aTerm aPairs aSessions bIndex bTerm bPairs bSessions H Q) h

/-! 13: tephra/delta.Do -/
noncomputable def delta_Do.cf : Cfg := ⟨[2, 3, 4, 8, 1000003], [(1000006, [6])], [(2, [2, 3, 4, 5, 27], true), (4, [2, 3, 4, 5, 6], true), (6, [4, 5, 6, 43], true)], [(20, [2, 3, 4, 5, 20])], true⟩
noncomputable def delta_Do.cfr : Cfg := { delta_Do.cf with rf := false }
noncomputable def delta_Do.r1.fr (out : Addr) : List AV := mkFr 61 [(6, .v (.pointer (some out)))]
noncomputable def delta_Do.r1.code : Code := sub (bodyOf delta_Do.fn) [1, 1, 1, 0, 1, 0]
noncomputable def delta_Do.r1.rec (fn : FuncId) (tm : Array Value) (d : Nat) (st : LoopState) (pd : Option Code) : Obj := recO fn tm (rgP delta_Do.r1.code) (rgA delta_Do.r1.code) (rgB delta_Do.r1.code) d st pd
noncomputable def delta_Do.k1.st (sIndex : Int) (sTerm : Int) (sPairs : Sl) (sSessions : Sl) (dFrom : Int) (dTo : Int) (dTerm : Int) (dPairs : Sl) (dSessions : Sl) (H3 : Hp) (x : Bool) : VS := ⟨mkFr 61 [(2, .loc 0 0), (3, .loc 1 0), (4, .loc 2 0), (5, .v (.int .i64 0)), (20, .v (.bool x))], [(T_api_State, [.int .i64 sIndex, .int .i64 sTerm, .slice sPairs.a sPairs.len sPairs.cap, .slice sSessions.a sSessions.len sSessions.cap]), (T_delta_Delta, [.int .i64 dFrom, .int .i64 dTo, .int .i64 dTerm, .slice dPairs.a dPairs.len dPairs.cap, .slice dSessions.a dSessions.len dSessions.cap]), (T_api_State, [.int .i64 0, .int .i64 0, .slice none 0 0, .slice none 0 0])], H3⟩
noncomputable def delta_Do.k1 (J : Jn) (sIndex : Int) (sTerm : Int) (sPairs : Sl) (sSessions : Sl) (dFrom : Int) (dTo : Int) (dTerm : Int) (dPairs : Sl) (dSessions : Sl) (H3 : Hp) (x : Bool) (Q : Value → Hp → Prop) : Prop := J (vMid Try.prog delta_Do.cf J delta_Do.fn [1, 0, 0] [0, 3, 3] 12 Q) (delta_Do.k1.st sIndex sTerm sPairs sSessions dFrom dTo dTerm dPairs dSessions H3 x)
noncomputable def delta_Do.k2.st (sIndex : Int) (sTerm : Int) (sPairs : Sl) (sSessions : Sl) (dFrom : Int) (dTo : Int) (dTerm : Int) (dPairs : Sl) (dSessions : Sl) (H3 : Hp) (x1 : Bool) : VS := ⟨mkFr 61 [(2, .loc 0 0), (3, .loc 1 0), (4, .loc 2 0), (5, .v (.int .i64 0)), (27, .v (.bool x1))], [(T_api_State, [.int .i64 sIndex, .int .i64 sTerm, .slice sPairs.a sPairs.len sPairs.cap, .slice sSessions.a sSessions.len sSessions.cap]), (T_delta_Delta, [.int .i64 dFrom, .int .i64 dTo, .int .i64 dTerm, .slice dPairs.a dPairs.len dPairs.cap, .slice dSessions.a dSessions.len dSessions.cap]), (T_api_State, [.int .i64 0, .int .i64 0, .slice none 0 0, .slice none 0 0])], H3⟩
noncomputable def delta_Do.k2 (J : Jn) (sIndex : Int) (sTerm : Int) (sPairs : Sl) (sSessions : Sl) (dFrom : Int) (dTo : Int) (dTerm : Int) (dPairs : Sl) (dSessions : Sl) (H3 : Hp) (x1 : Bool) (Q : Value → Hp → Prop) : Prop := J (vSeg Try.prog delta_Do.cf J delta_Do.fn [1, 0, 1] [0, 3, 3] Q) (delta_Do.k2.st sIndex sTerm sPairs sSessions dFrom dTo dTerm dPairs dSessions H3 x1)
noncomputable def delta_Do.k3.st (sIndex : Int) (sTerm : Int) (sPairs : Sl) (sSessions : Sl) (dFrom : Int) (dTo : Int) (dTerm : Int) (dPairs : Sl) (dSessions : Sl) (out : Addr) (H10 : Hp) : VS := ⟨mkFr 61 [(2, .loc 0 0), (3, .loc 1 0), (4, .loc 2 0), (5, .v (.int .i64 0)), (6, .v (.pointer (some out)))], [(T_api_State, [.int .i64 sIndex, .int .i64 sTerm, .slice sPairs.a sPairs.len sPairs.cap, .slice sSessions.a sSessions.len sSessions.cap]), (T_delta_Delta, [.int .i64 dFrom, .int .i64 dTo, .int .i64 dTerm, .slice dPairs.a dPairs.len dPairs.cap, .slice dSessions.a dSessions.len dSessions.cap]), (T_api_State, [.int .i64 0, .int .i64 0, .slice none 0 0, .slice none 0 0])], H10⟩
noncomputable def delta_Do.k3 (J : Jn) (sIndex : Int) (sTerm : Int) (sPairs : Sl) (sSessions : Sl) (dFrom : Int) (dTo : Int) (dTerm : Int) (dPairs : Sl) (dSessions : Sl) (out : Addr) (H10 : Hp) (Q : Value → Hp → Prop) : Prop := J (vSeg Try.prog delta_Do.cf J delta_Do.fn [1, 1, 1] [0, 3, 3] Q) (delta_Do.k3.st sIndex sTerm sPairs sSessions dFrom dTo dTerm dPairs dSessions out H10)
noncomputable def delta_Do.k4.st (sIndex : Int) (sTerm : Int) (sPairs : Sl) (sSessions : Sl) (dFrom : Int) (dTo : Int) (dTerm : Int) (dPairs : Sl) (dSessions : Sl) (out : Addr) (H13 : Hp) (x4 : Fv) : VS := ⟨mkFr 61 [(4, .loc 2 0), (5, .v (.int .i64 0)), (6, .v (.pointer (some out))), (43, .v (.func x4.fn x4.fi x4.ca))], [(T_api_State, [.int .i64 sIndex, .int .i64 sTerm, .slice sPairs.a sPairs.len sPairs.cap, .slice sSessions.a sSessions.len sSessions.cap]), (T_delta_Delta, [.int .i64 dFrom, .int .i64 dTo, .int .i64 dTerm, .slice dPairs.a dPairs.len dPairs.cap, .slice dSessions.a dSessions.len dSessions.cap]), (T_api_State, [.int .i64 0, .int .i64 0, .slice none 0 0, .slice none 0 0])], H13⟩
noncomputable def delta_Do.k4 (J : Jn) (sIndex : Int) (sTerm : Int) (sPairs : Sl) (sSessions : Sl) (dFrom : Int) (dTo : Int) (dTerm : Int) (dPairs : Sl) (dSessions : Sl) (out : Addr) (H13 : Hp) (x4 : Fv) (Q : Value → Hp → Prop) : Prop := J (vSeg Try.prog delta_Do.cf J delta_Do.fn [1, 1, 1, 0, 1] [0, 3, 3, 3, 3] Q) (delta_Do.k4.st sIndex sTerm sPairs sSessions dFrom dTo dTerm dPairs dSessions out H13 x4)
attribute [irreducible] delta_Do.k1 delta_Do.k2 delta_Do.k3 delta_Do.k4
noncomputable def delta_Do.k1.body (J : Jn) (sIndex : Int) (sTerm : Int) (sPairs : Sl) (sSessions : Sl) (dFrom : Int) (dTo : Int) (dTerm : Int) (dPairs : Sl) (dSessions : Sl) (H3 : Hp) (x : Bool) (Q : Value → Hp → Prop) : Prop :=
 
 Br x (
 delta_Do.k2 J sIndex sTerm sPairs sSessions dFrom dTo dTerm dPairs dSessions H3 true Q)
 (
 delta_Do.k2 J sIndex sTerm sPairs sSessions dFrom dTo dTerm dPairs dSessions H3 (decide (dTerm < sTerm)) Q)
theorem delta_Do.k1.eq (J : Jn) (sIndex : Int) (sTerm : Int) (sPairs : Sl) (sSessions : Sl) (dFrom : Int) (dTo : Int) (dTerm : Int) (dPairs : Sl) (dSessions : Sl) (H3 : Hp) (x : Bool) (Q : Value → Hp → Prop) : vMid Try.prog delta_Do.cf J delta_Do.fn [1, 0, 0] [0, 3, 3] 12 Q (delta_Do.k1.st sIndex sTerm sPairs sSessions dFrom dTo dTerm dPairs dSessions H3 x) = delta_Do.k1.body J sIndex sTerm sPairs sSessions dFrom dTo dTerm dPairs dSessions H3 x Q := by kernel_rfl
theorem delta_Do.k1.step {sIndex : Int} {sTerm : Int} {sPairs : Sl} {sSessions : Sl} {dFrom : Int} {dTo : Int} {dTerm : Int} {dPairs : Sl} {dSessions : Sl} {H3 : Hp} {x : Bool} {Q : Value → Hp → Prop} (h : delta_Do.k1.body J0 sIndex sTerm sPairs sSessions dFrom dTo dTerm dPairs dSessions H3 x Q) : delta_Do.k1 J0 sIndex sTerm sPairs sSessions dFrom dTo dTerm dPairs dSessions H3 x Q := step_of (vMid Try.prog delta_Do.cf J0 delta_Do.fn [1, 0, 0] [0, 3, 3] 12 Q) (delta_Do.k1.st sIndex sTerm sPairs sSessions dFrom dTo dTerm dPairs dSessions H3 x) (delta_Do.k1.eq J0 sIndex sTerm sPairs sSessions dFrom dTo dTerm dPairs dSessions H3 x Q) (by kernel_rfl) h
noncomputable def delta_Do.k2.body (J : Jn) (sIndex : Int) (sTerm : Int) (sPairs : Sl) (sSessions : Sl) (dFrom : Int) (dTo : Int) (dTerm : Int) (dPairs : Sl) (dSessions : Sl) (H3 : Hp) (x1 : Bool) (Q : Value → Hp → Prop) : Prop :=
 
 Br x1 (Q (.tuple #[.agg #[.int .i64 0, .int .i64 0, .slice none 0 0, .slice none 0 0], .int .i64 8]) H3)
 (
  (
 vApp Try.prog T_sl_api_Session none 0 0 (.slice dSessions.a dSessions.len dSessions.cap) H3 (fun ap H4 => ∀ b : Nat, b = Array.size H4 → ∀ H5 : Hp, H5 = (Array.push H4 (.cells #[.int .i64 0, .int .i64 0, .slice none 0 0, .slice none 0 0] T_api_State)) → WrAt H5 (Addr.mk b 0 none) 4 ∧ ∀ H6 : Hp, H6 = (Hp.setCells H5 (Addr.mk b 0 none) [.int .i64 dTo, .int .i64 dTerm, .slice none 0 0, .slice ap.a ap.len ap.cap] 0) → 
 delta_Do.k3 J sIndex sTerm sPairs sSessions dFrom dTo dTerm dPairs dSessions ((Addr.mk b 0 none)) H6 Q)) ∧ 
  (∀ b1 : Nat, b1 = Array.size H3 → ∀ H7 : Hp, H7 = (Array.push H3 (.cells #[.int .i64 0, .int .i64 0, .slice none 0 0, .slice none 0 0] T_api_State)) → 
 vApp Try.prog T_sl_api_Session none 0 0 (.slice dSessions.a dSessions.len dSessions.cap) H7 (fun ap1 H8 => WrAt H8 (Addr.mk b1 0 none) 4 ∧ ∀ H9 : Hp, H9 = (Hp.setCells H8 (Addr.mk b1 0 none) [.int .i64 dTo, .int .i64 dTerm, .slice none 0 0, .slice ap1.a ap1.len ap1.cap] 0) → 
 delta_Do.k3 J sIndex sTerm sPairs sSessions dFrom dTo dTerm dPairs dSessions ((Addr.mk b1 0 none)) H9 Q)))
theorem delta_Do.k2.eq (J : Jn) (sIndex : Int) (sTerm : Int) (sPairs : Sl) (sSessions : Sl) (dFrom : Int) (dTo : Int) (dTerm : Int) (dPairs : Sl) (dSessions : Sl) (H3 : Hp) (x1 : Bool) (Q : Value → Hp → Prop) : vSeg Try.prog delta_Do.cf J delta_Do.fn [1, 0, 1] [0, 3, 3] Q (delta_Do.k2.st sIndex sTerm sPairs sSessions dFrom dTo dTerm dPairs dSessions H3 x1) = delta_Do.k2.body J sIndex sTerm sPairs sSessions dFrom dTo dTerm dPairs dSessions H3 x1 Q := by kernel_rfl
theorem delta_Do.k2.step {sIndex : Int} {sTerm : Int} {sPairs : Sl} {sSessions : Sl} {dFrom : Int} {dTo : Int} {dTerm : Int} {dPairs : Sl} {dSessions : Sl} {H3 : Hp} {x1 : Bool} {Q : Value → Hp → Prop} (h : delta_Do.k2.body J0 sIndex sTerm sPairs sSessions dFrom dTo dTerm dPairs dSessions H3 x1 Q) : delta_Do.k2 J0 sIndex sTerm sPairs sSessions dFrom dTo dTerm dPairs dSessions H3 x1 Q := step_of (vSeg Try.prog delta_Do.cf J0 delta_Do.fn [1, 0, 1] [0, 3, 3] Q) (delta_Do.k2.st sIndex sTerm sPairs sSessions dFrom dTo dTerm dPairs dSessions H3 x1) (delta_Do.k2.eq J0 sIndex sTerm sPairs sSessions dFrom dTo dTerm dPairs dSessions H3 x1 Q) (by kernel_rfl) h
noncomputable def delta_Do.k3.body (J : Jn) (sIndex : Int) (sTerm : Int) (sPairs : Sl) (sSessions : Sl) (dFrom : Int) (dTo : Int) (dTerm : Int) (dPairs : Sl) (dSessions : Sl) (out : Addr) (H10 : Hp) (Q : Value → Hp → Prop) : Prop :=
 
 SCalls Try.prog delta_seq.id [.slice sPairs.a sPairs.len sPairs.cap] H10 (fun r H11 => ∃ x2 : Fv, r = .func x2.fn x2.fi x2.ca ∧ 
 SCalls Try.prog delta_seq.id [.slice dPairs.a dPairs.len dPairs.cap] H11 (fun r1 H12 => ∃ x3 : Fv, r1 = .func x3.fn x3.fi x3.ca ∧ 
 SCalls Try.prog sorted_Merge_string_api_Pair.id [.func x2.fn x2.fi x2.ca, .func x3.fn x3.fi x3.ca] H12 (fun r2 H13 => ∃ x4 : Fv, r2 = .func x4.fn x4.fi x4.ca ∧ 
 delta_Do.k4 J sIndex sTerm sPairs sSessions dFrom dTo dTerm dPairs dSessions out H13 x4 Q)))
theorem delta_Do.k3.eq (J : Jn) (sIndex : Int) (sTerm : Int) (sPairs : Sl) (sSessions : Sl) (dFrom : Int) (dTo : Int) (dTerm : Int) (dPairs : Sl) (dSessions : Sl) (out : Addr) (H10 : Hp) (Q : Value → Hp → Prop) : vSeg Try.prog delta_Do.cf J delta_Do.fn [1, 1, 1] [0, 3, 3] Q (delta_Do.k3.st sIndex sTerm sPairs sSessions dFrom dTo dTerm dPairs dSessions out H10) = delta_Do.k3.body J sIndex sTerm sPairs sSessions dFrom dTo dTerm dPairs dSessions out H10 Q := by kernel_rfl
theorem delta_Do.k3.step {sIndex : Int} {sTerm : Int} {sPairs : Sl} {sSessions : Sl} {dFrom : Int} {dTo : Int} {dTerm : Int} {dPairs : Sl} {dSessions : Sl} {out : Addr} {H10 : Hp} {Q : Value → Hp → Prop} (h : delta_Do.k3.body J0 sIndex sTerm sPairs sSessions dFrom dTo dTerm dPairs dSessions out H10 Q) : delta_Do.k3 J0 sIndex sTerm sPairs sSessions dFrom dTo dTerm dPairs dSessions out H10 Q := step_of (vSeg Try.prog delta_Do.cf J0 delta_Do.fn [1, 1, 1] [0, 3, 3] Q) (delta_Do.k3.st sIndex sTerm sPairs sSessions dFrom dTo dTerm dPairs dSessions out H10) (delta_Do.k3.eq J0 sIndex sTerm sPairs sSessions dFrom dTo dTerm dPairs dSessions out H10 Q) (by kernel_rfl) h
noncomputable def delta_Do.k4.body (J : Jn) (sIndex : Int) (sTerm : Int) (sPairs : Sl) (sSessions : Sl) (dFrom : Int) (dTo : Int) (dTerm : Int) (dPairs : Sl) (dSessions : Sl) (out : Addr) (H13 : Hp) (x4 : Fv) (Q : Value → Hp → Prop) : Prop :=
 
 ∀ fn : FuncId, ∀ tm : Array Value, TmOf (delta_Do.r1.fr out) tm → vRg Try.prog (.func x4.fn x4.fi x4.ca) (Array.size H13 + 1) (Array.push (Array.push H13 hole) (delta_Do.r1.rec fn tm (Array.size H13) .ready none)) (fun H20 => ∃ st : LoopState, ∃ pd : Option Code, H20[(Array.size H13 + 1)]? = some (delta_Do.r1.rec fn tm (Array.size H13) st pd) ∧ st ≠ .busy ∧ ∀ H21 : Hp, H21 = (Array.setIfInBounds H20 (Array.size H13 + 1) (delta_Do.r1.rec fn tm (Array.size H13) .exhausted pd)) → ((pd = none → ∃ Pairs1 : Sl, Hp.cell? H21 (out.add 2) = some (.slice Pairs1.a Pairs1.len Pairs1.cap) ∧ 
 Br (decide (((Pairs1.len : Nat) : Int) > 64)) (Q (.tuple #[.agg #[.int .i64 0, .int .i64 0, .slice none 0 0, .slice none 0 0], .int .i64 4]) H21)
 (∃ Index : Int, ∃ Term : Int, ∃ Pairs2 : Sl, ∃ Sessions : Sl, RowAt H21 out [.int .i64 Index, .int .i64 Term, .slice Pairs2.a Pairs2.len Pairs2.cap, .slice Sessions.a Sessions.len Sessions.cap] ∧ Q (.tuple #[.agg #[.int .i64 Index, .int .i64 Term, .slice Pairs2.a Pairs2.len Pairs2.cap, .slice Sessions.a Sessions.len Sessions.cap], .int .i64 0]) H21)) ∧ (pd = some .ret → Q (.tuple #[.agg #[.int .i64 0, .int .i64 0, .slice none 0 0, .slice none 0 0], .int .i64 0]) H21) ∧ (True) ∧ (pd = none ∨ pd = some .ret ∨ ∃ i ∈ ([] : List Nat), pd = some (.exit i))))
theorem delta_Do.k4.eq (J : Jn) (sIndex : Int) (sTerm : Int) (sPairs : Sl) (sSessions : Sl) (dFrom : Int) (dTo : Int) (dTerm : Int) (dPairs : Sl) (dSessions : Sl) (out : Addr) (H13 : Hp) (x4 : Fv) (Q : Value → Hp → Prop) : vSeg Try.prog delta_Do.cf J delta_Do.fn [1, 1, 1, 0, 1] [0, 3, 3, 3, 3] Q (delta_Do.k4.st sIndex sTerm sPairs sSessions dFrom dTo dTerm dPairs dSessions out H13 x4) = delta_Do.k4.body J sIndex sTerm sPairs sSessions dFrom dTo dTerm dPairs dSessions out H13 x4 Q := by kernel_rfl
theorem delta_Do.k4.step {sIndex : Int} {sTerm : Int} {sPairs : Sl} {sSessions : Sl} {dFrom : Int} {dTo : Int} {dTerm : Int} {dPairs : Sl} {dSessions : Sl} {out : Addr} {H13 : Hp} {x4 : Fv} {Q : Value → Hp → Prop} (h : delta_Do.k4.body J0 sIndex sTerm sPairs sSessions dFrom dTo dTerm dPairs dSessions out H13 x4 Q) : delta_Do.k4 J0 sIndex sTerm sPairs sSessions dFrom dTo dTerm dPairs dSessions out H13 x4 Q := step_of (vSeg Try.prog delta_Do.cf J0 delta_Do.fn [1, 1, 1, 0, 1] [0, 3, 3, 3, 3] Q) (delta_Do.k4.st sIndex sTerm sPairs sSessions dFrom dTo dTerm dPairs dSessions out H13 x4) (delta_Do.k4.eq J0 sIndex sTerm sPairs sSessions dFrom dTo dTerm dPairs dSessions out H13 x4 Q) (by kernel_rfl) h
noncomputable def delta_Do.r1.body (J : Jn) (out : Addr) (l : Nat) (rc : LoopState → Option Code → Obj) (k : ByteArray) (vKey : ByteArray) (vValue : ByteArray) (vGone : Bool) (H14 : Hp) (Q : Value → Hp → Prop) : Prop :=
 ∀ H15 : Hp, H15 = (holes H14 1) → H15[l]? = some (rc .ready none) ∧ ∀ H16 : Hp, H16 = (Array.setIfInBounds H15 l (rc .busy none)) → 
 Br (!vGone) (∃ Pairs : Sl, Hp.cell? H16 (out.add 2) = some (.slice Pairs.a Pairs.len Pairs.cap) ∧ ∀ b2 : Nat, b2 = Array.size H16 → ∀ H17 : Hp, H17 = (Array.push H16 (.cells #[.string vKey, .string vValue, .bool vGone] T_api_Pair)) → 
 vApp Try.prog T_sl_api_Pair Pairs.a Pairs.len Pairs.cap (.slice (some (Addr.mk b2 0 none)) 1 1) H17 (fun ap2 H18 => WrAt H18 (out.add 2) 1 ∧ ∀ H19 : Hp, H19 = (Hp.setCell H18 (out.add 2) (.slice ap2.a ap2.len ap2.cap)) → 
 ((∃ st : LoopState, ∃ pd : Option Code, H19[l]? = some (rc st pd)) ∧ Q (.bool true) (Array.setIfInBounds H19 l (rc .ready none)))))
 (
 ((∃ st : LoopState, ∃ pd : Option Code, H16[l]? = some (rc st pd)) ∧ Q (.bool true) (Array.setIfInBounds H16 l (rc .ready none))))
theorem delta_Do.r1.eq (J : Jn) (out : Addr) (l : Nat) (rc : LoopState → Option Code → Obj) (k : ByteArray) (vKey : ByteArray) (vValue : ByteArray) (vGone : Bool) (H14 : Hp) (Q : Value → Hp → Prop) : vRound Try.prog delta_Do.cfr J (rgA delta_Do.r1.code) (rgB delta_Do.r1.code) (setFr (delta_Do.r1.fr out) (rgP delta_Do.r1.code).toList [.string k, .agg #[.string vKey, .string vValue, .bool vGone]]) l rc H14 Q = delta_Do.r1.body J out l rc k vKey vValue vGone H14 Q := by kernel_rfl
theorem delta_Do.r1.calls {out : Addr} {l : Nat} {k : ByteArray} {vKey : ByteArray} {vValue : ByteArray} {vGone : Bool} {H14 : Hp} {fnA : FuncId} {tmA : Array Value} {dA : Nat} {Q : Value → Hp → Prop} (hl : H14[l]? = some (delta_Do.r1.rec fnA tmA dA .ready none)) (hT : TmOf (delta_Do.r1.fr out) tmA) (h : delta_Do.r1.body J0 out l (delta_Do.r1.rec fnA tmA dA) k vKey vValue vGone H14 Q) : YCalls Try.prog l [.string k, .agg #[.string vKey, .string vValue, .bool vGone]] H14 Q := vRound_calls (cf := delta_Do.cfr) (fn := fnA) (tm := tmA) (ps := rgP delta_Do.r1.code) (asg := rgA delta_Do.r1.code) (body := rgB delta_Do.r1.code) (d := dA) (fr := (delta_Do.r1.fr out)) Try.mixed (by kernel_rfl) hl (by kernel_rfl) hT ((delta_Do.r1.eq J0 out l (delta_Do.r1.rec fnA tmA dA) k vKey vValue vGone H14 Q).mpr h)
attribute [irreducible] delta_Do.r1.rec delta_Do.r1.fr delta_Do.r1.code
noncomputable def delta_Do.vc (J : Jn) (sIndex : Int) (sTerm : Int) (sPairs : Sl) (sSessions : Sl) (dFrom : Int) (dTo : Int) (dTerm : Int) (dPairs : Sl) (dSessions : Sl) (H : Hp) (Q : Value → Hp → Prop) : Prop :=
 ∀ H1 : Hp, H1 = (holes H 1) → ∀ H2 : Hp, H2 = (holes H1 1) → ∀ H3 : Hp, H3 = (holes H2 1) → 
 Br (sIndex != dFrom) (
 delta_Do.k1 J sIndex sTerm sPairs sSessions dFrom dTo dTerm dPairs dSessions H3 true Q)
 (
 delta_Do.k1 J sIndex sTerm sPairs sSessions dFrom dTo dTerm dPairs dSessions H3 (decide (dTo < dFrom)) Q)
theorem delta_Do.eq (J : Jn) (sIndex : Int) (sTerm : Int) (sPairs : Sl) (sSessions : Sl) (dFrom : Int) (dTo : Int) (dTerm : Int) (dPairs : Sl) (dSessions : Sl) (H : Hp) (Q : Value → Hp → Prop) : vFn Try.prog delta_Do.cf J delta_Do.fn [.agg #[.int .i64 sIndex, .int .i64 sTerm, .slice sPairs.a sPairs.len sPairs.cap, .slice sSessions.a sSessions.len sSessions.cap], .agg #[.int .i64 dFrom, .int .i64 dTo, .int .i64 dTerm, .slice dPairs.a dPairs.len dPairs.cap, .slice dSessions.a dSessions.len dSessions.cap]] H Q = delta_Do.vc J sIndex sTerm sPairs sSessions dFrom dTo dTerm dPairs dSessions H Q := by kernel_rfl
theorem delta_Do.calls {sIndex : Int} {sTerm : Int} {sPairs : Sl} {sSessions : Sl} {dFrom : Int} {dTo : Int} {dTerm : Int} {dPairs : Sl} {dSessions : Sl} {H : Hp} {Q : Value → Hp → Prop} (h : delta_Do.vc J0 sIndex sTerm sPairs sSessions dFrom dTo dTerm dPairs dSessions H Q) : SCalls Try.prog delta_Do.id [.agg #[.int .i64 sIndex, .int .i64 sTerm, .slice sPairs.a sPairs.len sPairs.cap, .slice sSessions.a sSessions.len sSessions.cap], .agg #[.int .i64 dFrom, .int .i64 dTo, .int .i64 dTerm, .slice dPairs.a dPairs.len dPairs.cap, .slice dSessions.a dSessions.len dSessions.cap]] H Q := vFn_of Try.mixed Try.func13 (delta_Do.eq J0 sIndex sTerm sPairs sSessions dFrom dTo dTerm dPairs dSessions H Q) h

/-! 14: tephra/state.Same -/
noncomputable def state_Same.cf : Cfg := ⟨[2, 3, 1000003], [], [], [], true⟩
noncomputable def state_Same.vc (J : Jn) (aIndex : Int) (aTerm : Int) (aPairs : Sl) (aSessions : Sl) (bIndex : Int) (bTerm : Int) (bPairs : Sl) (bSessions : Sl) (H : Hp) (Q : Value → Hp → Prop) : Prop :=
 ∀ H1 : Hp, H1 = (holes H 1) → ∀ H2 : Hp, H2 = (holes H1 1) → 
 SCalls Try.prog state_Bytes.id [.agg #[.int .i64 aIndex, .int .i64 aTerm, .slice aPairs.a aPairs.len aPairs.cap, .slice aSessions.a aSessions.len aSessions.cap]] H2 (fun r H3 => ∃ x : Sl, r = .slice x.a x.len x.cap ∧ 
  (vB2S H3 x.a x.len (fun s => 
 SCalls Try.prog state_Bytes.id [.agg #[.int .i64 bIndex, .int .i64 bTerm, .slice bPairs.a bPairs.len bPairs.cap, .slice bSessions.a bSessions.len bSessions.cap]] H3 (fun r1 H4 => ∃ x1 : Sl, r1 = .slice x1.a x1.len x1.cap ∧ vB2S H4 x1.a x1.len (fun s1 => Q (.bool (s.toList == s1.toList)) H4)))) ∧ 
  (
 SCalls Try.prog state_Bytes.id [.agg #[.int .i64 bIndex, .int .i64 bTerm, .slice bPairs.a bPairs.len bPairs.cap, .slice bSessions.a bSessions.len bSessions.cap]] H3 (fun r2 H5 => ∃ x2 : Sl, r2 = .slice x2.a x2.len x2.cap ∧ 
  (vB2S H5 x.a x.len (fun s2 => vB2S H5 x2.a x2.len (fun s3 => Q (.bool (s2.toList == s3.toList)) H5))) ∧ 
  (vB2S H5 x2.a x2.len (fun s4 => vB2S H5 x.a x.len (fun s5 => Q (.bool (s5.toList == s4.toList)) H5))))))
theorem state_Same.eq (J : Jn) (aIndex : Int) (aTerm : Int) (aPairs : Sl) (aSessions : Sl) (bIndex : Int) (bTerm : Int) (bPairs : Sl) (bSessions : Sl) (H : Hp) (Q : Value → Hp → Prop) : vFn Try.prog state_Same.cf J state_Same.fn [.agg #[.int .i64 aIndex, .int .i64 aTerm, .slice aPairs.a aPairs.len aPairs.cap, .slice aSessions.a aSessions.len aSessions.cap], .agg #[.int .i64 bIndex, .int .i64 bTerm, .slice bPairs.a bPairs.len bPairs.cap, .slice bSessions.a bSessions.len bSessions.cap]] H Q = state_Same.vc J aIndex aTerm aPairs aSessions bIndex bTerm bPairs bSessions H Q := by kernel_rfl
theorem state_Same.calls {aIndex : Int} {aTerm : Int} {aPairs : Sl} {aSessions : Sl} {bIndex : Int} {bTerm : Int} {bPairs : Sl} {bSessions : Sl} {H : Hp} {Q : Value → Hp → Prop} (h : state_Same.vc J0 aIndex aTerm aPairs aSessions bIndex bTerm bPairs bSessions H Q) : SCalls Try.prog state_Same.id [.agg #[.int .i64 aIndex, .int .i64 aTerm, .slice aPairs.a aPairs.len aPairs.cap, .slice aSessions.a aSessions.len aSessions.cap], .agg #[.int .i64 bIndex, .int .i64 bTerm, .slice bPairs.a bPairs.len bPairs.cap, .slice bSessions.a bSessions.len bSessions.cap]] H Q := vFn_of Try.mixed Try.func14 (state_Same.eq J0 aIndex aTerm aPairs aSessions bIndex bTerm bPairs bSessions H Q) h

/-! 15: tephra/tephralaw07.Some -/
noncomputable def tephralaw07_Some.cf : Cfg := ⟨[2, 1000003], [], [], [], true⟩
noncomputable def tephralaw07_Some.vc (J : Jn) (says : Sl) (H : Hp) (Q : Value → Hp → Prop) : Prop :=
 ∀ H1 : Hp, H1 = (holes H 1) → 
 SCalls Try.prog tephralaw06_Entries.id [.slice says.a says.len says.cap, .int .i64 1, .int .i64 0] H1 (fun r H2 => ∃ x : Sl, r = .slice x.a x.len x.cap ∧ 
 SCalls Try.prog state_Fold.id [.agg #[.int .i64 0, .int .i64 0, .slice none 0 0, .slice none 0 0], .slice x.a x.len x.cap] H2 (fun r1 H3 => ∃ Index : Int, ∃ Term : Int, ∃ Pairs : Sl, ∃ Sessions : Sl, r1 = .agg #[.int .i64 Index, .int .i64 Term, .slice Pairs.a Pairs.len Pairs.cap, .slice Sessions.a Sessions.len Sessions.cap] ∧ Q (.agg #[.int .i64 Index, .int .i64 Term, .slice Pairs.a Pairs.len Pairs.cap, .slice Sessions.a Sessions.len Sessions.cap]) H3))
theorem tephralaw07_Some.eq (J : Jn) (says : Sl) (H : Hp) (Q : Value → Hp → Prop) : vFn Try.prog tephralaw07_Some.cf J tephralaw07_Some.fn [.slice says.a says.len says.cap] H Q = tephralaw07_Some.vc J says H Q := by kernel_rfl
theorem tephralaw07_Some.calls {says : Sl} {H : Hp} {Q : Value → Hp → Prop} (h : tephralaw07_Some.vc J0 says H Q) : SCalls Try.prog tephralaw07_Some.id [.slice says.a says.len says.cap] H Q := vFn_of Try.mixed Try.func15 (tephralaw07_Some.eq J0 says H Q) h

/-! 16: tephra/delta.Right -/
noncomputable def delta_Right.cf : Cfg := ⟨[1, 1000003], [], [], [(12, [1, 12]), (17, [1, 17]), (22, [1, 22]), (27, [1, 27])], true⟩
noncomputable def delta_Right.k1.st (dFrom : Int) (dTo : Int) (dTerm : Int) (dPairs : Sl) (dSessions : Sl) (H1 : Hp) (x : Bool) : VS := ⟨mkFr 35 [(1, .loc 0 0), (12, .v (.bool x))], [(T_delta_Delta, [.int .i64 dFrom, .int .i64 dTo, .int .i64 dTerm, .slice dPairs.a dPairs.len dPairs.cap, .slice dSessions.a dSessions.len dSessions.cap])], H1⟩
noncomputable def delta_Right.k1 (J : Jn) (dFrom : Int) (dTo : Int) (dTerm : Int) (dPairs : Sl) (dSessions : Sl) (H1 : Hp) (x : Bool) (Q : Value → Hp → Prop) : Prop := J (vMid Try.prog delta_Right.cf J delta_Right.fn [1, 0] [0, 1] 10 Q) (delta_Right.k1.st dFrom dTo dTerm dPairs dSessions H1 x)
noncomputable def delta_Right.k2.st (dFrom : Int) (dTo : Int) (dTerm : Int) (dPairs : Sl) (dSessions : Sl) (H1 : Hp) (x1 : Bool) : VS := ⟨mkFr 35 [(1, .loc 0 0), (17, .v (.bool x1))], [(T_delta_Delta, [.int .i64 dFrom, .int .i64 dTo, .int .i64 dTerm, .slice dPairs.a dPairs.len dPairs.cap, .slice dSessions.a dSessions.len dSessions.cap])], H1⟩
noncomputable def delta_Right.k2 (J : Jn) (dFrom : Int) (dTo : Int) (dTerm : Int) (dPairs : Sl) (dSessions : Sl) (H1 : Hp) (x1 : Bool) (Q : Value → Hp → Prop) : Prop := J (vMid Try.prog delta_Right.cf J delta_Right.fn [1, 0] [0, 1] 15 Q) (delta_Right.k2.st dFrom dTo dTerm dPairs dSessions H1 x1)
noncomputable def delta_Right.k3.st (dFrom : Int) (dTo : Int) (dTerm : Int) (dPairs : Sl) (dSessions : Sl) (H1 : Hp) (x2 : Bool) : VS := ⟨mkFr 35 [(1, .loc 0 0), (22, .v (.bool x2))], [(T_delta_Delta, [.int .i64 dFrom, .int .i64 dTo, .int .i64 dTerm, .slice dPairs.a dPairs.len dPairs.cap, .slice dSessions.a dSessions.len dSessions.cap])], H1⟩
noncomputable def delta_Right.k3 (J : Jn) (dFrom : Int) (dTo : Int) (dTerm : Int) (dPairs : Sl) (dSessions : Sl) (H1 : Hp) (x2 : Bool) (Q : Value → Hp → Prop) : Prop := J (vMid Try.prog delta_Right.cf J delta_Right.fn [1, 0] [0, 1] 20 Q) (delta_Right.k3.st dFrom dTo dTerm dPairs dSessions H1 x2)
noncomputable def delta_Right.k4.st (dFrom : Int) (dTo : Int) (dTerm : Int) (dPairs : Sl) (dSessions : Sl) (H1 : Hp) (x3 : Bool) : VS := ⟨mkFr 35 [(1, .loc 0 0), (27, .v (.bool x3))], [(T_delta_Delta, [.int .i64 dFrom, .int .i64 dTo, .int .i64 dTerm, .slice dPairs.a dPairs.len dPairs.cap, .slice dSessions.a dSessions.len dSessions.cap])], H1⟩
noncomputable def delta_Right.k4 (J : Jn) (dFrom : Int) (dTo : Int) (dTerm : Int) (dPairs : Sl) (dSessions : Sl) (H1 : Hp) (x3 : Bool) (Q : Value → Hp → Prop) : Prop := J (vMid Try.prog delta_Right.cf J delta_Right.fn [1, 0] [0, 1] 25 Q) (delta_Right.k4.st dFrom dTo dTerm dPairs dSessions H1 x3)
attribute [irreducible] delta_Right.k1 delta_Right.k2 delta_Right.k3 delta_Right.k4
noncomputable def delta_Right.k1.body (J : Jn) (dFrom : Int) (dTo : Int) (dTerm : Int) (dPairs : Sl) (dSessions : Sl) (H1 : Hp) (x : Bool) (Q : Value → Hp → Prop) : Prop :=
 
 Br x (
 delta_Right.k2 J dFrom dTo dTerm dPairs dSessions H1 (decide (dTo ≤ 1048576)) Q)
 (
 delta_Right.k2 J dFrom dTo dTerm dPairs dSessions H1 false Q)
theorem delta_Right.k1.eq (J : Jn) (dFrom : Int) (dTo : Int) (dTerm : Int) (dPairs : Sl) (dSessions : Sl) (H1 : Hp) (x : Bool) (Q : Value → Hp → Prop) : vMid Try.prog delta_Right.cf J delta_Right.fn [1, 0] [0, 1] 10 Q (delta_Right.k1.st dFrom dTo dTerm dPairs dSessions H1 x) = delta_Right.k1.body J dFrom dTo dTerm dPairs dSessions H1 x Q := by kernel_rfl
theorem delta_Right.k1.step {dFrom : Int} {dTo : Int} {dTerm : Int} {dPairs : Sl} {dSessions : Sl} {H1 : Hp} {x : Bool} {Q : Value → Hp → Prop} (h : delta_Right.k1.body J0 dFrom dTo dTerm dPairs dSessions H1 x Q) : delta_Right.k1 J0 dFrom dTo dTerm dPairs dSessions H1 x Q := step_of (vMid Try.prog delta_Right.cf J0 delta_Right.fn [1, 0] [0, 1] 10 Q) (delta_Right.k1.st dFrom dTo dTerm dPairs dSessions H1 x) (delta_Right.k1.eq J0 dFrom dTo dTerm dPairs dSessions H1 x Q) (by kernel_rfl) h
noncomputable def delta_Right.k2.body (J : Jn) (dFrom : Int) (dTo : Int) (dTerm : Int) (dPairs : Sl) (dSessions : Sl) (H1 : Hp) (x1 : Bool) (Q : Value → Hp → Prop) : Prop :=
 
 Br x1 (
 delta_Right.k3 J dFrom dTo dTerm dPairs dSessions H1 (decide (dTerm ≥ 0)) Q)
 (
 delta_Right.k3 J dFrom dTo dTerm dPairs dSessions H1 false Q)
theorem delta_Right.k2.eq (J : Jn) (dFrom : Int) (dTo : Int) (dTerm : Int) (dPairs : Sl) (dSessions : Sl) (H1 : Hp) (x1 : Bool) (Q : Value → Hp → Prop) : vMid Try.prog delta_Right.cf J delta_Right.fn [1, 0] [0, 1] 15 Q (delta_Right.k2.st dFrom dTo dTerm dPairs dSessions H1 x1) = delta_Right.k2.body J dFrom dTo dTerm dPairs dSessions H1 x1 Q := by kernel_rfl
theorem delta_Right.k2.step {dFrom : Int} {dTo : Int} {dTerm : Int} {dPairs : Sl} {dSessions : Sl} {H1 : Hp} {x1 : Bool} {Q : Value → Hp → Prop} (h : delta_Right.k2.body J0 dFrom dTo dTerm dPairs dSessions H1 x1 Q) : delta_Right.k2 J0 dFrom dTo dTerm dPairs dSessions H1 x1 Q := step_of (vMid Try.prog delta_Right.cf J0 delta_Right.fn [1, 0] [0, 1] 15 Q) (delta_Right.k2.st dFrom dTo dTerm dPairs dSessions H1 x1) (delta_Right.k2.eq J0 dFrom dTo dTerm dPairs dSessions H1 x1 Q) (by kernel_rfl) h
noncomputable def delta_Right.k3.body (J : Jn) (dFrom : Int) (dTo : Int) (dTerm : Int) (dPairs : Sl) (dSessions : Sl) (H1 : Hp) (x2 : Bool) (Q : Value → Hp → Prop) : Prop :=
 
 Br x2 (
 delta_Right.k4 J dFrom dTo dTerm dPairs dSessions H1 (decide (dTerm ≤ 1048576)) Q)
 (
 delta_Right.k4 J dFrom dTo dTerm dPairs dSessions H1 false Q)
theorem delta_Right.k3.eq (J : Jn) (dFrom : Int) (dTo : Int) (dTerm : Int) (dPairs : Sl) (dSessions : Sl) (H1 : Hp) (x2 : Bool) (Q : Value → Hp → Prop) : vMid Try.prog delta_Right.cf J delta_Right.fn [1, 0] [0, 1] 20 Q (delta_Right.k3.st dFrom dTo dTerm dPairs dSessions H1 x2) = delta_Right.k3.body J dFrom dTo dTerm dPairs dSessions H1 x2 Q := by kernel_rfl
theorem delta_Right.k3.step {dFrom : Int} {dTo : Int} {dTerm : Int} {dPairs : Sl} {dSessions : Sl} {H1 : Hp} {x2 : Bool} {Q : Value → Hp → Prop} (h : delta_Right.k3.body J0 dFrom dTo dTerm dPairs dSessions H1 x2 Q) : delta_Right.k3 J0 dFrom dTo dTerm dPairs dSessions H1 x2 Q := step_of (vMid Try.prog delta_Right.cf J0 delta_Right.fn [1, 0] [0, 1] 20 Q) (delta_Right.k3.st dFrom dTo dTerm dPairs dSessions H1 x2) (delta_Right.k3.eq J0 dFrom dTo dTerm dPairs dSessions H1 x2 Q) (by kernel_rfl) h
noncomputable def delta_Right.k4.body (J : Jn) (dFrom : Int) (dTo : Int) (dTerm : Int) (dPairs : Sl) (dSessions : Sl) (H1 : Hp) (x3 : Bool) (Q : Value → Hp → Prop) : Prop :=
 
 Br x3 (
 SCalls Try.prog state_RightRows.id [.slice dPairs.a dPairs.len dPairs.cap, .slice dSessions.a dSessions.len dSessions.cap, .int .i64 512] H1 (fun r H2 => ∃ x4 : Bool, r = .bool x4 ∧ Q (.bool x4) H2))
 (Q (.bool false) H1)
theorem delta_Right.k4.eq (J : Jn) (dFrom : Int) (dTo : Int) (dTerm : Int) (dPairs : Sl) (dSessions : Sl) (H1 : Hp) (x3 : Bool) (Q : Value → Hp → Prop) : vMid Try.prog delta_Right.cf J delta_Right.fn [1, 0] [0, 1] 25 Q (delta_Right.k4.st dFrom dTo dTerm dPairs dSessions H1 x3) = delta_Right.k4.body J dFrom dTo dTerm dPairs dSessions H1 x3 Q := by kernel_rfl
theorem delta_Right.k4.step {dFrom : Int} {dTo : Int} {dTerm : Int} {dPairs : Sl} {dSessions : Sl} {H1 : Hp} {x3 : Bool} {Q : Value → Hp → Prop} (h : delta_Right.k4.body J0 dFrom dTo dTerm dPairs dSessions H1 x3 Q) : delta_Right.k4 J0 dFrom dTo dTerm dPairs dSessions H1 x3 Q := step_of (vMid Try.prog delta_Right.cf J0 delta_Right.fn [1, 0] [0, 1] 25 Q) (delta_Right.k4.st dFrom dTo dTerm dPairs dSessions H1 x3) (delta_Right.k4.eq J0 dFrom dTo dTerm dPairs dSessions H1 x3 Q) (by kernel_rfl) h
noncomputable def delta_Right.vc (J : Jn) (dFrom : Int) (dTo : Int) (dTerm : Int) (dPairs : Sl) (dSessions : Sl) (H : Hp) (Q : Value → Hp → Prop) : Prop :=
 ∀ H1 : Hp, H1 = (holes H 1) → 
 Br (decide (dFrom ≥ 0)) (
 delta_Right.k1 J dFrom dTo dTerm dPairs dSessions H1 (decide (dFrom ≤ dTo)) Q)
 (
 delta_Right.k1 J dFrom dTo dTerm dPairs dSessions H1 false Q)
theorem delta_Right.eq (J : Jn) (dFrom : Int) (dTo : Int) (dTerm : Int) (dPairs : Sl) (dSessions : Sl) (H : Hp) (Q : Value → Hp → Prop) : vFn Try.prog delta_Right.cf J delta_Right.fn [.agg #[.int .i64 dFrom, .int .i64 dTo, .int .i64 dTerm, .slice dPairs.a dPairs.len dPairs.cap, .slice dSessions.a dSessions.len dSessions.cap]] H Q = delta_Right.vc J dFrom dTo dTerm dPairs dSessions H Q := by kernel_rfl
theorem delta_Right.calls {dFrom : Int} {dTo : Int} {dTerm : Int} {dPairs : Sl} {dSessions : Sl} {H : Hp} {Q : Value → Hp → Prop} (h : delta_Right.vc J0 dFrom dTo dTerm dPairs dSessions H Q) : SCalls Try.prog delta_Right.id [.agg #[.int .i64 dFrom, .int .i64 dTo, .int .i64 dTerm, .slice dPairs.a dPairs.len dPairs.cap, .slice dSessions.a dSessions.len dSessions.cap]] H Q := vFn_of Try.mixed Try.func16 (delta_Right.eq J0 dFrom dTo dTerm dPairs dSessions H Q) h

/-! 17: tephra/tephralaw08.values -/
noncomputable def tephralaw08_values.cf : Cfg := ⟨[5, 1000003], [(3, [3, 7, 8, 9])], [], [], true⟩
noncomputable def tephralaw08_values.l1.st (ps : Sl) (b : Nat) (H2 : Hp) (x : Int) : VS := ⟨mkFr 19 [(3, .v (.map (some b))), (7, .v (.slice ps.a ps.len ps.cap)), (8, .v (.int .i64 ((ps.len : Nat) : Int))), (9, .v (.int .i64 x))], [], H2⟩
noncomputable def tephralaw08_values.l1 (J : Jn) (ps : Sl) (b : Nat) (H2 : Hp) (x : Int) (Q : Value → Hp → Prop) : Prop := vAt Try.prog tephralaw08_values.cf J tephralaw08_values.fn [1, 1, 0, 1, 0] [0, 0, 0, 0] Q (tephralaw08_values.l1.st ps b H2 x)
attribute [irreducible] tephralaw08_values.l1
noncomputable def tephralaw08_values.l1.body (J : Jn) (ps : Sl) (b : Nat) (H2 : Hp) (x : Int) (Q : Value → Hp → Prop) : Prop :=
 
 Br (decide (x < ((ps.len : Nat) : Int))) (((0 : Int) ≤ x ∧ x < ((ps.len : Nat) : Int)) ∧ vPtr ps.a (fun a => ∃ Key : ByteArray, ∃ Valuev : ByteArray, ∃ Gone : Bool, RowAt H2 (a.add ((x : Int).toNat * 3)) [.string Key, .string Valuev, .bool Gone] ∧ ∀ H3 : Hp, H3 = (holes H2 1) → 
 vMapPut Try.prog T_map_string_api_Pair (some b) (.string Key) (.agg #[.string Key, .string Valuev, .bool Gone]) H3 (fun H4 => 
 tephralaw08_values.l1 J ps b H4 (w64 (x + 1)) Q)))
 (Q (.map (some b)) H2)
theorem tephralaw08_values.l1.eq (J : Jn) (ps : Sl) (b : Nat) (H2 : Hp) (x : Int) (Q : Value → Hp → Prop) : vAtBody Try.prog tephralaw08_values.cf J tephralaw08_values.fn [1, 1, 0, 1, 0] [0, 0, 0, 0] Q (tephralaw08_values.l1.st ps b H2 x) = tephralaw08_values.l1.body J ps b H2 x Q := by kernel_rfl
theorem tephralaw08_values.l1.step {ps : Sl} {b : Nat} {H2 : Hp} {x : Int} {Q : Value → Hp → Prop} (h : tephralaw08_values.l1.body J0 ps b H2 x Q) : tephralaw08_values.l1 J0 ps b H2 x Q := vAt_stepC (tephralaw08_values.l1.st ps b H2 x) (tephralaw08_values.l1.eq J0 ps b H2 x Q) (by kernel_rfl) h
noncomputable def tephralaw08_values.vc (J : Jn) (ps : Sl) (H : Hp) (Q : Value → Hp → Prop) : Prop :=
 ∀ b : Nat, b = Array.size H → ∀ H1 : Hp, H1 = (Array.push H (.map #[] 0)) → 
 tephralaw08_values.l1 J ps b H1 0 Q
theorem tephralaw08_values.eq (J : Jn) (ps : Sl) (H : Hp) (Q : Value → Hp → Prop) : vFn Try.prog tephralaw08_values.cf J tephralaw08_values.fn [.slice ps.a ps.len ps.cap] H Q = tephralaw08_values.vc J ps H Q := by kernel_rfl
theorem tephralaw08_values.calls {ps : Sl} {H : Hp} {Q : Value → Hp → Prop} (h : tephralaw08_values.vc J0 ps H Q) : SCalls Try.prog tephralaw08_values.id [.slice ps.a ps.len ps.cap] H Q := vFn_of Try.mixed Try.func17 (tephralaw08_values.eq J0 ps H Q) h

/-! 18: tephra/state.Fold -/
noncomputable def state_Fold.cf : Cfg := ⟨[2, 4, 6, 1000003], [(2, [2, 4, 7, 8, 9])], [], [], true⟩
noncomputable def state_Fold.l1.st (es : Sl) (H3 : Hp) (x : Int) (y : Int) (y1 : Int) (y2 : Sl) (y3 : Sl) : VS := ⟨mkFr 21 [(2, .loc 0 0), (4, .loc 1 0), (7, .v (.slice es.a es.len es.cap)), (8, .v (.int .i64 ((es.len : Nat) : Int))), (9, .v (.int .i64 x))], [(T_api_State, [.int .i64 y, .int .i64 y1, .slice y2.a y2.len y2.cap, .slice y3.a y3.len y3.cap]), (T_api_State, [.int .i64 0, .int .i64 0, .slice none 0 0, .slice none 0 0])], H3⟩
noncomputable def state_Fold.l1 (J : Jn) (es : Sl) (H3 : Hp) (x : Int) (y : Int) (y1 : Int) (y2 : Sl) (y3 : Sl) (Q : Value → Hp → Prop) : Prop := vAt Try.prog state_Fold.cf J state_Fold.fn [1, 0, 1, 0] [0, 2, 2] Q (state_Fold.l1.st es H3 x y y1 y2 y3)
attribute [irreducible] state_Fold.l1
noncomputable def state_Fold.l1.body (J : Jn) (es : Sl) (H3 : Hp) (x : Int) (y : Int) (y1 : Int) (y2 : Sl) (y3 : Sl) (Q : Value → Hp → Prop) : Prop :=
 
 Br (decide (x < ((es.len : Nat) : Int))) (((0 : Int) ≤ x ∧ x < ((es.len : Nat) : Int)) ∧ vPtr es.a (fun a => ∃ Index : Int, ∃ Term : Int, ∃ CmdOp : Int, ∃ CmdClient : Int, ∃ CmdSeq : Int, ∃ CmdKey : ByteArray, ∃ CmdValue : ByteArray, ∃ CmdOld : ByteArray, RowAt H3 (a.add ((x : Int).toNat * 8)) [.int .i64 Index, .int .i64 Term, .int .i64 CmdOp, .int .i64 CmdClient, .int .i64 CmdSeq, .string CmdKey, .string CmdValue, .string CmdOld] ∧ ∀ H4 : Hp, H4 = (holes H3 1) → 
 SCalls Try.prog state_Apply.id [.agg #[.int .i64 y, .int .i64 y1, .slice y2.a y2.len y2.cap, .slice y3.a y3.len y3.cap], .agg #[.int .i64 Index, .int .i64 Term, .int .i64 CmdOp, .int .i64 CmdClient, .int .i64 CmdSeq, .string CmdKey, .string CmdValue, .string CmdOld]] H4 (fun r H5 => ∃ Index1 : Int, ∃ Term1 : Int, ∃ Pairs : Sl, ∃ Sessions : Sl, ∃ Err : Int, ∃ Valuev : ByteArray, r = .tuple #[.agg #[.int .i64 Index1, .int .i64 Term1, .slice Pairs.a Pairs.len Pairs.cap, .slice Sessions.a Sessions.len Sessions.cap], .agg #[.int .i64 Err, .string Valuev]] ∧ 
 state_Fold.l1 J es H5 (w64 (x + 1)) Index1 Term1 Pairs Sessions Q)))
 (Q (.agg #[.int .i64 y, .int .i64 y1, .slice y2.a y2.len y2.cap, .slice y3.a y3.len y3.cap]) H3)
theorem state_Fold.l1.eq (J : Jn) (es : Sl) (H3 : Hp) (x : Int) (y : Int) (y1 : Int) (y2 : Sl) (y3 : Sl) (Q : Value → Hp → Prop) : vAtBody Try.prog state_Fold.cf J state_Fold.fn [1, 0, 1, 0] [0, 2, 2] Q (state_Fold.l1.st es H3 x y y1 y2 y3) = state_Fold.l1.body J es H3 x y y1 y2 y3 Q := by kernel_rfl
theorem state_Fold.l1.step {es : Sl} {H3 : Hp} {x : Int} {y : Int} {y1 : Int} {y2 : Sl} {y3 : Sl} {Q : Value → Hp → Prop} (h : state_Fold.l1.body J0 es H3 x y y1 y2 y3 Q) : state_Fold.l1 J0 es H3 x y y1 y2 y3 Q := vAt_stepC (state_Fold.l1.st es H3 x y y1 y2 y3) (state_Fold.l1.eq J0 es H3 x y y1 y2 y3 Q) (by kernel_rfl) h
noncomputable def state_Fold.vc (J : Jn) (sIndex : Int) (sTerm : Int) (sPairs : Sl) (sSessions : Sl) (es : Sl) (H : Hp) (Q : Value → Hp → Prop) : Prop :=
 ∀ H1 : Hp, H1 = (holes H 1) → ∀ H2 : Hp, H2 = (holes H1 1) → 
 state_Fold.l1 J es H2 0 sIndex sTerm sPairs sSessions Q
theorem state_Fold.eq (J : Jn) (sIndex : Int) (sTerm : Int) (sPairs : Sl) (sSessions : Sl) (es : Sl) (H : Hp) (Q : Value → Hp → Prop) : vFn Try.prog state_Fold.cf J state_Fold.fn [.agg #[.int .i64 sIndex, .int .i64 sTerm, .slice sPairs.a sPairs.len sPairs.cap, .slice sSessions.a sSessions.len sSessions.cap], .slice es.a es.len es.cap] H Q = state_Fold.vc J sIndex sTerm sPairs sSessions es H Q := by kernel_rfl
theorem state_Fold.calls {sIndex : Int} {sTerm : Int} {sPairs : Sl} {sSessions : Sl} {es : Sl} {H : Hp} {Q : Value → Hp → Prop} (h : state_Fold.vc J0 sIndex sTerm sPairs sSessions es H Q) : SCalls Try.prog state_Fold.id [.agg #[.int .i64 sIndex, .int .i64 sTerm, .slice sPairs.a sPairs.len sPairs.cap, .slice sSessions.a sSessions.len sSessions.cap], .slice es.a es.len es.cap] H Q := vFn_of Try.mixed Try.func18 (state_Fold.eq J0 sIndex sTerm sPairs sSessions es H Q) h

/-! 19: tephra/tephralaw06.Entries -/
noncomputable def tephralaw06_Entries.cf : Cfg := ⟨[9], [(3, [1, 2, 7, 14, 15, 16])], [(7, [1, 2, 7, 8, 9, 14, 15, 16], true)], [], true⟩
noncomputable def tephralaw06_Entries.l1.st (says : Sl) (fromv : Int) (H1 : Hp) (term1 : Int) (out : Sl) (x : Int) : VS := ⟨mkFr 38 [(1, .v (.int .i64 fromv)), (2, .v (.int .i64 term1)), (7, .v (.slice out.a out.len out.cap)), (14, .v (.slice (cutA says.a says.cap 0 6) (((if (80 : Int) < ((says.len : Nat) : Int) then 80 else ((says.len : Nat) : Int)) : Int).toNat) says.cap)), (15, .v (.int .i64 (((((if (80 : Int) < ((says.len : Nat) : Int) then 80 else ((says.len : Nat) : Int)) : Int).toNat) : Nat) : Int))), (16, .v (.int .i64 x))], [], H1⟩
noncomputable def tephralaw06_Entries.l1 (J : Jn) (says : Sl) (fromv : Int) (H1 : Hp) (term1 : Int) (out : Sl) (x : Int) (Q : Value → Hp → Prop) : Prop := vAt Try.prog tephralaw06_Entries.cf J tephralaw06_Entries.fn [1, 1, 0, 1, 0] [0, 0, 0, 0] Q (tephralaw06_Entries.l1.st says fromv H1 term1 out x)
noncomputable def tephralaw06_Entries.k1.st (says : Sl) (fromv : Int) (H1 : Hp) (out : Sl) (x : Int) (Opv : Int) (Client : Int) (Seq : Int) (Key : Int) (Valuev : Int) (Old : Int) (term2 : Int) : VS := ⟨mkFr 38 [(1, .v (.int .i64 fromv)), (2, .v (.int .i64 term2)), (7, .v (.slice out.a out.len out.cap)), (8, .v (.int .i64 x)), (9, .loc 0 0), (14, .v (.slice (cutA says.a says.cap 0 6) (((if (80 : Int) < ((says.len : Nat) : Int) then 80 else ((says.len : Nat) : Int)) : Int).toNat) says.cap)), (15, .v (.int .i64 (((((if (80 : Int) < ((says.len : Nat) : Int) then 80 else ((says.len : Nat) : Int)) : Int).toNat) : Nat) : Int))), (16, .v (.int .i64 x))], [(T_tephralaw06_Say, [.int .u8 Opv, .int .u8 Client, .int .u8 Seq, .int .u8 Key, .int .u8 Valuev, .int .u8 Old])], (holes H1 1)⟩
noncomputable def tephralaw06_Entries.k1 (J : Jn) (says : Sl) (fromv : Int) (H1 : Hp) (out : Sl) (x : Int) (Opv : Int) (Client : Int) (Seq : Int) (Key : Int) (Valuev : Int) (Old : Int) (term2 : Int) (Q : Value → Hp → Prop) : Prop := J (vSeg Try.prog tephralaw06_Entries.cf J tephralaw06_Entries.fn [1, 1, 0, 1, 0, 0, 1, 1, 0, 0, 1, 1] [0, 0, 0, 0, 0, 0, 0, 0, 0, 1] Q) (tephralaw06_Entries.k1.st says fromv H1 out x Opv Client Seq Key Valuev Old term2)
attribute [irreducible] tephralaw06_Entries.l1 tephralaw06_Entries.k1
noncomputable def tephralaw06_Entries.l1.body (J : Jn) (says : Sl) (fromv : Int) (H1 : Hp) (term1 : Int) (out : Sl) (x : Int) (Q : Value → Hp → Prop) : Prop :=
 
 Br (decide (x < (((((if (80 : Int) < ((says.len : Nat) : Int) then 80 else ((says.len : Nat) : Int)) : Int).toNat) : Nat) : Int))) (((0 : Int) ≤ x ∧ x < (((((if (80 : Int) < ((says.len : Nat) : Int) then 80 else ((says.len : Nat) : Int)) : Int).toNat) : Nat) : Int)) ∧ vPtr (cutA says.a says.cap 0 6) (fun a => ∃ Opv : Int, ∃ Client : Int, ∃ Seq : Int, ∃ Key : Int, ∃ Valuev : Int, ∃ Old : Int, RowAt H1 (a.add ((x : Int).toNat * 6)) [.int .u8 Opv, .int .u8 Client, .int .u8 Seq, .int .u8 Key, .int .u8 Valuev, .int .u8 Old] ∧ 
 Br (decide (Opv > 230)) (
 tephralaw06_Entries.k1 J says fromv H1 out x Opv Client Seq Key Valuev Old (w64 (term1 + 1)) Q)
 (
 tephralaw06_Entries.k1 J says fromv H1 out x Opv Client Seq Key Valuev Old term1 Q)))
 (Q (.slice out.a out.len out.cap) H1)
theorem tephralaw06_Entries.l1.eq (J : Jn) (says : Sl) (fromv : Int) (H1 : Hp) (term1 : Int) (out : Sl) (x : Int) (Q : Value → Hp → Prop) : vAtBody Try.prog tephralaw06_Entries.cf J tephralaw06_Entries.fn [1, 1, 0, 1, 0] [0, 0, 0, 0] Q (tephralaw06_Entries.l1.st says fromv H1 term1 out x) = tephralaw06_Entries.l1.body J says fromv H1 term1 out x Q := by kernel_rfl
theorem tephralaw06_Entries.l1.step {says : Sl} {fromv : Int} {H1 : Hp} {term1 : Int} {out : Sl} {x : Int} {Q : Value → Hp → Prop} (h : tephralaw06_Entries.l1.body J0 says fromv H1 term1 out x Q) : tephralaw06_Entries.l1 J0 says fromv H1 term1 out x Q := vAt_stepC (tephralaw06_Entries.l1.st says fromv H1 term1 out x) (tephralaw06_Entries.l1.eq J0 says fromv H1 term1 out x Q) (by kernel_rfl) h
noncomputable def tephralaw06_Entries.k1.body (J : Jn) (says : Sl) (fromv : Int) (H1 : Hp) (out : Sl) (x : Int) (Opv : Int) (Client : Int) (Seq : Int) (Key : Int) (Valuev : Int) (Old : Int) (term2 : Int) (Q : Value → Hp → Prop) : Prop :=
 
 SCalls Try.prog tephralaw06_Say_Cmd.id [.agg #[.int .u8 Opv, .int .u8 Client, .int .u8 Seq, .int .u8 Key, .int .u8 Valuev, .int .u8 Old]] (holes H1 1) (fun r H2 => ∃ Opv1 : Int, ∃ Client1 : Int, ∃ Seq1 : Int, ∃ Key1 : ByteArray, ∃ Valuev1 : ByteArray, ∃ Old1 : ByteArray, r = .agg #[.int .i64 Opv1, .int .i64 Client1, .int .i64 Seq1, .string Key1, .string Valuev1, .string Old1] ∧ 
 vApp Try.prog T_sl_api_Entry out.a out.len out.cap (.slice (some (Addr.mk (Array.size H2) 0 none)) 1 1) (Array.push H2 (.cells #[.int .i64 (w64 (fromv + x)), .int .i64 term2, .int .i64 Opv1, .int .i64 Client1, .int .i64 Seq1, .string Key1, .string Valuev1, .string Old1] T_api_Entry)) (fun ap H3 => 
 tephralaw06_Entries.l1 J says fromv H3 term2 ap (w64 (x + 1)) Q))
theorem tephralaw06_Entries.k1.eq (J : Jn) (says : Sl) (fromv : Int) (H1 : Hp) (out : Sl) (x : Int) (Opv : Int) (Client : Int) (Seq : Int) (Key : Int) (Valuev : Int) (Old : Int) (term2 : Int) (Q : Value → Hp → Prop) : vSeg Try.prog tephralaw06_Entries.cf J tephralaw06_Entries.fn [1, 1, 0, 1, 0, 0, 1, 1, 0, 0, 1, 1] [0, 0, 0, 0, 0, 0, 0, 0, 0, 1] Q (tephralaw06_Entries.k1.st says fromv H1 out x Opv Client Seq Key Valuev Old term2) = tephralaw06_Entries.k1.body J says fromv H1 out x Opv Client Seq Key Valuev Old term2 Q := by kernel_rfl
theorem tephralaw06_Entries.k1.step {says : Sl} {fromv : Int} {H1 : Hp} {out : Sl} {x : Int} {Opv : Int} {Client : Int} {Seq : Int} {Key : Int} {Valuev : Int} {Old : Int} {term2 : Int} {Q : Value → Hp → Prop} (h : tephralaw06_Entries.k1.body J0 says fromv H1 out x Opv Client Seq Key Valuev Old term2 Q) : tephralaw06_Entries.k1 J0 says fromv H1 out x Opv Client Seq Key Valuev Old term2 Q := step_of (vSeg Try.prog tephralaw06_Entries.cf J0 tephralaw06_Entries.fn [1, 1, 0, 1, 0, 0, 1, 1, 0, 0, 1, 1] [0, 0, 0, 0, 0, 0, 0, 0, 0, 1] Q) (tephralaw06_Entries.k1.st says fromv H1 out x Opv Client Seq Key Valuev Old term2) (tephralaw06_Entries.k1.eq J0 says fromv H1 out x Opv Client Seq Key Valuev Old term2 Q) (by kernel_rfl) h
noncomputable def tephralaw06_Entries.vc (J : Jn) (says : Sl) (fromv : Int) (term : Int) (H : Hp) (Q : Value → Hp → Prop) : Prop :=
 ((0 : Int) ≤ (if (80 : Int) < ((says.len : Nat) : Int) then 80 else ((says.len : Nat) : Int)) ∧ (if (80 : Int) < ((says.len : Nat) : Int) then 80 else ((says.len : Nat) : Int)) ≤ ((says.cap : Nat) : Int)) ∧ 
 tephralaw06_Entries.l1 J says fromv H term (Sl.mk none 0 0) 0 Q
theorem tephralaw06_Entries.eq (J : Jn) (says : Sl) (fromv : Int) (term : Int) (H : Hp) (Q : Value → Hp → Prop) : vFn Try.prog tephralaw06_Entries.cf J tephralaw06_Entries.fn [.slice says.a says.len says.cap, .int .i64 fromv, .int .i64 term] H Q = tephralaw06_Entries.vc J says fromv term H Q := by kernel_rfl
theorem tephralaw06_Entries.calls {says : Sl} {fromv : Int} {term : Int} {H : Hp} {Q : Value → Hp → Prop} (h : tephralaw06_Entries.vc J0 says fromv term H Q) : SCalls Try.prog tephralaw06_Entries.id [.slice says.a says.len says.cap, .int .i64 fromv, .int .i64 term] H Q := vFn_of Try.mixed Try.func19 (tephralaw06_Entries.eq J0 says fromv term H Q) h

/-! 20: tephra/delta.Join -/
noncomputable def delta_Join.cf : Cfg := ⟨[2, 3, 4, 8, 1000003], [(1000006, [6])], [(2, [2, 3, 4, 5, 20], true), (4, [2, 3, 4, 5, 6], true), (6, [4, 5, 6, 38], true)], [], true⟩
noncomputable def delta_Join.cfr : Cfg := { delta_Join.cf with rf := false }
noncomputable def delta_Join.r1.fr (d : Addr) : List AV := mkFr 53 [(6, .v (.pointer (some d)))]
noncomputable def delta_Join.r1.code : Code := sub (bodyOf delta_Join.fn) [1, 1, 1, 0, 1, 0]
noncomputable def delta_Join.r1.rec (fn : FuncId) (tm : Array Value) (d : Nat) (st : LoopState) (pd : Option Code) : Obj := recO fn tm (rgP delta_Join.r1.code) (rgA delta_Join.r1.code) (rgB delta_Join.r1.code) d st pd
noncomputable def delta_Join.k1.st (aFrom : Int) (aTo : Int) (aTerm : Int) (aPairs : Sl) (aSessions : Sl) (bFrom : Int) (bTo : Int) (bTerm : Int) (bPairs : Sl) (bSessions : Sl) (H3 : Hp) (x : Bool) : VS := ⟨mkFr 53 [(2, .loc 0 0), (3, .loc 1 0), (4, .loc 2 0), (5, .v (.int .i64 0)), (20, .v (.bool x))], [(T_delta_Delta, [.int .i64 aFrom, .int .i64 aTo, .int .i64 aTerm, .slice aPairs.a aPairs.len aPairs.cap, .slice aSessions.a aSessions.len aSessions.cap]), (T_delta_Delta, [.int .i64 bFrom, .int .i64 bTo, .int .i64 bTerm, .slice bPairs.a bPairs.len bPairs.cap, .slice bSessions.a bSessions.len bSessions.cap]), (T_delta_Delta, [.int .i64 0, .int .i64 0, .int .i64 0, .slice none 0 0, .slice none 0 0])], H3⟩
noncomputable def delta_Join.k1 (J : Jn) (aFrom : Int) (aTo : Int) (aTerm : Int) (aPairs : Sl) (aSessions : Sl) (bFrom : Int) (bTo : Int) (bTerm : Int) (bPairs : Sl) (bSessions : Sl) (H3 : Hp) (x : Bool) (Q : Value → Hp → Prop) : Prop := J (vSeg Try.prog delta_Join.cf J delta_Join.fn [1, 0, 1] [0, 3, 3] Q) (delta_Join.k1.st aFrom aTo aTerm aPairs aSessions bFrom bTo bTerm bPairs bSessions H3 x)
noncomputable def delta_Join.k2.st (aFrom : Int) (aTo : Int) (aTerm : Int) (aPairs : Sl) (aSessions : Sl) (bFrom : Int) (bTo : Int) (bTerm : Int) (bPairs : Sl) (bSessions : Sl) (d : Addr) (H10 : Hp) : VS := ⟨mkFr 53 [(2, .loc 0 0), (3, .loc 1 0), (4, .loc 2 0), (5, .v (.int .i64 0)), (6, .v (.pointer (some d)))], [(T_delta_Delta, [.int .i64 aFrom, .int .i64 aTo, .int .i64 aTerm, .slice aPairs.a aPairs.len aPairs.cap, .slice aSessions.a aSessions.len aSessions.cap]), (T_delta_Delta, [.int .i64 bFrom, .int .i64 bTo, .int .i64 bTerm, .slice bPairs.a bPairs.len bPairs.cap, .slice bSessions.a bSessions.len bSessions.cap]), (T_delta_Delta, [.int .i64 0, .int .i64 0, .int .i64 0, .slice none 0 0, .slice none 0 0])], H10⟩
noncomputable def delta_Join.k2 (J : Jn) (aFrom : Int) (aTo : Int) (aTerm : Int) (aPairs : Sl) (aSessions : Sl) (bFrom : Int) (bTo : Int) (bTerm : Int) (bPairs : Sl) (bSessions : Sl) (d : Addr) (H10 : Hp) (Q : Value → Hp → Prop) : Prop := J (vSeg Try.prog delta_Join.cf J delta_Join.fn [1, 1, 1] [0, 3, 3] Q) (delta_Join.k2.st aFrom aTo aTerm aPairs aSessions bFrom bTo bTerm bPairs bSessions d H10)
noncomputable def delta_Join.k3.st (aFrom : Int) (aTo : Int) (aTerm : Int) (aPairs : Sl) (aSessions : Sl) (bFrom : Int) (bTo : Int) (bTerm : Int) (bPairs : Sl) (bSessions : Sl) (d : Addr) (H13 : Hp) (x3 : Fv) : VS := ⟨mkFr 53 [(4, .loc 2 0), (5, .v (.int .i64 0)), (6, .v (.pointer (some d))), (38, .v (.func x3.fn x3.fi x3.ca))], [(T_delta_Delta, [.int .i64 aFrom, .int .i64 aTo, .int .i64 aTerm, .slice aPairs.a aPairs.len aPairs.cap, .slice aSessions.a aSessions.len aSessions.cap]), (T_delta_Delta, [.int .i64 bFrom, .int .i64 bTo, .int .i64 bTerm, .slice bPairs.a bPairs.len bPairs.cap, .slice bSessions.a bSessions.len bSessions.cap]), (T_delta_Delta, [.int .i64 0, .int .i64 0, .int .i64 0, .slice none 0 0, .slice none 0 0])], H13⟩
noncomputable def delta_Join.k3 (J : Jn) (aFrom : Int) (aTo : Int) (aTerm : Int) (aPairs : Sl) (aSessions : Sl) (bFrom : Int) (bTo : Int) (bTerm : Int) (bPairs : Sl) (bSessions : Sl) (d : Addr) (H13 : Hp) (x3 : Fv) (Q : Value → Hp → Prop) : Prop := J (vSeg Try.prog delta_Join.cf J delta_Join.fn [1, 1, 1, 0, 1] [0, 3, 3, 3, 3] Q) (delta_Join.k3.st aFrom aTo aTerm aPairs aSessions bFrom bTo bTerm bPairs bSessions d H13 x3)
attribute [irreducible] delta_Join.k1 delta_Join.k2 delta_Join.k3
noncomputable def delta_Join.k1.body (J : Jn) (aFrom : Int) (aTo : Int) (aTerm : Int) (aPairs : Sl) (aSessions : Sl) (bFrom : Int) (bTo : Int) (bTerm : Int) (bPairs : Sl) (bSessions : Sl) (H3 : Hp) (x : Bool) (Q : Value → Hp → Prop) : Prop :=
 
 Br x (Q (.tuple #[.agg #[.int .i64 0, .int .i64 0, .int .i64 0, .slice none 0 0, .slice none 0 0], .int .i64 8]) H3)
 (
  (
 vApp Try.prog T_sl_api_Session none 0 0 (.slice bSessions.a bSessions.len bSessions.cap) H3 (fun ap H4 => ∀ b : Nat, b = Array.size H4 → ∀ H5 : Hp, H5 = (Array.push H4 (.cells #[.int .i64 0, .int .i64 0, .int .i64 0, .slice none 0 0, .slice none 0 0] T_delta_Delta)) → WrAt H5 (Addr.mk b 0 none) 5 ∧ ∀ H6 : Hp, H6 = (Hp.setCells H5 (Addr.mk b 0 none) [.int .i64 aFrom, .int .i64 bTo, .int .i64 bTerm, .slice none 0 0, .slice ap.a ap.len ap.cap] 0) → 
 delta_Join.k2 J aFrom aTo aTerm aPairs aSessions bFrom bTo bTerm bPairs bSessions ((Addr.mk b 0 none)) H6 Q)) ∧ 
  (∀ b1 : Nat, b1 = Array.size H3 → ∀ H7 : Hp, H7 = (Array.push H3 (.cells #[.int .i64 0, .int .i64 0, .int .i64 0, .slice none 0 0, .slice none 0 0] T_delta_Delta)) → 
 vApp Try.prog T_sl_api_Session none 0 0 (.slice bSessions.a bSessions.len bSessions.cap) H7 (fun ap1 H8 => WrAt H8 (Addr.mk b1 0 none) 5 ∧ ∀ H9 : Hp, H9 = (Hp.setCells H8 (Addr.mk b1 0 none) [.int .i64 aFrom, .int .i64 bTo, .int .i64 bTerm, .slice none 0 0, .slice ap1.a ap1.len ap1.cap] 0) → 
 delta_Join.k2 J aFrom aTo aTerm aPairs aSessions bFrom bTo bTerm bPairs bSessions ((Addr.mk b1 0 none)) H9 Q)))
theorem delta_Join.k1.eq (J : Jn) (aFrom : Int) (aTo : Int) (aTerm : Int) (aPairs : Sl) (aSessions : Sl) (bFrom : Int) (bTo : Int) (bTerm : Int) (bPairs : Sl) (bSessions : Sl) (H3 : Hp) (x : Bool) (Q : Value → Hp → Prop) : vSeg Try.prog delta_Join.cf J delta_Join.fn [1, 0, 1] [0, 3, 3] Q (delta_Join.k1.st aFrom aTo aTerm aPairs aSessions bFrom bTo bTerm bPairs bSessions H3 x) = delta_Join.k1.body J aFrom aTo aTerm aPairs aSessions bFrom bTo bTerm bPairs bSessions H3 x Q := by kernel_rfl
theorem delta_Join.k1.step {aFrom : Int} {aTo : Int} {aTerm : Int} {aPairs : Sl} {aSessions : Sl} {bFrom : Int} {bTo : Int} {bTerm : Int} {bPairs : Sl} {bSessions : Sl} {H3 : Hp} {x : Bool} {Q : Value → Hp → Prop} (h : delta_Join.k1.body J0 aFrom aTo aTerm aPairs aSessions bFrom bTo bTerm bPairs bSessions H3 x Q) : delta_Join.k1 J0 aFrom aTo aTerm aPairs aSessions bFrom bTo bTerm bPairs bSessions H3 x Q := step_of (vSeg Try.prog delta_Join.cf J0 delta_Join.fn [1, 0, 1] [0, 3, 3] Q) (delta_Join.k1.st aFrom aTo aTerm aPairs aSessions bFrom bTo bTerm bPairs bSessions H3 x) (delta_Join.k1.eq J0 aFrom aTo aTerm aPairs aSessions bFrom bTo bTerm bPairs bSessions H3 x Q) (by kernel_rfl) h
noncomputable def delta_Join.k2.body (J : Jn) (aFrom : Int) (aTo : Int) (aTerm : Int) (aPairs : Sl) (aSessions : Sl) (bFrom : Int) (bTo : Int) (bTerm : Int) (bPairs : Sl) (bSessions : Sl) (d : Addr) (H10 : Hp) (Q : Value → Hp → Prop) : Prop :=
 
 SCalls Try.prog delta_seq.id [.slice aPairs.a aPairs.len aPairs.cap] H10 (fun r H11 => ∃ x1 : Fv, r = .func x1.fn x1.fi x1.ca ∧ 
 SCalls Try.prog delta_seq.id [.slice bPairs.a bPairs.len bPairs.cap] H11 (fun r1 H12 => ∃ x2 : Fv, r1 = .func x2.fn x2.fi x2.ca ∧ 
 SCalls Try.prog sorted_Merge_string_api_Pair.id [.func x1.fn x1.fi x1.ca, .func x2.fn x2.fi x2.ca] H12 (fun r2 H13 => ∃ x3 : Fv, r2 = .func x3.fn x3.fi x3.ca ∧ 
 delta_Join.k3 J aFrom aTo aTerm aPairs aSessions bFrom bTo bTerm bPairs bSessions d H13 x3 Q)))
theorem delta_Join.k2.eq (J : Jn) (aFrom : Int) (aTo : Int) (aTerm : Int) (aPairs : Sl) (aSessions : Sl) (bFrom : Int) (bTo : Int) (bTerm : Int) (bPairs : Sl) (bSessions : Sl) (d : Addr) (H10 : Hp) (Q : Value → Hp → Prop) : vSeg Try.prog delta_Join.cf J delta_Join.fn [1, 1, 1] [0, 3, 3] Q (delta_Join.k2.st aFrom aTo aTerm aPairs aSessions bFrom bTo bTerm bPairs bSessions d H10) = delta_Join.k2.body J aFrom aTo aTerm aPairs aSessions bFrom bTo bTerm bPairs bSessions d H10 Q := by kernel_rfl
theorem delta_Join.k2.step {aFrom : Int} {aTo : Int} {aTerm : Int} {aPairs : Sl} {aSessions : Sl} {bFrom : Int} {bTo : Int} {bTerm : Int} {bPairs : Sl} {bSessions : Sl} {d : Addr} {H10 : Hp} {Q : Value → Hp → Prop} (h : delta_Join.k2.body J0 aFrom aTo aTerm aPairs aSessions bFrom bTo bTerm bPairs bSessions d H10 Q) : delta_Join.k2 J0 aFrom aTo aTerm aPairs aSessions bFrom bTo bTerm bPairs bSessions d H10 Q := step_of (vSeg Try.prog delta_Join.cf J0 delta_Join.fn [1, 1, 1] [0, 3, 3] Q) (delta_Join.k2.st aFrom aTo aTerm aPairs aSessions bFrom bTo bTerm bPairs bSessions d H10) (delta_Join.k2.eq J0 aFrom aTo aTerm aPairs aSessions bFrom bTo bTerm bPairs bSessions d H10 Q) (by kernel_rfl) h
noncomputable def delta_Join.k3.body (J : Jn) (aFrom : Int) (aTo : Int) (aTerm : Int) (aPairs : Sl) (aSessions : Sl) (bFrom : Int) (bTo : Int) (bTerm : Int) (bPairs : Sl) (bSessions : Sl) (d : Addr) (H13 : Hp) (x3 : Fv) (Q : Value → Hp → Prop) : Prop :=
 
 ∀ fn : FuncId, ∀ tm : Array Value, TmOf (delta_Join.r1.fr d) tm → vRg Try.prog (.func x3.fn x3.fi x3.ca) (Array.size H13 + 1) (Array.push (Array.push H13 hole) (delta_Join.r1.rec fn tm (Array.size H13) .ready none)) (fun H20 => ∃ st : LoopState, ∃ pd : Option Code, H20[(Array.size H13 + 1)]? = some (delta_Join.r1.rec fn tm (Array.size H13) st pd) ∧ st ≠ .busy ∧ ∀ H21 : Hp, H21 = (Array.setIfInBounds H20 (Array.size H13 + 1) (delta_Join.r1.rec fn tm (Array.size H13) .exhausted pd)) → ((pd = none → ∃ Pairs1 : Sl, Hp.cell? H21 (d.add 3) = some (.slice Pairs1.a Pairs1.len Pairs1.cap) ∧ 
 Br (decide (((Pairs1.len : Nat) : Int) > 512)) (Q (.tuple #[.agg #[.int .i64 0, .int .i64 0, .int .i64 0, .slice none 0 0, .slice none 0 0], .int .i64 4]) H21)
 (∃ From : Int, ∃ To : Int, ∃ Term : Int, ∃ Pairs2 : Sl, ∃ Sessions : Sl, RowAt H21 d [.int .i64 From, .int .i64 To, .int .i64 Term, .slice Pairs2.a Pairs2.len Pairs2.cap, .slice Sessions.a Sessions.len Sessions.cap] ∧ Q (.tuple #[.agg #[.int .i64 From, .int .i64 To, .int .i64 Term, .slice Pairs2.a Pairs2.len Pairs2.cap, .slice Sessions.a Sessions.len Sessions.cap], .int .i64 0]) H21)) ∧ (pd = some .ret → Q (.tuple #[.agg #[.int .i64 0, .int .i64 0, .int .i64 0, .slice none 0 0, .slice none 0 0], .int .i64 0]) H21) ∧ (True) ∧ (pd = none ∨ pd = some .ret ∨ ∃ i ∈ ([] : List Nat), pd = some (.exit i))))
theorem delta_Join.k3.eq (J : Jn) (aFrom : Int) (aTo : Int) (aTerm : Int) (aPairs : Sl) (aSessions : Sl) (bFrom : Int) (bTo : Int) (bTerm : Int) (bPairs : Sl) (bSessions : Sl) (d : Addr) (H13 : Hp) (x3 : Fv) (Q : Value → Hp → Prop) : vSeg Try.prog delta_Join.cf J delta_Join.fn [1, 1, 1, 0, 1] [0, 3, 3, 3, 3] Q (delta_Join.k3.st aFrom aTo aTerm aPairs aSessions bFrom bTo bTerm bPairs bSessions d H13 x3) = delta_Join.k3.body J aFrom aTo aTerm aPairs aSessions bFrom bTo bTerm bPairs bSessions d H13 x3 Q := by kernel_rfl
theorem delta_Join.k3.step {aFrom : Int} {aTo : Int} {aTerm : Int} {aPairs : Sl} {aSessions : Sl} {bFrom : Int} {bTo : Int} {bTerm : Int} {bPairs : Sl} {bSessions : Sl} {d : Addr} {H13 : Hp} {x3 : Fv} {Q : Value → Hp → Prop} (h : delta_Join.k3.body J0 aFrom aTo aTerm aPairs aSessions bFrom bTo bTerm bPairs bSessions d H13 x3 Q) : delta_Join.k3 J0 aFrom aTo aTerm aPairs aSessions bFrom bTo bTerm bPairs bSessions d H13 x3 Q := step_of (vSeg Try.prog delta_Join.cf J0 delta_Join.fn [1, 1, 1, 0, 1] [0, 3, 3, 3, 3] Q) (delta_Join.k3.st aFrom aTo aTerm aPairs aSessions bFrom bTo bTerm bPairs bSessions d H13 x3) (delta_Join.k3.eq J0 aFrom aTo aTerm aPairs aSessions bFrom bTo bTerm bPairs bSessions d H13 x3 Q) (by kernel_rfl) h
noncomputable def delta_Join.r1.body (J : Jn) (d : Addr) (l : Nat) (rc : LoopState → Option Code → Obj) (k : ByteArray) (vKey : ByteArray) (vValue : ByteArray) (vGone : Bool) (H14 : Hp) (Q : Value → Hp → Prop) : Prop :=
 ∀ H15 : Hp, H15 = (holes H14 1) → H15[l]? = some (rc .ready none) ∧ ∀ H16 : Hp, H16 = (Array.setIfInBounds H15 l (rc .busy none)) → ∃ Pairs : Sl, Hp.cell? H16 (d.add 3) = some (.slice Pairs.a Pairs.len Pairs.cap) ∧ ∀ b2 : Nat, b2 = Array.size H16 → ∀ H17 : Hp, H17 = (Array.push H16 (.cells #[.string vKey, .string vValue, .bool vGone] T_api_Pair)) → 
 vApp Try.prog T_sl_api_Pair Pairs.a Pairs.len Pairs.cap (.slice (some (Addr.mk b2 0 none)) 1 1) H17 (fun ap2 H18 => WrAt H18 (d.add 3) 1 ∧ ∀ H19 : Hp, H19 = (Hp.setCell H18 (d.add 3) (.slice ap2.a ap2.len ap2.cap)) → 
 ((∃ st : LoopState, ∃ pd : Option Code, H19[l]? = some (rc st pd)) ∧ Q (.bool true) (Array.setIfInBounds H19 l (rc .ready none))))
theorem delta_Join.r1.eq (J : Jn) (d : Addr) (l : Nat) (rc : LoopState → Option Code → Obj) (k : ByteArray) (vKey : ByteArray) (vValue : ByteArray) (vGone : Bool) (H14 : Hp) (Q : Value → Hp → Prop) : vRound Try.prog delta_Join.cfr J (rgA delta_Join.r1.code) (rgB delta_Join.r1.code) (setFr (delta_Join.r1.fr d) (rgP delta_Join.r1.code).toList [.string k, .agg #[.string vKey, .string vValue, .bool vGone]]) l rc H14 Q = delta_Join.r1.body J d l rc k vKey vValue vGone H14 Q := by kernel_rfl
theorem delta_Join.r1.calls {d : Addr} {l : Nat} {k : ByteArray} {vKey : ByteArray} {vValue : ByteArray} {vGone : Bool} {H14 : Hp} {fnA : FuncId} {tmA : Array Value} {dA : Nat} {Q : Value → Hp → Prop} (hl : H14[l]? = some (delta_Join.r1.rec fnA tmA dA .ready none)) (hT : TmOf (delta_Join.r1.fr d) tmA) (h : delta_Join.r1.body J0 d l (delta_Join.r1.rec fnA tmA dA) k vKey vValue vGone H14 Q) : YCalls Try.prog l [.string k, .agg #[.string vKey, .string vValue, .bool vGone]] H14 Q := vRound_calls (cf := delta_Join.cfr) (fn := fnA) (tm := tmA) (ps := rgP delta_Join.r1.code) (asg := rgA delta_Join.r1.code) (body := rgB delta_Join.r1.code) (d := dA) (fr := (delta_Join.r1.fr d)) Try.mixed (by kernel_rfl) hl (by kernel_rfl) hT ((delta_Join.r1.eq J0 d l (delta_Join.r1.rec fnA tmA dA) k vKey vValue vGone H14 Q).mpr h)
attribute [irreducible] delta_Join.r1.rec delta_Join.r1.fr delta_Join.r1.code
noncomputable def delta_Join.vc (J : Jn) (aFrom : Int) (aTo : Int) (aTerm : Int) (aPairs : Sl) (aSessions : Sl) (bFrom : Int) (bTo : Int) (bTerm : Int) (bPairs : Sl) (bSessions : Sl) (H : Hp) (Q : Value → Hp → Prop) : Prop :=
 ∀ H1 : Hp, H1 = (holes H 1) → ∀ H2 : Hp, H2 = (holes H1 1) → ∀ H3 : Hp, H3 = (holes H2 1) → 
 Br (aTo != bFrom) (
 delta_Join.k1 J aFrom aTo aTerm aPairs aSessions bFrom bTo bTerm bPairs bSessions H3 true Q)
 (
 delta_Join.k1 J aFrom aTo aTerm aPairs aSessions bFrom bTo bTerm bPairs bSessions H3 (decide (bTerm < aTerm)) Q)
theorem delta_Join.eq (J : Jn) (aFrom : Int) (aTo : Int) (aTerm : Int) (aPairs : Sl) (aSessions : Sl) (bFrom : Int) (bTo : Int) (bTerm : Int) (bPairs : Sl) (bSessions : Sl) (H : Hp) (Q : Value → Hp → Prop) : vFn Try.prog delta_Join.cf J delta_Join.fn [.agg #[.int .i64 aFrom, .int .i64 aTo, .int .i64 aTerm, .slice aPairs.a aPairs.len aPairs.cap, .slice aSessions.a aSessions.len aSessions.cap], .agg #[.int .i64 bFrom, .int .i64 bTo, .int .i64 bTerm, .slice bPairs.a bPairs.len bPairs.cap, .slice bSessions.a bSessions.len bSessions.cap]] H Q = delta_Join.vc J aFrom aTo aTerm aPairs aSessions bFrom bTo bTerm bPairs bSessions H Q := by kernel_rfl
theorem delta_Join.calls {aFrom : Int} {aTo : Int} {aTerm : Int} {aPairs : Sl} {aSessions : Sl} {bFrom : Int} {bTo : Int} {bTerm : Int} {bPairs : Sl} {bSessions : Sl} {H : Hp} {Q : Value → Hp → Prop} (h : delta_Join.vc J0 aFrom aTo aTerm aPairs aSessions bFrom bTo bTerm bPairs bSessions H Q) : SCalls Try.prog delta_Join.id [.agg #[.int .i64 aFrom, .int .i64 aTo, .int .i64 aTerm, .slice aPairs.a aPairs.len aPairs.cap, .slice aSessions.a aSessions.len aSessions.cap], .agg #[.int .i64 bFrom, .int .i64 bTo, .int .i64 bTerm, .slice bPairs.a bPairs.len bPairs.cap, .slice bSessions.a bSessions.len bSessions.cap]] H Q := vFn_of Try.mixed Try.func20 (delta_Join.eq J0 aFrom aTo aTerm aPairs aSessions bFrom bTo bTerm bPairs bSessions H Q) h

/-! 21: tephra/delta.Same -/
noncomputable def delta_Same.cf : Cfg := ⟨[2, 3, 1000003], [], [], [], true⟩
noncomputable def delta_Same.vc (J : Jn) (aFrom : Int) (aTo : Int) (aTerm : Int) (aPairs : Sl) (aSessions : Sl) (bFrom : Int) (bTo : Int) (bTerm : Int) (bPairs : Sl) (bSessions : Sl) (H : Hp) (Q : Value → Hp → Prop) : Prop :=
 ∀ H1 : Hp, H1 = (holes H 1) → ∀ H2 : Hp, H2 = (holes H1 1) → 
 SCalls Try.prog delta_Bytes.id [.agg #[.int .i64 aFrom, .int .i64 aTo, .int .i64 aTerm, .slice aPairs.a aPairs.len aPairs.cap, .slice aSessions.a aSessions.len aSessions.cap]] H2 (fun r H3 => ∃ x : Sl, r = .slice x.a x.len x.cap ∧ 
  (vB2S H3 x.a x.len (fun s => 
 SCalls Try.prog delta_Bytes.id [.agg #[.int .i64 bFrom, .int .i64 bTo, .int .i64 bTerm, .slice bPairs.a bPairs.len bPairs.cap, .slice bSessions.a bSessions.len bSessions.cap]] H3 (fun r1 H4 => ∃ x1 : Sl, r1 = .slice x1.a x1.len x1.cap ∧ vB2S H4 x1.a x1.len (fun s1 => Q (.bool (s.toList == s1.toList)) H4)))) ∧ 
  (
 SCalls Try.prog delta_Bytes.id [.agg #[.int .i64 bFrom, .int .i64 bTo, .int .i64 bTerm, .slice bPairs.a bPairs.len bPairs.cap, .slice bSessions.a bSessions.len bSessions.cap]] H3 (fun r2 H5 => ∃ x2 : Sl, r2 = .slice x2.a x2.len x2.cap ∧ 
  (vB2S H5 x.a x.len (fun s2 => vB2S H5 x2.a x2.len (fun s3 => Q (.bool (s2.toList == s3.toList)) H5))) ∧ 
  (vB2S H5 x2.a x2.len (fun s4 => vB2S H5 x.a x.len (fun s5 => Q (.bool (s5.toList == s4.toList)) H5))))))
theorem delta_Same.eq (J : Jn) (aFrom : Int) (aTo : Int) (aTerm : Int) (aPairs : Sl) (aSessions : Sl) (bFrom : Int) (bTo : Int) (bTerm : Int) (bPairs : Sl) (bSessions : Sl) (H : Hp) (Q : Value → Hp → Prop) : vFn Try.prog delta_Same.cf J delta_Same.fn [.agg #[.int .i64 aFrom, .int .i64 aTo, .int .i64 aTerm, .slice aPairs.a aPairs.len aPairs.cap, .slice aSessions.a aSessions.len aSessions.cap], .agg #[.int .i64 bFrom, .int .i64 bTo, .int .i64 bTerm, .slice bPairs.a bPairs.len bPairs.cap, .slice bSessions.a bSessions.len bSessions.cap]] H Q = delta_Same.vc J aFrom aTo aTerm aPairs aSessions bFrom bTo bTerm bPairs bSessions H Q := by kernel_rfl
theorem delta_Same.calls {aFrom : Int} {aTo : Int} {aTerm : Int} {aPairs : Sl} {aSessions : Sl} {bFrom : Int} {bTo : Int} {bTerm : Int} {bPairs : Sl} {bSessions : Sl} {H : Hp} {Q : Value → Hp → Prop} (h : delta_Same.vc J0 aFrom aTo aTerm aPairs aSessions bFrom bTo bTerm bPairs bSessions H Q) : SCalls Try.prog delta_Same.id [.agg #[.int .i64 aFrom, .int .i64 aTo, .int .i64 aTerm, .slice aPairs.a aPairs.len aPairs.cap, .slice aSessions.a aSessions.len aSessions.cap], .agg #[.int .i64 bFrom, .int .i64 bTo, .int .i64 bTerm, .slice bPairs.a bPairs.len bPairs.cap, .slice bSessions.a bSessions.len bSessions.cap]] H Q := vFn_of Try.mixed Try.func21 (delta_Same.eq J0 aFrom aTo aTerm aPairs aSessions bFrom bTo bTerm bPairs bSessions H Q) h

/-! 22: tephra/delta.seq -/
noncomputable def delta_seq.cf : Cfg := ⟨[1000003], [], [], [], true⟩
noncomputable def delta_seq.vc (J : Jn) (ps : Sl) (H : Hp) (Q : Value → Hp → Prop) : Prop :=
 ∀ b : Nat, b = Array.size H → ∀ H1 : Hp, H1 = (Array.push H (.cells #[.slice ps.a ps.len ps.cap] T_sl_api_Pair)) → Q (.func (.func 33) #[] #[.pointer (some (Addr.mk b 0 none))]) H1
theorem delta_seq.eq (J : Jn) (ps : Sl) (H : Hp) (Q : Value → Hp → Prop) : vFn Try.prog delta_seq.cf J delta_seq.fn [.slice ps.a ps.len ps.cap] H Q = delta_seq.vc J ps H Q := by kernel_rfl
theorem delta_seq.calls {ps : Sl} {H : Hp} {Q : Value → Hp → Prop} (h : delta_seq.vc J0 ps H Q) : SCalls Try.prog delta_seq.id [.slice ps.a ps.len ps.cap] H Q := vFn_of Try.mixed Try.func22 (delta_seq.eq J0 ps H Q) h

/-! 23: (*tephra/sorted.Map_string, string_).Put -/
noncomputable def sorted_Map_string_string_Put.cf : Cfg := ⟨[], [], [], [], true⟩
noncomputable def sorted_Map_string_string_Put.vc (J : Jn) (m : Addr) (k : ByteArray) (v : ByteArray) (H : Hp) (Q : Value → Hp → Prop) : Prop :=
 
 SCalls Try.prog sorted_Map_string_string_find.id [.pointer (some m), .string k] H (fun r H1 => ∃ x : Int, ∃ x1 : Bool, r = .tuple #[.int .i64 x, .bool x1] ∧ 
 Br x1 (∃ items : Sl, Hp.cell? H1 m = some (.slice items.a items.len items.cap) ∧ ((0 : Int) ≤ x ∧ x < ((items.len : Nat) : Int)) ∧ vPtr items.a (fun a => WrAt H1 ((a.add ((x : Int).toNat * 2)).add 1) 1 ∧ Q (.bool false) (Hp.setCell H1 ((a.add ((x : Int).toNat * 2)).add 1) (.string v))))
 (∃ items1 : Sl, Hp.cell? H1 m = some (.slice items1.a items1.len items1.cap) ∧ 
 SCalls Try.prog slices_Insert_sl_sorted_item_string_string_sorted_item_string_string.id [.slice items1.a items1.len items1.cap, .int .i64 x, .slice (some (Addr.mk (Array.size H1) 0 none)) 1 1] (Array.push H1 (.cells #[.string k, .string v] T_sorted_item_string_string)) (fun r1 H2 => ∃ x2 : Sl, r1 = .slice x2.a x2.len x2.cap ∧ WrAt H2 m 1 ∧ Q (.bool true) (Hp.setCell H2 m (.slice x2.a x2.len x2.cap)))))
theorem sorted_Map_string_string_Put.eq (J : Jn) (m : Addr) (k : ByteArray) (v : ByteArray) (H : Hp) (Q : Value → Hp → Prop) : vFn Try.prog sorted_Map_string_string_Put.cf J sorted_Map_string_string_Put.fn [.pointer (some m), .string k, .string v] H Q = sorted_Map_string_string_Put.vc J m k v H Q := by kernel_rfl
theorem sorted_Map_string_string_Put.calls {m : Addr} {k : ByteArray} {v : ByteArray} {H : Hp} {Q : Value → Hp → Prop} (h : sorted_Map_string_string_Put.vc J0 m k v H Q) : SCalls Try.prog sorted_Map_string_string_Put.id [.pointer (some m), .string k, .string v] H Q := vFn_of Try.mixed Try.func23 (sorted_Map_string_string_Put.eq J0 m k v H Q) h

/-! 24: tephra/sorted.Merge_string,string_ -/
noncomputable def sorted_Merge_string_string.cf : Cfg := ⟨[1000003], [], [], [], true⟩
noncomputable def sorted_Merge_string_string.vc (J : Jn) (a : Fv) (b : Fv) (H : Hp) (Q : Value → Hp → Prop) : Prop :=
 ∀ b1 : Nat, b1 = Array.size H → ∀ H1 : Hp, H1 = (Array.push H (.cells #[.func a.fn a.fi a.ca] T_iter_Seq2_string_string)) → ∀ b2 : Nat, b2 = Array.size H1 → ∀ H2 : Hp, H2 = (Array.push H1 (.cells #[.func b.fn b.fi b.ca] T_iter_Seq2_string_string)) → Q (.func (.func 36) #[] #[.pointer (some (Addr.mk b2 0 none)), .pointer (some (Addr.mk b1 0 none))]) H2
theorem sorted_Merge_string_string.eq (J : Jn) (a : Fv) (b : Fv) (H : Hp) (Q : Value → Hp → Prop) : vFn Try.prog sorted_Merge_string_string.cf J sorted_Merge_string_string.fn [.func a.fn a.fi a.ca, .func b.fn b.fi b.ca] H Q = sorted_Merge_string_string.vc J a b H Q := by kernel_rfl
theorem sorted_Merge_string_string.calls {a : Fv} {b : Fv} {H : Hp} {Q : Value → Hp → Prop} (h : sorted_Merge_string_string.vc J0 a b H Q) : SCalls Try.prog sorted_Merge_string_string.id [.func a.fn a.fi a.ca, .func b.fn b.fi b.ca] H Q := vFn_of Try.mixed Try.func24 (sorted_Merge_string_string.eq J0 a b H Q) h

/-! 25: (*tephra/sorted.Map_string, string_).All -/
noncomputable def sorted_Map_string_string_All.cf : Cfg := ⟨[], [], [], [], true⟩
noncomputable def sorted_Map_string_string_All.vc (J : Jn) (m : Addr) (H : Hp) (Q : Value → Hp → Prop) : Prop :=
 Q (.func (.func 37) #[] #[.pointer (some (Addr.mk (Array.size H) 0 none))]) (Array.push H (.cells #[.pointer (some m)] T_p_sorted_Map_string_string))
theorem sorted_Map_string_string_All.eq (J : Jn) (m : Addr) (H : Hp) (Q : Value → Hp → Prop) : vFn Try.prog sorted_Map_string_string_All.cf J sorted_Map_string_string_All.fn [.pointer (some m)] H Q = sorted_Map_string_string_All.vc J m H Q := by kernel_rfl
theorem sorted_Map_string_string_All.calls {m : Addr} {H : Hp} {Q : Value → Hp → Prop} (h : sorted_Map_string_string_All.vc J0 m H Q) : SCalls Try.prog sorted_Map_string_string_All.id [.pointer (some m)] H Q := vFn_of Try.mixed Try.func25 (sorted_Map_string_string_All.eq J0 m H Q) h

/-! 26: (*tephra/sorted.Map_string, string_).Get -/
noncomputable def sorted_Map_string_string_Get.cf : Cfg := ⟨[], [], [], [], true⟩
noncomputable def sorted_Map_string_string_Get.vc (J : Jn) (m : Addr) (k : ByteArray) (H : Hp) (Q : Value → Hp → Prop) : Prop :=
 
 SCalls Try.prog sorted_Map_string_string_find.id [.pointer (some m), .string k] H (fun r H1 => ∃ x : Int, ∃ x1 : Bool, r = .tuple #[.int .i64 x, .bool x1] ∧ 
 Br x1 (∃ items : Sl, Hp.cell? H1 m = some (.slice items.a items.len items.cap) ∧ ((0 : Int) ≤ x ∧ x < ((items.len : Nat) : Int)) ∧ vPtr items.a (fun a => ∃ value : ByteArray, Hp.cell? H1 ((a.add ((x : Int).toNat * 2)).add 1) = some (.string value) ∧ Q (.tuple #[.string value, .bool true]) H1))
 (Q (.tuple #[.string (ByteArray.mk #[]), .bool false]) H1))
theorem sorted_Map_string_string_Get.eq (J : Jn) (m : Addr) (k : ByteArray) (H : Hp) (Q : Value → Hp → Prop) : vFn Try.prog sorted_Map_string_string_Get.cf J sorted_Map_string_string_Get.fn [.pointer (some m), .string k] H Q = sorted_Map_string_string_Get.vc J m k H Q := by kernel_rfl
theorem sorted_Map_string_string_Get.calls {m : Addr} {k : ByteArray} {H : Hp} {Q : Value → Hp → Prop} (h : sorted_Map_string_string_Get.vc J0 m k H Q) : SCalls Try.prog sorted_Map_string_string_Get.id [.pointer (some m), .string k] H Q := vFn_of Try.mixed Try.func26 (sorted_Map_string_string_Get.eq J0 m k H Q) h

/-! 27: tephra/sorted.Merge_string,tephra/api.Pair_ -/
noncomputable def sorted_Merge_string_api_Pair.cf : Cfg := ⟨[1000003], [], [], [], true⟩
noncomputable def sorted_Merge_string_api_Pair.vc (J : Jn) (a : Fv) (b : Fv) (H : Hp) (Q : Value → Hp → Prop) : Prop :=
 ∀ b1 : Nat, b1 = Array.size H → ∀ H1 : Hp, H1 = (Array.push H (.cells #[.func a.fn a.fi a.ca] T_iter_Seq2_string_api_Pair)) → ∀ b2 : Nat, b2 = Array.size H1 → ∀ H2 : Hp, H2 = (Array.push H1 (.cells #[.func b.fn b.fi b.ca] T_iter_Seq2_string_api_Pair)) → Q (.func (.func 38) #[] #[.pointer (some (Addr.mk b2 0 none)), .pointer (some (Addr.mk b1 0 none))]) H2
theorem sorted_Merge_string_api_Pair.eq (J : Jn) (a : Fv) (b : Fv) (H : Hp) (Q : Value → Hp → Prop) : vFn Try.prog sorted_Merge_string_api_Pair.cf J sorted_Merge_string_api_Pair.fn [.func a.fn a.fi a.ca, .func b.fn b.fi b.ca] H Q = sorted_Merge_string_api_Pair.vc J a b H Q := by kernel_rfl
theorem sorted_Merge_string_api_Pair.calls {a : Fv} {b : Fv} {H : Hp} {Q : Value → Hp → Prop} (h : sorted_Merge_string_api_Pair.vc J0 a b H Q) : SCalls Try.prog sorted_Merge_string_api_Pair.id [.func a.fn a.fi a.ca, .func b.fn b.fi b.ca] H Q := vFn_of Try.mixed Try.func27 (sorted_Merge_string_api_Pair.eq J0 a b H Q) h

/-! 28: tephra/state.Bytes -/
noncomputable def state_Bytes.cf : Cfg := ⟨[1, 1000003], [], [(3, [1, 3], true)], [], true⟩
noncomputable def state_Bytes.k1.st (sIndex : Int) (sTerm : Int) (sPairs : Sl) (sSessions : Sl) (b : Nat) (H4 : Hp) : VS := ⟨mkFr 21 [(1, .loc 0 0), (3, .v (.pointer (some (Addr.mk b 0 none))))], [(T_api_State, [.int .i64 sIndex, .int .i64 sTerm, .slice sPairs.a sPairs.len sPairs.cap, .slice sSessions.a sSessions.len sSessions.cap])], H4⟩
noncomputable def state_Bytes.k1 (J : Jn) (sIndex : Int) (sTerm : Int) (sPairs : Sl) (sSessions : Sl) (b : Nat) (H4 : Hp) (Q : Value → Hp → Prop) : Prop := J (vSeg Try.prog state_Bytes.cf J state_Bytes.fn [1, 1, 1] [0, 1, 1] Q) (state_Bytes.k1.st sIndex sTerm sPairs sSessions b H4)
attribute [irreducible] state_Bytes.k1
noncomputable def state_Bytes.k1.body (J : Jn) (sIndex : Int) (sTerm : Int) (sPairs : Sl) (sSessions : Sl) (b : Nat) (H4 : Hp) (Q : Value → Hp → Prop) : Prop :=
 
 SCalls Try.prog state_PutRows.id [.pointer (some (Addr.mk b 0 none)), .slice sPairs.a sPairs.len sPairs.cap, .slice sSessions.a sSessions.len sSessions.cap] H4 (fun r2 H5 => r2 = .tuple #[] ∧ 
 SCalls Try.prog pack_Writer_Bytes.id [.pointer (some (Addr.mk b 0 none))] H5 (fun r3 H6 => ∃ x2 : Sl, r3 = .slice x2.a x2.len x2.cap ∧ Q (.slice x2.a x2.len x2.cap) H6))
theorem state_Bytes.k1.eq (J : Jn) (sIndex : Int) (sTerm : Int) (sPairs : Sl) (sSessions : Sl) (b : Nat) (H4 : Hp) (Q : Value → Hp → Prop) : vSeg Try.prog state_Bytes.cf J state_Bytes.fn [1, 1, 1] [0, 1, 1] Q (state_Bytes.k1.st sIndex sTerm sPairs sSessions b H4) = state_Bytes.k1.body J sIndex sTerm sPairs sSessions b H4 Q := by kernel_rfl
theorem state_Bytes.k1.step {sIndex : Int} {sTerm : Int} {sPairs : Sl} {sSessions : Sl} {b : Nat} {H4 : Hp} {Q : Value → Hp → Prop} (h : state_Bytes.k1.body J0 sIndex sTerm sPairs sSessions b H4 Q) : state_Bytes.k1 J0 sIndex sTerm sPairs sSessions b H4 Q := step_of (vSeg Try.prog state_Bytes.cf J0 state_Bytes.fn [1, 1, 1] [0, 1, 1] Q) (state_Bytes.k1.st sIndex sTerm sPairs sSessions b H4) (state_Bytes.k1.eq J0 sIndex sTerm sPairs sSessions b H4 Q) (by kernel_rfl) h
noncomputable def state_Bytes.vc (J : Jn) (sIndex : Int) (sTerm : Int) (sPairs : Sl) (sSessions : Sl) (H : Hp) (Q : Value → Hp → Prop) : Prop :=
 ∀ H1 : Hp, H1 = (holes H 1) → ∀ b : Nat, b = Array.size H1 → ∀ H2 : Hp, H2 = (Array.push H1 (.cells #[.slice none 0 0] T_pack_Writer)) → 
 SCalls Try.prog pack_Writer_Num.id [.pointer (some (Addr.mk b 0 none)), .int .i64 sIndex] H2 (fun r H3 => ∃ x : Option Addr, r = .pointer x ∧ 
 SCalls Try.prog pack_Writer_Num.id [.pointer x, .int .i64 sTerm] H3 (fun r1 H4 => ∃ x1 : Option Addr, r1 = .pointer x1 ∧ 
 state_Bytes.k1 J sIndex sTerm sPairs sSessions b H4 Q))
theorem state_Bytes.eq (J : Jn) (sIndex : Int) (sTerm : Int) (sPairs : Sl) (sSessions : Sl) (H : Hp) (Q : Value → Hp → Prop) : vFn Try.prog state_Bytes.cf J state_Bytes.fn [.agg #[.int .i64 sIndex, .int .i64 sTerm, .slice sPairs.a sPairs.len sPairs.cap, .slice sSessions.a sSessions.len sSessions.cap]] H Q = state_Bytes.vc J sIndex sTerm sPairs sSessions H Q := by kernel_rfl
theorem state_Bytes.calls {sIndex : Int} {sTerm : Int} {sPairs : Sl} {sSessions : Sl} {H : Hp} {Q : Value → Hp → Prop} (h : state_Bytes.vc J0 sIndex sTerm sPairs sSessions H Q) : SCalls Try.prog state_Bytes.id [.agg #[.int .i64 sIndex, .int .i64 sTerm, .slice sPairs.a sPairs.len sPairs.cap, .slice sSessions.a sSessions.len sSessions.cap]] H Q := vFn_of Try.mixed Try.func28 (state_Bytes.eq J0 sIndex sTerm sPairs sSessions H Q) h

/-! 29: tephra/state.RightRows -/
noncomputable def state_RightRows.cf : Cfg := ⟨[8, 10, 1000003], [(2, [0, 1, 2, 11, 12, 13]), (8, [0, 1, 2, 58, 59, 60])], [(5, [0, 1, 2, 11, 12, 13, 56], true), (11, [0, 1, 2, 58, 59, 60, 116], true)], [], true⟩
noncomputable def state_RightRows.l1.st (ps : Sl) (xs : Sl) (most : Int) (H1 : Hp) (x : Int) : VS := ⟨mkFr 122 [(0, .v (.slice ps.a ps.len ps.cap)), (1, .v (.slice xs.a xs.len xs.cap)), (2, .v (.int .i64 most)), (11, .v (.slice ps.a ps.len ps.cap)), (12, .v (.int .i64 ((ps.len : Nat) : Int))), (13, .v (.int .i64 x))], [], H1⟩
noncomputable def state_RightRows.l1 (J : Jn) (ps : Sl) (xs : Sl) (most : Int) (H1 : Hp) (x : Int) (Q : Value → Hp → Prop) : Prop := vAt Try.prog state_RightRows.cf J state_RightRows.fn [1, 0, 1, 0] [0, 0, 0] Q (state_RightRows.l1.st ps xs most H1 x)
noncomputable def state_RightRows.k1.st (ps : Sl) (xs : Sl) (most : Int) (x : Int) (Key : ByteArray) (Valuev : ByteArray) (Gone : Bool) (H2 : Hp) (x1 : Bool) : VS := ⟨mkFr 122 [(0, .v (.slice ps.a ps.len ps.cap)), (1, .v (.slice xs.a xs.len xs.cap)), (2, .v (.int .i64 most)), (11, .v (.slice ps.a ps.len ps.cap)), (12, .v (.int .i64 ((ps.len : Nat) : Int))), (13, .v (.int .i64 x)), (56, .v (.bool x1))], [(T_api_Pair, [.string Key, .string Valuev, .bool Gone])], H2⟩
noncomputable def state_RightRows.k1 (J : Jn) (ps : Sl) (xs : Sl) (most : Int) (x : Int) (Key : ByteArray) (Valuev : ByteArray) (Gone : Bool) (H2 : Hp) (x1 : Bool) (Q : Value → Hp → Prop) : Prop := J (vSeg Try.prog state_RightRows.cf J state_RightRows.fn [1, 0, 1, 0, 0, 1, 1, 0, 0, 1, 1] [0, 0, 0, 0, 0, 0, 0, 0, 1] Q) (state_RightRows.k1.st ps xs most x Key Valuev Gone H2 x1)
noncomputable def state_RightRows.l2.st (ps : Sl) (xs : Sl) (most : Int) (H3 : Hp) (x2 : Int) : VS := ⟨mkFr 122 [(0, .v (.slice ps.a ps.len ps.cap)), (1, .v (.slice xs.a xs.len xs.cap)), (2, .v (.int .i64 most)), (58, .v (.slice xs.a xs.len xs.cap)), (59, .v (.int .i64 ((xs.len : Nat) : Int))), (60, .v (.int .i64 x2))], [], H3⟩
noncomputable def state_RightRows.l2 (J : Jn) (ps : Sl) (xs : Sl) (most : Int) (H3 : Hp) (x2 : Int) (Q : Value → Hp → Prop) : Prop := vAt Try.prog state_RightRows.cf J state_RightRows.fn [1, 1, 0, 1, 0] [0, 0, 0, 0] Q (state_RightRows.l2.st ps xs most H3 x2)
noncomputable def state_RightRows.k2.st (ps : Sl) (xs : Sl) (most : Int) (x2 : Int) (Client : Int) (Seq : Int) (ReplyErr : Int) (ReplyValue : ByteArray) (H4 : Hp) (x3 : Bool) : VS := ⟨mkFr 122 [(0, .v (.slice ps.a ps.len ps.cap)), (1, .v (.slice xs.a xs.len xs.cap)), (2, .v (.int .i64 most)), (58, .v (.slice xs.a xs.len xs.cap)), (59, .v (.int .i64 ((xs.len : Nat) : Int))), (60, .v (.int .i64 x2)), (116, .v (.bool x3))], [(T_api_Session, [.int .i64 Client, .int .i64 Seq, .int .i64 ReplyErr, .string ReplyValue])], H4⟩
noncomputable def state_RightRows.k2 (J : Jn) (ps : Sl) (xs : Sl) (most : Int) (x2 : Int) (Client : Int) (Seq : Int) (ReplyErr : Int) (ReplyValue : ByteArray) (H4 : Hp) (x3 : Bool) (Q : Value → Hp → Prop) : Prop := J (vSeg Try.prog state_RightRows.cf J state_RightRows.fn [1, 1, 0, 1, 0, 0, 1, 1, 0, 0, 1, 1] [0, 0, 0, 0, 0, 0, 0, 0, 0, 1] Q) (state_RightRows.k2.st ps xs most x2 Client Seq ReplyErr ReplyValue H4 x3)
attribute [irreducible] state_RightRows.l1 state_RightRows.k1 state_RightRows.l2 state_RightRows.k2
noncomputable def state_RightRows.l1.body (J : Jn) (ps : Sl) (xs : Sl) (most : Int) (H1 : Hp) (x : Int) (Q : Value → Hp → Prop) : Prop :=
 
 Br (decide (x < ((ps.len : Nat) : Int))) (((0 : Int) ≤ x ∧ x < ((ps.len : Nat) : Int)) ∧ vPtr ps.a (fun a => ∃ Key : ByteArray, ∃ Valuev : ByteArray, ∃ Gone : Bool, RowAt H1 (a.add ((x : Int).toNat * 3)) [.string Key, .string Valuev, .bool Gone] ∧ ∀ H2 : Hp, H2 = (holes H1 1) → 
 Br (Key.toList == (ByteArray.mk #[]).toList) (
 state_RightRows.k1 J ps xs most x Key Valuev Gone H2 true Q)
 (
 Br (decide (((Key.size : Nat) : Int) > 8)) (
 state_RightRows.k1 J ps xs most x Key Valuev Gone H2 true Q)
 (
 Br (decide (((Valuev.size : Nat) : Int) > 16)) (
 state_RightRows.k1 J ps xs most x Key Valuev Gone H2 true Q)
 (
 Br Gone (
 Br (!(Valuev.toList == (ByteArray.mk #[]).toList)) (
 state_RightRows.k1 J ps xs most x Key Valuev Gone H2 true Q)
 (
 Br (decide (x > 0)) (((0 : Int) ≤ (w64 (x - 1)) ∧ (w64 (x - 1)) < ((ps.len : Nat) : Int)) ∧ vPtr ps.a (fun a1 => ∃ Key1 : ByteArray, Hp.cell? H2 (a1.add (((w64 (x - 1)) : Int).toNat * 3)) = some (.string Key1) ∧ 
 state_RightRows.k1 J ps xs most x Key Valuev Gone H2 (!(Op.bytesLess Key1.toList Key.toList)) Q))
 (
 state_RightRows.k1 J ps xs most x Key Valuev Gone H2 false Q)))
 (
 Br (decide (x > 0)) (((0 : Int) ≤ (w64 (x - 1)) ∧ (w64 (x - 1)) < ((ps.len : Nat) : Int)) ∧ vPtr ps.a (fun a2 => ∃ Key2 : ByteArray, Hp.cell? H2 (a2.add (((w64 (x - 1)) : Int).toNat * 3)) = some (.string Key2) ∧ 
 state_RightRows.k1 J ps xs most x Key Valuev Gone H2 (!(Op.bytesLess Key2.toList Key.toList)) Q))
 (
 state_RightRows.k1 J ps xs most x Key Valuev Gone H2 false Q)))))))
 (
 state_RightRows.l2 J ps xs most H1 0 Q)
theorem state_RightRows.l1.eq (J : Jn) (ps : Sl) (xs : Sl) (most : Int) (H1 : Hp) (x : Int) (Q : Value → Hp → Prop) : vAtBody Try.prog state_RightRows.cf J state_RightRows.fn [1, 0, 1, 0] [0, 0, 0] Q (state_RightRows.l1.st ps xs most H1 x) = state_RightRows.l1.body J ps xs most H1 x Q := by kernel_rfl
theorem state_RightRows.l1.step {ps : Sl} {xs : Sl} {most : Int} {H1 : Hp} {x : Int} {Q : Value → Hp → Prop} (h : state_RightRows.l1.body J0 ps xs most H1 x Q) : state_RightRows.l1 J0 ps xs most H1 x Q := vAt_stepC (state_RightRows.l1.st ps xs most H1 x) (state_RightRows.l1.eq J0 ps xs most H1 x Q) (by kernel_rfl) h
noncomputable def state_RightRows.k1.body (J : Jn) (ps : Sl) (xs : Sl) (most : Int) (x : Int) (Key : ByteArray) (Valuev : ByteArray) (Gone : Bool) (H2 : Hp) (x1 : Bool) (Q : Value → Hp → Prop) : Prop :=
 
 Br x1 (Q (.bool false) H2)
 (
 state_RightRows.l1 J ps xs most H2 (w64 (x + 1)) Q)
theorem state_RightRows.k1.eq (J : Jn) (ps : Sl) (xs : Sl) (most : Int) (x : Int) (Key : ByteArray) (Valuev : ByteArray) (Gone : Bool) (H2 : Hp) (x1 : Bool) (Q : Value → Hp → Prop) : vSeg Try.prog state_RightRows.cf J state_RightRows.fn [1, 0, 1, 0, 0, 1, 1, 0, 0, 1, 1] [0, 0, 0, 0, 0, 0, 0, 0, 1] Q (state_RightRows.k1.st ps xs most x Key Valuev Gone H2 x1) = state_RightRows.k1.body J ps xs most x Key Valuev Gone H2 x1 Q := by kernel_rfl
theorem state_RightRows.k1.step {ps : Sl} {xs : Sl} {most : Int} {x : Int} {Key : ByteArray} {Valuev : ByteArray} {Gone : Bool} {H2 : Hp} {x1 : Bool} {Q : Value → Hp → Prop} (h : state_RightRows.k1.body J0 ps xs most x Key Valuev Gone H2 x1 Q) : state_RightRows.k1 J0 ps xs most x Key Valuev Gone H2 x1 Q := step_of (vSeg Try.prog state_RightRows.cf J0 state_RightRows.fn [1, 0, 1, 0, 0, 1, 1, 0, 0, 1, 1] [0, 0, 0, 0, 0, 0, 0, 0, 1] Q) (state_RightRows.k1.st ps xs most x Key Valuev Gone H2 x1) (state_RightRows.k1.eq J0 ps xs most x Key Valuev Gone H2 x1 Q) (by kernel_rfl) h
noncomputable def state_RightRows.l2.body (J : Jn) (ps : Sl) (xs : Sl) (most : Int) (H3 : Hp) (x2 : Int) (Q : Value → Hp → Prop) : Prop :=
 
 Br (decide (x2 < ((xs.len : Nat) : Int))) (((0 : Int) ≤ x2 ∧ x2 < ((xs.len : Nat) : Int)) ∧ vPtr xs.a (fun a3 => ∃ Client : Int, ∃ Seq : Int, ∃ ReplyErr : Int, ∃ ReplyValue : ByteArray, RowAt H3 (a3.add ((x2 : Int).toNat * 4)) [.int .i64 Client, .int .i64 Seq, .int .i64 ReplyErr, .string ReplyValue] ∧ ∀ H4 : Hp, H4 = (holes H3 1) → 
 Br (decide (Client < 0)) (
 state_RightRows.k2 J ps xs most x2 Client Seq ReplyErr ReplyValue H4 true Q)
 (
 Br (decide (Client ≥ 4)) (
 state_RightRows.k2 J ps xs most x2 Client Seq ReplyErr ReplyValue H4 true Q)
 (
 Br (decide (Seq < 0)) (
 state_RightRows.k2 J ps xs most x2 Client Seq ReplyErr ReplyValue H4 true Q)
 (
 Br (decide (Seq > 1048576)) (
 state_RightRows.k2 J ps xs most x2 Client Seq ReplyErr ReplyValue H4 true Q)
 (
 Br (decide (ReplyErr < 0)) (
 state_RightRows.k2 J ps xs most x2 Client Seq ReplyErr ReplyValue H4 true Q)
 (
 Br (decide (ReplyErr > 14)) (
 state_RightRows.k2 J ps xs most x2 Client Seq ReplyErr ReplyValue H4 true Q)
 (
 Br (decide (((ReplyValue.size : Nat) : Int) > 16)) (
 state_RightRows.k2 J ps xs most x2 Client Seq ReplyErr ReplyValue H4 true Q)
 (
 Br (decide (x2 > 0)) (((0 : Int) ≤ (w64 (x2 - 1)) ∧ (w64 (x2 - 1)) < ((xs.len : Nat) : Int)) ∧ vPtr xs.a (fun a4 => ∃ Client1 : Int, Hp.cell? H4 (a4.add (((w64 (x2 - 1)) : Int).toNat * 4)) = some (.int .i64 Client1) ∧ 
 state_RightRows.k2 J ps xs most x2 Client Seq ReplyErr ReplyValue H4 (decide (Client1 ≥ Client)) Q))
 (
 state_RightRows.k2 J ps xs most x2 Client Seq ReplyErr ReplyValue H4 false Q))))))))))
 (Q (.bool (decide (((ps.len : Nat) : Int) ≤ most))) H3)
theorem state_RightRows.l2.eq (J : Jn) (ps : Sl) (xs : Sl) (most : Int) (H3 : Hp) (x2 : Int) (Q : Value → Hp → Prop) : vAtBody Try.prog state_RightRows.cf J state_RightRows.fn [1, 1, 0, 1, 0] [0, 0, 0, 0] Q (state_RightRows.l2.st ps xs most H3 x2) = state_RightRows.l2.body J ps xs most H3 x2 Q := by kernel_rfl
theorem state_RightRows.l2.step {ps : Sl} {xs : Sl} {most : Int} {H3 : Hp} {x2 : Int} {Q : Value → Hp → Prop} (h : state_RightRows.l2.body J0 ps xs most H3 x2 Q) : state_RightRows.l2 J0 ps xs most H3 x2 Q := vAt_stepC (state_RightRows.l2.st ps xs most H3 x2) (state_RightRows.l2.eq J0 ps xs most H3 x2 Q) (by kernel_rfl) h
noncomputable def state_RightRows.k2.body (J : Jn) (ps : Sl) (xs : Sl) (most : Int) (x2 : Int) (Client : Int) (Seq : Int) (ReplyErr : Int) (ReplyValue : ByteArray) (H4 : Hp) (x3 : Bool) (Q : Value → Hp → Prop) : Prop :=
 
 Br x3 (Q (.bool false) H4)
 (
 state_RightRows.l2 J ps xs most H4 (w64 (x2 + 1)) Q)
theorem state_RightRows.k2.eq (J : Jn) (ps : Sl) (xs : Sl) (most : Int) (x2 : Int) (Client : Int) (Seq : Int) (ReplyErr : Int) (ReplyValue : ByteArray) (H4 : Hp) (x3 : Bool) (Q : Value → Hp → Prop) : vSeg Try.prog state_RightRows.cf J state_RightRows.fn [1, 1, 0, 1, 0, 0, 1, 1, 0, 0, 1, 1] [0, 0, 0, 0, 0, 0, 0, 0, 0, 1] Q (state_RightRows.k2.st ps xs most x2 Client Seq ReplyErr ReplyValue H4 x3) = state_RightRows.k2.body J ps xs most x2 Client Seq ReplyErr ReplyValue H4 x3 Q := by kernel_rfl
theorem state_RightRows.k2.step {ps : Sl} {xs : Sl} {most : Int} {x2 : Int} {Client : Int} {Seq : Int} {ReplyErr : Int} {ReplyValue : ByteArray} {H4 : Hp} {x3 : Bool} {Q : Value → Hp → Prop} (h : state_RightRows.k2.body J0 ps xs most x2 Client Seq ReplyErr ReplyValue H4 x3 Q) : state_RightRows.k2 J0 ps xs most x2 Client Seq ReplyErr ReplyValue H4 x3 Q := step_of (vSeg Try.prog state_RightRows.cf J0 state_RightRows.fn [1, 1, 0, 1, 0, 0, 1, 1, 0, 0, 1, 1] [0, 0, 0, 0, 0, 0, 0, 0, 0, 1] Q) (state_RightRows.k2.st ps xs most x2 Client Seq ReplyErr ReplyValue H4 x3) (state_RightRows.k2.eq J0 ps xs most x2 Client Seq ReplyErr ReplyValue H4 x3 Q) (by kernel_rfl) h
noncomputable def state_RightRows.vc (J : Jn) (ps : Sl) (xs : Sl) (most : Int) (H : Hp) (Q : Value → Hp → Prop) : Prop :=
 
 state_RightRows.l1 J ps xs most H 0 Q
theorem state_RightRows.eq (J : Jn) (ps : Sl) (xs : Sl) (most : Int) (H : Hp) (Q : Value → Hp → Prop) : vFn Try.prog state_RightRows.cf J state_RightRows.fn [.slice ps.a ps.len ps.cap, .slice xs.a xs.len xs.cap, .int .i64 most] H Q = state_RightRows.vc J ps xs most H Q := by kernel_rfl
theorem state_RightRows.calls {ps : Sl} {xs : Sl} {most : Int} {H : Hp} {Q : Value → Hp → Prop} (h : state_RightRows.vc J0 ps xs most H Q) : SCalls Try.prog state_RightRows.id [.slice ps.a ps.len ps.cap, .slice xs.a xs.len xs.cap, .int .i64 most] H Q := vFn_of Try.mixed Try.func29 (state_RightRows.eq J0 ps xs most H Q) h

/-! 30: tephra/state.Apply -/
noncomputable def state_Apply.cf : Cfg := ⟨[3, 4, 5, 7, 10, 12, 1000003], [(1000021, [2])], [(4, [2, 3, 4, 5, 19], true), (6, [2, 3, 4, 5], true), (11, [2, 3, 4, 5, 6, 7, 65], true)], [], true⟩
noncomputable def state_Apply.cfr : Cfg := { state_Apply.cf with rf := false }
noncomputable def state_Apply.r1.fr (b : Nat) : List AV := mkFr 112 [(2, .v (.pointer (some (Addr.mk b 0 none))))]
noncomputable def state_Apply.r1.code : Code := sub (bodyOf state_Apply.fn) [1, 1, 1, 1, 1, 1, 1, 1, 1, 1, 1, 0, 1, 0]
noncomputable def state_Apply.r1.rec (fn : FuncId) (tm : Array Value) (d : Nat) (st : LoopState) (pd : Option Code) : Obj := recO fn tm (rgP state_Apply.r1.code) (rgA state_Apply.r1.code) (rgB state_Apply.r1.code) d st pd
noncomputable def state_Apply.k1.st (eIndex : Int) (eTerm : Int) (eCmdOp : Int) (eCmdClient : Int) (eCmdSeq : Int) (eCmdKey : ByteArray) (eCmdValue : ByteArray) (eCmdOld : ByteArray) (b : Nat) (H5 : Hp) (x1 : Bool) : VS := ⟨mkFr 112 [(2, .v (.pointer (some (Addr.mk b 0 none)))), (3, .loc 0 0), (4, .loc 1 0), (5, .loc 2 0), (19, .v (.bool x1))], [(T_api_Entry, [.int .i64 eIndex, .int .i64 eTerm, .int .i64 eCmdOp, .int .i64 eCmdClient, .int .i64 eCmdSeq, .string eCmdKey, .string eCmdValue, .string eCmdOld]), (T_api_State, [.int .i64 0, .int .i64 0, .slice none 0 0, .slice none 0 0]), (T_api_Reply, [.int .i64 0, .string (ByteArray.mk #[])])], H5⟩
noncomputable def state_Apply.k1 (J : Jn) (eIndex : Int) (eTerm : Int) (eCmdOp : Int) (eCmdClient : Int) (eCmdSeq : Int) (eCmdKey : ByteArray) (eCmdValue : ByteArray) (eCmdOld : ByteArray) (b : Nat) (H5 : Hp) (x1 : Bool) (Q : Value → Hp → Prop) : Prop := J (vSeg Try.prog state_Apply.cf J state_Apply.fn [1, 0, 0, 1, 1, 1] [0, 3, 3, 3] Q) (state_Apply.k1.st eIndex eTerm eCmdOp eCmdClient eCmdSeq eCmdKey eCmdValue eCmdOld b H5 x1)
noncomputable def state_Apply.k2.st (eIndex : Int) (eTerm : Int) (eCmdOp : Int) (eCmdClient : Int) (eCmdSeq : Int) (eCmdKey : ByteArray) (eCmdValue : ByteArray) (eCmdOld : ByteArray) (b : Nat) (H10 : Hp) : VS := ⟨mkFr 112 [(2, .v (.pointer (some (Addr.mk b 0 none)))), (3, .loc 0 0), (4, .loc 1 0), (5, .loc 2 0)], [(T_api_Entry, [.int .i64 eIndex, .int .i64 eTerm, .int .i64 eCmdOp, .int .i64 eCmdClient, .int .i64 eCmdSeq, .string eCmdKey, .string eCmdValue, .string eCmdOld]), (T_api_State, [.int .i64 0, .int .i64 0, .slice none 0 0, .slice none 0 0]), (T_api_Reply, [.int .i64 0, .string (ByteArray.mk #[])])], H10⟩
noncomputable def state_Apply.k2 (J : Jn) (eIndex : Int) (eTerm : Int) (eCmdOp : Int) (eCmdClient : Int) (eCmdSeq : Int) (eCmdKey : ByteArray) (eCmdValue : ByteArray) (eCmdOld : ByteArray) (b : Nat) (H10 : Hp) (Q : Value → Hp → Prop) : Prop := J (vSeg Try.prog state_Apply.cf J state_Apply.fn [1, 1, 1] [0, 3, 3] Q) (state_Apply.k2.st eIndex eTerm eCmdOp eCmdClient eCmdSeq eCmdKey eCmdValue eCmdOld b H10)
noncomputable def state_Apply.k3.st (eIndex : Int) (eTerm : Int) (eCmdOp : Int) (eCmdClient : Int) (eCmdSeq : Int) (eCmdKey : ByteArray) (eCmdValue : ByteArray) (eCmdOld : ByteArray) (b : Nat) (x2 : Option Addr) (Client : Int) (Seq : Int) (ReplyErr : Int) (ReplyValue : ByteArray) (H13 : Hp) (x4 : Bool) : VS := ⟨mkFr 112 [(2, .v (.pointer (some (Addr.mk b 0 none)))), (3, .loc 0 0), (4, .loc 1 0), (5, .loc 2 0), (6, .v (.pointer x2)), (7, .loc 3 0), (65, .v (.bool x4))], [(T_api_Entry, [.int .i64 eIndex, .int .i64 eTerm, .int .i64 eCmdOp, .int .i64 eCmdClient, .int .i64 eCmdSeq, .string eCmdKey, .string eCmdValue, .string eCmdOld]), (T_api_State, [.int .i64 0, .int .i64 0, .slice none 0 0, .slice none 0 0]), (T_api_Reply, [.int .i64 0, .string (ByteArray.mk #[])]), (T_api_Session, [.int .i64 Client, .int .i64 Seq, .int .i64 ReplyErr, .string ReplyValue])], H13⟩
noncomputable def state_Apply.k3 (J : Jn) (eIndex : Int) (eTerm : Int) (eCmdOp : Int) (eCmdClient : Int) (eCmdSeq : Int) (eCmdKey : ByteArray) (eCmdValue : ByteArray) (eCmdOld : ByteArray) (b : Nat) (x2 : Option Addr) (Client : Int) (Seq : Int) (ReplyErr : Int) (ReplyValue : ByteArray) (H13 : Hp) (x4 : Bool) (Q : Value → Hp → Prop) : Prop := J (vSeg Try.prog state_Apply.cf J state_Apply.fn [1, 1, 1, 1, 1, 0, 1, 1] [0, 3, 3, 3, 3, 3, 3, 4] Q) (state_Apply.k3.st eIndex eTerm eCmdOp eCmdClient eCmdSeq eCmdKey eCmdValue eCmdOld b x2 Client Seq ReplyErr ReplyValue H13 x4)
attribute [irreducible] state_Apply.k1 state_Apply.k2 state_Apply.k3
noncomputable def state_Apply.k1.body (J : Jn) (eIndex : Int) (eTerm : Int) (eCmdOp : Int) (eCmdClient : Int) (eCmdSeq : Int) (eCmdKey : ByteArray) (eCmdValue : ByteArray) (eCmdOld : ByteArray) (b : Nat) (H5 : Hp) (x1 : Bool) (Q : Value → Hp → Prop) : Prop :=
 
 Br x1 (∃ Index2 : Int, ∃ Term2 : Int, ∃ Pairs1 : Sl, ∃ Sessions1 : Sl, RowAt H5 (Addr.mk b 0 none) [.int .i64 Index2, .int .i64 Term2, .slice Pairs1.a Pairs1.len Pairs1.cap, .slice Sessions1.a Sessions1.len Sessions1.cap] ∧ Q (.tuple #[.agg #[.int .i64 Index2, .int .i64 Term2, .slice Pairs1.a Pairs1.len Pairs1.cap, .slice Sessions1.a Sessions1.len Sessions1.cap], .agg #[.int .i64 8, .string (ByteArray.mk #[])]]) H5)
 (
  (WrAt H5 (Addr.mk b 0 none) 1 ∧ ∀ H6 : Hp, H6 = (Hp.setCell H5 (Addr.mk b 0 none) (.int .i64 eIndex)) → WrAt H6 ((Addr.mk b 0 none).add 1) 1 ∧ ∀ H7 : Hp, H7 = (Hp.setCell H6 ((Addr.mk b 0 none).add 1) (.int .i64 eTerm)) → 
 state_Apply.k2 J eIndex eTerm eCmdOp eCmdClient eCmdSeq eCmdKey eCmdValue eCmdOld b H7 Q) ∧ 
  (WrAt H5 (Addr.mk b 0 none) 1 ∧ ∀ H8 : Hp, H8 = (Hp.setCell H5 (Addr.mk b 0 none) (.int .i64 eIndex)) → WrAt H8 ((Addr.mk b 0 none).add 1) 1 ∧ ∀ H9 : Hp, H9 = (Hp.setCell H8 ((Addr.mk b 0 none).add 1) (.int .i64 eTerm)) → 
 state_Apply.k2 J eIndex eTerm eCmdOp eCmdClient eCmdSeq eCmdKey eCmdValue eCmdOld b H9 Q))
theorem state_Apply.k1.eq (J : Jn) (eIndex : Int) (eTerm : Int) (eCmdOp : Int) (eCmdClient : Int) (eCmdSeq : Int) (eCmdKey : ByteArray) (eCmdValue : ByteArray) (eCmdOld : ByteArray) (b : Nat) (H5 : Hp) (x1 : Bool) (Q : Value → Hp → Prop) : vSeg Try.prog state_Apply.cf J state_Apply.fn [1, 0, 0, 1, 1, 1] [0, 3, 3, 3] Q (state_Apply.k1.st eIndex eTerm eCmdOp eCmdClient eCmdSeq eCmdKey eCmdValue eCmdOld b H5 x1) = state_Apply.k1.body J eIndex eTerm eCmdOp eCmdClient eCmdSeq eCmdKey eCmdValue eCmdOld b H5 x1 Q := by kernel_rfl
theorem state_Apply.k1.step {eIndex : Int} {eTerm : Int} {eCmdOp : Int} {eCmdClient : Int} {eCmdSeq : Int} {eCmdKey : ByteArray} {eCmdValue : ByteArray} {eCmdOld : ByteArray} {b : Nat} {H5 : Hp} {x1 : Bool} {Q : Value → Hp → Prop} (h : state_Apply.k1.body J0 eIndex eTerm eCmdOp eCmdClient eCmdSeq eCmdKey eCmdValue eCmdOld b H5 x1 Q) : state_Apply.k1 J0 eIndex eTerm eCmdOp eCmdClient eCmdSeq eCmdKey eCmdValue eCmdOld b H5 x1 Q := step_of (vSeg Try.prog state_Apply.cf J0 state_Apply.fn [1, 0, 0, 1, 1, 1] [0, 3, 3, 3] Q) (state_Apply.k1.st eIndex eTerm eCmdOp eCmdClient eCmdSeq eCmdKey eCmdValue eCmdOld b H5 x1) (state_Apply.k1.eq J0 eIndex eTerm eCmdOp eCmdClient eCmdSeq eCmdKey eCmdValue eCmdOld b H5 x1 Q) (by kernel_rfl) h
noncomputable def state_Apply.k2.body (J : Jn) (eIndex : Int) (eTerm : Int) (eCmdOp : Int) (eCmdClient : Int) (eCmdSeq : Int) (eCmdKey : ByteArray) (eCmdValue : ByteArray) (eCmdOld : ByteArray) (b : Nat) (H10 : Hp) (Q : Value → Hp → Prop) : Prop :=
 
 Br (eCmdOp == 0) (∃ Index3 : Int, ∃ Term3 : Int, ∃ Pairs2 : Sl, ∃ Sessions2 : Sl, RowAt H10 (Addr.mk b 0 none) [.int .i64 Index3, .int .i64 Term3, .slice Pairs2.a Pairs2.len Pairs2.cap, .slice Sessions2.a Sessions2.len Sessions2.cap] ∧ Q (.tuple #[.agg #[.int .i64 Index3, .int .i64 Term3, .slice Pairs2.a Pairs2.len Pairs2.cap, .slice Sessions2.a Sessions2.len Sessions2.cap], .agg #[.int .i64 0, .string (ByteArray.mk #[])]]) H10)
 (∃ Index4 : Int, ∃ Term4 : Int, ∃ Pairs3 : Sl, ∃ Sessions3 : Sl, RowAt H10 (Addr.mk b 0 none) [.int .i64 Index4, .int .i64 Term4, .slice Pairs3.a Pairs3.len Pairs3.cap, .slice Sessions3.a Sessions3.len Sessions3.cap] ∧ 
 SCalls Try.prog state_sessions.id [.agg #[.int .i64 Index4, .int .i64 Term4, .slice Pairs3.a Pairs3.len Pairs3.cap, .slice Sessions3.a Sessions3.len Sessions3.cap]] H10 (fun r1 H11 => ∃ x2 : Option Addr, r1 = .pointer x2 ∧ 
 SCalls Try.prog sorted_Map_int_api_Session_Get.id [.pointer x2, .int .i64 eCmdClient] H11 (fun r2 H12 => ∃ Client : Int, ∃ Seq : Int, ∃ ReplyErr : Int, ∃ ReplyValue : ByteArray, ∃ x3 : Bool, r2 = .tuple #[.agg #[.int .i64 Client, .int .i64 Seq, .int .i64 ReplyErr, .string ReplyValue], .bool x3] ∧ ∀ H13 : Hp, H13 = (holes H12 1) → 
 Br x3 (
 state_Apply.k3 J eIndex eTerm eCmdOp eCmdClient eCmdSeq eCmdKey eCmdValue eCmdOld b x2 Client Seq ReplyErr ReplyValue H13 (decide (Seq ≥ eCmdSeq)) Q)
 (
 state_Apply.k3 J eIndex eTerm eCmdOp eCmdClient eCmdSeq eCmdKey eCmdValue eCmdOld b x2 Client Seq ReplyErr ReplyValue H13 false Q))))
theorem state_Apply.k2.eq (J : Jn) (eIndex : Int) (eTerm : Int) (eCmdOp : Int) (eCmdClient : Int) (eCmdSeq : Int) (eCmdKey : ByteArray) (eCmdValue : ByteArray) (eCmdOld : ByteArray) (b : Nat) (H10 : Hp) (Q : Value → Hp → Prop) : vSeg Try.prog state_Apply.cf J state_Apply.fn [1, 1, 1] [0, 3, 3] Q (state_Apply.k2.st eIndex eTerm eCmdOp eCmdClient eCmdSeq eCmdKey eCmdValue eCmdOld b H10) = state_Apply.k2.body J eIndex eTerm eCmdOp eCmdClient eCmdSeq eCmdKey eCmdValue eCmdOld b H10 Q := by kernel_rfl
theorem state_Apply.k2.step {eIndex : Int} {eTerm : Int} {eCmdOp : Int} {eCmdClient : Int} {eCmdSeq : Int} {eCmdKey : ByteArray} {eCmdValue : ByteArray} {eCmdOld : ByteArray} {b : Nat} {H10 : Hp} {Q : Value → Hp → Prop} (h : state_Apply.k2.body J0 eIndex eTerm eCmdOp eCmdClient eCmdSeq eCmdKey eCmdValue eCmdOld b H10 Q) : state_Apply.k2 J0 eIndex eTerm eCmdOp eCmdClient eCmdSeq eCmdKey eCmdValue eCmdOld b H10 Q := step_of (vSeg Try.prog state_Apply.cf J0 state_Apply.fn [1, 1, 1] [0, 3, 3] Q) (state_Apply.k2.st eIndex eTerm eCmdOp eCmdClient eCmdSeq eCmdKey eCmdValue eCmdOld b H10) (state_Apply.k2.eq J0 eIndex eTerm eCmdOp eCmdClient eCmdSeq eCmdKey eCmdValue eCmdOld b H10 Q) (by kernel_rfl) h
noncomputable def state_Apply.k3.body (J : Jn) (eIndex : Int) (eTerm : Int) (eCmdOp : Int) (eCmdClient : Int) (eCmdSeq : Int) (eCmdKey : ByteArray) (eCmdValue : ByteArray) (eCmdOld : ByteArray) (b : Nat) (x2 : Option Addr) (Client : Int) (Seq : Int) (ReplyErr : Int) (ReplyValue : ByteArray) (H13 : Hp) (x4 : Bool) (Q : Value → Hp → Prop) : Prop :=
 
 Br x4 (
 Br (Seq == eCmdSeq) (∃ Index5 : Int, ∃ Term5 : Int, ∃ Pairs4 : Sl, ∃ Sessions4 : Sl, RowAt H13 (Addr.mk b 0 none) [.int .i64 Index5, .int .i64 Term5, .slice Pairs4.a Pairs4.len Pairs4.cap, .slice Sessions4.a Sessions4.len Sessions4.cap] ∧ 
  (Q (.tuple #[.agg #[.int .i64 Index5, .int .i64 Term5, .slice Pairs4.a Pairs4.len Pairs4.cap, .slice Sessions4.a Sessions4.len Sessions4.cap], .agg #[.int .i64 ReplyErr, .string ReplyValue]]) H13) ∧ 
  (Q (.tuple #[.agg #[.int .i64 Index5, .int .i64 Term5, .slice Pairs4.a Pairs4.len Pairs4.cap, .slice Sessions4.a Sessions4.len Sessions4.cap], .agg #[.int .i64 ReplyErr, .string ReplyValue]]) H13))
 (∃ Index6 : Int, ∃ Term6 : Int, ∃ Pairs5 : Sl, ∃ Sessions5 : Sl, RowAt H13 (Addr.mk b 0 none) [.int .i64 Index6, .int .i64 Term6, .slice Pairs5.a Pairs5.len Pairs5.cap, .slice Sessions5.a Sessions5.len Sessions5.cap] ∧ Q (.tuple #[.agg #[.int .i64 Index6, .int .i64 Term6, .slice Pairs5.a Pairs5.len Pairs5.cap, .slice Sessions5.a Sessions5.len Sessions5.cap], .agg #[.int .i64 12, .string (ByteArray.mk #[])]]) H13))
 (∃ Index7 : Int, ∃ Term7 : Int, ∃ Pairs6 : Sl, ∃ Sessions6 : Sl, RowAt H13 (Addr.mk b 0 none) [.int .i64 Index7, .int .i64 Term7, .slice Pairs6.a Pairs6.len Pairs6.cap, .slice Sessions6.a Sessions6.len Sessions6.cap] ∧ 
 SCalls Try.prog state_pairs.id [.agg #[.int .i64 Index7, .int .i64 Term7, .slice Pairs6.a Pairs6.len Pairs6.cap, .slice Sessions6.a Sessions6.len Sessions6.cap]] H13 (fun r3 H14 => ∃ x5 : Option Addr, r3 = .pointer x5 ∧ 
 SCalls Try.prog state_do.id [.pointer x5, .agg #[.int .i64 eCmdOp, .int .i64 eCmdClient, .int .i64 eCmdSeq, .string eCmdKey, .string eCmdValue, .string eCmdOld]] H14 (fun r4 H15 => ∃ Err : Int, ∃ Valuev : ByteArray, r4 = .agg #[.int .i64 Err, .string Valuev] ∧ ∀ H16 : Hp, H16 = (holes H15 1) → 
 SCalls Try.prog state_rows.id [.pointer x5] H16 (fun r5 H17 => ∃ x6 : Sl, r5 = .slice x6.a x6.len x6.cap ∧ WrAt H17 ((Addr.mk b 0 none).add 2) 1 ∧ ∀ H18 : Hp, H18 = (Hp.setCell H17 ((Addr.mk b 0 none).add 2) (.slice x6.a x6.len x6.cap)) → 
 SCalls Try.prog sorted_Map_int_api_Session_Put.id [.pointer x2, .int .i64 eCmdClient, .agg #[.int .i64 eCmdClient, .int .i64 eCmdSeq, .int .i64 Err, .string Valuev]] H18 (fun r6 H19 => ∃ x7 : Bool, r6 = .bool x7 ∧ WrAt H19 ((Addr.mk b 0 none).add 3) 1 ∧ ∀ H20 : Hp, H20 = (Hp.setCell H19 ((Addr.mk b 0 none).add 3) (.slice none 0 0)) → 
 SCalls Try.prog sorted_Map_int_api_Session_All.id [.pointer x2] H20 (fun r7 H21 => ∃ x8 : Fv, r7 = .func x8.fn x8.fi x8.ca ∧ 
 ∀ fn : FuncId, ∀ tm : Array Value, TmOf (state_Apply.r1.fr b) tm → vRg Try.prog (.func x8.fn x8.fi x8.ca) (Array.size H21 + 1) (Array.push (Array.push H21 hole) (state_Apply.r1.rec fn tm (Array.size H21) .ready none)) (fun H28 => ∃ st : LoopState, ∃ pd : Option Code, H28[(Array.size H21 + 1)]? = some (state_Apply.r1.rec fn tm (Array.size H21) st pd) ∧ st ≠ .busy ∧ ∀ H29 : Hp, H29 = (Array.setIfInBounds H28 (Array.size H21 + 1) (state_Apply.r1.rec fn tm (Array.size H21) .exhausted pd)) → ((pd = none → ∃ Index8 : Int, ∃ Term8 : Int, ∃ Pairs7 : Sl, ∃ Sessions8 : Sl, RowAt H29 (Addr.mk b 0 none) [.int .i64 Index8, .int .i64 Term8, .slice Pairs7.a Pairs7.len Pairs7.cap, .slice Sessions8.a Sessions8.len Sessions8.cap] ∧ 
  (Q (.tuple #[.agg #[.int .i64 Index8, .int .i64 Term8, .slice Pairs7.a Pairs7.len Pairs7.cap, .slice Sessions8.a Sessions8.len Sessions8.cap], .agg #[.int .i64 Err, .string Valuev]]) H29) ∧ 
  (Q (.tuple #[.agg #[.int .i64 Index8, .int .i64 Term8, .slice Pairs7.a Pairs7.len Pairs7.cap, .slice Sessions8.a Sessions8.len Sessions8.cap], .agg #[.int .i64 Err, .string Valuev]]) H29)) ∧ (pd = some .ret → Q (.tuple #[.agg #[.int .i64 0, .int .i64 0, .slice none 0 0, .slice none 0 0], .agg #[.int .i64 0, .string (ByteArray.mk #[])]]) H29) ∧ (True) ∧ (pd = none ∨ pd = some .ret ∨ ∃ i ∈ ([] : List Nat), pd = some (.exit i))))))))))
theorem state_Apply.k3.eq (J : Jn) (eIndex : Int) (eTerm : Int) (eCmdOp : Int) (eCmdClient : Int) (eCmdSeq : Int) (eCmdKey : ByteArray) (eCmdValue : ByteArray) (eCmdOld : ByteArray) (b : Nat) (x2 : Option Addr) (Client : Int) (Seq : Int) (ReplyErr : Int) (ReplyValue : ByteArray) (H13 : Hp) (x4 : Bool) (Q : Value → Hp → Prop) : vSeg Try.prog state_Apply.cf J state_Apply.fn [1, 1, 1, 1, 1, 0, 1, 1] [0, 3, 3, 3, 3, 3, 3, 4] Q (state_Apply.k3.st eIndex eTerm eCmdOp eCmdClient eCmdSeq eCmdKey eCmdValue eCmdOld b x2 Client Seq ReplyErr ReplyValue H13 x4) = state_Apply.k3.body J eIndex eTerm eCmdOp eCmdClient eCmdSeq eCmdKey eCmdValue eCmdOld b x2 Client Seq ReplyErr ReplyValue H13 x4 Q := by kernel_rfl
theorem state_Apply.k3.step {eIndex : Int} {eTerm : Int} {eCmdOp : Int} {eCmdClient : Int} {eCmdSeq : Int} {eCmdKey : ByteArray} {eCmdValue : ByteArray} {eCmdOld : ByteArray} {b : Nat} {x2 : Option Addr} {Client : Int} {Seq : Int} {ReplyErr : Int} {ReplyValue : ByteArray} {H13 : Hp} {x4 : Bool} {Q : Value → Hp → Prop} (h : state_Apply.k3.body J0 eIndex eTerm eCmdOp eCmdClient eCmdSeq eCmdKey eCmdValue eCmdOld b x2 Client Seq ReplyErr ReplyValue H13 x4 Q) : state_Apply.k3 J0 eIndex eTerm eCmdOp eCmdClient eCmdSeq eCmdKey eCmdValue eCmdOld b x2 Client Seq ReplyErr ReplyValue H13 x4 Q := step_of (vSeg Try.prog state_Apply.cf J0 state_Apply.fn [1, 1, 1, 1, 1, 0, 1, 1] [0, 3, 3, 3, 3, 3, 3, 4] Q) (state_Apply.k3.st eIndex eTerm eCmdOp eCmdClient eCmdSeq eCmdKey eCmdValue eCmdOld b x2 Client Seq ReplyErr ReplyValue H13 x4) (state_Apply.k3.eq J0 eIndex eTerm eCmdOp eCmdClient eCmdSeq eCmdKey eCmdValue eCmdOld b x2 Client Seq ReplyErr ReplyValue H13 x4 Q) (by kernel_rfl) h
noncomputable def state_Apply.r1.body (J : Jn) (b : Nat) (l : Nat) (rc : LoopState → Option Code → Obj) (k : Int) (vClient : Int) (vSeq : Int) (vReplyErr : Int) (vReplyValue : ByteArray) (H22 : Hp) (Q : Value → Hp → Prop) : Prop :=
 ∀ H23 : Hp, H23 = (holes H22 1) → H23[l]? = some (rc .ready none) ∧ ∀ H24 : Hp, H24 = (Array.setIfInBounds H23 l (rc .busy none)) → ∃ Sessions7 : Sl, Hp.cell? H24 ((Addr.mk b 0 none).add 3) = some (.slice Sessions7.a Sessions7.len Sessions7.cap) ∧ ∀ b1 : Nat, b1 = Array.size H24 → ∀ H25 : Hp, H25 = (Array.push H24 (.cells #[.int .i64 vClient, .int .i64 vSeq, .int .i64 vReplyErr, .string vReplyValue] T_api_Session)) → 
 vApp Try.prog T_sl_api_Session Sessions7.a Sessions7.len Sessions7.cap (.slice (some (Addr.mk b1 0 none)) 1 1) H25 (fun ap H26 => WrAt H26 ((Addr.mk b 0 none).add 3) 1 ∧ ∀ H27 : Hp, H27 = (Hp.setCell H26 ((Addr.mk b 0 none).add 3) (.slice ap.a ap.len ap.cap)) → 
 ((∃ st : LoopState, ∃ pd : Option Code, H27[l]? = some (rc st pd)) ∧ Q (.bool true) (Array.setIfInBounds H27 l (rc .ready none))))
theorem state_Apply.r1.eq (J : Jn) (b : Nat) (l : Nat) (rc : LoopState → Option Code → Obj) (k : Int) (vClient : Int) (vSeq : Int) (vReplyErr : Int) (vReplyValue : ByteArray) (H22 : Hp) (Q : Value → Hp → Prop) : vRound Try.prog state_Apply.cfr J (rgA state_Apply.r1.code) (rgB state_Apply.r1.code) (setFr (state_Apply.r1.fr b) (rgP state_Apply.r1.code).toList [.int .i64 k, .agg #[.int .i64 vClient, .int .i64 vSeq, .int .i64 vReplyErr, .string vReplyValue]]) l rc H22 Q = state_Apply.r1.body J b l rc k vClient vSeq vReplyErr vReplyValue H22 Q := by kernel_rfl
theorem state_Apply.r1.calls {b : Nat} {l : Nat} {k : Int} {vClient : Int} {vSeq : Int} {vReplyErr : Int} {vReplyValue : ByteArray} {H22 : Hp} {fnA : FuncId} {tmA : Array Value} {dA : Nat} {Q : Value → Hp → Prop} (hl : H22[l]? = some (state_Apply.r1.rec fnA tmA dA .ready none)) (hT : TmOf (state_Apply.r1.fr b) tmA) (h : state_Apply.r1.body J0 b l (state_Apply.r1.rec fnA tmA dA) k vClient vSeq vReplyErr vReplyValue H22 Q) : YCalls Try.prog l [.int .i64 k, .agg #[.int .i64 vClient, .int .i64 vSeq, .int .i64 vReplyErr, .string vReplyValue]] H22 Q := vRound_calls (cf := state_Apply.cfr) (fn := fnA) (tm := tmA) (ps := rgP state_Apply.r1.code) (asg := rgA state_Apply.r1.code) (body := rgB state_Apply.r1.code) (d := dA) (fr := (state_Apply.r1.fr b)) Try.mixed (by kernel_rfl) hl (by kernel_rfl) hT ((state_Apply.r1.eq J0 b l (state_Apply.r1.rec fnA tmA dA) k vClient vSeq vReplyErr vReplyValue H22 Q).mpr h)
attribute [irreducible] state_Apply.r1.rec state_Apply.r1.fr state_Apply.r1.code
noncomputable def state_Apply.vc (J : Jn) (sIndex : Int) (sTerm : Int) (sPairs : Sl) (sSessions : Sl) (eIndex : Int) (eTerm : Int) (eCmdOp : Int) (eCmdClient : Int) (eCmdSeq : Int) (eCmdKey : ByteArray) (eCmdValue : ByteArray) (eCmdOld : ByteArray) (H : Hp) (Q : Value → Hp → Prop) : Prop :=
 ∀ b : Nat, b = Array.size H → ∀ H1 : Hp, H1 = (Array.push H (.cells #[.int .i64 sIndex, .int .i64 sTerm, .slice sPairs.a sPairs.len sPairs.cap, .slice sSessions.a sSessions.len sSessions.cap] T_api_State)) → ∀ H2 : Hp, H2 = (holes H1 1) → ∀ H3 : Hp, H3 = (holes H2 1) → ∀ H4 : Hp, H4 = (holes H3 1) → 
 SCalls Try.prog cmds_Right.id [.agg #[.int .i64 eIndex, .int .i64 eTerm, .int .i64 eCmdOp, .int .i64 eCmdClient, .int .i64 eCmdSeq, .string eCmdKey, .string eCmdValue, .string eCmdOld]] H4 (fun r H5 => ∃ x : Bool, r = .bool x ∧ 
 Br (!x) (∃ Index : Int, ∃ Term : Int, ∃ Pairs : Sl, ∃ Sessions : Sl, RowAt H5 (Addr.mk b 0 none) [.int .i64 Index, .int .i64 Term, .slice Pairs.a Pairs.len Pairs.cap, .slice Sessions.a Sessions.len Sessions.cap] ∧ Q (.tuple #[.agg #[.int .i64 Index, .int .i64 Term, .slice Pairs.a Pairs.len Pairs.cap, .slice Sessions.a Sessions.len Sessions.cap], .agg #[.int .i64 14, .string (ByteArray.mk #[])]]) H5)
 (∃ Index1 : Int, Hp.cell? H5 (Addr.mk b 0 none) = some (.int .i64 Index1) ∧ 
 Br (eIndex != (w64 (Index1 + 1))) (
 state_Apply.k1 J eIndex eTerm eCmdOp eCmdClient eCmdSeq eCmdKey eCmdValue eCmdOld b H5 true Q)
 (∃ Term1 : Int, Hp.cell? H5 ((Addr.mk b 0 none).add 1) = some (.int .i64 Term1) ∧ 
 state_Apply.k1 J eIndex eTerm eCmdOp eCmdClient eCmdSeq eCmdKey eCmdValue eCmdOld b H5 (decide (eTerm < Term1)) Q)))
theorem state_Apply.eq (J : Jn) (sIndex : Int) (sTerm : Int) (sPairs : Sl) (sSessions : Sl) (eIndex : Int) (eTerm : Int) (eCmdOp : Int) (eCmdClient : Int) (eCmdSeq : Int) (eCmdKey : ByteArray) (eCmdValue : ByteArray) (eCmdOld : ByteArray) (H : Hp) (Q : Value → Hp → Prop) : vFn Try.prog state_Apply.cf J state_Apply.fn [.agg #[.int .i64 sIndex, .int .i64 sTerm, .slice sPairs.a sPairs.len sPairs.cap, .slice sSessions.a sSessions.len sSessions.cap], .agg #[.int .i64 eIndex, .int .i64 eTerm, .int .i64 eCmdOp, .int .i64 eCmdClient, .int .i64 eCmdSeq, .string eCmdKey, .string eCmdValue, .string eCmdOld]] H Q = state_Apply.vc J sIndex sTerm sPairs sSessions eIndex eTerm eCmdOp eCmdClient eCmdSeq eCmdKey eCmdValue eCmdOld H Q := by kernel_rfl
theorem state_Apply.calls {sIndex : Int} {sTerm : Int} {sPairs : Sl} {sSessions : Sl} {eIndex : Int} {eTerm : Int} {eCmdOp : Int} {eCmdClient : Int} {eCmdSeq : Int} {eCmdKey : ByteArray} {eCmdValue : ByteArray} {eCmdOld : ByteArray} {H : Hp} {Q : Value → Hp → Prop} (h : state_Apply.vc J0 sIndex sTerm sPairs sSessions eIndex eTerm eCmdOp eCmdClient eCmdSeq eCmdKey eCmdValue eCmdOld H Q) : SCalls Try.prog state_Apply.id [.agg #[.int .i64 sIndex, .int .i64 sTerm, .slice sPairs.a sPairs.len sPairs.cap, .slice sSessions.a sSessions.len sSessions.cap], .agg #[.int .i64 eIndex, .int .i64 eTerm, .int .i64 eCmdOp, .int .i64 eCmdClient, .int .i64 eCmdSeq, .string eCmdKey, .string eCmdValue, .string eCmdOld]] H Q := vFn_of Try.mixed Try.func30 (state_Apply.eq J0 sIndex sTerm sPairs sSessions eIndex eTerm eCmdOp eCmdClient eCmdSeq eCmdKey eCmdValue eCmdOld H Q) h

/-! 31: (tephra/tephralaw06.Say).Cmd -/
noncomputable def tephralaw06_Say_Cmd.cf : Cfg := ⟨[1, 2, 3], [], [(6, [1, 2, 3], true)], [], true⟩
noncomputable def tephralaw06_Say_Cmd.k1.st (sOp : Int) (sClient : Int) (sSeq : Int) (sKey : Int) (sValue : Int) (sOld : Int) (H : Hp) (y : ByteArray) : VS := ⟨mkFr 65 [(1, .loc 0 0), (2, .loc 1 0), (3, .loc 2 0)], [(T_tephralaw06_Say, [.int .u8 sOp, .int .u8 sClient, .int .u8 sSeq, .int .u8 sKey, .int .u8 sValue, .int .u8 sOld]), (T_api_Cmd, [.int .i64 0, .int .i64 0, .int .i64 0, .string (ByteArray.mk #[]), .string (ByteArray.mk #[]), .string (ByteArray.mk #[])]), (T_api_Cmd, [.int .i64 (w64 ((Int.tmod sOp 4))), .int .i64 (w64 ((Int.tmod sClient 4))), .int .i64 (w64 ((Int.tmod sSeq 40))), .string ((ByteArray.mk #[107]) ++ ((ByteArray.mk #[97, 98, 99, 100, 101, 102, 103, 104]).extract (((Int.tmod sKey 8) : Int).toNat) (((IntKind.u8.wrap ((Int.tmod sKey 8) + 1)) : Int).toNat))), .string y, .string (ByteArray.mk #[])])], (holes H 3)⟩
noncomputable def tephralaw06_Say_Cmd.k1 (J : Jn) (sOp : Int) (sClient : Int) (sSeq : Int) (sKey : Int) (sValue : Int) (sOld : Int) (H : Hp) (y : ByteArray) (Q : Value → Hp → Prop) : Prop := J (vSeg Try.prog tephralaw06_Say_Cmd.cf J tephralaw06_Say_Cmd.fn [1, 1, 1, 1] [0, 2, 3, 3] Q) (tephralaw06_Say_Cmd.k1.st sOp sClient sSeq sKey sValue sOld H y)
attribute [irreducible] tephralaw06_Say_Cmd.k1
noncomputable def tephralaw06_Say_Cmd.k1.body (J : Jn) (sOp : Int) (sClient : Int) (sSeq : Int) (sKey : Int) (sValue : Int) (sOld : Int) (H : Hp) (y : ByteArray) (Q : Value → Hp → Prop) : Prop :=
 
 Br ((w64 ((Int.tmod sOp 4))) == 3) ((2 : Int) ≠ 0 ∧ ((0 : Int) ≤ (Int.tmod sOld 2) ∧ (Int.tmod sOld 2) ≤ (((ByteArray.mk #[118]).size : Nat) : Int)) ∧ (10 : Int) ≠ 0 ∧ (10 : Int) ≠ 0 ∧ ((0 : Int) ≤ (IntKind.u8.wrap ((Int.tmod sOld 10) + 1)) ∧ (IntKind.u8.wrap ((Int.tmod sOld 10) + 1)) ≤ (((ByteArray.mk #[48, 49, 50, 51, 52, 53, 54, 55, 56, 57]).size : Nat) : Int)) ∧ ((0 : Int) ≤ (Int.tmod sOld 10) ∧ (Int.tmod sOld 10) ≤ (((((IntKind.u8.wrap ((Int.tmod sOld 10) + 1)) : Int).toNat) : Nat) : Int)) ∧ ((ByteArray.mk #[118]).extract 0 (((Int.tmod sOld 2) : Int).toNat)).size + ((ByteArray.mk #[48, 49, 50, 51, 52, 53, 54, 55, 56, 57]).extract (((Int.tmod sOld 10) : Int).toNat) (((IntKind.u8.wrap ((Int.tmod sOld 10) + 1)) : Int).toNat)).size ≤ 9223372036854775807 ∧ Q (.agg #[.int .i64 (w64 ((Int.tmod sOp 4))), .int .i64 (w64 ((Int.tmod sClient 4))), .int .i64 (w64 ((Int.tmod sSeq 40))), .string ((ByteArray.mk #[107]) ++ ((ByteArray.mk #[97, 98, 99, 100, 101, 102, 103, 104]).extract (((Int.tmod sKey 8) : Int).toNat) (((IntKind.u8.wrap ((Int.tmod sKey 8) + 1)) : Int).toNat))), .string y, .string (((ByteArray.mk #[118]).extract 0 (((Int.tmod sOld 2) : Int).toNat)) ++ ((ByteArray.mk #[48, 49, 50, 51, 52, 53, 54, 55, 56, 57]).extract (((Int.tmod sOld 10) : Int).toNat) (((IntKind.u8.wrap ((Int.tmod sOld 10) + 1)) : Int).toNat)))]) (holes H 3))
 (Q (.agg #[.int .i64 (w64 ((Int.tmod sOp 4))), .int .i64 (w64 ((Int.tmod sClient 4))), .int .i64 (w64 ((Int.tmod sSeq 40))), .string ((ByteArray.mk #[107]) ++ ((ByteArray.mk #[97, 98, 99, 100, 101, 102, 103, 104]).extract (((Int.tmod sKey 8) : Int).toNat) (((IntKind.u8.wrap ((Int.tmod sKey 8) + 1)) : Int).toNat))), .string y, .string (ByteArray.mk #[])]) (holes H 3))
theorem tephralaw06_Say_Cmd.k1.eq (J : Jn) (sOp : Int) (sClient : Int) (sSeq : Int) (sKey : Int) (sValue : Int) (sOld : Int) (H : Hp) (y : ByteArray) (Q : Value → Hp → Prop) : vSeg Try.prog tephralaw06_Say_Cmd.cf J tephralaw06_Say_Cmd.fn [1, 1, 1, 1] [0, 2, 3, 3] Q (tephralaw06_Say_Cmd.k1.st sOp sClient sSeq sKey sValue sOld H y) = tephralaw06_Say_Cmd.k1.body J sOp sClient sSeq sKey sValue sOld H y Q := by kernel_rfl
theorem tephralaw06_Say_Cmd.k1.step {sOp : Int} {sClient : Int} {sSeq : Int} {sKey : Int} {sValue : Int} {sOld : Int} {H : Hp} {y : ByteArray} {Q : Value → Hp → Prop} (h : tephralaw06_Say_Cmd.k1.body J0 sOp sClient sSeq sKey sValue sOld H y Q) : tephralaw06_Say_Cmd.k1 J0 sOp sClient sSeq sKey sValue sOld H y Q := step_of (vSeg Try.prog tephralaw06_Say_Cmd.cf J0 tephralaw06_Say_Cmd.fn [1, 1, 1, 1] [0, 2, 3, 3] Q) (tephralaw06_Say_Cmd.k1.st sOp sClient sSeq sKey sValue sOld H y) (tephralaw06_Say_Cmd.k1.eq J0 sOp sClient sSeq sKey sValue sOld H y Q) (by kernel_rfl) h
noncomputable def tephralaw06_Say_Cmd.vc (J : Jn) (sOp : Int) (sClient : Int) (sSeq : Int) (sKey : Int) (sValue : Int) (sOld : Int) (H : Hp) (Q : Value → Hp → Prop) : Prop :=
 (4 : Int) ≠ 0 ∧ (4 : Int) ≠ 0 ∧ (40 : Int) ≠ 0 ∧ (8 : Int) ≠ 0 ∧ (8 : Int) ≠ 0 ∧ ((0 : Int) ≤ (IntKind.u8.wrap ((Int.tmod sKey 8) + 1)) ∧ (IntKind.u8.wrap ((Int.tmod sKey 8) + 1)) ≤ (((ByteArray.mk #[97, 98, 99, 100, 101, 102, 103, 104]).size : Nat) : Int)) ∧ ((0 : Int) ≤ (Int.tmod sKey 8) ∧ (Int.tmod sKey 8) ≤ (((((IntKind.u8.wrap ((Int.tmod sKey 8) + 1)) : Int).toNat) : Nat) : Int)) ∧ (ByteArray.mk #[107]).size + ((ByteArray.mk #[97, 98, 99, 100, 101, 102, 103, 104]).extract (((Int.tmod sKey 8) : Int).toNat) (((IntKind.u8.wrap ((Int.tmod sKey 8) + 1)) : Int).toNat)).size ≤ 9223372036854775807 ∧ (2 : Int) ≠ 0 ∧ ((0 : Int) ≤ (Int.tmod sValue 2) ∧ (Int.tmod sValue 2) ≤ (((ByteArray.mk #[118]).size : Nat) : Int)) ∧ (10 : Int) ≠ 0 ∧ (10 : Int) ≠ 0 ∧ ((0 : Int) ≤ (IntKind.u8.wrap ((Int.tmod sValue 10) + 1)) ∧ (IntKind.u8.wrap ((Int.tmod sValue 10) + 1)) ≤ (((ByteArray.mk #[48, 49, 50, 51, 52, 53, 54, 55, 56, 57]).size : Nat) : Int)) ∧ ((0 : Int) ≤ (Int.tmod sValue 10) ∧ (Int.tmod sValue 10) ≤ (((((IntKind.u8.wrap ((Int.tmod sValue 10) + 1)) : Int).toNat) : Nat) : Int)) ∧ ((ByteArray.mk #[118]).extract 0 (((Int.tmod sValue 2) : Int).toNat)).size + ((ByteArray.mk #[48, 49, 50, 51, 52, 53, 54, 55, 56, 57]).extract (((Int.tmod sValue 10) : Int).toNat) (((IntKind.u8.wrap ((Int.tmod sValue 10) + 1)) : Int).toNat)).size ≤ 9223372036854775807 ∧ 
 Br ((w64 ((Int.tmod sOp 4))) == 0) (Q (.agg #[.int .i64 0, .int .i64 0, .int .i64 0, .string (ByteArray.mk #[]), .string (ByteArray.mk #[]), .string (ByteArray.mk #[])]) (holes H 3))
 (
 Br ((w64 ((Int.tmod sOp 4))) == 2) (
 tephralaw06_Say_Cmd.k1 J sOp sClient sSeq sKey sValue sOld H (ByteArray.mk #[]) Q)
 (
 tephralaw06_Say_Cmd.k1 J sOp sClient sSeq sKey sValue sOld H (((ByteArray.mk #[118]).extract 0 (((Int.tmod sValue 2) : Int).toNat)) ++ ((ByteArray.mk #[48, 49, 50, 51, 52, 53, 54, 55, 56, 57]).extract (((Int.tmod sValue 10) : Int).toNat) (((IntKind.u8.wrap ((Int.tmod sValue 10) + 1)) : Int).toNat))) Q))
theorem tephralaw06_Say_Cmd.eq (J : Jn) (sOp : Int) (sClient : Int) (sSeq : Int) (sKey : Int) (sValue : Int) (sOld : Int) (H : Hp) (Q : Value → Hp → Prop) : vFn Try.prog tephralaw06_Say_Cmd.cf J tephralaw06_Say_Cmd.fn [.agg #[.int .u8 sOp, .int .u8 sClient, .int .u8 sSeq, .int .u8 sKey, .int .u8 sValue, .int .u8 sOld]] H Q = tephralaw06_Say_Cmd.vc J sOp sClient sSeq sKey sValue sOld H Q := by kernel_rfl
theorem tephralaw06_Say_Cmd.calls {sOp : Int} {sClient : Int} {sSeq : Int} {sKey : Int} {sValue : Int} {sOld : Int} {H : Hp} {Q : Value → Hp → Prop} (h : tephralaw06_Say_Cmd.vc J0 sOp sClient sSeq sKey sValue sOld H Q) : SCalls Try.prog tephralaw06_Say_Cmd.id [.agg #[.int .u8 sOp, .int .u8 sClient, .int .u8 sSeq, .int .u8 sKey, .int .u8 sValue, .int .u8 sOld]] H Q := vFn_of Try.mixed Try.func31 (tephralaw06_Say_Cmd.eq J0 sOp sClient sSeq sKey sValue sOld H Q) h

/-! 32: tephra/delta.Bytes -/
noncomputable def delta_Bytes.cf : Cfg := ⟨[1, 1000003], [], [(3, [1, 3], true)], [], true⟩
noncomputable def delta_Bytes.k1.st (dFrom : Int) (dTo : Int) (dTerm : Int) (dPairs : Sl) (dSessions : Sl) (b : Nat) (H5 : Hp) : VS := ⟨mkFr 24 [(1, .loc 0 0), (3, .v (.pointer (some (Addr.mk b 0 none))))], [(T_delta_Delta, [.int .i64 dFrom, .int .i64 dTo, .int .i64 dTerm, .slice dPairs.a dPairs.len dPairs.cap, .slice dSessions.a dSessions.len dSessions.cap])], H5⟩
noncomputable def delta_Bytes.k1 (J : Jn) (dFrom : Int) (dTo : Int) (dTerm : Int) (dPairs : Sl) (dSessions : Sl) (b : Nat) (H5 : Hp) (Q : Value → Hp → Prop) : Prop := J (vSeg Try.prog delta_Bytes.cf J delta_Bytes.fn [1, 1, 1] [0, 1, 1] Q) (delta_Bytes.k1.st dFrom dTo dTerm dPairs dSessions b H5)
attribute [irreducible] delta_Bytes.k1
noncomputable def delta_Bytes.k1.body (J : Jn) (dFrom : Int) (dTo : Int) (dTerm : Int) (dPairs : Sl) (dSessions : Sl) (b : Nat) (H5 : Hp) (Q : Value → Hp → Prop) : Prop :=
 
 SCalls Try.prog state_PutRows.id [.pointer (some (Addr.mk b 0 none)), .slice dPairs.a dPairs.len dPairs.cap, .slice dSessions.a dSessions.len dSessions.cap] H5 (fun r3 H6 => r3 = .tuple #[] ∧ 
 SCalls Try.prog pack_Writer_Bytes.id [.pointer (some (Addr.mk b 0 none))] H6 (fun r4 H7 => ∃ x3 : Sl, r4 = .slice x3.a x3.len x3.cap ∧ Q (.slice x3.a x3.len x3.cap) H7))
theorem delta_Bytes.k1.eq (J : Jn) (dFrom : Int) (dTo : Int) (dTerm : Int) (dPairs : Sl) (dSessions : Sl) (b : Nat) (H5 : Hp) (Q : Value → Hp → Prop) : vSeg Try.prog delta_Bytes.cf J delta_Bytes.fn [1, 1, 1] [0, 1, 1] Q (delta_Bytes.k1.st dFrom dTo dTerm dPairs dSessions b H5) = delta_Bytes.k1.body J dFrom dTo dTerm dPairs dSessions b H5 Q := by kernel_rfl
theorem delta_Bytes.k1.step {dFrom : Int} {dTo : Int} {dTerm : Int} {dPairs : Sl} {dSessions : Sl} {b : Nat} {H5 : Hp} {Q : Value → Hp → Prop} (h : delta_Bytes.k1.body J0 dFrom dTo dTerm dPairs dSessions b H5 Q) : delta_Bytes.k1 J0 dFrom dTo dTerm dPairs dSessions b H5 Q := step_of (vSeg Try.prog delta_Bytes.cf J0 delta_Bytes.fn [1, 1, 1] [0, 1, 1] Q) (delta_Bytes.k1.st dFrom dTo dTerm dPairs dSessions b H5) (delta_Bytes.k1.eq J0 dFrom dTo dTerm dPairs dSessions b H5 Q) (by kernel_rfl) h
noncomputable def delta_Bytes.vc (J : Jn) (dFrom : Int) (dTo : Int) (dTerm : Int) (dPairs : Sl) (dSessions : Sl) (H : Hp) (Q : Value → Hp → Prop) : Prop :=
 ∀ H1 : Hp, H1 = (holes H 1) → ∀ b : Nat, b = Array.size H1 → ∀ H2 : Hp, H2 = (Array.push H1 (.cells #[.slice none 0 0] T_pack_Writer)) → 
 SCalls Try.prog pack_Writer_Num.id [.pointer (some (Addr.mk b 0 none)), .int .i64 dFrom] H2 (fun r H3 => ∃ x : Option Addr, r = .pointer x ∧ 
 SCalls Try.prog pack_Writer_Num.id [.pointer x, .int .i64 dTo] H3 (fun r1 H4 => ∃ x1 : Option Addr, r1 = .pointer x1 ∧ 
 SCalls Try.prog pack_Writer_Num.id [.pointer x1, .int .i64 dTerm] H4 (fun r2 H5 => ∃ x2 : Option Addr, r2 = .pointer x2 ∧ 
 delta_Bytes.k1 J dFrom dTo dTerm dPairs dSessions b H5 Q)))
theorem delta_Bytes.eq (J : Jn) (dFrom : Int) (dTo : Int) (dTerm : Int) (dPairs : Sl) (dSessions : Sl) (H : Hp) (Q : Value → Hp → Prop) : vFn Try.prog delta_Bytes.cf J delta_Bytes.fn [.agg #[.int .i64 dFrom, .int .i64 dTo, .int .i64 dTerm, .slice dPairs.a dPairs.len dPairs.cap, .slice dSessions.a dSessions.len dSessions.cap]] H Q = delta_Bytes.vc J dFrom dTo dTerm dPairs dSessions H Q := by kernel_rfl
theorem delta_Bytes.calls {dFrom : Int} {dTo : Int} {dTerm : Int} {dPairs : Sl} {dSessions : Sl} {H : Hp} {Q : Value → Hp → Prop} (h : delta_Bytes.vc J0 dFrom dTo dTerm dPairs dSessions H Q) : SCalls Try.prog delta_Bytes.id [.agg #[.int .i64 dFrom, .int .i64 dTo, .int .i64 dTerm, .slice dPairs.a dPairs.len dPairs.cap, .slice dSessions.a dSessions.len dSessions.cap]] H Q := vFn_of Try.mixed Try.func32 (delta_Bytes.eq J0 dFrom dTo dTerm dPairs dSessions H Q) h

/-! 33: tephra/delta.seq$1 -/
noncomputable def delta_seq_1.cf : Cfg := ⟨[4, 1000003], [(1, [0, 5, 6, 7])], [], [], true⟩
noncomputable def delta_seq_1.l1.st (yield : Fv) (x : Sl) (H1 : Hp) (x1 : Int) : VS := ⟨mkFr 18 [(0, .v (.func yield.fn yield.fi yield.ca)), (5, .v (.slice x.a x.len x.cap)), (6, .v (.int .i64 ((x.len : Nat) : Int))), (7, .v (.int .i64 x1))], [], H1⟩
noncomputable def delta_seq_1.l1 (J : Jn) (yield : Fv) (x : Sl) (H1 : Hp) (x1 : Int) (Q : Value → Hp → Prop) : Prop := vAt Try.prog delta_seq_1.cf J delta_seq_1.fn [1, 0] [0] Q (delta_seq_1.l1.st yield x H1 x1)
attribute [irreducible] delta_seq_1.l1
noncomputable def delta_seq_1.l1.body (J : Jn) (yield : Fv) (x : Sl) (H1 : Hp) (x1 : Int) (Q : Value → Hp → Prop) : Prop :=
 
 Br (decide (x1 < ((x.len : Nat) : Int))) (((0 : Int) ≤ x1 ∧ x1 < ((x.len : Nat) : Int)) ∧ vPtr x.a (fun a => ∃ Key : ByteArray, ∃ Valuev : ByteArray, ∃ Gone : Bool, RowAt H1 (a.add ((x1 : Int).toNat * 3)) [.string Key, .string Valuev, .bool Gone] ∧ ∀ H2 : Hp, H2 = (holes H1 1) → 
 vInv Try.prog (.func yield.fn yield.fi yield.ca) [.string Key, .agg #[.string Key, .string Valuev, .bool Gone]] H2 (fun r H3 => ∃ x2 : Bool, r = .bool x2 ∧ 
 Br (!x2) (Q (.tuple #[]) H3)
 (
 delta_seq_1.l1 J yield x H3 (w64 (x1 + 1)) Q))))
 (Q (.tuple #[]) H1)
theorem delta_seq_1.l1.eq (J : Jn) (yield : Fv) (x : Sl) (H1 : Hp) (x1 : Int) (Q : Value → Hp → Prop) : vAtBody Try.prog delta_seq_1.cf J delta_seq_1.fn [1, 0] [0] Q (delta_seq_1.l1.st yield x H1 x1) = delta_seq_1.l1.body J yield x H1 x1 Q := by kernel_rfl
theorem delta_seq_1.l1.step {yield : Fv} {x : Sl} {H1 : Hp} {x1 : Int} {Q : Value → Hp → Prop} (h : delta_seq_1.l1.body J0 yield x H1 x1 Q) : delta_seq_1.l1 J0 yield x H1 x1 Q := vAt_stepC (delta_seq_1.l1.st yield x H1 x1) (delta_seq_1.l1.eq J0 yield x H1 x1 Q) (by kernel_rfl) h
noncomputable def delta_seq_1.vc (J : Jn) (yield : Fv) (cap0 : Addr) (H : Hp) (Q : Value → Hp → Prop) : Prop :=
 ∃ x : Sl, Hp.cell? H cap0 = some (.slice x.a x.len x.cap) ∧ 
 delta_seq_1.l1 J yield x H 0 Q
theorem delta_seq_1.eq (J : Jn) (yield : Fv) (cap0 : Addr) (H : Hp) (Q : Value → Hp → Prop) : vFn Try.prog delta_seq_1.cf J delta_seq_1.fn [.func yield.fn yield.fi yield.ca, .pointer (some cap0)] H Q = delta_seq_1.vc J yield cap0 H Q := by kernel_rfl
theorem delta_seq_1.calls {yield : Fv} {cap0 : Addr} {H : Hp} {Q : Value → Hp → Prop} (h : delta_seq_1.vc J0 yield cap0 H Q) : SCalls Try.prog delta_seq_1.id [.func yield.fn yield.fi yield.ca, .pointer (some cap0)] H Q := vFn_of Try.mixed Try.func33 (delta_seq_1.eq J0 yield cap0 H Q) h

/-! 34: (*tephra/sorted.Map_string, string_).find -/
noncomputable def sorted_Map_string_string_find.cf : Cfg := ⟨[], [], [], [], true⟩
noncomputable def sorted_Map_string_string_find.vc (J : Jn) (m : Addr) (k : ByteArray) (H : Hp) (Q : Value → Hp → Prop) : Prop :=
 ∃ items : Sl, Hp.cell? H m = some (.slice items.a items.len items.cap) ∧ 
 SCalls Try.prog slices_BinarySearchFunc_sl_sorted_item_string_string_sorted_item_string_string_string.id [.slice items.a items.len items.cap, .string k, .func (.func 51) #[] #[]] H (fun r H1 => ∃ x : Int, ∃ x1 : Bool, r = .tuple #[.int .i64 x, .bool x1] ∧ Q (.tuple #[.int .i64 x, .bool x1]) H1)
theorem sorted_Map_string_string_find.eq (J : Jn) (m : Addr) (k : ByteArray) (H : Hp) (Q : Value → Hp → Prop) : vFn Try.prog sorted_Map_string_string_find.cf J sorted_Map_string_string_find.fn [.pointer (some m), .string k] H Q = sorted_Map_string_string_find.vc J m k H Q := by kernel_rfl
theorem sorted_Map_string_string_find.calls {m : Addr} {k : ByteArray} {H : Hp} {Q : Value → Hp → Prop} (h : sorted_Map_string_string_find.vc J0 m k H Q) : SCalls Try.prog sorted_Map_string_string_find.id [.pointer (some m), .string k] H Q := vFn_of Try.mixed Try.func34 (sorted_Map_string_string_find.eq J0 m k H Q) h

/-! 35: slices.Insert___tephra/sorted.item_string, string_,tephra/sorted.item_string, string__ -/
noncomputable def slices_Insert_sl_sorted_item_string_string_sorted_item_string_string.cf : Cfg := ⟨[], [], [], [], true⟩
noncomputable def slices_Insert_sl_sorted_item_string_string_sorted_item_string_string.vc (J : Jn) (s : Sl) (i : Int) (v : Sl) (H : Hp) (Q : Value → Hp → Prop) : Prop :=
 ((0 : Int) ≤ i ∧ i ≤ ((s.len : Nat) : Int)) ∧ 
 Br (((v.len : Nat) : Int) == 0) (Q (.slice s.a s.len s.cap) H)
 (
 Br (i == ((s.len : Nat) : Int)) (
 vApp Try.prog T_sl_sorted_item_string_string s.a s.len s.cap (.slice v.a v.len v.cap) H (fun ap H1 => Q (.slice ap.a ap.len ap.cap) H1))
 (
 Br (decide ((w64 (((s.len : Nat) : Int) + ((v.len : Nat) : Int))) > ((s.cap : Nat) : Int))) (((0 : Int) ≤ i ∧ i ≤ ((s.cap : Nat) : Int)) ∧ 
 vAppZ Try.prog T_sl_sorted_item_string_string (cutA s.a s.cap 0 2) ((i : Int).toNat) s.cap (w64 ((w64 (((s.len : Nat) : Int) + ((v.len : Nat) : Int))) - i)) H (fun ap1 H2 => ((0 : Int) ≤ i ∧ i ≤ ((ap1.len : Nat) : Int)) ∧ 
 vCopy Try.prog T_sl_sorted_item_string_string (cutA ap1.a ap1.cap ((i : Int).toNat) 2) (ap1.len - ((i : Int).toNat)) (.slice v.a v.len v.cap) H2 (fun n H3 => ((0 : Int) ≤ (w64 (i + ((v.len : Nat) : Int))) ∧ (w64 (i + ((v.len : Nat) : Int))) ≤ ((ap1.len : Nat) : Int)) ∧ ((0 : Int) ≤ i ∧ i ≤ ((s.len : Nat) : Int)) ∧ 
 vCopy Try.prog T_sl_sorted_item_string_string (cutA ap1.a ap1.cap (((w64 (i + ((v.len : Nat) : Int))) : Int).toNat) 2) (ap1.len - (((w64 (i + ((v.len : Nat) : Int))) : Int).toNat)) (.slice (cutA s.a s.cap ((i : Int).toNat) 2) (s.len - ((i : Int).toNat)) (s.cap - ((i : Int).toNat))) H3 (fun n1 H4 => Q (.slice ap1.a ap1.len ap1.cap) H4))))
 (((0 : Int) ≤ (w64 (((s.len : Nat) : Int) + ((v.len : Nat) : Int))) ∧ (w64 (((s.len : Nat) : Int) + ((v.len : Nat) : Int))) ≤ ((s.cap : Nat) : Int)) ∧ ((0 : Int) ≤ (w64 (i + ((v.len : Nat) : Int))) ∧ (w64 (i + ((v.len : Nat) : Int))) ≤ (((((w64 (((s.len : Nat) : Int) + ((v.len : Nat) : Int))) : Int).toNat) : Nat) : Int)) ∧ 
 ExtC Try.prog 53 [.slice v.a v.len v.cap, .slice (cutA (cutA s.a s.cap 0 2) s.cap (((w64 (i + ((v.len : Nat) : Int))) : Int).toNat) 2) ((((w64 (((s.len : Nat) : Int) + ((v.len : Nat) : Int))) : Int).toNat) - (((w64 (i + ((v.len : Nat) : Int))) : Int).toNat)) (s.cap - (((w64 (i + ((v.len : Nat) : Int))) : Int).toNat))] H (fun r H5 => ∃ x : Bool, r = .bool x ∧ 
 Br (!x) (((0 : Int) ≤ (w64 (i + ((v.len : Nat) : Int))) ∧ (w64 (i + ((v.len : Nat) : Int))) ≤ (((((w64 (((s.len : Nat) : Int) + ((v.len : Nat) : Int))) : Int).toNat) : Nat) : Int)) ∧ ((0 : Int) ≤ i ∧ i ≤ (((((w64 (((s.len : Nat) : Int) + ((v.len : Nat) : Int))) : Int).toNat) : Nat) : Int)) ∧ 
 vCopy Try.prog T_sl_sorted_item_string_string (cutA (cutA s.a s.cap 0 2) s.cap (((w64 (i + ((v.len : Nat) : Int))) : Int).toNat) 2) ((((w64 (((s.len : Nat) : Int) + ((v.len : Nat) : Int))) : Int).toNat) - (((w64 (i + ((v.len : Nat) : Int))) : Int).toNat)) (.slice (cutA (cutA s.a s.cap 0 2) s.cap ((i : Int).toNat) 2) ((((w64 (((s.len : Nat) : Int) + ((v.len : Nat) : Int))) : Int).toNat) - ((i : Int).toNat)) (s.cap - ((i : Int).toNat))) H5 (fun n2 H6 => ((0 : Int) ≤ i ∧ i ≤ (((((w64 (((s.len : Nat) : Int) + ((v.len : Nat) : Int))) : Int).toNat) : Nat) : Int)) ∧ 
 vCopy Try.prog T_sl_sorted_item_string_string (cutA (cutA s.a s.cap 0 2) s.cap ((i : Int).toNat) 2) ((((w64 (((s.len : Nat) : Int) + ((v.len : Nat) : Int))) : Int).toNat) - ((i : Int).toNat)) (.slice v.a v.len v.cap) H6 (fun n3 H7 => Q (.slice (cutA s.a s.cap 0 2) (((w64 (((s.len : Nat) : Int) + ((v.len : Nat) : Int))) : Int).toNat) s.cap) H7)))
 (((0 : Int) ≤ ((s.len : Nat) : Int) ∧ ((s.len : Nat) : Int) ≤ (((((w64 (((s.len : Nat) : Int) + ((v.len : Nat) : Int))) : Int).toNat) : Nat) : Int)) ∧ 
 vCopy Try.prog T_sl_sorted_item_string_string (cutA (cutA s.a s.cap 0 2) s.cap ((((s.len : Nat) : Int) : Int).toNat) 2) ((((w64 (((s.len : Nat) : Int) + ((v.len : Nat) : Int))) : Int).toNat) - ((((s.len : Nat) : Int) : Int).toNat)) (.slice v.a v.len v.cap) H5 (fun n4 H8 => ((0 : Int) ≤ i ∧ i ≤ (((((w64 (((s.len : Nat) : Int) + ((v.len : Nat) : Int))) : Int).toNat) : Nat) : Int)) ∧ 
 SCalls Try.prog slices_rotateRight_sorted_item_string_string.id [.slice (cutA (cutA s.a s.cap 0 2) s.cap ((i : Int).toNat) 2) ((((w64 (((s.len : Nat) : Int) + ((v.len : Nat) : Int))) : Int).toNat) - ((i : Int).toNat)) (s.cap - ((i : Int).toNat)), .int .i64 ((v.len : Nat) : Int)] H8 (fun r1 H9 => r1 = .tuple #[] ∧ Q (.slice (cutA s.a s.cap 0 2) (((w64 (((s.len : Nat) : Int) + ((v.len : Nat) : Int))) : Int).toNat) s.cap) H9)))))))
theorem slices_Insert_sl_sorted_item_string_string_sorted_item_string_string.eq (J : Jn) (s : Sl) (i : Int) (v : Sl) (H : Hp) (Q : Value → Hp → Prop) : vFn Try.prog slices_Insert_sl_sorted_item_string_string_sorted_item_string_string.cf J slices_Insert_sl_sorted_item_string_string_sorted_item_string_string.fn [.slice s.a s.len s.cap, .int .i64 i, .slice v.a v.len v.cap] H Q = slices_Insert_sl_sorted_item_string_string_sorted_item_string_string.vc J s i v H Q := by kernel_rfl
theorem slices_Insert_sl_sorted_item_string_string_sorted_item_string_string.calls {s : Sl} {i : Int} {v : Sl} {H : Hp} {Q : Value → Hp → Prop} (h : slices_Insert_sl_sorted_item_string_string_sorted_item_string_string.vc J0 s i v H Q) : SCalls Try.prog slices_Insert_sl_sorted_item_string_string_sorted_item_string_string.id [.slice s.a s.len s.cap, .int .i64 i, .slice v.a v.len v.cap] H Q := vFn_of Try.mixed Try.func35 (slices_Insert_sl_sorted_item_string_string_sorted_item_string_string.eq J0 s i v H Q) h

/-! 36: tephra/sorted.Merge_string,string_$1 -/
noncomputable def sorted_Merge_string_string_1.cf : Cfg := ⟨[10, 1000003], [(9, [3, 4, 7, 8]), (17, [3, 69, 70, 71]), (1000005, [4]), (1000009, [3, 4])], [(10, [3, 4, 7, 8], true), (11, [3, 4, 7, 8], true), (12, [3, 4, 7, 8], true), (13, [3, 4, 7, 8, 57], true)], [], true⟩
noncomputable def sorted_Merge_string_string_1.cfr : Cfg := { sorted_Merge_string_string_1.cf with rf := false }
noncomputable def sorted_Merge_string_string_1.r1.fr (b1 : Nat) : List AV := mkFr 83 [(4, .v (.pointer (some (Addr.mk b1 0 none))))]
noncomputable def sorted_Merge_string_string_1.r1.code : Code := sub (bodyOf sorted_Merge_string_string_1.fn) [1, 1, 0, 1, 0]
noncomputable def sorted_Merge_string_string_1.r1.rec (fn : FuncId) (tm : Array Value) (d : Nat) (st : LoopState) (pd : Option Code) : Obj := recO fn tm (rgP sorted_Merge_string_string_1.r1.code) (rgA sorted_Merge_string_string_1.r1.code) (rgB sorted_Merge_string_string_1.r1.code) d st pd
noncomputable def sorted_Merge_string_string_1.r2.fr (b : Nat) (b1 : Nat) : List AV := mkFr 83 [(3, .v (.pointer (some (Addr.mk b 0 none)))), (4, .v (.pointer (some (Addr.mk b1 0 none))))]
noncomputable def sorted_Merge_string_string_1.r2.code : Code := sub (bodyOf sorted_Merge_string_string_1.fn) [1, 1, 1, 0, 1, 0]
noncomputable def sorted_Merge_string_string_1.r2.rec (fn : FuncId) (tm : Array Value) (d : Nat) (st : LoopState) (pd : Option Code) : Obj := recO fn tm (rgP sorted_Merge_string_string_1.r2.code) (rgA sorted_Merge_string_string_1.r2.code) (rgB sorted_Merge_string_string_1.r2.code) d st pd
noncomputable def sorted_Merge_string_string_1.l1.st (b : Nat) (b1 : Nat) (k1 : ByteArray) (v1 : ByteArray) (H12 : Hp) : VS := ⟨mkFr 83 [(3, .v (.pointer (some (Addr.mk b 0 none)))), (4, .v (.pointer (some (Addr.mk b1 0 none)))), (7, .v (.string k1)), (8, .v (.string v1))], [], H12⟩
noncomputable def sorted_Merge_string_string_1.l1 (J : Jn) (b : Nat) (b1 : Nat) (l1 : Nat) (rc1 : LoopState → Option Code → Obj) (k1 : ByteArray) (v1 : ByteArray) (H12 : Hp) (Q : Value → Hp → Prop) : Prop := vAtC Try.prog sorted_Merge_string_string_1.cfr J (rgB sorted_Merge_string_string_1.r2.code) [0, 0, 0] [0] (roundK l1 rc1 Q) (sorted_Merge_string_string_1.l1.st b b1 k1 v1 H12)
noncomputable def sorted_Merge_string_string_1.k1.st (b : Nat) (b1 : Nat) (k1 : ByteArray) (v1 : ByteArray) (H12 : Hp) : VS := ⟨mkFr 83 [(3, .v (.pointer (some (Addr.mk b 0 none)))), (4, .v (.pointer (some (Addr.mk b1 0 none)))), (7, .v (.string k1)), (8, .v (.string v1))], [], H12⟩
noncomputable def sorted_Merge_string_string_1.k1 (J : Jn) (b : Nat) (b1 : Nat) (l1 : Nat) (rc1 : LoopState → Option Code → Obj) (k1 : ByteArray) (v1 : ByteArray) (H12 : Hp) (Q : Value → Hp → Prop) : Prop := J (vSegC Try.prog sorted_Merge_string_string_1.cfr J (rgB sorted_Merge_string_string_1.r2.code) [0, 0, 0, 0, 1] [0, 0, 0] (roundK l1 rc1 Q)) (sorted_Merge_string_string_1.k1.st b b1 k1 v1 H12)
noncomputable def sorted_Merge_string_string_1.k2.st (b : Nat) (b1 : Nat) (k1 : ByteArray) (v1 : ByteArray) (H13 : Hp) : VS := ⟨mkFr 83 [(3, .v (.pointer (some (Addr.mk b 0 none)))), (4, .v (.pointer (some (Addr.mk b1 0 none)))), (7, .v (.string k1)), (8, .v (.string v1))], [], H13⟩
noncomputable def sorted_Merge_string_string_1.k2 (J : Jn) (b : Nat) (b1 : Nat) (l1 : Nat) (rc1 : LoopState → Option Code → Obj) (k1 : ByteArray) (v1 : ByteArray) (H13 : Hp) (Q : Value → Hp → Prop) : Prop := J (vSegC Try.prog sorted_Merge_string_string_1.cfr J (rgB sorted_Merge_string_string_1.r2.code) [0, 0, 0, 0, 1, 0, 1] [0, 0, 0, 0] (roundK l1 rc1 Q)) (sorted_Merge_string_string_1.k2.st b b1 k1 v1 H13)
noncomputable def sorted_Merge_string_string_1.k3.st (b : Nat) (b1 : Nat) (k1 : ByteArray) (v1 : ByteArray) (H12 : Hp) : VS := ⟨mkFr 83 [(3, .v (.pointer (some (Addr.mk b 0 none)))), (4, .v (.pointer (some (Addr.mk b1 0 none)))), (7, .v (.string k1)), (8, .v (.string v1))], [], H12⟩
noncomputable def sorted_Merge_string_string_1.k3 (J : Jn) (b : Nat) (b1 : Nat) (l1 : Nat) (rc1 : LoopState → Option Code → Obj) (k1 : ByteArray) (v1 : ByteArray) (H12 : Hp) (Q : Value → Hp → Prop) : Prop := J (vSegC Try.prog sorted_Merge_string_string_1.cfr J (rgB sorted_Merge_string_string_1.r2.code) [0, 1] [0] (roundK l1 rc1 Q)) (sorted_Merge_string_string_1.k3.st b b1 k1 v1 H12)
noncomputable def sorted_Merge_string_string_1.k4.st (b : Nat) (b1 : Nat) (k1 : ByteArray) (v1 : ByteArray) (H12 : Hp) (x12 : Bool) : VS := ⟨mkFr 83 [(3, .v (.pointer (some (Addr.mk b 0 none)))), (4, .v (.pointer (some (Addr.mk b1 0 none)))), (7, .v (.string k1)), (8, .v (.string v1)), (57, .v (.bool x12))], [], H12⟩
noncomputable def sorted_Merge_string_string_1.k4 (J : Jn) (b : Nat) (b1 : Nat) (l1 : Nat) (rc1 : LoopState → Option Code → Obj) (k1 : ByteArray) (v1 : ByteArray) (H12 : Hp) (x12 : Bool) (Q : Value → Hp → Prop) : Prop := J (vSegC Try.prog sorted_Merge_string_string_1.cfr J (rgB sorted_Merge_string_string_1.r2.code) [0, 1, 0, 1] [0, 0, 0] (roundK l1 rc1 Q)) (sorted_Merge_string_string_1.k4.st b b1 k1 v1 H12 x12)
noncomputable def sorted_Merge_string_string_1.l2.st (b : Nat) (x19 : Sl) (H20 : Hp) (x20 : Int) : VS := ⟨mkFr 83 [(3, .v (.pointer (some (Addr.mk b 0 none)))), (69, .v (.slice x19.a x19.len x19.cap)), (70, .v (.int .i64 ((x19.len : Nat) : Int))), (71, .v (.int .i64 x20))], [], H20⟩
noncomputable def sorted_Merge_string_string_1.l2 (J : Jn) (b : Nat) (x19 : Sl) (H20 : Hp) (x20 : Int) (Q : Value → Hp → Prop) : Prop := vAt Try.prog sorted_Merge_string_string_1.cf J sorted_Merge_string_string_1.fn [1, 1, 1, 1, 1, 0] [0, 0, 0, 0, 0] Q (sorted_Merge_string_string_1.l2.st b x19 H20 x20)
attribute [irreducible] sorted_Merge_string_string_1.l1 sorted_Merge_string_string_1.k1 sorted_Merge_string_string_1.k2 sorted_Merge_string_string_1.k3 sorted_Merge_string_string_1.k4 sorted_Merge_string_string_1.l2
noncomputable def sorted_Merge_string_string_1.l1.body (J : Jn) (b : Nat) (b1 : Nat) (l1 : Nat) (rc1 : LoopState → Option Code → Obj) (k1 : ByteArray) (v1 : ByteArray) (H12 : Hp) (Q : Value → Hp → Prop) : Prop :=
 ∃ x3 : Sl, Hp.cell? H12 (Addr.mk b1 0 none) = some (.slice x3.a x3.len x3.cap) ∧ 
 Br (decide (((x3.len : Nat) : Int) > 0)) (∃ x4 : Sl, Hp.cell? H12 (Addr.mk b1 0 none) = some (.slice x4.a x4.len x4.cap) ∧ ((0 : Int) ≤ 0 ∧ (0 : Int) < ((x4.len : Nat) : Int)) ∧ vPtr x4.a (fun a => ∃ key : ByteArray, Hp.cell? H12 a = some (.string key) ∧ 
 Br (Op.bytesLess key.toList k1.toList) (
 sorted_Merge_string_string_1.k1 J b b1 l1 rc1 k1 v1 H12 Q)
 (
 sorted_Merge_string_string_1.k3 J b b1 l1 rc1 k1 v1 H12 Q)))
 (
 sorted_Merge_string_string_1.k3 J b b1 l1 rc1 k1 v1 H12 Q)
theorem sorted_Merge_string_string_1.l1.eq (J : Jn) (b : Nat) (b1 : Nat) (l1 : Nat) (rc1 : LoopState → Option Code → Obj) (k1 : ByteArray) (v1 : ByteArray) (H12 : Hp) (Q : Value → Hp → Prop) : vAtBodyC Try.prog sorted_Merge_string_string_1.cfr J (rgB sorted_Merge_string_string_1.r2.code) [0, 0, 0] [0] (roundK l1 rc1 Q) (sorted_Merge_string_string_1.l1.st b b1 k1 v1 H12) = sorted_Merge_string_string_1.l1.body J b b1 l1 rc1 k1 v1 H12 Q := by kernel_rfl
theorem sorted_Merge_string_string_1.l1.step {b : Nat} {b1 : Nat} {l1 : Nat} {rc1 : LoopState → Option Code → Obj} {k1 : ByteArray} {v1 : ByteArray} {H12 : Hp} {Q : Value → Hp → Prop} (h : sorted_Merge_string_string_1.l1.body J0 b b1 l1 rc1 k1 v1 H12 Q) : sorted_Merge_string_string_1.l1 J0 b b1 l1 rc1 k1 v1 H12 Q := vAtC_stepC (sorted_Merge_string_string_1.l1.st b b1 k1 v1 H12) (sorted_Merge_string_string_1.l1.eq J0 b b1 l1 rc1 k1 v1 H12 Q) (by kernel_rfl) h
noncomputable def sorted_Merge_string_string_1.k1.body (J : Jn) (b : Nat) (b1 : Nat) (l1 : Nat) (rc1 : LoopState → Option Code → Obj) (k1 : ByteArray) (v1 : ByteArray) (H12 : Hp) (Q : Value → Hp → Prop) : Prop :=
 ∃ x5 : Fv, Hp.cell? H12 (Addr.mk b 0 none) = some (.func x5.fn x5.fi x5.ca) ∧ ∃ x6 : Sl, Hp.cell? H12 (Addr.mk b1 0 none) = some (.slice x6.a x6.len x6.cap) ∧ ((0 : Int) ≤ 0 ∧ (0 : Int) < ((x6.len : Nat) : Int)) ∧ vPtr x6.a (fun a1 => ∃ key1 : ByteArray, Hp.cell? H12 a1 = some (.string key1) ∧ ∃ x7 : Sl, Hp.cell? H12 (Addr.mk b1 0 none) = some (.slice x7.a x7.len x7.cap) ∧ ((0 : Int) ≤ 0 ∧ (0 : Int) < ((x7.len : Nat) : Int)) ∧ vPtr x7.a (fun a2 => ∃ value : ByteArray, Hp.cell? H12 (a2.add 1) = some (.string value) ∧ 
 vInv Try.prog (.func x5.fn x5.fi x5.ca) [.string key1, .string value] H12 (fun r H13 => ∃ x8 : Bool, r = .bool x8 ∧ 
 Br (!x8) (
 ((∃ st : LoopState, ∃ pd : Option Code, H13[l1]? = some (rc1 st pd)) ∧ Q (.bool false) (Array.setIfInBounds H13 l1 (rc1 .done (some .ret)))))
 (
 sorted_Merge_string_string_1.k2 J b b1 l1 rc1 k1 v1 H13 Q))))
theorem sorted_Merge_string_string_1.k1.eq (J : Jn) (b : Nat) (b1 : Nat) (l1 : Nat) (rc1 : LoopState → Option Code → Obj) (k1 : ByteArray) (v1 : ByteArray) (H12 : Hp) (Q : Value → Hp → Prop) : vSegC Try.prog sorted_Merge_string_string_1.cfr J (rgB sorted_Merge_string_string_1.r2.code) [0, 0, 0, 0, 1] [0, 0, 0] (roundK l1 rc1 Q) (sorted_Merge_string_string_1.k1.st b b1 k1 v1 H12) = sorted_Merge_string_string_1.k1.body J b b1 l1 rc1 k1 v1 H12 Q := by kernel_rfl
theorem sorted_Merge_string_string_1.k1.step {b : Nat} {b1 : Nat} {l1 : Nat} {rc1 : LoopState → Option Code → Obj} {k1 : ByteArray} {v1 : ByteArray} {H12 : Hp} {Q : Value → Hp → Prop} (h : sorted_Merge_string_string_1.k1.body J0 b b1 l1 rc1 k1 v1 H12 Q) : sorted_Merge_string_string_1.k1 J0 b b1 l1 rc1 k1 v1 H12 Q := step_of (vSegC Try.prog sorted_Merge_string_string_1.cfr J0 (rgB sorted_Merge_string_string_1.r2.code) [0, 0, 0, 0, 1] [0, 0, 0] (roundK l1 rc1 Q)) (sorted_Merge_string_string_1.k1.st b b1 k1 v1 H12) (sorted_Merge_string_string_1.k1.eq J0 b b1 l1 rc1 k1 v1 H12 Q) (by kernel_rfl) h
noncomputable def sorted_Merge_string_string_1.k2.body (J : Jn) (b : Nat) (b1 : Nat) (l1 : Nat) (rc1 : LoopState → Option Code → Obj) (k1 : ByteArray) (v1 : ByteArray) (H13 : Hp) (Q : Value → Hp → Prop) : Prop :=
 ∃ x9 : Sl, Hp.cell? H13 (Addr.mk b1 0 none) = some (.slice x9.a x9.len x9.cap) ∧ ((0 : Int) ≤ 1 ∧ (1 : Int) ≤ ((x9.len : Nat) : Int)) ∧ WrAt H13 (Addr.mk b1 0 none) 1 ∧ ∀ H14 : Hp, H14 = (Hp.setCell H13 (Addr.mk b1 0 none) (.slice (cutA x9.a x9.cap 1 2) (x9.len - 1) (x9.cap - 1))) → 
 sorted_Merge_string_string_1.l1 J b b1 l1 rc1 k1 v1 H14 Q
theorem sorted_Merge_string_string_1.k2.eq (J : Jn) (b : Nat) (b1 : Nat) (l1 : Nat) (rc1 : LoopState → Option Code → Obj) (k1 : ByteArray) (v1 : ByteArray) (H13 : Hp) (Q : Value → Hp → Prop) : vSegC Try.prog sorted_Merge_string_string_1.cfr J (rgB sorted_Merge_string_string_1.r2.code) [0, 0, 0, 0, 1, 0, 1] [0, 0, 0, 0] (roundK l1 rc1 Q) (sorted_Merge_string_string_1.k2.st b b1 k1 v1 H13) = sorted_Merge_string_string_1.k2.body J b b1 l1 rc1 k1 v1 H13 Q := by kernel_rfl
theorem sorted_Merge_string_string_1.k2.step {b : Nat} {b1 : Nat} {l1 : Nat} {rc1 : LoopState → Option Code → Obj} {k1 : ByteArray} {v1 : ByteArray} {H13 : Hp} {Q : Value → Hp → Prop} (h : sorted_Merge_string_string_1.k2.body J0 b b1 l1 rc1 k1 v1 H13 Q) : sorted_Merge_string_string_1.k2 J0 b b1 l1 rc1 k1 v1 H13 Q := step_of (vSegC Try.prog sorted_Merge_string_string_1.cfr J0 (rgB sorted_Merge_string_string_1.r2.code) [0, 0, 0, 0, 1, 0, 1] [0, 0, 0, 0] (roundK l1 rc1 Q)) (sorted_Merge_string_string_1.k2.st b b1 k1 v1 H13) (sorted_Merge_string_string_1.k2.eq J0 b b1 l1 rc1 k1 v1 H13 Q) (by kernel_rfl) h
noncomputable def sorted_Merge_string_string_1.k3.body (J : Jn) (b : Nat) (b1 : Nat) (l1 : Nat) (rc1 : LoopState → Option Code → Obj) (k1 : ByteArray) (v1 : ByteArray) (H12 : Hp) (Q : Value → Hp → Prop) : Prop :=
 ∃ x10 : Sl, Hp.cell? H12 (Addr.mk b1 0 none) = some (.slice x10.a x10.len x10.cap) ∧ 
 Br (decide (((x10.len : Nat) : Int) > 0)) (∃ x11 : Sl, Hp.cell? H12 (Addr.mk b1 0 none) = some (.slice x11.a x11.len x11.cap) ∧ ((0 : Int) ≤ 0 ∧ (0 : Int) < ((x11.len : Nat) : Int)) ∧ vPtr x11.a (fun a3 => ∃ key2 : ByteArray, Hp.cell? H12 a3 = some (.string key2) ∧ 
 sorted_Merge_string_string_1.k4 J b b1 l1 rc1 k1 v1 H12 (key2.toList == k1.toList) Q))
 (
 sorted_Merge_string_string_1.k4 J b b1 l1 rc1 k1 v1 H12 false Q)
theorem sorted_Merge_string_string_1.k3.eq (J : Jn) (b : Nat) (b1 : Nat) (l1 : Nat) (rc1 : LoopState → Option Code → Obj) (k1 : ByteArray) (v1 : ByteArray) (H12 : Hp) (Q : Value → Hp → Prop) : vSegC Try.prog sorted_Merge_string_string_1.cfr J (rgB sorted_Merge_string_string_1.r2.code) [0, 1] [0] (roundK l1 rc1 Q) (sorted_Merge_string_string_1.k3.st b b1 k1 v1 H12) = sorted_Merge_string_string_1.k3.body J b b1 l1 rc1 k1 v1 H12 Q := by kernel_rfl
theorem sorted_Merge_string_string_1.k3.step {b : Nat} {b1 : Nat} {l1 : Nat} {rc1 : LoopState → Option Code → Obj} {k1 : ByteArray} {v1 : ByteArray} {H12 : Hp} {Q : Value → Hp → Prop} (h : sorted_Merge_string_string_1.k3.body J0 b b1 l1 rc1 k1 v1 H12 Q) : sorted_Merge_string_string_1.k3 J0 b b1 l1 rc1 k1 v1 H12 Q := step_of (vSegC Try.prog sorted_Merge_string_string_1.cfr J0 (rgB sorted_Merge_string_string_1.r2.code) [0, 1] [0] (roundK l1 rc1 Q)) (sorted_Merge_string_string_1.k3.st b b1 k1 v1 H12) (sorted_Merge_string_string_1.k3.eq J0 b b1 l1 rc1 k1 v1 H12 Q) (by kernel_rfl) h
noncomputable def sorted_Merge_string_string_1.k4.body (J : Jn) (b : Nat) (b1 : Nat) (l1 : Nat) (rc1 : LoopState → Option Code → Obj) (k1 : ByteArray) (v1 : ByteArray) (H12 : Hp) (x12 : Bool) (Q : Value → Hp → Prop) : Prop :=
 
 Br x12 (∃ x13 : Sl, Hp.cell? H12 (Addr.mk b1 0 none) = some (.slice x13.a x13.len x13.cap) ∧ ((0 : Int) ≤ 0 ∧ (0 : Int) < ((x13.len : Nat) : Int)) ∧ vPtr x13.a (fun a4 => ∃ value1 : ByteArray, Hp.cell? H12 (a4.add 1) = some (.string value1) ∧ ∃ x14 : Sl, Hp.cell? H12 (Addr.mk b1 0 none) = some (.slice x14.a x14.len x14.cap) ∧ ((0 : Int) ≤ 1 ∧ (1 : Int) ≤ ((x14.len : Nat) : Int)) ∧ WrAt H12 (Addr.mk b1 0 none) 1 ∧ ∀ H15 : Hp, H15 = (Hp.setCell H12 (Addr.mk b1 0 none) (.slice (cutA x14.a x14.cap 1 2) (x14.len - 1) (x14.cap - 1))) → ∃ x15 : Fv, Hp.cell? H15 (Addr.mk b 0 none) = some (.func x15.fn x15.fi x15.ca) ∧ 
 vInv Try.prog (.func x15.fn x15.fi x15.ca) [.string k1, .string value1] H15 (fun r1 H16 => ∃ x16 : Bool, r1 = .bool x16 ∧ 
 Br (!x16) (
 ((∃ st : LoopState, ∃ pd : Option Code, H16[l1]? = some (rc1 st pd)) ∧ Q (.bool false) (Array.setIfInBounds H16 l1 (rc1 .done (some .ret)))))
 (
 ((∃ st : LoopState, ∃ pd : Option Code, H16[l1]? = some (rc1 st pd)) ∧ Q (.bool true) (Array.setIfInBounds H16 l1 (rc1 .ready none)))))))
 (∃ x17 : Fv, Hp.cell? H12 (Addr.mk b 0 none) = some (.func x17.fn x17.fi x17.ca) ∧ 
 vInv Try.prog (.func x17.fn x17.fi x17.ca) [.string k1, .string v1] H12 (fun r2 H17 => ∃ x18 : Bool, r2 = .bool x18 ∧ 
 Br (!x18) (
 ((∃ st : LoopState, ∃ pd : Option Code, H17[l1]? = some (rc1 st pd)) ∧ Q (.bool false) (Array.setIfInBounds H17 l1 (rc1 .done (some .ret)))))
 (
 ((∃ st : LoopState, ∃ pd : Option Code, H17[l1]? = some (rc1 st pd)) ∧ Q (.bool true) (Array.setIfInBounds H17 l1 (rc1 .ready none))))))
theorem sorted_Merge_string_string_1.k4.eq (J : Jn) (b : Nat) (b1 : Nat) (l1 : Nat) (rc1 : LoopState → Option Code → Obj) (k1 : ByteArray) (v1 : ByteArray) (H12 : Hp) (x12 : Bool) (Q : Value → Hp → Prop) : vSegC Try.prog sorted_Merge_string_string_1.cfr J (rgB sorted_Merge_string_string_1.r2.code) [0, 1, 0, 1] [0, 0, 0] (roundK l1 rc1 Q) (sorted_Merge_string_string_1.k4.st b b1 k1 v1 H12 x12) = sorted_Merge_string_string_1.k4.body J b b1 l1 rc1 k1 v1 H12 x12 Q := by kernel_rfl
theorem sorted_Merge_string_string_1.k4.step {b : Nat} {b1 : Nat} {l1 : Nat} {rc1 : LoopState → Option Code → Obj} {k1 : ByteArray} {v1 : ByteArray} {H12 : Hp} {x12 : Bool} {Q : Value → Hp → Prop} (h : sorted_Merge_string_string_1.k4.body J0 b b1 l1 rc1 k1 v1 H12 x12 Q) : sorted_Merge_string_string_1.k4 J0 b b1 l1 rc1 k1 v1 H12 x12 Q := step_of (vSegC Try.prog sorted_Merge_string_string_1.cfr J0 (rgB sorted_Merge_string_string_1.r2.code) [0, 1, 0, 1] [0, 0, 0] (roundK l1 rc1 Q)) (sorted_Merge_string_string_1.k4.st b b1 k1 v1 H12 x12) (sorted_Merge_string_string_1.k4.eq J0 b b1 l1 rc1 k1 v1 H12 x12 Q) (by kernel_rfl) h
noncomputable def sorted_Merge_string_string_1.l2.body (J : Jn) (b : Nat) (x19 : Sl) (H20 : Hp) (x20 : Int) (Q : Value → Hp → Prop) : Prop :=
 
 Br (decide (x20 < ((x19.len : Nat) : Int))) (((0 : Int) ≤ x20 ∧ x20 < ((x19.len : Nat) : Int)) ∧ vPtr x19.a (fun a5 => ∃ key3 : ByteArray, ∃ value2 : ByteArray, RowAt H20 (a5.add ((x20 : Int).toNat * 2)) [.string key3, .string value2] ∧ ∀ H21 : Hp, H21 = (holes H20 1) → ∃ x21 : Fv, Hp.cell? H21 (Addr.mk b 0 none) = some (.func x21.fn x21.fi x21.ca) ∧ 
 vInv Try.prog (.func x21.fn x21.fi x21.ca) [.string key3, .string value2] H21 (fun r3 H22 => ∃ x22 : Bool, r3 = .bool x22 ∧ 
 Br (!x22) (Q (.tuple #[]) H22)
 (
 sorted_Merge_string_string_1.l2 J b x19 H22 (w64 (x20 + 1)) Q))))
 (Q (.tuple #[]) H20)
theorem sorted_Merge_string_string_1.l2.eq (J : Jn) (b : Nat) (x19 : Sl) (H20 : Hp) (x20 : Int) (Q : Value → Hp → Prop) : vAtBody Try.prog sorted_Merge_string_string_1.cf J sorted_Merge_string_string_1.fn [1, 1, 1, 1, 1, 0] [0, 0, 0, 0, 0] Q (sorted_Merge_string_string_1.l2.st b x19 H20 x20) = sorted_Merge_string_string_1.l2.body J b x19 H20 x20 Q := by kernel_rfl
theorem sorted_Merge_string_string_1.l2.step {b : Nat} {x19 : Sl} {H20 : Hp} {x20 : Int} {Q : Value → Hp → Prop} (h : sorted_Merge_string_string_1.l2.body J0 b x19 H20 x20 Q) : sorted_Merge_string_string_1.l2 J0 b x19 H20 x20 Q := vAt_stepC (sorted_Merge_string_string_1.l2.st b x19 H20 x20) (sorted_Merge_string_string_1.l2.eq J0 b x19 H20 x20 Q) (by kernel_rfl) h
noncomputable def sorted_Merge_string_string_1.r1.body (J : Jn) (b1 : Nat) (l : Nat) (rc : LoopState → Option Code → Obj) (k : ByteArray) (v : ByteArray) (H3 : Hp) (Q : Value → Hp → Prop) : Prop :=
 H3[l]? = some (rc .ready none) ∧ ∀ H4 : Hp, H4 = (Array.setIfInBounds H3 l (rc .busy none)) → ∃ x1 : Sl, Hp.cell? H4 (Addr.mk b1 0 none) = some (.slice x1.a x1.len x1.cap) ∧ ∀ b2 : Nat, b2 = Array.size H4 → ∀ H5 : Hp, H5 = (Array.push H4 (.cells #[.string k, .string v] T_sorted_item_string_string)) → 
 vApp Try.prog T_sl_sorted_item_string_string x1.a x1.len x1.cap (.slice (some (Addr.mk b2 0 none)) 1 1) H5 (fun ap H6 => WrAt H6 (Addr.mk b1 0 none) 1 ∧ ∀ H7 : Hp, H7 = (Hp.setCell H6 (Addr.mk b1 0 none) (.slice ap.a ap.len ap.cap)) → 
 ((∃ st : LoopState, ∃ pd : Option Code, H7[l]? = some (rc st pd)) ∧ Q (.bool true) (Array.setIfInBounds H7 l (rc .ready none))))
theorem sorted_Merge_string_string_1.r1.eq (J : Jn) (b1 : Nat) (l : Nat) (rc : LoopState → Option Code → Obj) (k : ByteArray) (v : ByteArray) (H3 : Hp) (Q : Value → Hp → Prop) : vRound Try.prog sorted_Merge_string_string_1.cfr J (rgA sorted_Merge_string_string_1.r1.code) (rgB sorted_Merge_string_string_1.r1.code) (setFr (sorted_Merge_string_string_1.r1.fr b1) (rgP sorted_Merge_string_string_1.r1.code).toList [.string k, .string v]) l rc H3 Q = sorted_Merge_string_string_1.r1.body J b1 l rc k v H3 Q := by kernel_rfl
theorem sorted_Merge_string_string_1.r1.calls {b1 : Nat} {l : Nat} {k : ByteArray} {v : ByteArray} {H3 : Hp} {fnA : FuncId} {tmA : Array Value} {dA : Nat} {Q : Value → Hp → Prop} (hl : H3[l]? = some (sorted_Merge_string_string_1.r1.rec fnA tmA dA .ready none)) (hT : TmOf (sorted_Merge_string_string_1.r1.fr b1) tmA) (h : sorted_Merge_string_string_1.r1.body J0 b1 l (sorted_Merge_string_string_1.r1.rec fnA tmA dA) k v H3 Q) : YCalls Try.prog l [.string k, .string v] H3 Q := vRound_calls (cf := sorted_Merge_string_string_1.cfr) (fn := fnA) (tm := tmA) (ps := rgP sorted_Merge_string_string_1.r1.code) (asg := rgA sorted_Merge_string_string_1.r1.code) (body := rgB sorted_Merge_string_string_1.r1.code) (d := dA) (fr := (sorted_Merge_string_string_1.r1.fr b1)) Try.mixed (by kernel_rfl) hl (by kernel_rfl) hT ((sorted_Merge_string_string_1.r1.eq J0 b1 l (sorted_Merge_string_string_1.r1.rec fnA tmA dA) k v H3 Q).mpr h)
noncomputable def sorted_Merge_string_string_1.r2.body (J : Jn) (b : Nat) (b1 : Nat) (l1 : Nat) (rc1 : LoopState → Option Code → Obj) (k1 : ByteArray) (v1 : ByteArray) (H10 : Hp) (Q : Value → Hp → Prop) : Prop :=
 H10[l1]? = some (rc1 .ready none) ∧ ∀ H11 : Hp, H11 = (Array.setIfInBounds H10 l1 (rc1 .busy none)) → 
 sorted_Merge_string_string_1.l1 J b b1 l1 rc1 k1 v1 H11 Q
theorem sorted_Merge_string_string_1.r2.eq (J : Jn) (b : Nat) (b1 : Nat) (l1 : Nat) (rc1 : LoopState → Option Code → Obj) (k1 : ByteArray) (v1 : ByteArray) (H10 : Hp) (Q : Value → Hp → Prop) : vRound Try.prog sorted_Merge_string_string_1.cfr J (rgA sorted_Merge_string_string_1.r2.code) (rgB sorted_Merge_string_string_1.r2.code) (setFr (sorted_Merge_string_string_1.r2.fr b b1) (rgP sorted_Merge_string_string_1.r2.code).toList [.string k1, .string v1]) l1 rc1 H10 Q = sorted_Merge_string_string_1.r2.body J b b1 l1 rc1 k1 v1 H10 Q := by kernel_rfl
theorem sorted_Merge_string_string_1.r2.calls {b : Nat} {b1 : Nat} {l1 : Nat} {k1 : ByteArray} {v1 : ByteArray} {H10 : Hp} {fnA : FuncId} {tmA : Array Value} {dA : Nat} {Q : Value → Hp → Prop} (hl : H10[l1]? = some (sorted_Merge_string_string_1.r2.rec fnA tmA dA .ready none)) (hT : TmOf (sorted_Merge_string_string_1.r2.fr b b1) tmA) (h : sorted_Merge_string_string_1.r2.body J0 b b1 l1 (sorted_Merge_string_string_1.r2.rec fnA tmA dA) k1 v1 H10 Q) : YCalls Try.prog l1 [.string k1, .string v1] H10 Q := vRound_calls (cf := sorted_Merge_string_string_1.cfr) (fn := fnA) (tm := tmA) (ps := rgP sorted_Merge_string_string_1.r2.code) (asg := rgA sorted_Merge_string_string_1.r2.code) (body := rgB sorted_Merge_string_string_1.r2.code) (d := dA) (fr := (sorted_Merge_string_string_1.r2.fr b b1)) Try.mixed (by kernel_rfl) hl (by kernel_rfl) hT ((sorted_Merge_string_string_1.r2.eq J0 b b1 l1 (sorted_Merge_string_string_1.r2.rec fnA tmA dA) k1 v1 H10 Q).mpr h)
attribute [irreducible] sorted_Merge_string_string_1.r1.rec sorted_Merge_string_string_1.r1.fr sorted_Merge_string_string_1.r1.code sorted_Merge_string_string_1.r2.rec sorted_Merge_string_string_1.r2.fr sorted_Merge_string_string_1.r2.code
noncomputable def sorted_Merge_string_string_1.vc (J : Jn) (yield : Fv) (cap0 : Addr) (cap1 : Addr) (H : Hp) (Q : Value → Hp → Prop) : Prop :=
 ∀ b : Nat, b = Array.size H → ∀ H1 : Hp, H1 = (Array.push H (.cells #[.func yield.fn yield.fi yield.ca] T_func_string_string_bool)) → ∀ b1 : Nat, b1 = Array.size H1 → ∀ H2 : Hp, H2 = (Array.push H1 (.cells #[.slice none 0 0] T_sl_sorted_item_string_string)) → ∃ x : Fv, Hp.cell? H2 cap0 = some (.func x.fn x.fi x.ca) ∧ 
 ∀ fn : FuncId, ∀ tm : Array Value, TmOf (sorted_Merge_string_string_1.r1.fr b1) tm → vRg Try.prog (.func x.fn x.fi x.ca) (Array.size H2 + 1) (Array.push (Array.push H2 hole) (sorted_Merge_string_string_1.r1.rec fn tm (Array.size H2) .ready none)) (fun H8 => ∃ st : LoopState, ∃ pd : Option Code, H8[(Array.size H2 + 1)]? = some (sorted_Merge_string_string_1.r1.rec fn tm (Array.size H2) st pd) ∧ st ≠ .busy ∧ ∀ H9 : Hp, H9 = (Array.setIfInBounds H8 (Array.size H2 + 1) (sorted_Merge_string_string_1.r1.rec fn tm (Array.size H2) .exhausted pd)) → ((pd = none → ∃ x2 : Fv, Hp.cell? H9 cap1 = some (.func x2.fn x2.fi x2.ca) ∧ 
 ∀ fn1 : FuncId, ∀ tm1 : Array Value, TmOf (sorted_Merge_string_string_1.r2.fr b b1) tm1 → vRg Try.prog (.func x2.fn x2.fi x2.ca) (Array.size H9 + 1) (Array.push (Array.push H9 hole) (sorted_Merge_string_string_1.r2.rec fn1 tm1 (Array.size H9) .ready none)) (fun H18 => ∃ st1 : LoopState, ∃ pd1 : Option Code, H18[(Array.size H9 + 1)]? = some (sorted_Merge_string_string_1.r2.rec fn1 tm1 (Array.size H9) st1 pd1) ∧ st1 ≠ .busy ∧ ∀ H19 : Hp, H19 = (Array.setIfInBounds H18 (Array.size H9 + 1) (sorted_Merge_string_string_1.r2.rec fn1 tm1 (Array.size H9) .exhausted pd1)) → ((pd1 = none → ∃ x19 : Sl, Hp.cell? H19 (Addr.mk b1 0 none) = some (.slice x19.a x19.len x19.cap) ∧ 
 sorted_Merge_string_string_1.l2 J b x19 H19 0 Q) ∧ (pd1 = some .ret → Q (.tuple #[]) H19) ∧ (True) ∧ (pd1 = none ∨ pd1 = some .ret ∨ ∃ i ∈ ([] : List Nat), pd1 = some (.exit i))))) ∧ (pd = some .ret → Q (.tuple #[]) H9) ∧ (True) ∧ (pd = none ∨ pd = some .ret ∨ ∃ i ∈ ([] : List Nat), pd = some (.exit i))))
theorem sorted_Merge_string_string_1.eq (J : Jn) (yield : Fv) (cap0 : Addr) (cap1 : Addr) (H : Hp) (Q : Value → Hp → Prop) : vFn Try.prog sorted_Merge_string_string_1.cf J sorted_Merge_string_string_1.fn [.func yield.fn yield.fi yield.ca, .pointer (some cap0), .pointer (some cap1)] H Q = sorted_Merge_string_string_1.vc J yield cap0 cap1 H Q := by kernel_rfl
theorem sorted_Merge_string_string_1.calls {yield : Fv} {cap0 : Addr} {cap1 : Addr} {H : Hp} {Q : Value → Hp → Prop} (h : sorted_Merge_string_string_1.vc J0 yield cap0 cap1 H Q) : SCalls Try.prog sorted_Merge_string_string_1.id [.func yield.fn yield.fi yield.ca, .pointer (some cap0), .pointer (some cap1)] H Q := vFn_of Try.mixed Try.func36 (sorted_Merge_string_string_1.eq J0 yield cap0 cap1 H Q) h

/-! 37: (*tephra/sorted.Map_string, string_).All$1 -/
noncomputable def sorted_Map_string_string_All_1.cf : Cfg := ⟨[4], [(1, [0, 8, 9, 10])], [], [], true⟩
noncomputable def sorted_Map_string_string_All_1.l1.st (yield : Fv) (items : Sl) (H1 : Hp) (x1 : Int) : VS := ⟨mkFr 22 [(0, .v (.func yield.fn yield.fi yield.ca)), (8, .v (.slice items.a items.len items.cap)), (9, .v (.int .i64 ((items.len : Nat) : Int))), (10, .v (.int .i64 x1))], [], H1⟩
noncomputable def sorted_Map_string_string_All_1.l1 (J : Jn) (yield : Fv) (items : Sl) (H1 : Hp) (x1 : Int) (Q : Value → Hp → Prop) : Prop := vAt Try.prog sorted_Map_string_string_All_1.cf J sorted_Map_string_string_All_1.fn [1, 0] [0] Q (sorted_Map_string_string_All_1.l1.st yield items H1 x1)
attribute [irreducible] sorted_Map_string_string_All_1.l1
noncomputable def sorted_Map_string_string_All_1.l1.body (J : Jn) (yield : Fv) (items : Sl) (H1 : Hp) (x1 : Int) (Q : Value → Hp → Prop) : Prop :=
 
 Br (decide (x1 < ((items.len : Nat) : Int))) (((0 : Int) ≤ x1 ∧ x1 < ((items.len : Nat) : Int)) ∧ vPtr items.a (fun a1 => ∃ key : ByteArray, ∃ value : ByteArray, RowAt H1 (a1.add ((x1 : Int).toNat * 2)) [.string key, .string value] ∧ 
 vInv Try.prog (.func yield.fn yield.fi yield.ca) [.string key, .string value] (holes H1 1) (fun r H2 => ∃ x2 : Bool, r = .bool x2 ∧ 
 Br (!x2) (Q (.tuple #[]) H2)
 (
 sorted_Map_string_string_All_1.l1 J yield items H2 (w64 (x1 + 1)) Q))))
 (Q (.tuple #[]) H1)
theorem sorted_Map_string_string_All_1.l1.eq (J : Jn) (yield : Fv) (items : Sl) (H1 : Hp) (x1 : Int) (Q : Value → Hp → Prop) : vAtBody Try.prog sorted_Map_string_string_All_1.cf J sorted_Map_string_string_All_1.fn [1, 0] [0] Q (sorted_Map_string_string_All_1.l1.st yield items H1 x1) = sorted_Map_string_string_All_1.l1.body J yield items H1 x1 Q := by kernel_rfl
theorem sorted_Map_string_string_All_1.l1.step {yield : Fv} {items : Sl} {H1 : Hp} {x1 : Int} {Q : Value → Hp → Prop} (h : sorted_Map_string_string_All_1.l1.body J0 yield items H1 x1 Q) : sorted_Map_string_string_All_1.l1 J0 yield items H1 x1 Q := vAt_stepC (sorted_Map_string_string_All_1.l1.st yield items H1 x1) (sorted_Map_string_string_All_1.l1.eq J0 yield items H1 x1 Q) (by kernel_rfl) h
noncomputable def sorted_Map_string_string_All_1.vc (J : Jn) (yield : Fv) (cap0 : Addr) (H : Hp) (Q : Value → Hp → Prop) : Prop :=
 ∃ x : Option Addr, Hp.cell? H cap0 = some (.pointer x) ∧ vPtr x (fun a => ∃ items : Sl, Hp.cell? H a = some (.slice items.a items.len items.cap) ∧ 
 sorted_Map_string_string_All_1.l1 J yield items H 0 Q)
theorem sorted_Map_string_string_All_1.eq (J : Jn) (yield : Fv) (cap0 : Addr) (H : Hp) (Q : Value → Hp → Prop) : vFn Try.prog sorted_Map_string_string_All_1.cf J sorted_Map_string_string_All_1.fn [.func yield.fn yield.fi yield.ca, .pointer (some cap0)] H Q = sorted_Map_string_string_All_1.vc J yield cap0 H Q := by kernel_rfl
theorem sorted_Map_string_string_All_1.calls {yield : Fv} {cap0 : Addr} {H : Hp} {Q : Value → Hp → Prop} (h : sorted_Map_string_string_All_1.vc J0 yield cap0 H Q) : SCalls Try.prog sorted_Map_string_string_All_1.id [.func yield.fn yield.fi yield.ca, .pointer (some cap0)] H Q := vFn_of Try.mixed Try.func37 (sorted_Map_string_string_All_1.eq J0 yield cap0 H Q) h

/-! 38: tephra/sorted.Merge_string,tephra/api.Pair_$1 -/
noncomputable def sorted_Merge_string_api_Pair_1.cf : Cfg := ⟨[6, 8, 10, 1000003], [(9, [3, 4, 7, 8]), (17, [3, 69, 70, 71]), (1000005, [4]), (1000009, [3, 4])], [(10, [3, 4, 7, 8], true), (11, [3, 4, 7, 8], true), (12, [3, 4, 7, 8], true), (13, [3, 4, 7, 8, 57], true)], [], true⟩
noncomputable def sorted_Merge_string_api_Pair_1.cfr : Cfg := { sorted_Merge_string_api_Pair_1.cf with rf := false }
noncomputable def sorted_Merge_string_api_Pair_1.r1.fr (b1 : Nat) : List AV := mkFr 83 [(4, .v (.pointer (some (Addr.mk b1 0 none))))]
noncomputable def sorted_Merge_string_api_Pair_1.r1.code : Code := sub (bodyOf sorted_Merge_string_api_Pair_1.fn) [1, 1, 0, 1, 0]
noncomputable def sorted_Merge_string_api_Pair_1.r1.rec (fn : FuncId) (tm : Array Value) (d : Nat) (st : LoopState) (pd : Option Code) : Obj := recO fn tm (rgP sorted_Merge_string_api_Pair_1.r1.code) (rgA sorted_Merge_string_api_Pair_1.r1.code) (rgB sorted_Merge_string_api_Pair_1.r1.code) d st pd
noncomputable def sorted_Merge_string_api_Pair_1.r2.fr (b : Nat) (b1 : Nat) : List AV := mkFr 83 [(3, .v (.pointer (some (Addr.mk b 0 none)))), (4, .v (.pointer (some (Addr.mk b1 0 none))))]
noncomputable def sorted_Merge_string_api_Pair_1.r2.code : Code := sub (bodyOf sorted_Merge_string_api_Pair_1.fn) [1, 1, 1, 0, 1, 0]
noncomputable def sorted_Merge_string_api_Pair_1.r2.rec (fn : FuncId) (tm : Array Value) (d : Nat) (st : LoopState) (pd : Option Code) : Obj := recO fn tm (rgP sorted_Merge_string_api_Pair_1.r2.code) (rgA sorted_Merge_string_api_Pair_1.r2.code) (rgB sorted_Merge_string_api_Pair_1.r2.code) d st pd
noncomputable def sorted_Merge_string_api_Pair_1.l1.st (b : Nat) (b1 : Nat) (k1 : ByteArray) (vKey1 : ByteArray) (vValue1 : ByteArray) (vGone1 : Bool) (H14 : Hp) : VS := ⟨mkFr 83 [(3, .v (.pointer (some (Addr.mk b 0 none)))), (4, .v (.pointer (some (Addr.mk b1 0 none)))), (7, .v (.string k1)), (8, .loc 0 0)], [(T_api_Pair, [.string vKey1, .string vValue1, .bool vGone1])], H14⟩
noncomputable def sorted_Merge_string_api_Pair_1.l1 (J : Jn) (b : Nat) (b1 : Nat) (l1 : Nat) (rc1 : LoopState → Option Code → Obj) (k1 : ByteArray) (vKey1 : ByteArray) (vValue1 : ByteArray) (vGone1 : Bool) (H14 : Hp) (Q : Value → Hp → Prop) : Prop := vAtC Try.prog sorted_Merge_string_api_Pair_1.cfr J (rgB sorted_Merge_string_api_Pair_1.r2.code) [0, 0, 0] [1] (roundK l1 rc1 Q) (sorted_Merge_string_api_Pair_1.l1.st b b1 k1 vKey1 vValue1 vGone1 H14)
noncomputable def sorted_Merge_string_api_Pair_1.k1.st (b : Nat) (b1 : Nat) (k1 : ByteArray) (vKey1 : ByteArray) (vValue1 : ByteArray) (vGone1 : Bool) (H14 : Hp) : VS := ⟨mkFr 83 [(3, .v (.pointer (some (Addr.mk b 0 none)))), (4, .v (.pointer (some (Addr.mk b1 0 none)))), (7, .v (.string k1)), (8, .loc 0 0)], [(T_api_Pair, [.string vKey1, .string vValue1, .bool vGone1])], H14⟩
noncomputable def sorted_Merge_string_api_Pair_1.k1 (J : Jn) (b : Nat) (b1 : Nat) (l1 : Nat) (rc1 : LoopState → Option Code → Obj) (k1 : ByteArray) (vKey1 : ByteArray) (vValue1 : ByteArray) (vGone1 : Bool) (H14 : Hp) (Q : Value → Hp → Prop) : Prop := J (vSegC Try.prog sorted_Merge_string_api_Pair_1.cfr J (rgB sorted_Merge_string_api_Pair_1.r2.code) [0, 0, 0, 0, 1] [1, 1, 1] (roundK l1 rc1 Q)) (sorted_Merge_string_api_Pair_1.k1.st b b1 k1 vKey1 vValue1 vGone1 H14)
noncomputable def sorted_Merge_string_api_Pair_1.k2.st (b : Nat) (b1 : Nat) (k1 : ByteArray) (vKey1 : ByteArray) (vValue1 : ByteArray) (vGone1 : Bool) (H15 : Hp) : VS := ⟨mkFr 83 [(3, .v (.pointer (some (Addr.mk b 0 none)))), (4, .v (.pointer (some (Addr.mk b1 0 none)))), (7, .v (.string k1)), (8, .loc 0 0)], [(T_api_Pair, [.string vKey1, .string vValue1, .bool vGone1])], H15⟩
noncomputable def sorted_Merge_string_api_Pair_1.k2 (J : Jn) (b : Nat) (b1 : Nat) (l1 : Nat) (rc1 : LoopState → Option Code → Obj) (k1 : ByteArray) (vKey1 : ByteArray) (vValue1 : ByteArray) (vGone1 : Bool) (H15 : Hp) (Q : Value → Hp → Prop) : Prop := J (vSegC Try.prog sorted_Merge_string_api_Pair_1.cfr J (rgB sorted_Merge_string_api_Pair_1.r2.code) [0, 0, 0, 0, 1, 0, 1] [1, 1, 1, 1] (roundK l1 rc1 Q)) (sorted_Merge_string_api_Pair_1.k2.st b b1 k1 vKey1 vValue1 vGone1 H15)
noncomputable def sorted_Merge_string_api_Pair_1.k3.st (b : Nat) (b1 : Nat) (k1 : ByteArray) (vKey1 : ByteArray) (vValue1 : ByteArray) (vGone1 : Bool) (H14 : Hp) : VS := ⟨mkFr 83 [(3, .v (.pointer (some (Addr.mk b 0 none)))), (4, .v (.pointer (some (Addr.mk b1 0 none)))), (7, .v (.string k1)), (8, .loc 0 0)], [(T_api_Pair, [.string vKey1, .string vValue1, .bool vGone1])], H14⟩
noncomputable def sorted_Merge_string_api_Pair_1.k3 (J : Jn) (b : Nat) (b1 : Nat) (l1 : Nat) (rc1 : LoopState → Option Code → Obj) (k1 : ByteArray) (vKey1 : ByteArray) (vValue1 : ByteArray) (vGone1 : Bool) (H14 : Hp) (Q : Value → Hp → Prop) : Prop := J (vSegC Try.prog sorted_Merge_string_api_Pair_1.cfr J (rgB sorted_Merge_string_api_Pair_1.r2.code) [0, 1] [1] (roundK l1 rc1 Q)) (sorted_Merge_string_api_Pair_1.k3.st b b1 k1 vKey1 vValue1 vGone1 H14)
noncomputable def sorted_Merge_string_api_Pair_1.k4.st (b : Nat) (b1 : Nat) (k1 : ByteArray) (vKey1 : ByteArray) (vValue1 : ByteArray) (vGone1 : Bool) (H14 : Hp) (x12 : Bool) : VS := ⟨mkFr 83 [(3, .v (.pointer (some (Addr.mk b 0 none)))), (4, .v (.pointer (some (Addr.mk b1 0 none)))), (7, .v (.string k1)), (8, .loc 0 0), (57, .v (.bool x12))], [(T_api_Pair, [.string vKey1, .string vValue1, .bool vGone1])], H14⟩
noncomputable def sorted_Merge_string_api_Pair_1.k4 (J : Jn) (b : Nat) (b1 : Nat) (l1 : Nat) (rc1 : LoopState → Option Code → Obj) (k1 : ByteArray) (vKey1 : ByteArray) (vValue1 : ByteArray) (vGone1 : Bool) (H14 : Hp) (x12 : Bool) (Q : Value → Hp → Prop) : Prop := J (vSegC Try.prog sorted_Merge_string_api_Pair_1.cfr J (rgB sorted_Merge_string_api_Pair_1.r2.code) [0, 1, 0, 1] [1, 1, 1] (roundK l1 rc1 Q)) (sorted_Merge_string_api_Pair_1.k4.st b b1 k1 vKey1 vValue1 vGone1 H14 x12)
noncomputable def sorted_Merge_string_api_Pair_1.l2.st (b : Nat) (x19 : Sl) (H22 : Hp) (x20 : Int) : VS := ⟨mkFr 83 [(3, .v (.pointer (some (Addr.mk b 0 none)))), (69, .v (.slice x19.a x19.len x19.cap)), (70, .v (.int .i64 ((x19.len : Nat) : Int))), (71, .v (.int .i64 x20))], [], H22⟩
noncomputable def sorted_Merge_string_api_Pair_1.l2 (J : Jn) (b : Nat) (x19 : Sl) (H22 : Hp) (x20 : Int) (Q : Value → Hp → Prop) : Prop := vAt Try.prog sorted_Merge_string_api_Pair_1.cf J sorted_Merge_string_api_Pair_1.fn [1, 1, 1, 1, 1, 0] [0, 0, 0, 0, 0] Q (sorted_Merge_string_api_Pair_1.l2.st b x19 H22 x20)
attribute [irreducible] sorted_Merge_string_api_Pair_1.l1 sorted_Merge_string_api_Pair_1.k1 sorted_Merge_string_api_Pair_1.k2 sorted_Merge_string_api_Pair_1.k3 sorted_Merge_string_api_Pair_1.k4 sorted_Merge_string_api_Pair_1.l2
noncomputable def sorted_Merge_string_api_Pair_1.l1.body (J : Jn) (b : Nat) (b1 : Nat) (l1 : Nat) (rc1 : LoopState → Option Code → Obj) (k1 : ByteArray) (vKey1 : ByteArray) (vValue1 : ByteArray) (vGone1 : Bool) (H14 : Hp) (Q : Value → Hp → Prop) : Prop :=
 ∃ x3 : Sl, Hp.cell? H14 (Addr.mk b1 0 none) = some (.slice x3.a x3.len x3.cap) ∧ 
 Br (decide (((x3.len : Nat) : Int) > 0)) (∃ x4 : Sl, Hp.cell? H14 (Addr.mk b1 0 none) = some (.slice x4.a x4.len x4.cap) ∧ ((0 : Int) ≤ 0 ∧ (0 : Int) < ((x4.len : Nat) : Int)) ∧ vPtr x4.a (fun a => ∃ key : ByteArray, Hp.cell? H14 a = some (.string key) ∧ 
 Br (Op.bytesLess key.toList k1.toList) (
 sorted_Merge_string_api_Pair_1.k1 J b b1 l1 rc1 k1 vKey1 vValue1 vGone1 H14 Q)
 (
 sorted_Merge_string_api_Pair_1.k3 J b b1 l1 rc1 k1 vKey1 vValue1 vGone1 H14 Q)))
 (
 sorted_Merge_string_api_Pair_1.k3 J b b1 l1 rc1 k1 vKey1 vValue1 vGone1 H14 Q)
theorem sorted_Merge_string_api_Pair_1.l1.eq (J : Jn) (b : Nat) (b1 : Nat) (l1 : Nat) (rc1 : LoopState → Option Code → Obj) (k1 : ByteArray) (vKey1 : ByteArray) (vValue1 : ByteArray) (vGone1 : Bool) (H14 : Hp) (Q : Value → Hp → Prop) : vAtBodyC Try.prog sorted_Merge_string_api_Pair_1.cfr J (rgB sorted_Merge_string_api_Pair_1.r2.code) [0, 0, 0] [1] (roundK l1 rc1 Q) (sorted_Merge_string_api_Pair_1.l1.st b b1 k1 vKey1 vValue1 vGone1 H14) = sorted_Merge_string_api_Pair_1.l1.body J b b1 l1 rc1 k1 vKey1 vValue1 vGone1 H14 Q := by kernel_rfl
theorem sorted_Merge_string_api_Pair_1.l1.step {b : Nat} {b1 : Nat} {l1 : Nat} {rc1 : LoopState → Option Code → Obj} {k1 : ByteArray} {vKey1 : ByteArray} {vValue1 : ByteArray} {vGone1 : Bool} {H14 : Hp} {Q : Value → Hp → Prop} (h : sorted_Merge_string_api_Pair_1.l1.body J0 b b1 l1 rc1 k1 vKey1 vValue1 vGone1 H14 Q) : sorted_Merge_string_api_Pair_1.l1 J0 b b1 l1 rc1 k1 vKey1 vValue1 vGone1 H14 Q := vAtC_stepC (sorted_Merge_string_api_Pair_1.l1.st b b1 k1 vKey1 vValue1 vGone1 H14) (sorted_Merge_string_api_Pair_1.l1.eq J0 b b1 l1 rc1 k1 vKey1 vValue1 vGone1 H14 Q) (by kernel_rfl) h
noncomputable def sorted_Merge_string_api_Pair_1.k1.body (J : Jn) (b : Nat) (b1 : Nat) (l1 : Nat) (rc1 : LoopState → Option Code → Obj) (k1 : ByteArray) (vKey1 : ByteArray) (vValue1 : ByteArray) (vGone1 : Bool) (H14 : Hp) (Q : Value → Hp → Prop) : Prop :=
 ∃ x5 : Fv, Hp.cell? H14 (Addr.mk b 0 none) = some (.func x5.fn x5.fi x5.ca) ∧ ∃ x6 : Sl, Hp.cell? H14 (Addr.mk b1 0 none) = some (.slice x6.a x6.len x6.cap) ∧ ((0 : Int) ≤ 0 ∧ (0 : Int) < ((x6.len : Nat) : Int)) ∧ vPtr x6.a (fun a1 => ∃ key1 : ByteArray, Hp.cell? H14 a1 = some (.string key1) ∧ ∃ x7 : Sl, Hp.cell? H14 (Addr.mk b1 0 none) = some (.slice x7.a x7.len x7.cap) ∧ ((0 : Int) ≤ 0 ∧ (0 : Int) < ((x7.len : Nat) : Int)) ∧ vPtr x7.a (fun a2 => ∃ Key : ByteArray, ∃ Valuev : ByteArray, ∃ Gone : Bool, RowAt H14 (a2.add 1) [.string Key, .string Valuev, .bool Gone] ∧ 
 vInv Try.prog (.func x5.fn x5.fi x5.ca) [.string key1, .agg #[.string Key, .string Valuev, .bool Gone]] H14 (fun r H15 => ∃ x8 : Bool, r = .bool x8 ∧ 
 Br (!x8) (
 ((∃ st : LoopState, ∃ pd : Option Code, H15[l1]? = some (rc1 st pd)) ∧ Q (.bool false) (Array.setIfInBounds H15 l1 (rc1 .done (some .ret)))))
 (
 sorted_Merge_string_api_Pair_1.k2 J b b1 l1 rc1 k1 vKey1 vValue1 vGone1 H15 Q))))
theorem sorted_Merge_string_api_Pair_1.k1.eq (J : Jn) (b : Nat) (b1 : Nat) (l1 : Nat) (rc1 : LoopState → Option Code → Obj) (k1 : ByteArray) (vKey1 : ByteArray) (vValue1 : ByteArray) (vGone1 : Bool) (H14 : Hp) (Q : Value → Hp → Prop) : vSegC Try.prog sorted_Merge_string_api_Pair_1.cfr J (rgB sorted_Merge_string_api_Pair_1.r2.code) [0, 0, 0, 0, 1] [1, 1, 1] (roundK l1 rc1 Q) (sorted_Merge_string_api_Pair_1.k1.st b b1 k1 vKey1 vValue1 vGone1 H14) = sorted_Merge_string_api_Pair_1.k1.body J b b1 l1 rc1 k1 vKey1 vValue1 vGone1 H14 Q := by kernel_rfl
theorem sorted_Merge_string_api_Pair_1.k1.step {b : Nat} {b1 : Nat} {l1 : Nat} {rc1 : LoopState → Option Code → Obj} {k1 : ByteArray} {vKey1 : ByteArray} {vValue1 : ByteArray} {vGone1 : Bool} {H14 : Hp} {Q : Value → Hp → Prop} (h : sorted_Merge_string_api_Pair_1.k1.body J0 b b1 l1 rc1 k1 vKey1 vValue1 vGone1 H14 Q) : sorted_Merge_string_api_Pair_1.k1 J0 b b1 l1 rc1 k1 vKey1 vValue1 vGone1 H14 Q := step_of (vSegC Try.prog sorted_Merge_string_api_Pair_1.cfr J0 (rgB sorted_Merge_string_api_Pair_1.r2.code) [0, 0, 0, 0, 1] [1, 1, 1] (roundK l1 rc1 Q)) (sorted_Merge_string_api_Pair_1.k1.st b b1 k1 vKey1 vValue1 vGone1 H14) (sorted_Merge_string_api_Pair_1.k1.eq J0 b b1 l1 rc1 k1 vKey1 vValue1 vGone1 H14 Q) (by kernel_rfl) h
noncomputable def sorted_Merge_string_api_Pair_1.k2.body (J : Jn) (b : Nat) (b1 : Nat) (l1 : Nat) (rc1 : LoopState → Option Code → Obj) (k1 : ByteArray) (vKey1 : ByteArray) (vValue1 : ByteArray) (vGone1 : Bool) (H15 : Hp) (Q : Value → Hp → Prop) : Prop :=
 ∃ x9 : Sl, Hp.cell? H15 (Addr.mk b1 0 none) = some (.slice x9.a x9.len x9.cap) ∧ ((0 : Int) ≤ 1 ∧ (1 : Int) ≤ ((x9.len : Nat) : Int)) ∧ WrAt H15 (Addr.mk b1 0 none) 1 ∧ ∀ H16 : Hp, H16 = (Hp.setCell H15 (Addr.mk b1 0 none) (.slice (cutA x9.a x9.cap 1 4) (x9.len - 1) (x9.cap - 1))) → 
 sorted_Merge_string_api_Pair_1.l1 J b b1 l1 rc1 k1 vKey1 vValue1 vGone1 H16 Q
theorem sorted_Merge_string_api_Pair_1.k2.eq (J : Jn) (b : Nat) (b1 : Nat) (l1 : Nat) (rc1 : LoopState → Option Code → Obj) (k1 : ByteArray) (vKey1 : ByteArray) (vValue1 : ByteArray) (vGone1 : Bool) (H15 : Hp) (Q : Value → Hp → Prop) : vSegC Try.prog sorted_Merge_string_api_Pair_1.cfr J (rgB sorted_Merge_string_api_Pair_1.r2.code) [0, 0, 0, 0, 1, 0, 1] [1, 1, 1, 1] (roundK l1 rc1 Q) (sorted_Merge_string_api_Pair_1.k2.st b b1 k1 vKey1 vValue1 vGone1 H15) = sorted_Merge_string_api_Pair_1.k2.body J b b1 l1 rc1 k1 vKey1 vValue1 vGone1 H15 Q := by kernel_rfl
theorem sorted_Merge_string_api_Pair_1.k2.step {b : Nat} {b1 : Nat} {l1 : Nat} {rc1 : LoopState → Option Code → Obj} {k1 : ByteArray} {vKey1 : ByteArray} {vValue1 : ByteArray} {vGone1 : Bool} {H15 : Hp} {Q : Value → Hp → Prop} (h : sorted_Merge_string_api_Pair_1.k2.body J0 b b1 l1 rc1 k1 vKey1 vValue1 vGone1 H15 Q) : sorted_Merge_string_api_Pair_1.k2 J0 b b1 l1 rc1 k1 vKey1 vValue1 vGone1 H15 Q := step_of (vSegC Try.prog sorted_Merge_string_api_Pair_1.cfr J0 (rgB sorted_Merge_string_api_Pair_1.r2.code) [0, 0, 0, 0, 1, 0, 1] [1, 1, 1, 1] (roundK l1 rc1 Q)) (sorted_Merge_string_api_Pair_1.k2.st b b1 k1 vKey1 vValue1 vGone1 H15) (sorted_Merge_string_api_Pair_1.k2.eq J0 b b1 l1 rc1 k1 vKey1 vValue1 vGone1 H15 Q) (by kernel_rfl) h
noncomputable def sorted_Merge_string_api_Pair_1.k3.body (J : Jn) (b : Nat) (b1 : Nat) (l1 : Nat) (rc1 : LoopState → Option Code → Obj) (k1 : ByteArray) (vKey1 : ByteArray) (vValue1 : ByteArray) (vGone1 : Bool) (H14 : Hp) (Q : Value → Hp → Prop) : Prop :=
 ∃ x10 : Sl, Hp.cell? H14 (Addr.mk b1 0 none) = some (.slice x10.a x10.len x10.cap) ∧ 
 Br (decide (((x10.len : Nat) : Int) > 0)) (∃ x11 : Sl, Hp.cell? H14 (Addr.mk b1 0 none) = some (.slice x11.a x11.len x11.cap) ∧ ((0 : Int) ≤ 0 ∧ (0 : Int) < ((x11.len : Nat) : Int)) ∧ vPtr x11.a (fun a3 => ∃ key2 : ByteArray, Hp.cell? H14 a3 = some (.string key2) ∧ 
 sorted_Merge_string_api_Pair_1.k4 J b b1 l1 rc1 k1 vKey1 vValue1 vGone1 H14 (key2.toList == k1.toList) Q))
 (
 sorted_Merge_string_api_Pair_1.k4 J b b1 l1 rc1 k1 vKey1 vValue1 vGone1 H14 false Q)
theorem sorted_Merge_string_api_Pair_1.k3.eq (J : Jn) (b : Nat) (b1 : Nat) (l1 : Nat) (rc1 : LoopState → Option Code → Obj) (k1 : ByteArray) (vKey1 : ByteArray) (vValue1 : ByteArray) (vGone1 : Bool) (H14 : Hp) (Q : Value → Hp → Prop) : vSegC Try.prog sorted_Merge_string_api_Pair_1.cfr J (rgB sorted_Merge_string_api_Pair_1.r2.code) [0, 1] [1] (roundK l1 rc1 Q) (sorted_Merge_string_api_Pair_1.k3.st b b1 k1 vKey1 vValue1 vGone1 H14) = sorted_Merge_string_api_Pair_1.k3.body J b b1 l1 rc1 k1 vKey1 vValue1 vGone1 H14 Q := by kernel_rfl
theorem sorted_Merge_string_api_Pair_1.k3.step {b : Nat} {b1 : Nat} {l1 : Nat} {rc1 : LoopState → Option Code → Obj} {k1 : ByteArray} {vKey1 : ByteArray} {vValue1 : ByteArray} {vGone1 : Bool} {H14 : Hp} {Q : Value → Hp → Prop} (h : sorted_Merge_string_api_Pair_1.k3.body J0 b b1 l1 rc1 k1 vKey1 vValue1 vGone1 H14 Q) : sorted_Merge_string_api_Pair_1.k3 J0 b b1 l1 rc1 k1 vKey1 vValue1 vGone1 H14 Q := step_of (vSegC Try.prog sorted_Merge_string_api_Pair_1.cfr J0 (rgB sorted_Merge_string_api_Pair_1.r2.code) [0, 1] [1] (roundK l1 rc1 Q)) (sorted_Merge_string_api_Pair_1.k3.st b b1 k1 vKey1 vValue1 vGone1 H14) (sorted_Merge_string_api_Pair_1.k3.eq J0 b b1 l1 rc1 k1 vKey1 vValue1 vGone1 H14 Q) (by kernel_rfl) h
noncomputable def sorted_Merge_string_api_Pair_1.k4.body (J : Jn) (b : Nat) (b1 : Nat) (l1 : Nat) (rc1 : LoopState → Option Code → Obj) (k1 : ByteArray) (vKey1 : ByteArray) (vValue1 : ByteArray) (vGone1 : Bool) (H14 : Hp) (x12 : Bool) (Q : Value → Hp → Prop) : Prop :=
 
 Br x12 (∃ x13 : Sl, Hp.cell? H14 (Addr.mk b1 0 none) = some (.slice x13.a x13.len x13.cap) ∧ ((0 : Int) ≤ 0 ∧ (0 : Int) < ((x13.len : Nat) : Int)) ∧ vPtr x13.a (fun a4 => ∃ Key1 : ByteArray, ∃ Valuev1 : ByteArray, ∃ Gone1 : Bool, RowAt H14 (a4.add 1) [.string Key1, .string Valuev1, .bool Gone1] ∧ ∃ x14 : Sl, Hp.cell? H14 (Addr.mk b1 0 none) = some (.slice x14.a x14.len x14.cap) ∧ ((0 : Int) ≤ 1 ∧ (1 : Int) ≤ ((x14.len : Nat) : Int)) ∧ WrAt H14 (Addr.mk b1 0 none) 1 ∧ ∀ H17 : Hp, H17 = (Hp.setCell H14 (Addr.mk b1 0 none) (.slice (cutA x14.a x14.cap 1 4) (x14.len - 1) (x14.cap - 1))) → ∃ x15 : Fv, Hp.cell? H17 (Addr.mk b 0 none) = some (.func x15.fn x15.fi x15.ca) ∧ 
 vInv Try.prog (.func x15.fn x15.fi x15.ca) [.string k1, .agg #[.string Key1, .string Valuev1, .bool Gone1]] H17 (fun r1 H18 => ∃ x16 : Bool, r1 = .bool x16 ∧ 
 Br (!x16) (
 ((∃ st : LoopState, ∃ pd : Option Code, H18[l1]? = some (rc1 st pd)) ∧ Q (.bool false) (Array.setIfInBounds H18 l1 (rc1 .done (some .ret)))))
 (
 ((∃ st : LoopState, ∃ pd : Option Code, H18[l1]? = some (rc1 st pd)) ∧ Q (.bool true) (Array.setIfInBounds H18 l1 (rc1 .ready none)))))))
 (∃ x17 : Fv, Hp.cell? H14 (Addr.mk b 0 none) = some (.func x17.fn x17.fi x17.ca) ∧ 
 vInv Try.prog (.func x17.fn x17.fi x17.ca) [.string k1, .agg #[.string vKey1, .string vValue1, .bool vGone1]] H14 (fun r2 H19 => ∃ x18 : Bool, r2 = .bool x18 ∧ 
 Br (!x18) (
 ((∃ st : LoopState, ∃ pd : Option Code, H19[l1]? = some (rc1 st pd)) ∧ Q (.bool false) (Array.setIfInBounds H19 l1 (rc1 .done (some .ret)))))
 (
 ((∃ st : LoopState, ∃ pd : Option Code, H19[l1]? = some (rc1 st pd)) ∧ Q (.bool true) (Array.setIfInBounds H19 l1 (rc1 .ready none))))))
theorem sorted_Merge_string_api_Pair_1.k4.eq (J : Jn) (b : Nat) (b1 : Nat) (l1 : Nat) (rc1 : LoopState → Option Code → Obj) (k1 : ByteArray) (vKey1 : ByteArray) (vValue1 : ByteArray) (vGone1 : Bool) (H14 : Hp) (x12 : Bool) (Q : Value → Hp → Prop) : vSegC Try.prog sorted_Merge_string_api_Pair_1.cfr J (rgB sorted_Merge_string_api_Pair_1.r2.code) [0, 1, 0, 1] [1, 1, 1] (roundK l1 rc1 Q) (sorted_Merge_string_api_Pair_1.k4.st b b1 k1 vKey1 vValue1 vGone1 H14 x12) = sorted_Merge_string_api_Pair_1.k4.body J b b1 l1 rc1 k1 vKey1 vValue1 vGone1 H14 x12 Q := by kernel_rfl
theorem sorted_Merge_string_api_Pair_1.k4.step {b : Nat} {b1 : Nat} {l1 : Nat} {rc1 : LoopState → Option Code → Obj} {k1 : ByteArray} {vKey1 : ByteArray} {vValue1 : ByteArray} {vGone1 : Bool} {H14 : Hp} {x12 : Bool} {Q : Value → Hp → Prop} (h : sorted_Merge_string_api_Pair_1.k4.body J0 b b1 l1 rc1 k1 vKey1 vValue1 vGone1 H14 x12 Q) : sorted_Merge_string_api_Pair_1.k4 J0 b b1 l1 rc1 k1 vKey1 vValue1 vGone1 H14 x12 Q := step_of (vSegC Try.prog sorted_Merge_string_api_Pair_1.cfr J0 (rgB sorted_Merge_string_api_Pair_1.r2.code) [0, 1, 0, 1] [1, 1, 1] (roundK l1 rc1 Q)) (sorted_Merge_string_api_Pair_1.k4.st b b1 k1 vKey1 vValue1 vGone1 H14 x12) (sorted_Merge_string_api_Pair_1.k4.eq J0 b b1 l1 rc1 k1 vKey1 vValue1 vGone1 H14 x12 Q) (by kernel_rfl) h
noncomputable def sorted_Merge_string_api_Pair_1.l2.body (J : Jn) (b : Nat) (x19 : Sl) (H22 : Hp) (x20 : Int) (Q : Value → Hp → Prop) : Prop :=
 
 Br (decide (x20 < ((x19.len : Nat) : Int))) (((0 : Int) ≤ x20 ∧ x20 < ((x19.len : Nat) : Int)) ∧ vPtr x19.a (fun a5 => ∃ key3 : ByteArray, ∃ valueKey : ByteArray, ∃ valueValue : ByteArray, ∃ valueGone : Bool, RowAt H22 (a5.add ((x20 : Int).toNat * 4)) [.string key3, .string valueKey, .string valueValue, .bool valueGone] ∧ ∀ H23 : Hp, H23 = (holes H22 1) → ∃ x21 : Fv, Hp.cell? H23 (Addr.mk b 0 none) = some (.func x21.fn x21.fi x21.ca) ∧ 
 vInv Try.prog (.func x21.fn x21.fi x21.ca) [.string key3, .agg #[.string valueKey, .string valueValue, .bool valueGone]] H23 (fun r3 H24 => ∃ x22 : Bool, r3 = .bool x22 ∧ 
 Br (!x22) (Q (.tuple #[]) H24)
 (
 sorted_Merge_string_api_Pair_1.l2 J b x19 H24 (w64 (x20 + 1)) Q))))
 (Q (.tuple #[]) H22)
theorem sorted_Merge_string_api_Pair_1.l2.eq (J : Jn) (b : Nat) (x19 : Sl) (H22 : Hp) (x20 : Int) (Q : Value → Hp → Prop) : vAtBody Try.prog sorted_Merge_string_api_Pair_1.cf J sorted_Merge_string_api_Pair_1.fn [1, 1, 1, 1, 1, 0] [0, 0, 0, 0, 0] Q (sorted_Merge_string_api_Pair_1.l2.st b x19 H22 x20) = sorted_Merge_string_api_Pair_1.l2.body J b x19 H22 x20 Q := by kernel_rfl
theorem sorted_Merge_string_api_Pair_1.l2.step {b : Nat} {x19 : Sl} {H22 : Hp} {x20 : Int} {Q : Value → Hp → Prop} (h : sorted_Merge_string_api_Pair_1.l2.body J0 b x19 H22 x20 Q) : sorted_Merge_string_api_Pair_1.l2 J0 b x19 H22 x20 Q := vAt_stepC (sorted_Merge_string_api_Pair_1.l2.st b x19 H22 x20) (sorted_Merge_string_api_Pair_1.l2.eq J0 b x19 H22 x20 Q) (by kernel_rfl) h
noncomputable def sorted_Merge_string_api_Pair_1.r1.body (J : Jn) (b1 : Nat) (l : Nat) (rc : LoopState → Option Code → Obj) (k : ByteArray) (vKey : ByteArray) (vValue : ByteArray) (vGone : Bool) (H3 : Hp) (Q : Value → Hp → Prop) : Prop :=
 ∀ H4 : Hp, H4 = (holes H3 1) → H4[l]? = some (rc .ready none) ∧ ∀ H5 : Hp, H5 = (Array.setIfInBounds H4 l (rc .busy none)) → ∃ x1 : Sl, Hp.cell? H5 (Addr.mk b1 0 none) = some (.slice x1.a x1.len x1.cap) ∧ ∀ b2 : Nat, b2 = Array.size H5 → ∀ H6 : Hp, H6 = (Array.push H5 (.cells #[.string k, .string vKey, .string vValue, .bool vGone] T_sorted_item_string_api_Pair)) → 
 vApp Try.prog T_sl_sorted_item_string_api_Pair x1.a x1.len x1.cap (.slice (some (Addr.mk b2 0 none)) 1 1) H6 (fun ap H7 => WrAt H7 (Addr.mk b1 0 none) 1 ∧ ∀ H8 : Hp, H8 = (Hp.setCell H7 (Addr.mk b1 0 none) (.slice ap.a ap.len ap.cap)) → 
 ((∃ st : LoopState, ∃ pd : Option Code, H8[l]? = some (rc st pd)) ∧ Q (.bool true) (Array.setIfInBounds H8 l (rc .ready none))))
theorem sorted_Merge_string_api_Pair_1.r1.eq (J : Jn) (b1 : Nat) (l : Nat) (rc : LoopState → Option Code → Obj) (k : ByteArray) (vKey : ByteArray) (vValue : ByteArray) (vGone : Bool) (H3 : Hp) (Q : Value → Hp → Prop) : vRound Try.prog sorted_Merge_string_api_Pair_1.cfr J (rgA sorted_Merge_string_api_Pair_1.r1.code) (rgB sorted_Merge_string_api_Pair_1.r1.code) (setFr (sorted_Merge_string_api_Pair_1.r1.fr b1) (rgP sorted_Merge_string_api_Pair_1.r1.code).toList [.string k, .agg #[.string vKey, .string vValue, .bool vGone]]) l rc H3 Q = sorted_Merge_string_api_Pair_1.r1.body J b1 l rc k vKey vValue vGone H3 Q := by kernel_rfl
theorem sorted_Merge_string_api_Pair_1.r1.calls {b1 : Nat} {l : Nat} {k : ByteArray} {vKey : ByteArray} {vValue : ByteArray} {vGone : Bool} {H3 : Hp} {fnA : FuncId} {tmA : Array Value} {dA : Nat} {Q : Value → Hp → Prop} (hl : H3[l]? = some (sorted_Merge_string_api_Pair_1.r1.rec fnA tmA dA .ready none)) (hT : TmOf (sorted_Merge_string_api_Pair_1.r1.fr b1) tmA) (h : sorted_Merge_string_api_Pair_1.r1.body J0 b1 l (sorted_Merge_string_api_Pair_1.r1.rec fnA tmA dA) k vKey vValue vGone H3 Q) : YCalls Try.prog l [.string k, .agg #[.string vKey, .string vValue, .bool vGone]] H3 Q := vRound_calls (cf := sorted_Merge_string_api_Pair_1.cfr) (fn := fnA) (tm := tmA) (ps := rgP sorted_Merge_string_api_Pair_1.r1.code) (asg := rgA sorted_Merge_string_api_Pair_1.r1.code) (body := rgB sorted_Merge_string_api_Pair_1.r1.code) (d := dA) (fr := (sorted_Merge_string_api_Pair_1.r1.fr b1)) Try.mixed (by kernel_rfl) hl (by kernel_rfl) hT ((sorted_Merge_string_api_Pair_1.r1.eq J0 b1 l (sorted_Merge_string_api_Pair_1.r1.rec fnA tmA dA) k vKey vValue vGone H3 Q).mpr h)
noncomputable def sorted_Merge_string_api_Pair_1.r2.body (J : Jn) (b : Nat) (b1 : Nat) (l1 : Nat) (rc1 : LoopState → Option Code → Obj) (k1 : ByteArray) (vKey1 : ByteArray) (vValue1 : ByteArray) (vGone1 : Bool) (H11 : Hp) (Q : Value → Hp → Prop) : Prop :=
 ∀ H12 : Hp, H12 = (holes H11 1) → H12[l1]? = some (rc1 .ready none) ∧ ∀ H13 : Hp, H13 = (Array.setIfInBounds H12 l1 (rc1 .busy none)) → 
 sorted_Merge_string_api_Pair_1.l1 J b b1 l1 rc1 k1 vKey1 vValue1 vGone1 H13 Q
theorem sorted_Merge_string_api_Pair_1.r2.eq (J : Jn) (b : Nat) (b1 : Nat) (l1 : Nat) (rc1 : LoopState → Option Code → Obj) (k1 : ByteArray) (vKey1 : ByteArray) (vValue1 : ByteArray) (vGone1 : Bool) (H11 : Hp) (Q : Value → Hp → Prop) : vRound Try.prog sorted_Merge_string_api_Pair_1.cfr J (rgA sorted_Merge_string_api_Pair_1.r2.code) (rgB sorted_Merge_string_api_Pair_1.r2.code) (setFr (sorted_Merge_string_api_Pair_1.r2.fr b b1) (rgP sorted_Merge_string_api_Pair_1.r2.code).toList [.string k1, .agg #[.string vKey1, .string vValue1, .bool vGone1]]) l1 rc1 H11 Q = sorted_Merge_string_api_Pair_1.r2.body J b b1 l1 rc1 k1 vKey1 vValue1 vGone1 H11 Q := by kernel_rfl
theorem sorted_Merge_string_api_Pair_1.r2.calls {b : Nat} {b1 : Nat} {l1 : Nat} {k1 : ByteArray} {vKey1 : ByteArray} {vValue1 : ByteArray} {vGone1 : Bool} {H11 : Hp} {fnA : FuncId} {tmA : Array Value} {dA : Nat} {Q : Value → Hp → Prop} (hl : H11[l1]? = some (sorted_Merge_string_api_Pair_1.r2.rec fnA tmA dA .ready none)) (hT : TmOf (sorted_Merge_string_api_Pair_1.r2.fr b b1) tmA) (h : sorted_Merge_string_api_Pair_1.r2.body J0 b b1 l1 (sorted_Merge_string_api_Pair_1.r2.rec fnA tmA dA) k1 vKey1 vValue1 vGone1 H11 Q) : YCalls Try.prog l1 [.string k1, .agg #[.string vKey1, .string vValue1, .bool vGone1]] H11 Q := vRound_calls (cf := sorted_Merge_string_api_Pair_1.cfr) (fn := fnA) (tm := tmA) (ps := rgP sorted_Merge_string_api_Pair_1.r2.code) (asg := rgA sorted_Merge_string_api_Pair_1.r2.code) (body := rgB sorted_Merge_string_api_Pair_1.r2.code) (d := dA) (fr := (sorted_Merge_string_api_Pair_1.r2.fr b b1)) Try.mixed (by kernel_rfl) hl (by kernel_rfl) hT ((sorted_Merge_string_api_Pair_1.r2.eq J0 b b1 l1 (sorted_Merge_string_api_Pair_1.r2.rec fnA tmA dA) k1 vKey1 vValue1 vGone1 H11 Q).mpr h)
attribute [irreducible] sorted_Merge_string_api_Pair_1.r1.rec sorted_Merge_string_api_Pair_1.r1.fr sorted_Merge_string_api_Pair_1.r1.code sorted_Merge_string_api_Pair_1.r2.rec sorted_Merge_string_api_Pair_1.r2.fr sorted_Merge_string_api_Pair_1.r2.code
noncomputable def sorted_Merge_string_api_Pair_1.vc (J : Jn) (yield : Fv) (cap0 : Addr) (cap1 : Addr) (H : Hp) (Q : Value → Hp → Prop) : Prop :=
 ∀ b : Nat, b = Array.size H → ∀ H1 : Hp, H1 = (Array.push H (.cells #[.func yield.fn yield.fi yield.ca] T_func_string_api_Pair_bool)) → ∀ b1 : Nat, b1 = Array.size H1 → ∀ H2 : Hp, H2 = (Array.push H1 (.cells #[.slice none 0 0] T_sl_sorted_item_string_api_Pair)) → ∃ x : Fv, Hp.cell? H2 cap0 = some (.func x.fn x.fi x.ca) ∧ 
 ∀ fn : FuncId, ∀ tm : Array Value, TmOf (sorted_Merge_string_api_Pair_1.r1.fr b1) tm → vRg Try.prog (.func x.fn x.fi x.ca) (Array.size H2 + 1) (Array.push (Array.push H2 hole) (sorted_Merge_string_api_Pair_1.r1.rec fn tm (Array.size H2) .ready none)) (fun H9 => ∃ st : LoopState, ∃ pd : Option Code, H9[(Array.size H2 + 1)]? = some (sorted_Merge_string_api_Pair_1.r1.rec fn tm (Array.size H2) st pd) ∧ st ≠ .busy ∧ ∀ H10 : Hp, H10 = (Array.setIfInBounds H9 (Array.size H2 + 1) (sorted_Merge_string_api_Pair_1.r1.rec fn tm (Array.size H2) .exhausted pd)) → ((pd = none → ∃ x2 : Fv, Hp.cell? H10 cap1 = some (.func x2.fn x2.fi x2.ca) ∧ 
 ∀ fn1 : FuncId, ∀ tm1 : Array Value, TmOf (sorted_Merge_string_api_Pair_1.r2.fr b b1) tm1 → vRg Try.prog (.func x2.fn x2.fi x2.ca) (Array.size H10 + 1) (Array.push (Array.push H10 hole) (sorted_Merge_string_api_Pair_1.r2.rec fn1 tm1 (Array.size H10) .ready none)) (fun H20 => ∃ st1 : LoopState, ∃ pd1 : Option Code, H20[(Array.size H10 + 1)]? = some (sorted_Merge_string_api_Pair_1.r2.rec fn1 tm1 (Array.size H10) st1 pd1) ∧ st1 ≠ .busy ∧ ∀ H21 : Hp, H21 = (Array.setIfInBounds H20 (Array.size H10 + 1) (sorted_Merge_string_api_Pair_1.r2.rec fn1 tm1 (Array.size H10) .exhausted pd1)) → ((pd1 = none → ∃ x19 : Sl, Hp.cell? H21 (Addr.mk b1 0 none) = some (.slice x19.a x19.len x19.cap) ∧ 
 sorted_Merge_string_api_Pair_1.l2 J b x19 H21 0 Q) ∧ (pd1 = some .ret → Q (.tuple #[]) H21) ∧ (True) ∧ (pd1 = none ∨ pd1 = some .ret ∨ ∃ i ∈ ([] : List Nat), pd1 = some (.exit i))))) ∧ (pd = some .ret → Q (.tuple #[]) H10) ∧ (True) ∧ (pd = none ∨ pd = some .ret ∨ ∃ i ∈ ([] : List Nat), pd = some (.exit i))))
theorem sorted_Merge_string_api_Pair_1.eq (J : Jn) (yield : Fv) (cap0 : Addr) (cap1 : Addr) (H : Hp) (Q : Value → Hp → Prop) : vFn Try.prog sorted_Merge_string_api_Pair_1.cf J sorted_Merge_string_api_Pair_1.fn [.func yield.fn yield.fi yield.ca, .pointer (some cap0), .pointer (some cap1)] H Q = sorted_Merge_string_api_Pair_1.vc J yield cap0 cap1 H Q := by kernel_rfl
theorem sorted_Merge_string_api_Pair_1.calls {yield : Fv} {cap0 : Addr} {cap1 : Addr} {H : Hp} {Q : Value → Hp → Prop} (h : sorted_Merge_string_api_Pair_1.vc J0 yield cap0 cap1 H Q) : SCalls Try.prog sorted_Merge_string_api_Pair_1.id [.func yield.fn yield.fi yield.ca, .pointer (some cap0), .pointer (some cap1)] H Q := vFn_of Try.mixed Try.func38 (sorted_Merge_string_api_Pair_1.eq J0 yield cap0 cap1 H Q) h

/-! 39: (*tephra/pack.Writer).Num -/
noncomputable def pack_Writer_Num.cf : Cfg := ⟨[], [(2, [0, 1, 5])], [], [], true⟩
noncomputable def pack_Writer_Num.l1.st (w : Addr) (n : Int) (H1 : Hp) (k : Int) : VS := ⟨mkFr 25 [(0, .v (.pointer (some w))), (1, .v (.int .i64 n)), (5, .v (.int .i64 k))], [], H1⟩
noncomputable def pack_Writer_Num.l1 (J : Jn) (w : Addr) (n : Int) (H1 : Hp) (k : Int) (Q : Value → Hp → Prop) : Prop := vAt Try.prog pack_Writer_Num.cf J pack_Writer_Num.fn [1, 0, 1, 0] [0, 0, 0] Q (pack_Writer_Num.l1.st w n H1 k)
attribute [irreducible] pack_Writer_Num.l1
noncomputable def pack_Writer_Num.l1.body (J : Jn) (w : Addr) (n : Int) (H1 : Hp) (k : Int) (Q : Value → Hp → Prop) : Prop :=
 
 Br (decide (k ≥ 0)) (∃ b : Sl, Hp.cell? H1 w = some (.slice b.a b.len b.cap) ∧ (0 : Int) ≤ (w64 ((8 : Int) * k)) ∧ 
 vApp Try.prog T_sl_uint8 b.a b.len b.cap (.slice (some (Addr.mk (Array.size H1) 0 none)) 1 1) (Array.push H1 (.cells #[.int .u8 (IntKind.u8.wrap ((Int.fdiv n (2 ^ (min ((w64 ((8 : Int) * k)) : Int).toNat 64)))))] T_uint8)) (fun ap H2 => WrAt H2 w 1 ∧ 
 pack_Writer_Num.l1 J w n (Hp.setCell H2 w (.slice ap.a ap.len ap.cap)) (w64 (k - 1)) Q))
 (Q (.pointer (some w)) H1)
theorem pack_Writer_Num.l1.eq (J : Jn) (w : Addr) (n : Int) (H1 : Hp) (k : Int) (Q : Value → Hp → Prop) : vAtBody Try.prog pack_Writer_Num.cf J pack_Writer_Num.fn [1, 0, 1, 0] [0, 0, 0] Q (pack_Writer_Num.l1.st w n H1 k) = pack_Writer_Num.l1.body J w n H1 k Q := by kernel_rfl
theorem pack_Writer_Num.l1.step {w : Addr} {n : Int} {H1 : Hp} {k : Int} {Q : Value → Hp → Prop} (h : pack_Writer_Num.l1.body J0 w n H1 k Q) : pack_Writer_Num.l1 J0 w n H1 k Q := vAt_stepC (pack_Writer_Num.l1.st w n H1 k) (pack_Writer_Num.l1.eq J0 w n H1 k Q) (by kernel_rfl) h
noncomputable def pack_Writer_Num.vc (J : Jn) (w : Addr) (n : Int) (H : Hp) (Q : Value → Hp → Prop) : Prop :=
 
 pack_Writer_Num.l1 J w n H 7 Q
theorem pack_Writer_Num.eq (J : Jn) (w : Addr) (n : Int) (H : Hp) (Q : Value → Hp → Prop) : vFn Try.prog pack_Writer_Num.cf J pack_Writer_Num.fn [.pointer (some w), .int .i64 n] H Q = pack_Writer_Num.vc J w n H Q := by kernel_rfl
theorem pack_Writer_Num.calls {w : Addr} {n : Int} {H : Hp} {Q : Value → Hp → Prop} (h : pack_Writer_Num.vc J0 w n H Q) : SCalls Try.prog pack_Writer_Num.id [.pointer (some w), .int .i64 n] H Q := vFn_of Try.mixed Try.func39 (pack_Writer_Num.eq J0 w n H Q) h

/-! 40: tephra/state.PutRows -/
noncomputable def state_PutRows.cf : Cfg := ⟨[7, 10, 1000003], [(2, [0, 2, 15, 16, 17]), (11, [0, 37, 38, 39])], [(7, [0, 2, 7, 8, 15, 16, 17], true)], [], true⟩
noncomputable def state_PutRows.l1.st (w : Addr) (ps : Sl) (xs : Sl) (H2 : Hp) (x1 : Int) : VS := ⟨mkFr 59 [(0, .v (.pointer (some w))), (2, .v (.slice xs.a xs.len xs.cap)), (15, .v (.slice ps.a ps.len ps.cap)), (16, .v (.int .i64 ((ps.len : Nat) : Int))), (17, .v (.int .i64 x1))], [], H2⟩
noncomputable def state_PutRows.l1 (J : Jn) (w : Addr) (ps : Sl) (xs : Sl) (H2 : Hp) (x1 : Int) (Q : Value → Hp → Prop) : Prop := vAt Try.prog state_PutRows.cf J state_PutRows.fn [1, 0, 1, 0] [0, 0, 0] Q (state_PutRows.l1.st w ps xs H2 x1)
noncomputable def state_PutRows.k1.st (w : Addr) (ps : Sl) (xs : Sl) (x1 : Int) (Key : ByteArray) (Valuev : ByteArray) (Gone : Bool) (H3 : Hp) (gone : Int) : VS := ⟨mkFr 59 [(0, .v (.pointer (some w))), (2, .v (.slice xs.a xs.len xs.cap)), (7, .loc 0 0), (8, .v (.int .u8 gone)), (15, .v (.slice ps.a ps.len ps.cap)), (16, .v (.int .i64 ((ps.len : Nat) : Int))), (17, .v (.int .i64 x1))], [(T_api_Pair, [.string Key, .string Valuev, .bool Gone])], H3⟩
noncomputable def state_PutRows.k1 (J : Jn) (w : Addr) (ps : Sl) (xs : Sl) (x1 : Int) (Key : ByteArray) (Valuev : ByteArray) (Gone : Bool) (H3 : Hp) (gone : Int) (Q : Value → Hp → Prop) : Prop := J (vSeg Try.prog state_PutRows.cf J state_PutRows.fn [1, 0, 1, 0, 0, 1, 1, 0, 0, 1, 1, 1] [0, 0, 0, 0, 0, 0, 0, 0, 1, 1] Q) (state_PutRows.k1.st w ps xs x1 Key Valuev Gone H3 gone)
noncomputable def state_PutRows.l2.st (w : Addr) (xs : Sl) (H8 : Hp) (x6 : Int) : VS := ⟨mkFr 59 [(0, .v (.pointer (some w))), (37, .v (.slice xs.a xs.len xs.cap)), (38, .v (.int .i64 ((xs.len : Nat) : Int))), (39, .v (.int .i64 x6))], [], H8⟩
noncomputable def state_PutRows.l2 (J : Jn) (w : Addr) (xs : Sl) (H8 : Hp) (x6 : Int) (Q : Value → Hp → Prop) : Prop := vAt Try.prog state_PutRows.cf J state_PutRows.fn [1, 1, 1, 1, 0] [0, 0, 0, 0] Q (state_PutRows.l2.st w xs H8 x6)
attribute [irreducible] state_PutRows.l1 state_PutRows.k1 state_PutRows.l2
noncomputable def state_PutRows.l1.body (J : Jn) (w : Addr) (ps : Sl) (xs : Sl) (H2 : Hp) (x1 : Int) (Q : Value → Hp → Prop) : Prop :=
 
 Br (decide (x1 < ((ps.len : Nat) : Int))) (((0 : Int) ≤ x1 ∧ x1 < ((ps.len : Nat) : Int)) ∧ vPtr ps.a (fun a => ∃ Key : ByteArray, ∃ Valuev : ByteArray, ∃ Gone : Bool, RowAt H2 (a.add ((x1 : Int).toNat * 3)) [.string Key, .string Valuev, .bool Gone] ∧ ∀ H3 : Hp, H3 = (holes H2 1) → 
 Br Gone (
 state_PutRows.k1 J w ps xs x1 Key Valuev Gone H3 1 Q)
 (
 state_PutRows.k1 J w ps xs x1 Key Valuev Gone H3 0 Q)))
 (
 SCalls Try.prog pack_Writer_Num.id [.pointer (some w), .int .i64 ((xs.len : Nat) : Int)] H2 (fun r4 H7 => ∃ x5 : Option Addr, r4 = .pointer x5 ∧ 
 state_PutRows.l2 J w xs H7 0 Q))
theorem state_PutRows.l1.eq (J : Jn) (w : Addr) (ps : Sl) (xs : Sl) (H2 : Hp) (x1 : Int) (Q : Value → Hp → Prop) : vAtBody Try.prog state_PutRows.cf J state_PutRows.fn [1, 0, 1, 0] [0, 0, 0] Q (state_PutRows.l1.st w ps xs H2 x1) = state_PutRows.l1.body J w ps xs H2 x1 Q := by kernel_rfl
theorem state_PutRows.l1.step {w : Addr} {ps : Sl} {xs : Sl} {H2 : Hp} {x1 : Int} {Q : Value → Hp → Prop} (h : state_PutRows.l1.body J0 w ps xs H2 x1 Q) : state_PutRows.l1 J0 w ps xs H2 x1 Q := vAt_stepC (state_PutRows.l1.st w ps xs H2 x1) (state_PutRows.l1.eq J0 w ps xs H2 x1 Q) (by kernel_rfl) h
noncomputable def state_PutRows.k1.body (J : Jn) (w : Addr) (ps : Sl) (xs : Sl) (x1 : Int) (Key : ByteArray) (Valuev : ByteArray) (Gone : Bool) (H3 : Hp) (gone : Int) (Q : Value → Hp → Prop) : Prop :=
 
 SCalls Try.prog pack_Writer_Text.id [.pointer (some w), .string Key] H3 (fun r1 H4 => ∃ x2 : Option Addr, r1 = .pointer x2 ∧ 
 SCalls Try.prog pack_Writer_Text.id [.pointer x2, .string Valuev] H4 (fun r2 H5 => ∃ x3 : Option Addr, r2 = .pointer x3 ∧ 
 SCalls Try.prog pack_Writer_Byte.id [.pointer x3, .int .u8 gone] H5 (fun r3 H6 => ∃ x4 : Option Addr, r3 = .pointer x4 ∧ 
 state_PutRows.l1 J w ps xs H6 (w64 (x1 + 1)) Q)))
theorem state_PutRows.k1.eq (J : Jn) (w : Addr) (ps : Sl) (xs : Sl) (x1 : Int) (Key : ByteArray) (Valuev : ByteArray) (Gone : Bool) (H3 : Hp) (gone : Int) (Q : Value → Hp → Prop) : vSeg Try.prog state_PutRows.cf J state_PutRows.fn [1, 0, 1, 0, 0, 1, 1, 0, 0, 1, 1, 1] [0, 0, 0, 0, 0, 0, 0, 0, 1, 1] Q (state_PutRows.k1.st w ps xs x1 Key Valuev Gone H3 gone) = state_PutRows.k1.body J w ps xs x1 Key Valuev Gone H3 gone Q := by kernel_rfl
theorem state_PutRows.k1.step {w : Addr} {ps : Sl} {xs : Sl} {x1 : Int} {Key : ByteArray} {Valuev : ByteArray} {Gone : Bool} {H3 : Hp} {gone : Int} {Q : Value → Hp → Prop} (h : state_PutRows.k1.body J0 w ps xs x1 Key Valuev Gone H3 gone Q) : state_PutRows.k1 J0 w ps xs x1 Key Valuev Gone H3 gone Q := step_of (vSeg Try.prog state_PutRows.cf J0 state_PutRows.fn [1, 0, 1, 0, 0, 1, 1, 0, 0, 1, 1, 1] [0, 0, 0, 0, 0, 0, 0, 0, 1, 1] Q) (state_PutRows.k1.st w ps xs x1 Key Valuev Gone H3 gone) (state_PutRows.k1.eq J0 w ps xs x1 Key Valuev Gone H3 gone Q) (by kernel_rfl) h
noncomputable def state_PutRows.l2.body (J : Jn) (w : Addr) (xs : Sl) (H8 : Hp) (x6 : Int) (Q : Value → Hp → Prop) : Prop :=
 
 Br (decide (x6 < ((xs.len : Nat) : Int))) (((0 : Int) ≤ x6 ∧ x6 < ((xs.len : Nat) : Int)) ∧ vPtr xs.a (fun a1 => ∃ Client : Int, ∃ Seq : Int, ∃ ReplyErr : Int, ∃ ReplyValue : ByteArray, RowAt H8 (a1.add ((x6 : Int).toNat * 4)) [.int .i64 Client, .int .i64 Seq, .int .i64 ReplyErr, .string ReplyValue] ∧ ∀ H9 : Hp, H9 = (holes H8 1) → 
 SCalls Try.prog pack_Writer_Num.id [.pointer (some w), .int .i64 Client] H9 (fun r5 H10 => ∃ x7 : Option Addr, r5 = .pointer x7 ∧ 
 SCalls Try.prog pack_Writer_Num.id [.pointer x7, .int .i64 Seq] H10 (fun r6 H11 => ∃ x8 : Option Addr, r6 = .pointer x8 ∧ 
 SCalls Try.prog pack_Writer_Num.id [.pointer x8, .int .i64 ReplyErr] H11 (fun r7 H12 => ∃ x9 : Option Addr, r7 = .pointer x9 ∧ 
 SCalls Try.prog pack_Writer_Text.id [.pointer x9, .string ReplyValue] H12 (fun r8 H13 => ∃ x10 : Option Addr, r8 = .pointer x10 ∧ 
 state_PutRows.l2 J w xs H13 (w64 (x6 + 1)) Q))))))
 (Q (.tuple #[]) H8)
theorem state_PutRows.l2.eq (J : Jn) (w : Addr) (xs : Sl) (H8 : Hp) (x6 : Int) (Q : Value → Hp → Prop) : vAtBody Try.prog state_PutRows.cf J state_PutRows.fn [1, 1, 1, 1, 0] [0, 0, 0, 0] Q (state_PutRows.l2.st w xs H8 x6) = state_PutRows.l2.body J w xs H8 x6 Q := by kernel_rfl
theorem state_PutRows.l2.step {w : Addr} {xs : Sl} {H8 : Hp} {x6 : Int} {Q : Value → Hp → Prop} (h : state_PutRows.l2.body J0 w xs H8 x6 Q) : state_PutRows.l2 J0 w xs H8 x6 Q := vAt_stepC (state_PutRows.l2.st w xs H8 x6) (state_PutRows.l2.eq J0 w xs H8 x6 Q) (by kernel_rfl) h
noncomputable def state_PutRows.vc (J : Jn) (w : Addr) (ps : Sl) (xs : Sl) (H : Hp) (Q : Value → Hp → Prop) : Prop :=
 
 SCalls Try.prog pack_Writer_Num.id [.pointer (some w), .int .i64 ((ps.len : Nat) : Int)] H (fun r H1 => ∃ x : Option Addr, r = .pointer x ∧ 
 state_PutRows.l1 J w ps xs H1 0 Q)
theorem state_PutRows.eq (J : Jn) (w : Addr) (ps : Sl) (xs : Sl) (H : Hp) (Q : Value → Hp → Prop) : vFn Try.prog state_PutRows.cf J state_PutRows.fn [.pointer (some w), .slice ps.a ps.len ps.cap, .slice xs.a xs.len xs.cap] H Q = state_PutRows.vc J w ps xs H Q := by kernel_rfl
theorem state_PutRows.calls {w : Addr} {ps : Sl} {xs : Sl} {H : Hp} {Q : Value → Hp → Prop} (h : state_PutRows.vc J0 w ps xs H Q) : SCalls Try.prog state_PutRows.id [.pointer (some w), .slice ps.a ps.len ps.cap, .slice xs.a xs.len xs.cap] H Q := vFn_of Try.mixed Try.func40 (state_PutRows.eq J0 w ps xs H Q) h

/-! 41: (*tephra/pack.Writer).Bytes -/
noncomputable def pack_Writer_Bytes.cf : Cfg := ⟨[], [], [], [], true⟩
noncomputable def pack_Writer_Bytes.vc (J : Jn) (w : Addr) (H : Hp) (Q : Value → Hp → Prop) : Prop :=
 ∃ b : Sl, Hp.cell? H w = some (.slice b.a b.len b.cap) ∧ 
 vApp Try.prog T_sl_uint8 none 0 0 (.slice b.a b.len b.cap) H (fun ap H1 => Q (.slice ap.a ap.len ap.cap) H1)
theorem pack_Writer_Bytes.eq (J : Jn) (w : Addr) (H : Hp) (Q : Value → Hp → Prop) : vFn Try.prog pack_Writer_Bytes.cf J pack_Writer_Bytes.fn [.pointer (some w)] H Q = pack_Writer_Bytes.vc J w H Q := by kernel_rfl
theorem pack_Writer_Bytes.calls {w : Addr} {H : Hp} {Q : Value → Hp → Prop} (h : pack_Writer_Bytes.vc J0 w H Q) : SCalls Try.prog pack_Writer_Bytes.id [.pointer (some w)] H Q := vFn_of Try.mixed Try.func41 (pack_Writer_Bytes.eq J0 w H Q) h

/-! 42: tephra/cmds.Right -/
noncomputable def cmds_Right.cf : Cfg := ⟨[1], [], [], [(10, [1, 10]), (15, [1, 15]), (20, [1, 20])], true⟩
noncomputable def cmds_Right.k1.st (eIndex : Int) (eTerm : Int) (eCmdOp : Int) (eCmdClient : Int) (eCmdSeq : Int) (eCmdKey : ByteArray) (eCmdValue : ByteArray) (eCmdOld : ByteArray) (H : Hp) (x : Bool) : VS := ⟨mkFr 26 [(1, .loc 0 0), (10, .v (.bool x))], [(T_api_Entry, [.int .i64 eIndex, .int .i64 eTerm, .int .i64 eCmdOp, .int .i64 eCmdClient, .int .i64 eCmdSeq, .string eCmdKey, .string eCmdValue, .string eCmdOld])], (holes H 1)⟩
noncomputable def cmds_Right.k1 (J : Jn) (eIndex : Int) (eTerm : Int) (eCmdOp : Int) (eCmdClient : Int) (eCmdSeq : Int) (eCmdKey : ByteArray) (eCmdValue : ByteArray) (eCmdOld : ByteArray) (H : Hp) (x : Bool) (Q : Value → Hp → Prop) : Prop := J (vMid Try.prog cmds_Right.cf J cmds_Right.fn [1, 0] [0, 1] 8 Q) (cmds_Right.k1.st eIndex eTerm eCmdOp eCmdClient eCmdSeq eCmdKey eCmdValue eCmdOld H x)
noncomputable def cmds_Right.k2.st (eIndex : Int) (eTerm : Int) (eCmdOp : Int) (eCmdClient : Int) (eCmdSeq : Int) (eCmdKey : ByteArray) (eCmdValue : ByteArray) (eCmdOld : ByteArray) (H : Hp) (x1 : Bool) : VS := ⟨mkFr 26 [(1, .loc 0 0), (15, .v (.bool x1))], [(T_api_Entry, [.int .i64 eIndex, .int .i64 eTerm, .int .i64 eCmdOp, .int .i64 eCmdClient, .int .i64 eCmdSeq, .string eCmdKey, .string eCmdValue, .string eCmdOld])], (holes H 1)⟩
noncomputable def cmds_Right.k2 (J : Jn) (eIndex : Int) (eTerm : Int) (eCmdOp : Int) (eCmdClient : Int) (eCmdSeq : Int) (eCmdKey : ByteArray) (eCmdValue : ByteArray) (eCmdOld : ByteArray) (H : Hp) (x1 : Bool) (Q : Value → Hp → Prop) : Prop := J (vMid Try.prog cmds_Right.cf J cmds_Right.fn [1, 0] [0, 1] 13 Q) (cmds_Right.k2.st eIndex eTerm eCmdOp eCmdClient eCmdSeq eCmdKey eCmdValue eCmdOld H x1)
noncomputable def cmds_Right.k3.st (eIndex : Int) (eTerm : Int) (eCmdOp : Int) (eCmdClient : Int) (eCmdSeq : Int) (eCmdKey : ByteArray) (eCmdValue : ByteArray) (eCmdOld : ByteArray) (H : Hp) (x2 : Bool) : VS := ⟨mkFr 26 [(1, .loc 0 0), (20, .v (.bool x2))], [(T_api_Entry, [.int .i64 eIndex, .int .i64 eTerm, .int .i64 eCmdOp, .int .i64 eCmdClient, .int .i64 eCmdSeq, .string eCmdKey, .string eCmdValue, .string eCmdOld])], (holes H 1)⟩
noncomputable def cmds_Right.k3 (J : Jn) (eIndex : Int) (eTerm : Int) (eCmdOp : Int) (eCmdClient : Int) (eCmdSeq : Int) (eCmdKey : ByteArray) (eCmdValue : ByteArray) (eCmdOld : ByteArray) (H : Hp) (x2 : Bool) (Q : Value → Hp → Prop) : Prop := J (vMid Try.prog cmds_Right.cf J cmds_Right.fn [1, 0] [0, 1] 18 Q) (cmds_Right.k3.st eIndex eTerm eCmdOp eCmdClient eCmdSeq eCmdKey eCmdValue eCmdOld H x2)
attribute [irreducible] cmds_Right.k1 cmds_Right.k2 cmds_Right.k3
noncomputable def cmds_Right.k1.body (J : Jn) (eIndex : Int) (eTerm : Int) (eCmdOp : Int) (eCmdClient : Int) (eCmdSeq : Int) (eCmdKey : ByteArray) (eCmdValue : ByteArray) (eCmdOld : ByteArray) (H : Hp) (x : Bool) (Q : Value → Hp → Prop) : Prop :=
 
 Br x (
 cmds_Right.k2 J eIndex eTerm eCmdOp eCmdClient eCmdSeq eCmdKey eCmdValue eCmdOld H (decide (eTerm ≥ 0)) Q)
 (
 cmds_Right.k2 J eIndex eTerm eCmdOp eCmdClient eCmdSeq eCmdKey eCmdValue eCmdOld H false Q)
theorem cmds_Right.k1.eq (J : Jn) (eIndex : Int) (eTerm : Int) (eCmdOp : Int) (eCmdClient : Int) (eCmdSeq : Int) (eCmdKey : ByteArray) (eCmdValue : ByteArray) (eCmdOld : ByteArray) (H : Hp) (x : Bool) (Q : Value → Hp → Prop) : vMid Try.prog cmds_Right.cf J cmds_Right.fn [1, 0] [0, 1] 8 Q (cmds_Right.k1.st eIndex eTerm eCmdOp eCmdClient eCmdSeq eCmdKey eCmdValue eCmdOld H x) = cmds_Right.k1.body J eIndex eTerm eCmdOp eCmdClient eCmdSeq eCmdKey eCmdValue eCmdOld H x Q := by kernel_rfl
theorem cmds_Right.k1.step {eIndex : Int} {eTerm : Int} {eCmdOp : Int} {eCmdClient : Int} {eCmdSeq : Int} {eCmdKey : ByteArray} {eCmdValue : ByteArray} {eCmdOld : ByteArray} {H : Hp} {x : Bool} {Q : Value → Hp → Prop} (h : cmds_Right.k1.body J0 eIndex eTerm eCmdOp eCmdClient eCmdSeq eCmdKey eCmdValue eCmdOld H x Q) : cmds_Right.k1 J0 eIndex eTerm eCmdOp eCmdClient eCmdSeq eCmdKey eCmdValue eCmdOld H x Q := step_of (vMid Try.prog cmds_Right.cf J0 cmds_Right.fn [1, 0] [0, 1] 8 Q) (cmds_Right.k1.st eIndex eTerm eCmdOp eCmdClient eCmdSeq eCmdKey eCmdValue eCmdOld H x) (cmds_Right.k1.eq J0 eIndex eTerm eCmdOp eCmdClient eCmdSeq eCmdKey eCmdValue eCmdOld H x Q) (by kernel_rfl) h
noncomputable def cmds_Right.k2.body (J : Jn) (eIndex : Int) (eTerm : Int) (eCmdOp : Int) (eCmdClient : Int) (eCmdSeq : Int) (eCmdKey : ByteArray) (eCmdValue : ByteArray) (eCmdOld : ByteArray) (H : Hp) (x1 : Bool) (Q : Value → Hp → Prop) : Prop :=
 
 Br x1 (
 cmds_Right.k3 J eIndex eTerm eCmdOp eCmdClient eCmdSeq eCmdKey eCmdValue eCmdOld H (decide (eTerm ≤ 1048576)) Q)
 (
 cmds_Right.k3 J eIndex eTerm eCmdOp eCmdClient eCmdSeq eCmdKey eCmdValue eCmdOld H false Q)
theorem cmds_Right.k2.eq (J : Jn) (eIndex : Int) (eTerm : Int) (eCmdOp : Int) (eCmdClient : Int) (eCmdSeq : Int) (eCmdKey : ByteArray) (eCmdValue : ByteArray) (eCmdOld : ByteArray) (H : Hp) (x1 : Bool) (Q : Value → Hp → Prop) : vMid Try.prog cmds_Right.cf J cmds_Right.fn [1, 0] [0, 1] 13 Q (cmds_Right.k2.st eIndex eTerm eCmdOp eCmdClient eCmdSeq eCmdKey eCmdValue eCmdOld H x1) = cmds_Right.k2.body J eIndex eTerm eCmdOp eCmdClient eCmdSeq eCmdKey eCmdValue eCmdOld H x1 Q := by kernel_rfl
theorem cmds_Right.k2.step {eIndex : Int} {eTerm : Int} {eCmdOp : Int} {eCmdClient : Int} {eCmdSeq : Int} {eCmdKey : ByteArray} {eCmdValue : ByteArray} {eCmdOld : ByteArray} {H : Hp} {x1 : Bool} {Q : Value → Hp → Prop} (h : cmds_Right.k2.body J0 eIndex eTerm eCmdOp eCmdClient eCmdSeq eCmdKey eCmdValue eCmdOld H x1 Q) : cmds_Right.k2 J0 eIndex eTerm eCmdOp eCmdClient eCmdSeq eCmdKey eCmdValue eCmdOld H x1 Q := step_of (vMid Try.prog cmds_Right.cf J0 cmds_Right.fn [1, 0] [0, 1] 13 Q) (cmds_Right.k2.st eIndex eTerm eCmdOp eCmdClient eCmdSeq eCmdKey eCmdValue eCmdOld H x1) (cmds_Right.k2.eq J0 eIndex eTerm eCmdOp eCmdClient eCmdSeq eCmdKey eCmdValue eCmdOld H x1 Q) (by kernel_rfl) h
noncomputable def cmds_Right.k3.body (J : Jn) (eIndex : Int) (eTerm : Int) (eCmdOp : Int) (eCmdClient : Int) (eCmdSeq : Int) (eCmdKey : ByteArray) (eCmdValue : ByteArray) (eCmdOld : ByteArray) (H : Hp) (x2 : Bool) (Q : Value → Hp → Prop) : Prop :=
 
 Br x2 (
 SCalls Try.prog cmds_May.id [.agg #[.int .i64 eCmdOp, .int .i64 eCmdClient, .int .i64 eCmdSeq, .string eCmdKey, .string eCmdValue, .string eCmdOld]] (holes H 1) (fun r H1 => ∃ x3 : Bool, r = .bool x3 ∧ Q (.bool x3) H1))
 (Q (.bool false) (holes H 1))
theorem cmds_Right.k3.eq (J : Jn) (eIndex : Int) (eTerm : Int) (eCmdOp : Int) (eCmdClient : Int) (eCmdSeq : Int) (eCmdKey : ByteArray) (eCmdValue : ByteArray) (eCmdOld : ByteArray) (H : Hp) (x2 : Bool) (Q : Value → Hp → Prop) : vMid Try.prog cmds_Right.cf J cmds_Right.fn [1, 0] [0, 1] 18 Q (cmds_Right.k3.st eIndex eTerm eCmdOp eCmdClient eCmdSeq eCmdKey eCmdValue eCmdOld H x2) = cmds_Right.k3.body J eIndex eTerm eCmdOp eCmdClient eCmdSeq eCmdKey eCmdValue eCmdOld H x2 Q := by kernel_rfl
theorem cmds_Right.k3.step {eIndex : Int} {eTerm : Int} {eCmdOp : Int} {eCmdClient : Int} {eCmdSeq : Int} {eCmdKey : ByteArray} {eCmdValue : ByteArray} {eCmdOld : ByteArray} {H : Hp} {x2 : Bool} {Q : Value → Hp → Prop} (h : cmds_Right.k3.body J0 eIndex eTerm eCmdOp eCmdClient eCmdSeq eCmdKey eCmdValue eCmdOld H x2 Q) : cmds_Right.k3 J0 eIndex eTerm eCmdOp eCmdClient eCmdSeq eCmdKey eCmdValue eCmdOld H x2 Q := step_of (vMid Try.prog cmds_Right.cf J0 cmds_Right.fn [1, 0] [0, 1] 18 Q) (cmds_Right.k3.st eIndex eTerm eCmdOp eCmdClient eCmdSeq eCmdKey eCmdValue eCmdOld H x2) (cmds_Right.k3.eq J0 eIndex eTerm eCmdOp eCmdClient eCmdSeq eCmdKey eCmdValue eCmdOld H x2 Q) (by kernel_rfl) h
noncomputable def cmds_Right.vc (J : Jn) (eIndex : Int) (eTerm : Int) (eCmdOp : Int) (eCmdClient : Int) (eCmdSeq : Int) (eCmdKey : ByteArray) (eCmdValue : ByteArray) (eCmdOld : ByteArray) (H : Hp) (Q : Value → Hp → Prop) : Prop :=
 
 Br (decide (eIndex ≥ 1)) (
 cmds_Right.k1 J eIndex eTerm eCmdOp eCmdClient eCmdSeq eCmdKey eCmdValue eCmdOld H (decide (eIndex ≤ 1048576)) Q)
 (
 cmds_Right.k1 J eIndex eTerm eCmdOp eCmdClient eCmdSeq eCmdKey eCmdValue eCmdOld H false Q)
theorem cmds_Right.eq (J : Jn) (eIndex : Int) (eTerm : Int) (eCmdOp : Int) (eCmdClient : Int) (eCmdSeq : Int) (eCmdKey : ByteArray) (eCmdValue : ByteArray) (eCmdOld : ByteArray) (H : Hp) (Q : Value → Hp → Prop) : vFn Try.prog cmds_Right.cf J cmds_Right.fn [.agg #[.int .i64 eIndex, .int .i64 eTerm, .int .i64 eCmdOp, .int .i64 eCmdClient, .int .i64 eCmdSeq, .string eCmdKey, .string eCmdValue, .string eCmdOld]] H Q = cmds_Right.vc J eIndex eTerm eCmdOp eCmdClient eCmdSeq eCmdKey eCmdValue eCmdOld H Q := by kernel_rfl
theorem cmds_Right.calls {eIndex : Int} {eTerm : Int} {eCmdOp : Int} {eCmdClient : Int} {eCmdSeq : Int} {eCmdKey : ByteArray} {eCmdValue : ByteArray} {eCmdOld : ByteArray} {H : Hp} {Q : Value → Hp → Prop} (h : cmds_Right.vc J0 eIndex eTerm eCmdOp eCmdClient eCmdSeq eCmdKey eCmdValue eCmdOld H Q) : SCalls Try.prog cmds_Right.id [.agg #[.int .i64 eIndex, .int .i64 eTerm, .int .i64 eCmdOp, .int .i64 eCmdClient, .int .i64 eCmdSeq, .string eCmdKey, .string eCmdValue, .string eCmdOld]] H Q := vFn_of Try.mixed Try.func42 (cmds_Right.eq J0 eIndex eTerm eCmdOp eCmdClient eCmdSeq eCmdKey eCmdValue eCmdOld H Q) h

end Go.Proofs
