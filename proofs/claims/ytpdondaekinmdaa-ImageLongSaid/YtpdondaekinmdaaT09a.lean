/- THE SEAT'S CODE, AS WALKED, text 1 of 3: for each function what is to be shown of it (printed by the own program gen.py), held by the kernel. -/
import Derived.Test.YtpdondaekinmdaaProg
import Derived.Test.YtpdondaekinmdaaKc13
set_option maxRecDepth 100000
set_option linter.all false
set_option linter.constructorNameAsVariable false
namespace Go.Proofs
open Go Go.KC
theorem Try.mixed : Try.prog.follows .mixedOrders = true := by kernel_rfl
abbrev tephralaw09_ImagePart.id : Nat := 3
noncomputable abbrev tephralaw09_ImagePart.fn : Func := Try.f3
abbrev tephralaw09_ImageOrder.id : Nat := 4
noncomputable abbrev tephralaw09_ImageOrder.fn : Func := Try.f4
abbrev tephralaw09_ImageFull.id : Nat := 5
noncomputable abbrev tephralaw09_ImageFull.fn : Func := Try.f5
abbrev tephralaw09_ImageAny.id : Nat := 6
noncomputable abbrev tephralaw09_ImageAny.fn : Func := Try.f6
abbrev tephralaw09_ImageLong.id : Nat := 7
noncomputable abbrev tephralaw09_ImageLong.fn : Func := Try.f7
abbrev tephralaw09_ImageDelta.id : Nat := 8
noncomputable abbrev tephralaw09_ImageDelta.fn : Func := Try.f8
abbrev tephralaw09_awake.id : Nat := 9
noncomputable abbrev tephralaw09_awake.fn : Func := Try.f9
abbrev tephralaw06_Entries.id : Nat := 10
noncomputable abbrev tephralaw06_Entries.fn : Func := Try.f10
abbrev tephralaw09_part.id : Nat := 11
noncomputable abbrev tephralaw09_part.fn : Func := Try.f11
abbrev tephralaw09_head.id : Nat := 12
noncomputable abbrev tephralaw09_head.fn : Func := Try.f12
abbrev tephralaw09_form.id : Nat := 13
noncomputable abbrev tephralaw09_form.fn : Func := Try.f13
abbrev cmds_Bytes.id : Nat := 14
noncomputable abbrev cmds_Bytes.fn : Func := Try.f14
abbrev image_ReadPart.id : Nat := 15
noncomputable abbrev image_ReadPart.fn : Func := Try.f15
abbrev cmds_Row.id : Nat := 16
noncomputable abbrev cmds_Row.fn : Func := Try.f16
abbrev cmds_Read.id : Nat := 17
noncomputable abbrev cmds_Read.fn : Func := Try.f17
abbrev tephralaw07_Some.id : Nat := 18
noncomputable abbrev tephralaw07_Some.fn : Func := Try.f18
abbrev image_Full.id : Nat := 19
noncomputable abbrev image_Full.fn : Func := Try.f19
abbrev image_ReadFull.id : Nat := 20
noncomputable abbrev image_ReadFull.fn : Func := Try.f20
abbrev state_Same.id : Nat := 21
noncomputable abbrev state_Same.fn : Func := Try.f21
abbrev state_Bytes.id : Nat := 22
noncomputable abbrev state_Bytes.fn : Func := Try.f22
abbrev image_ReadDelta.id : Nat := 23
noncomputable abbrev image_ReadDelta.fn : Func := Try.f23
abbrev image_Delta.id : Nat := 24
noncomputable abbrev image_Delta.fn : Func := Try.f24
abbrev state_Right.id : Nat := 25
noncomputable abbrev state_Right.fn : Func := Try.f25
abbrev delta_Right.id : Nat := 26
noncomputable abbrev delta_Right.fn : Func := Try.f26
abbrev delta_Bytes.id : Nat := 27
noncomputable abbrev delta_Bytes.fn : Func := Try.f27
abbrev delta_Same.id : Nat := 28
noncomputable abbrev delta_Same.fn : Func := Try.f28
abbrev tephralaw08_Three.id : Nat := 29
noncomputable abbrev tephralaw08_Three.fn : Func := Try.f29
abbrev delta_Between.id : Nat := 30
noncomputable abbrev delta_Between.fn : Func := Try.f30
abbrev image_Part.id : Nat := 31
noncomputable abbrev image_Part.fn : Func := Try.f31
abbrev image_Entry.id : Nat := 32
noncomputable abbrev image_Entry.fn : Func := Try.f32
abbrev tephralaw06_Say_Cmd.id : Nat := 33
noncomputable abbrev tephralaw06_Say_Cmd.fn : Func := Try.f33
abbrev frame_Make.id : Nat := 34
noncomputable abbrev frame_Make.fn : Func := Try.f34
abbrev pack_Writer_Byte.id : Nat := 35
noncomputable abbrev pack_Writer_Byte.fn : Func := Try.f35
abbrev pack_Writer_Num.id : Nat := 36
noncomputable abbrev pack_Writer_Num.fn : Func := Try.f36
abbrev pack_Writer_Bytes.id : Nat := 37
noncomputable abbrev pack_Writer_Bytes.fn : Func := Try.f37
abbrev cmds_put.id : Nat := 38
noncomputable abbrev cmds_put.fn : Func := Try.f38
abbrev image_rows.id : Nat := 39
noncomputable abbrev image_rows.fn : Func := Try.f39
abbrev image_head.id : Nat := 40
noncomputable abbrev image_head.fn : Func := Try.f40
abbrev cmds_Right.id : Nat := 41
noncomputable abbrev cmds_Right.fn : Func := Try.f41
abbrev pack_Of.id : Nat := 42
noncomputable abbrev pack_Of.fn : Func := Try.f42
abbrev pack_Reader_Num.id : Nat := 43
noncomputable abbrev pack_Reader_Num.fn : Func := Try.f43
abbrev cmds_get.id : Nat := 44
noncomputable abbrev cmds_get.fn : Func := Try.f44
abbrev pack_Reader_Done.id : Nat := 45
noncomputable abbrev pack_Reader_Done.fn : Func := Try.f45
abbrev state_Fold.id : Nat := 46
noncomputable abbrev state_Fold.fn : Func := Try.f46
abbrev image_frames.id : Nat := 47
noncomputable abbrev image_frames.fn : Func := Try.f47
abbrev state_Read.id : Nat := 48
noncomputable abbrev state_Read.fn : Func := Try.f48
abbrev state_PutRows.id : Nat := 49
noncomputable abbrev state_PutRows.fn : Func := Try.f49
abbrev delta_Read.id : Nat := 50
noncomputable abbrev delta_Read.fn : Func := Try.f50
abbrev state_RightRows.id : Nat := 51
noncomputable abbrev state_RightRows.fn : Func := Try.f51
abbrev delta_seq.id : Nat := 52
noncomputable abbrev delta_seq.fn : Func := Try.f52
abbrev sorted_Map_string_string_Put.id : Nat := 53
noncomputable abbrev sorted_Map_string_string_Put.fn : Func := Try.f53
abbrev sorted_Merge_string_string.id : Nat := 54
noncomputable abbrev sorted_Merge_string_string.fn : Func := Try.f54
abbrev sorted_Map_string_string_All.id : Nat := 55
noncomputable abbrev sorted_Map_string_string_All.fn : Func := Try.f55
abbrev sorted_Map_string_string_Get.id : Nat := 56
noncomputable abbrev sorted_Map_string_string_Get.fn : Func := Try.f56
abbrev check_Sum.id : Nat := 57
noncomputable abbrev check_Sum.fn : Func := Try.f57
abbrev pack_Writer_Text.id : Nat := 58
noncomputable abbrev pack_Writer_Text.fn : Func := Try.f58
abbrev frame_Rows.id : Nat := 59
noncomputable abbrev frame_Rows.fn : Func := Try.f59
abbrev pack_Reader_Byte.id : Nat := 60
noncomputable abbrev pack_Reader_Byte.fn : Func := Try.f60
abbrev cmds_May.id : Nat := 61
noncomputable abbrev cmds_May.fn : Func := Try.f61
abbrev pack_Reader_take.id : Nat := 62
noncomputable abbrev pack_Reader_take.fn : Func := Try.f62
abbrev pack_Reader_Text.id : Nat := 63
noncomputable abbrev pack_Reader_Text.fn : Func := Try.f63
abbrev state_Apply.id : Nat := 64
noncomputable abbrev state_Apply.fn : Func := Try.f64
abbrev state_ReadRows.id : Nat := 65
noncomputable abbrev state_ReadRows.fn : Func := Try.f65
abbrev delta_seq_1.id : Nat := 66
noncomputable abbrev delta_seq_1.fn : Func := Try.f66
abbrev sorted_Map_string_string_find.id : Nat := 67
noncomputable abbrev sorted_Map_string_string_find.fn : Func := Try.f67
abbrev slices_Insert_sl_sorted_item_string_string_sorted_item_string_string.id : Nat := 68
noncomputable abbrev slices_Insert_sl_sorted_item_string_string_sorted_item_string_string.fn : Func := Try.f68
abbrev sorted_Merge_string_string_1.id : Nat := 69
noncomputable abbrev sorted_Merge_string_string_1.fn : Func := Try.f69
abbrev sorted_Map_string_string_All_1.id : Nat := 70
noncomputable abbrev sorted_Map_string_string_All_1.fn : Func := Try.f70
abbrev check_Of.id : Nat := 71
noncomputable abbrev check_Of.fn : Func := Try.f71
abbrev check_Table_Sum.id : Nat := 72
noncomputable abbrev check_Table_Sum.fn : Func := Try.f72
abbrev frame_All.id : Nat := 73
noncomputable abbrev frame_All.fn : Func := Try.f73
abbrev frame_One.id : Nat := 74
noncomputable abbrev frame_One.fn : Func := Try.f74
abbrev state_sessions.id : Nat := 75
noncomputable abbrev state_sessions.fn : Func := Try.f75
abbrev sorted_Map_int_api_Session_Get.id : Nat := 76
noncomputable abbrev sorted_Map_int_api_Session_Get.fn : Func := Try.f76
abbrev state_pairs.id : Nat := 77
noncomputable abbrev state_pairs.fn : Func := Try.f77
abbrev state_do.id : Nat := 78
noncomputable abbrev state_do.fn : Func := Try.f78
abbrev state_rows.id : Nat := 79
noncomputable abbrev state_rows.fn : Func := Try.f79
abbrev sorted_Map_int_api_Session_Put.id : Nat := 80
noncomputable abbrev sorted_Map_int_api_Session_Put.fn : Func := Try.f80
abbrev sorted_Map_int_api_Session_All.id : Nat := 81
noncomputable abbrev sorted_Map_int_api_Session_All.fn : Func := Try.f81
abbrev pack_Reader_Bad.id : Nat := 82
noncomputable abbrev pack_Reader_Bad.fn : Func := Try.f82
abbrev slices_BinarySearchFunc_sl_sorted_item_string_string_sorted_item_string_string_string.id : Nat := 83
noncomputable abbrev slices_BinarySearchFunc_sl_sorted_item_string_string_sorted_item_string_string_string.fn : Func := Try.f83
abbrev sorted_Map_string_string_find_1.id : Nat := 84
noncomputable abbrev sorted_Map_string_string_find_1.fn : Func := Try.f84
abbrev cmp_Compare_string.id : Nat := 85
noncomputable abbrev cmp_Compare_string.fn : Func := Try.f85
abbrev slices_rotateRight_sorted_item_string_string.id : Nat := 87
noncomputable abbrev slices_rotateRight_sorted_item_string_string.fn : Func := Try.f87
abbrev frame_All_1.id : Nat := 88
noncomputable abbrev frame_All_1.fn : Func := Try.f88
abbrev frame_number.id : Nat := 89
noncomputable abbrev frame_number.fn : Func := Try.f89
abbrev sorted_Map_int_api_Session_find.id : Nat := 90
noncomputable abbrev sorted_Map_int_api_Session_find.fn : Func := Try.f90
abbrev sorted_Map_string_string_Len.id : Nat := 91
noncomputable abbrev sorted_Map_string_string_Len.fn : Func := Try.f91
abbrev sorted_Map_string_string_Del.id : Nat := 92
noncomputable abbrev sorted_Map_string_string_Del.fn : Func := Try.f92
abbrev slices_Insert_sl_sorted_item_int_api_Session_sorted_item_int_api_Session.id : Nat := 93
noncomputable abbrev slices_Insert_sl_sorted_item_int_api_Session_sorted_item_int_api_Session.fn : Func := Try.f93
abbrev sorted_Map_int_api_Session_All_1.id : Nat := 94
noncomputable abbrev sorted_Map_int_api_Session_All_1.fn : Func := Try.f94
abbrev cmp_isNaN_string.id : Nat := 95
noncomputable abbrev cmp_isNaN_string.fn : Func := Try.f95
abbrev slices_rotateLeft_sorted_item_string_string.id : Nat := 96
noncomputable abbrev slices_rotateLeft_sorted_item_string_string.fn : Func := Try.f96
abbrev slices_BinarySearchFunc_sl_sorted_item_int_api_Session_sorted_item_int_api_Session_int.id : Nat := 97
noncomputable abbrev slices_BinarySearchFunc_sl_sorted_item_int_api_Session_sorted_item_int_api_Session_int.fn : Func := Try.f97
abbrev sorted_Map_int_api_Session_find_1.id : Nat := 98
noncomputable abbrev sorted_Map_int_api_Session_find_1.fn : Func := Try.f98
abbrev cmp_Compare_int.id : Nat := 99
noncomputable abbrev cmp_Compare_int.fn : Func := Try.f99
abbrev slices_Delete_sl_sorted_item_string_string_sorted_item_string_string.id : Nat := 100
noncomputable abbrev slices_Delete_sl_sorted_item_string_string_sorted_item_string_string.fn : Func := Try.f100
abbrev slices_rotateRight_sorted_item_int_api_Session.id : Nat := 102
noncomputable abbrev slices_rotateRight_sorted_item_int_api_Session.fn : Func := Try.f102
abbrev slices_Reverse_sl_sorted_item_string_string_sorted_item_string_string.id : Nat := 103
noncomputable abbrev slices_Reverse_sl_sorted_item_string_string_sorted_item_string_string.fn : Func := Try.f103
abbrev cmp_isNaN_int.id : Nat := 104
noncomputable abbrev cmp_isNaN_int.fn : Func := Try.f104
abbrev slices_rotateLeft_sorted_item_int_api_Session.id : Nat := 105
noncomputable abbrev slices_rotateLeft_sorted_item_int_api_Session.fn : Func := Try.f105
abbrev slices_Reverse_sl_sorted_item_int_api_Session_sorted_item_int_api_Session.id : Nat := 106
noncomputable abbrev slices_Reverse_sl_sorted_item_int_api_Session_sorted_item_int_api_Session.fn : Func := Try.f106
abbrev T_ : Nat := 0
abbrev T_func : Nat := 1
abbrev T_int64 : Nat := 2
abbrev T_int : Nat := 3
abbrev T_bool : Nat := 4
abbrev T_uint8 : Nat := 5
abbrev T_abi_BoundsErrorCode : Nat := 6
abbrev T_struct_x_int64_y_int_signed_bool_code_abi_BoundsErrorCode : Nat := 7
abbrev T_runtime_boundsError : Nat := 8
abbrev T_string : Nat := 9
abbrev T_runtime_errorString : Nat := 10
abbrev T_runtime_plainError : Nat := 11
abbrev T_uintptr : Nat := 12
abbrev T_struct_msg_string_addr_uintptr : Nat := 13
abbrev T_runtime_errorAddressString : Nat := 14
abbrev T_p_runtime_TypeAssertionError : Nat := 15
abbrev T_p_runtime_PanicNilError : Nat := 16
abbrev T_p_abi_Type : Nat := 17
abbrev T_struct_typ_p_abi_Type : Nat := 18
abbrev T_maps_unhashableTypeError : Nat := 19
abbrev T_interface : Nat := 20
abbrev T_int32 : Nat := 21
abbrev T_sl_tephralaw06_Say : Nat := 22
abbrev T_uint16 : Nat := 23
abbrev T_func_bool : Nat := 24
abbrev T_sl_api_Entry : Nat := 25
abbrev T_func_sl_tephralaw06_Say_int_int_sl_api_Entry : Nat := 26
abbrev T_sl_uint8 : Nat := 27
abbrev T_func_sl_api_Entry_int_sl_uint8 : Nat := 28
abbrev T_func_int_int_int_string : Nat := 29
abbrev T_api_Op : Nat := 30
abbrev T_struct_Op_api_Op_Client_int_Seq_int_Key_string_Value_string_ : Nat := 31
abbrev T_api_Cmd : Nat := 32
abbrev T_struct_Index_int_Term_int_Cmd_api_Cmd : Nat := 33
abbrev T_api_Entry : Nat := 34
abbrev T_func_sl_uint8_string : Nat := 35
abbrev T_func_api_Entry_sl_uint8 : Nat := 36
abbrev T_api_Errno : Nat := 37
abbrev T_sl_api_Entry_int_api_Errno : Nat := 38
abbrev T_func_sl_uint8_int_sl_api_Entry_int_api_Errno : Nat := 39
abbrev T_func_sl_tephralaw06_Say_uint16_uint16_bool : Nat := 40
abbrev T_func_sl_api_Entry_int_bool : Nat := 41
abbrev T_api_Entry_bool : Nat := 42
abbrev T_func_sl_uint8_api_Entry_bool : Nat := 43
abbrev T_func_sl_tephralaw06_Say_uint8_uint8_api_Entry_bool : Nat := 44
abbrev T_sl_api_Pair : Nat := 45
abbrev T_sl_api_Session : Nat := 46
abbrev T_struct_Index_int_Term_int_Pairs_sl_api_Pair_Sessions_sl_api_ : Nat := 47
abbrev T_api_State : Nat := 48
abbrev T_func_sl_tephralaw06_Say_api_State : Nat := 49
abbrev T_sl_uint8_api_Errno : Nat := 50
abbrev T_func_api_State_sl_uint8_api_Errno : Nat := 51
abbrev T_api_State_api_Errno : Nat := 52
abbrev T_func_sl_uint8_api_State_api_Errno : Nat := 53
abbrev T_func_api_State_api_State_bool : Nat := 54
abbrev T_func_api_State_sl_uint8 : Nat := 55
abbrev T_func_sl_tephralaw06_Say_uint16_uint8_bool : Nat := 56
abbrev T_sl_sl_uint8 : Nat := 57
abbrev T_struct_From_int_To_int_Term_int_Pairs_sl_api_Pair_Sessions_s : Nat := 58
abbrev T_delta_Delta : Nat := 59
abbrev T_delta_Delta_api_Errno : Nat := 60
abbrev T_func_sl_uint8_delta_Delta_api_Errno : Nat := 61
abbrev T_func_delta_Delta_sl_uint8_api_Errno : Nat := 62
abbrev T_func_api_State_bool : Nat := 63
abbrev T_func_delta_Delta_bool : Nat := 64
abbrev T_func_sl_uint8_sl_tephralaw06_Say_uint16_uint8_uint8_bool : Nat := 65
abbrev T_struct_Key_string_Value_string_Gone_bool : Nat := 66
abbrev T_api_Pair : Nat := 67
abbrev T_func_delta_Delta_sl_uint8 : Nat := 68
abbrev T_func_delta_Delta_delta_Delta_bool : Nat := 69
abbrev T_func_uint8_sl_tephralaw06_Say_bool : Nat := 70
abbrev T_3_api_State : Nat := 71
abbrev T_func_sl_tephralaw06_Say_uint8_uint8_3_api_State : Nat := 72
abbrev T_func_api_State_api_State_delta_Delta_api_Errno : Nat := 73
abbrev T_func_sl_tephralaw06_Say_uint8_uint8_bool : Nat := 74
abbrev T_func_int_sl_uint8 : Nat := 75
abbrev T_struct_Op_uint8_Client_uint8_Seq_uint8_Key_uint8_Value_uint8 : Nat := 76
abbrev T_tephralaw06_Say : Nat := 77
abbrev T_func_api_Cmd : Nat := 78
abbrev T_p_pack_Writer : Nat := 79
abbrev T_struct_b_sl_uint8 : Nat := 80
abbrev T_pack_Writer : Nat := 81
abbrev T_func_sl_uint8_sl_uint8_api_Errno : Nat := 82
abbrev T_func_uint8_p_pack_Writer : Nat := 83
abbrev T_func_int_p_pack_Writer : Nat := 84
abbrev T_func_sl_uint8 : Nat := 85
abbrev T_func_p_pack_Writer_api_Cmd : Nat := 86
abbrev T_sl_sl_uint8_int_api_Errno : Nat := 87
abbrev T_func_sl_uint8_api_Kind_int_sl_sl_uint8_int_api_Errno : Nat := 88
abbrev T_api_Kind : Nat := 89
abbrev T_func_api_Kind_int_int_sl_uint8 : Nat := 90
abbrev T_func_api_Entry_bool : Nat := 91
abbrev T_p_pack_Reader : Nat := 92
abbrev T_func_sl_uint8_p_pack_Reader : Nat := 93
abbrev T_func_int : Nat := 94
abbrev T_func_p_pack_Reader_api_Cmd : Nat := 95
abbrev T_func_api_State_sl_api_Entry_api_State : Nat := 96
abbrev T_func_sl_uint8_sl_uint8_api_Errno_97 : Nat := 97
abbrev T_api_State_bool : Nat := 98
abbrev T_func_sl_uint8_api_State_bool : Nat := 99
abbrev T_func_p_pack_Writer_sl_api_Pair_sl_api_Session : Nat := 100
abbrev T_delta_Delta_bool : Nat := 101
abbrev T_func_sl_uint8_delta_Delta_bool : Nat := 102
abbrev T_func_sl_api_Pair_sl_api_Session_int_bool : Nat := 103
abbrev T_sl_sorted_item_string_string : Nat := 104
abbrev T_struct_items_sl_sorted_item_string_string : Nat := 105
abbrev T_sorted_Map_string_string : Nat := 106
abbrev T_func_func_string_api_Pair_bool : Nat := 107
abbrev T_iter_Seq2_string_api_Pair : Nat := 108
abbrev T_func_sl_api_Pair_iter_Seq2_string_api_Pair : Nat := 109
abbrev T_func_string_string_bool : Nat := 110
abbrev T_func_func_string_string_bool : Nat := 111
abbrev T_iter_Seq2_string_string : Nat := 112
abbrev T_func_iter_Seq2_string_string_iter_Seq2_string_string_iter_Se : Nat := 113
abbrev T_func_iter_Seq2_string_string : Nat := 114
abbrev T_string_bool : Nat := 115
abbrev T_func_string_string_bool_116 : Nat := 116
abbrev T_uint32 : Nat := 117
abbrev T_func_sl_uint8_uint32 : Nat := 118
abbrev T_uint : Nat := 119
abbrev T_func_string_p_pack_Writer : Nat := 120
abbrev T_func_sl_uint8_sl_sl_uint8_int_api_Errno : Nat := 121
abbrev T_func_uint8 : Nat := 122
abbrev T_func_api_Cmd_bool : Nat := 123
abbrev T_struct_b_sl_uint8_bad_bool : Nat := 124
abbrev T_pack_Reader : Nat := 125
abbrev T_func_string : Nat := 126
abbrev T_struct_Err_api_Errno_Value_string : Nat := 127
abbrev T_api_Reply : Nat := 128
abbrev T_api_State_api_Reply : Nat := 129
abbrev T_func_api_State_api_Entry_api_State_api_Reply : Nat := 130
abbrev T_sl_api_Pair_sl_api_Session : Nat := 131
abbrev T_func_p_pack_Reader_sl_api_Pair_sl_api_Session : Nat := 132
abbrev T_struct_Client_int_Seq_int_Reply_api_Reply : Nat := 133
abbrev T_api_Session : Nat := 134
abbrev T_func_string_api_Pair_bool : Nat := 135
abbrev T_p_sorted_Map_string_string : Nat := 136
abbrev T_int_bool : Nat := 137
abbrev T_func_string_int_bool : Nat := 138
abbrev T_struct_key_string_value_string : Nat := 139
abbrev T_sorted_item_string_string : Nat := 140
abbrev T_func_sl_sorted_item_string_string_int_sorted_item_string_str : Nat := 141
abbrev T_256_uint32 : Nat := 142
abbrev T_check_Table : Nat := 143
abbrev T_func_uint32_check_Table : Nat := 144
abbrev T_func_func_int_sl_uint8_bool : Nat := 145
abbrev T_iter_Seq2_int_sl_uint8 : Nat := 146
abbrev T_func_sl_uint8_iter_Seq2_int_sl_uint8 : Nat := 147
abbrev T_sl_uint8_int_api_Errno : Nat := 148
abbrev T_func_sl_uint8_sl_uint8_int_api_Errno : Nat := 149
abbrev T_p_sorted_Map_int_api_Session : Nat := 150
abbrev T_func_api_State_p_sorted_Map_int_api_Session : Nat := 151
abbrev T_api_Session_bool : Nat := 152
abbrev T_func_int_api_Session_bool : Nat := 153
abbrev T_func_api_State_p_sorted_Map_string_string : Nat := 154
abbrev T_func_p_sorted_Map_string_string_api_Cmd_api_Reply : Nat := 155
abbrev T_func_p_sorted_Map_string_string_sl_api_Pair : Nat := 156
abbrev T_func_int_api_Session_bool_157 : Nat := 157
abbrev T_func_func_int_api_Session_bool : Nat := 158
abbrev T_iter_Seq2_int_api_Session : Nat := 159
abbrev T_func_iter_Seq2_int_api_Session : Nat := 160
abbrev T_func_sl_sorted_item_string_string_string_func_sorted_item_st : Nat := 161
abbrev T_func_string_string_int : Nat := 162
abbrev T_func_sorted_item_string_string_string_int : Nat := 163
abbrev T_func_sl_sorted_item_string_string_sl_sorted_item_string_stri : Nat := 164
abbrev T_func_sl_sorted_item_string_string_int : Nat := 165
abbrev T_p_check_Table : Nat := 166
abbrev T_func_int_sl_uint8_bool : Nat := 167
abbrev T_func_sl_uint8_int : Nat := 168
abbrev T_sl_sorted_item_int_api_Session : Nat := 169
abbrev T_struct_items_sl_sorted_item_int_api_Session : Nat := 170
abbrev T_sorted_Map_int_api_Session : Nat := 171
abbrev T_func_int_int_bool : Nat := 172
abbrev T_struct_key_int_value_api_Session : Nat := 173
abbrev T_sorted_item_int_api_Session : Nat := 174
abbrev T_func_string_bool : Nat := 175
abbrev T_func_sl_sorted_item_int_api_Session_int_sorted_item_int_api_ : Nat := 176
abbrev T_func_sl_sorted_item_int_api_Session_int_func_sorted_item_int : Nat := 177
abbrev T_func_int_int_int : Nat := 178
abbrev T_func_sorted_item_int_api_Session_int_int : Nat := 179
abbrev T_func_sl_sorted_item_string_string_int_int_sl_sorted_item_str : Nat := 180
abbrev T_func_sl_sorted_item_int_api_Session_sl_sorted_item_int_api_S : Nat := 181
abbrev T_func_sl_sorted_item_int_api_Session_int : Nat := 182
abbrev T_func_sl_sorted_item_string_string : Nat := 183
abbrev T_func_int_bool : Nat := 184
abbrev T_func_sl_sorted_item_int_api_Session : Nat := 185
abbrev T_struct__interface_p_abi_Type_concrete_p_abi_Type_asserted_p_ : Nat := 186
abbrev T_runtime_TypeAssertionError : Nat := 187
abbrev T_0_p_runtime_PanicNilError : Nat := 188
abbrev T_struct___0_p_runtime_PanicNilError : Nat := 189
abbrev T_runtime_PanicNilError : Nat := 190
abbrev T_abi_TFlag : Nat := 191
abbrev T_abi_Kind : Nat := 192
abbrev T_func_unsafe_Pointer_unsafe_Pointer_bool : Nat := 193
abbrev T_p_uint8 : Nat := 194
abbrev T_abi_NameOff : Nat := 195
abbrev T_abi_TypeOff : Nat := 196
abbrev T_struct_Size__uintptr_PtrBytes_uintptr_Hash_uint32_TFlag_abi_ : Nat := 197
abbrev T_abi_Type : Nat := 198
abbrev T_unsafe_Pointer : Nat := 199

/-! 9: tephra/tephralaw09.awake -/
noncomputable def tephralaw09_awake.cf : Cfg := ⟨[3, 1000003], [], [], [(34, [3, 5, 6, 7, 8, 34]), (38, [3, 5, 6, 7, 38]), (43, [5, 6, 7, 43]), (48, [5, 7, 48])], true, []⟩
noncomputable def tephralaw09_awake.k1.st (Index : Int) (Term : Int) (Pairs : Sl) (Sessions : Sl) (ap : Sl) (H7 : Hp) (x5 : Sl) (x6 : Int) (x7 : Int) (x8 : Bool) : VS := ⟨mkFr 55 [(3, .loc 0 0), (5, .v (.slice ap.a ap.len ap.cap)), (6, .v (.slice x5.a x5.len x5.cap)), (7, .v (.int .i64 x6)), (8, .v (.int .i64 x7)), (34, .v (.bool x8))], [(T_api_State, [.int .i64 Index, .int .i64 Term, .slice Pairs.a Pairs.len Pairs.cap, .slice Sessions.a Sessions.len Sessions.cap])], H7⟩
noncomputable def tephralaw09_awake.k1 (J : Jn) (Index : Int) (Term : Int) (Pairs : Sl) (Sessions : Sl) (ap : Sl) (H7 : Hp) (x5 : Sl) (x6 : Int) (x7 : Int) (x8 : Bool) (Q : Value → Hp → Prop) : Prop := J (vMid Try.prog tephralaw09_awake.cf J tephralaw09_awake.fn [1, 1, 1, 1, 1, 0] [0, 0, 0, 1, 1, 1] 6 Q) (tephralaw09_awake.k1.st Index Term Pairs Sessions ap H7 x5 x6 x7 x8)
noncomputable def tephralaw09_awake.k2.st (Index : Int) (Term : Int) (Pairs : Sl) (Sessions : Sl) (ap : Sl) (H7 : Hp) (x5 : Sl) (x6 : Int) (x9 : Bool) : VS := ⟨mkFr 55 [(3, .loc 0 0), (5, .v (.slice ap.a ap.len ap.cap)), (6, .v (.slice x5.a x5.len x5.cap)), (7, .v (.int .i64 x6)), (38, .v (.bool x9))], [(T_api_State, [.int .i64 Index, .int .i64 Term, .slice Pairs.a Pairs.len Pairs.cap, .slice Sessions.a Sessions.len Sessions.cap])], H7⟩
noncomputable def tephralaw09_awake.k2 (J : Jn) (Index : Int) (Term : Int) (Pairs : Sl) (Sessions : Sl) (ap : Sl) (H7 : Hp) (x5 : Sl) (x6 : Int) (x9 : Bool) (Q : Value → Hp → Prop) : Prop := J (vMid Try.prog tephralaw09_awake.cf J tephralaw09_awake.fn [1, 1, 1, 1, 1, 0] [0, 0, 0, 1, 1, 1] 10 Q) (tephralaw09_awake.k2.st Index Term Pairs Sessions ap H7 x5 x6 x9)
noncomputable def tephralaw09_awake.k3.st (Index : Int) (Term : Int) (Pairs : Sl) (Sessions : Sl) (ap : Sl) (H7 : Hp) (x5 : Sl) (x6 : Int) (x10 : Bool) : VS := ⟨mkFr 55 [(5, .v (.slice ap.a ap.len ap.cap)), (6, .v (.slice x5.a x5.len x5.cap)), (7, .v (.int .i64 x6)), (43, .v (.bool x10))], [(T_api_State, [.int .i64 Index, .int .i64 Term, .slice Pairs.a Pairs.len Pairs.cap, .slice Sessions.a Sessions.len Sessions.cap])], H7⟩
noncomputable def tephralaw09_awake.k3 (J : Jn) (Index : Int) (Term : Int) (Pairs : Sl) (Sessions : Sl) (ap : Sl) (H7 : Hp) (x5 : Sl) (x6 : Int) (x10 : Bool) (Q : Value → Hp → Prop) : Prop := J (vMid Try.prog tephralaw09_awake.cf J tephralaw09_awake.fn [1, 1, 1, 1, 1, 0] [0, 0, 0, 1, 1, 1] 15 Q) (tephralaw09_awake.k3.st Index Term Pairs Sessions ap H7 x5 x6 x10)
noncomputable def tephralaw09_awake.k4.st (Index : Int) (Term : Int) (Pairs : Sl) (Sessions : Sl) (ap : Sl) (H7 : Hp) (x6 : Int) (x11 : Bool) : VS := ⟨mkFr 55 [(5, .v (.slice ap.a ap.len ap.cap)), (7, .v (.int .i64 x6)), (48, .v (.bool x11))], [(T_api_State, [.int .i64 Index, .int .i64 Term, .slice Pairs.a Pairs.len Pairs.cap, .slice Sessions.a Sessions.len Sessions.cap])], H7⟩
noncomputable def tephralaw09_awake.k4 (J : Jn) (Index : Int) (Term : Int) (Pairs : Sl) (Sessions : Sl) (ap : Sl) (H7 : Hp) (x6 : Int) (x11 : Bool) (Q : Value → Hp → Prop) : Prop := J (vMid Try.prog tephralaw09_awake.cf J tephralaw09_awake.fn [1, 1, 1, 1, 1, 0] [0, 0, 0, 1, 1, 1] 20 Q) (tephralaw09_awake.k4.st Index Term Pairs Sessions ap H7 x6 x11)
attribute [irreducible] tephralaw09_awake.k1 tephralaw09_awake.k2 tephralaw09_awake.k3 tephralaw09_awake.k4
noncomputable def tephralaw09_awake.k1.body (J : Jn) (Index : Int) (Term : Int) (Pairs : Sl) (Sessions : Sl) (ap : Sl) (H7 : Hp) (x5 : Sl) (x6 : Int) (x7 : Int) (x8 : Bool) (Q : Value → Hp → Prop) : Prop :=
 
 Br x8 (
 tephralaw09_awake.k2 J Index Term Pairs Sessions ap H7 x5 x6 (x7 == 0) Q)
 (
 tephralaw09_awake.k2 J Index Term Pairs Sessions ap H7 x5 x6 false Q)
theorem tephralaw09_awake.k1.eq (J : Jn) (Index : Int) (Term : Int) (Pairs : Sl) (Sessions : Sl) (ap : Sl) (H7 : Hp) (x5 : Sl) (x6 : Int) (x7 : Int) (x8 : Bool) (Q : Value → Hp → Prop) : vMid Try.prog tephralaw09_awake.cf J tephralaw09_awake.fn [1, 1, 1, 1, 1, 0] [0, 0, 0, 1, 1, 1] 6 Q (tephralaw09_awake.k1.st Index Term Pairs Sessions ap H7 x5 x6 x7 x8) = tephralaw09_awake.k1.body J Index Term Pairs Sessions ap H7 x5 x6 x7 x8 Q := by kernel_rfl
theorem tephralaw09_awake.k1.step {Index : Int} {Term : Int} {Pairs : Sl} {Sessions : Sl} {ap : Sl} {H7 : Hp} {x5 : Sl} {x6 : Int} {x7 : Int} {x8 : Bool} {Q : Value → Hp → Prop} (h : tephralaw09_awake.k1.body J0 Index Term Pairs Sessions ap H7 x5 x6 x7 x8 Q) : tephralaw09_awake.k1 J0 Index Term Pairs Sessions ap H7 x5 x6 x7 x8 Q := step_of (vMid Try.prog tephralaw09_awake.cf J0 tephralaw09_awake.fn [1, 1, 1, 1, 1, 0] [0, 0, 0, 1, 1, 1] 6 Q) (tephralaw09_awake.k1.st Index Term Pairs Sessions ap H7 x5 x6 x7 x8) (tephralaw09_awake.k1.eq J0 Index Term Pairs Sessions ap H7 x5 x6 x7 x8 Q) (by kernel_rfl) h
noncomputable def tephralaw09_awake.k2.body (J : Jn) (Index : Int) (Term : Int) (Pairs : Sl) (Sessions : Sl) (ap : Sl) (H7 : Hp) (x5 : Sl) (x6 : Int) (x9 : Bool) (Q : Value → Hp → Prop) : Prop :=
 
 Br x9 (
 tephralaw09_awake.k3 J Index Term Pairs Sessions ap H7 x5 x6 (Index == 3) Q)
 (
 tephralaw09_awake.k3 J Index Term Pairs Sessions ap H7 x5 x6 false Q)
theorem tephralaw09_awake.k2.eq (J : Jn) (Index : Int) (Term : Int) (Pairs : Sl) (Sessions : Sl) (ap : Sl) (H7 : Hp) (x5 : Sl) (x6 : Int) (x9 : Bool) (Q : Value → Hp → Prop) : vMid Try.prog tephralaw09_awake.cf J tephralaw09_awake.fn [1, 1, 1, 1, 1, 0] [0, 0, 0, 1, 1, 1] 10 Q (tephralaw09_awake.k2.st Index Term Pairs Sessions ap H7 x5 x6 x9) = tephralaw09_awake.k2.body J Index Term Pairs Sessions ap H7 x5 x6 x9 Q := by kernel_rfl
theorem tephralaw09_awake.k2.step {Index : Int} {Term : Int} {Pairs : Sl} {Sessions : Sl} {ap : Sl} {H7 : Hp} {x5 : Sl} {x6 : Int} {x9 : Bool} {Q : Value → Hp → Prop} (h : tephralaw09_awake.k2.body J0 Index Term Pairs Sessions ap H7 x5 x6 x9 Q) : tephralaw09_awake.k2 J0 Index Term Pairs Sessions ap H7 x5 x6 x9 Q := step_of (vMid Try.prog tephralaw09_awake.cf J0 tephralaw09_awake.fn [1, 1, 1, 1, 1, 0] [0, 0, 0, 1, 1, 1] 10 Q) (tephralaw09_awake.k2.st Index Term Pairs Sessions ap H7 x5 x6 x9) (tephralaw09_awake.k2.eq J0 Index Term Pairs Sessions ap H7 x5 x6 x9 Q) (by kernel_rfl) h
noncomputable def tephralaw09_awake.k3.body (J : Jn) (Index : Int) (Term : Int) (Pairs : Sl) (Sessions : Sl) (ap : Sl) (H7 : Hp) (x5 : Sl) (x6 : Int) (x10 : Bool) (Q : Value → Hp → Prop) : Prop :=
 
 Br x10 (
 tephralaw09_awake.k4 J Index Term Pairs Sessions ap H7 x6 (((x5.len : Nat) : Int) == 1) Q)
 (
 tephralaw09_awake.k4 J Index Term Pairs Sessions ap H7 x6 false Q)
theorem tephralaw09_awake.k3.eq (J : Jn) (Index : Int) (Term : Int) (Pairs : Sl) (Sessions : Sl) (ap : Sl) (H7 : Hp) (x5 : Sl) (x6 : Int) (x10 : Bool) (Q : Value → Hp → Prop) : vMid Try.prog tephralaw09_awake.cf J tephralaw09_awake.fn [1, 1, 1, 1, 1, 0] [0, 0, 0, 1, 1, 1] 15 Q (tephralaw09_awake.k3.st Index Term Pairs Sessions ap H7 x5 x6 x10) = tephralaw09_awake.k3.body J Index Term Pairs Sessions ap H7 x5 x6 x10 Q := by kernel_rfl
theorem tephralaw09_awake.k3.step {Index : Int} {Term : Int} {Pairs : Sl} {Sessions : Sl} {ap : Sl} {H7 : Hp} {x5 : Sl} {x6 : Int} {x10 : Bool} {Q : Value → Hp → Prop} (h : tephralaw09_awake.k3.body J0 Index Term Pairs Sessions ap H7 x5 x6 x10 Q) : tephralaw09_awake.k3 J0 Index Term Pairs Sessions ap H7 x5 x6 x10 Q := step_of (vMid Try.prog tephralaw09_awake.cf J0 tephralaw09_awake.fn [1, 1, 1, 1, 1, 0] [0, 0, 0, 1, 1, 1] 15 Q) (tephralaw09_awake.k3.st Index Term Pairs Sessions ap H7 x5 x6 x10) (tephralaw09_awake.k3.eq J0 Index Term Pairs Sessions ap H7 x5 x6 x10 Q) (by kernel_rfl) h
noncomputable def tephralaw09_awake.k4.body (J : Jn) (Index : Int) (Term : Int) (Pairs : Sl) (Sessions : Sl) (ap : Sl) (H7 : Hp) (x6 : Int) (x11 : Bool) (Q : Value → Hp → Prop) : Prop :=
 
 Br x11 (Q (.bool (x6 == ((ap.len : Nat) : Int))) H7)
 (Q (.bool false) H7)
theorem tephralaw09_awake.k4.eq (J : Jn) (Index : Int) (Term : Int) (Pairs : Sl) (Sessions : Sl) (ap : Sl) (H7 : Hp) (x6 : Int) (x11 : Bool) (Q : Value → Hp → Prop) : vMid Try.prog tephralaw09_awake.cf J tephralaw09_awake.fn [1, 1, 1, 1, 1, 0] [0, 0, 0, 1, 1, 1] 20 Q (tephralaw09_awake.k4.st Index Term Pairs Sessions ap H7 x6 x11) = tephralaw09_awake.k4.body J Index Term Pairs Sessions ap H7 x6 x11 Q := by kernel_rfl
theorem tephralaw09_awake.k4.step {Index : Int} {Term : Int} {Pairs : Sl} {Sessions : Sl} {ap : Sl} {H7 : Hp} {x6 : Int} {x11 : Bool} {Q : Value → Hp → Prop} (h : tephralaw09_awake.k4.body J0 Index Term Pairs Sessions ap H7 x6 x11 Q) : tephralaw09_awake.k4 J0 Index Term Pairs Sessions ap H7 x6 x11 Q := step_of (vMid Try.prog tephralaw09_awake.cf J0 tephralaw09_awake.fn [1, 1, 1, 1, 1, 0] [0, 0, 0, 1, 1, 1] 20 Q) (tephralaw09_awake.k4.st Index Term Pairs Sessions ap H7 x6 x11) (tephralaw09_awake.k4.eq J0 Index Term Pairs Sessions ap H7 x6 x11 Q) (by kernel_rfl) h
noncomputable def tephralaw09_awake.vc (J : Jn) (H : Hp) (Q : Value → Hp → Prop) : Prop :=
 
 SCalls Try.prog image_Full.id [.agg #[.int .i64 3, .int .i64 0, .slice none 0 0, .slice none 0 0]] H (fun r H1 => ∃ x : Sl, ∃ x1 : Int, r = .tuple #[.slice x.a x.len x.cap, .int .i64 x1] ∧ 
 SCalls Try.prog image_ReadFull.id [.slice x.a x.len x.cap] H1 (fun r1 H2 => ∃ Index : Int, ∃ Term : Int, ∃ Pairs : Sl, ∃ Sessions : Sl, ∃ x2 : Int, r1 = .tuple #[.agg #[.int .i64 Index, .int .i64 Term, .slice Pairs.a Pairs.len Pairs.cap, .slice Sessions.a Sessions.len Sessions.cap], .int .i64 x2] ∧ ∀ H3 : Hp, H3 = (holes H2 1) → 
 SCalls Try.prog image_Part.id [.int .i64 4] H3 (fun r2 H4 => ∃ x3 : Sl, r2 = .slice x3.a x3.len x3.cap ∧ 
 SCalls Try.prog image_Entry.id [.agg #[.int .i64 5, .int .i64 0, .int .i64 0, .int .i64 0, .int .i64 0, .string (ByteArray.mk #[]), .string (ByteArray.mk #[]), .string (ByteArray.mk #[])]] H4 (fun r3 H5 => ∃ x4 : Sl, r3 = .slice x4.a x4.len x4.cap ∧ 
 vApp Try.prog T_sl_uint8 x3.a x3.len x3.cap (.slice x4.a x4.len x4.cap) H5 (fun ap H6 => 
 SCalls Try.prog image_ReadPart.id [.slice ap.a ap.len ap.cap, .int .i64 4] H6 (fun r4 H7 => ∃ x5 : Sl, ∃ x6 : Int, ∃ x7 : Int, r4 = .tuple #[.slice x5.a x5.len x5.cap, .int .i64 x6, .int .i64 x7] ∧ 
 Br (x1 == 0) (
 tephralaw09_awake.k1 J Index Term Pairs Sessions ap H7 x5 x6 x7 (x2 == 0) Q)
 (
 tephralaw09_awake.k1 J Index Term Pairs Sessions ap H7 x5 x6 x7 false Q)))))))
theorem tephralaw09_awake.eq (J : Jn) (H : Hp) (Q : Value → Hp → Prop) : vFn Try.prog tephralaw09_awake.cf J tephralaw09_awake.fn [] H Q = tephralaw09_awake.vc J H Q := by kernel_rfl
theorem tephralaw09_awake.calls {H : Hp} {Q : Value → Hp → Prop} (h : tephralaw09_awake.vc J0 H Q) : SCalls Try.prog tephralaw09_awake.id [] H Q := vFn_of Try.mixed Try.func9 (tephralaw09_awake.eq J0 H Q) h

/-! 10: tephra/tephralaw06.Entries -/
noncomputable def tephralaw06_Entries.cf : Cfg := ⟨[9], [(3, [1, 2, 7, 14, 15, 16])], [(7, [1, 2, 7, 8, 9, 14, 15, 16], true)], [], true, []⟩
noncomputable def tephralaw06_Entries.l1.st (says : Sl) (fromv : Int) (H1 : Hp) (term1 : Int) (out : Sl) (x : Int) : VS := ⟨mkFr 38 [(1, .v (.int .i64 fromv)), (2, .v (.int .i64 term1)), (7, .v (.slice out.a out.len out.cap)), (14, .v (.slice (cutA says.a says.cap 0 6) (((if (80 : Int) < ((says.len : Nat) : Int) then 80 else ((says.len : Nat) : Int)) : Int).toNat) says.cap)), (15, .v (.int .i64 (((((if (80 : Int) < ((says.len : Nat) : Int) then 80 else ((says.len : Nat) : Int)) : Int).toNat) : Nat) : Int))), (16, .v (.int .i64 x))], [], H1⟩
noncomputable def tephralaw06_Entries.l1 (J : Jn) (says : Sl) (fromv : Int) (H1 : Hp) (term1 : Int) (out : Sl) (x : Int) (Q : Value → Hp → Prop) : Prop := vAt Try.prog tephralaw06_Entries.cf J tephralaw06_Entries.fn [1, 1, 0, 1, 0] [0, 0, 0, 0] Q (tephralaw06_Entries.l1.st says fromv H1 term1 out x)
noncomputable def tephralaw06_Entries.k1.st (says : Sl) (fromv : Int) (H1 : Hp) (out : Sl) (x : Int) (Opv : Int) (Client : Int) (Seq : Int) (Key : Int) (Valuev : Int) (Old : Int) (term2 : Int) : VS := ⟨mkFr 38 [(1, .v (.int .i64 fromv)), (2, .v (.int .i64 term2)), (7, .v (.slice out.a out.len out.cap)), (8, .v (.int .i64 x)), (9, .loc 0 0), (14, .v (.slice (cutA says.a says.cap 0 6) (((if (80 : Int) < ((says.len : Nat) : Int) then 80 else ((says.len : Nat) : Int)) : Int).toNat) says.cap)), (15, .v (.int .i64 (((((if (80 : Int) < ((says.len : Nat) : Int) then 80 else ((says.len : Nat) : Int)) : Int).toNat) : Nat) : Int))), (16, .v (.int .i64 x))], [(T_tephralaw06_Say, [.int .u8 Opv, .int .u8 Client, .int .u8 Seq, .int .u8 Key, .int .u8 Valuev, .int .u8 Old])], (holes H1 1)⟩
noncomputable def tephralaw06_Entries.k1 (J : Jn) (says : Sl) (fromv : Int) (H1 : Hp) (out : Sl) (x : Int) (Opv : Int) (Client : Int) (Seq : Int) (Key : Int) (Valuev : Int) (Old : Int) (term2 : Int) (Q : Value → Hp → Prop) : Prop := J (vSeg Try.prog tephralaw06_Entries.cf J tephralaw06_Entries.fn [1, 1, 0, 1, 0, 0, 1, 1, 0, 0, 1, 1] [0, 0, 0, 0, 0, 0, 0, 0, 0, 1] Q) (tephralaw06_Entries.k1.st says fromv H1 out x Opv Client Seq Key Valuev Old term2)
attribute [irreducible] tephralaw06_Entries.l1 tephralaw06_Entries.k1
noncomputable def tephralaw06_Entries.l1.body (J : Jn) (says : Sl) (fromv : Int) (H1 : Hp) (term1 : Int) (out : Sl) (x : Int) (Q : Value → Hp → Prop) : Prop :=
 
 Br (decide (x < (((((if (80 : Int) < ((says.len : Nat) : Int) then 80 else ((says.len : Nat) : Int)) : Int).toNat) : Nat) : Int))) (((0 : Int) ≤ x ∧ x < (((((if (80 : Int) < ((says.len : Nat) : Int) then 80 else ((says.len : Nat) : Int)) : Int).toNat) : Nat) : Int)) ∧ vPtr (cutA says.a says.cap 0 6) (fun a => ∃ Opv : Int, ∃ Client : Int, ∃ Seq : Int, ∃ Key : Int, ∃ Valuev : Int, ∃ Old : Int, RowAt H1 (a.add ((x : Int).toNat * 6)) [.int .u8 Opv, .int .u8 Client, .int .u8 Seq, .int .u8 Key, .int .u8 Valuev, .int .u8 Old] ∧ 
 Br (decide (Opv > 230)) (
 tephralaw06_Entries.k1 J says fromv H1 out x Opv Client Seq Key Valuev Old (w64 (term1 + 1)) Q)
 (
 tephralaw06_Entries.k1 J says fromv H1 out x Opv Client Seq Key Valuev Old term1 Q)))
 (Q (.slice out.a out.len out.cap) H1)
theorem tephralaw06_Entries.l1.eq (J : Jn) (says : Sl) (fromv : Int) (H1 : Hp) (term1 : Int) (out : Sl) (x : Int) (Q : Value → Hp → Prop) : vAtBody Try.prog tephralaw06_Entries.cf J tephralaw06_Entries.fn [1, 1, 0, 1, 0] [0, 0, 0, 0] Q (tephralaw06_Entries.l1.st says fromv H1 term1 out x) = tephralaw06_Entries.l1.body J says fromv H1 term1 out x Q := by kernel_rfl
theorem tephralaw06_Entries.l1.step {says : Sl} {fromv : Int} {H1 : Hp} {term1 : Int} {out : Sl} {x : Int} {Q : Value → Hp → Prop} (h : tephralaw06_Entries.l1.body J0 says fromv H1 term1 out x Q) : tephralaw06_Entries.l1 J0 says fromv H1 term1 out x Q := vAt_stepC (tephralaw06_Entries.l1.st says fromv H1 term1 out x) (tephralaw06_Entries.l1.eq J0 says fromv H1 term1 out x Q) (by kernel_rfl) h
noncomputable def tephralaw06_Entries.k1.body (J : Jn) (says : Sl) (fromv : Int) (H1 : Hp) (out : Sl) (x : Int) (Opv : Int) (Client : Int) (Seq : Int) (Key : Int) (Valuev : Int) (Old : Int) (term2 : Int) (Q : Value → Hp → Prop) : Prop :=
 
 SCalls Try.prog tephralaw06_Say_Cmd.id [.agg #[.int .u8 Opv, .int .u8 Client, .int .u8 Seq, .int .u8 Key, .int .u8 Valuev, .int .u8 Old]] (holes H1 1) (fun r H2 => ∃ Opv1 : Int, ∃ Client1 : Int, ∃ Seq1 : Int, ∃ Key1 : ByteArray, ∃ Valuev1 : ByteArray, ∃ Old1 : ByteArray, r = .agg #[.int .i64 Opv1, .int .i64 Client1, .int .i64 Seq1, .string Key1, .string Valuev1, .string Old1] ∧ 
 vApp Try.prog T_sl_api_Entry out.a out.len out.cap (.slice (some (Addr.mk (Array.size H2) 0 none)) 1 1) (Array.push H2 (.cells #[.int .i64 (w64 (fromv + x)), .int .i64 term2, .int .i64 Opv1, .int .i64 Client1, .int .i64 Seq1, .string Key1, .string Valuev1, .string Old1] T_api_Entry)) (fun ap H3 => 
 tephralaw06_Entries.l1 J says fromv H3 term2 ap (w64 (x + 1)) Q))
theorem tephralaw06_Entries.k1.eq (J : Jn) (says : Sl) (fromv : Int) (H1 : Hp) (out : Sl) (x : Int) (Opv : Int) (Client : Int) (Seq : Int) (Key : Int) (Valuev : Int) (Old : Int) (term2 : Int) (Q : Value → Hp → Prop) : vSeg Try.prog tephralaw06_Entries.cf J tephralaw06_Entries.fn [1, 1, 0, 1, 0, 0, 1, 1, 0, 0, 1, 1] [0, 0, 0, 0, 0, 0, 0, 0, 0, 1] Q (tephralaw06_Entries.k1.st says fromv H1 out x Opv Client Seq Key Valuev Old term2) = tephralaw06_Entries.k1.body J says fromv H1 out x Opv Client Seq Key Valuev Old term2 Q := by kernel_rfl
theorem tephralaw06_Entries.k1.step {says : Sl} {fromv : Int} {H1 : Hp} {out : Sl} {x : Int} {Opv : Int} {Client : Int} {Seq : Int} {Key : Int} {Valuev : Int} {Old : Int} {term2 : Int} {Q : Value → Hp → Prop} (h : tephralaw06_Entries.k1.body J0 says fromv H1 out x Opv Client Seq Key Valuev Old term2 Q) : tephralaw06_Entries.k1 J0 says fromv H1 out x Opv Client Seq Key Valuev Old term2 Q := step_of (vSeg Try.prog tephralaw06_Entries.cf J0 tephralaw06_Entries.fn [1, 1, 0, 1, 0, 0, 1, 1, 0, 0, 1, 1] [0, 0, 0, 0, 0, 0, 0, 0, 0, 1] Q) (tephralaw06_Entries.k1.st says fromv H1 out x Opv Client Seq Key Valuev Old term2) (tephralaw06_Entries.k1.eq J0 says fromv H1 out x Opv Client Seq Key Valuev Old term2 Q) (by kernel_rfl) h
noncomputable def tephralaw06_Entries.vc (J : Jn) (says : Sl) (fromv : Int) (term : Int) (H : Hp) (Q : Value → Hp → Prop) : Prop :=
 ((0 : Int) ≤ (if (80 : Int) < ((says.len : Nat) : Int) then 80 else ((says.len : Nat) : Int)) ∧ (if (80 : Int) < ((says.len : Nat) : Int) then 80 else ((says.len : Nat) : Int)) ≤ ((says.cap : Nat) : Int)) ∧ 
 tephralaw06_Entries.l1 J says fromv H term (Sl.mk none 0 0) 0 Q
theorem tephralaw06_Entries.eq (J : Jn) (says : Sl) (fromv : Int) (term : Int) (H : Hp) (Q : Value → Hp → Prop) : vFn Try.prog tephralaw06_Entries.cf J tephralaw06_Entries.fn [.slice says.a says.len says.cap, .int .i64 fromv, .int .i64 term] H Q = tephralaw06_Entries.vc J says fromv term H Q := by kernel_rfl
theorem tephralaw06_Entries.calls {says : Sl} {fromv : Int} {term : Int} {H : Hp} {Q : Value → Hp → Prop} (h : tephralaw06_Entries.vc J0 says fromv term H Q) : SCalls Try.prog tephralaw06_Entries.id [.slice says.a says.len says.cap, .int .i64 fromv, .int .i64 term] H Q := vFn_of Try.mixed Try.func10 (tephralaw06_Entries.eq J0 says fromv term H Q) h

/-! 11: tephra/tephralaw09.part -/
noncomputable def tephralaw09_part.cf : Cfg := ⟨[7, 1000003], [(3, [5, 10, 11, 12])], [], [], true, []⟩
noncomputable def tephralaw09_part.l1.st (es : Sl) (H2 : Hp) (b : Sl) (x1 : Int) : VS := ⟨mkFr 22 [(5, .v (.slice b.a b.len b.cap)), (10, .v (.slice es.a es.len es.cap)), (11, .v (.int .i64 ((es.len : Nat) : Int))), (12, .v (.int .i64 x1))], [], H2⟩
noncomputable def tephralaw09_part.l1 (J : Jn) (es : Sl) (H2 : Hp) (b : Sl) (x1 : Int) (Q : Value → Hp → Prop) : Prop := vAt Try.prog tephralaw09_part.cf J tephralaw09_part.fn [1, 1, 0, 1, 0] [0, 0, 0, 0] Q (tephralaw09_part.l1.st es H2 b x1)
attribute [irreducible] tephralaw09_part.l1
noncomputable def tephralaw09_part.l1.body (J : Jn) (es : Sl) (H2 : Hp) (b : Sl) (x1 : Int) (Q : Value → Hp → Prop) : Prop :=
 
 Br (decide (x1 < ((es.len : Nat) : Int))) (((0 : Int) ≤ x1 ∧ x1 < ((es.len : Nat) : Int)) ∧ vPtr es.a (fun a => ∃ Index : Int, ∃ Term : Int, ∃ CmdOp : Int, ∃ CmdClient : Int, ∃ CmdSeq : Int, ∃ CmdKey : ByteArray, ∃ CmdValue : ByteArray, ∃ CmdOld : ByteArray, RowAt H2 (a.add ((x1 : Int).toNat * 8)) [.int .i64 Index, .int .i64 Term, .int .i64 CmdOp, .int .i64 CmdClient, .int .i64 CmdSeq, .string CmdKey, .string CmdValue, .string CmdOld] ∧ ∀ H3 : Hp, H3 = (holes H2 1) → 
 SCalls Try.prog image_Entry.id [.agg #[.int .i64 Index, .int .i64 Term, .int .i64 CmdOp, .int .i64 CmdClient, .int .i64 CmdSeq, .string CmdKey, .string CmdValue, .string CmdOld]] H3 (fun r1 H4 => ∃ x2 : Sl, r1 = .slice x2.a x2.len x2.cap ∧ 
 vApp Try.prog T_sl_uint8 b.a b.len b.cap (.slice x2.a x2.len x2.cap) H4 (fun ap H5 => 
 tephralaw09_part.l1 J es H5 ap (w64 (x1 + 1)) Q))))
 (Q (.slice b.a b.len b.cap) H2)
theorem tephralaw09_part.l1.eq (J : Jn) (es : Sl) (H2 : Hp) (b : Sl) (x1 : Int) (Q : Value → Hp → Prop) : vAtBody Try.prog tephralaw09_part.cf J tephralaw09_part.fn [1, 1, 0, 1, 0] [0, 0, 0, 0] Q (tephralaw09_part.l1.st es H2 b x1) = tephralaw09_part.l1.body J es H2 b x1 Q := by kernel_rfl
theorem tephralaw09_part.l1.step {es : Sl} {H2 : Hp} {b : Sl} {x1 : Int} {Q : Value → Hp → Prop} (h : tephralaw09_part.l1.body J0 es H2 b x1 Q) : tephralaw09_part.l1 J0 es H2 b x1 Q := vAt_stepC (tephralaw09_part.l1.st es H2 b x1) (tephralaw09_part.l1.eq J0 es H2 b x1 Q) (by kernel_rfl) h
noncomputable def tephralaw09_part.vc (J : Jn) (es : Sl) (fromv : Int) (H : Hp) (Q : Value → Hp → Prop) : Prop :=
 
 SCalls Try.prog image_Part.id [.int .i64 fromv] H (fun r H1 => ∃ x : Sl, r = .slice x.a x.len x.cap ∧ 
 tephralaw09_part.l1 J es H1 x 0 Q)
theorem tephralaw09_part.eq (J : Jn) (es : Sl) (fromv : Int) (H : Hp) (Q : Value → Hp → Prop) : vFn Try.prog tephralaw09_part.cf J tephralaw09_part.fn [.slice es.a es.len es.cap, .int .i64 fromv] H Q = tephralaw09_part.vc J es fromv H Q := by kernel_rfl
theorem tephralaw09_part.calls {es : Sl} {fromv : Int} {H : Hp} {Q : Value → Hp → Prop} (h : tephralaw09_part.vc J0 es fromv H Q) : SCalls Try.prog tephralaw09_part.id [.slice es.a es.len es.cap, .int .i64 fromv] H Q := vFn_of Try.mixed Try.func11 (tephralaw09_part.eq J0 es fromv H Q) h

/-! 12: tephra/tephralaw09.head -/
noncomputable def tephralaw09_head.cf : Cfg := ⟨[1000003], [], [], [], true, []⟩
noncomputable def tephralaw09_head.vc (J : Jn) (kind : Int) (fromv : Int) (to : Int) (H : Hp) (Q : Value → Hp → Prop) : Prop :=
 ∀ b : Nat, b = Array.size H → ∀ H1 : Hp, H1 = (Array.push H (.cells #[.slice none 0 0] T_pack_Writer)) → 
 SCalls Try.prog pack_Writer_Byte.id [.pointer (some (Addr.mk b 0 none)), .int .u8 (IntKind.u8.wrap (kind))] H1 (fun r H2 => ∃ x : Option Addr, r = .pointer x ∧ 
 SCalls Try.prog pack_Writer_Num.id [.pointer x, .int .i64 fromv] H2 (fun r1 H3 => ∃ x1 : Option Addr, r1 = .pointer x1 ∧ 
 SCalls Try.prog pack_Writer_Num.id [.pointer x1, .int .i64 to] H3 (fun r2 H4 => ∃ x2 : Option Addr, r2 = .pointer x2 ∧ 
 SCalls Try.prog pack_Writer_Bytes.id [.pointer x2] H4 (fun r3 H5 => ∃ x3 : Sl, r3 = .slice x3.a x3.len x3.cap ∧ 
 SCalls Try.prog frame_Make.id [.slice x3.a x3.len x3.cap] H5 (fun r4 H6 => ∃ x4 : Sl, ∃ x5 : Int, r4 = .tuple #[.slice x4.a x4.len x4.cap, .int .i64 x5] ∧ vB2S H6 x4.a x4.len (fun s => Q (.string s) H6))))))
theorem tephralaw09_head.eq (J : Jn) (kind : Int) (fromv : Int) (to : Int) (H : Hp) (Q : Value → Hp → Prop) : vFn Try.prog tephralaw09_head.cf J tephralaw09_head.fn [.int .i64 kind, .int .i64 fromv, .int .i64 to] H Q = tephralaw09_head.vc J kind fromv to H Q := by kernel_rfl
theorem tephralaw09_head.calls {kind : Int} {fromv : Int} {to : Int} {H : Hp} {Q : Value → Hp → Prop} (h : tephralaw09_head.vc J0 kind fromv to H Q) : SCalls Try.prog tephralaw09_head.id [.int .i64 kind, .int .i64 fromv, .int .i64 to] H Q := vFn_of Try.mixed Try.func12 (tephralaw09_head.eq J0 kind fromv to H Q) h

/-! 13: tephra/tephralaw09.form -/
noncomputable def tephralaw09_form.cf : Cfg := ⟨[1000003], [], [], [], true, []⟩
noncomputable def tephralaw09_form.vc (J : Jn) (b : Sl) (H : Hp) (Q : Value → Hp → Prop) : Prop :=
 
 SCalls Try.prog frame_Make.id [.slice b.a b.len b.cap] H (fun r H1 => ∃ x : Sl, ∃ x1 : Int, r = .tuple #[.slice x.a x.len x.cap, .int .i64 x1] ∧ vB2S H1 x.a x.len (fun s => Q (.string s) H1))
theorem tephralaw09_form.eq (J : Jn) (b : Sl) (H : Hp) (Q : Value → Hp → Prop) : vFn Try.prog tephralaw09_form.cf J tephralaw09_form.fn [.slice b.a b.len b.cap] H Q = tephralaw09_form.vc J b H Q := by kernel_rfl
theorem tephralaw09_form.calls {b : Sl} {H : Hp} {Q : Value → Hp → Prop} (h : tephralaw09_form.vc J0 b H Q) : SCalls Try.prog tephralaw09_form.id [.slice b.a b.len b.cap] H Q := vFn_of Try.mixed Try.func13 (tephralaw09_form.eq J0 b H Q) h

/-! 14: tephra/cmds.Bytes -/
noncomputable def cmds_Bytes.cf : Cfg := ⟨[1], [], [], [], true, []⟩
noncomputable def cmds_Bytes.vc (J : Jn) (eIndex : Int) (eTerm : Int) (eCmdOp : Int) (eCmdClient : Int) (eCmdSeq : Int) (eCmdKey : ByteArray) (eCmdValue : ByteArray) (eCmdOld : ByteArray) (H : Hp) (Q : Value → Hp → Prop) : Prop :=
 
 SCalls Try.prog pack_Writer_Num.id [.pointer (some (Addr.mk (Array.size (holes H 1)) 0 none)), .int .i64 eIndex] (Array.push (holes H 1) (.cells #[.slice none 0 0] T_pack_Writer)) (fun r H1 => ∃ x : Option Addr, r = .pointer x ∧ 
 SCalls Try.prog pack_Writer_Num.id [.pointer x, .int .i64 eTerm] H1 (fun r1 H2 => ∃ x1 : Option Addr, r1 = .pointer x1 ∧ 
 SCalls Try.prog cmds_put.id [.pointer (some (Addr.mk (Array.size (holes H 1)) 0 none)), .agg #[.int .i64 eCmdOp, .int .i64 eCmdClient, .int .i64 eCmdSeq, .string eCmdKey, .string eCmdValue, .string eCmdOld]] H2 (fun r2 H3 => r2 = .tuple #[] ∧ 
 SCalls Try.prog pack_Writer_Bytes.id [.pointer (some (Addr.mk (Array.size (holes H 1)) 0 none))] H3 (fun r3 H4 => ∃ x2 : Sl, r3 = .slice x2.a x2.len x2.cap ∧ Q (.slice x2.a x2.len x2.cap) H4))))
theorem cmds_Bytes.eq (J : Jn) (eIndex : Int) (eTerm : Int) (eCmdOp : Int) (eCmdClient : Int) (eCmdSeq : Int) (eCmdKey : ByteArray) (eCmdValue : ByteArray) (eCmdOld : ByteArray) (H : Hp) (Q : Value → Hp → Prop) : vFn Try.prog cmds_Bytes.cf J cmds_Bytes.fn [.agg #[.int .i64 eIndex, .int .i64 eTerm, .int .i64 eCmdOp, .int .i64 eCmdClient, .int .i64 eCmdSeq, .string eCmdKey, .string eCmdValue, .string eCmdOld]] H Q = cmds_Bytes.vc J eIndex eTerm eCmdOp eCmdClient eCmdSeq eCmdKey eCmdValue eCmdOld H Q := by kernel_rfl
theorem cmds_Bytes.calls {eIndex : Int} {eTerm : Int} {eCmdOp : Int} {eCmdClient : Int} {eCmdSeq : Int} {eCmdKey : ByteArray} {eCmdValue : ByteArray} {eCmdOld : ByteArray} {H : Hp} {Q : Value → Hp → Prop} (h : cmds_Bytes.vc J0 eIndex eTerm eCmdOp eCmdClient eCmdSeq eCmdKey eCmdValue eCmdOld H Q) : SCalls Try.prog cmds_Bytes.id [.agg #[.int .i64 eIndex, .int .i64 eTerm, .int .i64 eCmdOp, .int .i64 eCmdClient, .int .i64 eCmdSeq, .string eCmdKey, .string eCmdValue, .string eCmdOld]] H Q := vFn_of Try.mixed Try.func14 (cmds_Bytes.eq J0 eIndex eTerm eCmdOp eCmdClient eCmdSeq eCmdKey eCmdValue eCmdOld H Q) h

/-! 15: tephra/image.ReadPart -/
noncomputable def image_ReadPart.cf : Cfg := ⟨[13, 1000003], [(6, [1, 8, 10, 35, 36, 37])], [(3, [1, 7, 8, 33], true)], [], true, []⟩
noncomputable def image_ReadPart.k1.st (fromv : Int) (x : Sl) (x1 : Int) (x8 : Bool) (H5 : Hp) : VS := ⟨mkFr 60 [(1, .v (.int .i64 fromv)), (7, .v (.slice x.a x.len x.cap)), (8, .v (.int .i64 x1)), (33, .v (.bool x8))], [], H5⟩
noncomputable def image_ReadPart.k1 (J : Jn) (fromv : Int) (x : Sl) (x1 : Int) (x8 : Bool) (H5 : Hp) (Q : Value → Hp → Prop) : Prop := J (vSeg Try.prog image_ReadPart.cf J image_ReadPart.fn [1, 1, 0, 1] [0, 0, 0, 0] Q) (image_ReadPart.k1.st fromv x x1 x8 H5)
noncomputable def image_ReadPart.l1.st (fromv : Int) (x : Sl) (x1 : Int) (H6 : Hp) (out : Sl) (x9 : Int) : VS := ⟨mkFr 60 [(1, .v (.int .i64 fromv)), (8, .v (.int .i64 x1)), (10, .v (.slice out.a out.len out.cap)), (35, .v (.slice (cutA x.a x.cap 1 1) (x.len - 1) (x.cap - 1))), (36, .v (.int .i64 (((x.len - 1) : Nat) : Int))), (37, .v (.int .i64 x9))], [], H6⟩
noncomputable def image_ReadPart.l1 (J : Jn) (fromv : Int) (x : Sl) (x1 : Int) (H6 : Hp) (out : Sl) (x9 : Int) (Q : Value → Hp → Prop) : Prop := vAt Try.prog image_ReadPart.cf J image_ReadPart.fn [1, 1, 1, 1, 0, 1, 0] [0, 0, 0, 0, 0, 0] Q (image_ReadPart.l1.st fromv x x1 H6 out x9)
attribute [irreducible] image_ReadPart.k1 image_ReadPart.l1
noncomputable def image_ReadPart.k1.body (J : Jn) (fromv : Int) (x : Sl) (x1 : Int) (x8 : Bool) (H5 : Hp) (Q : Value → Hp → Prop) : Prop :=
 
 Br x8 (Q (.tuple #[.slice none 0 0, .int .i64 0, .int .i64 10]) H5)
 (((0 : Int) ≤ 1 ∧ (1 : Int) ≤ ((x.len : Nat) : Int)) ∧ 
 image_ReadPart.l1 J fromv x x1 H5 (Sl.mk none 0 0) 0 Q)
theorem image_ReadPart.k1.eq (J : Jn) (fromv : Int) (x : Sl) (x1 : Int) (x8 : Bool) (H5 : Hp) (Q : Value → Hp → Prop) : vSeg Try.prog image_ReadPart.cf J image_ReadPart.fn [1, 1, 0, 1] [0, 0, 0, 0] Q (image_ReadPart.k1.st fromv x x1 x8 H5) = image_ReadPart.k1.body J fromv x x1 x8 H5 Q := by kernel_rfl
theorem image_ReadPart.k1.step {fromv : Int} {x : Sl} {x1 : Int} {x8 : Bool} {H5 : Hp} {Q : Value → Hp → Prop} (h : image_ReadPart.k1.body J0 fromv x x1 x8 H5 Q) : image_ReadPart.k1 J0 fromv x x1 x8 H5 Q := step_of (vSeg Try.prog image_ReadPart.cf J0 image_ReadPart.fn [1, 1, 0, 1] [0, 0, 0, 0] Q) (image_ReadPart.k1.st fromv x x1 x8 H5) (image_ReadPart.k1.eq J0 fromv x x1 x8 H5 Q) (by kernel_rfl) h
noncomputable def image_ReadPart.l1.body (J : Jn) (fromv : Int) (x : Sl) (x1 : Int) (H6 : Hp) (out : Sl) (x9 : Int) (Q : Value → Hp → Prop) : Prop :=
 
 Br (decide (x9 < (((x.len - 1) : Nat) : Int))) (((0 : Int) ≤ x9 ∧ x9 < (((x.len - 1) : Nat) : Int)) ∧ vPtr (cutA x.a x.cap 1 1) (fun a1 => ∃ x10 : Sl, Hp.cell? H6 (a1.add ((x9 : Int).toNat * 1)) = some (.slice x10.a x10.len x10.cap) ∧ 
 SCalls Try.prog cmds_Read.id [.slice x10.a x10.len x10.cap] H6 (fun r4 H7 => ∃ Index : Int, ∃ Term : Int, ∃ CmdOp : Int, ∃ CmdClient : Int, ∃ CmdSeq : Int, ∃ CmdKey : ByteArray, ∃ CmdValue : ByteArray, ∃ CmdOld : ByteArray, ∃ x11 : Bool, r4 = .tuple #[.agg #[.int .i64 Index, .int .i64 Term, .int .i64 CmdOp, .int .i64 CmdClient, .int .i64 CmdSeq, .string CmdKey, .string CmdValue, .string CmdOld], .bool x11] ∧ ∀ H8 : Hp, H8 = (holes H7 1) → 
 Br (!x11) (Q (.tuple #[.slice none 0 0, .int .i64 0, .int .i64 10]) H8)
 (∀ b1 : Nat, b1 = Array.size H8 → ∀ H9 : Hp, H9 = (Array.push H8 (.cells #[.int .i64 Index, .int .i64 Term, .int .i64 CmdOp, .int .i64 CmdClient, .int .i64 CmdSeq, .string CmdKey, .string CmdValue, .string CmdOld] T_api_Entry)) → 
 vApp Try.prog T_sl_api_Entry out.a out.len out.cap (.slice (some (Addr.mk b1 0 none)) 1 1) H9 (fun ap H10 => 
 image_ReadPart.l1 J fromv x x1 H10 ap (w64 (x9 + 1)) Q)))))
 (
 SCalls Try.prog cmds_Row.id [.slice out.a out.len out.cap, .int .i64 (w64 (fromv + 1))] H6 (fun r5 H11 => ∃ x12 : Bool, r5 = .bool x12 ∧ 
 Br (!x12) (Q (.tuple #[.slice none 0 0, .int .i64 0, .int .i64 10]) H11)
 (Q (.tuple #[.slice out.a out.len out.cap, .int .i64 x1, .int .i64 0]) H11)))
theorem image_ReadPart.l1.eq (J : Jn) (fromv : Int) (x : Sl) (x1 : Int) (H6 : Hp) (out : Sl) (x9 : Int) (Q : Value → Hp → Prop) : vAtBody Try.prog image_ReadPart.cf J image_ReadPart.fn [1, 1, 1, 1, 0, 1, 0] [0, 0, 0, 0, 0, 0] Q (image_ReadPart.l1.st fromv x x1 H6 out x9) = image_ReadPart.l1.body J fromv x x1 H6 out x9 Q := by kernel_rfl
theorem image_ReadPart.l1.step {fromv : Int} {x : Sl} {x1 : Int} {H6 : Hp} {out : Sl} {x9 : Int} {Q : Value → Hp → Prop} (h : image_ReadPart.l1.body J0 fromv x x1 H6 out x9 Q) : image_ReadPart.l1 J0 fromv x x1 H6 out x9 Q := vAt_stepC (image_ReadPart.l1.st fromv x x1 H6 out x9) (image_ReadPart.l1.eq J0 fromv x x1 H6 out x9 Q) (by kernel_rfl) h
noncomputable def image_ReadPart.vc (J : Jn) (b : Sl) (fromv : Int) (H : Hp) (Q : Value → Hp → Prop) : Prop :=
 
 SCalls Try.prog image_rows.id [.slice b.a b.len b.cap, .int .i64 2, .int .i64 0] H (fun r H1 => ∃ x : Sl, ∃ x1 : Int, ∃ x2 : Int, r = .tuple #[.slice x.a x.len x.cap, .int .i64 x1, .int .i64 x2] ∧ 
 Br (x2 != 0) (
  (
  (
 image_ReadPart.k1 J fromv x x1 true H1 Q) ∧ 
  (
  (
 image_ReadPart.k1 J fromv x x1 true H1 Q) ∧ 
  (
 image_ReadPart.k1 J fromv x x1 true H1 Q))) ∧ 
  (
  (
 image_ReadPart.k1 J fromv x x1 true H1 Q) ∧ 
  (
 image_ReadPart.k1 J fromv x x1 true H1 Q)))
 (((0 : Int) ≤ 0 ∧ (0 : Int) < ((x.len : Nat) : Int)) ∧ vPtr x.a (fun a => 
  (∃ x3 : Sl, Hp.cell? H1 a = some (.slice x3.a x3.len x3.cap) ∧ 
  (vB2S H1 x3.a x3.len (fun s => 
 SCalls Try.prog image_head.id [.int .i64 2, .int .i64 fromv, .int .i64 fromv] H1 (fun r1 H2 => ∃ x4 : Sl, r1 = .slice x4.a x4.len x4.cap ∧ vB2S H2 x4.a x4.len (fun s1 => 
 image_ReadPart.k1 J fromv x x1 (!(s.toList == s1.toList)) H2 Q)))) ∧ 
  (
 SCalls Try.prog image_head.id [.int .i64 2, .int .i64 fromv, .int .i64 fromv] H1 (fun r2 H3 => ∃ x5 : Sl, r2 = .slice x5.a x5.len x5.cap ∧ 
  (vB2S H3 x3.a x3.len (fun s2 => vB2S H3 x5.a x5.len (fun s3 => 
 image_ReadPart.k1 J fromv x x1 (!(s2.toList == s3.toList)) H3 Q))) ∧ 
  (vB2S H3 x5.a x5.len (fun s4 => vB2S H3 x3.a x3.len (fun s5 => 
 image_ReadPart.k1 J fromv x x1 (!(s5.toList == s4.toList)) H3 Q)))))) ∧ 
  (
 SCalls Try.prog image_head.id [.int .i64 2, .int .i64 fromv, .int .i64 fromv] H1 (fun r3 H4 => ∃ x6 : Sl, r3 = .slice x6.a x6.len x6.cap ∧ ∃ x7 : Sl, Hp.cell? H4 a = some (.slice x7.a x7.len x7.cap) ∧ 
  (vB2S H4 x7.a x7.len (fun s6 => vB2S H4 x6.a x6.len (fun s7 => 
 image_ReadPart.k1 J fromv x x1 (!(s6.toList == s7.toList)) H4 Q))) ∧ 
  (vB2S H4 x6.a x6.len (fun s8 => vB2S H4 x7.a x7.len (fun s9 => 
 image_ReadPart.k1 J fromv x x1 (!(s9.toList == s8.toList)) H4 Q))))))))
theorem image_ReadPart.eq (J : Jn) (b : Sl) (fromv : Int) (H : Hp) (Q : Value → Hp → Prop) : vFn Try.prog image_ReadPart.cf J image_ReadPart.fn [.slice b.a b.len b.cap, .int .i64 fromv] H Q = image_ReadPart.vc J b fromv H Q := by kernel_rfl
theorem image_ReadPart.calls {b : Sl} {fromv : Int} {H : Hp} {Q : Value → Hp → Prop} (h : image_ReadPart.vc J0 b fromv H Q) : SCalls Try.prog image_ReadPart.id [.slice b.a b.len b.cap, .int .i64 fromv] H Q := vFn_of Try.mixed Try.func15 (image_ReadPart.eq J0 b fromv H Q) h

/-! 16: tephra/cmds.Row -/
noncomputable def cmds_Row.cf : Cfg := ⟨[6], [(2, [0, 1, 7, 8, 9])], [], [], true, []⟩
noncomputable def cmds_Row.l1.st (es : Sl) (fromv : Int) (H1 : Hp) (x : Int) : VS := ⟨mkFr 41 [(0, .v (.slice es.a es.len es.cap)), (1, .v (.int .i64 fromv)), (7, .v (.slice es.a es.len es.cap)), (8, .v (.int .i64 ((es.len : Nat) : Int))), (9, .v (.int .i64 x))], [], H1⟩
noncomputable def cmds_Row.l1 (J : Jn) (es : Sl) (fromv : Int) (H1 : Hp) (x : Int) (Q : Value → Hp → Prop) : Prop := vAt Try.prog cmds_Row.cf J cmds_Row.fn [1, 0, 1, 0] [0, 0, 0] Q (cmds_Row.l1.st es fromv H1 x)
attribute [irreducible] cmds_Row.l1
noncomputable def cmds_Row.l1.body (J : Jn) (es : Sl) (fromv : Int) (H1 : Hp) (x : Int) (Q : Value → Hp → Prop) : Prop :=
 
 Br (decide (x < ((es.len : Nat) : Int))) (((0 : Int) ≤ x ∧ x < ((es.len : Nat) : Int)) ∧ vPtr es.a (fun a => ∃ Index : Int, ∃ Term : Int, ∃ CmdOp : Int, ∃ CmdClient : Int, ∃ CmdSeq : Int, ∃ CmdKey : ByteArray, ∃ CmdValue : ByteArray, ∃ CmdOld : ByteArray, RowAt H1 (a.add ((x : Int).toNat * 8)) [.int .i64 Index, .int .i64 Term, .int .i64 CmdOp, .int .i64 CmdClient, .int .i64 CmdSeq, .string CmdKey, .string CmdValue, .string CmdOld] ∧ 
 SCalls Try.prog cmds_Right.id [.agg #[.int .i64 Index, .int .i64 Term, .int .i64 CmdOp, .int .i64 CmdClient, .int .i64 CmdSeq, .string CmdKey, .string CmdValue, .string CmdOld]] (holes H1 1) (fun r H2 => ∃ x1 : Bool, r = .bool x1 ∧ 
 Br (!x1) (Q (.bool false) H2)
 (
 Br (Index != (w64 (fromv + x))) (Q (.bool false) H2)
 (
 Br (decide (x > 0)) (((0 : Int) ≤ (w64 (x - 1)) ∧ (w64 (x - 1)) < ((es.len : Nat) : Int)) ∧ vPtr es.a (fun a1 => ∃ Term1 : Int, Hp.cell? H2 ((a1.add (((w64 (x - 1)) : Int).toNat * 8)).add 1) = some (.int .i64 Term1) ∧ 
 Br (decide (Term < Term1)) (Q (.bool false) H2)
 (
 cmds_Row.l1 J es fromv H2 (w64 (x + 1)) Q)))
 (
 cmds_Row.l1 J es fromv H2 (w64 (x + 1)) Q))))))
 (Q (.bool true) H1)
theorem cmds_Row.l1.eq (J : Jn) (es : Sl) (fromv : Int) (H1 : Hp) (x : Int) (Q : Value → Hp → Prop) : vAtBody Try.prog cmds_Row.cf J cmds_Row.fn [1, 0, 1, 0] [0, 0, 0] Q (cmds_Row.l1.st es fromv H1 x) = cmds_Row.l1.body J es fromv H1 x Q := by kernel_rfl
theorem cmds_Row.l1.step {es : Sl} {fromv : Int} {H1 : Hp} {x : Int} {Q : Value → Hp → Prop} (h : cmds_Row.l1.body J0 es fromv H1 x Q) : cmds_Row.l1 J0 es fromv H1 x Q := vAt_stepC (cmds_Row.l1.st es fromv H1 x) (cmds_Row.l1.eq J0 es fromv H1 x Q) (by kernel_rfl) h
noncomputable def cmds_Row.vc (J : Jn) (es : Sl) (fromv : Int) (H : Hp) (Q : Value → Hp → Prop) : Prop :=
 
 cmds_Row.l1 J es fromv H 0 Q
theorem cmds_Row.eq (J : Jn) (es : Sl) (fromv : Int) (H : Hp) (Q : Value → Hp → Prop) : vFn Try.prog cmds_Row.cf J cmds_Row.fn [.slice es.a es.len es.cap, .int .i64 fromv] H Q = cmds_Row.vc J es fromv H Q := by kernel_rfl
theorem cmds_Row.calls {es : Sl} {fromv : Int} {H : Hp} {Q : Value → Hp → Prop} (h : cmds_Row.vc J0 es fromv H Q) : SCalls Try.prog cmds_Row.id [.slice es.a es.len es.cap, .int .i64 fromv] H Q := vFn_of Try.mixed Try.func16 (cmds_Row.eq J0 es fromv H Q) h

/-! 17: tephra/cmds.Read -/
noncomputable def cmds_Read.cf : Cfg := ⟨[2, 5], [], [], [], true, []⟩
noncomputable def cmds_Read.vc (J : Jn) (b : Sl) (H : Hp) (Q : Value → Hp → Prop) : Prop :=
 
 SCalls Try.prog pack_Of.id [.slice b.a b.len b.cap] (holes H 1) (fun r H1 => ∃ x : Option Addr, r = .pointer x ∧ 
 SCalls Try.prog pack_Reader_Num.id [.pointer x] H1 (fun r1 H2 => ∃ x1 : Int, r1 = .int .i64 x1 ∧ 
 SCalls Try.prog pack_Reader_Num.id [.pointer x] (holes H2 1) (fun r2 H3 => ∃ x2 : Int, r2 = .int .i64 x2 ∧ 
 SCalls Try.prog cmds_get.id [.pointer x] H3 (fun r3 H4 => ∃ Opv : Int, ∃ Client : Int, ∃ Seq : Int, ∃ Key : ByteArray, ∃ Valuev : ByteArray, ∃ Old : ByteArray, r3 = .agg #[.int .i64 Opv, .int .i64 Client, .int .i64 Seq, .string Key, .string Valuev, .string Old] ∧ 
 SCalls Try.prog pack_Reader_Done.id [.pointer x] H4 (fun r4 H5 => ∃ x3 : Bool, r4 = .bool x3 ∧ 
 Br (!x3) (Q (.tuple #[.agg #[.int .i64 0, .int .i64 0, .int .i64 0, .int .i64 0, .int .i64 0, .string (ByteArray.mk #[]), .string (ByteArray.mk #[]), .string (ByteArray.mk #[])], .bool false]) H5)
 (
 SCalls Try.prog cmds_Right.id [.agg #[.int .i64 x1, .int .i64 x2, .int .i64 Opv, .int .i64 Client, .int .i64 Seq, .string Key, .string Valuev, .string Old]] H5 (fun r5 H6 => ∃ x4 : Bool, r5 = .bool x4 ∧ 
 Br (!x4) (Q (.tuple #[.agg #[.int .i64 0, .int .i64 0, .int .i64 0, .int .i64 0, .int .i64 0, .string (ByteArray.mk #[]), .string (ByteArray.mk #[]), .string (ByteArray.mk #[])], .bool false]) H6)
 (Q (.tuple #[.agg #[.int .i64 x1, .int .i64 x2, .int .i64 Opv, .int .i64 Client, .int .i64 Seq, .string Key, .string Valuev, .string Old], .bool true]) H6))))))))
theorem cmds_Read.eq (J : Jn) (b : Sl) (H : Hp) (Q : Value → Hp → Prop) : vFn Try.prog cmds_Read.cf J cmds_Read.fn [.slice b.a b.len b.cap] H Q = cmds_Read.vc J b H Q := by kernel_rfl
theorem cmds_Read.calls {b : Sl} {H : Hp} {Q : Value → Hp → Prop} (h : cmds_Read.vc J0 b H Q) : SCalls Try.prog cmds_Read.id [.slice b.a b.len b.cap] H Q := vFn_of Try.mixed Try.func17 (cmds_Read.eq J0 b H Q) h

/-! 19: tephra/image.Full -/
noncomputable def image_Full.cf : Cfg := ⟨[1, 1000003], [], [], [], true, []⟩
noncomputable def image_Full.vc (J : Jn) (sIndex : Int) (sTerm : Int) (sPairs : Sl) (sSessions : Sl) (H : Hp) (Q : Value → Hp → Prop) : Prop :=
 ∀ H1 : Hp, H1 = (holes H 1) → 
 SCalls Try.prog image_head.id [.int .i64 0, .int .i64 sIndex, .int .i64 sIndex] H1 (fun r H2 => ∃ x : Sl, r = .slice x.a x.len x.cap ∧ 
 SCalls Try.prog state_Bytes.id [.agg #[.int .i64 sIndex, .int .i64 sTerm, .slice sPairs.a sPairs.len sPairs.cap, .slice sSessions.a sSessions.len sSessions.cap]] H2 (fun r1 H3 => ∃ x1 : Sl, r1 = .slice x1.a x1.len x1.cap ∧ ∀ b : Nat, b = Array.size H3 → ∀ H4 : Hp, H4 = (Array.push H3 (.cells #[.slice x.a x.len x.cap, .slice x1.a x1.len x1.cap] T_sl_uint8)) → 
 SCalls Try.prog image_frames.id [.slice (some (Addr.mk b 0 none)) 2 2] H4 (fun r2 H5 => ∃ x2 : Sl, ∃ x3 : Int, r2 = .tuple #[.slice x2.a x2.len x2.cap, .int .i64 x3] ∧ Q (.tuple #[.slice x2.a x2.len x2.cap, .int .i64 x3]) H5)))
theorem image_Full.eq (J : Jn) (sIndex : Int) (sTerm : Int) (sPairs : Sl) (sSessions : Sl) (H : Hp) (Q : Value → Hp → Prop) : vFn Try.prog image_Full.cf J image_Full.fn [.agg #[.int .i64 sIndex, .int .i64 sTerm, .slice sPairs.a sPairs.len sPairs.cap, .slice sSessions.a sSessions.len sSessions.cap]] H Q = image_Full.vc J sIndex sTerm sPairs sSessions H Q := by kernel_rfl
theorem image_Full.calls {sIndex : Int} {sTerm : Int} {sPairs : Sl} {sSessions : Sl} {H : Hp} {Q : Value → Hp → Prop} (h : image_Full.vc J0 sIndex sTerm sPairs sSessions H Q) : SCalls Try.prog image_Full.id [.agg #[.int .i64 sIndex, .int .i64 sTerm, .slice sPairs.a sPairs.len sPairs.cap, .slice sSessions.a sSessions.len sSessions.cap]] H Q := vFn_of Try.mixed Try.func19 (image_Full.eq J0 sIndex sTerm sPairs sSessions H Q) h

/-! 20: tephra/image.ReadFull -/
noncomputable def image_ReadFull.cf : Cfg := ⟨[2, 7, 1000003], [], [], [], true, []⟩
noncomputable def image_ReadFull.vc (J : Jn) (b : Sl) (H : Hp) (Q : Value → Hp → Prop) : Prop :=
 ∀ H1 : Hp, H1 = (holes H 1) → 
 SCalls Try.prog image_rows.id [.slice b.a b.len b.cap, .int .i64 0, .int .i64 2] H1 (fun r H2 => ∃ x : Sl, ∃ x1 : Int, ∃ x2 : Int, r = .tuple #[.slice x.a x.len x.cap, .int .i64 x1, .int .i64 x2] ∧ 
 Br (x2 != 0) (Q (.tuple #[.agg #[.int .i64 0, .int .i64 0, .slice none 0 0, .slice none 0 0], .int .i64 x2]) H2)
 (((0 : Int) ≤ 1 ∧ (1 : Int) < ((x.len : Nat) : Int)) ∧ vPtr x.a (fun a => ∃ x3 : Sl, Hp.cell? H2 (a.add 1) = some (.slice x3.a x3.len x3.cap) ∧ 
 SCalls Try.prog state_Read.id [.slice x3.a x3.len x3.cap] H2 (fun r1 H3 => ∃ Index : Int, ∃ Term : Int, ∃ Pairs : Sl, ∃ Sessions : Sl, ∃ x4 : Bool, r1 = .tuple #[.agg #[.int .i64 Index, .int .i64 Term, .slice Pairs.a Pairs.len Pairs.cap, .slice Sessions.a Sessions.len Sessions.cap], .bool x4] ∧ ∀ H4 : Hp, H4 = (holes H3 1) → 
 Br (!x4) (
  (
  (Q (.tuple #[.agg #[.int .i64 0, .int .i64 0, .slice none 0 0, .slice none 0 0], .int .i64 10]) H4) ∧ 
  (
  (Q (.tuple #[.agg #[.int .i64 0, .int .i64 0, .slice none 0 0, .slice none 0 0], .int .i64 10]) H4) ∧ 
  (Q (.tuple #[.agg #[.int .i64 0, .int .i64 0, .slice none 0 0, .slice none 0 0], .int .i64 10]) H4))) ∧ 
  (
  (Q (.tuple #[.agg #[.int .i64 0, .int .i64 0, .slice none 0 0, .slice none 0 0], .int .i64 10]) H4) ∧ 
  (Q (.tuple #[.agg #[.int .i64 0, .int .i64 0, .slice none 0 0, .slice none 0 0], .int .i64 10]) H4)))
 (((0 : Int) ≤ 0 ∧ (0 : Int) < ((x.len : Nat) : Int)) ∧ vPtr x.a (fun a1 => 
  (∃ x5 : Sl, Hp.cell? H4 a1 = some (.slice x5.a x5.len x5.cap) ∧ 
  (vB2S H4 x5.a x5.len (fun s => 
 SCalls Try.prog image_head.id [.int .i64 0, .int .i64 Index, .int .i64 Index] H4 (fun r2 H5 => ∃ x6 : Sl, r2 = .slice x6.a x6.len x6.cap ∧ vB2S H5 x6.a x6.len (fun s1 => 
 Br (!(s.toList == s1.toList)) (Q (.tuple #[.agg #[.int .i64 0, .int .i64 0, .slice none 0 0, .slice none 0 0], .int .i64 10]) H5)
 (Q (.tuple #[.agg #[.int .i64 Index, .int .i64 Term, .slice Pairs.a Pairs.len Pairs.cap, .slice Sessions.a Sessions.len Sessions.cap], .int .i64 0]) H5))))) ∧ 
  (
 SCalls Try.prog image_head.id [.int .i64 0, .int .i64 Index, .int .i64 Index] H4 (fun r3 H6 => ∃ x7 : Sl, r3 = .slice x7.a x7.len x7.cap ∧ 
  (vB2S H6 x5.a x5.len (fun s2 => vB2S H6 x7.a x7.len (fun s3 => 
 Br (!(s2.toList == s3.toList)) (Q (.tuple #[.agg #[.int .i64 0, .int .i64 0, .slice none 0 0, .slice none 0 0], .int .i64 10]) H6)
 (Q (.tuple #[.agg #[.int .i64 Index, .int .i64 Term, .slice Pairs.a Pairs.len Pairs.cap, .slice Sessions.a Sessions.len Sessions.cap], .int .i64 0]) H6)))) ∧ 
  (vB2S H6 x7.a x7.len (fun s4 => vB2S H6 x5.a x5.len (fun s5 => 
 Br (!(s5.toList == s4.toList)) (Q (.tuple #[.agg #[.int .i64 0, .int .i64 0, .slice none 0 0, .slice none 0 0], .int .i64 10]) H6)
 (Q (.tuple #[.agg #[.int .i64 Index, .int .i64 Term, .slice Pairs.a Pairs.len Pairs.cap, .slice Sessions.a Sessions.len Sessions.cap], .int .i64 0]) H6))))))) ∧ 
  (
 SCalls Try.prog image_head.id [.int .i64 0, .int .i64 Index, .int .i64 Index] H4 (fun r4 H7 => ∃ x8 : Sl, r4 = .slice x8.a x8.len x8.cap ∧ ∃ x9 : Sl, Hp.cell? H7 a1 = some (.slice x9.a x9.len x9.cap) ∧ 
  (vB2S H7 x9.a x9.len (fun s6 => vB2S H7 x8.a x8.len (fun s7 => 
 Br (!(s6.toList == s7.toList)) (Q (.tuple #[.agg #[.int .i64 0, .int .i64 0, .slice none 0 0, .slice none 0 0], .int .i64 10]) H7)
 (Q (.tuple #[.agg #[.int .i64 Index, .int .i64 Term, .slice Pairs.a Pairs.len Pairs.cap, .slice Sessions.a Sessions.len Sessions.cap], .int .i64 0]) H7)))) ∧ 
  (vB2S H7 x8.a x8.len (fun s8 => vB2S H7 x9.a x9.len (fun s9 => 
 Br (!(s9.toList == s8.toList)) (Q (.tuple #[.agg #[.int .i64 0, .int .i64 0, .slice none 0 0, .slice none 0 0], .int .i64 10]) H7)
 (Q (.tuple #[.agg #[.int .i64 Index, .int .i64 Term, .slice Pairs.a Pairs.len Pairs.cap, .slice Sessions.a Sessions.len Sessions.cap], .int .i64 0]) H7))))))))))))
theorem image_ReadFull.eq (J : Jn) (b : Sl) (H : Hp) (Q : Value → Hp → Prop) : vFn Try.prog image_ReadFull.cf J image_ReadFull.fn [.slice b.a b.len b.cap] H Q = image_ReadFull.vc J b H Q := by kernel_rfl
theorem image_ReadFull.calls {b : Sl} {H : Hp} {Q : Value → Hp → Prop} (h : image_ReadFull.vc J0 b H Q) : SCalls Try.prog image_ReadFull.id [.slice b.a b.len b.cap] H Q := vFn_of Try.mixed Try.func20 (image_ReadFull.eq J0 b H Q) h

/-! 22: tephra/state.Bytes -/
noncomputable def state_Bytes.cf : Cfg := ⟨[1, 1000003], [], [(3, [1, 3], true)], [], true, []⟩
noncomputable def state_Bytes.k1.st (sIndex : Int) (sTerm : Int) (sPairs : Sl) (sSessions : Sl) (b : Nat) (H4 : Hp) : VS := ⟨mkFr 21 [(1, .loc 0 0), (3, .v (.pointer (some (Addr.mk b 0 none))))], [(T_api_State, [.int .i64 sIndex, .int .i64 sTerm, .slice sPairs.a sPairs.len sPairs.cap, .slice sSessions.a sSessions.len sSessions.cap])], H4⟩
noncomputable def state_Bytes.k1 (J : Jn) (sIndex : Int) (sTerm : Int) (sPairs : Sl) (sSessions : Sl) (b : Nat) (H4 : Hp) (Q : Value → Hp → Prop) : Prop := J (vSeg Try.prog state_Bytes.cf J state_Bytes.fn [1, 1, 1] [0, 1, 1] Q) (state_Bytes.k1.st sIndex sTerm sPairs sSessions b H4)
attribute [irreducible] state_Bytes.k1
noncomputable def state_Bytes.k1.body (J : Jn) (sIndex : Int) (sTerm : Int) (sPairs : Sl) (sSessions : Sl) (b : Nat) (H4 : Hp) (Q : Value → Hp → Prop) : Prop :=
 
 SCalls Try.prog state_PutRows.id [.pointer (some (Addr.mk b 0 none)), .slice sPairs.a sPairs.len sPairs.cap, .slice sSessions.a sSessions.len sSessions.cap] H4 (fun r2 H5 => r2 = .tuple #[] ∧ 
 SCalls Try.prog pack_Writer_Bytes.id [.pointer (some (Addr.mk b 0 none))] H5 (fun r3 H6 => ∃ x2 : Sl, r3 = .slice x2.a x2.len x2.cap ∧ Q (.slice x2.a x2.len x2.cap) H6))
theorem state_Bytes.k1.eq (J : Jn) (sIndex : Int) (sTerm : Int) (sPairs : Sl) (sSessions : Sl) (b : Nat) (H4 : Hp) (Q : Value → Hp → Prop) : vSeg Try.prog state_Bytes.cf J state_Bytes.fn [1, 1, 1] [0, 1, 1] Q (state_Bytes.k1.st sIndex sTerm sPairs sSessions b H4) = state_Bytes.k1.body J sIndex sTerm sPairs sSessions b H4 Q := by kernel_rfl
theorem state_Bytes.k1.step {sIndex : Int} {sTerm : Int} {sPairs : Sl} {sSessions : Sl} {b : Nat} {H4 : Hp} {Q : Value → Hp → Prop} (h : state_Bytes.k1.body J0 sIndex sTerm sPairs sSessions b H4 Q) : state_Bytes.k1 J0 sIndex sTerm sPairs sSessions b H4 Q := step_of (vSeg Try.prog state_Bytes.cf J0 state_Bytes.fn [1, 1, 1] [0, 1, 1] Q) (state_Bytes.k1.st sIndex sTerm sPairs sSessions b H4) (state_Bytes.k1.eq J0 sIndex sTerm sPairs sSessions b H4 Q) (by kernel_rfl) h
noncomputable def state_Bytes.vc (J : Jn) (sIndex : Int) (sTerm : Int) (sPairs : Sl) (sSessions : Sl) (H : Hp) (Q : Value → Hp → Prop) : Prop :=
 ∀ H1 : Hp, H1 = (holes H 1) → ∀ b : Nat, b = Array.size H1 → ∀ H2 : Hp, H2 = (Array.push H1 (.cells #[.slice none 0 0] T_pack_Writer)) → 
 SCalls Try.prog pack_Writer_Num.id [.pointer (some (Addr.mk b 0 none)), .int .i64 sIndex] H2 (fun r H3 => ∃ x : Option Addr, r = .pointer x ∧ 
 SCalls Try.prog pack_Writer_Num.id [.pointer x, .int .i64 sTerm] H3 (fun r1 H4 => ∃ x1 : Option Addr, r1 = .pointer x1 ∧ 
 state_Bytes.k1 J sIndex sTerm sPairs sSessions b H4 Q))
theorem state_Bytes.eq (J : Jn) (sIndex : Int) (sTerm : Int) (sPairs : Sl) (sSessions : Sl) (H : Hp) (Q : Value → Hp → Prop) : vFn Try.prog state_Bytes.cf J state_Bytes.fn [.agg #[.int .i64 sIndex, .int .i64 sTerm, .slice sPairs.a sPairs.len sPairs.cap, .slice sSessions.a sSessions.len sSessions.cap]] H Q = state_Bytes.vc J sIndex sTerm sPairs sSessions H Q := by kernel_rfl
theorem state_Bytes.calls {sIndex : Int} {sTerm : Int} {sPairs : Sl} {sSessions : Sl} {H : Hp} {Q : Value → Hp → Prop} (h : state_Bytes.vc J0 sIndex sTerm sPairs sSessions H Q) : SCalls Try.prog state_Bytes.id [.agg #[.int .i64 sIndex, .int .i64 sTerm, .slice sPairs.a sPairs.len sPairs.cap, .slice sSessions.a sSessions.len sSessions.cap]] H Q := vFn_of Try.mixed Try.func22 (state_Bytes.eq J0 sIndex sTerm sPairs sSessions H Q) h

/-! 25: tephra/state.Right -/
noncomputable def state_Right.cf : Cfg := ⟨[1, 4, 1000003], [(2, [1, 6, 7, 8])], [], [(22, [1, 22]), (27, [1, 27]), (32, [1, 32])], true, []⟩
noncomputable def state_Right.l1.st (sIndex : Int) (sTerm : Int) (sPairs : Sl) (sSessions : Sl) (H2 : Hp) (x : Int) : VS := ⟨mkFr 40 [(1, .loc 0 0), (6, .v (.slice sPairs.a sPairs.len sPairs.cap)), (7, .v (.int .i64 ((sPairs.len : Nat) : Int))), (8, .v (.int .i64 x))], [(T_api_State, [.int .i64 sIndex, .int .i64 sTerm, .slice sPairs.a sPairs.len sPairs.cap, .slice sSessions.a sSessions.len sSessions.cap])], H2⟩
noncomputable def state_Right.l1 (J : Jn) (sIndex : Int) (sTerm : Int) (sPairs : Sl) (sSessions : Sl) (H2 : Hp) (x : Int) (Q : Value → Hp → Prop) : Prop := vAt Try.prog state_Right.cf J state_Right.fn [1, 0, 1, 0] [0, 1, 1] Q (state_Right.l1.st sIndex sTerm sPairs sSessions H2 x)
noncomputable def state_Right.k1.st (sIndex : Int) (sTerm : Int) (sPairs : Sl) (sSessions : Sl) (H2 : Hp) (x1 : Bool) : VS := ⟨mkFr 40 [(1, .loc 0 0), (22, .v (.bool x1))], [(T_api_State, [.int .i64 sIndex, .int .i64 sTerm, .slice sPairs.a sPairs.len sPairs.cap, .slice sSessions.a sSessions.len sSessions.cap])], H2⟩
noncomputable def state_Right.k1 (J : Jn) (sIndex : Int) (sTerm : Int) (sPairs : Sl) (sSessions : Sl) (H2 : Hp) (x1 : Bool) (Q : Value → Hp → Prop) : Prop := J (vMid Try.prog state_Right.cf J state_Right.fn [1, 1, 0] [0, 1, 1] 8 Q) (state_Right.k1.st sIndex sTerm sPairs sSessions H2 x1)
noncomputable def state_Right.k2.st (sIndex : Int) (sTerm : Int) (sPairs : Sl) (sSessions : Sl) (H2 : Hp) (x2 : Bool) : VS := ⟨mkFr 40 [(1, .loc 0 0), (27, .v (.bool x2))], [(T_api_State, [.int .i64 sIndex, .int .i64 sTerm, .slice sPairs.a sPairs.len sPairs.cap, .slice sSessions.a sSessions.len sSessions.cap])], H2⟩
noncomputable def state_Right.k2 (J : Jn) (sIndex : Int) (sTerm : Int) (sPairs : Sl) (sSessions : Sl) (H2 : Hp) (x2 : Bool) (Q : Value → Hp → Prop) : Prop := J (vMid Try.prog state_Right.cf J state_Right.fn [1, 1, 0] [0, 1, 1] 13 Q) (state_Right.k2.st sIndex sTerm sPairs sSessions H2 x2)
noncomputable def state_Right.k3.st (sIndex : Int) (sTerm : Int) (sPairs : Sl) (sSessions : Sl) (H2 : Hp) (x3 : Bool) : VS := ⟨mkFr 40 [(1, .loc 0 0), (32, .v (.bool x3))], [(T_api_State, [.int .i64 sIndex, .int .i64 sTerm, .slice sPairs.a sPairs.len sPairs.cap, .slice sSessions.a sSessions.len sSessions.cap])], H2⟩
noncomputable def state_Right.k3 (J : Jn) (sIndex : Int) (sTerm : Int) (sPairs : Sl) (sSessions : Sl) (H2 : Hp) (x3 : Bool) (Q : Value → Hp → Prop) : Prop := J (vMid Try.prog state_Right.cf J state_Right.fn [1, 1, 0] [0, 1, 1] 18 Q) (state_Right.k3.st sIndex sTerm sPairs sSessions H2 x3)
attribute [irreducible] state_Right.l1 state_Right.k1 state_Right.k2 state_Right.k3
noncomputable def state_Right.l1.body (J : Jn) (sIndex : Int) (sTerm : Int) (sPairs : Sl) (sSessions : Sl) (H2 : Hp) (x : Int) (Q : Value → Hp → Prop) : Prop :=
 
 Br (decide (x < ((sPairs.len : Nat) : Int))) (((0 : Int) ≤ x ∧ x < ((sPairs.len : Nat) : Int)) ∧ vPtr sPairs.a (fun a => ∃ Key : ByteArray, ∃ Valuev : ByteArray, ∃ Gone : Bool, RowAt H2 (a.add ((x : Int).toNat * 3)) [.string Key, .string Valuev, .bool Gone] ∧ ∀ H3 : Hp, H3 = (holes H2 1) → 
 Br Gone (Q (.bool false) H3)
 (
 state_Right.l1 J sIndex sTerm sPairs sSessions H3 (w64 (x + 1)) Q)))
 (
 Br (decide (sIndex ≥ 0)) (
 state_Right.k1 J sIndex sTerm sPairs sSessions H2 (decide (sIndex ≤ 1048576)) Q)
 (
 state_Right.k1 J sIndex sTerm sPairs sSessions H2 false Q))
theorem state_Right.l1.eq (J : Jn) (sIndex : Int) (sTerm : Int) (sPairs : Sl) (sSessions : Sl) (H2 : Hp) (x : Int) (Q : Value → Hp → Prop) : vAtBody Try.prog state_Right.cf J state_Right.fn [1, 0, 1, 0] [0, 1, 1] Q (state_Right.l1.st sIndex sTerm sPairs sSessions H2 x) = state_Right.l1.body J sIndex sTerm sPairs sSessions H2 x Q := by kernel_rfl
theorem state_Right.l1.step {sIndex : Int} {sTerm : Int} {sPairs : Sl} {sSessions : Sl} {H2 : Hp} {x : Int} {Q : Value → Hp → Prop} (h : state_Right.l1.body J0 sIndex sTerm sPairs sSessions H2 x Q) : state_Right.l1 J0 sIndex sTerm sPairs sSessions H2 x Q := vAt_stepC (state_Right.l1.st sIndex sTerm sPairs sSessions H2 x) (state_Right.l1.eq J0 sIndex sTerm sPairs sSessions H2 x Q) (by kernel_rfl) h
noncomputable def state_Right.k1.body (J : Jn) (sIndex : Int) (sTerm : Int) (sPairs : Sl) (sSessions : Sl) (H2 : Hp) (x1 : Bool) (Q : Value → Hp → Prop) : Prop :=
 
 Br x1 (
 state_Right.k2 J sIndex sTerm sPairs sSessions H2 (decide (sTerm ≥ 0)) Q)
 (
 state_Right.k2 J sIndex sTerm sPairs sSessions H2 false Q)
theorem state_Right.k1.eq (J : Jn) (sIndex : Int) (sTerm : Int) (sPairs : Sl) (sSessions : Sl) (H2 : Hp) (x1 : Bool) (Q : Value → Hp → Prop) : vMid Try.prog state_Right.cf J state_Right.fn [1, 1, 0] [0, 1, 1] 8 Q (state_Right.k1.st sIndex sTerm sPairs sSessions H2 x1) = state_Right.k1.body J sIndex sTerm sPairs sSessions H2 x1 Q := by kernel_rfl
theorem state_Right.k1.step {sIndex : Int} {sTerm : Int} {sPairs : Sl} {sSessions : Sl} {H2 : Hp} {x1 : Bool} {Q : Value → Hp → Prop} (h : state_Right.k1.body J0 sIndex sTerm sPairs sSessions H2 x1 Q) : state_Right.k1 J0 sIndex sTerm sPairs sSessions H2 x1 Q := step_of (vMid Try.prog state_Right.cf J0 state_Right.fn [1, 1, 0] [0, 1, 1] 8 Q) (state_Right.k1.st sIndex sTerm sPairs sSessions H2 x1) (state_Right.k1.eq J0 sIndex sTerm sPairs sSessions H2 x1 Q) (by kernel_rfl) h
noncomputable def state_Right.k2.body (J : Jn) (sIndex : Int) (sTerm : Int) (sPairs : Sl) (sSessions : Sl) (H2 : Hp) (x2 : Bool) (Q : Value → Hp → Prop) : Prop :=
 
 Br x2 (
 state_Right.k3 J sIndex sTerm sPairs sSessions H2 (decide (sTerm ≤ 1048576)) Q)
 (
 state_Right.k3 J sIndex sTerm sPairs sSessions H2 false Q)
theorem state_Right.k2.eq (J : Jn) (sIndex : Int) (sTerm : Int) (sPairs : Sl) (sSessions : Sl) (H2 : Hp) (x2 : Bool) (Q : Value → Hp → Prop) : vMid Try.prog state_Right.cf J state_Right.fn [1, 1, 0] [0, 1, 1] 13 Q (state_Right.k2.st sIndex sTerm sPairs sSessions H2 x2) = state_Right.k2.body J sIndex sTerm sPairs sSessions H2 x2 Q := by kernel_rfl
theorem state_Right.k2.step {sIndex : Int} {sTerm : Int} {sPairs : Sl} {sSessions : Sl} {H2 : Hp} {x2 : Bool} {Q : Value → Hp → Prop} (h : state_Right.k2.body J0 sIndex sTerm sPairs sSessions H2 x2 Q) : state_Right.k2 J0 sIndex sTerm sPairs sSessions H2 x2 Q := step_of (vMid Try.prog state_Right.cf J0 state_Right.fn [1, 1, 0] [0, 1, 1] 13 Q) (state_Right.k2.st sIndex sTerm sPairs sSessions H2 x2) (state_Right.k2.eq J0 sIndex sTerm sPairs sSessions H2 x2 Q) (by kernel_rfl) h
noncomputable def state_Right.k3.body (J : Jn) (sIndex : Int) (sTerm : Int) (sPairs : Sl) (sSessions : Sl) (H2 : Hp) (x3 : Bool) (Q : Value → Hp → Prop) : Prop :=
 
 Br x3 (
 SCalls Try.prog state_RightRows.id [.slice sPairs.a sPairs.len sPairs.cap, .slice sSessions.a sSessions.len sSessions.cap, .int .i64 64] H2 (fun r H4 => ∃ x4 : Bool, r = .bool x4 ∧ Q (.bool x4) H4))
 (Q (.bool false) H2)
theorem state_Right.k3.eq (J : Jn) (sIndex : Int) (sTerm : Int) (sPairs : Sl) (sSessions : Sl) (H2 : Hp) (x3 : Bool) (Q : Value → Hp → Prop) : vMid Try.prog state_Right.cf J state_Right.fn [1, 1, 0] [0, 1, 1] 18 Q (state_Right.k3.st sIndex sTerm sPairs sSessions H2 x3) = state_Right.k3.body J sIndex sTerm sPairs sSessions H2 x3 Q := by kernel_rfl
theorem state_Right.k3.step {sIndex : Int} {sTerm : Int} {sPairs : Sl} {sSessions : Sl} {H2 : Hp} {x3 : Bool} {Q : Value → Hp → Prop} (h : state_Right.k3.body J0 sIndex sTerm sPairs sSessions H2 x3 Q) : state_Right.k3 J0 sIndex sTerm sPairs sSessions H2 x3 Q := step_of (vMid Try.prog state_Right.cf J0 state_Right.fn [1, 1, 0] [0, 1, 1] 18 Q) (state_Right.k3.st sIndex sTerm sPairs sSessions H2 x3) (state_Right.k3.eq J0 sIndex sTerm sPairs sSessions H2 x3 Q) (by kernel_rfl) h
noncomputable def state_Right.vc (J : Jn) (sIndex : Int) (sTerm : Int) (sPairs : Sl) (sSessions : Sl) (H : Hp) (Q : Value → Hp → Prop) : Prop :=
 ∀ H1 : Hp, H1 = (holes H 1) → 
 state_Right.l1 J sIndex sTerm sPairs sSessions H1 0 Q
theorem state_Right.eq (J : Jn) (sIndex : Int) (sTerm : Int) (sPairs : Sl) (sSessions : Sl) (H : Hp) (Q : Value → Hp → Prop) : vFn Try.prog state_Right.cf J state_Right.fn [.agg #[.int .i64 sIndex, .int .i64 sTerm, .slice sPairs.a sPairs.len sPairs.cap, .slice sSessions.a sSessions.len sSessions.cap]] H Q = state_Right.vc J sIndex sTerm sPairs sSessions H Q := by kernel_rfl
theorem state_Right.calls {sIndex : Int} {sTerm : Int} {sPairs : Sl} {sSessions : Sl} {H : Hp} {Q : Value → Hp → Prop} (h : state_Right.vc J0 sIndex sTerm sPairs sSessions H Q) : SCalls Try.prog state_Right.id [.agg #[.int .i64 sIndex, .int .i64 sTerm, .slice sPairs.a sPairs.len sPairs.cap, .slice sSessions.a sSessions.len sSessions.cap]] H Q := vFn_of Try.mixed Try.func25 (state_Right.eq J0 sIndex sTerm sPairs sSessions H Q) h

/-! 31: tephra/image.Part -/
noncomputable def image_Part.cf : Cfg := ⟨[1000003], [], [], [], true, []⟩
noncomputable def image_Part.vc (J : Jn) (fromv : Int) (H : Hp) (Q : Value → Hp → Prop) : Prop :=
 
 SCalls Try.prog image_head.id [.int .i64 2, .int .i64 fromv, .int .i64 fromv] H (fun r H1 => ∃ x : Sl, r = .slice x.a x.len x.cap ∧ ∀ b : Nat, b = Array.size H1 → ∀ H2 : Hp, H2 = (Array.push H1 (.cells #[.slice x.a x.len x.cap] T_sl_uint8)) → 
 SCalls Try.prog image_frames.id [.slice (some (Addr.mk b 0 none)) 1 1] H2 (fun r1 H3 => ∃ x1 : Sl, ∃ x2 : Int, r1 = .tuple #[.slice x1.a x1.len x1.cap, .int .i64 x2] ∧ Q (.slice x1.a x1.len x1.cap) H3))
theorem image_Part.eq (J : Jn) (fromv : Int) (H : Hp) (Q : Value → Hp → Prop) : vFn Try.prog image_Part.cf J image_Part.fn [.int .i64 fromv] H Q = image_Part.vc J fromv H Q := by kernel_rfl
theorem image_Part.calls {fromv : Int} {H : Hp} {Q : Value → Hp → Prop} (h : image_Part.vc J0 fromv H Q) : SCalls Try.prog image_Part.id [.int .i64 fromv] H Q := vFn_of Try.mixed Try.func31 (image_Part.eq J0 fromv H Q) h

/-! 32: tephra/image.Entry -/
noncomputable def image_Entry.cf : Cfg := ⟨[1, 1000003], [], [], [], true, []⟩
noncomputable def image_Entry.vc (J : Jn) (eIndex : Int) (eTerm : Int) (eCmdOp : Int) (eCmdClient : Int) (eCmdSeq : Int) (eCmdKey : ByteArray) (eCmdValue : ByteArray) (eCmdOld : ByteArray) (H : Hp) (Q : Value → Hp → Prop) : Prop :=
 ∀ H1 : Hp, H1 = (holes H 1) → 
 SCalls Try.prog cmds_Bytes.id [.agg #[.int .i64 eIndex, .int .i64 eTerm, .int .i64 eCmdOp, .int .i64 eCmdClient, .int .i64 eCmdSeq, .string eCmdKey, .string eCmdValue, .string eCmdOld]] H1 (fun r H2 => ∃ x : Sl, r = .slice x.a x.len x.cap ∧ ∀ b : Nat, b = Array.size H2 → ∀ H3 : Hp, H3 = (Array.push H2 (.cells #[.slice x.a x.len x.cap] T_sl_uint8)) → 
 SCalls Try.prog image_frames.id [.slice (some (Addr.mk b 0 none)) 1 1] H3 (fun r1 H4 => ∃ x1 : Sl, ∃ x2 : Int, r1 = .tuple #[.slice x1.a x1.len x1.cap, .int .i64 x2] ∧ Q (.slice x1.a x1.len x1.cap) H4))
theorem image_Entry.eq (J : Jn) (eIndex : Int) (eTerm : Int) (eCmdOp : Int) (eCmdClient : Int) (eCmdSeq : Int) (eCmdKey : ByteArray) (eCmdValue : ByteArray) (eCmdOld : ByteArray) (H : Hp) (Q : Value → Hp → Prop) : vFn Try.prog image_Entry.cf J image_Entry.fn [.agg #[.int .i64 eIndex, .int .i64 eTerm, .int .i64 eCmdOp, .int .i64 eCmdClient, .int .i64 eCmdSeq, .string eCmdKey, .string eCmdValue, .string eCmdOld]] H Q = image_Entry.vc J eIndex eTerm eCmdOp eCmdClient eCmdSeq eCmdKey eCmdValue eCmdOld H Q := by kernel_rfl
theorem image_Entry.calls {eIndex : Int} {eTerm : Int} {eCmdOp : Int} {eCmdClient : Int} {eCmdSeq : Int} {eCmdKey : ByteArray} {eCmdValue : ByteArray} {eCmdOld : ByteArray} {H : Hp} {Q : Value → Hp → Prop} (h : image_Entry.vc J0 eIndex eTerm eCmdOp eCmdClient eCmdSeq eCmdKey eCmdValue eCmdOld H Q) : SCalls Try.prog image_Entry.id [.agg #[.int .i64 eIndex, .int .i64 eTerm, .int .i64 eCmdOp, .int .i64 eCmdClient, .int .i64 eCmdSeq, .string eCmdKey, .string eCmdValue, .string eCmdOld]] H Q := vFn_of Try.mixed Try.func32 (image_Entry.eq J0 eIndex eTerm eCmdOp eCmdClient eCmdSeq eCmdKey eCmdValue eCmdOld H Q) h

/-! 33: (tephra/tephralaw06.Say).Cmd -/
noncomputable def tephralaw06_Say_Cmd.cf : Cfg := ⟨[1, 2, 3], [], [(6, [1, 2, 3], true)], [], true, []⟩
noncomputable def tephralaw06_Say_Cmd.k1.st (sOp : Int) (sClient : Int) (sSeq : Int) (sKey : Int) (sValue : Int) (sOld : Int) (H : Hp) (y : ByteArray) : VS := ⟨mkFr 65 [(1, .loc 0 0), (2, .loc 1 0), (3, .loc 2 0)], [(T_tephralaw06_Say, [.int .u8 sOp, .int .u8 sClient, .int .u8 sSeq, .int .u8 sKey, .int .u8 sValue, .int .u8 sOld]), (T_api_Cmd, [.int .i64 0, .int .i64 0, .int .i64 0, .string (ByteArray.mk #[]), .string (ByteArray.mk #[]), .string (ByteArray.mk #[])]), (T_api_Cmd, [.int .i64 (w64 ((Int.tmod sOp 4))), .int .i64 (w64 ((Int.tmod sClient 4))), .int .i64 (w64 ((Int.tmod sSeq 40))), .string ((ByteArray.mk #[107]) ++ ((ByteArray.mk #[97, 98, 99, 100, 101, 102, 103, 104]).extract (((Int.tmod sKey 8) : Int).toNat) (((IntKind.u8.wrap ((Int.tmod sKey 8) + 1)) : Int).toNat))), .string y, .string (ByteArray.mk #[])])], (holes H 3)⟩
noncomputable def tephralaw06_Say_Cmd.k1 (J : Jn) (sOp : Int) (sClient : Int) (sSeq : Int) (sKey : Int) (sValue : Int) (sOld : Int) (H : Hp) (y : ByteArray) (Q : Value → Hp → Prop) : Prop := J (vSeg Try.prog tephralaw06_Say_Cmd.cf J tephralaw06_Say_Cmd.fn [1, 1, 1, 1] [0, 2, 3, 3] Q) (tephralaw06_Say_Cmd.k1.st sOp sClient sSeq sKey sValue sOld H y)
attribute [irreducible] tephralaw06_Say_Cmd.k1
noncomputable def tephralaw06_Say_Cmd.k1.body (J : Jn) (sOp : Int) (sClient : Int) (sSeq : Int) (sKey : Int) (sValue : Int) (sOld : Int) (H : Hp) (y : ByteArray) (Q : Value → Hp → Prop) : Prop :=
 
 Br ((w64 ((Int.tmod sOp 4))) == 3) ((2 : Int) ≠ 0 ∧ ((0 : Int) ≤ (Int.tmod sOld 2) ∧ (Int.tmod sOld 2) ≤ (((ByteArray.mk #[118]).size : Nat) : Int)) ∧ (10 : Int) ≠ 0 ∧ (10 : Int) ≠ 0 ∧ ((0 : Int) ≤ (IntKind.u8.wrap ((Int.tmod sOld 10) + 1)) ∧ (IntKind.u8.wrap ((Int.tmod sOld 10) + 1)) ≤ (((ByteArray.mk #[48, 49, 50, 51, 52, 53, 54, 55, 56, 57]).size : Nat) : Int)) ∧ ((0 : Int) ≤ (Int.tmod sOld 10) ∧ (Int.tmod sOld 10) ≤ (((((IntKind.u8.wrap ((Int.tmod sOld 10) + 1)) : Int).toNat) : Nat) : Int)) ∧ ((ByteArray.mk #[118]).extract 0 (((Int.tmod sOld 2) : Int).toNat)).size + ((ByteArray.mk #[48, 49, 50, 51, 52, 53, 54, 55, 56, 57]).extract (((Int.tmod sOld 10) : Int).toNat) (((IntKind.u8.wrap ((Int.tmod sOld 10) + 1)) : Int).toNat)).size ≤ 9223372036854775807 ∧ Q (.agg #[.int .i64 (w64 ((Int.tmod sOp 4))), .int .i64 (w64 ((Int.tmod sClient 4))), .int .i64 (w64 ((Int.tmod sSeq 40))), .string ((ByteArray.mk #[107]) ++ ((ByteArray.mk #[97, 98, 99, 100, 101, 102, 103, 104]).extract (((Int.tmod sKey 8) : Int).toNat) (((IntKind.u8.wrap ((Int.tmod sKey 8) + 1)) : Int).toNat))), .string y, .string (((ByteArray.mk #[118]).extract 0 (((Int.tmod sOld 2) : Int).toNat)) ++ ((ByteArray.mk #[48, 49, 50, 51, 52, 53, 54, 55, 56, 57]).extract (((Int.tmod sOld 10) : Int).toNat) (((IntKind.u8.wrap ((Int.tmod sOld 10) + 1)) : Int).toNat)))]) (holes H 3))
 (Q (.agg #[.int .i64 (w64 ((Int.tmod sOp 4))), .int .i64 (w64 ((Int.tmod sClient 4))), .int .i64 (w64 ((Int.tmod sSeq 40))), .string ((ByteArray.mk #[107]) ++ ((ByteArray.mk #[97, 98, 99, 100, 101, 102, 103, 104]).extract (((Int.tmod sKey 8) : Int).toNat) (((IntKind.u8.wrap ((Int.tmod sKey 8) + 1)) : Int).toNat))), .string y, .string (ByteArray.mk #[])]) (holes H 3))
theorem tephralaw06_Say_Cmd.k1.eq (J : Jn) (sOp : Int) (sClient : Int) (sSeq : Int) (sKey : Int) (sValue : Int) (sOld : Int) (H : Hp) (y : ByteArray) (Q : Value → Hp → Prop) : vSeg Try.prog tephralaw06_Say_Cmd.cf J tephralaw06_Say_Cmd.fn [1, 1, 1, 1] [0, 2, 3, 3] Q (tephralaw06_Say_Cmd.k1.st sOp sClient sSeq sKey sValue sOld H y) = tephralaw06_Say_Cmd.k1.body J sOp sClient sSeq sKey sValue sOld H y Q := by kernel_rfl
theorem tephralaw06_Say_Cmd.k1.step {sOp : Int} {sClient : Int} {sSeq : Int} {sKey : Int} {sValue : Int} {sOld : Int} {H : Hp} {y : ByteArray} {Q : Value → Hp → Prop} (h : tephralaw06_Say_Cmd.k1.body J0 sOp sClient sSeq sKey sValue sOld H y Q) : tephralaw06_Say_Cmd.k1 J0 sOp sClient sSeq sKey sValue sOld H y Q := step_of (vSeg Try.prog tephralaw06_Say_Cmd.cf J0 tephralaw06_Say_Cmd.fn [1, 1, 1, 1] [0, 2, 3, 3] Q) (tephralaw06_Say_Cmd.k1.st sOp sClient sSeq sKey sValue sOld H y) (tephralaw06_Say_Cmd.k1.eq J0 sOp sClient sSeq sKey sValue sOld H y Q) (by kernel_rfl) h
noncomputable def tephralaw06_Say_Cmd.vc (J : Jn) (sOp : Int) (sClient : Int) (sSeq : Int) (sKey : Int) (sValue : Int) (sOld : Int) (H : Hp) (Q : Value → Hp → Prop) : Prop :=
 (4 : Int) ≠ 0 ∧ (4 : Int) ≠ 0 ∧ (40 : Int) ≠ 0 ∧ (8 : Int) ≠ 0 ∧ (8 : Int) ≠ 0 ∧ ((0 : Int) ≤ (IntKind.u8.wrap ((Int.tmod sKey 8) + 1)) ∧ (IntKind.u8.wrap ((Int.tmod sKey 8) + 1)) ≤ (((ByteArray.mk #[97, 98, 99, 100, 101, 102, 103, 104]).size : Nat) : Int)) ∧ ((0 : Int) ≤ (Int.tmod sKey 8) ∧ (Int.tmod sKey 8) ≤ (((((IntKind.u8.wrap ((Int.tmod sKey 8) + 1)) : Int).toNat) : Nat) : Int)) ∧ (ByteArray.mk #[107]).size + ((ByteArray.mk #[97, 98, 99, 100, 101, 102, 103, 104]).extract (((Int.tmod sKey 8) : Int).toNat) (((IntKind.u8.wrap ((Int.tmod sKey 8) + 1)) : Int).toNat)).size ≤ 9223372036854775807 ∧ (2 : Int) ≠ 0 ∧ ((0 : Int) ≤ (Int.tmod sValue 2) ∧ (Int.tmod sValue 2) ≤ (((ByteArray.mk #[118]).size : Nat) : Int)) ∧ (10 : Int) ≠ 0 ∧ (10 : Int) ≠ 0 ∧ ((0 : Int) ≤ (IntKind.u8.wrap ((Int.tmod sValue 10) + 1)) ∧ (IntKind.u8.wrap ((Int.tmod sValue 10) + 1)) ≤ (((ByteArray.mk #[48, 49, 50, 51, 52, 53, 54, 55, 56, 57]).size : Nat) : Int)) ∧ ((0 : Int) ≤ (Int.tmod sValue 10) ∧ (Int.tmod sValue 10) ≤ (((((IntKind.u8.wrap ((Int.tmod sValue 10) + 1)) : Int).toNat) : Nat) : Int)) ∧ ((ByteArray.mk #[118]).extract 0 (((Int.tmod sValue 2) : Int).toNat)).size + ((ByteArray.mk #[48, 49, 50, 51, 52, 53, 54, 55, 56, 57]).extract (((Int.tmod sValue 10) : Int).toNat) (((IntKind.u8.wrap ((Int.tmod sValue 10) + 1)) : Int).toNat)).size ≤ 9223372036854775807 ∧ 
 Br ((w64 ((Int.tmod sOp 4))) == 0) (Q (.agg #[.int .i64 0, .int .i64 0, .int .i64 0, .string (ByteArray.mk #[]), .string (ByteArray.mk #[]), .string (ByteArray.mk #[])]) (holes H 3))
 (
 Br ((w64 ((Int.tmod sOp 4))) == 2) (
 tephralaw06_Say_Cmd.k1 J sOp sClient sSeq sKey sValue sOld H (ByteArray.mk #[]) Q)
 (
 tephralaw06_Say_Cmd.k1 J sOp sClient sSeq sKey sValue sOld H (((ByteArray.mk #[118]).extract 0 (((Int.tmod sValue 2) : Int).toNat)) ++ ((ByteArray.mk #[48, 49, 50, 51, 52, 53, 54, 55, 56, 57]).extract (((Int.tmod sValue 10) : Int).toNat) (((IntKind.u8.wrap ((Int.tmod sValue 10) + 1)) : Int).toNat))) Q))
theorem tephralaw06_Say_Cmd.eq (J : Jn) (sOp : Int) (sClient : Int) (sSeq : Int) (sKey : Int) (sValue : Int) (sOld : Int) (H : Hp) (Q : Value → Hp → Prop) : vFn Try.prog tephralaw06_Say_Cmd.cf J tephralaw06_Say_Cmd.fn [.agg #[.int .u8 sOp, .int .u8 sClient, .int .u8 sSeq, .int .u8 sKey, .int .u8 sValue, .int .u8 sOld]] H Q = tephralaw06_Say_Cmd.vc J sOp sClient sSeq sKey sValue sOld H Q := by kernel_rfl
theorem tephralaw06_Say_Cmd.calls {sOp : Int} {sClient : Int} {sSeq : Int} {sKey : Int} {sValue : Int} {sOld : Int} {H : Hp} {Q : Value → Hp → Prop} (h : tephralaw06_Say_Cmd.vc J0 sOp sClient sSeq sKey sValue sOld H Q) : SCalls Try.prog tephralaw06_Say_Cmd.id [.agg #[.int .u8 sOp, .int .u8 sClient, .int .u8 sSeq, .int .u8 sKey, .int .u8 sValue, .int .u8 sOld]] H Q := vFn_of Try.mixed Try.func33 (tephralaw06_Say_Cmd.eq J0 sOp sClient sSeq sKey sValue sOld H Q) h

/-! 34: tephra/frame.Make -/
noncomputable def frame_Make.cf : Cfg := ⟨[1000003], [], [], [], true, []⟩
noncomputable def frame_Make.vc (J : Jn) (b : Sl) (H : Hp) (Q : Value → Hp → Prop) : Prop :=
 
 Br (decide (((b.len : Nat) : Int) > 16384)) (Q (.tuple #[.slice none 0 0, .int .i64 4]) H)
 (
 SCalls Try.prog check_Sum.id [.slice b.a b.len b.cap] H (fun r H1 => ∃ x : Int, r = .int .u32 x ∧ (0 : Int) ≤ 24 ∧ (0 : Int) ≤ 16 ∧ (0 : Int) ≤ 8 ∧ (0 : Int) ≤ 24 ∧ (0 : Int) ≤ 16 ∧ (0 : Int) ≤ 8 ∧ ∀ b1 : Nat, b1 = Array.size H1 → ∀ H2 : Hp, H2 = (Array.push H1 (.cells #[.int .u8 (IntKind.u8.wrap ((Int.fdiv ((b.len : Nat) : Int) (2 ^ 24)))), .int .u8 (IntKind.u8.wrap ((Int.fdiv ((b.len : Nat) : Int) (2 ^ 16)))), .int .u8 (IntKind.u8.wrap ((Int.fdiv ((b.len : Nat) : Int) (2 ^ 8)))), .int .u8 (IntKind.u8.wrap (((b.len : Nat) : Int))), .int .u8 (IntKind.u8.wrap ((Int.fdiv x (2 ^ 24)))), .int .u8 (IntKind.u8.wrap ((Int.fdiv x (2 ^ 16)))), .int .u8 (IntKind.u8.wrap ((Int.fdiv x (2 ^ 8)))), .int .u8 (IntKind.u8.wrap (x))] T_uint8)) → 
 vApp Try.prog T_sl_uint8 (some (Addr.mk b1 0 none)) 8 8 (.slice b.a b.len b.cap) H2 (fun ap H3 => ∀ b2 : Nat, b2 = Array.size H3 → ∀ H4 : Hp, H4 = (Array.push H3 (.cells #[.int .u8 229] T_uint8)) → 
 vApp Try.prog T_sl_uint8 ap.a ap.len ap.cap (.slice (some (Addr.mk b2 0 none)) 1 1) H4 (fun ap1 H5 => Q (.tuple #[.slice ap1.a ap1.len ap1.cap, .int .i64 0]) H5))))
theorem frame_Make.eq (J : Jn) (b : Sl) (H : Hp) (Q : Value → Hp → Prop) : vFn Try.prog frame_Make.cf J frame_Make.fn [.slice b.a b.len b.cap] H Q = frame_Make.vc J b H Q := by kernel_rfl
theorem frame_Make.calls {b : Sl} {H : Hp} {Q : Value → Hp → Prop} (h : frame_Make.vc J0 b H Q) : SCalls Try.prog frame_Make.id [.slice b.a b.len b.cap] H Q := vFn_of Try.mixed Try.func34 (frame_Make.eq J0 b H Q) h

/-! 35: (*tephra/pack.Writer).Byte -/
noncomputable def pack_Writer_Byte.cf : Cfg := ⟨[], [], [], [], true, []⟩
noncomputable def pack_Writer_Byte.vc (J : Jn) (w : Addr) (c : Int) (H : Hp) (Q : Value → Hp → Prop) : Prop :=
 ∃ b : Sl, Hp.cell? H w = some (.slice b.a b.len b.cap) ∧ 
 vApp Try.prog T_sl_uint8 b.a b.len b.cap (.slice (some (Addr.mk (Array.size H) 0 none)) 1 1) (Array.push H (.cells #[.int .u8 c] T_uint8)) (fun ap H1 => WrAt H1 w 1 ∧ Q (.pointer (some w)) (Hp.setCell H1 w (.slice ap.a ap.len ap.cap)))
theorem pack_Writer_Byte.eq (J : Jn) (w : Addr) (c : Int) (H : Hp) (Q : Value → Hp → Prop) : vFn Try.prog pack_Writer_Byte.cf J pack_Writer_Byte.fn [.pointer (some w), .int .u8 c] H Q = pack_Writer_Byte.vc J w c H Q := by kernel_rfl
theorem pack_Writer_Byte.calls {w : Addr} {c : Int} {H : Hp} {Q : Value → Hp → Prop} (h : pack_Writer_Byte.vc J0 w c H Q) : SCalls Try.prog pack_Writer_Byte.id [.pointer (some w), .int .u8 c] H Q := vFn_of Try.mixed Try.func35 (pack_Writer_Byte.eq J0 w c H Q) h

/-! 36: (*tephra/pack.Writer).Num -/
noncomputable def pack_Writer_Num.cf : Cfg := ⟨[], [(2, [0, 1, 5])], [], [], true, []⟩
noncomputable def pack_Writer_Num.l1.st (w : Addr) (n : Int) (H1 : Hp) (k : Int) : VS := ⟨mkFr 25 [(0, .v (.pointer (some w))), (1, .v (.int .i64 n)), (5, .v (.int .i64 k))], [], H1⟩
noncomputable def pack_Writer_Num.l1 (J : Jn) (w : Addr) (n : Int) (H1 : Hp) (k : Int) (Q : Value → Hp → Prop) : Prop := vAt Try.prog pack_Writer_Num.cf J pack_Writer_Num.fn [1, 0, 1, 0] [0, 0, 0] Q (pack_Writer_Num.l1.st w n H1 k)
attribute [irreducible] pack_Writer_Num.l1
noncomputable def pack_Writer_Num.l1.body (J : Jn) (w : Addr) (n : Int) (H1 : Hp) (k : Int) (Q : Value → Hp → Prop) : Prop :=
 
 Br (decide (k ≥ 0)) (∃ b : Sl, Hp.cell? H1 w = some (.slice b.a b.len b.cap) ∧ (0 : Int) ≤ (w64 ((8 : Int) * k)) ∧ 
 vApp Try.prog T_sl_uint8 b.a b.len b.cap (.slice (some (Addr.mk (Array.size H1) 0 none)) 1 1) (Array.push H1 (.cells #[.int .u8 (IntKind.u8.wrap ((Int.fdiv n (2 ^ (min ((w64 ((8 : Int) * k)) : Int).toNat 64)))))] T_uint8)) (fun ap H2 => WrAt H2 w 1 ∧ 
 pack_Writer_Num.l1 J w n (Hp.setCell H2 w (.slice ap.a ap.len ap.cap)) (w64 (k - 1)) Q))
 (Q (.pointer (some w)) H1)
theorem pack_Writer_Num.l1.eq (J : Jn) (w : Addr) (n : Int) (H1 : Hp) (k : Int) (Q : Value → Hp → Prop) : vAtBody Try.prog pack_Writer_Num.cf J pack_Writer_Num.fn [1, 0, 1, 0] [0, 0, 0] Q (pack_Writer_Num.l1.st w n H1 k) = pack_Writer_Num.l1.body J w n H1 k Q := by kernel_rfl
theorem pack_Writer_Num.l1.step {w : Addr} {n : Int} {H1 : Hp} {k : Int} {Q : Value → Hp → Prop} (h : pack_Writer_Num.l1.body J0 w n H1 k Q) : pack_Writer_Num.l1 J0 w n H1 k Q := vAt_stepC (pack_Writer_Num.l1.st w n H1 k) (pack_Writer_Num.l1.eq J0 w n H1 k Q) (by kernel_rfl) h
noncomputable def pack_Writer_Num.vc (J : Jn) (w : Addr) (n : Int) (H : Hp) (Q : Value → Hp → Prop) : Prop :=
 
 pack_Writer_Num.l1 J w n H 7 Q
theorem pack_Writer_Num.eq (J : Jn) (w : Addr) (n : Int) (H : Hp) (Q : Value → Hp → Prop) : vFn Try.prog pack_Writer_Num.cf J pack_Writer_Num.fn [.pointer (some w), .int .i64 n] H Q = pack_Writer_Num.vc J w n H Q := by kernel_rfl
theorem pack_Writer_Num.calls {w : Addr} {n : Int} {H : Hp} {Q : Value → Hp → Prop} (h : pack_Writer_Num.vc J0 w n H Q) : SCalls Try.prog pack_Writer_Num.id [.pointer (some w), .int .i64 n] H Q := vFn_of Try.mixed Try.func36 (pack_Writer_Num.eq J0 w n H Q) h

/-! 37: (*tephra/pack.Writer).Bytes -/
noncomputable def pack_Writer_Bytes.cf : Cfg := ⟨[], [], [], [], true, []⟩
noncomputable def pack_Writer_Bytes.vc (J : Jn) (w : Addr) (H : Hp) (Q : Value → Hp → Prop) : Prop :=
 ∃ b : Sl, Hp.cell? H w = some (.slice b.a b.len b.cap) ∧ 
 vApp Try.prog T_sl_uint8 none 0 0 (.slice b.a b.len b.cap) H (fun ap H1 => Q (.slice ap.a ap.len ap.cap) H1)
theorem pack_Writer_Bytes.eq (J : Jn) (w : Addr) (H : Hp) (Q : Value → Hp → Prop) : vFn Try.prog pack_Writer_Bytes.cf J pack_Writer_Bytes.fn [.pointer (some w)] H Q = pack_Writer_Bytes.vc J w H Q := by kernel_rfl
theorem pack_Writer_Bytes.calls {w : Addr} {H : Hp} {Q : Value → Hp → Prop} (h : pack_Writer_Bytes.vc J0 w H Q) : SCalls Try.prog pack_Writer_Bytes.id [.pointer (some w)] H Q := vFn_of Try.mixed Try.func37 (pack_Writer_Bytes.eq J0 w H Q) h

/-! 38: tephra/cmds.put -/
noncomputable def cmds_put.cf : Cfg := ⟨[3], [], [], [], true, []⟩
noncomputable def cmds_put.vc (J : Jn) (w : Addr) (cOp : Int) (cClient : Int) (cSeq : Int) (cKey : ByteArray) (cValue : ByteArray) (cOld : ByteArray) (H : Hp) (Q : Value → Hp → Prop) : Prop :=
 
 SCalls Try.prog pack_Writer_Byte.id [.pointer (some w), .int .u8 (IntKind.u8.wrap (cOp))] (holes H 1) (fun r H1 => ∃ x : Option Addr, r = .pointer x ∧ 
 SCalls Try.prog pack_Writer_Num.id [.pointer x, .int .i64 cClient] H1 (fun r1 H2 => ∃ x1 : Option Addr, r1 = .pointer x1 ∧ 
 SCalls Try.prog pack_Writer_Num.id [.pointer x1, .int .i64 cSeq] H2 (fun r2 H3 => ∃ x2 : Option Addr, r2 = .pointer x2 ∧ 
 SCalls Try.prog pack_Writer_Text.id [.pointer x2, .string cKey] H3 (fun r3 H4 => ∃ x3 : Option Addr, r3 = .pointer x3 ∧ 
 SCalls Try.prog pack_Writer_Text.id [.pointer x3, .string cValue] H4 (fun r4 H5 => ∃ x4 : Option Addr, r4 = .pointer x4 ∧ 
 SCalls Try.prog pack_Writer_Text.id [.pointer x4, .string cOld] H5 (fun r5 H6 => ∃ x5 : Option Addr, r5 = .pointer x5 ∧ Q (.tuple #[]) H6))))))
theorem cmds_put.eq (J : Jn) (w : Addr) (cOp : Int) (cClient : Int) (cSeq : Int) (cKey : ByteArray) (cValue : ByteArray) (cOld : ByteArray) (H : Hp) (Q : Value → Hp → Prop) : vFn Try.prog cmds_put.cf J cmds_put.fn [.pointer (some w), .agg #[.int .i64 cOp, .int .i64 cClient, .int .i64 cSeq, .string cKey, .string cValue, .string cOld]] H Q = cmds_put.vc J w cOp cClient cSeq cKey cValue cOld H Q := by kernel_rfl
theorem cmds_put.calls {w : Addr} {cOp : Int} {cClient : Int} {cSeq : Int} {cKey : ByteArray} {cValue : ByteArray} {cOld : ByteArray} {H : Hp} {Q : Value → Hp → Prop} (h : cmds_put.vc J0 w cOp cClient cSeq cKey cValue cOld H Q) : SCalls Try.prog cmds_put.id [.pointer (some w), .agg #[.int .i64 cOp, .int .i64 cClient, .int .i64 cSeq, .string cKey, .string cValue, .string cOld]] H Q := vFn_of Try.mixed Try.func38 (cmds_put.eq J0 w cOp cClient cSeq cKey cValue cOld H Q) h

/-! 39: tephra/image.rows -/
noncomputable def image_rows.cf : Cfg := ⟨[1000003], [], [(3, [1, 9, 10, 36], true), (9, [9, 10, 55], true)], [], true, []⟩
noncomputable def image_rows.k1.st (k : Int) (H1 : Hp) (x : Sl) (x1 : Int) (x3 : Bool) : VS := ⟨mkFr 58 [(1, .v (.int .i64 k)), (9, .v (.slice x.a x.len x.cap)), (10, .v (.int .i64 x1)), (36, .v (.bool x3))], [], H1⟩
noncomputable def image_rows.k1 (J : Jn) (k : Int) (H1 : Hp) (x : Sl) (x1 : Int) (x3 : Bool) (Q : Value → Hp → Prop) : Prop := J (vSeg Try.prog image_rows.cf J image_rows.fn [1, 1, 0, 1] [0, 0, 0, 0] Q) (image_rows.k1.st k H1 x x1 x3)
noncomputable def image_rows.k2.st (x : Sl) (x1 : Int) (H6 : Hp) (x10 : Bool) : VS := ⟨mkFr 58 [(9, .v (.slice x.a x.len x.cap)), (10, .v (.int .i64 x1)), (55, .v (.bool x10))], [], H6⟩
noncomputable def image_rows.k2 (J : Jn) (x : Sl) (x1 : Int) (H6 : Hp) (x10 : Bool) (Q : Value → Hp → Prop) : Prop := J (vSeg Try.prog image_rows.cf J image_rows.fn [1, 1, 1, 1, 1, 1, 1, 0, 1] [0, 0, 0, 0, 0, 0, 0, 0, 0] Q) (image_rows.k2.st x x1 H6 x10)
attribute [irreducible] image_rows.k1 image_rows.k2
noncomputable def image_rows.k1.body (J : Jn) (k : Int) (H1 : Hp) (x : Sl) (x1 : Int) (x3 : Bool) (Q : Value → Hp → Prop) : Prop :=
 
 Br x3 (Q (.tuple #[.slice none 0 0, .int .i64 0, .int .i64 10]) H1)
 (((0 : Int) ≤ 0 ∧ (0 : Int) < ((x.len : Nat) : Int)) ∧ vPtr x.a (fun a => ∃ x4 : Sl, Hp.cell? H1 a = some (.slice x4.a x4.len x4.cap) ∧ 
 SCalls Try.prog pack_Of.id [.slice x4.a x4.len x4.cap] H1 (fun r1 H2 => ∃ x5 : Option Addr, r1 = .pointer x5 ∧ 
 SCalls Try.prog pack_Reader_Byte.id [.pointer x5] H2 (fun r2 H3 => ∃ x6 : Int, r2 = .int .u8 x6 ∧ 
 SCalls Try.prog pack_Reader_Num.id [.pointer x5] H3 (fun r3 H4 => ∃ x7 : Int, r3 = .int .i64 x7 ∧ 
 SCalls Try.prog pack_Reader_Num.id [.pointer x5] H4 (fun r4 H5 => ∃ x8 : Int, r4 = .int .i64 x8 ∧ 
 SCalls Try.prog pack_Reader_Done.id [.pointer x5] H5 (fun r5 H6 => ∃ x9 : Bool, r5 = .bool x9 ∧ 
 Br (!x9) (
 image_rows.k2 J x x1 H6 true Q)
 (
 image_rows.k2 J x x1 H6 ((w64 (x6)) != k) Q))))))))
theorem image_rows.k1.eq (J : Jn) (k : Int) (H1 : Hp) (x : Sl) (x1 : Int) (x3 : Bool) (Q : Value → Hp → Prop) : vSeg Try.prog image_rows.cf J image_rows.fn [1, 1, 0, 1] [0, 0, 0, 0] Q (image_rows.k1.st k H1 x x1 x3) = image_rows.k1.body J k H1 x x1 x3 Q := by kernel_rfl
theorem image_rows.k1.step {k : Int} {H1 : Hp} {x : Sl} {x1 : Int} {x3 : Bool} {Q : Value → Hp → Prop} (h : image_rows.k1.body J0 k H1 x x1 x3 Q) : image_rows.k1 J0 k H1 x x1 x3 Q := step_of (vSeg Try.prog image_rows.cf J0 image_rows.fn [1, 1, 0, 1] [0, 0, 0, 0] Q) (image_rows.k1.st k H1 x x1 x3) (image_rows.k1.eq J0 k H1 x x1 x3 Q) (by kernel_rfl) h
noncomputable def image_rows.k2.body (J : Jn) (x : Sl) (x1 : Int) (H6 : Hp) (x10 : Bool) (Q : Value → Hp → Prop) : Prop :=
 
 Br x10 (Q (.tuple #[.slice none 0 0, .int .i64 0, .int .i64 10]) H6)
 (Q (.tuple #[.slice x.a x.len x.cap, .int .i64 x1, .int .i64 0]) H6)
theorem image_rows.k2.eq (J : Jn) (x : Sl) (x1 : Int) (H6 : Hp) (x10 : Bool) (Q : Value → Hp → Prop) : vSeg Try.prog image_rows.cf J image_rows.fn [1, 1, 1, 1, 1, 1, 1, 0, 1] [0, 0, 0, 0, 0, 0, 0, 0, 0] Q (image_rows.k2.st x x1 H6 x10) = image_rows.k2.body J x x1 H6 x10 Q := by kernel_rfl
theorem image_rows.k2.step {x : Sl} {x1 : Int} {H6 : Hp} {x10 : Bool} {Q : Value → Hp → Prop} (h : image_rows.k2.body J0 x x1 H6 x10 Q) : image_rows.k2 J0 x x1 H6 x10 Q := step_of (vSeg Try.prog image_rows.cf J0 image_rows.fn [1, 1, 1, 1, 1, 1, 1, 0, 1] [0, 0, 0, 0, 0, 0, 0, 0, 0] Q) (image_rows.k2.st x x1 H6 x10) (image_rows.k2.eq J0 x x1 H6 x10 Q) (by kernel_rfl) h
noncomputable def image_rows.vc (J : Jn) (b : Sl) (k : Int) (many : Int) (H : Hp) (Q : Value → Hp → Prop) : Prop :=
 
 SCalls Try.prog frame_Rows.id [.slice b.a b.len b.cap] H (fun r H1 => ∃ x : Sl, ∃ x1 : Int, ∃ x2 : Int, r = .tuple #[.slice x.a x.len x.cap, .int .i64 x1, .int .i64 x2] ∧ 
 Br (((x.len : Nat) : Int) == 0) (
 image_rows.k1 J k H1 x x1 true Q)
 (
 Br (decide (many > 0)) (
 Br (x2 != 0) (
 image_rows.k1 J k H1 x x1 true Q)
 (
 image_rows.k1 J k H1 x x1 (((x.len : Nat) : Int) != many) Q))
 (
 image_rows.k1 J k H1 x x1 false Q)))
theorem image_rows.eq (J : Jn) (b : Sl) (k : Int) (many : Int) (H : Hp) (Q : Value → Hp → Prop) : vFn Try.prog image_rows.cf J image_rows.fn [.slice b.a b.len b.cap, .int .i64 k, .int .i64 many] H Q = image_rows.vc J b k many H Q := by kernel_rfl
theorem image_rows.calls {b : Sl} {k : Int} {many : Int} {H : Hp} {Q : Value → Hp → Prop} (h : image_rows.vc J0 b k many H Q) : SCalls Try.prog image_rows.id [.slice b.a b.len b.cap, .int .i64 k, .int .i64 many] H Q := vFn_of Try.mixed Try.func39 (image_rows.eq J0 b k many H Q) h

/-! 40: tephra/image.head -/
noncomputable def image_head.cf : Cfg := ⟨[1000003], [], [], [], true, []⟩
noncomputable def image_head.vc (J : Jn) (k : Int) (fromv : Int) (to : Int) (H : Hp) (Q : Value → Hp → Prop) : Prop :=
 ∀ b : Nat, b = Array.size H → ∀ H1 : Hp, H1 = (Array.push H (.cells #[.slice none 0 0] T_pack_Writer)) → 
 SCalls Try.prog pack_Writer_Byte.id [.pointer (some (Addr.mk b 0 none)), .int .u8 (IntKind.u8.wrap (k))] H1 (fun r H2 => ∃ x : Option Addr, r = .pointer x ∧ 
 SCalls Try.prog pack_Writer_Num.id [.pointer x, .int .i64 fromv] H2 (fun r1 H3 => ∃ x1 : Option Addr, r1 = .pointer x1 ∧ 
 SCalls Try.prog pack_Writer_Num.id [.pointer x1, .int .i64 to] H3 (fun r2 H4 => ∃ x2 : Option Addr, r2 = .pointer x2 ∧ 
 SCalls Try.prog pack_Writer_Bytes.id [.pointer x2] H4 (fun r3 H5 => ∃ x3 : Sl, r3 = .slice x3.a x3.len x3.cap ∧ Q (.slice x3.a x3.len x3.cap) H5))))
theorem image_head.eq (J : Jn) (k : Int) (fromv : Int) (to : Int) (H : Hp) (Q : Value → Hp → Prop) : vFn Try.prog image_head.cf J image_head.fn [.int .i64 k, .int .i64 fromv, .int .i64 to] H Q = image_head.vc J k fromv to H Q := by kernel_rfl
theorem image_head.calls {k : Int} {fromv : Int} {to : Int} {H : Hp} {Q : Value → Hp → Prop} (h : image_head.vc J0 k fromv to H Q) : SCalls Try.prog image_head.id [.int .i64 k, .int .i64 fromv, .int .i64 to] H Q := vFn_of Try.mixed Try.func40 (image_head.eq J0 k fromv to H Q) h

/-! 41: tephra/cmds.Right -/
noncomputable def cmds_Right.cf : Cfg := ⟨[1], [], [], [(10, [1, 10]), (15, [1, 15]), (20, [1, 20])], true, []⟩
noncomputable def cmds_Right.k1.st (eIndex : Int) (eTerm : Int) (eCmdOp : Int) (eCmdClient : Int) (eCmdSeq : Int) (eCmdKey : ByteArray) (eCmdValue : ByteArray) (eCmdOld : ByteArray) (H : Hp) (x : Bool) : VS := ⟨mkFr 26 [(1, .loc 0 0), (10, .v (.bool x))], [(T_api_Entry, [.int .i64 eIndex, .int .i64 eTerm, .int .i64 eCmdOp, .int .i64 eCmdClient, .int .i64 eCmdSeq, .string eCmdKey, .string eCmdValue, .string eCmdOld])], (holes H 1)⟩
noncomputable def cmds_Right.k1 (J : Jn) (eIndex : Int) (eTerm : Int) (eCmdOp : Int) (eCmdClient : Int) (eCmdSeq : Int) (eCmdKey : ByteArray) (eCmdValue : ByteArray) (eCmdOld : ByteArray) (H : Hp) (x : Bool) (Q : Value → Hp → Prop) : Prop := J (vMid Try.prog cmds_Right.cf J cmds_Right.fn [1, 0] [0, 1] 8 Q) (cmds_Right.k1.st eIndex eTerm eCmdOp eCmdClient eCmdSeq eCmdKey eCmdValue eCmdOld H x)
noncomputable def cmds_Right.k2.st (eIndex : Int) (eTerm : Int) (eCmdOp : Int) (eCmdClient : Int) (eCmdSeq : Int) (eCmdKey : ByteArray) (eCmdValue : ByteArray) (eCmdOld : ByteArray) (H : Hp) (x1 : Bool) : VS := ⟨mkFr 26 [(1, .loc 0 0), (15, .v (.bool x1))], [(T_api_Entry, [.int .i64 eIndex, .int .i64 eTerm, .int .i64 eCmdOp, .int .i64 eCmdClient, .int .i64 eCmdSeq, .string eCmdKey, .string eCmdValue, .string eCmdOld])], (holes H 1)⟩
noncomputable def cmds_Right.k2 (J : Jn) (eIndex : Int) (eTerm : Int) (eCmdOp : Int) (eCmdClient : Int) (eCmdSeq : Int) (eCmdKey : ByteArray) (eCmdValue : ByteArray) (eCmdOld : ByteArray) (H : Hp) (x1 : Bool) (Q : Value → Hp → Prop) : Prop := J (vMid Try.prog cmds_Right.cf J cmds_Right.fn [1, 0] [0, 1] 13 Q) (cmds_Right.k2.st eIndex eTerm eCmdOp eCmdClient eCmdSeq eCmdKey eCmdValue eCmdOld H x1)
noncomputable def cmds_Right.k3.st (eIndex : Int) (eTerm : Int) (eCmdOp : Int) (eCmdClient : Int) (eCmdSeq : Int) (eCmdKey : ByteArray) (eCmdValue : ByteArray) (eCmdOld : ByteArray) (H : Hp) (x2 : Bool) : VS := ⟨mkFr 26 [(1, .loc 0 0), (20, .v (.bool x2))], [(T_api_Entry, [.int .i64 eIndex, .int .i64 eTerm, .int .i64 eCmdOp, .int .i64 eCmdClient, .int .i64 eCmdSeq, .string eCmdKey, .string eCmdValue, .string eCmdOld])], (holes H 1)⟩
noncomputable def cmds_Right.k3 (J : Jn) (eIndex : Int) (eTerm : Int) (eCmdOp : Int) (eCmdClient : Int) (eCmdSeq : Int) (eCmdKey : ByteArray) (eCmdValue : ByteArray) (eCmdOld : ByteArray) (H : Hp) (x2 : Bool) (Q : Value → Hp → Prop) : Prop := J (vMid Try.prog cmds_Right.cf J cmds_Right.fn [1, 0] [0, 1] 18 Q) (cmds_Right.k3.st eIndex eTerm eCmdOp eCmdClient eCmdSeq eCmdKey eCmdValue eCmdOld H x2)
attribute [irreducible] cmds_Right.k1 cmds_Right.k2 cmds_Right.k3
noncomputable def cmds_Right.k1.body (J : Jn) (eIndex : Int) (eTerm : Int) (eCmdOp : Int) (eCmdClient : Int) (eCmdSeq : Int) (eCmdKey : ByteArray) (eCmdValue : ByteArray) (eCmdOld : ByteArray) (H : Hp) (x : Bool) (Q : Value → Hp → Prop) : Prop :=
 
 Br x (
 cmds_Right.k2 J eIndex eTerm eCmdOp eCmdClient eCmdSeq eCmdKey eCmdValue eCmdOld H (decide (eTerm ≥ 0)) Q)
 (
 cmds_Right.k2 J eIndex eTerm eCmdOp eCmdClient eCmdSeq eCmdKey eCmdValue eCmdOld H false Q)
theorem cmds_Right.k1.eq (J : Jn) (eIndex : Int) (eTerm : Int) (eCmdOp : Int) (eCmdClient : Int) (eCmdSeq : Int) (eCmdKey : ByteArray) (eCmdValue : ByteArray) (eCmdOld : ByteArray) (H : Hp) (x : Bool) (Q : Value → Hp → Prop) : vMid Try.prog cmds_Right.cf J cmds_Right.fn [1, 0] [0, 1] 8 Q (cmds_Right.k1.st eIndex eTerm eCmdOp eCmdClient eCmdSeq eCmdKey eCmdValue eCmdOld H x) = cmds_Right.k1.body J eIndex eTerm eCmdOp eCmdClient eCmdSeq eCmdKey eCmdValue eCmdOld H x Q := by kernel_rfl
theorem cmds_Right.k1.step {eIndex : Int} {eTerm : Int} {eCmdOp : Int} {eCmdClient : Int} {eCmdSeq : Int} {eCmdKey : ByteArray} {eCmdValue : ByteArray} {eCmdOld : ByteArray} {H : Hp} {x : Bool} {Q : Value → Hp → Prop} (h : cmds_Right.k1.body J0 eIndex eTerm eCmdOp eCmdClient eCmdSeq eCmdKey eCmdValue eCmdOld H x Q) : cmds_Right.k1 J0 eIndex eTerm eCmdOp eCmdClient eCmdSeq eCmdKey eCmdValue eCmdOld H x Q := step_of (vMid Try.prog cmds_Right.cf J0 cmds_Right.fn [1, 0] [0, 1] 8 Q) (cmds_Right.k1.st eIndex eTerm eCmdOp eCmdClient eCmdSeq eCmdKey eCmdValue eCmdOld H x) (cmds_Right.k1.eq J0 eIndex eTerm eCmdOp eCmdClient eCmdSeq eCmdKey eCmdValue eCmdOld H x Q) (by kernel_rfl) h
noncomputable def cmds_Right.k2.body (J : Jn) (eIndex : Int) (eTerm : Int) (eCmdOp : Int) (eCmdClient : Int) (eCmdSeq : Int) (eCmdKey : ByteArray) (eCmdValue : ByteArray) (eCmdOld : ByteArray) (H : Hp) (x1 : Bool) (Q : Value → Hp → Prop) : Prop :=
 
 Br x1 (
 cmds_Right.k3 J eIndex eTerm eCmdOp eCmdClient eCmdSeq eCmdKey eCmdValue eCmdOld H (decide (eTerm ≤ 1048576)) Q)
 (
 cmds_Right.k3 J eIndex eTerm eCmdOp eCmdClient eCmdSeq eCmdKey eCmdValue eCmdOld H false Q)
theorem cmds_Right.k2.eq (J : Jn) (eIndex : Int) (eTerm : Int) (eCmdOp : Int) (eCmdClient : Int) (eCmdSeq : Int) (eCmdKey : ByteArray) (eCmdValue : ByteArray) (eCmdOld : ByteArray) (H : Hp) (x1 : Bool) (Q : Value → Hp → Prop) : vMid Try.prog cmds_Right.cf J cmds_Right.fn [1, 0] [0, 1] 13 Q (cmds_Right.k2.st eIndex eTerm eCmdOp eCmdClient eCmdSeq eCmdKey eCmdValue eCmdOld H x1) = cmds_Right.k2.body J eIndex eTerm eCmdOp eCmdClient eCmdSeq eCmdKey eCmdValue eCmdOld H x1 Q := by kernel_rfl
theorem cmds_Right.k2.step {eIndex : Int} {eTerm : Int} {eCmdOp : Int} {eCmdClient : Int} {eCmdSeq : Int} {eCmdKey : ByteArray} {eCmdValue : ByteArray} {eCmdOld : ByteArray} {H : Hp} {x1 : Bool} {Q : Value → Hp → Prop} (h : cmds_Right.k2.body J0 eIndex eTerm eCmdOp eCmdClient eCmdSeq eCmdKey eCmdValue eCmdOld H x1 Q) : cmds_Right.k2 J0 eIndex eTerm eCmdOp eCmdClient eCmdSeq eCmdKey eCmdValue eCmdOld H x1 Q := step_of (vMid Try.prog cmds_Right.cf J0 cmds_Right.fn [1, 0] [0, 1] 13 Q) (cmds_Right.k2.st eIndex eTerm eCmdOp eCmdClient eCmdSeq eCmdKey eCmdValue eCmdOld H x1) (cmds_Right.k2.eq J0 eIndex eTerm eCmdOp eCmdClient eCmdSeq eCmdKey eCmdValue eCmdOld H x1 Q) (by kernel_rfl) h
noncomputable def cmds_Right.k3.body (J : Jn) (eIndex : Int) (eTerm : Int) (eCmdOp : Int) (eCmdClient : Int) (eCmdSeq : Int) (eCmdKey : ByteArray) (eCmdValue : ByteArray) (eCmdOld : ByteArray) (H : Hp) (x2 : Bool) (Q : Value → Hp → Prop) : Prop :=
 
 Br x2 (
 SCalls Try.prog cmds_May.id [.agg #[.int .i64 eCmdOp, .int .i64 eCmdClient, .int .i64 eCmdSeq, .string eCmdKey, .string eCmdValue, .string eCmdOld]] (holes H 1) (fun r H1 => ∃ x3 : Bool, r = .bool x3 ∧ Q (.bool x3) H1))
 (Q (.bool false) (holes H 1))
theorem cmds_Right.k3.eq (J : Jn) (eIndex : Int) (eTerm : Int) (eCmdOp : Int) (eCmdClient : Int) (eCmdSeq : Int) (eCmdKey : ByteArray) (eCmdValue : ByteArray) (eCmdOld : ByteArray) (H : Hp) (x2 : Bool) (Q : Value → Hp → Prop) : vMid Try.prog cmds_Right.cf J cmds_Right.fn [1, 0] [0, 1] 18 Q (cmds_Right.k3.st eIndex eTerm eCmdOp eCmdClient eCmdSeq eCmdKey eCmdValue eCmdOld H x2) = cmds_Right.k3.body J eIndex eTerm eCmdOp eCmdClient eCmdSeq eCmdKey eCmdValue eCmdOld H x2 Q := by kernel_rfl
theorem cmds_Right.k3.step {eIndex : Int} {eTerm : Int} {eCmdOp : Int} {eCmdClient : Int} {eCmdSeq : Int} {eCmdKey : ByteArray} {eCmdValue : ByteArray} {eCmdOld : ByteArray} {H : Hp} {x2 : Bool} {Q : Value → Hp → Prop} (h : cmds_Right.k3.body J0 eIndex eTerm eCmdOp eCmdClient eCmdSeq eCmdKey eCmdValue eCmdOld H x2 Q) : cmds_Right.k3 J0 eIndex eTerm eCmdOp eCmdClient eCmdSeq eCmdKey eCmdValue eCmdOld H x2 Q := step_of (vMid Try.prog cmds_Right.cf J0 cmds_Right.fn [1, 0] [0, 1] 18 Q) (cmds_Right.k3.st eIndex eTerm eCmdOp eCmdClient eCmdSeq eCmdKey eCmdValue eCmdOld H x2) (cmds_Right.k3.eq J0 eIndex eTerm eCmdOp eCmdClient eCmdSeq eCmdKey eCmdValue eCmdOld H x2 Q) (by kernel_rfl) h
noncomputable def cmds_Right.vc (J : Jn) (eIndex : Int) (eTerm : Int) (eCmdOp : Int) (eCmdClient : Int) (eCmdSeq : Int) (eCmdKey : ByteArray) (eCmdValue : ByteArray) (eCmdOld : ByteArray) (H : Hp) (Q : Value → Hp → Prop) : Prop :=
 
 Br (decide (eIndex ≥ 1)) (
 cmds_Right.k1 J eIndex eTerm eCmdOp eCmdClient eCmdSeq eCmdKey eCmdValue eCmdOld H (decide (eIndex ≤ 1048576)) Q)
 (
 cmds_Right.k1 J eIndex eTerm eCmdOp eCmdClient eCmdSeq eCmdKey eCmdValue eCmdOld H false Q)
theorem cmds_Right.eq (J : Jn) (eIndex : Int) (eTerm : Int) (eCmdOp : Int) (eCmdClient : Int) (eCmdSeq : Int) (eCmdKey : ByteArray) (eCmdValue : ByteArray) (eCmdOld : ByteArray) (H : Hp) (Q : Value → Hp → Prop) : vFn Try.prog cmds_Right.cf J cmds_Right.fn [.agg #[.int .i64 eIndex, .int .i64 eTerm, .int .i64 eCmdOp, .int .i64 eCmdClient, .int .i64 eCmdSeq, .string eCmdKey, .string eCmdValue, .string eCmdOld]] H Q = cmds_Right.vc J eIndex eTerm eCmdOp eCmdClient eCmdSeq eCmdKey eCmdValue eCmdOld H Q := by kernel_rfl
theorem cmds_Right.calls {eIndex : Int} {eTerm : Int} {eCmdOp : Int} {eCmdClient : Int} {eCmdSeq : Int} {eCmdKey : ByteArray} {eCmdValue : ByteArray} {eCmdOld : ByteArray} {H : Hp} {Q : Value → Hp → Prop} (h : cmds_Right.vc J0 eIndex eTerm eCmdOp eCmdClient eCmdSeq eCmdKey eCmdValue eCmdOld H Q) : SCalls Try.prog cmds_Right.id [.agg #[.int .i64 eIndex, .int .i64 eTerm, .int .i64 eCmdOp, .int .i64 eCmdClient, .int .i64 eCmdSeq, .string eCmdKey, .string eCmdValue, .string eCmdOld]] H Q := vFn_of Try.mixed Try.func41 (cmds_Right.eq J0 eIndex eTerm eCmdOp eCmdClient eCmdSeq eCmdKey eCmdValue eCmdOld H Q) h

/-! 42: tephra/pack.Of -/
noncomputable def pack_Of.cf : Cfg := ⟨[], [], [], [], true, []⟩
noncomputable def pack_Of.vc (J : Jn) (b : Sl) (H : Hp) (Q : Value → Hp → Prop) : Prop :=
 Q (.pointer (some (Addr.mk (Array.size H) 0 none))) (Array.push H (.cells #[.slice b.a b.len b.cap, .bool false] T_pack_Reader))
theorem pack_Of.eq (J : Jn) (b : Sl) (H : Hp) (Q : Value → Hp → Prop) : vFn Try.prog pack_Of.cf J pack_Of.fn [.slice b.a b.len b.cap] H Q = pack_Of.vc J b H Q := by kernel_rfl
theorem pack_Of.calls {b : Sl} {H : Hp} {Q : Value → Hp → Prop} (h : pack_Of.vc J0 b H Q) : SCalls Try.prog pack_Of.id [.slice b.a b.len b.cap] H Q := vFn_of Try.mixed Try.func42 (pack_Of.eq J0 b H Q) h

/-! 43: (*tephra/pack.Reader).Num -/
noncomputable def pack_Reader_Num.cf : Cfg := ⟨[], [(3, [3, 7, 8, 9])], [], [], true, []⟩
noncomputable def pack_Reader_Num.l1.st (x : Sl) (H2 : Hp) (n : Int) (x1 : Int) : VS := ⟨mkFr 20 [(3, .v (.int .i64 n)), (7, .v (.slice x.a x.len x.cap)), (8, .v (.int .i64 ((x.len : Nat) : Int))), (9, .v (.int .i64 x1))], [], H2⟩
noncomputable def pack_Reader_Num.l1 (J : Jn) (x : Sl) (H2 : Hp) (n : Int) (x1 : Int) (Q : Value → Hp → Prop) : Prop := vAt Try.prog pack_Reader_Num.cf J pack_Reader_Num.fn [1, 1, 0, 1, 0] [0, 0, 0, 0] Q (pack_Reader_Num.l1.st x H2 n x1)
attribute [irreducible] pack_Reader_Num.l1
noncomputable def pack_Reader_Num.l1.body (J : Jn) (x : Sl) (H2 : Hp) (n : Int) (x1 : Int) (Q : Value → Hp → Prop) : Prop :=
 
 Br (decide (x1 < ((x.len : Nat) : Int))) (((0 : Int) ≤ x1 ∧ x1 < ((x.len : Nat) : Int)) ∧ vPtr x.a (fun a => ∃ x2 : Int, Hp.cell? H2 (a.add ((x1 : Int).toNat * 1)) = some (.int .u8 x2) ∧ (0 : Int) ≤ 8 ∧ 
 pack_Reader_Num.l1 J x H2 (bor .i64 (w64 (n * 2 ^ 8)) (w64 (x2))) (w64 (x1 + 1)) Q))
 (Q (.int .i64 n) H2)
theorem pack_Reader_Num.l1.eq (J : Jn) (x : Sl) (H2 : Hp) (n : Int) (x1 : Int) (Q : Value → Hp → Prop) : vAtBody Try.prog pack_Reader_Num.cf J pack_Reader_Num.fn [1, 1, 0, 1, 0] [0, 0, 0, 0] Q (pack_Reader_Num.l1.st x H2 n x1) = pack_Reader_Num.l1.body J x H2 n x1 Q := by kernel_rfl
theorem pack_Reader_Num.l1.step {x : Sl} {H2 : Hp} {n : Int} {x1 : Int} {Q : Value → Hp → Prop} (h : pack_Reader_Num.l1.body J0 x H2 n x1 Q) : pack_Reader_Num.l1 J0 x H2 n x1 Q := vAt_stepC (pack_Reader_Num.l1.st x H2 n x1) (pack_Reader_Num.l1.eq J0 x H2 n x1 Q) (by kernel_rfl) h
noncomputable def pack_Reader_Num.vc (J : Jn) (r : Addr) (H : Hp) (Q : Value → Hp → Prop) : Prop :=
 
 SCalls Try.prog pack_Reader_take.id [.pointer (some r), .int .i64 8] H (fun r1 H1 => ∃ x : Sl, r1 = .slice x.a x.len x.cap ∧ 
 pack_Reader_Num.l1 J x H1 0 0 Q)
theorem pack_Reader_Num.eq (J : Jn) (r : Addr) (H : Hp) (Q : Value → Hp → Prop) : vFn Try.prog pack_Reader_Num.cf J pack_Reader_Num.fn [.pointer (some r)] H Q = pack_Reader_Num.vc J r H Q := by kernel_rfl
theorem pack_Reader_Num.calls {r : Addr} {H : Hp} {Q : Value → Hp → Prop} (h : pack_Reader_Num.vc J0 r H Q) : SCalls Try.prog pack_Reader_Num.id [.pointer (some r)] H Q := vFn_of Try.mixed Try.func43 (pack_Reader_Num.eq J0 r H Q) h

/-! 44: tephra/cmds.get -/
noncomputable def cmds_get.cf : Cfg := ⟨[2, 3], [], [], [], true, []⟩
noncomputable def cmds_get.vc (J : Jn) (r : Addr) (H : Hp) (Q : Value → Hp → Prop) : Prop :=
 
 SCalls Try.prog pack_Reader_Byte.id [.pointer (some r)] (holes H 1) (fun r1 H1 => ∃ x : Int, r1 = .int .u8 x ∧ 
 SCalls Try.prog pack_Reader_Num.id [.pointer (some r)] (holes H1 1) (fun r2 H2 => ∃ x1 : Int, r2 = .int .i64 x1 ∧ 
 SCalls Try.prog pack_Reader_Num.id [.pointer (some r)] H2 (fun r3 H3 => ∃ x2 : Int, r3 = .int .i64 x2 ∧ 
 SCalls Try.prog pack_Reader_Text.id [.pointer (some r)] H3 (fun r4 H4 => ∃ x3 : ByteArray, r4 = .string x3 ∧ 
 SCalls Try.prog pack_Reader_Text.id [.pointer (some r)] H4 (fun r5 H5 => ∃ x4 : ByteArray, r5 = .string x4 ∧ 
 SCalls Try.prog pack_Reader_Text.id [.pointer (some r)] H5 (fun r6 H6 => ∃ x5 : ByteArray, r6 = .string x5 ∧ Q (.agg #[.int .i64 (w64 (x)), .int .i64 x1, .int .i64 x2, .string x3, .string x4, .string x5]) H6))))))
theorem cmds_get.eq (J : Jn) (r : Addr) (H : Hp) (Q : Value → Hp → Prop) : vFn Try.prog cmds_get.cf J cmds_get.fn [.pointer (some r)] H Q = cmds_get.vc J r H Q := by kernel_rfl
theorem cmds_get.calls {r : Addr} {H : Hp} {Q : Value → Hp → Prop} (h : cmds_get.vc J0 r H Q) : SCalls Try.prog cmds_get.id [.pointer (some r)] H Q := vFn_of Try.mixed Try.func44 (cmds_get.eq J0 r H Q) h

/-! 45: (*tephra/pack.Reader).Done -/
noncomputable def pack_Reader_Done.cf : Cfg := ⟨[], [], [], [], true, []⟩
noncomputable def pack_Reader_Done.vc (J : Jn) (r : Addr) (H : Hp) (Q : Value → Hp → Prop) : Prop :=
 ∃ bad : Bool, Hp.cell? H (r.add 1) = some (.bool bad) ∧ 
 Br (!bad) (∃ b : Sl, Hp.cell? H r = some (.slice b.a b.len b.cap) ∧ Q (.bool (((b.len : Nat) : Int) == 0)) H)
 (Q (.bool false) H)
theorem pack_Reader_Done.eq (J : Jn) (r : Addr) (H : Hp) (Q : Value → Hp → Prop) : vFn Try.prog pack_Reader_Done.cf J pack_Reader_Done.fn [.pointer (some r)] H Q = pack_Reader_Done.vc J r H Q := by kernel_rfl
theorem pack_Reader_Done.calls {r : Addr} {H : Hp} {Q : Value → Hp → Prop} (h : pack_Reader_Done.vc J0 r H Q) : SCalls Try.prog pack_Reader_Done.id [.pointer (some r)] H Q := vFn_of Try.mixed Try.func45 (pack_Reader_Done.eq J0 r H Q) h

/-! 47: tephra/image.frames -/
noncomputable def image_frames.cf : Cfg := ⟨[1000003], [(3, [4, 9, 10, 11])], [], [], true, []⟩
noncomputable def image_frames.l1.st (rows : Sl) (H1 : Hp) (out : Sl) (x : Int) : VS := ⟨mkFr 28 [(4, .v (.slice out.a out.len out.cap)), (9, .v (.slice rows.a rows.len rows.cap)), (10, .v (.int .i64 ((rows.len : Nat) : Int))), (11, .v (.int .i64 x))], [], H1⟩
noncomputable def image_frames.l1 (J : Jn) (rows : Sl) (H1 : Hp) (out : Sl) (x : Int) (Q : Value → Hp → Prop) : Prop := vAt Try.prog image_frames.cf J image_frames.fn [1, 1, 0, 1, 0] [0, 0, 0, 0] Q (image_frames.l1.st rows H1 out x)
attribute [irreducible] image_frames.l1
noncomputable def image_frames.l1.body (J : Jn) (rows : Sl) (H1 : Hp) (out : Sl) (x : Int) (Q : Value → Hp → Prop) : Prop :=
 
 Br (decide (x < ((rows.len : Nat) : Int))) (((0 : Int) ≤ x ∧ x < ((rows.len : Nat) : Int)) ∧ vPtr rows.a (fun a => ∃ x1 : Sl, Hp.cell? H1 (a.add ((x : Int).toNat * 1)) = some (.slice x1.a x1.len x1.cap) ∧ 
 SCalls Try.prog frame_Make.id [.slice x1.a x1.len x1.cap] H1 (fun r H2 => ∃ x2 : Sl, ∃ x3 : Int, r = .tuple #[.slice x2.a x2.len x2.cap, .int .i64 x3] ∧ 
 Br (x3 != 0) (Q (.tuple #[.slice none 0 0, .int .i64 x3]) H2)
 (
 vApp Try.prog T_sl_uint8 out.a out.len out.cap (.slice x2.a x2.len x2.cap) H2 (fun ap H3 => 
 image_frames.l1 J rows H3 ap (w64 (x + 1)) Q)))))
 (Q (.tuple #[.slice out.a out.len out.cap, .int .i64 0]) H1)
theorem image_frames.l1.eq (J : Jn) (rows : Sl) (H1 : Hp) (out : Sl) (x : Int) (Q : Value → Hp → Prop) : vAtBody Try.prog image_frames.cf J image_frames.fn [1, 1, 0, 1, 0] [0, 0, 0, 0] Q (image_frames.l1.st rows H1 out x) = image_frames.l1.body J rows H1 out x Q := by kernel_rfl
theorem image_frames.l1.step {rows : Sl} {H1 : Hp} {out : Sl} {x : Int} {Q : Value → Hp → Prop} (h : image_frames.l1.body J0 rows H1 out x Q) : image_frames.l1 J0 rows H1 out x Q := vAt_stepC (image_frames.l1.st rows H1 out x) (image_frames.l1.eq J0 rows H1 out x Q) (by kernel_rfl) h
noncomputable def image_frames.vc (J : Jn) (rows : Sl) (H : Hp) (Q : Value → Hp → Prop) : Prop :=
 
 image_frames.l1 J rows H (Sl.mk none 0 0) 0 Q
theorem image_frames.eq (J : Jn) (rows : Sl) (H : Hp) (Q : Value → Hp → Prop) : vFn Try.prog image_frames.cf J image_frames.fn [.slice rows.a rows.len rows.cap] H Q = image_frames.vc J rows H Q := by kernel_rfl
theorem image_frames.calls {rows : Sl} {H : Hp} {Q : Value → Hp → Prop} (h : image_frames.vc J0 rows H Q) : SCalls Try.prog image_frames.id [.slice rows.a rows.len rows.cap] H Q := vFn_of Try.mixed Try.func47 (image_frames.eq J0 rows H Q) h

/-! 48: tephra/state.Read -/
noncomputable def state_Read.cf : Cfg := ⟨[2, 5, 1000003], [], [], [], true, []⟩
noncomputable def state_Read.vc (J : Jn) (b : Sl) (H : Hp) (Q : Value → Hp → Prop) : Prop :=
 ∀ H1 : Hp, H1 = (holes H 1) → 
 SCalls Try.prog pack_Of.id [.slice b.a b.len b.cap] H1 (fun r H2 => ∃ x : Option Addr, r = .pointer x ∧ 
 SCalls Try.prog pack_Reader_Num.id [.pointer x] H2 (fun r1 H3 => ∃ x1 : Int, r1 = .int .i64 x1 ∧ ∀ H4 : Hp, H4 = (holes H3 1) → 
 SCalls Try.prog pack_Reader_Num.id [.pointer x] H4 (fun r2 H5 => ∃ x2 : Int, r2 = .int .i64 x2 ∧ 
 SCalls Try.prog state_ReadRows.id [.pointer x] H5 (fun r3 H6 => ∃ x3 : Sl, ∃ x4 : Sl, r3 = .tuple #[.slice x3.a x3.len x3.cap, .slice x4.a x4.len x4.cap] ∧ 
 SCalls Try.prog pack_Reader_Done.id [.pointer x] H6 (fun r4 H7 => ∃ x5 : Bool, r4 = .bool x5 ∧ 
 Br (!x5) (
  (
  (Q (.tuple #[.agg #[.int .i64 0, .int .i64 0, .slice none 0 0, .slice none 0 0], .bool false]) H7) ∧ 
  (Q (.tuple #[.agg #[.int .i64 0, .int .i64 0, .slice none 0 0, .slice none 0 0], .bool false]) H7)) ∧ 
  (Q (.tuple #[.agg #[.int .i64 0, .int .i64 0, .slice none 0 0, .slice none 0 0], .bool false]) H7))
 (
 SCalls Try.prog state_Right.id [.agg #[.int .i64 x1, .int .i64 x2, .slice x3.a x3.len x3.cap, .slice x4.a x4.len x4.cap]] H7 (fun r5 H8 => ∃ x6 : Bool, r5 = .bool x6 ∧ 
 Br (!x6) (
  (
  (Q (.tuple #[.agg #[.int .i64 0, .int .i64 0, .slice none 0 0, .slice none 0 0], .bool false]) H8) ∧ 
  (Q (.tuple #[.agg #[.int .i64 0, .int .i64 0, .slice none 0 0, .slice none 0 0], .bool false]) H8)) ∧ 
  (Q (.tuple #[.agg #[.int .i64 0, .int .i64 0, .slice none 0 0, .slice none 0 0], .bool false]) H8))
 (
  (
 SCalls Try.prog state_Bytes.id [.agg #[.int .i64 x1, .int .i64 x2, .slice x3.a x3.len x3.cap, .slice x4.a x4.len x4.cap]] H8 (fun r6 H9 => ∃ x7 : Sl, r6 = .slice x7.a x7.len x7.cap ∧ 
  (vB2S H9 x7.a x7.len (fun s => vB2S H9 b.a b.len (fun s1 => 
 Br (!(s.toList == s1.toList)) (Q (.tuple #[.agg #[.int .i64 0, .int .i64 0, .slice none 0 0, .slice none 0 0], .bool false]) H9)
 (Q (.tuple #[.agg #[.int .i64 x1, .int .i64 x2, .slice x3.a x3.len x3.cap, .slice x4.a x4.len x4.cap], .bool true]) H9)))) ∧ 
  (vB2S H9 b.a b.len (fun s2 => vB2S H9 x7.a x7.len (fun s3 => 
 Br (!(s3.toList == s2.toList)) (Q (.tuple #[.agg #[.int .i64 0, .int .i64 0, .slice none 0 0, .slice none 0 0], .bool false]) H9)
 (Q (.tuple #[.agg #[.int .i64 x1, .int .i64 x2, .slice x3.a x3.len x3.cap, .slice x4.a x4.len x4.cap], .bool true]) H9)))))) ∧ 
  (vB2S H8 b.a b.len (fun s4 => 
 SCalls Try.prog state_Bytes.id [.agg #[.int .i64 x1, .int .i64 x2, .slice x3.a x3.len x3.cap, .slice x4.a x4.len x4.cap]] H8 (fun r7 H10 => ∃ x8 : Sl, r7 = .slice x8.a x8.len x8.cap ∧ vB2S H10 x8.a x8.len (fun s5 => 
 Br (!(s5.toList == s4.toList)) (Q (.tuple #[.agg #[.int .i64 0, .int .i64 0, .slice none 0 0, .slice none 0 0], .bool false]) H10)
 (Q (.tuple #[.agg #[.int .i64 x1, .int .i64 x2, .slice x3.a x3.len x3.cap, .slice x4.a x4.len x4.cap], .bool true]) H10)))))))))))))
theorem state_Read.eq (J : Jn) (b : Sl) (H : Hp) (Q : Value → Hp → Prop) : vFn Try.prog state_Read.cf J state_Read.fn [.slice b.a b.len b.cap] H Q = state_Read.vc J b H Q := by kernel_rfl
theorem state_Read.calls {b : Sl} {H : Hp} {Q : Value → Hp → Prop} (h : state_Read.vc J0 b H Q) : SCalls Try.prog state_Read.id [.slice b.a b.len b.cap] H Q := vFn_of Try.mixed Try.func48 (state_Read.eq J0 b H Q) h

/-! 49: tephra/state.PutRows -/
noncomputable def state_PutRows.cf : Cfg := ⟨[7, 10, 1000003], [(2, [0, 2, 15, 16, 17]), (11, [0, 37, 38, 39])], [(7, [0, 2, 7, 8, 15, 16, 17], true)], [], true, []⟩
noncomputable def state_PutRows.l1.st (w : Addr) (ps : Sl) (xs : Sl) (H2 : Hp) (x1 : Int) : VS := ⟨mkFr 59 [(0, .v (.pointer (some w))), (2, .v (.slice xs.a xs.len xs.cap)), (15, .v (.slice ps.a ps.len ps.cap)), (16, .v (.int .i64 ((ps.len : Nat) : Int))), (17, .v (.int .i64 x1))], [], H2⟩
noncomputable def state_PutRows.l1 (J : Jn) (w : Addr) (ps : Sl) (xs : Sl) (H2 : Hp) (x1 : Int) (Q : Value → Hp → Prop) : Prop := vAt Try.prog state_PutRows.cf J state_PutRows.fn [1, 0, 1, 0] [0, 0, 0] Q (state_PutRows.l1.st w ps xs H2 x1)
noncomputable def state_PutRows.k1.st (w : Addr) (ps : Sl) (xs : Sl) (x1 : Int) (Key : ByteArray) (Valuev : ByteArray) (Gone : Bool) (H3 : Hp) (gone : Int) : VS := ⟨mkFr 59 [(0, .v (.pointer (some w))), (2, .v (.slice xs.a xs.len xs.cap)), (7, .loc 0 0), (8, .v (.int .u8 gone)), (15, .v (.slice ps.a ps.len ps.cap)), (16, .v (.int .i64 ((ps.len : Nat) : Int))), (17, .v (.int .i64 x1))], [(T_api_Pair, [.string Key, .string Valuev, .bool Gone])], H3⟩
noncomputable def state_PutRows.k1 (J : Jn) (w : Addr) (ps : Sl) (xs : Sl) (x1 : Int) (Key : ByteArray) (Valuev : ByteArray) (Gone : Bool) (H3 : Hp) (gone : Int) (Q : Value → Hp → Prop) : Prop := J (vSeg Try.prog state_PutRows.cf J state_PutRows.fn [1, 0, 1, 0, 0, 1, 1, 0, 0, 1, 1, 1] [0, 0, 0, 0, 0, 0, 0, 0, 1, 1] Q) (state_PutRows.k1.st w ps xs x1 Key Valuev Gone H3 gone)
noncomputable def state_PutRows.l2.st (w : Addr) (xs : Sl) (H8 : Hp) (x6 : Int) : VS := ⟨mkFr 59 [(0, .v (.pointer (some w))), (37, .v (.slice xs.a xs.len xs.cap)), (38, .v (.int .i64 ((xs.len : Nat) : Int))), (39, .v (.int .i64 x6))], [], H8⟩
noncomputable def state_PutRows.l2 (J : Jn) (w : Addr) (xs : Sl) (H8 : Hp) (x6 : Int) (Q : Value → Hp → Prop) : Prop := vAt Try.prog state_PutRows.cf J state_PutRows.fn [1, 1, 1, 1, 0] [0, 0, 0, 0] Q (state_PutRows.l2.st w xs H8 x6)
attribute [irreducible] state_PutRows.l1 state_PutRows.k1 state_PutRows.l2
noncomputable def state_PutRows.l1.body (J : Jn) (w : Addr) (ps : Sl) (xs : Sl) (H2 : Hp) (x1 : Int) (Q : Value → Hp → Prop) : Prop :=
 
 Br (decide (x1 < ((ps.len : Nat) : Int))) (((0 : Int) ≤ x1 ∧ x1 < ((ps.len : Nat) : Int)) ∧ vPtr ps.a (fun a => ∃ Key : ByteArray, ∃ Valuev : ByteArray, ∃ Gone : Bool, RowAt H2 (a.add ((x1 : Int).toNat * 3)) [.string Key, .string Valuev, .bool Gone] ∧ ∀ H3 : Hp, H3 = (holes H2 1) → 
 Br Gone (
 state_PutRows.k1 J w ps xs x1 Key Valuev Gone H3 1 Q)
 (
 state_PutRows.k1 J w ps xs x1 Key Valuev Gone H3 0 Q)))
 (
 SCalls Try.prog pack_Writer_Num.id [.pointer (some w), .int .i64 ((xs.len : Nat) : Int)] H2 (fun r4 H7 => ∃ x5 : Option Addr, r4 = .pointer x5 ∧ 
 state_PutRows.l2 J w xs H7 0 Q))
theorem state_PutRows.l1.eq (J : Jn) (w : Addr) (ps : Sl) (xs : Sl) (H2 : Hp) (x1 : Int) (Q : Value → Hp → Prop) : vAtBody Try.prog state_PutRows.cf J state_PutRows.fn [1, 0, 1, 0] [0, 0, 0] Q (state_PutRows.l1.st w ps xs H2 x1) = state_PutRows.l1.body J w ps xs H2 x1 Q := by kernel_rfl
theorem state_PutRows.l1.step {w : Addr} {ps : Sl} {xs : Sl} {H2 : Hp} {x1 : Int} {Q : Value → Hp → Prop} (h : state_PutRows.l1.body J0 w ps xs H2 x1 Q) : state_PutRows.l1 J0 w ps xs H2 x1 Q := vAt_stepC (state_PutRows.l1.st w ps xs H2 x1) (state_PutRows.l1.eq J0 w ps xs H2 x1 Q) (by kernel_rfl) h
noncomputable def state_PutRows.k1.body (J : Jn) (w : Addr) (ps : Sl) (xs : Sl) (x1 : Int) (Key : ByteArray) (Valuev : ByteArray) (Gone : Bool) (H3 : Hp) (gone : Int) (Q : Value → Hp → Prop) : Prop :=
 
 SCalls Try.prog pack_Writer_Text.id [.pointer (some w), .string Key] H3 (fun r1 H4 => ∃ x2 : Option Addr, r1 = .pointer x2 ∧ 
 SCalls Try.prog pack_Writer_Text.id [.pointer x2, .string Valuev] H4 (fun r2 H5 => ∃ x3 : Option Addr, r2 = .pointer x3 ∧ 
 SCalls Try.prog pack_Writer_Byte.id [.pointer x3, .int .u8 gone] H5 (fun r3 H6 => ∃ x4 : Option Addr, r3 = .pointer x4 ∧ 
 state_PutRows.l1 J w ps xs H6 (w64 (x1 + 1)) Q)))
theorem state_PutRows.k1.eq (J : Jn) (w : Addr) (ps : Sl) (xs : Sl) (x1 : Int) (Key : ByteArray) (Valuev : ByteArray) (Gone : Bool) (H3 : Hp) (gone : Int) (Q : Value → Hp → Prop) : vSeg Try.prog state_PutRows.cf J state_PutRows.fn [1, 0, 1, 0, 0, 1, 1, 0, 0, 1, 1, 1] [0, 0, 0, 0, 0, 0, 0, 0, 1, 1] Q (state_PutRows.k1.st w ps xs x1 Key Valuev Gone H3 gone) = state_PutRows.k1.body J w ps xs x1 Key Valuev Gone H3 gone Q := by kernel_rfl
theorem state_PutRows.k1.step {w : Addr} {ps : Sl} {xs : Sl} {x1 : Int} {Key : ByteArray} {Valuev : ByteArray} {Gone : Bool} {H3 : Hp} {gone : Int} {Q : Value → Hp → Prop} (h : state_PutRows.k1.body J0 w ps xs x1 Key Valuev Gone H3 gone Q) : state_PutRows.k1 J0 w ps xs x1 Key Valuev Gone H3 gone Q := step_of (vSeg Try.prog state_PutRows.cf J0 state_PutRows.fn [1, 0, 1, 0, 0, 1, 1, 0, 0, 1, 1, 1] [0, 0, 0, 0, 0, 0, 0, 0, 1, 1] Q) (state_PutRows.k1.st w ps xs x1 Key Valuev Gone H3 gone) (state_PutRows.k1.eq J0 w ps xs x1 Key Valuev Gone H3 gone Q) (by kernel_rfl) h
noncomputable def state_PutRows.l2.body (J : Jn) (w : Addr) (xs : Sl) (H8 : Hp) (x6 : Int) (Q : Value → Hp → Prop) : Prop :=
 
 Br (decide (x6 < ((xs.len : Nat) : Int))) (((0 : Int) ≤ x6 ∧ x6 < ((xs.len : Nat) : Int)) ∧ vPtr xs.a (fun a1 => ∃ Client : Int, ∃ Seq : Int, ∃ ReplyErr : Int, ∃ ReplyValue : ByteArray, RowAt H8 (a1.add ((x6 : Int).toNat * 4)) [.int .i64 Client, .int .i64 Seq, .int .i64 ReplyErr, .string ReplyValue] ∧ ∀ H9 : Hp, H9 = (holes H8 1) → 
 SCalls Try.prog pack_Writer_Num.id [.pointer (some w), .int .i64 Client] H9 (fun r5 H10 => ∃ x7 : Option Addr, r5 = .pointer x7 ∧ 
 SCalls Try.prog pack_Writer_Num.id [.pointer x7, .int .i64 Seq] H10 (fun r6 H11 => ∃ x8 : Option Addr, r6 = .pointer x8 ∧ 
 SCalls Try.prog pack_Writer_Num.id [.pointer x8, .int .i64 ReplyErr] H11 (fun r7 H12 => ∃ x9 : Option Addr, r7 = .pointer x9 ∧ 
 SCalls Try.prog pack_Writer_Text.id [.pointer x9, .string ReplyValue] H12 (fun r8 H13 => ∃ x10 : Option Addr, r8 = .pointer x10 ∧ 
 state_PutRows.l2 J w xs H13 (w64 (x6 + 1)) Q))))))
 (Q (.tuple #[]) H8)
theorem state_PutRows.l2.eq (J : Jn) (w : Addr) (xs : Sl) (H8 : Hp) (x6 : Int) (Q : Value → Hp → Prop) : vAtBody Try.prog state_PutRows.cf J state_PutRows.fn [1, 1, 1, 1, 0] [0, 0, 0, 0] Q (state_PutRows.l2.st w xs H8 x6) = state_PutRows.l2.body J w xs H8 x6 Q := by kernel_rfl
theorem state_PutRows.l2.step {w : Addr} {xs : Sl} {H8 : Hp} {x6 : Int} {Q : Value → Hp → Prop} (h : state_PutRows.l2.body J0 w xs H8 x6 Q) : state_PutRows.l2 J0 w xs H8 x6 Q := vAt_stepC (state_PutRows.l2.st w xs H8 x6) (state_PutRows.l2.eq J0 w xs H8 x6 Q) (by kernel_rfl) h
noncomputable def state_PutRows.vc (J : Jn) (w : Addr) (ps : Sl) (xs : Sl) (H : Hp) (Q : Value → Hp → Prop) : Prop :=
 
 SCalls Try.prog pack_Writer_Num.id [.pointer (some w), .int .i64 ((ps.len : Nat) : Int)] H (fun r H1 => ∃ x : Option Addr, r = .pointer x ∧ 
 state_PutRows.l1 J w ps xs H1 0 Q)
theorem state_PutRows.eq (J : Jn) (w : Addr) (ps : Sl) (xs : Sl) (H : Hp) (Q : Value → Hp → Prop) : vFn Try.prog state_PutRows.cf J state_PutRows.fn [.pointer (some w), .slice ps.a ps.len ps.cap, .slice xs.a xs.len xs.cap] H Q = state_PutRows.vc J w ps xs H Q := by kernel_rfl
theorem state_PutRows.calls {w : Addr} {ps : Sl} {xs : Sl} {H : Hp} {Q : Value → Hp → Prop} (h : state_PutRows.vc J0 w ps xs H Q) : SCalls Try.prog state_PutRows.id [.pointer (some w), .slice ps.a ps.len ps.cap, .slice xs.a xs.len xs.cap] H Q := vFn_of Try.mixed Try.func49 (state_PutRows.eq J0 w ps xs H Q) h

/-! 51: tephra/state.RightRows -/
noncomputable def state_RightRows.cf : Cfg := ⟨[8, 10, 1000003], [(2, [0, 1, 2, 11, 12, 13]), (8, [0, 1, 2, 58, 59, 60])], [(5, [0, 1, 2, 11, 12, 13, 56], true), (11, [0, 1, 2, 58, 59, 60, 116], true)], [], true, []⟩
noncomputable def state_RightRows.l1.st (ps : Sl) (xs : Sl) (most : Int) (H1 : Hp) (x : Int) : VS := ⟨mkFr 122 [(0, .v (.slice ps.a ps.len ps.cap)), (1, .v (.slice xs.a xs.len xs.cap)), (2, .v (.int .i64 most)), (11, .v (.slice ps.a ps.len ps.cap)), (12, .v (.int .i64 ((ps.len : Nat) : Int))), (13, .v (.int .i64 x))], [], H1⟩
noncomputable def state_RightRows.l1 (J : Jn) (ps : Sl) (xs : Sl) (most : Int) (H1 : Hp) (x : Int) (Q : Value → Hp → Prop) : Prop := vAt Try.prog state_RightRows.cf J state_RightRows.fn [1, 0, 1, 0] [0, 0, 0] Q (state_RightRows.l1.st ps xs most H1 x)
noncomputable def state_RightRows.k1.st (ps : Sl) (xs : Sl) (most : Int) (x : Int) (Key : ByteArray) (Valuev : ByteArray) (Gone : Bool) (H2 : Hp) (x1 : Bool) : VS := ⟨mkFr 122 [(0, .v (.slice ps.a ps.len ps.cap)), (1, .v (.slice xs.a xs.len xs.cap)), (2, .v (.int .i64 most)), (11, .v (.slice ps.a ps.len ps.cap)), (12, .v (.int .i64 ((ps.len : Nat) : Int))), (13, .v (.int .i64 x)), (56, .v (.bool x1))], [(T_api_Pair, [.string Key, .string Valuev, .bool Gone])], H2⟩
noncomputable def state_RightRows.k1 (J : Jn) (ps : Sl) (xs : Sl) (most : Int) (x : Int) (Key : ByteArray) (Valuev : ByteArray) (Gone : Bool) (H2 : Hp) (x1 : Bool) (Q : Value → Hp → Prop) : Prop := J (vSeg Try.prog state_RightRows.cf J state_RightRows.fn [1, 0, 1, 0, 0, 1, 1, 0, 0, 1, 1] [0, 0, 0, 0, 0, 0, 0, 0, 1] Q) (state_RightRows.k1.st ps xs most x Key Valuev Gone H2 x1)
noncomputable def state_RightRows.l2.st (ps : Sl) (xs : Sl) (most : Int) (H3 : Hp) (x2 : Int) : VS := ⟨mkFr 122 [(0, .v (.slice ps.a ps.len ps.cap)), (1, .v (.slice xs.a xs.len xs.cap)), (2, .v (.int .i64 most)), (58, .v (.slice xs.a xs.len xs.cap)), (59, .v (.int .i64 ((xs.len : Nat) : Int))), (60, .v (.int .i64 x2))], [], H3⟩
noncomputable def state_RightRows.l2 (J : Jn) (ps : Sl) (xs : Sl) (most : Int) (H3 : Hp) (x2 : Int) (Q : Value → Hp → Prop) : Prop := vAt Try.prog state_RightRows.cf J state_RightRows.fn [1, 1, 0, 1, 0] [0, 0, 0, 0] Q (state_RightRows.l2.st ps xs most H3 x2)
noncomputable def state_RightRows.k2.st (ps : Sl) (xs : Sl) (most : Int) (x2 : Int) (Client : Int) (Seq : Int) (ReplyErr : Int) (ReplyValue : ByteArray) (H4 : Hp) (x3 : Bool) : VS := ⟨mkFr 122 [(0, .v (.slice ps.a ps.len ps.cap)), (1, .v (.slice xs.a xs.len xs.cap)), (2, .v (.int .i64 most)), (58, .v (.slice xs.a xs.len xs.cap)), (59, .v (.int .i64 ((xs.len : Nat) : Int))), (60, .v (.int .i64 x2)), (116, .v (.bool x3))], [(T_api_Session, [.int .i64 Client, .int .i64 Seq, .int .i64 ReplyErr, .string ReplyValue])], H4⟩
noncomputable def state_RightRows.k2 (J : Jn) (ps : Sl) (xs : Sl) (most : Int) (x2 : Int) (Client : Int) (Seq : Int) (ReplyErr : Int) (ReplyValue : ByteArray) (H4 : Hp) (x3 : Bool) (Q : Value → Hp → Prop) : Prop := J (vSeg Try.prog state_RightRows.cf J state_RightRows.fn [1, 1, 0, 1, 0, 0, 1, 1, 0, 0, 1, 1] [0, 0, 0, 0, 0, 0, 0, 0, 0, 1] Q) (state_RightRows.k2.st ps xs most x2 Client Seq ReplyErr ReplyValue H4 x3)
attribute [irreducible] state_RightRows.l1 state_RightRows.k1 state_RightRows.l2 state_RightRows.k2
noncomputable def state_RightRows.l1.body (J : Jn) (ps : Sl) (xs : Sl) (most : Int) (H1 : Hp) (x : Int) (Q : Value → Hp → Prop) : Prop :=
 
 Br (decide (x < ((ps.len : Nat) : Int))) (((0 : Int) ≤ x ∧ x < ((ps.len : Nat) : Int)) ∧ vPtr ps.a (fun a => ∃ Key : ByteArray, ∃ Valuev : ByteArray, ∃ Gone : Bool, RowAt H1 (a.add ((x : Int).toNat * 3)) [.string Key, .string Valuev, .bool Gone] ∧ ∀ H2 : Hp, H2 = (holes H1 1) → 
 Br (Key.toList == (ByteArray.mk #[]).toList) (
 state_RightRows.k1 J ps xs most x Key Valuev Gone H2 true Q)
 (
 Br (decide (((Key.size : Nat) : Int) > 8)) (
 state_RightRows.k1 J ps xs most x Key Valuev Gone H2 true Q)
 (
 Br (decide (((Valuev.size : Nat) : Int) > 16)) (
 state_RightRows.k1 J ps xs most x Key Valuev Gone H2 true Q)
 (
 Br Gone (
 Br (!(Valuev.toList == (ByteArray.mk #[]).toList)) (
 state_RightRows.k1 J ps xs most x Key Valuev Gone H2 true Q)
 (
 Br (decide (x > 0)) (((0 : Int) ≤ (w64 (x - 1)) ∧ (w64 (x - 1)) < ((ps.len : Nat) : Int)) ∧ vPtr ps.a (fun a1 => ∃ Key1 : ByteArray, Hp.cell? H2 (a1.add (((w64 (x - 1)) : Int).toNat * 3)) = some (.string Key1) ∧ 
 state_RightRows.k1 J ps xs most x Key Valuev Gone H2 (!(Op.bytesLess Key1.toList Key.toList)) Q))
 (
 state_RightRows.k1 J ps xs most x Key Valuev Gone H2 false Q)))
 (
 Br (decide (x > 0)) (((0 : Int) ≤ (w64 (x - 1)) ∧ (w64 (x - 1)) < ((ps.len : Nat) : Int)) ∧ vPtr ps.a (fun a2 => ∃ Key2 : ByteArray, Hp.cell? H2 (a2.add (((w64 (x - 1)) : Int).toNat * 3)) = some (.string Key2) ∧ 
 state_RightRows.k1 J ps xs most x Key Valuev Gone H2 (!(Op.bytesLess Key2.toList Key.toList)) Q))
 (
 state_RightRows.k1 J ps xs most x Key Valuev Gone H2 false Q)))))))
 (
 state_RightRows.l2 J ps xs most H1 0 Q)
theorem state_RightRows.l1.eq (J : Jn) (ps : Sl) (xs : Sl) (most : Int) (H1 : Hp) (x : Int) (Q : Value → Hp → Prop) : vAtBody Try.prog state_RightRows.cf J state_RightRows.fn [1, 0, 1, 0] [0, 0, 0] Q (state_RightRows.l1.st ps xs most H1 x) = state_RightRows.l1.body J ps xs most H1 x Q := by kernel_rfl
theorem state_RightRows.l1.step {ps : Sl} {xs : Sl} {most : Int} {H1 : Hp} {x : Int} {Q : Value → Hp → Prop} (h : state_RightRows.l1.body J0 ps xs most H1 x Q) : state_RightRows.l1 J0 ps xs most H1 x Q := vAt_stepC (state_RightRows.l1.st ps xs most H1 x) (state_RightRows.l1.eq J0 ps xs most H1 x Q) (by kernel_rfl) h
noncomputable def state_RightRows.k1.body (J : Jn) (ps : Sl) (xs : Sl) (most : Int) (x : Int) (Key : ByteArray) (Valuev : ByteArray) (Gone : Bool) (H2 : Hp) (x1 : Bool) (Q : Value → Hp → Prop) : Prop :=
 
 Br x1 (Q (.bool false) H2)
 (
 state_RightRows.l1 J ps xs most H2 (w64 (x + 1)) Q)
theorem state_RightRows.k1.eq (J : Jn) (ps : Sl) (xs : Sl) (most : Int) (x : Int) (Key : ByteArray) (Valuev : ByteArray) (Gone : Bool) (H2 : Hp) (x1 : Bool) (Q : Value → Hp → Prop) : vSeg Try.prog state_RightRows.cf J state_RightRows.fn [1, 0, 1, 0, 0, 1, 1, 0, 0, 1, 1] [0, 0, 0, 0, 0, 0, 0, 0, 1] Q (state_RightRows.k1.st ps xs most x Key Valuev Gone H2 x1) = state_RightRows.k1.body J ps xs most x Key Valuev Gone H2 x1 Q := by kernel_rfl
theorem state_RightRows.k1.step {ps : Sl} {xs : Sl} {most : Int} {x : Int} {Key : ByteArray} {Valuev : ByteArray} {Gone : Bool} {H2 : Hp} {x1 : Bool} {Q : Value → Hp → Prop} (h : state_RightRows.k1.body J0 ps xs most x Key Valuev Gone H2 x1 Q) : state_RightRows.k1 J0 ps xs most x Key Valuev Gone H2 x1 Q := step_of (vSeg Try.prog state_RightRows.cf J0 state_RightRows.fn [1, 0, 1, 0, 0, 1, 1, 0, 0, 1, 1] [0, 0, 0, 0, 0, 0, 0, 0, 1] Q) (state_RightRows.k1.st ps xs most x Key Valuev Gone H2 x1) (state_RightRows.k1.eq J0 ps xs most x Key Valuev Gone H2 x1 Q) (by kernel_rfl) h
noncomputable def state_RightRows.l2.body (J : Jn) (ps : Sl) (xs : Sl) (most : Int) (H3 : Hp) (x2 : Int) (Q : Value → Hp → Prop) : Prop :=
 
 Br (decide (x2 < ((xs.len : Nat) : Int))) (((0 : Int) ≤ x2 ∧ x2 < ((xs.len : Nat) : Int)) ∧ vPtr xs.a (fun a3 => ∃ Client : Int, ∃ Seq : Int, ∃ ReplyErr : Int, ∃ ReplyValue : ByteArray, RowAt H3 (a3.add ((x2 : Int).toNat * 4)) [.int .i64 Client, .int .i64 Seq, .int .i64 ReplyErr, .string ReplyValue] ∧ ∀ H4 : Hp, H4 = (holes H3 1) → 
 Br (decide (Client < 0)) (
 state_RightRows.k2 J ps xs most x2 Client Seq ReplyErr ReplyValue H4 true Q)
 (
 Br (decide (Client ≥ 4)) (
 state_RightRows.k2 J ps xs most x2 Client Seq ReplyErr ReplyValue H4 true Q)
 (
 Br (decide (Seq < 0)) (
 state_RightRows.k2 J ps xs most x2 Client Seq ReplyErr ReplyValue H4 true Q)
 (
 Br (decide (Seq > 1048576)) (
 state_RightRows.k2 J ps xs most x2 Client Seq ReplyErr ReplyValue H4 true Q)
 (
 Br (decide (ReplyErr < 0)) (
 state_RightRows.k2 J ps xs most x2 Client Seq ReplyErr ReplyValue H4 true Q)
 (
 Br (decide (ReplyErr > 14)) (
 state_RightRows.k2 J ps xs most x2 Client Seq ReplyErr ReplyValue H4 true Q)
 (
 Br (decide (((ReplyValue.size : Nat) : Int) > 16)) (
 state_RightRows.k2 J ps xs most x2 Client Seq ReplyErr ReplyValue H4 true Q)
 (
 Br (decide (x2 > 0)) (((0 : Int) ≤ (w64 (x2 - 1)) ∧ (w64 (x2 - 1)) < ((xs.len : Nat) : Int)) ∧ vPtr xs.a (fun a4 => ∃ Client1 : Int, Hp.cell? H4 (a4.add (((w64 (x2 - 1)) : Int).toNat * 4)) = some (.int .i64 Client1) ∧ 
 state_RightRows.k2 J ps xs most x2 Client Seq ReplyErr ReplyValue H4 (decide (Client1 ≥ Client)) Q))
 (
 state_RightRows.k2 J ps xs most x2 Client Seq ReplyErr ReplyValue H4 false Q))))))))))
 (Q (.bool (decide (((ps.len : Nat) : Int) ≤ most))) H3)
theorem state_RightRows.l2.eq (J : Jn) (ps : Sl) (xs : Sl) (most : Int) (H3 : Hp) (x2 : Int) (Q : Value → Hp → Prop) : vAtBody Try.prog state_RightRows.cf J state_RightRows.fn [1, 1, 0, 1, 0] [0, 0, 0, 0] Q (state_RightRows.l2.st ps xs most H3 x2) = state_RightRows.l2.body J ps xs most H3 x2 Q := by kernel_rfl
theorem state_RightRows.l2.step {ps : Sl} {xs : Sl} {most : Int} {H3 : Hp} {x2 : Int} {Q : Value → Hp → Prop} (h : state_RightRows.l2.body J0 ps xs most H3 x2 Q) : state_RightRows.l2 J0 ps xs most H3 x2 Q := vAt_stepC (state_RightRows.l2.st ps xs most H3 x2) (state_RightRows.l2.eq J0 ps xs most H3 x2 Q) (by kernel_rfl) h
noncomputable def state_RightRows.k2.body (J : Jn) (ps : Sl) (xs : Sl) (most : Int) (x2 : Int) (Client : Int) (Seq : Int) (ReplyErr : Int) (ReplyValue : ByteArray) (H4 : Hp) (x3 : Bool) (Q : Value → Hp → Prop) : Prop :=
 
 Br x3 (Q (.bool false) H4)
 (
 state_RightRows.l2 J ps xs most H4 (w64 (x2 + 1)) Q)
theorem state_RightRows.k2.eq (J : Jn) (ps : Sl) (xs : Sl) (most : Int) (x2 : Int) (Client : Int) (Seq : Int) (ReplyErr : Int) (ReplyValue : ByteArray) (H4 : Hp) (x3 : Bool) (Q : Value → Hp → Prop) : vSeg Try.prog state_RightRows.cf J state_RightRows.fn [1, 1, 0, 1, 0, 0, 1, 1, 0, 0, 1, 1] [0, 0, 0, 0, 0, 0, 0, 0, 0, 1] Q (state_RightRows.k2.st ps xs most x2 Client Seq ReplyErr ReplyValue H4 x3) = state_RightRows.k2.body J ps xs most x2 Client Seq ReplyErr ReplyValue H4 x3 Q := by kernel_rfl
theorem state_RightRows.k2.step {ps : Sl} {xs : Sl} {most : Int} {x2 : Int} {Client : Int} {Seq : Int} {ReplyErr : Int} {ReplyValue : ByteArray} {H4 : Hp} {x3 : Bool} {Q : Value → Hp → Prop} (h : state_RightRows.k2.body J0 ps xs most x2 Client Seq ReplyErr ReplyValue H4 x3 Q) : state_RightRows.k2 J0 ps xs most x2 Client Seq ReplyErr ReplyValue H4 x3 Q := step_of (vSeg Try.prog state_RightRows.cf J0 state_RightRows.fn [1, 1, 0, 1, 0, 0, 1, 1, 0, 0, 1, 1] [0, 0, 0, 0, 0, 0, 0, 0, 0, 1] Q) (state_RightRows.k2.st ps xs most x2 Client Seq ReplyErr ReplyValue H4 x3) (state_RightRows.k2.eq J0 ps xs most x2 Client Seq ReplyErr ReplyValue H4 x3 Q) (by kernel_rfl) h
noncomputable def state_RightRows.vc (J : Jn) (ps : Sl) (xs : Sl) (most : Int) (H : Hp) (Q : Value → Hp → Prop) : Prop :=
 
 state_RightRows.l1 J ps xs most H 0 Q
theorem state_RightRows.eq (J : Jn) (ps : Sl) (xs : Sl) (most : Int) (H : Hp) (Q : Value → Hp → Prop) : vFn Try.prog state_RightRows.cf J state_RightRows.fn [.slice ps.a ps.len ps.cap, .slice xs.a xs.len xs.cap, .int .i64 most] H Q = state_RightRows.vc J ps xs most H Q := by kernel_rfl
theorem state_RightRows.calls {ps : Sl} {xs : Sl} {most : Int} {H : Hp} {Q : Value → Hp → Prop} (h : state_RightRows.vc J0 ps xs most H Q) : SCalls Try.prog state_RightRows.id [.slice ps.a ps.len ps.cap, .slice xs.a xs.len xs.cap, .int .i64 most] H Q := vFn_of Try.mixed Try.func51 (state_RightRows.eq J0 ps xs most H Q) h

/-! 57: tephra/check.Sum -/
noncomputable def check_Sum.cf : Cfg := ⟨[1000003], [], [], [], true, []⟩
noncomputable def check_Sum.vc (J : Jn) (b : Sl) (H : Hp) (Q : Value → Hp → Prop) : Prop :=
 
 SCalls Try.prog check_Of.id [.int .u32 3988292384] H (fun r H1 => ∃ x0 : Int, ∃ x1 : Int, ∃ x2 : Int, ∃ x3 : Int, ∃ x4 : Int, ∃ x5 : Int, ∃ x6 : Int, ∃ x7 : Int, ∃ x8 : Int, ∃ x9 : Int, ∃ x10 : Int, ∃ x11 : Int, ∃ x12 : Int, ∃ x13 : Int, ∃ x14 : Int, ∃ x15 : Int, ∃ x16 : Int, ∃ x17 : Int, ∃ x18 : Int, ∃ x19 : Int, ∃ x20 : Int, ∃ x21 : Int, ∃ x22 : Int, ∃ x23 : Int, ∃ x24 : Int, ∃ x25 : Int, ∃ x26 : Int, ∃ x27 : Int, ∃ x28 : Int, ∃ x29 : Int, ∃ x30 : Int, ∃ x31 : Int, ∃ x32 : Int, ∃ x33 : Int, ∃ x34 : Int, ∃ x35 : Int, ∃ x36 : Int, ∃ x37 : Int, ∃ x38 : Int, ∃ x39 : Int, ∃ x40 : Int, ∃ x41 : Int, ∃ x42 : Int, ∃ x43 : Int, ∃ x44 : Int, ∃ x45 : Int, ∃ x46 : Int, ∃ x47 : Int, ∃ x48 : Int, ∃ x49 : Int, ∃ x50 : Int, ∃ x51 : Int, ∃ x52 : Int, ∃ x53 : Int, ∃ x54 : Int, ∃ x55 : Int, ∃ x56 : Int, ∃ x57 : Int, ∃ x58 : Int, ∃ x59 : Int, ∃ x60 : Int, ∃ x61 : Int, ∃ x62 : Int, ∃ x63 : Int, ∃ x64 : Int, ∃ x65 : Int, ∃ x66 : Int, ∃ x67 : Int, ∃ x68 : Int, ∃ x69 : Int, ∃ x70 : Int, ∃ x71 : Int, ∃ x72 : Int, ∃ x73 : Int, ∃ x74 : Int, ∃ x75 : Int, ∃ x76 : Int, ∃ x77 : Int, ∃ x78 : Int, ∃ x79 : Int, ∃ x80 : Int, ∃ x81 : Int, ∃ x82 : Int, ∃ x83 : Int, ∃ x84 : Int, ∃ x85 : Int, ∃ x86 : Int, ∃ x87 : Int, ∃ x88 : Int, ∃ x89 : Int, ∃ x90 : Int, ∃ x91 : Int, ∃ x92 : Int, ∃ x93 : Int, ∃ x94 : Int, ∃ x95 : Int, ∃ x96 : Int, ∃ x97 : Int, ∃ x98 : Int, ∃ x99 : Int, ∃ x100 : Int, ∃ x101 : Int, ∃ x102 : Int, ∃ x103 : Int, ∃ x104 : Int, ∃ x105 : Int, ∃ x106 : Int, ∃ x107 : Int, ∃ x108 : Int, ∃ x109 : Int, ∃ x110 : Int, ∃ x111 : Int, ∃ x112 : Int, ∃ x113 : Int, ∃ x114 : Int, ∃ x115 : Int, ∃ x116 : Int, ∃ x117 : Int, ∃ x118 : Int, ∃ x119 : Int, ∃ x120 : Int, ∃ x121 : Int, ∃ x122 : Int, ∃ x123 : Int, ∃ x124 : Int, ∃ x125 : Int, ∃ x126 : Int, ∃ x127 : Int, ∃ x128 : Int, ∃ x129 : Int, ∃ x130 : Int, ∃ x131 : Int, ∃ x132 : Int, ∃ x133 : Int, ∃ x134 : Int, ∃ x135 : Int, ∃ x136 : Int, ∃ x137 : Int, ∃ x138 : Int, ∃ x139 : Int, ∃ x140 : Int, ∃ x141 : Int, ∃ x142 : Int, ∃ x143 : Int, ∃ x144 : Int, ∃ x145 : Int, ∃ x146 : Int, ∃ x147 : Int, ∃ x148 : Int, ∃ x149 : Int, ∃ x150 : Int, ∃ x151 : Int, ∃ x152 : Int, ∃ x153 : Int, ∃ x154 : Int, ∃ x155 : Int, ∃ x156 : Int, ∃ x157 : Int, ∃ x158 : Int, ∃ x159 : Int, ∃ x160 : Int, ∃ x161 : Int, ∃ x162 : Int, ∃ x163 : Int, ∃ x164 : Int, ∃ x165 : Int, ∃ x166 : Int, ∃ x167 : Int, ∃ x168 : Int, ∃ x169 : Int, ∃ x170 : Int, ∃ x171 : Int, ∃ x172 : Int, ∃ x173 : Int, ∃ x174 : Int, ∃ x175 : Int, ∃ x176 : Int, ∃ x177 : Int, ∃ x178 : Int, ∃ x179 : Int, ∃ x180 : Int, ∃ x181 : Int, ∃ x182 : Int, ∃ x183 : Int, ∃ x184 : Int, ∃ x185 : Int, ∃ x186 : Int, ∃ x187 : Int, ∃ x188 : Int, ∃ x189 : Int, ∃ x190 : Int, ∃ x191 : Int, ∃ x192 : Int, ∃ x193 : Int, ∃ x194 : Int, ∃ x195 : Int, ∃ x196 : Int, ∃ x197 : Int, ∃ x198 : Int, ∃ x199 : Int, ∃ x200 : Int, ∃ x201 : Int, ∃ x202 : Int, ∃ x203 : Int, ∃ x204 : Int, ∃ x205 : Int, ∃ x206 : Int, ∃ x207 : Int, ∃ x208 : Int, ∃ x209 : Int, ∃ x210 : Int, ∃ x211 : Int, ∃ x212 : Int, ∃ x213 : Int, ∃ x214 : Int, ∃ x215 : Int, ∃ x216 : Int, ∃ x217 : Int, ∃ x218 : Int, ∃ x219 : Int, ∃ x220 : Int, ∃ x221 : Int, ∃ x222 : Int, ∃ x223 : Int, ∃ x224 : Int, ∃ x225 : Int, ∃ x226 : Int, ∃ x227 : Int, ∃ x228 : Int, ∃ x229 : Int, ∃ x230 : Int, ∃ x231 : Int, ∃ x232 : Int, ∃ x233 : Int, ∃ x234 : Int, ∃ x235 : Int, ∃ x236 : Int, ∃ x237 : Int, ∃ x238 : Int, ∃ x239 : Int, ∃ x240 : Int, ∃ x241 : Int, ∃ x242 : Int, ∃ x243 : Int, ∃ x244 : Int, ∃ x245 : Int, ∃ x246 : Int, ∃ x247 : Int, ∃ x248 : Int, ∃ x249 : Int, ∃ x250 : Int, ∃ x251 : Int, ∃ x252 : Int, ∃ x253 : Int, ∃ x254 : Int, ∃ x255 : Int, r = .agg #[.int .u32 x0, .int .u32 x1, .int .u32 x2, .int .u32 x3, .int .u32 x4, .int .u32 x5, .int .u32 x6, .int .u32 x7, .int .u32 x8, .int .u32 x9, .int .u32 x10, .int .u32 x11, .int .u32 x12, .int .u32 x13, .int .u32 x14, .int .u32 x15, .int .u32 x16, .int .u32 x17, .int .u32 x18, .int .u32 x19, .int .u32 x20, .int .u32 x21, .int .u32 x22, .int .u32 x23, .int .u32 x24, .int .u32 x25, .int .u32 x26, .int .u32 x27, .int .u32 x28, .int .u32 x29, .int .u32 x30, .int .u32 x31, .int .u32 x32, .int .u32 x33, .int .u32 x34, .int .u32 x35, .int .u32 x36, .int .u32 x37, .int .u32 x38, .int .u32 x39, .int .u32 x40, .int .u32 x41, .int .u32 x42, .int .u32 x43, .int .u32 x44, .int .u32 x45, .int .u32 x46, .int .u32 x47, .int .u32 x48, .int .u32 x49, .int .u32 x50, .int .u32 x51, .int .u32 x52, .int .u32 x53, .int .u32 x54, .int .u32 x55, .int .u32 x56, .int .u32 x57, .int .u32 x58, .int .u32 x59, .int .u32 x60, .int .u32 x61, .int .u32 x62, .int .u32 x63, .int .u32 x64, .int .u32 x65, .int .u32 x66, .int .u32 x67, .int .u32 x68, .int .u32 x69, .int .u32 x70, .int .u32 x71, .int .u32 x72, .int .u32 x73, .int .u32 x74, .int .u32 x75, .int .u32 x76, .int .u32 x77, .int .u32 x78, .int .u32 x79, .int .u32 x80, .int .u32 x81, .int .u32 x82, .int .u32 x83, .int .u32 x84, .int .u32 x85, .int .u32 x86, .int .u32 x87, .int .u32 x88, .int .u32 x89, .int .u32 x90, .int .u32 x91, .int .u32 x92, .int .u32 x93, .int .u32 x94, .int .u32 x95, .int .u32 x96, .int .u32 x97, .int .u32 x98, .int .u32 x99, .int .u32 x100, .int .u32 x101, .int .u32 x102, .int .u32 x103, .int .u32 x104, .int .u32 x105, .int .u32 x106, .int .u32 x107, .int .u32 x108, .int .u32 x109, .int .u32 x110, .int .u32 x111, .int .u32 x112, .int .u32 x113, .int .u32 x114, .int .u32 x115, .int .u32 x116, .int .u32 x117, .int .u32 x118, .int .u32 x119, .int .u32 x120, .int .u32 x121, .int .u32 x122, .int .u32 x123, .int .u32 x124, .int .u32 x125, .int .u32 x126, .int .u32 x127, .int .u32 x128, .int .u32 x129, .int .u32 x130, .int .u32 x131, .int .u32 x132, .int .u32 x133, .int .u32 x134, .int .u32 x135, .int .u32 x136, .int .u32 x137, .int .u32 x138, .int .u32 x139, .int .u32 x140, .int .u32 x141, .int .u32 x142, .int .u32 x143, .int .u32 x144, .int .u32 x145, .int .u32 x146, .int .u32 x147, .int .u32 x148, .int .u32 x149, .int .u32 x150, .int .u32 x151, .int .u32 x152, .int .u32 x153, .int .u32 x154, .int .u32 x155, .int .u32 x156, .int .u32 x157, .int .u32 x158, .int .u32 x159, .int .u32 x160, .int .u32 x161, .int .u32 x162, .int .u32 x163, .int .u32 x164, .int .u32 x165, .int .u32 x166, .int .u32 x167, .int .u32 x168, .int .u32 x169, .int .u32 x170, .int .u32 x171, .int .u32 x172, .int .u32 x173, .int .u32 x174, .int .u32 x175, .int .u32 x176, .int .u32 x177, .int .u32 x178, .int .u32 x179, .int .u32 x180, .int .u32 x181, .int .u32 x182, .int .u32 x183, .int .u32 x184, .int .u32 x185, .int .u32 x186, .int .u32 x187, .int .u32 x188, .int .u32 x189, .int .u32 x190, .int .u32 x191, .int .u32 x192, .int .u32 x193, .int .u32 x194, .int .u32 x195, .int .u32 x196, .int .u32 x197, .int .u32 x198, .int .u32 x199, .int .u32 x200, .int .u32 x201, .int .u32 x202, .int .u32 x203, .int .u32 x204, .int .u32 x205, .int .u32 x206, .int .u32 x207, .int .u32 x208, .int .u32 x209, .int .u32 x210, .int .u32 x211, .int .u32 x212, .int .u32 x213, .int .u32 x214, .int .u32 x215, .int .u32 x216, .int .u32 x217, .int .u32 x218, .int .u32 x219, .int .u32 x220, .int .u32 x221, .int .u32 x222, .int .u32 x223, .int .u32 x224, .int .u32 x225, .int .u32 x226, .int .u32 x227, .int .u32 x228, .int .u32 x229, .int .u32 x230, .int .u32 x231, .int .u32 x232, .int .u32 x233, .int .u32 x234, .int .u32 x235, .int .u32 x236, .int .u32 x237, .int .u32 x238, .int .u32 x239, .int .u32 x240, .int .u32 x241, .int .u32 x242, .int .u32 x243, .int .u32 x244, .int .u32 x245, .int .u32 x246, .int .u32 x247, .int .u32 x248, .int .u32 x249, .int .u32 x250, .int .u32 x251, .int .u32 x252, .int .u32 x253, .int .u32 x254, .int .u32 x255] ∧ ∀ b1 : Nat, b1 = Array.size H1 → ∀ H2 : Hp, H2 = (Array.push H1 (.cells #[.int .u32 0, .int .u32 0, .int .u32 0, .int .u32 0, .int .u32 0, .int .u32 0, .int .u32 0, .int .u32 0, .int .u32 0, .int .u32 0, .int .u32 0, .int .u32 0, .int .u32 0, .int .u32 0, .int .u32 0, .int .u32 0, .int .u32 0, .int .u32 0, .int .u32 0, .int .u32 0, .int .u32 0, .int .u32 0, .int .u32 0, .int .u32 0, .int .u32 0, .int .u32 0, .int .u32 0, .int .u32 0, .int .u32 0, .int .u32 0, .int .u32 0, .int .u32 0, .int .u32 0, .int .u32 0, .int .u32 0, .int .u32 0, .int .u32 0, .int .u32 0, .int .u32 0, .int .u32 0, .int .u32 0, .int .u32 0, .int .u32 0, .int .u32 0, .int .u32 0, .int .u32 0, .int .u32 0, .int .u32 0, .int .u32 0, .int .u32 0, .int .u32 0, .int .u32 0, .int .u32 0, .int .u32 0, .int .u32 0, .int .u32 0, .int .u32 0, .int .u32 0, .int .u32 0, .int .u32 0, .int .u32 0, .int .u32 0, .int .u32 0, .int .u32 0, .int .u32 0, .int .u32 0, .int .u32 0, .int .u32 0, .int .u32 0, .int .u32 0, .int .u32 0, .int .u32 0, .int .u32 0, .int .u32 0, .int .u32 0, .int .u32 0, .int .u32 0, .int .u32 0, .int .u32 0, .int .u32 0, .int .u32 0, .int .u32 0, .int .u32 0, .int .u32 0, .int .u32 0, .int .u32 0, .int .u32 0, .int .u32 0, .int .u32 0, .int .u32 0, .int .u32 0, .int .u32 0, .int .u32 0, .int .u32 0, .int .u32 0, .int .u32 0, .int .u32 0, .int .u32 0, .int .u32 0, .int .u32 0, .int .u32 0, .int .u32 0, .int .u32 0, .int .u32 0, .int .u32 0, .int .u32 0, .int .u32 0, .int .u32 0, .int .u32 0, .int .u32 0, .int .u32 0, .int .u32 0, .int .u32 0, .int .u32 0, .int .u32 0, .int .u32 0, .int .u32 0, .int .u32 0, .int .u32 0, .int .u32 0, .int .u32 0, .int .u32 0, .int .u32 0, .int .u32 0, .int .u32 0, .int .u32 0, .int .u32 0, .int .u32 0, .int .u32 0, .int .u32 0, .int .u32 0, .int .u32 0, .int .u32 0, .int .u32 0, .int .u32 0, .int .u32 0, .int .u32 0, .int .u32 0, .int .u32 0, .int .u32 0, .int .u32 0, .int .u32 0, .int .u32 0, .int .u32 0, .int .u32 0, .int .u32 0, .int .u32 0, .int .u32 0, .int .u32 0, .int .u32 0, .int .u32 0, .int .u32 0, .int .u32 0, .int .u32 0, .int .u32 0, .int .u32 0, .int .u32 0, .int .u32 0, .int .u32 0, .int .u32 0, .int .u32 0, .int .u32 0, .int .u32 0, .int .u32 0, .int .u32 0, .int .u32 0, .int .u32 0, .int .u32 0, .int .u32 0, .int .u32 0, .int .u32 0, .int .u32 0, .int .u32 0, .int .u32 0, .int .u32 0, .int .u32 0, .int .u32 0, .int .u32 0, .int .u32 0, .int .u32 0, .int .u32 0, .int .u32 0, .int .u32 0, .int .u32 0, .int .u32 0, .int .u32 0, .int .u32 0, .int .u32 0, .int .u32 0, .int .u32 0, .int .u32 0, .int .u32 0, .int .u32 0, .int .u32 0, .int .u32 0, .int .u32 0, .int .u32 0, .int .u32 0, .int .u32 0, .int .u32 0, .int .u32 0, .int .u32 0, .int .u32 0, .int .u32 0, .int .u32 0, .int .u32 0, .int .u32 0, .int .u32 0, .int .u32 0, .int .u32 0, .int .u32 0, .int .u32 0, .int .u32 0, .int .u32 0, .int .u32 0, .int .u32 0, .int .u32 0, .int .u32 0, .int .u32 0, .int .u32 0, .int .u32 0, .int .u32 0, .int .u32 0, .int .u32 0, .int .u32 0, .int .u32 0, .int .u32 0, .int .u32 0, .int .u32 0, .int .u32 0, .int .u32 0, .int .u32 0, .int .u32 0, .int .u32 0, .int .u32 0, .int .u32 0, .int .u32 0, .int .u32 0, .int .u32 0, .int .u32 0, .int .u32 0, .int .u32 0, .int .u32 0, .int .u32 0, .int .u32 0, .int .u32 0, .int .u32 0, .int .u32 0, .int .u32 0, .int .u32 0, .int .u32 0, .int .u32 0, .int .u32 0, .int .u32 0, .int .u32 0, .int .u32 0] T_check_Table)) → WrAt H2 (Addr.mk b1 0 none) 256 ∧ ∀ H3 : Hp, H3 = (Hp.setCells H2 (Addr.mk b1 0 none) [.int .u32 x0, .int .u32 x1, .int .u32 x2, .int .u32 x3, .int .u32 x4, .int .u32 x5, .int .u32 x6, .int .u32 x7, .int .u32 x8, .int .u32 x9, .int .u32 x10, .int .u32 x11, .int .u32 x12, .int .u32 x13, .int .u32 x14, .int .u32 x15, .int .u32 x16, .int .u32 x17, .int .u32 x18, .int .u32 x19, .int .u32 x20, .int .u32 x21, .int .u32 x22, .int .u32 x23, .int .u32 x24, .int .u32 x25, .int .u32 x26, .int .u32 x27, .int .u32 x28, .int .u32 x29, .int .u32 x30, .int .u32 x31, .int .u32 x32, .int .u32 x33, .int .u32 x34, .int .u32 x35, .int .u32 x36, .int .u32 x37, .int .u32 x38, .int .u32 x39, .int .u32 x40, .int .u32 x41, .int .u32 x42, .int .u32 x43, .int .u32 x44, .int .u32 x45, .int .u32 x46, .int .u32 x47, .int .u32 x48, .int .u32 x49, .int .u32 x50, .int .u32 x51, .int .u32 x52, .int .u32 x53, .int .u32 x54, .int .u32 x55, .int .u32 x56, .int .u32 x57, .int .u32 x58, .int .u32 x59, .int .u32 x60, .int .u32 x61, .int .u32 x62, .int .u32 x63, .int .u32 x64, .int .u32 x65, .int .u32 x66, .int .u32 x67, .int .u32 x68, .int .u32 x69, .int .u32 x70, .int .u32 x71, .int .u32 x72, .int .u32 x73, .int .u32 x74, .int .u32 x75, .int .u32 x76, .int .u32 x77, .int .u32 x78, .int .u32 x79, .int .u32 x80, .int .u32 x81, .int .u32 x82, .int .u32 x83, .int .u32 x84, .int .u32 x85, .int .u32 x86, .int .u32 x87, .int .u32 x88, .int .u32 x89, .int .u32 x90, .int .u32 x91, .int .u32 x92, .int .u32 x93, .int .u32 x94, .int .u32 x95, .int .u32 x96, .int .u32 x97, .int .u32 x98, .int .u32 x99, .int .u32 x100, .int .u32 x101, .int .u32 x102, .int .u32 x103, .int .u32 x104, .int .u32 x105, .int .u32 x106, .int .u32 x107, .int .u32 x108, .int .u32 x109, .int .u32 x110, .int .u32 x111, .int .u32 x112, .int .u32 x113, .int .u32 x114, .int .u32 x115, .int .u32 x116, .int .u32 x117, .int .u32 x118, .int .u32 x119, .int .u32 x120, .int .u32 x121, .int .u32 x122, .int .u32 x123, .int .u32 x124, .int .u32 x125, .int .u32 x126, .int .u32 x127, .int .u32 x128, .int .u32 x129, .int .u32 x130, .int .u32 x131, .int .u32 x132, .int .u32 x133, .int .u32 x134, .int .u32 x135, .int .u32 x136, .int .u32 x137, .int .u32 x138, .int .u32 x139, .int .u32 x140, .int .u32 x141, .int .u32 x142, .int .u32 x143, .int .u32 x144, .int .u32 x145, .int .u32 x146, .int .u32 x147, .int .u32 x148, .int .u32 x149, .int .u32 x150, .int .u32 x151, .int .u32 x152, .int .u32 x153, .int .u32 x154, .int .u32 x155, .int .u32 x156, .int .u32 x157, .int .u32 x158, .int .u32 x159, .int .u32 x160, .int .u32 x161, .int .u32 x162, .int .u32 x163, .int .u32 x164, .int .u32 x165, .int .u32 x166, .int .u32 x167, .int .u32 x168, .int .u32 x169, .int .u32 x170, .int .u32 x171, .int .u32 x172, .int .u32 x173, .int .u32 x174, .int .u32 x175, .int .u32 x176, .int .u32 x177, .int .u32 x178, .int .u32 x179, .int .u32 x180, .int .u32 x181, .int .u32 x182, .int .u32 x183, .int .u32 x184, .int .u32 x185, .int .u32 x186, .int .u32 x187, .int .u32 x188, .int .u32 x189, .int .u32 x190, .int .u32 x191, .int .u32 x192, .int .u32 x193, .int .u32 x194, .int .u32 x195, .int .u32 x196, .int .u32 x197, .int .u32 x198, .int .u32 x199, .int .u32 x200, .int .u32 x201, .int .u32 x202, .int .u32 x203, .int .u32 x204, .int .u32 x205, .int .u32 x206, .int .u32 x207, .int .u32 x208, .int .u32 x209, .int .u32 x210, .int .u32 x211, .int .u32 x212, .int .u32 x213, .int .u32 x214, .int .u32 x215, .int .u32 x216, .int .u32 x217, .int .u32 x218, .int .u32 x219, .int .u32 x220, .int .u32 x221, .int .u32 x222, .int .u32 x223, .int .u32 x224, .int .u32 x225, .int .u32 x226, .int .u32 x227, .int .u32 x228, .int .u32 x229, .int .u32 x230, .int .u32 x231, .int .u32 x232, .int .u32 x233, .int .u32 x234, .int .u32 x235, .int .u32 x236, .int .u32 x237, .int .u32 x238, .int .u32 x239, .int .u32 x240, .int .u32 x241, .int .u32 x242, .int .u32 x243, .int .u32 x244, .int .u32 x245, .int .u32 x246, .int .u32 x247, .int .u32 x248, .int .u32 x249, .int .u32 x250, .int .u32 x251, .int .u32 x252, .int .u32 x253, .int .u32 x254, .int .u32 x255] 0) → 
 SCalls Try.prog check_Table_Sum.id [.pointer (some (Addr.mk b1 0 none)), .slice b.a b.len b.cap] H3 (fun r1 H4 => ∃ x : Int, r1 = .int .u32 x ∧ Q (.int .u32 x) H4))
theorem check_Sum.eq (J : Jn) (b : Sl) (H : Hp) (Q : Value → Hp → Prop) : vFn Try.prog check_Sum.cf J check_Sum.fn [.slice b.a b.len b.cap] H Q = check_Sum.vc J b H Q := by kernel_rfl
theorem check_Sum.calls {b : Sl} {H : Hp} {Q : Value → Hp → Prop} (h : check_Sum.vc J0 b H Q) : SCalls Try.prog check_Sum.id [.slice b.a b.len b.cap] H Q := vFn_of Try.mixed Try.func57 (check_Sum.eq J0 b H Q) h

/-! 58: (*tephra/pack.Writer).Text -/
noncomputable def pack_Writer_Text.cf : Cfg := ⟨[], [], [], [], true, []⟩
noncomputable def pack_Writer_Text.vc (J : Jn) (w : Addr) (s : ByteArray) (H : Hp) (Q : Value → Hp → Prop) : Prop :=
 
 SCalls Try.prog pack_Writer_Num.id [.pointer (some w), .int .i64 ((s.size : Nat) : Int)] H (fun r H1 => ∃ x : Option Addr, r = .pointer x ∧ ∃ b : Sl, Hp.cell? H1 w = some (.slice b.a b.len b.cap) ∧ 
 vApp Try.prog T_sl_uint8 b.a b.len b.cap (.string s) H1 (fun ap H2 => WrAt H2 w 1 ∧ Q (.pointer (some w)) (Hp.setCell H2 w (.slice ap.a ap.len ap.cap))))
theorem pack_Writer_Text.eq (J : Jn) (w : Addr) (s : ByteArray) (H : Hp) (Q : Value → Hp → Prop) : vFn Try.prog pack_Writer_Text.cf J pack_Writer_Text.fn [.pointer (some w), .string s] H Q = pack_Writer_Text.vc J w s H Q := by kernel_rfl
theorem pack_Writer_Text.calls {w : Addr} {s : ByteArray} {H : Hp} {Q : Value → Hp → Prop} (h : pack_Writer_Text.vc J0 w s H Q) : SCalls Try.prog pack_Writer_Text.id [.pointer (some w), .string s] H Q := vFn_of Try.mixed Try.func58 (pack_Writer_Text.eq J0 w s H Q) h

end Go.Proofs
