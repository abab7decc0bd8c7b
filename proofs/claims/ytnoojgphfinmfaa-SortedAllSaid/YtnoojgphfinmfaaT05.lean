/- THE SEAT'S CODE, AS WALKED: for each function what is to be shown of it (printed by the own program gen.py), held by the kernel. -/
import Derived.Test.YtnoojgphfinmfaaProg
import Derived.Test.YtnoojgphfinmfaaKc13
set_option maxRecDepth 100000
set_option linter.all false
set_option linter.constructorNameAsVariable false
namespace Go.Proofs
open Go Go.KC
theorem Try.mixed : Try.prog.follows .mixedOrders = true := by kernel_rfl
abbrev tephralaw05_SortedOrder.id : Nat := 3
noncomputable abbrev tephralaw05_SortedOrder.fn : Func := Try.f3
abbrev tephralaw05_SortedAll.id : Nat := 4
noncomputable abbrev tephralaw05_SortedAll.fn : Func := Try.f4
abbrev tephralaw05_SortedScript.id : Nat := 5
noncomputable abbrev tephralaw05_SortedScript.fn : Func := Try.f5
abbrev tephralaw05_SortedDel.id : Nat := 6
noncomputable abbrev tephralaw05_SortedDel.fn : Func := Try.f6
abbrev tephralaw05_SortedMerge.id : Nat := 7
noncomputable abbrev tephralaw05_SortedMerge.fn : Func := Try.f7
abbrev tephralaw05_SortedSelf.id : Nat := 8
noncomputable abbrev tephralaw05_SortedSelf.fn : Func := Try.f8
abbrev tephralaw05_SortedBoth.id : Nat := 9
noncomputable abbrev tephralaw05_SortedBoth.fn : Func := Try.f9
abbrev tephralaw05_awake.id : Nat := 10
noncomputable abbrev tephralaw05_awake.fn : Func := Try.f10
abbrev sorted_Map_int_int_Put.id : Nat := 11
noncomputable abbrev sorted_Map_int_int_Put.fn : Func := Try.f11
abbrev sorted_Map_int_int_Len.id : Nat := 12
noncomputable abbrev sorted_Map_int_int_Len.fn : Func := Try.f12
abbrev sorted_Map_int_int_All.id : Nat := 13
noncomputable abbrev sorted_Map_int_int_All.fn : Func := Try.f13
abbrev sorted_Map_int_int_Get.id : Nat := 14
noncomputable abbrev sorted_Map_int_int_Get.fn : Func := Try.f14
abbrev tephralaw05_Of.id : Nat := 15
noncomputable abbrev tephralaw05_Of.fn : Func := Try.f15
abbrev sorted_Map_int_int_Back.id : Nat := 16
noncomputable abbrev sorted_Map_int_int_Back.fn : Func := Try.f16
abbrev sorted_Map_int_int_From.id : Nat := 17
noncomputable abbrev sorted_Map_int_int_From.fn : Func := Try.f17
abbrev sorted_Map_string_int_Get.id : Nat := 18
noncomputable abbrev sorted_Map_string_int_Get.fn : Func := Try.f18
abbrev sorted_Map_int_int_Del.id : Nat := 19
noncomputable abbrev sorted_Map_int_int_Del.fn : Func := Try.f19
abbrev sorted_Map_string_int_Del.id : Nat := 20
noncomputable abbrev sorted_Map_string_int_Del.fn : Func := Try.f20
abbrev sorted_Map_string_int_Put.id : Nat := 21
noncomputable abbrev sorted_Map_string_int_Put.fn : Func := Try.f21
abbrev sorted_Map_string_int_Len.id : Nat := 22
noncomputable abbrev sorted_Map_string_int_Len.fn : Func := Try.f22
abbrev sorted_Merge_int_int.id : Nat := 23
noncomputable abbrev sorted_Merge_int_int.fn : Func := Try.f23
abbrev sorted_Map_int_string_Put.id : Nat := 24
noncomputable abbrev sorted_Map_int_string_Put.fn : Func := Try.f24
abbrev sorted_Map_int_string_Len.id : Nat := 25
noncomputable abbrev sorted_Map_int_string_Len.fn : Func := Try.f25
abbrev sorted_Map_int_string_All.id : Nat := 26
noncomputable abbrev sorted_Map_int_string_All.fn : Func := Try.f26
abbrev sorted_Map_int_string_Get.id : Nat := 27
noncomputable abbrev sorted_Map_int_string_Get.fn : Func := Try.f27
abbrev sorted_Map_int_int_find.id : Nat := 28
noncomputable abbrev sorted_Map_int_int_find.fn : Func := Try.f28
abbrev slices_Insert_sl_sorted_item_int_int_sorted_item_int_int.id : Nat := 29
noncomputable abbrev slices_Insert_sl_sorted_item_int_int_sorted_item_int_int.fn : Func := Try.f29
abbrev sorted_Map_int_int_All_1.id : Nat := 30
noncomputable abbrev sorted_Map_int_int_All_1.fn : Func := Try.f30
abbrev sorted_Map_int_int_Back_1.id : Nat := 31
noncomputable abbrev sorted_Map_int_int_Back_1.fn : Func := Try.f31
abbrev sorted_Map_string_int_find.id : Nat := 32
noncomputable abbrev sorted_Map_string_int_find.fn : Func := Try.f32
abbrev slices_Delete_sl_sorted_item_int_int_sorted_item_int_int.id : Nat := 33
noncomputable abbrev slices_Delete_sl_sorted_item_int_int_sorted_item_int_int.fn : Func := Try.f33
abbrev slices_Delete_sl_sorted_item_string_int_sorted_item_string_int.id : Nat := 34
noncomputable abbrev slices_Delete_sl_sorted_item_string_int_sorted_item_string_int.fn : Func := Try.f34
abbrev slices_Insert_sl_sorted_item_string_int_sorted_item_string_int.id : Nat := 35
noncomputable abbrev slices_Insert_sl_sorted_item_string_int_sorted_item_string_int.fn : Func := Try.f35
abbrev sorted_Merge_int_int_1.id : Nat := 36
noncomputable abbrev sorted_Merge_int_int_1.fn : Func := Try.f36
abbrev sorted_Map_int_string_find.id : Nat := 37
noncomputable abbrev sorted_Map_int_string_find.fn : Func := Try.f37
abbrev slices_Insert_sl_sorted_item_int_string_sorted_item_int_string.id : Nat := 38
noncomputable abbrev slices_Insert_sl_sorted_item_int_string_sorted_item_int_string.fn : Func := Try.f38
abbrev sorted_Map_int_string_All_1.id : Nat := 39
noncomputable abbrev sorted_Map_int_string_All_1.fn : Func := Try.f39
abbrev slices_BinarySearchFunc_sl_sorted_item_int_int_sorted_item_int_int_int.id : Nat := 40
noncomputable abbrev slices_BinarySearchFunc_sl_sorted_item_int_int_sorted_item_int_int_int.fn : Func := Try.f40
abbrev sorted_Map_int_int_find_1.id : Nat := 41
noncomputable abbrev sorted_Map_int_int_find_1.fn : Func := Try.f41
abbrev cmp_Compare_int.id : Nat := 42
noncomputable abbrev cmp_Compare_int.fn : Func := Try.f42
abbrev slices_rotateRight_sorted_item_int_int.id : Nat := 44
noncomputable abbrev slices_rotateRight_sorted_item_int_int.fn : Func := Try.f44
abbrev slices_BinarySearchFunc_sl_sorted_item_string_int_sorted_item_string_int_string.id : Nat := 45
noncomputable abbrev slices_BinarySearchFunc_sl_sorted_item_string_int_sorted_item_string_int_string.fn : Func := Try.f45
abbrev sorted_Map_string_int_find_1.id : Nat := 46
noncomputable abbrev sorted_Map_string_int_find_1.fn : Func := Try.f46
abbrev cmp_Compare_string.id : Nat := 47
noncomputable abbrev cmp_Compare_string.fn : Func := Try.f47
abbrev slices_rotateRight_sorted_item_string_int.id : Nat := 49
noncomputable abbrev slices_rotateRight_sorted_item_string_int.fn : Func := Try.f49
abbrev slices_BinarySearchFunc_sl_sorted_item_int_string_sorted_item_int_string_int.id : Nat := 50
noncomputable abbrev slices_BinarySearchFunc_sl_sorted_item_int_string_sorted_item_int_string_int.fn : Func := Try.f50
abbrev sorted_Map_int_string_find_1.id : Nat := 51
noncomputable abbrev sorted_Map_int_string_find_1.fn : Func := Try.f51
abbrev slices_rotateRight_sorted_item_int_string.id : Nat := 53
noncomputable abbrev slices_rotateRight_sorted_item_int_string.fn : Func := Try.f53
abbrev cmp_isNaN_int.id : Nat := 54
noncomputable abbrev cmp_isNaN_int.fn : Func := Try.f54
abbrev slices_rotateLeft_sorted_item_int_int.id : Nat := 55
noncomputable abbrev slices_rotateLeft_sorted_item_int_int.fn : Func := Try.f55
abbrev cmp_isNaN_string.id : Nat := 56
noncomputable abbrev cmp_isNaN_string.fn : Func := Try.f56
abbrev slices_rotateLeft_sorted_item_string_int.id : Nat := 57
noncomputable abbrev slices_rotateLeft_sorted_item_string_int.fn : Func := Try.f57
abbrev slices_rotateLeft_sorted_item_int_string.id : Nat := 58
noncomputable abbrev slices_rotateLeft_sorted_item_int_string.fn : Func := Try.f58
abbrev slices_Reverse_sl_sorted_item_int_int_sorted_item_int_int.id : Nat := 59
noncomputable abbrev slices_Reverse_sl_sorted_item_int_int_sorted_item_int_int.fn : Func := Try.f59
abbrev slices_Reverse_sl_sorted_item_string_int_sorted_item_string_int.id : Nat := 60
noncomputable abbrev slices_Reverse_sl_sorted_item_string_int_sorted_item_string_int.fn : Func := Try.f60
abbrev slices_Reverse_sl_sorted_item_int_string_sorted_item_int_string.id : Nat := 61
noncomputable abbrev slices_Reverse_sl_sorted_item_int_string_sorted_item_int_string.fn : Func := Try.f61
abbrev T_ : Nat := 0
abbrev T_func : Nat := 1
abbrev T_int64 : Nat := 2
abbrev T_int : Nat := 3
abbrev T_bool : Nat := 4
abbrev T_uint8 : Nat := 5
abbrev T_abi_BoundsErrorCode : Nat := 6
abbrev T_struct_x_int64_y_int_signed_bool_code_abi_BoundsErrorCode : Nat := 7
abbrev T_runtime_boundsError : Nat := 8
abbrev T_string : Nat := 9
abbrev T_runtime_errorString : Nat := 10
abbrev T_runtime_plainError : Nat := 11
abbrev T_uintptr : Nat := 12
abbrev T_struct_msg_string_addr_uintptr : Nat := 13
abbrev T_runtime_errorAddressString : Nat := 14
abbrev T_p_runtime_TypeAssertionError : Nat := 15
abbrev T_p_runtime_PanicNilError : Nat := 16
abbrev T_p_abi_Type : Nat := 17
abbrev T_struct_typ_p_abi_Type : Nat := 18
abbrev T_maps_unhashableTypeError : Nat := 19
abbrev T_interface : Nat := 20
abbrev T_int32 : Nat := 21
abbrev T_sl_tephralaw05_Act : Nat := 22
abbrev T_func_bool : Nat := 23
abbrev T_p_sorted_Map_int_int : Nat := 24
abbrev T_sl_sorted_item_int_int : Nat := 25
abbrev T_struct_items_sl_sorted_item_int_int : Nat := 26
abbrev T_sorted_Map_int_int : Nat := 27
abbrev T_func_int_int_bool : Nat := 28
abbrev T_int8 : Nat := 29
abbrev T_uint16 : Nat := 30
abbrev T_struct_Op_uint8_Key_int8_Value_uint16 : Nat := 31
abbrev T_tephralaw05_Act : Nat := 32
abbrev T_func_int : Nat := 33
abbrev T_func_func_int_int_bool : Nat := 34
abbrev T_iter_Seq2_int_int : Nat := 35
abbrev T_func_iter_Seq2_int_int : Nat := 36
abbrev T_int_bool : Nat := 37
abbrev T_func_int_int_bool_38 : Nat := 38
abbrev T_func_sl_tephralaw05_Act_bool : Nat := 39
abbrev T_func_sl_tephralaw05_Act_p_sorted_Map_int_int : Nat := 40
abbrev T_sl_int : Nat := 41
abbrev T_func_int_iter_Seq2_int_int : Nat := 42
abbrev T_func_sl_tephralaw05_Act_int8_uint8_bool : Nat := 43
abbrev T_p_sorted_Map_string_int : Nat := 44
abbrev T_sl_sorted_item_string_int : Nat := 45
abbrev T_struct_items_sl_sorted_item_string_int : Nat := 46
abbrev T_sorted_Map_string_int : Nat := 47
abbrev T_map_int_int : Nat := 48
abbrev T_sl_uint8 : Nat := 49
abbrev T_func_string_int_bool : Nat := 50
abbrev T_func_int_bool : Nat := 51
abbrev T_func_string_bool : Nat := 52
abbrev T_func_string_int_bool_53 : Nat := 53
abbrev T_func_sl_tephralaw05_Act_bool_bool : Nat := 54
abbrev T_sl_int8 : Nat := 55
abbrev T_map_int_bool : Nat := 56
abbrev T_func_sl_tephralaw05_Act_sl_int8_bool : Nat := 57
abbrev T_func_iter_Seq2_int_int_iter_Seq2_int_int_iter_Seq2_int_int : Nat := 58
abbrev T_func_sl_tephralaw05_Act_sl_tephralaw05_Act_uint8_bool : Nat := 59
abbrev T_func_sl_tephralaw05_Act_sl_tephralaw05_Act_bool : Nat := 60
abbrev T_p_sorted_Map_int_string : Nat := 61
abbrev T_sl_sorted_item_int_string : Nat := 62
abbrev T_struct_items_sl_sorted_item_int_string : Nat := 63
abbrev T_sorted_Map_int_string : Nat := 64
abbrev T_func_int_string_bool : Nat := 65
abbrev T_func_func_int_string_bool : Nat := 66
abbrev T_iter_Seq2_int_string : Nat := 67
abbrev T_func_iter_Seq2_int_string : Nat := 68
abbrev T_string_bool : Nat := 69
abbrev T_func_int_string_bool_70 : Nat := 70
abbrev T_struct_key_int_value_int : Nat := 71
abbrev T_sorted_item_int_int : Nat := 72
abbrev T_func_sl_sorted_item_int_int_int_sorted_item_int_int_sl_sorte : Nat := 73
abbrev T_struct_key_string_value_int : Nat := 74
abbrev T_sorted_item_string_int : Nat := 75
abbrev T_func_sl_sorted_item_int_int_int_int_sl_sorted_item_int_int : Nat := 76
abbrev T_func_sl_sorted_item_string_int_int_int_sl_sorted_item_string : Nat := 77
abbrev T_func_sl_sorted_item_string_int_int_sorted_item_string_int_sl : Nat := 78
abbrev T_struct_key_int_value_string : Nat := 79
abbrev T_sorted_item_int_string : Nat := 80
abbrev T_func_sl_sorted_item_int_string_int_sorted_item_int_string_sl : Nat := 81
abbrev T_func_sl_sorted_item_int_int_int_func_sorted_item_int_int_int : Nat := 82
abbrev T_func_int_int_int : Nat := 83
abbrev T_func_sorted_item_int_int_int_int : Nat := 84
abbrev T_func_sl_sorted_item_int_int_sl_sorted_item_int_int_bool : Nat := 85
abbrev T_func_sl_sorted_item_int_int_int : Nat := 86
abbrev T_func_sl_sorted_item_string_int_string_func_sorted_item_strin : Nat := 87
abbrev T_func_string_string_int : Nat := 88
abbrev T_func_sorted_item_string_int_string_int : Nat := 89
abbrev T_func_sl_sorted_item_string_int_sl_sorted_item_string_int_boo : Nat := 90
abbrev T_func_sl_sorted_item_string_int_int : Nat := 91
abbrev T_func_sl_sorted_item_int_string_int_func_sorted_item_int_stri : Nat := 92
abbrev T_func_sorted_item_int_string_int_int : Nat := 93
abbrev T_func_sl_sorted_item_int_string_sl_sorted_item_int_string_boo : Nat := 94
abbrev T_func_sl_sorted_item_int_string_int : Nat := 95
abbrev T_uint : Nat := 96
abbrev T_func_sl_sorted_item_int_int : Nat := 97
abbrev T_func_sl_sorted_item_string_int : Nat := 98
abbrev T_func_sl_sorted_item_int_string : Nat := 99
abbrev T_func_string : Nat := 100
abbrev T_struct__interface_p_abi_Type_concrete_p_abi_Type_asserted_p_ : Nat := 101
abbrev T_runtime_TypeAssertionError : Nat := 102
abbrev T_0_p_runtime_PanicNilError : Nat := 103
abbrev T_struct___0_p_runtime_PanicNilError : Nat := 104
abbrev T_runtime_PanicNilError : Nat := 105
abbrev T_uint32 : Nat := 106
abbrev T_abi_TFlag : Nat := 107
abbrev T_abi_Kind : Nat := 108
abbrev T_func_unsafe_Pointer_unsafe_Pointer_bool : Nat := 109
abbrev T_p_uint8 : Nat := 110
abbrev T_abi_NameOff : Nat := 111
abbrev T_abi_TypeOff : Nat := 112
abbrev T_struct_Size__uintptr_PtrBytes_uintptr_Hash_uint32_TFlag_abi_ : Nat := 113
abbrev T_abi_Type : Nat := 114
abbrev T_func_iter_Seq2_string_int : Nat := 115
abbrev T_func_string_iter_Seq2_string_int : Nat := 116
abbrev T_func_int_iter_Seq2_int_string : Nat := 117
abbrev T_unsafe_Pointer : Nat := 118
abbrev T_func_func_string_int_bool : Nat := 119
abbrev T_iter_Seq2_string_int : Nat := 120

/-! 4: tephra/tephralaw05.SortedAll -/
noncomputable def tephralaw05_SortedAll.cf : Cfg := ⟨[1000003], [(19, [1, 5, 6, 7, 8, 13, 15]), (1000008, [6, 7, 8]), (1000015, [6, 8, 13]), (1000024, [5, 6, 8, 15, 16])], [(20, [1, 5, 6, 7, 8, 13, 15], true), (21, [1, 5, 6, 7, 8, 13, 15], true), (25, [5, 6, 16, 112], true), (28, [5, 6, 7, 8, 13, 15, 16], true)], [(38, [6, 8, 9, 38])], true⟩
noncomputable def tephralaw05_SortedAll.cfr : Cfg := { tephralaw05_SortedAll.cf with rf := false }
noncomputable def tephralaw05_SortedAll.r1.fr (b1 : Nat) (b2 : Nat) (b3 : Nat) : List AV := mkFr 142 [(6, .v (.pointer (some (Addr.mk b1 0 none)))), (7, .v (.pointer (some (Addr.mk b2 0 none)))), (8, .v (.pointer (some (Addr.mk b3 0 none))))]
noncomputable def tephralaw05_SortedAll.r1.code : Code := sub (bodyOf tephralaw05_SortedAll.fn) [1, 1, 1, 1, 0, 1, 0]
noncomputable def tephralaw05_SortedAll.r1.rec (fn : FuncId) (tm : Array Value) (d : Nat) (st : LoopState) (pd : Option Code) : Obj := recO fn tm (rgP tephralaw05_SortedAll.r1.code) (rgA tephralaw05_SortedAll.r1.code) (rgB tephralaw05_SortedAll.r1.code) d st pd
noncomputable def tephralaw05_SortedAll.r2.fr (b1 : Nat) (b3 : Nat) (b6 : Nat) : List AV := mkFr 142 [(6, .v (.pointer (some (Addr.mk b1 0 none)))), (8, .v (.pointer (some (Addr.mk b3 0 none)))), (13, .v (.pointer (some (Addr.mk b6 0 none))))]
noncomputable def tephralaw05_SortedAll.r2.code : Code := sub (bodyOf tephralaw05_SortedAll.fn) [1, 1, 1, 1, 1, 1, 0, 1, 0]
noncomputable def tephralaw05_SortedAll.r2.rec (fn : FuncId) (tm : Array Value) (d : Nat) (st : LoopState) (pd : Option Code) : Obj := recO fn tm (rgP tephralaw05_SortedAll.r2.code) (rgA tephralaw05_SortedAll.r2.code) (rgB tephralaw05_SortedAll.r2.code) d st pd
noncomputable def tephralaw05_SortedAll.r3.fr (b : Nat) (b1 : Nat) (b3 : Nat) (b7 : Nat) (b8 : Nat) : List AV := mkFr 142 [(5, .v (.pointer (some (Addr.mk b 0 none)))), (6, .v (.pointer (some (Addr.mk b1 0 none)))), (8, .v (.pointer (some (Addr.mk b3 0 none)))), (15, .v (.pointer (some (Addr.mk b7 0 none)))), (16, .v (.pointer (some (Addr.mk b8 0 none))))]
noncomputable def tephralaw05_SortedAll.r3.code : Code := sub (bodyOf tephralaw05_SortedAll.fn) [1, 1, 1, 1, 1, 1, 1, 1, 1, 1, 0, 1, 0]
noncomputable def tephralaw05_SortedAll.r3.rec (fn : FuncId) (tm : Array Value) (d : Nat) (st : LoopState) (pd : Option Code) : Obj := recO fn tm (rgP tephralaw05_SortedAll.r3.code) (rgA tephralaw05_SortedAll.r3.code) (rgB tephralaw05_SortedAll.r3.code) d st pd
noncomputable def tephralaw05_SortedAll.k1.st (b1 : Nat) (b3 : Nat) (k : Int) (H12 : Hp) (x8 : Bool) : VS := ⟨mkFr 142 [(6, .v (.pointer (some (Addr.mk b1 0 none)))), (8, .v (.pointer (some (Addr.mk b3 0 none)))), (9, .v (.int .i64 k)), (38, .v (.bool x8))], [], H12⟩
noncomputable def tephralaw05_SortedAll.k1 (J : Jn) (b1 : Nat) (b3 : Nat) (l : Nat) (rc : LoopState → Option Code → Obj) (k : Int) (H12 : Hp) (x8 : Bool) (Q : Value → Hp → Prop) : Prop := J (vMidC Try.prog tephralaw05_SortedAll.cfr J (rgB tephralaw05_SortedAll.r1.code) [0, 1, 0, 0] [0, 0, 0] 7 (roundK l rc Q)) (tephralaw05_SortedAll.k1.st b1 b3 k H12 x8)
noncomputable def tephralaw05_SortedAll.l1.st (fromv : Int) (b : Nat) (b1 : Nat) (b2 : Nat) (b3 : Nat) (b6 : Nat) (b7 : Nat) (H35 : Hp) : VS := ⟨mkFr 142 [(1, .v (.int .i8 fromv)), (5, .v (.pointer (some (Addr.mk b 0 none)))), (6, .v (.pointer (some (Addr.mk b1 0 none)))), (7, .v (.pointer (some (Addr.mk b2 0 none)))), (8, .v (.pointer (some (Addr.mk b3 0 none)))), (13, .v (.pointer (some (Addr.mk b6 0 none)))), (15, .v (.pointer (some (Addr.mk b7 0 none))))], [], H35⟩
noncomputable def tephralaw05_SortedAll.l1 (J : Jn) (fromv : Int) (b : Nat) (b1 : Nat) (b2 : Nat) (b3 : Nat) (b6 : Nat) (b7 : Nat) (H35 : Hp) (Q : Value → Hp → Prop) : Prop := vAt Try.prog tephralaw05_SortedAll.cf J tephralaw05_SortedAll.fn [1, 1, 1, 1, 1, 1, 1, 1, 0, 0] [0, 0, 0, 0, 0, 0, 0, 0, 0] Q (tephralaw05_SortedAll.l1.st fromv b b1 b2 b3 b6 b7 H35)
noncomputable def tephralaw05_SortedAll.k2.st (fromv : Int) (b : Nat) (b1 : Nat) (b2 : Nat) (b3 : Nat) (b6 : Nat) (b7 : Nat) (H35 : Hp) : VS := ⟨mkFr 142 [(1, .v (.int .i8 fromv)), (5, .v (.pointer (some (Addr.mk b 0 none)))), (6, .v (.pointer (some (Addr.mk b1 0 none)))), (7, .v (.pointer (some (Addr.mk b2 0 none)))), (8, .v (.pointer (some (Addr.mk b3 0 none)))), (13, .v (.pointer (some (Addr.mk b6 0 none)))), (15, .v (.pointer (some (Addr.mk b7 0 none))))], [], H35⟩
noncomputable def tephralaw05_SortedAll.k2 (J : Jn) (fromv : Int) (b : Nat) (b1 : Nat) (b2 : Nat) (b3 : Nat) (b6 : Nat) (b7 : Nat) (H35 : Hp) (Q : Value → Hp → Prop) : Prop := J (vSeg Try.prog tephralaw05_SortedAll.cf J tephralaw05_SortedAll.fn [1, 1, 1, 1, 1, 1, 1, 1, 0, 0, 0, 1] [0, 0, 0, 0, 0, 0, 0, 0, 0, 0, 0] Q) (tephralaw05_SortedAll.k2.st fromv b b1 b2 b3 b6 b7 H35)
noncomputable def tephralaw05_SortedAll.k3.st (fromv : Int) (b : Nat) (b1 : Nat) (b2 : Nat) (b3 : Nat) (b6 : Nat) (b7 : Nat) (H35 : Hp) : VS := ⟨mkFr 142 [(1, .v (.int .i8 fromv)), (5, .v (.pointer (some (Addr.mk b 0 none)))), (6, .v (.pointer (some (Addr.mk b1 0 none)))), (7, .v (.pointer (some (Addr.mk b2 0 none)))), (8, .v (.pointer (some (Addr.mk b3 0 none)))), (13, .v (.pointer (some (Addr.mk b6 0 none)))), (15, .v (.pointer (some (Addr.mk b7 0 none))))], [], H35⟩
noncomputable def tephralaw05_SortedAll.k3 (J : Jn) (fromv : Int) (b : Nat) (b1 : Nat) (b2 : Nat) (b3 : Nat) (b6 : Nat) (b7 : Nat) (H35 : Hp) (Q : Value → Hp → Prop) : Prop := J (vSeg Try.prog tephralaw05_SortedAll.cf J tephralaw05_SortedAll.fn [1, 1, 1, 1, 1, 1, 1, 1, 1] [0, 0, 0, 0, 0, 0, 0, 0, 0] Q) (tephralaw05_SortedAll.k3.st fromv b b1 b2 b3 b6 b7 H35)
noncomputable def tephralaw05_SortedAll.k4.st (b : Nat) (b1 : Nat) (b8 : Nat) (H41 : Hp) (x40 : Bool) : VS := ⟨mkFr 142 [(5, .v (.pointer (some (Addr.mk b 0 none)))), (6, .v (.pointer (some (Addr.mk b1 0 none)))), (16, .v (.pointer (some (Addr.mk b8 0 none)))), (112, .v (.bool x40))], [], H41⟩
noncomputable def tephralaw05_SortedAll.k4 (J : Jn) (b : Nat) (b1 : Nat) (b8 : Nat) (l2 : Nat) (rc2 : LoopState → Option Code → Obj) (H41 : Hp) (x40 : Bool) (Q : Value → Hp → Prop) : Prop := J (vSegC Try.prog tephralaw05_SortedAll.cfr J (rgB tephralaw05_SortedAll.r3.code) [0, 0, 1] [0, 0] (roundK l2 rc2 Q)) (tephralaw05_SortedAll.k4.st b b1 b8 H41 x40)
noncomputable def tephralaw05_SortedAll.k5.st (b : Nat) (b1 : Nat) (b2 : Nat) (b3 : Nat) (b6 : Nat) (b7 : Nat) (b8 : Nat) (H45 : Hp) : VS := ⟨mkFr 142 [(5, .v (.pointer (some (Addr.mk b 0 none)))), (6, .v (.pointer (some (Addr.mk b1 0 none)))), (7, .v (.pointer (some (Addr.mk b2 0 none)))), (8, .v (.pointer (some (Addr.mk b3 0 none)))), (13, .v (.pointer (some (Addr.mk b6 0 none)))), (15, .v (.pointer (some (Addr.mk b7 0 none)))), (16, .v (.pointer (some (Addr.mk b8 0 none))))], [], H45⟩
noncomputable def tephralaw05_SortedAll.k5 (J : Jn) (b : Nat) (b1 : Nat) (b2 : Nat) (b3 : Nat) (b6 : Nat) (b7 : Nat) (b8 : Nat) (H45 : Hp) (Q : Value → Hp → Prop) : Prop := J (vSeg Try.prog tephralaw05_SortedAll.cf J tephralaw05_SortedAll.fn [1, 1, 1, 1, 1, 1, 1, 1, 1, 1, 1] [0, 0, 0, 0, 0, 0, 0, 0, 0, 0, 0] Q) (tephralaw05_SortedAll.k5.st b b1 b2 b3 b6 b7 b8 H45)
attribute [irreducible] tephralaw05_SortedAll.k1 tephralaw05_SortedAll.l1 tephralaw05_SortedAll.k2 tephralaw05_SortedAll.k3 tephralaw05_SortedAll.k4 tephralaw05_SortedAll.k5
noncomputable def tephralaw05_SortedAll.k1.body (J : Jn) (b1 : Nat) (b3 : Nat) (l : Nat) (rc : LoopState → Option Code → Obj) (k : Int) (H12 : Hp) (x8 : Bool) (Q : Value → Hp → Prop) : Prop :=
 
 Br x8 (WrAt H12 (Addr.mk b1 0 none) 1 ∧ ∀ H13 : Hp, H13 = (Hp.setCell H12 (Addr.mk b1 0 none) (.bool false)) → 
 ((∃ st : LoopState, ∃ pd : Option Code, H13[l]? = some (rc st pd)) ∧ Q (.bool false) (Array.setIfInBounds H13 l (rc .done (some .ret)))))
 (∃ x9 : Sl, Hp.cell? H12 (Addr.mk b3 0 none) = some (.slice x9.a x9.len x9.cap) ∧ 
 Br (decide (((x9.len : Nat) : Int) > 0)) (∃ x10 : Sl, Hp.cell? H12 (Addr.mk b3 0 none) = some (.slice x10.a x10.len x10.cap) ∧ ∃ x11 : Sl, Hp.cell? H12 (Addr.mk b3 0 none) = some (.slice x11.a x11.len x11.cap) ∧ ((0 : Int) ≤ (w64 (((x11.len : Nat) : Int) - 1)) ∧ (w64 (((x11.len : Nat) : Int) - 1)) < ((x10.len : Nat) : Int)) ∧ vPtr x10.a (fun a => ∃ x12 : Int, Hp.cell? H12 (a.add (((w64 (((x11.len : Nat) : Int) - 1)) : Int).toNat * 1)) = some (.int .i64 x12) ∧ 
 Br (decide (x12 ≥ k)) (WrAt H12 (Addr.mk b1 0 none) 1 ∧ ∀ H14 : Hp, H14 = (Hp.setCell H12 (Addr.mk b1 0 none) (.bool false)) → 
 ((∃ st : LoopState, ∃ pd : Option Code, H14[l]? = some (rc st pd)) ∧ Q (.bool false) (Array.setIfInBounds H14 l (rc .done (some .ret)))))
 (∃ x13 : Sl, Hp.cell? H12 (Addr.mk b3 0 none) = some (.slice x13.a x13.len x13.cap) ∧ ∀ b4 : Nat, b4 = Array.size H12 → ∀ H15 : Hp, H15 = (Array.push H12 (.cells #[.int .i64 k] T_int)) → 
 vApp Try.prog T_sl_int x13.a x13.len x13.cap (.slice (some (Addr.mk b4 0 none)) 1 1) H15 (fun ap H16 => WrAt H16 (Addr.mk b3 0 none) 1 ∧ ∀ H17 : Hp, H17 = (Hp.setCell H16 (Addr.mk b3 0 none) (.slice ap.a ap.len ap.cap)) → 
 ((∃ st : LoopState, ∃ pd : Option Code, H17[l]? = some (rc st pd)) ∧ Q (.bool true) (Array.setIfInBounds H17 l (rc .ready none)))))))
 (∃ x14 : Sl, Hp.cell? H12 (Addr.mk b3 0 none) = some (.slice x14.a x14.len x14.cap) ∧ ∀ b5 : Nat, b5 = Array.size H12 → ∀ H18 : Hp, H18 = (Array.push H12 (.cells #[.int .i64 k] T_int)) → 
 vApp Try.prog T_sl_int x14.a x14.len x14.cap (.slice (some (Addr.mk b5 0 none)) 1 1) H18 (fun ap1 H19 => WrAt H19 (Addr.mk b3 0 none) 1 ∧ ∀ H20 : Hp, H20 = (Hp.setCell H19 (Addr.mk b3 0 none) (.slice ap1.a ap1.len ap1.cap)) → 
 ((∃ st : LoopState, ∃ pd : Option Code, H20[l]? = some (rc st pd)) ∧ Q (.bool true) (Array.setIfInBounds H20 l (rc .ready none))))))
theorem tephralaw05_SortedAll.k1.eq (J : Jn) (b1 : Nat) (b3 : Nat) (l : Nat) (rc : LoopState → Option Code → Obj) (k : Int) (H12 : Hp) (x8 : Bool) (Q : Value → Hp → Prop) : vMidC Try.prog tephralaw05_SortedAll.cfr J (rgB tephralaw05_SortedAll.r1.code) [0, 1, 0, 0] [0, 0, 0] 7 (roundK l rc Q) (tephralaw05_SortedAll.k1.st b1 b3 k H12 x8) = tephralaw05_SortedAll.k1.body J b1 b3 l rc k H12 x8 Q := by kernel_rfl
theorem tephralaw05_SortedAll.k1.step {b1 : Nat} {b3 : Nat} {l : Nat} {rc : LoopState → Option Code → Obj} {k : Int} {H12 : Hp} {x8 : Bool} {Q : Value → Hp → Prop} (h : tephralaw05_SortedAll.k1.body J0 b1 b3 l rc k H12 x8 Q) : tephralaw05_SortedAll.k1 J0 b1 b3 l rc k H12 x8 Q := step_of (vMidC Try.prog tephralaw05_SortedAll.cfr J0 (rgB tephralaw05_SortedAll.r1.code) [0, 1, 0, 0] [0, 0, 0] 7 (roundK l rc Q)) (tephralaw05_SortedAll.k1.st b1 b3 k H12 x8) (tephralaw05_SortedAll.k1.eq J0 b1 b3 l rc k H12 x8 Q) (by kernel_rfl) h
noncomputable def tephralaw05_SortedAll.l1.body (J : Jn) (fromv : Int) (b : Nat) (b1 : Nat) (b2 : Nat) (b3 : Nat) (b6 : Nat) (b7 : Nat) (H35 : Hp) (Q : Value → Hp → Prop) : Prop :=
 ∃ x25 : Int, Hp.cell? H35 (Addr.mk b7 0 none) = some (.int .i64 x25) ∧ ∃ x26 : Sl, Hp.cell? H35 (Addr.mk b3 0 none) = some (.slice x26.a x26.len x26.cap) ∧ 
 Br (decide (x25 < ((x26.len : Nat) : Int))) (∃ x27 : Sl, Hp.cell? H35 (Addr.mk b3 0 none) = some (.slice x27.a x27.len x27.cap) ∧ ∃ x28 : Int, Hp.cell? H35 (Addr.mk b7 0 none) = some (.int .i64 x28) ∧ ((0 : Int) ≤ x28 ∧ x28 < ((x27.len : Nat) : Int)) ∧ vPtr x27.a (fun a2 => ∃ x29 : Int, Hp.cell? H35 (a2.add ((x28 : Int).toNat * 1)) = some (.int .i64 x29) ∧ 
 Br (decide (x29 < (w64 (fromv)))) (
 tephralaw05_SortedAll.k2 J fromv b b1 b2 b3 b6 b7 H35 Q)
 (
 tephralaw05_SortedAll.k3 J fromv b b1 b2 b3 b6 b7 H35 Q)))
 (
 tephralaw05_SortedAll.k3 J fromv b b1 b2 b3 b6 b7 H35 Q)
theorem tephralaw05_SortedAll.l1.eq (J : Jn) (fromv : Int) (b : Nat) (b1 : Nat) (b2 : Nat) (b3 : Nat) (b6 : Nat) (b7 : Nat) (H35 : Hp) (Q : Value → Hp → Prop) : vAtBody Try.prog tephralaw05_SortedAll.cf J tephralaw05_SortedAll.fn [1, 1, 1, 1, 1, 1, 1, 1, 0, 0] [0, 0, 0, 0, 0, 0, 0, 0, 0] Q (tephralaw05_SortedAll.l1.st fromv b b1 b2 b3 b6 b7 H35) = tephralaw05_SortedAll.l1.body J fromv b b1 b2 b3 b6 b7 H35 Q := by kernel_rfl
theorem tephralaw05_SortedAll.l1.step {fromv : Int} {b : Nat} {b1 : Nat} {b2 : Nat} {b3 : Nat} {b6 : Nat} {b7 : Nat} {H35 : Hp} {Q : Value → Hp → Prop} (h : tephralaw05_SortedAll.l1.body J0 fromv b b1 b2 b3 b6 b7 H35 Q) : tephralaw05_SortedAll.l1 J0 fromv b b1 b2 b3 b6 b7 H35 Q := vAt_stepC (tephralaw05_SortedAll.l1.st fromv b b1 b2 b3 b6 b7 H35) (tephralaw05_SortedAll.l1.eq J0 fromv b b1 b2 b3 b6 b7 H35 Q) (by kernel_rfl) h
noncomputable def tephralaw05_SortedAll.k2.body (J : Jn) (fromv : Int) (b : Nat) (b1 : Nat) (b2 : Nat) (b3 : Nat) (b6 : Nat) (b7 : Nat) (H35 : Hp) (Q : Value → Hp → Prop) : Prop :=
 ∃ x30 : Int, Hp.cell? H35 (Addr.mk b7 0 none) = some (.int .i64 x30) ∧ WrAt H35 (Addr.mk b7 0 none) 1 ∧ ∀ H36 : Hp, H36 = (Hp.setCell H35 (Addr.mk b7 0 none) (.int .i64 (w64 (x30 + 1)))) → 
 tephralaw05_SortedAll.l1 J fromv b b1 b2 b3 b6 b7 H36 Q
theorem tephralaw05_SortedAll.k2.eq (J : Jn) (fromv : Int) (b : Nat) (b1 : Nat) (b2 : Nat) (b3 : Nat) (b6 : Nat) (b7 : Nat) (H35 : Hp) (Q : Value → Hp → Prop) : vSeg Try.prog tephralaw05_SortedAll.cf J tephralaw05_SortedAll.fn [1, 1, 1, 1, 1, 1, 1, 1, 0, 0, 0, 1] [0, 0, 0, 0, 0, 0, 0, 0, 0, 0, 0] Q (tephralaw05_SortedAll.k2.st fromv b b1 b2 b3 b6 b7 H35) = tephralaw05_SortedAll.k2.body J fromv b b1 b2 b3 b6 b7 H35 Q := by kernel_rfl
theorem tephralaw05_SortedAll.k2.step {fromv : Int} {b : Nat} {b1 : Nat} {b2 : Nat} {b3 : Nat} {b6 : Nat} {b7 : Nat} {H35 : Hp} {Q : Value → Hp → Prop} (h : tephralaw05_SortedAll.k2.body J0 fromv b b1 b2 b3 b6 b7 H35 Q) : tephralaw05_SortedAll.k2 J0 fromv b b1 b2 b3 b6 b7 H35 Q := step_of (vSeg Try.prog tephralaw05_SortedAll.cf J0 tephralaw05_SortedAll.fn [1, 1, 1, 1, 1, 1, 1, 1, 0, 0, 0, 1] [0, 0, 0, 0, 0, 0, 0, 0, 0, 0, 0] Q) (tephralaw05_SortedAll.k2.st fromv b b1 b2 b3 b6 b7 H35) (tephralaw05_SortedAll.k2.eq J0 fromv b b1 b2 b3 b6 b7 H35 Q) (by kernel_rfl) h
noncomputable def tephralaw05_SortedAll.k3.body (J : Jn) (fromv : Int) (b : Nat) (b1 : Nat) (b2 : Nat) (b3 : Nat) (b6 : Nat) (b7 : Nat) (H35 : Hp) (Q : Value → Hp → Prop) : Prop :=
 ∀ b8 : Nat, b8 = Array.size H35 → ∀ H37 : Hp, H37 = (Array.push H35 (.cells #[.int .i64 0] T_int)) → WrAt H37 (Addr.mk b8 0 none) 1 ∧ ∀ H38 : Hp, H38 = (Hp.setCell H37 (Addr.mk b8 0 none) (.int .i64 0)) → ∃ x31 : Option Addr, Hp.cell? H38 (Addr.mk b2 0 none) = some (.pointer x31) ∧ 
 SCalls Try.prog sorted_Map_int_int_From.id [.pointer x31, .int .i64 (w64 (fromv))] H38 (fun r5 H39 => ∃ x32 : Fv, r5 = .func x32.fn x32.fi x32.ca ∧ 
 ∀ fn2 : FuncId, ∀ tm2 : Array Value, TmOf (tephralaw05_SortedAll.r3.fr b b1 b3 b7 b8) tm2 → vRg Try.prog (.func x32.fn x32.fi x32.ca) (Array.size H39 + 1) (Array.push (Array.push H39 hole) (tephralaw05_SortedAll.r3.rec fn2 tm2 (Array.size H39) .ready none)) (fun H44 => ∃ st2 : LoopState, ∃ pd2 : Option Code, H44[(Array.size H39 + 1)]? = some (tephralaw05_SortedAll.r3.rec fn2 tm2 (Array.size H39) st2 pd2) ∧ st2 ≠ .busy ∧ ∀ H45 : Hp, H45 = (Array.setIfInBounds H44 (Array.size H39 + 1) (tephralaw05_SortedAll.r3.rec fn2 tm2 (Array.size H39) .exhausted pd2)) → ((pd2 = none → 
 tephralaw05_SortedAll.k5 J b b1 b2 b3 b6 b7 b8 H45 Q) ∧ (pd2 = some .ret → ∃ x44 : Bool, Hp.cell? H45 (Addr.mk b1 0 none) = some (.bool x44) ∧ Q (.bool x44) H45) ∧ ((pd2 = some (.exit 6) → 
 tephralaw05_SortedAll.k5 J b b1 b2 b3 b6 b7 b8 H45 Q) ∧ True) ∧ (pd2 = none ∨ pd2 = some .ret ∨ ∃ i ∈ ([6] : List Nat), pd2 = some (.exit i)))))
theorem tephralaw05_SortedAll.k3.eq (J : Jn) (fromv : Int) (b : Nat) (b1 : Nat) (b2 : Nat) (b3 : Nat) (b6 : Nat) (b7 : Nat) (H35 : Hp) (Q : Value → Hp → Prop) : vSeg Try.prog tephralaw05_SortedAll.cf J tephralaw05_SortedAll.fn [1, 1, 1, 1, 1, 1, 1, 1, 1] [0, 0, 0, 0, 0, 0, 0, 0, 0] Q (tephralaw05_SortedAll.k3.st fromv b b1 b2 b3 b6 b7 H35) = tephralaw05_SortedAll.k3.body J fromv b b1 b2 b3 b6 b7 H35 Q := by kernel_rfl
theorem tephralaw05_SortedAll.k3.step {fromv : Int} {b : Nat} {b1 : Nat} {b2 : Nat} {b3 : Nat} {b6 : Nat} {b7 : Nat} {H35 : Hp} {Q : Value → Hp → Prop} (h : tephralaw05_SortedAll.k3.body J0 fromv b b1 b2 b3 b6 b7 H35 Q) : tephralaw05_SortedAll.k3 J0 fromv b b1 b2 b3 b6 b7 H35 Q := step_of (vSeg Try.prog tephralaw05_SortedAll.cf J0 tephralaw05_SortedAll.fn [1, 1, 1, 1, 1, 1, 1, 1, 1] [0, 0, 0, 0, 0, 0, 0, 0, 0] Q) (tephralaw05_SortedAll.k3.st fromv b b1 b2 b3 b6 b7 H35) (tephralaw05_SortedAll.k3.eq J0 fromv b b1 b2 b3 b6 b7 H35 Q) (by kernel_rfl) h
noncomputable def tephralaw05_SortedAll.k4.body (J : Jn) (b : Nat) (b1 : Nat) (b8 : Nat) (l2 : Nat) (rc2 : LoopState → Option Code → Obj) (H41 : Hp) (x40 : Bool) (Q : Value → Hp → Prop) : Prop :=
 
 Br x40 (WrAt H41 (Addr.mk b1 0 none) 1 ∧ ∀ H42 : Hp, H42 = (Hp.setCell H41 (Addr.mk b1 0 none) (.bool false)) → 
 ((∃ st : LoopState, ∃ pd : Option Code, H42[l2]? = some (rc2 st pd)) ∧ Q (.bool false) (Array.setIfInBounds H42 l2 (rc2 .done (some .ret)))))
 (∃ x41 : Int, Hp.cell? H41 (Addr.mk b8 0 none) = some (.int .i64 x41) ∧ WrAt H41 (Addr.mk b8 0 none) 1 ∧ ∀ H43 : Hp, H43 = (Hp.setCell H41 (Addr.mk b8 0 none) (.int .i64 (w64 (x41 + 1)))) → ∃ x42 : Int, Hp.cell? H43 (Addr.mk b8 0 none) = some (.int .i64 x42) ∧ ∃ x43 : Int, Hp.cell? H43 (Addr.mk b 0 none) = some (.int .u8 x43) ∧ (70 : Int) ≠ 0 ∧ 
 Br (decide (x42 > (w64 ((Int.tmod x43 70))))) (
 ((∃ st : LoopState, ∃ pd : Option Code, H43[l2]? = some (rc2 st pd)) ∧ Q (.bool false) (Array.setIfInBounds H43 l2 (rc2 .done (some (.exit 6))))))
 (
 ((∃ st : LoopState, ∃ pd : Option Code, H43[l2]? = some (rc2 st pd)) ∧ Q (.bool true) (Array.setIfInBounds H43 l2 (rc2 .ready none)))))
theorem tephralaw05_SortedAll.k4.eq (J : Jn) (b : Nat) (b1 : Nat) (b8 : Nat) (l2 : Nat) (rc2 : LoopState → Option Code → Obj) (H41 : Hp) (x40 : Bool) (Q : Value → Hp → Prop) : vSegC Try.prog tephralaw05_SortedAll.cfr J (rgB tephralaw05_SortedAll.r3.code) [0, 0, 1] [0, 0] (roundK l2 rc2 Q) (tephralaw05_SortedAll.k4.st b b1 b8 H41 x40) = tephralaw05_SortedAll.k4.body J b b1 b8 l2 rc2 H41 x40 Q := by kernel_rfl
theorem tephralaw05_SortedAll.k4.step {b : Nat} {b1 : Nat} {b8 : Nat} {l2 : Nat} {rc2 : LoopState → Option Code → Obj} {H41 : Hp} {x40 : Bool} {Q : Value → Hp → Prop} (h : tephralaw05_SortedAll.k4.body J0 b b1 b8 l2 rc2 H41 x40 Q) : tephralaw05_SortedAll.k4 J0 b b1 b8 l2 rc2 H41 x40 Q := step_of (vSegC Try.prog tephralaw05_SortedAll.cfr J0 (rgB tephralaw05_SortedAll.r3.code) [0, 0, 1] [0, 0] (roundK l2 rc2 Q)) (tephralaw05_SortedAll.k4.st b b1 b8 H41 x40) (tephralaw05_SortedAll.k4.eq J0 b b1 b8 l2 rc2 H41 x40 Q) (by kernel_rfl) h
noncomputable def tephralaw05_SortedAll.k5.body (J : Jn) (b : Nat) (b1 : Nat) (b2 : Nat) (b3 : Nat) (b6 : Nat) (b7 : Nat) (b8 : Nat) (H45 : Hp) (Q : Value → Hp → Prop) : Prop :=
 ∃ x45 : Int, Hp.cell? H45 (Addr.mk b6 0 none) = some (.int .i64 x45) ∧ 
 Br (x45 == 0) (∃ x46 : Option Addr, Hp.cell? H45 (Addr.mk b2 0 none) = some (.pointer x46) ∧ 
  (∃ x47 : Sl, Hp.cell? H45 (Addr.mk b3 0 none) = some (.slice x47.a x47.len x47.cap) ∧ 
 SCalls Try.prog sorted_Map_int_int_Len.id [.pointer x46] H45 (fun r6 H46 => ∃ x48 : Int, r6 = .int .i64 x48 ∧ 
 Br (((x47.len : Nat) : Int) == x48) (∃ x49 : Int, Hp.cell? H46 (Addr.mk b8 0 none) = some (.int .i64 x49) ∧ ∃ x50 : Sl, Hp.cell? H46 (Addr.mk b3 0 none) = some (.slice x50.a x50.len x50.cap) ∧ ∃ x51 : Int, Hp.cell? H46 (Addr.mk b7 0 none) = some (.int .i64 x51) ∧ ∃ x52 : Int, Hp.cell? H46 (Addr.mk b 0 none) = some (.int .u8 x52) ∧ (70 : Int) ≠ 0 ∧ WrAt H46 (Addr.mk b1 0 none) 1 ∧ ∀ H47 : Hp, H47 = (Hp.setCell H46 (Addr.mk b1 0 none) (.bool (x49 == (if (w64 ((w64 ((Int.tmod x52 70))) + 1)) < (w64 (((x50.len : Nat) : Int) - x51)) then (w64 ((w64 ((Int.tmod x52 70))) + 1)) else (w64 (((x50.len : Nat) : Int) - x51)))))) → ∃ x59 : Bool, Hp.cell? H47 (Addr.mk b1 0 none) = some (.bool x59) ∧ Q (.bool x59) H47)
 (WrAt H46 (Addr.mk b1 0 none) 1 ∧ ∀ H48 : Hp, H48 = (Hp.setCell H46 (Addr.mk b1 0 none) (.bool false)) → ∃ x60 : Bool, Hp.cell? H48 (Addr.mk b1 0 none) = some (.bool x60) ∧ Q (.bool x60) H48))) ∧ 
  (
 SCalls Try.prog sorted_Map_int_int_Len.id [.pointer x46] H45 (fun r7 H49 => ∃ x53 : Int, r7 = .int .i64 x53 ∧ ∃ x54 : Sl, Hp.cell? H49 (Addr.mk b3 0 none) = some (.slice x54.a x54.len x54.cap) ∧ 
 Br (((x54.len : Nat) : Int) == x53) (∃ x55 : Int, Hp.cell? H49 (Addr.mk b8 0 none) = some (.int .i64 x55) ∧ ∃ x56 : Sl, Hp.cell? H49 (Addr.mk b3 0 none) = some (.slice x56.a x56.len x56.cap) ∧ ∃ x57 : Int, Hp.cell? H49 (Addr.mk b7 0 none) = some (.int .i64 x57) ∧ ∃ x58 : Int, Hp.cell? H49 (Addr.mk b 0 none) = some (.int .u8 x58) ∧ (70 : Int) ≠ 0 ∧ WrAt H49 (Addr.mk b1 0 none) 1 ∧ ∀ H50 : Hp, H50 = (Hp.setCell H49 (Addr.mk b1 0 none) (.bool (x55 == (if (w64 ((w64 ((Int.tmod x58 70))) + 1)) < (w64 (((x56.len : Nat) : Int) - x57)) then (w64 ((w64 ((Int.tmod x58 70))) + 1)) else (w64 (((x56.len : Nat) : Int) - x57)))))) → ∃ x61 : Bool, Hp.cell? H50 (Addr.mk b1 0 none) = some (.bool x61) ∧ Q (.bool x61) H50)
 (WrAt H49 (Addr.mk b1 0 none) 1 ∧ ∀ H51 : Hp, H51 = (Hp.setCell H49 (Addr.mk b1 0 none) (.bool false)) → ∃ x62 : Bool, Hp.cell? H51 (Addr.mk b1 0 none) = some (.bool x62) ∧ Q (.bool x62) H51))))
 (
  (WrAt H45 (Addr.mk b1 0 none) 1 ∧ ∀ H52 : Hp, H52 = (Hp.setCell H45 (Addr.mk b1 0 none) (.bool false)) → ∃ x63 : Bool, Hp.cell? H52 (Addr.mk b1 0 none) = some (.bool x63) ∧ Q (.bool x63) H52) ∧ 
  (WrAt H45 (Addr.mk b1 0 none) 1 ∧ ∀ H53 : Hp, H53 = (Hp.setCell H45 (Addr.mk b1 0 none) (.bool false)) → ∃ x64 : Bool, Hp.cell? H53 (Addr.mk b1 0 none) = some (.bool x64) ∧ Q (.bool x64) H53))
theorem tephralaw05_SortedAll.k5.eq (J : Jn) (b : Nat) (b1 : Nat) (b2 : Nat) (b3 : Nat) (b6 : Nat) (b7 : Nat) (b8 : Nat) (H45 : Hp) (Q : Value → Hp → Prop) : vSeg Try.prog tephralaw05_SortedAll.cf J tephralaw05_SortedAll.fn [1, 1, 1, 1, 1, 1, 1, 1, 1, 1, 1] [0, 0, 0, 0, 0, 0, 0, 0, 0, 0, 0] Q (tephralaw05_SortedAll.k5.st b b1 b2 b3 b6 b7 b8 H45) = tephralaw05_SortedAll.k5.body J b b1 b2 b3 b6 b7 b8 H45 Q := by kernel_rfl
theorem tephralaw05_SortedAll.k5.step {b : Nat} {b1 : Nat} {b2 : Nat} {b3 : Nat} {b6 : Nat} {b7 : Nat} {b8 : Nat} {H45 : Hp} {Q : Value → Hp → Prop} (h : tephralaw05_SortedAll.k5.body J0 b b1 b2 b3 b6 b7 b8 H45 Q) : tephralaw05_SortedAll.k5 J0 b b1 b2 b3 b6 b7 b8 H45 Q := step_of (vSeg Try.prog tephralaw05_SortedAll.cf J0 tephralaw05_SortedAll.fn [1, 1, 1, 1, 1, 1, 1, 1, 1, 1, 1] [0, 0, 0, 0, 0, 0, 0, 0, 0, 0, 0] Q) (tephralaw05_SortedAll.k5.st b b1 b2 b3 b6 b7 b8 H45) (tephralaw05_SortedAll.k5.eq J0 b b1 b2 b3 b6 b7 b8 H45 Q) (by kernel_rfl) h
noncomputable def tephralaw05_SortedAll.r1.body (J : Jn) (b1 : Nat) (b2 : Nat) (b3 : Nat) (l : Nat) (rc : LoopState → Option Code → Obj) (k : Int) (v : Int) (H10 : Hp) (Q : Value → Hp → Prop) : Prop :=
 H10[l]? = some (rc .ready none) ∧ ∀ H11 : Hp, H11 = (Array.setIfInBounds H10 l (rc .busy none)) → ∃ x5 : Option Addr, Hp.cell? H11 (Addr.mk b2 0 none) = some (.pointer x5) ∧ 
 SCalls Try.prog sorted_Map_int_int_Get.id [.pointer x5, .int .i64 k] H11 (fun r3 H12 => ∃ x6 : Int, ∃ x7 : Bool, r3 = .tuple #[.int .i64 x6, .bool x7] ∧ 
 Br (!x7) (
 tephralaw05_SortedAll.k1 J b1 b3 l rc k H12 true Q)
 (
 tephralaw05_SortedAll.k1 J b1 b3 l rc k H12 (x6 != v) Q))
theorem tephralaw05_SortedAll.r1.eq (J : Jn) (b1 : Nat) (b2 : Nat) (b3 : Nat) (l : Nat) (rc : LoopState → Option Code → Obj) (k : Int) (v : Int) (H10 : Hp) (Q : Value → Hp → Prop) : vRound Try.prog tephralaw05_SortedAll.cfr J (rgA tephralaw05_SortedAll.r1.code) (rgB tephralaw05_SortedAll.r1.code) (setFr (tephralaw05_SortedAll.r1.fr b1 b2 b3) (rgP tephralaw05_SortedAll.r1.code).toList [.int .i64 k, .int .i64 v]) l rc H10 Q = tephralaw05_SortedAll.r1.body J b1 b2 b3 l rc k v H10 Q := by kernel_rfl
theorem tephralaw05_SortedAll.r1.calls {b1 : Nat} {b2 : Nat} {b3 : Nat} {l : Nat} {k : Int} {v : Int} {H10 : Hp} {fnA : FuncId} {tmA : Array Value} {dA : Nat} {Q : Value → Hp → Prop} (hl : H10[l]? = some (tephralaw05_SortedAll.r1.rec fnA tmA dA .ready none)) (hT : TmOf (tephralaw05_SortedAll.r1.fr b1 b2 b3) tmA) (h : tephralaw05_SortedAll.r1.body J0 b1 b2 b3 l (tephralaw05_SortedAll.r1.rec fnA tmA dA) k v H10 Q) : YCalls Try.prog l [.int .i64 k, .int .i64 v] H10 Q := vRound_calls (cf := tephralaw05_SortedAll.cfr) (fn := fnA) (tm := tmA) (ps := rgP tephralaw05_SortedAll.r1.code) (asg := rgA tephralaw05_SortedAll.r1.code) (body := rgB tephralaw05_SortedAll.r1.code) (d := dA) (fr := (tephralaw05_SortedAll.r1.fr b1 b2 b3)) Try.mixed (by kernel_rfl) hl (by kernel_rfl) hT ((tephralaw05_SortedAll.r1.eq J0 b1 b2 b3 l (tephralaw05_SortedAll.r1.rec fnA tmA dA) k v H10 Q).mpr h)
noncomputable def tephralaw05_SortedAll.r2.body (J : Jn) (b1 : Nat) (b3 : Nat) (b6 : Nat) (l1 : Nat) (rc1 : LoopState → Option Code → Obj) (k1 : Int) (v1 : Int) (H26 : Hp) (Q : Value → Hp → Prop) : Prop :=
 H26[l1]? = some (rc1 .ready none) ∧ ∀ H27 : Hp, H27 = (Array.setIfInBounds H26 l1 (rc1 .busy none)) → ∃ x19 : Int, Hp.cell? H27 (Addr.mk b6 0 none) = some (.int .i64 x19) ∧ WrAt H27 (Addr.mk b6 0 none) 1 ∧ ∀ H28 : Hp, H28 = (Hp.setCell H27 (Addr.mk b6 0 none) (.int .i64 (w64 (x19 - 1)))) → ∃ x20 : Int, Hp.cell? H28 (Addr.mk b6 0 none) = some (.int .i64 x20) ∧ 
 Br (decide (x20 < 0)) (WrAt H28 (Addr.mk b1 0 none) 1 ∧ ∀ H29 : Hp, H29 = (Hp.setCell H28 (Addr.mk b1 0 none) (.bool false)) → 
 ((∃ st : LoopState, ∃ pd : Option Code, H29[l1]? = some (rc1 st pd)) ∧ Q (.bool false) (Array.setIfInBounds H29 l1 (rc1 .done (some .ret)))))
 (∃ x21 : Sl, Hp.cell? H28 (Addr.mk b3 0 none) = some (.slice x21.a x21.len x21.cap) ∧ ∃ x22 : Int, Hp.cell? H28 (Addr.mk b6 0 none) = some (.int .i64 x22) ∧ ((0 : Int) ≤ x22 ∧ x22 < ((x21.len : Nat) : Int)) ∧ vPtr x21.a (fun a1 => ∃ x23 : Int, Hp.cell? H28 (a1.add ((x22 : Int).toNat * 1)) = some (.int .i64 x23) ∧ 
 Br (x23 != k1) (WrAt H28 (Addr.mk b1 0 none) 1 ∧ ∀ H30 : Hp, H30 = (Hp.setCell H28 (Addr.mk b1 0 none) (.bool false)) → 
 ((∃ st : LoopState, ∃ pd : Option Code, H30[l1]? = some (rc1 st pd)) ∧ Q (.bool false) (Array.setIfInBounds H30 l1 (rc1 .done (some .ret)))))
 (
 ((∃ st : LoopState, ∃ pd : Option Code, H28[l1]? = some (rc1 st pd)) ∧ Q (.bool true) (Array.setIfInBounds H28 l1 (rc1 .ready none))))))
theorem tephralaw05_SortedAll.r2.eq (J : Jn) (b1 : Nat) (b3 : Nat) (b6 : Nat) (l1 : Nat) (rc1 : LoopState → Option Code → Obj) (k1 : Int) (v1 : Int) (H26 : Hp) (Q : Value → Hp → Prop) : vRound Try.prog tephralaw05_SortedAll.cfr J (rgA tephralaw05_SortedAll.r2.code) (rgB tephralaw05_SortedAll.r2.code) (setFr (tephralaw05_SortedAll.r2.fr b1 b3 b6) (rgP tephralaw05_SortedAll.r2.code).toList [.int .i64 k1, .int .i64 v1]) l1 rc1 H26 Q = tephralaw05_SortedAll.r2.body J b1 b3 b6 l1 rc1 k1 v1 H26 Q := by kernel_rfl
theorem tephralaw05_SortedAll.r2.calls {b1 : Nat} {b3 : Nat} {b6 : Nat} {l1 : Nat} {k1 : Int} {v1 : Int} {H26 : Hp} {fnA : FuncId} {tmA : Array Value} {dA : Nat} {Q : Value → Hp → Prop} (hl : H26[l1]? = some (tephralaw05_SortedAll.r2.rec fnA tmA dA .ready none)) (hT : TmOf (tephralaw05_SortedAll.r2.fr b1 b3 b6) tmA) (h : tephralaw05_SortedAll.r2.body J0 b1 b3 b6 l1 (tephralaw05_SortedAll.r2.rec fnA tmA dA) k1 v1 H26 Q) : YCalls Try.prog l1 [.int .i64 k1, .int .i64 v1] H26 Q := vRound_calls (cf := tephralaw05_SortedAll.cfr) (fn := fnA) (tm := tmA) (ps := rgP tephralaw05_SortedAll.r2.code) (asg := rgA tephralaw05_SortedAll.r2.code) (body := rgB tephralaw05_SortedAll.r2.code) (d := dA) (fr := (tephralaw05_SortedAll.r2.fr b1 b3 b6)) Try.mixed (by kernel_rfl) hl (by kernel_rfl) hT ((tephralaw05_SortedAll.r2.eq J0 b1 b3 b6 l1 (tephralaw05_SortedAll.r2.rec fnA tmA dA) k1 v1 H26 Q).mpr h)
noncomputable def tephralaw05_SortedAll.r3.body (J : Jn) (b : Nat) (b1 : Nat) (b3 : Nat) (b7 : Nat) (b8 : Nat) (l2 : Nat) (rc2 : LoopState → Option Code → Obj) (k2 : Int) (v2 : Int) (H40 : Hp) (Q : Value → Hp → Prop) : Prop :=
 H40[l2]? = some (rc2 .ready none) ∧ ∀ H41 : Hp, H41 = (Array.setIfInBounds H40 l2 (rc2 .busy none)) → ∃ x33 : Int, Hp.cell? H41 (Addr.mk b7 0 none) = some (.int .i64 x33) ∧ ∃ x34 : Int, Hp.cell? H41 (Addr.mk b8 0 none) = some (.int .i64 x34) ∧ ∃ x35 : Sl, Hp.cell? H41 (Addr.mk b3 0 none) = some (.slice x35.a x35.len x35.cap) ∧ 
 Br (decide ((w64 (x33 + x34)) ≥ ((x35.len : Nat) : Int))) (
 tephralaw05_SortedAll.k4 J b b1 b8 l2 rc2 H41 true Q)
 (∃ x36 : Sl, Hp.cell? H41 (Addr.mk b3 0 none) = some (.slice x36.a x36.len x36.cap) ∧ ∃ x37 : Int, Hp.cell? H41 (Addr.mk b7 0 none) = some (.int .i64 x37) ∧ ∃ x38 : Int, Hp.cell? H41 (Addr.mk b8 0 none) = some (.int .i64 x38) ∧ ((0 : Int) ≤ (w64 (x37 + x38)) ∧ (w64 (x37 + x38)) < ((x36.len : Nat) : Int)) ∧ vPtr x36.a (fun a3 => ∃ x39 : Int, Hp.cell? H41 (a3.add (((w64 (x37 + x38)) : Int).toNat * 1)) = some (.int .i64 x39) ∧ 
 tephralaw05_SortedAll.k4 J b b1 b8 l2 rc2 H41 (x39 != k2) Q))
theorem tephralaw05_SortedAll.r3.eq (J : Jn) (b : Nat) (b1 : Nat) (b3 : Nat) (b7 : Nat) (b8 : Nat) (l2 : Nat) (rc2 : LoopState → Option Code → Obj) (k2 : Int) (v2 : Int) (H40 : Hp) (Q : Value → Hp → Prop) : vRound Try.prog tephralaw05_SortedAll.cfr J (rgA tephralaw05_SortedAll.r3.code) (rgB tephralaw05_SortedAll.r3.code) (setFr (tephralaw05_SortedAll.r3.fr b b1 b3 b7 b8) (rgP tephralaw05_SortedAll.r3.code).toList [.int .i64 k2, .int .i64 v2]) l2 rc2 H40 Q = tephralaw05_SortedAll.r3.body J b b1 b3 b7 b8 l2 rc2 k2 v2 H40 Q := by kernel_rfl
theorem tephralaw05_SortedAll.r3.calls {b : Nat} {b1 : Nat} {b3 : Nat} {b7 : Nat} {b8 : Nat} {l2 : Nat} {k2 : Int} {v2 : Int} {H40 : Hp} {fnA : FuncId} {tmA : Array Value} {dA : Nat} {Q : Value → Hp → Prop} (hl : H40[l2]? = some (tephralaw05_SortedAll.r3.rec fnA tmA dA .ready none)) (hT : TmOf (tephralaw05_SortedAll.r3.fr b b1 b3 b7 b8) tmA) (h : tephralaw05_SortedAll.r3.body J0 b b1 b3 b7 b8 l2 (tephralaw05_SortedAll.r3.rec fnA tmA dA) k2 v2 H40 Q) : YCalls Try.prog l2 [.int .i64 k2, .int .i64 v2] H40 Q := vRound_calls (cf := tephralaw05_SortedAll.cfr) (fn := fnA) (tm := tmA) (ps := rgP tephralaw05_SortedAll.r3.code) (asg := rgA tephralaw05_SortedAll.r3.code) (body := rgB tephralaw05_SortedAll.r3.code) (d := dA) (fr := (tephralaw05_SortedAll.r3.fr b b1 b3 b7 b8)) Try.mixed (by kernel_rfl) hl (by kernel_rfl) hT ((tephralaw05_SortedAll.r3.eq J0 b b1 b3 b7 b8 l2 (tephralaw05_SortedAll.r3.rec fnA tmA dA) k2 v2 H40 Q).mpr h)
attribute [irreducible] tephralaw05_SortedAll.r1.rec tephralaw05_SortedAll.r1.fr tephralaw05_SortedAll.r1.code tephralaw05_SortedAll.r2.rec tephralaw05_SortedAll.r2.fr tephralaw05_SortedAll.r2.code tephralaw05_SortedAll.r3.rec tephralaw05_SortedAll.r3.fr tephralaw05_SortedAll.r3.code
noncomputable def tephralaw05_SortedAll.vc (J : Jn) (acts : Sl) (fromv : Int) (stop : Int) (H : Hp) (Q : Value → Hp → Prop) : Prop :=
 ∀ b : Nat, b = Array.size H → ∀ H1 : Hp, H1 = (Array.push H (.cells #[.int .u8 stop] T_uint8)) → ∀ b1 : Nat, b1 = Array.size H1 → ∀ H2 : Hp, H2 = (Array.push H1 (.cells #[.bool false] T_bool)) → 
 SCalls Try.prog tephralaw05_awake.id [] H2 (fun r H3 => ∃ x : Bool, r = .bool x ∧ 
 Br (!x) (WrAt H3 (Addr.mk b1 0 none) 1 ∧ ∀ H4 : Hp, H4 = (Hp.setCell H3 (Addr.mk b1 0 none) (.bool false)) → ∃ x1 : Bool, Hp.cell? H4 (Addr.mk b1 0 none) = some (.bool x1) ∧ Q (.bool x1) H4)
 (
 SCalls Try.prog tephralaw05_Of.id [.slice acts.a acts.len acts.cap] H3 (fun r1 H5 => ∃ x2 : Option Addr, r1 = .pointer x2 ∧ ∀ b2 : Nat, b2 = Array.size H5 → ∀ H6 : Hp, H6 = (Array.push H5 (.cells #[.pointer none] T_p_sorted_Map_int_int)) → WrAt H6 (Addr.mk b2 0 none) 1 ∧ ∀ H7 : Hp, H7 = (Hp.setCell H6 (Addr.mk b2 0 none) (.pointer x2)) → ∀ b3 : Nat, b3 = Array.size H7 → ∀ H8 : Hp, H8 = (Array.push H7 (.cells #[.slice none 0 0] T_sl_int)) → ∃ x3 : Option Addr, Hp.cell? H8 (Addr.mk b2 0 none) = some (.pointer x3) ∧ 
 SCalls Try.prog sorted_Map_int_int_All.id [.pointer x3] H8 (fun r2 H9 => ∃ x4 : Fv, r2 = .func x4.fn x4.fi x4.ca ∧ 
 ∀ fn : FuncId, ∀ tm : Array Value, TmOf (tephralaw05_SortedAll.r1.fr b1 b2 b3) tm → vRg Try.prog (.func x4.fn x4.fi x4.ca) (Array.size H9 + 1) (Array.push (Array.push H9 hole) (tephralaw05_SortedAll.r1.rec fn tm (Array.size H9) .ready none)) (fun H21 => ∃ st : LoopState, ∃ pd : Option Code, H21[(Array.size H9 + 1)]? = some (tephralaw05_SortedAll.r1.rec fn tm (Array.size H9) st pd) ∧ st ≠ .busy ∧ ∀ H22 : Hp, H22 = (Array.setIfInBounds H21 (Array.size H9 + 1) (tephralaw05_SortedAll.r1.rec fn tm (Array.size H9) .exhausted pd)) → ((pd = none → ∃ x16 : Sl, Hp.cell? H22 (Addr.mk b3 0 none) = some (.slice x16.a x16.len x16.cap) ∧ ∀ b6 : Nat, b6 = Array.size H22 → ∀ H23 : Hp, H23 = (Array.push H22 (.cells #[.int .i64 0] T_int)) → WrAt H23 (Addr.mk b6 0 none) 1 ∧ ∀ H24 : Hp, H24 = (Hp.setCell H23 (Addr.mk b6 0 none) (.int .i64 ((x16.len : Nat) : Int))) → ∃ x17 : Option Addr, Hp.cell? H24 (Addr.mk b2 0 none) = some (.pointer x17) ∧ 
 SCalls Try.prog sorted_Map_int_int_Back.id [.pointer x17] H24 (fun r4 H25 => ∃ x18 : Fv, r4 = .func x18.fn x18.fi x18.ca ∧ 
 ∀ fn1 : FuncId, ∀ tm1 : Array Value, TmOf (tephralaw05_SortedAll.r2.fr b1 b3 b6) tm1 → vRg Try.prog (.func x18.fn x18.fi x18.ca) (Array.size H25 + 1) (Array.push (Array.push H25 hole) (tephralaw05_SortedAll.r2.rec fn1 tm1 (Array.size H25) .ready none)) (fun H31 => ∃ st1 : LoopState, ∃ pd1 : Option Code, H31[(Array.size H25 + 1)]? = some (tephralaw05_SortedAll.r2.rec fn1 tm1 (Array.size H25) st1 pd1) ∧ st1 ≠ .busy ∧ ∀ H32 : Hp, H32 = (Array.setIfInBounds H31 (Array.size H25 + 1) (tephralaw05_SortedAll.r2.rec fn1 tm1 (Array.size H25) .exhausted pd1)) → ((pd1 = none → ∀ b7 : Nat, b7 = Array.size H32 → ∀ H33 : Hp, H33 = (Array.push H32 (.cells #[.int .i64 0] T_int)) → WrAt H33 (Addr.mk b7 0 none) 1 ∧ ∀ H34 : Hp, H34 = (Hp.setCell H33 (Addr.mk b7 0 none) (.int .i64 0)) → 
 tephralaw05_SortedAll.l1 J fromv b b1 b2 b3 b6 b7 H34 Q) ∧ (pd1 = some .ret → ∃ x24 : Bool, Hp.cell? H32 (Addr.mk b1 0 none) = some (.bool x24) ∧ Q (.bool x24) H32) ∧ (True) ∧ (pd1 = none ∨ pd1 = some .ret ∨ ∃ i ∈ ([] : List Nat), pd1 = some (.exit i)))))) ∧ (pd = some .ret → ∃ x15 : Bool, Hp.cell? H22 (Addr.mk b1 0 none) = some (.bool x15) ∧ Q (.bool x15) H22) ∧ (True) ∧ (pd = none ∨ pd = some .ret ∨ ∃ i ∈ ([] : List Nat), pd = some (.exit i))))))))
theorem tephralaw05_SortedAll.eq (J : Jn) (acts : Sl) (fromv : Int) (stop : Int) (H : Hp) (Q : Value → Hp → Prop) : vFn Try.prog tephralaw05_SortedAll.cf J tephralaw05_SortedAll.fn [.slice acts.a acts.len acts.cap, .int .i8 fromv, .int .u8 stop] H Q = tephralaw05_SortedAll.vc J acts fromv stop H Q := by kernel_rfl
theorem tephralaw05_SortedAll.calls {acts : Sl} {fromv : Int} {stop : Int} {H : Hp} {Q : Value → Hp → Prop} (h : tephralaw05_SortedAll.vc J0 acts fromv stop H Q) : SCalls Try.prog tephralaw05_SortedAll.id [.slice acts.a acts.len acts.cap, .int .i8 fromv, .int .u8 stop] H Q := vFn_of Try.mixed Try.func4 (tephralaw05_SortedAll.eq J0 acts fromv stop H Q) h

/-! 10: tephra/tephralaw05.awake -/
noncomputable def tephralaw05_awake.cf : Cfg := ⟨[], [(1000009, [0, 4])], [], [(40, [0, 1, 4, 7, 8, 40]), (44, [0, 1, 7, 8, 44]), (47, [0, 1, 7, 47]), (51, [0, 1, 51]), (56, [0, 1, 56])], true⟩
noncomputable def tephralaw05_awake.cfr : Cfg := { tephralaw05_awake.cf with rf := false }
noncomputable def tephralaw05_awake.r1.fr (H : Hp) (H2 : Hp) : List AV := mkFr 62 [(0, .v (.pointer (some (Addr.mk (Array.size H) 0 none)))), (4, .v (.pointer (some (Addr.mk (Array.size H2) 0 none))))]
noncomputable def tephralaw05_awake.r1.code : Code := sub (bodyOf tephralaw05_awake.fn) [1, 1, 1, 1, 1, 0, 1, 0]
noncomputable def tephralaw05_awake.r1.rec (fn : FuncId) (tm : Array Value) (d : Nat) (st : LoopState) (pd : Option Code) : Obj := recO fn tm (rgP tephralaw05_awake.r1.code) (rgA tephralaw05_awake.r1.code) (rgB tephralaw05_awake.r1.code) d st pd
noncomputable def tephralaw05_awake.k1.st (H : Hp) (H2 : Hp) (H9 : Hp) (x7 : ByteArray) (x8 : Bool) (x9 : Bool) : VS := ⟨mkFr 62 [(0, .v (.pointer (some (Addr.mk (Array.size H) 0 none)))), (1, .v (.pointer (some (Addr.mk (Array.size (Array.push H (.cells #[.bool false] T_bool))) 0 none)))), (4, .v (.pointer (some (Addr.mk (Array.size H2) 0 none)))), (7, .v (.string x7)), (8, .v (.bool x8)), (40, .v (.bool x9))], [], H9⟩
noncomputable def tephralaw05_awake.k1 (J : Jn) (H : Hp) (H2 : Hp) (H9 : Hp) (x7 : ByteArray) (x8 : Bool) (x9 : Bool) (Q : Value → Hp → Prop) : Prop := J (vMid Try.prog tephralaw05_awake.cf J tephralaw05_awake.fn [1, 1, 1, 1, 1, 1, 1, 0] [0, 0, 0, 0, 0, 0, 0, 0] 4 Q) (tephralaw05_awake.k1.st H H2 H9 x7 x8 x9)
noncomputable def tephralaw05_awake.k2.st (H : Hp) (H9 : Hp) (x7 : ByteArray) (x8 : Bool) (x11 : Bool) : VS := ⟨mkFr 62 [(0, .v (.pointer (some (Addr.mk (Array.size H) 0 none)))), (1, .v (.pointer (some (Addr.mk (Array.size (Array.push H (.cells #[.bool false] T_bool))) 0 none)))), (7, .v (.string x7)), (8, .v (.bool x8)), (44, .v (.bool x11))], [], H9⟩
noncomputable def tephralaw05_awake.k2 (J : Jn) (H : Hp) (H9 : Hp) (x7 : ByteArray) (x8 : Bool) (x11 : Bool) (Q : Value → Hp → Prop) : Prop := J (vMid Try.prog tephralaw05_awake.cf J tephralaw05_awake.fn [1, 1, 1, 1, 1, 1, 1, 0] [0, 0, 0, 0, 0, 0, 0, 0] 8 Q) (tephralaw05_awake.k2.st H H9 x7 x8 x11)
noncomputable def tephralaw05_awake.k3.st (H : Hp) (H9 : Hp) (x7 : ByteArray) (x12 : Bool) : VS := ⟨mkFr 62 [(0, .v (.pointer (some (Addr.mk (Array.size H) 0 none)))), (1, .v (.pointer (some (Addr.mk (Array.size (Array.push H (.cells #[.bool false] T_bool))) 0 none)))), (7, .v (.string x7)), (47, .v (.bool x12))], [], H9⟩
noncomputable def tephralaw05_awake.k3 (J : Jn) (H : Hp) (H9 : Hp) (x7 : ByteArray) (x12 : Bool) (Q : Value → Hp → Prop) : Prop := J (vMid Try.prog tephralaw05_awake.cf J tephralaw05_awake.fn [1, 1, 1, 1, 1, 1, 1, 0] [0, 0, 0, 0, 0, 0, 0, 0] 11 Q) (tephralaw05_awake.k3.st H H9 x7 x12)
noncomputable def tephralaw05_awake.k4.st (H : Hp) (H9 : Hp) (x13 : Bool) : VS := ⟨mkFr 62 [(0, .v (.pointer (some (Addr.mk (Array.size H) 0 none)))), (1, .v (.pointer (some (Addr.mk (Array.size (Array.push H (.cells #[.bool false] T_bool))) 0 none)))), (51, .v (.bool x13))], [], H9⟩
noncomputable def tephralaw05_awake.k4 (J : Jn) (H : Hp) (H9 : Hp) (x13 : Bool) (Q : Value → Hp → Prop) : Prop := J (vMid Try.prog tephralaw05_awake.cf J tephralaw05_awake.fn [1, 1, 1, 1, 1, 1, 1, 0] [0, 0, 0, 0, 0, 0, 0, 0] 15 Q) (tephralaw05_awake.k4.st H H9 x13)
noncomputable def tephralaw05_awake.k5.st (H : Hp) (x15 : Bool) (H11 : Hp) : VS := ⟨mkFr 62 [(0, .v (.pointer (some (Addr.mk (Array.size H) 0 none)))), (1, .v (.pointer (some (Addr.mk (Array.size (Array.push H (.cells #[.bool false] T_bool))) 0 none)))), (56, .v (.bool x15))], [], H11⟩
noncomputable def tephralaw05_awake.k5 (J : Jn) (H : Hp) (x15 : Bool) (H11 : Hp) (Q : Value → Hp → Prop) : Prop := J (vMid Try.prog tephralaw05_awake.cf J tephralaw05_awake.fn [1, 1, 1, 1, 1, 1, 1, 0] [0, 0, 0, 0, 0, 0, 0, 0] 20 Q) (tephralaw05_awake.k5.st H x15 H11)
attribute [irreducible] tephralaw05_awake.k1 tephralaw05_awake.k2 tephralaw05_awake.k3 tephralaw05_awake.k4 tephralaw05_awake.k5
noncomputable def tephralaw05_awake.k1.body (J : Jn) (H : Hp) (H2 : Hp) (H9 : Hp) (x7 : ByteArray) (x8 : Bool) (x9 : Bool) (Q : Value → Hp → Prop) : Prop :=
 
 Br x9 (∃ x10 : Int, Hp.cell? H9 (Addr.mk (Array.size H2) 0 none) = some (.int .i64 x10) ∧ 
 tephralaw05_awake.k2 J H H9 x7 x8 (x10 == 13) Q)
 (
 tephralaw05_awake.k2 J H H9 x7 x8 false Q)
theorem tephralaw05_awake.k1.eq (J : Jn) (H : Hp) (H2 : Hp) (H9 : Hp) (x7 : ByteArray) (x8 : Bool) (x9 : Bool) (Q : Value → Hp → Prop) : vMid Try.prog tephralaw05_awake.cf J tephralaw05_awake.fn [1, 1, 1, 1, 1, 1, 1, 0] [0, 0, 0, 0, 0, 0, 0, 0] 4 Q (tephralaw05_awake.k1.st H H2 H9 x7 x8 x9) = tephralaw05_awake.k1.body J H H2 H9 x7 x8 x9 Q := by kernel_rfl
theorem tephralaw05_awake.k1.step {H : Hp} {H2 : Hp} {H9 : Hp} {x7 : ByteArray} {x8 : Bool} {x9 : Bool} {Q : Value → Hp → Prop} (h : tephralaw05_awake.k1.body J0 H H2 H9 x7 x8 x9 Q) : tephralaw05_awake.k1 J0 H H2 H9 x7 x8 x9 Q := step_of (vMid Try.prog tephralaw05_awake.cf J0 tephralaw05_awake.fn [1, 1, 1, 1, 1, 1, 1, 0] [0, 0, 0, 0, 0, 0, 0, 0] 4 Q) (tephralaw05_awake.k1.st H H2 H9 x7 x8 x9) (tephralaw05_awake.k1.eq J0 H H2 H9 x7 x8 x9 Q) (by kernel_rfl) h
noncomputable def tephralaw05_awake.k2.body (J : Jn) (H : Hp) (H9 : Hp) (x7 : ByteArray) (x8 : Bool) (x11 : Bool) (Q : Value → Hp → Prop) : Prop :=
 
 Br x11 (
 tephralaw05_awake.k3 J H H9 x7 x8 Q)
 (
 tephralaw05_awake.k3 J H H9 x7 false Q)
theorem tephralaw05_awake.k2.eq (J : Jn) (H : Hp) (H9 : Hp) (x7 : ByteArray) (x8 : Bool) (x11 : Bool) (Q : Value → Hp → Prop) : vMid Try.prog tephralaw05_awake.cf J tephralaw05_awake.fn [1, 1, 1, 1, 1, 1, 1, 0] [0, 0, 0, 0, 0, 0, 0, 0] 8 Q (tephralaw05_awake.k2.st H H9 x7 x8 x11) = tephralaw05_awake.k2.body J H H9 x7 x8 x11 Q := by kernel_rfl
theorem tephralaw05_awake.k2.step {H : Hp} {H9 : Hp} {x7 : ByteArray} {x8 : Bool} {x11 : Bool} {Q : Value → Hp → Prop} (h : tephralaw05_awake.k2.body J0 H H9 x7 x8 x11 Q) : tephralaw05_awake.k2 J0 H H9 x7 x8 x11 Q := step_of (vMid Try.prog tephralaw05_awake.cf J0 tephralaw05_awake.fn [1, 1, 1, 1, 1, 1, 1, 0] [0, 0, 0, 0, 0, 0, 0, 0] 8 Q) (tephralaw05_awake.k2.st H H9 x7 x8 x11) (tephralaw05_awake.k2.eq J0 H H9 x7 x8 x11 Q) (by kernel_rfl) h
noncomputable def tephralaw05_awake.k3.body (J : Jn) (H : Hp) (H9 : Hp) (x7 : ByteArray) (x12 : Bool) (Q : Value → Hp → Prop) : Prop :=
 
 Br x12 (
 tephralaw05_awake.k4 J H H9 (x7.toList == (ByteArray.mk #[120]).toList) Q)
 (
 tephralaw05_awake.k4 J H H9 false Q)
theorem tephralaw05_awake.k3.eq (J : Jn) (H : Hp) (H9 : Hp) (x7 : ByteArray) (x12 : Bool) (Q : Value → Hp → Prop) : vMid Try.prog tephralaw05_awake.cf J tephralaw05_awake.fn [1, 1, 1, 1, 1, 1, 1, 0] [0, 0, 0, 0, 0, 0, 0, 0] 11 Q (tephralaw05_awake.k3.st H H9 x7 x12) = tephralaw05_awake.k3.body J H H9 x7 x12 Q := by kernel_rfl
theorem tephralaw05_awake.k3.step {H : Hp} {H9 : Hp} {x7 : ByteArray} {x12 : Bool} {Q : Value → Hp → Prop} (h : tephralaw05_awake.k3.body J0 H H9 x7 x12 Q) : tephralaw05_awake.k3 J0 H H9 x7 x12 Q := step_of (vMid Try.prog tephralaw05_awake.cf J0 tephralaw05_awake.fn [1, 1, 1, 1, 1, 1, 1, 0] [0, 0, 0, 0, 0, 0, 0, 0] 11 Q) (tephralaw05_awake.k3.st H H9 x7 x12) (tephralaw05_awake.k3.eq J0 H H9 x7 x12 Q) (by kernel_rfl) h
noncomputable def tephralaw05_awake.k4.body (J : Jn) (H : Hp) (H9 : Hp) (x13 : Bool) (Q : Value → Hp → Prop) : Prop :=
 
 Br x13 (
 SCalls Try.prog sorted_Map_int_string_Put.id [.pointer (some (Addr.mk (Array.size (Array.push H (.cells #[.bool false] T_bool))) 0 none)), .int .i64 3, .string (ByteArray.mk #[122])] H9 (fun r5 H10 => ∃ x14 : Bool, r5 = .bool x14 ∧ 
 tephralaw05_awake.k5 J H (!x14) H10 Q))
 (
 tephralaw05_awake.k5 J H false H9 Q)
theorem tephralaw05_awake.k4.eq (J : Jn) (H : Hp) (H9 : Hp) (x13 : Bool) (Q : Value → Hp → Prop) : vMid Try.prog tephralaw05_awake.cf J tephralaw05_awake.fn [1, 1, 1, 1, 1, 1, 1, 0] [0, 0, 0, 0, 0, 0, 0, 0] 15 Q (tephralaw05_awake.k4.st H H9 x13) = tephralaw05_awake.k4.body J H H9 x13 Q := by kernel_rfl
theorem tephralaw05_awake.k4.step {H : Hp} {H9 : Hp} {x13 : Bool} {Q : Value → Hp → Prop} (h : tephralaw05_awake.k4.body J0 H H9 x13 Q) : tephralaw05_awake.k4 J0 H H9 x13 Q := step_of (vMid Try.prog tephralaw05_awake.cf J0 tephralaw05_awake.fn [1, 1, 1, 1, 1, 1, 1, 0] [0, 0, 0, 0, 0, 0, 0, 0] 15 Q) (tephralaw05_awake.k4.st H H9 x13) (tephralaw05_awake.k4.eq J0 H H9 x13 Q) (by kernel_rfl) h
noncomputable def tephralaw05_awake.k5.body (J : Jn) (H : Hp) (x15 : Bool) (H11 : Hp) (Q : Value → Hp → Prop) : Prop :=
 
 Br x15 (
 SCalls Try.prog sorted_Map_int_string_Len.id [.pointer (some (Addr.mk (Array.size (Array.push H (.cells #[.bool false] T_bool))) 0 none))] H11 (fun r6 H12 => ∃ x16 : Int, r6 = .int .i64 x16 ∧ WrAt H12 (Addr.mk (Array.size H) 0 none) 1 ∧ ∃ x17 : Bool, Hp.cell? (Hp.setCell H12 (Addr.mk (Array.size H) 0 none) (.bool (x16 == 2))) (Addr.mk (Array.size H) 0 none) = some (.bool x17) ∧ Q (.bool x17) (Hp.setCell H12 (Addr.mk (Array.size H) 0 none) (.bool (x16 == 2)))))
 (WrAt H11 (Addr.mk (Array.size H) 0 none) 1 ∧ ∃ x18 : Bool, Hp.cell? (Hp.setCell H11 (Addr.mk (Array.size H) 0 none) (.bool false)) (Addr.mk (Array.size H) 0 none) = some (.bool x18) ∧ Q (.bool x18) (Hp.setCell H11 (Addr.mk (Array.size H) 0 none) (.bool false)))
theorem tephralaw05_awake.k5.eq (J : Jn) (H : Hp) (x15 : Bool) (H11 : Hp) (Q : Value → Hp → Prop) : vMid Try.prog tephralaw05_awake.cf J tephralaw05_awake.fn [1, 1, 1, 1, 1, 1, 1, 0] [0, 0, 0, 0, 0, 0, 0, 0] 20 Q (tephralaw05_awake.k5.st H x15 H11) = tephralaw05_awake.k5.body J H x15 H11 Q := by kernel_rfl
theorem tephralaw05_awake.k5.step {H : Hp} {x15 : Bool} {H11 : Hp} {Q : Value → Hp → Prop} (h : tephralaw05_awake.k5.body J0 H x15 H11 Q) : tephralaw05_awake.k5 J0 H x15 H11 Q := step_of (vMid Try.prog tephralaw05_awake.cf J0 tephralaw05_awake.fn [1, 1, 1, 1, 1, 1, 1, 0] [0, 0, 0, 0, 0, 0, 0, 0] 20 Q) (tephralaw05_awake.k5.st H x15 H11) (tephralaw05_awake.k5.eq J0 H x15 H11 Q) (by kernel_rfl) h
noncomputable def tephralaw05_awake.r1.body (J : Jn) (H : Hp) (H2 : Hp) (l : Nat) (rc : LoopState → Option Code → Obj) (k : Int) (v : ByteArray) (H5 : Hp) (Q : Value → Hp → Prop) : Prop :=
 H5[l]? = some (rc .ready none) ∧ ∀ H6 : Hp, H6 = (Array.setIfInBounds H5 l (rc .busy none)) → ∃ x5 : Int, Hp.cell? H6 (Addr.mk (Array.size H2) 0 none) = some (.int .i64 x5) ∧ WrAt H6 (Addr.mk (Array.size H2) 0 none) 1 ∧ 
 Br (k == 1) (
 Br (!(v.toList == (ByteArray.mk #[121]).toList)) (WrAt (Hp.setCell H6 (Addr.mk (Array.size H2) 0 none) (.int .i64 (w64 ((w64 ((10 : Int) * x5)) + k)))) (Addr.mk (Array.size H) 0 none) 1 ∧ 
 ((∃ st : LoopState, ∃ pd : Option Code, (Hp.setCell (Hp.setCell H6 (Addr.mk (Array.size H2) 0 none) (.int .i64 (w64 ((w64 ((10 : Int) * x5)) + k)))) (Addr.mk (Array.size H) 0 none) (.bool false))[l]? = some (rc st pd)) ∧ Q (.bool false) (Array.setIfInBounds (Hp.setCell (Hp.setCell H6 (Addr.mk (Array.size H2) 0 none) (.int .i64 (w64 ((w64 ((10 : Int) * x5)) + k)))) (Addr.mk (Array.size H) 0 none) (.bool false)) l (rc .done (some .ret)))))
 (
 ((∃ st : LoopState, ∃ pd : Option Code, (Hp.setCell H6 (Addr.mk (Array.size H2) 0 none) (.int .i64 (w64 ((w64 ((10 : Int) * x5)) + k))))[l]? = some (rc st pd)) ∧ Q (.bool true) (Array.setIfInBounds (Hp.setCell H6 (Addr.mk (Array.size H2) 0 none) (.int .i64 (w64 ((w64 ((10 : Int) * x5)) + k)))) l (rc .ready none)))))
 (
 ((∃ st : LoopState, ∃ pd : Option Code, (Hp.setCell H6 (Addr.mk (Array.size H2) 0 none) (.int .i64 (w64 ((w64 ((10 : Int) * x5)) + k))))[l]? = some (rc st pd)) ∧ Q (.bool true) (Array.setIfInBounds (Hp.setCell H6 (Addr.mk (Array.size H2) 0 none) (.int .i64 (w64 ((w64 ((10 : Int) * x5)) + k)))) l (rc .ready none))))
theorem tephralaw05_awake.r1.eq (J : Jn) (H : Hp) (H2 : Hp) (l : Nat) (rc : LoopState → Option Code → Obj) (k : Int) (v : ByteArray) (H5 : Hp) (Q : Value → Hp → Prop) : vRound Try.prog tephralaw05_awake.cfr J (rgA tephralaw05_awake.r1.code) (rgB tephralaw05_awake.r1.code) (setFr (tephralaw05_awake.r1.fr H H2) (rgP tephralaw05_awake.r1.code).toList [.int .i64 k, .string v]) l rc H5 Q = tephralaw05_awake.r1.body J H H2 l rc k v H5 Q := by kernel_rfl
theorem tephralaw05_awake.r1.calls {H : Hp} {H2 : Hp} {l : Nat} {k : Int} {v : ByteArray} {H5 : Hp} {fnA : FuncId} {tmA : Array Value} {dA : Nat} {Q : Value → Hp → Prop} (hl : H5[l]? = some (tephralaw05_awake.r1.rec fnA tmA dA .ready none)) (hT : TmOf (tephralaw05_awake.r1.fr H H2) tmA) (h : tephralaw05_awake.r1.body J0 H H2 l (tephralaw05_awake.r1.rec fnA tmA dA) k v H5 Q) : YCalls Try.prog l [.int .i64 k, .string v] H5 Q := vRound_calls (cf := tephralaw05_awake.cfr) (fn := fnA) (tm := tmA) (ps := rgP tephralaw05_awake.r1.code) (asg := rgA tephralaw05_awake.r1.code) (body := rgB tephralaw05_awake.r1.code) (d := dA) (fr := (tephralaw05_awake.r1.fr H H2)) Try.mixed (by kernel_rfl) hl (by kernel_rfl) hT ((tephralaw05_awake.r1.eq J0 H H2 l (tephralaw05_awake.r1.rec fnA tmA dA) k v H5 Q).mpr h)
attribute [irreducible] tephralaw05_awake.r1.rec tephralaw05_awake.r1.fr tephralaw05_awake.r1.code
noncomputable def tephralaw05_awake.vc (J : Jn) (H : Hp) (Q : Value → Hp → Prop) : Prop :=
 
 SCalls Try.prog sorted_Map_int_string_Put.id [.pointer (some (Addr.mk (Array.size (Array.push H (.cells #[.bool false] T_bool))) 0 none)), .int .i64 3, .string (ByteArray.mk #[120])] (Array.push (Array.push H (.cells #[.bool false] T_bool)) (.cells #[.slice none 0 0] T_sorted_Map_int_string)) (fun r H1 => ∃ x : Bool, r = .bool x ∧ 
 SCalls Try.prog sorted_Map_int_string_Put.id [.pointer (some (Addr.mk (Array.size (Array.push H (.cells #[.bool false] T_bool))) 0 none)), .int .i64 1, .string (ByteArray.mk #[121])] H1 (fun r1 H2 => ∃ x1 : Bool, r1 = .bool x1 ∧ WrAt (Array.push H2 (.cells #[.int .i64 0] T_int)) (Addr.mk (Array.size H2) 0 none) 1 ∧ 
 SCalls Try.prog sorted_Map_int_string_Len.id [.pointer (some (Addr.mk (Array.size (Array.push H (.cells #[.bool false] T_bool))) 0 none))] (Hp.setCell (Array.push H2 (.cells #[.int .i64 0] T_int)) (Addr.mk (Array.size H2) 0 none) (.int .i64 0)) (fun r2 H3 => ∃ x2 : Int, r2 = .int .i64 x2 ∧ 
 Br (x2 != 2) (WrAt H3 (Addr.mk (Array.size H) 0 none) 1 ∧ ∃ x3 : Bool, Hp.cell? (Hp.setCell H3 (Addr.mk (Array.size H) 0 none) (.bool false)) (Addr.mk (Array.size H) 0 none) = some (.bool x3) ∧ Q (.bool x3) (Hp.setCell H3 (Addr.mk (Array.size H) 0 none) (.bool false)))
 (
 SCalls Try.prog sorted_Map_int_string_All.id [.pointer (some (Addr.mk (Array.size (Array.push H (.cells #[.bool false] T_bool))) 0 none))] H3 (fun r3 H4 => ∃ x4 : Fv, r3 = .func x4.fn x4.fi x4.ca ∧ 
 ∀ fn : FuncId, ∀ tm : Array Value, TmOf (tephralaw05_awake.r1.fr H H2) tm → vRg Try.prog (.func x4.fn x4.fi x4.ca) (Array.size H4 + 1) (Array.push (Array.push H4 hole) (tephralaw05_awake.r1.rec fn tm (Array.size H4) .ready none)) (fun H7 => ∃ st : LoopState, ∃ pd : Option Code, H7[(Array.size H4 + 1)]? = some (tephralaw05_awake.r1.rec fn tm (Array.size H4) st pd) ∧ st ≠ .busy ∧ ∀ H8 : Hp, H8 = (Array.setIfInBounds H7 (Array.size H4 + 1) (tephralaw05_awake.r1.rec fn tm (Array.size H4) .exhausted pd)) → ((pd = none → 
 SCalls Try.prog sorted_Map_int_string_Get.id [.pointer (some (Addr.mk (Array.size (Array.push H (.cells #[.bool false] T_bool))) 0 none)), .int .i64 3] H8 (fun r4 H9 => ∃ x7 : ByteArray, ∃ x8 : Bool, r4 = .tuple #[.string x7, .bool x8] ∧ 
 Br x (
 tephralaw05_awake.k1 J H H2 H9 x7 x8 x1 Q)
 (
 tephralaw05_awake.k1 J H H2 H9 x7 x8 false Q))) ∧ (pd = some .ret → ∃ x6 : Bool, Hp.cell? H8 (Addr.mk (Array.size H) 0 none) = some (.bool x6) ∧ Q (.bool x6) H8) ∧ (True) ∧ (pd = none ∨ pd = some .ret ∨ ∃ i ∈ ([] : List Nat), pd = some (.exit i)))))))))
theorem tephralaw05_awake.eq (J : Jn) (H : Hp) (Q : Value → Hp → Prop) : vFn Try.prog tephralaw05_awake.cf J tephralaw05_awake.fn [] H Q = tephralaw05_awake.vc J H Q := by kernel_rfl
theorem tephralaw05_awake.calls {H : Hp} {Q : Value → Hp → Prop} (h : tephralaw05_awake.vc J0 H Q) : SCalls Try.prog tephralaw05_awake.id [] H Q := vFn_of Try.mixed Try.func10 (tephralaw05_awake.eq J0 H Q) h

/-! 11: (*tephra/sorted.Map_int, int_).Put -/
noncomputable def sorted_Map_int_int_Put.cf : Cfg := ⟨[], [], [], [], true⟩
noncomputable def sorted_Map_int_int_Put.vc (J : Jn) (m : Addr) (k : Int) (v : Int) (H : Hp) (Q : Value → Hp → Prop) : Prop :=
 
 SCalls Try.prog sorted_Map_int_int_find.id [.pointer (some m), .int .i64 k] H (fun r H1 => ∃ x : Int, ∃ x1 : Bool, r = .tuple #[.int .i64 x, .bool x1] ∧ 
 Br x1 (∃ items : Sl, Hp.cell? H1 m = some (.slice items.a items.len items.cap) ∧ ((0 : Int) ≤ x ∧ x < ((items.len : Nat) : Int)) ∧ vPtr items.a (fun a => WrAt H1 ((a.add ((x : Int).toNat * 2)).add 1) 1 ∧ Q (.bool false) (Hp.setCell H1 ((a.add ((x : Int).toNat * 2)).add 1) (.int .i64 v))))
 (∃ items1 : Sl, Hp.cell? H1 m = some (.slice items1.a items1.len items1.cap) ∧ 
 SCalls Try.prog slices_Insert_sl_sorted_item_int_int_sorted_item_int_int.id [.slice items1.a items1.len items1.cap, .int .i64 x, .slice (some (Addr.mk (Array.size H1) 0 none)) 1 1] (Array.push H1 (.cells #[.int .i64 k, .int .i64 v] T_sorted_item_int_int)) (fun r1 H2 => ∃ x2 : Sl, r1 = .slice x2.a x2.len x2.cap ∧ WrAt H2 m 1 ∧ Q (.bool true) (Hp.setCell H2 m (.slice x2.a x2.len x2.cap)))))
theorem sorted_Map_int_int_Put.eq (J : Jn) (m : Addr) (k : Int) (v : Int) (H : Hp) (Q : Value → Hp → Prop) : vFn Try.prog sorted_Map_int_int_Put.cf J sorted_Map_int_int_Put.fn [.pointer (some m), .int .i64 k, .int .i64 v] H Q = sorted_Map_int_int_Put.vc J m k v H Q := by kernel_rfl
theorem sorted_Map_int_int_Put.calls {m : Addr} {k : Int} {v : Int} {H : Hp} {Q : Value → Hp → Prop} (h : sorted_Map_int_int_Put.vc J0 m k v H Q) : SCalls Try.prog sorted_Map_int_int_Put.id [.pointer (some m), .int .i64 k, .int .i64 v] H Q := vFn_of Try.mixed Try.func11 (sorted_Map_int_int_Put.eq J0 m k v H Q) h

/-! 12: (*tephra/sorted.Map_int, int_).Len -/
noncomputable def sorted_Map_int_int_Len.cf : Cfg := ⟨[], [], [], [], true⟩
noncomputable def sorted_Map_int_int_Len.vc (J : Jn) (m : Addr) (H : Hp) (Q : Value → Hp → Prop) : Prop :=
 ∃ items : Sl, Hp.cell? H m = some (.slice items.a items.len items.cap) ∧ Q (.int .i64 ((items.len : Nat) : Int)) H
theorem sorted_Map_int_int_Len.eq (J : Jn) (m : Addr) (H : Hp) (Q : Value → Hp → Prop) : vFn Try.prog sorted_Map_int_int_Len.cf J sorted_Map_int_int_Len.fn [.pointer (some m)] H Q = sorted_Map_int_int_Len.vc J m H Q := by kernel_rfl
theorem sorted_Map_int_int_Len.calls {m : Addr} {H : Hp} {Q : Value → Hp → Prop} (h : sorted_Map_int_int_Len.vc J0 m H Q) : SCalls Try.prog sorted_Map_int_int_Len.id [.pointer (some m)] H Q := vFn_of Try.mixed Try.func12 (sorted_Map_int_int_Len.eq J0 m H Q) h

/-! 13: (*tephra/sorted.Map_int, int_).All -/
noncomputable def sorted_Map_int_int_All.cf : Cfg := ⟨[], [], [], [], true⟩
noncomputable def sorted_Map_int_int_All.vc (J : Jn) (m : Addr) (H : Hp) (Q : Value → Hp → Prop) : Prop :=
 Q (.func (.func 30) #[] #[.pointer (some (Addr.mk (Array.size H) 0 none))]) (Array.push H (.cells #[.pointer (some m)] T_p_sorted_Map_int_int))
theorem sorted_Map_int_int_All.eq (J : Jn) (m : Addr) (H : Hp) (Q : Value → Hp → Prop) : vFn Try.prog sorted_Map_int_int_All.cf J sorted_Map_int_int_All.fn [.pointer (some m)] H Q = sorted_Map_int_int_All.vc J m H Q := by kernel_rfl
theorem sorted_Map_int_int_All.calls {m : Addr} {H : Hp} {Q : Value → Hp → Prop} (h : sorted_Map_int_int_All.vc J0 m H Q) : SCalls Try.prog sorted_Map_int_int_All.id [.pointer (some m)] H Q := vFn_of Try.mixed Try.func13 (sorted_Map_int_int_All.eq J0 m H Q) h

/-! 14: (*tephra/sorted.Map_int, int_).Get -/
noncomputable def sorted_Map_int_int_Get.cf : Cfg := ⟨[], [], [], [], true⟩
noncomputable def sorted_Map_int_int_Get.vc (J : Jn) (m : Addr) (k : Int) (H : Hp) (Q : Value → Hp → Prop) : Prop :=
 
 SCalls Try.prog sorted_Map_int_int_find.id [.pointer (some m), .int .i64 k] H (fun r H1 => ∃ x : Int, ∃ x1 : Bool, r = .tuple #[.int .i64 x, .bool x1] ∧ 
 Br x1 (∃ items : Sl, Hp.cell? H1 m = some (.slice items.a items.len items.cap) ∧ ((0 : Int) ≤ x ∧ x < ((items.len : Nat) : Int)) ∧ vPtr items.a (fun a => ∃ value : Int, Hp.cell? H1 ((a.add ((x : Int).toNat * 2)).add 1) = some (.int .i64 value) ∧ Q (.tuple #[.int .i64 value, .bool true]) H1))
 (Q (.tuple #[.int .i64 0, .bool false]) H1))
theorem sorted_Map_int_int_Get.eq (J : Jn) (m : Addr) (k : Int) (H : Hp) (Q : Value → Hp → Prop) : vFn Try.prog sorted_Map_int_int_Get.cf J sorted_Map_int_int_Get.fn [.pointer (some m), .int .i64 k] H Q = sorted_Map_int_int_Get.vc J m k H Q := by kernel_rfl
theorem sorted_Map_int_int_Get.calls {m : Addr} {k : Int} {H : Hp} {Q : Value → Hp → Prop} (h : sorted_Map_int_int_Get.vc J0 m k H Q) : SCalls Try.prog sorted_Map_int_int_Get.id [.pointer (some m), .int .i64 k] H Q := vFn_of Try.mixed Try.func14 (sorted_Map_int_int_Get.eq J0 m k H Q) h

/-! 15: tephra/tephralaw05.Of -/
noncomputable def tephralaw05_Of.cf : Cfg := ⟨[5], [(3, [3, 12, 13, 14])], [], [], true⟩
noncomputable def tephralaw05_Of.l1.st (acts : Sl) (H : Hp) (H1 : Hp) (x : Int) : VS := ⟨mkFr 28 [(3, .v (.pointer (some (Addr.mk (Array.size H) 0 none)))), (12, .v (.slice (cutA acts.a acts.cap 0 3) (((if (60 : Int) < ((acts.len : Nat) : Int) then 60 else ((acts.len : Nat) : Int)) : Int).toNat) acts.cap)), (13, .v (.int .i64 (((((if (60 : Int) < ((acts.len : Nat) : Int) then 60 else ((acts.len : Nat) : Int)) : Int).toNat) : Nat) : Int))), (14, .v (.int .i64 x))], [], H1⟩
noncomputable def tephralaw05_Of.l1 (J : Jn) (acts : Sl) (H : Hp) (H1 : Hp) (x : Int) (Q : Value → Hp → Prop) : Prop := vAt Try.prog tephralaw05_Of.cf J tephralaw05_Of.fn [1, 1, 0, 1, 0] [0, 0, 0, 0] Q (tephralaw05_Of.l1.st acts H H1 x)
attribute [irreducible] tephralaw05_Of.l1
noncomputable def tephralaw05_Of.l1.body (J : Jn) (acts : Sl) (H : Hp) (H1 : Hp) (x : Int) (Q : Value → Hp → Prop) : Prop :=
 
 Br (decide (x < (((((if (60 : Int) < ((acts.len : Nat) : Int) then 60 else ((acts.len : Nat) : Int)) : Int).toNat) : Nat) : Int))) (((0 : Int) ≤ x ∧ x < (((((if (60 : Int) < ((acts.len : Nat) : Int) then 60 else ((acts.len : Nat) : Int)) : Int).toNat) : Nat) : Int)) ∧ vPtr (cutA acts.a acts.cap 0 3) (fun a => ∃ Opv : Int, ∃ Key : Int, ∃ Valuev : Int, RowAt H1 (a.add ((x : Int).toNat * 3)) [.int .u8 Opv, .int .i8 Key, .int .u16 Valuev] ∧ 
 SCalls Try.prog sorted_Map_int_int_Put.id [.pointer (some (Addr.mk (Array.size H) 0 none)), .int .i64 (w64 (Key)), .int .i64 (w64 (Valuev))] (holes H1 1) (fun r H2 => ∃ x1 : Bool, r = .bool x1 ∧ 
 tephralaw05_Of.l1 J acts H H2 (w64 (x + 1)) Q)))
 (Q (.pointer (some (Addr.mk (Array.size H) 0 none))) H1)
theorem tephralaw05_Of.l1.eq (J : Jn) (acts : Sl) (H : Hp) (H1 : Hp) (x : Int) (Q : Value → Hp → Prop) : vAtBody Try.prog tephralaw05_Of.cf J tephralaw05_Of.fn [1, 1, 0, 1, 0] [0, 0, 0, 0] Q (tephralaw05_Of.l1.st acts H H1 x) = tephralaw05_Of.l1.body J acts H H1 x Q := by kernel_rfl
theorem tephralaw05_Of.l1.step {acts : Sl} {H : Hp} {H1 : Hp} {x : Int} {Q : Value → Hp → Prop} (h : tephralaw05_Of.l1.body J0 acts H H1 x Q) : tephralaw05_Of.l1 J0 acts H H1 x Q := vAt_stepC (tephralaw05_Of.l1.st acts H H1 x) (tephralaw05_Of.l1.eq J0 acts H H1 x Q) (by kernel_rfl) h
noncomputable def tephralaw05_Of.vc (J : Jn) (acts : Sl) (H : Hp) (Q : Value → Hp → Prop) : Prop :=
 ((0 : Int) ≤ (if (60 : Int) < ((acts.len : Nat) : Int) then 60 else ((acts.len : Nat) : Int)) ∧ (if (60 : Int) < ((acts.len : Nat) : Int) then 60 else ((acts.len : Nat) : Int)) ≤ ((acts.cap : Nat) : Int)) ∧ 
 tephralaw05_Of.l1 J acts H (Array.push H (.cells #[.slice none 0 0] T_sorted_Map_int_int)) 0 Q
theorem tephralaw05_Of.eq (J : Jn) (acts : Sl) (H : Hp) (Q : Value → Hp → Prop) : vFn Try.prog tephralaw05_Of.cf J tephralaw05_Of.fn [.slice acts.a acts.len acts.cap] H Q = tephralaw05_Of.vc J acts H Q := by kernel_rfl
theorem tephralaw05_Of.calls {acts : Sl} {H : Hp} {Q : Value → Hp → Prop} (h : tephralaw05_Of.vc J0 acts H Q) : SCalls Try.prog tephralaw05_Of.id [.slice acts.a acts.len acts.cap] H Q := vFn_of Try.mixed Try.func15 (tephralaw05_Of.eq J0 acts H Q) h

/-! 16: (*tephra/sorted.Map_int, int_).Back -/
noncomputable def sorted_Map_int_int_Back.cf : Cfg := ⟨[1000003], [], [], [], true⟩
noncomputable def sorted_Map_int_int_Back.vc (J : Jn) (m : Addr) (H : Hp) (Q : Value → Hp → Prop) : Prop :=
 ∀ b : Nat, b = Array.size H → ∀ H1 : Hp, H1 = (Array.push H (.cells #[.pointer (some m)] T_p_sorted_Map_int_int)) → Q (.func (.func 31) #[] #[.pointer (some (Addr.mk b 0 none))]) H1
theorem sorted_Map_int_int_Back.eq (J : Jn) (m : Addr) (H : Hp) (Q : Value → Hp → Prop) : vFn Try.prog sorted_Map_int_int_Back.cf J sorted_Map_int_int_Back.fn [.pointer (some m)] H Q = sorted_Map_int_int_Back.vc J m H Q := by kernel_rfl
theorem sorted_Map_int_int_Back.calls {m : Addr} {H : Hp} {Q : Value → Hp → Prop} (h : sorted_Map_int_int_Back.vc J0 m H Q) : SCalls Try.prog sorted_Map_int_int_Back.id [.pointer (some m)] H Q := vFn_of Try.mixed Try.func16 (sorted_Map_int_int_Back.eq J0 m H Q) h

/-! 17: (*tephra/sorted.Map_int, int_).From -/
noncomputable def sorted_Map_int_int_From.cf : Cfg := ⟨[1000003], [], [], [], true⟩
noncomputable def sorted_Map_int_int_From.vc (J : Jn) (m : Addr) (k : Int) (H : Hp) (Q : Value → Hp → Prop) : Prop :=
 
 SCalls Try.prog sorted_Map_int_int_find.id [.pointer (some m), .int .i64 k] H (fun r H1 => ∃ x : Int, ∃ x1 : Bool, r = .tuple #[.int .i64 x, .bool x1] ∧ ∃ items : Sl, Hp.cell? H1 m = some (.slice items.a items.len items.cap) ∧ ((0 : Int) ≤ x ∧ x ≤ ((items.len : Nat) : Int)) ∧ ∀ b : Nat, b = Array.size H1 → ∀ H2 : Hp, H2 = (Array.push H1 (.cells #[.slice none 0 0] T_sorted_Map_int_int)) → WrAt H2 (Addr.mk b 0 none) 1 ∧ ∀ H3 : Hp, H3 = (Hp.setCell H2 (Addr.mk b 0 none) (.slice (cutA items.a items.cap ((x : Int).toNat) 2) (items.len - ((x : Int).toNat)) (items.cap - ((x : Int).toNat)))) → 
 SCalls Try.prog sorted_Map_int_int_All.id [.pointer (some (Addr.mk b 0 none))] H3 (fun r1 H4 => ∃ x2 : Fv, r1 = .func x2.fn x2.fi x2.ca ∧ Q (.func x2.fn x2.fi x2.ca) H4))
theorem sorted_Map_int_int_From.eq (J : Jn) (m : Addr) (k : Int) (H : Hp) (Q : Value → Hp → Prop) : vFn Try.prog sorted_Map_int_int_From.cf J sorted_Map_int_int_From.fn [.pointer (some m), .int .i64 k] H Q = sorted_Map_int_int_From.vc J m k H Q := by kernel_rfl
theorem sorted_Map_int_int_From.calls {m : Addr} {k : Int} {H : Hp} {Q : Value → Hp → Prop} (h : sorted_Map_int_int_From.vc J0 m k H Q) : SCalls Try.prog sorted_Map_int_int_From.id [.pointer (some m), .int .i64 k] H Q := vFn_of Try.mixed Try.func17 (sorted_Map_int_int_From.eq J0 m k H Q) h

/-! 19: (*tephra/sorted.Map_int, int_).Del -/
noncomputable def sorted_Map_int_int_Del.cf : Cfg := ⟨[], [], [], [], true⟩
noncomputable def sorted_Map_int_int_Del.vc (J : Jn) (m : Addr) (k : Int) (H : Hp) (Q : Value → Hp → Prop) : Prop :=
 
 SCalls Try.prog sorted_Map_int_int_find.id [.pointer (some m), .int .i64 k] H (fun r H1 => ∃ x : Int, ∃ x1 : Bool, r = .tuple #[.int .i64 x, .bool x1] ∧ 
 Br x1 (∃ items : Sl, Hp.cell? H1 m = some (.slice items.a items.len items.cap) ∧ 
 SCalls Try.prog slices_Delete_sl_sorted_item_int_int_sorted_item_int_int.id [.slice items.a items.len items.cap, .int .i64 x, .int .i64 (w64 (x + 1))] H1 (fun r1 H2 => ∃ x2 : Sl, r1 = .slice x2.a x2.len x2.cap ∧ WrAt H2 m 1 ∧ Q (.bool x1) (Hp.setCell H2 m (.slice x2.a x2.len x2.cap))))
 (Q (.bool x1) H1))
theorem sorted_Map_int_int_Del.eq (J : Jn) (m : Addr) (k : Int) (H : Hp) (Q : Value → Hp → Prop) : vFn Try.prog sorted_Map_int_int_Del.cf J sorted_Map_int_int_Del.fn [.pointer (some m), .int .i64 k] H Q = sorted_Map_int_int_Del.vc J m k H Q := by kernel_rfl
theorem sorted_Map_int_int_Del.calls {m : Addr} {k : Int} {H : Hp} {Q : Value → Hp → Prop} (h : sorted_Map_int_int_Del.vc J0 m k H Q) : SCalls Try.prog sorted_Map_int_int_Del.id [.pointer (some m), .int .i64 k] H Q := vFn_of Try.mixed Try.func19 (sorted_Map_int_int_Del.eq J0 m k H Q) h

/-! 24: (*tephra/sorted.Map_int, string_).Put -/
noncomputable def sorted_Map_int_string_Put.cf : Cfg := ⟨[], [], [], [], true⟩
noncomputable def sorted_Map_int_string_Put.vc (J : Jn) (m : Addr) (k : Int) (v : ByteArray) (H : Hp) (Q : Value → Hp → Prop) : Prop :=
 
 SCalls Try.prog sorted_Map_int_string_find.id [.pointer (some m), .int .i64 k] H (fun r H1 => ∃ x : Int, ∃ x1 : Bool, r = .tuple #[.int .i64 x, .bool x1] ∧ 
 Br x1 (∃ items : Sl, Hp.cell? H1 m = some (.slice items.a items.len items.cap) ∧ ((0 : Int) ≤ x ∧ x < ((items.len : Nat) : Int)) ∧ vPtr items.a (fun a => WrAt H1 ((a.add ((x : Int).toNat * 2)).add 1) 1 ∧ Q (.bool false) (Hp.setCell H1 ((a.add ((x : Int).toNat * 2)).add 1) (.string v))))
 (∃ items1 : Sl, Hp.cell? H1 m = some (.slice items1.a items1.len items1.cap) ∧ 
 SCalls Try.prog slices_Insert_sl_sorted_item_int_string_sorted_item_int_string.id [.slice items1.a items1.len items1.cap, .int .i64 x, .slice (some (Addr.mk (Array.size H1) 0 none)) 1 1] (Array.push H1 (.cells #[.int .i64 k, .string v] T_sorted_item_int_string)) (fun r1 H2 => ∃ x2 : Sl, r1 = .slice x2.a x2.len x2.cap ∧ WrAt H2 m 1 ∧ Q (.bool true) (Hp.setCell H2 m (.slice x2.a x2.len x2.cap)))))
theorem sorted_Map_int_string_Put.eq (J : Jn) (m : Addr) (k : Int) (v : ByteArray) (H : Hp) (Q : Value → Hp → Prop) : vFn Try.prog sorted_Map_int_string_Put.cf J sorted_Map_int_string_Put.fn [.pointer (some m), .int .i64 k, .string v] H Q = sorted_Map_int_string_Put.vc J m k v H Q := by kernel_rfl
theorem sorted_Map_int_string_Put.calls {m : Addr} {k : Int} {v : ByteArray} {H : Hp} {Q : Value → Hp → Prop} (h : sorted_Map_int_string_Put.vc J0 m k v H Q) : SCalls Try.prog sorted_Map_int_string_Put.id [.pointer (some m), .int .i64 k, .string v] H Q := vFn_of Try.mixed Try.func24 (sorted_Map_int_string_Put.eq J0 m k v H Q) h

/-! 25: (*tephra/sorted.Map_int, string_).Len -/
noncomputable def sorted_Map_int_string_Len.cf : Cfg := ⟨[], [], [], [], true⟩
noncomputable def sorted_Map_int_string_Len.vc (J : Jn) (m : Addr) (H : Hp) (Q : Value → Hp → Prop) : Prop :=
 ∃ items : Sl, Hp.cell? H m = some (.slice items.a items.len items.cap) ∧ Q (.int .i64 ((items.len : Nat) : Int)) H
theorem sorted_Map_int_string_Len.eq (J : Jn) (m : Addr) (H : Hp) (Q : Value → Hp → Prop) : vFn Try.prog sorted_Map_int_string_Len.cf J sorted_Map_int_string_Len.fn [.pointer (some m)] H Q = sorted_Map_int_string_Len.vc J m H Q := by kernel_rfl
theorem sorted_Map_int_string_Len.calls {m : Addr} {H : Hp} {Q : Value → Hp → Prop} (h : sorted_Map_int_string_Len.vc J0 m H Q) : SCalls Try.prog sorted_Map_int_string_Len.id [.pointer (some m)] H Q := vFn_of Try.mixed Try.func25 (sorted_Map_int_string_Len.eq J0 m H Q) h

/-! 26: (*tephra/sorted.Map_int, string_).All -/
noncomputable def sorted_Map_int_string_All.cf : Cfg := ⟨[], [], [], [], true⟩
noncomputable def sorted_Map_int_string_All.vc (J : Jn) (m : Addr) (H : Hp) (Q : Value → Hp → Prop) : Prop :=
 Q (.func (.func 39) #[] #[.pointer (some (Addr.mk (Array.size H) 0 none))]) (Array.push H (.cells #[.pointer (some m)] T_p_sorted_Map_int_string))
theorem sorted_Map_int_string_All.eq (J : Jn) (m : Addr) (H : Hp) (Q : Value → Hp → Prop) : vFn Try.prog sorted_Map_int_string_All.cf J sorted_Map_int_string_All.fn [.pointer (some m)] H Q = sorted_Map_int_string_All.vc J m H Q := by kernel_rfl
theorem sorted_Map_int_string_All.calls {m : Addr} {H : Hp} {Q : Value → Hp → Prop} (h : sorted_Map_int_string_All.vc J0 m H Q) : SCalls Try.prog sorted_Map_int_string_All.id [.pointer (some m)] H Q := vFn_of Try.mixed Try.func26 (sorted_Map_int_string_All.eq J0 m H Q) h

/-! 27: (*tephra/sorted.Map_int, string_).Get -/
noncomputable def sorted_Map_int_string_Get.cf : Cfg := ⟨[], [], [], [], true⟩
noncomputable def sorted_Map_int_string_Get.vc (J : Jn) (m : Addr) (k : Int) (H : Hp) (Q : Value → Hp → Prop) : Prop :=
 
 SCalls Try.prog sorted_Map_int_string_find.id [.pointer (some m), .int .i64 k] H (fun r H1 => ∃ x : Int, ∃ x1 : Bool, r = .tuple #[.int .i64 x, .bool x1] ∧ 
 Br x1 (∃ items : Sl, Hp.cell? H1 m = some (.slice items.a items.len items.cap) ∧ ((0 : Int) ≤ x ∧ x < ((items.len : Nat) : Int)) ∧ vPtr items.a (fun a => ∃ value : ByteArray, Hp.cell? H1 ((a.add ((x : Int).toNat * 2)).add 1) = some (.string value) ∧ Q (.tuple #[.string value, .bool true]) H1))
 (Q (.tuple #[.string (ByteArray.mk #[]), .bool false]) H1))
theorem sorted_Map_int_string_Get.eq (J : Jn) (m : Addr) (k : Int) (H : Hp) (Q : Value → Hp → Prop) : vFn Try.prog sorted_Map_int_string_Get.cf J sorted_Map_int_string_Get.fn [.pointer (some m), .int .i64 k] H Q = sorted_Map_int_string_Get.vc J m k H Q := by kernel_rfl
theorem sorted_Map_int_string_Get.calls {m : Addr} {k : Int} {H : Hp} {Q : Value → Hp → Prop} (h : sorted_Map_int_string_Get.vc J0 m k H Q) : SCalls Try.prog sorted_Map_int_string_Get.id [.pointer (some m), .int .i64 k] H Q := vFn_of Try.mixed Try.func27 (sorted_Map_int_string_Get.eq J0 m k H Q) h

/-! 28: (*tephra/sorted.Map_int, int_).find -/
noncomputable def sorted_Map_int_int_find.cf : Cfg := ⟨[], [], [], [], true⟩
noncomputable def sorted_Map_int_int_find.vc (J : Jn) (m : Addr) (k : Int) (H : Hp) (Q : Value → Hp → Prop) : Prop :=
 ∃ items : Sl, Hp.cell? H m = some (.slice items.a items.len items.cap) ∧ 
 SCalls Try.prog slices_BinarySearchFunc_sl_sorted_item_int_int_sorted_item_int_int_int.id [.slice items.a items.len items.cap, .int .i64 k, .func (.func 41) #[] #[]] H (fun r H1 => ∃ x : Int, ∃ x1 : Bool, r = .tuple #[.int .i64 x, .bool x1] ∧ Q (.tuple #[.int .i64 x, .bool x1]) H1)
theorem sorted_Map_int_int_find.eq (J : Jn) (m : Addr) (k : Int) (H : Hp) (Q : Value → Hp → Prop) : vFn Try.prog sorted_Map_int_int_find.cf J sorted_Map_int_int_find.fn [.pointer (some m), .int .i64 k] H Q = sorted_Map_int_int_find.vc J m k H Q := by kernel_rfl
theorem sorted_Map_int_int_find.calls {m : Addr} {k : Int} {H : Hp} {Q : Value → Hp → Prop} (h : sorted_Map_int_int_find.vc J0 m k H Q) : SCalls Try.prog sorted_Map_int_int_find.id [.pointer (some m), .int .i64 k] H Q := vFn_of Try.mixed Try.func28 (sorted_Map_int_int_find.eq J0 m k H Q) h

/-! 29: slices.Insert___tephra/sorted.item_int, int_,tephra/sorted.item_int, int__ -/
noncomputable def slices_Insert_sl_sorted_item_int_int_sorted_item_int_int.cf : Cfg := ⟨[], [], [], [], true⟩
noncomputable def slices_Insert_sl_sorted_item_int_int_sorted_item_int_int.vc (J : Jn) (s : Sl) (i : Int) (v : Sl) (H : Hp) (Q : Value → Hp → Prop) : Prop :=
 ((0 : Int) ≤ i ∧ i ≤ ((s.len : Nat) : Int)) ∧ 
 Br (((v.len : Nat) : Int) == 0) (Q (.slice s.a s.len s.cap) H)
 (
 Br (i == ((s.len : Nat) : Int)) (
 vApp Try.prog T_sl_sorted_item_int_int s.a s.len s.cap (.slice v.a v.len v.cap) H (fun ap H1 => Q (.slice ap.a ap.len ap.cap) H1))
 (
 Br (decide ((w64 (((s.len : Nat) : Int) + ((v.len : Nat) : Int))) > ((s.cap : Nat) : Int))) (((0 : Int) ≤ i ∧ i ≤ ((s.cap : Nat) : Int)) ∧ 
 vAppZ Try.prog T_sl_sorted_item_int_int (cutA s.a s.cap 0 2) ((i : Int).toNat) s.cap (w64 ((w64 (((s.len : Nat) : Int) + ((v.len : Nat) : Int))) - i)) H (fun ap1 H2 => ((0 : Int) ≤ i ∧ i ≤ ((ap1.len : Nat) : Int)) ∧ 
 vCopy Try.prog T_sl_sorted_item_int_int (cutA ap1.a ap1.cap ((i : Int).toNat) 2) (ap1.len - ((i : Int).toNat)) (.slice v.a v.len v.cap) H2 (fun n H3 => ((0 : Int) ≤ (w64 (i + ((v.len : Nat) : Int))) ∧ (w64 (i + ((v.len : Nat) : Int))) ≤ ((ap1.len : Nat) : Int)) ∧ ((0 : Int) ≤ i ∧ i ≤ ((s.len : Nat) : Int)) ∧ 
 vCopy Try.prog T_sl_sorted_item_int_int (cutA ap1.a ap1.cap (((w64 (i + ((v.len : Nat) : Int))) : Int).toNat) 2) (ap1.len - (((w64 (i + ((v.len : Nat) : Int))) : Int).toNat)) (.slice (cutA s.a s.cap ((i : Int).toNat) 2) (s.len - ((i : Int).toNat)) (s.cap - ((i : Int).toNat))) H3 (fun n1 H4 => Q (.slice ap1.a ap1.len ap1.cap) H4))))
 (((0 : Int) ≤ (w64 (((s.len : Nat) : Int) + ((v.len : Nat) : Int))) ∧ (w64 (((s.len : Nat) : Int) + ((v.len : Nat) : Int))) ≤ ((s.cap : Nat) : Int)) ∧ ((0 : Int) ≤ (w64 (i + ((v.len : Nat) : Int))) ∧ (w64 (i + ((v.len : Nat) : Int))) ≤ (((((w64 (((s.len : Nat) : Int) + ((v.len : Nat) : Int))) : Int).toNat) : Nat) : Int)) ∧ 
 ExtC Try.prog 43 [.slice v.a v.len v.cap, .slice (cutA (cutA s.a s.cap 0 2) s.cap (((w64 (i + ((v.len : Nat) : Int))) : Int).toNat) 2) ((((w64 (((s.len : Nat) : Int) + ((v.len : Nat) : Int))) : Int).toNat) - (((w64 (i + ((v.len : Nat) : Int))) : Int).toNat)) (s.cap - (((w64 (i + ((v.len : Nat) : Int))) : Int).toNat))] H (fun r H5 => ∃ x : Bool, r = .bool x ∧ 
 Br (!x) (((0 : Int) ≤ (w64 (i + ((v.len : Nat) : Int))) ∧ (w64 (i + ((v.len : Nat) : Int))) ≤ (((((w64 (((s.len : Nat) : Int) + ((v.len : Nat) : Int))) : Int).toNat) : Nat) : Int)) ∧ ((0 : Int) ≤ i ∧ i ≤ (((((w64 (((s.len : Nat) : Int) + ((v.len : Nat) : Int))) : Int).toNat) : Nat) : Int)) ∧ 
 vCopy Try.prog T_sl_sorted_item_int_int (cutA (cutA s.a s.cap 0 2) s.cap (((w64 (i + ((v.len : Nat) : Int))) : Int).toNat) 2) ((((w64 (((s.len : Nat) : Int) + ((v.len : Nat) : Int))) : Int).toNat) - (((w64 (i + ((v.len : Nat) : Int))) : Int).toNat)) (.slice (cutA (cutA s.a s.cap 0 2) s.cap ((i : Int).toNat) 2) ((((w64 (((s.len : Nat) : Int) + ((v.len : Nat) : Int))) : Int).toNat) - ((i : Int).toNat)) (s.cap - ((i : Int).toNat))) H5 (fun n2 H6 => ((0 : Int) ≤ i ∧ i ≤ (((((w64 (((s.len : Nat) : Int) + ((v.len : Nat) : Int))) : Int).toNat) : Nat) : Int)) ∧ 
 vCopy Try.prog T_sl_sorted_item_int_int (cutA (cutA s.a s.cap 0 2) s.cap ((i : Int).toNat) 2) ((((w64 (((s.len : Nat) : Int) + ((v.len : Nat) : Int))) : Int).toNat) - ((i : Int).toNat)) (.slice v.a v.len v.cap) H6 (fun n3 H7 => Q (.slice (cutA s.a s.cap 0 2) (((w64 (((s.len : Nat) : Int) + ((v.len : Nat) : Int))) : Int).toNat) s.cap) H7)))
 (((0 : Int) ≤ ((s.len : Nat) : Int) ∧ ((s.len : Nat) : Int) ≤ (((((w64 (((s.len : Nat) : Int) + ((v.len : Nat) : Int))) : Int).toNat) : Nat) : Int)) ∧ 
 vCopy Try.prog T_sl_sorted_item_int_int (cutA (cutA s.a s.cap 0 2) s.cap ((((s.len : Nat) : Int) : Int).toNat) 2) ((((w64 (((s.len : Nat) : Int) + ((v.len : Nat) : Int))) : Int).toNat) - ((((s.len : Nat) : Int) : Int).toNat)) (.slice v.a v.len v.cap) H5 (fun n4 H8 => ((0 : Int) ≤ i ∧ i ≤ (((((w64 (((s.len : Nat) : Int) + ((v.len : Nat) : Int))) : Int).toNat) : Nat) : Int)) ∧ 
 SCalls Try.prog slices_rotateRight_sorted_item_int_int.id [.slice (cutA (cutA s.a s.cap 0 2) s.cap ((i : Int).toNat) 2) ((((w64 (((s.len : Nat) : Int) + ((v.len : Nat) : Int))) : Int).toNat) - ((i : Int).toNat)) (s.cap - ((i : Int).toNat)), .int .i64 ((v.len : Nat) : Int)] H8 (fun r1 H9 => r1 = .tuple #[] ∧ Q (.slice (cutA s.a s.cap 0 2) (((w64 (((s.len : Nat) : Int) + ((v.len : Nat) : Int))) : Int).toNat) s.cap) H9)))))))
theorem slices_Insert_sl_sorted_item_int_int_sorted_item_int_int.eq (J : Jn) (s : Sl) (i : Int) (v : Sl) (H : Hp) (Q : Value → Hp → Prop) : vFn Try.prog slices_Insert_sl_sorted_item_int_int_sorted_item_int_int.cf J slices_Insert_sl_sorted_item_int_int_sorted_item_int_int.fn [.slice s.a s.len s.cap, .int .i64 i, .slice v.a v.len v.cap] H Q = slices_Insert_sl_sorted_item_int_int_sorted_item_int_int.vc J s i v H Q := by kernel_rfl
theorem slices_Insert_sl_sorted_item_int_int_sorted_item_int_int.calls {s : Sl} {i : Int} {v : Sl} {H : Hp} {Q : Value → Hp → Prop} (h : slices_Insert_sl_sorted_item_int_int_sorted_item_int_int.vc J0 s i v H Q) : SCalls Try.prog slices_Insert_sl_sorted_item_int_int_sorted_item_int_int.id [.slice s.a s.len s.cap, .int .i64 i, .slice v.a v.len v.cap] H Q := vFn_of Try.mixed Try.func29 (slices_Insert_sl_sorted_item_int_int_sorted_item_int_int.eq J0 s i v H Q) h

/-! 30: (*tephra/sorted.Map_int, int_).All$1 -/
noncomputable def sorted_Map_int_int_All_1.cf : Cfg := ⟨[4], [(1, [0, 8, 9, 10])], [], [], true⟩
noncomputable def sorted_Map_int_int_All_1.l1.st (yield : Fv) (items : Sl) (H1 : Hp) (x1 : Int) : VS := ⟨mkFr 22 [(0, .v (.func yield.fn yield.fi yield.ca)), (8, .v (.slice items.a items.len items.cap)), (9, .v (.int .i64 ((items.len : Nat) : Int))), (10, .v (.int .i64 x1))], [], H1⟩
noncomputable def sorted_Map_int_int_All_1.l1 (J : Jn) (yield : Fv) (items : Sl) (H1 : Hp) (x1 : Int) (Q : Value → Hp → Prop) : Prop := vAt Try.prog sorted_Map_int_int_All_1.cf J sorted_Map_int_int_All_1.fn [1, 0] [0] Q (sorted_Map_int_int_All_1.l1.st yield items H1 x1)
attribute [irreducible] sorted_Map_int_int_All_1.l1
noncomputable def sorted_Map_int_int_All_1.l1.body (J : Jn) (yield : Fv) (items : Sl) (H1 : Hp) (x1 : Int) (Q : Value → Hp → Prop) : Prop :=
 
 Br (decide (x1 < ((items.len : Nat) : Int))) (((0 : Int) ≤ x1 ∧ x1 < ((items.len : Nat) : Int)) ∧ vPtr items.a (fun a1 => ∃ key : Int, ∃ value : Int, RowAt H1 (a1.add ((x1 : Int).toNat * 2)) [.int .i64 key, .int .i64 value] ∧ 
 vInv Try.prog (.func yield.fn yield.fi yield.ca) [.int .i64 key, .int .i64 value] (holes H1 1) (fun r H2 => ∃ x2 : Bool, r = .bool x2 ∧ 
 Br (!x2) (Q (.tuple #[]) H2)
 (
 sorted_Map_int_int_All_1.l1 J yield items H2 (w64 (x1 + 1)) Q))))
 (Q (.tuple #[]) H1)
theorem sorted_Map_int_int_All_1.l1.eq (J : Jn) (yield : Fv) (items : Sl) (H1 : Hp) (x1 : Int) (Q : Value → Hp → Prop) : vAtBody Try.prog sorted_Map_int_int_All_1.cf J sorted_Map_int_int_All_1.fn [1, 0] [0] Q (sorted_Map_int_int_All_1.l1.st yield items H1 x1) = sorted_Map_int_int_All_1.l1.body J yield items H1 x1 Q := by kernel_rfl
theorem sorted_Map_int_int_All_1.l1.step {yield : Fv} {items : Sl} {H1 : Hp} {x1 : Int} {Q : Value → Hp → Prop} (h : sorted_Map_int_int_All_1.l1.body J0 yield items H1 x1 Q) : sorted_Map_int_int_All_1.l1 J0 yield items H1 x1 Q := vAt_stepC (sorted_Map_int_int_All_1.l1.st yield items H1 x1) (sorted_Map_int_int_All_1.l1.eq J0 yield items H1 x1 Q) (by kernel_rfl) h
noncomputable def sorted_Map_int_int_All_1.vc (J : Jn) (yield : Fv) (cap0 : Addr) (H : Hp) (Q : Value → Hp → Prop) : Prop :=
 ∃ x : Option Addr, Hp.cell? H cap0 = some (.pointer x) ∧ vPtr x (fun a => ∃ items : Sl, Hp.cell? H a = some (.slice items.a items.len items.cap) ∧ 
 sorted_Map_int_int_All_1.l1 J yield items H 0 Q)
theorem sorted_Map_int_int_All_1.eq (J : Jn) (yield : Fv) (cap0 : Addr) (H : Hp) (Q : Value → Hp → Prop) : vFn Try.prog sorted_Map_int_int_All_1.cf J sorted_Map_int_int_All_1.fn [.func yield.fn yield.fi yield.ca, .pointer (some cap0)] H Q = sorted_Map_int_int_All_1.vc J yield cap0 H Q := by kernel_rfl
theorem sorted_Map_int_int_All_1.calls {yield : Fv} {cap0 : Addr} {H : Hp} {Q : Value → Hp → Prop} (h : sorted_Map_int_int_All_1.vc J0 yield cap0 H Q) : SCalls Try.prog sorted_Map_int_int_All_1.id [.func yield.fn yield.fi yield.ca, .pointer (some cap0)] H Q := vFn_of Try.mixed Try.func30 (sorted_Map_int_int_All_1.eq J0 yield cap0 H Q) h

/-! 31: (*tephra/sorted.Map_int, int_).Back$1 -/
noncomputable def sorted_Map_int_int_Back_1.cf : Cfg := ⟨[1000003], [(1, [0, 1, 3])], [], [], true⟩
noncomputable def sorted_Map_int_int_Back_1.l1.st (yield : Fv) (cap0 : Addr) (H1 : Hp) (i : Int) : VS := ⟨mkFr 33 [(0, .v (.func yield.fn yield.fi yield.ca)), (1, .v (.pointer (some cap0))), (3, .v (.int .i64 i))], [], H1⟩
noncomputable def sorted_Map_int_int_Back_1.l1 (J : Jn) (yield : Fv) (cap0 : Addr) (H1 : Hp) (i : Int) (Q : Value → Hp → Prop) : Prop := vAt Try.prog sorted_Map_int_int_Back_1.cf J sorted_Map_int_int_Back_1.fn [1, 0] [0] Q (sorted_Map_int_int_Back_1.l1.st yield cap0 H1 i)
attribute [irreducible] sorted_Map_int_int_Back_1.l1
noncomputable def sorted_Map_int_int_Back_1.l1.body (J : Jn) (yield : Fv) (cap0 : Addr) (H1 : Hp) (i : Int) (Q : Value → Hp → Prop) : Prop :=
 
 Br (decide (i ≥ 0)) (∃ x1 : Option Addr, Hp.cell? H1 cap0 = some (.pointer x1) ∧ vPtr x1 (fun a1 => ∃ items1 : Sl, Hp.cell? H1 a1 = some (.slice items1.a items1.len items1.cap) ∧ ((0 : Int) ≤ i ∧ i < ((items1.len : Nat) : Int)) ∧ vPtr items1.a (fun a2 => ∃ key : Int, Hp.cell? H1 (a2.add ((i : Int).toNat * 2)) = some (.int .i64 key) ∧ ∃ x2 : Option Addr, Hp.cell? H1 cap0 = some (.pointer x2) ∧ vPtr x2 (fun a3 => ∃ items2 : Sl, Hp.cell? H1 a3 = some (.slice items2.a items2.len items2.cap) ∧ ((0 : Int) ≤ i ∧ i < ((items2.len : Nat) : Int)) ∧ vPtr items2.a (fun a4 => ∃ value : Int, Hp.cell? H1 ((a4.add ((i : Int).toNat * 2)).add 1) = some (.int .i64 value) ∧ 
 vInv Try.prog (.func yield.fn yield.fi yield.ca) [.int .i64 key, .int .i64 value] H1 (fun r H2 => ∃ x3 : Bool, r = .bool x3 ∧ 
 Br (!x3) (Q (.tuple #[]) H2)
 (
 sorted_Map_int_int_Back_1.l1 J yield cap0 H2 (w64 (i - 1)) Q)))))))
 (Q (.tuple #[]) H1)
theorem sorted_Map_int_int_Back_1.l1.eq (J : Jn) (yield : Fv) (cap0 : Addr) (H1 : Hp) (i : Int) (Q : Value → Hp → Prop) : vAtBody Try.prog sorted_Map_int_int_Back_1.cf J sorted_Map_int_int_Back_1.fn [1, 0] [0] Q (sorted_Map_int_int_Back_1.l1.st yield cap0 H1 i) = sorted_Map_int_int_Back_1.l1.body J yield cap0 H1 i Q := by kernel_rfl
theorem sorted_Map_int_int_Back_1.l1.step {yield : Fv} {cap0 : Addr} {H1 : Hp} {i : Int} {Q : Value → Hp → Prop} (h : sorted_Map_int_int_Back_1.l1.body J0 yield cap0 H1 i Q) : sorted_Map_int_int_Back_1.l1 J0 yield cap0 H1 i Q := vAt_stepC (sorted_Map_int_int_Back_1.l1.st yield cap0 H1 i) (sorted_Map_int_int_Back_1.l1.eq J0 yield cap0 H1 i Q) (by kernel_rfl) h
noncomputable def sorted_Map_int_int_Back_1.vc (J : Jn) (yield : Fv) (cap0 : Addr) (H : Hp) (Q : Value → Hp → Prop) : Prop :=
 ∃ x : Option Addr, Hp.cell? H cap0 = some (.pointer x) ∧ vPtr x (fun a => ∃ items : Sl, Hp.cell? H a = some (.slice items.a items.len items.cap) ∧ 
 sorted_Map_int_int_Back_1.l1 J yield cap0 H (w64 (((items.len : Nat) : Int) - 1)) Q)
theorem sorted_Map_int_int_Back_1.eq (J : Jn) (yield : Fv) (cap0 : Addr) (H : Hp) (Q : Value → Hp → Prop) : vFn Try.prog sorted_Map_int_int_Back_1.cf J sorted_Map_int_int_Back_1.fn [.func yield.fn yield.fi yield.ca, .pointer (some cap0)] H Q = sorted_Map_int_int_Back_1.vc J yield cap0 H Q := by kernel_rfl
theorem sorted_Map_int_int_Back_1.calls {yield : Fv} {cap0 : Addr} {H : Hp} {Q : Value → Hp → Prop} (h : sorted_Map_int_int_Back_1.vc J0 yield cap0 H Q) : SCalls Try.prog sorted_Map_int_int_Back_1.id [.func yield.fn yield.fi yield.ca, .pointer (some cap0)] H Q := vFn_of Try.mixed Try.func31 (sorted_Map_int_int_Back_1.eq J0 yield cap0 H Q) h

/-! 33: slices.Delete___tephra/sorted.item_int, int_,tephra/sorted.item_int, int__ -/
noncomputable def slices_Delete_sl_sorted_item_int_int_sorted_item_int_int.cf : Cfg := ⟨[], [], [], [], true⟩
noncomputable def slices_Delete_sl_sorted_item_int_int_sorted_item_int_int.vc (J : Jn) (s : Sl) (i : Int) (j : Int) (H : Hp) (Q : Value → Hp → Prop) : Prop :=
 ((0 : Int) ≤ ((s.len : Nat) : Int) ∧ ((s.len : Nat) : Int) ≤ ((s.cap : Nat) : Int)) ∧ ((0 : Int) ≤ j ∧ j ≤ ((((((s.len : Nat) : Int) : Int).toNat) : Nat) : Int)) ∧ ((0 : Int) ≤ i ∧ i ≤ ((((j : Int).toNat) : Nat) : Int)) ∧ 
 Br (i == j) (Q (.slice s.a s.len s.cap) H)
 (((0 : Int) ≤ i ∧ i ≤ ((s.cap : Nat) : Int)) ∧ ((0 : Int) ≤ j ∧ j ≤ ((s.len : Nat) : Int)) ∧ 
 vApp Try.prog T_sl_sorted_item_int_int (cutA s.a s.cap 0 2) ((i : Int).toNat) s.cap (.slice (cutA s.a s.cap ((j : Int).toNat) 2) (s.len - ((j : Int).toNat)) (s.cap - ((j : Int).toNat))) H (fun ap H1 => ((0 : Int) ≤ ((s.len : Nat) : Int) ∧ ((s.len : Nat) : Int) ≤ ((ap.cap : Nat) : Int)) ∧ ((0 : Int) ≤ ((ap.len : Nat) : Int) ∧ ((ap.len : Nat) : Int) ≤ ((((((s.len : Nat) : Int) : Int).toNat) : Nat) : Int)) ∧ 
 vClear Try.prog T_sl_sorted_item_int_int (cutA ap.a ap.cap ((((ap.len : Nat) : Int) : Int).toNat) 2) (((((s.len : Nat) : Int) : Int).toNat) - ((((ap.len : Nat) : Int) : Int).toNat)) H1 (fun H2 => Q (.slice ap.a ap.len ap.cap) H2)))
theorem slices_Delete_sl_sorted_item_int_int_sorted_item_int_int.eq (J : Jn) (s : Sl) (i : Int) (j : Int) (H : Hp) (Q : Value → Hp → Prop) : vFn Try.prog slices_Delete_sl_sorted_item_int_int_sorted_item_int_int.cf J slices_Delete_sl_sorted_item_int_int_sorted_item_int_int.fn [.slice s.a s.len s.cap, .int .i64 i, .int .i64 j] H Q = slices_Delete_sl_sorted_item_int_int_sorted_item_int_int.vc J s i j H Q := by kernel_rfl
theorem slices_Delete_sl_sorted_item_int_int_sorted_item_int_int.calls {s : Sl} {i : Int} {j : Int} {H : Hp} {Q : Value → Hp → Prop} (h : slices_Delete_sl_sorted_item_int_int_sorted_item_int_int.vc J0 s i j H Q) : SCalls Try.prog slices_Delete_sl_sorted_item_int_int_sorted_item_int_int.id [.slice s.a s.len s.cap, .int .i64 i, .int .i64 j] H Q := vFn_of Try.mixed Try.func33 (slices_Delete_sl_sorted_item_int_int_sorted_item_int_int.eq J0 s i j H Q) h

/-! 37: (*tephra/sorted.Map_int, string_).find -/
noncomputable def sorted_Map_int_string_find.cf : Cfg := ⟨[], [], [], [], true⟩
noncomputable def sorted_Map_int_string_find.vc (J : Jn) (m : Addr) (k : Int) (H : Hp) (Q : Value → Hp → Prop) : Prop :=
 ∃ items : Sl, Hp.cell? H m = some (.slice items.a items.len items.cap) ∧ 
 SCalls Try.prog slices_BinarySearchFunc_sl_sorted_item_int_string_sorted_item_int_string_int.id [.slice items.a items.len items.cap, .int .i64 k, .func (.func 51) #[] #[]] H (fun r H1 => ∃ x : Int, ∃ x1 : Bool, r = .tuple #[.int .i64 x, .bool x1] ∧ Q (.tuple #[.int .i64 x, .bool x1]) H1)
theorem sorted_Map_int_string_find.eq (J : Jn) (m : Addr) (k : Int) (H : Hp) (Q : Value → Hp → Prop) : vFn Try.prog sorted_Map_int_string_find.cf J sorted_Map_int_string_find.fn [.pointer (some m), .int .i64 k] H Q = sorted_Map_int_string_find.vc J m k H Q := by kernel_rfl
theorem sorted_Map_int_string_find.calls {m : Addr} {k : Int} {H : Hp} {Q : Value → Hp → Prop} (h : sorted_Map_int_string_find.vc J0 m k H Q) : SCalls Try.prog sorted_Map_int_string_find.id [.pointer (some m), .int .i64 k] H Q := vFn_of Try.mixed Try.func37 (sorted_Map_int_string_find.eq J0 m k H Q) h

/-! 38: slices.Insert___tephra/sorted.item_int, string_,tephra/sorted.item_int, string__ -/
noncomputable def slices_Insert_sl_sorted_item_int_string_sorted_item_int_string.cf : Cfg := ⟨[], [], [], [], true⟩
noncomputable def slices_Insert_sl_sorted_item_int_string_sorted_item_int_string.vc (J : Jn) (s : Sl) (i : Int) (v : Sl) (H : Hp) (Q : Value → Hp → Prop) : Prop :=
 ((0 : Int) ≤ i ∧ i ≤ ((s.len : Nat) : Int)) ∧ 
 Br (((v.len : Nat) : Int) == 0) (Q (.slice s.a s.len s.cap) H)
 (
 Br (i == ((s.len : Nat) : Int)) (
 vApp Try.prog T_sl_sorted_item_int_string s.a s.len s.cap (.slice v.a v.len v.cap) H (fun ap H1 => Q (.slice ap.a ap.len ap.cap) H1))
 (
 Br (decide ((w64 (((s.len : Nat) : Int) + ((v.len : Nat) : Int))) > ((s.cap : Nat) : Int))) (((0 : Int) ≤ i ∧ i ≤ ((s.cap : Nat) : Int)) ∧ 
 vAppZ Try.prog T_sl_sorted_item_int_string (cutA s.a s.cap 0 2) ((i : Int).toNat) s.cap (w64 ((w64 (((s.len : Nat) : Int) + ((v.len : Nat) : Int))) - i)) H (fun ap1 H2 => ((0 : Int) ≤ i ∧ i ≤ ((ap1.len : Nat) : Int)) ∧ 
 vCopy Try.prog T_sl_sorted_item_int_string (cutA ap1.a ap1.cap ((i : Int).toNat) 2) (ap1.len - ((i : Int).toNat)) (.slice v.a v.len v.cap) H2 (fun n H3 => ((0 : Int) ≤ (w64 (i + ((v.len : Nat) : Int))) ∧ (w64 (i + ((v.len : Nat) : Int))) ≤ ((ap1.len : Nat) : Int)) ∧ ((0 : Int) ≤ i ∧ i ≤ ((s.len : Nat) : Int)) ∧ 
 vCopy Try.prog T_sl_sorted_item_int_string (cutA ap1.a ap1.cap (((w64 (i + ((v.len : Nat) : Int))) : Int).toNat) 2) (ap1.len - (((w64 (i + ((v.len : Nat) : Int))) : Int).toNat)) (.slice (cutA s.a s.cap ((i : Int).toNat) 2) (s.len - ((i : Int).toNat)) (s.cap - ((i : Int).toNat))) H3 (fun n1 H4 => Q (.slice ap1.a ap1.len ap1.cap) H4))))
 (((0 : Int) ≤ (w64 (((s.len : Nat) : Int) + ((v.len : Nat) : Int))) ∧ (w64 (((s.len : Nat) : Int) + ((v.len : Nat) : Int))) ≤ ((s.cap : Nat) : Int)) ∧ ((0 : Int) ≤ (w64 (i + ((v.len : Nat) : Int))) ∧ (w64 (i + ((v.len : Nat) : Int))) ≤ (((((w64 (((s.len : Nat) : Int) + ((v.len : Nat) : Int))) : Int).toNat) : Nat) : Int)) ∧ 
 ExtC Try.prog 52 [.slice v.a v.len v.cap, .slice (cutA (cutA s.a s.cap 0 2) s.cap (((w64 (i + ((v.len : Nat) : Int))) : Int).toNat) 2) ((((w64 (((s.len : Nat) : Int) + ((v.len : Nat) : Int))) : Int).toNat) - (((w64 (i + ((v.len : Nat) : Int))) : Int).toNat)) (s.cap - (((w64 (i + ((v.len : Nat) : Int))) : Int).toNat))] H (fun r H5 => ∃ x : Bool, r = .bool x ∧ 
 Br (!x) (((0 : Int) ≤ (w64 (i + ((v.len : Nat) : Int))) ∧ (w64 (i + ((v.len : Nat) : Int))) ≤ (((((w64 (((s.len : Nat) : Int) + ((v.len : Nat) : Int))) : Int).toNat) : Nat) : Int)) ∧ ((0 : Int) ≤ i ∧ i ≤ (((((w64 (((s.len : Nat) : Int) + ((v.len : Nat) : Int))) : Int).toNat) : Nat) : Int)) ∧ 
 vCopy Try.prog T_sl_sorted_item_int_string (cutA (cutA s.a s.cap 0 2) s.cap (((w64 (i + ((v.len : Nat) : Int))) : Int).toNat) 2) ((((w64 (((s.len : Nat) : Int) + ((v.len : Nat) : Int))) : Int).toNat) - (((w64 (i + ((v.len : Nat) : Int))) : Int).toNat)) (.slice (cutA (cutA s.a s.cap 0 2) s.cap ((i : Int).toNat) 2) ((((w64 (((s.len : Nat) : Int) + ((v.len : Nat) : Int))) : Int).toNat) - ((i : Int).toNat)) (s.cap - ((i : Int).toNat))) H5 (fun n2 H6 => ((0 : Int) ≤ i ∧ i ≤ (((((w64 (((s.len : Nat) : Int) + ((v.len : Nat) : Int))) : Int).toNat) : Nat) : Int)) ∧ 
 vCopy Try.prog T_sl_sorted_item_int_string (cutA (cutA s.a s.cap 0 2) s.cap ((i : Int).toNat) 2) ((((w64 (((s.len : Nat) : Int) + ((v.len : Nat) : Int))) : Int).toNat) - ((i : Int).toNat)) (.slice v.a v.len v.cap) H6 (fun n3 H7 => Q (.slice (cutA s.a s.cap 0 2) (((w64 (((s.len : Nat) : Int) + ((v.len : Nat) : Int))) : Int).toNat) s.cap) H7)))
 (((0 : Int) ≤ ((s.len : Nat) : Int) ∧ ((s.len : Nat) : Int) ≤ (((((w64 (((s.len : Nat) : Int) + ((v.len : Nat) : Int))) : Int).toNat) : Nat) : Int)) ∧ 
 vCopy Try.prog T_sl_sorted_item_int_string (cutA (cutA s.a s.cap 0 2) s.cap ((((s.len : Nat) : Int) : Int).toNat) 2) ((((w64 (((s.len : Nat) : Int) + ((v.len : Nat) : Int))) : Int).toNat) - ((((s.len : Nat) : Int) : Int).toNat)) (.slice v.a v.len v.cap) H5 (fun n4 H8 => ((0 : Int) ≤ i ∧ i ≤ (((((w64 (((s.len : Nat) : Int) + ((v.len : Nat) : Int))) : Int).toNat) : Nat) : Int)) ∧ 
 SCalls Try.prog slices_rotateRight_sorted_item_int_string.id [.slice (cutA (cutA s.a s.cap 0 2) s.cap ((i : Int).toNat) 2) ((((w64 (((s.len : Nat) : Int) + ((v.len : Nat) : Int))) : Int).toNat) - ((i : Int).toNat)) (s.cap - ((i : Int).toNat)), .int .i64 ((v.len : Nat) : Int)] H8 (fun r1 H9 => r1 = .tuple #[] ∧ Q (.slice (cutA s.a s.cap 0 2) (((w64 (((s.len : Nat) : Int) + ((v.len : Nat) : Int))) : Int).toNat) s.cap) H9)))))))
theorem slices_Insert_sl_sorted_item_int_string_sorted_item_int_string.eq (J : Jn) (s : Sl) (i : Int) (v : Sl) (H : Hp) (Q : Value → Hp → Prop) : vFn Try.prog slices_Insert_sl_sorted_item_int_string_sorted_item_int_string.cf J slices_Insert_sl_sorted_item_int_string_sorted_item_int_string.fn [.slice s.a s.len s.cap, .int .i64 i, .slice v.a v.len v.cap] H Q = slices_Insert_sl_sorted_item_int_string_sorted_item_int_string.vc J s i v H Q := by kernel_rfl
theorem slices_Insert_sl_sorted_item_int_string_sorted_item_int_string.calls {s : Sl} {i : Int} {v : Sl} {H : Hp} {Q : Value → Hp → Prop} (h : slices_Insert_sl_sorted_item_int_string_sorted_item_int_string.vc J0 s i v H Q) : SCalls Try.prog slices_Insert_sl_sorted_item_int_string_sorted_item_int_string.id [.slice s.a s.len s.cap, .int .i64 i, .slice v.a v.len v.cap] H Q := vFn_of Try.mixed Try.func38 (slices_Insert_sl_sorted_item_int_string_sorted_item_int_string.eq J0 s i v H Q) h

/-! 39: (*tephra/sorted.Map_int, string_).All$1 -/
noncomputable def sorted_Map_int_string_All_1.cf : Cfg := ⟨[4], [(1, [0, 8, 9, 10])], [], [], true⟩
noncomputable def sorted_Map_int_string_All_1.l1.st (yield : Fv) (items : Sl) (H1 : Hp) (x1 : Int) : VS := ⟨mkFr 22 [(0, .v (.func yield.fn yield.fi yield.ca)), (8, .v (.slice items.a items.len items.cap)), (9, .v (.int .i64 ((items.len : Nat) : Int))), (10, .v (.int .i64 x1))], [], H1⟩
noncomputable def sorted_Map_int_string_All_1.l1 (J : Jn) (yield : Fv) (items : Sl) (H1 : Hp) (x1 : Int) (Q : Value → Hp → Prop) : Prop := vAt Try.prog sorted_Map_int_string_All_1.cf J sorted_Map_int_string_All_1.fn [1, 0] [0] Q (sorted_Map_int_string_All_1.l1.st yield items H1 x1)
attribute [irreducible] sorted_Map_int_string_All_1.l1
noncomputable def sorted_Map_int_string_All_1.l1.body (J : Jn) (yield : Fv) (items : Sl) (H1 : Hp) (x1 : Int) (Q : Value → Hp → Prop) : Prop :=
 
 Br (decide (x1 < ((items.len : Nat) : Int))) (((0 : Int) ≤ x1 ∧ x1 < ((items.len : Nat) : Int)) ∧ vPtr items.a (fun a1 => ∃ key : Int, ∃ value : ByteArray, RowAt H1 (a1.add ((x1 : Int).toNat * 2)) [.int .i64 key, .string value] ∧ 
 vInv Try.prog (.func yield.fn yield.fi yield.ca) [.int .i64 key, .string value] (holes H1 1) (fun r H2 => ∃ x2 : Bool, r = .bool x2 ∧ 
 Br (!x2) (Q (.tuple #[]) H2)
 (
 sorted_Map_int_string_All_1.l1 J yield items H2 (w64 (x1 + 1)) Q))))
 (Q (.tuple #[]) H1)
theorem sorted_Map_int_string_All_1.l1.eq (J : Jn) (yield : Fv) (items : Sl) (H1 : Hp) (x1 : Int) (Q : Value → Hp → Prop) : vAtBody Try.prog sorted_Map_int_string_All_1.cf J sorted_Map_int_string_All_1.fn [1, 0] [0] Q (sorted_Map_int_string_All_1.l1.st yield items H1 x1) = sorted_Map_int_string_All_1.l1.body J yield items H1 x1 Q := by kernel_rfl
theorem sorted_Map_int_string_All_1.l1.step {yield : Fv} {items : Sl} {H1 : Hp} {x1 : Int} {Q : Value → Hp → Prop} (h : sorted_Map_int_string_All_1.l1.body J0 yield items H1 x1 Q) : sorted_Map_int_string_All_1.l1 J0 yield items H1 x1 Q := vAt_stepC (sorted_Map_int_string_All_1.l1.st yield items H1 x1) (sorted_Map_int_string_All_1.l1.eq J0 yield items H1 x1 Q) (by kernel_rfl) h
noncomputable def sorted_Map_int_string_All_1.vc (J : Jn) (yield : Fv) (cap0 : Addr) (H : Hp) (Q : Value → Hp → Prop) : Prop :=
 ∃ x : Option Addr, Hp.cell? H cap0 = some (.pointer x) ∧ vPtr x (fun a => ∃ items : Sl, Hp.cell? H a = some (.slice items.a items.len items.cap) ∧ 
 sorted_Map_int_string_All_1.l1 J yield items H 0 Q)
theorem sorted_Map_int_string_All_1.eq (J : Jn) (yield : Fv) (cap0 : Addr) (H : Hp) (Q : Value → Hp → Prop) : vFn Try.prog sorted_Map_int_string_All_1.cf J sorted_Map_int_string_All_1.fn [.func yield.fn yield.fi yield.ca, .pointer (some cap0)] H Q = sorted_Map_int_string_All_1.vc J yield cap0 H Q := by kernel_rfl
theorem sorted_Map_int_string_All_1.calls {yield : Fv} {cap0 : Addr} {H : Hp} {Q : Value → Hp → Prop} (h : sorted_Map_int_string_All_1.vc J0 yield cap0 H Q) : SCalls Try.prog sorted_Map_int_string_All_1.id [.func yield.fn yield.fi yield.ca, .pointer (some cap0)] H Q := vFn_of Try.mixed Try.func39 (sorted_Map_int_string_All_1.eq J0 yield cap0 H Q) h

/-! 40: slices.BinarySearchFunc___tephra/sorted.item_int, int_,tephra/sorted.item_int, int_,int_ -/
noncomputable def slices_BinarySearchFunc_sl_sorted_item_int_int_sorted_item_int_int_int.cf : Cfg := ⟨[], [(3, [0, 1, 2, 8, 9, 10])], [], [], true⟩
noncomputable def slices_BinarySearchFunc_sl_sorted_item_int_int_sorted_item_int_int_int.l1.st (x : Sl) (target : Int) (cmp : Fv) (H1 : Hp) (i : Int) (j : Int) : VS := ⟨mkFr 49 [(0, .v (.slice x.a x.len x.cap)), (1, .v (.int .i64 target)), (2, .v (.func cmp.fn cmp.fi cmp.ca)), (8, .v (.int .i64 ((x.len : Nat) : Int))), (9, .v (.int .i64 i)), (10, .v (.int .i64 j))], [], H1⟩
noncomputable def slices_BinarySearchFunc_sl_sorted_item_int_int_sorted_item_int_int_int.l1 (J : Jn) (x : Sl) (target : Int) (cmp : Fv) (H1 : Hp) (i : Int) (j : Int) (Q : Value → Hp → Prop) : Prop := vAt Try.prog slices_BinarySearchFunc_sl_sorted_item_int_int_sorted_item_int_int_int.cf J slices_BinarySearchFunc_sl_sorted_item_int_int_sorted_item_int_int_int.fn [1, 1, 1, 0, 0] [0, 0, 0, 0] Q (slices_BinarySearchFunc_sl_sorted_item_int_int_sorted_item_int_int_int.l1.st x target cmp H1 i j)
attribute [irreducible] slices_BinarySearchFunc_sl_sorted_item_int_int_sorted_item_int_int_int.l1
noncomputable def slices_BinarySearchFunc_sl_sorted_item_int_int_sorted_item_int_int_int.l1.body (J : Jn) (x : Sl) (target : Int) (cmp : Fv) (H1 : Hp) (i : Int) (j : Int) (Q : Value → Hp → Prop) : Prop :=
 
 Br (decide (i < j)) ((0 : Int) ≤ 1 ∧ ((0 : Int) ≤ (w64 ((Int.fdiv (IntKind.u64.wrap ((w64 (i + j)))) (2 ^ 1)))) ∧ (w64 ((Int.fdiv (IntKind.u64.wrap ((w64 (i + j)))) (2 ^ 1)))) < ((x.len : Nat) : Int)) ∧ vPtr x.a (fun a => ∃ key : Int, ∃ value : Int, RowAt H1 (a.add (((w64 ((Int.fdiv (IntKind.u64.wrap ((w64 (i + j)))) (2 ^ 1)))) : Int).toNat * 2)) [.int .i64 key, .int .i64 value] ∧ 
 vInv Try.prog (.func cmp.fn cmp.fi cmp.ca) [.agg #[.int .i64 key, .int .i64 value], .int .i64 target] H1 (fun r H2 => ∃ x1 : Int, r = .int .i64 x1 ∧ 
 Br (decide (x1 < 0)) (
 slices_BinarySearchFunc_sl_sorted_item_int_int_sorted_item_int_int_int.l1 J x target cmp H2 (w64 ((w64 ((Int.fdiv (IntKind.u64.wrap ((w64 (i + j)))) (2 ^ 1)))) + 1)) j Q)
 (
 slices_BinarySearchFunc_sl_sorted_item_int_int_sorted_item_int_int_int.l1 J x target cmp H2 i (w64 ((Int.fdiv (IntKind.u64.wrap ((w64 (i + j)))) (2 ^ 1)))) Q))))
 (
 Br (decide (i < ((x.len : Nat) : Int))) (((0 : Int) ≤ i ∧ i < ((x.len : Nat) : Int)) ∧ vPtr x.a (fun a1 => ∃ key1 : Int, ∃ value1 : Int, RowAt H1 (a1.add ((i : Int).toNat * 2)) [.int .i64 key1, .int .i64 value1] ∧ 
 vInv Try.prog (.func cmp.fn cmp.fi cmp.ca) [.agg #[.int .i64 key1, .int .i64 value1], .int .i64 target] H1 (fun r1 H3 => ∃ x2 : Int, r1 = .int .i64 x2 ∧ Q (.tuple #[.int .i64 i, .bool (x2 == 0)]) H3)))
 (Q (.tuple #[.int .i64 i, .bool false]) H1))
theorem slices_BinarySearchFunc_sl_sorted_item_int_int_sorted_item_int_int_int.l1.eq (J : Jn) (x : Sl) (target : Int) (cmp : Fv) (H1 : Hp) (i : Int) (j : Int) (Q : Value → Hp → Prop) : vAtBody Try.prog slices_BinarySearchFunc_sl_sorted_item_int_int_sorted_item_int_int_int.cf J slices_BinarySearchFunc_sl_sorted_item_int_int_sorted_item_int_int_int.fn [1, 1, 1, 0, 0] [0, 0, 0, 0] Q (slices_BinarySearchFunc_sl_sorted_item_int_int_sorted_item_int_int_int.l1.st x target cmp H1 i j) = slices_BinarySearchFunc_sl_sorted_item_int_int_sorted_item_int_int_int.l1.body J x target cmp H1 i j Q := by kernel_rfl
theorem slices_BinarySearchFunc_sl_sorted_item_int_int_sorted_item_int_int_int.l1.step {x : Sl} {target : Int} {cmp : Fv} {H1 : Hp} {i : Int} {j : Int} {Q : Value → Hp → Prop} (h : slices_BinarySearchFunc_sl_sorted_item_int_int_sorted_item_int_int_int.l1.body J0 x target cmp H1 i j Q) : slices_BinarySearchFunc_sl_sorted_item_int_int_sorted_item_int_int_int.l1 J0 x target cmp H1 i j Q := vAt_stepC (slices_BinarySearchFunc_sl_sorted_item_int_int_sorted_item_int_int_int.l1.st x target cmp H1 i j) (slices_BinarySearchFunc_sl_sorted_item_int_int_sorted_item_int_int_int.l1.eq J0 x target cmp H1 i j Q) (by kernel_rfl) h
noncomputable def slices_BinarySearchFunc_sl_sorted_item_int_int_sorted_item_int_int_int.vc (J : Jn) (x : Sl) (target : Int) (cmp : Fv) (H : Hp) (Q : Value → Hp → Prop) : Prop :=
 
 slices_BinarySearchFunc_sl_sorted_item_int_int_sorted_item_int_int_int.l1 J x target cmp H 0 ((x.len : Nat) : Int) Q
theorem slices_BinarySearchFunc_sl_sorted_item_int_int_sorted_item_int_int_int.eq (J : Jn) (x : Sl) (target : Int) (cmp : Fv) (H : Hp) (Q : Value → Hp → Prop) : vFn Try.prog slices_BinarySearchFunc_sl_sorted_item_int_int_sorted_item_int_int_int.cf J slices_BinarySearchFunc_sl_sorted_item_int_int_sorted_item_int_int_int.fn [.slice x.a x.len x.cap, .int .i64 target, .func cmp.fn cmp.fi cmp.ca] H Q = slices_BinarySearchFunc_sl_sorted_item_int_int_sorted_item_int_int_int.vc J x target cmp H Q := by kernel_rfl
theorem slices_BinarySearchFunc_sl_sorted_item_int_int_sorted_item_int_int_int.calls {x : Sl} {target : Int} {cmp : Fv} {H : Hp} {Q : Value → Hp → Prop} (h : slices_BinarySearchFunc_sl_sorted_item_int_int_sorted_item_int_int_int.vc J0 x target cmp H Q) : SCalls Try.prog slices_BinarySearchFunc_sl_sorted_item_int_int_sorted_item_int_int_int.id [.slice x.a x.len x.cap, .int .i64 target, .func cmp.fn cmp.fi cmp.ca] H Q := vFn_of Try.mixed Try.func40 (slices_BinarySearchFunc_sl_sorted_item_int_int_sorted_item_int_int_int.eq J0 x target cmp H Q) h

/-! 41: (*tephra/sorted.Map_int, int_).find$1 -/
noncomputable def sorted_Map_int_int_find_1.cf : Cfg := ⟨[2], [], [], [], true⟩
noncomputable def sorted_Map_int_int_find_1.vc (J : Jn) (xkey : Int) (xvalue : Int) (k : Int) (H : Hp) (Q : Value → Hp → Prop) : Prop :=
 
 SCalls Try.prog cmp_Compare_int.id [.int .i64 xkey, .int .i64 k] (holes H 1) (fun r H1 => ∃ x : Int, r = .int .i64 x ∧ Q (.int .i64 x) H1)
theorem sorted_Map_int_int_find_1.eq (J : Jn) (xkey : Int) (xvalue : Int) (k : Int) (H : Hp) (Q : Value → Hp → Prop) : vFn Try.prog sorted_Map_int_int_find_1.cf J sorted_Map_int_int_find_1.fn [.agg #[.int .i64 xkey, .int .i64 xvalue], .int .i64 k] H Q = sorted_Map_int_int_find_1.vc J xkey xvalue k H Q := by kernel_rfl
theorem sorted_Map_int_int_find_1.calls {xkey : Int} {xvalue : Int} {k : Int} {H : Hp} {Q : Value → Hp → Prop} (h : sorted_Map_int_int_find_1.vc J0 xkey xvalue k H Q) : SCalls Try.prog sorted_Map_int_int_find_1.id [.agg #[.int .i64 xkey, .int .i64 xvalue], .int .i64 k] H Q := vFn_of Try.mixed Try.func41 (sorted_Map_int_int_find_1.eq J0 xkey xvalue k H Q) h

/-! 42: cmp.Compare_int_ -/
noncomputable def cmp_Compare_int.cf : Cfg := ⟨[], [], [], [], true⟩
noncomputable def cmp_Compare_int.vc (J : Jn) (x : Int) (y : Int) (H : Hp) (Q : Value → Hp → Prop) : Prop :=
 
 SCalls Try.prog cmp_isNaN_int.id [.int .i64 x] H (fun r H1 => ∃ x1 : Bool, r = .bool x1 ∧ 
 SCalls Try.prog cmp_isNaN_int.id [.int .i64 y] H1 (fun r1 H2 => ∃ x2 : Bool, r1 = .bool x2 ∧ 
 Br x1 (
 Br x2 (Q (.int .i64 0) H2)
 (Q (.int .i64 (-1)) H2))
 (
 Br x2 (Q (.int .i64 1) H2)
 (
 Br (decide (x < y)) (Q (.int .i64 (-1)) H2)
 (
 Br (decide (x > y)) (Q (.int .i64 1) H2)
 (Q (.int .i64 0) H2))))))
theorem cmp_Compare_int.eq (J : Jn) (x : Int) (y : Int) (H : Hp) (Q : Value → Hp → Prop) : vFn Try.prog cmp_Compare_int.cf J cmp_Compare_int.fn [.int .i64 x, .int .i64 y] H Q = cmp_Compare_int.vc J x y H Q := by kernel_rfl
theorem cmp_Compare_int.calls {x : Int} {y : Int} {H : Hp} {Q : Value → Hp → Prop} (h : cmp_Compare_int.vc J0 x y H Q) : SCalls Try.prog cmp_Compare_int.id [.int .i64 x, .int .i64 y] H Q := vFn_of Try.mixed Try.func42 (cmp_Compare_int.eq J0 x y H Q) h

/-! 44: slices.rotateRight_tephra/sorted.item_int, int__ -/
noncomputable def slices_rotateRight_sorted_item_int_int.cf : Cfg := ⟨[], [], [], [], true⟩
noncomputable def slices_rotateRight_sorted_item_int_int.vc (J : Jn) (s : Sl) (r : Int) (H : Hp) (Q : Value → Hp → Prop) : Prop :=
 
 SCalls Try.prog slices_rotateLeft_sorted_item_int_int.id [.slice s.a s.len s.cap, .int .i64 (w64 (((s.len : Nat) : Int) - r))] H (fun r1 H1 => r1 = .tuple #[] ∧ Q (.tuple #[]) H1)
theorem slices_rotateRight_sorted_item_int_int.eq (J : Jn) (s : Sl) (r : Int) (H : Hp) (Q : Value → Hp → Prop) : vFn Try.prog slices_rotateRight_sorted_item_int_int.cf J slices_rotateRight_sorted_item_int_int.fn [.slice s.a s.len s.cap, .int .i64 r] H Q = slices_rotateRight_sorted_item_int_int.vc J s r H Q := by kernel_rfl
theorem slices_rotateRight_sorted_item_int_int.calls {s : Sl} {r : Int} {H : Hp} {Q : Value → Hp → Prop} (h : slices_rotateRight_sorted_item_int_int.vc J0 s r H Q) : SCalls Try.prog slices_rotateRight_sorted_item_int_int.id [.slice s.a s.len s.cap, .int .i64 r] H Q := vFn_of Try.mixed Try.func44 (slices_rotateRight_sorted_item_int_int.eq J0 s r H Q) h

/-! 50: slices.BinarySearchFunc___tephra/sorted.item_int, string_,tephra/sorted.item_int, string_,int_ -/
noncomputable def slices_BinarySearchFunc_sl_sorted_item_int_string_sorted_item_int_string_int.cf : Cfg := ⟨[], [(3, [0, 1, 2, 8, 9, 10])], [], [], true⟩
noncomputable def slices_BinarySearchFunc_sl_sorted_item_int_string_sorted_item_int_string_int.l1.st (x : Sl) (target : Int) (cmp : Fv) (H1 : Hp) (i : Int) (j : Int) : VS := ⟨mkFr 49 [(0, .v (.slice x.a x.len x.cap)), (1, .v (.int .i64 target)), (2, .v (.func cmp.fn cmp.fi cmp.ca)), (8, .v (.int .i64 ((x.len : Nat) : Int))), (9, .v (.int .i64 i)), (10, .v (.int .i64 j))], [], H1⟩
noncomputable def slices_BinarySearchFunc_sl_sorted_item_int_string_sorted_item_int_string_int.l1 (J : Jn) (x : Sl) (target : Int) (cmp : Fv) (H1 : Hp) (i : Int) (j : Int) (Q : Value → Hp → Prop) : Prop := vAt Try.prog slices_BinarySearchFunc_sl_sorted_item_int_string_sorted_item_int_string_int.cf J slices_BinarySearchFunc_sl_sorted_item_int_string_sorted_item_int_string_int.fn [1, 1, 1, 0, 0] [0, 0, 0, 0] Q (slices_BinarySearchFunc_sl_sorted_item_int_string_sorted_item_int_string_int.l1.st x target cmp H1 i j)
attribute [irreducible] slices_BinarySearchFunc_sl_sorted_item_int_string_sorted_item_int_string_int.l1
noncomputable def slices_BinarySearchFunc_sl_sorted_item_int_string_sorted_item_int_string_int.l1.body (J : Jn) (x : Sl) (target : Int) (cmp : Fv) (H1 : Hp) (i : Int) (j : Int) (Q : Value → Hp → Prop) : Prop :=
 
 Br (decide (i < j)) ((0 : Int) ≤ 1 ∧ ((0 : Int) ≤ (w64 ((Int.fdiv (IntKind.u64.wrap ((w64 (i + j)))) (2 ^ 1)))) ∧ (w64 ((Int.fdiv (IntKind.u64.wrap ((w64 (i + j)))) (2 ^ 1)))) < ((x.len : Nat) : Int)) ∧ vPtr x.a (fun a => ∃ key : Int, ∃ value : ByteArray, RowAt H1 (a.add (((w64 ((Int.fdiv (IntKind.u64.wrap ((w64 (i + j)))) (2 ^ 1)))) : Int).toNat * 2)) [.int .i64 key, .string value] ∧ 
 vInv Try.prog (.func cmp.fn cmp.fi cmp.ca) [.agg #[.int .i64 key, .string value], .int .i64 target] H1 (fun r H2 => ∃ x1 : Int, r = .int .i64 x1 ∧ 
 Br (decide (x1 < 0)) (
 slices_BinarySearchFunc_sl_sorted_item_int_string_sorted_item_int_string_int.l1 J x target cmp H2 (w64 ((w64 ((Int.fdiv (IntKind.u64.wrap ((w64 (i + j)))) (2 ^ 1)))) + 1)) j Q)
 (
 slices_BinarySearchFunc_sl_sorted_item_int_string_sorted_item_int_string_int.l1 J x target cmp H2 i (w64 ((Int.fdiv (IntKind.u64.wrap ((w64 (i + j)))) (2 ^ 1)))) Q))))
 (
 Br (decide (i < ((x.len : Nat) : Int))) (((0 : Int) ≤ i ∧ i < ((x.len : Nat) : Int)) ∧ vPtr x.a (fun a1 => ∃ key1 : Int, ∃ value1 : ByteArray, RowAt H1 (a1.add ((i : Int).toNat * 2)) [.int .i64 key1, .string value1] ∧ 
 vInv Try.prog (.func cmp.fn cmp.fi cmp.ca) [.agg #[.int .i64 key1, .string value1], .int .i64 target] H1 (fun r1 H3 => ∃ x2 : Int, r1 = .int .i64 x2 ∧ Q (.tuple #[.int .i64 i, .bool (x2 == 0)]) H3)))
 (Q (.tuple #[.int .i64 i, .bool false]) H1))
theorem slices_BinarySearchFunc_sl_sorted_item_int_string_sorted_item_int_string_int.l1.eq (J : Jn) (x : Sl) (target : Int) (cmp : Fv) (H1 : Hp) (i : Int) (j : Int) (Q : Value → Hp → Prop) : vAtBody Try.prog slices_BinarySearchFunc_sl_sorted_item_int_string_sorted_item_int_string_int.cf J slices_BinarySearchFunc_sl_sorted_item_int_string_sorted_item_int_string_int.fn [1, 1, 1, 0, 0] [0, 0, 0, 0] Q (slices_BinarySearchFunc_sl_sorted_item_int_string_sorted_item_int_string_int.l1.st x target cmp H1 i j) = slices_BinarySearchFunc_sl_sorted_item_int_string_sorted_item_int_string_int.l1.body J x target cmp H1 i j Q := by kernel_rfl
theorem slices_BinarySearchFunc_sl_sorted_item_int_string_sorted_item_int_string_int.l1.step {x : Sl} {target : Int} {cmp : Fv} {H1 : Hp} {i : Int} {j : Int} {Q : Value → Hp → Prop} (h : slices_BinarySearchFunc_sl_sorted_item_int_string_sorted_item_int_string_int.l1.body J0 x target cmp H1 i j Q) : slices_BinarySearchFunc_sl_sorted_item_int_string_sorted_item_int_string_int.l1 J0 x target cmp H1 i j Q := vAt_stepC (slices_BinarySearchFunc_sl_sorted_item_int_string_sorted_item_int_string_int.l1.st x target cmp H1 i j) (slices_BinarySearchFunc_sl_sorted_item_int_string_sorted_item_int_string_int.l1.eq J0 x target cmp H1 i j Q) (by kernel_rfl) h
noncomputable def slices_BinarySearchFunc_sl_sorted_item_int_string_sorted_item_int_string_int.vc (J : Jn) (x : Sl) (target : Int) (cmp : Fv) (H : Hp) (Q : Value → Hp → Prop) : Prop :=
 
 slices_BinarySearchFunc_sl_sorted_item_int_string_sorted_item_int_string_int.l1 J x target cmp H 0 ((x.len : Nat) : Int) Q
theorem slices_BinarySearchFunc_sl_sorted_item_int_string_sorted_item_int_string_int.eq (J : Jn) (x : Sl) (target : Int) (cmp : Fv) (H : Hp) (Q : Value → Hp → Prop) : vFn Try.prog slices_BinarySearchFunc_sl_sorted_item_int_string_sorted_item_int_string_int.cf J slices_BinarySearchFunc_sl_sorted_item_int_string_sorted_item_int_string_int.fn [.slice x.a x.len x.cap, .int .i64 target, .func cmp.fn cmp.fi cmp.ca] H Q = slices_BinarySearchFunc_sl_sorted_item_int_string_sorted_item_int_string_int.vc J x target cmp H Q := by kernel_rfl
theorem slices_BinarySearchFunc_sl_sorted_item_int_string_sorted_item_int_string_int.calls {x : Sl} {target : Int} {cmp : Fv} {H : Hp} {Q : Value → Hp → Prop} (h : slices_BinarySearchFunc_sl_sorted_item_int_string_sorted_item_int_string_int.vc J0 x target cmp H Q) : SCalls Try.prog slices_BinarySearchFunc_sl_sorted_item_int_string_sorted_item_int_string_int.id [.slice x.a x.len x.cap, .int .i64 target, .func cmp.fn cmp.fi cmp.ca] H Q := vFn_of Try.mixed Try.func50 (slices_BinarySearchFunc_sl_sorted_item_int_string_sorted_item_int_string_int.eq J0 x target cmp H Q) h

/-! 51: (*tephra/sorted.Map_int, string_).find$1 -/
noncomputable def sorted_Map_int_string_find_1.cf : Cfg := ⟨[2], [], [], [], true⟩
noncomputable def sorted_Map_int_string_find_1.vc (J : Jn) (xkey : Int) (xvalue : ByteArray) (k : Int) (H : Hp) (Q : Value → Hp → Prop) : Prop :=
 
 SCalls Try.prog cmp_Compare_int.id [.int .i64 xkey, .int .i64 k] (holes H 1) (fun r H1 => ∃ x : Int, r = .int .i64 x ∧ Q (.int .i64 x) H1)
theorem sorted_Map_int_string_find_1.eq (J : Jn) (xkey : Int) (xvalue : ByteArray) (k : Int) (H : Hp) (Q : Value → Hp → Prop) : vFn Try.prog sorted_Map_int_string_find_1.cf J sorted_Map_int_string_find_1.fn [.agg #[.int .i64 xkey, .string xvalue], .int .i64 k] H Q = sorted_Map_int_string_find_1.vc J xkey xvalue k H Q := by kernel_rfl
theorem sorted_Map_int_string_find_1.calls {xkey : Int} {xvalue : ByteArray} {k : Int} {H : Hp} {Q : Value → Hp → Prop} (h : sorted_Map_int_string_find_1.vc J0 xkey xvalue k H Q) : SCalls Try.prog sorted_Map_int_string_find_1.id [.agg #[.int .i64 xkey, .string xvalue], .int .i64 k] H Q := vFn_of Try.mixed Try.func51 (sorted_Map_int_string_find_1.eq J0 xkey xvalue k H Q) h

/-! 53: slices.rotateRight_tephra/sorted.item_int, string__ -/
noncomputable def slices_rotateRight_sorted_item_int_string.cf : Cfg := ⟨[], [], [], [], true⟩
noncomputable def slices_rotateRight_sorted_item_int_string.vc (J : Jn) (s : Sl) (r : Int) (H : Hp) (Q : Value → Hp → Prop) : Prop :=
 
 SCalls Try.prog slices_rotateLeft_sorted_item_int_string.id [.slice s.a s.len s.cap, .int .i64 (w64 (((s.len : Nat) : Int) - r))] H (fun r1 H1 => r1 = .tuple #[] ∧ Q (.tuple #[]) H1)
theorem slices_rotateRight_sorted_item_int_string.eq (J : Jn) (s : Sl) (r : Int) (H : Hp) (Q : Value → Hp → Prop) : vFn Try.prog slices_rotateRight_sorted_item_int_string.cf J slices_rotateRight_sorted_item_int_string.fn [.slice s.a s.len s.cap, .int .i64 r] H Q = slices_rotateRight_sorted_item_int_string.vc J s r H Q := by kernel_rfl
theorem slices_rotateRight_sorted_item_int_string.calls {s : Sl} {r : Int} {H : Hp} {Q : Value → Hp → Prop} (h : slices_rotateRight_sorted_item_int_string.vc J0 s r H Q) : SCalls Try.prog slices_rotateRight_sorted_item_int_string.id [.slice s.a s.len s.cap, .int .i64 r] H Q := vFn_of Try.mixed Try.func53 (slices_rotateRight_sorted_item_int_string.eq J0 s r H Q) h

/-! 54: cmp.isNaN_int_ -/
noncomputable def cmp_isNaN_int.cf : Cfg := ⟨[], [], [], [], true⟩
noncomputable def cmp_isNaN_int.vc (J : Jn) (x : Int) (H : Hp) (Q : Value → Hp → Prop) : Prop :=
 Q (.bool (x != x)) H
theorem cmp_isNaN_int.eq (J : Jn) (x : Int) (H : Hp) (Q : Value → Hp → Prop) : vFn Try.prog cmp_isNaN_int.cf J cmp_isNaN_int.fn [.int .i64 x] H Q = cmp_isNaN_int.vc J x H Q := by kernel_rfl
theorem cmp_isNaN_int.calls {x : Int} {H : Hp} {Q : Value → Hp → Prop} (h : cmp_isNaN_int.vc J0 x H Q) : SCalls Try.prog cmp_isNaN_int.id [.int .i64 x] H Q := vFn_of Try.mixed Try.func54 (cmp_isNaN_int.eq J0 x H Q) h

/-! 55: slices.rotateLeft_tephra/sorted.item_int, int__ -/
noncomputable def slices_rotateLeft_sorted_item_int_int.cf : Cfg := ⟨[], [], [], [], true⟩
noncomputable def slices_rotateLeft_sorted_item_int_int.vc (J : Jn) (s : Sl) (r : Int) (H : Hp) (Q : Value → Hp → Prop) : Prop :=
 ((0 : Int) ≤ r ∧ r ≤ ((s.cap : Nat) : Int)) ∧ 
 SCalls Try.prog slices_Reverse_sl_sorted_item_int_int_sorted_item_int_int.id [.slice (cutA s.a s.cap 0 2) ((r : Int).toNat) s.cap] H (fun r1 H1 => r1 = .tuple #[] ∧ ((0 : Int) ≤ r ∧ r ≤ ((s.len : Nat) : Int)) ∧ 
 SCalls Try.prog slices_Reverse_sl_sorted_item_int_int_sorted_item_int_int.id [.slice (cutA s.a s.cap ((r : Int).toNat) 2) (s.len - ((r : Int).toNat)) (s.cap - ((r : Int).toNat))] H1 (fun r2 H2 => r2 = .tuple #[] ∧ 
 SCalls Try.prog slices_Reverse_sl_sorted_item_int_int_sorted_item_int_int.id [.slice s.a s.len s.cap] H2 (fun r3 H3 => r3 = .tuple #[] ∧ Q (.tuple #[]) H3)))
theorem slices_rotateLeft_sorted_item_int_int.eq (J : Jn) (s : Sl) (r : Int) (H : Hp) (Q : Value → Hp → Prop) : vFn Try.prog slices_rotateLeft_sorted_item_int_int.cf J slices_rotateLeft_sorted_item_int_int.fn [.slice s.a s.len s.cap, .int .i64 r] H Q = slices_rotateLeft_sorted_item_int_int.vc J s r H Q := by kernel_rfl
theorem slices_rotateLeft_sorted_item_int_int.calls {s : Sl} {r : Int} {H : Hp} {Q : Value → Hp → Prop} (h : slices_rotateLeft_sorted_item_int_int.vc J0 s r H Q) : SCalls Try.prog slices_rotateLeft_sorted_item_int_int.id [.slice s.a s.len s.cap, .int .i64 r] H Q := vFn_of Try.mixed Try.func55 (slices_rotateLeft_sorted_item_int_int.eq J0 s r H Q) h

/-! 58: slices.rotateLeft_tephra/sorted.item_int, string__ -/
noncomputable def slices_rotateLeft_sorted_item_int_string.cf : Cfg := ⟨[], [], [], [], true⟩
noncomputable def slices_rotateLeft_sorted_item_int_string.vc (J : Jn) (s : Sl) (r : Int) (H : Hp) (Q : Value → Hp → Prop) : Prop :=
 ((0 : Int) ≤ r ∧ r ≤ ((s.cap : Nat) : Int)) ∧ 
 SCalls Try.prog slices_Reverse_sl_sorted_item_int_string_sorted_item_int_string.id [.slice (cutA s.a s.cap 0 2) ((r : Int).toNat) s.cap] H (fun r1 H1 => r1 = .tuple #[] ∧ ((0 : Int) ≤ r ∧ r ≤ ((s.len : Nat) : Int)) ∧ 
 SCalls Try.prog slices_Reverse_sl_sorted_item_int_string_sorted_item_int_string.id [.slice (cutA s.a s.cap ((r : Int).toNat) 2) (s.len - ((r : Int).toNat)) (s.cap - ((r : Int).toNat))] H1 (fun r2 H2 => r2 = .tuple #[] ∧ 
 SCalls Try.prog slices_Reverse_sl_sorted_item_int_string_sorted_item_int_string.id [.slice s.a s.len s.cap] H2 (fun r3 H3 => r3 = .tuple #[] ∧ Q (.tuple #[]) H3)))
theorem slices_rotateLeft_sorted_item_int_string.eq (J : Jn) (s : Sl) (r : Int) (H : Hp) (Q : Value → Hp → Prop) : vFn Try.prog slices_rotateLeft_sorted_item_int_string.cf J slices_rotateLeft_sorted_item_int_string.fn [.slice s.a s.len s.cap, .int .i64 r] H Q = slices_rotateLeft_sorted_item_int_string.vc J s r H Q := by kernel_rfl
theorem slices_rotateLeft_sorted_item_int_string.calls {s : Sl} {r : Int} {H : Hp} {Q : Value → Hp → Prop} (h : slices_rotateLeft_sorted_item_int_string.vc J0 s r H Q) : SCalls Try.prog slices_rotateLeft_sorted_item_int_string.id [.slice s.a s.len s.cap, .int .i64 r] H Q := vFn_of Try.mixed Try.func58 (slices_rotateLeft_sorted_item_int_string.eq J0 s r H Q) h

/-! 59: slices.Reverse___tephra/sorted.item_int, int_,tephra/sorted.item_int, int__ -/
noncomputable def slices_Reverse_sl_sorted_item_int_int_sorted_item_int_int.cf : Cfg := ⟨[], [(1, [0, 2, 3])], [], [], true⟩
noncomputable def slices_Reverse_sl_sorted_item_int_int_sorted_item_int_int.l1.st (s : Sl) (H1 : Hp) (i : Int) (j : Int) : VS := ⟨mkFr 28 [(0, .v (.slice s.a s.len s.cap)), (2, .v (.int .i64 i)), (3, .v (.int .i64 j))], [], H1⟩
noncomputable def slices_Reverse_sl_sorted_item_int_int_sorted_item_int_int.l1 (J : Jn) (s : Sl) (H1 : Hp) (i : Int) (j : Int) (Q : Value → Hp → Prop) : Prop := vAt Try.prog slices_Reverse_sl_sorted_item_int_int_sorted_item_int_int.cf J slices_Reverse_sl_sorted_item_int_int_sorted_item_int_int.fn [1, 0] [0] Q (slices_Reverse_sl_sorted_item_int_int_sorted_item_int_int.l1.st s H1 i j)
attribute [irreducible] slices_Reverse_sl_sorted_item_int_int_sorted_item_int_int.l1
noncomputable def slices_Reverse_sl_sorted_item_int_int_sorted_item_int_int.l1.body (J : Jn) (s : Sl) (H1 : Hp) (i : Int) (j : Int) (Q : Value → Hp → Prop) : Prop :=
 
 Br (decide (i < j)) (((0 : Int) ≤ j ∧ j < ((s.len : Nat) : Int)) ∧ vPtr s.a (fun a => ∃ key : Int, ∃ value : Int, RowAt H1 (a.add ((j : Int).toNat * 2)) [.int .i64 key, .int .i64 value] ∧ ((0 : Int) ≤ i ∧ i < ((s.len : Nat) : Int)) ∧ vPtr s.a (fun a1 => ∃ key1 : Int, ∃ value1 : Int, RowAt H1 (a1.add ((i : Int).toNat * 2)) [.int .i64 key1, .int .i64 value1] ∧ ((0 : Int) ≤ i ∧ i < ((s.len : Nat) : Int)) ∧ vPtr s.a (fun a2 => WrAt H1 (a2.add ((i : Int).toNat * 2)) 2 ∧ ((0 : Int) ≤ j ∧ j < ((s.len : Nat) : Int)) ∧ vPtr s.a (fun a3 => WrAt (Hp.setCells H1 (a2.add ((i : Int).toNat * 2)) [.int .i64 key, .int .i64 value] 0) (a3.add ((j : Int).toNat * 2)) 2 ∧ 
 slices_Reverse_sl_sorted_item_int_int_sorted_item_int_int.l1 J s (Hp.setCells (Hp.setCells H1 (a2.add ((i : Int).toNat * 2)) [.int .i64 key, .int .i64 value] 0) (a3.add ((j : Int).toNat * 2)) [.int .i64 key1, .int .i64 value1] 0) (w64 (i + 1)) (w64 (j - 1)) Q)))))
 (Q (.tuple #[]) H1)
theorem slices_Reverse_sl_sorted_item_int_int_sorted_item_int_int.l1.eq (J : Jn) (s : Sl) (H1 : Hp) (i : Int) (j : Int) (Q : Value → Hp → Prop) : vAtBody Try.prog slices_Reverse_sl_sorted_item_int_int_sorted_item_int_int.cf J slices_Reverse_sl_sorted_item_int_int_sorted_item_int_int.fn [1, 0] [0] Q (slices_Reverse_sl_sorted_item_int_int_sorted_item_int_int.l1.st s H1 i j) = slices_Reverse_sl_sorted_item_int_int_sorted_item_int_int.l1.body J s H1 i j Q := by kernel_rfl
theorem slices_Reverse_sl_sorted_item_int_int_sorted_item_int_int.l1.step {s : Sl} {H1 : Hp} {i : Int} {j : Int} {Q : Value → Hp → Prop} (h : slices_Reverse_sl_sorted_item_int_int_sorted_item_int_int.l1.body J0 s H1 i j Q) : slices_Reverse_sl_sorted_item_int_int_sorted_item_int_int.l1 J0 s H1 i j Q := vAt_stepC (slices_Reverse_sl_sorted_item_int_int_sorted_item_int_int.l1.st s H1 i j) (slices_Reverse_sl_sorted_item_int_int_sorted_item_int_int.l1.eq J0 s H1 i j Q) (by kernel_rfl) h
noncomputable def slices_Reverse_sl_sorted_item_int_int_sorted_item_int_int.vc (J : Jn) (s : Sl) (H : Hp) (Q : Value → Hp → Prop) : Prop :=
 
 slices_Reverse_sl_sorted_item_int_int_sorted_item_int_int.l1 J s H 0 (w64 (((s.len : Nat) : Int) - 1)) Q
theorem slices_Reverse_sl_sorted_item_int_int_sorted_item_int_int.eq (J : Jn) (s : Sl) (H : Hp) (Q : Value → Hp → Prop) : vFn Try.prog slices_Reverse_sl_sorted_item_int_int_sorted_item_int_int.cf J slices_Reverse_sl_sorted_item_int_int_sorted_item_int_int.fn [.slice s.a s.len s.cap] H Q = slices_Reverse_sl_sorted_item_int_int_sorted_item_int_int.vc J s H Q := by kernel_rfl
theorem slices_Reverse_sl_sorted_item_int_int_sorted_item_int_int.calls {s : Sl} {H : Hp} {Q : Value → Hp → Prop} (h : slices_Reverse_sl_sorted_item_int_int_sorted_item_int_int.vc J0 s H Q) : SCalls Try.prog slices_Reverse_sl_sorted_item_int_int_sorted_item_int_int.id [.slice s.a s.len s.cap] H Q := vFn_of Try.mixed Try.func59 (slices_Reverse_sl_sorted_item_int_int_sorted_item_int_int.eq J0 s H Q) h

/-! 61: slices.Reverse___tephra/sorted.item_int, string_,tephra/sorted.item_int, string__ -/
noncomputable def slices_Reverse_sl_sorted_item_int_string_sorted_item_int_string.cf : Cfg := ⟨[], [(1, [0, 2, 3])], [], [], true⟩
noncomputable def slices_Reverse_sl_sorted_item_int_string_sorted_item_int_string.l1.st (s : Sl) (H1 : Hp) (i : Int) (j : Int) : VS := ⟨mkFr 28 [(0, .v (.slice s.a s.len s.cap)), (2, .v (.int .i64 i)), (3, .v (.int .i64 j))], [], H1⟩
noncomputable def slices_Reverse_sl_sorted_item_int_string_sorted_item_int_string.l1 (J : Jn) (s : Sl) (H1 : Hp) (i : Int) (j : Int) (Q : Value → Hp → Prop) : Prop := vAt Try.prog slices_Reverse_sl_sorted_item_int_string_sorted_item_int_string.cf J slices_Reverse_sl_sorted_item_int_string_sorted_item_int_string.fn [1, 0] [0] Q (slices_Reverse_sl_sorted_item_int_string_sorted_item_int_string.l1.st s H1 i j)
attribute [irreducible] slices_Reverse_sl_sorted_item_int_string_sorted_item_int_string.l1
noncomputable def slices_Reverse_sl_sorted_item_int_string_sorted_item_int_string.l1.body (J : Jn) (s : Sl) (H1 : Hp) (i : Int) (j : Int) (Q : Value → Hp → Prop) : Prop :=
 
 Br (decide (i < j)) (((0 : Int) ≤ j ∧ j < ((s.len : Nat) : Int)) ∧ vPtr s.a (fun a => ∃ key : Int, ∃ value : ByteArray, RowAt H1 (a.add ((j : Int).toNat * 2)) [.int .i64 key, .string value] ∧ ((0 : Int) ≤ i ∧ i < ((s.len : Nat) : Int)) ∧ vPtr s.a (fun a1 => ∃ key1 : Int, ∃ value1 : ByteArray, RowAt H1 (a1.add ((i : Int).toNat * 2)) [.int .i64 key1, .string value1] ∧ ((0 : Int) ≤ i ∧ i < ((s.len : Nat) : Int)) ∧ vPtr s.a (fun a2 => WrAt H1 (a2.add ((i : Int).toNat * 2)) 2 ∧ ((0 : Int) ≤ j ∧ j < ((s.len : Nat) : Int)) ∧ vPtr s.a (fun a3 => WrAt (Hp.setCells H1 (a2.add ((i : Int).toNat * 2)) [.int .i64 key, .string value] 0) (a3.add ((j : Int).toNat * 2)) 2 ∧ 
 slices_Reverse_sl_sorted_item_int_string_sorted_item_int_string.l1 J s (Hp.setCells (Hp.setCells H1 (a2.add ((i : Int).toNat * 2)) [.int .i64 key, .string value] 0) (a3.add ((j : Int).toNat * 2)) [.int .i64 key1, .string value1] 0) (w64 (i + 1)) (w64 (j - 1)) Q)))))
 (Q (.tuple #[]) H1)
theorem slices_Reverse_sl_sorted_item_int_string_sorted_item_int_string.l1.eq (J : Jn) (s : Sl) (H1 : Hp) (i : Int) (j : Int) (Q : Value → Hp → Prop) : vAtBody Try.prog slices_Reverse_sl_sorted_item_int_string_sorted_item_int_string.cf J slices_Reverse_sl_sorted_item_int_string_sorted_item_int_string.fn [1, 0] [0] Q (slices_Reverse_sl_sorted_item_int_string_sorted_item_int_string.l1.st s H1 i j) = slices_Reverse_sl_sorted_item_int_string_sorted_item_int_string.l1.body J s H1 i j Q := by kernel_rfl
theorem slices_Reverse_sl_sorted_item_int_string_sorted_item_int_string.l1.step {s : Sl} {H1 : Hp} {i : Int} {j : Int} {Q : Value → Hp → Prop} (h : slices_Reverse_sl_sorted_item_int_string_sorted_item_int_string.l1.body J0 s H1 i j Q) : slices_Reverse_sl_sorted_item_int_string_sorted_item_int_string.l1 J0 s H1 i j Q := vAt_stepC (slices_Reverse_sl_sorted_item_int_string_sorted_item_int_string.l1.st s H1 i j) (slices_Reverse_sl_sorted_item_int_string_sorted_item_int_string.l1.eq J0 s H1 i j Q) (by kernel_rfl) h
noncomputable def slices_Reverse_sl_sorted_item_int_string_sorted_item_int_string.vc (J : Jn) (s : Sl) (H : Hp) (Q : Value → Hp → Prop) : Prop :=
 
 slices_Reverse_sl_sorted_item_int_string_sorted_item_int_string.l1 J s H 0 (w64 (((s.len : Nat) : Int) - 1)) Q
theorem slices_Reverse_sl_sorted_item_int_string_sorted_item_int_string.eq (J : Jn) (s : Sl) (H : Hp) (Q : Value → Hp → Prop) : vFn Try.prog slices_Reverse_sl_sorted_item_int_string_sorted_item_int_string.cf J slices_Reverse_sl_sorted_item_int_string_sorted_item_int_string.fn [.slice s.a s.len s.cap] H Q = slices_Reverse_sl_sorted_item_int_string_sorted_item_int_string.vc J s H Q := by kernel_rfl
theorem slices_Reverse_sl_sorted_item_int_string_sorted_item_int_string.calls {s : Sl} {H : Hp} {Q : Value → Hp → Prop} (h : slices_Reverse_sl_sorted_item_int_string_sorted_item_int_string.vc J0 s H Q) : SCalls Try.prog slices_Reverse_sl_sorted_item_int_string_sorted_item_int_string.id [.slice s.a s.len s.cap] H Q := vFn_of Try.mixed Try.func61 (slices_Reverse_sl_sorted_item_int_string_sorted_item_int_string.eq J0 s H Q) h

end Go.Proofs
