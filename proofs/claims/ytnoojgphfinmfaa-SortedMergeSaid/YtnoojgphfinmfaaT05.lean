/- THE SEAT'S CODE, AS WALKED: for each function what is to be shown of it (printed by the own program gen.py), held by the kernel. -/
import Derived.Test.YtnoojgphfinmfaaProg
import Derived.Test.YtnoojgphfinmfaaKc13
set_option maxRecDepth 100000
set_option linter.all false
set_option linter.constructorNameAsVariable false
namespace Go.Proofs
open Go Go.KC
theorem Try.mixed : Try.prog.follows .mixedOrders = true := by kernel_rfl
abbrev tephralaw05_SortedOrder.id : Nat := 3
noncomputable abbrev tephralaw05_SortedOrder.fn : Func := Try.f3
abbrev tephralaw05_SortedAll.id : Nat := 4
noncomputable abbrev tephralaw05_SortedAll.fn : Func := Try.f4
abbrev tephralaw05_SortedScript.id : Nat := 5
noncomputable abbrev tephralaw05_SortedScript.fn : Func := Try.f5
abbrev tephralaw05_SortedDel.id : Nat := 6
noncomputable abbrev tephralaw05_SortedDel.fn : Func := Try.f6
abbrev tephralaw05_SortedMerge.id : Nat := 7
noncomputable abbrev tephralaw05_SortedMerge.fn : Func := Try.f7
abbrev tephralaw05_SortedSelf.id : Nat := 8
noncomputable abbrev tephralaw05_SortedSelf.fn : Func := Try.f8
abbrev tephralaw05_SortedBoth.id : Nat := 9
noncomputable abbrev tephralaw05_SortedBoth.fn : Func := Try.f9
abbrev tephralaw05_awake.id : Nat := 10
noncomputable abbrev tephralaw05_awake.fn : Func := Try.f10
abbrev sorted_Map_int_int_Put.id : Nat := 11
noncomputable abbrev sorted_Map_int_int_Put.fn : Func := Try.f11
abbrev sorted_Map_int_int_Len.id : Nat := 12
noncomputable abbrev sorted_Map_int_int_Len.fn : Func := Try.f12
abbrev sorted_Map_int_int_All.id : Nat := 13
noncomputable abbrev sorted_Map_int_int_All.fn : Func := Try.f13
abbrev sorted_Map_int_int_Get.id : Nat := 14
noncomputable abbrev sorted_Map_int_int_Get.fn : Func := Try.f14
abbrev tephralaw05_Of.id : Nat := 15
noncomputable abbrev tephralaw05_Of.fn : Func := Try.f15
abbrev sorted_Map_int_int_Back.id : Nat := 16
noncomputable abbrev sorted_Map_int_int_Back.fn : Func := Try.f16
abbrev sorted_Map_int_int_From.id : Nat := 17
noncomputable abbrev sorted_Map_int_int_From.fn : Func := Try.f17
abbrev sorted_Map_string_int_Get.id : Nat := 18
noncomputable abbrev sorted_Map_string_int_Get.fn : Func := Try.f18
abbrev sorted_Map_int_int_Del.id : Nat := 19
noncomputable abbrev sorted_Map_int_int_Del.fn : Func := Try.f19
abbrev sorted_Map_string_int_Del.id : Nat := 20
noncomputable abbrev sorted_Map_string_int_Del.fn : Func := Try.f20
abbrev sorted_Map_string_int_Put.id : Nat := 21
noncomputable abbrev sorted_Map_string_int_Put.fn : Func := Try.f21
abbrev sorted_Map_string_int_Len.id : Nat := 22
noncomputable abbrev sorted_Map_string_int_Len.fn : Func := Try.f22
abbrev sorted_Merge_int_int.id : Nat := 23
noncomputable abbrev sorted_Merge_int_int.fn : Func := Try.f23
abbrev sorted_Map_int_string_Put.id : Nat := 24
noncomputable abbrev sorted_Map_int_string_Put.fn : Func := Try.f24
abbrev sorted_Map_int_string_Len.id : Nat := 25
noncomputable abbrev sorted_Map_int_string_Len.fn : Func := Try.f25
abbrev sorted_Map_int_string_All.id : Nat := 26
noncomputable abbrev sorted_Map_int_string_All.fn : Func := Try.f26
abbrev sorted_Map_int_string_Get.id : Nat := 27
noncomputable abbrev sorted_Map_int_string_Get.fn : Func := Try.f27
abbrev sorted_Map_int_int_find.id : Nat := 28
noncomputable abbrev sorted_Map_int_int_find.fn : Func := Try.f28
abbrev slices_Insert_sl_sorted_item_int_int_sorted_item_int_int.id : Nat := 29
noncomputable abbrev slices_Insert_sl_sorted_item_int_int_sorted_item_int_int.fn : Func := Try.f29
abbrev sorted_Map_int_int_All_1.id : Nat := 30
noncomputable abbrev sorted_Map_int_int_All_1.fn : Func := Try.f30
abbrev sorted_Map_int_int_Back_1.id : Nat := 31
noncomputable abbrev sorted_Map_int_int_Back_1.fn : Func := Try.f31
abbrev sorted_Map_string_int_find.id : Nat := 32
noncomputable abbrev sorted_Map_string_int_find.fn : Func := Try.f32
abbrev slices_Delete_sl_sorted_item_int_int_sorted_item_int_int.id : Nat := 33
noncomputable abbrev slices_Delete_sl_sorted_item_int_int_sorted_item_int_int.fn : Func := Try.f33
abbrev slices_Delete_sl_sorted_item_string_int_sorted_item_string_int.id : Nat := 34
noncomputable abbrev slices_Delete_sl_sorted_item_string_int_sorted_item_string_int.fn : Func := Try.f34
abbrev slices_Insert_sl_sorted_item_string_int_sorted_item_string_int.id : Nat := 35
noncomputable abbrev slices_Insert_sl_sorted_item_string_int_sorted_item_string_int.fn : Func := Try.f35
abbrev sorted_Merge_int_int_1.id : Nat := 36
noncomputable abbrev sorted_Merge_int_int_1.fn : Func := Try.f36
abbrev sorted_Map_int_string_find.id : Nat := 37
noncomputable abbrev sorted_Map_int_string_find.fn : Func := Try.f37
abbrev slices_Insert_sl_sorted_item_int_string_sorted_item_int_string.id : Nat := 38
noncomputable abbrev slices_Insert_sl_sorted_item_int_string_sorted_item_int_string.fn : Func := Try.f38
abbrev sorted_Map_int_string_All_1.id : Nat := 39
noncomputable abbrev sorted_Map_int_string_All_1.fn : Func := Try.f39
abbrev slices_BinarySearchFunc_sl_sorted_item_int_int_sorted_item_int_int_int.id : Nat := 40
noncomputable abbrev slices_BinarySearchFunc_sl_sorted_item_int_int_sorted_item_int_int_int.fn : Func := Try.f40
abbrev sorted_Map_int_int_find_1.id : Nat := 41
noncomputable abbrev sorted_Map_int_int_find_1.fn : Func := Try.f41
abbrev cmp_Compare_int.id : Nat := 42
noncomputable abbrev cmp_Compare_int.fn : Func := Try.f42
abbrev slices_rotateRight_sorted_item_int_int.id : Nat := 44
noncomputable abbrev slices_rotateRight_sorted_item_int_int.fn : Func := Try.f44
abbrev slices_BinarySearchFunc_sl_sorted_item_string_int_sorted_item_string_int_string.id : Nat := 45
noncomputable abbrev slices_BinarySearchFunc_sl_sorted_item_string_int_sorted_item_string_int_string.fn : Func := Try.f45
abbrev sorted_Map_string_int_find_1.id : Nat := 46
noncomputable abbrev sorted_Map_string_int_find_1.fn : Func := Try.f46
abbrev cmp_Compare_string.id : Nat := 47
noncomputable abbrev cmp_Compare_string.fn : Func := Try.f47
abbrev slices_rotateRight_sorted_item_string_int.id : Nat := 49
noncomputable abbrev slices_rotateRight_sorted_item_string_int.fn : Func := Try.f49
abbrev slices_BinarySearchFunc_sl_sorted_item_int_string_sorted_item_int_string_int.id : Nat := 50
noncomputable abbrev slices_BinarySearchFunc_sl_sorted_item_int_string_sorted_item_int_string_int.fn : Func := Try.f50
abbrev sorted_Map_int_string_find_1.id : Nat := 51
noncomputable abbrev sorted_Map_int_string_find_1.fn : Func := Try.f51
abbrev slices_rotateRight_sorted_item_int_string.id : Nat := 53
noncomputable abbrev slices_rotateRight_sorted_item_int_string.fn : Func := Try.f53
abbrev cmp_isNaN_int.id : Nat := 54
noncomputable abbrev cmp_isNaN_int.fn : Func := Try.f54
abbrev slices_rotateLeft_sorted_item_int_int.id : Nat := 55
noncomputable abbrev slices_rotateLeft_sorted_item_int_int.fn : Func := Try.f55
abbrev cmp_isNaN_string.id : Nat := 56
noncomputable abbrev cmp_isNaN_string.fn : Func := Try.f56
abbrev slices_rotateLeft_sorted_item_string_int.id : Nat := 57
noncomputable abbrev slices_rotateLeft_sorted_item_string_int.fn : Func := Try.f57
abbrev slices_rotateLeft_sorted_item_int_string.id : Nat := 58
noncomputable abbrev slices_rotateLeft_sorted_item_int_string.fn : Func := Try.f58
abbrev slices_Reverse_sl_sorted_item_int_int_sorted_item_int_int.id : Nat := 59
noncomputable abbrev slices_Reverse_sl_sorted_item_int_int_sorted_item_int_int.fn : Func := Try.f59
abbrev slices_Reverse_sl_sorted_item_string_int_sorted_item_string_int.id : Nat := 60
noncomputable abbrev slices_Reverse_sl_sorted_item_string_int_sorted_item_string_int.fn : Func := Try.f60
abbrev slices_Reverse_sl_sorted_item_int_string_sorted_item_int_string.id : Nat := 61
noncomputable abbrev slices_Reverse_sl_sorted_item_int_string_sorted_item_int_string.fn : Func := Try.f61
abbrev T_ : Nat := 0
abbrev T_func : Nat := 1
abbrev T_int64 : Nat := 2
abbrev T_int : Nat := 3
abbrev T_bool : Nat := 4
abbrev T_uint8 : Nat := 5
abbrev T_abi_BoundsErrorCode : Nat := 6
abbrev T_struct_x_int64_y_int_signed_bool_code_abi_BoundsErrorCode : Nat := 7
abbrev T_runtime_boundsError : Nat := 8
abbrev T_string : Nat := 9
abbrev T_runtime_errorString : Nat := 10
abbrev T_runtime_plainError : Nat := 11
abbrev T_uintptr : Nat := 12
abbrev T_struct_msg_string_addr_uintptr : Nat := 13
abbrev T_runtime_errorAddressString : Nat := 14
abbrev T_p_runtime_TypeAssertionError : Nat := 15
abbrev T_p_runtime_PanicNilError : Nat := 16
abbrev T_p_abi_Type : Nat := 17
abbrev T_struct_typ_p_abi_Type : Nat := 18
abbrev T_maps_unhashableTypeError : Nat := 19
abbrev T_interface : Nat := 20
abbrev T_int32 : Nat := 21
abbrev T_sl_tephralaw05_Act : Nat := 22
abbrev T_func_bool : Nat := 23
abbrev T_p_sorted_Map_int_int : Nat := 24
abbrev T_sl_sorted_item_int_int : Nat := 25
abbrev T_struct_items_sl_sorted_item_int_int : Nat := 26
abbrev T_sorted_Map_int_int : Nat := 27
abbrev T_func_int_int_bool : Nat := 28
abbrev T_int8 : Nat := 29
abbrev T_uint16 : Nat := 30
abbrev T_struct_Op_uint8_Key_int8_Value_uint16 : Nat := 31
abbrev T_tephralaw05_Act : Nat := 32
abbrev T_func_int : Nat := 33
abbrev T_func_func_int_int_bool : Nat := 34
abbrev T_iter_Seq2_int_int : Nat := 35
abbrev T_func_iter_Seq2_int_int : Nat := 36
abbrev T_int_bool : Nat := 37
abbrev T_func_int_int_bool_38 : Nat := 38
abbrev T_func_sl_tephralaw05_Act_bool : Nat := 39
abbrev T_func_sl_tephralaw05_Act_p_sorted_Map_int_int : Nat := 40
abbrev T_sl_int : Nat := 41
abbrev T_func_int_iter_Seq2_int_int : Nat := 42
abbrev T_func_sl_tephralaw05_Act_int8_uint8_bool : Nat := 43
abbrev T_p_sorted_Map_string_int : Nat := 44
abbrev T_sl_sorted_item_string_int : Nat := 45
abbrev T_struct_items_sl_sorted_item_string_int : Nat := 46
abbrev T_sorted_Map_string_int : Nat := 47
abbrev T_map_int_int : Nat := 48
abbrev T_sl_uint8 : Nat := 49
abbrev T_func_string_int_bool : Nat := 50
abbrev T_func_int_bool : Nat := 51
abbrev T_func_string_bool : Nat := 52
abbrev T_func_string_int_bool_53 : Nat := 53
abbrev T_func_sl_tephralaw05_Act_bool_bool : Nat := 54
abbrev T_sl_int8 : Nat := 55
abbrev T_map_int_bool : Nat := 56
abbrev T_func_sl_tephralaw05_Act_sl_int8_bool : Nat := 57
abbrev T_func_iter_Seq2_int_int_iter_Seq2_int_int_iter_Seq2_int_int : Nat := 58
abbrev T_func_sl_tephralaw05_Act_sl_tephralaw05_Act_uint8_bool : Nat := 59
abbrev T_func_sl_tephralaw05_Act_sl_tephralaw05_Act_bool : Nat := 60
abbrev T_p_sorted_Map_int_string : Nat := 61
abbrev T_sl_sorted_item_int_string : Nat := 62
abbrev T_struct_items_sl_sorted_item_int_string : Nat := 63
abbrev T_sorted_Map_int_string : Nat := 64
abbrev T_func_int_string_bool : Nat := 65
abbrev T_func_func_int_string_bool : Nat := 66
abbrev T_iter_Seq2_int_string : Nat := 67
abbrev T_func_iter_Seq2_int_string : Nat := 68
abbrev T_string_bool : Nat := 69
abbrev T_func_int_string_bool_70 : Nat := 70
abbrev T_struct_key_int_value_int : Nat := 71
abbrev T_sorted_item_int_int : Nat := 72
abbrev T_func_sl_sorted_item_int_int_int_sorted_item_int_int_sl_sorte : Nat := 73
abbrev T_struct_key_string_value_int : Nat := 74
abbrev T_sorted_item_string_int : Nat := 75
abbrev T_func_sl_sorted_item_int_int_int_int_sl_sorted_item_int_int : Nat := 76
abbrev T_func_sl_sorted_item_string_int_int_int_sl_sorted_item_string : Nat := 77
abbrev T_func_sl_sorted_item_string_int_int_sorted_item_string_int_sl : Nat := 78
abbrev T_struct_key_int_value_string : Nat := 79
abbrev T_sorted_item_int_string : Nat := 80
abbrev T_func_sl_sorted_item_int_string_int_sorted_item_int_string_sl : Nat := 81
abbrev T_func_sl_sorted_item_int_int_int_func_sorted_item_int_int_int : Nat := 82
abbrev T_func_int_int_int : Nat := 83
abbrev T_func_sorted_item_int_int_int_int : Nat := 84
abbrev T_func_sl_sorted_item_int_int_sl_sorted_item_int_int_bool : Nat := 85
abbrev T_func_sl_sorted_item_int_int_int : Nat := 86
abbrev T_func_sl_sorted_item_string_int_string_func_sorted_item_strin : Nat := 87
abbrev T_func_string_string_int : Nat := 88
abbrev T_func_sorted_item_string_int_string_int : Nat := 89
abbrev T_func_sl_sorted_item_string_int_sl_sorted_item_string_int_boo : Nat := 90
abbrev T_func_sl_sorted_item_string_int_int : Nat := 91
abbrev T_func_sl_sorted_item_int_string_int_func_sorted_item_int_stri : Nat := 92
abbrev T_func_sorted_item_int_string_int_int : Nat := 93
abbrev T_func_sl_sorted_item_int_string_sl_sorted_item_int_string_boo : Nat := 94
abbrev T_func_sl_sorted_item_int_string_int : Nat := 95
abbrev T_uint : Nat := 96
abbrev T_func_sl_sorted_item_int_int : Nat := 97
abbrev T_func_sl_sorted_item_string_int : Nat := 98
abbrev T_func_sl_sorted_item_int_string : Nat := 99
abbrev T_func_string : Nat := 100
abbrev T_struct__interface_p_abi_Type_concrete_p_abi_Type_asserted_p_ : Nat := 101
abbrev T_runtime_TypeAssertionError : Nat := 102
abbrev T_0_p_runtime_PanicNilError : Nat := 103
abbrev T_struct___0_p_runtime_PanicNilError : Nat := 104
abbrev T_runtime_PanicNilError : Nat := 105
abbrev T_uint32 : Nat := 106
abbrev T_abi_TFlag : Nat := 107
abbrev T_abi_Kind : Nat := 108
abbrev T_func_unsafe_Pointer_unsafe_Pointer_bool : Nat := 109
abbrev T_p_uint8 : Nat := 110
abbrev T_abi_NameOff : Nat := 111
abbrev T_abi_TypeOff : Nat := 112
abbrev T_struct_Size__uintptr_PtrBytes_uintptr_Hash_uint32_TFlag_abi_ : Nat := 113
abbrev T_abi_Type : Nat := 114
abbrev T_func_iter_Seq2_string_int : Nat := 115
abbrev T_func_string_iter_Seq2_string_int : Nat := 116
abbrev T_func_int_iter_Seq2_int_string : Nat := 117
abbrev T_unsafe_Pointer : Nat := 118
abbrev T_func_func_string_int_bool : Nat := 119
abbrev T_iter_Seq2_string_int : Nat := 120

/-! 3: tephra/tephralaw05.SortedOrder -/
noncomputable def tephralaw05_SortedOrder.cf : Cfg := ⟨[6], [(6, [0, 2, 3, 4, 23, 24]), (1000017, [2, 4])], [], [], true⟩
noncomputable def tephralaw05_SortedOrder.cfr : Cfg := { tephralaw05_SortedOrder.cf with rf := false }
noncomputable def tephralaw05_SortedOrder.r1.fr (H : Hp) (H1 : Hp) : List AV := mkFr 82 [(2, .v (.pointer (some (Addr.mk (Array.size H) 0 none)))), (4, .v (.pointer (some (Addr.mk (Array.size (Array.push (Array.push H1 (.cells #[.slice none 0 0] T_sorted_Map_int_int)) (.cells #[.slice none 0 0] T_sorted_Map_int_int))) 0 none))))]
noncomputable def tephralaw05_SortedOrder.r1.code : Code := sub (bodyOf tephralaw05_SortedOrder.fn) [1, 1, 1, 1, 1, 1, 0, 1, 0]
noncomputable def tephralaw05_SortedOrder.r1.rec (fn : FuncId) (tm : Array Value) (d : Nat) (st : LoopState) (pd : Option Code) : Obj := recO fn tm (rgP tephralaw05_SortedOrder.r1.code) (rgA tephralaw05_SortedOrder.r1.code) (rgB tephralaw05_SortedOrder.r1.code) d st pd
noncomputable def tephralaw05_SortedOrder.r2.fr (H : Hp) (H1 : Hp) : List AV := mkFr 82 [(2, .v (.pointer (some (Addr.mk (Array.size H) 0 none)))), (4, .v (.pointer (some (Addr.mk (Array.size (Array.push (Array.push H1 (.cells #[.slice none 0 0] T_sorted_Map_int_int)) (.cells #[.slice none 0 0] T_sorted_Map_int_int))) 0 none))))]
noncomputable def tephralaw05_SortedOrder.r2.code : Code := sub (bodyOf tephralaw05_SortedOrder.fn) [1, 1, 1, 1, 1, 1, 0, 1, 0]
noncomputable def tephralaw05_SortedOrder.r2.rec (fn : FuncId) (tm : Array Value) (d : Nat) (st : LoopState) (pd : Option Code) : Obj := recO fn tm (rgP tephralaw05_SortedOrder.r2.code) (rgA tephralaw05_SortedOrder.r2.code) (rgB tephralaw05_SortedOrder.r2.code) d st pd
noncomputable def tephralaw05_SortedOrder.l1.st (acts : Sl) (H : Hp) (H1 : Hp) (H2 : Hp) (x2 : Int) : VS := ⟨mkFr 82 [(0, .v (.slice (cutA acts.a acts.cap 0 3) (((if (60 : Int) < ((acts.len : Nat) : Int) then 60 else ((acts.len : Nat) : Int)) : Int).toNat) acts.cap)), (2, .v (.pointer (some (Addr.mk (Array.size H) 0 none)))), (3, .v (.pointer (some (Addr.mk (Array.size H1) 0 none)))), (4, .v (.pointer (some (Addr.mk (Array.size (Array.push (Array.push H1 (.cells #[.slice none 0 0] T_sorted_Map_int_int)) (.cells #[.slice none 0 0] T_sorted_Map_int_int))) 0 none)))), (23, .v (.int .i64 (((((if (60 : Int) < ((acts.len : Nat) : Int) then 60 else ((acts.len : Nat) : Int)) : Int).toNat) : Nat) : Int))), (24, .v (.int .i64 x2))], [], H2⟩
noncomputable def tephralaw05_SortedOrder.l1 (J : Jn) (acts : Sl) (H : Hp) (H1 : Hp) (H2 : Hp) (x2 : Int) (Q : Value → Hp → Prop) : Prop := vAt Try.prog tephralaw05_SortedOrder.cf J tephralaw05_SortedOrder.fn [1, 1, 1, 1, 0, 1, 0] [0, 0, 0, 0, 0, 0] Q (tephralaw05_SortedOrder.l1.st acts H H1 H2 x2)
attribute [irreducible] tephralaw05_SortedOrder.l1
noncomputable def tephralaw05_SortedOrder.l1.body (J : Jn) (acts : Sl) (H : Hp) (H1 : Hp) (H2 : Hp) (x2 : Int) (Q : Value → Hp → Prop) : Prop :=
 
 Br (decide (x2 < (((((if (60 : Int) < ((acts.len : Nat) : Int) then 60 else ((acts.len : Nat) : Int)) : Int).toNat) : Nat) : Int))) (((0 : Int) ≤ x2 ∧ x2 < (((((if (60 : Int) < ((acts.len : Nat) : Int) then 60 else ((acts.len : Nat) : Int)) : Int).toNat) : Nat) : Int)) ∧ vPtr (cutA acts.a acts.cap 0 3) (fun a => ∃ Key : Int, Hp.cell? H2 ((a.add ((x2 : Int).toNat * 3)).add 1) = some (.int .i8 Key) ∧ ((0 : Int) ≤ x2 ∧ x2 < (((((if (60 : Int) < ((acts.len : Nat) : Int) then 60 else ((acts.len : Nat) : Int)) : Int).toNat) : Nat) : Int)) ∧ vPtr (cutA acts.a acts.cap 0 3) (fun a1 => ∃ Key1 : Int, Hp.cell? H2 ((a1.add ((x2 : Int).toNat * 3)).add 1) = some (.int .i8 Key1) ∧ 
 SCalls Try.prog sorted_Map_int_int_Put.id [.pointer (some (Addr.mk (Array.size H1) 0 none)), .int .i64 (w64 (Key)), .int .i64 (w64 ((w64 (Key1)) * 2))] H2 (fun r1 H3 => ∃ x3 : Bool, r1 = .bool x3 ∧ ((0 : Int) ≤ (w64 ((w64 ((((((if (60 : Int) < ((acts.len : Nat) : Int) then 60 else ((acts.len : Nat) : Int)) : Int).toNat) : Nat) : Int) - 1)) - x2)) ∧ (w64 ((w64 ((((((if (60 : Int) < ((acts.len : Nat) : Int) then 60 else ((acts.len : Nat) : Int)) : Int).toNat) : Nat) : Int) - 1)) - x2)) < (((((if (60 : Int) < ((acts.len : Nat) : Int) then 60 else ((acts.len : Nat) : Int)) : Int).toNat) : Nat) : Int)) ∧ vPtr (cutA acts.a acts.cap 0 3) (fun a2 => ∃ Opv : Int, ∃ Key2 : Int, ∃ Valuev : Int, RowAt H3 (a2.add (((w64 ((w64 ((((((if (60 : Int) < ((acts.len : Nat) : Int) then 60 else ((acts.len : Nat) : Int)) : Int).toNat) : Nat) : Int) - 1)) - x2)) : Int).toNat * 3)) [.int .u8 Opv, .int .i8 Key2, .int .u16 Valuev] ∧ ∃ x4 : Option Addr, Hp.cell? (holes H3 1) (Addr.mk (Array.size (Array.push (Array.push H1 (.cells #[.slice none 0 0] T_sorted_Map_int_int)) (.cells #[.slice none 0 0] T_sorted_Map_int_int))) 0 none) = some (.pointer x4) ∧ 
 SCalls Try.prog sorted_Map_int_int_Put.id [.pointer x4, .int .i64 (w64 (Key2)), .int .i64 (w64 ((w64 (Key2)) * 2))] (holes H3 1) (fun r2 H4 => ∃ x5 : Bool, r2 = .bool x5 ∧ 
 tephralaw05_SortedOrder.l1 J acts H H1 H4 (w64 (x2 + 1)) Q))))))
 (
  (
 SCalls Try.prog sorted_Map_int_int_Len.id [.pointer (some (Addr.mk (Array.size H1) 0 none))] H2 (fun r3 H5 => ∃ x6 : Int, r3 = .int .i64 x6 ∧ ∃ x7 : Option Addr, Hp.cell? H5 (Addr.mk (Array.size (Array.push (Array.push H1 (.cells #[.slice none 0 0] T_sorted_Map_int_int)) (.cells #[.slice none 0 0] T_sorted_Map_int_int))) 0 none) = some (.pointer x7) ∧ 
 SCalls Try.prog sorted_Map_int_int_Len.id [.pointer x7] H5 (fun r4 H6 => ∃ x8 : Int, r4 = .int .i64 x8 ∧ 
 Br (x6 != x8) (WrAt H6 (Addr.mk (Array.size H) 0 none) 1 ∧ ∃ x12 : Bool, Hp.cell? (Hp.setCell H6 (Addr.mk (Array.size H) 0 none) (.bool false)) (Addr.mk (Array.size H) 0 none) = some (.bool x12) ∧ Q (.bool x12) (Hp.setCell H6 (Addr.mk (Array.size H) 0 none) (.bool false)))
 (
 SCalls Try.prog sorted_Map_int_int_All.id [.pointer (some (Addr.mk (Array.size H1) 0 none))] H6 (fun r7 H9 => ∃ x14 : Fv, r7 = .func x14.fn x14.fi x14.ca ∧ 
 ∀ fn : FuncId, ∀ tm : Array Value, TmOf (tephralaw05_SortedOrder.r1.fr H H1) tm → vRg Try.prog (.func x14.fn x14.fi x14.ca) (Array.size H9 + 1) (Array.push (Array.push H9 hole) (tephralaw05_SortedOrder.r1.rec fn tm (Array.size H9) .ready none)) (fun H13 => ∃ st : LoopState, ∃ pd : Option Code, H13[(Array.size H9 + 1)]? = some (tephralaw05_SortedOrder.r1.rec fn tm (Array.size H9) st pd) ∧ st ≠ .busy ∧ ∀ H14 : Hp, H14 = (Array.setIfInBounds H13 (Array.size H9 + 1) (tephralaw05_SortedOrder.r1.rec fn tm (Array.size H9) .exhausted pd)) → ((pd = none → WrAt H14 (Addr.mk (Array.size H) 0 none) 1 ∧ ∃ x19 : Bool, Hp.cell? (Hp.setCell H14 (Addr.mk (Array.size H) 0 none) (.bool true)) (Addr.mk (Array.size H) 0 none) = some (.bool x19) ∧ Q (.bool x19) (Hp.setCell H14 (Addr.mk (Array.size H) 0 none) (.bool true))) ∧ (pd = some .ret → ∃ x18 : Bool, Hp.cell? H14 (Addr.mk (Array.size H) 0 none) = some (.bool x18) ∧ Q (.bool x18) H14) ∧ (True) ∧ (pd = none ∨ pd = some .ret ∨ ∃ i ∈ ([] : List Nat), pd = some (.exit i))))))))) ∧ 
  (∃ x9 : Option Addr, Hp.cell? H2 (Addr.mk (Array.size (Array.push (Array.push H1 (.cells #[.slice none 0 0] T_sorted_Map_int_int)) (.cells #[.slice none 0 0] T_sorted_Map_int_int))) 0 none) = some (.pointer x9) ∧ 
 SCalls Try.prog sorted_Map_int_int_Len.id [.pointer (some (Addr.mk (Array.size H1) 0 none))] H2 (fun r5 H7 => ∃ x10 : Int, r5 = .int .i64 x10 ∧ 
 SCalls Try.prog sorted_Map_int_int_Len.id [.pointer x9] H7 (fun r6 H8 => ∃ x11 : Int, r6 = .int .i64 x11 ∧ 
 Br (x10 != x11) (WrAt H8 (Addr.mk (Array.size H) 0 none) 1 ∧ ∃ x13 : Bool, Hp.cell? (Hp.setCell H8 (Addr.mk (Array.size H) 0 none) (.bool false)) (Addr.mk (Array.size H) 0 none) = some (.bool x13) ∧ Q (.bool x13) (Hp.setCell H8 (Addr.mk (Array.size H) 0 none) (.bool false)))
 (
 SCalls Try.prog sorted_Map_int_int_All.id [.pointer (some (Addr.mk (Array.size H1) 0 none))] H8 (fun r9 H15 => ∃ x20 : Fv, r9 = .func x20.fn x20.fi x20.ca ∧ 
 ∀ fn1 : FuncId, ∀ tm1 : Array Value, TmOf (tephralaw05_SortedOrder.r2.fr H H1) tm1 → vRg Try.prog (.func x20.fn x20.fi x20.ca) (Array.size H15 + 1) (Array.push (Array.push H15 hole) (tephralaw05_SortedOrder.r2.rec fn1 tm1 (Array.size H15) .ready none)) (fun H19 => ∃ st1 : LoopState, ∃ pd1 : Option Code, H19[(Array.size H15 + 1)]? = some (tephralaw05_SortedOrder.r2.rec fn1 tm1 (Array.size H15) st1 pd1) ∧ st1 ≠ .busy ∧ ∀ H20 : Hp, H20 = (Array.setIfInBounds H19 (Array.size H15 + 1) (tephralaw05_SortedOrder.r2.rec fn1 tm1 (Array.size H15) .exhausted pd1)) → ((pd1 = none → WrAt H20 (Addr.mk (Array.size H) 0 none) 1 ∧ ∃ x25 : Bool, Hp.cell? (Hp.setCell H20 (Addr.mk (Array.size H) 0 none) (.bool true)) (Addr.mk (Array.size H) 0 none) = some (.bool x25) ∧ Q (.bool x25) (Hp.setCell H20 (Addr.mk (Array.size H) 0 none) (.bool true))) ∧ (pd1 = some .ret → ∃ x24 : Bool, Hp.cell? H20 (Addr.mk (Array.size H) 0 none) = some (.bool x24) ∧ Q (.bool x24) H20) ∧ (True) ∧ (pd1 = none ∨ pd1 = some .ret ∨ ∃ i ∈ ([] : List Nat), pd1 = some (.exit i))))))))))
theorem tephralaw05_SortedOrder.l1.eq (J : Jn) (acts : Sl) (H : Hp) (H1 : Hp) (H2 : Hp) (x2 : Int) (Q : Value → Hp → Prop) : vAtBody Try.prog tephralaw05_SortedOrder.cf J tephralaw05_SortedOrder.fn [1, 1, 1, 1, 0, 1, 0] [0, 0, 0, 0, 0, 0] Q (tephralaw05_SortedOrder.l1.st acts H H1 H2 x2) = tephralaw05_SortedOrder.l1.body J acts H H1 H2 x2 Q := by kernel_rfl
theorem tephralaw05_SortedOrder.l1.step {acts : Sl} {H : Hp} {H1 : Hp} {H2 : Hp} {x2 : Int} {Q : Value → Hp → Prop} (h : tephralaw05_SortedOrder.l1.body J0 acts H H1 H2 x2 Q) : tephralaw05_SortedOrder.l1 J0 acts H H1 H2 x2 Q := vAt_stepC (tephralaw05_SortedOrder.l1.st acts H H1 H2 x2) (tephralaw05_SortedOrder.l1.eq J0 acts H H1 H2 x2 Q) (by kernel_rfl) h
noncomputable def tephralaw05_SortedOrder.r1.body (J : Jn) (H : Hp) (H1 : Hp) (l : Nat) (rc : LoopState → Option Code → Obj) (k : Int) (v : Int) (H10 : Hp) (Q : Value → Hp → Prop) : Prop :=
 H10[l]? = some (rc .ready none) ∧ ∀ H11 : Hp, H11 = (Array.setIfInBounds H10 l (rc .busy none)) → ∃ x15 : Option Addr, Hp.cell? H11 (Addr.mk (Array.size (Array.push (Array.push H1 (.cells #[.slice none 0 0] T_sorted_Map_int_int)) (.cells #[.slice none 0 0] T_sorted_Map_int_int))) 0 none) = some (.pointer x15) ∧ 
 SCalls Try.prog sorted_Map_int_int_Get.id [.pointer x15, .int .i64 k] H11 (fun r8 H12 => ∃ x16 : Int, ∃ x17 : Bool, r8 = .tuple #[.int .i64 x16, .bool x17] ∧ 
 Br (!x17) (WrAt H12 (Addr.mk (Array.size H) 0 none) 1 ∧ 
 ((∃ st : LoopState, ∃ pd : Option Code, (Hp.setCell H12 (Addr.mk (Array.size H) 0 none) (.bool false))[l]? = some (rc st pd)) ∧ Q (.bool false) (Array.setIfInBounds (Hp.setCell H12 (Addr.mk (Array.size H) 0 none) (.bool false)) l (rc .done (some .ret)))))
 (
 Br (x16 != v) (WrAt H12 (Addr.mk (Array.size H) 0 none) 1 ∧ 
 ((∃ st : LoopState, ∃ pd : Option Code, (Hp.setCell H12 (Addr.mk (Array.size H) 0 none) (.bool false))[l]? = some (rc st pd)) ∧ Q (.bool false) (Array.setIfInBounds (Hp.setCell H12 (Addr.mk (Array.size H) 0 none) (.bool false)) l (rc .done (some .ret)))))
 (
 ((∃ st : LoopState, ∃ pd : Option Code, H12[l]? = some (rc st pd)) ∧ Q (.bool true) (Array.setIfInBounds H12 l (rc .ready none))))))
theorem tephralaw05_SortedOrder.r1.eq (J : Jn) (H : Hp) (H1 : Hp) (l : Nat) (rc : LoopState → Option Code → Obj) (k : Int) (v : Int) (H10 : Hp) (Q : Value → Hp → Prop) : vRound Try.prog tephralaw05_SortedOrder.cfr J (rgA tephralaw05_SortedOrder.r1.code) (rgB tephralaw05_SortedOrder.r1.code) (setFr (tephralaw05_SortedOrder.r1.fr H H1) (rgP tephralaw05_SortedOrder.r1.code).toList [.int .i64 k, .int .i64 v]) l rc H10 Q = tephralaw05_SortedOrder.r1.body J H H1 l rc k v H10 Q := by kernel_rfl
theorem tephralaw05_SortedOrder.r1.calls {H : Hp} {H1 : Hp} {l : Nat} {k : Int} {v : Int} {H10 : Hp} {fnA : FuncId} {tmA : Array Value} {dA : Nat} {Q : Value → Hp → Prop} (hl : H10[l]? = some (tephralaw05_SortedOrder.r1.rec fnA tmA dA .ready none)) (hT : TmOf (tephralaw05_SortedOrder.r1.fr H H1) tmA) (h : tephralaw05_SortedOrder.r1.body J0 H H1 l (tephralaw05_SortedOrder.r1.rec fnA tmA dA) k v H10 Q) : YCalls Try.prog l [.int .i64 k, .int .i64 v] H10 Q := vRound_calls (cf := tephralaw05_SortedOrder.cfr) (fn := fnA) (tm := tmA) (ps := rgP tephralaw05_SortedOrder.r1.code) (asg := rgA tephralaw05_SortedOrder.r1.code) (body := rgB tephralaw05_SortedOrder.r1.code) (d := dA) (fr := (tephralaw05_SortedOrder.r1.fr H H1)) Try.mixed (by kernel_rfl) hl (by kernel_rfl) hT ((tephralaw05_SortedOrder.r1.eq J0 H H1 l (tephralaw05_SortedOrder.r1.rec fnA tmA dA) k v H10 Q).mpr h)
noncomputable def tephralaw05_SortedOrder.r2.body (J : Jn) (H : Hp) (H1 : Hp) (l1 : Nat) (rc1 : LoopState → Option Code → Obj) (k1 : Int) (v1 : Int) (H16 : Hp) (Q : Value → Hp → Prop) : Prop :=
 H16[l1]? = some (rc1 .ready none) ∧ ∀ H17 : Hp, H17 = (Array.setIfInBounds H16 l1 (rc1 .busy none)) → ∃ x21 : Option Addr, Hp.cell? H17 (Addr.mk (Array.size (Array.push (Array.push H1 (.cells #[.slice none 0 0] T_sorted_Map_int_int)) (.cells #[.slice none 0 0] T_sorted_Map_int_int))) 0 none) = some (.pointer x21) ∧ 
 SCalls Try.prog sorted_Map_int_int_Get.id [.pointer x21, .int .i64 k1] H17 (fun r10 H18 => ∃ x22 : Int, ∃ x23 : Bool, r10 = .tuple #[.int .i64 x22, .bool x23] ∧ 
 Br (!x23) (WrAt H18 (Addr.mk (Array.size H) 0 none) 1 ∧ 
 ((∃ st : LoopState, ∃ pd : Option Code, (Hp.setCell H18 (Addr.mk (Array.size H) 0 none) (.bool false))[l1]? = some (rc1 st pd)) ∧ Q (.bool false) (Array.setIfInBounds (Hp.setCell H18 (Addr.mk (Array.size H) 0 none) (.bool false)) l1 (rc1 .done (some .ret)))))
 (
 Br (x22 != v1) (WrAt H18 (Addr.mk (Array.size H) 0 none) 1 ∧ 
 ((∃ st : LoopState, ∃ pd : Option Code, (Hp.setCell H18 (Addr.mk (Array.size H) 0 none) (.bool false))[l1]? = some (rc1 st pd)) ∧ Q (.bool false) (Array.setIfInBounds (Hp.setCell H18 (Addr.mk (Array.size H) 0 none) (.bool false)) l1 (rc1 .done (some .ret)))))
 (
 ((∃ st : LoopState, ∃ pd : Option Code, H18[l1]? = some (rc1 st pd)) ∧ Q (.bool true) (Array.setIfInBounds H18 l1 (rc1 .ready none))))))
theorem tephralaw05_SortedOrder.r2.eq (J : Jn) (H : Hp) (H1 : Hp) (l1 : Nat) (rc1 : LoopState → Option Code → Obj) (k1 : Int) (v1 : Int) (H16 : Hp) (Q : Value → Hp → Prop) : vRound Try.prog tephralaw05_SortedOrder.cfr J (rgA tephralaw05_SortedOrder.r2.code) (rgB tephralaw05_SortedOrder.r2.code) (setFr (tephralaw05_SortedOrder.r2.fr H H1) (rgP tephralaw05_SortedOrder.r2.code).toList [.int .i64 k1, .int .i64 v1]) l1 rc1 H16 Q = tephralaw05_SortedOrder.r2.body J H H1 l1 rc1 k1 v1 H16 Q := by kernel_rfl
theorem tephralaw05_SortedOrder.r2.calls {H : Hp} {H1 : Hp} {l1 : Nat} {k1 : Int} {v1 : Int} {H16 : Hp} {fnA : FuncId} {tmA : Array Value} {dA : Nat} {Q : Value → Hp → Prop} (hl : H16[l1]? = some (tephralaw05_SortedOrder.r2.rec fnA tmA dA .ready none)) (hT : TmOf (tephralaw05_SortedOrder.r2.fr H H1) tmA) (h : tephralaw05_SortedOrder.r2.body J0 H H1 l1 (tephralaw05_SortedOrder.r2.rec fnA tmA dA) k1 v1 H16 Q) : YCalls Try.prog l1 [.int .i64 k1, .int .i64 v1] H16 Q := vRound_calls (cf := tephralaw05_SortedOrder.cfr) (fn := fnA) (tm := tmA) (ps := rgP tephralaw05_SortedOrder.r2.code) (asg := rgA tephralaw05_SortedOrder.r2.code) (body := rgB tephralaw05_SortedOrder.r2.code) (d := dA) (fr := (tephralaw05_SortedOrder.r2.fr H H1)) Try.mixed (by kernel_rfl) hl (by kernel_rfl) hT ((tephralaw05_SortedOrder.r2.eq J0 H H1 l1 (tephralaw05_SortedOrder.r2.rec fnA tmA dA) k1 v1 H16 Q).mpr h)
attribute [irreducible] tephralaw05_SortedOrder.r1.rec tephralaw05_SortedOrder.r1.fr tephralaw05_SortedOrder.r1.code tephralaw05_SortedOrder.r2.rec tephralaw05_SortedOrder.r2.fr tephralaw05_SortedOrder.r2.code
noncomputable def tephralaw05_SortedOrder.vc (J : Jn) (acts : Sl) (H : Hp) (Q : Value → Hp → Prop) : Prop :=
 
 SCalls Try.prog tephralaw05_awake.id [] (Array.push H (.cells #[.bool false] T_bool)) (fun r H1 => ∃ x : Bool, r = .bool x ∧ 
 Br (!x) (WrAt H1 (Addr.mk (Array.size H) 0 none) 1 ∧ ∃ x1 : Bool, Hp.cell? (Hp.setCell H1 (Addr.mk (Array.size H) 0 none) (.bool false)) (Addr.mk (Array.size H) 0 none) = some (.bool x1) ∧ Q (.bool x1) (Hp.setCell H1 (Addr.mk (Array.size H) 0 none) (.bool false)))
 (((0 : Int) ≤ (if (60 : Int) < ((acts.len : Nat) : Int) then 60 else ((acts.len : Nat) : Int)) ∧ (if (60 : Int) < ((acts.len : Nat) : Int) then 60 else ((acts.len : Nat) : Int)) ≤ ((acts.cap : Nat) : Int)) ∧ WrAt (Array.push (Array.push (Array.push H1 (.cells #[.slice none 0 0] T_sorted_Map_int_int)) (.cells #[.slice none 0 0] T_sorted_Map_int_int)) (.cells #[.pointer none] T_p_sorted_Map_int_int)) (Addr.mk (Array.size (Array.push (Array.push H1 (.cells #[.slice none 0 0] T_sorted_Map_int_int)) (.cells #[.slice none 0 0] T_sorted_Map_int_int))) 0 none) 1 ∧ 
 tephralaw05_SortedOrder.l1 J acts H H1 (Hp.setCell (Array.push (Array.push (Array.push H1 (.cells #[.slice none 0 0] T_sorted_Map_int_int)) (.cells #[.slice none 0 0] T_sorted_Map_int_int)) (.cells #[.pointer none] T_p_sorted_Map_int_int)) (Addr.mk (Array.size (Array.push (Array.push H1 (.cells #[.slice none 0 0] T_sorted_Map_int_int)) (.cells #[.slice none 0 0] T_sorted_Map_int_int))) 0 none) (.pointer (some (Addr.mk (Array.size (Array.push H1 (.cells #[.slice none 0 0] T_sorted_Map_int_int))) 0 none)))) 0 Q))
theorem tephralaw05_SortedOrder.eq (J : Jn) (acts : Sl) (H : Hp) (Q : Value → Hp → Prop) : vFn Try.prog tephralaw05_SortedOrder.cf J tephralaw05_SortedOrder.fn [.slice acts.a acts.len acts.cap] H Q = tephralaw05_SortedOrder.vc J acts H Q := by kernel_rfl
theorem tephralaw05_SortedOrder.calls {acts : Sl} {H : Hp} {Q : Value → Hp → Prop} (h : tephralaw05_SortedOrder.vc J0 acts H Q) : SCalls Try.prog tephralaw05_SortedOrder.id [.slice acts.a acts.len acts.cap] H Q := vFn_of Try.mixed Try.func3 (tephralaw05_SortedOrder.eq J0 acts H Q) h

/-! 7: tephra/tephralaw05.SortedMerge -/
noncomputable def tephralaw05_SortedMerge.cf : Cfg := ⟨[1000003], [(1000008, [6, 7, 8, 9, 10]), (1000017, [8, 9]), (1000021, [5, 11])], [(8, [5, 6, 7, 8, 9, 10, 11, 29], true), (11, [6, 9, 10, 12, 13, 14, 15], true), (21, [5, 6, 8, 9, 11, 79], true)], [(52, [6, 9, 10, 12, 52])], true⟩
noncomputable def tephralaw05_SortedMerge.cfr : Cfg := { tephralaw05_SortedMerge.cf with rf := false }
noncomputable def tephralaw05_SortedMerge.r1.fr (b2 : Nat) (b3 : Nat) (b4 : Nat) (b5 : Nat) (b6 : Nat) : List AV := mkFr 101 [(6, .v (.pointer (some (Addr.mk b2 0 none)))), (7, .v (.pointer (some (Addr.mk b3 0 none)))), (8, .v (.pointer (some (Addr.mk b4 0 none)))), (9, .v (.pointer (some (Addr.mk b5 0 none)))), (10, .v (.pointer (some (Addr.mk b6 0 none))))]
noncomputable def tephralaw05_SortedMerge.r1.code : Code := sub (bodyOf tephralaw05_SortedMerge.fn) [1, 1, 1, 1, 0, 1, 0]
noncomputable def tephralaw05_SortedMerge.r1.rec (fn : FuncId) (tm : Array Value) (d : Nat) (st : LoopState) (pd : Option Code) : Obj := recO fn tm (rgP tephralaw05_SortedMerge.r1.code) (rgA tephralaw05_SortedMerge.r1.code) (rgB tephralaw05_SortedMerge.r1.code) d st pd
noncomputable def tephralaw05_SortedMerge.r2.fr (b4 : Nat) (b5 : Nat) : List AV := mkFr 101 [(8, .v (.pointer (some (Addr.mk b4 0 none)))), (9, .v (.pointer (some (Addr.mk b5 0 none))))]
noncomputable def tephralaw05_SortedMerge.r2.code : Code := sub (bodyOf tephralaw05_SortedMerge.fn) [1, 1, 1, 1, 1, 0, 1, 0]
noncomputable def tephralaw05_SortedMerge.r2.rec (fn : FuncId) (tm : Array Value) (d : Nat) (st : LoopState) (pd : Option Code) : Obj := recO fn tm (rgP tephralaw05_SortedMerge.r2.code) (rgA tephralaw05_SortedMerge.r2.code) (rgB tephralaw05_SortedMerge.r2.code) d st pd
noncomputable def tephralaw05_SortedMerge.r3.fr (b1 : Nat) (b7 : Nat) : List AV := mkFr 101 [(5, .v (.pointer (some (Addr.mk b1 0 none)))), (11, .v (.pointer (some (Addr.mk b7 0 none))))]
noncomputable def tephralaw05_SortedMerge.r3.code : Code := sub (bodyOf tephralaw05_SortedMerge.fn) [1, 1, 1, 1, 1, 1, 0, 1, 0]
noncomputable def tephralaw05_SortedMerge.r3.rec (fn : FuncId) (tm : Array Value) (d : Nat) (st : LoopState) (pd : Option Code) : Obj := recO fn tm (rgP tephralaw05_SortedMerge.r3.code) (rgA tephralaw05_SortedMerge.r3.code) (rgB tephralaw05_SortedMerge.r3.code) d st pd
noncomputable def tephralaw05_SortedMerge.k1.st (b1 : Nat) (b2 : Nat) (b3 : Nat) (b4 : Nat) (b5 : Nat) (b6 : Nat) (b7 : Nat) (x13 : Fv) (H23 : Hp) : VS := ⟨mkFr 101 [(5, .v (.pointer (some (Addr.mk b1 0 none)))), (6, .v (.pointer (some (Addr.mk b2 0 none)))), (7, .v (.pointer (some (Addr.mk b3 0 none)))), (8, .v (.pointer (some (Addr.mk b4 0 none)))), (9, .v (.pointer (some (Addr.mk b5 0 none)))), (10, .v (.pointer (some (Addr.mk b6 0 none)))), (11, .v (.pointer (some (Addr.mk b7 0 none)))), (29, .v (.func x13.fn x13.fi x13.ca))], [], H23⟩
noncomputable def tephralaw05_SortedMerge.k1 (J : Jn) (b1 : Nat) (b2 : Nat) (b3 : Nat) (b4 : Nat) (b5 : Nat) (b6 : Nat) (b7 : Nat) (x13 : Fv) (H23 : Hp) (Q : Value → Hp → Prop) : Prop := J (vSeg Try.prog tephralaw05_SortedMerge.cf J tephralaw05_SortedMerge.fn [1, 1, 1, 1, 0, 1] [0, 0, 0, 0, 0, 0] Q) (tephralaw05_SortedMerge.k1.st b1 b2 b3 b4 b5 b6 b7 x13 H23)
noncomputable def tephralaw05_SortedMerge.k2.st (b2 : Nat) (b5 : Nat) (b6 : Nat) (k : Int) (v : Int) (w : Int) (ok : Bool) (H28 : Hp) : VS := ⟨mkFr 101 [(6, .v (.pointer (some (Addr.mk b2 0 none)))), (9, .v (.pointer (some (Addr.mk b5 0 none)))), (10, .v (.pointer (some (Addr.mk b6 0 none)))), (12, .v (.int .i64 k)), (13, .v (.int .i64 v)), (14, .v (.int .i64 w)), (15, .v (.bool ok))], [], H28⟩
noncomputable def tephralaw05_SortedMerge.k2 (J : Jn) (b2 : Nat) (b5 : Nat) (b6 : Nat) (l : Nat) (rc : LoopState → Option Code → Obj) (k : Int) (v : Int) (w : Int) (ok : Bool) (H28 : Hp) (Q : Value → Hp → Prop) : Prop := J (vSegC Try.prog tephralaw05_SortedMerge.cfr J (rgB tephralaw05_SortedMerge.r1.code) [0, 1, 1] [0, 0] (roundK l rc Q)) (tephralaw05_SortedMerge.k2.st b2 b5 b6 k v w ok H28)
noncomputable def tephralaw05_SortedMerge.k3.st (b2 : Nat) (b5 : Nat) (b6 : Nat) (k : Int) (H28 : Hp) (x20 : Bool) : VS := ⟨mkFr 101 [(6, .v (.pointer (some (Addr.mk b2 0 none)))), (9, .v (.pointer (some (Addr.mk b5 0 none)))), (10, .v (.pointer (some (Addr.mk b6 0 none)))), (12, .v (.int .i64 k)), (52, .v (.bool x20))], [], H28⟩
noncomputable def tephralaw05_SortedMerge.k3 (J : Jn) (b2 : Nat) (b5 : Nat) (b6 : Nat) (l : Nat) (rc : LoopState → Option Code → Obj) (k : Int) (H28 : Hp) (x20 : Bool) (Q : Value → Hp → Prop) : Prop := J (vMidC Try.prog tephralaw05_SortedMerge.cfr J (rgB tephralaw05_SortedMerge.r1.code) [0, 1, 1, 0, 0] [0, 0, 0, 0] 7 (roundK l rc Q)) (tephralaw05_SortedMerge.k3.st b2 b5 b6 k H28 x20)
noncomputable def tephralaw05_SortedMerge.k4.st (b1 : Nat) (b2 : Nat) (b4 : Nat) (b5 : Nat) (b7 : Nat) (x40 : Fv) (H48 : Hp) : VS := ⟨mkFr 101 [(5, .v (.pointer (some (Addr.mk b1 0 none)))), (6, .v (.pointer (some (Addr.mk b2 0 none)))), (8, .v (.pointer (some (Addr.mk b4 0 none)))), (9, .v (.pointer (some (Addr.mk b5 0 none)))), (11, .v (.pointer (some (Addr.mk b7 0 none)))), (79, .v (.func x40.fn x40.fi x40.ca))], [], H48⟩
noncomputable def tephralaw05_SortedMerge.k4 (J : Jn) (b1 : Nat) (b2 : Nat) (b4 : Nat) (b5 : Nat) (b7 : Nat) (x40 : Fv) (H48 : Hp) (Q : Value → Hp → Prop) : Prop := J (vSeg Try.prog tephralaw05_SortedMerge.cf J tephralaw05_SortedMerge.fn [1, 1, 1, 1, 1, 1, 0, 1] [0, 0, 0, 0, 0, 0, 0, 0] Q) (tephralaw05_SortedMerge.k4.st b1 b2 b4 b5 b7 x40 H48)
attribute [irreducible] tephralaw05_SortedMerge.k1 tephralaw05_SortedMerge.k2 tephralaw05_SortedMerge.k3 tephralaw05_SortedMerge.k4
noncomputable def tephralaw05_SortedMerge.k1.body (J : Jn) (b1 : Nat) (b2 : Nat) (b3 : Nat) (b4 : Nat) (b5 : Nat) (b6 : Nat) (b7 : Nat) (x13 : Fv) (H23 : Hp) (Q : Value → Hp → Prop) : Prop :=
 
 ∀ fn : FuncId, ∀ tm : Array Value, TmOf (tephralaw05_SortedMerge.r1.fr b2 b3 b4 b5 b6) tm → vRg Try.prog (.func x13.fn x13.fi x13.ca) (Array.size H23 + 1) (Array.push (Array.push H23 hole) (tephralaw05_SortedMerge.r1.rec fn tm (Array.size H23) .ready none)) (fun H33 => ∃ st : LoopState, ∃ pd : Option Code, H33[(Array.size H23 + 1)]? = some (tephralaw05_SortedMerge.r1.rec fn tm (Array.size H23) st pd) ∧ st ≠ .busy ∧ ∀ H34 : Hp, H34 = (Array.setIfInBounds H33 (Array.size H23 + 1) (tephralaw05_SortedMerge.r1.rec fn tm (Array.size H23) .exhausted pd)) → ((pd = none → ∃ x24 : Option Addr, Hp.cell? H34 (Addr.mk b3 0 none) = some (.pointer x24) ∧ 
 SCalls Try.prog sorted_Map_int_int_All.id [.pointer x24] H34 (fun r11 H35 => ∃ x25 : Fv, r11 = .func x25.fn x25.fi x25.ca ∧ 
 ∀ fn1 : FuncId, ∀ tm1 : Array Value, TmOf (tephralaw05_SortedMerge.r2.fr b4 b5) tm1 → vRg Try.prog (.func x25.fn x25.fi x25.ca) (Array.size H35 + 1) (Array.push (Array.push H35 hole) (tephralaw05_SortedMerge.r2.rec fn1 tm1 (Array.size H35) .ready none)) (fun H40 => ∃ st1 : LoopState, ∃ pd1 : Option Code, H40[(Array.size H35 + 1)]? = some (tephralaw05_SortedMerge.r2.rec fn1 tm1 (Array.size H35) st1 pd1) ∧ st1 ≠ .busy ∧ ∀ H41 : Hp, H41 = (Array.setIfInBounds H40 (Array.size H35 + 1) (tephralaw05_SortedMerge.r2.rec fn1 tm1 (Array.size H35) .exhausted pd1)) → ((pd1 = none → ∃ x31 : Option Addr, Hp.cell? H41 (Addr.mk b3 0 none) = some (.pointer x31) ∧ 
  (
 SCalls Try.prog sorted_Map_int_int_All.id [.pointer x31] H41 (fun r13 H42 => ∃ x32 : Fv, r13 = .func x32.fn x32.fi x32.ca ∧ ∃ x33 : Option Addr, Hp.cell? H42 (Addr.mk b4 0 none) = some (.pointer x33) ∧ 
 SCalls Try.prog sorted_Map_int_int_All.id [.pointer x33] H42 (fun r14 H43 => ∃ x34 : Fv, r14 = .func x34.fn x34.fi x34.ca ∧ 
 SCalls Try.prog sorted_Merge_int_int.id [.func x32.fn x32.fi x32.ca, .func x34.fn x34.fi x34.ca] H43 (fun r15 H44 => ∃ x35 : Fv, r15 = .func x35.fn x35.fi x35.ca ∧ 
 tephralaw05_SortedMerge.k4 J b1 b2 b4 b5 b7 x35 H44 Q)))) ∧ 
  (∃ x36 : Option Addr, Hp.cell? H41 (Addr.mk b4 0 none) = some (.pointer x36) ∧ 
 SCalls Try.prog sorted_Map_int_int_All.id [.pointer x31] H41 (fun r16 H45 => ∃ x37 : Fv, r16 = .func x37.fn x37.fi x37.ca ∧ 
 SCalls Try.prog sorted_Map_int_int_All.id [.pointer x36] H45 (fun r17 H46 => ∃ x38 : Fv, r17 = .func x38.fn x38.fi x38.ca ∧ 
 SCalls Try.prog sorted_Merge_int_int.id [.func x37.fn x37.fi x37.ca, .func x38.fn x38.fi x38.ca] H46 (fun r18 H47 => ∃ x39 : Fv, r18 = .func x39.fn x39.fi x39.ca ∧ 
 tephralaw05_SortedMerge.k4 J b1 b2 b4 b5 b7 x39 H47 Q))))) ∧ (pd1 = some .ret → ∃ x30 : Bool, Hp.cell? H41 (Addr.mk b2 0 none) = some (.bool x30) ∧ Q (.bool x30) H41) ∧ (True) ∧ (pd1 = none ∨ pd1 = some .ret ∨ ∃ i ∈ ([] : List Nat), pd1 = some (.exit i)))))) ∧ (pd = some .ret → ∃ x23 : Bool, Hp.cell? H34 (Addr.mk b2 0 none) = some (.bool x23) ∧ Q (.bool x23) H34) ∧ (True) ∧ (pd = none ∨ pd = some .ret ∨ ∃ i ∈ ([] : List Nat), pd = some (.exit i))))
theorem tephralaw05_SortedMerge.k1.eq (J : Jn) (b1 : Nat) (b2 : Nat) (b3 : Nat) (b4 : Nat) (b5 : Nat) (b6 : Nat) (b7 : Nat) (x13 : Fv) (H23 : Hp) (Q : Value → Hp → Prop) : vSeg Try.prog tephralaw05_SortedMerge.cf J tephralaw05_SortedMerge.fn [1, 1, 1, 1, 0, 1] [0, 0, 0, 0, 0, 0] Q (tephralaw05_SortedMerge.k1.st b1 b2 b3 b4 b5 b6 b7 x13 H23) = tephralaw05_SortedMerge.k1.body J b1 b2 b3 b4 b5 b6 b7 x13 H23 Q := by kernel_rfl
theorem tephralaw05_SortedMerge.k1.step {b1 : Nat} {b2 : Nat} {b3 : Nat} {b4 : Nat} {b5 : Nat} {b6 : Nat} {b7 : Nat} {x13 : Fv} {H23 : Hp} {Q : Value → Hp → Prop} (h : tephralaw05_SortedMerge.k1.body J0 b1 b2 b3 b4 b5 b6 b7 x13 H23 Q) : tephralaw05_SortedMerge.k1 J0 b1 b2 b3 b4 b5 b6 b7 x13 H23 Q := step_of (vSeg Try.prog tephralaw05_SortedMerge.cf J0 tephralaw05_SortedMerge.fn [1, 1, 1, 1, 0, 1] [0, 0, 0, 0, 0, 0] Q) (tephralaw05_SortedMerge.k1.st b1 b2 b3 b4 b5 b6 b7 x13 H23) (tephralaw05_SortedMerge.k1.eq J0 b1 b2 b3 b4 b5 b6 b7 x13 H23 Q) (by kernel_rfl) h
noncomputable def tephralaw05_SortedMerge.k2.body (J : Jn) (b2 : Nat) (b5 : Nat) (b6 : Nat) (l : Nat) (rc : LoopState → Option Code → Obj) (k : Int) (v : Int) (w : Int) (ok : Bool) (H28 : Hp) (Q : Value → Hp → Prop) : Prop :=
 
 Br (!ok) (
 tephralaw05_SortedMerge.k3 J b2 b5 b6 l rc k H28 true Q)
 (
 tephralaw05_SortedMerge.k3 J b2 b5 b6 l rc k H28 (w != v) Q)
theorem tephralaw05_SortedMerge.k2.eq (J : Jn) (b2 : Nat) (b5 : Nat) (b6 : Nat) (l : Nat) (rc : LoopState → Option Code → Obj) (k : Int) (v : Int) (w : Int) (ok : Bool) (H28 : Hp) (Q : Value → Hp → Prop) : vSegC Try.prog tephralaw05_SortedMerge.cfr J (rgB tephralaw05_SortedMerge.r1.code) [0, 1, 1] [0, 0] (roundK l rc Q) (tephralaw05_SortedMerge.k2.st b2 b5 b6 k v w ok H28) = tephralaw05_SortedMerge.k2.body J b2 b5 b6 l rc k v w ok H28 Q := by kernel_rfl
theorem tephralaw05_SortedMerge.k2.step {b2 : Nat} {b5 : Nat} {b6 : Nat} {l : Nat} {rc : LoopState → Option Code → Obj} {k : Int} {v : Int} {w : Int} {ok : Bool} {H28 : Hp} {Q : Value → Hp → Prop} (h : tephralaw05_SortedMerge.k2.body J0 b2 b5 b6 l rc k v w ok H28 Q) : tephralaw05_SortedMerge.k2 J0 b2 b5 b6 l rc k v w ok H28 Q := step_of (vSegC Try.prog tephralaw05_SortedMerge.cfr J0 (rgB tephralaw05_SortedMerge.r1.code) [0, 1, 1] [0, 0] (roundK l rc Q)) (tephralaw05_SortedMerge.k2.st b2 b5 b6 k v w ok H28) (tephralaw05_SortedMerge.k2.eq J0 b2 b5 b6 l rc k v w ok H28 Q) (by kernel_rfl) h
noncomputable def tephralaw05_SortedMerge.k3.body (J : Jn) (b2 : Nat) (b5 : Nat) (b6 : Nat) (l : Nat) (rc : LoopState → Option Code → Obj) (k : Int) (H28 : Hp) (x20 : Bool) (Q : Value → Hp → Prop) : Prop :=
 
 Br x20 (WrAt H28 (Addr.mk b2 0 none) 1 ∧ ∀ H29 : Hp, H29 = (Hp.setCell H28 (Addr.mk b2 0 none) (.bool false)) → 
 ((∃ st : LoopState, ∃ pd : Option Code, H29[l]? = some (rc st pd)) ∧ Q (.bool false) (Array.setIfInBounds H29 l (rc .done (some .ret)))))
 (∃ x21 : Int, Hp.cell? H28 (Addr.mk b6 0 none) = some (.int .i64 x21) ∧ 
 Br (decide (k ≤ x21)) (WrAt H28 (Addr.mk b2 0 none) 1 ∧ ∀ H30 : Hp, H30 = (Hp.setCell H28 (Addr.mk b2 0 none) (.bool false)) → 
 ((∃ st : LoopState, ∃ pd : Option Code, H30[l]? = some (rc st pd)) ∧ Q (.bool false) (Array.setIfInBounds H30 l (rc .done (some .ret)))))
 (WrAt H28 (Addr.mk b6 0 none) 1 ∧ ∀ H31 : Hp, H31 = (Hp.setCell H28 (Addr.mk b6 0 none) (.int .i64 k)) → ∃ x22 : Int, Hp.cell? H31 (Addr.mk b5 0 none) = some (.int .i64 x22) ∧ WrAt H31 (Addr.mk b5 0 none) 1 ∧ ∀ H32 : Hp, H32 = (Hp.setCell H31 (Addr.mk b5 0 none) (.int .i64 (w64 (x22 + 1)))) → 
 ((∃ st : LoopState, ∃ pd : Option Code, H32[l]? = some (rc st pd)) ∧ Q (.bool true) (Array.setIfInBounds H32 l (rc .ready none)))))
theorem tephralaw05_SortedMerge.k3.eq (J : Jn) (b2 : Nat) (b5 : Nat) (b6 : Nat) (l : Nat) (rc : LoopState → Option Code → Obj) (k : Int) (H28 : Hp) (x20 : Bool) (Q : Value → Hp → Prop) : vMidC Try.prog tephralaw05_SortedMerge.cfr J (rgB tephralaw05_SortedMerge.r1.code) [0, 1, 1, 0, 0] [0, 0, 0, 0] 7 (roundK l rc Q) (tephralaw05_SortedMerge.k3.st b2 b5 b6 k H28 x20) = tephralaw05_SortedMerge.k3.body J b2 b5 b6 l rc k H28 x20 Q := by kernel_rfl
theorem tephralaw05_SortedMerge.k3.step {b2 : Nat} {b5 : Nat} {b6 : Nat} {l : Nat} {rc : LoopState → Option Code → Obj} {k : Int} {H28 : Hp} {x20 : Bool} {Q : Value → Hp → Prop} (h : tephralaw05_SortedMerge.k3.body J0 b2 b5 b6 l rc k H28 x20 Q) : tephralaw05_SortedMerge.k3 J0 b2 b5 b6 l rc k H28 x20 Q := step_of (vMidC Try.prog tephralaw05_SortedMerge.cfr J0 (rgB tephralaw05_SortedMerge.r1.code) [0, 1, 1, 0, 0] [0, 0, 0, 0] 7 (roundK l rc Q)) (tephralaw05_SortedMerge.k3.st b2 b5 b6 k H28 x20) (tephralaw05_SortedMerge.k3.eq J0 b2 b5 b6 l rc k H28 x20 Q) (by kernel_rfl) h
noncomputable def tephralaw05_SortedMerge.k4.body (J : Jn) (b1 : Nat) (b2 : Nat) (b4 : Nat) (b5 : Nat) (b7 : Nat) (x40 : Fv) (H48 : Hp) (Q : Value → Hp → Prop) : Prop :=
 
 ∀ fn2 : FuncId, ∀ tm2 : Array Value, TmOf (tephralaw05_SortedMerge.r3.fr b1 b7) tm2 → vRg Try.prog (.func x40.fn x40.fi x40.ca) (Array.size H48 + 1) (Array.push (Array.push H48 hole) (tephralaw05_SortedMerge.r3.rec fn2 tm2 (Array.size H48) .ready none)) (fun H52 => ∃ st2 : LoopState, ∃ pd2 : Option Code, H52[(Array.size H48 + 1)]? = some (tephralaw05_SortedMerge.r3.rec fn2 tm2 (Array.size H48) st2 pd2) ∧ st2 ≠ .busy ∧ ∀ H53 : Hp, H53 = (Array.setIfInBounds H52 (Array.size H48 + 1) (tephralaw05_SortedMerge.r3.rec fn2 tm2 (Array.size H48) .exhausted pd2)) → ((pd2 = none → ∃ x45 : Option Addr, Hp.cell? H53 (Addr.mk b4 0 none) = some (.pointer x45) ∧ 
  (∃ x46 : Int, Hp.cell? H53 (Addr.mk b5 0 none) = some (.int .i64 x46) ∧ 
 SCalls Try.prog sorted_Map_int_int_Len.id [.pointer x45] H53 (fun r19 H54 => ∃ x47 : Int, r19 = .int .i64 x47 ∧ 
 Br (x46 == x47) (∃ x48 : Int, Hp.cell? H54 (Addr.mk b7 0 none) = some (.int .i64 x48) ∧ ∃ x49 : Int, Hp.cell? H54 (Addr.mk b1 0 none) = some (.int .u8 x49) ∧ (70 : Int) ≠ 0 ∧ WrAt H54 (Addr.mk b2 0 none) 1 ∧ ∀ H55 : Hp, H55 = (Hp.setCell H54 (Addr.mk b2 0 none) (.bool (decide (x48 ≤ (w64 ((w64 ((Int.tmod x49 70))) + 1)))))) → ∃ x54 : Bool, Hp.cell? H55 (Addr.mk b2 0 none) = some (.bool x54) ∧ Q (.bool x54) H55)
 (WrAt H54 (Addr.mk b2 0 none) 1 ∧ ∀ H56 : Hp, H56 = (Hp.setCell H54 (Addr.mk b2 0 none) (.bool false)) → ∃ x55 : Bool, Hp.cell? H56 (Addr.mk b2 0 none) = some (.bool x55) ∧ Q (.bool x55) H56))) ∧ 
  (
 SCalls Try.prog sorted_Map_int_int_Len.id [.pointer x45] H53 (fun r20 H57 => ∃ x50 : Int, r20 = .int .i64 x50 ∧ ∃ x51 : Int, Hp.cell? H57 (Addr.mk b5 0 none) = some (.int .i64 x51) ∧ 
 Br (x51 == x50) (∃ x52 : Int, Hp.cell? H57 (Addr.mk b7 0 none) = some (.int .i64 x52) ∧ ∃ x53 : Int, Hp.cell? H57 (Addr.mk b1 0 none) = some (.int .u8 x53) ∧ (70 : Int) ≠ 0 ∧ WrAt H57 (Addr.mk b2 0 none) 1 ∧ ∀ H58 : Hp, H58 = (Hp.setCell H57 (Addr.mk b2 0 none) (.bool (decide (x52 ≤ (w64 ((w64 ((Int.tmod x53 70))) + 1)))))) → ∃ x56 : Bool, Hp.cell? H58 (Addr.mk b2 0 none) = some (.bool x56) ∧ Q (.bool x56) H58)
 (WrAt H57 (Addr.mk b2 0 none) 1 ∧ ∀ H59 : Hp, H59 = (Hp.setCell H57 (Addr.mk b2 0 none) (.bool false)) → ∃ x57 : Bool, Hp.cell? H59 (Addr.mk b2 0 none) = some (.bool x57) ∧ Q (.bool x57) H59)))) ∧ (pd2 = some .ret → ∃ x44 : Bool, Hp.cell? H53 (Addr.mk b2 0 none) = some (.bool x44) ∧ Q (.bool x44) H53) ∧ ((pd2 = some (.exit 4) → ∃ x58 : Option Addr, Hp.cell? H53 (Addr.mk b4 0 none) = some (.pointer x58) ∧ 
  (∃ x59 : Int, Hp.cell? H53 (Addr.mk b5 0 none) = some (.int .i64 x59) ∧ 
 SCalls Try.prog sorted_Map_int_int_Len.id [.pointer x58] H53 (fun r21 H60 => ∃ x60 : Int, r21 = .int .i64 x60 ∧ 
 Br (x59 == x60) (∃ x61 : Int, Hp.cell? H60 (Addr.mk b7 0 none) = some (.int .i64 x61) ∧ ∃ x62 : Int, Hp.cell? H60 (Addr.mk b1 0 none) = some (.int .u8 x62) ∧ (70 : Int) ≠ 0 ∧ WrAt H60 (Addr.mk b2 0 none) 1 ∧ ∀ H61 : Hp, H61 = (Hp.setCell H60 (Addr.mk b2 0 none) (.bool (decide (x61 ≤ (w64 ((w64 ((Int.tmod x62 70))) + 1)))))) → ∃ x67 : Bool, Hp.cell? H61 (Addr.mk b2 0 none) = some (.bool x67) ∧ Q (.bool x67) H61)
 (WrAt H60 (Addr.mk b2 0 none) 1 ∧ ∀ H62 : Hp, H62 = (Hp.setCell H60 (Addr.mk b2 0 none) (.bool false)) → ∃ x68 : Bool, Hp.cell? H62 (Addr.mk b2 0 none) = some (.bool x68) ∧ Q (.bool x68) H62))) ∧ 
  (
 SCalls Try.prog sorted_Map_int_int_Len.id [.pointer x58] H53 (fun r22 H63 => ∃ x63 : Int, r22 = .int .i64 x63 ∧ ∃ x64 : Int, Hp.cell? H63 (Addr.mk b5 0 none) = some (.int .i64 x64) ∧ 
 Br (x64 == x63) (∃ x65 : Int, Hp.cell? H63 (Addr.mk b7 0 none) = some (.int .i64 x65) ∧ ∃ x66 : Int, Hp.cell? H63 (Addr.mk b1 0 none) = some (.int .u8 x66) ∧ (70 : Int) ≠ 0 ∧ WrAt H63 (Addr.mk b2 0 none) 1 ∧ ∀ H64 : Hp, H64 = (Hp.setCell H63 (Addr.mk b2 0 none) (.bool (decide (x65 ≤ (w64 ((w64 ((Int.tmod x66 70))) + 1)))))) → ∃ x69 : Bool, Hp.cell? H64 (Addr.mk b2 0 none) = some (.bool x69) ∧ Q (.bool x69) H64)
 (WrAt H63 (Addr.mk b2 0 none) 1 ∧ ∀ H65 : Hp, H65 = (Hp.setCell H63 (Addr.mk b2 0 none) (.bool false)) → ∃ x70 : Bool, Hp.cell? H65 (Addr.mk b2 0 none) = some (.bool x70) ∧ Q (.bool x70) H65)))) ∧ True) ∧ (pd2 = none ∨ pd2 = some .ret ∨ ∃ i ∈ ([4] : List Nat), pd2 = some (.exit i))))
theorem tephralaw05_SortedMerge.k4.eq (J : Jn) (b1 : Nat) (b2 : Nat) (b4 : Nat) (b5 : Nat) (b7 : Nat) (x40 : Fv) (H48 : Hp) (Q : Value → Hp → Prop) : vSeg Try.prog tephralaw05_SortedMerge.cf J tephralaw05_SortedMerge.fn [1, 1, 1, 1, 1, 1, 0, 1] [0, 0, 0, 0, 0, 0, 0, 0] Q (tephralaw05_SortedMerge.k4.st b1 b2 b4 b5 b7 x40 H48) = tephralaw05_SortedMerge.k4.body J b1 b2 b4 b5 b7 x40 H48 Q := by kernel_rfl
theorem tephralaw05_SortedMerge.k4.step {b1 : Nat} {b2 : Nat} {b4 : Nat} {b5 : Nat} {b7 : Nat} {x40 : Fv} {H48 : Hp} {Q : Value → Hp → Prop} (h : tephralaw05_SortedMerge.k4.body J0 b1 b2 b4 b5 b7 x40 H48 Q) : tephralaw05_SortedMerge.k4 J0 b1 b2 b4 b5 b7 x40 H48 Q := step_of (vSeg Try.prog tephralaw05_SortedMerge.cf J0 tephralaw05_SortedMerge.fn [1, 1, 1, 1, 1, 1, 0, 1] [0, 0, 0, 0, 0, 0, 0, 0] Q) (tephralaw05_SortedMerge.k4.st b1 b2 b4 b5 b7 x40 H48) (tephralaw05_SortedMerge.k4.eq J0 b1 b2 b4 b5 b7 x40 H48 Q) (by kernel_rfl) h
noncomputable def tephralaw05_SortedMerge.r1.body (J : Jn) (b2 : Nat) (b3 : Nat) (b4 : Nat) (b5 : Nat) (b6 : Nat) (l : Nat) (rc : LoopState → Option Code → Obj) (k : Int) (v : Int) (H24 : Hp) (Q : Value → Hp → Prop) : Prop :=
 H24[l]? = some (rc .ready none) ∧ ∀ H25 : Hp, H25 = (Array.setIfInBounds H24 l (rc .busy none)) → ∃ x14 : Option Addr, Hp.cell? H25 (Addr.mk b4 0 none) = some (.pointer x14) ∧ 
 SCalls Try.prog sorted_Map_int_int_Get.id [.pointer x14, .int .i64 k] H25 (fun r9 H26 => ∃ x15 : Int, ∃ x16 : Bool, r9 = .tuple #[.int .i64 x15, .bool x16] ∧ 
 Br (!x16) (∃ x17 : Option Addr, Hp.cell? H26 (Addr.mk b3 0 none) = some (.pointer x17) ∧ 
 SCalls Try.prog sorted_Map_int_int_Get.id [.pointer x17, .int .i64 k] H26 (fun r10 H27 => ∃ x18 : Int, ∃ x19 : Bool, r10 = .tuple #[.int .i64 x18, .bool x19] ∧ 
 tephralaw05_SortedMerge.k2 J b2 b5 b6 l rc k v x18 x19 H27 Q))
 (
 tephralaw05_SortedMerge.k2 J b2 b5 b6 l rc k v x15 x16 H26 Q))
theorem tephralaw05_SortedMerge.r1.eq (J : Jn) (b2 : Nat) (b3 : Nat) (b4 : Nat) (b5 : Nat) (b6 : Nat) (l : Nat) (rc : LoopState → Option Code → Obj) (k : Int) (v : Int) (H24 : Hp) (Q : Value → Hp → Prop) : vRound Try.prog tephralaw05_SortedMerge.cfr J (rgA tephralaw05_SortedMerge.r1.code) (rgB tephralaw05_SortedMerge.r1.code) (setFr (tephralaw05_SortedMerge.r1.fr b2 b3 b4 b5 b6) (rgP tephralaw05_SortedMerge.r1.code).toList [.int .i64 k, .int .i64 v]) l rc H24 Q = tephralaw05_SortedMerge.r1.body J b2 b3 b4 b5 b6 l rc k v H24 Q := by kernel_rfl
theorem tephralaw05_SortedMerge.r1.calls {b2 : Nat} {b3 : Nat} {b4 : Nat} {b5 : Nat} {b6 : Nat} {l : Nat} {k : Int} {v : Int} {H24 : Hp} {fnA : FuncId} {tmA : Array Value} {dA : Nat} {Q : Value → Hp → Prop} (hl : H24[l]? = some (tephralaw05_SortedMerge.r1.rec fnA tmA dA .ready none)) (hT : TmOf (tephralaw05_SortedMerge.r1.fr b2 b3 b4 b5 b6) tmA) (h : tephralaw05_SortedMerge.r1.body J0 b2 b3 b4 b5 b6 l (tephralaw05_SortedMerge.r1.rec fnA tmA dA) k v H24 Q) : YCalls Try.prog l [.int .i64 k, .int .i64 v] H24 Q := vRound_calls (cf := tephralaw05_SortedMerge.cfr) (fn := fnA) (tm := tmA) (ps := rgP tephralaw05_SortedMerge.r1.code) (asg := rgA tephralaw05_SortedMerge.r1.code) (body := rgB tephralaw05_SortedMerge.r1.code) (d := dA) (fr := (tephralaw05_SortedMerge.r1.fr b2 b3 b4 b5 b6)) Try.mixed (by kernel_rfl) hl (by kernel_rfl) hT ((tephralaw05_SortedMerge.r1.eq J0 b2 b3 b4 b5 b6 l (tephralaw05_SortedMerge.r1.rec fnA tmA dA) k v H24 Q).mpr h)
noncomputable def tephralaw05_SortedMerge.r2.body (J : Jn) (b4 : Nat) (b5 : Nat) (l1 : Nat) (rc1 : LoopState → Option Code → Obj) (k1 : Int) (v1 : Int) (H36 : Hp) (Q : Value → Hp → Prop) : Prop :=
 H36[l1]? = some (rc1 .ready none) ∧ ∀ H37 : Hp, H37 = (Array.setIfInBounds H36 l1 (rc1 .busy none)) → ∃ x26 : Option Addr, Hp.cell? H37 (Addr.mk b4 0 none) = some (.pointer x26) ∧ 
 SCalls Try.prog sorted_Map_int_int_Get.id [.pointer x26, .int .i64 k1] H37 (fun r12 H38 => ∃ x27 : Int, ∃ x28 : Bool, r12 = .tuple #[.int .i64 x27, .bool x28] ∧ 
 Br (!x28) (∃ x29 : Int, Hp.cell? H38 (Addr.mk b5 0 none) = some (.int .i64 x29) ∧ WrAt H38 (Addr.mk b5 0 none) 1 ∧ ∀ H39 : Hp, H39 = (Hp.setCell H38 (Addr.mk b5 0 none) (.int .i64 (w64 (x29 - 1)))) → 
 ((∃ st : LoopState, ∃ pd : Option Code, H39[l1]? = some (rc1 st pd)) ∧ Q (.bool true) (Array.setIfInBounds H39 l1 (rc1 .ready none))))
 (
 ((∃ st : LoopState, ∃ pd : Option Code, H38[l1]? = some (rc1 st pd)) ∧ Q (.bool true) (Array.setIfInBounds H38 l1 (rc1 .ready none)))))
theorem tephralaw05_SortedMerge.r2.eq (J : Jn) (b4 : Nat) (b5 : Nat) (l1 : Nat) (rc1 : LoopState → Option Code → Obj) (k1 : Int) (v1 : Int) (H36 : Hp) (Q : Value → Hp → Prop) : vRound Try.prog tephralaw05_SortedMerge.cfr J (rgA tephralaw05_SortedMerge.r2.code) (rgB tephralaw05_SortedMerge.r2.code) (setFr (tephralaw05_SortedMerge.r2.fr b4 b5) (rgP tephralaw05_SortedMerge.r2.code).toList [.int .i64 k1, .int .i64 v1]) l1 rc1 H36 Q = tephralaw05_SortedMerge.r2.body J b4 b5 l1 rc1 k1 v1 H36 Q := by kernel_rfl
theorem tephralaw05_SortedMerge.r2.calls {b4 : Nat} {b5 : Nat} {l1 : Nat} {k1 : Int} {v1 : Int} {H36 : Hp} {fnA : FuncId} {tmA : Array Value} {dA : Nat} {Q : Value → Hp → Prop} (hl : H36[l1]? = some (tephralaw05_SortedMerge.r2.rec fnA tmA dA .ready none)) (hT : TmOf (tephralaw05_SortedMerge.r2.fr b4 b5) tmA) (h : tephralaw05_SortedMerge.r2.body J0 b4 b5 l1 (tephralaw05_SortedMerge.r2.rec fnA tmA dA) k1 v1 H36 Q) : YCalls Try.prog l1 [.int .i64 k1, .int .i64 v1] H36 Q := vRound_calls (cf := tephralaw05_SortedMerge.cfr) (fn := fnA) (tm := tmA) (ps := rgP tephralaw05_SortedMerge.r2.code) (asg := rgA tephralaw05_SortedMerge.r2.code) (body := rgB tephralaw05_SortedMerge.r2.code) (d := dA) (fr := (tephralaw05_SortedMerge.r2.fr b4 b5)) Try.mixed (by kernel_rfl) hl (by kernel_rfl) hT ((tephralaw05_SortedMerge.r2.eq J0 b4 b5 l1 (tephralaw05_SortedMerge.r2.rec fnA tmA dA) k1 v1 H36 Q).mpr h)
noncomputable def tephralaw05_SortedMerge.r3.body (J : Jn) (b1 : Nat) (b7 : Nat) (l2 : Nat) (rc2 : LoopState → Option Code → Obj) (k2 : Int) (v2 : Int) (H49 : Hp) (Q : Value → Hp → Prop) : Prop :=
 H49[l2]? = some (rc2 .ready none) ∧ ∀ H50 : Hp, H50 = (Array.setIfInBounds H49 l2 (rc2 .busy none)) → ∃ x41 : Int, Hp.cell? H50 (Addr.mk b7 0 none) = some (.int .i64 x41) ∧ WrAt H50 (Addr.mk b7 0 none) 1 ∧ ∀ H51 : Hp, H51 = (Hp.setCell H50 (Addr.mk b7 0 none) (.int .i64 (w64 (x41 + 1)))) → ∃ x42 : Int, Hp.cell? H51 (Addr.mk b7 0 none) = some (.int .i64 x42) ∧ ∃ x43 : Int, Hp.cell? H51 (Addr.mk b1 0 none) = some (.int .u8 x43) ∧ (70 : Int) ≠ 0 ∧ 
 Br (decide (x42 > (w64 ((Int.tmod x43 70))))) (
 ((∃ st : LoopState, ∃ pd : Option Code, H51[l2]? = some (rc2 st pd)) ∧ Q (.bool false) (Array.setIfInBounds H51 l2 (rc2 .done (some (.exit 4))))))
 (
 ((∃ st : LoopState, ∃ pd : Option Code, H51[l2]? = some (rc2 st pd)) ∧ Q (.bool true) (Array.setIfInBounds H51 l2 (rc2 .ready none))))
theorem tephralaw05_SortedMerge.r3.eq (J : Jn) (b1 : Nat) (b7 : Nat) (l2 : Nat) (rc2 : LoopState → Option Code → Obj) (k2 : Int) (v2 : Int) (H49 : Hp) (Q : Value → Hp → Prop) : vRound Try.prog tephralaw05_SortedMerge.cfr J (rgA tephralaw05_SortedMerge.r3.code) (rgB tephralaw05_SortedMerge.r3.code) (setFr (tephralaw05_SortedMerge.r3.fr b1 b7) (rgP tephralaw05_SortedMerge.r3.code).toList [.int .i64 k2, .int .i64 v2]) l2 rc2 H49 Q = tephralaw05_SortedMerge.r3.body J b1 b7 l2 rc2 k2 v2 H49 Q := by kernel_rfl
theorem tephralaw05_SortedMerge.r3.calls {b1 : Nat} {b7 : Nat} {l2 : Nat} {k2 : Int} {v2 : Int} {H49 : Hp} {fnA : FuncId} {tmA : Array Value} {dA : Nat} {Q : Value → Hp → Prop} (hl : H49[l2]? = some (tephralaw05_SortedMerge.r3.rec fnA tmA dA .ready none)) (hT : TmOf (tephralaw05_SortedMerge.r3.fr b1 b7) tmA) (h : tephralaw05_SortedMerge.r3.body J0 b1 b7 l2 (tephralaw05_SortedMerge.r3.rec fnA tmA dA) k2 v2 H49 Q) : YCalls Try.prog l2 [.int .i64 k2, .int .i64 v2] H49 Q := vRound_calls (cf := tephralaw05_SortedMerge.cfr) (fn := fnA) (tm := tmA) (ps := rgP tephralaw05_SortedMerge.r3.code) (asg := rgA tephralaw05_SortedMerge.r3.code) (body := rgB tephralaw05_SortedMerge.r3.code) (d := dA) (fr := (tephralaw05_SortedMerge.r3.fr b1 b7)) Try.mixed (by kernel_rfl) hl (by kernel_rfl) hT ((tephralaw05_SortedMerge.r3.eq J0 b1 b7 l2 (tephralaw05_SortedMerge.r3.rec fnA tmA dA) k2 v2 H49 Q).mpr h)
attribute [irreducible] tephralaw05_SortedMerge.r1.rec tephralaw05_SortedMerge.r1.fr tephralaw05_SortedMerge.r1.code tephralaw05_SortedMerge.r2.rec tephralaw05_SortedMerge.r2.fr tephralaw05_SortedMerge.r2.code tephralaw05_SortedMerge.r3.rec tephralaw05_SortedMerge.r3.fr tephralaw05_SortedMerge.r3.code
noncomputable def tephralaw05_SortedMerge.vc (J : Jn) (a : Sl) (b : Sl) (stop : Int) (H : Hp) (Q : Value → Hp → Prop) : Prop :=
 ∀ b1 : Nat, b1 = Array.size H → ∀ H1 : Hp, H1 = (Array.push H (.cells #[.int .u8 stop] T_uint8)) → ∀ b2 : Nat, b2 = Array.size H1 → ∀ H2 : Hp, H2 = (Array.push H1 (.cells #[.bool false] T_bool)) → 
 SCalls Try.prog tephralaw05_awake.id [] H2 (fun r H3 => ∃ x : Bool, r = .bool x ∧ 
 Br (!x) (WrAt H3 (Addr.mk b2 0 none) 1 ∧ ∀ H4 : Hp, H4 = (Hp.setCell H3 (Addr.mk b2 0 none) (.bool false)) → ∃ x1 : Bool, Hp.cell? H4 (Addr.mk b2 0 none) = some (.bool x1) ∧ Q (.bool x1) H4)
 (
 SCalls Try.prog tephralaw05_Of.id [.slice a.a a.len a.cap] H3 (fun r1 H5 => ∃ x2 : Option Addr, r1 = .pointer x2 ∧ 
 SCalls Try.prog tephralaw05_Of.id [.slice b.a b.len b.cap] H5 (fun r2 H6 => ∃ x3 : Option Addr, r2 = .pointer x3 ∧ ∀ b3 : Nat, b3 = Array.size H6 → ∀ H7 : Hp, H7 = (Array.push H6 (.cells #[.pointer none] T_p_sorted_Map_int_int)) → ∀ b4 : Nat, b4 = Array.size H7 → ∀ H8 : Hp, H8 = (Array.push H7 (.cells #[.pointer none] T_p_sorted_Map_int_int)) → WrAt H8 (Addr.mk b3 0 none) 1 ∧ ∀ H9 : Hp, H9 = (Hp.setCell H8 (Addr.mk b3 0 none) (.pointer x2)) → WrAt H9 (Addr.mk b4 0 none) 1 ∧ ∀ H10 : Hp, H10 = (Hp.setCell H9 (Addr.mk b4 0 none) (.pointer x3)) → ∀ b5 : Nat, b5 = Array.size H10 → ∀ H11 : Hp, H11 = (Array.push H10 (.cells #[.int .i64 0] T_int)) → ∀ b6 : Nat, b6 = Array.size H11 → ∀ H12 : Hp, H12 = (Array.push H11 (.cells #[.int .i64 0] T_int)) → ∀ b7 : Nat, b7 = Array.size H12 → ∀ H13 : Hp, H13 = (Array.push H12 (.cells #[.int .i64 0] T_int)) → WrAt H13 (Addr.mk b5 0 none) 1 ∧ ∀ H14 : Hp, H14 = (Hp.setCell H13 (Addr.mk b5 0 none) (.int .i64 0)) → WrAt H14 (Addr.mk b6 0 none) 1 ∧ ∀ H15 : Hp, H15 = (Hp.setCell H14 (Addr.mk b6 0 none) (.int .i64 (-1000))) → WrAt H15 (Addr.mk b7 0 none) 1 ∧ ∀ H16 : Hp, H16 = (Hp.setCell H15 (Addr.mk b7 0 none) (.int .i64 0)) → ∃ x4 : Option Addr, Hp.cell? H16 (Addr.mk b3 0 none) = some (.pointer x4) ∧ 
  (
 SCalls Try.prog sorted_Map_int_int_All.id [.pointer x4] H16 (fun r3 H17 => ∃ x5 : Fv, r3 = .func x5.fn x5.fi x5.ca ∧ ∃ x6 : Option Addr, Hp.cell? H17 (Addr.mk b4 0 none) = some (.pointer x6) ∧ 
 SCalls Try.prog sorted_Map_int_int_All.id [.pointer x6] H17 (fun r4 H18 => ∃ x7 : Fv, r4 = .func x7.fn x7.fi x7.ca ∧ 
 SCalls Try.prog sorted_Merge_int_int.id [.func x5.fn x5.fi x5.ca, .func x7.fn x7.fi x7.ca] H18 (fun r5 H19 => ∃ x8 : Fv, r5 = .func x8.fn x8.fi x8.ca ∧ 
 tephralaw05_SortedMerge.k1 J b1 b2 b3 b4 b5 b6 b7 x8 H19 Q)))) ∧ 
  (∃ x9 : Option Addr, Hp.cell? H16 (Addr.mk b4 0 none) = some (.pointer x9) ∧ 
 SCalls Try.prog sorted_Map_int_int_All.id [.pointer x4] H16 (fun r6 H20 => ∃ x10 : Fv, r6 = .func x10.fn x10.fi x10.ca ∧ 
 SCalls Try.prog sorted_Map_int_int_All.id [.pointer x9] H20 (fun r7 H21 => ∃ x11 : Fv, r7 = .func x11.fn x11.fi x11.ca ∧ 
 SCalls Try.prog sorted_Merge_int_int.id [.func x10.fn x10.fi x10.ca, .func x11.fn x11.fi x11.ca] H21 (fun r8 H22 => ∃ x12 : Fv, r8 = .func x12.fn x12.fi x12.ca ∧ 
 tephralaw05_SortedMerge.k1 J b1 b2 b3 b4 b5 b6 b7 x12 H22 Q))))))))
theorem tephralaw05_SortedMerge.eq (J : Jn) (a : Sl) (b : Sl) (stop : Int) (H : Hp) (Q : Value → Hp → Prop) : vFn Try.prog tephralaw05_SortedMerge.cf J tephralaw05_SortedMerge.fn [.slice a.a a.len a.cap, .slice b.a b.len b.cap, .int .u8 stop] H Q = tephralaw05_SortedMerge.vc J a b stop H Q := by kernel_rfl
theorem tephralaw05_SortedMerge.calls {a : Sl} {b : Sl} {stop : Int} {H : Hp} {Q : Value → Hp → Prop} (h : tephralaw05_SortedMerge.vc J0 a b stop H Q) : SCalls Try.prog tephralaw05_SortedMerge.id [.slice a.a a.len a.cap, .slice b.a b.len b.cap, .int .u8 stop] H Q := vFn_of Try.mixed Try.func7 (tephralaw05_SortedMerge.eq J0 a b stop H Q) h

/-! 8: tephra/tephralaw05.SortedSelf -/
noncomputable def tephralaw05_SortedSelf.cf : Cfg := ⟨[1000003], [(1000008, [2, 3, 5]), (1000013, [5]), (1000015, [5])], [(8, [2, 3, 4, 5, 19], true), (15, [2, 3, 5, 50], true)], [], true⟩
noncomputable def tephralaw05_SortedSelf.cfr : Cfg := { tephralaw05_SortedSelf.cf with rf := false }
noncomputable def tephralaw05_SortedSelf.r1.fr (b : Nat) (b1 : Nat) (b2 : Nat) : List AV := mkFr 60 [(2, .v (.pointer (some (Addr.mk b 0 none)))), (3, .v (.pointer (some (Addr.mk b1 0 none)))), (5, .v (.pointer (some (Addr.mk b2 0 none))))]
noncomputable def tephralaw05_SortedSelf.r1.code : Code := sub (bodyOf tephralaw05_SortedSelf.fn) [1, 1, 1, 1, 0, 1, 0]
noncomputable def tephralaw05_SortedSelf.r1.rec (fn : FuncId) (tm : Array Value) (d : Nat) (st : LoopState) (pd : Option Code) : Obj := recO fn tm (rgP tephralaw05_SortedSelf.r1.code) (rgA tephralaw05_SortedSelf.r1.code) (rgB tephralaw05_SortedSelf.r1.code) d st pd
noncomputable def tephralaw05_SortedSelf.r2.fr (b2 : Nat) : List AV := mkFr 60 [(5, .v (.pointer (some (Addr.mk b2 0 none))))]
noncomputable def tephralaw05_SortedSelf.r2.code : Code := sub (bodyOf tephralaw05_SortedSelf.fn) [1, 1, 1, 1, 1, 0, 1, 0]
noncomputable def tephralaw05_SortedSelf.r2.rec (fn : FuncId) (tm : Array Value) (d : Nat) (st : LoopState) (pd : Option Code) : Obj := recO fn tm (rgP tephralaw05_SortedSelf.r2.code) (rgA tephralaw05_SortedSelf.r2.code) (rgB tephralaw05_SortedSelf.r2.code) d st pd
noncomputable def tephralaw05_SortedSelf.r3.fr (b2 : Nat) : List AV := mkFr 60 [(5, .v (.pointer (some (Addr.mk b2 0 none))))]
noncomputable def tephralaw05_SortedSelf.r3.code : Code := sub (bodyOf tephralaw05_SortedSelf.fn) [1, 1, 1, 1, 1, 1, 0, 1, 0]
noncomputable def tephralaw05_SortedSelf.r3.rec (fn : FuncId) (tm : Array Value) (d : Nat) (st : LoopState) (pd : Option Code) : Obj := recO fn tm (rgP tephralaw05_SortedSelf.r3.code) (rgA tephralaw05_SortedSelf.r3.code) (rgB tephralaw05_SortedSelf.r3.code) d st pd
noncomputable def tephralaw05_SortedSelf.k1.st (b : Nat) (x3 : Option Addr) (b1 : Nat) (b2 : Nat) (x13 : Fv) (H16 : Hp) : VS := ⟨mkFr 60 [(2, .v (.pointer (some (Addr.mk b 0 none)))), (3, .v (.pointer (some (Addr.mk b1 0 none)))), (4, .v (.pointer x3)), (5, .v (.pointer (some (Addr.mk b2 0 none)))), (19, .v (.func x13.fn x13.fi x13.ca))], [], H16⟩
noncomputable def tephralaw05_SortedSelf.k1 (J : Jn) (b : Nat) (x3 : Option Addr) (b1 : Nat) (b2 : Nat) (x13 : Fv) (H16 : Hp) (Q : Value → Hp → Prop) : Prop := J (vSeg Try.prog tephralaw05_SortedSelf.cf J tephralaw05_SortedSelf.fn [1, 1, 1, 1, 0, 1] [0, 0, 0, 0, 0, 0] Q) (tephralaw05_SortedSelf.k1.st b x3 b1 b2 x13 H16)
noncomputable def tephralaw05_SortedSelf.k2.st (b : Nat) (b1 : Nat) (b2 : Nat) (x33 : Fv) (H39 : Hp) : VS := ⟨mkFr 60 [(2, .v (.pointer (some (Addr.mk b 0 none)))), (3, .v (.pointer (some (Addr.mk b1 0 none)))), (5, .v (.pointer (some (Addr.mk b2 0 none)))), (50, .v (.func x33.fn x33.fi x33.ca))], [], H39⟩
noncomputable def tephralaw05_SortedSelf.k2 (J : Jn) (b : Nat) (b1 : Nat) (b2 : Nat) (x33 : Fv) (H39 : Hp) (Q : Value → Hp → Prop) : Prop := J (vSeg Try.prog tephralaw05_SortedSelf.cf J tephralaw05_SortedSelf.fn [1, 1, 1, 1, 1, 1, 0, 1] [0, 0, 0, 0, 0, 0, 0, 0] Q) (tephralaw05_SortedSelf.k2.st b b1 b2 x33 H39)
attribute [irreducible] tephralaw05_SortedSelf.k1 tephralaw05_SortedSelf.k2
noncomputable def tephralaw05_SortedSelf.k1.body (J : Jn) (b : Nat) (x3 : Option Addr) (b1 : Nat) (b2 : Nat) (x13 : Fv) (H16 : Hp) (Q : Value → Hp → Prop) : Prop :=
 
 ∀ fn : FuncId, ∀ tm : Array Value, TmOf (tephralaw05_SortedSelf.r1.fr b b1 b2) tm → vRg Try.prog (.func x13.fn x13.fi x13.ca) (Array.size H16 + 1) (Array.push (Array.push H16 hole) (tephralaw05_SortedSelf.r1.rec fn tm (Array.size H16) .ready none)) (fun H23 => ∃ st : LoopState, ∃ pd : Option Code, H23[(Array.size H16 + 1)]? = some (tephralaw05_SortedSelf.r1.rec fn tm (Array.size H16) st pd) ∧ st ≠ .busy ∧ ∀ H24 : Hp, H24 = (Array.setIfInBounds H23 (Array.size H16 + 1) (tephralaw05_SortedSelf.r1.rec fn tm (Array.size H16) .exhausted pd)) → ((pd = none → ∃ x19 : Option Addr, Hp.cell? H24 (Addr.mk b1 0 none) = some (.pointer x19) ∧ 
 SCalls Try.prog sorted_Map_int_int_All.id [.pointer x19] H24 (fun r10 H25 => ∃ x20 : Fv, r10 = .func x20.fn x20.fi x20.ca ∧ 
 SCalls Try.prog sorted_Map_int_int_All.id [.pointer x3] H25 (fun r11 H26 => ∃ x21 : Fv, r11 = .func x21.fn x21.fi x21.ca ∧ 
 SCalls Try.prog sorted_Merge_int_int.id [.func x20.fn x20.fi x20.ca, .func x21.fn x21.fi x21.ca] H26 (fun r12 H27 => ∃ x22 : Fv, r12 = .func x22.fn x22.fi x22.ca ∧ 
 ∀ fn1 : FuncId, ∀ tm1 : Array Value, TmOf (tephralaw05_SortedSelf.r2.fr b2) tm1 → vRg Try.prog (.func x22.fn x22.fi x22.ca) (Array.size H27 + 1) (Array.push (Array.push H27 hole) (tephralaw05_SortedSelf.r2.rec fn1 tm1 (Array.size H27) .ready none)) (fun H31 => ∃ st1 : LoopState, ∃ pd1 : Option Code, H31[(Array.size H27 + 1)]? = some (tephralaw05_SortedSelf.r2.rec fn1 tm1 (Array.size H27) st1 pd1) ∧ st1 ≠ .busy ∧ ∀ H32 : Hp, H32 = (Array.setIfInBounds H31 (Array.size H27 + 1) (tephralaw05_SortedSelf.r2.rec fn1 tm1 (Array.size H27) .exhausted pd1)) → ((pd1 = none → 
  (
 SCalls Try.prog sorted_Map_int_int_All.id [.pointer x3] H32 (fun r13 H33 => ∃ x25 : Fv, r13 = .func x25.fn x25.fi x25.ca ∧ ∃ x26 : Option Addr, Hp.cell? H33 (Addr.mk b1 0 none) = some (.pointer x26) ∧ 
 SCalls Try.prog sorted_Map_int_int_All.id [.pointer x26] H33 (fun r14 H34 => ∃ x27 : Fv, r14 = .func x27.fn x27.fi x27.ca ∧ 
 SCalls Try.prog sorted_Merge_int_int.id [.func x25.fn x25.fi x25.ca, .func x27.fn x27.fi x27.ca] H34 (fun r15 H35 => ∃ x28 : Fv, r15 = .func x28.fn x28.fi x28.ca ∧ 
 tephralaw05_SortedSelf.k2 J b b1 b2 x28 H35 Q)))) ∧ 
  (∃ x29 : Option Addr, Hp.cell? H32 (Addr.mk b1 0 none) = some (.pointer x29) ∧ 
 SCalls Try.prog sorted_Map_int_int_All.id [.pointer x3] H32 (fun r16 H36 => ∃ x30 : Fv, r16 = .func x30.fn x30.fi x30.ca ∧ 
 SCalls Try.prog sorted_Map_int_int_All.id [.pointer x29] H36 (fun r17 H37 => ∃ x31 : Fv, r17 = .func x31.fn x31.fi x31.ca ∧ 
 SCalls Try.prog sorted_Merge_int_int.id [.func x30.fn x30.fi x30.ca, .func x31.fn x31.fi x31.ca] H37 (fun r18 H38 => ∃ x32 : Fv, r18 = .func x32.fn x32.fi x32.ca ∧ 
 tephralaw05_SortedSelf.k2 J b b1 b2 x32 H38 Q))))) ∧ (pd1 = some .ret → ∃ x24 : Bool, Hp.cell? H32 (Addr.mk b 0 none) = some (.bool x24) ∧ Q (.bool x24) H32) ∧ (True) ∧ (pd1 = none ∨ pd1 = some .ret ∨ ∃ i ∈ ([] : List Nat), pd1 = some (.exit i)))))))) ∧ (pd = some .ret → ∃ x18 : Bool, Hp.cell? H24 (Addr.mk b 0 none) = some (.bool x18) ∧ Q (.bool x18) H24) ∧ (True) ∧ (pd = none ∨ pd = some .ret ∨ ∃ i ∈ ([] : List Nat), pd = some (.exit i))))
theorem tephralaw05_SortedSelf.k1.eq (J : Jn) (b : Nat) (x3 : Option Addr) (b1 : Nat) (b2 : Nat) (x13 : Fv) (H16 : Hp) (Q : Value → Hp → Prop) : vSeg Try.prog tephralaw05_SortedSelf.cf J tephralaw05_SortedSelf.fn [1, 1, 1, 1, 0, 1] [0, 0, 0, 0, 0, 0] Q (tephralaw05_SortedSelf.k1.st b x3 b1 b2 x13 H16) = tephralaw05_SortedSelf.k1.body J b x3 b1 b2 x13 H16 Q := by kernel_rfl
theorem tephralaw05_SortedSelf.k1.step {b : Nat} {x3 : Option Addr} {b1 : Nat} {b2 : Nat} {x13 : Fv} {H16 : Hp} {Q : Value → Hp → Prop} (h : tephralaw05_SortedSelf.k1.body J0 b x3 b1 b2 x13 H16 Q) : tephralaw05_SortedSelf.k1 J0 b x3 b1 b2 x13 H16 Q := step_of (vSeg Try.prog tephralaw05_SortedSelf.cf J0 tephralaw05_SortedSelf.fn [1, 1, 1, 1, 0, 1] [0, 0, 0, 0, 0, 0] Q) (tephralaw05_SortedSelf.k1.st b x3 b1 b2 x13 H16) (tephralaw05_SortedSelf.k1.eq J0 b x3 b1 b2 x13 H16 Q) (by kernel_rfl) h
noncomputable def tephralaw05_SortedSelf.k2.body (J : Jn) (b : Nat) (b1 : Nat) (b2 : Nat) (x33 : Fv) (H39 : Hp) (Q : Value → Hp → Prop) : Prop :=
 
 ∀ fn2 : FuncId, ∀ tm2 : Array Value, TmOf (tephralaw05_SortedSelf.r3.fr b2) tm2 → vRg Try.prog (.func x33.fn x33.fi x33.ca) (Array.size H39 + 1) (Array.push (Array.push H39 hole) (tephralaw05_SortedSelf.r3.rec fn2 tm2 (Array.size H39) .ready none)) (fun H43 => ∃ st2 : LoopState, ∃ pd2 : Option Code, H43[(Array.size H39 + 1)]? = some (tephralaw05_SortedSelf.r3.rec fn2 tm2 (Array.size H39) st2 pd2) ∧ st2 ≠ .busy ∧ ∀ H44 : Hp, H44 = (Array.setIfInBounds H43 (Array.size H39 + 1) (tephralaw05_SortedSelf.r3.rec fn2 tm2 (Array.size H39) .exhausted pd2)) → ((pd2 = none → ∃ x36 : Option Addr, Hp.cell? H44 (Addr.mk b1 0 none) = some (.pointer x36) ∧ 
  (∃ x37 : Int, Hp.cell? H44 (Addr.mk b2 0 none) = some (.int .i64 x37) ∧ 
 SCalls Try.prog sorted_Map_int_int_Len.id [.pointer x36] H44 (fun r19 H45 => ∃ x38 : Int, r19 = .int .i64 x38 ∧ WrAt H45 (Addr.mk b 0 none) 1 ∧ ∀ H46 : Hp, H46 = (Hp.setCell H45 (Addr.mk b 0 none) (.bool (x37 == (w64 ((3 : Int) * x38))))) → ∃ x41 : Bool, Hp.cell? H46 (Addr.mk b 0 none) = some (.bool x41) ∧ Q (.bool x41) H46)) ∧ 
  (
 SCalls Try.prog sorted_Map_int_int_Len.id [.pointer x36] H44 (fun r20 H47 => ∃ x39 : Int, r20 = .int .i64 x39 ∧ ∃ x40 : Int, Hp.cell? H47 (Addr.mk b2 0 none) = some (.int .i64 x40) ∧ WrAt H47 (Addr.mk b 0 none) 1 ∧ ∀ H48 : Hp, H48 = (Hp.setCell H47 (Addr.mk b 0 none) (.bool (x40 == (w64 ((3 : Int) * x39))))) → ∃ x42 : Bool, Hp.cell? H48 (Addr.mk b 0 none) = some (.bool x42) ∧ Q (.bool x42) H48))) ∧ (pd2 = some .ret → ∃ x35 : Bool, Hp.cell? H44 (Addr.mk b 0 none) = some (.bool x35) ∧ Q (.bool x35) H44) ∧ (True) ∧ (pd2 = none ∨ pd2 = some .ret ∨ ∃ i ∈ ([] : List Nat), pd2 = some (.exit i))))
theorem tephralaw05_SortedSelf.k2.eq (J : Jn) (b : Nat) (b1 : Nat) (b2 : Nat) (x33 : Fv) (H39 : Hp) (Q : Value → Hp → Prop) : vSeg Try.prog tephralaw05_SortedSelf.cf J tephralaw05_SortedSelf.fn [1, 1, 1, 1, 1, 1, 0, 1] [0, 0, 0, 0, 0, 0, 0, 0] Q (tephralaw05_SortedSelf.k2.st b b1 b2 x33 H39) = tephralaw05_SortedSelf.k2.body J b b1 b2 x33 H39 Q := by kernel_rfl
theorem tephralaw05_SortedSelf.k2.step {b : Nat} {b1 : Nat} {b2 : Nat} {x33 : Fv} {H39 : Hp} {Q : Value → Hp → Prop} (h : tephralaw05_SortedSelf.k2.body J0 b b1 b2 x33 H39 Q) : tephralaw05_SortedSelf.k2 J0 b b1 b2 x33 H39 Q := step_of (vSeg Try.prog tephralaw05_SortedSelf.cf J0 tephralaw05_SortedSelf.fn [1, 1, 1, 1, 1, 1, 0, 1] [0, 0, 0, 0, 0, 0, 0, 0] Q) (tephralaw05_SortedSelf.k2.st b b1 b2 x33 H39) (tephralaw05_SortedSelf.k2.eq J0 b b1 b2 x33 H39 Q) (by kernel_rfl) h
noncomputable def tephralaw05_SortedSelf.r1.body (J : Jn) (b : Nat) (b1 : Nat) (b2 : Nat) (l : Nat) (rc : LoopState → Option Code → Obj) (k : Int) (v : Int) (H17 : Hp) (Q : Value → Hp → Prop) : Prop :=
 H17[l]? = some (rc .ready none) ∧ ∀ H18 : Hp, H18 = (Array.setIfInBounds H17 l (rc .busy none)) → ∃ x14 : Option Addr, Hp.cell? H18 (Addr.mk b1 0 none) = some (.pointer x14) ∧ 
 SCalls Try.prog sorted_Map_int_int_Get.id [.pointer x14, .int .i64 k] H18 (fun r9 H19 => ∃ x15 : Int, ∃ x16 : Bool, r9 = .tuple #[.int .i64 x15, .bool x16] ∧ 
 Br (!x16) (WrAt H19 (Addr.mk b 0 none) 1 ∧ ∀ H20 : Hp, H20 = (Hp.setCell H19 (Addr.mk b 0 none) (.bool false)) → 
 ((∃ st : LoopState, ∃ pd : Option Code, H20[l]? = some (rc st pd)) ∧ Q (.bool false) (Array.setIfInBounds H20 l (rc .done (some .ret)))))
 (
 Br (x15 != v) (WrAt H19 (Addr.mk b 0 none) 1 ∧ ∀ H21 : Hp, H21 = (Hp.setCell H19 (Addr.mk b 0 none) (.bool false)) → 
 ((∃ st : LoopState, ∃ pd : Option Code, H21[l]? = some (rc st pd)) ∧ Q (.bool false) (Array.setIfInBounds H21 l (rc .done (some .ret)))))
 (∃ x17 : Int, Hp.cell? H19 (Addr.mk b2 0 none) = some (.int .i64 x17) ∧ WrAt H19 (Addr.mk b2 0 none) 1 ∧ ∀ H22 : Hp, H22 = (Hp.setCell H19 (Addr.mk b2 0 none) (.int .i64 (w64 (x17 + 1)))) → 
 ((∃ st : LoopState, ∃ pd : Option Code, H22[l]? = some (rc st pd)) ∧ Q (.bool true) (Array.setIfInBounds H22 l (rc .ready none))))))
theorem tephralaw05_SortedSelf.r1.eq (J : Jn) (b : Nat) (b1 : Nat) (b2 : Nat) (l : Nat) (rc : LoopState → Option Code → Obj) (k : Int) (v : Int) (H17 : Hp) (Q : Value → Hp → Prop) : vRound Try.prog tephralaw05_SortedSelf.cfr J (rgA tephralaw05_SortedSelf.r1.code) (rgB tephralaw05_SortedSelf.r1.code) (setFr (tephralaw05_SortedSelf.r1.fr b b1 b2) (rgP tephralaw05_SortedSelf.r1.code).toList [.int .i64 k, .int .i64 v]) l rc H17 Q = tephralaw05_SortedSelf.r1.body J b b1 b2 l rc k v H17 Q := by kernel_rfl
theorem tephralaw05_SortedSelf.r1.calls {b : Nat} {b1 : Nat} {b2 : Nat} {l : Nat} {k : Int} {v : Int} {H17 : Hp} {fnA : FuncId} {tmA : Array Value} {dA : Nat} {Q : Value → Hp → Prop} (hl : H17[l]? = some (tephralaw05_SortedSelf.r1.rec fnA tmA dA .ready none)) (hT : TmOf (tephralaw05_SortedSelf.r1.fr b b1 b2) tmA) (h : tephralaw05_SortedSelf.r1.body J0 b b1 b2 l (tephralaw05_SortedSelf.r1.rec fnA tmA dA) k v H17 Q) : YCalls Try.prog l [.int .i64 k, .int .i64 v] H17 Q := vRound_calls (cf := tephralaw05_SortedSelf.cfr) (fn := fnA) (tm := tmA) (ps := rgP tephralaw05_SortedSelf.r1.code) (asg := rgA tephralaw05_SortedSelf.r1.code) (body := rgB tephralaw05_SortedSelf.r1.code) (d := dA) (fr := (tephralaw05_SortedSelf.r1.fr b b1 b2)) Try.mixed (by kernel_rfl) hl (by kernel_rfl) hT ((tephralaw05_SortedSelf.r1.eq J0 b b1 b2 l (tephralaw05_SortedSelf.r1.rec fnA tmA dA) k v H17 Q).mpr h)
noncomputable def tephralaw05_SortedSelf.r2.body (J : Jn) (b2 : Nat) (l1 : Nat) (rc1 : LoopState → Option Code → Obj) (k1 : Int) (v1 : Int) (H28 : Hp) (Q : Value → Hp → Prop) : Prop :=
 H28[l1]? = some (rc1 .ready none) ∧ ∀ H29 : Hp, H29 = (Array.setIfInBounds H28 l1 (rc1 .busy none)) → ∃ x23 : Int, Hp.cell? H29 (Addr.mk b2 0 none) = some (.int .i64 x23) ∧ WrAt H29 (Addr.mk b2 0 none) 1 ∧ ∀ H30 : Hp, H30 = (Hp.setCell H29 (Addr.mk b2 0 none) (.int .i64 (w64 (x23 + 1)))) → 
 ((∃ st : LoopState, ∃ pd : Option Code, H30[l1]? = some (rc1 st pd)) ∧ Q (.bool true) (Array.setIfInBounds H30 l1 (rc1 .ready none)))
theorem tephralaw05_SortedSelf.r2.eq (J : Jn) (b2 : Nat) (l1 : Nat) (rc1 : LoopState → Option Code → Obj) (k1 : Int) (v1 : Int) (H28 : Hp) (Q : Value → Hp → Prop) : vRound Try.prog tephralaw05_SortedSelf.cfr J (rgA tephralaw05_SortedSelf.r2.code) (rgB tephralaw05_SortedSelf.r2.code) (setFr (tephralaw05_SortedSelf.r2.fr b2) (rgP tephralaw05_SortedSelf.r2.code).toList [.int .i64 k1, .int .i64 v1]) l1 rc1 H28 Q = tephralaw05_SortedSelf.r2.body J b2 l1 rc1 k1 v1 H28 Q := by kernel_rfl
theorem tephralaw05_SortedSelf.r2.calls {b2 : Nat} {l1 : Nat} {k1 : Int} {v1 : Int} {H28 : Hp} {fnA : FuncId} {tmA : Array Value} {dA : Nat} {Q : Value → Hp → Prop} (hl : H28[l1]? = some (tephralaw05_SortedSelf.r2.rec fnA tmA dA .ready none)) (hT : TmOf (tephralaw05_SortedSelf.r2.fr b2) tmA) (h : tephralaw05_SortedSelf.r2.body J0 b2 l1 (tephralaw05_SortedSelf.r2.rec fnA tmA dA) k1 v1 H28 Q) : YCalls Try.prog l1 [.int .i64 k1, .int .i64 v1] H28 Q := vRound_calls (cf := tephralaw05_SortedSelf.cfr) (fn := fnA) (tm := tmA) (ps := rgP tephralaw05_SortedSelf.r2.code) (asg := rgA tephralaw05_SortedSelf.r2.code) (body := rgB tephralaw05_SortedSelf.r2.code) (d := dA) (fr := (tephralaw05_SortedSelf.r2.fr b2)) Try.mixed (by kernel_rfl) hl (by kernel_rfl) hT ((tephralaw05_SortedSelf.r2.eq J0 b2 l1 (tephralaw05_SortedSelf.r2.rec fnA tmA dA) k1 v1 H28 Q).mpr h)
noncomputable def tephralaw05_SortedSelf.r3.body (J : Jn) (b2 : Nat) (l2 : Nat) (rc2 : LoopState → Option Code → Obj) (k2 : Int) (v2 : Int) (H40 : Hp) (Q : Value → Hp → Prop) : Prop :=
 H40[l2]? = some (rc2 .ready none) ∧ ∀ H41 : Hp, H41 = (Array.setIfInBounds H40 l2 (rc2 .busy none)) → ∃ x34 : Int, Hp.cell? H41 (Addr.mk b2 0 none) = some (.int .i64 x34) ∧ WrAt H41 (Addr.mk b2 0 none) 1 ∧ ∀ H42 : Hp, H42 = (Hp.setCell H41 (Addr.mk b2 0 none) (.int .i64 (w64 (x34 + 1)))) → 
 ((∃ st : LoopState, ∃ pd : Option Code, H42[l2]? = some (rc2 st pd)) ∧ Q (.bool true) (Array.setIfInBounds H42 l2 (rc2 .ready none)))
theorem tephralaw05_SortedSelf.r3.eq (J : Jn) (b2 : Nat) (l2 : Nat) (rc2 : LoopState → Option Code → Obj) (k2 : Int) (v2 : Int) (H40 : Hp) (Q : Value → Hp → Prop) : vRound Try.prog tephralaw05_SortedSelf.cfr J (rgA tephralaw05_SortedSelf.r3.code) (rgB tephralaw05_SortedSelf.r3.code) (setFr (tephralaw05_SortedSelf.r3.fr b2) (rgP tephralaw05_SortedSelf.r3.code).toList [.int .i64 k2, .int .i64 v2]) l2 rc2 H40 Q = tephralaw05_SortedSelf.r3.body J b2 l2 rc2 k2 v2 H40 Q := by kernel_rfl
theorem tephralaw05_SortedSelf.r3.calls {b2 : Nat} {l2 : Nat} {k2 : Int} {v2 : Int} {H40 : Hp} {fnA : FuncId} {tmA : Array Value} {dA : Nat} {Q : Value → Hp → Prop} (hl : H40[l2]? = some (tephralaw05_SortedSelf.r3.rec fnA tmA dA .ready none)) (hT : TmOf (tephralaw05_SortedSelf.r3.fr b2) tmA) (h : tephralaw05_SortedSelf.r3.body J0 b2 l2 (tephralaw05_SortedSelf.r3.rec fnA tmA dA) k2 v2 H40 Q) : YCalls Try.prog l2 [.int .i64 k2, .int .i64 v2] H40 Q := vRound_calls (cf := tephralaw05_SortedSelf.cfr) (fn := fnA) (tm := tmA) (ps := rgP tephralaw05_SortedSelf.r3.code) (asg := rgA tephralaw05_SortedSelf.r3.code) (body := rgB tephralaw05_SortedSelf.r3.code) (d := dA) (fr := (tephralaw05_SortedSelf.r3.fr b2)) Try.mixed (by kernel_rfl) hl (by kernel_rfl) hT ((tephralaw05_SortedSelf.r3.eq J0 b2 l2 (tephralaw05_SortedSelf.r3.rec fnA tmA dA) k2 v2 H40 Q).mpr h)
attribute [irreducible] tephralaw05_SortedSelf.r1.rec tephralaw05_SortedSelf.r1.fr tephralaw05_SortedSelf.r1.code tephralaw05_SortedSelf.r2.rec tephralaw05_SortedSelf.r2.fr tephralaw05_SortedSelf.r2.code tephralaw05_SortedSelf.r3.rec tephralaw05_SortedSelf.r3.fr tephralaw05_SortedSelf.r3.code
noncomputable def tephralaw05_SortedSelf.vc (J : Jn) (acts : Sl) (H : Hp) (Q : Value → Hp → Prop) : Prop :=
 ∀ b : Nat, b = Array.size H → ∀ H1 : Hp, H1 = (Array.push H (.cells #[.bool false] T_bool)) → 
 SCalls Try.prog tephralaw05_awake.id [] H1 (fun r H2 => ∃ x : Bool, r = .bool x ∧ 
 Br (!x) (WrAt H2 (Addr.mk b 0 none) 1 ∧ ∀ H3 : Hp, H3 = (Hp.setCell H2 (Addr.mk b 0 none) (.bool false)) → ∃ x1 : Bool, Hp.cell? H3 (Addr.mk b 0 none) = some (.bool x1) ∧ Q (.bool x1) H3)
 (
 SCalls Try.prog tephralaw05_Of.id [.slice acts.a acts.len acts.cap] H2 (fun r1 H4 => ∃ x2 : Option Addr, r1 = .pointer x2 ∧ 
 SCalls Try.prog tephralaw05_Of.id [.slice none 0 0] H4 (fun r2 H5 => ∃ x3 : Option Addr, r2 = .pointer x3 ∧ ∀ b1 : Nat, b1 = Array.size H5 → ∀ H6 : Hp, H6 = (Array.push H5 (.cells #[.pointer none] T_p_sorted_Map_int_int)) → WrAt H6 (Addr.mk b1 0 none) 1 ∧ ∀ H7 : Hp, H7 = (Hp.setCell H6 (Addr.mk b1 0 none) (.pointer x2)) → ∀ b2 : Nat, b2 = Array.size H7 → ∀ H8 : Hp, H8 = (Array.push H7 (.cells #[.int .i64 0] T_int)) → WrAt H8 (Addr.mk b2 0 none) 1 ∧ ∀ H9 : Hp, H9 = (Hp.setCell H8 (Addr.mk b2 0 none) (.int .i64 0)) → ∃ x4 : Option Addr, Hp.cell? H9 (Addr.mk b1 0 none) = some (.pointer x4) ∧ 
  (
 SCalls Try.prog sorted_Map_int_int_All.id [.pointer x4] H9 (fun r3 H10 => ∃ x5 : Fv, r3 = .func x5.fn x5.fi x5.ca ∧ ∃ x6 : Option Addr, Hp.cell? H10 (Addr.mk b1 0 none) = some (.pointer x6) ∧ 
 SCalls Try.prog sorted_Map_int_int_All.id [.pointer x6] H10 (fun r4 H11 => ∃ x7 : Fv, r4 = .func x7.fn x7.fi x7.ca ∧ 
 SCalls Try.prog sorted_Merge_int_int.id [.func x5.fn x5.fi x5.ca, .func x7.fn x7.fi x7.ca] H11 (fun r5 H12 => ∃ x8 : Fv, r5 = .func x8.fn x8.fi x8.ca ∧ 
 tephralaw05_SortedSelf.k1 J b x3 b1 b2 x8 H12 Q)))) ∧ 
  (∃ x9 : Option Addr, Hp.cell? H9 (Addr.mk b1 0 none) = some (.pointer x9) ∧ 
 SCalls Try.prog sorted_Map_int_int_All.id [.pointer x4] H9 (fun r6 H13 => ∃ x10 : Fv, r6 = .func x10.fn x10.fi x10.ca ∧ 
 SCalls Try.prog sorted_Map_int_int_All.id [.pointer x9] H13 (fun r7 H14 => ∃ x11 : Fv, r7 = .func x11.fn x11.fi x11.ca ∧ 
 SCalls Try.prog sorted_Merge_int_int.id [.func x10.fn x10.fi x10.ca, .func x11.fn x11.fi x11.ca] H14 (fun r8 H15 => ∃ x12 : Fv, r8 = .func x12.fn x12.fi x12.ca ∧ 
 tephralaw05_SortedSelf.k1 J b x3 b1 b2 x12 H15 Q))))))))
theorem tephralaw05_SortedSelf.eq (J : Jn) (acts : Sl) (H : Hp) (Q : Value → Hp → Prop) : vFn Try.prog tephralaw05_SortedSelf.cf J tephralaw05_SortedSelf.fn [.slice acts.a acts.len acts.cap] H Q = tephralaw05_SortedSelf.vc J acts H Q := by kernel_rfl
theorem tephralaw05_SortedSelf.calls {acts : Sl} {H : Hp} {Q : Value → Hp → Prop} (h : tephralaw05_SortedSelf.vc J0 acts H Q) : SCalls Try.prog tephralaw05_SortedSelf.id [.slice acts.a acts.len acts.cap] H Q := vFn_of Try.mixed Try.func8 (tephralaw05_SortedSelf.eq J0 acts H Q) h

/-! 10: tephra/tephralaw05.awake -/
noncomputable def tephralaw05_awake.cf : Cfg := ⟨[], [(1000009, [0, 4])], [], [(40, [0, 1, 4, 7, 8, 40]), (44, [0, 1, 7, 8, 44]), (47, [0, 1, 7, 47]), (51, [0, 1, 51]), (56, [0, 1, 56])], true⟩
noncomputable def tephralaw05_awake.cfr : Cfg := { tephralaw05_awake.cf with rf := false }
noncomputable def tephralaw05_awake.r1.fr (H : Hp) (H2 : Hp) : List AV := mkFr 62 [(0, .v (.pointer (some (Addr.mk (Array.size H) 0 none)))), (4, .v (.pointer (some (Addr.mk (Array.size H2) 0 none))))]
noncomputable def tephralaw05_awake.r1.code : Code := sub (bodyOf tephralaw05_awake.fn) [1, 1, 1, 1, 1, 0, 1, 0]
noncomputable def tephralaw05_awake.r1.rec (fn : FuncId) (tm : Array Value) (d : Nat) (st : LoopState) (pd : Option Code) : Obj := recO fn tm (rgP tephralaw05_awake.r1.code) (rgA tephralaw05_awake.r1.code) (rgB tephralaw05_awake.r1.code) d st pd
noncomputable def tephralaw05_awake.k1.st (H : Hp) (H2 : Hp) (H9 : Hp) (x7 : ByteArray) (x8 : Bool) (x9 : Bool) : VS := ⟨mkFr 62 [(0, .v (.pointer (some (Addr.mk (Array.size H) 0 none)))), (1, .v (.pointer (some (Addr.mk (Array.size (Array.push H (.cells #[.bool false] T_bool))) 0 none)))), (4, .v (.pointer (some (Addr.mk (Array.size H2) 0 none)))), (7, .v (.string x7)), (8, .v (.bool x8)), (40, .v (.bool x9))], [], H9⟩
noncomputable def tephralaw05_awake.k1 (J : Jn) (H : Hp) (H2 : Hp) (H9 : Hp) (x7 : ByteArray) (x8 : Bool) (x9 : Bool) (Q : Value → Hp → Prop) : Prop := J (vMid Try.prog tephralaw05_awake.cf J tephralaw05_awake.fn [1, 1, 1, 1, 1, 1, 1, 0] [0, 0, 0, 0, 0, 0, 0, 0] 4 Q) (tephralaw05_awake.k1.st H H2 H9 x7 x8 x9)
noncomputable def tephralaw05_awake.k2.st (H : Hp) (H9 : Hp) (x7 : ByteArray) (x8 : Bool) (x11 : Bool) : VS := ⟨mkFr 62 [(0, .v (.pointer (some (Addr.mk (Array.size H) 0 none)))), (1, .v (.pointer (some (Addr.mk (Array.size (Array.push H (.cells #[.bool false] T_bool))) 0 none)))), (7, .v (.string x7)), (8, .v (.bool x8)), (44, .v (.bool x11))], [], H9⟩
noncomputable def tephralaw05_awake.k2 (J : Jn) (H : Hp) (H9 : Hp) (x7 : ByteArray) (x8 : Bool) (x11 : Bool) (Q : Value → Hp → Prop) : Prop := J (vMid Try.prog tephralaw05_awake.cf J tephralaw05_awake.fn [1, 1, 1, 1, 1, 1, 1, 0] [0, 0, 0, 0, 0, 0, 0, 0] 8 Q) (tephralaw05_awake.k2.st H H9 x7 x8 x11)
noncomputable def tephralaw05_awake.k3.st (H : Hp) (H9 : Hp) (x7 : ByteArray) (x12 : Bool) : VS := ⟨mkFr 62 [(0, .v (.pointer (some (Addr.mk (Array.size H) 0 none)))), (1, .v (.pointer (some (Addr.mk (Array.size (Array.push H (.cells #[.bool false] T_bool))) 0 none)))), (7, .v (.string x7)), (47, .v (.bool x12))], [], H9⟩
noncomputable def tephralaw05_awake.k3 (J : Jn) (H : Hp) (H9 : Hp) (x7 : ByteArray) (x12 : Bool) (Q : Value → Hp → Prop) : Prop := J (vMid Try.prog tephralaw05_awake.cf J tephralaw05_awake.fn [1, 1, 1, 1, 1, 1, 1, 0] [0, 0, 0, 0, 0, 0, 0, 0] 11 Q) (tephralaw05_awake.k3.st H H9 x7 x12)
noncomputable def tephralaw05_awake.k4.st (H : Hp) (H9 : Hp) (x13 : Bool) : VS := ⟨mkFr 62 [(0, .v (.pointer (some (Addr.mk (Array.size H) 0 none)))), (1, .v (.pointer (some (Addr.mk (Array.size (Array.push H (.cells #[.bool false] T_bool))) 0 none)))), (51, .v (.bool x13))], [], H9⟩
noncomputable def tephralaw05_awake.k4 (J : Jn) (H : Hp) (H9 : Hp) (x13 : Bool) (Q : Value → Hp → Prop) : Prop := J (vMid Try.prog tephralaw05_awake.cf J tephralaw05_awake.fn [1, 1, 1, 1, 1, 1, 1, 0] [0, 0, 0, 0, 0, 0, 0, 0] 15 Q) (tephralaw05_awake.k4.st H H9 x13)
noncomputable def tephralaw05_awake.k5.st (H : Hp) (x15 : Bool) (H11 : Hp) : VS := ⟨mkFr 62 [(0, .v (.pointer (some (Addr.mk (Array.size H) 0 none)))), (1, .v (.pointer (some (Addr.mk (Array.size (Array.push H (.cells #[.bool false] T_bool))) 0 none)))), (56, .v (.bool x15))], [], H11⟩
noncomputable def tephralaw05_awake.k5 (J : Jn) (H : Hp) (x15 : Bool) (H11 : Hp) (Q : Value → Hp → Prop) : Prop := J (vMid Try.prog tephralaw05_awake.cf J tephralaw05_awake.fn [1, 1, 1, 1, 1, 1, 1, 0] [0, 0, 0, 0, 0, 0, 0, 0] 20 Q) (tephralaw05_awake.k5.st H x15 H11)
attribute [irreducible] tephralaw05_awake.k1 tephralaw05_awake.k2 tephralaw05_awake.k3 tephralaw05_awake.k4 tephralaw05_awake.k5
noncomputable def tephralaw05_awake.k1.body (J : Jn) (H : Hp) (H2 : Hp) (H9 : Hp) (x7 : ByteArray) (x8 : Bool) (x9 : Bool) (Q : Value → Hp → Prop) : Prop :=
 
 Br x9 (∃ x10 : Int, Hp.cell? H9 (Addr.mk (Array.size H2) 0 none) = some (.int .i64 x10) ∧ 
 tephralaw05_awake.k2 J H H9 x7 x8 (x10 == 13) Q)
 (
 tephralaw05_awake.k2 J H H9 x7 x8 false Q)
theorem tephralaw05_awake.k1.eq (J : Jn) (H : Hp) (H2 : Hp) (H9 : Hp) (x7 : ByteArray) (x8 : Bool) (x9 : Bool) (Q : Value → Hp → Prop) : vMid Try.prog tephralaw05_awake.cf J tephralaw05_awake.fn [1, 1, 1, 1, 1, 1, 1, 0] [0, 0, 0, 0, 0, 0, 0, 0] 4 Q (tephralaw05_awake.k1.st H H2 H9 x7 x8 x9) = tephralaw05_awake.k1.body J H H2 H9 x7 x8 x9 Q := by kernel_rfl
theorem tephralaw05_awake.k1.step {H : Hp} {H2 : Hp} {H9 : Hp} {x7 : ByteArray} {x8 : Bool} {x9 : Bool} {Q : Value → Hp → Prop} (h : tephralaw05_awake.k1.body J0 H H2 H9 x7 x8 x9 Q) : tephralaw05_awake.k1 J0 H H2 H9 x7 x8 x9 Q := step_of (vMid Try.prog tephralaw05_awake.cf J0 tephralaw05_awake.fn [1, 1, 1, 1, 1, 1, 1, 0] [0, 0, 0, 0, 0, 0, 0, 0] 4 Q) (tephralaw05_awake.k1.st H H2 H9 x7 x8 x9) (tephralaw05_awake.k1.eq J0 H H2 H9 x7 x8 x9 Q) (by kernel_rfl) h
noncomputable def tephralaw05_awake.k2.body (J : Jn) (H : Hp) (H9 : Hp) (x7 : ByteArray) (x8 : Bool) (x11 : Bool) (Q : Value → Hp → Prop) : Prop :=
 
 Br x11 (
 tephralaw05_awake.k3 J H H9 x7 x8 Q)
 (
 tephralaw05_awake.k3 J H H9 x7 false Q)
theorem tephralaw05_awake.k2.eq (J : Jn) (H : Hp) (H9 : Hp) (x7 : ByteArray) (x8 : Bool) (x11 : Bool) (Q : Value → Hp → Prop) : vMid Try.prog tephralaw05_awake.cf J tephralaw05_awake.fn [1, 1, 1, 1, 1, 1, 1, 0] [0, 0, 0, 0, 0, 0, 0, 0] 8 Q (tephralaw05_awake.k2.st H H9 x7 x8 x11) = tephralaw05_awake.k2.body J H H9 x7 x8 x11 Q := by kernel_rfl
theorem tephralaw05_awake.k2.step {H : Hp} {H9 : Hp} {x7 : ByteArray} {x8 : Bool} {x11 : Bool} {Q : Value → Hp → Prop} (h : tephralaw05_awake.k2.body J0 H H9 x7 x8 x11 Q) : tephralaw05_awake.k2 J0 H H9 x7 x8 x11 Q := step_of (vMid Try.prog tephralaw05_awake.cf J0 tephralaw05_awake.fn [1, 1, 1, 1, 1, 1, 1, 0] [0, 0, 0, 0, 0, 0, 0, 0] 8 Q) (tephralaw05_awake.k2.st H H9 x7 x8 x11) (tephralaw05_awake.k2.eq J0 H H9 x7 x8 x11 Q) (by kernel_rfl) h
noncomputable def tephralaw05_awake.k3.body (J : Jn) (H : Hp) (H9 : Hp) (x7 : ByteArray) (x12 : Bool) (Q : Value → Hp → Prop) : Prop :=
 
 Br x12 (
 tephralaw05_awake.k4 J H H9 (x7.toList == (ByteArray.mk #[120]).toList) Q)
 (
 tephralaw05_awake.k4 J H H9 false Q)
theorem tephralaw05_awake.k3.eq (J : Jn) (H : Hp) (H9 : Hp) (x7 : ByteArray) (x12 : Bool) (Q : Value → Hp → Prop) : vMid Try.prog tephralaw05_awake.cf J tephralaw05_awake.fn [1, 1, 1, 1, 1, 1, 1, 0] [0, 0, 0, 0, 0, 0, 0, 0] 11 Q (tephralaw05_awake.k3.st H H9 x7 x12) = tephralaw05_awake.k3.body J H H9 x7 x12 Q := by kernel_rfl
theorem tephralaw05_awake.k3.step {H : Hp} {H9 : Hp} {x7 : ByteArray} {x12 : Bool} {Q : Value → Hp → Prop} (h : tephralaw05_awake.k3.body J0 H H9 x7 x12 Q) : tephralaw05_awake.k3 J0 H H9 x7 x12 Q := step_of (vMid Try.prog tephralaw05_awake.cf J0 tephralaw05_awake.fn [1, 1, 1, 1, 1, 1, 1, 0] [0, 0, 0, 0, 0, 0, 0, 0] 11 Q) (tephralaw05_awake.k3.st H H9 x7 x12) (tephralaw05_awake.k3.eq J0 H H9 x7 x12 Q) (by kernel_rfl) h
noncomputable def tephralaw05_awake.k4.body (J : Jn) (H : Hp) (H9 : Hp) (x13 : Bool) (Q : Value → Hp → Prop) : Prop :=
 
 Br x13 (
 SCalls Try.prog sorted_Map_int_string_Put.id [.pointer (some (Addr.mk (Array.size (Array.push H (.cells #[.bool false] T_bool))) 0 none)), .int .i64 3, .string (ByteArray.mk #[122])] H9 (fun r5 H10 => ∃ x14 : Bool, r5 = .bool x14 ∧ 
 tephralaw05_awake.k5 J H (!x14) H10 Q))
 (
 tephralaw05_awake.k5 J H false H9 Q)
theorem tephralaw05_awake.k4.eq (J : Jn) (H : Hp) (H9 : Hp) (x13 : Bool) (Q : Value → Hp → Prop) : vMid Try.prog tephralaw05_awake.cf J tephralaw05_awake.fn [1, 1, 1, 1, 1, 1, 1, 0] [0, 0, 0, 0, 0, 0, 0, 0] 15 Q (tephralaw05_awake.k4.st H H9 x13) = tephralaw05_awake.k4.body J H H9 x13 Q := by kernel_rfl
theorem tephralaw05_awake.k4.step {H : Hp} {H9 : Hp} {x13 : Bool} {Q : Value → Hp → Prop} (h : tephralaw05_awake.k4.body J0 H H9 x13 Q) : tephralaw05_awake.k4 J0 H H9 x13 Q := step_of (vMid Try.prog tephralaw05_awake.cf J0 tephralaw05_awake.fn [1, 1, 1, 1, 1, 1, 1, 0] [0, 0, 0, 0, 0, 0, 0, 0] 15 Q) (tephralaw05_awake.k4.st H H9 x13) (tephralaw05_awake.k4.eq J0 H H9 x13 Q) (by kernel_rfl) h
noncomputable def tephralaw05_awake.k5.body (J : Jn) (H : Hp) (x15 : Bool) (H11 : Hp) (Q : Value → Hp → Prop) : Prop :=
 
 Br x15 (
 SCalls Try.prog sorted_Map_int_string_Len.id [.pointer (some (Addr.mk (Array.size (Array.push H (.cells #[.bool false] T_bool))) 0 none))] H11 (fun r6 H12 => ∃ x16 : Int, r6 = .int .i64 x16 ∧ WrAt H12 (Addr.mk (Array.size H) 0 none) 1 ∧ ∃ x17 : Bool, Hp.cell? (Hp.setCell H12 (Addr.mk (Array.size H) 0 none) (.bool (x16 == 2))) (Addr.mk (Array.size H) 0 none) = some (.bool x17) ∧ Q (.bool x17) (Hp.setCell H12 (Addr.mk (Array.size H) 0 none) (.bool (x16 == 2)))))
 (WrAt H11 (Addr.mk (Array.size H) 0 none) 1 ∧ ∃ x18 : Bool, Hp.cell? (Hp.setCell H11 (Addr.mk (Array.size H) 0 none) (.bool false)) (Addr.mk (Array.size H) 0 none) = some (.bool x18) ∧ Q (.bool x18) (Hp.setCell H11 (Addr.mk (Array.size H) 0 none) (.bool false)))
theorem tephralaw05_awake.k5.eq (J : Jn) (H : Hp) (x15 : Bool) (H11 : Hp) (Q : Value → Hp → Prop) : vMid Try.prog tephralaw05_awake.cf J tephralaw05_awake.fn [1, 1, 1, 1, 1, 1, 1, 0] [0, 0, 0, 0, 0, 0, 0, 0] 20 Q (tephralaw05_awake.k5.st H x15 H11) = tephralaw05_awake.k5.body J H x15 H11 Q := by kernel_rfl
theorem tephralaw05_awake.k5.step {H : Hp} {x15 : Bool} {H11 : Hp} {Q : Value → Hp → Prop} (h : tephralaw05_awake.k5.body J0 H x15 H11 Q) : tephralaw05_awake.k5 J0 H x15 H11 Q := step_of (vMid Try.prog tephralaw05_awake.cf J0 tephralaw05_awake.fn [1, 1, 1, 1, 1, 1, 1, 0] [0, 0, 0, 0, 0, 0, 0, 0] 20 Q) (tephralaw05_awake.k5.st H x15 H11) (tephralaw05_awake.k5.eq J0 H x15 H11 Q) (by kernel_rfl) h
noncomputable def tephralaw05_awake.r1.body (J : Jn) (H : Hp) (H2 : Hp) (l : Nat) (rc : LoopState → Option Code → Obj) (k : Int) (v : ByteArray) (H5 : Hp) (Q : Value → Hp → Prop) : Prop :=
 H5[l]? = some (rc .ready none) ∧ ∀ H6 : Hp, H6 = (Array.setIfInBounds H5 l (rc .busy none)) → ∃ x5 : Int, Hp.cell? H6 (Addr.mk (Array.size H2) 0 none) = some (.int .i64 x5) ∧ WrAt H6 (Addr.mk (Array.size H2) 0 none) 1 ∧ 
 Br (k == 1) (
 Br (!(v.toList == (ByteArray.mk #[121]).toList)) (WrAt (Hp.setCell H6 (Addr.mk (Array.size H2) 0 none) (.int .i64 (w64 ((w64 ((10 : Int) * x5)) + k)))) (Addr.mk (Array.size H) 0 none) 1 ∧ 
 ((∃ st : LoopState, ∃ pd : Option Code, (Hp.setCell (Hp.setCell H6 (Addr.mk (Array.size H2) 0 none) (.int .i64 (w64 ((w64 ((10 : Int) * x5)) + k)))) (Addr.mk (Array.size H) 0 none) (.bool false))[l]? = some (rc st pd)) ∧ Q (.bool false) (Array.setIfInBounds (Hp.setCell (Hp.setCell H6 (Addr.mk (Array.size H2) 0 none) (.int .i64 (w64 ((w64 ((10 : Int) * x5)) + k)))) (Addr.mk (Array.size H) 0 none) (.bool false)) l (rc .done (some .ret)))))
 (
 ((∃ st : LoopState, ∃ pd : Option Code, (Hp.setCell H6 (Addr.mk (Array.size H2) 0 none) (.int .i64 (w64 ((w64 ((10 : Int) * x5)) + k))))[l]? = some (rc st pd)) ∧ Q (.bool true) (Array.setIfInBounds (Hp.setCell H6 (Addr.mk (Array.size H2) 0 none) (.int .i64 (w64 ((w64 ((10 : Int) * x5)) + k)))) l (rc .ready none)))))
 (
 ((∃ st : LoopState, ∃ pd : Option Code, (Hp.setCell H6 (Addr.mk (Array.size H2) 0 none) (.int .i64 (w64 ((w64 ((10 : Int) * x5)) + k))))[l]? = some (rc st pd)) ∧ Q (.bool true) (Array.setIfInBounds (Hp.setCell H6 (Addr.mk (Array.size H2) 0 none) (.int .i64 (w64 ((w64 ((10 : Int) * x5)) + k)))) l (rc .ready none))))
theorem tephralaw05_awake.r1.eq (J : Jn) (H : Hp) (H2 : Hp) (l : Nat) (rc : LoopState → Option Code → Obj) (k : Int) (v : ByteArray) (H5 : Hp) (Q : Value → Hp → Prop) : vRound Try.prog tephralaw05_awake.cfr J (rgA tephralaw05_awake.r1.code) (rgB tephralaw05_awake.r1.code) (setFr (tephralaw05_awake.r1.fr H H2) (rgP tephralaw05_awake.r1.code).toList [.int .i64 k, .string v]) l rc H5 Q = tephralaw05_awake.r1.body J H H2 l rc k v H5 Q := by kernel_rfl
theorem tephralaw05_awake.r1.calls {H : Hp} {H2 : Hp} {l : Nat} {k : Int} {v : ByteArray} {H5 : Hp} {fnA : FuncId} {tmA : Array Value} {dA : Nat} {Q : Value → Hp → Prop} (hl : H5[l]? = some (tephralaw05_awake.r1.rec fnA tmA dA .ready none)) (hT : TmOf (tephralaw05_awake.r1.fr H H2) tmA) (h : tephralaw05_awake.r1.body J0 H H2 l (tephralaw05_awake.r1.rec fnA tmA dA) k v H5 Q) : YCalls Try.prog l [.int .i64 k, .string v] H5 Q := vRound_calls (cf := tephralaw05_awake.cfr) (fn := fnA) (tm := tmA) (ps := rgP tephralaw05_awake.r1.code) (asg := rgA tephralaw05_awake.r1.code) (body := rgB tephralaw05_awake.r1.code) (d := dA) (fr := (tephralaw05_awake.r1.fr H H2)) Try.mixed (by kernel_rfl) hl (by kernel_rfl) hT ((tephralaw05_awake.r1.eq J0 H H2 l (tephralaw05_awake.r1.rec fnA tmA dA) k v H5 Q).mpr h)
attribute [irreducible] tephralaw05_awake.r1.rec tephralaw05_awake.r1.fr tephralaw05_awake.r1.code
noncomputable def tephralaw05_awake.vc (J : Jn) (H : Hp) (Q : Value → Hp → Prop) : Prop :=
 
 SCalls Try.prog sorted_Map_int_string_Put.id [.pointer (some (Addr.mk (Array.size (Array.push H (.cells #[.bool false] T_bool))) 0 none)), .int .i64 3, .string (ByteArray.mk #[120])] (Array.push (Array.push H (.cells #[.bool false] T_bool)) (.cells #[.slice none 0 0] T_sorted_Map_int_string)) (fun r H1 => ∃ x : Bool, r = .bool x ∧ 
 SCalls Try.prog sorted_Map_int_string_Put.id [.pointer (some (Addr.mk (Array.size (Array.push H (.cells #[.bool false] T_bool))) 0 none)), .int .i64 1, .string (ByteArray.mk #[121])] H1 (fun r1 H2 => ∃ x1 : Bool, r1 = .bool x1 ∧ WrAt (Array.push H2 (.cells #[.int .i64 0] T_int)) (Addr.mk (Array.size H2) 0 none) 1 ∧ 
 SCalls Try.prog sorted_Map_int_string_Len.id [.pointer (some (Addr.mk (Array.size (Array.push H (.cells #[.bool false] T_bool))) 0 none))] (Hp.setCell (Array.push H2 (.cells #[.int .i64 0] T_int)) (Addr.mk (Array.size H2) 0 none) (.int .i64 0)) (fun r2 H3 => ∃ x2 : Int, r2 = .int .i64 x2 ∧ 
 Br (x2 != 2) (WrAt H3 (Addr.mk (Array.size H) 0 none) 1 ∧ ∃ x3 : Bool, Hp.cell? (Hp.setCell H3 (Addr.mk (Array.size H) 0 none) (.bool false)) (Addr.mk (Array.size H) 0 none) = some (.bool x3) ∧ Q (.bool x3) (Hp.setCell H3 (Addr.mk (Array.size H) 0 none) (.bool false)))
 (
 SCalls Try.prog sorted_Map_int_string_All.id [.pointer (some (Addr.mk (Array.size (Array.push H (.cells #[.bool false] T_bool))) 0 none))] H3 (fun r3 H4 => ∃ x4 : Fv, r3 = .func x4.fn x4.fi x4.ca ∧ 
 ∀ fn : FuncId, ∀ tm : Array Value, TmOf (tephralaw05_awake.r1.fr H H2) tm → vRg Try.prog (.func x4.fn x4.fi x4.ca) (Array.size H4 + 1) (Array.push (Array.push H4 hole) (tephralaw05_awake.r1.rec fn tm (Array.size H4) .ready none)) (fun H7 => ∃ st : LoopState, ∃ pd : Option Code, H7[(Array.size H4 + 1)]? = some (tephralaw05_awake.r1.rec fn tm (Array.size H4) st pd) ∧ st ≠ .busy ∧ ∀ H8 : Hp, H8 = (Array.setIfInBounds H7 (Array.size H4 + 1) (tephralaw05_awake.r1.rec fn tm (Array.size H4) .exhausted pd)) → ((pd = none → 
 SCalls Try.prog sorted_Map_int_string_Get.id [.pointer (some (Addr.mk (Array.size (Array.push H (.cells #[.bool false] T_bool))) 0 none)), .int .i64 3] H8 (fun r4 H9 => ∃ x7 : ByteArray, ∃ x8 : Bool, r4 = .tuple #[.string x7, .bool x8] ∧ 
 Br x (
 tephralaw05_awake.k1 J H H2 H9 x7 x8 x1 Q)
 (
 tephralaw05_awake.k1 J H H2 H9 x7 x8 false Q))) ∧ (pd = some .ret → ∃ x6 : Bool, Hp.cell? H8 (Addr.mk (Array.size H) 0 none) = some (.bool x6) ∧ Q (.bool x6) H8) ∧ (True) ∧ (pd = none ∨ pd = some .ret ∨ ∃ i ∈ ([] : List Nat), pd = some (.exit i)))))))))
theorem tephralaw05_awake.eq (J : Jn) (H : Hp) (Q : Value → Hp → Prop) : vFn Try.prog tephralaw05_awake.cf J tephralaw05_awake.fn [] H Q = tephralaw05_awake.vc J H Q := by kernel_rfl
theorem tephralaw05_awake.calls {H : Hp} {Q : Value → Hp → Prop} (h : tephralaw05_awake.vc J0 H Q) : SCalls Try.prog tephralaw05_awake.id [] H Q := vFn_of Try.mixed Try.func10 (tephralaw05_awake.eq J0 H Q) h

/-! 11: (*tephra/sorted.Map_int, int_).Put -/
noncomputable def sorted_Map_int_int_Put.cf : Cfg := ⟨[], [], [], [], true⟩
noncomputable def sorted_Map_int_int_Put.vc (J : Jn) (m : Addr) (k : Int) (v : Int) (H : Hp) (Q : Value → Hp → Prop) : Prop :=
 
 SCalls Try.prog sorted_Map_int_int_find.id [.pointer (some m), .int .i64 k] H (fun r H1 => ∃ x : Int, ∃ x1 : Bool, r = .tuple #[.int .i64 x, .bool x1] ∧ 
 Br x1 (∃ items : Sl, Hp.cell? H1 m = some (.slice items.a items.len items.cap) ∧ ((0 : Int) ≤ x ∧ x < ((items.len : Nat) : Int)) ∧ vPtr items.a (fun a => WrAt H1 ((a.add ((x : Int).toNat * 2)).add 1) 1 ∧ Q (.bool false) (Hp.setCell H1 ((a.add ((x : Int).toNat * 2)).add 1) (.int .i64 v))))
 (∃ items1 : Sl, Hp.cell? H1 m = some (.slice items1.a items1.len items1.cap) ∧ 
 SCalls Try.prog slices_Insert_sl_sorted_item_int_int_sorted_item_int_int.id [.slice items1.a items1.len items1.cap, .int .i64 x, .slice (some (Addr.mk (Array.size H1) 0 none)) 1 1] (Array.push H1 (.cells #[.int .i64 k, .int .i64 v] T_sorted_item_int_int)) (fun r1 H2 => ∃ x2 : Sl, r1 = .slice x2.a x2.len x2.cap ∧ WrAt H2 m 1 ∧ Q (.bool true) (Hp.setCell H2 m (.slice x2.a x2.len x2.cap)))))
theorem sorted_Map_int_int_Put.eq (J : Jn) (m : Addr) (k : Int) (v : Int) (H : Hp) (Q : Value → Hp → Prop) : vFn Try.prog sorted_Map_int_int_Put.cf J sorted_Map_int_int_Put.fn [.pointer (some m), .int .i64 k, .int .i64 v] H Q = sorted_Map_int_int_Put.vc J m k v H Q := by kernel_rfl
theorem sorted_Map_int_int_Put.calls {m : Addr} {k : Int} {v : Int} {H : Hp} {Q : Value → Hp → Prop} (h : sorted_Map_int_int_Put.vc J0 m k v H Q) : SCalls Try.prog sorted_Map_int_int_Put.id [.pointer (some m), .int .i64 k, .int .i64 v] H Q := vFn_of Try.mixed Try.func11 (sorted_Map_int_int_Put.eq J0 m k v H Q) h

/-! 12: (*tephra/sorted.Map_int, int_).Len -/
noncomputable def sorted_Map_int_int_Len.cf : Cfg := ⟨[], [], [], [], true⟩
noncomputable def sorted_Map_int_int_Len.vc (J : Jn) (m : Addr) (H : Hp) (Q : Value → Hp → Prop) : Prop :=
 ∃ items : Sl, Hp.cell? H m = some (.slice items.a items.len items.cap) ∧ Q (.int .i64 ((items.len : Nat) : Int)) H
theorem sorted_Map_int_int_Len.eq (J : Jn) (m : Addr) (H : Hp) (Q : Value → Hp → Prop) : vFn Try.prog sorted_Map_int_int_Len.cf J sorted_Map_int_int_Len.fn [.pointer (some m)] H Q = sorted_Map_int_int_Len.vc J m H Q := by kernel_rfl
theorem sorted_Map_int_int_Len.calls {m : Addr} {H : Hp} {Q : Value → Hp → Prop} (h : sorted_Map_int_int_Len.vc J0 m H Q) : SCalls Try.prog sorted_Map_int_int_Len.id [.pointer (some m)] H Q := vFn_of Try.mixed Try.func12 (sorted_Map_int_int_Len.eq J0 m H Q) h

/-! 13: (*tephra/sorted.Map_int, int_).All -/
noncomputable def sorted_Map_int_int_All.cf : Cfg := ⟨[], [], [], [], true⟩
noncomputable def sorted_Map_int_int_All.vc (J : Jn) (m : Addr) (H : Hp) (Q : Value → Hp → Prop) : Prop :=
 Q (.func (.func 30) #[] #[.pointer (some (Addr.mk (Array.size H) 0 none))]) (Array.push H (.cells #[.pointer (some m)] T_p_sorted_Map_int_int))
theorem sorted_Map_int_int_All.eq (J : Jn) (m : Addr) (H : Hp) (Q : Value → Hp → Prop) : vFn Try.prog sorted_Map_int_int_All.cf J sorted_Map_int_int_All.fn [.pointer (some m)] H Q = sorted_Map_int_int_All.vc J m H Q := by kernel_rfl
theorem sorted_Map_int_int_All.calls {m : Addr} {H : Hp} {Q : Value → Hp → Prop} (h : sorted_Map_int_int_All.vc J0 m H Q) : SCalls Try.prog sorted_Map_int_int_All.id [.pointer (some m)] H Q := vFn_of Try.mixed Try.func13 (sorted_Map_int_int_All.eq J0 m H Q) h

/-! 14: (*tephra/sorted.Map_int, int_).Get -/
noncomputable def sorted_Map_int_int_Get.cf : Cfg := ⟨[], [], [], [], true⟩
noncomputable def sorted_Map_int_int_Get.vc (J : Jn) (m : Addr) (k : Int) (H : Hp) (Q : Value → Hp → Prop) : Prop :=
 
 SCalls Try.prog sorted_Map_int_int_find.id [.pointer (some m), .int .i64 k] H (fun r H1 => ∃ x : Int, ∃ x1 : Bool, r = .tuple #[.int .i64 x, .bool x1] ∧ 
 Br x1 (∃ items : Sl, Hp.cell? H1 m = some (.slice items.a items.len items.cap) ∧ ((0 : Int) ≤ x ∧ x < ((items.len : Nat) : Int)) ∧ vPtr items.a (fun a => ∃ value : Int, Hp.cell? H1 ((a.add ((x : Int).toNat * 2)).add 1) = some (.int .i64 value) ∧ Q (.tuple #[.int .i64 value, .bool true]) H1))
 (Q (.tuple #[.int .i64 0, .bool false]) H1))
theorem sorted_Map_int_int_Get.eq (J : Jn) (m : Addr) (k : Int) (H : Hp) (Q : Value → Hp → Prop) : vFn Try.prog sorted_Map_int_int_Get.cf J sorted_Map_int_int_Get.fn [.pointer (some m), .int .i64 k] H Q = sorted_Map_int_int_Get.vc J m k H Q := by kernel_rfl
theorem sorted_Map_int_int_Get.calls {m : Addr} {k : Int} {H : Hp} {Q : Value → Hp → Prop} (h : sorted_Map_int_int_Get.vc J0 m k H Q) : SCalls Try.prog sorted_Map_int_int_Get.id [.pointer (some m), .int .i64 k] H Q := vFn_of Try.mixed Try.func14 (sorted_Map_int_int_Get.eq J0 m k H Q) h

/-! 15: tephra/tephralaw05.Of -/
noncomputable def tephralaw05_Of.cf : Cfg := ⟨[5], [(3, [3, 12, 13, 14])], [], [], true⟩
noncomputable def tephralaw05_Of.l1.st (acts : Sl) (H : Hp) (H1 : Hp) (x : Int) : VS := ⟨mkFr 28 [(3, .v (.pointer (some (Addr.mk (Array.size H) 0 none)))), (12, .v (.slice (cutA acts.a acts.cap 0 3) (((if (60 : Int) < ((acts.len : Nat) : Int) then 60 else ((acts.len : Nat) : Int)) : Int).toNat) acts.cap)), (13, .v (.int .i64 (((((if (60 : Int) < ((acts.len : Nat) : Int) then 60 else ((acts.len : Nat) : Int)) : Int).toNat) : Nat) : Int))), (14, .v (.int .i64 x))], [], H1⟩
noncomputable def tephralaw05_Of.l1 (J : Jn) (acts : Sl) (H : Hp) (H1 : Hp) (x : Int) (Q : Value → Hp → Prop) : Prop := vAt Try.prog tephralaw05_Of.cf J tephralaw05_Of.fn [1, 1, 0, 1, 0] [0, 0, 0, 0] Q (tephralaw05_Of.l1.st acts H H1 x)
attribute [irreducible] tephralaw05_Of.l1
noncomputable def tephralaw05_Of.l1.body (J : Jn) (acts : Sl) (H : Hp) (H1 : Hp) (x : Int) (Q : Value → Hp → Prop) : Prop :=
 
 Br (decide (x < (((((if (60 : Int) < ((acts.len : Nat) : Int) then 60 else ((acts.len : Nat) : Int)) : Int).toNat) : Nat) : Int))) (((0 : Int) ≤ x ∧ x < (((((if (60 : Int) < ((acts.len : Nat) : Int) then 60 else ((acts.len : Nat) : Int)) : Int).toNat) : Nat) : Int)) ∧ vPtr (cutA acts.a acts.cap 0 3) (fun a => ∃ Opv : Int, ∃ Key : Int, ∃ Valuev : Int, RowAt H1 (a.add ((x : Int).toNat * 3)) [.int .u8 Opv, .int .i8 Key, .int .u16 Valuev] ∧ 
 SCalls Try.prog sorted_Map_int_int_Put.id [.pointer (some (Addr.mk (Array.size H) 0 none)), .int .i64 (w64 (Key)), .int .i64 (w64 (Valuev))] (holes H1 1) (fun r H2 => ∃ x1 : Bool, r = .bool x1 ∧ 
 tephralaw05_Of.l1 J acts H H2 (w64 (x + 1)) Q)))
 (Q (.pointer (some (Addr.mk (Array.size H) 0 none))) H1)
theorem tephralaw05_Of.l1.eq (J : Jn) (acts : Sl) (H : Hp) (H1 : Hp) (x : Int) (Q : Value → Hp → Prop) : vAtBody Try.prog tephralaw05_Of.cf J tephralaw05_Of.fn [1, 1, 0, 1, 0] [0, 0, 0, 0] Q (tephralaw05_Of.l1.st acts H H1 x) = tephralaw05_Of.l1.body J acts H H1 x Q := by kernel_rfl
theorem tephralaw05_Of.l1.step {acts : Sl} {H : Hp} {H1 : Hp} {x : Int} {Q : Value → Hp → Prop} (h : tephralaw05_Of.l1.body J0 acts H H1 x Q) : tephralaw05_Of.l1 J0 acts H H1 x Q := vAt_stepC (tephralaw05_Of.l1.st acts H H1 x) (tephralaw05_Of.l1.eq J0 acts H H1 x Q) (by kernel_rfl) h
noncomputable def tephralaw05_Of.vc (J : Jn) (acts : Sl) (H : Hp) (Q : Value → Hp → Prop) : Prop :=
 ((0 : Int) ≤ (if (60 : Int) < ((acts.len : Nat) : Int) then 60 else ((acts.len : Nat) : Int)) ∧ (if (60 : Int) < ((acts.len : Nat) : Int) then 60 else ((acts.len : Nat) : Int)) ≤ ((acts.cap : Nat) : Int)) ∧ 
 tephralaw05_Of.l1 J acts H (Array.push H (.cells #[.slice none 0 0] T_sorted_Map_int_int)) 0 Q
theorem tephralaw05_Of.eq (J : Jn) (acts : Sl) (H : Hp) (Q : Value → Hp → Prop) : vFn Try.prog tephralaw05_Of.cf J tephralaw05_Of.fn [.slice acts.a acts.len acts.cap] H Q = tephralaw05_Of.vc J acts H Q := by kernel_rfl
theorem tephralaw05_Of.calls {acts : Sl} {H : Hp} {Q : Value → Hp → Prop} (h : tephralaw05_Of.vc J0 acts H Q) : SCalls Try.prog tephralaw05_Of.id [.slice acts.a acts.len acts.cap] H Q := vFn_of Try.mixed Try.func15 (tephralaw05_Of.eq J0 acts H Q) h

/-! 19: (*tephra/sorted.Map_int, int_).Del -/
noncomputable def sorted_Map_int_int_Del.cf : Cfg := ⟨[], [], [], [], true⟩
noncomputable def sorted_Map_int_int_Del.vc (J : Jn) (m : Addr) (k : Int) (H : Hp) (Q : Value → Hp → Prop) : Prop :=
 
 SCalls Try.prog sorted_Map_int_int_find.id [.pointer (some m), .int .i64 k] H (fun r H1 => ∃ x : Int, ∃ x1 : Bool, r = .tuple #[.int .i64 x, .bool x1] ∧ 
 Br x1 (∃ items : Sl, Hp.cell? H1 m = some (.slice items.a items.len items.cap) ∧ 
 SCalls Try.prog slices_Delete_sl_sorted_item_int_int_sorted_item_int_int.id [.slice items.a items.len items.cap, .int .i64 x, .int .i64 (w64 (x + 1))] H1 (fun r1 H2 => ∃ x2 : Sl, r1 = .slice x2.a x2.len x2.cap ∧ WrAt H2 m 1 ∧ Q (.bool x1) (Hp.setCell H2 m (.slice x2.a x2.len x2.cap))))
 (Q (.bool x1) H1))
theorem sorted_Map_int_int_Del.eq (J : Jn) (m : Addr) (k : Int) (H : Hp) (Q : Value → Hp → Prop) : vFn Try.prog sorted_Map_int_int_Del.cf J sorted_Map_int_int_Del.fn [.pointer (some m), .int .i64 k] H Q = sorted_Map_int_int_Del.vc J m k H Q := by kernel_rfl
theorem sorted_Map_int_int_Del.calls {m : Addr} {k : Int} {H : Hp} {Q : Value → Hp → Prop} (h : sorted_Map_int_int_Del.vc J0 m k H Q) : SCalls Try.prog sorted_Map_int_int_Del.id [.pointer (some m), .int .i64 k] H Q := vFn_of Try.mixed Try.func19 (sorted_Map_int_int_Del.eq J0 m k H Q) h

/-! 24: (*tephra/sorted.Map_int, string_).Put -/
noncomputable def sorted_Map_int_string_Put.cf : Cfg := ⟨[], [], [], [], true⟩
noncomputable def sorted_Map_int_string_Put.vc (J : Jn) (m : Addr) (k : Int) (v : ByteArray) (H : Hp) (Q : Value → Hp → Prop) : Prop :=
 
 SCalls Try.prog sorted_Map_int_string_find.id [.pointer (some m), .int .i64 k] H (fun r H1 => ∃ x : Int, ∃ x1 : Bool, r = .tuple #[.int .i64 x, .bool x1] ∧ 
 Br x1 (∃ items : Sl, Hp.cell? H1 m = some (.slice items.a items.len items.cap) ∧ ((0 : Int) ≤ x ∧ x < ((items.len : Nat) : Int)) ∧ vPtr items.a (fun a => WrAt H1 ((a.add ((x : Int).toNat * 2)).add 1) 1 ∧ Q (.bool false) (Hp.setCell H1 ((a.add ((x : Int).toNat * 2)).add 1) (.string v))))
 (∃ items1 : Sl, Hp.cell? H1 m = some (.slice items1.a items1.len items1.cap) ∧ 
 SCalls Try.prog slices_Insert_sl_sorted_item_int_string_sorted_item_int_string.id [.slice items1.a items1.len items1.cap, .int .i64 x, .slice (some (Addr.mk (Array.size H1) 0 none)) 1 1] (Array.push H1 (.cells #[.int .i64 k, .string v] T_sorted_item_int_string)) (fun r1 H2 => ∃ x2 : Sl, r1 = .slice x2.a x2.len x2.cap ∧ WrAt H2 m 1 ∧ Q (.bool true) (Hp.setCell H2 m (.slice x2.a x2.len x2.cap)))))
theorem sorted_Map_int_string_Put.eq (J : Jn) (m : Addr) (k : Int) (v : ByteArray) (H : Hp) (Q : Value → Hp → Prop) : vFn Try.prog sorted_Map_int_string_Put.cf J sorted_Map_int_string_Put.fn [.pointer (some m), .int .i64 k, .string v] H Q = sorted_Map_int_string_Put.vc J m k v H Q := by kernel_rfl
theorem sorted_Map_int_string_Put.calls {m : Addr} {k : Int} {v : ByteArray} {H : Hp} {Q : Value → Hp → Prop} (h : sorted_Map_int_string_Put.vc J0 m k v H Q) : SCalls Try.prog sorted_Map_int_string_Put.id [.pointer (some m), .int .i64 k, .string v] H Q := vFn_of Try.mixed Try.func24 (sorted_Map_int_string_Put.eq J0 m k v H Q) h

/-! 25: (*tephra/sorted.Map_int, string_).Len -/
noncomputable def sorted_Map_int_string_Len.cf : Cfg := ⟨[], [], [], [], true⟩
noncomputable def sorted_Map_int_string_Len.vc (J : Jn) (m : Addr) (H : Hp) (Q : Value → Hp → Prop) : Prop :=
 ∃ items : Sl, Hp.cell? H m = some (.slice items.a items.len items.cap) ∧ Q (.int .i64 ((items.len : Nat) : Int)) H
theorem sorted_Map_int_string_Len.eq (J : Jn) (m : Addr) (H : Hp) (Q : Value → Hp → Prop) : vFn Try.prog sorted_Map_int_string_Len.cf J sorted_Map_int_string_Len.fn [.pointer (some m)] H Q = sorted_Map_int_string_Len.vc J m H Q := by kernel_rfl
theorem sorted_Map_int_string_Len.calls {m : Addr} {H : Hp} {Q : Value → Hp → Prop} (h : sorted_Map_int_string_Len.vc J0 m H Q) : SCalls Try.prog sorted_Map_int_string_Len.id [.pointer (some m)] H Q := vFn_of Try.mixed Try.func25 (sorted_Map_int_string_Len.eq J0 m H Q) h

/-! 26: (*tephra/sorted.Map_int, string_).All -/
noncomputable def sorted_Map_int_string_All.cf : Cfg := ⟨[], [], [], [], true⟩
noncomputable def sorted_Map_int_string_All.vc (J : Jn) (m : Addr) (H : Hp) (Q : Value → Hp → Prop) : Prop :=
 Q (.func (.func 39) #[] #[.pointer (some (Addr.mk (Array.size H) 0 none))]) (Array.push H (.cells #[.pointer (some m)] T_p_sorted_Map_int_string))
theorem sorted_Map_int_string_All.eq (J : Jn) (m : Addr) (H : Hp) (Q : Value → Hp → Prop) : vFn Try.prog sorted_Map_int_string_All.cf J sorted_Map_int_string_All.fn [.pointer (some m)] H Q = sorted_Map_int_string_All.vc J m H Q := by kernel_rfl
theorem sorted_Map_int_string_All.calls {m : Addr} {H : Hp} {Q : Value → Hp → Prop} (h : sorted_Map_int_string_All.vc J0 m H Q) : SCalls Try.prog sorted_Map_int_string_All.id [.pointer (some m)] H Q := vFn_of Try.mixed Try.func26 (sorted_Map_int_string_All.eq J0 m H Q) h

/-! 27: (*tephra/sorted.Map_int, string_).Get -/
noncomputable def sorted_Map_int_string_Get.cf : Cfg := ⟨[], [], [], [], true⟩
noncomputable def sorted_Map_int_string_Get.vc (J : Jn) (m : Addr) (k : Int) (H : Hp) (Q : Value → Hp → Prop) : Prop :=
 
 SCalls Try.prog sorted_Map_int_string_find.id [.pointer (some m), .int .i64 k] H (fun r H1 => ∃ x : Int, ∃ x1 : Bool, r = .tuple #[.int .i64 x, .bool x1] ∧ 
 Br x1 (∃ items : Sl, Hp.cell? H1 m = some (.slice items.a items.len items.cap) ∧ ((0 : Int) ≤ x ∧ x < ((items.len : Nat) : Int)) ∧ vPtr items.a (fun a => ∃ value : ByteArray, Hp.cell? H1 ((a.add ((x : Int).toNat * 2)).add 1) = some (.string value) ∧ Q (.tuple #[.string value, .bool true]) H1))
 (Q (.tuple #[.string (ByteArray.mk #[]), .bool false]) H1))
theorem sorted_Map_int_string_Get.eq (J : Jn) (m : Addr) (k : Int) (H : Hp) (Q : Value → Hp → Prop) : vFn Try.prog sorted_Map_int_string_Get.cf J sorted_Map_int_string_Get.fn [.pointer (some m), .int .i64 k] H Q = sorted_Map_int_string_Get.vc J m k H Q := by kernel_rfl
theorem sorted_Map_int_string_Get.calls {m : Addr} {k : Int} {H : Hp} {Q : Value → Hp → Prop} (h : sorted_Map_int_string_Get.vc J0 m k H Q) : SCalls Try.prog sorted_Map_int_string_Get.id [.pointer (some m), .int .i64 k] H Q := vFn_of Try.mixed Try.func27 (sorted_Map_int_string_Get.eq J0 m k H Q) h

/-! 28: (*tephra/sorted.Map_int, int_).find -/
noncomputable def sorted_Map_int_int_find.cf : Cfg := ⟨[], [], [], [], true⟩
noncomputable def sorted_Map_int_int_find.vc (J : Jn) (m : Addr) (k : Int) (H : Hp) (Q : Value → Hp → Prop) : Prop :=
 ∃ items : Sl, Hp.cell? H m = some (.slice items.a items.len items.cap) ∧ 
 SCalls Try.prog slices_BinarySearchFunc_sl_sorted_item_int_int_sorted_item_int_int_int.id [.slice items.a items.len items.cap, .int .i64 k, .func (.func 41) #[] #[]] H (fun r H1 => ∃ x : Int, ∃ x1 : Bool, r = .tuple #[.int .i64 x, .bool x1] ∧ Q (.tuple #[.int .i64 x, .bool x1]) H1)
theorem sorted_Map_int_int_find.eq (J : Jn) (m : Addr) (k : Int) (H : Hp) (Q : Value → Hp → Prop) : vFn Try.prog sorted_Map_int_int_find.cf J sorted_Map_int_int_find.fn [.pointer (some m), .int .i64 k] H Q = sorted_Map_int_int_find.vc J m k H Q := by kernel_rfl
theorem sorted_Map_int_int_find.calls {m : Addr} {k : Int} {H : Hp} {Q : Value → Hp → Prop} (h : sorted_Map_int_int_find.vc J0 m k H Q) : SCalls Try.prog sorted_Map_int_int_find.id [.pointer (some m), .int .i64 k] H Q := vFn_of Try.mixed Try.func28 (sorted_Map_int_int_find.eq J0 m k H Q) h

/-! 29: slices.Insert___tephra/sorted.item_int, int_,tephra/sorted.item_int, int__ -/
noncomputable def slices_Insert_sl_sorted_item_int_int_sorted_item_int_int.cf : Cfg := ⟨[], [], [], [], true⟩
noncomputable def slices_Insert_sl_sorted_item_int_int_sorted_item_int_int.vc (J : Jn) (s : Sl) (i : Int) (v : Sl) (H : Hp) (Q : Value → Hp → Prop) : Prop :=
 ((0 : Int) ≤ i ∧ i ≤ ((s.len : Nat) : Int)) ∧ 
 Br (((v.len : Nat) : Int) == 0) (Q (.slice s.a s.len s.cap) H)
 (
 Br (i == ((s.len : Nat) : Int)) (
 vApp Try.prog T_sl_sorted_item_int_int s.a s.len s.cap (.slice v.a v.len v.cap) H (fun ap H1 => Q (.slice ap.a ap.len ap.cap) H1))
 (
 Br (decide ((w64 (((s.len : Nat) : Int) + ((v.len : Nat) : Int))) > ((s.cap : Nat) : Int))) (((0 : Int) ≤ i ∧ i ≤ ((s.cap : Nat) : Int)) ∧ 
 vAppZ Try.prog T_sl_sorted_item_int_int (cutA s.a s.cap 0 2) ((i : Int).toNat) s.cap (w64 ((w64 (((s.len : Nat) : Int) + ((v.len : Nat) : Int))) - i)) H (fun ap1 H2 => ((0 : Int) ≤ i ∧ i ≤ ((ap1.len : Nat) : Int)) ∧ 
 vCopy Try.prog T_sl_sorted_item_int_int (cutA ap1.a ap1.cap ((i : Int).toNat) 2) (ap1.len - ((i : Int).toNat)) (.slice v.a v.len v.cap) H2 (fun n H3 => ((0 : Int) ≤ (w64 (i + ((v.len : Nat) : Int))) ∧ (w64 (i + ((v.len : Nat) : Int))) ≤ ((ap1.len : Nat) : Int)) ∧ ((0 : Int) ≤ i ∧ i ≤ ((s.len : Nat) : Int)) ∧ 
 vCopy Try.prog T_sl_sorted_item_int_int (cutA ap1.a ap1.cap (((w64 (i + ((v.len : Nat) : Int))) : Int).toNat) 2) (ap1.len - (((w64 (i + ((v.len : Nat) : Int))) : Int).toNat)) (.slice (cutA s.a s.cap ((i : Int).toNat) 2) (s.len - ((i : Int).toNat)) (s.cap - ((i : Int).toNat))) H3 (fun n1 H4 => Q (.slice ap1.a ap1.len ap1.cap) H4))))
 (((0 : Int) ≤ (w64 (((s.len : Nat) : Int) + ((v.len : Nat) : Int))) ∧ (w64 (((s.len : Nat) : Int) + ((v.len : Nat) : Int))) ≤ ((s.cap : Nat) : Int)) ∧ ((0 : Int) ≤ (w64 (i + ((v.len : Nat) : Int))) ∧ (w64 (i + ((v.len : Nat) : Int))) ≤ (((((w64 (((s.len : Nat) : Int) + ((v.len : Nat) : Int))) : Int).toNat) : Nat) : Int)) ∧ 
 ExtC Try.prog 43 [.slice v.a v.len v.cap, .slice (cutA (cutA s.a s.cap 0 2) s.cap (((w64 (i + ((v.len : Nat) : Int))) : Int).toNat) 2) ((((w64 (((s.len : Nat) : Int) + ((v.len : Nat) : Int))) : Int).toNat) - (((w64 (i + ((v.len : Nat) : Int))) : Int).toNat)) (s.cap - (((w64 (i + ((v.len : Nat) : Int))) : Int).toNat))] H (fun r H5 => ∃ x : Bool, r = .bool x ∧ 
 Br (!x) (((0 : Int) ≤ (w64 (i + ((v.len : Nat) : Int))) ∧ (w64 (i + ((v.len : Nat) : Int))) ≤ (((((w64 (((s.len : Nat) : Int) + ((v.len : Nat) : Int))) : Int).toNat) : Nat) : Int)) ∧ ((0 : Int) ≤ i ∧ i ≤ (((((w64 (((s.len : Nat) : Int) + ((v.len : Nat) : Int))) : Int).toNat) : Nat) : Int)) ∧ 
 vCopy Try.prog T_sl_sorted_item_int_int (cutA (cutA s.a s.cap 0 2) s.cap (((w64 (i + ((v.len : Nat) : Int))) : Int).toNat) 2) ((((w64 (((s.len : Nat) : Int) + ((v.len : Nat) : Int))) : Int).toNat) - (((w64 (i + ((v.len : Nat) : Int))) : Int).toNat)) (.slice (cutA (cutA s.a s.cap 0 2) s.cap ((i : Int).toNat) 2) ((((w64 (((s.len : Nat) : Int) + ((v.len : Nat) : Int))) : Int).toNat) - ((i : Int).toNat)) (s.cap - ((i : Int).toNat))) H5 (fun n2 H6 => ((0 : Int) ≤ i ∧ i ≤ (((((w64 (((s.len : Nat) : Int) + ((v.len : Nat) : Int))) : Int).toNat) : Nat) : Int)) ∧ 
 vCopy Try.prog T_sl_sorted_item_int_int (cutA (cutA s.a s.cap 0 2) s.cap ((i : Int).toNat) 2) ((((w64 (((s.len : Nat) : Int) + ((v.len : Nat) : Int))) : Int).toNat) - ((i : Int).toNat)) (.slice v.a v.len v.cap) H6 (fun n3 H7 => Q (.slice (cutA s.a s.cap 0 2) (((w64 (((s.len : Nat) : Int) + ((v.len : Nat) : Int))) : Int).toNat) s.cap) H7)))
 (((0 : Int) ≤ ((s.len : Nat) : Int) ∧ ((s.len : Nat) : Int) ≤ (((((w64 (((s.len : Nat) : Int) + ((v.len : Nat) : Int))) : Int).toNat) : Nat) : Int)) ∧ 
 vCopy Try.prog T_sl_sorted_item_int_int (cutA (cutA s.a s.cap 0 2) s.cap ((((s.len : Nat) : Int) : Int).toNat) 2) ((((w64 (((s.len : Nat) : Int) + ((v.len : Nat) : Int))) : Int).toNat) - ((((s.len : Nat) : Int) : Int).toNat)) (.slice v.a v.len v.cap) H5 (fun n4 H8 => ((0 : Int) ≤ i ∧ i ≤ (((((w64 (((s.len : Nat) : Int) + ((v.len : Nat) : Int))) : Int).toNat) : Nat) : Int)) ∧ 
 SCalls Try.prog slices_rotateRight_sorted_item_int_int.id [.slice (cutA (cutA s.a s.cap 0 2) s.cap ((i : Int).toNat) 2) ((((w64 (((s.len : Nat) : Int) + ((v.len : Nat) : Int))) : Int).toNat) - ((i : Int).toNat)) (s.cap - ((i : Int).toNat)), .int .i64 ((v.len : Nat) : Int)] H8 (fun r1 H9 => r1 = .tuple #[] ∧ Q (.slice (cutA s.a s.cap 0 2) (((w64 (((s.len : Nat) : Int) + ((v.len : Nat) : Int))) : Int).toNat) s.cap) H9)))))))
theorem slices_Insert_sl_sorted_item_int_int_sorted_item_int_int.eq (J : Jn) (s : Sl) (i : Int) (v : Sl) (H : Hp) (Q : Value → Hp → Prop) : vFn Try.prog slices_Insert_sl_sorted_item_int_int_sorted_item_int_int.cf J slices_Insert_sl_sorted_item_int_int_sorted_item_int_int.fn [.slice s.a s.len s.cap, .int .i64 i, .slice v.a v.len v.cap] H Q = slices_Insert_sl_sorted_item_int_int_sorted_item_int_int.vc J s i v H Q := by kernel_rfl
theorem slices_Insert_sl_sorted_item_int_int_sorted_item_int_int.calls {s : Sl} {i : Int} {v : Sl} {H : Hp} {Q : Value → Hp → Prop} (h : slices_Insert_sl_sorted_item_int_int_sorted_item_int_int.vc J0 s i v H Q) : SCalls Try.prog slices_Insert_sl_sorted_item_int_int_sorted_item_int_int.id [.slice s.a s.len s.cap, .int .i64 i, .slice v.a v.len v.cap] H Q := vFn_of Try.mixed Try.func29 (slices_Insert_sl_sorted_item_int_int_sorted_item_int_int.eq J0 s i v H Q) h

/-! 30: (*tephra/sorted.Map_int, int_).All$1 -/
noncomputable def sorted_Map_int_int_All_1.cf : Cfg := ⟨[4], [(1, [0, 8, 9, 10])], [], [], true⟩
noncomputable def sorted_Map_int_int_All_1.l1.st (yield : Fv) (items : Sl) (H1 : Hp) (x1 : Int) : VS := ⟨mkFr 22 [(0, .v (.func yield.fn yield.fi yield.ca)), (8, .v (.slice items.a items.len items.cap)), (9, .v (.int .i64 ((items.len : Nat) : Int))), (10, .v (.int .i64 x1))], [], H1⟩
noncomputable def sorted_Map_int_int_All_1.l1 (J : Jn) (yield : Fv) (items : Sl) (H1 : Hp) (x1 : Int) (Q : Value → Hp → Prop) : Prop := vAt Try.prog sorted_Map_int_int_All_1.cf J sorted_Map_int_int_All_1.fn [1, 0] [0] Q (sorted_Map_int_int_All_1.l1.st yield items H1 x1)
attribute [irreducible] sorted_Map_int_int_All_1.l1
noncomputable def sorted_Map_int_int_All_1.l1.body (J : Jn) (yield : Fv) (items : Sl) (H1 : Hp) (x1 : Int) (Q : Value → Hp → Prop) : Prop :=
 
 Br (decide (x1 < ((items.len : Nat) : Int))) (((0 : Int) ≤ x1 ∧ x1 < ((items.len : Nat) : Int)) ∧ vPtr items.a (fun a1 => ∃ key : Int, ∃ value : Int, RowAt H1 (a1.add ((x1 : Int).toNat * 2)) [.int .i64 key, .int .i64 value] ∧ 
 vInv Try.prog (.func yield.fn yield.fi yield.ca) [.int .i64 key, .int .i64 value] (holes H1 1) (fun r H2 => ∃ x2 : Bool, r = .bool x2 ∧ 
 Br (!x2) (Q (.tuple #[]) H2)
 (
 sorted_Map_int_int_All_1.l1 J yield items H2 (w64 (x1 + 1)) Q))))
 (Q (.tuple #[]) H1)
theorem sorted_Map_int_int_All_1.l1.eq (J : Jn) (yield : Fv) (items : Sl) (H1 : Hp) (x1 : Int) (Q : Value → Hp → Prop) : vAtBody Try.prog sorted_Map_int_int_All_1.cf J sorted_Map_int_int_All_1.fn [1, 0] [0] Q (sorted_Map_int_int_All_1.l1.st yield items H1 x1) = sorted_Map_int_int_All_1.l1.body J yield items H1 x1 Q := by kernel_rfl
theorem sorted_Map_int_int_All_1.l1.step {yield : Fv} {items : Sl} {H1 : Hp} {x1 : Int} {Q : Value → Hp → Prop} (h : sorted_Map_int_int_All_1.l1.body J0 yield items H1 x1 Q) : sorted_Map_int_int_All_1.l1 J0 yield items H1 x1 Q := vAt_stepC (sorted_Map_int_int_All_1.l1.st yield items H1 x1) (sorted_Map_int_int_All_1.l1.eq J0 yield items H1 x1 Q) (by kernel_rfl) h
noncomputable def sorted_Map_int_int_All_1.vc (J : Jn) (yield : Fv) (cap0 : Addr) (H : Hp) (Q : Value → Hp → Prop) : Prop :=
 ∃ x : Option Addr, Hp.cell? H cap0 = some (.pointer x) ∧ vPtr x (fun a => ∃ items : Sl, Hp.cell? H a = some (.slice items.a items.len items.cap) ∧ 
 sorted_Map_int_int_All_1.l1 J yield items H 0 Q)
theorem sorted_Map_int_int_All_1.eq (J : Jn) (yield : Fv) (cap0 : Addr) (H : Hp) (Q : Value → Hp → Prop) : vFn Try.prog sorted_Map_int_int_All_1.cf J sorted_Map_int_int_All_1.fn [.func yield.fn yield.fi yield.ca, .pointer (some cap0)] H Q = sorted_Map_int_int_All_1.vc J yield cap0 H Q := by kernel_rfl
theorem sorted_Map_int_int_All_1.calls {yield : Fv} {cap0 : Addr} {H : Hp} {Q : Value → Hp → Prop} (h : sorted_Map_int_int_All_1.vc J0 yield cap0 H Q) : SCalls Try.prog sorted_Map_int_int_All_1.id [.func yield.fn yield.fi yield.ca, .pointer (some cap0)] H Q := vFn_of Try.mixed Try.func30 (sorted_Map_int_int_All_1.eq J0 yield cap0 H Q) h

/-! 33: slices.Delete___tephra/sorted.item_int, int_,tephra/sorted.item_int, int__ -/
noncomputable def slices_Delete_sl_sorted_item_int_int_sorted_item_int_int.cf : Cfg := ⟨[], [], [], [], true⟩
noncomputable def slices_Delete_sl_sorted_item_int_int_sorted_item_int_int.vc (J : Jn) (s : Sl) (i : Int) (j : Int) (H : Hp) (Q : Value → Hp → Prop) : Prop :=
 ((0 : Int) ≤ ((s.len : Nat) : Int) ∧ ((s.len : Nat) : Int) ≤ ((s.cap : Nat) : Int)) ∧ ((0 : Int) ≤ j ∧ j ≤ ((((((s.len : Nat) : Int) : Int).toNat) : Nat) : Int)) ∧ ((0 : Int) ≤ i ∧ i ≤ ((((j : Int).toNat) : Nat) : Int)) ∧ 
 Br (i == j) (Q (.slice s.a s.len s.cap) H)
 (((0 : Int) ≤ i ∧ i ≤ ((s.cap : Nat) : Int)) ∧ ((0 : Int) ≤ j ∧ j ≤ ((s.len : Nat) : Int)) ∧ 
 vApp Try.prog T_sl_sorted_item_int_int (cutA s.a s.cap 0 2) ((i : Int).toNat) s.cap (.slice (cutA s.a s.cap ((j : Int).toNat) 2) (s.len - ((j : Int).toNat)) (s.cap - ((j : Int).toNat))) H (fun ap H1 => ((0 : Int) ≤ ((s.len : Nat) : Int) ∧ ((s.len : Nat) : Int) ≤ ((ap.cap : Nat) : Int)) ∧ ((0 : Int) ≤ ((ap.len : Nat) : Int) ∧ ((ap.len : Nat) : Int) ≤ ((((((s.len : Nat) : Int) : Int).toNat) : Nat) : Int)) ∧ 
 vClear Try.prog T_sl_sorted_item_int_int (cutA ap.a ap.cap ((((ap.len : Nat) : Int) : Int).toNat) 2) (((((s.len : Nat) : Int) : Int).toNat) - ((((ap.len : Nat) : Int) : Int).toNat)) H1 (fun H2 => Q (.slice ap.a ap.len ap.cap) H2)))
theorem slices_Delete_sl_sorted_item_int_int_sorted_item_int_int.eq (J : Jn) (s : Sl) (i : Int) (j : Int) (H : Hp) (Q : Value → Hp → Prop) : vFn Try.prog slices_Delete_sl_sorted_item_int_int_sorted_item_int_int.cf J slices_Delete_sl_sorted_item_int_int_sorted_item_int_int.fn [.slice s.a s.len s.cap, .int .i64 i, .int .i64 j] H Q = slices_Delete_sl_sorted_item_int_int_sorted_item_int_int.vc J s i j H Q := by kernel_rfl
theorem slices_Delete_sl_sorted_item_int_int_sorted_item_int_int.calls {s : Sl} {i : Int} {j : Int} {H : Hp} {Q : Value → Hp → Prop} (h : slices_Delete_sl_sorted_item_int_int_sorted_item_int_int.vc J0 s i j H Q) : SCalls Try.prog slices_Delete_sl_sorted_item_int_int_sorted_item_int_int.id [.slice s.a s.len s.cap, .int .i64 i, .int .i64 j] H Q := vFn_of Try.mixed Try.func33 (slices_Delete_sl_sorted_item_int_int_sorted_item_int_int.eq J0 s i j H Q) h

/-! 37: (*tephra/sorted.Map_int, string_).find -/
noncomputable def sorted_Map_int_string_find.cf : Cfg := ⟨[], [], [], [], true⟩
noncomputable def sorted_Map_int_string_find.vc (J : Jn) (m : Addr) (k : Int) (H : Hp) (Q : Value → Hp → Prop) : Prop :=
 ∃ items : Sl, Hp.cell? H m = some (.slice items.a items.len items.cap) ∧ 
 SCalls Try.prog slices_BinarySearchFunc_sl_sorted_item_int_string_sorted_item_int_string_int.id [.slice items.a items.len items.cap, .int .i64 k, .func (.func 51) #[] #[]] H (fun r H1 => ∃ x : Int, ∃ x1 : Bool, r = .tuple #[.int .i64 x, .bool x1] ∧ Q (.tuple #[.int .i64 x, .bool x1]) H1)
theorem sorted_Map_int_string_find.eq (J : Jn) (m : Addr) (k : Int) (H : Hp) (Q : Value → Hp → Prop) : vFn Try.prog sorted_Map_int_string_find.cf J sorted_Map_int_string_find.fn [.pointer (some m), .int .i64 k] H Q = sorted_Map_int_string_find.vc J m k H Q := by kernel_rfl
theorem sorted_Map_int_string_find.calls {m : Addr} {k : Int} {H : Hp} {Q : Value → Hp → Prop} (h : sorted_Map_int_string_find.vc J0 m k H Q) : SCalls Try.prog sorted_Map_int_string_find.id [.pointer (some m), .int .i64 k] H Q := vFn_of Try.mixed Try.func37 (sorted_Map_int_string_find.eq J0 m k H Q) h

/-! 38: slices.Insert___tephra/sorted.item_int, string_,tephra/sorted.item_int, string__ -/
noncomputable def slices_Insert_sl_sorted_item_int_string_sorted_item_int_string.cf : Cfg := ⟨[], [], [], [], true⟩
noncomputable def slices_Insert_sl_sorted_item_int_string_sorted_item_int_string.vc (J : Jn) (s : Sl) (i : Int) (v : Sl) (H : Hp) (Q : Value → Hp → Prop) : Prop :=
 ((0 : Int) ≤ i ∧ i ≤ ((s.len : Nat) : Int)) ∧ 
 Br (((v.len : Nat) : Int) == 0) (Q (.slice s.a s.len s.cap) H)
 (
 Br (i == ((s.len : Nat) : Int)) (
 vApp Try.prog T_sl_sorted_item_int_string s.a s.len s.cap (.slice v.a v.len v.cap) H (fun ap H1 => Q (.slice ap.a ap.len ap.cap) H1))
 (
 Br (decide ((w64 (((s.len : Nat) : Int) + ((v.len : Nat) : Int))) > ((s.cap : Nat) : Int))) (((0 : Int) ≤ i ∧ i ≤ ((s.cap : Nat) : Int)) ∧ 
 vAppZ Try.prog T_sl_sorted_item_int_string (cutA s.a s.cap 0 2) ((i : Int).toNat) s.cap (w64 ((w64 (((s.len : Nat) : Int) + ((v.len : Nat) : Int))) - i)) H (fun ap1 H2 => ((0 : Int) ≤ i ∧ i ≤ ((ap1.len : Nat) : Int)) ∧ 
 vCopy Try.prog T_sl_sorted_item_int_string (cutA ap1.a ap1.cap ((i : Int).toNat) 2) (ap1.len - ((i : Int).toNat)) (.slice v.a v.len v.cap) H2 (fun n H3 => ((0 : Int) ≤ (w64 (i + ((v.len : Nat) : Int))) ∧ (w64 (i + ((v.len : Nat) : Int))) ≤ ((ap1.len : Nat) : Int)) ∧ ((0 : Int) ≤ i ∧ i ≤ ((s.len : Nat) : Int)) ∧ 
 vCopy Try.prog T_sl_sorted_item_int_string (cutA ap1.a ap1.cap (((w64 (i + ((v.len : Nat) : Int))) : Int).toNat) 2) (ap1.len - (((w64 (i + ((v.len : Nat) : Int))) : Int).toNat)) (.slice (cutA s.a s.cap ((i : Int).toNat) 2) (s.len - ((i : Int).toNat)) (s.cap - ((i : Int).toNat))) H3 (fun n1 H4 => Q (.slice ap1.a ap1.len ap1.cap) H4))))
 (((0 : Int) ≤ (w64 (((s.len : Nat) : Int) + ((v.len : Nat) : Int))) ∧ (w64 (((s.len : Nat) : Int) + ((v.len : Nat) : Int))) ≤ ((s.cap : Nat) : Int)) ∧ ((0 : Int) ≤ (w64 (i + ((v.len : Nat) : Int))) ∧ (w64 (i + ((v.len : Nat) : Int))) ≤ (((((w64 (((s.len : Nat) : Int) + ((v.len : Nat) : Int))) : Int).toNat) : Nat) : Int)) ∧ 
 ExtC Try.prog 52 [.slice v.a v.len v.cap, .slice (cutA (cutA s.a s.cap 0 2) s.cap (((w64 (i + ((v.len : Nat) : Int))) : Int).toNat) 2) ((((w64 (((s.len : Nat) : Int) + ((v.len : Nat) : Int))) : Int).toNat) - (((w64 (i + ((v.len : Nat) : Int))) : Int).toNat)) (s.cap - (((w64 (i + ((v.len : Nat) : Int))) : Int).toNat))] H (fun r H5 => ∃ x : Bool, r = .bool x ∧ 
 Br (!x) (((0 : Int) ≤ (w64 (i + ((v.len : Nat) : Int))) ∧ (w64 (i + ((v.len : Nat) : Int))) ≤ (((((w64 (((s.len : Nat) : Int) + ((v.len : Nat) : Int))) : Int).toNat) : Nat) : Int)) ∧ ((0 : Int) ≤ i ∧ i ≤ (((((w64 (((s.len : Nat) : Int) + ((v.len : Nat) : Int))) : Int).toNat) : Nat) : Int)) ∧ 
 vCopy Try.prog T_sl_sorted_item_int_string (cutA (cutA s.a s.cap 0 2) s.cap (((w64 (i + ((v.len : Nat) : Int))) : Int).toNat) 2) ((((w64 (((s.len : Nat) : Int) + ((v.len : Nat) : Int))) : Int).toNat) - (((w64 (i + ((v.len : Nat) : Int))) : Int).toNat)) (.slice (cutA (cutA s.a s.cap 0 2) s.cap ((i : Int).toNat) 2) ((((w64 (((s.len : Nat) : Int) + ((v.len : Nat) : Int))) : Int).toNat) - ((i : Int).toNat)) (s.cap - ((i : Int).toNat))) H5 (fun n2 H6 => ((0 : Int) ≤ i ∧ i ≤ (((((w64 (((s.len : Nat) : Int) + ((v.len : Nat) : Int))) : Int).toNat) : Nat) : Int)) ∧ 
 vCopy Try.prog T_sl_sorted_item_int_string (cutA (cutA s.a s.cap 0 2) s.cap ((i : Int).toNat) 2) ((((w64 (((s.len : Nat) : Int) + ((v.len : Nat) : Int))) : Int).toNat) - ((i : Int).toNat)) (.slice v.a v.len v.cap) H6 (fun n3 H7 => Q (.slice (cutA s.a s.cap 0 2) (((w64 (((s.len : Nat) : Int) + ((v.len : Nat) : Int))) : Int).toNat) s.cap) H7)))
 (((0 : Int) ≤ ((s.len : Nat) : Int) ∧ ((s.len : Nat) : Int) ≤ (((((w64 (((s.len : Nat) : Int) + ((v.len : Nat) : Int))) : Int).toNat) : Nat) : Int)) ∧ 
 vCopy Try.prog T_sl_sorted_item_int_string (cutA (cutA s.a s.cap 0 2) s.cap ((((s.len : Nat) : Int) : Int).toNat) 2) ((((w64 (((s.len : Nat) : Int) + ((v.len : Nat) : Int))) : Int).toNat) - ((((s.len : Nat) : Int) : Int).toNat)) (.slice v.a v.len v.cap) H5 (fun n4 H8 => ((0 : Int) ≤ i ∧ i ≤ (((((w64 (((s.len : Nat) : Int) + ((v.len : Nat) : Int))) : Int).toNat) : Nat) : Int)) ∧ 
 SCalls Try.prog slices_rotateRight_sorted_item_int_string.id [.slice (cutA (cutA s.a s.cap 0 2) s.cap ((i : Int).toNat) 2) ((((w64 (((s.len : Nat) : Int) + ((v.len : Nat) : Int))) : Int).toNat) - ((i : Int).toNat)) (s.cap - ((i : Int).toNat)), .int .i64 ((v.len : Nat) : Int)] H8 (fun r1 H9 => r1 = .tuple #[] ∧ Q (.slice (cutA s.a s.cap 0 2) (((w64 (((s.len : Nat) : Int) + ((v.len : Nat) : Int))) : Int).toNat) s.cap) H9)))))))
theorem slices_Insert_sl_sorted_item_int_string_sorted_item_int_string.eq (J : Jn) (s : Sl) (i : Int) (v : Sl) (H : Hp) (Q : Value → Hp → Prop) : vFn Try.prog slices_Insert_sl_sorted_item_int_string_sorted_item_int_string.cf J slices_Insert_sl_sorted_item_int_string_sorted_item_int_string.fn [.slice s.a s.len s.cap, .int .i64 i, .slice v.a v.len v.cap] H Q = slices_Insert_sl_sorted_item_int_string_sorted_item_int_string.vc J s i v H Q := by kernel_rfl
theorem slices_Insert_sl_sorted_item_int_string_sorted_item_int_string.calls {s : Sl} {i : Int} {v : Sl} {H : Hp} {Q : Value → Hp → Prop} (h : slices_Insert_sl_sorted_item_int_string_sorted_item_int_string.vc J0 s i v H Q) : SCalls Try.prog slices_Insert_sl_sorted_item_int_string_sorted_item_int_string.id [.slice s.a s.len s.cap, .int .i64 i, .slice v.a v.len v.cap] H Q := vFn_of Try.mixed Try.func38 (slices_Insert_sl_sorted_item_int_string_sorted_item_int_string.eq J0 s i v H Q) h

/-! 39: (*tephra/sorted.Map_int, string_).All$1 -/
noncomputable def sorted_Map_int_string_All_1.cf : Cfg := ⟨[4], [(1, [0, 8, 9, 10])], [], [], true⟩
noncomputable def sorted_Map_int_string_All_1.l1.st (yield : Fv) (items : Sl) (H1 : Hp) (x1 : Int) : VS := ⟨mkFr 22 [(0, .v (.func yield.fn yield.fi yield.ca)), (8, .v (.slice items.a items.len items.cap)), (9, .v (.int .i64 ((items.len : Nat) : Int))), (10, .v (.int .i64 x1))], [], H1⟩
noncomputable def sorted_Map_int_string_All_1.l1 (J : Jn) (yield : Fv) (items : Sl) (H1 : Hp) (x1 : Int) (Q : Value → Hp → Prop) : Prop := vAt Try.prog sorted_Map_int_string_All_1.cf J sorted_Map_int_string_All_1.fn [1, 0] [0] Q (sorted_Map_int_string_All_1.l1.st yield items H1 x1)
attribute [irreducible] sorted_Map_int_string_All_1.l1
noncomputable def sorted_Map_int_string_All_1.l1.body (J : Jn) (yield : Fv) (items : Sl) (H1 : Hp) (x1 : Int) (Q : Value → Hp → Prop) : Prop :=
 
 Br (decide (x1 < ((items.len : Nat) : Int))) (((0 : Int) ≤ x1 ∧ x1 < ((items.len : Nat) : Int)) ∧ vPtr items.a (fun a1 => ∃ key : Int, ∃ value : ByteArray, RowAt H1 (a1.add ((x1 : Int).toNat * 2)) [.int .i64 key, .string value] ∧ 
 vInv Try.prog (.func yield.fn yield.fi yield.ca) [.int .i64 key, .string value] (holes H1 1) (fun r H2 => ∃ x2 : Bool, r = .bool x2 ∧ 
 Br (!x2) (Q (.tuple #[]) H2)
 (
 sorted_Map_int_string_All_1.l1 J yield items H2 (w64 (x1 + 1)) Q))))
 (Q (.tuple #[]) H1)
theorem sorted_Map_int_string_All_1.l1.eq (J : Jn) (yield : Fv) (items : Sl) (H1 : Hp) (x1 : Int) (Q : Value → Hp → Prop) : vAtBody Try.prog sorted_Map_int_string_All_1.cf J sorted_Map_int_string_All_1.fn [1, 0] [0] Q (sorted_Map_int_string_All_1.l1.st yield items H1 x1) = sorted_Map_int_string_All_1.l1.body J yield items H1 x1 Q := by kernel_rfl
theorem sorted_Map_int_string_All_1.l1.step {yield : Fv} {items : Sl} {H1 : Hp} {x1 : Int} {Q : Value → Hp → Prop} (h : sorted_Map_int_string_All_1.l1.body J0 yield items H1 x1 Q) : sorted_Map_int_string_All_1.l1 J0 yield items H1 x1 Q := vAt_stepC (sorted_Map_int_string_All_1.l1.st yield items H1 x1) (sorted_Map_int_string_All_1.l1.eq J0 yield items H1 x1 Q) (by kernel_rfl) h
noncomputable def sorted_Map_int_string_All_1.vc (J : Jn) (yield : Fv) (cap0 : Addr) (H : Hp) (Q : Value → Hp → Prop) : Prop :=
 ∃ x : Option Addr, Hp.cell? H cap0 = some (.pointer x) ∧ vPtr x (fun a => ∃ items : Sl, Hp.cell? H a = some (.slice items.a items.len items.cap) ∧ 
 sorted_Map_int_string_All_1.l1 J yield items H 0 Q)
theorem sorted_Map_int_string_All_1.eq (J : Jn) (yield : Fv) (cap0 : Addr) (H : Hp) (Q : Value → Hp → Prop) : vFn Try.prog sorted_Map_int_string_All_1.cf J sorted_Map_int_string_All_1.fn [.func yield.fn yield.fi yield.ca, .pointer (some cap0)] H Q = sorted_Map_int_string_All_1.vc J yield cap0 H Q := by kernel_rfl
theorem sorted_Map_int_string_All_1.calls {yield : Fv} {cap0 : Addr} {H : Hp} {Q : Value → Hp → Prop} (h : sorted_Map_int_string_All_1.vc J0 yield cap0 H Q) : SCalls Try.prog sorted_Map_int_string_All_1.id [.func yield.fn yield.fi yield.ca, .pointer (some cap0)] H Q := vFn_of Try.mixed Try.func39 (sorted_Map_int_string_All_1.eq J0 yield cap0 H Q) h

/-! 40: slices.BinarySearchFunc___tephra/sorted.item_int, int_,tephra/sorted.item_int, int_,int_ -/
noncomputable def slices_BinarySearchFunc_sl_sorted_item_int_int_sorted_item_int_int_int.cf : Cfg := ⟨[], [(3, [0, 1, 2, 8, 9, 10])], [], [], true⟩
noncomputable def slices_BinarySearchFunc_sl_sorted_item_int_int_sorted_item_int_int_int.l1.st (x : Sl) (target : Int) (cmp : Fv) (H1 : Hp) (i : Int) (j : Int) : VS := ⟨mkFr 49 [(0, .v (.slice x.a x.len x.cap)), (1, .v (.int .i64 target)), (2, .v (.func cmp.fn cmp.fi cmp.ca)), (8, .v (.int .i64 ((x.len : Nat) : Int))), (9, .v (.int .i64 i)), (10, .v (.int .i64 j))], [], H1⟩
noncomputable def slices_BinarySearchFunc_sl_sorted_item_int_int_sorted_item_int_int_int.l1 (J : Jn) (x : Sl) (target : Int) (cmp : Fv) (H1 : Hp) (i : Int) (j : Int) (Q : Value → Hp → Prop) : Prop := vAt Try.prog slices_BinarySearchFunc_sl_sorted_item_int_int_sorted_item_int_int_int.cf J slices_BinarySearchFunc_sl_sorted_item_int_int_sorted_item_int_int_int.fn [1, 1, 1, 0, 0] [0, 0, 0, 0] Q (slices_BinarySearchFunc_sl_sorted_item_int_int_sorted_item_int_int_int.l1.st x target cmp H1 i j)
attribute [irreducible] slices_BinarySearchFunc_sl_sorted_item_int_int_sorted_item_int_int_int.l1
noncomputable def slices_BinarySearchFunc_sl_sorted_item_int_int_sorted_item_int_int_int.l1.body (J : Jn) (x : Sl) (target : Int) (cmp : Fv) (H1 : Hp) (i : Int) (j : Int) (Q : Value → Hp → Prop) : Prop :=
 
 Br (decide (i < j)) ((0 : Int) ≤ 1 ∧ ((0 : Int) ≤ (w64 ((Int.fdiv (IntKind.u64.wrap ((w64 (i + j)))) (2 ^ 1)))) ∧ (w64 ((Int.fdiv (IntKind.u64.wrap ((w64 (i + j)))) (2 ^ 1)))) < ((x.len : Nat) : Int)) ∧ vPtr x.a (fun a => ∃ key : Int, ∃ value : Int, RowAt H1 (a.add (((w64 ((Int.fdiv (IntKind.u64.wrap ((w64 (i + j)))) (2 ^ 1)))) : Int).toNat * 2)) [.int .i64 key, .int .i64 value] ∧ 
 vInv Try.prog (.func cmp.fn cmp.fi cmp.ca) [.agg #[.int .i64 key, .int .i64 value], .int .i64 target] H1 (fun r H2 => ∃ x1 : Int, r = .int .i64 x1 ∧ 
 Br (decide (x1 < 0)) (
 slices_BinarySearchFunc_sl_sorted_item_int_int_sorted_item_int_int_int.l1 J x target cmp H2 (w64 ((w64 ((Int.fdiv (IntKind.u64.wrap ((w64 (i + j)))) (2 ^ 1)))) + 1)) j Q)
 (
 slices_BinarySearchFunc_sl_sorted_item_int_int_sorted_item_int_int_int.l1 J x target cmp H2 i (w64 ((Int.fdiv (IntKind.u64.wrap ((w64 (i + j)))) (2 ^ 1)))) Q))))
 (
 Br (decide (i < ((x.len : Nat) : Int))) (((0 : Int) ≤ i ∧ i < ((x.len : Nat) : Int)) ∧ vPtr x.a (fun a1 => ∃ key1 : Int, ∃ value1 : Int, RowAt H1 (a1.add ((i : Int).toNat * 2)) [.int .i64 key1, .int .i64 value1] ∧ 
 vInv Try.prog (.func cmp.fn cmp.fi cmp.ca) [.agg #[.int .i64 key1, .int .i64 value1], .int .i64 target] H1 (fun r1 H3 => ∃ x2 : Int, r1 = .int .i64 x2 ∧ Q (.tuple #[.int .i64 i, .bool (x2 == 0)]) H3)))
 (Q (.tuple #[.int .i64 i, .bool false]) H1))
theorem slices_BinarySearchFunc_sl_sorted_item_int_int_sorted_item_int_int_int.l1.eq (J : Jn) (x : Sl) (target : Int) (cmp : Fv) (H1 : Hp) (i : Int) (j : Int) (Q : Value → Hp → Prop) : vAtBody Try.prog slices_BinarySearchFunc_sl_sorted_item_int_int_sorted_item_int_int_int.cf J slices_BinarySearchFunc_sl_sorted_item_int_int_sorted_item_int_int_int.fn [1, 1, 1, 0, 0] [0, 0, 0, 0] Q (slices_BinarySearchFunc_sl_sorted_item_int_int_sorted_item_int_int_int.l1.st x target cmp H1 i j) = slices_BinarySearchFunc_sl_sorted_item_int_int_sorted_item_int_int_int.l1.body J x target cmp H1 i j Q := by kernel_rfl
theorem slices_BinarySearchFunc_sl_sorted_item_int_int_sorted_item_int_int_int.l1.step {x : Sl} {target : Int} {cmp : Fv} {H1 : Hp} {i : Int} {j : Int} {Q : Value → Hp → Prop} (h : slices_BinarySearchFunc_sl_sorted_item_int_int_sorted_item_int_int_int.l1.body J0 x target cmp H1 i j Q) : slices_BinarySearchFunc_sl_sorted_item_int_int_sorted_item_int_int_int.l1 J0 x target cmp H1 i j Q := vAt_stepC (slices_BinarySearchFunc_sl_sorted_item_int_int_sorted_item_int_int_int.l1.st x target cmp H1 i j) (slices_BinarySearchFunc_sl_sorted_item_int_int_sorted_item_int_int_int.l1.eq J0 x target cmp H1 i j Q) (by kernel_rfl) h
noncomputable def slices_BinarySearchFunc_sl_sorted_item_int_int_sorted_item_int_int_int.vc (J : Jn) (x : Sl) (target : Int) (cmp : Fv) (H : Hp) (Q : Value → Hp → Prop) : Prop :=
 
 slices_BinarySearchFunc_sl_sorted_item_int_int_sorted_item_int_int_int.l1 J x target cmp H 0 ((x.len : Nat) : Int) Q
theorem slices_BinarySearchFunc_sl_sorted_item_int_int_sorted_item_int_int_int.eq (J : Jn) (x : Sl) (target : Int) (cmp : Fv) (H : Hp) (Q : Value → Hp → Prop) : vFn Try.prog slices_BinarySearchFunc_sl_sorted_item_int_int_sorted_item_int_int_int.cf J slices_BinarySearchFunc_sl_sorted_item_int_int_sorted_item_int_int_int.fn [.slice x.a x.len x.cap, .int .i64 target, .func cmp.fn cmp.fi cmp.ca] H Q = slices_BinarySearchFunc_sl_sorted_item_int_int_sorted_item_int_int_int.vc J x target cmp H Q := by kernel_rfl
theorem slices_BinarySearchFunc_sl_sorted_item_int_int_sorted_item_int_int_int.calls {x : Sl} {target : Int} {cmp : Fv} {H : Hp} {Q : Value → Hp → Prop} (h : slices_BinarySearchFunc_sl_sorted_item_int_int_sorted_item_int_int_int.vc J0 x target cmp H Q) : SCalls Try.prog slices_BinarySearchFunc_sl_sorted_item_int_int_sorted_item_int_int_int.id [.slice x.a x.len x.cap, .int .i64 target, .func cmp.fn cmp.fi cmp.ca] H Q := vFn_of Try.mixed Try.func40 (slices_BinarySearchFunc_sl_sorted_item_int_int_sorted_item_int_int_int.eq J0 x target cmp H Q) h

/-! 41: (*tephra/sorted.Map_int, int_).find$1 -/
noncomputable def sorted_Map_int_int_find_1.cf : Cfg := ⟨[2], [], [], [], true⟩
noncomputable def sorted_Map_int_int_find_1.vc (J : Jn) (xkey : Int) (xvalue : Int) (k : Int) (H : Hp) (Q : Value → Hp → Prop) : Prop :=
 
 SCalls Try.prog cmp_Compare_int.id [.int .i64 xkey, .int .i64 k] (holes H 1) (fun r H1 => ∃ x : Int, r = .int .i64 x ∧ Q (.int .i64 x) H1)
theorem sorted_Map_int_int_find_1.eq (J : Jn) (xkey : Int) (xvalue : Int) (k : Int) (H : Hp) (Q : Value → Hp → Prop) : vFn Try.prog sorted_Map_int_int_find_1.cf J sorted_Map_int_int_find_1.fn [.agg #[.int .i64 xkey, .int .i64 xvalue], .int .i64 k] H Q = sorted_Map_int_int_find_1.vc J xkey xvalue k H Q := by kernel_rfl
theorem sorted_Map_int_int_find_1.calls {xkey : Int} {xvalue : Int} {k : Int} {H : Hp} {Q : Value → Hp → Prop} (h : sorted_Map_int_int_find_1.vc J0 xkey xvalue k H Q) : SCalls Try.prog sorted_Map_int_int_find_1.id [.agg #[.int .i64 xkey, .int .i64 xvalue], .int .i64 k] H Q := vFn_of Try.mixed Try.func41 (sorted_Map_int_int_find_1.eq J0 xkey xvalue k H Q) h

/-! 42: cmp.Compare_int_ -/
noncomputable def cmp_Compare_int.cf : Cfg := ⟨[], [], [], [], true⟩
noncomputable def cmp_Compare_int.vc (J : Jn) (x : Int) (y : Int) (H : Hp) (Q : Value → Hp → Prop) : Prop :=
 
 SCalls Try.prog cmp_isNaN_int.id [.int .i64 x] H (fun r H1 => ∃ x1 : Bool, r = .bool x1 ∧ 
 SCalls Try.prog cmp_isNaN_int.id [.int .i64 y] H1 (fun r1 H2 => ∃ x2 : Bool, r1 = .bool x2 ∧ 
 Br x1 (
 Br x2 (Q (.int .i64 0) H2)
 (Q (.int .i64 (-1)) H2))
 (
 Br x2 (Q (.int .i64 1) H2)
 (
 Br (decide (x < y)) (Q (.int .i64 (-1)) H2)
 (
 Br (decide (x > y)) (Q (.int .i64 1) H2)
 (Q (.int .i64 0) H2))))))
theorem cmp_Compare_int.eq (J : Jn) (x : Int) (y : Int) (H : Hp) (Q : Value → Hp → Prop) : vFn Try.prog cmp_Compare_int.cf J cmp_Compare_int.fn [.int .i64 x, .int .i64 y] H Q = cmp_Compare_int.vc J x y H Q := by kernel_rfl
theorem cmp_Compare_int.calls {x : Int} {y : Int} {H : Hp} {Q : Value → Hp → Prop} (h : cmp_Compare_int.vc J0 x y H Q) : SCalls Try.prog cmp_Compare_int.id [.int .i64 x, .int .i64 y] H Q := vFn_of Try.mixed Try.func42 (cmp_Compare_int.eq J0 x y H Q) h

/-! 50: slices.BinarySearchFunc___tephra/sorted.item_int, string_,tephra/sorted.item_int, string_,int_ -/
noncomputable def slices_BinarySearchFunc_sl_sorted_item_int_string_sorted_item_int_string_int.cf : Cfg := ⟨[], [(3, [0, 1, 2, 8, 9, 10])], [], [], true⟩
noncomputable def slices_BinarySearchFunc_sl_sorted_item_int_string_sorted_item_int_string_int.l1.st (x : Sl) (target : Int) (cmp : Fv) (H1 : Hp) (i : Int) (j : Int) : VS := ⟨mkFr 49 [(0, .v (.slice x.a x.len x.cap)), (1, .v (.int .i64 target)), (2, .v (.func cmp.fn cmp.fi cmp.ca)), (8, .v (.int .i64 ((x.len : Nat) : Int))), (9, .v (.int .i64 i)), (10, .v (.int .i64 j))], [], H1⟩
noncomputable def slices_BinarySearchFunc_sl_sorted_item_int_string_sorted_item_int_string_int.l1 (J : Jn) (x : Sl) (target : Int) (cmp : Fv) (H1 : Hp) (i : Int) (j : Int) (Q : Value → Hp → Prop) : Prop := vAt Try.prog slices_BinarySearchFunc_sl_sorted_item_int_string_sorted_item_int_string_int.cf J slices_BinarySearchFunc_sl_sorted_item_int_string_sorted_item_int_string_int.fn [1, 1, 1, 0, 0] [0, 0, 0, 0] Q (slices_BinarySearchFunc_sl_sorted_item_int_string_sorted_item_int_string_int.l1.st x target cmp H1 i j)
attribute [irreducible] slices_BinarySearchFunc_sl_sorted_item_int_string_sorted_item_int_string_int.l1
noncomputable def slices_BinarySearchFunc_sl_sorted_item_int_string_sorted_item_int_string_int.l1.body (J : Jn) (x : Sl) (target : Int) (cmp : Fv) (H1 : Hp) (i : Int) (j : Int) (Q : Value → Hp → Prop) : Prop :=
 
 Br (decide (i < j)) ((0 : Int) ≤ 1 ∧ ((0 : Int) ≤ (w64 ((Int.fdiv (IntKind.u64.wrap ((w64 (i + j)))) (2 ^ 1)))) ∧ (w64 ((Int.fdiv (IntKind.u64.wrap ((w64 (i + j)))) (2 ^ 1)))) < ((x.len : Nat) : Int)) ∧ vPtr x.a (fun a => ∃ key : Int, ∃ value : ByteArray, RowAt H1 (a.add (((w64 ((Int.fdiv (IntKind.u64.wrap ((w64 (i + j)))) (2 ^ 1)))) : Int).toNat * 2)) [.int .i64 key, .string value] ∧ 
 vInv Try.prog (.func cmp.fn cmp.fi cmp.ca) [.agg #[.int .i64 key, .string value], .int .i64 target] H1 (fun r H2 => ∃ x1 : Int, r = .int .i64 x1 ∧ 
 Br (decide (x1 < 0)) (
 slices_BinarySearchFunc_sl_sorted_item_int_string_sorted_item_int_string_int.l1 J x target cmp H2 (w64 ((w64 ((Int.fdiv (IntKind.u64.wrap ((w64 (i + j)))) (2 ^ 1)))) + 1)) j Q)
 (
 slices_BinarySearchFunc_sl_sorted_item_int_string_sorted_item_int_string_int.l1 J x target cmp H2 i (w64 ((Int.fdiv (IntKind.u64.wrap ((w64 (i + j)))) (2 ^ 1)))) Q))))
 (
 Br (decide (i < ((x.len : Nat) : Int))) (((0 : Int) ≤ i ∧ i < ((x.len : Nat) : Int)) ∧ vPtr x.a (fun a1 => ∃ key1 : Int, ∃ value1 : ByteArray, RowAt H1 (a1.add ((i : Int).toNat * 2)) [.int .i64 key1, .string value1] ∧ 
 vInv Try.prog (.func cmp.fn cmp.fi cmp.ca) [.agg #[.int .i64 key1, .string value1], .int .i64 target] H1 (fun r1 H3 => ∃ x2 : Int, r1 = .int .i64 x2 ∧ Q (.tuple #[.int .i64 i, .bool (x2 == 0)]) H3)))
 (Q (.tuple #[.int .i64 i, .bool false]) H1))
theorem slices_BinarySearchFunc_sl_sorted_item_int_string_sorted_item_int_string_int.l1.eq (J : Jn) (x : Sl) (target : Int) (cmp : Fv) (H1 : Hp) (i : Int) (j : Int) (Q : Value → Hp → Prop) : vAtBody Try.prog slices_BinarySearchFunc_sl_sorted_item_int_string_sorted_item_int_string_int.cf J slices_BinarySearchFunc_sl_sorted_item_int_string_sorted_item_int_string_int.fn [1, 1, 1, 0, 0] [0, 0, 0, 0] Q (slices_BinarySearchFunc_sl_sorted_item_int_string_sorted_item_int_string_int.l1.st x target cmp H1 i j) = slices_BinarySearchFunc_sl_sorted_item_int_string_sorted_item_int_string_int.l1.body J x target cmp H1 i j Q := by kernel_rfl
theorem slices_BinarySearchFunc_sl_sorted_item_int_string_sorted_item_int_string_int.l1.step {x : Sl} {target : Int} {cmp : Fv} {H1 : Hp} {i : Int} {j : Int} {Q : Value → Hp → Prop} (h : slices_BinarySearchFunc_sl_sorted_item_int_string_sorted_item_int_string_int.l1.body J0 x target cmp H1 i j Q) : slices_BinarySearchFunc_sl_sorted_item_int_string_sorted_item_int_string_int.l1 J0 x target cmp H1 i j Q := vAt_stepC (slices_BinarySearchFunc_sl_sorted_item_int_string_sorted_item_int_string_int.l1.st x target cmp H1 i j) (slices_BinarySearchFunc_sl_sorted_item_int_string_sorted_item_int_string_int.l1.eq J0 x target cmp H1 i j Q) (by kernel_rfl) h
noncomputable def slices_BinarySearchFunc_sl_sorted_item_int_string_sorted_item_int_string_int.vc (J : Jn) (x : Sl) (target : Int) (cmp : Fv) (H : Hp) (Q : Value → Hp → Prop) : Prop :=
 
 slices_BinarySearchFunc_sl_sorted_item_int_string_sorted_item_int_string_int.l1 J x target cmp H 0 ((x.len : Nat) : Int) Q
theorem slices_BinarySearchFunc_sl_sorted_item_int_string_sorted_item_int_string_int.eq (J : Jn) (x : Sl) (target : Int) (cmp : Fv) (H : Hp) (Q : Value → Hp → Prop) : vFn Try.prog slices_BinarySearchFunc_sl_sorted_item_int_string_sorted_item_int_string_int.cf J slices_BinarySearchFunc_sl_sorted_item_int_string_sorted_item_int_string_int.fn [.slice x.a x.len x.cap, .int .i64 target, .func cmp.fn cmp.fi cmp.ca] H Q = slices_BinarySearchFunc_sl_sorted_item_int_string_sorted_item_int_string_int.vc J x target cmp H Q := by kernel_rfl
theorem slices_BinarySearchFunc_sl_sorted_item_int_string_sorted_item_int_string_int.calls {x : Sl} {target : Int} {cmp : Fv} {H : Hp} {Q : Value → Hp → Prop} (h : slices_BinarySearchFunc_sl_sorted_item_int_string_sorted_item_int_string_int.vc J0 x target cmp H Q) : SCalls Try.prog slices_BinarySearchFunc_sl_sorted_item_int_string_sorted_item_int_string_int.id [.slice x.a x.len x.cap, .int .i64 target, .func cmp.fn cmp.fi cmp.ca] H Q := vFn_of Try.mixed Try.func50 (slices_BinarySearchFunc_sl_sorted_item_int_string_sorted_item_int_string_int.eq J0 x target cmp H Q) h

/-! 51: (*tephra/sorted.Map_int, string_).find$1 -/
noncomputable def sorted_Map_int_string_find_1.cf : Cfg := ⟨[2], [], [], [], true⟩
noncomputable def sorted_Map_int_string_find_1.vc (J : Jn) (xkey : Int) (xvalue : ByteArray) (k : Int) (H : Hp) (Q : Value → Hp → Prop) : Prop :=
 
 SCalls Try.prog cmp_Compare_int.id [.int .i64 xkey, .int .i64 k] (holes H 1) (fun r H1 => ∃ x : Int, r = .int .i64 x ∧ Q (.int .i64 x) H1)
theorem sorted_Map_int_string_find_1.eq (J : Jn) (xkey : Int) (xvalue : ByteArray) (k : Int) (H : Hp) (Q : Value → Hp → Prop) : vFn Try.prog sorted_Map_int_string_find_1.cf J sorted_Map_int_string_find_1.fn [.agg #[.int .i64 xkey, .string xvalue], .int .i64 k] H Q = sorted_Map_int_string_find_1.vc J xkey xvalue k H Q := by kernel_rfl
theorem sorted_Map_int_string_find_1.calls {xkey : Int} {xvalue : ByteArray} {k : Int} {H : Hp} {Q : Value → Hp → Prop} (h : sorted_Map_int_string_find_1.vc J0 xkey xvalue k H Q) : SCalls Try.prog sorted_Map_int_string_find_1.id [.agg #[.int .i64 xkey, .string xvalue], .int .i64 k] H Q := vFn_of Try.mixed Try.func51 (sorted_Map_int_string_find_1.eq J0 xkey xvalue k H Q) h

/-! 54: cmp.isNaN_int_ -/
noncomputable def cmp_isNaN_int.cf : Cfg := ⟨[], [], [], [], true⟩
noncomputable def cmp_isNaN_int.vc (J : Jn) (x : Int) (H : Hp) (Q : Value → Hp → Prop) : Prop :=
 Q (.bool (x != x)) H
theorem cmp_isNaN_int.eq (J : Jn) (x : Int) (H : Hp) (Q : Value → Hp → Prop) : vFn Try.prog cmp_isNaN_int.cf J cmp_isNaN_int.fn [.int .i64 x] H Q = cmp_isNaN_int.vc J x H Q := by kernel_rfl
theorem cmp_isNaN_int.calls {x : Int} {H : Hp} {Q : Value → Hp → Prop} (h : cmp_isNaN_int.vc J0 x H Q) : SCalls Try.prog cmp_isNaN_int.id [.int .i64 x] H Q := vFn_of Try.mixed Try.func54 (cmp_isNaN_int.eq J0 x H Q) h

/-! 23: tephra/sorted.Merge_int,int_ -/
noncomputable def sorted_Merge_int_int.cf : Cfg := ⟨[1000003], [], [], [], true⟩
noncomputable def sorted_Merge_int_int.vc (J : Jn) (a : Fv) (b : Fv) (H : Hp) (Q : Value → Hp → Prop) : Prop :=
 ∀ b1 : Nat, b1 = Array.size H → ∀ H1 : Hp, H1 = (Array.push H (.cells #[.func a.fn a.fi a.ca] T_iter_Seq2_int_int)) → ∀ b2 : Nat, b2 = Array.size H1 → ∀ H2 : Hp, H2 = (Array.push H1 (.cells #[.func b.fn b.fi b.ca] T_iter_Seq2_int_int)) → Q (.func (.func 36) #[] #[.pointer (some (Addr.mk b2 0 none)), .pointer (some (Addr.mk b1 0 none))]) H2
theorem sorted_Merge_int_int.eq (J : Jn) (a : Fv) (b : Fv) (H : Hp) (Q : Value → Hp → Prop) : vFn Try.prog sorted_Merge_int_int.cf J sorted_Merge_int_int.fn [.func a.fn a.fi a.ca, .func b.fn b.fi b.ca] H Q = sorted_Merge_int_int.vc J a b H Q := by kernel_rfl
theorem sorted_Merge_int_int.calls {a : Fv} {b : Fv} {H : Hp} {Q : Value → Hp → Prop} (h : sorted_Merge_int_int.vc J0 a b H Q) : SCalls Try.prog sorted_Merge_int_int.id [.func a.fn a.fi a.ca, .func b.fn b.fi b.ca] H Q := vFn_of Try.mixed Try.func23 (sorted_Merge_int_int.eq J0 a b H Q) h

/-! 36: tephra/sorted.Merge_int,int_$1 -/
noncomputable def sorted_Merge_int_int_1.cf : Cfg := ⟨[10, 1000003], [(9, [3, 4, 7, 8]), (17, [3, 69, 70, 71]), (1000005, [4]), (1000009, [3, 4])], [(10, [3, 4, 7, 8], true), (11, [3, 4, 7, 8], true), (12, [3, 4, 7, 8], true), (13, [3, 4, 7, 8, 57], true)], [], true⟩
noncomputable def sorted_Merge_int_int_1.cfr : Cfg := { sorted_Merge_int_int_1.cf with rf := false }
noncomputable def sorted_Merge_int_int_1.r1.fr (b1 : Nat) : List AV := mkFr 83 [(4, .v (.pointer (some (Addr.mk b1 0 none))))]
noncomputable def sorted_Merge_int_int_1.r1.code : Code := sub (bodyOf sorted_Merge_int_int_1.fn) [1, 1, 0, 1, 0]
noncomputable def sorted_Merge_int_int_1.r1.rec (fn : FuncId) (tm : Array Value) (d : Nat) (st : LoopState) (pd : Option Code) : Obj := recO fn tm (rgP sorted_Merge_int_int_1.r1.code) (rgA sorted_Merge_int_int_1.r1.code) (rgB sorted_Merge_int_int_1.r1.code) d st pd
noncomputable def sorted_Merge_int_int_1.r2.fr (b : Nat) (b1 : Nat) : List AV := mkFr 83 [(3, .v (.pointer (some (Addr.mk b 0 none)))), (4, .v (.pointer (some (Addr.mk b1 0 none))))]
noncomputable def sorted_Merge_int_int_1.r2.code : Code := sub (bodyOf sorted_Merge_int_int_1.fn) [1, 1, 1, 0, 1, 0]
noncomputable def sorted_Merge_int_int_1.r2.rec (fn : FuncId) (tm : Array Value) (d : Nat) (st : LoopState) (pd : Option Code) : Obj := recO fn tm (rgP sorted_Merge_int_int_1.r2.code) (rgA sorted_Merge_int_int_1.r2.code) (rgB sorted_Merge_int_int_1.r2.code) d st pd
noncomputable def sorted_Merge_int_int_1.l1.st (b : Nat) (b1 : Nat) (k1 : Int) (v1 : Int) (H12 : Hp) : VS := ⟨mkFr 83 [(3, .v (.pointer (some (Addr.mk b 0 none)))), (4, .v (.pointer (some (Addr.mk b1 0 none)))), (7, .v (.int .i64 k1)), (8, .v (.int .i64 v1))], [], H12⟩
noncomputable def sorted_Merge_int_int_1.l1 (J : Jn) (b : Nat) (b1 : Nat) (l1 : Nat) (rc1 : LoopState → Option Code → Obj) (k1 : Int) (v1 : Int) (H12 : Hp) (Q : Value → Hp → Prop) : Prop := vAtC Try.prog sorted_Merge_int_int_1.cfr J (rgB sorted_Merge_int_int_1.r2.code) [0, 0, 0] [0] (roundK l1 rc1 Q) (sorted_Merge_int_int_1.l1.st b b1 k1 v1 H12)
noncomputable def sorted_Merge_int_int_1.k1.st (b : Nat) (b1 : Nat) (k1 : Int) (v1 : Int) (H12 : Hp) : VS := ⟨mkFr 83 [(3, .v (.pointer (some (Addr.mk b 0 none)))), (4, .v (.pointer (some (Addr.mk b1 0 none)))), (7, .v (.int .i64 k1)), (8, .v (.int .i64 v1))], [], H12⟩
noncomputable def sorted_Merge_int_int_1.k1 (J : Jn) (b : Nat) (b1 : Nat) (l1 : Nat) (rc1 : LoopState → Option Code → Obj) (k1 : Int) (v1 : Int) (H12 : Hp) (Q : Value → Hp → Prop) : Prop := J (vSegC Try.prog sorted_Merge_int_int_1.cfr J (rgB sorted_Merge_int_int_1.r2.code) [0, 0, 0, 0, 1] [0, 0, 0] (roundK l1 rc1 Q)) (sorted_Merge_int_int_1.k1.st b b1 k1 v1 H12)
noncomputable def sorted_Merge_int_int_1.k2.st (b : Nat) (b1 : Nat) (k1 : Int) (v1 : Int) (H13 : Hp) : VS := ⟨mkFr 83 [(3, .v (.pointer (some (Addr.mk b 0 none)))), (4, .v (.pointer (some (Addr.mk b1 0 none)))), (7, .v (.int .i64 k1)), (8, .v (.int .i64 v1))], [], H13⟩
noncomputable def sorted_Merge_int_int_1.k2 (J : Jn) (b : Nat) (b1 : Nat) (l1 : Nat) (rc1 : LoopState → Option Code → Obj) (k1 : Int) (v1 : Int) (H13 : Hp) (Q : Value → Hp → Prop) : Prop := J (vSegC Try.prog sorted_Merge_int_int_1.cfr J (rgB sorted_Merge_int_int_1.r2.code) [0, 0, 0, 0, 1, 0, 1] [0, 0, 0, 0] (roundK l1 rc1 Q)) (sorted_Merge_int_int_1.k2.st b b1 k1 v1 H13)
noncomputable def sorted_Merge_int_int_1.k3.st (b : Nat) (b1 : Nat) (k1 : Int) (v1 : Int) (H12 : Hp) : VS := ⟨mkFr 83 [(3, .v (.pointer (some (Addr.mk b 0 none)))), (4, .v (.pointer (some (Addr.mk b1 0 none)))), (7, .v (.int .i64 k1)), (8, .v (.int .i64 v1))], [], H12⟩
noncomputable def sorted_Merge_int_int_1.k3 (J : Jn) (b : Nat) (b1 : Nat) (l1 : Nat) (rc1 : LoopState → Option Code → Obj) (k1 : Int) (v1 : Int) (H12 : Hp) (Q : Value → Hp → Prop) : Prop := J (vSegC Try.prog sorted_Merge_int_int_1.cfr J (rgB sorted_Merge_int_int_1.r2.code) [0, 1] [0] (roundK l1 rc1 Q)) (sorted_Merge_int_int_1.k3.st b b1 k1 v1 H12)
noncomputable def sorted_Merge_int_int_1.k4.st (b : Nat) (b1 : Nat) (k1 : Int) (v1 : Int) (H12 : Hp) (x12 : Bool) : VS := ⟨mkFr 83 [(3, .v (.pointer (some (Addr.mk b 0 none)))), (4, .v (.pointer (some (Addr.mk b1 0 none)))), (7, .v (.int .i64 k1)), (8, .v (.int .i64 v1)), (57, .v (.bool x12))], [], H12⟩
noncomputable def sorted_Merge_int_int_1.k4 (J : Jn) (b : Nat) (b1 : Nat) (l1 : Nat) (rc1 : LoopState → Option Code → Obj) (k1 : Int) (v1 : Int) (H12 : Hp) (x12 : Bool) (Q : Value → Hp → Prop) : Prop := J (vSegC Try.prog sorted_Merge_int_int_1.cfr J (rgB sorted_Merge_int_int_1.r2.code) [0, 1, 0, 1] [0, 0, 0] (roundK l1 rc1 Q)) (sorted_Merge_int_int_1.k4.st b b1 k1 v1 H12 x12)
noncomputable def sorted_Merge_int_int_1.l2.st (b : Nat) (x19 : Sl) (H20 : Hp) (x20 : Int) : VS := ⟨mkFr 83 [(3, .v (.pointer (some (Addr.mk b 0 none)))), (69, .v (.slice x19.a x19.len x19.cap)), (70, .v (.int .i64 ((x19.len : Nat) : Int))), (71, .v (.int .i64 x20))], [], H20⟩
noncomputable def sorted_Merge_int_int_1.l2 (J : Jn) (b : Nat) (x19 : Sl) (H20 : Hp) (x20 : Int) (Q : Value → Hp → Prop) : Prop := vAt Try.prog sorted_Merge_int_int_1.cf J sorted_Merge_int_int_1.fn [1, 1, 1, 1, 1, 0] [0, 0, 0, 0, 0] Q (sorted_Merge_int_int_1.l2.st b x19 H20 x20)
attribute [irreducible] sorted_Merge_int_int_1.l1 sorted_Merge_int_int_1.k1 sorted_Merge_int_int_1.k2 sorted_Merge_int_int_1.k3 sorted_Merge_int_int_1.k4 sorted_Merge_int_int_1.l2
noncomputable def sorted_Merge_int_int_1.l1.body (J : Jn) (b : Nat) (b1 : Nat) (l1 : Nat) (rc1 : LoopState → Option Code → Obj) (k1 : Int) (v1 : Int) (H12 : Hp) (Q : Value → Hp → Prop) : Prop :=
 ∃ x3 : Sl, Hp.cell? H12 (Addr.mk b1 0 none) = some (.slice x3.a x3.len x3.cap) ∧ 
 Br (decide (((x3.len : Nat) : Int) > 0)) (∃ x4 : Sl, Hp.cell? H12 (Addr.mk b1 0 none) = some (.slice x4.a x4.len x4.cap) ∧ ((0 : Int) ≤ 0 ∧ (0 : Int) < ((x4.len : Nat) : Int)) ∧ vPtr x4.a (fun a => ∃ key : Int, Hp.cell? H12 a = some (.int .i64 key) ∧ 
 Br (decide (key < k1)) (
 sorted_Merge_int_int_1.k1 J b b1 l1 rc1 k1 v1 H12 Q)
 (
 sorted_Merge_int_int_1.k3 J b b1 l1 rc1 k1 v1 H12 Q)))
 (
 sorted_Merge_int_int_1.k3 J b b1 l1 rc1 k1 v1 H12 Q)
theorem sorted_Merge_int_int_1.l1.eq (J : Jn) (b : Nat) (b1 : Nat) (l1 : Nat) (rc1 : LoopState → Option Code → Obj) (k1 : Int) (v1 : Int) (H12 : Hp) (Q : Value → Hp → Prop) : vAtBodyC Try.prog sorted_Merge_int_int_1.cfr J (rgB sorted_Merge_int_int_1.r2.code) [0, 0, 0] [0] (roundK l1 rc1 Q) (sorted_Merge_int_int_1.l1.st b b1 k1 v1 H12) = sorted_Merge_int_int_1.l1.body J b b1 l1 rc1 k1 v1 H12 Q := by kernel_rfl
theorem sorted_Merge_int_int_1.l1.step {b : Nat} {b1 : Nat} {l1 : Nat} {rc1 : LoopState → Option Code → Obj} {k1 : Int} {v1 : Int} {H12 : Hp} {Q : Value → Hp → Prop} (h : sorted_Merge_int_int_1.l1.body J0 b b1 l1 rc1 k1 v1 H12 Q) : sorted_Merge_int_int_1.l1 J0 b b1 l1 rc1 k1 v1 H12 Q := vAtC_stepC (sorted_Merge_int_int_1.l1.st b b1 k1 v1 H12) (sorted_Merge_int_int_1.l1.eq J0 b b1 l1 rc1 k1 v1 H12 Q) (by kernel_rfl) h
noncomputable def sorted_Merge_int_int_1.k1.body (J : Jn) (b : Nat) (b1 : Nat) (l1 : Nat) (rc1 : LoopState → Option Code → Obj) (k1 : Int) (v1 : Int) (H12 : Hp) (Q : Value → Hp → Prop) : Prop :=
 ∃ x5 : Fv, Hp.cell? H12 (Addr.mk b 0 none) = some (.func x5.fn x5.fi x5.ca) ∧ ∃ x6 : Sl, Hp.cell? H12 (Addr.mk b1 0 none) = some (.slice x6.a x6.len x6.cap) ∧ ((0 : Int) ≤ 0 ∧ (0 : Int) < ((x6.len : Nat) : Int)) ∧ vPtr x6.a (fun a1 => ∃ key1 : Int, Hp.cell? H12 a1 = some (.int .i64 key1) ∧ ∃ x7 : Sl, Hp.cell? H12 (Addr.mk b1 0 none) = some (.slice x7.a x7.len x7.cap) ∧ ((0 : Int) ≤ 0 ∧ (0 : Int) < ((x7.len : Nat) : Int)) ∧ vPtr x7.a (fun a2 => ∃ value : Int, Hp.cell? H12 (a2.add 1) = some (.int .i64 value) ∧ 
 vInv Try.prog (.func x5.fn x5.fi x5.ca) [.int .i64 key1, .int .i64 value] H12 (fun r H13 => ∃ x8 : Bool, r = .bool x8 ∧ 
 Br (!x8) (
 ((∃ st : LoopState, ∃ pd : Option Code, H13[l1]? = some (rc1 st pd)) ∧ Q (.bool false) (Array.setIfInBounds H13 l1 (rc1 .done (some .ret)))))
 (
 sorted_Merge_int_int_1.k2 J b b1 l1 rc1 k1 v1 H13 Q))))
theorem sorted_Merge_int_int_1.k1.eq (J : Jn) (b : Nat) (b1 : Nat) (l1 : Nat) (rc1 : LoopState → Option Code → Obj) (k1 : Int) (v1 : Int) (H12 : Hp) (Q : Value → Hp → Prop) : vSegC Try.prog sorted_Merge_int_int_1.cfr J (rgB sorted_Merge_int_int_1.r2.code) [0, 0, 0, 0, 1] [0, 0, 0] (roundK l1 rc1 Q) (sorted_Merge_int_int_1.k1.st b b1 k1 v1 H12) = sorted_Merge_int_int_1.k1.body J b b1 l1 rc1 k1 v1 H12 Q := by kernel_rfl
theorem sorted_Merge_int_int_1.k1.step {b : Nat} {b1 : Nat} {l1 : Nat} {rc1 : LoopState → Option Code → Obj} {k1 : Int} {v1 : Int} {H12 : Hp} {Q : Value → Hp → Prop} (h : sorted_Merge_int_int_1.k1.body J0 b b1 l1 rc1 k1 v1 H12 Q) : sorted_Merge_int_int_1.k1 J0 b b1 l1 rc1 k1 v1 H12 Q := step_of (vSegC Try.prog sorted_Merge_int_int_1.cfr J0 (rgB sorted_Merge_int_int_1.r2.code) [0, 0, 0, 0, 1] [0, 0, 0] (roundK l1 rc1 Q)) (sorted_Merge_int_int_1.k1.st b b1 k1 v1 H12) (sorted_Merge_int_int_1.k1.eq J0 b b1 l1 rc1 k1 v1 H12 Q) (by kernel_rfl) h
noncomputable def sorted_Merge_int_int_1.k2.body (J : Jn) (b : Nat) (b1 : Nat) (l1 : Nat) (rc1 : LoopState → Option Code → Obj) (k1 : Int) (v1 : Int) (H13 : Hp) (Q : Value → Hp → Prop) : Prop :=
 ∃ x9 : Sl, Hp.cell? H13 (Addr.mk b1 0 none) = some (.slice x9.a x9.len x9.cap) ∧ ((0 : Int) ≤ 1 ∧ (1 : Int) ≤ ((x9.len : Nat) : Int)) ∧ WrAt H13 (Addr.mk b1 0 none) 1 ∧ ∀ H14 : Hp, H14 = (Hp.setCell H13 (Addr.mk b1 0 none) (.slice (cutA x9.a x9.cap 1 2) (x9.len - 1) (x9.cap - 1))) → 
 sorted_Merge_int_int_1.l1 J b b1 l1 rc1 k1 v1 H14 Q
theorem sorted_Merge_int_int_1.k2.eq (J : Jn) (b : Nat) (b1 : Nat) (l1 : Nat) (rc1 : LoopState → Option Code → Obj) (k1 : Int) (v1 : Int) (H13 : Hp) (Q : Value → Hp → Prop) : vSegC Try.prog sorted_Merge_int_int_1.cfr J (rgB sorted_Merge_int_int_1.r2.code) [0, 0, 0, 0, 1, 0, 1] [0, 0, 0, 0] (roundK l1 rc1 Q) (sorted_Merge_int_int_1.k2.st b b1 k1 v1 H13) = sorted_Merge_int_int_1.k2.body J b b1 l1 rc1 k1 v1 H13 Q := by kernel_rfl
theorem sorted_Merge_int_int_1.k2.step {b : Nat} {b1 : Nat} {l1 : Nat} {rc1 : LoopState → Option Code → Obj} {k1 : Int} {v1 : Int} {H13 : Hp} {Q : Value → Hp → Prop} (h : sorted_Merge_int_int_1.k2.body J0 b b1 l1 rc1 k1 v1 H13 Q) : sorted_Merge_int_int_1.k2 J0 b b1 l1 rc1 k1 v1 H13 Q := step_of (vSegC Try.prog sorted_Merge_int_int_1.cfr J0 (rgB sorted_Merge_int_int_1.r2.code) [0, 0, 0, 0, 1, 0, 1] [0, 0, 0, 0] (roundK l1 rc1 Q)) (sorted_Merge_int_int_1.k2.st b b1 k1 v1 H13) (sorted_Merge_int_int_1.k2.eq J0 b b1 l1 rc1 k1 v1 H13 Q) (by kernel_rfl) h
noncomputable def sorted_Merge_int_int_1.k3.body (J : Jn) (b : Nat) (b1 : Nat) (l1 : Nat) (rc1 : LoopState → Option Code → Obj) (k1 : Int) (v1 : Int) (H12 : Hp) (Q : Value → Hp → Prop) : Prop :=
 ∃ x10 : Sl, Hp.cell? H12 (Addr.mk b1 0 none) = some (.slice x10.a x10.len x10.cap) ∧ 
 Br (decide (((x10.len : Nat) : Int) > 0)) (∃ x11 : Sl, Hp.cell? H12 (Addr.mk b1 0 none) = some (.slice x11.a x11.len x11.cap) ∧ ((0 : Int) ≤ 0 ∧ (0 : Int) < ((x11.len : Nat) : Int)) ∧ vPtr x11.a (fun a3 => ∃ key2 : Int, Hp.cell? H12 a3 = some (.int .i64 key2) ∧ 
 sorted_Merge_int_int_1.k4 J b b1 l1 rc1 k1 v1 H12 (key2 == k1) Q))
 (
 sorted_Merge_int_int_1.k4 J b b1 l1 rc1 k1 v1 H12 false Q)
theorem sorted_Merge_int_int_1.k3.eq (J : Jn) (b : Nat) (b1 : Nat) (l1 : Nat) (rc1 : LoopState → Option Code → Obj) (k1 : Int) (v1 : Int) (H12 : Hp) (Q : Value → Hp → Prop) : vSegC Try.prog sorted_Merge_int_int_1.cfr J (rgB sorted_Merge_int_int_1.r2.code) [0, 1] [0] (roundK l1 rc1 Q) (sorted_Merge_int_int_1.k3.st b b1 k1 v1 H12) = sorted_Merge_int_int_1.k3.body J b b1 l1 rc1 k1 v1 H12 Q := by kernel_rfl
theorem sorted_Merge_int_int_1.k3.step {b : Nat} {b1 : Nat} {l1 : Nat} {rc1 : LoopState → Option Code → Obj} {k1 : Int} {v1 : Int} {H12 : Hp} {Q : Value → Hp → Prop} (h : sorted_Merge_int_int_1.k3.body J0 b b1 l1 rc1 k1 v1 H12 Q) : sorted_Merge_int_int_1.k3 J0 b b1 l1 rc1 k1 v1 H12 Q := step_of (vSegC Try.prog sorted_Merge_int_int_1.cfr J0 (rgB sorted_Merge_int_int_1.r2.code) [0, 1] [0] (roundK l1 rc1 Q)) (sorted_Merge_int_int_1.k3.st b b1 k1 v1 H12) (sorted_Merge_int_int_1.k3.eq J0 b b1 l1 rc1 k1 v1 H12 Q) (by kernel_rfl) h
noncomputable def sorted_Merge_int_int_1.k4.body (J : Jn) (b : Nat) (b1 : Nat) (l1 : Nat) (rc1 : LoopState → Option Code → Obj) (k1 : Int) (v1 : Int) (H12 : Hp) (x12 : Bool) (Q : Value → Hp → Prop) : Prop :=
 
 Br x12 (∃ x13 : Sl, Hp.cell? H12 (Addr.mk b1 0 none) = some (.slice x13.a x13.len x13.cap) ∧ ((0 : Int) ≤ 0 ∧ (0 : Int) < ((x13.len : Nat) : Int)) ∧ vPtr x13.a (fun a4 => ∃ value1 : Int, Hp.cell? H12 (a4.add 1) = some (.int .i64 value1) ∧ ∃ x14 : Sl, Hp.cell? H12 (Addr.mk b1 0 none) = some (.slice x14.a x14.len x14.cap) ∧ ((0 : Int) ≤ 1 ∧ (1 : Int) ≤ ((x14.len : Nat) : Int)) ∧ WrAt H12 (Addr.mk b1 0 none) 1 ∧ ∀ H15 : Hp, H15 = (Hp.setCell H12 (Addr.mk b1 0 none) (.slice (cutA x14.a x14.cap 1 2) (x14.len - 1) (x14.cap - 1))) → ∃ x15 : Fv, Hp.cell? H15 (Addr.mk b 0 none) = some (.func x15.fn x15.fi x15.ca) ∧ 
 vInv Try.prog (.func x15.fn x15.fi x15.ca) [.int .i64 k1, .int .i64 value1] H15 (fun r1 H16 => ∃ x16 : Bool, r1 = .bool x16 ∧ 
 Br (!x16) (
 ((∃ st : LoopState, ∃ pd : Option Code, H16[l1]? = some (rc1 st pd)) ∧ Q (.bool false) (Array.setIfInBounds H16 l1 (rc1 .done (some .ret)))))
 (
 ((∃ st : LoopState, ∃ pd : Option Code, H16[l1]? = some (rc1 st pd)) ∧ Q (.bool true) (Array.setIfInBounds H16 l1 (rc1 .ready none)))))))
 (∃ x17 : Fv, Hp.cell? H12 (Addr.mk b 0 none) = some (.func x17.fn x17.fi x17.ca) ∧ 
 vInv Try.prog (.func x17.fn x17.fi x17.ca) [.int .i64 k1, .int .i64 v1] H12 (fun r2 H17 => ∃ x18 : Bool, r2 = .bool x18 ∧ 
 Br (!x18) (
 ((∃ st : LoopState, ∃ pd : Option Code, H17[l1]? = some (rc1 st pd)) ∧ Q (.bool false) (Array.setIfInBounds H17 l1 (rc1 .done (some .ret)))))
 (
 ((∃ st : LoopState, ∃ pd : Option Code, H17[l1]? = some (rc1 st pd)) ∧ Q (.bool true) (Array.setIfInBounds H17 l1 (rc1 .ready none))))))
theorem sorted_Merge_int_int_1.k4.eq (J : Jn) (b : Nat) (b1 : Nat) (l1 : Nat) (rc1 : LoopState → Option Code → Obj) (k1 : Int) (v1 : Int) (H12 : Hp) (x12 : Bool) (Q : Value → Hp → Prop) : vSegC Try.prog sorted_Merge_int_int_1.cfr J (rgB sorted_Merge_int_int_1.r2.code) [0, 1, 0, 1] [0, 0, 0] (roundK l1 rc1 Q) (sorted_Merge_int_int_1.k4.st b b1 k1 v1 H12 x12) = sorted_Merge_int_int_1.k4.body J b b1 l1 rc1 k1 v1 H12 x12 Q := by kernel_rfl
theorem sorted_Merge_int_int_1.k4.step {b : Nat} {b1 : Nat} {l1 : Nat} {rc1 : LoopState → Option Code → Obj} {k1 : Int} {v1 : Int} {H12 : Hp} {x12 : Bool} {Q : Value → Hp → Prop} (h : sorted_Merge_int_int_1.k4.body J0 b b1 l1 rc1 k1 v1 H12 x12 Q) : sorted_Merge_int_int_1.k4 J0 b b1 l1 rc1 k1 v1 H12 x12 Q := step_of (vSegC Try.prog sorted_Merge_int_int_1.cfr J0 (rgB sorted_Merge_int_int_1.r2.code) [0, 1, 0, 1] [0, 0, 0] (roundK l1 rc1 Q)) (sorted_Merge_int_int_1.k4.st b b1 k1 v1 H12 x12) (sorted_Merge_int_int_1.k4.eq J0 b b1 l1 rc1 k1 v1 H12 x12 Q) (by kernel_rfl) h
noncomputable def sorted_Merge_int_int_1.l2.body (J : Jn) (b : Nat) (x19 : Sl) (H20 : Hp) (x20 : Int) (Q : Value → Hp → Prop) : Prop :=
 
 Br (decide (x20 < ((x19.len : Nat) : Int))) (((0 : Int) ≤ x20 ∧ x20 < ((x19.len : Nat) : Int)) ∧ vPtr x19.a (fun a5 => ∃ key3 : Int, ∃ value2 : Int, RowAt H20 (a5.add ((x20 : Int).toNat * 2)) [.int .i64 key3, .int .i64 value2] ∧ ∀ H21 : Hp, H21 = (holes H20 1) → ∃ x21 : Fv, Hp.cell? H21 (Addr.mk b 0 none) = some (.func x21.fn x21.fi x21.ca) ∧ 
 vInv Try.prog (.func x21.fn x21.fi x21.ca) [.int .i64 key3, .int .i64 value2] H21 (fun r3 H22 => ∃ x22 : Bool, r3 = .bool x22 ∧ 
 Br (!x22) (Q (.tuple #[]) H22)
 (
 sorted_Merge_int_int_1.l2 J b x19 H22 (w64 (x20 + 1)) Q))))
 (Q (.tuple #[]) H20)
theorem sorted_Merge_int_int_1.l2.eq (J : Jn) (b : Nat) (x19 : Sl) (H20 : Hp) (x20 : Int) (Q : Value → Hp → Prop) : vAtBody Try.prog sorted_Merge_int_int_1.cf J sorted_Merge_int_int_1.fn [1, 1, 1, 1, 1, 0] [0, 0, 0, 0, 0] Q (sorted_Merge_int_int_1.l2.st b x19 H20 x20) = sorted_Merge_int_int_1.l2.body J b x19 H20 x20 Q := by kernel_rfl
theorem sorted_Merge_int_int_1.l2.step {b : Nat} {x19 : Sl} {H20 : Hp} {x20 : Int} {Q : Value → Hp → Prop} (h : sorted_Merge_int_int_1.l2.body J0 b x19 H20 x20 Q) : sorted_Merge_int_int_1.l2 J0 b x19 H20 x20 Q := vAt_stepC (sorted_Merge_int_int_1.l2.st b x19 H20 x20) (sorted_Merge_int_int_1.l2.eq J0 b x19 H20 x20 Q) (by kernel_rfl) h
noncomputable def sorted_Merge_int_int_1.r1.body (J : Jn) (b1 : Nat) (l : Nat) (rc : LoopState → Option Code → Obj) (k : Int) (v : Int) (H3 : Hp) (Q : Value → Hp → Prop) : Prop :=
 H3[l]? = some (rc .ready none) ∧ ∀ H4 : Hp, H4 = (Array.setIfInBounds H3 l (rc .busy none)) → ∃ x1 : Sl, Hp.cell? H4 (Addr.mk b1 0 none) = some (.slice x1.a x1.len x1.cap) ∧ ∀ b2 : Nat, b2 = Array.size H4 → ∀ H5 : Hp, H5 = (Array.push H4 (.cells #[.int .i64 k, .int .i64 v] T_sorted_item_int_int)) → 
 vApp Try.prog T_sl_sorted_item_int_int x1.a x1.len x1.cap (.slice (some (Addr.mk b2 0 none)) 1 1) H5 (fun ap H6 => WrAt H6 (Addr.mk b1 0 none) 1 ∧ ∀ H7 : Hp, H7 = (Hp.setCell H6 (Addr.mk b1 0 none) (.slice ap.a ap.len ap.cap)) → 
 ((∃ st : LoopState, ∃ pd : Option Code, H7[l]? = some (rc st pd)) ∧ Q (.bool true) (Array.setIfInBounds H7 l (rc .ready none))))
theorem sorted_Merge_int_int_1.r1.eq (J : Jn) (b1 : Nat) (l : Nat) (rc : LoopState → Option Code → Obj) (k : Int) (v : Int) (H3 : Hp) (Q : Value → Hp → Prop) : vRound Try.prog sorted_Merge_int_int_1.cfr J (rgA sorted_Merge_int_int_1.r1.code) (rgB sorted_Merge_int_int_1.r1.code) (setFr (sorted_Merge_int_int_1.r1.fr b1) (rgP sorted_Merge_int_int_1.r1.code).toList [.int .i64 k, .int .i64 v]) l rc H3 Q = sorted_Merge_int_int_1.r1.body J b1 l rc k v H3 Q := by kernel_rfl
theorem sorted_Merge_int_int_1.r1.calls {b1 : Nat} {l : Nat} {k : Int} {v : Int} {H3 : Hp} {fnA : FuncId} {tmA : Array Value} {dA : Nat} {Q : Value → Hp → Prop} (hl : H3[l]? = some (sorted_Merge_int_int_1.r1.rec fnA tmA dA .ready none)) (hT : TmOf (sorted_Merge_int_int_1.r1.fr b1) tmA) (h : sorted_Merge_int_int_1.r1.body J0 b1 l (sorted_Merge_int_int_1.r1.rec fnA tmA dA) k v H3 Q) : YCalls Try.prog l [.int .i64 k, .int .i64 v] H3 Q := vRound_calls (cf := sorted_Merge_int_int_1.cfr) (fn := fnA) (tm := tmA) (ps := rgP sorted_Merge_int_int_1.r1.code) (asg := rgA sorted_Merge_int_int_1.r1.code) (body := rgB sorted_Merge_int_int_1.r1.code) (d := dA) (fr := (sorted_Merge_int_int_1.r1.fr b1)) Try.mixed (by kernel_rfl) hl (by kernel_rfl) hT ((sorted_Merge_int_int_1.r1.eq J0 b1 l (sorted_Merge_int_int_1.r1.rec fnA tmA dA) k v H3 Q).mpr h)
noncomputable def sorted_Merge_int_int_1.r2.body (J : Jn) (b : Nat) (b1 : Nat) (l1 : Nat) (rc1 : LoopState → Option Code → Obj) (k1 : Int) (v1 : Int) (H10 : Hp) (Q : Value → Hp → Prop) : Prop :=
 H10[l1]? = some (rc1 .ready none) ∧ ∀ H11 : Hp, H11 = (Array.setIfInBounds H10 l1 (rc1 .busy none)) → 
 sorted_Merge_int_int_1.l1 J b b1 l1 rc1 k1 v1 H11 Q
theorem sorted_Merge_int_int_1.r2.eq (J : Jn) (b : Nat) (b1 : Nat) (l1 : Nat) (rc1 : LoopState → Option Code → Obj) (k1 : Int) (v1 : Int) (H10 : Hp) (Q : Value → Hp → Prop) : vRound Try.prog sorted_Merge_int_int_1.cfr J (rgA sorted_Merge_int_int_1.r2.code) (rgB sorted_Merge_int_int_1.r2.code) (setFr (sorted_Merge_int_int_1.r2.fr b b1) (rgP sorted_Merge_int_int_1.r2.code).toList [.int .i64 k1, .int .i64 v1]) l1 rc1 H10 Q = sorted_Merge_int_int_1.r2.body J b b1 l1 rc1 k1 v1 H10 Q := by kernel_rfl
theorem sorted_Merge_int_int_1.r2.calls {b : Nat} {b1 : Nat} {l1 : Nat} {k1 : Int} {v1 : Int} {H10 : Hp} {fnA : FuncId} {tmA : Array Value} {dA : Nat} {Q : Value → Hp → Prop} (hl : H10[l1]? = some (sorted_Merge_int_int_1.r2.rec fnA tmA dA .ready none)) (hT : TmOf (sorted_Merge_int_int_1.r2.fr b b1) tmA) (h : sorted_Merge_int_int_1.r2.body J0 b b1 l1 (sorted_Merge_int_int_1.r2.rec fnA tmA dA) k1 v1 H10 Q) : YCalls Try.prog l1 [.int .i64 k1, .int .i64 v1] H10 Q := vRound_calls (cf := sorted_Merge_int_int_1.cfr) (fn := fnA) (tm := tmA) (ps := rgP sorted_Merge_int_int_1.r2.code) (asg := rgA sorted_Merge_int_int_1.r2.code) (body := rgB sorted_Merge_int_int_1.r2.code) (d := dA) (fr := (sorted_Merge_int_int_1.r2.fr b b1)) Try.mixed (by kernel_rfl) hl (by kernel_rfl) hT ((sorted_Merge_int_int_1.r2.eq J0 b b1 l1 (sorted_Merge_int_int_1.r2.rec fnA tmA dA) k1 v1 H10 Q).mpr h)
attribute [irreducible] sorted_Merge_int_int_1.r1.rec sorted_Merge_int_int_1.r1.fr sorted_Merge_int_int_1.r1.code sorted_Merge_int_int_1.r2.rec sorted_Merge_int_int_1.r2.fr sorted_Merge_int_int_1.r2.code
noncomputable def sorted_Merge_int_int_1.vc (J : Jn) (yield : Fv) (cap0 : Addr) (cap1 : Addr) (H : Hp) (Q : Value → Hp → Prop) : Prop :=
 ∀ b : Nat, b = Array.size H → ∀ H1 : Hp, H1 = (Array.push H (.cells #[.func yield.fn yield.fi yield.ca] T_func_int_int_bool)) → ∀ b1 : Nat, b1 = Array.size H1 → ∀ H2 : Hp, H2 = (Array.push H1 (.cells #[.slice none 0 0] T_sl_sorted_item_int_int)) → ∃ x : Fv, Hp.cell? H2 cap0 = some (.func x.fn x.fi x.ca) ∧ 
 ∀ fn : FuncId, ∀ tm : Array Value, TmOf (sorted_Merge_int_int_1.r1.fr b1) tm → vRg Try.prog (.func x.fn x.fi x.ca) (Array.size H2 + 1) (Array.push (Array.push H2 hole) (sorted_Merge_int_int_1.r1.rec fn tm (Array.size H2) .ready none)) (fun H8 => ∃ st : LoopState, ∃ pd : Option Code, H8[(Array.size H2 + 1)]? = some (sorted_Merge_int_int_1.r1.rec fn tm (Array.size H2) st pd) ∧ st ≠ .busy ∧ ∀ H9 : Hp, H9 = (Array.setIfInBounds H8 (Array.size H2 + 1) (sorted_Merge_int_int_1.r1.rec fn tm (Array.size H2) .exhausted pd)) → ((pd = none → ∃ x2 : Fv, Hp.cell? H9 cap1 = some (.func x2.fn x2.fi x2.ca) ∧ 
 ∀ fn1 : FuncId, ∀ tm1 : Array Value, TmOf (sorted_Merge_int_int_1.r2.fr b b1) tm1 → vRg Try.prog (.func x2.fn x2.fi x2.ca) (Array.size H9 + 1) (Array.push (Array.push H9 hole) (sorted_Merge_int_int_1.r2.rec fn1 tm1 (Array.size H9) .ready none)) (fun H18 => ∃ st1 : LoopState, ∃ pd1 : Option Code, H18[(Array.size H9 + 1)]? = some (sorted_Merge_int_int_1.r2.rec fn1 tm1 (Array.size H9) st1 pd1) ∧ st1 ≠ .busy ∧ ∀ H19 : Hp, H19 = (Array.setIfInBounds H18 (Array.size H9 + 1) (sorted_Merge_int_int_1.r2.rec fn1 tm1 (Array.size H9) .exhausted pd1)) → ((pd1 = none → ∃ x19 : Sl, Hp.cell? H19 (Addr.mk b1 0 none) = some (.slice x19.a x19.len x19.cap) ∧ 
 sorted_Merge_int_int_1.l2 J b x19 H19 0 Q) ∧ (pd1 = some .ret → Q (.tuple #[]) H19) ∧ (True) ∧ (pd1 = none ∨ pd1 = some .ret ∨ ∃ i ∈ ([] : List Nat), pd1 = some (.exit i))))) ∧ (pd = some .ret → Q (.tuple #[]) H9) ∧ (True) ∧ (pd = none ∨ pd = some .ret ∨ ∃ i ∈ ([] : List Nat), pd = some (.exit i))))
theorem sorted_Merge_int_int_1.eq (J : Jn) (yield : Fv) (cap0 : Addr) (cap1 : Addr) (H : Hp) (Q : Value → Hp → Prop) : vFn Try.prog sorted_Merge_int_int_1.cf J sorted_Merge_int_int_1.fn [.func yield.fn yield.fi yield.ca, .pointer (some cap0), .pointer (some cap1)] H Q = sorted_Merge_int_int_1.vc J yield cap0 cap1 H Q := by kernel_rfl
theorem sorted_Merge_int_int_1.calls {yield : Fv} {cap0 : Addr} {cap1 : Addr} {H : Hp} {Q : Value → Hp → Prop} (h : sorted_Merge_int_int_1.vc J0 yield cap0 cap1 H Q) : SCalls Try.prog sorted_Merge_int_int_1.id [.func yield.fn yield.fi yield.ca, .pointer (some cap0), .pointer (some cap1)] H Q := vFn_of Try.mixed Try.func36 (sorted_Merge_int_int_1.eq J0 yield cap0 cap1 H Q) h

end Go.Proofs
