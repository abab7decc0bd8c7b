/- THE SEAT'S CODE, AS WALKED: for each function what is to be shown of it (printed by the own program gen.py), held by the kernel. -/
import Derived.Test.YtllkdgnagjciiaaProg
import Derived.Test.YtllkdgnagjciiaaKc13
set_option maxRecDepth 100000
set_option linter.all false
set_option linter.constructorNameAsVariable false
namespace Go.Proofs
open Go Go.KC
theorem Try.mixed : Try.prog.follows .mixedOrders = true := by kernel_rfl
abbrev tephralaw01_PackAny.id : Nat := 3
noncomputable abbrev tephralaw01_PackAny.fn : Func := Try.f3
abbrev tephralaw01_PackKeeps.id : Nat := 4
noncomputable abbrev tephralaw01_PackKeeps.fn : Func := Try.f4
abbrev tephralaw01_PackMany.id : Nat := 5
noncomputable abbrev tephralaw01_PackMany.fn : Func := Try.f5
abbrev tephralaw01_PackLays.id : Nat := 6
noncomputable abbrev tephralaw01_PackLays.fn : Func := Try.f6
abbrev tephralaw01_PackShort.id : Nat := 7
noncomputable abbrev tephralaw01_PackShort.fn : Func := Try.f7
abbrev tephralaw01_PackApart.id : Nat := 8
noncomputable abbrev tephralaw01_PackApart.fn : Func := Try.f8
abbrev tephralaw01_PackTexts.id : Nat := 9
noncomputable abbrev tephralaw01_PackTexts.fn : Func := Try.f9
abbrev tephralaw01_awake.id : Nat := 10
noncomputable abbrev tephralaw01_awake.fn : Func := Try.f10
abbrev pack_Of.id : Nat := 11
noncomputable abbrev pack_Of.fn : Func := Try.f11
abbrev pack_Reader_Num.id : Nat := 12
noncomputable abbrev pack_Reader_Num.fn : Func := Try.f12
abbrev pack_Reader_Byte.id : Nat := 13
noncomputable abbrev pack_Reader_Byte.fn : Func := Try.f13
abbrev pack_Reader_Text.id : Nat := 14
noncomputable abbrev pack_Reader_Text.fn : Func := Try.f14
abbrev pack_Reader_Bad.id : Nat := 15
noncomputable abbrev pack_Reader_Bad.fn : Func := Try.f15
abbrev pack_Reader_Done.id : Nat := 16
noncomputable abbrev pack_Reader_Done.fn : Func := Try.f16
abbrev pack_Writer_Text.id : Nat := 17
noncomputable abbrev pack_Writer_Text.fn : Func := Try.f17
abbrev pack_Writer_Bytes.id : Nat := 18
noncomputable abbrev pack_Writer_Bytes.fn : Func := Try.f18
abbrev pack_Writer_Num.id : Nat := 19
noncomputable abbrev pack_Writer_Num.fn : Func := Try.f19
abbrev tephralaw01_lay.id : Nat := 20
noncomputable abbrev tephralaw01_lay.fn : Func := Try.f20
abbrev tephralaw01_bytes.id : Nat := 21
noncomputable abbrev tephralaw01_bytes.fn : Func := Try.f21
abbrev tephralaw01_reads.id : Nat := 22
noncomputable abbrev tephralaw01_reads.fn : Func := Try.f22
abbrev pack_Writer_Byte.id : Nat := 23
noncomputable abbrev pack_Writer_Byte.fn : Func := Try.f23
abbrev pack_Reader_take.id : Nat := 24
noncomputable abbrev pack_Reader_take.fn : Func := Try.f24
abbrev T_ : Nat := 0
abbrev T_func : Nat := 1
abbrev T_int64 : Nat := 2
abbrev T_int : Nat := 3
abbrev T_bool : Nat := 4
abbrev T_uint8 : Nat := 5
abbrev T_abi_BoundsErrorCode : Nat := 6
abbrev T_struct_x_int64_y_int_signed_bool_code_abi_BoundsErrorCode : Nat := 7
abbrev T_runtime_boundsError : Nat := 8
abbrev T_string : Nat := 9
abbrev T_runtime_errorString : Nat := 10
abbrev T_runtime_plainError : Nat := 11
abbrev T_uintptr : Nat := 12
abbrev T_struct_msg_string_addr_uintptr : Nat := 13
abbrev T_runtime_errorAddressString : Nat := 14
abbrev T_p_runtime_TypeAssertionError : Nat := 15
abbrev T_p_runtime_PanicNilError : Nat := 16
abbrev T_p_abi_Type : Nat := 17
abbrev T_struct_typ_p_abi_Type : Nat := 18
abbrev T_maps_unhashableTypeError : Nat := 19
abbrev T_interface : Nat := 20
abbrev T_int32 : Nat := 21
abbrev T_sl_uint8 : Nat := 22
abbrev T_func_bool : Nat := 23
abbrev T_p_pack_Reader : Nat := 24
abbrev T_func_sl_uint8_p_pack_Reader : Nat := 25
abbrev T_func_int : Nat := 26
abbrev T_func_uint8 : Nat := 27
abbrev T_func_string : Nat := 28
abbrev T_func_sl_uint8_sl_uint8_bool : Nat := 29
abbrev T_p_pack_Writer : Nat := 30
abbrev T_struct_b_sl_uint8 : Nat := 31
abbrev T_pack_Writer : Nat := 32
abbrev T_func_string_p_pack_Writer : Nat := 33
abbrev T_func_sl_uint8 : Nat := 34
abbrev T_func_int_p_pack_Writer : Nat := 35
abbrev T_func_string_int_bool : Nat := 36
abbrev T_sl_int : Nat := 37
abbrev T_func_sl_int_bool : Nat := 38
abbrev T_sl_tephralaw01_Part : Nat := 39
abbrev T_struct_Kind_uint8_Num_int_Text_string : Nat := 40
abbrev T_tephralaw01_Part : Nat := 41
abbrev T_func_p_pack_Writer_tephralaw01_Part : Nat := 42
abbrev T_func_tephralaw01_Part_string : Nat := 43
abbrev T_func_p_pack_Reader_tephralaw01_Part_bool : Nat := 44
abbrev T_func_sl_tephralaw01_Part_bool : Nat := 45
abbrev T_func_sl_tephralaw01_Part_uint8_bool : Nat := 46
abbrev T_func_sl_tephralaw01_Part_sl_tephralaw01_Part_bool : Nat := 47
abbrev T_sl_string : Nat := 48
abbrev T_func_uint8_p_pack_Writer : Nat := 49
abbrev T_func_sl_string_uint8_bool : Nat := 50
abbrev T_struct_b_sl_uint8_bad_bool : Nat := 51
abbrev T_pack_Reader : Nat := 52
abbrev T_func_int_sl_uint8 : Nat := 53
abbrev T_uint : Nat := 54
abbrev T_struct__interface_p_abi_Type_concrete_p_abi_Type_asserted_p_ : Nat := 55
abbrev T_runtime_TypeAssertionError : Nat := 56
abbrev T_0_p_runtime_PanicNilError : Nat := 57
abbrev T_struct___0_p_runtime_PanicNilError : Nat := 58
abbrev T_runtime_PanicNilError : Nat := 59
abbrev T_uint32 : Nat := 60
abbrev T_abi_TFlag : Nat := 61
abbrev T_abi_Kind : Nat := 62
abbrev T_func_unsafe_Pointer_unsafe_Pointer_bool : Nat := 63
abbrev T_p_uint8 : Nat := 64
abbrev T_abi_NameOff : Nat := 65
abbrev T_abi_TypeOff : Nat := 66
abbrev T_struct_Size__uintptr_PtrBytes_uintptr_Hash_uint32_TFlag_abi_ : Nat := 67
abbrev T_abi_Type : Nat := 68
abbrev T_unsafe_Pointer : Nat := 69

/-! 3: tephra/tephralaw01.PackAny -/
def tephralaw01_PackAny.cf : Cfg := ⟨[], [(6, [0, 5, 6, 7, 23, 24, 25]), (14, [0, 5, 6, 7, 9, 10, 11, 23, 24, 25, 48, 49, 50])], [(11, [0, 5, 6, 7, 9, 10, 11, 23, 24, 25], true), (12, [0, 5, 6, 7, 9, 10, 11, 23, 24, 25], true), (19, [0, 5, 6, 7, 9, 10, 23, 24, 25], true), (21, [0, 5, 6, 7, 9, 10, 14, 23, 24, 25, 69], true), (22, [0, 5, 6, 7, 9, 10, 14, 23, 24, 25], true), (26, [0, 5, 6, 7, 23, 24, 25, 129], true)], [(100, [0, 5, 6, 7, 9, 10, 14, 23, 24, 25, 100]), (111, [0, 5, 6, 7, 9, 14, 23, 24, 25, 101, 111]), (112, [0, 5, 6, 7, 9, 14, 23, 24, 25, 112]), (122, [0, 5, 6, 7, 23, 24, 25, 113, 122]), (123, [0, 5, 6, 7, 23, 24, 25, 123])]⟩
def tephralaw01_PackAny.l1.st (b : Sl) (kinds : Sl) (x1 : Option Addr) (H3 : Hp) (atv : Int) (bad : Bool) (x2 : Int) : VS := ⟨mkFr 142 [(0, .v (.slice b.a b.len b.cap)), (5, .v (.pointer x1)), (6, .v (.int .i64 atv)), (7, .v (.bool bad)), (23, .v (.slice (cutA kinds.a kinds.cap 0 1) (((if (100 : Int) < ((kinds.len : Nat) : Int) then 100 else ((kinds.len : Nat) : Int)) : Int).toNat) kinds.cap)), (24, .v (.int .i64 (((((if (100 : Int) < ((kinds.len : Nat) : Int) then 100 else ((kinds.len : Nat) : Int)) : Int).toNat) : Nat) : Int))), (25, .v (.int .i64 x2))], [], H3⟩
def tephralaw01_PackAny.l1 (J : Jn) (b : Sl) (kinds : Sl) (x1 : Option Addr) (H3 : Hp) (atv : Int) (bad : Bool) (x2 : Int) (Q : Value → Hp → Prop) : Prop := vAt Try.prog tephralaw01_PackAny.cf J tephralaw01_PackAny.fn [1, 1, 1, 1, 0, 1, 0] [0, 0, 0, 0, 0, 0] Q (tephralaw01_PackAny.l1.st b kinds x1 H3 atv bad x2)
def tephralaw01_PackAny.k1.st (b : Sl) (kinds : Sl) (x1 : Option Addr) (H3 : Hp) (atv : Int) (bad : Bool) (x2 : Int) (x3 : Int) (long : Int) : VS := ⟨mkFr 142 [(0, .v (.slice b.a b.len b.cap)), (5, .v (.pointer x1)), (6, .v (.int .i64 atv)), (7, .v (.bool bad)), (9, .v (.int .u8 x3)), (10, .v (.int .i64 0)), (11, .v (.int .i64 long)), (23, .v (.slice (cutA kinds.a kinds.cap 0 1) (((if (100 : Int) < ((kinds.len : Nat) : Int) then 100 else ((kinds.len : Nat) : Int)) : Int).toNat) kinds.cap)), (24, .v (.int .i64 (((((if (100 : Int) < ((kinds.len : Nat) : Int) then 100 else ((kinds.len : Nat) : Int)) : Int).toNat) : Nat) : Int))), (25, .v (.int .i64 x2))], [], H3⟩
def tephralaw01_PackAny.k1 (J : Jn) (b : Sl) (kinds : Sl) (x1 : Option Addr) (H3 : Hp) (atv : Int) (bad : Bool) (x2 : Int) (x3 : Int) (long : Int) (Q : Value → Hp → Prop) : Prop := J (vSeg Try.prog tephralaw01_PackAny.cf J tephralaw01_PackAny.fn [1, 1, 1, 1, 0, 1, 0, 0, 1, 1, 0, 0, 1, 1, 1] [0, 0, 0, 0, 0, 0, 0, 0, 0, 0, 0, 0, 0] Q) (tephralaw01_PackAny.k1.st b kinds x1 H3 atv bad x2 x3 long)
def tephralaw01_PackAny.k2.st (b : Sl) (kinds : Sl) (x1 : Option Addr) (H3 : Hp) (atv : Int) (x2 : Int) (x3 : Int) (long : Int) (bad1 : Bool) : VS := ⟨mkFr 142 [(0, .v (.slice b.a b.len b.cap)), (5, .v (.pointer x1)), (6, .v (.int .i64 atv)), (7, .v (.bool bad1)), (9, .v (.int .u8 x3)), (10, .v (.int .i64 0)), (11, .v (.int .i64 long)), (23, .v (.slice (cutA kinds.a kinds.cap 0 1) (((if (100 : Int) < ((kinds.len : Nat) : Int) then 100 else ((kinds.len : Nat) : Int)) : Int).toNat) kinds.cap)), (24, .v (.int .i64 (((((if (100 : Int) < ((kinds.len : Nat) : Int) then 100 else ((kinds.len : Nat) : Int)) : Int).toNat) : Nat) : Int))), (25, .v (.int .i64 x2))], [], H3⟩
def tephralaw01_PackAny.k2 (J : Jn) (b : Sl) (kinds : Sl) (x1 : Option Addr) (H3 : Hp) (atv : Int) (x2 : Int) (x3 : Int) (long : Int) (bad1 : Bool) (Q : Value → Hp → Prop) : Prop := J (vSeg Try.prog tephralaw01_PackAny.cf J tephralaw01_PackAny.fn [1, 1, 1, 1, 0, 1, 0, 0, 1, 1, 0, 0, 1, 1, 1, 1] [0, 0, 0, 0, 0, 0, 0, 0, 0, 0, 0, 0, 0, 0] Q) (tephralaw01_PackAny.k2.st b kinds x1 H3 atv x2 x3 long bad1)
def tephralaw01_PackAny.l2.st (b : Sl) (kinds : Sl) (x1 : Option Addr) (atv : Int) (x2 : Int) (x3 : Int) (long : Int) (bad1 : Bool) (H4 : Hp) (n : Int) (x4 : Int) : VS := ⟨mkFr 142 [(0, .v (.slice b.a b.len b.cap)), (5, .v (.pointer x1)), (6, .v (.int .i64 atv)), (7, .v (.bool bad1)), (9, .v (.int .u8 x3)), (10, .v (.int .i64 n)), (11, .v (.int .i64 long)), (23, .v (.slice (cutA kinds.a kinds.cap 0 1) (((if (100 : Int) < ((kinds.len : Nat) : Int) then 100 else ((kinds.len : Nat) : Int)) : Int).toNat) kinds.cap)), (24, .v (.int .i64 (((((if (100 : Int) < ((kinds.len : Nat) : Int) then 100 else ((kinds.len : Nat) : Int)) : Int).toNat) : Nat) : Int))), (25, .v (.int .i64 x2)), (48, .v (.slice (cutA b.a b.cap ((atv : Int).toNat) 1) ((((w64 (atv + long)) : Int).toNat) - ((atv : Int).toNat)) (b.cap - ((atv : Int).toNat)))), (49, .v (.int .i64 ((((((w64 (atv + long)) : Int).toNat) - ((atv : Int).toNat)) : Nat) : Int))), (50, .v (.int .i64 x4))], [], H4⟩
def tephralaw01_PackAny.l2 (J : Jn) (b : Sl) (kinds : Sl) (x1 : Option Addr) (atv : Int) (x2 : Int) (x3 : Int) (long : Int) (bad1 : Bool) (H4 : Hp) (n : Int) (x4 : Int) (Q : Value → Hp → Prop) : Prop := vAt Try.prog tephralaw01_PackAny.cf J tephralaw01_PackAny.fn [1, 1, 1, 1, 0, 1, 0, 0, 1, 1, 0, 0, 1, 1, 1, 1, 0, 1, 0, 0, 1, 0] [0, 0, 0, 0, 0, 0, 0, 0, 0, 0, 0, 0, 0, 0, 0, 0, 0, 0] Q (tephralaw01_PackAny.l2.st b kinds x1 atv x2 x3 long bad1 H4 n x4)
def tephralaw01_PackAny.k3.st (b : Sl) (kinds : Sl) (x1 : Option Addr) (x2 : Int) (x3 : Int) (bad1 : Bool) (atv1 : Int) (n1 : Int) (H5 : Hp) : VS := ⟨mkFr 142 [(0, .v (.slice b.a b.len b.cap)), (5, .v (.pointer x1)), (6, .v (.int .i64 atv1)), (7, .v (.bool bad1)), (9, .v (.int .u8 x3)), (10, .v (.int .i64 n1)), (23, .v (.slice (cutA kinds.a kinds.cap 0 1) (((if (100 : Int) < ((kinds.len : Nat) : Int) then 100 else ((kinds.len : Nat) : Int)) : Int).toNat) kinds.cap)), (24, .v (.int .i64 (((((if (100 : Int) < ((kinds.len : Nat) : Int) then 100 else ((kinds.len : Nat) : Int)) : Int).toNat) : Nat) : Int))), (25, .v (.int .i64 x2))], [], H5⟩
def tephralaw01_PackAny.k3 (J : Jn) (b : Sl) (kinds : Sl) (x1 : Option Addr) (x2 : Int) (x3 : Int) (bad1 : Bool) (atv1 : Int) (n1 : Int) (H5 : Hp) (Q : Value → Hp → Prop) : Prop := J (vSeg Try.prog tephralaw01_PackAny.cf J tephralaw01_PackAny.fn [1, 1, 1, 1, 0, 1, 0, 0, 1, 1, 0, 0, 1, 1, 1, 1, 1] [0, 0, 0, 0, 0, 0, 0, 0, 0, 0, 0, 0, 0, 0, 0] Q) (tephralaw01_PackAny.k3.st b kinds x1 x2 x3 bad1 atv1 n1 H5)
def tephralaw01_PackAny.k4.st (b : Sl) (kinds : Sl) (x1 : Option Addr) (x2 : Int) (x3 : Int) (bad1 : Bool) (atv1 : Int) (n1 : Int) (H5 : Hp) (x6 : Bool) : VS := ⟨mkFr 142 [(0, .v (.slice b.a b.len b.cap)), (5, .v (.pointer x1)), (6, .v (.int .i64 atv1)), (7, .v (.bool bad1)), (9, .v (.int .u8 x3)), (10, .v (.int .i64 n1)), (14, .v (.string (ByteArray.mk #[]))), (23, .v (.slice (cutA kinds.a kinds.cap 0 1) (((if (100 : Int) < ((kinds.len : Nat) : Int) then 100 else ((kinds.len : Nat) : Int)) : Int).toNat) kinds.cap)), (24, .v (.int .i64 (((((if (100 : Int) < ((kinds.len : Nat) : Int) then 100 else ((kinds.len : Nat) : Int)) : Int).toNat) : Nat) : Int))), (25, .v (.int .i64 x2)), (69, .v (.bool x6))], [], H5⟩
def tephralaw01_PackAny.k4 (J : Jn) (b : Sl) (kinds : Sl) (x1 : Option Addr) (x2 : Int) (x3 : Int) (bad1 : Bool) (atv1 : Int) (n1 : Int) (H5 : Hp) (x6 : Bool) (Q : Value → Hp → Prop) : Prop := J (vSeg Try.prog tephralaw01_PackAny.cf J tephralaw01_PackAny.fn [1, 1, 1, 1, 0, 1, 0, 0, 1, 1, 0, 0, 1, 1, 1, 1, 1, 1, 0, 1] [0, 0, 0, 0, 0, 0, 0, 0, 0, 0, 0, 0, 0, 0, 0, 0, 0, 0] Q) (tephralaw01_PackAny.k4.st b kinds x1 x2 x3 bad1 atv1 n1 H5 x6)
def tephralaw01_PackAny.k5.st (b : Sl) (kinds : Sl) (x1 : Option Addr) (x2 : Int) (x3 : Int) (atv1 : Int) (n1 : Int) (H5 : Hp) (bad2 : Bool) : VS := ⟨mkFr 142 [(0, .v (.slice b.a b.len b.cap)), (5, .v (.pointer x1)), (6, .v (.int .i64 atv1)), (7, .v (.bool bad2)), (9, .v (.int .u8 x3)), (10, .v (.int .i64 n1)), (14, .v (.string (ByteArray.mk #[]))), (23, .v (.slice (cutA kinds.a kinds.cap 0 1) (((if (100 : Int) < ((kinds.len : Nat) : Int) then 100 else ((kinds.len : Nat) : Int)) : Int).toNat) kinds.cap)), (24, .v (.int .i64 (((((if (100 : Int) < ((kinds.len : Nat) : Int) then 100 else ((kinds.len : Nat) : Int)) : Int).toNat) : Nat) : Int))), (25, .v (.int .i64 x2))], [], H5⟩
def tephralaw01_PackAny.k5 (J : Jn) (b : Sl) (kinds : Sl) (x1 : Option Addr) (x2 : Int) (x3 : Int) (atv1 : Int) (n1 : Int) (H5 : Hp) (bad2 : Bool) (Q : Value → Hp → Prop) : Prop := J (vSeg Try.prog tephralaw01_PackAny.cf J tephralaw01_PackAny.fn [1, 1, 1, 1, 0, 1, 0, 0, 1, 1, 0, 0, 1, 1, 1, 1, 1, 1, 0, 1, 0, 1] [0, 0, 0, 0, 0, 0, 0, 0, 0, 0, 0, 0, 0, 0, 0, 0, 0, 0, 0] Q) (tephralaw01_PackAny.k5.st b kinds x1 x2 x3 atv1 n1 H5 bad2)
def tephralaw01_PackAny.k6.st (b : Sl) (kinds : Sl) (x1 : Option Addr) (x2 : Int) (x3 : Int) (atv1 : Int) (n1 : Int) (bad2 : Bool) (s : ByteArray) (x8 : Bool) (H7 : Hp) : VS := ⟨mkFr 142 [(0, .v (.slice b.a b.len b.cap)), (5, .v (.pointer x1)), (6, .v (.int .i64 (w64 (atv1 + n1)))), (7, .v (.bool bad2)), (9, .v (.int .u8 x3)), (10, .v (.int .i64 n1)), (14, .v (.string s)), (23, .v (.slice (cutA kinds.a kinds.cap 0 1) (((if (100 : Int) < ((kinds.len : Nat) : Int) then 100 else ((kinds.len : Nat) : Int)) : Int).toNat) kinds.cap)), (24, .v (.int .i64 (((((if (100 : Int) < ((kinds.len : Nat) : Int) then 100 else ((kinds.len : Nat) : Int)) : Int).toNat) : Nat) : Int))), (25, .v (.int .i64 x2)), (100, .v (.bool x8))], [], H7⟩
def tephralaw01_PackAny.k6 (J : Jn) (b : Sl) (kinds : Sl) (x1 : Option Addr) (x2 : Int) (x3 : Int) (atv1 : Int) (n1 : Int) (bad2 : Bool) (s : ByteArray) (x8 : Bool) (H7 : Hp) (Q : Value → Hp → Prop) : Prop := J (vMid Try.prog tephralaw01_PackAny.cf J tephralaw01_PackAny.fn [1, 1, 1, 1, 0, 1, 0, 0, 1, 1, 0, 0, 1, 1, 1, 1, 1, 1, 1, 0] [0, 0, 0, 0, 0, 0, 0, 0, 0, 0, 0, 0, 0, 0, 0, 0, 0, 0] 9 Q) (tephralaw01_PackAny.k6.st b kinds x1 x2 x3 atv1 n1 bad2 s x8 H7)
def tephralaw01_PackAny.k7.st (b : Sl) (kinds : Sl) (x1 : Option Addr) (x2 : Int) (x3 : Int) (atv1 : Int) (n1 : Int) (bad2 : Bool) (s : ByteArray) (H7 : Hp) : VS := ⟨mkFr 142 [(0, .v (.slice b.a b.len b.cap)), (5, .v (.pointer x1)), (6, .v (.int .i64 (w64 (atv1 + n1)))), (7, .v (.bool bad2)), (9, .v (.int .u8 x3)), (14, .v (.string s)), (23, .v (.slice (cutA kinds.a kinds.cap 0 1) (((if (100 : Int) < ((kinds.len : Nat) : Int) then 100 else ((kinds.len : Nat) : Int)) : Int).toNat) kinds.cap)), (24, .v (.int .i64 (((((if (100 : Int) < ((kinds.len : Nat) : Int) then 100 else ((kinds.len : Nat) : Int)) : Int).toNat) : Nat) : Int))), (25, .v (.int .i64 x2)), (101, .v (.bool true)), (111, .v (.tuple #[]))], [], H7⟩
def tephralaw01_PackAny.k7 (J : Jn) (b : Sl) (kinds : Sl) (x1 : Option Addr) (x2 : Int) (x3 : Int) (atv1 : Int) (n1 : Int) (bad2 : Bool) (s : ByteArray) (H7 : Hp) (Q : Value → Hp → Prop) : Prop := J (vMid Try.prog tephralaw01_PackAny.cf J tephralaw01_PackAny.fn [1, 1, 1, 1, 0, 1, 0, 0, 1, 1, 0, 0, 1, 1, 1, 1, 1, 1, 1, 0] [0, 0, 0, 0, 0, 0, 0, 0, 0, 0, 0, 0, 0, 0, 0, 0, 0, 0] 20 Q) (tephralaw01_PackAny.k7.st b kinds x1 x2 x3 atv1 n1 bad2 s H7)
def tephralaw01_PackAny.k8.st (b : Sl) (kinds : Sl) (x1 : Option Addr) (x2 : Int) (x3 : Int) (atv1 : Int) (n1 : Int) (bad2 : Bool) (s : ByteArray) (x10 : Bool) (H9 : Hp) : VS := ⟨mkFr 142 [(0, .v (.slice b.a b.len b.cap)), (5, .v (.pointer x1)), (6, .v (.int .i64 (w64 (atv1 + n1)))), (7, .v (.bool bad2)), (9, .v (.int .u8 x3)), (14, .v (.string s)), (23, .v (.slice (cutA kinds.a kinds.cap 0 1) (((if (100 : Int) < ((kinds.len : Nat) : Int) then 100 else ((kinds.len : Nat) : Int)) : Int).toNat) kinds.cap)), (24, .v (.int .i64 (((((if (100 : Int) < ((kinds.len : Nat) : Int) then 100 else ((kinds.len : Nat) : Int)) : Int).toNat) : Nat) : Int))), (25, .v (.int .i64 x2)), (101, .v (.bool false)), (111, .v (.bool x10))], [], H9⟩
def tephralaw01_PackAny.k8 (J : Jn) (b : Sl) (kinds : Sl) (x1 : Option Addr) (x2 : Int) (x3 : Int) (atv1 : Int) (n1 : Int) (bad2 : Bool) (s : ByteArray) (x10 : Bool) (H9 : Hp) (Q : Value → Hp → Prop) : Prop := J (vMid Try.prog tephralaw01_PackAny.cf J tephralaw01_PackAny.fn [1, 1, 1, 1, 0, 1, 0, 0, 1, 1, 0, 0, 1, 1, 1, 1, 1, 1, 1, 0] [0, 0, 0, 0, 0, 0, 0, 0, 0, 0, 0, 0, 0, 0, 0, 0, 0, 0] 20 Q) (tephralaw01_PackAny.k8.st b kinds x1 x2 x3 atv1 n1 bad2 s x10 H9)
def tephralaw01_PackAny.k9.st (b : Sl) (kinds : Sl) (x1 : Option Addr) (x2 : Int) (x3 : Int) (atv1 : Int) (n1 : Int) (bad2 : Bool) (s : ByteArray) (x11 : Bool) (H10 : Hp) : VS := ⟨mkFr 142 [(0, .v (.slice b.a b.len b.cap)), (5, .v (.pointer x1)), (6, .v (.int .i64 (w64 (atv1 + n1)))), (7, .v (.bool bad2)), (9, .v (.int .u8 x3)), (14, .v (.string s)), (23, .v (.slice (cutA kinds.a kinds.cap 0 1) (((if (100 : Int) < ((kinds.len : Nat) : Int) then 100 else ((kinds.len : Nat) : Int)) : Int).toNat) kinds.cap)), (24, .v (.int .i64 (((((if (100 : Int) < ((kinds.len : Nat) : Int) then 100 else ((kinds.len : Nat) : Int)) : Int).toNat) : Nat) : Int))), (25, .v (.int .i64 x2)), (112, .v (.bool x11))], [], H10⟩
def tephralaw01_PackAny.k9 (J : Jn) (b : Sl) (kinds : Sl) (x1 : Option Addr) (x2 : Int) (x3 : Int) (atv1 : Int) (n1 : Int) (bad2 : Bool) (s : ByteArray) (x11 : Bool) (H10 : Hp) (Q : Value → Hp → Prop) : Prop := J (vMid Try.prog tephralaw01_PackAny.cf J tephralaw01_PackAny.fn [1, 1, 1, 1, 0, 1, 0, 0, 1, 1, 0, 0, 1, 1, 1, 1, 1, 1, 1, 0] [0, 0, 0, 0, 0, 0, 0, 0, 0, 0, 0, 0, 0, 0, 0, 0, 0, 0] 21 Q) (tephralaw01_PackAny.k9.st b kinds x1 x2 x3 atv1 n1 bad2 s x11 H10)
def tephralaw01_PackAny.k10.st (b : Sl) (kinds : Sl) (x1 : Option Addr) (x2 : Int) (atv1 : Int) (n1 : Int) (bad2 : Bool) (H10 : Hp) : VS := ⟨mkFr 142 [(0, .v (.slice b.a b.len b.cap)), (5, .v (.pointer x1)), (6, .v (.int .i64 (w64 (atv1 + n1)))), (7, .v (.bool bad2)), (23, .v (.slice (cutA kinds.a kinds.cap 0 1) (((if (100 : Int) < ((kinds.len : Nat) : Int) then 100 else ((kinds.len : Nat) : Int)) : Int).toNat) kinds.cap)), (24, .v (.int .i64 (((((if (100 : Int) < ((kinds.len : Nat) : Int) then 100 else ((kinds.len : Nat) : Int)) : Int).toNat) : Nat) : Int))), (25, .v (.int .i64 x2)), (113, .v (.bool true)), (122, .v (.tuple #[]))], [], H10⟩
def tephralaw01_PackAny.k10 (J : Jn) (b : Sl) (kinds : Sl) (x1 : Option Addr) (x2 : Int) (atv1 : Int) (n1 : Int) (bad2 : Bool) (H10 : Hp) (Q : Value → Hp → Prop) : Prop := J (vMid Try.prog tephralaw01_PackAny.cf J tephralaw01_PackAny.fn [1, 1, 1, 1, 0, 1, 0, 0, 1, 1, 0, 0, 1, 1, 1, 1, 1, 1, 1, 0] [0, 0, 0, 0, 0, 0, 0, 0, 0, 0, 0, 0, 0, 0, 0, 0, 0, 0] 31 Q) (tephralaw01_PackAny.k10.st b kinds x1 x2 atv1 n1 bad2 H10)
def tephralaw01_PackAny.k11.st (b : Sl) (kinds : Sl) (x1 : Option Addr) (x2 : Int) (atv1 : Int) (n1 : Int) (bad2 : Bool) (x13 : Bool) (H12 : Hp) : VS := ⟨mkFr 142 [(0, .v (.slice b.a b.len b.cap)), (5, .v (.pointer x1)), (6, .v (.int .i64 (w64 (atv1 + n1)))), (7, .v (.bool bad2)), (23, .v (.slice (cutA kinds.a kinds.cap 0 1) (((if (100 : Int) < ((kinds.len : Nat) : Int) then 100 else ((kinds.len : Nat) : Int)) : Int).toNat) kinds.cap)), (24, .v (.int .i64 (((((if (100 : Int) < ((kinds.len : Nat) : Int) then 100 else ((kinds.len : Nat) : Int)) : Int).toNat) : Nat) : Int))), (25, .v (.int .i64 x2)), (113, .v (.bool false)), (122, .v (.bool x13))], [], H12⟩
def tephralaw01_PackAny.k11 (J : Jn) (b : Sl) (kinds : Sl) (x1 : Option Addr) (x2 : Int) (atv1 : Int) (n1 : Int) (bad2 : Bool) (x13 : Bool) (H12 : Hp) (Q : Value → Hp → Prop) : Prop := J (vMid Try.prog tephralaw01_PackAny.cf J tephralaw01_PackAny.fn [1, 1, 1, 1, 0, 1, 0, 0, 1, 1, 0, 0, 1, 1, 1, 1, 1, 1, 1, 0] [0, 0, 0, 0, 0, 0, 0, 0, 0, 0, 0, 0, 0, 0, 0, 0, 0, 0] 31 Q) (tephralaw01_PackAny.k11.st b kinds x1 x2 atv1 n1 bad2 x13 H12)
def tephralaw01_PackAny.k12.st (b : Sl) (kinds : Sl) (x1 : Option Addr) (x2 : Int) (atv1 : Int) (n1 : Int) (bad2 : Bool) (x14 : Bool) (H13 : Hp) : VS := ⟨mkFr 142 [(0, .v (.slice b.a b.len b.cap)), (5, .v (.pointer x1)), (6, .v (.int .i64 (w64 (atv1 + n1)))), (7, .v (.bool bad2)), (23, .v (.slice (cutA kinds.a kinds.cap 0 1) (((if (100 : Int) < ((kinds.len : Nat) : Int) then 100 else ((kinds.len : Nat) : Int)) : Int).toNat) kinds.cap)), (24, .v (.int .i64 (((((if (100 : Int) < ((kinds.len : Nat) : Int) then 100 else ((kinds.len : Nat) : Int)) : Int).toNat) : Nat) : Int))), (25, .v (.int .i64 x2)), (123, .v (.bool x14))], [], H13⟩
def tephralaw01_PackAny.k12 (J : Jn) (b : Sl) (kinds : Sl) (x1 : Option Addr) (x2 : Int) (atv1 : Int) (n1 : Int) (bad2 : Bool) (x14 : Bool) (H13 : Hp) (Q : Value → Hp → Prop) : Prop := J (vMid Try.prog tephralaw01_PackAny.cf J tephralaw01_PackAny.fn [1, 1, 1, 1, 0, 1, 0, 0, 1, 1, 0, 0, 1, 1, 1, 1, 1, 1, 1, 0] [0, 0, 0, 0, 0, 0, 0, 0, 0, 0, 0, 0, 0, 0, 0, 0, 0, 0] 32 Q) (tephralaw01_PackAny.k12.st b kinds x1 x2 atv1 n1 bad2 x14 H13)
def tephralaw01_PackAny.k13.st (b : Sl) (kinds : Sl) (x1 : Option Addr) (x2 : Int) (atv1 : Int) (n1 : Int) (bad2 : Bool) (x16 : Bool) (H15 : Hp) : VS := ⟨mkFr 142 [(0, .v (.slice b.a b.len b.cap)), (5, .v (.pointer x1)), (6, .v (.int .i64 (w64 (atv1 + n1)))), (7, .v (.bool bad2)), (23, .v (.slice (cutA kinds.a kinds.cap 0 1) (((if (100 : Int) < ((kinds.len : Nat) : Int) then 100 else ((kinds.len : Nat) : Int)) : Int).toNat) kinds.cap)), (24, .v (.int .i64 (((((if (100 : Int) < ((kinds.len : Nat) : Int) then 100 else ((kinds.len : Nat) : Int)) : Int).toNat) : Nat) : Int))), (25, .v (.int .i64 x2)), (129, .v (.bool x16))], [], H15⟩
def tephralaw01_PackAny.k13 (J : Jn) (b : Sl) (kinds : Sl) (x1 : Option Addr) (x2 : Int) (atv1 : Int) (n1 : Int) (bad2 : Bool) (x16 : Bool) (H15 : Hp) (Q : Value → Hp → Prop) : Prop := J (vSeg Try.prog tephralaw01_PackAny.cf J tephralaw01_PackAny.fn [1, 1, 1, 1, 0, 1, 0, 0, 1, 1, 0, 0, 1, 1, 1, 1, 1, 1, 1, 1] [0, 0, 0, 0, 0, 0, 0, 0, 0, 0, 0, 0, 0, 0, 0, 0, 0, 0] Q) (tephralaw01_PackAny.k13.st b kinds x1 x2 atv1 n1 bad2 x16 H15)
def tephralaw01_PackAny.k14.st (b : Sl) (kinds : Sl) (x1 : Option Addr) (x2 : Int) (x3 : Int) (atv1 : Int) (n1 : Int) (bad2 : Bool) (x18 : Bool) (H17 : Hp) : VS := ⟨mkFr 142 [(0, .v (.slice b.a b.len b.cap)), (5, .v (.pointer x1)), (6, .v (.int .i64 atv1)), (7, .v (.bool bad2)), (9, .v (.int .u8 x3)), (10, .v (.int .i64 n1)), (14, .v (.string (ByteArray.mk #[]))), (23, .v (.slice (cutA kinds.a kinds.cap 0 1) (((if (100 : Int) < ((kinds.len : Nat) : Int) then 100 else ((kinds.len : Nat) : Int)) : Int).toNat) kinds.cap)), (24, .v (.int .i64 (((((if (100 : Int) < ((kinds.len : Nat) : Int) then 100 else ((kinds.len : Nat) : Int)) : Int).toNat) : Nat) : Int))), (25, .v (.int .i64 x2)), (100, .v (.bool x18))], [], H17⟩
def tephralaw01_PackAny.k14 (J : Jn) (b : Sl) (kinds : Sl) (x1 : Option Addr) (x2 : Int) (x3 : Int) (atv1 : Int) (n1 : Int) (bad2 : Bool) (x18 : Bool) (H17 : Hp) (Q : Value → Hp → Prop) : Prop := J (vMid Try.prog tephralaw01_PackAny.cf J tephralaw01_PackAny.fn [1, 1, 1, 1, 0, 1, 0, 0, 1, 1, 0, 0, 1, 1, 1, 1, 1, 1, 1, 0] [0, 0, 0, 0, 0, 0, 0, 0, 0, 0, 0, 0, 0, 0, 0, 0, 0, 0] 9 Q) (tephralaw01_PackAny.k14.st b kinds x1 x2 x3 atv1 n1 bad2 x18 H17)
def tephralaw01_PackAny.k15.st (b : Sl) (kinds : Sl) (x1 : Option Addr) (x2 : Int) (x3 : Int) (atv1 : Int) (bad2 : Bool) (H17 : Hp) : VS := ⟨mkFr 142 [(0, .v (.slice b.a b.len b.cap)), (5, .v (.pointer x1)), (6, .v (.int .i64 atv1)), (7, .v (.bool bad2)), (9, .v (.int .u8 x3)), (14, .v (.string (ByteArray.mk #[]))), (23, .v (.slice (cutA kinds.a kinds.cap 0 1) (((if (100 : Int) < ((kinds.len : Nat) : Int) then 100 else ((kinds.len : Nat) : Int)) : Int).toNat) kinds.cap)), (24, .v (.int .i64 (((((if (100 : Int) < ((kinds.len : Nat) : Int) then 100 else ((kinds.len : Nat) : Int)) : Int).toNat) : Nat) : Int))), (25, .v (.int .i64 x2)), (101, .v (.bool true)), (111, .v (.tuple #[]))], [], H17⟩
def tephralaw01_PackAny.k15 (J : Jn) (b : Sl) (kinds : Sl) (x1 : Option Addr) (x2 : Int) (x3 : Int) (atv1 : Int) (bad2 : Bool) (H17 : Hp) (Q : Value → Hp → Prop) : Prop := J (vMid Try.prog tephralaw01_PackAny.cf J tephralaw01_PackAny.fn [1, 1, 1, 1, 0, 1, 0, 0, 1, 1, 0, 0, 1, 1, 1, 1, 1, 1, 1, 0] [0, 0, 0, 0, 0, 0, 0, 0, 0, 0, 0, 0, 0, 0, 0, 0, 0, 0] 20 Q) (tephralaw01_PackAny.k15.st b kinds x1 x2 x3 atv1 bad2 H17)
def tephralaw01_PackAny.k16.st (b : Sl) (kinds : Sl) (x1 : Option Addr) (x2 : Int) (x3 : Int) (atv1 : Int) (bad2 : Bool) (x20 : Bool) (H19 : Hp) : VS := ⟨mkFr 142 [(0, .v (.slice b.a b.len b.cap)), (5, .v (.pointer x1)), (6, .v (.int .i64 atv1)), (7, .v (.bool bad2)), (9, .v (.int .u8 x3)), (14, .v (.string (ByteArray.mk #[]))), (23, .v (.slice (cutA kinds.a kinds.cap 0 1) (((if (100 : Int) < ((kinds.len : Nat) : Int) then 100 else ((kinds.len : Nat) : Int)) : Int).toNat) kinds.cap)), (24, .v (.int .i64 (((((if (100 : Int) < ((kinds.len : Nat) : Int) then 100 else ((kinds.len : Nat) : Int)) : Int).toNat) : Nat) : Int))), (25, .v (.int .i64 x2)), (101, .v (.bool false)), (111, .v (.bool x20))], [], H19⟩
def tephralaw01_PackAny.k16 (J : Jn) (b : Sl) (kinds : Sl) (x1 : Option Addr) (x2 : Int) (x3 : Int) (atv1 : Int) (bad2 : Bool) (x20 : Bool) (H19 : Hp) (Q : Value → Hp → Prop) : Prop := J (vMid Try.prog tephralaw01_PackAny.cf J tephralaw01_PackAny.fn [1, 1, 1, 1, 0, 1, 0, 0, 1, 1, 0, 0, 1, 1, 1, 1, 1, 1, 1, 0] [0, 0, 0, 0, 0, 0, 0, 0, 0, 0, 0, 0, 0, 0, 0, 0, 0, 0] 20 Q) (tephralaw01_PackAny.k16.st b kinds x1 x2 x3 atv1 bad2 x20 H19)
def tephralaw01_PackAny.k17.st (b : Sl) (kinds : Sl) (x1 : Option Addr) (x2 : Int) (x3 : Int) (atv1 : Int) (bad2 : Bool) (x21 : Bool) (H20 : Hp) : VS := ⟨mkFr 142 [(0, .v (.slice b.a b.len b.cap)), (5, .v (.pointer x1)), (6, .v (.int .i64 atv1)), (7, .v (.bool bad2)), (9, .v (.int .u8 x3)), (14, .v (.string (ByteArray.mk #[]))), (23, .v (.slice (cutA kinds.a kinds.cap 0 1) (((if (100 : Int) < ((kinds.len : Nat) : Int) then 100 else ((kinds.len : Nat) : Int)) : Int).toNat) kinds.cap)), (24, .v (.int .i64 (((((if (100 : Int) < ((kinds.len : Nat) : Int) then 100 else ((kinds.len : Nat) : Int)) : Int).toNat) : Nat) : Int))), (25, .v (.int .i64 x2)), (112, .v (.bool x21))], [], H20⟩
def tephralaw01_PackAny.k17 (J : Jn) (b : Sl) (kinds : Sl) (x1 : Option Addr) (x2 : Int) (x3 : Int) (atv1 : Int) (bad2 : Bool) (x21 : Bool) (H20 : Hp) (Q : Value → Hp → Prop) : Prop := J (vMid Try.prog tephralaw01_PackAny.cf J tephralaw01_PackAny.fn [1, 1, 1, 1, 0, 1, 0, 0, 1, 1, 0, 0, 1, 1, 1, 1, 1, 1, 1, 0] [0, 0, 0, 0, 0, 0, 0, 0, 0, 0, 0, 0, 0, 0, 0, 0, 0, 0] 21 Q) (tephralaw01_PackAny.k17.st b kinds x1 x2 x3 atv1 bad2 x21 H20)
def tephralaw01_PackAny.k18.st (b : Sl) (kinds : Sl) (x1 : Option Addr) (x2 : Int) (atv1 : Int) (bad2 : Bool) (H20 : Hp) : VS := ⟨mkFr 142 [(0, .v (.slice b.a b.len b.cap)), (5, .v (.pointer x1)), (6, .v (.int .i64 atv1)), (7, .v (.bool bad2)), (23, .v (.slice (cutA kinds.a kinds.cap 0 1) (((if (100 : Int) < ((kinds.len : Nat) : Int) then 100 else ((kinds.len : Nat) : Int)) : Int).toNat) kinds.cap)), (24, .v (.int .i64 (((((if (100 : Int) < ((kinds.len : Nat) : Int) then 100 else ((kinds.len : Nat) : Int)) : Int).toNat) : Nat) : Int))), (25, .v (.int .i64 x2)), (113, .v (.bool true)), (122, .v (.tuple #[]))], [], H20⟩
def tephralaw01_PackAny.k18 (J : Jn) (b : Sl) (kinds : Sl) (x1 : Option Addr) (x2 : Int) (atv1 : Int) (bad2 : Bool) (H20 : Hp) (Q : Value → Hp → Prop) : Prop := J (vMid Try.prog tephralaw01_PackAny.cf J tephralaw01_PackAny.fn [1, 1, 1, 1, 0, 1, 0, 0, 1, 1, 0, 0, 1, 1, 1, 1, 1, 1, 1, 0] [0, 0, 0, 0, 0, 0, 0, 0, 0, 0, 0, 0, 0, 0, 0, 0, 0, 0] 31 Q) (tephralaw01_PackAny.k18.st b kinds x1 x2 atv1 bad2 H20)
def tephralaw01_PackAny.k19.st (b : Sl) (kinds : Sl) (x1 : Option Addr) (x2 : Int) (atv1 : Int) (bad2 : Bool) (x23 : Bool) (H22 : Hp) : VS := ⟨mkFr 142 [(0, .v (.slice b.a b.len b.cap)), (5, .v (.pointer x1)), (6, .v (.int .i64 atv1)), (7, .v (.bool bad2)), (23, .v (.slice (cutA kinds.a kinds.cap 0 1) (((if (100 : Int) < ((kinds.len : Nat) : Int) then 100 else ((kinds.len : Nat) : Int)) : Int).toNat) kinds.cap)), (24, .v (.int .i64 (((((if (100 : Int) < ((kinds.len : Nat) : Int) then 100 else ((kinds.len : Nat) : Int)) : Int).toNat) : Nat) : Int))), (25, .v (.int .i64 x2)), (113, .v (.bool false)), (122, .v (.bool x23))], [], H22⟩
def tephralaw01_PackAny.k19 (J : Jn) (b : Sl) (kinds : Sl) (x1 : Option Addr) (x2 : Int) (atv1 : Int) (bad2 : Bool) (x23 : Bool) (H22 : Hp) (Q : Value → Hp → Prop) : Prop := J (vMid Try.prog tephralaw01_PackAny.cf J tephralaw01_PackAny.fn [1, 1, 1, 1, 0, 1, 0, 0, 1, 1, 0, 0, 1, 1, 1, 1, 1, 1, 1, 0] [0, 0, 0, 0, 0, 0, 0, 0, 0, 0, 0, 0, 0, 0, 0, 0, 0, 0] 31 Q) (tephralaw01_PackAny.k19.st b kinds x1 x2 atv1 bad2 x23 H22)
def tephralaw01_PackAny.k20.st (b : Sl) (kinds : Sl) (x1 : Option Addr) (x2 : Int) (atv1 : Int) (bad2 : Bool) (x24 : Bool) (H23 : Hp) : VS := ⟨mkFr 142 [(0, .v (.slice b.a b.len b.cap)), (5, .v (.pointer x1)), (6, .v (.int .i64 atv1)), (7, .v (.bool bad2)), (23, .v (.slice (cutA kinds.a kinds.cap 0 1) (((if (100 : Int) < ((kinds.len : Nat) : Int) then 100 else ((kinds.len : Nat) : Int)) : Int).toNat) kinds.cap)), (24, .v (.int .i64 (((((if (100 : Int) < ((kinds.len : Nat) : Int) then 100 else ((kinds.len : Nat) : Int)) : Int).toNat) : Nat) : Int))), (25, .v (.int .i64 x2)), (123, .v (.bool x24))], [], H23⟩
def tephralaw01_PackAny.k20 (J : Jn) (b : Sl) (kinds : Sl) (x1 : Option Addr) (x2 : Int) (atv1 : Int) (bad2 : Bool) (x24 : Bool) (H23 : Hp) (Q : Value → Hp → Prop) : Prop := J (vMid Try.prog tephralaw01_PackAny.cf J tephralaw01_PackAny.fn [1, 1, 1, 1, 0, 1, 0, 0, 1, 1, 0, 0, 1, 1, 1, 1, 1, 1, 1, 0] [0, 0, 0, 0, 0, 0, 0, 0, 0, 0, 0, 0, 0, 0, 0, 0, 0, 0] 32 Q) (tephralaw01_PackAny.k20.st b kinds x1 x2 atv1 bad2 x24 H23)
def tephralaw01_PackAny.k21.st (b : Sl) (kinds : Sl) (x1 : Option Addr) (x2 : Int) (atv1 : Int) (bad2 : Bool) (x26 : Bool) (H25 : Hp) : VS := ⟨mkFr 142 [(0, .v (.slice b.a b.len b.cap)), (5, .v (.pointer x1)), (6, .v (.int .i64 atv1)), (7, .v (.bool bad2)), (23, .v (.slice (cutA kinds.a kinds.cap 0 1) (((if (100 : Int) < ((kinds.len : Nat) : Int) then 100 else ((kinds.len : Nat) : Int)) : Int).toNat) kinds.cap)), (24, .v (.int .i64 (((((if (100 : Int) < ((kinds.len : Nat) : Int) then 100 else ((kinds.len : Nat) : Int)) : Int).toNat) : Nat) : Int))), (25, .v (.int .i64 x2)), (129, .v (.bool x26))], [], H25⟩
def tephralaw01_PackAny.k21 (J : Jn) (b : Sl) (kinds : Sl) (x1 : Option Addr) (x2 : Int) (atv1 : Int) (bad2 : Bool) (x26 : Bool) (H25 : Hp) (Q : Value → Hp → Prop) : Prop := J (vSeg Try.prog tephralaw01_PackAny.cf J tephralaw01_PackAny.fn [1, 1, 1, 1, 0, 1, 0, 0, 1, 1, 0, 0, 1, 1, 1, 1, 1, 1, 1, 1] [0, 0, 0, 0, 0, 0, 0, 0, 0, 0, 0, 0, 0, 0, 0, 0, 0, 0] Q) (tephralaw01_PackAny.k21.st b kinds x1 x2 atv1 bad2 x26 H25)
def tephralaw01_PackAny.k22.st (b : Sl) (kinds : Sl) (x1 : Option Addr) (x2 : Int) (x3 : Int) (bad1 : Bool) (atv1 : Int) (n1 : Int) (x28 : Bool) (H27 : Hp) : VS := ⟨mkFr 142 [(0, .v (.slice b.a b.len b.cap)), (5, .v (.pointer x1)), (6, .v (.int .i64 atv1)), (7, .v (.bool bad1)), (9, .v (.int .u8 x3)), (10, .v (.int .i64 n1)), (14, .v (.string (ByteArray.mk #[]))), (23, .v (.slice (cutA kinds.a kinds.cap 0 1) (((if (100 : Int) < ((kinds.len : Nat) : Int) then 100 else ((kinds.len : Nat) : Int)) : Int).toNat) kinds.cap)), (24, .v (.int .i64 (((((if (100 : Int) < ((kinds.len : Nat) : Int) then 100 else ((kinds.len : Nat) : Int)) : Int).toNat) : Nat) : Int))), (25, .v (.int .i64 x2)), (100, .v (.bool x28))], [], H27⟩
def tephralaw01_PackAny.k22 (J : Jn) (b : Sl) (kinds : Sl) (x1 : Option Addr) (x2 : Int) (x3 : Int) (bad1 : Bool) (atv1 : Int) (n1 : Int) (x28 : Bool) (H27 : Hp) (Q : Value → Hp → Prop) : Prop := J (vMid Try.prog tephralaw01_PackAny.cf J tephralaw01_PackAny.fn [1, 1, 1, 1, 0, 1, 0, 0, 1, 1, 0, 0, 1, 1, 1, 1, 1, 1, 1, 0] [0, 0, 0, 0, 0, 0, 0, 0, 0, 0, 0, 0, 0, 0, 0, 0, 0, 0] 9 Q) (tephralaw01_PackAny.k22.st b kinds x1 x2 x3 bad1 atv1 n1 x28 H27)
def tephralaw01_PackAny.k23.st (b : Sl) (kinds : Sl) (x1 : Option Addr) (x2 : Int) (x3 : Int) (bad1 : Bool) (atv1 : Int) (H27 : Hp) : VS := ⟨mkFr 142 [(0, .v (.slice b.a b.len b.cap)), (5, .v (.pointer x1)), (6, .v (.int .i64 atv1)), (7, .v (.bool bad1)), (9, .v (.int .u8 x3)), (14, .v (.string (ByteArray.mk #[]))), (23, .v (.slice (cutA kinds.a kinds.cap 0 1) (((if (100 : Int) < ((kinds.len : Nat) : Int) then 100 else ((kinds.len : Nat) : Int)) : Int).toNat) kinds.cap)), (24, .v (.int .i64 (((((if (100 : Int) < ((kinds.len : Nat) : Int) then 100 else ((kinds.len : Nat) : Int)) : Int).toNat) : Nat) : Int))), (25, .v (.int .i64 x2)), (101, .v (.bool true)), (111, .v (.tuple #[]))], [], H27⟩
def tephralaw01_PackAny.k23 (J : Jn) (b : Sl) (kinds : Sl) (x1 : Option Addr) (x2 : Int) (x3 : Int) (bad1 : Bool) (atv1 : Int) (H27 : Hp) (Q : Value → Hp → Prop) : Prop := J (vMid Try.prog tephralaw01_PackAny.cf J tephralaw01_PackAny.fn [1, 1, 1, 1, 0, 1, 0, 0, 1, 1, 0, 0, 1, 1, 1, 1, 1, 1, 1, 0] [0, 0, 0, 0, 0, 0, 0, 0, 0, 0, 0, 0, 0, 0, 0, 0, 0, 0] 20 Q) (tephralaw01_PackAny.k23.st b kinds x1 x2 x3 bad1 atv1 H27)
def tephralaw01_PackAny.k24.st (b : Sl) (kinds : Sl) (x1 : Option Addr) (x2 : Int) (x3 : Int) (bad1 : Bool) (atv1 : Int) (x30 : Bool) (H29 : Hp) : VS := ⟨mkFr 142 [(0, .v (.slice b.a b.len b.cap)), (5, .v (.pointer x1)), (6, .v (.int .i64 atv1)), (7, .v (.bool bad1)), (9, .v (.int .u8 x3)), (14, .v (.string (ByteArray.mk #[]))), (23, .v (.slice (cutA kinds.a kinds.cap 0 1) (((if (100 : Int) < ((kinds.len : Nat) : Int) then 100 else ((kinds.len : Nat) : Int)) : Int).toNat) kinds.cap)), (24, .v (.int .i64 (((((if (100 : Int) < ((kinds.len : Nat) : Int) then 100 else ((kinds.len : Nat) : Int)) : Int).toNat) : Nat) : Int))), (25, .v (.int .i64 x2)), (101, .v (.bool false)), (111, .v (.bool x30))], [], H29⟩
def tephralaw01_PackAny.k24 (J : Jn) (b : Sl) (kinds : Sl) (x1 : Option Addr) (x2 : Int) (x3 : Int) (bad1 : Bool) (atv1 : Int) (x30 : Bool) (H29 : Hp) (Q : Value → Hp → Prop) : Prop := J (vMid Try.prog tephralaw01_PackAny.cf J tephralaw01_PackAny.fn [1, 1, 1, 1, 0, 1, 0, 0, 1, 1, 0, 0, 1, 1, 1, 1, 1, 1, 1, 0] [0, 0, 0, 0, 0, 0, 0, 0, 0, 0, 0, 0, 0, 0, 0, 0, 0, 0] 20 Q) (tephralaw01_PackAny.k24.st b kinds x1 x2 x3 bad1 atv1 x30 H29)
def tephralaw01_PackAny.k25.st (b : Sl) (kinds : Sl) (x1 : Option Addr) (x2 : Int) (x3 : Int) (bad1 : Bool) (atv1 : Int) (x31 : Bool) (H30 : Hp) : VS := ⟨mkFr 142 [(0, .v (.slice b.a b.len b.cap)), (5, .v (.pointer x1)), (6, .v (.int .i64 atv1)), (7, .v (.bool bad1)), (9, .v (.int .u8 x3)), (14, .v (.string (ByteArray.mk #[]))), (23, .v (.slice (cutA kinds.a kinds.cap 0 1) (((if (100 : Int) < ((kinds.len : Nat) : Int) then 100 else ((kinds.len : Nat) : Int)) : Int).toNat) kinds.cap)), (24, .v (.int .i64 (((((if (100 : Int) < ((kinds.len : Nat) : Int) then 100 else ((kinds.len : Nat) : Int)) : Int).toNat) : Nat) : Int))), (25, .v (.int .i64 x2)), (112, .v (.bool x31))], [], H30⟩
def tephralaw01_PackAny.k25 (J : Jn) (b : Sl) (kinds : Sl) (x1 : Option Addr) (x2 : Int) (x3 : Int) (bad1 : Bool) (atv1 : Int) (x31 : Bool) (H30 : Hp) (Q : Value → Hp → Prop) : Prop := J (vMid Try.prog tephralaw01_PackAny.cf J tephralaw01_PackAny.fn [1, 1, 1, 1, 0, 1, 0, 0, 1, 1, 0, 0, 1, 1, 1, 1, 1, 1, 1, 0] [0, 0, 0, 0, 0, 0, 0, 0, 0, 0, 0, 0, 0, 0, 0, 0, 0, 0] 21 Q) (tephralaw01_PackAny.k25.st b kinds x1 x2 x3 bad1 atv1 x31 H30)
def tephralaw01_PackAny.k26.st (b : Sl) (kinds : Sl) (x1 : Option Addr) (x2 : Int) (bad1 : Bool) (atv1 : Int) (H30 : Hp) : VS := ⟨mkFr 142 [(0, .v (.slice b.a b.len b.cap)), (5, .v (.pointer x1)), (6, .v (.int .i64 atv1)), (7, .v (.bool bad1)), (23, .v (.slice (cutA kinds.a kinds.cap 0 1) (((if (100 : Int) < ((kinds.len : Nat) : Int) then 100 else ((kinds.len : Nat) : Int)) : Int).toNat) kinds.cap)), (24, .v (.int .i64 (((((if (100 : Int) < ((kinds.len : Nat) : Int) then 100 else ((kinds.len : Nat) : Int)) : Int).toNat) : Nat) : Int))), (25, .v (.int .i64 x2)), (113, .v (.bool true)), (122, .v (.tuple #[]))], [], H30⟩
def tephralaw01_PackAny.k26 (J : Jn) (b : Sl) (kinds : Sl) (x1 : Option Addr) (x2 : Int) (bad1 : Bool) (atv1 : Int) (H30 : Hp) (Q : Value → Hp → Prop) : Prop := J (vMid Try.prog tephralaw01_PackAny.cf J tephralaw01_PackAny.fn [1, 1, 1, 1, 0, 1, 0, 0, 1, 1, 0, 0, 1, 1, 1, 1, 1, 1, 1, 0] [0, 0, 0, 0, 0, 0, 0, 0, 0, 0, 0, 0, 0, 0, 0, 0, 0, 0] 31 Q) (tephralaw01_PackAny.k26.st b kinds x1 x2 bad1 atv1 H30)
def tephralaw01_PackAny.k27.st (b : Sl) (kinds : Sl) (x1 : Option Addr) (x2 : Int) (bad1 : Bool) (atv1 : Int) (x33 : Bool) (H32 : Hp) : VS := ⟨mkFr 142 [(0, .v (.slice b.a b.len b.cap)), (5, .v (.pointer x1)), (6, .v (.int .i64 atv1)), (7, .v (.bool bad1)), (23, .v (.slice (cutA kinds.a kinds.cap 0 1) (((if (100 : Int) < ((kinds.len : Nat) : Int) then 100 else ((kinds.len : Nat) : Int)) : Int).toNat) kinds.cap)), (24, .v (.int .i64 (((((if (100 : Int) < ((kinds.len : Nat) : Int) then 100 else ((kinds.len : Nat) : Int)) : Int).toNat) : Nat) : Int))), (25, .v (.int .i64 x2)), (113, .v (.bool false)), (122, .v (.bool x33))], [], H32⟩
def tephralaw01_PackAny.k27 (J : Jn) (b : Sl) (kinds : Sl) (x1 : Option Addr) (x2 : Int) (bad1 : Bool) (atv1 : Int) (x33 : Bool) (H32 : Hp) (Q : Value → Hp → Prop) : Prop := J (vMid Try.prog tephralaw01_PackAny.cf J tephralaw01_PackAny.fn [1, 1, 1, 1, 0, 1, 0, 0, 1, 1, 0, 0, 1, 1, 1, 1, 1, 1, 1, 0] [0, 0, 0, 0, 0, 0, 0, 0, 0, 0, 0, 0, 0, 0, 0, 0, 0, 0] 31 Q) (tephralaw01_PackAny.k27.st b kinds x1 x2 bad1 atv1 x33 H32)
def tephralaw01_PackAny.k28.st (b : Sl) (kinds : Sl) (x1 : Option Addr) (x2 : Int) (bad1 : Bool) (atv1 : Int) (x34 : Bool) (H33 : Hp) : VS := ⟨mkFr 142 [(0, .v (.slice b.a b.len b.cap)), (5, .v (.pointer x1)), (6, .v (.int .i64 atv1)), (7, .v (.bool bad1)), (23, .v (.slice (cutA kinds.a kinds.cap 0 1) (((if (100 : Int) < ((kinds.len : Nat) : Int) then 100 else ((kinds.len : Nat) : Int)) : Int).toNat) kinds.cap)), (24, .v (.int .i64 (((((if (100 : Int) < ((kinds.len : Nat) : Int) then 100 else ((kinds.len : Nat) : Int)) : Int).toNat) : Nat) : Int))), (25, .v (.int .i64 x2)), (123, .v (.bool x34))], [], H33⟩
def tephralaw01_PackAny.k28 (J : Jn) (b : Sl) (kinds : Sl) (x1 : Option Addr) (x2 : Int) (bad1 : Bool) (atv1 : Int) (x34 : Bool) (H33 : Hp) (Q : Value → Hp → Prop) : Prop := J (vMid Try.prog tephralaw01_PackAny.cf J tephralaw01_PackAny.fn [1, 1, 1, 1, 0, 1, 0, 0, 1, 1, 0, 0, 1, 1, 1, 1, 1, 1, 1, 0] [0, 0, 0, 0, 0, 0, 0, 0, 0, 0, 0, 0, 0, 0, 0, 0, 0, 0] 32 Q) (tephralaw01_PackAny.k28.st b kinds x1 x2 bad1 atv1 x34 H33)
def tephralaw01_PackAny.k29.st (b : Sl) (kinds : Sl) (x1 : Option Addr) (x2 : Int) (bad1 : Bool) (atv1 : Int) (x36 : Bool) (H35 : Hp) : VS := ⟨mkFr 142 [(0, .v (.slice b.a b.len b.cap)), (5, .v (.pointer x1)), (6, .v (.int .i64 atv1)), (7, .v (.bool bad1)), (23, .v (.slice (cutA kinds.a kinds.cap 0 1) (((if (100 : Int) < ((kinds.len : Nat) : Int) then 100 else ((kinds.len : Nat) : Int)) : Int).toNat) kinds.cap)), (24, .v (.int .i64 (((((if (100 : Int) < ((kinds.len : Nat) : Int) then 100 else ((kinds.len : Nat) : Int)) : Int).toNat) : Nat) : Int))), (25, .v (.int .i64 x2)), (129, .v (.bool x36))], [], H35⟩
def tephralaw01_PackAny.k29 (J : Jn) (b : Sl) (kinds : Sl) (x1 : Option Addr) (x2 : Int) (bad1 : Bool) (atv1 : Int) (x36 : Bool) (H35 : Hp) (Q : Value → Hp → Prop) : Prop := J (vSeg Try.prog tephralaw01_PackAny.cf J tephralaw01_PackAny.fn [1, 1, 1, 1, 0, 1, 0, 0, 1, 1, 0, 0, 1, 1, 1, 1, 1, 1, 1, 1] [0, 0, 0, 0, 0, 0, 0, 0, 0, 0, 0, 0, 0, 0, 0, 0, 0, 0] Q) (tephralaw01_PackAny.k29.st b kinds x1 x2 bad1 atv1 x36 H35)
attribute [irreducible] tephralaw01_PackAny.l1 tephralaw01_PackAny.k1 tephralaw01_PackAny.k2 tephralaw01_PackAny.l2 tephralaw01_PackAny.k3 tephralaw01_PackAny.k4 tephralaw01_PackAny.k5 tephralaw01_PackAny.k6 tephralaw01_PackAny.k7 tephralaw01_PackAny.k8 tephralaw01_PackAny.k9 tephralaw01_PackAny.k10 tephralaw01_PackAny.k11 tephralaw01_PackAny.k12 tephralaw01_PackAny.k13 tephralaw01_PackAny.k14 tephralaw01_PackAny.k15 tephralaw01_PackAny.k16 tephralaw01_PackAny.k17 tephralaw01_PackAny.k18 tephralaw01_PackAny.k19 tephralaw01_PackAny.k20 tephralaw01_PackAny.k21 tephralaw01_PackAny.k22 tephralaw01_PackAny.k23 tephralaw01_PackAny.k24 tephralaw01_PackAny.k25 tephralaw01_PackAny.k26 tephralaw01_PackAny.k27 tephralaw01_PackAny.k28 tephralaw01_PackAny.k29
def tephralaw01_PackAny.l1.body (J : Jn) (b : Sl) (kinds : Sl) (x1 : Option Addr) (H3 : Hp) (atv : Int) (bad : Bool) (x2 : Int) (Q : Value → Hp → Prop) : Prop :=
 
 Br (decide (x2 < (((((if (100 : Int) < ((kinds.len : Nat) : Int) then 100 else ((kinds.len : Nat) : Int)) : Int).toNat) : Nat) : Int))) (((0 : Int) ≤ x2 ∧ x2 < (((((if (100 : Int) < ((kinds.len : Nat) : Int) then 100 else ((kinds.len : Nat) : Int)) : Int).toNat) : Nat) : Int)) ∧ vPtr (cutA kinds.a kinds.cap 0 1) (fun a => ∃ x3 : Int, Hp.cell? H3 (a.add ((x2 : Int).toNat * 1)) = some (.int .u8 x3) ∧ (3 : Int) ≠ 0 ∧ 
 Br ((Int.tmod x3 3) == 1) (
 tephralaw01_PackAny.k1 J b kinds x1 H3 atv bad x2 x3 1 Q)
 (
 tephralaw01_PackAny.k1 J b kinds x1 H3 atv bad x2 x3 8 Q)))
 (
 SCalls Try.prog pack_Reader_Done.id [.pointer x1] H3 (fun r14 H36 => ∃ x37 : Bool, r14 = .bool x37 ∧ 
 Br (!bad) (Q (.bool (x37 == (atv == ((b.len : Nat) : Int)))) H36)
 (Q (.bool (x37 == false)) H36)))
theorem tephralaw01_PackAny.l1.eq (J : Jn) (b : Sl) (kinds : Sl) (x1 : Option Addr) (H3 : Hp) (atv : Int) (bad : Bool) (x2 : Int) (Q : Value → Hp → Prop) : vAtBody Try.prog tephralaw01_PackAny.cf J tephralaw01_PackAny.fn [1, 1, 1, 1, 0, 1, 0] [0, 0, 0, 0, 0, 0] Q (tephralaw01_PackAny.l1.st b kinds x1 H3 atv bad x2) = tephralaw01_PackAny.l1.body J b kinds x1 H3 atv bad x2 Q := by kernel_rfl
theorem tephralaw01_PackAny.l1.step {b : Sl} {kinds : Sl} {x1 : Option Addr} {H3 : Hp} {atv : Int} {bad : Bool} {x2 : Int} {Q : Value → Hp → Prop} (h : tephralaw01_PackAny.l1.body J0 b kinds x1 H3 atv bad x2 Q) : tephralaw01_PackAny.l1 J0 b kinds x1 H3 atv bad x2 Q := vAt_stepC (tephralaw01_PackAny.l1.st b kinds x1 H3 atv bad x2) (tephralaw01_PackAny.l1.eq J0 b kinds x1 H3 atv bad x2 Q) (by kernel_rfl) h
def tephralaw01_PackAny.k1.body (J : Jn) (b : Sl) (kinds : Sl) (x1 : Option Addr) (H3 : Hp) (atv : Int) (bad : Bool) (x2 : Int) (x3 : Int) (long : Int) (Q : Value → Hp → Prop) : Prop :=
 
 Br bad (
 tephralaw01_PackAny.k2 J b kinds x1 H3 atv x2 x3 long true Q)
 (
 tephralaw01_PackAny.k2 J b kinds x1 H3 atv x2 x3 long (decide ((w64 (((b.len : Nat) : Int) - atv)) < long)) Q)
theorem tephralaw01_PackAny.k1.eq (J : Jn) (b : Sl) (kinds : Sl) (x1 : Option Addr) (H3 : Hp) (atv : Int) (bad : Bool) (x2 : Int) (x3 : Int) (long : Int) (Q : Value → Hp → Prop) : vSeg Try.prog tephralaw01_PackAny.cf J tephralaw01_PackAny.fn [1, 1, 1, 1, 0, 1, 0, 0, 1, 1, 0, 0, 1, 1, 1] [0, 0, 0, 0, 0, 0, 0, 0, 0, 0, 0, 0, 0] Q (tephralaw01_PackAny.k1.st b kinds x1 H3 atv bad x2 x3 long) = tephralaw01_PackAny.k1.body J b kinds x1 H3 atv bad x2 x3 long Q := by kernel_rfl
theorem tephralaw01_PackAny.k1.step {b : Sl} {kinds : Sl} {x1 : Option Addr} {H3 : Hp} {atv : Int} {bad : Bool} {x2 : Int} {x3 : Int} {long : Int} {Q : Value → Hp → Prop} (h : tephralaw01_PackAny.k1.body J0 b kinds x1 H3 atv bad x2 x3 long Q) : tephralaw01_PackAny.k1 J0 b kinds x1 H3 atv bad x2 x3 long Q := step_of (vSeg Try.prog tephralaw01_PackAny.cf J0 tephralaw01_PackAny.fn [1, 1, 1, 1, 0, 1, 0, 0, 1, 1, 0, 0, 1, 1, 1] [0, 0, 0, 0, 0, 0, 0, 0, 0, 0, 0, 0, 0] Q) (tephralaw01_PackAny.k1.st b kinds x1 H3 atv bad x2 x3 long) (tephralaw01_PackAny.k1.eq J0 b kinds x1 H3 atv bad x2 x3 long Q) (by kernel_rfl) h
def tephralaw01_PackAny.k2.body (J : Jn) (b : Sl) (kinds : Sl) (x1 : Option Addr) (H3 : Hp) (atv : Int) (x2 : Int) (x3 : Int) (long : Int) (bad1 : Bool) (Q : Value → Hp → Prop) : Prop :=
 
 Br (!bad1) (((0 : Int) ≤ (w64 (atv + long)) ∧ (w64 (atv + long)) ≤ ((b.cap : Nat) : Int)) ∧ ((0 : Int) ≤ atv ∧ atv ≤ (((((w64 (atv + long)) : Int).toNat) : Nat) : Int)) ∧ 
 tephralaw01_PackAny.l2 J b kinds x1 atv x2 x3 long bad1 H3 0 0 Q)
 (
 tephralaw01_PackAny.k3 J b kinds x1 x2 x3 bad1 atv 0 H3 Q)
theorem tephralaw01_PackAny.k2.eq (J : Jn) (b : Sl) (kinds : Sl) (x1 : Option Addr) (H3 : Hp) (atv : Int) (x2 : Int) (x3 : Int) (long : Int) (bad1 : Bool) (Q : Value → Hp → Prop) : vSeg Try.prog tephralaw01_PackAny.cf J tephralaw01_PackAny.fn [1, 1, 1, 1, 0, 1, 0, 0, 1, 1, 0, 0, 1, 1, 1, 1] [0, 0, 0, 0, 0, 0, 0, 0, 0, 0, 0, 0, 0, 0] Q (tephralaw01_PackAny.k2.st b kinds x1 H3 atv x2 x3 long bad1) = tephralaw01_PackAny.k2.body J b kinds x1 H3 atv x2 x3 long bad1 Q := by kernel_rfl
theorem tephralaw01_PackAny.k2.step {b : Sl} {kinds : Sl} {x1 : Option Addr} {H3 : Hp} {atv : Int} {x2 : Int} {x3 : Int} {long : Int} {bad1 : Bool} {Q : Value → Hp → Prop} (h : tephralaw01_PackAny.k2.body J0 b kinds x1 H3 atv x2 x3 long bad1 Q) : tephralaw01_PackAny.k2 J0 b kinds x1 H3 atv x2 x3 long bad1 Q := step_of (vSeg Try.prog tephralaw01_PackAny.cf J0 tephralaw01_PackAny.fn [1, 1, 1, 1, 0, 1, 0, 0, 1, 1, 0, 0, 1, 1, 1, 1] [0, 0, 0, 0, 0, 0, 0, 0, 0, 0, 0, 0, 0, 0] Q) (tephralaw01_PackAny.k2.st b kinds x1 H3 atv x2 x3 long bad1) (tephralaw01_PackAny.k2.eq J0 b kinds x1 H3 atv x2 x3 long bad1 Q) (by kernel_rfl) h
def tephralaw01_PackAny.l2.body (J : Jn) (b : Sl) (kinds : Sl) (x1 : Option Addr) (atv : Int) (x2 : Int) (x3 : Int) (long : Int) (bad1 : Bool) (H4 : Hp) (n : Int) (x4 : Int) (Q : Value → Hp → Prop) : Prop :=
 
 Br (decide (x4 < ((((((w64 (atv + long)) : Int).toNat) - ((atv : Int).toNat)) : Nat) : Int))) (((0 : Int) ≤ x4 ∧ x4 < ((((((w64 (atv + long)) : Int).toNat) - ((atv : Int).toNat)) : Nat) : Int)) ∧ vPtr (cutA b.a b.cap ((atv : Int).toNat) 1) (fun a1 => ∃ x5 : Int, Hp.cell? H4 (a1.add ((x4 : Int).toNat * 1)) = some (.int .u8 x5) ∧ 
 tephralaw01_PackAny.l2 J b kinds x1 atv x2 x3 long bad1 H4 (w64 ((w64 (n * 256)) + (w64 (x5)))) (w64 (x4 + 1)) Q))
 (
 tephralaw01_PackAny.k3 J b kinds x1 x2 x3 bad1 (w64 (atv + long)) n H4 Q)
theorem tephralaw01_PackAny.l2.eq (J : Jn) (b : Sl) (kinds : Sl) (x1 : Option Addr) (atv : Int) (x2 : Int) (x3 : Int) (long : Int) (bad1 : Bool) (H4 : Hp) (n : Int) (x4 : Int) (Q : Value → Hp → Prop) : vAtBody Try.prog tephralaw01_PackAny.cf J tephralaw01_PackAny.fn [1, 1, 1, 1, 0, 1, 0, 0, 1, 1, 0, 0, 1, 1, 1, 1, 0, 1, 0, 0, 1, 0] [0, 0, 0, 0, 0, 0, 0, 0, 0, 0, 0, 0, 0, 0, 0, 0, 0, 0] Q (tephralaw01_PackAny.l2.st b kinds x1 atv x2 x3 long bad1 H4 n x4) = tephralaw01_PackAny.l2.body J b kinds x1 atv x2 x3 long bad1 H4 n x4 Q := by kernel_rfl
theorem tephralaw01_PackAny.l2.step {b : Sl} {kinds : Sl} {x1 : Option Addr} {atv : Int} {x2 : Int} {x3 : Int} {long : Int} {bad1 : Bool} {H4 : Hp} {n : Int} {x4 : Int} {Q : Value → Hp → Prop} (h : tephralaw01_PackAny.l2.body J0 b kinds x1 atv x2 x3 long bad1 H4 n x4 Q) : tephralaw01_PackAny.l2 J0 b kinds x1 atv x2 x3 long bad1 H4 n x4 Q := vAt_stepC (tephralaw01_PackAny.l2.st b kinds x1 atv x2 x3 long bad1 H4 n x4) (tephralaw01_PackAny.l2.eq J0 b kinds x1 atv x2 x3 long bad1 H4 n x4 Q) (by kernel_rfl) h
def tephralaw01_PackAny.k3.body (J : Jn) (b : Sl) (kinds : Sl) (x1 : Option Addr) (x2 : Int) (x3 : Int) (bad1 : Bool) (atv1 : Int) (n1 : Int) (H5 : Hp) (Q : Value → Hp → Prop) : Prop :=
 (3 : Int) ≠ 0 ∧ 
 Br ((Int.tmod x3 3) == 2) (
 tephralaw01_PackAny.k4 J b kinds x1 x2 x3 bad1 atv1 n1 H5 (!bad1) Q)
 (
 tephralaw01_PackAny.k4 J b kinds x1 x2 x3 bad1 atv1 n1 H5 false Q)
theorem tephralaw01_PackAny.k3.eq (J : Jn) (b : Sl) (kinds : Sl) (x1 : Option Addr) (x2 : Int) (x3 : Int) (bad1 : Bool) (atv1 : Int) (n1 : Int) (H5 : Hp) (Q : Value → Hp → Prop) : vSeg Try.prog tephralaw01_PackAny.cf J tephralaw01_PackAny.fn [1, 1, 1, 1, 0, 1, 0, 0, 1, 1, 0, 0, 1, 1, 1, 1, 1] [0, 0, 0, 0, 0, 0, 0, 0, 0, 0, 0, 0, 0, 0, 0] Q (tephralaw01_PackAny.k3.st b kinds x1 x2 x3 bad1 atv1 n1 H5) = tephralaw01_PackAny.k3.body J b kinds x1 x2 x3 bad1 atv1 n1 H5 Q := by kernel_rfl
theorem tephralaw01_PackAny.k3.step {b : Sl} {kinds : Sl} {x1 : Option Addr} {x2 : Int} {x3 : Int} {bad1 : Bool} {atv1 : Int} {n1 : Int} {H5 : Hp} {Q : Value → Hp → Prop} (h : tephralaw01_PackAny.k3.body J0 b kinds x1 x2 x3 bad1 atv1 n1 H5 Q) : tephralaw01_PackAny.k3 J0 b kinds x1 x2 x3 bad1 atv1 n1 H5 Q := step_of (vSeg Try.prog tephralaw01_PackAny.cf J0 tephralaw01_PackAny.fn [1, 1, 1, 1, 0, 1, 0, 0, 1, 1, 0, 0, 1, 1, 1, 1, 1] [0, 0, 0, 0, 0, 0, 0, 0, 0, 0, 0, 0, 0, 0, 0] Q) (tephralaw01_PackAny.k3.st b kinds x1 x2 x3 bad1 atv1 n1 H5) (tephralaw01_PackAny.k3.eq J0 b kinds x1 x2 x3 bad1 atv1 n1 H5 Q) (by kernel_rfl) h
def tephralaw01_PackAny.k4.body (J : Jn) (b : Sl) (kinds : Sl) (x1 : Option Addr) (x2 : Int) (x3 : Int) (bad1 : Bool) (atv1 : Int) (n1 : Int) (H5 : Hp) (x6 : Bool) (Q : Value → Hp → Prop) : Prop :=
 
 Br x6 (
 Br (decide (n1 < 0)) (
 tephralaw01_PackAny.k5 J b kinds x1 x2 x3 atv1 n1 H5 true Q)
 (
 tephralaw01_PackAny.k5 J b kinds x1 x2 x3 atv1 n1 H5 (decide (n1 > (w64 (((b.len : Nat) : Int) - atv1)))) Q))
 ((3 : Int) ≠ 0 ∧ 
 Br ((Int.tmod x3 3) == 0) (
 SCalls Try.prog pack_Reader_Num.id [.pointer x1] H5 (fun r10 H26 => ∃ x27 : Int, r10 = .int .i64 x27 ∧ 
 tephralaw01_PackAny.k22 J b kinds x1 x2 x3 bad1 atv1 n1 (x27 != n1) H26 Q))
 (
 tephralaw01_PackAny.k22 J b kinds x1 x2 x3 bad1 atv1 n1 false H5 Q))
theorem tephralaw01_PackAny.k4.eq (J : Jn) (b : Sl) (kinds : Sl) (x1 : Option Addr) (x2 : Int) (x3 : Int) (bad1 : Bool) (atv1 : Int) (n1 : Int) (H5 : Hp) (x6 : Bool) (Q : Value → Hp → Prop) : vSeg Try.prog tephralaw01_PackAny.cf J tephralaw01_PackAny.fn [1, 1, 1, 1, 0, 1, 0, 0, 1, 1, 0, 0, 1, 1, 1, 1, 1, 1, 0, 1] [0, 0, 0, 0, 0, 0, 0, 0, 0, 0, 0, 0, 0, 0, 0, 0, 0, 0] Q (tephralaw01_PackAny.k4.st b kinds x1 x2 x3 bad1 atv1 n1 H5 x6) = tephralaw01_PackAny.k4.body J b kinds x1 x2 x3 bad1 atv1 n1 H5 x6 Q := by kernel_rfl
theorem tephralaw01_PackAny.k4.step {b : Sl} {kinds : Sl} {x1 : Option Addr} {x2 : Int} {x3 : Int} {bad1 : Bool} {atv1 : Int} {n1 : Int} {H5 : Hp} {x6 : Bool} {Q : Value → Hp → Prop} (h : tephralaw01_PackAny.k4.body J0 b kinds x1 x2 x3 bad1 atv1 n1 H5 x6 Q) : tephralaw01_PackAny.k4 J0 b kinds x1 x2 x3 bad1 atv1 n1 H5 x6 Q := step_of (vSeg Try.prog tephralaw01_PackAny.cf J0 tephralaw01_PackAny.fn [1, 1, 1, 1, 0, 1, 0, 0, 1, 1, 0, 0, 1, 1, 1, 1, 1, 1, 0, 1] [0, 0, 0, 0, 0, 0, 0, 0, 0, 0, 0, 0, 0, 0, 0, 0, 0, 0] Q) (tephralaw01_PackAny.k4.st b kinds x1 x2 x3 bad1 atv1 n1 H5 x6) (tephralaw01_PackAny.k4.eq J0 b kinds x1 x2 x3 bad1 atv1 n1 H5 x6 Q) (by kernel_rfl) h
def tephralaw01_PackAny.k5.body (J : Jn) (b : Sl) (kinds : Sl) (x1 : Option Addr) (x2 : Int) (x3 : Int) (atv1 : Int) (n1 : Int) (H5 : Hp) (bad2 : Bool) (Q : Value → Hp → Prop) : Prop :=
 
 Br (!bad2) (((0 : Int) ≤ (w64 (atv1 + n1)) ∧ (w64 (atv1 + n1)) ≤ ((b.cap : Nat) : Int)) ∧ ((0 : Int) ≤ atv1 ∧ atv1 ≤ (((((w64 (atv1 + n1)) : Int).toNat) : Nat) : Int)) ∧ vB2S H5 (cutA b.a b.cap ((atv1 : Int).toNat) 1) ((((w64 (atv1 + n1)) : Int).toNat) - ((atv1 : Int).toNat)) (fun s => (3 : Int) ≠ 0 ∧ 
 Br ((Int.tmod x3 3) == 0) (
 SCalls Try.prog pack_Reader_Num.id [.pointer x1] H5 (fun r2 H6 => ∃ x7 : Int, r2 = .int .i64 x7 ∧ 
 tephralaw01_PackAny.k6 J b kinds x1 x2 x3 atv1 n1 bad2 s (x7 != n1) H6 Q))
 (
 tephralaw01_PackAny.k6 J b kinds x1 x2 x3 atv1 n1 bad2 s false H5 Q)))
 ((3 : Int) ≠ 0 ∧ 
 Br ((Int.tmod x3 3) == 0) (
 SCalls Try.prog pack_Reader_Num.id [.pointer x1] H5 (fun r6 H16 => ∃ x17 : Int, r6 = .int .i64 x17 ∧ 
 tephralaw01_PackAny.k14 J b kinds x1 x2 x3 atv1 n1 bad2 (x17 != n1) H16 Q))
 (
 tephralaw01_PackAny.k14 J b kinds x1 x2 x3 atv1 n1 bad2 false H5 Q))
theorem tephralaw01_PackAny.k5.eq (J : Jn) (b : Sl) (kinds : Sl) (x1 : Option Addr) (x2 : Int) (x3 : Int) (atv1 : Int) (n1 : Int) (H5 : Hp) (bad2 : Bool) (Q : Value → Hp → Prop) : vSeg Try.prog tephralaw01_PackAny.cf J tephralaw01_PackAny.fn [1, 1, 1, 1, 0, 1, 0, 0, 1, 1, 0, 0, 1, 1, 1, 1, 1, 1, 0, 1, 0, 1] [0, 0, 0, 0, 0, 0, 0, 0, 0, 0, 0, 0, 0, 0, 0, 0, 0, 0, 0] Q (tephralaw01_PackAny.k5.st b kinds x1 x2 x3 atv1 n1 H5 bad2) = tephralaw01_PackAny.k5.body J b kinds x1 x2 x3 atv1 n1 H5 bad2 Q := by kernel_rfl
theorem tephralaw01_PackAny.k5.step {b : Sl} {kinds : Sl} {x1 : Option Addr} {x2 : Int} {x3 : Int} {atv1 : Int} {n1 : Int} {H5 : Hp} {bad2 : Bool} {Q : Value → Hp → Prop} (h : tephralaw01_PackAny.k5.body J0 b kinds x1 x2 x3 atv1 n1 H5 bad2 Q) : tephralaw01_PackAny.k5 J0 b kinds x1 x2 x3 atv1 n1 H5 bad2 Q := step_of (vSeg Try.prog tephralaw01_PackAny.cf J0 tephralaw01_PackAny.fn [1, 1, 1, 1, 0, 1, 0, 0, 1, 1, 0, 0, 1, 1, 1, 1, 1, 1, 0, 1, 0, 1] [0, 0, 0, 0, 0, 0, 0, 0, 0, 0, 0, 0, 0, 0, 0, 0, 0, 0, 0] Q) (tephralaw01_PackAny.k5.st b kinds x1 x2 x3 atv1 n1 H5 bad2) (tephralaw01_PackAny.k5.eq J0 b kinds x1 x2 x3 atv1 n1 H5 bad2 Q) (by kernel_rfl) h
def tephralaw01_PackAny.k6.body (J : Jn) (b : Sl) (kinds : Sl) (x1 : Option Addr) (x2 : Int) (x3 : Int) (atv1 : Int) (n1 : Int) (bad2 : Bool) (s : ByteArray) (x8 : Bool) (H7 : Hp) (Q : Value → Hp → Prop) : Prop :=
 
 Br x8 (
 tephralaw01_PackAny.k7 J b kinds x1 x2 x3 atv1 n1 bad2 s H7 Q)
 ((3 : Int) ≠ 0 ∧ 
 Br ((Int.tmod x3 3) == 1) (
 SCalls Try.prog pack_Reader_Byte.id [.pointer x1] H7 (fun r3 H8 => ∃ x9 : Int, r3 = .int .u8 x9 ∧ 
 tephralaw01_PackAny.k8 J b kinds x1 x2 x3 atv1 n1 bad2 s ((w64 (x9)) != n1) H8 Q))
 (
 tephralaw01_PackAny.k8 J b kinds x1 x2 x3 atv1 n1 bad2 s false H7 Q))
theorem tephralaw01_PackAny.k6.eq (J : Jn) (b : Sl) (kinds : Sl) (x1 : Option Addr) (x2 : Int) (x3 : Int) (atv1 : Int) (n1 : Int) (bad2 : Bool) (s : ByteArray) (x8 : Bool) (H7 : Hp) (Q : Value → Hp → Prop) : vMid Try.prog tephralaw01_PackAny.cf J tephralaw01_PackAny.fn [1, 1, 1, 1, 0, 1, 0, 0, 1, 1, 0, 0, 1, 1, 1, 1, 1, 1, 1, 0] [0, 0, 0, 0, 0, 0, 0, 0, 0, 0, 0, 0, 0, 0, 0, 0, 0, 0] 9 Q (tephralaw01_PackAny.k6.st b kinds x1 x2 x3 atv1 n1 bad2 s x8 H7) = tephralaw01_PackAny.k6.body J b kinds x1 x2 x3 atv1 n1 bad2 s x8 H7 Q := by kernel_rfl
theorem tephralaw01_PackAny.k6.step {b : Sl} {kinds : Sl} {x1 : Option Addr} {x2 : Int} {x3 : Int} {atv1 : Int} {n1 : Int} {bad2 : Bool} {s : ByteArray} {x8 : Bool} {H7 : Hp} {Q : Value → Hp → Prop} (h : tephralaw01_PackAny.k6.body J0 b kinds x1 x2 x3 atv1 n1 bad2 s x8 H7 Q) : tephralaw01_PackAny.k6 J0 b kinds x1 x2 x3 atv1 n1 bad2 s x8 H7 Q := step_of (vMid Try.prog tephralaw01_PackAny.cf J0 tephralaw01_PackAny.fn [1, 1, 1, 1, 0, 1, 0, 0, 1, 1, 0, 0, 1, 1, 1, 1, 1, 1, 1, 0] [0, 0, 0, 0, 0, 0, 0, 0, 0, 0, 0, 0, 0, 0, 0, 0, 0, 0] 9 Q) (tephralaw01_PackAny.k6.st b kinds x1 x2 x3 atv1 n1 bad2 s x8 H7) (tephralaw01_PackAny.k6.eq J0 b kinds x1 x2 x3 atv1 n1 bad2 s x8 H7 Q) (by kernel_rfl) h
def tephralaw01_PackAny.k7.body (J : Jn) (b : Sl) (kinds : Sl) (x1 : Option Addr) (x2 : Int) (x3 : Int) (atv1 : Int) (n1 : Int) (bad2 : Bool) (s : ByteArray) (H7 : Hp) (Q : Value → Hp → Prop) : Prop :=
 
 tephralaw01_PackAny.k9 J b kinds x1 x2 x3 atv1 n1 bad2 s true H7 Q
theorem tephralaw01_PackAny.k7.eq (J : Jn) (b : Sl) (kinds : Sl) (x1 : Option Addr) (x2 : Int) (x3 : Int) (atv1 : Int) (n1 : Int) (bad2 : Bool) (s : ByteArray) (H7 : Hp) (Q : Value → Hp → Prop) : vMid Try.prog tephralaw01_PackAny.cf J tephralaw01_PackAny.fn [1, 1, 1, 1, 0, 1, 0, 0, 1, 1, 0, 0, 1, 1, 1, 1, 1, 1, 1, 0] [0, 0, 0, 0, 0, 0, 0, 0, 0, 0, 0, 0, 0, 0, 0, 0, 0, 0] 20 Q (tephralaw01_PackAny.k7.st b kinds x1 x2 x3 atv1 n1 bad2 s H7) = tephralaw01_PackAny.k7.body J b kinds x1 x2 x3 atv1 n1 bad2 s H7 Q := by kernel_rfl
theorem tephralaw01_PackAny.k7.step {b : Sl} {kinds : Sl} {x1 : Option Addr} {x2 : Int} {x3 : Int} {atv1 : Int} {n1 : Int} {bad2 : Bool} {s : ByteArray} {H7 : Hp} {Q : Value → Hp → Prop} (h : tephralaw01_PackAny.k7.body J0 b kinds x1 x2 x3 atv1 n1 bad2 s H7 Q) : tephralaw01_PackAny.k7 J0 b kinds x1 x2 x3 atv1 n1 bad2 s H7 Q := step_of (vMid Try.prog tephralaw01_PackAny.cf J0 tephralaw01_PackAny.fn [1, 1, 1, 1, 0, 1, 0, 0, 1, 1, 0, 0, 1, 1, 1, 1, 1, 1, 1, 0] [0, 0, 0, 0, 0, 0, 0, 0, 0, 0, 0, 0, 0, 0, 0, 0, 0, 0] 20 Q) (tephralaw01_PackAny.k7.st b kinds x1 x2 x3 atv1 n1 bad2 s H7) (tephralaw01_PackAny.k7.eq J0 b kinds x1 x2 x3 atv1 n1 bad2 s H7 Q) (by kernel_rfl) h
def tephralaw01_PackAny.k8.body (J : Jn) (b : Sl) (kinds : Sl) (x1 : Option Addr) (x2 : Int) (x3 : Int) (atv1 : Int) (n1 : Int) (bad2 : Bool) (s : ByteArray) (x10 : Bool) (H9 : Hp) (Q : Value → Hp → Prop) : Prop :=
 
 tephralaw01_PackAny.k9 J b kinds x1 x2 x3 atv1 n1 bad2 s x10 H9 Q
theorem tephralaw01_PackAny.k8.eq (J : Jn) (b : Sl) (kinds : Sl) (x1 : Option Addr) (x2 : Int) (x3 : Int) (atv1 : Int) (n1 : Int) (bad2 : Bool) (s : ByteArray) (x10 : Bool) (H9 : Hp) (Q : Value → Hp → Prop) : vMid Try.prog tephralaw01_PackAny.cf J tephralaw01_PackAny.fn [1, 1, 1, 1, 0, 1, 0, 0, 1, 1, 0, 0, 1, 1, 1, 1, 1, 1, 1, 0] [0, 0, 0, 0, 0, 0, 0, 0, 0, 0, 0, 0, 0, 0, 0, 0, 0, 0] 20 Q (tephralaw01_PackAny.k8.st b kinds x1 x2 x3 atv1 n1 bad2 s x10 H9) = tephralaw01_PackAny.k8.body J b kinds x1 x2 x3 atv1 n1 bad2 s x10 H9 Q := by kernel_rfl
theorem tephralaw01_PackAny.k8.step {b : Sl} {kinds : Sl} {x1 : Option Addr} {x2 : Int} {x3 : Int} {atv1 : Int} {n1 : Int} {bad2 : Bool} {s : ByteArray} {x10 : Bool} {H9 : Hp} {Q : Value → Hp → Prop} (h : tephralaw01_PackAny.k8.body J0 b kinds x1 x2 x3 atv1 n1 bad2 s x10 H9 Q) : tephralaw01_PackAny.k8 J0 b kinds x1 x2 x3 atv1 n1 bad2 s x10 H9 Q := step_of (vMid Try.prog tephralaw01_PackAny.cf J0 tephralaw01_PackAny.fn [1, 1, 1, 1, 0, 1, 0, 0, 1, 1, 0, 0, 1, 1, 1, 1, 1, 1, 1, 0] [0, 0, 0, 0, 0, 0, 0, 0, 0, 0, 0, 0, 0, 0, 0, 0, 0, 0] 20 Q) (tephralaw01_PackAny.k8.st b kinds x1 x2 x3 atv1 n1 bad2 s x10 H9) (tephralaw01_PackAny.k8.eq J0 b kinds x1 x2 x3 atv1 n1 bad2 s x10 H9 Q) (by kernel_rfl) h
def tephralaw01_PackAny.k9.body (J : Jn) (b : Sl) (kinds : Sl) (x1 : Option Addr) (x2 : Int) (x3 : Int) (atv1 : Int) (n1 : Int) (bad2 : Bool) (s : ByteArray) (x11 : Bool) (H10 : Hp) (Q : Value → Hp → Prop) : Prop :=
 
 Br x11 (
 tephralaw01_PackAny.k10 J b kinds x1 x2 atv1 n1 bad2 H10 Q)
 ((3 : Int) ≠ 0 ∧ 
 Br ((Int.tmod x3 3) == 2) (
 SCalls Try.prog pack_Reader_Text.id [.pointer x1] H10 (fun r4 H11 => ∃ x12 : ByteArray, r4 = .string x12 ∧ 
 tephralaw01_PackAny.k11 J b kinds x1 x2 atv1 n1 bad2 (!(x12.toList == s.toList)) H11 Q))
 (
 tephralaw01_PackAny.k11 J b kinds x1 x2 atv1 n1 bad2 false H10 Q))
theorem tephralaw01_PackAny.k9.eq (J : Jn) (b : Sl) (kinds : Sl) (x1 : Option Addr) (x2 : Int) (x3 : Int) (atv1 : Int) (n1 : Int) (bad2 : Bool) (s : ByteArray) (x11 : Bool) (H10 : Hp) (Q : Value → Hp → Prop) : vMid Try.prog tephralaw01_PackAny.cf J tephralaw01_PackAny.fn [1, 1, 1, 1, 0, 1, 0, 0, 1, 1, 0, 0, 1, 1, 1, 1, 1, 1, 1, 0] [0, 0, 0, 0, 0, 0, 0, 0, 0, 0, 0, 0, 0, 0, 0, 0, 0, 0] 21 Q (tephralaw01_PackAny.k9.st b kinds x1 x2 x3 atv1 n1 bad2 s x11 H10) = tephralaw01_PackAny.k9.body J b kinds x1 x2 x3 atv1 n1 bad2 s x11 H10 Q := by kernel_rfl
theorem tephralaw01_PackAny.k9.step {b : Sl} {kinds : Sl} {x1 : Option Addr} {x2 : Int} {x3 : Int} {atv1 : Int} {n1 : Int} {bad2 : Bool} {s : ByteArray} {x11 : Bool} {H10 : Hp} {Q : Value → Hp → Prop} (h : tephralaw01_PackAny.k9.body J0 b kinds x1 x2 x3 atv1 n1 bad2 s x11 H10 Q) : tephralaw01_PackAny.k9 J0 b kinds x1 x2 x3 atv1 n1 bad2 s x11 H10 Q := step_of (vMid Try.prog tephralaw01_PackAny.cf J0 tephralaw01_PackAny.fn [1, 1, 1, 1, 0, 1, 0, 0, 1, 1, 0, 0, 1, 1, 1, 1, 1, 1, 1, 0] [0, 0, 0, 0, 0, 0, 0, 0, 0, 0, 0, 0, 0, 0, 0, 0, 0, 0] 21 Q) (tephralaw01_PackAny.k9.st b kinds x1 x2 x3 atv1 n1 bad2 s x11 H10) (tephralaw01_PackAny.k9.eq J0 b kinds x1 x2 x3 atv1 n1 bad2 s x11 H10 Q) (by kernel_rfl) h
def tephralaw01_PackAny.k10.body (J : Jn) (b : Sl) (kinds : Sl) (x1 : Option Addr) (x2 : Int) (atv1 : Int) (n1 : Int) (bad2 : Bool) (H10 : Hp) (Q : Value → Hp → Prop) : Prop :=
 
 tephralaw01_PackAny.k12 J b kinds x1 x2 atv1 n1 bad2 true H10 Q
theorem tephralaw01_PackAny.k10.eq (J : Jn) (b : Sl) (kinds : Sl) (x1 : Option Addr) (x2 : Int) (atv1 : Int) (n1 : Int) (bad2 : Bool) (H10 : Hp) (Q : Value → Hp → Prop) : vMid Try.prog tephralaw01_PackAny.cf J tephralaw01_PackAny.fn [1, 1, 1, 1, 0, 1, 0, 0, 1, 1, 0, 0, 1, 1, 1, 1, 1, 1, 1, 0] [0, 0, 0, 0, 0, 0, 0, 0, 0, 0, 0, 0, 0, 0, 0, 0, 0, 0] 31 Q (tephralaw01_PackAny.k10.st b kinds x1 x2 atv1 n1 bad2 H10) = tephralaw01_PackAny.k10.body J b kinds x1 x2 atv1 n1 bad2 H10 Q := by kernel_rfl
theorem tephralaw01_PackAny.k10.step {b : Sl} {kinds : Sl} {x1 : Option Addr} {x2 : Int} {atv1 : Int} {n1 : Int} {bad2 : Bool} {H10 : Hp} {Q : Value → Hp → Prop} (h : tephralaw01_PackAny.k10.body J0 b kinds x1 x2 atv1 n1 bad2 H10 Q) : tephralaw01_PackAny.k10 J0 b kinds x1 x2 atv1 n1 bad2 H10 Q := step_of (vMid Try.prog tephralaw01_PackAny.cf J0 tephralaw01_PackAny.fn [1, 1, 1, 1, 0, 1, 0, 0, 1, 1, 0, 0, 1, 1, 1, 1, 1, 1, 1, 0] [0, 0, 0, 0, 0, 0, 0, 0, 0, 0, 0, 0, 0, 0, 0, 0, 0, 0] 31 Q) (tephralaw01_PackAny.k10.st b kinds x1 x2 atv1 n1 bad2 H10) (tephralaw01_PackAny.k10.eq J0 b kinds x1 x2 atv1 n1 bad2 H10 Q) (by kernel_rfl) h
def tephralaw01_PackAny.k11.body (J : Jn) (b : Sl) (kinds : Sl) (x1 : Option Addr) (x2 : Int) (atv1 : Int) (n1 : Int) (bad2 : Bool) (x13 : Bool) (H12 : Hp) (Q : Value → Hp → Prop) : Prop :=
 
 tephralaw01_PackAny.k12 J b kinds x1 x2 atv1 n1 bad2 x13 H12 Q
theorem tephralaw01_PackAny.k11.eq (J : Jn) (b : Sl) (kinds : Sl) (x1 : Option Addr) (x2 : Int) (atv1 : Int) (n1 : Int) (bad2 : Bool) (x13 : Bool) (H12 : Hp) (Q : Value → Hp → Prop) : vMid Try.prog tephralaw01_PackAny.cf J tephralaw01_PackAny.fn [1, 1, 1, 1, 0, 1, 0, 0, 1, 1, 0, 0, 1, 1, 1, 1, 1, 1, 1, 0] [0, 0, 0, 0, 0, 0, 0, 0, 0, 0, 0, 0, 0, 0, 0, 0, 0, 0] 31 Q (tephralaw01_PackAny.k11.st b kinds x1 x2 atv1 n1 bad2 x13 H12) = tephralaw01_PackAny.k11.body J b kinds x1 x2 atv1 n1 bad2 x13 H12 Q := by kernel_rfl
theorem tephralaw01_PackAny.k11.step {b : Sl} {kinds : Sl} {x1 : Option Addr} {x2 : Int} {atv1 : Int} {n1 : Int} {bad2 : Bool} {x13 : Bool} {H12 : Hp} {Q : Value → Hp → Prop} (h : tephralaw01_PackAny.k11.body J0 b kinds x1 x2 atv1 n1 bad2 x13 H12 Q) : tephralaw01_PackAny.k11 J0 b kinds x1 x2 atv1 n1 bad2 x13 H12 Q := step_of (vMid Try.prog tephralaw01_PackAny.cf J0 tephralaw01_PackAny.fn [1, 1, 1, 1, 0, 1, 0, 0, 1, 1, 0, 0, 1, 1, 1, 1, 1, 1, 1, 0] [0, 0, 0, 0, 0, 0, 0, 0, 0, 0, 0, 0, 0, 0, 0, 0, 0, 0] 31 Q) (tephralaw01_PackAny.k11.st b kinds x1 x2 atv1 n1 bad2 x13 H12) (tephralaw01_PackAny.k11.eq J0 b kinds x1 x2 atv1 n1 bad2 x13 H12 Q) (by kernel_rfl) h
def tephralaw01_PackAny.k12.body (J : Jn) (b : Sl) (kinds : Sl) (x1 : Option Addr) (x2 : Int) (atv1 : Int) (n1 : Int) (bad2 : Bool) (x14 : Bool) (H13 : Hp) (Q : Value → Hp → Prop) : Prop :=
 
 Br x14 (
 tephralaw01_PackAny.k13 J b kinds x1 x2 atv1 n1 bad2 true H13 Q)
 (
 SCalls Try.prog pack_Reader_Bad.id [.pointer x1] H13 (fun r5 H14 => ∃ x15 : Bool, r5 = .bool x15 ∧ 
 tephralaw01_PackAny.k13 J b kinds x1 x2 atv1 n1 bad2 (!(x15 == bad2)) H14 Q))
theorem tephralaw01_PackAny.k12.eq (J : Jn) (b : Sl) (kinds : Sl) (x1 : Option Addr) (x2 : Int) (atv1 : Int) (n1 : Int) (bad2 : Bool) (x14 : Bool) (H13 : Hp) (Q : Value → Hp → Prop) : vMid Try.prog tephralaw01_PackAny.cf J tephralaw01_PackAny.fn [1, 1, 1, 1, 0, 1, 0, 0, 1, 1, 0, 0, 1, 1, 1, 1, 1, 1, 1, 0] [0, 0, 0, 0, 0, 0, 0, 0, 0, 0, 0, 0, 0, 0, 0, 0, 0, 0] 32 Q (tephralaw01_PackAny.k12.st b kinds x1 x2 atv1 n1 bad2 x14 H13) = tephralaw01_PackAny.k12.body J b kinds x1 x2 atv1 n1 bad2 x14 H13 Q := by kernel_rfl
theorem tephralaw01_PackAny.k12.step {b : Sl} {kinds : Sl} {x1 : Option Addr} {x2 : Int} {atv1 : Int} {n1 : Int} {bad2 : Bool} {x14 : Bool} {H13 : Hp} {Q : Value → Hp → Prop} (h : tephralaw01_PackAny.k12.body J0 b kinds x1 x2 atv1 n1 bad2 x14 H13 Q) : tephralaw01_PackAny.k12 J0 b kinds x1 x2 atv1 n1 bad2 x14 H13 Q := step_of (vMid Try.prog tephralaw01_PackAny.cf J0 tephralaw01_PackAny.fn [1, 1, 1, 1, 0, 1, 0, 0, 1, 1, 0, 0, 1, 1, 1, 1, 1, 1, 1, 0] [0, 0, 0, 0, 0, 0, 0, 0, 0, 0, 0, 0, 0, 0, 0, 0, 0, 0] 32 Q) (tephralaw01_PackAny.k12.st b kinds x1 x2 atv1 n1 bad2 x14 H13) (tephralaw01_PackAny.k12.eq J0 b kinds x1 x2 atv1 n1 bad2 x14 H13 Q) (by kernel_rfl) h
def tephralaw01_PackAny.k13.body (J : Jn) (b : Sl) (kinds : Sl) (x1 : Option Addr) (x2 : Int) (atv1 : Int) (n1 : Int) (bad2 : Bool) (x16 : Bool) (H15 : Hp) (Q : Value → Hp → Prop) : Prop :=
 
 Br x16 (Q (.bool false) H15)
 (
 tephralaw01_PackAny.l1 J b kinds x1 H15 (w64 (atv1 + n1)) bad2 (w64 (x2 + 1)) Q)
theorem tephralaw01_PackAny.k13.eq (J : Jn) (b : Sl) (kinds : Sl) (x1 : Option Addr) (x2 : Int) (atv1 : Int) (n1 : Int) (bad2 : Bool) (x16 : Bool) (H15 : Hp) (Q : Value → Hp → Prop) : vSeg Try.prog tephralaw01_PackAny.cf J tephralaw01_PackAny.fn [1, 1, 1, 1, 0, 1, 0, 0, 1, 1, 0, 0, 1, 1, 1, 1, 1, 1, 1, 1] [0, 0, 0, 0, 0, 0, 0, 0, 0, 0, 0, 0, 0, 0, 0, 0, 0, 0] Q (tephralaw01_PackAny.k13.st b kinds x1 x2 atv1 n1 bad2 x16 H15) = tephralaw01_PackAny.k13.body J b kinds x1 x2 atv1 n1 bad2 x16 H15 Q := by kernel_rfl
theorem tephralaw01_PackAny.k13.step {b : Sl} {kinds : Sl} {x1 : Option Addr} {x2 : Int} {atv1 : Int} {n1 : Int} {bad2 : Bool} {x16 : Bool} {H15 : Hp} {Q : Value → Hp → Prop} (h : tephralaw01_PackAny.k13.body J0 b kinds x1 x2 atv1 n1 bad2 x16 H15 Q) : tephralaw01_PackAny.k13 J0 b kinds x1 x2 atv1 n1 bad2 x16 H15 Q := step_of (vSeg Try.prog tephralaw01_PackAny.cf J0 tephralaw01_PackAny.fn [1, 1, 1, 1, 0, 1, 0, 0, 1, 1, 0, 0, 1, 1, 1, 1, 1, 1, 1, 1] [0, 0, 0, 0, 0, 0, 0, 0, 0, 0, 0, 0, 0, 0, 0, 0, 0, 0] Q) (tephralaw01_PackAny.k13.st b kinds x1 x2 atv1 n1 bad2 x16 H15) (tephralaw01_PackAny.k13.eq J0 b kinds x1 x2 atv1 n1 bad2 x16 H15 Q) (by kernel_rfl) h
def tephralaw01_PackAny.k14.body (J : Jn) (b : Sl) (kinds : Sl) (x1 : Option Addr) (x2 : Int) (x3 : Int) (atv1 : Int) (n1 : Int) (bad2 : Bool) (x18 : Bool) (H17 : Hp) (Q : Value → Hp → Prop) : Prop :=
 
 Br x18 (
 tephralaw01_PackAny.k15 J b kinds x1 x2 x3 atv1 bad2 H17 Q)
 ((3 : Int) ≠ 0 ∧ 
 Br ((Int.tmod x3 3) == 1) (
 SCalls Try.prog pack_Reader_Byte.id [.pointer x1] H17 (fun r7 H18 => ∃ x19 : Int, r7 = .int .u8 x19 ∧ 
 tephralaw01_PackAny.k16 J b kinds x1 x2 x3 atv1 bad2 ((w64 (x19)) != n1) H18 Q))
 (
 tephralaw01_PackAny.k16 J b kinds x1 x2 x3 atv1 bad2 false H17 Q))
theorem tephralaw01_PackAny.k14.eq (J : Jn) (b : Sl) (kinds : Sl) (x1 : Option Addr) (x2 : Int) (x3 : Int) (atv1 : Int) (n1 : Int) (bad2 : Bool) (x18 : Bool) (H17 : Hp) (Q : Value → Hp → Prop) : vMid Try.prog tephralaw01_PackAny.cf J tephralaw01_PackAny.fn [1, 1, 1, 1, 0, 1, 0, 0, 1, 1, 0, 0, 1, 1, 1, 1, 1, 1, 1, 0] [0, 0, 0, 0, 0, 0, 0, 0, 0, 0, 0, 0, 0, 0, 0, 0, 0, 0] 9 Q (tephralaw01_PackAny.k14.st b kinds x1 x2 x3 atv1 n1 bad2 x18 H17) = tephralaw01_PackAny.k14.body J b kinds x1 x2 x3 atv1 n1 bad2 x18 H17 Q := by kernel_rfl
theorem tephralaw01_PackAny.k14.step {b : Sl} {kinds : Sl} {x1 : Option Addr} {x2 : Int} {x3 : Int} {atv1 : Int} {n1 : Int} {bad2 : Bool} {x18 : Bool} {H17 : Hp} {Q : Value → Hp → Prop} (h : tephralaw01_PackAny.k14.body J0 b kinds x1 x2 x3 atv1 n1 bad2 x18 H17 Q) : tephralaw01_PackAny.k14 J0 b kinds x1 x2 x3 atv1 n1 bad2 x18 H17 Q := step_of (vMid Try.prog tephralaw01_PackAny.cf J0 tephralaw01_PackAny.fn [1, 1, 1, 1, 0, 1, 0, 0, 1, 1, 0, 0, 1, 1, 1, 1, 1, 1, 1, 0] [0, 0, 0, 0, 0, 0, 0, 0, 0, 0, 0, 0, 0, 0, 0, 0, 0, 0] 9 Q) (tephralaw01_PackAny.k14.st b kinds x1 x2 x3 atv1 n1 bad2 x18 H17) (tephralaw01_PackAny.k14.eq J0 b kinds x1 x2 x3 atv1 n1 bad2 x18 H17 Q) (by kernel_rfl) h
def tephralaw01_PackAny.k15.body (J : Jn) (b : Sl) (kinds : Sl) (x1 : Option Addr) (x2 : Int) (x3 : Int) (atv1 : Int) (bad2 : Bool) (H17 : Hp) (Q : Value → Hp → Prop) : Prop :=
 
 tephralaw01_PackAny.k17 J b kinds x1 x2 x3 atv1 bad2 true H17 Q
theorem tephralaw01_PackAny.k15.eq (J : Jn) (b : Sl) (kinds : Sl) (x1 : Option Addr) (x2 : Int) (x3 : Int) (atv1 : Int) (bad2 : Bool) (H17 : Hp) (Q : Value → Hp → Prop) : vMid Try.prog tephralaw01_PackAny.cf J tephralaw01_PackAny.fn [1, 1, 1, 1, 0, 1, 0, 0, 1, 1, 0, 0, 1, 1, 1, 1, 1, 1, 1, 0] [0, 0, 0, 0, 0, 0, 0, 0, 0, 0, 0, 0, 0, 0, 0, 0, 0, 0] 20 Q (tephralaw01_PackAny.k15.st b kinds x1 x2 x3 atv1 bad2 H17) = tephralaw01_PackAny.k15.body J b kinds x1 x2 x3 atv1 bad2 H17 Q := by kernel_rfl
theorem tephralaw01_PackAny.k15.step {b : Sl} {kinds : Sl} {x1 : Option Addr} {x2 : Int} {x3 : Int} {atv1 : Int} {bad2 : Bool} {H17 : Hp} {Q : Value → Hp → Prop} (h : tephralaw01_PackAny.k15.body J0 b kinds x1 x2 x3 atv1 bad2 H17 Q) : tephralaw01_PackAny.k15 J0 b kinds x1 x2 x3 atv1 bad2 H17 Q := step_of (vMid Try.prog tephralaw01_PackAny.cf J0 tephralaw01_PackAny.fn [1, 1, 1, 1, 0, 1, 0, 0, 1, 1, 0, 0, 1, 1, 1, 1, 1, 1, 1, 0] [0, 0, 0, 0, 0, 0, 0, 0, 0, 0, 0, 0, 0, 0, 0, 0, 0, 0] 20 Q) (tephralaw01_PackAny.k15.st b kinds x1 x2 x3 atv1 bad2 H17) (tephralaw01_PackAny.k15.eq J0 b kinds x1 x2 x3 atv1 bad2 H17 Q) (by kernel_rfl) h
def tephralaw01_PackAny.k16.body (J : Jn) (b : Sl) (kinds : Sl) (x1 : Option Addr) (x2 : Int) (x3 : Int) (atv1 : Int) (bad2 : Bool) (x20 : Bool) (H19 : Hp) (Q : Value → Hp → Prop) : Prop :=
 
 tephralaw01_PackAny.k17 J b kinds x1 x2 x3 atv1 bad2 x20 H19 Q
theorem tephralaw01_PackAny.k16.eq (J : Jn) (b : Sl) (kinds : Sl) (x1 : Option Addr) (x2 : Int) (x3 : Int) (atv1 : Int) (bad2 : Bool) (x20 : Bool) (H19 : Hp) (Q : Value → Hp → Prop) : vMid Try.prog tephralaw01_PackAny.cf J tephralaw01_PackAny.fn [1, 1, 1, 1, 0, 1, 0, 0, 1, 1, 0, 0, 1, 1, 1, 1, 1, 1, 1, 0] [0, 0, 0, 0, 0, 0, 0, 0, 0, 0, 0, 0, 0, 0, 0, 0, 0, 0] 20 Q (tephralaw01_PackAny.k16.st b kinds x1 x2 x3 atv1 bad2 x20 H19) = tephralaw01_PackAny.k16.body J b kinds x1 x2 x3 atv1 bad2 x20 H19 Q := by kernel_rfl
theorem tephralaw01_PackAny.k16.step {b : Sl} {kinds : Sl} {x1 : Option Addr} {x2 : Int} {x3 : Int} {atv1 : Int} {bad2 : Bool} {x20 : Bool} {H19 : Hp} {Q : Value → Hp → Prop} (h : tephralaw01_PackAny.k16.body J0 b kinds x1 x2 x3 atv1 bad2 x20 H19 Q) : tephralaw01_PackAny.k16 J0 b kinds x1 x2 x3 atv1 bad2 x20 H19 Q := step_of (vMid Try.prog tephralaw01_PackAny.cf J0 tephralaw01_PackAny.fn [1, 1, 1, 1, 0, 1, 0, 0, 1, 1, 0, 0, 1, 1, 1, 1, 1, 1, 1, 0] [0, 0, 0, 0, 0, 0, 0, 0, 0, 0, 0, 0, 0, 0, 0, 0, 0, 0] 20 Q) (tephralaw01_PackAny.k16.st b kinds x1 x2 x3 atv1 bad2 x20 H19) (tephralaw01_PackAny.k16.eq J0 b kinds x1 x2 x3 atv1 bad2 x20 H19 Q) (by kernel_rfl) h
def tephralaw01_PackAny.k17.body (J : Jn) (b : Sl) (kinds : Sl) (x1 : Option Addr) (x2 : Int) (x3 : Int) (atv1 : Int) (bad2 : Bool) (x21 : Bool) (H20 : Hp) (Q : Value → Hp → Prop) : Prop :=
 
 Br x21 (
 tephralaw01_PackAny.k18 J b kinds x1 x2 atv1 bad2 H20 Q)
 ((3 : Int) ≠ 0 ∧ 
 Br ((Int.tmod x3 3) == 2) (
 SCalls Try.prog pack_Reader_Text.id [.pointer x1] H20 (fun r8 H21 => ∃ x22 : ByteArray, r8 = .string x22 ∧ 
 tephralaw01_PackAny.k19 J b kinds x1 x2 atv1 bad2 (!(x22.toList == (ByteArray.mk #[]).toList)) H21 Q))
 (
 tephralaw01_PackAny.k19 J b kinds x1 x2 atv1 bad2 false H20 Q))
theorem tephralaw01_PackAny.k17.eq (J : Jn) (b : Sl) (kinds : Sl) (x1 : Option Addr) (x2 : Int) (x3 : Int) (atv1 : Int) (bad2 : Bool) (x21 : Bool) (H20 : Hp) (Q : Value → Hp → Prop) : vMid Try.prog tephralaw01_PackAny.cf J tephralaw01_PackAny.fn [1, 1, 1, 1, 0, 1, 0, 0, 1, 1, 0, 0, 1, 1, 1, 1, 1, 1, 1, 0] [0, 0, 0, 0, 0, 0, 0, 0, 0, 0, 0, 0, 0, 0, 0, 0, 0, 0] 21 Q (tephralaw01_PackAny.k17.st b kinds x1 x2 x3 atv1 bad2 x21 H20) = tephralaw01_PackAny.k17.body J b kinds x1 x2 x3 atv1 bad2 x21 H20 Q := by kernel_rfl
theorem tephralaw01_PackAny.k17.step {b : Sl} {kinds : Sl} {x1 : Option Addr} {x2 : Int} {x3 : Int} {atv1 : Int} {bad2 : Bool} {x21 : Bool} {H20 : Hp} {Q : Value → Hp → Prop} (h : tephralaw01_PackAny.k17.body J0 b kinds x1 x2 x3 atv1 bad2 x21 H20 Q) : tephralaw01_PackAny.k17 J0 b kinds x1 x2 x3 atv1 bad2 x21 H20 Q := step_of (vMid Try.prog tephralaw01_PackAny.cf J0 tephralaw01_PackAny.fn [1, 1, 1, 1, 0, 1, 0, 0, 1, 1, 0, 0, 1, 1, 1, 1, 1, 1, 1, 0] [0, 0, 0, 0, 0, 0, 0, 0, 0, 0, 0, 0, 0, 0, 0, 0, 0, 0] 21 Q) (tephralaw01_PackAny.k17.st b kinds x1 x2 x3 atv1 bad2 x21 H20) (tephralaw01_PackAny.k17.eq J0 b kinds x1 x2 x3 atv1 bad2 x21 H20 Q) (by kernel_rfl) h
def tephralaw01_PackAny.k18.body (J : Jn) (b : Sl) (kinds : Sl) (x1 : Option Addr) (x2 : Int) (atv1 : Int) (bad2 : Bool) (H20 : Hp) (Q : Value → Hp → Prop) : Prop :=
 
 tephralaw01_PackAny.k20 J b kinds x1 x2 atv1 bad2 true H20 Q
theorem tephralaw01_PackAny.k18.eq (J : Jn) (b : Sl) (kinds : Sl) (x1 : Option Addr) (x2 : Int) (atv1 : Int) (bad2 : Bool) (H20 : Hp) (Q : Value → Hp → Prop) : vMid Try.prog tephralaw01_PackAny.cf J tephralaw01_PackAny.fn [1, 1, 1, 1, 0, 1, 0, 0, 1, 1, 0, 0, 1, 1, 1, 1, 1, 1, 1, 0] [0, 0, 0, 0, 0, 0, 0, 0, 0, 0, 0, 0, 0, 0, 0, 0, 0, 0] 31 Q (tephralaw01_PackAny.k18.st b kinds x1 x2 atv1 bad2 H20) = tephralaw01_PackAny.k18.body J b kinds x1 x2 atv1 bad2 H20 Q := by kernel_rfl
theorem tephralaw01_PackAny.k18.step {b : Sl} {kinds : Sl} {x1 : Option Addr} {x2 : Int} {atv1 : Int} {bad2 : Bool} {H20 : Hp} {Q : Value → Hp → Prop} (h : tephralaw01_PackAny.k18.body J0 b kinds x1 x2 atv1 bad2 H20 Q) : tephralaw01_PackAny.k18 J0 b kinds x1 x2 atv1 bad2 H20 Q := step_of (vMid Try.prog tephralaw01_PackAny.cf J0 tephralaw01_PackAny.fn [1, 1, 1, 1, 0, 1, 0, 0, 1, 1, 0, 0, 1, 1, 1, 1, 1, 1, 1, 0] [0, 0, 0, 0, 0, 0, 0, 0, 0, 0, 0, 0, 0, 0, 0, 0, 0, 0] 31 Q) (tephralaw01_PackAny.k18.st b kinds x1 x2 atv1 bad2 H20) (tephralaw01_PackAny.k18.eq J0 b kinds x1 x2 atv1 bad2 H20 Q) (by kernel_rfl) h
def tephralaw01_PackAny.k19.body (J : Jn) (b : Sl) (kinds : Sl) (x1 : Option Addr) (x2 : Int) (atv1 : Int) (bad2 : Bool) (x23 : Bool) (H22 : Hp) (Q : Value → Hp → Prop) : Prop :=
 
 tephralaw01_PackAny.k20 J b kinds x1 x2 atv1 bad2 x23 H22 Q
theorem tephralaw01_PackAny.k19.eq (J : Jn) (b : Sl) (kinds : Sl) (x1 : Option Addr) (x2 : Int) (atv1 : Int) (bad2 : Bool) (x23 : Bool) (H22 : Hp) (Q : Value → Hp → Prop) : vMid Try.prog tephralaw01_PackAny.cf J tephralaw01_PackAny.fn [1, 1, 1, 1, 0, 1, 0, 0, 1, 1, 0, 0, 1, 1, 1, 1, 1, 1, 1, 0] [0, 0, 0, 0, 0, 0, 0, 0, 0, 0, 0, 0, 0, 0, 0, 0, 0, 0] 31 Q (tephralaw01_PackAny.k19.st b kinds x1 x2 atv1 bad2 x23 H22) = tephralaw01_PackAny.k19.body J b kinds x1 x2 atv1 bad2 x23 H22 Q := by kernel_rfl
theorem tephralaw01_PackAny.k19.step {b : Sl} {kinds : Sl} {x1 : Option Addr} {x2 : Int} {atv1 : Int} {bad2 : Bool} {x23 : Bool} {H22 : Hp} {Q : Value → Hp → Prop} (h : tephralaw01_PackAny.k19.body J0 b kinds x1 x2 atv1 bad2 x23 H22 Q) : tephralaw01_PackAny.k19 J0 b kinds x1 x2 atv1 bad2 x23 H22 Q := step_of (vMid Try.prog tephralaw01_PackAny.cf J0 tephralaw01_PackAny.fn [1, 1, 1, 1, 0, 1, 0, 0, 1, 1, 0, 0, 1, 1, 1, 1, 1, 1, 1, 0] [0, 0, 0, 0, 0, 0, 0, 0, 0, 0, 0, 0, 0, 0, 0, 0, 0, 0] 31 Q) (tephralaw01_PackAny.k19.st b kinds x1 x2 atv1 bad2 x23 H22) (tephralaw01_PackAny.k19.eq J0 b kinds x1 x2 atv1 bad2 x23 H22 Q) (by kernel_rfl) h
def tephralaw01_PackAny.k20.body (J : Jn) (b : Sl) (kinds : Sl) (x1 : Option Addr) (x2 : Int) (atv1 : Int) (bad2 : Bool) (x24 : Bool) (H23 : Hp) (Q : Value → Hp → Prop) : Prop :=
 
 Br x24 (
 tephralaw01_PackAny.k21 J b kinds x1 x2 atv1 bad2 true H23 Q)
 (
 SCalls Try.prog pack_Reader_Bad.id [.pointer x1] H23 (fun r9 H24 => ∃ x25 : Bool, r9 = .bool x25 ∧ 
 tephralaw01_PackAny.k21 J b kinds x1 x2 atv1 bad2 (!(x25 == bad2)) H24 Q))
theorem tephralaw01_PackAny.k20.eq (J : Jn) (b : Sl) (kinds : Sl) (x1 : Option Addr) (x2 : Int) (atv1 : Int) (bad2 : Bool) (x24 : Bool) (H23 : Hp) (Q : Value → Hp → Prop) : vMid Try.prog tephralaw01_PackAny.cf J tephralaw01_PackAny.fn [1, 1, 1, 1, 0, 1, 0, 0, 1, 1, 0, 0, 1, 1, 1, 1, 1, 1, 1, 0] [0, 0, 0, 0, 0, 0, 0, 0, 0, 0, 0, 0, 0, 0, 0, 0, 0, 0] 32 Q (tephralaw01_PackAny.k20.st b kinds x1 x2 atv1 bad2 x24 H23) = tephralaw01_PackAny.k20.body J b kinds x1 x2 atv1 bad2 x24 H23 Q := by kernel_rfl
theorem tephralaw01_PackAny.k20.step {b : Sl} {kinds : Sl} {x1 : Option Addr} {x2 : Int} {atv1 : Int} {bad2 : Bool} {x24 : Bool} {H23 : Hp} {Q : Value → Hp → Prop} (h : tephralaw01_PackAny.k20.body J0 b kinds x1 x2 atv1 bad2 x24 H23 Q) : tephralaw01_PackAny.k20 J0 b kinds x1 x2 atv1 bad2 x24 H23 Q := step_of (vMid Try.prog tephralaw01_PackAny.cf J0 tephralaw01_PackAny.fn [1, 1, 1, 1, 0, 1, 0, 0, 1, 1, 0, 0, 1, 1, 1, 1, 1, 1, 1, 0] [0, 0, 0, 0, 0, 0, 0, 0, 0, 0, 0, 0, 0, 0, 0, 0, 0, 0] 32 Q) (tephralaw01_PackAny.k20.st b kinds x1 x2 atv1 bad2 x24 H23) (tephralaw01_PackAny.k20.eq J0 b kinds x1 x2 atv1 bad2 x24 H23 Q) (by kernel_rfl) h
def tephralaw01_PackAny.k21.body (J : Jn) (b : Sl) (kinds : Sl) (x1 : Option Addr) (x2 : Int) (atv1 : Int) (bad2 : Bool) (x26 : Bool) (H25 : Hp) (Q : Value → Hp → Prop) : Prop :=
 
 Br x26 (Q (.bool false) H25)
 (
 tephralaw01_PackAny.l1 J b kinds x1 H25 atv1 bad2 (w64 (x2 + 1)) Q)
theorem tephralaw01_PackAny.k21.eq (J : Jn) (b : Sl) (kinds : Sl) (x1 : Option Addr) (x2 : Int) (atv1 : Int) (bad2 : Bool) (x26 : Bool) (H25 : Hp) (Q : Value → Hp → Prop) : vSeg Try.prog tephralaw01_PackAny.cf J tephralaw01_PackAny.fn [1, 1, 1, 1, 0, 1, 0, 0, 1, 1, 0, 0, 1, 1, 1, 1, 1, 1, 1, 1] [0, 0, 0, 0, 0, 0, 0, 0, 0, 0, 0, 0, 0, 0, 0, 0, 0, 0] Q (tephralaw01_PackAny.k21.st b kinds x1 x2 atv1 bad2 x26 H25) = tephralaw01_PackAny.k21.body J b kinds x1 x2 atv1 bad2 x26 H25 Q := by kernel_rfl
theorem tephralaw01_PackAny.k21.step {b : Sl} {kinds : Sl} {x1 : Option Addr} {x2 : Int} {atv1 : Int} {bad2 : Bool} {x26 : Bool} {H25 : Hp} {Q : Value → Hp → Prop} (h : tephralaw01_PackAny.k21.body J0 b kinds x1 x2 atv1 bad2 x26 H25 Q) : tephralaw01_PackAny.k21 J0 b kinds x1 x2 atv1 bad2 x26 H25 Q := step_of (vSeg Try.prog tephralaw01_PackAny.cf J0 tephralaw01_PackAny.fn [1, 1, 1, 1, 0, 1, 0, 0, 1, 1, 0, 0, 1, 1, 1, 1, 1, 1, 1, 1] [0, 0, 0, 0, 0, 0, 0, 0, 0, 0, 0, 0, 0, 0, 0, 0, 0, 0] Q) (tephralaw01_PackAny.k21.st b kinds x1 x2 atv1 bad2 x26 H25) (tephralaw01_PackAny.k21.eq J0 b kinds x1 x2 atv1 bad2 x26 H25 Q) (by kernel_rfl) h
def tephralaw01_PackAny.k22.body (J : Jn) (b : Sl) (kinds : Sl) (x1 : Option Addr) (x2 : Int) (x3 : Int) (bad1 : Bool) (atv1 : Int) (n1 : Int) (x28 : Bool) (H27 : Hp) (Q : Value → Hp → Prop) : Prop :=
 
 Br x28 (
 tephralaw01_PackAny.k23 J b kinds x1 x2 x3 bad1 atv1 H27 Q)
 ((3 : Int) ≠ 0 ∧ 
 Br ((Int.tmod x3 3) == 1) (
 SCalls Try.prog pack_Reader_Byte.id [.pointer x1] H27 (fun r11 H28 => ∃ x29 : Int, r11 = .int .u8 x29 ∧ 
 tephralaw01_PackAny.k24 J b kinds x1 x2 x3 bad1 atv1 ((w64 (x29)) != n1) H28 Q))
 (
 tephralaw01_PackAny.k24 J b kinds x1 x2 x3 bad1 atv1 false H27 Q))
theorem tephralaw01_PackAny.k22.eq (J : Jn) (b : Sl) (kinds : Sl) (x1 : Option Addr) (x2 : Int) (x3 : Int) (bad1 : Bool) (atv1 : Int) (n1 : Int) (x28 : Bool) (H27 : Hp) (Q : Value → Hp → Prop) : vMid Try.prog tephralaw01_PackAny.cf J tephralaw01_PackAny.fn [1, 1, 1, 1, 0, 1, 0, 0, 1, 1, 0, 0, 1, 1, 1, 1, 1, 1, 1, 0] [0, 0, 0, 0, 0, 0, 0, 0, 0, 0, 0, 0, 0, 0, 0, 0, 0, 0] 9 Q (tephralaw01_PackAny.k22.st b kinds x1 x2 x3 bad1 atv1 n1 x28 H27) = tephralaw01_PackAny.k22.body J b kinds x1 x2 x3 bad1 atv1 n1 x28 H27 Q := by kernel_rfl
theorem tephralaw01_PackAny.k22.step {b : Sl} {kinds : Sl} {x1 : Option Addr} {x2 : Int} {x3 : Int} {bad1 : Bool} {atv1 : Int} {n1 : Int} {x28 : Bool} {H27 : Hp} {Q : Value → Hp → Prop} (h : tephralaw01_PackAny.k22.body J0 b kinds x1 x2 x3 bad1 atv1 n1 x28 H27 Q) : tephralaw01_PackAny.k22 J0 b kinds x1 x2 x3 bad1 atv1 n1 x28 H27 Q := step_of (vMid Try.prog tephralaw01_PackAny.cf J0 tephralaw01_PackAny.fn [1, 1, 1, 1, 0, 1, 0, 0, 1, 1, 0, 0, 1, 1, 1, 1, 1, 1, 1, 0] [0, 0, 0, 0, 0, 0, 0, 0, 0, 0, 0, 0, 0, 0, 0, 0, 0, 0] 9 Q) (tephralaw01_PackAny.k22.st b kinds x1 x2 x3 bad1 atv1 n1 x28 H27) (tephralaw01_PackAny.k22.eq J0 b kinds x1 x2 x3 bad1 atv1 n1 x28 H27 Q) (by kernel_rfl) h
def tephralaw01_PackAny.k23.body (J : Jn) (b : Sl) (kinds : Sl) (x1 : Option Addr) (x2 : Int) (x3 : Int) (bad1 : Bool) (atv1 : Int) (H27 : Hp) (Q : Value → Hp → Prop) : Prop :=
 
 tephralaw01_PackAny.k25 J b kinds x1 x2 x3 bad1 atv1 true H27 Q
theorem tephralaw01_PackAny.k23.eq (J : Jn) (b : Sl) (kinds : Sl) (x1 : Option Addr) (x2 : Int) (x3 : Int) (bad1 : Bool) (atv1 : Int) (H27 : Hp) (Q : Value → Hp → Prop) : vMid Try.prog tephralaw01_PackAny.cf J tephralaw01_PackAny.fn [1, 1, 1, 1, 0, 1, 0, 0, 1, 1, 0, 0, 1, 1, 1, 1, 1, 1, 1, 0] [0, 0, 0, 0, 0, 0, 0, 0, 0, 0, 0, 0, 0, 0, 0, 0, 0, 0] 20 Q (tephralaw01_PackAny.k23.st b kinds x1 x2 x3 bad1 atv1 H27) = tephralaw01_PackAny.k23.body J b kinds x1 x2 x3 bad1 atv1 H27 Q := by kernel_rfl
theorem tephralaw01_PackAny.k23.step {b : Sl} {kinds : Sl} {x1 : Option Addr} {x2 : Int} {x3 : Int} {bad1 : Bool} {atv1 : Int} {H27 : Hp} {Q : Value → Hp → Prop} (h : tephralaw01_PackAny.k23.body J0 b kinds x1 x2 x3 bad1 atv1 H27 Q) : tephralaw01_PackAny.k23 J0 b kinds x1 x2 x3 bad1 atv1 H27 Q := step_of (vMid Try.prog tephralaw01_PackAny.cf J0 tephralaw01_PackAny.fn [1, 1, 1, 1, 0, 1, 0, 0, 1, 1, 0, 0, 1, 1, 1, 1, 1, 1, 1, 0] [0, 0, 0, 0, 0, 0, 0, 0, 0, 0, 0, 0, 0, 0, 0, 0, 0, 0] 20 Q) (tephralaw01_PackAny.k23.st b kinds x1 x2 x3 bad1 atv1 H27) (tephralaw01_PackAny.k23.eq J0 b kinds x1 x2 x3 bad1 atv1 H27 Q) (by kernel_rfl) h
def tephralaw01_PackAny.k24.body (J : Jn) (b : Sl) (kinds : Sl) (x1 : Option Addr) (x2 : Int) (x3 : Int) (bad1 : Bool) (atv1 : Int) (x30 : Bool) (H29 : Hp) (Q : Value → Hp → Prop) : Prop :=
 
 tephralaw01_PackAny.k25 J b kinds x1 x2 x3 bad1 atv1 x30 H29 Q
theorem tephralaw01_PackAny.k24.eq (J : Jn) (b : Sl) (kinds : Sl) (x1 : Option Addr) (x2 : Int) (x3 : Int) (bad1 : Bool) (atv1 : Int) (x30 : Bool) (H29 : Hp) (Q : Value → Hp → Prop) : vMid Try.prog tephralaw01_PackAny.cf J tephralaw01_PackAny.fn [1, 1, 1, 1, 0, 1, 0, 0, 1, 1, 0, 0, 1, 1, 1, 1, 1, 1, 1, 0] [0, 0, 0, 0, 0, 0, 0, 0, 0, 0, 0, 0, 0, 0, 0, 0, 0, 0] 20 Q (tephralaw01_PackAny.k24.st b kinds x1 x2 x3 bad1 atv1 x30 H29) = tephralaw01_PackAny.k24.body J b kinds x1 x2 x3 bad1 atv1 x30 H29 Q := by kernel_rfl
theorem tephralaw01_PackAny.k24.step {b : Sl} {kinds : Sl} {x1 : Option Addr} {x2 : Int} {x3 : Int} {bad1 : Bool} {atv1 : Int} {x30 : Bool} {H29 : Hp} {Q : Value → Hp → Prop} (h : tephralaw01_PackAny.k24.body J0 b kinds x1 x2 x3 bad1 atv1 x30 H29 Q) : tephralaw01_PackAny.k24 J0 b kinds x1 x2 x3 bad1 atv1 x30 H29 Q := step_of (vMid Try.prog tephralaw01_PackAny.cf J0 tephralaw01_PackAny.fn [1, 1, 1, 1, 0, 1, 0, 0, 1, 1, 0, 0, 1, 1, 1, 1, 1, 1, 1, 0] [0, 0, 0, 0, 0, 0, 0, 0, 0, 0, 0, 0, 0, 0, 0, 0, 0, 0] 20 Q) (tephralaw01_PackAny.k24.st b kinds x1 x2 x3 bad1 atv1 x30 H29) (tephralaw01_PackAny.k24.eq J0 b kinds x1 x2 x3 bad1 atv1 x30 H29 Q) (by kernel_rfl) h
def tephralaw01_PackAny.k25.body (J : Jn) (b : Sl) (kinds : Sl) (x1 : Option Addr) (x2 : Int) (x3 : Int) (bad1 : Bool) (atv1 : Int) (x31 : Bool) (H30 : Hp) (Q : Value → Hp → Prop) : Prop :=
 
 Br x31 (
 tephralaw01_PackAny.k26 J b kinds x1 x2 bad1 atv1 H30 Q)
 ((3 : Int) ≠ 0 ∧ 
 Br ((Int.tmod x3 3) == 2) (
 SCalls Try.prog pack_Reader_Text.id [.pointer x1] H30 (fun r12 H31 => ∃ x32 : ByteArray, r12 = .string x32 ∧ 
 tephralaw01_PackAny.k27 J b kinds x1 x2 bad1 atv1 (!(x32.toList == (ByteArray.mk #[]).toList)) H31 Q))
 (
 tephralaw01_PackAny.k27 J b kinds x1 x2 bad1 atv1 false H30 Q))
theorem tephralaw01_PackAny.k25.eq (J : Jn) (b : Sl) (kinds : Sl) (x1 : Option Addr) (x2 : Int) (x3 : Int) (bad1 : Bool) (atv1 : Int) (x31 : Bool) (H30 : Hp) (Q : Value → Hp → Prop) : vMid Try.prog tephralaw01_PackAny.cf J tephralaw01_PackAny.fn [1, 1, 1, 1, 0, 1, 0, 0, 1, 1, 0, 0, 1, 1, 1, 1, 1, 1, 1, 0] [0, 0, 0, 0, 0, 0, 0, 0, 0, 0, 0, 0, 0, 0, 0, 0, 0, 0] 21 Q (tephralaw01_PackAny.k25.st b kinds x1 x2 x3 bad1 atv1 x31 H30) = tephralaw01_PackAny.k25.body J b kinds x1 x2 x3 bad1 atv1 x31 H30 Q := by kernel_rfl
theorem tephralaw01_PackAny.k25.step {b : Sl} {kinds : Sl} {x1 : Option Addr} {x2 : Int} {x3 : Int} {bad1 : Bool} {atv1 : Int} {x31 : Bool} {H30 : Hp} {Q : Value → Hp → Prop} (h : tephralaw01_PackAny.k25.body J0 b kinds x1 x2 x3 bad1 atv1 x31 H30 Q) : tephralaw01_PackAny.k25 J0 b kinds x1 x2 x3 bad1 atv1 x31 H30 Q := step_of (vMid Try.prog tephralaw01_PackAny.cf J0 tephralaw01_PackAny.fn [1, 1, 1, 1, 0, 1, 0, 0, 1, 1, 0, 0, 1, 1, 1, 1, 1, 1, 1, 0] [0, 0, 0, 0, 0, 0, 0, 0, 0, 0, 0, 0, 0, 0, 0, 0, 0, 0] 21 Q) (tephralaw01_PackAny.k25.st b kinds x1 x2 x3 bad1 atv1 x31 H30) (tephralaw01_PackAny.k25.eq J0 b kinds x1 x2 x3 bad1 atv1 x31 H30 Q) (by kernel_rfl) h
def tephralaw01_PackAny.k26.body (J : Jn) (b : Sl) (kinds : Sl) (x1 : Option Addr) (x2 : Int) (bad1 : Bool) (atv1 : Int) (H30 : Hp) (Q : Value → Hp → Prop) : Prop :=
 
 tephralaw01_PackAny.k28 J b kinds x1 x2 bad1 atv1 true H30 Q
theorem tephralaw01_PackAny.k26.eq (J : Jn) (b : Sl) (kinds : Sl) (x1 : Option Addr) (x2 : Int) (bad1 : Bool) (atv1 : Int) (H30 : Hp) (Q : Value → Hp → Prop) : vMid Try.prog tephralaw01_PackAny.cf J tephralaw01_PackAny.fn [1, 1, 1, 1, 0, 1, 0, 0, 1, 1, 0, 0, 1, 1, 1, 1, 1, 1, 1, 0] [0, 0, 0, 0, 0, 0, 0, 0, 0, 0, 0, 0, 0, 0, 0, 0, 0, 0] 31 Q (tephralaw01_PackAny.k26.st b kinds x1 x2 bad1 atv1 H30) = tephralaw01_PackAny.k26.body J b kinds x1 x2 bad1 atv1 H30 Q := by kernel_rfl
theorem tephralaw01_PackAny.k26.step {b : Sl} {kinds : Sl} {x1 : Option Addr} {x2 : Int} {bad1 : Bool} {atv1 : Int} {H30 : Hp} {Q : Value → Hp → Prop} (h : tephralaw01_PackAny.k26.body J0 b kinds x1 x2 bad1 atv1 H30 Q) : tephralaw01_PackAny.k26 J0 b kinds x1 x2 bad1 atv1 H30 Q := step_of (vMid Try.prog tephralaw01_PackAny.cf J0 tephralaw01_PackAny.fn [1, 1, 1, 1, 0, 1, 0, 0, 1, 1, 0, 0, 1, 1, 1, 1, 1, 1, 1, 0] [0, 0, 0, 0, 0, 0, 0, 0, 0, 0, 0, 0, 0, 0, 0, 0, 0, 0] 31 Q) (tephralaw01_PackAny.k26.st b kinds x1 x2 bad1 atv1 H30) (tephralaw01_PackAny.k26.eq J0 b kinds x1 x2 bad1 atv1 H30 Q) (by kernel_rfl) h
def tephralaw01_PackAny.k27.body (J : Jn) (b : Sl) (kinds : Sl) (x1 : Option Addr) (x2 : Int) (bad1 : Bool) (atv1 : Int) (x33 : Bool) (H32 : Hp) (Q : Value → Hp → Prop) : Prop :=
 
 tephralaw01_PackAny.k28 J b kinds x1 x2 bad1 atv1 x33 H32 Q
theorem tephralaw01_PackAny.k27.eq (J : Jn) (b : Sl) (kinds : Sl) (x1 : Option Addr) (x2 : Int) (bad1 : Bool) (atv1 : Int) (x33 : Bool) (H32 : Hp) (Q : Value → Hp → Prop) : vMid Try.prog tephralaw01_PackAny.cf J tephralaw01_PackAny.fn [1, 1, 1, 1, 0, 1, 0, 0, 1, 1, 0, 0, 1, 1, 1, 1, 1, 1, 1, 0] [0, 0, 0, 0, 0, 0, 0, 0, 0, 0, 0, 0, 0, 0, 0, 0, 0, 0] 31 Q (tephralaw01_PackAny.k27.st b kinds x1 x2 bad1 atv1 x33 H32) = tephralaw01_PackAny.k27.body J b kinds x1 x2 bad1 atv1 x33 H32 Q := by kernel_rfl
theorem tephralaw01_PackAny.k27.step {b : Sl} {kinds : Sl} {x1 : Option Addr} {x2 : Int} {bad1 : Bool} {atv1 : Int} {x33 : Bool} {H32 : Hp} {Q : Value → Hp → Prop} (h : tephralaw01_PackAny.k27.body J0 b kinds x1 x2 bad1 atv1 x33 H32 Q) : tephralaw01_PackAny.k27 J0 b kinds x1 x2 bad1 atv1 x33 H32 Q := step_of (vMid Try.prog tephralaw01_PackAny.cf J0 tephralaw01_PackAny.fn [1, 1, 1, 1, 0, 1, 0, 0, 1, 1, 0, 0, 1, 1, 1, 1, 1, 1, 1, 0] [0, 0, 0, 0, 0, 0, 0, 0, 0, 0, 0, 0, 0, 0, 0, 0, 0, 0] 31 Q) (tephralaw01_PackAny.k27.st b kinds x1 x2 bad1 atv1 x33 H32) (tephralaw01_PackAny.k27.eq J0 b kinds x1 x2 bad1 atv1 x33 H32 Q) (by kernel_rfl) h
def tephralaw01_PackAny.k28.body (J : Jn) (b : Sl) (kinds : Sl) (x1 : Option Addr) (x2 : Int) (bad1 : Bool) (atv1 : Int) (x34 : Bool) (H33 : Hp) (Q : Value → Hp → Prop) : Prop :=
 
 Br x34 (
 tephralaw01_PackAny.k29 J b kinds x1 x2 bad1 atv1 true H33 Q)
 (
 SCalls Try.prog pack_Reader_Bad.id [.pointer x1] H33 (fun r13 H34 => ∃ x35 : Bool, r13 = .bool x35 ∧ 
 tephralaw01_PackAny.k29 J b kinds x1 x2 bad1 atv1 (!(x35 == bad1)) H34 Q))
theorem tephralaw01_PackAny.k28.eq (J : Jn) (b : Sl) (kinds : Sl) (x1 : Option Addr) (x2 : Int) (bad1 : Bool) (atv1 : Int) (x34 : Bool) (H33 : Hp) (Q : Value → Hp → Prop) : vMid Try.prog tephralaw01_PackAny.cf J tephralaw01_PackAny.fn [1, 1, 1, 1, 0, 1, 0, 0, 1, 1, 0, 0, 1, 1, 1, 1, 1, 1, 1, 0] [0, 0, 0, 0, 0, 0, 0, 0, 0, 0, 0, 0, 0, 0, 0, 0, 0, 0] 32 Q (tephralaw01_PackAny.k28.st b kinds x1 x2 bad1 atv1 x34 H33) = tephralaw01_PackAny.k28.body J b kinds x1 x2 bad1 atv1 x34 H33 Q := by kernel_rfl
theorem tephralaw01_PackAny.k28.step {b : Sl} {kinds : Sl} {x1 : Option Addr} {x2 : Int} {bad1 : Bool} {atv1 : Int} {x34 : Bool} {H33 : Hp} {Q : Value → Hp → Prop} (h : tephralaw01_PackAny.k28.body J0 b kinds x1 x2 bad1 atv1 x34 H33 Q) : tephralaw01_PackAny.k28 J0 b kinds x1 x2 bad1 atv1 x34 H33 Q := step_of (vMid Try.prog tephralaw01_PackAny.cf J0 tephralaw01_PackAny.fn [1, 1, 1, 1, 0, 1, 0, 0, 1, 1, 0, 0, 1, 1, 1, 1, 1, 1, 1, 0] [0, 0, 0, 0, 0, 0, 0, 0, 0, 0, 0, 0, 0, 0, 0, 0, 0, 0] 32 Q) (tephralaw01_PackAny.k28.st b kinds x1 x2 bad1 atv1 x34 H33) (tephralaw01_PackAny.k28.eq J0 b kinds x1 x2 bad1 atv1 x34 H33 Q) (by kernel_rfl) h
def tephralaw01_PackAny.k29.body (J : Jn) (b : Sl) (kinds : Sl) (x1 : Option Addr) (x2 : Int) (bad1 : Bool) (atv1 : Int) (x36 : Bool) (H35 : Hp) (Q : Value → Hp → Prop) : Prop :=
 
 Br x36 (Q (.bool false) H35)
 (
 tephralaw01_PackAny.l1 J b kinds x1 H35 atv1 bad1 (w64 (x2 + 1)) Q)
theorem tephralaw01_PackAny.k29.eq (J : Jn) (b : Sl) (kinds : Sl) (x1 : Option Addr) (x2 : Int) (bad1 : Bool) (atv1 : Int) (x36 : Bool) (H35 : Hp) (Q : Value → Hp → Prop) : vSeg Try.prog tephralaw01_PackAny.cf J tephralaw01_PackAny.fn [1, 1, 1, 1, 0, 1, 0, 0, 1, 1, 0, 0, 1, 1, 1, 1, 1, 1, 1, 1] [0, 0, 0, 0, 0, 0, 0, 0, 0, 0, 0, 0, 0, 0, 0, 0, 0, 0] Q (tephralaw01_PackAny.k29.st b kinds x1 x2 bad1 atv1 x36 H35) = tephralaw01_PackAny.k29.body J b kinds x1 x2 bad1 atv1 x36 H35 Q := by kernel_rfl
theorem tephralaw01_PackAny.k29.step {b : Sl} {kinds : Sl} {x1 : Option Addr} {x2 : Int} {bad1 : Bool} {atv1 : Int} {x36 : Bool} {H35 : Hp} {Q : Value → Hp → Prop} (h : tephralaw01_PackAny.k29.body J0 b kinds x1 x2 bad1 atv1 x36 H35 Q) : tephralaw01_PackAny.k29 J0 b kinds x1 x2 bad1 atv1 x36 H35 Q := step_of (vSeg Try.prog tephralaw01_PackAny.cf J0 tephralaw01_PackAny.fn [1, 1, 1, 1, 0, 1, 0, 0, 1, 1, 0, 0, 1, 1, 1, 1, 1, 1, 1, 1] [0, 0, 0, 0, 0, 0, 0, 0, 0, 0, 0, 0, 0, 0, 0, 0, 0, 0] Q) (tephralaw01_PackAny.k29.st b kinds x1 x2 bad1 atv1 x36 H35) (tephralaw01_PackAny.k29.eq J0 b kinds x1 x2 bad1 atv1 x36 H35 Q) (by kernel_rfl) h
def tephralaw01_PackAny.vc (J : Jn) (b : Sl) (kinds : Sl) (H : Hp) (Q : Value → Hp → Prop) : Prop :=
 
 SCalls Try.prog tephralaw01_awake.id [] H (fun r H1 => ∃ x : Bool, r = .bool x ∧ 
 Br (!x) (Q (.bool false) H1)
 (
 SCalls Try.prog pack_Of.id [.slice b.a b.len b.cap] H1 (fun r1 H2 => ∃ x1 : Option Addr, r1 = .pointer x1 ∧ ((0 : Int) ≤ (if (100 : Int) < ((kinds.len : Nat) : Int) then 100 else ((kinds.len : Nat) : Int)) ∧ (if (100 : Int) < ((kinds.len : Nat) : Int) then 100 else ((kinds.len : Nat) : Int)) ≤ ((kinds.cap : Nat) : Int)) ∧ 
 tephralaw01_PackAny.l1 J b kinds x1 H2 0 false 0 Q)))
theorem tephralaw01_PackAny.eq (J : Jn) (b : Sl) (kinds : Sl) (H : Hp) (Q : Value → Hp → Prop) : vFn Try.prog tephralaw01_PackAny.cf J tephralaw01_PackAny.fn [.slice b.a b.len b.cap, .slice kinds.a kinds.len kinds.cap] H Q = tephralaw01_PackAny.vc J b kinds H Q := by kernel_rfl
theorem tephralaw01_PackAny.calls {b : Sl} {kinds : Sl} {H : Hp} {Q : Value → Hp → Prop} (h : tephralaw01_PackAny.vc J0 b kinds H Q) : SCalls Try.prog tephralaw01_PackAny.id [.slice b.a b.len b.cap, .slice kinds.a kinds.len kinds.cap] H Q := vFn_of Try.mixed Try.func3 (tephralaw01_PackAny.eq J0 b kinds H Q) h

/-! 10: tephra/tephralaw01.awake -/
def tephralaw01_awake.cf : Cfg := ⟨[], [], [], [(20, [3, 20]), (25, [3, 25]), (30, [3, 30]), (34, [3, 34]), (39, [3, 39])]⟩
def tephralaw01_awake.k1.st (H4 : Hp) (x3 : Option Addr) (x5 : Bool) : VS := ⟨mkFr 44 [(3, .v (.pointer x3)), (20, .v (.bool x5))], [], H4⟩
def tephralaw01_awake.k1 (J : Jn) (H4 : Hp) (x3 : Option Addr) (x5 : Bool) (Q : Value → Hp → Prop) : Prop := J (vMid Try.prog tephralaw01_awake.cf J tephralaw01_awake.fn [1, 1, 1, 1, 0] [0, 0, 0, 0, 0] 9 Q) (tephralaw01_awake.k1.st H4 x3 x5)
def tephralaw01_awake.k2.st (x3 : Option Addr) (x7 : Bool) (H6 : Hp) : VS := ⟨mkFr 44 [(3, .v (.pointer x3)), (25, .v (.bool x7))], [], H6⟩
def tephralaw01_awake.k2 (J : Jn) (x3 : Option Addr) (x7 : Bool) (H6 : Hp) (Q : Value → Hp → Prop) : Prop := J (vMid Try.prog tephralaw01_awake.cf J tephralaw01_awake.fn [1, 1, 1, 1, 0] [0, 0, 0, 0, 0] 14 Q) (tephralaw01_awake.k2.st x3 x7 H6)
def tephralaw01_awake.k3.st (x3 : Option Addr) (x9 : Bool) (H8 : Hp) : VS := ⟨mkFr 44 [(3, .v (.pointer x3)), (30, .v (.bool x9))], [], H8⟩
def tephralaw01_awake.k3 (J : Jn) (x3 : Option Addr) (x9 : Bool) (H8 : Hp) (Q : Value → Hp → Prop) : Prop := J (vMid Try.prog tephralaw01_awake.cf J tephralaw01_awake.fn [1, 1, 1, 1, 0] [0, 0, 0, 0, 0] 19 Q) (tephralaw01_awake.k3.st x3 x9 H8)
def tephralaw01_awake.k4.st (x3 : Option Addr) (x11 : Bool) (H10 : Hp) : VS := ⟨mkFr 44 [(3, .v (.pointer x3)), (34, .v (.bool x11))], [], H10⟩
def tephralaw01_awake.k4 (J : Jn) (x3 : Option Addr) (x11 : Bool) (H10 : Hp) (Q : Value → Hp → Prop) : Prop := J (vMid Try.prog tephralaw01_awake.cf J tephralaw01_awake.fn [1, 1, 1, 1, 0] [0, 0, 0, 0, 0] 23 Q) (tephralaw01_awake.k4.st x3 x11 H10)
def tephralaw01_awake.k5.st (x3 : Option Addr) (x13 : Bool) (H12 : Hp) : VS := ⟨mkFr 44 [(3, .v (.pointer x3)), (39, .v (.bool x13))], [], H12⟩
def tephralaw01_awake.k5 (J : Jn) (x3 : Option Addr) (x13 : Bool) (H12 : Hp) (Q : Value → Hp → Prop) : Prop := J (vMid Try.prog tephralaw01_awake.cf J tephralaw01_awake.fn [1, 1, 1, 1, 0] [0, 0, 0, 0, 0] 28 Q) (tephralaw01_awake.k5.st x3 x13 H12)
attribute [irreducible] tephralaw01_awake.k1 tephralaw01_awake.k2 tephralaw01_awake.k3 tephralaw01_awake.k4 tephralaw01_awake.k5
def tephralaw01_awake.k1.body (J : Jn) (H4 : Hp) (x3 : Option Addr) (x5 : Bool) (Q : Value → Hp → Prop) : Prop :=
 
 Br x5 (
 SCalls Try.prog pack_Reader_Num.id [.pointer x3] H4 (fun r4 H5 => ∃ x6 : Int, r4 = .int .i64 x6 ∧ 
 tephralaw01_awake.k2 J x3 (x6 == (-2)) H5 Q))
 (
 tephralaw01_awake.k2 J x3 false H4 Q)
theorem tephralaw01_awake.k1.eq (J : Jn) (H4 : Hp) (x3 : Option Addr) (x5 : Bool) (Q : Value → Hp → Prop) : vMid Try.prog tephralaw01_awake.cf J tephralaw01_awake.fn [1, 1, 1, 1, 0] [0, 0, 0, 0, 0] 9 Q (tephralaw01_awake.k1.st H4 x3 x5) = tephralaw01_awake.k1.body J H4 x3 x5 Q := by kernel_rfl
theorem tephralaw01_awake.k1.step {H4 : Hp} {x3 : Option Addr} {x5 : Bool} {Q : Value → Hp → Prop} (h : tephralaw01_awake.k1.body J0 H4 x3 x5 Q) : tephralaw01_awake.k1 J0 H4 x3 x5 Q := step_of (vMid Try.prog tephralaw01_awake.cf J0 tephralaw01_awake.fn [1, 1, 1, 1, 0] [0, 0, 0, 0, 0] 9 Q) (tephralaw01_awake.k1.st H4 x3 x5) (tephralaw01_awake.k1.eq J0 H4 x3 x5 Q) (by kernel_rfl) h
def tephralaw01_awake.k2.body (J : Jn) (x3 : Option Addr) (x7 : Bool) (H6 : Hp) (Q : Value → Hp → Prop) : Prop :=
 
 Br x7 (
 SCalls Try.prog pack_Reader_Text.id [.pointer x3] H6 (fun r5 H7 => ∃ x8 : ByteArray, r5 = .string x8 ∧ 
 tephralaw01_awake.k3 J x3 (x8.toList == (ByteArray.mk #[97, 98]).toList) H7 Q))
 (
 tephralaw01_awake.k3 J x3 false H6 Q)
theorem tephralaw01_awake.k2.eq (J : Jn) (x3 : Option Addr) (x7 : Bool) (H6 : Hp) (Q : Value → Hp → Prop) : vMid Try.prog tephralaw01_awake.cf J tephralaw01_awake.fn [1, 1, 1, 1, 0] [0, 0, 0, 0, 0] 14 Q (tephralaw01_awake.k2.st x3 x7 H6) = tephralaw01_awake.k2.body J x3 x7 H6 Q := by kernel_rfl
theorem tephralaw01_awake.k2.step {x3 : Option Addr} {x7 : Bool} {H6 : Hp} {Q : Value → Hp → Prop} (h : tephralaw01_awake.k2.body J0 x3 x7 H6 Q) : tephralaw01_awake.k2 J0 x3 x7 H6 Q := step_of (vMid Try.prog tephralaw01_awake.cf J0 tephralaw01_awake.fn [1, 1, 1, 1, 0] [0, 0, 0, 0, 0] 14 Q) (tephralaw01_awake.k2.st x3 x7 H6) (tephralaw01_awake.k2.eq J0 x3 x7 H6 Q) (by kernel_rfl) h
def tephralaw01_awake.k3.body (J : Jn) (x3 : Option Addr) (x9 : Bool) (H8 : Hp) (Q : Value → Hp → Prop) : Prop :=
 
 Br x9 (
 SCalls Try.prog pack_Reader_Done.id [.pointer x3] H8 (fun r6 H9 => ∃ x10 : Bool, r6 = .bool x10 ∧ 
 tephralaw01_awake.k4 J x3 x10 H9 Q))
 (
 tephralaw01_awake.k4 J x3 false H8 Q)
theorem tephralaw01_awake.k3.eq (J : Jn) (x3 : Option Addr) (x9 : Bool) (H8 : Hp) (Q : Value → Hp → Prop) : vMid Try.prog tephralaw01_awake.cf J tephralaw01_awake.fn [1, 1, 1, 1, 0] [0, 0, 0, 0, 0] 19 Q (tephralaw01_awake.k3.st x3 x9 H8) = tephralaw01_awake.k3.body J x3 x9 H8 Q := by kernel_rfl
theorem tephralaw01_awake.k3.step {x3 : Option Addr} {x9 : Bool} {H8 : Hp} {Q : Value → Hp → Prop} (h : tephralaw01_awake.k3.body J0 x3 x9 H8 Q) : tephralaw01_awake.k3 J0 x3 x9 H8 Q := step_of (vMid Try.prog tephralaw01_awake.cf J0 tephralaw01_awake.fn [1, 1, 1, 1, 0] [0, 0, 0, 0, 0] 19 Q) (tephralaw01_awake.k3.st x3 x9 H8) (tephralaw01_awake.k3.eq J0 x3 x9 H8 Q) (by kernel_rfl) h
def tephralaw01_awake.k4.body (J : Jn) (x3 : Option Addr) (x11 : Bool) (H10 : Hp) (Q : Value → Hp → Prop) : Prop :=
 
 Br x11 (
 SCalls Try.prog pack_Reader_Byte.id [.pointer x3] H10 (fun r7 H11 => ∃ x12 : Int, r7 = .int .u8 x12 ∧ 
 tephralaw01_awake.k5 J x3 (x12 == 0) H11 Q))
 (
 tephralaw01_awake.k5 J x3 false H10 Q)
theorem tephralaw01_awake.k4.eq (J : Jn) (x3 : Option Addr) (x11 : Bool) (H10 : Hp) (Q : Value → Hp → Prop) : vMid Try.prog tephralaw01_awake.cf J tephralaw01_awake.fn [1, 1, 1, 1, 0] [0, 0, 0, 0, 0] 23 Q (tephralaw01_awake.k4.st x3 x11 H10) = tephralaw01_awake.k4.body J x3 x11 H10 Q := by kernel_rfl
theorem tephralaw01_awake.k4.step {x3 : Option Addr} {x11 : Bool} {H10 : Hp} {Q : Value → Hp → Prop} (h : tephralaw01_awake.k4.body J0 x3 x11 H10 Q) : tephralaw01_awake.k4 J0 x3 x11 H10 Q := step_of (vMid Try.prog tephralaw01_awake.cf J0 tephralaw01_awake.fn [1, 1, 1, 1, 0] [0, 0, 0, 0, 0] 23 Q) (tephralaw01_awake.k4.st x3 x11 H10) (tephralaw01_awake.k4.eq J0 x3 x11 H10 Q) (by kernel_rfl) h
def tephralaw01_awake.k5.body (J : Jn) (x3 : Option Addr) (x13 : Bool) (H12 : Hp) (Q : Value → Hp → Prop) : Prop :=
 
 Br x13 (
 SCalls Try.prog pack_Reader_Bad.id [.pointer x3] H12 (fun r8 H13 => ∃ x14 : Bool, r8 = .bool x14 ∧ Q (.bool x14) H13))
 (Q (.bool false) H12)
theorem tephralaw01_awake.k5.eq (J : Jn) (x3 : Option Addr) (x13 : Bool) (H12 : Hp) (Q : Value → Hp → Prop) : vMid Try.prog tephralaw01_awake.cf J tephralaw01_awake.fn [1, 1, 1, 1, 0] [0, 0, 0, 0, 0] 28 Q (tephralaw01_awake.k5.st x3 x13 H12) = tephralaw01_awake.k5.body J x3 x13 H12 Q := by kernel_rfl
theorem tephralaw01_awake.k5.step {x3 : Option Addr} {x13 : Bool} {H12 : Hp} {Q : Value → Hp → Prop} (h : tephralaw01_awake.k5.body J0 x3 x13 H12 Q) : tephralaw01_awake.k5 J0 x3 x13 H12 Q := step_of (vMid Try.prog tephralaw01_awake.cf J0 tephralaw01_awake.fn [1, 1, 1, 1, 0] [0, 0, 0, 0, 0] 28 Q) (tephralaw01_awake.k5.st x3 x13 H12) (tephralaw01_awake.k5.eq J0 x3 x13 H12 Q) (by kernel_rfl) h
def tephralaw01_awake.vc (J : Jn) (H : Hp) (Q : Value → Hp → Prop) : Prop :=
 
 SCalls Try.prog pack_Writer_Num.id [.pointer (some (Addr.mk (Array.size H) 0 none)), .int .i64 (-2)] (Array.push H (.cells #[.slice none 0 0] T_pack_Writer)) (fun r H1 => ∃ x : Option Addr, r = .pointer x ∧ 
 SCalls Try.prog pack_Writer_Text.id [.pointer x, .string (ByteArray.mk #[97, 98])] H1 (fun r1 H2 => ∃ x1 : Option Addr, r1 = .pointer x1 ∧ 
 SCalls Try.prog pack_Writer_Bytes.id [.pointer x1] H2 (fun r2 H3 => ∃ x2 : Sl, r2 = .slice x2.a x2.len x2.cap ∧ 
 SCalls Try.prog pack_Of.id [.slice x2.a x2.len x2.cap] H3 (fun r3 H4 => ∃ x3 : Option Addr, r3 = .pointer x3 ∧ 
 Br (((x2.len : Nat) : Int) == 18) (((0 : Int) ≤ 0 ∧ (0 : Int) < ((x2.len : Nat) : Int)) ∧ vPtr x2.a (fun a => ∃ x4 : Int, Hp.cell? H4 a = some (.int .u8 x4) ∧ 
 tephralaw01_awake.k1 J H4 x3 (x4 == 255) Q))
 (
 tephralaw01_awake.k1 J H4 x3 false Q)))))
theorem tephralaw01_awake.eq (J : Jn) (H : Hp) (Q : Value → Hp → Prop) : vFn Try.prog tephralaw01_awake.cf J tephralaw01_awake.fn [] H Q = tephralaw01_awake.vc J H Q := by kernel_rfl
theorem tephralaw01_awake.calls {H : Hp} {Q : Value → Hp → Prop} (h : tephralaw01_awake.vc J0 H Q) : SCalls Try.prog tephralaw01_awake.id [] H Q := vFn_of Try.mixed Try.func10 (tephralaw01_awake.eq J0 H Q) h

/-! 11: tephra/pack.Of -/
def pack_Of.cf : Cfg := ⟨[], [], [], []⟩
def pack_Of.vc (J : Jn) (b : Sl) (H : Hp) (Q : Value → Hp → Prop) : Prop :=
 Q (.pointer (some (Addr.mk (Array.size H) 0 none))) (Array.push H (.cells #[.slice b.a b.len b.cap, .bool false] T_pack_Reader))
theorem pack_Of.eq (J : Jn) (b : Sl) (H : Hp) (Q : Value → Hp → Prop) : vFn Try.prog pack_Of.cf J pack_Of.fn [.slice b.a b.len b.cap] H Q = pack_Of.vc J b H Q := by kernel_rfl
theorem pack_Of.calls {b : Sl} {H : Hp} {Q : Value → Hp → Prop} (h : pack_Of.vc J0 b H Q) : SCalls Try.prog pack_Of.id [.slice b.a b.len b.cap] H Q := vFn_of Try.mixed Try.func11 (pack_Of.eq J0 b H Q) h

/-! 12: (*tephra/pack.Reader).Num -/
def pack_Reader_Num.cf : Cfg := ⟨[], [(3, [3, 7, 8, 9])], [], []⟩
def pack_Reader_Num.l1.st (x : Sl) (H2 : Hp) (n : Int) (x1 : Int) : VS := ⟨mkFr 20 [(3, .v (.int .i64 n)), (7, .v (.slice x.a x.len x.cap)), (8, .v (.int .i64 ((x.len : Nat) : Int))), (9, .v (.int .i64 x1))], [], H2⟩
def pack_Reader_Num.l1 (J : Jn) (x : Sl) (H2 : Hp) (n : Int) (x1 : Int) (Q : Value → Hp → Prop) : Prop := vAt Try.prog pack_Reader_Num.cf J pack_Reader_Num.fn [1, 1, 0, 1, 0] [0, 0, 0, 0] Q (pack_Reader_Num.l1.st x H2 n x1)
attribute [irreducible] pack_Reader_Num.l1
def pack_Reader_Num.l1.body (J : Jn) (x : Sl) (H2 : Hp) (n : Int) (x1 : Int) (Q : Value → Hp → Prop) : Prop :=
 
 Br (decide (x1 < ((x.len : Nat) : Int))) (((0 : Int) ≤ x1 ∧ x1 < ((x.len : Nat) : Int)) ∧ vPtr x.a (fun a => ∃ x2 : Int, Hp.cell? H2 (a.add ((x1 : Int).toNat * 1)) = some (.int .u8 x2) ∧ (0 : Int) ≤ 8 ∧ 
 pack_Reader_Num.l1 J x H2 (bor .i64 (w64 (n * 2 ^ 8)) (w64 (x2))) (w64 (x1 + 1)) Q))
 (Q (.int .i64 n) H2)
theorem pack_Reader_Num.l1.eq (J : Jn) (x : Sl) (H2 : Hp) (n : Int) (x1 : Int) (Q : Value → Hp → Prop) : vAtBody Try.prog pack_Reader_Num.cf J pack_Reader_Num.fn [1, 1, 0, 1, 0] [0, 0, 0, 0] Q (pack_Reader_Num.l1.st x H2 n x1) = pack_Reader_Num.l1.body J x H2 n x1 Q := by kernel_rfl
theorem pack_Reader_Num.l1.step {x : Sl} {H2 : Hp} {n : Int} {x1 : Int} {Q : Value → Hp → Prop} (h : pack_Reader_Num.l1.body J0 x H2 n x1 Q) : pack_Reader_Num.l1 J0 x H2 n x1 Q := vAt_stepC (pack_Reader_Num.l1.st x H2 n x1) (pack_Reader_Num.l1.eq J0 x H2 n x1 Q) (by kernel_rfl) h
def pack_Reader_Num.vc (J : Jn) (r : Addr) (H : Hp) (Q : Value → Hp → Prop) : Prop :=
 
 SCalls Try.prog pack_Reader_take.id [.pointer (some r), .int .i64 8] H (fun r1 H1 => ∃ x : Sl, r1 = .slice x.a x.len x.cap ∧ 
 pack_Reader_Num.l1 J x H1 0 0 Q)
theorem pack_Reader_Num.eq (J : Jn) (r : Addr) (H : Hp) (Q : Value → Hp → Prop) : vFn Try.prog pack_Reader_Num.cf J pack_Reader_Num.fn [.pointer (some r)] H Q = pack_Reader_Num.vc J r H Q := by kernel_rfl
theorem pack_Reader_Num.calls {r : Addr} {H : Hp} {Q : Value → Hp → Prop} (h : pack_Reader_Num.vc J0 r H Q) : SCalls Try.prog pack_Reader_Num.id [.pointer (some r)] H Q := vFn_of Try.mixed Try.func12 (pack_Reader_Num.eq J0 r H Q) h

/-! 13: (*tephra/pack.Reader).Byte -/
def pack_Reader_Byte.cf : Cfg := ⟨[], [(2, [6, 7, 8])], [], []⟩
def pack_Reader_Byte.l1.st (x : Sl) (H2 : Hp) : VS := ⟨mkFr 14 [(6, .v (.slice x.a x.len x.cap)), (7, .v (.int .i64 ((x.len : Nat) : Int))), (8, .v (.int .i64 0))], [], H2⟩
def pack_Reader_Byte.l1 (J : Jn) (x : Sl) (H2 : Hp) (Q : Value → Hp → Prop) : Prop := vAt Try.prog pack_Reader_Byte.cf J pack_Reader_Byte.fn [1, 0, 1, 0] [0, 0, 0] Q (pack_Reader_Byte.l1.st x H2)
attribute [irreducible] pack_Reader_Byte.l1
def pack_Reader_Byte.l1.body (J : Jn) (x : Sl) (H2 : Hp) (Q : Value → Hp → Prop) : Prop :=
 
 Br (decide ((0 : Int) < ((x.len : Nat) : Int))) (((0 : Int) ≤ 0 ∧ (0 : Int) < ((x.len : Nat) : Int)) ∧ vPtr x.a (fun a => ∃ x1 : Int, Hp.cell? H2 a = some (.int .u8 x1) ∧ Q (.int .u8 x1) H2))
 (Q (.int .u8 0) H2)
theorem pack_Reader_Byte.l1.eq (J : Jn) (x : Sl) (H2 : Hp) (Q : Value → Hp → Prop) : vAtBody Try.prog pack_Reader_Byte.cf J pack_Reader_Byte.fn [1, 0, 1, 0] [0, 0, 0] Q (pack_Reader_Byte.l1.st x H2) = pack_Reader_Byte.l1.body J x H2 Q := by kernel_rfl
theorem pack_Reader_Byte.l1.step {x : Sl} {H2 : Hp} {Q : Value → Hp → Prop} (h : pack_Reader_Byte.l1.body J0 x H2 Q) : pack_Reader_Byte.l1 J0 x H2 Q := vAt_stepC (pack_Reader_Byte.l1.st x H2) (pack_Reader_Byte.l1.eq J0 x H2 Q) (by kernel_rfl) h
def pack_Reader_Byte.vc (J : Jn) (r : Addr) (H : Hp) (Q : Value → Hp → Prop) : Prop :=
 
 SCalls Try.prog pack_Reader_take.id [.pointer (some r), .int .i64 1] H (fun r1 H1 => ∃ x : Sl, r1 = .slice x.a x.len x.cap ∧ 
 pack_Reader_Byte.l1 J x H1 Q)
theorem pack_Reader_Byte.eq (J : Jn) (r : Addr) (H : Hp) (Q : Value → Hp → Prop) : vFn Try.prog pack_Reader_Byte.cf J pack_Reader_Byte.fn [.pointer (some r)] H Q = pack_Reader_Byte.vc J r H Q := by kernel_rfl
theorem pack_Reader_Byte.calls {r : Addr} {H : Hp} {Q : Value → Hp → Prop} (h : pack_Reader_Byte.vc J0 r H Q) : SCalls Try.prog pack_Reader_Byte.id [.pointer (some r)] H Q := vFn_of Try.mixed Try.func13 (pack_Reader_Byte.eq J0 r H Q) h

/-! 14: (*tephra/pack.Reader).Text -/
def pack_Reader_Text.cf : Cfg := ⟨[], [], [], []⟩
def pack_Reader_Text.vc (J : Jn) (r : Addr) (H : Hp) (Q : Value → Hp → Prop) : Prop :=
 
 SCalls Try.prog pack_Reader_Num.id [.pointer (some r)] H (fun r1 H1 => ∃ x : Int, r1 = .int .i64 x ∧ 
 SCalls Try.prog pack_Reader_take.id [.pointer (some r), .int .i64 x] H1 (fun r2 H2 => ∃ x1 : Sl, r2 = .slice x1.a x1.len x1.cap ∧ vB2S H2 x1.a x1.len (fun s => Q (.string s) H2)))
theorem pack_Reader_Text.eq (J : Jn) (r : Addr) (H : Hp) (Q : Value → Hp → Prop) : vFn Try.prog pack_Reader_Text.cf J pack_Reader_Text.fn [.pointer (some r)] H Q = pack_Reader_Text.vc J r H Q := by kernel_rfl
theorem pack_Reader_Text.calls {r : Addr} {H : Hp} {Q : Value → Hp → Prop} (h : pack_Reader_Text.vc J0 r H Q) : SCalls Try.prog pack_Reader_Text.id [.pointer (some r)] H Q := vFn_of Try.mixed Try.func14 (pack_Reader_Text.eq J0 r H Q) h

/-! 15: (*tephra/pack.Reader).Bad -/
def pack_Reader_Bad.cf : Cfg := ⟨[], [], [], []⟩
def pack_Reader_Bad.vc (J : Jn) (r : Addr) (H : Hp) (Q : Value → Hp → Prop) : Prop :=
 ∃ bad : Bool, Hp.cell? H (r.add 1) = some (.bool bad) ∧ Q (.bool bad) H
theorem pack_Reader_Bad.eq (J : Jn) (r : Addr) (H : Hp) (Q : Value → Hp → Prop) : vFn Try.prog pack_Reader_Bad.cf J pack_Reader_Bad.fn [.pointer (some r)] H Q = pack_Reader_Bad.vc J r H Q := by kernel_rfl
theorem pack_Reader_Bad.calls {r : Addr} {H : Hp} {Q : Value → Hp → Prop} (h : pack_Reader_Bad.vc J0 r H Q) : SCalls Try.prog pack_Reader_Bad.id [.pointer (some r)] H Q := vFn_of Try.mixed Try.func15 (pack_Reader_Bad.eq J0 r H Q) h

/-! 16: (*tephra/pack.Reader).Done -/
def pack_Reader_Done.cf : Cfg := ⟨[], [], [], []⟩
def pack_Reader_Done.vc (J : Jn) (r : Addr) (H : Hp) (Q : Value → Hp → Prop) : Prop :=
 ∃ bad : Bool, Hp.cell? H (r.add 1) = some (.bool bad) ∧ 
 Br (!bad) (∃ b : Sl, Hp.cell? H r = some (.slice b.a b.len b.cap) ∧ Q (.bool (((b.len : Nat) : Int) == 0)) H)
 (Q (.bool false) H)
theorem pack_Reader_Done.eq (J : Jn) (r : Addr) (H : Hp) (Q : Value → Hp → Prop) : vFn Try.prog pack_Reader_Done.cf J pack_Reader_Done.fn [.pointer (some r)] H Q = pack_Reader_Done.vc J r H Q := by kernel_rfl
theorem pack_Reader_Done.calls {r : Addr} {H : Hp} {Q : Value → Hp → Prop} (h : pack_Reader_Done.vc J0 r H Q) : SCalls Try.prog pack_Reader_Done.id [.pointer (some r)] H Q := vFn_of Try.mixed Try.func16 (pack_Reader_Done.eq J0 r H Q) h

/-! 17: (*tephra/pack.Writer).Text -/
def pack_Writer_Text.cf : Cfg := ⟨[], [], [], []⟩
def pack_Writer_Text.vc (J : Jn) (w : Addr) (s : ByteArray) (H : Hp) (Q : Value → Hp → Prop) : Prop :=
 
 SCalls Try.prog pack_Writer_Num.id [.pointer (some w), .int .i64 ((s.size : Nat) : Int)] H (fun r H1 => ∃ x : Option Addr, r = .pointer x ∧ ∃ b : Sl, Hp.cell? H1 w = some (.slice b.a b.len b.cap) ∧ 
 vApp Try.prog T_sl_uint8 b.a b.len b.cap (.string s) H1 (fun ap H2 => WrAt H2 w 1 ∧ Q (.pointer (some w)) (Hp.setCell H2 w (.slice ap.a ap.len ap.cap))))
theorem pack_Writer_Text.eq (J : Jn) (w : Addr) (s : ByteArray) (H : Hp) (Q : Value → Hp → Prop) : vFn Try.prog pack_Writer_Text.cf J pack_Writer_Text.fn [.pointer (some w), .string s] H Q = pack_Writer_Text.vc J w s H Q := by kernel_rfl
theorem pack_Writer_Text.calls {w : Addr} {s : ByteArray} {H : Hp} {Q : Value → Hp → Prop} (h : pack_Writer_Text.vc J0 w s H Q) : SCalls Try.prog pack_Writer_Text.id [.pointer (some w), .string s] H Q := vFn_of Try.mixed Try.func17 (pack_Writer_Text.eq J0 w s H Q) h

/-! 18: (*tephra/pack.Writer).Bytes -/
def pack_Writer_Bytes.cf : Cfg := ⟨[], [], [], []⟩
def pack_Writer_Bytes.vc (J : Jn) (w : Addr) (H : Hp) (Q : Value → Hp → Prop) : Prop :=
 ∃ b : Sl, Hp.cell? H w = some (.slice b.a b.len b.cap) ∧ 
 vApp Try.prog T_sl_uint8 none 0 0 (.slice b.a b.len b.cap) H (fun ap H1 => Q (.slice ap.a ap.len ap.cap) H1)
theorem pack_Writer_Bytes.eq (J : Jn) (w : Addr) (H : Hp) (Q : Value → Hp → Prop) : vFn Try.prog pack_Writer_Bytes.cf J pack_Writer_Bytes.fn [.pointer (some w)] H Q = pack_Writer_Bytes.vc J w H Q := by kernel_rfl
theorem pack_Writer_Bytes.calls {w : Addr} {H : Hp} {Q : Value → Hp → Prop} (h : pack_Writer_Bytes.vc J0 w H Q) : SCalls Try.prog pack_Writer_Bytes.id [.pointer (some w)] H Q := vFn_of Try.mixed Try.func18 (pack_Writer_Bytes.eq J0 w H Q) h

/-! 19: (*tephra/pack.Writer).Num -/
def pack_Writer_Num.cf : Cfg := ⟨[], [(2, [0, 1, 5])], [], []⟩
def pack_Writer_Num.l1.st (w : Addr) (n : Int) (H1 : Hp) (k : Int) : VS := ⟨mkFr 25 [(0, .v (.pointer (some w))), (1, .v (.int .i64 n)), (5, .v (.int .i64 k))], [], H1⟩
def pack_Writer_Num.l1 (J : Jn) (w : Addr) (n : Int) (H1 : Hp) (k : Int) (Q : Value → Hp → Prop) : Prop := vAt Try.prog pack_Writer_Num.cf J pack_Writer_Num.fn [1, 0, 1, 0] [0, 0, 0] Q (pack_Writer_Num.l1.st w n H1 k)
attribute [irreducible] pack_Writer_Num.l1
def pack_Writer_Num.l1.body (J : Jn) (w : Addr) (n : Int) (H1 : Hp) (k : Int) (Q : Value → Hp → Prop) : Prop :=
 
 Br (decide (k ≥ 0)) (∃ b : Sl, Hp.cell? H1 w = some (.slice b.a b.len b.cap) ∧ (0 : Int) ≤ (w64 ((8 : Int) * k)) ∧ 
 vApp Try.prog T_sl_uint8 b.a b.len b.cap (.slice (some (Addr.mk (Array.size H1) 0 none)) 1 1) (Array.push H1 (.cells #[.int .u8 (IntKind.u8.wrap ((Int.fdiv n (2 ^ (min ((w64 ((8 : Int) * k)) : Int).toNat 64)))))] T_uint8)) (fun ap H2 => WrAt H2 w 1 ∧ 
 pack_Writer_Num.l1 J w n (Hp.setCell H2 w (.slice ap.a ap.len ap.cap)) (w64 (k - 1)) Q))
 (Q (.pointer (some w)) H1)
theorem pack_Writer_Num.l1.eq (J : Jn) (w : Addr) (n : Int) (H1 : Hp) (k : Int) (Q : Value → Hp → Prop) : vAtBody Try.prog pack_Writer_Num.cf J pack_Writer_Num.fn [1, 0, 1, 0] [0, 0, 0] Q (pack_Writer_Num.l1.st w n H1 k) = pack_Writer_Num.l1.body J w n H1 k Q := by kernel_rfl
theorem pack_Writer_Num.l1.step {w : Addr} {n : Int} {H1 : Hp} {k : Int} {Q : Value → Hp → Prop} (h : pack_Writer_Num.l1.body J0 w n H1 k Q) : pack_Writer_Num.l1 J0 w n H1 k Q := vAt_stepC (pack_Writer_Num.l1.st w n H1 k) (pack_Writer_Num.l1.eq J0 w n H1 k Q) (by kernel_rfl) h
def pack_Writer_Num.vc (J : Jn) (w : Addr) (n : Int) (H : Hp) (Q : Value → Hp → Prop) : Prop :=
 
 pack_Writer_Num.l1 J w n H 7 Q
theorem pack_Writer_Num.eq (J : Jn) (w : Addr) (n : Int) (H : Hp) (Q : Value → Hp → Prop) : vFn Try.prog pack_Writer_Num.cf J pack_Writer_Num.fn [.pointer (some w), .int .i64 n] H Q = pack_Writer_Num.vc J w n H Q := by kernel_rfl
theorem pack_Writer_Num.calls {w : Addr} {n : Int} {H : Hp} {Q : Value → Hp → Prop} (h : pack_Writer_Num.vc J0 w n H Q) : SCalls Try.prog pack_Writer_Num.id [.pointer (some w), .int .i64 n] H Q := vFn_of Try.mixed Try.func19 (pack_Writer_Num.eq J0 w n H Q) h

/-! 23: (*tephra/pack.Writer).Byte -/
def pack_Writer_Byte.cf : Cfg := ⟨[], [], [], []⟩
def pack_Writer_Byte.vc (J : Jn) (w : Addr) (c : Int) (H : Hp) (Q : Value → Hp → Prop) : Prop :=
 ∃ b : Sl, Hp.cell? H w = some (.slice b.a b.len b.cap) ∧ 
 vApp Try.prog T_sl_uint8 b.a b.len b.cap (.slice (some (Addr.mk (Array.size H) 0 none)) 1 1) (Array.push H (.cells #[.int .u8 c] T_uint8)) (fun ap H1 => WrAt H1 w 1 ∧ Q (.pointer (some w)) (Hp.setCell H1 w (.slice ap.a ap.len ap.cap)))
theorem pack_Writer_Byte.eq (J : Jn) (w : Addr) (c : Int) (H : Hp) (Q : Value → Hp → Prop) : vFn Try.prog pack_Writer_Byte.cf J pack_Writer_Byte.fn [.pointer (some w), .int .u8 c] H Q = pack_Writer_Byte.vc J w c H Q := by kernel_rfl
theorem pack_Writer_Byte.calls {w : Addr} {c : Int} {H : Hp} {Q : Value → Hp → Prop} (h : pack_Writer_Byte.vc J0 w c H Q) : SCalls Try.prog pack_Writer_Byte.id [.pointer (some w), .int .u8 c] H Q := vFn_of Try.mixed Try.func23 (pack_Writer_Byte.eq J0 w c H Q) h

/-! 24: (*tephra/pack.Reader).take -/
def pack_Reader_take.cf : Cfg := ⟨[], [], [(2, [0, 1], true)], [(14, [0, 1, 6, 14]), (23, [0, 1, 6, 23])]⟩
def pack_Reader_take.k1.st (r : Addr) (n : Int) (H : Hp) (x : Bool) : VS := ⟨mkFr 46 [(0, .v (.pointer (some r))), (1, .v (.int .i64 n)), (6, .v (.pointer (some r))), (14, .v (.bool x))], [], H⟩
def pack_Reader_take.k1 (J : Jn) (r : Addr) (n : Int) (H : Hp) (x : Bool) (Q : Value → Hp → Prop) : Prop := J (vMid Try.prog pack_Reader_take.cf J pack_Reader_take.fn [1, 0, 0] [0, 0, 0] 9 Q) (pack_Reader_take.k1.st r n H x)
def pack_Reader_take.k2.st (r : Addr) (n : Int) (H : Hp) (x1 : Bool) : VS := ⟨mkFr 46 [(0, .v (.pointer (some r))), (1, .v (.int .i64 n)), (6, .v (.pointer (some r))), (23, .v (.bool x1))], [], H⟩
def pack_Reader_take.k2 (J : Jn) (r : Addr) (n : Int) (H : Hp) (x1 : Bool) (Q : Value → Hp → Prop) : Prop := J (vMid Try.prog pack_Reader_take.cf J pack_Reader_take.fn [1, 0, 0] [0, 0, 0] 18 Q) (pack_Reader_take.k2.st r n H x1)
def pack_Reader_take.k3.st (r : Addr) (n : Int) (H : Hp) (x1 : Bool) : VS := ⟨mkFr 46 [(0, .v (.pointer (some r))), (1, .v (.int .i64 n))], [], (Hp.setCell H (r.add 1) (.bool x1))⟩
def pack_Reader_take.k3 (J : Jn) (r : Addr) (n : Int) (H : Hp) (x1 : Bool) (Q : Value → Hp → Prop) : Prop := J (vSeg Try.prog pack_Reader_take.cf J pack_Reader_take.fn [1, 0, 1] [0, 0, 0] Q) (pack_Reader_take.k3.st r n H x1)
attribute [irreducible] pack_Reader_take.k1 pack_Reader_take.k2 pack_Reader_take.k3
def pack_Reader_take.k1.body (J : Jn) (r : Addr) (n : Int) (H : Hp) (x : Bool) (Q : Value → Hp → Prop) : Prop :=
 
 Br x (
 pack_Reader_take.k2 J r n H true Q)
 (∃ b : Sl, Hp.cell? H r = some (.slice b.a b.len b.cap) ∧ 
 pack_Reader_take.k2 J r n H (decide (n > ((b.len : Nat) : Int))) Q)
theorem pack_Reader_take.k1.eq (J : Jn) (r : Addr) (n : Int) (H : Hp) (x : Bool) (Q : Value → Hp → Prop) : vMid Try.prog pack_Reader_take.cf J pack_Reader_take.fn [1, 0, 0] [0, 0, 0] 9 Q (pack_Reader_take.k1.st r n H x) = pack_Reader_take.k1.body J r n H x Q := by kernel_rfl
theorem pack_Reader_take.k1.step {r : Addr} {n : Int} {H : Hp} {x : Bool} {Q : Value → Hp → Prop} (h : pack_Reader_take.k1.body J0 r n H x Q) : pack_Reader_take.k1 J0 r n H x Q := step_of (vMid Try.prog pack_Reader_take.cf J0 pack_Reader_take.fn [1, 0, 0] [0, 0, 0] 9 Q) (pack_Reader_take.k1.st r n H x) (pack_Reader_take.k1.eq J0 r n H x Q) (by kernel_rfl) h
def pack_Reader_take.k2.body (J : Jn) (r : Addr) (n : Int) (H : Hp) (x1 : Bool) (Q : Value → Hp → Prop) : Prop :=
 WrAt H (r.add 1) 1 ∧ 
 pack_Reader_take.k3 J r n H x1 Q
theorem pack_Reader_take.k2.eq (J : Jn) (r : Addr) (n : Int) (H : Hp) (x1 : Bool) (Q : Value → Hp → Prop) : vMid Try.prog pack_Reader_take.cf J pack_Reader_take.fn [1, 0, 0] [0, 0, 0] 18 Q (pack_Reader_take.k2.st r n H x1) = pack_Reader_take.k2.body J r n H x1 Q := by kernel_rfl
theorem pack_Reader_take.k2.step {r : Addr} {n : Int} {H : Hp} {x1 : Bool} {Q : Value → Hp → Prop} (h : pack_Reader_take.k2.body J0 r n H x1 Q) : pack_Reader_take.k2 J0 r n H x1 Q := step_of (vMid Try.prog pack_Reader_take.cf J0 pack_Reader_take.fn [1, 0, 0] [0, 0, 0] 18 Q) (pack_Reader_take.k2.st r n H x1) (pack_Reader_take.k2.eq J0 r n H x1 Q) (by kernel_rfl) h
def pack_Reader_take.k3.body (J : Jn) (r : Addr) (n : Int) (H : Hp) (x1 : Bool) (Q : Value → Hp → Prop) : Prop :=
 ∃ bad1 : Bool, Hp.cell? (Hp.setCell H (r.add 1) (.bool x1)) (r.add 1) = some (.bool bad1) ∧ 
 Br bad1 (Q (.slice none 0 0) (Hp.setCell H (r.add 1) (.bool x1)))
 (∃ b1 : Sl, Hp.cell? (Hp.setCell H (r.add 1) (.bool x1)) r = some (.slice b1.a b1.len b1.cap) ∧ ((0 : Int) ≤ n ∧ n ≤ ((b1.cap : Nat) : Int)) ∧ ∃ b2 : Sl, Hp.cell? (Hp.setCell H (r.add 1) (.bool x1)) r = some (.slice b2.a b2.len b2.cap) ∧ ((0 : Int) ≤ n ∧ n ≤ ((b2.len : Nat) : Int)) ∧ WrAt (Hp.setCell H (r.add 1) (.bool x1)) r 1 ∧ Q (.slice (cutA b1.a b1.cap 0 1) ((n : Int).toNat) b1.cap) (Hp.setCell (Hp.setCell H (r.add 1) (.bool x1)) r (.slice (cutA b2.a b2.cap ((n : Int).toNat) 1) (b2.len - ((n : Int).toNat)) (b2.cap - ((n : Int).toNat)))))
theorem pack_Reader_take.k3.eq (J : Jn) (r : Addr) (n : Int) (H : Hp) (x1 : Bool) (Q : Value → Hp → Prop) : vSeg Try.prog pack_Reader_take.cf J pack_Reader_take.fn [1, 0, 1] [0, 0, 0] Q (pack_Reader_take.k3.st r n H x1) = pack_Reader_take.k3.body J r n H x1 Q := by kernel_rfl
theorem pack_Reader_take.k3.step {r : Addr} {n : Int} {H : Hp} {x1 : Bool} {Q : Value → Hp → Prop} (h : pack_Reader_take.k3.body J0 r n H x1 Q) : pack_Reader_take.k3 J0 r n H x1 Q := step_of (vSeg Try.prog pack_Reader_take.cf J0 pack_Reader_take.fn [1, 0, 1] [0, 0, 0] Q) (pack_Reader_take.k3.st r n H x1) (pack_Reader_take.k3.eq J0 r n H x1 Q) (by kernel_rfl) h
def pack_Reader_take.vc (J : Jn) (r : Addr) (n : Int) (H : Hp) (Q : Value → Hp → Prop) : Prop :=
 ∃ bad : Bool, Hp.cell? H (r.add 1) = some (.bool bad) ∧ 
 Br bad (
 pack_Reader_take.k1 J r n H true Q)
 (
 pack_Reader_take.k1 J r n H (decide (n < 0)) Q)
theorem pack_Reader_take.eq (J : Jn) (r : Addr) (n : Int) (H : Hp) (Q : Value → Hp → Prop) : vFn Try.prog pack_Reader_take.cf J pack_Reader_take.fn [.pointer (some r), .int .i64 n] H Q = pack_Reader_take.vc J r n H Q := by kernel_rfl
theorem pack_Reader_take.calls {r : Addr} {n : Int} {H : Hp} {Q : Value → Hp → Prop} (h : pack_Reader_take.vc J0 r n H Q) : SCalls Try.prog pack_Reader_take.id [.pointer (some r), .int .i64 n] H Q := vFn_of Try.mixed Try.func24 (pack_Reader_take.eq J0 r n H Q) h

end Go.Proofs
