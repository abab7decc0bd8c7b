/- THE SEAT'S CODE, AS WALKED: for each function what is to be shown of it (printed by the own program gen.py), held by the kernel. -/
import Derived.Test.YtllkdgnagjciiaaProg
import Derived.Test.YtllkdgnagjciiaaKc13
set_option maxRecDepth 100000
set_option linter.all false
set_option linter.constructorNameAsVariable false
namespace Go.Proofs
open Go Go.KC
theorem Try.mixed : Try.prog.follows .mixedOrders = true := by kernel_rfl
abbrev tephralaw01_PackAny.id : Nat := 3
noncomputable abbrev tephralaw01_PackAny.fn : Func := Try.f3
abbrev tephralaw01_PackKeeps.id : Nat := 4
noncomputable abbrev tephralaw01_PackKeeps.fn : Func := Try.f4
abbrev tephralaw01_PackMany.id : Nat := 5
noncomputable abbrev tephralaw01_PackMany.fn : Func := Try.f5
abbrev tephralaw01_PackLays.id : Nat := 6
noncomputable abbrev tephralaw01_PackLays.fn : Func := Try.f6
abbrev tephralaw01_PackShort.id : Nat := 7
noncomputable abbrev tephralaw01_PackShort.fn : Func := Try.f7
abbrev tephralaw01_PackApart.id : Nat := 8
noncomputable abbrev tephralaw01_PackApart.fn : Func := Try.f8
abbrev tephralaw01_PackTexts.id : Nat := 9
noncomputable abbrev tephralaw01_PackTexts.fn : Func := Try.f9
abbrev tephralaw01_awake.id : Nat := 10
noncomputable abbrev tephralaw01_awake.fn : Func := Try.f10
abbrev pack_Of.id : Nat := 11
noncomputable abbrev pack_Of.fn : Func := Try.f11
abbrev pack_Reader_Num.id : Nat := 12
noncomputable abbrev pack_Reader_Num.fn : Func := Try.f12
abbrev pack_Reader_Byte.id : Nat := 13
noncomputable abbrev pack_Reader_Byte.fn : Func := Try.f13
abbrev pack_Reader_Text.id : Nat := 14
noncomputable abbrev pack_Reader_Text.fn : Func := Try.f14
abbrev pack_Reader_Bad.id : Nat := 15
noncomputable abbrev pack_Reader_Bad.fn : Func := Try.f15
abbrev pack_Reader_Done.id : Nat := 16
noncomputable abbrev pack_Reader_Done.fn : Func := Try.f16
abbrev pack_Writer_Text.id : Nat := 17
noncomputable abbrev pack_Writer_Text.fn : Func := Try.f17
abbrev pack_Writer_Bytes.id : Nat := 18
noncomputable abbrev pack_Writer_Bytes.fn : Func := Try.f18
abbrev pack_Writer_Num.id : Nat := 19
noncomputable abbrev pack_Writer_Num.fn : Func := Try.f19
abbrev tephralaw01_lay.id : Nat := 20
noncomputable abbrev tephralaw01_lay.fn : Func := Try.f20
abbrev tephralaw01_bytes.id : Nat := 21
noncomputable abbrev tephralaw01_bytes.fn : Func := Try.f21
abbrev tephralaw01_reads.id : Nat := 22
noncomputable abbrev tephralaw01_reads.fn : Func := Try.f22
abbrev pack_Writer_Byte.id : Nat := 23
noncomputable abbrev pack_Writer_Byte.fn : Func := Try.f23
abbrev pack_Reader_take.id : Nat := 24
noncomputable abbrev pack_Reader_take.fn : Func := Try.f24
abbrev T_ : Nat := 0
abbrev T_func : Nat := 1
abbrev T_int64 : Nat := 2
abbrev T_int : Nat := 3
abbrev T_bool : Nat := 4
abbrev T_uint8 : Nat := 5
abbrev T_abi_BoundsErrorCode : Nat := 6
abbrev T_struct_x_int64_y_int_signed_bool_code_abi_BoundsErrorCode : Nat := 7
abbrev T_runtime_boundsError : Nat := 8
abbrev T_string : Nat := 9
abbrev T_runtime_errorString : Nat := 10
abbrev T_runtime_plainError : Nat := 11
abbrev T_uintptr : Nat := 12
abbrev T_struct_msg_string_addr_uintptr : Nat := 13
abbrev T_runtime_errorAddressString : Nat := 14
abbrev T_p_runtime_TypeAssertionError : Nat := 15
abbrev T_p_runtime_PanicNilError : Nat := 16
abbrev T_p_abi_Type : Nat := 17
abbrev T_struct_typ_p_abi_Type : Nat := 18
abbrev T_maps_unhashableTypeError : Nat := 19
abbrev T_interface : Nat := 20
abbrev T_int32 : Nat := 21
abbrev T_sl_uint8 : Nat := 22
abbrev T_func_bool : Nat := 23
abbrev T_p_pack_Reader : Nat := 24
abbrev T_func_sl_uint8_p_pack_Reader : Nat := 25
abbrev T_func_int : Nat := 26
abbrev T_func_uint8 : Nat := 27
abbrev T_func_string : Nat := 28
abbrev T_func_sl_uint8_sl_uint8_bool : Nat := 29
abbrev T_p_pack_Writer : Nat := 30
abbrev T_struct_b_sl_uint8 : Nat := 31
abbrev T_pack_Writer : Nat := 32
abbrev T_func_string_p_pack_Writer : Nat := 33
abbrev T_func_sl_uint8 : Nat := 34
abbrev T_func_int_p_pack_Writer : Nat := 35
abbrev T_func_string_int_bool : Nat := 36
abbrev T_sl_int : Nat := 37
abbrev T_func_sl_int_bool : Nat := 38
abbrev T_sl_tephralaw01_Part : Nat := 39
abbrev T_struct_Kind_uint8_Num_int_Text_string : Nat := 40
abbrev T_tephralaw01_Part : Nat := 41
abbrev T_func_p_pack_Writer_tephralaw01_Part : Nat := 42
abbrev T_func_tephralaw01_Part_string : Nat := 43
abbrev T_func_p_pack_Reader_tephralaw01_Part_bool : Nat := 44
abbrev T_func_sl_tephralaw01_Part_bool : Nat := 45
abbrev T_func_sl_tephralaw01_Part_uint8_bool : Nat := 46
abbrev T_func_sl_tephralaw01_Part_sl_tephralaw01_Part_bool : Nat := 47
abbrev T_sl_string : Nat := 48
abbrev T_func_uint8_p_pack_Writer : Nat := 49
abbrev T_func_sl_string_uint8_bool : Nat := 50
abbrev T_struct_b_sl_uint8_bad_bool : Nat := 51
abbrev T_pack_Reader : Nat := 52
abbrev T_func_int_sl_uint8 : Nat := 53
abbrev T_uint : Nat := 54
abbrev T_struct__interface_p_abi_Type_concrete_p_abi_Type_asserted_p_ : Nat := 55
abbrev T_runtime_TypeAssertionError : Nat := 56
abbrev T_0_p_runtime_PanicNilError : Nat := 57
abbrev T_struct___0_p_runtime_PanicNilError : Nat := 58
abbrev T_runtime_PanicNilError : Nat := 59
abbrev T_uint32 : Nat := 60
abbrev T_abi_TFlag : Nat := 61
abbrev T_abi_Kind : Nat := 62
abbrev T_func_unsafe_Pointer_unsafe_Pointer_bool : Nat := 63
abbrev T_p_uint8 : Nat := 64
abbrev T_abi_NameOff : Nat := 65
abbrev T_abi_TypeOff : Nat := 66
abbrev T_struct_Size__uintptr_PtrBytes_uintptr_Hash_uint32_TFlag_abi_ : Nat := 67
abbrev T_abi_Type : Nat := 68
abbrev T_unsafe_Pointer : Nat := 69

/-! 8: tephra/tephralaw01.PackApart -/
def tephralaw01_PackApart.cf : Cfg := ⟨[9, 11], [(5, [1, 5, 6, 7, 24, 25, 26]), (11, [5, 6, 7, 41, 42, 43])], [], []⟩
def tephralaw01_PackApart.l1.st (a : Sl) (b : Sl) (H1 : Hp) (H2 : Hp) (x1 : Int) : VS := ⟨mkFr 65 [(1, .v (.slice b.a b.len b.cap)), (5, .v (.pointer (some (Addr.mk (Array.size H1) 0 none)))), (6, .v (.pointer (some (Addr.mk (Array.size (Array.push H1 (.cells #[.slice none 0 0] T_pack_Writer))) 0 none)))), (7, .v (.pointer (some (Addr.mk (Array.size (Array.push (Array.push H1 (.cells #[.slice none 0 0] T_pack_Writer)) (.cells #[.slice none 0 0] T_pack_Writer))) 0 none)))), (24, .v (.slice (cutA a.a a.cap 0 3) (((if (60 : Int) < ((a.len : Nat) : Int) then 60 else ((a.len : Nat) : Int)) : Int).toNat) a.cap)), (25, .v (.int .i64 (((((if (60 : Int) < ((a.len : Nat) : Int) then 60 else ((a.len : Nat) : Int)) : Int).toNat) : Nat) : Int))), (26, .v (.int .i64 x1))], [], H2⟩
def tephralaw01_PackApart.l1 (J : Jn) (a : Sl) (b : Sl) (H1 : Hp) (H2 : Hp) (x1 : Int) (Q : Value → Hp → Prop) : Prop := vAt Try.prog tephralaw01_PackApart.cf J tephralaw01_PackApart.fn [1, 1, 1, 0, 1, 0] [0, 0, 0, 0, 0] Q (tephralaw01_PackApart.l1.st a b H1 H2 x1)
def tephralaw01_PackApart.l2.st (b : Sl) (H1 : Hp) (H5 : Hp) (x2 : Int) : VS := ⟨mkFr 65 [(5, .v (.pointer (some (Addr.mk (Array.size H1) 0 none)))), (6, .v (.pointer (some (Addr.mk (Array.size (Array.push H1 (.cells #[.slice none 0 0] T_pack_Writer))) 0 none)))), (7, .v (.pointer (some (Addr.mk (Array.size (Array.push (Array.push H1 (.cells #[.slice none 0 0] T_pack_Writer)) (.cells #[.slice none 0 0] T_pack_Writer))) 0 none)))), (41, .v (.slice (cutA b.a b.cap 0 3) (((if (60 : Int) < ((b.len : Nat) : Int) then 60 else ((b.len : Nat) : Int)) : Int).toNat) b.cap)), (42, .v (.int .i64 (((((if (60 : Int) < ((b.len : Nat) : Int) then 60 else ((b.len : Nat) : Int)) : Int).toNat) : Nat) : Int))), (43, .v (.int .i64 x2))], [], H5⟩
def tephralaw01_PackApart.l2 (J : Jn) (b : Sl) (H1 : Hp) (H5 : Hp) (x2 : Int) (Q : Value → Hp → Prop) : Prop := vAt Try.prog tephralaw01_PackApart.cf J tephralaw01_PackApart.fn [1, 1, 1, 1, 0, 1, 0] [0, 0, 0, 0, 0, 0] Q (tephralaw01_PackApart.l2.st b H1 H5 x2)
attribute [irreducible] tephralaw01_PackApart.l1 tephralaw01_PackApart.l2
def tephralaw01_PackApart.l1.body (J : Jn) (a : Sl) (b : Sl) (H1 : Hp) (H2 : Hp) (x1 : Int) (Q : Value → Hp → Prop) : Prop :=
 
 Br (decide (x1 < (((((if (60 : Int) < ((a.len : Nat) : Int) then 60 else ((a.len : Nat) : Int)) : Int).toNat) : Nat) : Int))) (((0 : Int) ≤ x1 ∧ x1 < (((((if (60 : Int) < ((a.len : Nat) : Int) then 60 else ((a.len : Nat) : Int)) : Int).toNat) : Nat) : Int)) ∧ vPtr (cutA a.a a.cap 0 3) (fun a1 => ∃ Kind : Int, ∃ Num : Int, ∃ Text : ByteArray, RowAt H2 (a1.add ((x1 : Int).toNat * 3)) [.int .u8 Kind, .int .i64 Num, .string Text] ∧ 
 SCalls Try.prog tephralaw01_lay.id [.pointer (some (Addr.mk (Array.size H1) 0 none)), .agg #[.int .u8 Kind, .int .i64 Num, .string Text]] (holes H2 1) (fun r1 H3 => r1 = .tuple #[] ∧ 
 SCalls Try.prog tephralaw01_lay.id [.pointer (some (Addr.mk (Array.size (Array.push (Array.push H1 (.cells #[.slice none 0 0] T_pack_Writer)) (.cells #[.slice none 0 0] T_pack_Writer))) 0 none)), .agg #[.int .u8 Kind, .int .i64 Num, .string Text]] H3 (fun r2 H4 => r2 = .tuple #[] ∧ 
 tephralaw01_PackApart.l1 J a b H1 H4 (w64 (x1 + 1)) Q))))
 (((0 : Int) ≤ (if (60 : Int) < ((b.len : Nat) : Int) then 60 else ((b.len : Nat) : Int)) ∧ (if (60 : Int) < ((b.len : Nat) : Int) then 60 else ((b.len : Nat) : Int)) ≤ ((b.cap : Nat) : Int)) ∧ 
 tephralaw01_PackApart.l2 J b H1 H2 0 Q)
theorem tephralaw01_PackApart.l1.eq (J : Jn) (a : Sl) (b : Sl) (H1 : Hp) (H2 : Hp) (x1 : Int) (Q : Value → Hp → Prop) : vAtBody Try.prog tephralaw01_PackApart.cf J tephralaw01_PackApart.fn [1, 1, 1, 0, 1, 0] [0, 0, 0, 0, 0] Q (tephralaw01_PackApart.l1.st a b H1 H2 x1) = tephralaw01_PackApart.l1.body J a b H1 H2 x1 Q := by kernel_rfl
theorem tephralaw01_PackApart.l1.step {a : Sl} {b : Sl} {H1 : Hp} {H2 : Hp} {x1 : Int} {Q : Value → Hp → Prop} (h : tephralaw01_PackApart.l1.body J0 a b H1 H2 x1 Q) : tephralaw01_PackApart.l1 J0 a b H1 H2 x1 Q := vAt_stepC (tephralaw01_PackApart.l1.st a b H1 H2 x1) (tephralaw01_PackApart.l1.eq J0 a b H1 H2 x1 Q) (by kernel_rfl) h
def tephralaw01_PackApart.l2.body (J : Jn) (b : Sl) (H1 : Hp) (H5 : Hp) (x2 : Int) (Q : Value → Hp → Prop) : Prop :=
 
 Br (decide (x2 < (((((if (60 : Int) < ((b.len : Nat) : Int) then 60 else ((b.len : Nat) : Int)) : Int).toNat) : Nat) : Int))) (((0 : Int) ≤ x2 ∧ x2 < (((((if (60 : Int) < ((b.len : Nat) : Int) then 60 else ((b.len : Nat) : Int)) : Int).toNat) : Nat) : Int)) ∧ vPtr (cutA b.a b.cap 0 3) (fun a2 => ∃ Kind1 : Int, ∃ Num1 : Int, ∃ Text1 : ByteArray, RowAt H5 (a2.add ((x2 : Int).toNat * 3)) [.int .u8 Kind1, .int .i64 Num1, .string Text1] ∧ 
 SCalls Try.prog tephralaw01_lay.id [.pointer (some (Addr.mk (Array.size (Array.push H1 (.cells #[.slice none 0 0] T_pack_Writer))) 0 none)), .agg #[.int .u8 Kind1, .int .i64 Num1, .string Text1]] (holes H5 1) (fun r3 H6 => r3 = .tuple #[] ∧ 
 SCalls Try.prog tephralaw01_lay.id [.pointer (some (Addr.mk (Array.size (Array.push (Array.push H1 (.cells #[.slice none 0 0] T_pack_Writer)) (.cells #[.slice none 0 0] T_pack_Writer))) 0 none)), .agg #[.int .u8 Kind1, .int .i64 Num1, .string Text1]] H6 (fun r4 H7 => r4 = .tuple #[] ∧ 
 tephralaw01_PackApart.l2 J b H1 H7 (w64 (x2 + 1)) Q))))
 (
 SCalls Try.prog pack_Writer_Bytes.id [.pointer (some (Addr.mk (Array.size H1) 0 none))] H5 (fun r5 H8 => ∃ x3 : Sl, r5 = .slice x3.a x3.len x3.cap ∧ 
  (vB2S H8 x3.a x3.len (fun s => 
 SCalls Try.prog pack_Writer_Bytes.id [.pointer (some (Addr.mk (Array.size (Array.push H1 (.cells #[.slice none 0 0] T_pack_Writer))) 0 none))] H8 (fun r6 H9 => ∃ x4 : Sl, r6 = .slice x4.a x4.len x4.cap ∧ 
  (vB2S H9 x4.a x4.len (fun s1 => s.size + s1.size ≤ 9223372036854775807 ∧ 
 SCalls Try.prog pack_Writer_Bytes.id [.pointer (some (Addr.mk (Array.size (Array.push (Array.push H1 (.cells #[.slice none 0 0] T_pack_Writer)) (.cells #[.slice none 0 0] T_pack_Writer))) 0 none))] H9 (fun r7 H10 => ∃ x5 : Sl, r7 = .slice x5.a x5.len x5.cap ∧ vB2S H10 x5.a x5.len (fun s2 => Q (.bool ((s ++ s1).toList == s2.toList)) H10)))) ∧ 
  (
 SCalls Try.prog pack_Writer_Bytes.id [.pointer (some (Addr.mk (Array.size (Array.push (Array.push H1 (.cells #[.slice none 0 0] T_pack_Writer)) (.cells #[.slice none 0 0] T_pack_Writer))) 0 none))] H9 (fun r8 H11 => ∃ x6 : Sl, r8 = .slice x6.a x6.len x6.cap ∧ 
  (vB2S H11 x4.a x4.len (fun s3 => s.size + s3.size ≤ 9223372036854775807 ∧ vB2S H11 x6.a x6.len (fun s4 => Q (.bool ((s ++ s3).toList == s4.toList)) H11))) ∧ 
  (vB2S H11 x6.a x6.len (fun s5 => vB2S H11 x4.a x4.len (fun s6 => s.size + s6.size ≤ 9223372036854775807 ∧ Q (.bool ((s ++ s6).toList == s5.toList)) H11)))))))) ∧ 
  (
 SCalls Try.prog pack_Writer_Bytes.id [.pointer (some (Addr.mk (Array.size (Array.push H1 (.cells #[.slice none 0 0] T_pack_Writer))) 0 none))] H8 (fun r9 H12 => ∃ x7 : Sl, r9 = .slice x7.a x7.len x7.cap ∧ 
  (vB2S H12 x3.a x3.len (fun s7 => 
  (vB2S H12 x7.a x7.len (fun s8 => s7.size + s8.size ≤ 9223372036854775807 ∧ 
 SCalls Try.prog pack_Writer_Bytes.id [.pointer (some (Addr.mk (Array.size (Array.push (Array.push H1 (.cells #[.slice none 0 0] T_pack_Writer)) (.cells #[.slice none 0 0] T_pack_Writer))) 0 none))] H12 (fun r10 H13 => ∃ x8 : Sl, r10 = .slice x8.a x8.len x8.cap ∧ vB2S H13 x8.a x8.len (fun s9 => Q (.bool ((s7 ++ s8).toList == s9.toList)) H13)))) ∧ 
  (
 SCalls Try.prog pack_Writer_Bytes.id [.pointer (some (Addr.mk (Array.size (Array.push (Array.push H1 (.cells #[.slice none 0 0] T_pack_Writer)) (.cells #[.slice none 0 0] T_pack_Writer))) 0 none))] H12 (fun r11 H14 => ∃ x9 : Sl, r11 = .slice x9.a x9.len x9.cap ∧ 
  (vB2S H14 x7.a x7.len (fun s10 => s7.size + s10.size ≤ 9223372036854775807 ∧ vB2S H14 x9.a x9.len (fun s11 => Q (.bool ((s7 ++ s10).toList == s11.toList)) H14))) ∧ 
  (vB2S H14 x9.a x9.len (fun s12 => vB2S H14 x7.a x7.len (fun s13 => s7.size + s13.size ≤ 9223372036854775807 ∧ Q (.bool ((s7 ++ s13).toList == s12.toList)) H14))))))) ∧ 
  (vB2S H12 x7.a x7.len (fun s14 => 
  (vB2S H12 x3.a x3.len (fun s15 => s15.size + s14.size ≤ 9223372036854775807 ∧ 
 SCalls Try.prog pack_Writer_Bytes.id [.pointer (some (Addr.mk (Array.size (Array.push (Array.push H1 (.cells #[.slice none 0 0] T_pack_Writer)) (.cells #[.slice none 0 0] T_pack_Writer))) 0 none))] H12 (fun r12 H15 => ∃ x10 : Sl, r12 = .slice x10.a x10.len x10.cap ∧ vB2S H15 x10.a x10.len (fun s16 => Q (.bool ((s15 ++ s14).toList == s16.toList)) H15)))) ∧ 
  (
 SCalls Try.prog pack_Writer_Bytes.id [.pointer (some (Addr.mk (Array.size (Array.push (Array.push H1 (.cells #[.slice none 0 0] T_pack_Writer)) (.cells #[.slice none 0 0] T_pack_Writer))) 0 none))] H12 (fun r13 H16 => ∃ x11 : Sl, r13 = .slice x11.a x11.len x11.cap ∧ 
  (vB2S H16 x3.a x3.len (fun s17 => s17.size + s14.size ≤ 9223372036854775807 ∧ vB2S H16 x11.a x11.len (fun s18 => Q (.bool ((s17 ++ s14).toList == s18.toList)) H16))) ∧ 
  (vB2S H16 x11.a x11.len (fun s19 => vB2S H16 x3.a x3.len (fun s20 => s20.size + s14.size ≤ 9223372036854775807 ∧ Q (.bool ((s20 ++ s14).toList == s19.toList)) H16))))))) ∧ 
  (
 SCalls Try.prog pack_Writer_Bytes.id [.pointer (some (Addr.mk (Array.size (Array.push (Array.push H1 (.cells #[.slice none 0 0] T_pack_Writer)) (.cells #[.slice none 0 0] T_pack_Writer))) 0 none))] H12 (fun r14 H17 => ∃ x12 : Sl, r14 = .slice x12.a x12.len x12.cap ∧ 
  (vB2S H17 x3.a x3.len (fun s21 => 
  (vB2S H17 x7.a x7.len (fun s22 => s21.size + s22.size ≤ 9223372036854775807 ∧ vB2S H17 x12.a x12.len (fun s23 => Q (.bool ((s21 ++ s22).toList == s23.toList)) H17))) ∧ 
  (vB2S H17 x12.a x12.len (fun s24 => vB2S H17 x7.a x7.len (fun s25 => s21.size + s25.size ≤ 9223372036854775807 ∧ Q (.bool ((s21 ++ s25).toList == s24.toList)) H17))))) ∧ 
  (vB2S H17 x7.a x7.len (fun s26 => 
  (vB2S H17 x3.a x3.len (fun s27 => s27.size + s26.size ≤ 9223372036854775807 ∧ vB2S H17 x12.a x12.len (fun s28 => Q (.bool ((s27 ++ s26).toList == s28.toList)) H17))) ∧ 
  (vB2S H17 x12.a x12.len (fun s29 => vB2S H17 x3.a x3.len (fun s30 => s30.size + s26.size ≤ 9223372036854775807 ∧ Q (.bool ((s30 ++ s26).toList == s29.toList)) H17))))) ∧ 
  (vB2S H17 x12.a x12.len (fun s31 => 
  (vB2S H17 x3.a x3.len (fun s32 => vB2S H17 x7.a x7.len (fun s33 => s32.size + s33.size ≤ 9223372036854775807 ∧ Q (.bool ((s32 ++ s33).toList == s31.toList)) H17))) ∧ 
  (vB2S H17 x7.a x7.len (fun s34 => vB2S H17 x3.a x3.len (fun s35 => s35.size + s34.size ≤ 9223372036854775807 ∧ Q (.bool ((s35 ++ s34).toList == s31.toList)) H17)))))))))))
theorem tephralaw01_PackApart.l2.eq (J : Jn) (b : Sl) (H1 : Hp) (H5 : Hp) (x2 : Int) (Q : Value → Hp → Prop) : vAtBody Try.prog tephralaw01_PackApart.cf J tephralaw01_PackApart.fn [1, 1, 1, 1, 0, 1, 0] [0, 0, 0, 0, 0, 0] Q (tephralaw01_PackApart.l2.st b H1 H5 x2) = tephralaw01_PackApart.l2.body J b H1 H5 x2 Q := by kernel_rfl
theorem tephralaw01_PackApart.l2.step {b : Sl} {H1 : Hp} {H5 : Hp} {x2 : Int} {Q : Value → Hp → Prop} (h : tephralaw01_PackApart.l2.body J0 b H1 H5 x2 Q) : tephralaw01_PackApart.l2 J0 b H1 H5 x2 Q := vAt_stepC (tephralaw01_PackApart.l2.st b H1 H5 x2) (tephralaw01_PackApart.l2.eq J0 b H1 H5 x2 Q) (by kernel_rfl) h
def tephralaw01_PackApart.vc (J : Jn) (a : Sl) (b : Sl) (H : Hp) (Q : Value → Hp → Prop) : Prop :=
 
 SCalls Try.prog tephralaw01_awake.id [] H (fun r H1 => ∃ x : Bool, r = .bool x ∧ 
 Br (!x) (Q (.bool false) H1)
 (((0 : Int) ≤ (if (60 : Int) < ((a.len : Nat) : Int) then 60 else ((a.len : Nat) : Int)) ∧ (if (60 : Int) < ((a.len : Nat) : Int) then 60 else ((a.len : Nat) : Int)) ≤ ((a.cap : Nat) : Int)) ∧ 
 tephralaw01_PackApart.l1 J a b H1 (Array.push (Array.push (Array.push H1 (.cells #[.slice none 0 0] T_pack_Writer)) (.cells #[.slice none 0 0] T_pack_Writer)) (.cells #[.slice none 0 0] T_pack_Writer)) 0 Q))
theorem tephralaw01_PackApart.eq (J : Jn) (a : Sl) (b : Sl) (H : Hp) (Q : Value → Hp → Prop) : vFn Try.prog tephralaw01_PackApart.cf J tephralaw01_PackApart.fn [.slice a.a a.len a.cap, .slice b.a b.len b.cap] H Q = tephralaw01_PackApart.vc J a b H Q := by kernel_rfl
theorem tephralaw01_PackApart.calls {a : Sl} {b : Sl} {H : Hp} {Q : Value → Hp → Prop} (h : tephralaw01_PackApart.vc J0 a b H Q) : SCalls Try.prog tephralaw01_PackApart.id [.slice a.a a.len a.cap, .slice b.a b.len b.cap] H Q := vFn_of Try.mixed Try.func8 (tephralaw01_PackApart.eq J0 a b H Q) h

/-! 10: tephra/tephralaw01.awake -/
def tephralaw01_awake.cf : Cfg := ⟨[], [], [], [(20, [3, 20]), (25, [3, 25]), (30, [3, 30]), (34, [3, 34]), (39, [3, 39])]⟩
def tephralaw01_awake.k1.st (H4 : Hp) (x3 : Option Addr) (x5 : Bool) : VS := ⟨mkFr 44 [(3, .v (.pointer x3)), (20, .v (.bool x5))], [], H4⟩
def tephralaw01_awake.k1 (J : Jn) (H4 : Hp) (x3 : Option Addr) (x5 : Bool) (Q : Value → Hp → Prop) : Prop := J (vMid Try.prog tephralaw01_awake.cf J tephralaw01_awake.fn [1, 1, 1, 1, 0] [0, 0, 0, 0, 0] 9 Q) (tephralaw01_awake.k1.st H4 x3 x5)
def tephralaw01_awake.k2.st (x3 : Option Addr) (x7 : Bool) (H6 : Hp) : VS := ⟨mkFr 44 [(3, .v (.pointer x3)), (25, .v (.bool x7))], [], H6⟩
def tephralaw01_awake.k2 (J : Jn) (x3 : Option Addr) (x7 : Bool) (H6 : Hp) (Q : Value → Hp → Prop) : Prop := J (vMid Try.prog tephralaw01_awake.cf J tephralaw01_awake.fn [1, 1, 1, 1, 0] [0, 0, 0, 0, 0] 14 Q) (tephralaw01_awake.k2.st x3 x7 H6)
def tephralaw01_awake.k3.st (x3 : Option Addr) (x9 : Bool) (H8 : Hp) : VS := ⟨mkFr 44 [(3, .v (.pointer x3)), (30, .v (.bool x9))], [], H8⟩
def tephralaw01_awake.k3 (J : Jn) (x3 : Option Addr) (x9 : Bool) (H8 : Hp) (Q : Value → Hp → Prop) : Prop := J (vMid Try.prog tephralaw01_awake.cf J tephralaw01_awake.fn [1, 1, 1, 1, 0] [0, 0, 0, 0, 0] 19 Q) (tephralaw01_awake.k3.st x3 x9 H8)
def tephralaw01_awake.k4.st (x3 : Option Addr) (x11 : Bool) (H10 : Hp) : VS := ⟨mkFr 44 [(3, .v (.pointer x3)), (34, .v (.bool x11))], [], H10⟩
def tephralaw01_awake.k4 (J : Jn) (x3 : Option Addr) (x11 : Bool) (H10 : Hp) (Q : Value → Hp → Prop) : Prop := J (vMid Try.prog tephralaw01_awake.cf J tephralaw01_awake.fn [1, 1, 1, 1, 0] [0, 0, 0, 0, 0] 23 Q) (tephralaw01_awake.k4.st x3 x11 H10)
def tephralaw01_awake.k5.st (x3 : Option Addr) (x13 : Bool) (H12 : Hp) : VS := ⟨mkFr 44 [(3, .v (.pointer x3)), (39, .v (.bool x13))], [], H12⟩
def tephralaw01_awake.k5 (J : Jn) (x3 : Option Addr) (x13 : Bool) (H12 : Hp) (Q : Value → Hp → Prop) : Prop := J (vMid Try.prog tephralaw01_awake.cf J tephralaw01_awake.fn [1, 1, 1, 1, 0] [0, 0, 0, 0, 0] 28 Q) (tephralaw01_awake.k5.st x3 x13 H12)
attribute [irreducible] tephralaw01_awake.k1 tephralaw01_awake.k2 tephralaw01_awake.k3 tephralaw01_awake.k4 tephralaw01_awake.k5
def tephralaw01_awake.k1.body (J : Jn) (H4 : Hp) (x3 : Option Addr) (x5 : Bool) (Q : Value → Hp → Prop) : Prop :=
 
 Br x5 (
 SCalls Try.prog pack_Reader_Num.id [.pointer x3] H4 (fun r4 H5 => ∃ x6 : Int, r4 = .int .i64 x6 ∧ 
 tephralaw01_awake.k2 J x3 (x6 == (-2)) H5 Q))
 (
 tephralaw01_awake.k2 J x3 false H4 Q)
theorem tephralaw01_awake.k1.eq (J : Jn) (H4 : Hp) (x3 : Option Addr) (x5 : Bool) (Q : Value → Hp → Prop) : vMid Try.prog tephralaw01_awake.cf J tephralaw01_awake.fn [1, 1, 1, 1, 0] [0, 0, 0, 0, 0] 9 Q (tephralaw01_awake.k1.st H4 x3 x5) = tephralaw01_awake.k1.body J H4 x3 x5 Q := by kernel_rfl
theorem tephralaw01_awake.k1.step {H4 : Hp} {x3 : Option Addr} {x5 : Bool} {Q : Value → Hp → Prop} (h : tephralaw01_awake.k1.body J0 H4 x3 x5 Q) : tephralaw01_awake.k1 J0 H4 x3 x5 Q := step_of (vMid Try.prog tephralaw01_awake.cf J0 tephralaw01_awake.fn [1, 1, 1, 1, 0] [0, 0, 0, 0, 0] 9 Q) (tephralaw01_awake.k1.st H4 x3 x5) (tephralaw01_awake.k1.eq J0 H4 x3 x5 Q) (by kernel_rfl) h
def tephralaw01_awake.k2.body (J : Jn) (x3 : Option Addr) (x7 : Bool) (H6 : Hp) (Q : Value → Hp → Prop) : Prop :=
 
 Br x7 (
 SCalls Try.prog pack_Reader_Text.id [.pointer x3] H6 (fun r5 H7 => ∃ x8 : ByteArray, r5 = .string x8 ∧ 
 tephralaw01_awake.k3 J x3 (x8.toList == (ByteArray.mk #[97, 98]).toList) H7 Q))
 (
 tephralaw01_awake.k3 J x3 false H6 Q)
theorem tephralaw01_awake.k2.eq (J : Jn) (x3 : Option Addr) (x7 : Bool) (H6 : Hp) (Q : Value → Hp → Prop) : vMid Try.prog tephralaw01_awake.cf J tephralaw01_awake.fn [1, 1, 1, 1, 0] [0, 0, 0, 0, 0] 14 Q (tephralaw01_awake.k2.st x3 x7 H6) = tephralaw01_awake.k2.body J x3 x7 H6 Q := by kernel_rfl
theorem tephralaw01_awake.k2.step {x3 : Option Addr} {x7 : Bool} {H6 : Hp} {Q : Value → Hp → Prop} (h : tephralaw01_awake.k2.body J0 x3 x7 H6 Q) : tephralaw01_awake.k2 J0 x3 x7 H6 Q := step_of (vMid Try.prog tephralaw01_awake.cf J0 tephralaw01_awake.fn [1, 1, 1, 1, 0] [0, 0, 0, 0, 0] 14 Q) (tephralaw01_awake.k2.st x3 x7 H6) (tephralaw01_awake.k2.eq J0 x3 x7 H6 Q) (by kernel_rfl) h
def tephralaw01_awake.k3.body (J : Jn) (x3 : Option Addr) (x9 : Bool) (H8 : Hp) (Q : Value → Hp → Prop) : Prop :=
 
 Br x9 (
 SCalls Try.prog pack_Reader_Done.id [.pointer x3] H8 (fun r6 H9 => ∃ x10 : Bool, r6 = .bool x10 ∧ 
 tephralaw01_awake.k4 J x3 x10 H9 Q))
 (
 tephralaw01_awake.k4 J x3 false H8 Q)
theorem tephralaw01_awake.k3.eq (J : Jn) (x3 : Option Addr) (x9 : Bool) (H8 : Hp) (Q : Value → Hp → Prop) : vMid Try.prog tephralaw01_awake.cf J tephralaw01_awake.fn [1, 1, 1, 1, 0] [0, 0, 0, 0, 0] 19 Q (tephralaw01_awake.k3.st x3 x9 H8) = tephralaw01_awake.k3.body J x3 x9 H8 Q := by kernel_rfl
theorem tephralaw01_awake.k3.step {x3 : Option Addr} {x9 : Bool} {H8 : Hp} {Q : Value → Hp → Prop} (h : tephralaw01_awake.k3.body J0 x3 x9 H8 Q) : tephralaw01_awake.k3 J0 x3 x9 H8 Q := step_of (vMid Try.prog tephralaw01_awake.cf J0 tephralaw01_awake.fn [1, 1, 1, 1, 0] [0, 0, 0, 0, 0] 19 Q) (tephralaw01_awake.k3.st x3 x9 H8) (tephralaw01_awake.k3.eq J0 x3 x9 H8 Q) (by kernel_rfl) h
def tephralaw01_awake.k4.body (J : Jn) (x3 : Option Addr) (x11 : Bool) (H10 : Hp) (Q : Value → Hp → Prop) : Prop :=
 
 Br x11 (
 SCalls Try.prog pack_Reader_Byte.id [.pointer x3] H10 (fun r7 H11 => ∃ x12 : Int, r7 = .int .u8 x12 ∧ 
 tephralaw01_awake.k5 J x3 (x12 == 0) H11 Q))
 (
 tephralaw01_awake.k5 J x3 false H10 Q)
theorem tephralaw01_awake.k4.eq (J : Jn) (x3 : Option Addr) (x11 : Bool) (H10 : Hp) (Q : Value → Hp → Prop) : vMid Try.prog tephralaw01_awake.cf J tephralaw01_awake.fn [1, 1, 1, 1, 0] [0, 0, 0, 0, 0] 23 Q (tephralaw01_awake.k4.st x3 x11 H10) = tephralaw01_awake.k4.body J x3 x11 H10 Q := by kernel_rfl
theorem tephralaw01_awake.k4.step {x3 : Option Addr} {x11 : Bool} {H10 : Hp} {Q : Value → Hp → Prop} (h : tephralaw01_awake.k4.body J0 x3 x11 H10 Q) : tephralaw01_awake.k4 J0 x3 x11 H10 Q := step_of (vMid Try.prog tephralaw01_awake.cf J0 tephralaw01_awake.fn [1, 1, 1, 1, 0] [0, 0, 0, 0, 0] 23 Q) (tephralaw01_awake.k4.st x3 x11 H10) (tephralaw01_awake.k4.eq J0 x3 x11 H10 Q) (by kernel_rfl) h
def tephralaw01_awake.k5.body (J : Jn) (x3 : Option Addr) (x13 : Bool) (H12 : Hp) (Q : Value → Hp → Prop) : Prop :=
 
 Br x13 (
 SCalls Try.prog pack_Reader_Bad.id [.pointer x3] H12 (fun r8 H13 => ∃ x14 : Bool, r8 = .bool x14 ∧ Q (.bool x14) H13))
 (Q (.bool false) H12)
theorem tephralaw01_awake.k5.eq (J : Jn) (x3 : Option Addr) (x13 : Bool) (H12 : Hp) (Q : Value → Hp → Prop) : vMid Try.prog tephralaw01_awake.cf J tephralaw01_awake.fn [1, 1, 1, 1, 0] [0, 0, 0, 0, 0] 28 Q (tephralaw01_awake.k5.st x3 x13 H12) = tephralaw01_awake.k5.body J x3 x13 H12 Q := by kernel_rfl
theorem tephralaw01_awake.k5.step {x3 : Option Addr} {x13 : Bool} {H12 : Hp} {Q : Value → Hp → Prop} (h : tephralaw01_awake.k5.body J0 x3 x13 H12 Q) : tephralaw01_awake.k5 J0 x3 x13 H12 Q := step_of (vMid Try.prog tephralaw01_awake.cf J0 tephralaw01_awake.fn [1, 1, 1, 1, 0] [0, 0, 0, 0, 0] 28 Q) (tephralaw01_awake.k5.st x3 x13 H12) (tephralaw01_awake.k5.eq J0 x3 x13 H12 Q) (by kernel_rfl) h
def tephralaw01_awake.vc (J : Jn) (H : Hp) (Q : Value → Hp → Prop) : Prop :=
 
 SCalls Try.prog pack_Writer_Num.id [.pointer (some (Addr.mk (Array.size H) 0 none)), .int .i64 (-2)] (Array.push H (.cells #[.slice none 0 0] T_pack_Writer)) (fun r H1 => ∃ x : Option Addr, r = .pointer x ∧ 
 SCalls Try.prog pack_Writer_Text.id [.pointer x, .string (ByteArray.mk #[97, 98])] H1 (fun r1 H2 => ∃ x1 : Option Addr, r1 = .pointer x1 ∧ 
 SCalls Try.prog pack_Writer_Bytes.id [.pointer x1] H2 (fun r2 H3 => ∃ x2 : Sl, r2 = .slice x2.a x2.len x2.cap ∧ 
 SCalls Try.prog pack_Of.id [.slice x2.a x2.len x2.cap] H3 (fun r3 H4 => ∃ x3 : Option Addr, r3 = .pointer x3 ∧ 
 Br (((x2.len : Nat) : Int) == 18) (((0 : Int) ≤ 0 ∧ (0 : Int) < ((x2.len : Nat) : Int)) ∧ vPtr x2.a (fun a => ∃ x4 : Int, Hp.cell? H4 a = some (.int .u8 x4) ∧ 
 tephralaw01_awake.k1 J H4 x3 (x4 == 255) Q))
 (
 tephralaw01_awake.k1 J H4 x3 false Q)))))
theorem tephralaw01_awake.eq (J : Jn) (H : Hp) (Q : Value → Hp → Prop) : vFn Try.prog tephralaw01_awake.cf J tephralaw01_awake.fn [] H Q = tephralaw01_awake.vc J H Q := by kernel_rfl
theorem tephralaw01_awake.calls {H : Hp} {Q : Value → Hp → Prop} (h : tephralaw01_awake.vc J0 H Q) : SCalls Try.prog tephralaw01_awake.id [] H Q := vFn_of Try.mixed Try.func10 (tephralaw01_awake.eq J0 H Q) h

/-! 11: tephra/pack.Of -/
def pack_Of.cf : Cfg := ⟨[], [], [], []⟩
def pack_Of.vc (J : Jn) (b : Sl) (H : Hp) (Q : Value → Hp → Prop) : Prop :=
 Q (.pointer (some (Addr.mk (Array.size H) 0 none))) (Array.push H (.cells #[.slice b.a b.len b.cap, .bool false] T_pack_Reader))
theorem pack_Of.eq (J : Jn) (b : Sl) (H : Hp) (Q : Value → Hp → Prop) : vFn Try.prog pack_Of.cf J pack_Of.fn [.slice b.a b.len b.cap] H Q = pack_Of.vc J b H Q := by kernel_rfl
theorem pack_Of.calls {b : Sl} {H : Hp} {Q : Value → Hp → Prop} (h : pack_Of.vc J0 b H Q) : SCalls Try.prog pack_Of.id [.slice b.a b.len b.cap] H Q := vFn_of Try.mixed Try.func11 (pack_Of.eq J0 b H Q) h

/-! 12: (*tephra/pack.Reader).Num -/
def pack_Reader_Num.cf : Cfg := ⟨[], [(3, [3, 7, 8, 9])], [], []⟩
def pack_Reader_Num.l1.st (x : Sl) (H2 : Hp) (n : Int) (x1 : Int) : VS := ⟨mkFr 20 [(3, .v (.int .i64 n)), (7, .v (.slice x.a x.len x.cap)), (8, .v (.int .i64 ((x.len : Nat) : Int))), (9, .v (.int .i64 x1))], [], H2⟩
def pack_Reader_Num.l1 (J : Jn) (x : Sl) (H2 : Hp) (n : Int) (x1 : Int) (Q : Value → Hp → Prop) : Prop := vAt Try.prog pack_Reader_Num.cf J pack_Reader_Num.fn [1, 1, 0, 1, 0] [0, 0, 0, 0] Q (pack_Reader_Num.l1.st x H2 n x1)
attribute [irreducible] pack_Reader_Num.l1
def pack_Reader_Num.l1.body (J : Jn) (x : Sl) (H2 : Hp) (n : Int) (x1 : Int) (Q : Value → Hp → Prop) : Prop :=
 
 Br (decide (x1 < ((x.len : Nat) : Int))) (((0 : Int) ≤ x1 ∧ x1 < ((x.len : Nat) : Int)) ∧ vPtr x.a (fun a => ∃ x2 : Int, Hp.cell? H2 (a.add ((x1 : Int).toNat * 1)) = some (.int .u8 x2) ∧ (0 : Int) ≤ 8 ∧ 
 pack_Reader_Num.l1 J x H2 (bor .i64 (w64 (n * 2 ^ 8)) (w64 (x2))) (w64 (x1 + 1)) Q))
 (Q (.int .i64 n) H2)
theorem pack_Reader_Num.l1.eq (J : Jn) (x : Sl) (H2 : Hp) (n : Int) (x1 : Int) (Q : Value → Hp → Prop) : vAtBody Try.prog pack_Reader_Num.cf J pack_Reader_Num.fn [1, 1, 0, 1, 0] [0, 0, 0, 0] Q (pack_Reader_Num.l1.st x H2 n x1) = pack_Reader_Num.l1.body J x H2 n x1 Q := by kernel_rfl
theorem pack_Reader_Num.l1.step {x : Sl} {H2 : Hp} {n : Int} {x1 : Int} {Q : Value → Hp → Prop} (h : pack_Reader_Num.l1.body J0 x H2 n x1 Q) : pack_Reader_Num.l1 J0 x H2 n x1 Q := vAt_stepC (pack_Reader_Num.l1.st x H2 n x1) (pack_Reader_Num.l1.eq J0 x H2 n x1 Q) (by kernel_rfl) h
def pack_Reader_Num.vc (J : Jn) (r : Addr) (H : Hp) (Q : Value → Hp → Prop) : Prop :=
 
 SCalls Try.prog pack_Reader_take.id [.pointer (some r), .int .i64 8] H (fun r1 H1 => ∃ x : Sl, r1 = .slice x.a x.len x.cap ∧ 
 pack_Reader_Num.l1 J x H1 0 0 Q)
theorem pack_Reader_Num.eq (J : Jn) (r : Addr) (H : Hp) (Q : Value → Hp → Prop) : vFn Try.prog pack_Reader_Num.cf J pack_Reader_Num.fn [.pointer (some r)] H Q = pack_Reader_Num.vc J r H Q := by kernel_rfl
theorem pack_Reader_Num.calls {r : Addr} {H : Hp} {Q : Value → Hp → Prop} (h : pack_Reader_Num.vc J0 r H Q) : SCalls Try.prog pack_Reader_Num.id [.pointer (some r)] H Q := vFn_of Try.mixed Try.func12 (pack_Reader_Num.eq J0 r H Q) h

/-! 13: (*tephra/pack.Reader).Byte -/
def pack_Reader_Byte.cf : Cfg := ⟨[], [(2, [6, 7, 8])], [], []⟩
def pack_Reader_Byte.l1.st (x : Sl) (H2 : Hp) : VS := ⟨mkFr 14 [(6, .v (.slice x.a x.len x.cap)), (7, .v (.int .i64 ((x.len : Nat) : Int))), (8, .v (.int .i64 0))], [], H2⟩
def pack_Reader_Byte.l1 (J : Jn) (x : Sl) (H2 : Hp) (Q : Value → Hp → Prop) : Prop := vAt Try.prog pack_Reader_Byte.cf J pack_Reader_Byte.fn [1, 0, 1, 0] [0, 0, 0] Q (pack_Reader_Byte.l1.st x H2)
attribute [irreducible] pack_Reader_Byte.l1
def pack_Reader_Byte.l1.body (J : Jn) (x : Sl) (H2 : Hp) (Q : Value → Hp → Prop) : Prop :=
 
 Br (decide ((0 : Int) < ((x.len : Nat) : Int))) (((0 : Int) ≤ 0 ∧ (0 : Int) < ((x.len : Nat) : Int)) ∧ vPtr x.a (fun a => ∃ x1 : Int, Hp.cell? H2 a = some (.int .u8 x1) ∧ Q (.int .u8 x1) H2))
 (Q (.int .u8 0) H2)
theorem pack_Reader_Byte.l1.eq (J : Jn) (x : Sl) (H2 : Hp) (Q : Value → Hp → Prop) : vAtBody Try.prog pack_Reader_Byte.cf J pack_Reader_Byte.fn [1, 0, 1, 0] [0, 0, 0] Q (pack_Reader_Byte.l1.st x H2) = pack_Reader_Byte.l1.body J x H2 Q := by kernel_rfl
theorem pack_Reader_Byte.l1.step {x : Sl} {H2 : Hp} {Q : Value → Hp → Prop} (h : pack_Reader_Byte.l1.body J0 x H2 Q) : pack_Reader_Byte.l1 J0 x H2 Q := vAt_stepC (pack_Reader_Byte.l1.st x H2) (pack_Reader_Byte.l1.eq J0 x H2 Q) (by kernel_rfl) h
def pack_Reader_Byte.vc (J : Jn) (r : Addr) (H : Hp) (Q : Value → Hp → Prop) : Prop :=
 
 SCalls Try.prog pack_Reader_take.id [.pointer (some r), .int .i64 1] H (fun r1 H1 => ∃ x : Sl, r1 = .slice x.a x.len x.cap ∧ 
 pack_Reader_Byte.l1 J x H1 Q)
theorem pack_Reader_Byte.eq (J : Jn) (r : Addr) (H : Hp) (Q : Value → Hp → Prop) : vFn Try.prog pack_Reader_Byte.cf J pack_Reader_Byte.fn [.pointer (some r)] H Q = pack_Reader_Byte.vc J r H Q := by kernel_rfl
theorem pack_Reader_Byte.calls {r : Addr} {H : Hp} {Q : Value → Hp → Prop} (h : pack_Reader_Byte.vc J0 r H Q) : SCalls Try.prog pack_Reader_Byte.id [.pointer (some r)] H Q := vFn_of Try.mixed Try.func13 (pack_Reader_Byte.eq J0 r H Q) h

/-! 14: (*tephra/pack.Reader).Text -/
def pack_Reader_Text.cf : Cfg := ⟨[], [], [], []⟩
def pack_Reader_Text.vc (J : Jn) (r : Addr) (H : Hp) (Q : Value → Hp → Prop) : Prop :=
 
 SCalls Try.prog pack_Reader_Num.id [.pointer (some r)] H (fun r1 H1 => ∃ x : Int, r1 = .int .i64 x ∧ 
 SCalls Try.prog pack_Reader_take.id [.pointer (some r), .int .i64 x] H1 (fun r2 H2 => ∃ x1 : Sl, r2 = .slice x1.a x1.len x1.cap ∧ vB2S H2 x1.a x1.len (fun s => Q (.string s) H2)))
theorem pack_Reader_Text.eq (J : Jn) (r : Addr) (H : Hp) (Q : Value → Hp → Prop) : vFn Try.prog pack_Reader_Text.cf J pack_Reader_Text.fn [.pointer (some r)] H Q = pack_Reader_Text.vc J r H Q := by kernel_rfl
theorem pack_Reader_Text.calls {r : Addr} {H : Hp} {Q : Value → Hp → Prop} (h : pack_Reader_Text.vc J0 r H Q) : SCalls Try.prog pack_Reader_Text.id [.pointer (some r)] H Q := vFn_of Try.mixed Try.func14 (pack_Reader_Text.eq J0 r H Q) h

/-! 15: (*tephra/pack.Reader).Bad -/
def pack_Reader_Bad.cf : Cfg := ⟨[], [], [], []⟩
def pack_Reader_Bad.vc (J : Jn) (r : Addr) (H : Hp) (Q : Value → Hp → Prop) : Prop :=
 ∃ bad : Bool, Hp.cell? H (r.add 1) = some (.bool bad) ∧ Q (.bool bad) H
theorem pack_Reader_Bad.eq (J : Jn) (r : Addr) (H : Hp) (Q : Value → Hp → Prop) : vFn Try.prog pack_Reader_Bad.cf J pack_Reader_Bad.fn [.pointer (some r)] H Q = pack_Reader_Bad.vc J r H Q := by kernel_rfl
theorem pack_Reader_Bad.calls {r : Addr} {H : Hp} {Q : Value → Hp → Prop} (h : pack_Reader_Bad.vc J0 r H Q) : SCalls Try.prog pack_Reader_Bad.id [.pointer (some r)] H Q := vFn_of Try.mixed Try.func15 (pack_Reader_Bad.eq J0 r H Q) h

/-! 16: (*tephra/pack.Reader).Done -/
def pack_Reader_Done.cf : Cfg := ⟨[], [], [], []⟩
def pack_Reader_Done.vc (J : Jn) (r : Addr) (H : Hp) (Q : Value → Hp → Prop) : Prop :=
 ∃ bad : Bool, Hp.cell? H (r.add 1) = some (.bool bad) ∧ 
 Br (!bad) (∃ b : Sl, Hp.cell? H r = some (.slice b.a b.len b.cap) ∧ Q (.bool (((b.len : Nat) : Int) == 0)) H)
 (Q (.bool false) H)
theorem pack_Reader_Done.eq (J : Jn) (r : Addr) (H : Hp) (Q : Value → Hp → Prop) : vFn Try.prog pack_Reader_Done.cf J pack_Reader_Done.fn [.pointer (some r)] H Q = pack_Reader_Done.vc J r H Q := by kernel_rfl
theorem pack_Reader_Done.calls {r : Addr} {H : Hp} {Q : Value → Hp → Prop} (h : pack_Reader_Done.vc J0 r H Q) : SCalls Try.prog pack_Reader_Done.id [.pointer (some r)] H Q := vFn_of Try.mixed Try.func16 (pack_Reader_Done.eq J0 r H Q) h

/-! 17: (*tephra/pack.Writer).Text -/
def pack_Writer_Text.cf : Cfg := ⟨[], [], [], []⟩
def pack_Writer_Text.vc (J : Jn) (w : Addr) (s : ByteArray) (H : Hp) (Q : Value → Hp → Prop) : Prop :=
 
 SCalls Try.prog pack_Writer_Num.id [.pointer (some w), .int .i64 ((s.size : Nat) : Int)] H (fun r H1 => ∃ x : Option Addr, r = .pointer x ∧ ∃ b : Sl, Hp.cell? H1 w = some (.slice b.a b.len b.cap) ∧ 
 vApp Try.prog T_sl_uint8 b.a b.len b.cap (.string s) H1 (fun ap H2 => WrAt H2 w 1 ∧ Q (.pointer (some w)) (Hp.setCell H2 w (.slice ap.a ap.len ap.cap))))
theorem pack_Writer_Text.eq (J : Jn) (w : Addr) (s : ByteArray) (H : Hp) (Q : Value → Hp → Prop) : vFn Try.prog pack_Writer_Text.cf J pack_Writer_Text.fn [.pointer (some w), .string s] H Q = pack_Writer_Text.vc J w s H Q := by kernel_rfl
theorem pack_Writer_Text.calls {w : Addr} {s : ByteArray} {H : Hp} {Q : Value → Hp → Prop} (h : pack_Writer_Text.vc J0 w s H Q) : SCalls Try.prog pack_Writer_Text.id [.pointer (some w), .string s] H Q := vFn_of Try.mixed Try.func17 (pack_Writer_Text.eq J0 w s H Q) h

/-! 18: (*tephra/pack.Writer).Bytes -/
def pack_Writer_Bytes.cf : Cfg := ⟨[], [], [], []⟩
def pack_Writer_Bytes.vc (J : Jn) (w : Addr) (H : Hp) (Q : Value → Hp → Prop) : Prop :=
 ∃ b : Sl, Hp.cell? H w = some (.slice b.a b.len b.cap) ∧ 
 vApp Try.prog T_sl_uint8 none 0 0 (.slice b.a b.len b.cap) H (fun ap H1 => Q (.slice ap.a ap.len ap.cap) H1)
theorem pack_Writer_Bytes.eq (J : Jn) (w : Addr) (H : Hp) (Q : Value → Hp → Prop) : vFn Try.prog pack_Writer_Bytes.cf J pack_Writer_Bytes.fn [.pointer (some w)] H Q = pack_Writer_Bytes.vc J w H Q := by kernel_rfl
theorem pack_Writer_Bytes.calls {w : Addr} {H : Hp} {Q : Value → Hp → Prop} (h : pack_Writer_Bytes.vc J0 w H Q) : SCalls Try.prog pack_Writer_Bytes.id [.pointer (some w)] H Q := vFn_of Try.mixed Try.func18 (pack_Writer_Bytes.eq J0 w H Q) h

/-! 19: (*tephra/pack.Writer).Num -/
def pack_Writer_Num.cf : Cfg := ⟨[], [(2, [0, 1, 5])], [], []⟩
def pack_Writer_Num.l1.st (w : Addr) (n : Int) (H1 : Hp) (k : Int) : VS := ⟨mkFr 25 [(0, .v (.pointer (some w))), (1, .v (.int .i64 n)), (5, .v (.int .i64 k))], [], H1⟩
def pack_Writer_Num.l1 (J : Jn) (w : Addr) (n : Int) (H1 : Hp) (k : Int) (Q : Value → Hp → Prop) : Prop := vAt Try.prog pack_Writer_Num.cf J pack_Writer_Num.fn [1, 0, 1, 0] [0, 0, 0] Q (pack_Writer_Num.l1.st w n H1 k)
attribute [irreducible] pack_Writer_Num.l1
def pack_Writer_Num.l1.body (J : Jn) (w : Addr) (n : Int) (H1 : Hp) (k : Int) (Q : Value → Hp → Prop) : Prop :=
 
 Br (decide (k ≥ 0)) (∃ b : Sl, Hp.cell? H1 w = some (.slice b.a b.len b.cap) ∧ (0 : Int) ≤ (w64 ((8 : Int) * k)) ∧ 
 vApp Try.prog T_sl_uint8 b.a b.len b.cap (.slice (some (Addr.mk (Array.size H1) 0 none)) 1 1) (Array.push H1 (.cells #[.int .u8 (IntKind.u8.wrap ((Int.fdiv n (2 ^ (min ((w64 ((8 : Int) * k)) : Int).toNat 64)))))] T_uint8)) (fun ap H2 => WrAt H2 w 1 ∧ 
 pack_Writer_Num.l1 J w n (Hp.setCell H2 w (.slice ap.a ap.len ap.cap)) (w64 (k - 1)) Q))
 (Q (.pointer (some w)) H1)
theorem pack_Writer_Num.l1.eq (J : Jn) (w : Addr) (n : Int) (H1 : Hp) (k : Int) (Q : Value → Hp → Prop) : vAtBody Try.prog pack_Writer_Num.cf J pack_Writer_Num.fn [1, 0, 1, 0] [0, 0, 0] Q (pack_Writer_Num.l1.st w n H1 k) = pack_Writer_Num.l1.body J w n H1 k Q := by kernel_rfl
theorem pack_Writer_Num.l1.step {w : Addr} {n : Int} {H1 : Hp} {k : Int} {Q : Value → Hp → Prop} (h : pack_Writer_Num.l1.body J0 w n H1 k Q) : pack_Writer_Num.l1 J0 w n H1 k Q := vAt_stepC (pack_Writer_Num.l1.st w n H1 k) (pack_Writer_Num.l1.eq J0 w n H1 k Q) (by kernel_rfl) h
def pack_Writer_Num.vc (J : Jn) (w : Addr) (n : Int) (H : Hp) (Q : Value → Hp → Prop) : Prop :=
 
 pack_Writer_Num.l1 J w n H 7 Q
theorem pack_Writer_Num.eq (J : Jn) (w : Addr) (n : Int) (H : Hp) (Q : Value → Hp → Prop) : vFn Try.prog pack_Writer_Num.cf J pack_Writer_Num.fn [.pointer (some w), .int .i64 n] H Q = pack_Writer_Num.vc J w n H Q := by kernel_rfl
theorem pack_Writer_Num.calls {w : Addr} {n : Int} {H : Hp} {Q : Value → Hp → Prop} (h : pack_Writer_Num.vc J0 w n H Q) : SCalls Try.prog pack_Writer_Num.id [.pointer (some w), .int .i64 n] H Q := vFn_of Try.mixed Try.func19 (pack_Writer_Num.eq J0 w n H Q) h

/-! 20: tephra/tephralaw01.lay -/
def tephralaw01_lay.cf : Cfg := ⟨[3], [], [], []⟩
def tephralaw01_lay.vc (J : Jn) (w : Addr) (pKind : Int) (pNum : Int) (pText : ByteArray) (H : Hp) (Q : Value → Hp → Prop) : Prop :=
 (3 : Int) ≠ 0 ∧ 
 Br ((Int.tmod pKind 3) == 0) (
 SCalls Try.prog pack_Writer_Num.id [.pointer (some w), .int .i64 pNum] (holes H 1) (fun r H1 => ∃ x : Option Addr, r = .pointer x ∧ Q (.tuple #[]) H1))
 (
 Br ((Int.tmod pKind 3) == 1) (
 SCalls Try.prog pack_Writer_Byte.id [.pointer (some w), .int .u8 (IntKind.u8.wrap (pNum))] (holes H 1) (fun r1 H2 => ∃ x1 : Option Addr, r1 = .pointer x1 ∧ Q (.tuple #[]) H2))
 (
 SCalls Try.prog pack_Writer_Text.id [.pointer (some w), .string pText] (holes H 1) (fun r2 H3 => ∃ x2 : Option Addr, r2 = .pointer x2 ∧ Q (.tuple #[]) H3)))
theorem tephralaw01_lay.eq (J : Jn) (w : Addr) (pKind : Int) (pNum : Int) (pText : ByteArray) (H : Hp) (Q : Value → Hp → Prop) : vFn Try.prog tephralaw01_lay.cf J tephralaw01_lay.fn [.pointer (some w), .agg #[.int .u8 pKind, .int .i64 pNum, .string pText]] H Q = tephralaw01_lay.vc J w pKind pNum pText H Q := by kernel_rfl
theorem tephralaw01_lay.calls {w : Addr} {pKind : Int} {pNum : Int} {pText : ByteArray} {H : Hp} {Q : Value → Hp → Prop} (h : tephralaw01_lay.vc J0 w pKind pNum pText H Q) : SCalls Try.prog tephralaw01_lay.id [.pointer (some w), .agg #[.int .u8 pKind, .int .i64 pNum, .string pText]] H Q := vFn_of Try.mixed Try.func20 (tephralaw01_lay.eq J0 w pKind pNum pText H Q) h

/-! 21: tephra/tephralaw01.bytes -/
def tephralaw01_bytes.cf : Cfg := ⟨[1], [(8, [1, 3, 4, 5])], [(6, [1, 3], true)], []⟩
def tephralaw01_bytes.k1.st (pKind : Int) (pNum : Int) (pText : ByteArray) (H : Hp) (n : Int) : VS := ⟨mkFr 46 [(1, .loc 0 0), (3, .v (.int .i64 n))], [(T_tephralaw01_Part, [.int .u8 pKind, .int .i64 pNum, .string pText])], (holes H 1)⟩
def tephralaw01_bytes.k1 (J : Jn) (pKind : Int) (pNum : Int) (pText : ByteArray) (H : Hp) (n : Int) (Q : Value → Hp → Prop) : Prop := J (vSeg Try.prog tephralaw01_bytes.cf J tephralaw01_bytes.fn [1, 1, 1, 1] [0, 1, 1, 1] Q) (tephralaw01_bytes.k1.st pKind pNum pText H n)
def tephralaw01_bytes.l1.st (pKind : Int) (pNum : Int) (pText : ByteArray) (n : Int) (H1 : Hp) (s1 : ByteArray) (k : Int) : VS := ⟨mkFr 46 [(1, .loc 0 0), (3, .v (.int .i64 n)), (4, .v (.string s1)), (5, .v (.int .i64 k))], [(T_tephralaw01_Part, [.int .u8 pKind, .int .i64 pNum, .string pText])], H1⟩
def tephralaw01_bytes.l1 (J : Jn) (pKind : Int) (pNum : Int) (pText : ByteArray) (n : Int) (H1 : Hp) (s1 : ByteArray) (k : Int) (Q : Value → Hp → Prop) : Prop := vAt Try.prog tephralaw01_bytes.cf J tephralaw01_bytes.fn [1, 1, 1, 1, 1, 0, 1, 0] [0, 1, 1, 1, 1, 1, 1] Q (tephralaw01_bytes.l1.st pKind pNum pText n H1 s1 k)
attribute [irreducible] tephralaw01_bytes.k1 tephralaw01_bytes.l1
def tephralaw01_bytes.k1.body (J : Jn) (pKind : Int) (pNum : Int) (pText : ByteArray) (H : Hp) (n : Int) (Q : Value → Hp → Prop) : Prop :=
 
 tephralaw01_bytes.l1 J pKind pNum pText n (holes H 1) (ByteArray.mk #[]) 7 Q
theorem tephralaw01_bytes.k1.eq (J : Jn) (pKind : Int) (pNum : Int) (pText : ByteArray) (H : Hp) (n : Int) (Q : Value → Hp → Prop) : vSeg Try.prog tephralaw01_bytes.cf J tephralaw01_bytes.fn [1, 1, 1, 1] [0, 1, 1, 1] Q (tephralaw01_bytes.k1.st pKind pNum pText H n) = tephralaw01_bytes.k1.body J pKind pNum pText H n Q := by kernel_rfl
theorem tephralaw01_bytes.k1.step {pKind : Int} {pNum : Int} {pText : ByteArray} {H : Hp} {n : Int} {Q : Value → Hp → Prop} (h : tephralaw01_bytes.k1.body J0 pKind pNum pText H n Q) : tephralaw01_bytes.k1 J0 pKind pNum pText H n Q := step_of (vSeg Try.prog tephralaw01_bytes.cf J0 tephralaw01_bytes.fn [1, 1, 1, 1] [0, 1, 1, 1] Q) (tephralaw01_bytes.k1.st pKind pNum pText H n) (tephralaw01_bytes.k1.eq J0 pKind pNum pText H n Q) (by kernel_rfl) h
def tephralaw01_bytes.l1.body (J : Jn) (pKind : Int) (pNum : Int) (pText : ByteArray) (n : Int) (H1 : Hp) (s1 : ByteArray) (k : Int) (Q : Value → Hp → Prop) : Prop :=
 
 Br (decide (k ≥ 0)) ((0 : Int) ≤ (w64 ((8 : Int) * k)) ∧ vB2S (Array.push H1 (.cells #[.int .u8 (IntKind.u8.wrap ((Int.fdiv n (2 ^ (min ((w64 ((8 : Int) * k)) : Int).toNat 64)))))] T_uint8)) (some (Addr.mk (Array.size H1) 0 none)) 1 (fun s2 => s1.size + s2.size ≤ 9223372036854775807 ∧ 
 tephralaw01_bytes.l1 J pKind pNum pText n (Array.push H1 (.cells #[.int .u8 (IntKind.u8.wrap ((Int.fdiv n (2 ^ (min ((w64 ((8 : Int) * k)) : Int).toNat 64)))))] T_uint8)) (s1 ++ s2) (w64 (k - 1)) Q))
 ((3 : Int) ≠ 0 ∧ 
 Br ((Int.tmod pKind 3) == 2) (s1.size + pText.size ≤ 9223372036854775807 ∧ Q (.string (s1 ++ pText)) H1)
 (Q (.string s1) H1))
theorem tephralaw01_bytes.l1.eq (J : Jn) (pKind : Int) (pNum : Int) (pText : ByteArray) (n : Int) (H1 : Hp) (s1 : ByteArray) (k : Int) (Q : Value → Hp → Prop) : vAtBody Try.prog tephralaw01_bytes.cf J tephralaw01_bytes.fn [1, 1, 1, 1, 1, 0, 1, 0] [0, 1, 1, 1, 1, 1, 1] Q (tephralaw01_bytes.l1.st pKind pNum pText n H1 s1 k) = tephralaw01_bytes.l1.body J pKind pNum pText n H1 s1 k Q := by kernel_rfl
theorem tephralaw01_bytes.l1.step {pKind : Int} {pNum : Int} {pText : ByteArray} {n : Int} {H1 : Hp} {s1 : ByteArray} {k : Int} {Q : Value → Hp → Prop} (h : tephralaw01_bytes.l1.body J0 pKind pNum pText n H1 s1 k Q) : tephralaw01_bytes.l1 J0 pKind pNum pText n H1 s1 k Q := vAt_stepC (tephralaw01_bytes.l1.st pKind pNum pText n H1 s1 k) (tephralaw01_bytes.l1.eq J0 pKind pNum pText n H1 s1 k Q) (by kernel_rfl) h
def tephralaw01_bytes.vc (J : Jn) (pKind : Int) (pNum : Int) (pText : ByteArray) (H : Hp) (Q : Value → Hp → Prop) : Prop :=
 (3 : Int) ≠ 0 ∧ 
 Br ((Int.tmod pKind 3) == 1) (vB2S (Array.push (holes H 1) (.cells #[.int .u8 (IntKind.u8.wrap (pNum))] T_uint8)) (some (Addr.mk (Array.size (holes H 1)) 0 none)) 1 (fun s => Q (.string s) (Array.push (holes H 1) (.cells #[.int .u8 (IntKind.u8.wrap (pNum))] T_uint8))))
 ((3 : Int) ≠ 0 ∧ 
 Br ((Int.tmod pKind 3) == 2) (
 tephralaw01_bytes.k1 J pKind pNum pText H ((pText.size : Nat) : Int) Q)
 (
 tephralaw01_bytes.k1 J pKind pNum pText H pNum Q))
theorem tephralaw01_bytes.eq (J : Jn) (pKind : Int) (pNum : Int) (pText : ByteArray) (H : Hp) (Q : Value → Hp → Prop) : vFn Try.prog tephralaw01_bytes.cf J tephralaw01_bytes.fn [.agg #[.int .u8 pKind, .int .i64 pNum, .string pText]] H Q = tephralaw01_bytes.vc J pKind pNum pText H Q := by kernel_rfl
theorem tephralaw01_bytes.calls {pKind : Int} {pNum : Int} {pText : ByteArray} {H : Hp} {Q : Value → Hp → Prop} (h : tephralaw01_bytes.vc J0 pKind pNum pText H Q) : SCalls Try.prog tephralaw01_bytes.id [.agg #[.int .u8 pKind, .int .i64 pNum, .string pText]] H Q := vFn_of Try.mixed Try.func21 (tephralaw01_bytes.eq J0 pKind pNum pText H Q) h

/-! 22: tephra/tephralaw01.reads -/
def tephralaw01_reads.cf : Cfg := ⟨[3], [], [], []⟩
def tephralaw01_reads.vc (J : Jn) (r : Addr) (pKind : Int) (pNum : Int) (pText : ByteArray) (H : Hp) (Q : Value → Hp → Prop) : Prop :=
 (3 : Int) ≠ 0 ∧ 
 Br ((Int.tmod pKind 3) == 0) (
 SCalls Try.prog pack_Reader_Num.id [.pointer (some r)] (holes H 1) (fun r1 H1 => ∃ x : Int, r1 = .int .i64 x ∧ Q (.bool (x == pNum)) H1))
 (
 Br ((Int.tmod pKind 3) == 1) (
 SCalls Try.prog pack_Reader_Byte.id [.pointer (some r)] (holes H 1) (fun r2 H2 => ∃ x1 : Int, r2 = .int .u8 x1 ∧ Q (.bool (x1 == (IntKind.u8.wrap (pNum)))) H2))
 (
 SCalls Try.prog pack_Reader_Text.id [.pointer (some r)] (holes H 1) (fun r3 H3 => ∃ x2 : ByteArray, r3 = .string x2 ∧ Q (.bool (x2.toList == pText.toList)) H3)))
theorem tephralaw01_reads.eq (J : Jn) (r : Addr) (pKind : Int) (pNum : Int) (pText : ByteArray) (H : Hp) (Q : Value → Hp → Prop) : vFn Try.prog tephralaw01_reads.cf J tephralaw01_reads.fn [.pointer (some r), .agg #[.int .u8 pKind, .int .i64 pNum, .string pText]] H Q = tephralaw01_reads.vc J r pKind pNum pText H Q := by kernel_rfl
theorem tephralaw01_reads.calls {r : Addr} {pKind : Int} {pNum : Int} {pText : ByteArray} {H : Hp} {Q : Value → Hp → Prop} (h : tephralaw01_reads.vc J0 r pKind pNum pText H Q) : SCalls Try.prog tephralaw01_reads.id [.pointer (some r), .agg #[.int .u8 pKind, .int .i64 pNum, .string pText]] H Q := vFn_of Try.mixed Try.func22 (tephralaw01_reads.eq J0 r pKind pNum pText H Q) h

/-! 23: (*tephra/pack.Writer).Byte -/
def pack_Writer_Byte.cf : Cfg := ⟨[], [], [], []⟩
def pack_Writer_Byte.vc (J : Jn) (w : Addr) (c : Int) (H : Hp) (Q : Value → Hp → Prop) : Prop :=
 ∃ b : Sl, Hp.cell? H w = some (.slice b.a b.len b.cap) ∧ 
 vApp Try.prog T_sl_uint8 b.a b.len b.cap (.slice (some (Addr.mk (Array.size H) 0 none)) 1 1) (Array.push H (.cells #[.int .u8 c] T_uint8)) (fun ap H1 => WrAt H1 w 1 ∧ Q (.pointer (some w)) (Hp.setCell H1 w (.slice ap.a ap.len ap.cap)))
theorem pack_Writer_Byte.eq (J : Jn) (w : Addr) (c : Int) (H : Hp) (Q : Value → Hp → Prop) : vFn Try.prog pack_Writer_Byte.cf J pack_Writer_Byte.fn [.pointer (some w), .int .u8 c] H Q = pack_Writer_Byte.vc J w c H Q := by kernel_rfl
theorem pack_Writer_Byte.calls {w : Addr} {c : Int} {H : Hp} {Q : Value → Hp → Prop} (h : pack_Writer_Byte.vc J0 w c H Q) : SCalls Try.prog pack_Writer_Byte.id [.pointer (some w), .int .u8 c] H Q := vFn_of Try.mixed Try.func23 (pack_Writer_Byte.eq J0 w c H Q) h

/-! 24: (*tephra/pack.Reader).take -/
def pack_Reader_take.cf : Cfg := ⟨[], [], [(2, [0, 1], true)], [(14, [0, 1, 6, 14]), (23, [0, 1, 6, 23])]⟩
def pack_Reader_take.k1.st (r : Addr) (n : Int) (H : Hp) (x : Bool) : VS := ⟨mkFr 46 [(0, .v (.pointer (some r))), (1, .v (.int .i64 n)), (6, .v (.pointer (some r))), (14, .v (.bool x))], [], H⟩
def pack_Reader_take.k1 (J : Jn) (r : Addr) (n : Int) (H : Hp) (x : Bool) (Q : Value → Hp → Prop) : Prop := J (vMid Try.prog pack_Reader_take.cf J pack_Reader_take.fn [1, 0, 0] [0, 0, 0] 9 Q) (pack_Reader_take.k1.st r n H x)
def pack_Reader_take.k2.st (r : Addr) (n : Int) (H : Hp) (x1 : Bool) : VS := ⟨mkFr 46 [(0, .v (.pointer (some r))), (1, .v (.int .i64 n)), (6, .v (.pointer (some r))), (23, .v (.bool x1))], [], H⟩
def pack_Reader_take.k2 (J : Jn) (r : Addr) (n : Int) (H : Hp) (x1 : Bool) (Q : Value → Hp → Prop) : Prop := J (vMid Try.prog pack_Reader_take.cf J pack_Reader_take.fn [1, 0, 0] [0, 0, 0] 18 Q) (pack_Reader_take.k2.st r n H x1)
def pack_Reader_take.k3.st (r : Addr) (n : Int) (H : Hp) (x1 : Bool) : VS := ⟨mkFr 46 [(0, .v (.pointer (some r))), (1, .v (.int .i64 n))], [], (Hp.setCell H (r.add 1) (.bool x1))⟩
def pack_Reader_take.k3 (J : Jn) (r : Addr) (n : Int) (H : Hp) (x1 : Bool) (Q : Value → Hp → Prop) : Prop := J (vSeg Try.prog pack_Reader_take.cf J pack_Reader_take.fn [1, 0, 1] [0, 0, 0] Q) (pack_Reader_take.k3.st r n H x1)
attribute [irreducible] pack_Reader_take.k1 pack_Reader_take.k2 pack_Reader_take.k3
def pack_Reader_take.k1.body (J : Jn) (r : Addr) (n : Int) (H : Hp) (x : Bool) (Q : Value → Hp → Prop) : Prop :=
 
 Br x (
 pack_Reader_take.k2 J r n H true Q)
 (∃ b : Sl, Hp.cell? H r = some (.slice b.a b.len b.cap) ∧ 
 pack_Reader_take.k2 J r n H (decide (n > ((b.len : Nat) : Int))) Q)
theorem pack_Reader_take.k1.eq (J : Jn) (r : Addr) (n : Int) (H : Hp) (x : Bool) (Q : Value → Hp → Prop) : vMid Try.prog pack_Reader_take.cf J pack_Reader_take.fn [1, 0, 0] [0, 0, 0] 9 Q (pack_Reader_take.k1.st r n H x) = pack_Reader_take.k1.body J r n H x Q := by kernel_rfl
theorem pack_Reader_take.k1.step {r : Addr} {n : Int} {H : Hp} {x : Bool} {Q : Value → Hp → Prop} (h : pack_Reader_take.k1.body J0 r n H x Q) : pack_Reader_take.k1 J0 r n H x Q := step_of (vMid Try.prog pack_Reader_take.cf J0 pack_Reader_take.fn [1, 0, 0] [0, 0, 0] 9 Q) (pack_Reader_take.k1.st r n H x) (pack_Reader_take.k1.eq J0 r n H x Q) (by kernel_rfl) h
def pack_Reader_take.k2.body (J : Jn) (r : Addr) (n : Int) (H : Hp) (x1 : Bool) (Q : Value → Hp → Prop) : Prop :=
 WrAt H (r.add 1) 1 ∧ 
 pack_Reader_take.k3 J r n H x1 Q
theorem pack_Reader_take.k2.eq (J : Jn) (r : Addr) (n : Int) (H : Hp) (x1 : Bool) (Q : Value → Hp → Prop) : vMid Try.prog pack_Reader_take.cf J pack_Reader_take.fn [1, 0, 0] [0, 0, 0] 18 Q (pack_Reader_take.k2.st r n H x1) = pack_Reader_take.k2.body J r n H x1 Q := by kernel_rfl
theorem pack_Reader_take.k2.step {r : Addr} {n : Int} {H : Hp} {x1 : Bool} {Q : Value → Hp → Prop} (h : pack_Reader_take.k2.body J0 r n H x1 Q) : pack_Reader_take.k2 J0 r n H x1 Q := step_of (vMid Try.prog pack_Reader_take.cf J0 pack_Reader_take.fn [1, 0, 0] [0, 0, 0] 18 Q) (pack_Reader_take.k2.st r n H x1) (pack_Reader_take.k2.eq J0 r n H x1 Q) (by kernel_rfl) h
def pack_Reader_take.k3.body (J : Jn) (r : Addr) (n : Int) (H : Hp) (x1 : Bool) (Q : Value → Hp → Prop) : Prop :=
 ∃ bad1 : Bool, Hp.cell? (Hp.setCell H (r.add 1) (.bool x1)) (r.add 1) = some (.bool bad1) ∧ 
 Br bad1 (Q (.slice none 0 0) (Hp.setCell H (r.add 1) (.bool x1)))
 (∃ b1 : Sl, Hp.cell? (Hp.setCell H (r.add 1) (.bool x1)) r = some (.slice b1.a b1.len b1.cap) ∧ ((0 : Int) ≤ n ∧ n ≤ ((b1.cap : Nat) : Int)) ∧ ∃ b2 : Sl, Hp.cell? (Hp.setCell H (r.add 1) (.bool x1)) r = some (.slice b2.a b2.len b2.cap) ∧ ((0 : Int) ≤ n ∧ n ≤ ((b2.len : Nat) : Int)) ∧ WrAt (Hp.setCell H (r.add 1) (.bool x1)) r 1 ∧ Q (.slice (cutA b1.a b1.cap 0 1) ((n : Int).toNat) b1.cap) (Hp.setCell (Hp.setCell H (r.add 1) (.bool x1)) r (.slice (cutA b2.a b2.cap ((n : Int).toNat) 1) (b2.len - ((n : Int).toNat)) (b2.cap - ((n : Int).toNat)))))
theorem pack_Reader_take.k3.eq (J : Jn) (r : Addr) (n : Int) (H : Hp) (x1 : Bool) (Q : Value → Hp → Prop) : vSeg Try.prog pack_Reader_take.cf J pack_Reader_take.fn [1, 0, 1] [0, 0, 0] Q (pack_Reader_take.k3.st r n H x1) = pack_Reader_take.k3.body J r n H x1 Q := by kernel_rfl
theorem pack_Reader_take.k3.step {r : Addr} {n : Int} {H : Hp} {x1 : Bool} {Q : Value → Hp → Prop} (h : pack_Reader_take.k3.body J0 r n H x1 Q) : pack_Reader_take.k3 J0 r n H x1 Q := step_of (vSeg Try.prog pack_Reader_take.cf J0 pack_Reader_take.fn [1, 0, 1] [0, 0, 0] Q) (pack_Reader_take.k3.st r n H x1) (pack_Reader_take.k3.eq J0 r n H x1 Q) (by kernel_rfl) h
def pack_Reader_take.vc (J : Jn) (r : Addr) (n : Int) (H : Hp) (Q : Value → Hp → Prop) : Prop :=
 ∃ bad : Bool, Hp.cell? H (r.add 1) = some (.bool bad) ∧ 
 Br bad (
 pack_Reader_take.k1 J r n H true Q)
 (
 pack_Reader_take.k1 J r n H (decide (n < 0)) Q)
theorem pack_Reader_take.eq (J : Jn) (r : Addr) (n : Int) (H : Hp) (Q : Value → Hp → Prop) : vFn Try.prog pack_Reader_take.cf J pack_Reader_take.fn [.pointer (some r), .int .i64 n] H Q = pack_Reader_take.vc J r n H Q := by kernel_rfl
theorem pack_Reader_take.calls {r : Addr} {n : Int} {H : Hp} {Q : Value → Hp → Prop} (h : pack_Reader_take.vc J0 r n H Q) : SCalls Try.prog pack_Reader_take.id [.pointer (some r), .int .i64 n] H Q := vFn_of Try.mixed Try.func24 (pack_Reader_take.eq J0 r n H Q) h

/-! 4: tephra/tephralaw01.PackKeeps -/
def tephralaw01_PackKeeps.cf : Cfg := ⟨[], [], [(9, [0, 5, 7, 8], true)], []⟩
def tephralaw01_PackKeeps.k1.st (s : ByteArray) (H1 : Hp) (s1 : ByteArray) (x4 : Sl) (H6 : Hp) : VS := ⟨mkFr 54 [(0, .v (.string s)), (5, .v (.pointer (some (Addr.mk (Array.size H1) 0 none)))), (7, .v (.string s1)), (8, .v (.slice x4.a x4.len x4.cap))], [], H6⟩
def tephralaw01_PackKeeps.k1 (J : Jn) (s : ByteArray) (H1 : Hp) (s1 : ByteArray) (x4 : Sl) (H6 : Hp) (Q : Value → Hp → Prop) : Prop := J (vSeg Try.prog tephralaw01_PackKeeps.cf J tephralaw01_PackKeeps.fn [1, 1, 1, 1, 1, 1, 1] [0, 0, 0, 0, 0, 0, 0] Q) (tephralaw01_PackKeeps.k1.st s H1 s1 x4 H6)
attribute [irreducible] tephralaw01_PackKeeps.k1
def tephralaw01_PackKeeps.k1.body (J : Jn) (s : ByteArray) (H1 : Hp) (s1 : ByteArray) (x4 : Sl) (H6 : Hp) (Q : Value → Hp → Prop) : Prop :=
 ((0 : Int) ≤ ((s1.size : Nat) : Int) ∧ ((s1.size : Nat) : Int) ≤ ((x4.cap : Nat) : Int)) ∧ vB2S H6 (cutA x4.a x4.cap 0 1) ((((s1.size : Nat) : Int) : Int).toNat) (fun s2 => 
 Br (s2.toList == s1.toList) (
  (
 SCalls Try.prog pack_Writer_Bytes.id [.pointer (some (Addr.mk (Array.size H1) 0 none))] H6 (fun r5 H7 => ∃ x6 : Sl, r5 = .slice x6.a x6.len x6.cap ∧ 
  (vB2S H7 x6.a x6.len (fun s3 => vB2S H7 x4.a x4.len (fun s4 => 
 Br (s3.toList == s4.toList) (Q (.bool (((x4.len : Nat) : Int) == (w64 (((s.size : Nat) : Int) + 16)))) H7)
 (Q (.bool false) H7)))) ∧ 
  (vB2S H7 x4.a x4.len (fun s5 => vB2S H7 x6.a x6.len (fun s6 => 
 Br (s6.toList == s5.toList) (Q (.bool (((x4.len : Nat) : Int) == (w64 (((s.size : Nat) : Int) + 16)))) H7)
 (Q (.bool false) H7)))))) ∧ 
  (vB2S H6 x4.a x4.len (fun s7 => 
 SCalls Try.prog pack_Writer_Bytes.id [.pointer (some (Addr.mk (Array.size H1) 0 none))] H6 (fun r6 H8 => ∃ x7 : Sl, r6 = .slice x7.a x7.len x7.cap ∧ vB2S H8 x7.a x7.len (fun s8 => 
 Br (s8.toList == s7.toList) (Q (.bool (((x4.len : Nat) : Int) == (w64 (((s.size : Nat) : Int) + 16)))) H8)
 (Q (.bool false) H8))))))
 (
  (
  (Q (.bool false) H6) ∧ 
  (Q (.bool false) H6)) ∧ 
  (Q (.bool false) H6)))
theorem tephralaw01_PackKeeps.k1.eq (J : Jn) (s : ByteArray) (H1 : Hp) (s1 : ByteArray) (x4 : Sl) (H6 : Hp) (Q : Value → Hp → Prop) : vSeg Try.prog tephralaw01_PackKeeps.cf J tephralaw01_PackKeeps.fn [1, 1, 1, 1, 1, 1, 1] [0, 0, 0, 0, 0, 0, 0] Q (tephralaw01_PackKeeps.k1.st s H1 s1 x4 H6) = tephralaw01_PackKeeps.k1.body J s H1 s1 x4 H6 Q := by kernel_rfl
theorem tephralaw01_PackKeeps.k1.step {s : ByteArray} {H1 : Hp} {s1 : ByteArray} {x4 : Sl} {H6 : Hp} {Q : Value → Hp → Prop} (h : tephralaw01_PackKeeps.k1.body J0 s H1 s1 x4 H6 Q) : tephralaw01_PackKeeps.k1 J0 s H1 s1 x4 H6 Q := step_of (vSeg Try.prog tephralaw01_PackKeeps.cf J0 tephralaw01_PackKeeps.fn [1, 1, 1, 1, 1, 1, 1] [0, 0, 0, 0, 0, 0, 0] Q) (tephralaw01_PackKeeps.k1.st s H1 s1 x4 H6) (tephralaw01_PackKeeps.k1.eq J0 s H1 s1 x4 H6 Q) (by kernel_rfl) h
def tephralaw01_PackKeeps.vc (J : Jn) (s : ByteArray) (n : Int) (H : Hp) (Q : Value → Hp → Prop) : Prop :=
 
 SCalls Try.prog tephralaw01_awake.id [] H (fun r H1 => ∃ x : Bool, r = .bool x ∧ 
 Br (!x) (Q (.bool false) H1)
 (
 SCalls Try.prog pack_Writer_Text.id [.pointer (some (Addr.mk (Array.size H1) 0 none)), .string s] (Array.push H1 (.cells #[.slice none 0 0] T_pack_Writer)) (fun r1 H2 => ∃ x1 : Option Addr, r1 = .pointer x1 ∧ 
 SCalls Try.prog pack_Writer_Bytes.id [.pointer x1] H2 (fun r2 H3 => ∃ x2 : Sl, r2 = .slice x2.a x2.len x2.cap ∧ vB2S H3 x2.a x2.len (fun s1 => 
 SCalls Try.prog pack_Writer_Num.id [.pointer (some (Addr.mk (Array.size H1) 0 none)), .int .i64 n] H3 (fun r3 H4 => ∃ x3 : Option Addr, r3 = .pointer x3 ∧ 
 SCalls Try.prog pack_Writer_Bytes.id [.pointer x3] H4 (fun r4 H5 => ∃ x4 : Sl, r4 = .slice x4.a x4.len x4.cap ∧ 
 Br (decide (((x2.len : Nat) : Int) > 0)) (((0 : Int) ≤ 0 ∧ (0 : Int) < ((x2.len : Nat) : Int)) ∧ vPtr x2.a (fun a => ∃ x5 : Int, Hp.cell? H5 a = some (.int .u8 x5) ∧ ((0 : Int) ≤ 0 ∧ (0 : Int) < ((x2.len : Nat) : Int)) ∧ vPtr x2.a (fun a1 => WrAt H5 a1 1 ∧ 
 tephralaw01_PackKeeps.k1 J s H1 s1 x4 (Hp.setCell H5 a1 (.int .u8 (IntKind.u8.wrap (x5 + 1)))) Q)))
 (
 tephralaw01_PackKeeps.k1 J s H1 s1 x4 H5 Q))))))))
theorem tephralaw01_PackKeeps.eq (J : Jn) (s : ByteArray) (n : Int) (H : Hp) (Q : Value → Hp → Prop) : vFn Try.prog tephralaw01_PackKeeps.cf J tephralaw01_PackKeeps.fn [.string s, .int .i64 n] H Q = tephralaw01_PackKeeps.vc J s n H Q := by kernel_rfl
theorem tephralaw01_PackKeeps.calls {s : ByteArray} {n : Int} {H : Hp} {Q : Value → Hp → Prop} (h : tephralaw01_PackKeeps.vc J0 s n H Q) : SCalls Try.prog tephralaw01_PackKeeps.id [.string s, .int .i64 n] H Q := vFn_of Try.mixed Try.func4 (tephralaw01_PackKeeps.eq J0 s n H Q) h

/-! 6: tephra/tephralaw01.PackLays -/
def tephralaw01_PackLays.cf : Cfg := ⟨[6, 9], [(7, [0, 3, 4, 19, 20, 21]), (16, [7, 41, 42, 43])], [(19, [7, 41, 42, 43, 54], true)], []⟩
def tephralaw01_PackLays.l1.st (ps : Sl) (H1 : Hp) (H2 : Hp) (want : ByteArray) (x1 : Int) : VS := ⟨mkFr 63 [(0, .v (.slice (cutA ps.a ps.cap 0 3) (((if (200 : Int) < ((ps.len : Nat) : Int) then 200 else ((ps.len : Nat) : Int)) : Int).toNat) ps.cap)), (3, .v (.pointer (some (Addr.mk (Array.size H1) 0 none)))), (4, .v (.string want)), (19, .v (.slice (cutA ps.a ps.cap 0 3) (((if (200 : Int) < ((ps.len : Nat) : Int) then 200 else ((ps.len : Nat) : Int)) : Int).toNat) ps.cap)), (20, .v (.int .i64 (((((if (200 : Int) < ((ps.len : Nat) : Int) then 200 else ((ps.len : Nat) : Int)) : Int).toNat) : Nat) : Int))), (21, .v (.int .i64 x1))], [], H2⟩
def tephralaw01_PackLays.l1 (J : Jn) (ps : Sl) (H1 : Hp) (H2 : Hp) (want : ByteArray) (x1 : Int) (Q : Value → Hp → Prop) : Prop := vAt Try.prog tephralaw01_PackLays.cf J tephralaw01_PackLays.fn [1, 1, 1, 1, 1, 0, 1, 0] [0, 0, 0, 0, 0, 0, 0] Q (tephralaw01_PackLays.l1.st ps H1 H2 want x1)
def tephralaw01_PackLays.l2.st (ps : Sl) (x5 : Option Addr) (H8 : Hp) (x6 : Int) : VS := ⟨mkFr 63 [(7, .v (.pointer x5)), (41, .v (.slice (cutA ps.a ps.cap 0 3) (((if (200 : Int) < ((ps.len : Nat) : Int) then 200 else ((ps.len : Nat) : Int)) : Int).toNat) ps.cap)), (42, .v (.int .i64 (((((if (200 : Int) < ((ps.len : Nat) : Int) then 200 else ((ps.len : Nat) : Int)) : Int).toNat) : Nat) : Int))), (43, .v (.int .i64 x6))], [], H8⟩
def tephralaw01_PackLays.l2 (J : Jn) (ps : Sl) (x5 : Option Addr) (H8 : Hp) (x6 : Int) (Q : Value → Hp → Prop) : Prop := vAt Try.prog tephralaw01_PackLays.cf J tephralaw01_PackLays.fn [1, 1, 1, 1, 1, 1, 1, 0, 1, 0] [0, 0, 0, 0, 0, 0, 0, 0, 0] Q (tephralaw01_PackLays.l2.st ps x5 H8 x6)
def tephralaw01_PackLays.k1.st (ps : Sl) (x5 : Option Addr) (x6 : Int) (Kind1 : Int) (Num1 : Int) (Text1 : ByteArray) (x9 : Bool) (H11 : Hp) : VS := ⟨mkFr 63 [(7, .v (.pointer x5)), (41, .v (.slice (cutA ps.a ps.cap 0 3) (((if (200 : Int) < ((ps.len : Nat) : Int) then 200 else ((ps.len : Nat) : Int)) : Int).toNat) ps.cap)), (42, .v (.int .i64 (((((if (200 : Int) < ((ps.len : Nat) : Int) then 200 else ((ps.len : Nat) : Int)) : Int).toNat) : Nat) : Int))), (43, .v (.int .i64 x6)), (54, .v (.bool x9))], [(T_tephralaw01_Part, [.int .u8 Kind1, .int .i64 Num1, .string Text1])], H11⟩
def tephralaw01_PackLays.k1 (J : Jn) (ps : Sl) (x5 : Option Addr) (x6 : Int) (Kind1 : Int) (Num1 : Int) (Text1 : ByteArray) (x9 : Bool) (H11 : Hp) (Q : Value → Hp → Prop) : Prop := J (vSeg Try.prog tephralaw01_PackLays.cf J tephralaw01_PackLays.fn [1, 1, 1, 1, 1, 1, 1, 0, 1, 0, 0, 1, 1, 0, 0, 1, 1] [0, 0, 0, 0, 0, 0, 0, 0, 0, 0, 0, 0, 0, 0, 1] Q) (tephralaw01_PackLays.k1.st ps x5 x6 Kind1 Num1 Text1 x9 H11)
attribute [irreducible] tephralaw01_PackLays.l1 tephralaw01_PackLays.l2 tephralaw01_PackLays.k1
def tephralaw01_PackLays.l1.body (J : Jn) (ps : Sl) (H1 : Hp) (H2 : Hp) (want : ByteArray) (x1 : Int) (Q : Value → Hp → Prop) : Prop :=
 
 Br (decide (x1 < (((((if (200 : Int) < ((ps.len : Nat) : Int) then 200 else ((ps.len : Nat) : Int)) : Int).toNat) : Nat) : Int))) (((0 : Int) ≤ x1 ∧ x1 < (((((if (200 : Int) < ((ps.len : Nat) : Int) then 200 else ((ps.len : Nat) : Int)) : Int).toNat) : Nat) : Int)) ∧ vPtr (cutA ps.a ps.cap 0 3) (fun a => ∃ Kind : Int, ∃ Num : Int, ∃ Text : ByteArray, RowAt H2 (a.add ((x1 : Int).toNat * 3)) [.int .u8 Kind, .int .i64 Num, .string Text] ∧ 
 SCalls Try.prog tephralaw01_lay.id [.pointer (some (Addr.mk (Array.size H1) 0 none)), .agg #[.int .u8 Kind, .int .i64 Num, .string Text]] (holes H2 1) (fun r1 H3 => r1 = .tuple #[] ∧ 
 SCalls Try.prog tephralaw01_bytes.id [.agg #[.int .u8 Kind, .int .i64 Num, .string Text]] H3 (fun r2 H4 => ∃ x2 : ByteArray, r2 = .string x2 ∧ want.size + x2.size ≤ 9223372036854775807 ∧ 
 SCalls Try.prog pack_Writer_Bytes.id [.pointer (some (Addr.mk (Array.size H1) 0 none))] H4 (fun r3 H5 => ∃ x3 : Sl, r3 = .slice x3.a x3.len x3.cap ∧ vB2S H5 x3.a x3.len (fun s => 
 Br (!(s.toList == (want ++ x2).toList)) (Q (.bool false) H5)
 (
 tephralaw01_PackLays.l1 J ps H1 H5 (want ++ x2) (w64 (x1 + 1)) Q)))))))
 (
 SCalls Try.prog pack_Writer_Bytes.id [.pointer (some (Addr.mk (Array.size H1) 0 none))] H2 (fun r4 H6 => ∃ x4 : Sl, r4 = .slice x4.a x4.len x4.cap ∧ 
 SCalls Try.prog pack_Of.id [.slice x4.a x4.len x4.cap] H6 (fun r5 H7 => ∃ x5 : Option Addr, r5 = .pointer x5 ∧ 
 tephralaw01_PackLays.l2 J ps x5 H7 0 Q)))
theorem tephralaw01_PackLays.l1.eq (J : Jn) (ps : Sl) (H1 : Hp) (H2 : Hp) (want : ByteArray) (x1 : Int) (Q : Value → Hp → Prop) : vAtBody Try.prog tephralaw01_PackLays.cf J tephralaw01_PackLays.fn [1, 1, 1, 1, 1, 0, 1, 0] [0, 0, 0, 0, 0, 0, 0] Q (tephralaw01_PackLays.l1.st ps H1 H2 want x1) = tephralaw01_PackLays.l1.body J ps H1 H2 want x1 Q := by kernel_rfl
theorem tephralaw01_PackLays.l1.step {ps : Sl} {H1 : Hp} {H2 : Hp} {want : ByteArray} {x1 : Int} {Q : Value → Hp → Prop} (h : tephralaw01_PackLays.l1.body J0 ps H1 H2 want x1 Q) : tephralaw01_PackLays.l1 J0 ps H1 H2 want x1 Q := vAt_stepC (tephralaw01_PackLays.l1.st ps H1 H2 want x1) (tephralaw01_PackLays.l1.eq J0 ps H1 H2 want x1 Q) (by kernel_rfl) h
def tephralaw01_PackLays.l2.body (J : Jn) (ps : Sl) (x5 : Option Addr) (H8 : Hp) (x6 : Int) (Q : Value → Hp → Prop) : Prop :=
 
 Br (decide (x6 < (((((if (200 : Int) < ((ps.len : Nat) : Int) then 200 else ((ps.len : Nat) : Int)) : Int).toNat) : Nat) : Int))) (((0 : Int) ≤ x6 ∧ x6 < (((((if (200 : Int) < ((ps.len : Nat) : Int) then 200 else ((ps.len : Nat) : Int)) : Int).toNat) : Nat) : Int)) ∧ vPtr (cutA ps.a ps.cap 0 3) (fun a1 => ∃ Kind1 : Int, ∃ Num1 : Int, ∃ Text1 : ByteArray, RowAt H8 (a1.add ((x6 : Int).toNat * 3)) [.int .u8 Kind1, .int .i64 Num1, .string Text1] ∧ 
 SCalls Try.prog pack_Reader_Bad.id [.pointer x5] (holes H8 1) (fun r6 H9 => ∃ x7 : Bool, r6 = .bool x7 ∧ 
 Br x7 (
 tephralaw01_PackLays.k1 J ps x5 x6 Kind1 Num1 Text1 true H9 Q)
 (
 SCalls Try.prog tephralaw01_reads.id [.pointer x5, .agg #[.int .u8 Kind1, .int .i64 Num1, .string Text1]] H9 (fun r7 H10 => ∃ x8 : Bool, r7 = .bool x8 ∧ 
 tephralaw01_PackLays.k1 J ps x5 x6 Kind1 Num1 Text1 (!x8) H10 Q)))))
 (
 SCalls Try.prog pack_Reader_Done.id [.pointer x5] H8 (fun r8 H12 => ∃ x10 : Bool, r8 = .bool x10 ∧ 
 Br x10 (
 SCalls Try.prog pack_Reader_Bad.id [.pointer x5] H12 (fun r9 H13 => ∃ x11 : Bool, r9 = .bool x11 ∧ Q (.bool (!x11)) H13))
 (Q (.bool false) H12)))
theorem tephralaw01_PackLays.l2.eq (J : Jn) (ps : Sl) (x5 : Option Addr) (H8 : Hp) (x6 : Int) (Q : Value → Hp → Prop) : vAtBody Try.prog tephralaw01_PackLays.cf J tephralaw01_PackLays.fn [1, 1, 1, 1, 1, 1, 1, 0, 1, 0] [0, 0, 0, 0, 0, 0, 0, 0, 0] Q (tephralaw01_PackLays.l2.st ps x5 H8 x6) = tephralaw01_PackLays.l2.body J ps x5 H8 x6 Q := by kernel_rfl
theorem tephralaw01_PackLays.l2.step {ps : Sl} {x5 : Option Addr} {H8 : Hp} {x6 : Int} {Q : Value → Hp → Prop} (h : tephralaw01_PackLays.l2.body J0 ps x5 H8 x6 Q) : tephralaw01_PackLays.l2 J0 ps x5 H8 x6 Q := vAt_stepC (tephralaw01_PackLays.l2.st ps x5 H8 x6) (tephralaw01_PackLays.l2.eq J0 ps x5 H8 x6 Q) (by kernel_rfl) h
def tephralaw01_PackLays.k1.body (J : Jn) (ps : Sl) (x5 : Option Addr) (x6 : Int) (Kind1 : Int) (Num1 : Int) (Text1 : ByteArray) (x9 : Bool) (H11 : Hp) (Q : Value → Hp → Prop) : Prop :=
 
 Br x9 (Q (.bool false) H11)
 (
 tephralaw01_PackLays.l2 J ps x5 H11 (w64 (x6 + 1)) Q)
theorem tephralaw01_PackLays.k1.eq (J : Jn) (ps : Sl) (x5 : Option Addr) (x6 : Int) (Kind1 : Int) (Num1 : Int) (Text1 : ByteArray) (x9 : Bool) (H11 : Hp) (Q : Value → Hp → Prop) : vSeg Try.prog tephralaw01_PackLays.cf J tephralaw01_PackLays.fn [1, 1, 1, 1, 1, 1, 1, 0, 1, 0, 0, 1, 1, 0, 0, 1, 1] [0, 0, 0, 0, 0, 0, 0, 0, 0, 0, 0, 0, 0, 0, 1] Q (tephralaw01_PackLays.k1.st ps x5 x6 Kind1 Num1 Text1 x9 H11) = tephralaw01_PackLays.k1.body J ps x5 x6 Kind1 Num1 Text1 x9 H11 Q := by kernel_rfl
theorem tephralaw01_PackLays.k1.step {ps : Sl} {x5 : Option Addr} {x6 : Int} {Kind1 : Int} {Num1 : Int} {Text1 : ByteArray} {x9 : Bool} {H11 : Hp} {Q : Value → Hp → Prop} (h : tephralaw01_PackLays.k1.body J0 ps x5 x6 Kind1 Num1 Text1 x9 H11 Q) : tephralaw01_PackLays.k1 J0 ps x5 x6 Kind1 Num1 Text1 x9 H11 Q := step_of (vSeg Try.prog tephralaw01_PackLays.cf J0 tephralaw01_PackLays.fn [1, 1, 1, 1, 1, 1, 1, 0, 1, 0, 0, 1, 1, 0, 0, 1, 1] [0, 0, 0, 0, 0, 0, 0, 0, 0, 0, 0, 0, 0, 0, 1] Q) (tephralaw01_PackLays.k1.st ps x5 x6 Kind1 Num1 Text1 x9 H11) (tephralaw01_PackLays.k1.eq J0 ps x5 x6 Kind1 Num1 Text1 x9 H11 Q) (by kernel_rfl) h
def tephralaw01_PackLays.vc (J : Jn) (ps : Sl) (H : Hp) (Q : Value → Hp → Prop) : Prop :=
 
 SCalls Try.prog tephralaw01_awake.id [] H (fun r H1 => ∃ x : Bool, r = .bool x ∧ 
 Br (!x) (Q (.bool false) H1)
 (((0 : Int) ≤ (if (200 : Int) < ((ps.len : Nat) : Int) then 200 else ((ps.len : Nat) : Int)) ∧ (if (200 : Int) < ((ps.len : Nat) : Int) then 200 else ((ps.len : Nat) : Int)) ≤ ((ps.cap : Nat) : Int)) ∧ 
 tephralaw01_PackLays.l1 J ps H1 (Array.push H1 (.cells #[.slice none 0 0] T_pack_Writer)) (ByteArray.mk #[]) 0 Q))
theorem tephralaw01_PackLays.eq (J : Jn) (ps : Sl) (H : Hp) (Q : Value → Hp → Prop) : vFn Try.prog tephralaw01_PackLays.cf J tephralaw01_PackLays.fn [.slice ps.a ps.len ps.cap] H Q = tephralaw01_PackLays.vc J ps H Q := by kernel_rfl
theorem tephralaw01_PackLays.calls {ps : Sl} {H : Hp} {Q : Value → Hp → Prop} (h : tephralaw01_PackLays.vc J0 ps H Q) : SCalls Try.prog tephralaw01_PackLays.id [.slice ps.a ps.len ps.cap] H Q := vFn_of Try.mixed Try.func6 (tephralaw01_PackLays.eq J0 ps H Q) h

end Go.Proofs
