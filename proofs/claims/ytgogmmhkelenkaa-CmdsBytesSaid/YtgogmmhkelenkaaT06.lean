/- THE SEAT'S CODE, AS WALKED: for each function what is to be shown of it (printed by the own program gen.py), held by the kernel. -/
import Derived.Test.YtgogmmhkelenkaaProg
import Derived.Test.YtgogmmhkelenkaaKc13
set_option maxRecDepth 100000
set_option linter.all false
set_option linter.constructorNameAsVariable false
namespace Go.Proofs
open Go Go.KC
theorem Try.mixed : Try.prog.follows .mixedOrders = true := by kernel_rfl
abbrev tephralaw06_CmdsMay.id : Nat := 3
noncomputable abbrev tephralaw06_CmdsMay.fn : Func := Try.f3
abbrev tephralaw06_CmdsRight.id : Nat := 4
noncomputable abbrev tephralaw06_CmdsRight.fn : Func := Try.f4
abbrev tephralaw06_CmdsRow.id : Nat := 5
noncomputable abbrev tephralaw06_CmdsRow.fn : Func := Try.f5
abbrev tephralaw06_CmdsBytes.id : Nat := 6
noncomputable abbrev tephralaw06_CmdsBytes.fn : Func := Try.f6
abbrev tephralaw06_CmdsRead.id : Nat := 7
noncomputable abbrev tephralaw06_CmdsRead.fn : Func := Try.f7
abbrev tephralaw06_CmdsApart.id : Nat := 8
noncomputable abbrev tephralaw06_CmdsApart.fn : Func := Try.f8
abbrev tephralaw06_CmdsParts.id : Nat := 9
noncomputable abbrev tephralaw06_CmdsParts.fn : Func := Try.f9
abbrev tephralaw06_awake.id : Nat := 10
noncomputable abbrev tephralaw06_awake.fn : Func := Try.f10
abbrev tephralaw06_Say_Cmd.id : Nat := 11
noncomputable abbrev tephralaw06_Say_Cmd.fn : Func := Try.f11
abbrev cmds_May.id : Nat := 12
noncomputable abbrev cmds_May.fn : Func := Try.f12
abbrev tephralaw06_may.id : Nat := 13
noncomputable abbrev tephralaw06_may.fn : Func := Try.f13
abbrev cmds_Right.id : Nat := 14
noncomputable abbrev cmds_Right.fn : Func := Try.f14
abbrev tephralaw06_right.id : Nat := 15
noncomputable abbrev tephralaw06_right.fn : Func := Try.f15
abbrev tephralaw06_Entries.id : Nat := 16
noncomputable abbrev tephralaw06_Entries.fn : Func := Try.f16
abbrev cmds_Row.id : Nat := 17
noncomputable abbrev cmds_Row.fn : Func := Try.f17
abbrev cmds_Bytes.id : Nat := 18
noncomputable abbrev cmds_Bytes.fn : Func := Try.f18
abbrev cmds_Read.id : Nat := 19
noncomputable abbrev cmds_Read.fn : Func := Try.f19
abbrev tephralaw06_bytes.id : Nat := 20
noncomputable abbrev tephralaw06_bytes.fn : Func := Try.f20
abbrev pack_Writer_Num.id : Nat := 21
noncomputable abbrev pack_Writer_Num.fn : Func := Try.f21
abbrev cmds_put.id : Nat := 22
noncomputable abbrev cmds_put.fn : Func := Try.f22
abbrev pack_Writer_Bytes.id : Nat := 23
noncomputable abbrev pack_Writer_Bytes.fn : Func := Try.f23
abbrev pack_Of.id : Nat := 24
noncomputable abbrev pack_Of.fn : Func := Try.f24
abbrev pack_Reader_Num.id : Nat := 25
noncomputable abbrev pack_Reader_Num.fn : Func := Try.f25
abbrev cmds_get.id : Nat := 26
noncomputable abbrev cmds_get.fn : Func := Try.f26
abbrev pack_Reader_Done.id : Nat := 27
noncomputable abbrev pack_Reader_Done.fn : Func := Try.f27
abbrev pack_Writer_Byte.id : Nat := 28
noncomputable abbrev pack_Writer_Byte.fn : Func := Try.f28
abbrev pack_Writer_Text.id : Nat := 29
noncomputable abbrev pack_Writer_Text.fn : Func := Try.f29
abbrev pack_Reader_take.id : Nat := 30
noncomputable abbrev pack_Reader_take.fn : Func := Try.f30
abbrev pack_Reader_Byte.id : Nat := 31
noncomputable abbrev pack_Reader_Byte.fn : Func := Try.f31
abbrev pack_Reader_Text.id : Nat := 32
noncomputable abbrev pack_Reader_Text.fn : Func := Try.f32
abbrev T_ : Nat := 0
abbrev T_func : Nat := 1
abbrev T_int64 : Nat := 2
abbrev T_int : Nat := 3
abbrev T_bool : Nat := 4
abbrev T_uint8 : Nat := 5
abbrev T_abi_BoundsErrorCode : Nat := 6
abbrev T_struct_x_int64_y_int_signed_bool_code_abi_BoundsErrorCode : Nat := 7
abbrev T_runtime_boundsError : Nat := 8
abbrev T_string : Nat := 9
abbrev T_runtime_errorString : Nat := 10
abbrev T_runtime_plainError : Nat := 11
abbrev T_uintptr : Nat := 12
abbrev T_struct_msg_string_addr_uintptr : Nat := 13
abbrev T_runtime_errorAddressString : Nat := 14
abbrev T_p_runtime_TypeAssertionError : Nat := 15
abbrev T_p_runtime_PanicNilError : Nat := 16
abbrev T_p_abi_Type : Nat := 17
abbrev T_struct_typ_p_abi_Type : Nat := 18
abbrev T_maps_unhashableTypeError : Nat := 19
abbrev T_interface : Nat := 20
abbrev T_int32 : Nat := 21
abbrev T_api_Op : Nat := 22
abbrev T_struct_Op_api_Op_Client_int_Seq_int_Key_string_Value_string_ : Nat := 23
abbrev T_api_Cmd : Nat := 24
abbrev T_struct_Op_uint8_Client_uint8_Seq_uint8_Key_uint8_Value_uint8 : Nat := 25
abbrev T_tephralaw06_Say : Nat := 26
abbrev T_func_bool : Nat := 27
abbrev T_func_api_Cmd : Nat := 28
abbrev T_func_api_Cmd_bool : Nat := 29
abbrev T_func_api_Cmd_tephralaw06_Say_uint8_int_string_bool : Nat := 30
abbrev T_struct_Index_int_Term_int_Cmd_api_Cmd : Nat := 31
abbrev T_api_Entry : Nat := 32
abbrev T_func_api_Entry_bool : Nat := 33
abbrev T_func_api_Entry_tephralaw06_Say_int_int_bool : Nat := 34
abbrev T_sl_tephralaw06_Say : Nat := 35
abbrev T_uint16 : Nat := 36
abbrev T_sl_api_Entry : Nat := 37
abbrev T_func_sl_tephralaw06_Say_int_int_sl_api_Entry : Nat := 38
abbrev T_func_sl_api_Entry_int_bool : Nat := 39
abbrev T_sl_sl_api_Entry : Nat := 40
abbrev T_func_sl_tephralaw06_Say_uint16_uint8_api_Entry_sl_api_Entry_ : Nat := 41
abbrev T_sl_uint8 : Nat := 42
abbrev T_func_api_Entry_sl_uint8 : Nat := 43
abbrev T_api_Entry_bool : Nat := 44
abbrev T_func_sl_uint8_api_Entry_bool : Nat := 45
abbrev T_func_api_Entry_string : Nat := 46
abbrev T_func_api_Entry_sl_tephralaw06_Say_bool : Nat := 47
abbrev T_sl_sl_uint8 : Nat := 48
abbrev T_func_sl_uint8_tephralaw06_Say_uint8_uint8_bool : Nat := 49
abbrev T_func_tephralaw06_Say_tephralaw06_Say_uint8_uint8_bool : Nat := 50
abbrev T_func_sl_tephralaw06_Say_uint8_uint8_bool : Nat := 51
abbrev T_p_pack_Writer : Nat := 52
abbrev T_struct_b_sl_uint8 : Nat := 53
abbrev T_pack_Writer : Nat := 54
abbrev T_func_int_p_pack_Writer : Nat := 55
abbrev T_func_p_pack_Writer_api_Cmd : Nat := 56
abbrev T_func_sl_uint8 : Nat := 57
abbrev T_p_pack_Reader : Nat := 58
abbrev T_func_sl_uint8_p_pack_Reader : Nat := 59
abbrev T_func_int : Nat := 60
abbrev T_func_p_pack_Reader_api_Cmd : Nat := 61
abbrev T_func_uint8_p_pack_Writer : Nat := 62
abbrev T_func_string_p_pack_Writer : Nat := 63
abbrev T_struct_b_sl_uint8_bad_bool : Nat := 64
abbrev T_pack_Reader : Nat := 65
abbrev T_func_int_sl_uint8 : Nat := 66
abbrev T_uint : Nat := 67
abbrev T_func_uint8 : Nat := 68
abbrev T_func_string : Nat := 69
abbrev T_struct__interface_p_abi_Type_concrete_p_abi_Type_asserted_p_ : Nat := 70
abbrev T_runtime_TypeAssertionError : Nat := 71
abbrev T_0_p_runtime_PanicNilError : Nat := 72
abbrev T_struct___0_p_runtime_PanicNilError : Nat := 73
abbrev T_runtime_PanicNilError : Nat := 74
abbrev T_uint32 : Nat := 75
abbrev T_abi_TFlag : Nat := 76
abbrev T_abi_Kind : Nat := 77
abbrev T_func_unsafe_Pointer_unsafe_Pointer_bool : Nat := 78
abbrev T_p_uint8 : Nat := 79
abbrev T_abi_NameOff : Nat := 80
abbrev T_abi_TypeOff : Nat := 81
abbrev T_struct_Size__uintptr_PtrBytes_uintptr_Hash_uint32_TFlag_abi_ : Nat := 82
abbrev T_abi_Type : Nat := 83
abbrev T_unsafe_Pointer : Nat := 84

/-! 6: tephra/tephralaw06.CmdsBytes -/
noncomputable def tephralaw06_CmdsBytes.cf : Cfg := ⟨[2, 6, 8], [(5, [49, 50, 51])], [(4, [1, 2], true), (5, [49, 50, 51], true), (10, [49, 50, 51, 103], true)], [], true, [(3, [⟨0, 0, 4, 4096⟩, ⟨1, 0, 4096, 8192⟩, ⟨2, 0, 8192, 16384⟩, ⟨0, 0, 4, 32768⟩, ⟨8, 0, 32768, 65536⟩, ⟨16, 0, 65536, 131072⟩, ⟨32, 0, 131072, 262144⟩, ⟨64, 0, 262144, 524288⟩, ⟨132, 0, 540672, 1048576⟩, ⟨0, 0, 4, 2097152⟩, ⟨512, 0, 2097152, 4194304⟩, ⟨1024, 0, 4194304, 8388608⟩, ⟨0, 0, 4, 16777216⟩, ⟨4096, 0, 16777216, 33554432⟩, ⟨8192, 0, 33554432, 67108864⟩, ⟨16384, 0, 67108864, 134217728⟩, ⟨32768, 0, 134217728, 268435456⟩, ⟨67584, 0, 276824064, 536870912⟩, ⟨0, 0, 4, 1073741824⟩, ⟨262144, 0, 1073741824, 2147483648⟩, ⟨524288, 0, 2147483648, 4294967296⟩, ⟨0, 0, 4, 8589934592⟩, ⟨2097152, 0, 8589934592, 17179869184⟩, ⟨4194304, 0, 17179869184, 34359738368⟩, ⟨8388608, 0, 34359738368, 68719476736⟩, ⟨16777216, 0, 68719476736, 137438953472⟩, ⟨34603008, 0, 141733920768, 274877906944⟩, ⟨16547839, 0, 4, 549755813888⟩, ⟨150765567, 0, 549755813888, 1099511627776⟩, ⟨284983295, 2, 1099512676352, 0⟩, ⟨956301311, 0, 4, 2199023255552⟩, ⟨2030043135, 0, 2199023255552, 4398046511104⟩, ⟨3103784959, 2, 4398583382016, 0⟩, ⟨8589934591, 0, 4, 8796093022208⟩, ⟨17179869183, 0, 8796093022208, 17592186044416⟩, ⟨25769803775, 2, 17867063951360, 0⟩], .tk 0 2 (.tk 1 2 (.tk 2 1 (.tk 3 2 (.tk 4 2 (.tk 5 1 (.tk 6 2 (.tk 7 2 (.tk 8 2 (.tk 9 2 (.tk 10 2 (.tk 11 1 (.tk 12 2 (.tk 13 2 (.tk 14 1 (.tk 15 2 (.tk 16 2 (.tk 17 2 (.tk 18 2 (.tk 19 2 (.tk 20 1 (.tk 21 2 (.tk 22 2 (.tk 23 1 (.tk 24 2 (.tk 25 2 (.tk 26 2 (.tk 27 2 (.tk 28 2 (.alt 29 (.tk 30 2 (.tk 31 2 (.alt 32 (.tk 33 2 (.tk 34 2 (.alt 35 (.fin) (.no)))) (.no)))) (.no))))))))))))))))))))))))))))))), (4, [⟨0, 0, 2, 35184372088832⟩, ⟨1, 1, 35184372088832, 70368744177664⟩, ⟨0, 0, 4, 140737488355328⟩, ⟨4, 0, 140737488355328, 281474976710656⟩, ⟨10, 1, 351843720888320, 562949953421312⟩, ⟨16, 0, 562949953421312, 1125899906842624⟩, ⟨0, 0, 0, 2251799813685248⟩], .tk 0 2 (.tk 2 1 (.tk 6 2 (.alt 1 (.alt 3 (.alt 4 (.tk 5 2 (.fin)) (.no)) (.no)) (.alt 3 (.alt 1 (.alt 4 (.tk 5 2 (.fin)) (.no)) (.no)) (.no)))))), (9, [⟨0, 0, 128, 4611686018427387904⟩, ⟨1, 0, 4611686018427387904, 9223372036854775808⟩, ⟨0, 0, 64, 18446744073709551616⟩, ⟨4, 1, 18446744073709551616, 36893488147419103232⟩, ⟨10, 0, 46116860184273879040, 73786976294838206464⟩, ⟨24, 0, 73786976294838206464, 147573952589676412928⟩, ⟨32, 0, 147573952589676412992, 295147905179352825856⟩, ⟨96, 1, 442721857769029238784, 590295810358705651712⟩, ⟨160, 0, 737869762948382064640, 1180591620717411303424⟩, ⟨256, 0, 1180591620717411303936, 2361183241434822606848⟩, ⟨768, 0, 3541774862152233910272, 4722366482869645213696⟩, ⟨1280, 0, 5902958103587056517120, 9444732965739290427392⟩, ⟨2048, 0, 9444732965739290427648, 18889465931478580854784⟩, ⟨2048, 0, 9444732965739290427456, 37778931862957161709568⟩, ⟨14336, 0, 66113130760175032991744, 75557863725914323419136⟩, ⟨18688, 0, 86183188312371025149952, 151115727451828646838272⟩, ⟨33056, 0, 152443893025135734554624, 302231454903657293676544⟩, ⟨65568, 0, 302379028856246970089472, 604462909807314587353088⟩, ⟨133120, 0, 604462909807314587353088, 1208925819614629174706176⟩, ⟨262144, 0, 1208925819614629174706240, 2417851639229258349412352⟩, ⟨786432, 1, 3626777458843887524118528, 4835703278458516698824704⟩, ⟨1310720, 0, 6044629098073145873530880, 9671406556917033397649408⟩, ⟨3407872, 0, 10880332376531662572355584, 19342813113834066795298816⟩, ⟨4194304, 0, 19342813113834066795299328, 38685626227668133590597632⟩, ⟨12845056, 0, 59237365161116829560602624, 77371252455336267181195264⟩, ⟨21233664, 0, 78580178274950896355901440, 154742504910672534362390528⟩, ⟨33554432, 0, 154742504910672534362390784, 309485009821345068724781056⟩, ⟨100663296, 1, 464227514732017603087171584, 618970019642690137449562112⟩, ⟨33554432, 0, 154742504910672534362390656, 1237940039285380274899124224⟩, ⟨301989888, 0, 1392682544196052809261514752, 2475880078570760549798248448⟩, ⟨704643072, 0, 3249592603124123221610201088, 4951760157141521099596496896⟩, ⟨1107558400, 0, 5107711587871808263133593600, 9903520314283042199192993792⟩, ⟨2147745792, 0, 9904729240102656828367699968, 19807040628566084398385987584⟩, ⟨4429185024, 0, 19807040628566084398385987584, 39614081257132168796771975168⟩, ⟨8589934592, 0, 39614081257132168796771975680, 79228162514264337593543950336⟩, ⟨25769803776, 0, 118842243771396506390315925504, 158456325028528675187087900672⟩, ⟨42949672960, 0, 198070406285660843983859875840, 316912650057057350374175801344⟩, ⟨68719476736, 0, 316912650057057350374175801600, 633825300114114700748351602688⟩, ⟨68719476736, 0, 316912650057057350374175801344, 1267650600228229401496703205376⟩, ⟨481036337152, 0, 2218388550399401452619230609408, 2535301200456458802993406410752⟩, ⟨627065225216, 0, 2891827931770648322164354187264, 5070602400912917605986812821504⟩, ⟨1108101562368, 0, 5110216482170049774783584796672, 10141204801825835211973625643008⟩], .tk 0 2 (.tk 2 1 (.alt 1 (.alt 3 (.tk 4 2 (.tk 5 2 (.tk 6 1 (.alt 7 (.tk 8 2 (.tk 9 2 (.tk 10 2 (.tk 11 2 (.tk 12 1 (.tk 13 1 (.tk 14 2 (.tk 15 2 (.tk 16 2 (.tk 17 2 (.tk 18 2 (.tk 19 1 (.alt 20 (.tk 21 2 (.tk 22 2 (.tk 23 2 (.tk 24 2 (.tk 25 2 (.tk 26 1 (.tk 28 2 (.alt 27 (.alt 29 (.tk 30 2 (.tk 31 2 (.tk 32 2 (.tk 33 2 (.tk 34 2 (.tk 35 2 (.tk 36 2 (.tk 37 1 (.tk 38 2 (.tk 39 2 (.tk 40 2 (.tk 41 2 (.fin))))))))))))) (.no)) (.alt 29 (.alt 27 (.tk 30 2 (.tk 31 2 (.tk 32 2 (.tk 33 2 (.tk 34 2 (.tk 35 2 (.tk 36 2 (.tk 37 1 (.tk 38 2 (.tk 39 2 (.tk 40 2 (.tk 41 2 (.fin))))))))))))) (.no)) (.no)))))))))) (.no)))))))))))))) (.no))))) (.no)) (.alt 3 (.alt 1 (.tk 4 2 (.tk 5 2 (.tk 6 1 (.alt 7 (.tk 8 2 (.tk 9 2 (.tk 10 2 (.tk 11 2 (.tk 12 1 (.tk 13 1 (.tk 14 2 (.tk 15 2 (.tk 16 2 (.tk 17 2 (.tk 18 2 (.tk 19 1 (.alt 20 (.tk 21 2 (.tk 22 2 (.tk 23 2 (.tk 24 2 (.tk 25 2 (.tk 26 1 (.tk 28 2 (.alt 27 (.alt 29 (.tk 30 2 (.tk 31 2 (.tk 32 2 (.tk 33 2 (.tk 34 2 (.tk 35 2 (.tk 36 2 (.tk 37 1 (.tk 38 2 (.tk 39 2 (.tk 40 2 (.tk 41 2 (.fin))))))))))))) (.no)) (.alt 29 (.alt 27 (.tk 30 2 (.tk 31 2 (.tk 32 2 (.tk 33 2 (.tk 34 2 (.tk 35 2 (.tk 36 2 (.tk 37 1 (.tk 38 2 (.tk 39 2 (.tk 40 2 (.tk 41 2 (.fin))))))))))))) (.no)) (.no)))))))))) (.no)))))))))))))) (.no))))) (.no)) (.no)))))]⟩
noncomputable def tephralaw06_CmdsBytes.k1.st (eIndex : Int) (eTerm : Int) (eCmdOp : Int) (eCmdClient : Int) (eCmdSeq : Int) (eCmdKey : ByteArray) (eCmdValue : ByteArray) (eCmdOld : ByteArray) (says : Sl) (H1 : Hp) : VS := ⟨mkFr 105 [(1, .v (.slice says.a says.len says.cap)), (2, .loc 0 0)], [(T_api_Entry, [.int .i64 eIndex, .int .i64 eTerm, .int .i64 eCmdOp, .int .i64 eCmdClient, .int .i64 eCmdSeq, .string (eCmdKey.extract 0 (((if (100 : Int) < ((eCmdKey.size : Nat) : Int) then 100 else ((eCmdKey.size : Nat) : Int)) : Int).toNat)), .string (eCmdValue.extract 0 (((if (100 : Int) < ((eCmdValue.size : Nat) : Int) then 100 else ((eCmdValue.size : Nat) : Int)) : Int).toNat)), .string (eCmdOld.extract 0 (((if (100 : Int) < ((eCmdOld.size : Nat) : Int) then 100 else ((eCmdOld.size : Nat) : Int)) : Int).toNat))])], H1⟩
noncomputable def tephralaw06_CmdsBytes.k1 (J : Jn) (eIndex : Int) (eTerm : Int) (eCmdOp : Int) (eCmdClient : Int) (eCmdSeq : Int) (eCmdKey : ByteArray) (eCmdValue : ByteArray) (eCmdOld : ByteArray) (says : Sl) (H1 : Hp) (Q : Value → Hp → Prop) : Prop := J (vSeg Try.prog tephralaw06_CmdsBytes.cf J tephralaw06_CmdsBytes.fn [1, 1, 1] [0, 1, 1] Q) (tephralaw06_CmdsBytes.k1.st eIndex eTerm eCmdOp eCmdClient eCmdSeq eCmdKey eCmdValue eCmdOld says H1)
noncomputable def tephralaw06_CmdsBytes.k2.st (eIndex : Int) (eTerm : Int) (eCmdOp : Int) (eCmdClient : Int) (eCmdSeq : Int) (eCmdKey : ByteArray) (eCmdValue : ByteArray) (eCmdOld : ByteArray) (x3 : Sl) (x4 : Int) (H6 : Hp) : VS := ⟨mkFr 105 [(49, .v (.slice x3.a x3.len x3.cap)), (50, .v (.int .i64 x4)), (51, .v (.int .i64 0))], [(T_api_Entry, [.int .i64 eIndex, .int .i64 eTerm, .int .i64 eCmdOp, .int .i64 eCmdClient, .int .i64 eCmdSeq, .string (eCmdKey.extract 0 (((if (100 : Int) < ((eCmdKey.size : Nat) : Int) then 100 else ((eCmdKey.size : Nat) : Int)) : Int).toNat)), .string (eCmdValue.extract 0 (((if (100 : Int) < ((eCmdValue.size : Nat) : Int) then 100 else ((eCmdValue.size : Nat) : Int)) : Int).toNat)), .string (eCmdOld.extract 0 (((if (100 : Int) < ((eCmdOld.size : Nat) : Int) then 100 else ((eCmdOld.size : Nat) : Int)) : Int).toNat))])], H6⟩
noncomputable def tephralaw06_CmdsBytes.k2 (J : Jn) (eIndex : Int) (eTerm : Int) (eCmdOp : Int) (eCmdClient : Int) (eCmdSeq : Int) (eCmdKey : ByteArray) (eCmdValue : ByteArray) (eCmdOld : ByteArray) (x3 : Sl) (x4 : Int) (H6 : Hp) (Q : Value → Hp → Prop) : Prop := J (vSeg Try.prog tephralaw06_CmdsBytes.cf J tephralaw06_CmdsBytes.fn [1, 1, 1, 0, 1] [0, 1, 1, 1, 1] Q) (tephralaw06_CmdsBytes.k2.st eIndex eTerm eCmdOp eCmdClient eCmdSeq eCmdKey eCmdValue eCmdOld x3 x4 H6)
noncomputable def tephralaw06_CmdsBytes.l1.st (eIndex : Int) (eTerm : Int) (eCmdOp : Int) (eCmdClient : Int) (eCmdSeq : Int) (eCmdKey : ByteArray) (eCmdValue : ByteArray) (eCmdOld : ByteArray) (x3 : Sl) (x4 : Int) (H7 : Hp) (x5 : Int) : VS := ⟨mkFr 105 [(49, .v (.slice x3.a x3.len x3.cap)), (50, .v (.int .i64 x4)), (51, .v (.int .i64 x5))], [(T_api_Entry, [.int .i64 eIndex, .int .i64 eTerm, .int .i64 eCmdOp, .int .i64 eCmdClient, .int .i64 eCmdSeq, .string (eCmdKey.extract 0 (((if (100 : Int) < ((eCmdKey.size : Nat) : Int) then 100 else ((eCmdKey.size : Nat) : Int)) : Int).toNat)), .string (eCmdValue.extract 0 (((if (100 : Int) < ((eCmdValue.size : Nat) : Int) then 100 else ((eCmdValue.size : Nat) : Int)) : Int).toNat)), .string (eCmdOld.extract 0 (((if (100 : Int) < ((eCmdOld.size : Nat) : Int) then 100 else ((eCmdOld.size : Nat) : Int)) : Int).toNat))])], H7⟩
noncomputable def tephralaw06_CmdsBytes.l1 (J : Jn) (eIndex : Int) (eTerm : Int) (eCmdOp : Int) (eCmdClient : Int) (eCmdSeq : Int) (eCmdKey : ByteArray) (eCmdValue : ByteArray) (eCmdOld : ByteArray) (x3 : Sl) (x4 : Int) (H7 : Hp) (x5 : Int) (Q : Value → Hp → Prop) : Prop := vAt Try.prog tephralaw06_CmdsBytes.cf J tephralaw06_CmdsBytes.fn [1, 1, 1, 0, 1, 0] [0, 1, 1, 1, 1] Q (tephralaw06_CmdsBytes.l1.st eIndex eTerm eCmdOp eCmdClient eCmdSeq eCmdKey eCmdValue eCmdOld x3 x4 H7 x5)
noncomputable def tephralaw06_CmdsBytes.k3.st (eIndex : Int) (eTerm : Int) (eCmdOp : Int) (eCmdClient : Int) (eCmdSeq : Int) (eCmdKey : ByteArray) (eCmdValue : ByteArray) (eCmdOld : ByteArray) (x3 : Sl) (x4 : Int) (x5 : Int) (Index : Int) (Term : Int) (CmdOp : Int) (CmdClient : Int) (CmdSeq : Int) (CmdKey : ByteArray) (CmdValue : ByteArray) (CmdOld : ByteArray) (Index1 : Int) (Term1 : Int) (CmdOp1 : Int) (CmdClient1 : Int) (CmdSeq1 : Int) (CmdKey1 : ByteArray) (CmdValue1 : ByteArray) (CmdOld1 : ByteArray) (x24 : Bool) (H26 : Hp) : VS := ⟨mkFr 105 [(49, .v (.slice x3.a x3.len x3.cap)), (50, .v (.int .i64 x4)), (51, .v (.int .i64 x5)), (103, .v (.bool x24))], [(T_api_Entry, [.int .i64 eIndex, .int .i64 eTerm, .int .i64 eCmdOp, .int .i64 eCmdClient, .int .i64 eCmdSeq, .string (eCmdKey.extract 0 (((if (100 : Int) < ((eCmdKey.size : Nat) : Int) then 100 else ((eCmdKey.size : Nat) : Int)) : Int).toNat)), .string (eCmdValue.extract 0 (((if (100 : Int) < ((eCmdValue.size : Nat) : Int) then 100 else ((eCmdValue.size : Nat) : Int)) : Int).toNat)), .string (eCmdOld.extract 0 (((if (100 : Int) < ((eCmdOld.size : Nat) : Int) then 100 else ((eCmdOld.size : Nat) : Int)) : Int).toNat))]), (T_api_Entry, [.int .i64 Index, .int .i64 Term, .int .i64 CmdOp, .int .i64 CmdClient, .int .i64 CmdSeq, .string CmdKey, .string CmdValue, .string CmdOld]), (T_api_Entry, [.int .i64 Index1, .int .i64 Term1, .int .i64 CmdOp1, .int .i64 CmdClient1, .int .i64 CmdSeq1, .string CmdKey1, .string CmdValue1, .string CmdOld1])], H26⟩
noncomputable def tephralaw06_CmdsBytes.k3 (J : Jn) (eIndex : Int) (eTerm : Int) (eCmdOp : Int) (eCmdClient : Int) (eCmdSeq : Int) (eCmdKey : ByteArray) (eCmdValue : ByteArray) (eCmdOld : ByteArray) (x3 : Sl) (x4 : Int) (x5 : Int) (Index : Int) (Term : Int) (CmdOp : Int) (CmdClient : Int) (CmdSeq : Int) (CmdKey : ByteArray) (CmdValue : ByteArray) (CmdOld : ByteArray) (Index1 : Int) (Term1 : Int) (CmdOp1 : Int) (CmdClient1 : Int) (CmdSeq1 : Int) (CmdKey1 : ByteArray) (CmdValue1 : ByteArray) (CmdOld1 : ByteArray) (x24 : Bool) (H26 : Hp) (Q : Value → Hp → Prop) : Prop := J (vSeg Try.prog tephralaw06_CmdsBytes.cf J tephralaw06_CmdsBytes.fn [1, 1, 1, 0, 1, 0, 0, 1, 1, 0, 0, 1, 1, 1, 1] [0, 1, 1, 1, 1, 1, 1, 1, 1, 1, 2, 2, 3] Q) (tephralaw06_CmdsBytes.k3.st eIndex eTerm eCmdOp eCmdClient eCmdSeq eCmdKey eCmdValue eCmdOld x3 x4 x5 Index Term CmdOp CmdClient CmdSeq CmdKey CmdValue CmdOld Index1 Term1 CmdOp1 CmdClient1 CmdSeq1 CmdKey1 CmdValue1 CmdOld1 x24 H26)
attribute [irreducible] tephralaw06_CmdsBytes.k1 tephralaw06_CmdsBytes.k2 tephralaw06_CmdsBytes.l1 tephralaw06_CmdsBytes.k3
noncomputable def tephralaw06_CmdsBytes.k1.body (J : Jn) (eIndex : Int) (eTerm : Int) (eCmdOp : Int) (eCmdClient : Int) (eCmdSeq : Int) (eCmdKey : ByteArray) (eCmdValue : ByteArray) (eCmdOld : ByteArray) (says : Sl) (H1 : Hp) (Q : Value → Hp → Prop) : Prop :=
 
  (
 SCalls Try.prog tephralaw06_Entries.id [.slice says.a says.len says.cap, .int .i64 1, .int .i64 0] H1 (fun r1 H2 => ∃ x1 : Sl, r1 = .slice x1.a x1.len x1.cap ∧ 
 vApp Try.prog T_sl_api_Entry x1.a x1.len x1.cap (.slice (some (Addr.mk (Array.size H2) 0 none)) 1 1) (Array.push H2 (.cells #[.int .i64 eIndex, .int .i64 eTerm, .int .i64 eCmdOp, .int .i64 eCmdClient, .int .i64 eCmdSeq, .string (eCmdKey.extract 0 (((if (100 : Int) < ((eCmdKey.size : Nat) : Int) then 100 else ((eCmdKey.size : Nat) : Int)) : Int).toNat)), .string (eCmdValue.extract 0 (((if (100 : Int) < ((eCmdValue.size : Nat) : Int) then 100 else ((eCmdValue.size : Nat) : Int)) : Int).toNat)), .string (eCmdOld.extract 0 (((if (100 : Int) < ((eCmdOld.size : Nat) : Int) then 100 else ((eCmdOld.size : Nat) : Int)) : Int).toNat))] T_api_Entry)) (fun ap H3 => 
 tephralaw06_CmdsBytes.k2 J eIndex eTerm eCmdOp eCmdClient eCmdSeq eCmdKey eCmdValue eCmdOld ap ((ap.len : Nat) : Int) H3 Q))) ∧ 
  (
 SCalls Try.prog tephralaw06_Entries.id [.slice says.a says.len says.cap, .int .i64 1, .int .i64 0] (Array.push H1 (.cells #[.int .i64 eIndex, .int .i64 eTerm, .int .i64 eCmdOp, .int .i64 eCmdClient, .int .i64 eCmdSeq, .string (eCmdKey.extract 0 (((if (100 : Int) < ((eCmdKey.size : Nat) : Int) then 100 else ((eCmdKey.size : Nat) : Int)) : Int).toNat)), .string (eCmdValue.extract 0 (((if (100 : Int) < ((eCmdValue.size : Nat) : Int) then 100 else ((eCmdValue.size : Nat) : Int)) : Int).toNat)), .string (eCmdOld.extract 0 (((if (100 : Int) < ((eCmdOld.size : Nat) : Int) then 100 else ((eCmdOld.size : Nat) : Int)) : Int).toNat))] T_api_Entry)) (fun r2 H4 => ∃ x2 : Sl, r2 = .slice x2.a x2.len x2.cap ∧ 
 vApp Try.prog T_sl_api_Entry x2.a x2.len x2.cap (.slice (some (Addr.mk (Array.size H1) 0 none)) 1 1) H4 (fun ap1 H5 => 
 tephralaw06_CmdsBytes.k2 J eIndex eTerm eCmdOp eCmdClient eCmdSeq eCmdKey eCmdValue eCmdOld ap1 ((ap1.len : Nat) : Int) H5 Q)))
theorem tephralaw06_CmdsBytes.k1.eq (J : Jn) (eIndex : Int) (eTerm : Int) (eCmdOp : Int) (eCmdClient : Int) (eCmdSeq : Int) (eCmdKey : ByteArray) (eCmdValue : ByteArray) (eCmdOld : ByteArray) (says : Sl) (H1 : Hp) (Q : Value → Hp → Prop) : vSeg Try.prog tephralaw06_CmdsBytes.cf J tephralaw06_CmdsBytes.fn [1, 1, 1] [0, 1, 1] Q (tephralaw06_CmdsBytes.k1.st eIndex eTerm eCmdOp eCmdClient eCmdSeq eCmdKey eCmdValue eCmdOld says H1) = tephralaw06_CmdsBytes.k1.body J eIndex eTerm eCmdOp eCmdClient eCmdSeq eCmdKey eCmdValue eCmdOld says H1 Q := by kernel_rfl
theorem tephralaw06_CmdsBytes.k1.step {eIndex : Int} {eTerm : Int} {eCmdOp : Int} {eCmdClient : Int} {eCmdSeq : Int} {eCmdKey : ByteArray} {eCmdValue : ByteArray} {eCmdOld : ByteArray} {says : Sl} {H1 : Hp} {Q : Value → Hp → Prop} (h : tephralaw06_CmdsBytes.k1.body J0 eIndex eTerm eCmdOp eCmdClient eCmdSeq eCmdKey eCmdValue eCmdOld says H1 Q) : tephralaw06_CmdsBytes.k1 J0 eIndex eTerm eCmdOp eCmdClient eCmdSeq eCmdKey eCmdValue eCmdOld says H1 Q := step_of (vSeg Try.prog tephralaw06_CmdsBytes.cf J0 tephralaw06_CmdsBytes.fn [1, 1, 1] [0, 1, 1] Q) (tephralaw06_CmdsBytes.k1.st eIndex eTerm eCmdOp eCmdClient eCmdSeq eCmdKey eCmdValue eCmdOld says H1) (tephralaw06_CmdsBytes.k1.eq J0 eIndex eTerm eCmdOp eCmdClient eCmdSeq eCmdKey eCmdValue eCmdOld says H1 Q) (by kernel_rfl) h
noncomputable def tephralaw06_CmdsBytes.k2.body (J : Jn) (eIndex : Int) (eTerm : Int) (eCmdOp : Int) (eCmdClient : Int) (eCmdSeq : Int) (eCmdKey : ByteArray) (eCmdValue : ByteArray) (eCmdOld : ByteArray) (x3 : Sl) (x4 : Int) (H6 : Hp) (Q : Value → Hp → Prop) : Prop :=
 
 tephralaw06_CmdsBytes.l1 J eIndex eTerm eCmdOp eCmdClient eCmdSeq eCmdKey eCmdValue eCmdOld x3 x4 H6 0 Q
theorem tephralaw06_CmdsBytes.k2.eq (J : Jn) (eIndex : Int) (eTerm : Int) (eCmdOp : Int) (eCmdClient : Int) (eCmdSeq : Int) (eCmdKey : ByteArray) (eCmdValue : ByteArray) (eCmdOld : ByteArray) (x3 : Sl) (x4 : Int) (H6 : Hp) (Q : Value → Hp → Prop) : vSeg Try.prog tephralaw06_CmdsBytes.cf J tephralaw06_CmdsBytes.fn [1, 1, 1, 0, 1] [0, 1, 1, 1, 1] Q (tephralaw06_CmdsBytes.k2.st eIndex eTerm eCmdOp eCmdClient eCmdSeq eCmdKey eCmdValue eCmdOld x3 x4 H6) = tephralaw06_CmdsBytes.k2.body J eIndex eTerm eCmdOp eCmdClient eCmdSeq eCmdKey eCmdValue eCmdOld x3 x4 H6 Q := by kernel_rfl
theorem tephralaw06_CmdsBytes.k2.step {eIndex : Int} {eTerm : Int} {eCmdOp : Int} {eCmdClient : Int} {eCmdSeq : Int} {eCmdKey : ByteArray} {eCmdValue : ByteArray} {eCmdOld : ByteArray} {x3 : Sl} {x4 : Int} {H6 : Hp} {Q : Value → Hp → Prop} (h : tephralaw06_CmdsBytes.k2.body J0 eIndex eTerm eCmdOp eCmdClient eCmdSeq eCmdKey eCmdValue eCmdOld x3 x4 H6 Q) : tephralaw06_CmdsBytes.k2 J0 eIndex eTerm eCmdOp eCmdClient eCmdSeq eCmdKey eCmdValue eCmdOld x3 x4 H6 Q := step_of (vSeg Try.prog tephralaw06_CmdsBytes.cf J0 tephralaw06_CmdsBytes.fn [1, 1, 1, 0, 1] [0, 1, 1, 1, 1] Q) (tephralaw06_CmdsBytes.k2.st eIndex eTerm eCmdOp eCmdClient eCmdSeq eCmdKey eCmdValue eCmdOld x3 x4 H6) (tephralaw06_CmdsBytes.k2.eq J0 eIndex eTerm eCmdOp eCmdClient eCmdSeq eCmdKey eCmdValue eCmdOld x3 x4 H6 Q) (by kernel_rfl) h
noncomputable def tephralaw06_CmdsBytes.l1.body (J : Jn) (eIndex : Int) (eTerm : Int) (eCmdOp : Int) (eCmdClient : Int) (eCmdSeq : Int) (eCmdKey : ByteArray) (eCmdValue : ByteArray) (eCmdOld : ByteArray) (x3 : Sl) (x4 : Int) (H7 : Hp) (x5 : Int) (Q : Value → Hp → Prop) : Prop :=
 
 Br (decide (x5 < x4)) (((0 : Int) ≤ x5 ∧ x5 < ((x3.len : Nat) : Int)) ∧ vPtr x3.a (fun a => ∃ Index : Int, ∃ Term : Int, ∃ CmdOp : Int, ∃ CmdClient : Int, ∃ CmdSeq : Int, ∃ CmdKey : ByteArray, ∃ CmdValue : ByteArray, ∃ CmdOld : ByteArray, RowAt H7 (a.add ((x5 : Int).toNat * 8)) [.int .i64 Index, .int .i64 Term, .int .i64 CmdOp, .int .i64 CmdClient, .int .i64 CmdSeq, .string CmdKey, .string CmdValue, .string CmdOld] ∧ 
 SCalls Try.prog cmds_Bytes.id [.agg #[.int .i64 Index, .int .i64 Term, .int .i64 CmdOp, .int .i64 CmdClient, .int .i64 CmdSeq, .string CmdKey, .string CmdValue, .string CmdOld]] (holes H7 1) (fun r3 H8 => ∃ x6 : Sl, r3 = .slice x6.a x6.len x6.cap ∧ 
 SCalls Try.prog cmds_Read.id [.slice x6.a x6.len x6.cap] H8 (fun r4 H9 => ∃ Index1 : Int, ∃ Term1 : Int, ∃ CmdOp1 : Int, ∃ CmdClient1 : Int, ∃ CmdSeq1 : Int, ∃ CmdKey1 : ByteArray, ∃ CmdValue1 : ByteArray, ∃ CmdOld1 : ByteArray, ∃ x7 : Bool, r4 = .tuple #[.agg #[.int .i64 Index1, .int .i64 Term1, .int .i64 CmdOp1, .int .i64 CmdClient1, .int .i64 CmdSeq1, .string CmdKey1, .string CmdValue1, .string CmdOld1], .bool x7] ∧ 
  (vB2S (holes H9 1) x6.a x6.len (fun s => 
 SCalls Try.prog tephralaw06_bytes.id [.agg #[.int .i64 Index, .int .i64 Term, .int .i64 CmdOp, .int .i64 CmdClient, .int .i64 CmdSeq, .string CmdKey, .string CmdValue, .string CmdOld]] (holes H9 1) (fun r5 H10 => ∃ x8 : ByteArray, r5 = .string x8 ∧ 
 Br (!(s.toList == x8.toList)) (
  (
 tephralaw06_CmdsBytes.k3 J eIndex eTerm eCmdOp eCmdClient eCmdSeq eCmdKey eCmdValue eCmdOld x3 x4 x5 Index Term CmdOp CmdClient CmdSeq CmdKey CmdValue CmdOld Index1 Term1 CmdOp1 CmdClient1 CmdSeq1 CmdKey1 CmdValue1 CmdOld1 true H10 Q) ∧ 
  (
 tephralaw06_CmdsBytes.k3 J eIndex eTerm eCmdOp eCmdClient eCmdSeq eCmdKey eCmdValue eCmdOld x3 x4 x5 Index Term CmdOp CmdClient CmdSeq CmdKey CmdValue CmdOld Index1 Term1 CmdOp1 CmdClient1 CmdSeq1 CmdKey1 CmdValue1 CmdOld1 true H10 Q))
 (
 SCalls Try.prog tephralaw06_right.id [.agg #[.int .i64 Index, .int .i64 Term, .int .i64 CmdOp, .int .i64 CmdClient, .int .i64 CmdSeq, .string CmdKey, .string CmdValue, .string CmdOld]] H10 (fun r6 H11 => ∃ x9 : Bool, r6 = .bool x9 ∧ 
 Br x9 (
 Br (!x7) (
  (
 tephralaw06_CmdsBytes.k3 J eIndex eTerm eCmdOp eCmdClient eCmdSeq eCmdKey eCmdValue eCmdOld x3 x4 x5 Index Term CmdOp CmdClient CmdSeq CmdKey CmdValue CmdOld Index1 Term1 CmdOp1 CmdClient1 CmdSeq1 CmdKey1 CmdValue1 CmdOld1 true H11 Q) ∧ 
  (
 tephralaw06_CmdsBytes.k3 J eIndex eTerm eCmdOp eCmdClient eCmdSeq eCmdKey eCmdValue eCmdOld x3 x4 x5 Index Term CmdOp CmdClient CmdSeq CmdKey CmdValue CmdOld Index1 Term1 CmdOp1 CmdClient1 CmdSeq1 CmdKey1 CmdValue1 CmdOld1 true H11 Q))
 (
 Br (!((Index1 == Index) && ((Term1 == Term) && (((CmdOp1 == CmdOp) && ((CmdClient1 == CmdClient) && ((CmdSeq1 == CmdSeq) && ((CmdKey1 == CmdKey) && ((CmdValue1 == CmdValue) && ((CmdOld1 == CmdOld) && true)))))) && true)))) (
  (
 tephralaw06_CmdsBytes.k3 J eIndex eTerm eCmdOp eCmdClient eCmdSeq eCmdKey eCmdValue eCmdOld x3 x4 x5 Index Term CmdOp CmdClient CmdSeq CmdKey CmdValue CmdOld Index1 Term1 CmdOp1 CmdClient1 CmdSeq1 CmdKey1 CmdValue1 CmdOld1 true H11 Q) ∧ 
  (
 tephralaw06_CmdsBytes.k3 J eIndex eTerm eCmdOp eCmdClient eCmdSeq eCmdKey eCmdValue eCmdOld x3 x4 x5 Index Term CmdOp CmdClient CmdSeq CmdKey CmdValue CmdOld Index1 Term1 CmdOp1 CmdClient1 CmdSeq1 CmdKey1 CmdValue1 CmdOld1 true H11 Q))
 (
 SCalls Try.prog tephralaw06_right.id [.agg #[.int .i64 Index, .int .i64 Term, .int .i64 CmdOp, .int .i64 CmdClient, .int .i64 CmdSeq, .string CmdKey, .string CmdValue, .string CmdOld]] H11 (fun r7 H12 => ∃ x10 : Bool, r7 = .bool x10 ∧ 
 Br (!x10) (
 Br x7 (
  (
 SCalls Try.prog tephralaw06_bytes.id [.agg #[.int .i64 Index1, .int .i64 Term1, .int .i64 CmdOp1, .int .i64 CmdClient1, .int .i64 CmdSeq1, .string CmdKey1, .string CmdValue1, .string CmdOld1]] H12 (fun r8 H13 => ∃ x11 : ByteArray, r8 = .string x11 ∧ vB2S H13 x6.a x6.len (fun s1 => 
 Br (!(x11.toList == s1.toList)) (
 tephralaw06_CmdsBytes.k3 J eIndex eTerm eCmdOp eCmdClient eCmdSeq eCmdKey eCmdValue eCmdOld x3 x4 x5 Index Term CmdOp CmdClient CmdSeq CmdKey CmdValue CmdOld Index1 Term1 CmdOp1 CmdClient1 CmdSeq1 CmdKey1 CmdValue1 CmdOld1 true H13 Q)
 (
 Br (!x7) (
 tephralaw06_CmdsBytes.k3 J eIndex eTerm eCmdOp eCmdClient eCmdSeq eCmdKey eCmdValue eCmdOld x3 x4 x5 Index Term CmdOp CmdClient CmdSeq CmdKey CmdValue CmdOld Index1 Term1 CmdOp1 CmdClient1 CmdSeq1 CmdKey1 CmdValue1 CmdOld1 (!((Index1 == (0 : Int)) && ((Term1 == (0 : Int)) && (((CmdOp1 == (0 : Int)) && ((CmdClient1 == (0 : Int)) && ((CmdSeq1 == (0 : Int)) && ((CmdKey1 == (ByteArray.mk #[])) && ((CmdValue1 == (ByteArray.mk #[])) && ((CmdOld1 == (ByteArray.mk #[])) && true)))))) && true)))) H13 Q)
 (
 tephralaw06_CmdsBytes.k3 J eIndex eTerm eCmdOp eCmdClient eCmdSeq eCmdKey eCmdValue eCmdOld x3 x4 x5 Index Term CmdOp CmdClient CmdSeq CmdKey CmdValue CmdOld Index1 Term1 CmdOp1 CmdClient1 CmdSeq1 CmdKey1 CmdValue1 CmdOld1 false H13 Q))))) ∧ 
  (vB2S H12 x6.a x6.len (fun s2 => 
 SCalls Try.prog tephralaw06_bytes.id [.agg #[.int .i64 Index1, .int .i64 Term1, .int .i64 CmdOp1, .int .i64 CmdClient1, .int .i64 CmdSeq1, .string CmdKey1, .string CmdValue1, .string CmdOld1]] H12 (fun r9 H14 => ∃ x12 : ByteArray, r9 = .string x12 ∧ 
 Br (!(x12.toList == s2.toList)) (
 tephralaw06_CmdsBytes.k3 J eIndex eTerm eCmdOp eCmdClient eCmdSeq eCmdKey eCmdValue eCmdOld x3 x4 x5 Index Term CmdOp CmdClient CmdSeq CmdKey CmdValue CmdOld Index1 Term1 CmdOp1 CmdClient1 CmdSeq1 CmdKey1 CmdValue1 CmdOld1 true H14 Q)
 (
 Br (!x7) (
 tephralaw06_CmdsBytes.k3 J eIndex eTerm eCmdOp eCmdClient eCmdSeq eCmdKey eCmdValue eCmdOld x3 x4 x5 Index Term CmdOp CmdClient CmdSeq CmdKey CmdValue CmdOld Index1 Term1 CmdOp1 CmdClient1 CmdSeq1 CmdKey1 CmdValue1 CmdOld1 (!((Index1 == (0 : Int)) && ((Term1 == (0 : Int)) && (((CmdOp1 == (0 : Int)) && ((CmdClient1 == (0 : Int)) && ((CmdSeq1 == (0 : Int)) && ((CmdKey1 == (ByteArray.mk #[])) && ((CmdValue1 == (ByteArray.mk #[])) && ((CmdOld1 == (ByteArray.mk #[])) && true)))))) && true)))) H14 Q)
 (
 tephralaw06_CmdsBytes.k3 J eIndex eTerm eCmdOp eCmdClient eCmdSeq eCmdKey eCmdValue eCmdOld x3 x4 x5 Index Term CmdOp CmdClient CmdSeq CmdKey CmdValue CmdOld Index1 Term1 CmdOp1 CmdClient1 CmdSeq1 CmdKey1 CmdValue1 CmdOld1 false H14 Q))))))
 (
  (
 Br (!x7) (
 tephralaw06_CmdsBytes.k3 J eIndex eTerm eCmdOp eCmdClient eCmdSeq eCmdKey eCmdValue eCmdOld x3 x4 x5 Index Term CmdOp CmdClient CmdSeq CmdKey CmdValue CmdOld Index1 Term1 CmdOp1 CmdClient1 CmdSeq1 CmdKey1 CmdValue1 CmdOld1 (!((Index1 == (0 : Int)) && ((Term1 == (0 : Int)) && (((CmdOp1 == (0 : Int)) && ((CmdClient1 == (0 : Int)) && ((CmdSeq1 == (0 : Int)) && ((CmdKey1 == (ByteArray.mk #[])) && ((CmdValue1 == (ByteArray.mk #[])) && ((CmdOld1 == (ByteArray.mk #[])) && true)))))) && true)))) H12 Q)
 (
 tephralaw06_CmdsBytes.k3 J eIndex eTerm eCmdOp eCmdClient eCmdSeq eCmdKey eCmdValue eCmdOld x3 x4 x5 Index Term CmdOp CmdClient CmdSeq CmdKey CmdValue CmdOld Index1 Term1 CmdOp1 CmdClient1 CmdSeq1 CmdKey1 CmdValue1 CmdOld1 false H12 Q)) ∧ 
  (
 Br (!x7) (
 tephralaw06_CmdsBytes.k3 J eIndex eTerm eCmdOp eCmdClient eCmdSeq eCmdKey eCmdValue eCmdOld x3 x4 x5 Index Term CmdOp CmdClient CmdSeq CmdKey CmdValue CmdOld Index1 Term1 CmdOp1 CmdClient1 CmdSeq1 CmdKey1 CmdValue1 CmdOld1 (!((Index1 == (0 : Int)) && ((Term1 == (0 : Int)) && (((CmdOp1 == (0 : Int)) && ((CmdClient1 == (0 : Int)) && ((CmdSeq1 == (0 : Int)) && ((CmdKey1 == (ByteArray.mk #[])) && ((CmdValue1 == (ByteArray.mk #[])) && ((CmdOld1 == (ByteArray.mk #[])) && true)))))) && true)))) H12 Q)
 (
 tephralaw06_CmdsBytes.k3 J eIndex eTerm eCmdOp eCmdClient eCmdSeq eCmdKey eCmdValue eCmdOld x3 x4 x5 Index Term CmdOp CmdClient CmdSeq CmdKey CmdValue CmdOld Index1 Term1 CmdOp1 CmdClient1 CmdSeq1 CmdKey1 CmdValue1 CmdOld1 false H12 Q))))
 (
  (
 Br (!x7) (
 tephralaw06_CmdsBytes.k3 J eIndex eTerm eCmdOp eCmdClient eCmdSeq eCmdKey eCmdValue eCmdOld x3 x4 x5 Index Term CmdOp CmdClient CmdSeq CmdKey CmdValue CmdOld Index1 Term1 CmdOp1 CmdClient1 CmdSeq1 CmdKey1 CmdValue1 CmdOld1 (!((Index1 == (0 : Int)) && ((Term1 == (0 : Int)) && (((CmdOp1 == (0 : Int)) && ((CmdClient1 == (0 : Int)) && ((CmdSeq1 == (0 : Int)) && ((CmdKey1 == (ByteArray.mk #[])) && ((CmdValue1 == (ByteArray.mk #[])) && ((CmdOld1 == (ByteArray.mk #[])) && true)))))) && true)))) H12 Q)
 (
 tephralaw06_CmdsBytes.k3 J eIndex eTerm eCmdOp eCmdClient eCmdSeq eCmdKey eCmdValue eCmdOld x3 x4 x5 Index Term CmdOp CmdClient CmdSeq CmdKey CmdValue CmdOld Index1 Term1 CmdOp1 CmdClient1 CmdSeq1 CmdKey1 CmdValue1 CmdOld1 false H12 Q)) ∧ 
  (
 Br (!x7) (
 tephralaw06_CmdsBytes.k3 J eIndex eTerm eCmdOp eCmdClient eCmdSeq eCmdKey eCmdValue eCmdOld x3 x4 x5 Index Term CmdOp CmdClient CmdSeq CmdKey CmdValue CmdOld Index1 Term1 CmdOp1 CmdClient1 CmdSeq1 CmdKey1 CmdValue1 CmdOld1 (!((Index1 == (0 : Int)) && ((Term1 == (0 : Int)) && (((CmdOp1 == (0 : Int)) && ((CmdClient1 == (0 : Int)) && ((CmdSeq1 == (0 : Int)) && ((CmdKey1 == (ByteArray.mk #[])) && ((CmdValue1 == (ByteArray.mk #[])) && ((CmdOld1 == (ByteArray.mk #[])) && true)))))) && true)))) H12 Q)
 (
 tephralaw06_CmdsBytes.k3 J eIndex eTerm eCmdOp eCmdClient eCmdSeq eCmdKey eCmdValue eCmdOld x3 x4 x5 Index Term CmdOp CmdClient CmdSeq CmdKey CmdValue CmdOld Index1 Term1 CmdOp1 CmdClient1 CmdSeq1 CmdKey1 CmdValue1 CmdOld1 false H12 Q)))))))
 (
 SCalls Try.prog tephralaw06_right.id [.agg #[.int .i64 Index, .int .i64 Term, .int .i64 CmdOp, .int .i64 CmdClient, .int .i64 CmdSeq, .string CmdKey, .string CmdValue, .string CmdOld]] H11 (fun r10 H15 => ∃ x13 : Bool, r10 = .bool x13 ∧ 
 Br (!x13) (
 Br x7 (
  (
 SCalls Try.prog tephralaw06_bytes.id [.agg #[.int .i64 Index1, .int .i64 Term1, .int .i64 CmdOp1, .int .i64 CmdClient1, .int .i64 CmdSeq1, .string CmdKey1, .string CmdValue1, .string CmdOld1]] H15 (fun r11 H16 => ∃ x14 : ByteArray, r11 = .string x14 ∧ vB2S H16 x6.a x6.len (fun s3 => 
 Br (!(x14.toList == s3.toList)) (
 tephralaw06_CmdsBytes.k3 J eIndex eTerm eCmdOp eCmdClient eCmdSeq eCmdKey eCmdValue eCmdOld x3 x4 x5 Index Term CmdOp CmdClient CmdSeq CmdKey CmdValue CmdOld Index1 Term1 CmdOp1 CmdClient1 CmdSeq1 CmdKey1 CmdValue1 CmdOld1 true H16 Q)
 (
 Br (!x7) (
 tephralaw06_CmdsBytes.k3 J eIndex eTerm eCmdOp eCmdClient eCmdSeq eCmdKey eCmdValue eCmdOld x3 x4 x5 Index Term CmdOp CmdClient CmdSeq CmdKey CmdValue CmdOld Index1 Term1 CmdOp1 CmdClient1 CmdSeq1 CmdKey1 CmdValue1 CmdOld1 (!((Index1 == (0 : Int)) && ((Term1 == (0 : Int)) && (((CmdOp1 == (0 : Int)) && ((CmdClient1 == (0 : Int)) && ((CmdSeq1 == (0 : Int)) && ((CmdKey1 == (ByteArray.mk #[])) && ((CmdValue1 == (ByteArray.mk #[])) && ((CmdOld1 == (ByteArray.mk #[])) && true)))))) && true)))) H16 Q)
 (
 tephralaw06_CmdsBytes.k3 J eIndex eTerm eCmdOp eCmdClient eCmdSeq eCmdKey eCmdValue eCmdOld x3 x4 x5 Index Term CmdOp CmdClient CmdSeq CmdKey CmdValue CmdOld Index1 Term1 CmdOp1 CmdClient1 CmdSeq1 CmdKey1 CmdValue1 CmdOld1 false H16 Q))))) ∧ 
  (vB2S H15 x6.a x6.len (fun s4 => 
 SCalls Try.prog tephralaw06_bytes.id [.agg #[.int .i64 Index1, .int .i64 Term1, .int .i64 CmdOp1, .int .i64 CmdClient1, .int .i64 CmdSeq1, .string CmdKey1, .string CmdValue1, .string CmdOld1]] H15 (fun r12 H17 => ∃ x15 : ByteArray, r12 = .string x15 ∧ 
 Br (!(x15.toList == s4.toList)) (
 tephralaw06_CmdsBytes.k3 J eIndex eTerm eCmdOp eCmdClient eCmdSeq eCmdKey eCmdValue eCmdOld x3 x4 x5 Index Term CmdOp CmdClient CmdSeq CmdKey CmdValue CmdOld Index1 Term1 CmdOp1 CmdClient1 CmdSeq1 CmdKey1 CmdValue1 CmdOld1 true H17 Q)
 (
 Br (!x7) (
 tephralaw06_CmdsBytes.k3 J eIndex eTerm eCmdOp eCmdClient eCmdSeq eCmdKey eCmdValue eCmdOld x3 x4 x5 Index Term CmdOp CmdClient CmdSeq CmdKey CmdValue CmdOld Index1 Term1 CmdOp1 CmdClient1 CmdSeq1 CmdKey1 CmdValue1 CmdOld1 (!((Index1 == (0 : Int)) && ((Term1 == (0 : Int)) && (((CmdOp1 == (0 : Int)) && ((CmdClient1 == (0 : Int)) && ((CmdSeq1 == (0 : Int)) && ((CmdKey1 == (ByteArray.mk #[])) && ((CmdValue1 == (ByteArray.mk #[])) && ((CmdOld1 == (ByteArray.mk #[])) && true)))))) && true)))) H17 Q)
 (
 tephralaw06_CmdsBytes.k3 J eIndex eTerm eCmdOp eCmdClient eCmdSeq eCmdKey eCmdValue eCmdOld x3 x4 x5 Index Term CmdOp CmdClient CmdSeq CmdKey CmdValue CmdOld Index1 Term1 CmdOp1 CmdClient1 CmdSeq1 CmdKey1 CmdValue1 CmdOld1 false H17 Q))))))
 (
  (
 Br (!x7) (
 tephralaw06_CmdsBytes.k3 J eIndex eTerm eCmdOp eCmdClient eCmdSeq eCmdKey eCmdValue eCmdOld x3 x4 x5 Index Term CmdOp CmdClient CmdSeq CmdKey CmdValue CmdOld Index1 Term1 CmdOp1 CmdClient1 CmdSeq1 CmdKey1 CmdValue1 CmdOld1 (!((Index1 == (0 : Int)) && ((Term1 == (0 : Int)) && (((CmdOp1 == (0 : Int)) && ((CmdClient1 == (0 : Int)) && ((CmdSeq1 == (0 : Int)) && ((CmdKey1 == (ByteArray.mk #[])) && ((CmdValue1 == (ByteArray.mk #[])) && ((CmdOld1 == (ByteArray.mk #[])) && true)))))) && true)))) H15 Q)
 (
 tephralaw06_CmdsBytes.k3 J eIndex eTerm eCmdOp eCmdClient eCmdSeq eCmdKey eCmdValue eCmdOld x3 x4 x5 Index Term CmdOp CmdClient CmdSeq CmdKey CmdValue CmdOld Index1 Term1 CmdOp1 CmdClient1 CmdSeq1 CmdKey1 CmdValue1 CmdOld1 false H15 Q)) ∧ 
  (
 Br (!x7) (
 tephralaw06_CmdsBytes.k3 J eIndex eTerm eCmdOp eCmdClient eCmdSeq eCmdKey eCmdValue eCmdOld x3 x4 x5 Index Term CmdOp CmdClient CmdSeq CmdKey CmdValue CmdOld Index1 Term1 CmdOp1 CmdClient1 CmdSeq1 CmdKey1 CmdValue1 CmdOld1 (!((Index1 == (0 : Int)) && ((Term1 == (0 : Int)) && (((CmdOp1 == (0 : Int)) && ((CmdClient1 == (0 : Int)) && ((CmdSeq1 == (0 : Int)) && ((CmdKey1 == (ByteArray.mk #[])) && ((CmdValue1 == (ByteArray.mk #[])) && ((CmdOld1 == (ByteArray.mk #[])) && true)))))) && true)))) H15 Q)
 (
 tephralaw06_CmdsBytes.k3 J eIndex eTerm eCmdOp eCmdClient eCmdSeq eCmdKey eCmdValue eCmdOld x3 x4 x5 Index Term CmdOp CmdClient CmdSeq CmdKey CmdValue CmdOld Index1 Term1 CmdOp1 CmdClient1 CmdSeq1 CmdKey1 CmdValue1 CmdOld1 false H15 Q))))
 (
  (
 Br (!x7) (
 tephralaw06_CmdsBytes.k3 J eIndex eTerm eCmdOp eCmdClient eCmdSeq eCmdKey eCmdValue eCmdOld x3 x4 x5 Index Term CmdOp CmdClient CmdSeq CmdKey CmdValue CmdOld Index1 Term1 CmdOp1 CmdClient1 CmdSeq1 CmdKey1 CmdValue1 CmdOld1 (!((Index1 == (0 : Int)) && ((Term1 == (0 : Int)) && (((CmdOp1 == (0 : Int)) && ((CmdClient1 == (0 : Int)) && ((CmdSeq1 == (0 : Int)) && ((CmdKey1 == (ByteArray.mk #[])) && ((CmdValue1 == (ByteArray.mk #[])) && ((CmdOld1 == (ByteArray.mk #[])) && true)))))) && true)))) H15 Q)
 (
 tephralaw06_CmdsBytes.k3 J eIndex eTerm eCmdOp eCmdClient eCmdSeq eCmdKey eCmdValue eCmdOld x3 x4 x5 Index Term CmdOp CmdClient CmdSeq CmdKey CmdValue CmdOld Index1 Term1 CmdOp1 CmdClient1 CmdSeq1 CmdKey1 CmdValue1 CmdOld1 false H15 Q)) ∧ 
  (
 Br (!x7) (
 tephralaw06_CmdsBytes.k3 J eIndex eTerm eCmdOp eCmdClient eCmdSeq eCmdKey eCmdValue eCmdOld x3 x4 x5 Index Term CmdOp CmdClient CmdSeq CmdKey CmdValue CmdOld Index1 Term1 CmdOp1 CmdClient1 CmdSeq1 CmdKey1 CmdValue1 CmdOld1 (!((Index1 == (0 : Int)) && ((Term1 == (0 : Int)) && (((CmdOp1 == (0 : Int)) && ((CmdClient1 == (0 : Int)) && ((CmdSeq1 == (0 : Int)) && ((CmdKey1 == (ByteArray.mk #[])) && ((CmdValue1 == (ByteArray.mk #[])) && ((CmdOld1 == (ByteArray.mk #[])) && true)))))) && true)))) H15 Q)
 (
 tephralaw06_CmdsBytes.k3 J eIndex eTerm eCmdOp eCmdClient eCmdSeq eCmdKey eCmdValue eCmdOld x3 x4 x5 Index Term CmdOp CmdClient CmdSeq CmdKey CmdValue CmdOld Index1 Term1 CmdOp1 CmdClient1 CmdSeq1 CmdKey1 CmdValue1 CmdOld1 false H15 Q)))))))))) ∧ 
  (
 SCalls Try.prog tephralaw06_bytes.id [.agg #[.int .i64 Index, .int .i64 Term, .int .i64 CmdOp, .int .i64 CmdClient, .int .i64 CmdSeq, .string CmdKey, .string CmdValue, .string CmdOld]] (holes H9 1) (fun r13 H18 => ∃ x16 : ByteArray, r13 = .string x16 ∧ vB2S H18 x6.a x6.len (fun s5 => 
 Br (!(s5.toList == x16.toList)) (
  (
 tephralaw06_CmdsBytes.k3 J eIndex eTerm eCmdOp eCmdClient eCmdSeq eCmdKey eCmdValue eCmdOld x3 x4 x5 Index Term CmdOp CmdClient CmdSeq CmdKey CmdValue CmdOld Index1 Term1 CmdOp1 CmdClient1 CmdSeq1 CmdKey1 CmdValue1 CmdOld1 true H18 Q) ∧ 
  (
 tephralaw06_CmdsBytes.k3 J eIndex eTerm eCmdOp eCmdClient eCmdSeq eCmdKey eCmdValue eCmdOld x3 x4 x5 Index Term CmdOp CmdClient CmdSeq CmdKey CmdValue CmdOld Index1 Term1 CmdOp1 CmdClient1 CmdSeq1 CmdKey1 CmdValue1 CmdOld1 true H18 Q))
 (
 SCalls Try.prog tephralaw06_right.id [.agg #[.int .i64 Index, .int .i64 Term, .int .i64 CmdOp, .int .i64 CmdClient, .int .i64 CmdSeq, .string CmdKey, .string CmdValue, .string CmdOld]] H18 (fun r14 H19 => ∃ x17 : Bool, r14 = .bool x17 ∧ 
 Br x17 (
 Br (!x7) (
  (
 tephralaw06_CmdsBytes.k3 J eIndex eTerm eCmdOp eCmdClient eCmdSeq eCmdKey eCmdValue eCmdOld x3 x4 x5 Index Term CmdOp CmdClient CmdSeq CmdKey CmdValue CmdOld Index1 Term1 CmdOp1 CmdClient1 CmdSeq1 CmdKey1 CmdValue1 CmdOld1 true H19 Q) ∧ 
  (
 tephralaw06_CmdsBytes.k3 J eIndex eTerm eCmdOp eCmdClient eCmdSeq eCmdKey eCmdValue eCmdOld x3 x4 x5 Index Term CmdOp CmdClient CmdSeq CmdKey CmdValue CmdOld Index1 Term1 CmdOp1 CmdClient1 CmdSeq1 CmdKey1 CmdValue1 CmdOld1 true H19 Q))
 (
 Br (!((Index1 == Index) && ((Term1 == Term) && (((CmdOp1 == CmdOp) && ((CmdClient1 == CmdClient) && ((CmdSeq1 == CmdSeq) && ((CmdKey1 == CmdKey) && ((CmdValue1 == CmdValue) && ((CmdOld1 == CmdOld) && true)))))) && true)))) (
  (
 tephralaw06_CmdsBytes.k3 J eIndex eTerm eCmdOp eCmdClient eCmdSeq eCmdKey eCmdValue eCmdOld x3 x4 x5 Index Term CmdOp CmdClient CmdSeq CmdKey CmdValue CmdOld Index1 Term1 CmdOp1 CmdClient1 CmdSeq1 CmdKey1 CmdValue1 CmdOld1 true H19 Q) ∧ 
  (
 tephralaw06_CmdsBytes.k3 J eIndex eTerm eCmdOp eCmdClient eCmdSeq eCmdKey eCmdValue eCmdOld x3 x4 x5 Index Term CmdOp CmdClient CmdSeq CmdKey CmdValue CmdOld Index1 Term1 CmdOp1 CmdClient1 CmdSeq1 CmdKey1 CmdValue1 CmdOld1 true H19 Q))
 (
 SCalls Try.prog tephralaw06_right.id [.agg #[.int .i64 Index, .int .i64 Term, .int .i64 CmdOp, .int .i64 CmdClient, .int .i64 CmdSeq, .string CmdKey, .string CmdValue, .string CmdOld]] H19 (fun r15 H20 => ∃ x18 : Bool, r15 = .bool x18 ∧ 
 Br (!x18) (
 Br x7 (
  (
 SCalls Try.prog tephralaw06_bytes.id [.agg #[.int .i64 Index1, .int .i64 Term1, .int .i64 CmdOp1, .int .i64 CmdClient1, .int .i64 CmdSeq1, .string CmdKey1, .string CmdValue1, .string CmdOld1]] H20 (fun r16 H21 => ∃ x19 : ByteArray, r16 = .string x19 ∧ vB2S H21 x6.a x6.len (fun s6 => 
 Br (!(x19.toList == s6.toList)) (
 tephralaw06_CmdsBytes.k3 J eIndex eTerm eCmdOp eCmdClient eCmdSeq eCmdKey eCmdValue eCmdOld x3 x4 x5 Index Term CmdOp CmdClient CmdSeq CmdKey CmdValue CmdOld Index1 Term1 CmdOp1 CmdClient1 CmdSeq1 CmdKey1 CmdValue1 CmdOld1 true H21 Q)
 (
 Br (!x7) (
 tephralaw06_CmdsBytes.k3 J eIndex eTerm eCmdOp eCmdClient eCmdSeq eCmdKey eCmdValue eCmdOld x3 x4 x5 Index Term CmdOp CmdClient CmdSeq CmdKey CmdValue CmdOld Index1 Term1 CmdOp1 CmdClient1 CmdSeq1 CmdKey1 CmdValue1 CmdOld1 (!((Index1 == (0 : Int)) && ((Term1 == (0 : Int)) && (((CmdOp1 == (0 : Int)) && ((CmdClient1 == (0 : Int)) && ((CmdSeq1 == (0 : Int)) && ((CmdKey1 == (ByteArray.mk #[])) && ((CmdValue1 == (ByteArray.mk #[])) && ((CmdOld1 == (ByteArray.mk #[])) && true)))))) && true)))) H21 Q)
 (
 tephralaw06_CmdsBytes.k3 J eIndex eTerm eCmdOp eCmdClient eCmdSeq eCmdKey eCmdValue eCmdOld x3 x4 x5 Index Term CmdOp CmdClient CmdSeq CmdKey CmdValue CmdOld Index1 Term1 CmdOp1 CmdClient1 CmdSeq1 CmdKey1 CmdValue1 CmdOld1 false H21 Q))))) ∧ 
  (vB2S H20 x6.a x6.len (fun s7 => 
 SCalls Try.prog tephralaw06_bytes.id [.agg #[.int .i64 Index1, .int .i64 Term1, .int .i64 CmdOp1, .int .i64 CmdClient1, .int .i64 CmdSeq1, .string CmdKey1, .string CmdValue1, .string CmdOld1]] H20 (fun r17 H22 => ∃ x20 : ByteArray, r17 = .string x20 ∧ 
 Br (!(x20.toList == s7.toList)) (
 tephralaw06_CmdsBytes.k3 J eIndex eTerm eCmdOp eCmdClient eCmdSeq eCmdKey eCmdValue eCmdOld x3 x4 x5 Index Term CmdOp CmdClient CmdSeq CmdKey CmdValue CmdOld Index1 Term1 CmdOp1 CmdClient1 CmdSeq1 CmdKey1 CmdValue1 CmdOld1 true H22 Q)
 (
 Br (!x7) (
 tephralaw06_CmdsBytes.k3 J eIndex eTerm eCmdOp eCmdClient eCmdSeq eCmdKey eCmdValue eCmdOld x3 x4 x5 Index Term CmdOp CmdClient CmdSeq CmdKey CmdValue CmdOld Index1 Term1 CmdOp1 CmdClient1 CmdSeq1 CmdKey1 CmdValue1 CmdOld1 (!((Index1 == (0 : Int)) && ((Term1 == (0 : Int)) && (((CmdOp1 == (0 : Int)) && ((CmdClient1 == (0 : Int)) && ((CmdSeq1 == (0 : Int)) && ((CmdKey1 == (ByteArray.mk #[])) && ((CmdValue1 == (ByteArray.mk #[])) && ((CmdOld1 == (ByteArray.mk #[])) && true)))))) && true)))) H22 Q)
 (
 tephralaw06_CmdsBytes.k3 J eIndex eTerm eCmdOp eCmdClient eCmdSeq eCmdKey eCmdValue eCmdOld x3 x4 x5 Index Term CmdOp CmdClient CmdSeq CmdKey CmdValue CmdOld Index1 Term1 CmdOp1 CmdClient1 CmdSeq1 CmdKey1 CmdValue1 CmdOld1 false H22 Q))))))
 (
  (
 Br (!x7) (
 tephralaw06_CmdsBytes.k3 J eIndex eTerm eCmdOp eCmdClient eCmdSeq eCmdKey eCmdValue eCmdOld x3 x4 x5 Index Term CmdOp CmdClient CmdSeq CmdKey CmdValue CmdOld Index1 Term1 CmdOp1 CmdClient1 CmdSeq1 CmdKey1 CmdValue1 CmdOld1 (!((Index1 == (0 : Int)) && ((Term1 == (0 : Int)) && (((CmdOp1 == (0 : Int)) && ((CmdClient1 == (0 : Int)) && ((CmdSeq1 == (0 : Int)) && ((CmdKey1 == (ByteArray.mk #[])) && ((CmdValue1 == (ByteArray.mk #[])) && ((CmdOld1 == (ByteArray.mk #[])) && true)))))) && true)))) H20 Q)
 (
 tephralaw06_CmdsBytes.k3 J eIndex eTerm eCmdOp eCmdClient eCmdSeq eCmdKey eCmdValue eCmdOld x3 x4 x5 Index Term CmdOp CmdClient CmdSeq CmdKey CmdValue CmdOld Index1 Term1 CmdOp1 CmdClient1 CmdSeq1 CmdKey1 CmdValue1 CmdOld1 false H20 Q)) ∧ 
  (
 Br (!x7) (
 tephralaw06_CmdsBytes.k3 J eIndex eTerm eCmdOp eCmdClient eCmdSeq eCmdKey eCmdValue eCmdOld x3 x4 x5 Index Term CmdOp CmdClient CmdSeq CmdKey CmdValue CmdOld Index1 Term1 CmdOp1 CmdClient1 CmdSeq1 CmdKey1 CmdValue1 CmdOld1 (!((Index1 == (0 : Int)) && ((Term1 == (0 : Int)) && (((CmdOp1 == (0 : Int)) && ((CmdClient1 == (0 : Int)) && ((CmdSeq1 == (0 : Int)) && ((CmdKey1 == (ByteArray.mk #[])) && ((CmdValue1 == (ByteArray.mk #[])) && ((CmdOld1 == (ByteArray.mk #[])) && true)))))) && true)))) H20 Q)
 (
 tephralaw06_CmdsBytes.k3 J eIndex eTerm eCmdOp eCmdClient eCmdSeq eCmdKey eCmdValue eCmdOld x3 x4 x5 Index Term CmdOp CmdClient CmdSeq CmdKey CmdValue CmdOld Index1 Term1 CmdOp1 CmdClient1 CmdSeq1 CmdKey1 CmdValue1 CmdOld1 false H20 Q))))
 (
  (
 Br (!x7) (
 tephralaw06_CmdsBytes.k3 J eIndex eTerm eCmdOp eCmdClient eCmdSeq eCmdKey eCmdValue eCmdOld x3 x4 x5 Index Term CmdOp CmdClient CmdSeq CmdKey CmdValue CmdOld Index1 Term1 CmdOp1 CmdClient1 CmdSeq1 CmdKey1 CmdValue1 CmdOld1 (!((Index1 == (0 : Int)) && ((Term1 == (0 : Int)) && (((CmdOp1 == (0 : Int)) && ((CmdClient1 == (0 : Int)) && ((CmdSeq1 == (0 : Int)) && ((CmdKey1 == (ByteArray.mk #[])) && ((CmdValue1 == (ByteArray.mk #[])) && ((CmdOld1 == (ByteArray.mk #[])) && true)))))) && true)))) H20 Q)
 (
 tephralaw06_CmdsBytes.k3 J eIndex eTerm eCmdOp eCmdClient eCmdSeq eCmdKey eCmdValue eCmdOld x3 x4 x5 Index Term CmdOp CmdClient CmdSeq CmdKey CmdValue CmdOld Index1 Term1 CmdOp1 CmdClient1 CmdSeq1 CmdKey1 CmdValue1 CmdOld1 false H20 Q)) ∧ 
  (
 Br (!x7) (
 tephralaw06_CmdsBytes.k3 J eIndex eTerm eCmdOp eCmdClient eCmdSeq eCmdKey eCmdValue eCmdOld x3 x4 x5 Index Term CmdOp CmdClient CmdSeq CmdKey CmdValue CmdOld Index1 Term1 CmdOp1 CmdClient1 CmdSeq1 CmdKey1 CmdValue1 CmdOld1 (!((Index1 == (0 : Int)) && ((Term1 == (0 : Int)) && (((CmdOp1 == (0 : Int)) && ((CmdClient1 == (0 : Int)) && ((CmdSeq1 == (0 : Int)) && ((CmdKey1 == (ByteArray.mk #[])) && ((CmdValue1 == (ByteArray.mk #[])) && ((CmdOld1 == (ByteArray.mk #[])) && true)))))) && true)))) H20 Q)
 (
 tephralaw06_CmdsBytes.k3 J eIndex eTerm eCmdOp eCmdClient eCmdSeq eCmdKey eCmdValue eCmdOld x3 x4 x5 Index Term CmdOp CmdClient CmdSeq CmdKey CmdValue CmdOld Index1 Term1 CmdOp1 CmdClient1 CmdSeq1 CmdKey1 CmdValue1 CmdOld1 false H20 Q)))))))
 (
 SCalls Try.prog tephralaw06_right.id [.agg #[.int .i64 Index, .int .i64 Term, .int .i64 CmdOp, .int .i64 CmdClient, .int .i64 CmdSeq, .string CmdKey, .string CmdValue, .string CmdOld]] H19 (fun r18 H23 => ∃ x21 : Bool, r18 = .bool x21 ∧ 
 Br (!x21) (
 Br x7 (
  (
 SCalls Try.prog tephralaw06_bytes.id [.agg #[.int .i64 Index1, .int .i64 Term1, .int .i64 CmdOp1, .int .i64 CmdClient1, .int .i64 CmdSeq1, .string CmdKey1, .string CmdValue1, .string CmdOld1]] H23 (fun r19 H24 => ∃ x22 : ByteArray, r19 = .string x22 ∧ vB2S H24 x6.a x6.len (fun s8 => 
 Br (!(x22.toList == s8.toList)) (
 tephralaw06_CmdsBytes.k3 J eIndex eTerm eCmdOp eCmdClient eCmdSeq eCmdKey eCmdValue eCmdOld x3 x4 x5 Index Term CmdOp CmdClient CmdSeq CmdKey CmdValue CmdOld Index1 Term1 CmdOp1 CmdClient1 CmdSeq1 CmdKey1 CmdValue1 CmdOld1 true H24 Q)
 (
 Br (!x7) (
 tephralaw06_CmdsBytes.k3 J eIndex eTerm eCmdOp eCmdClient eCmdSeq eCmdKey eCmdValue eCmdOld x3 x4 x5 Index Term CmdOp CmdClient CmdSeq CmdKey CmdValue CmdOld Index1 Term1 CmdOp1 CmdClient1 CmdSeq1 CmdKey1 CmdValue1 CmdOld1 (!((Index1 == (0 : Int)) && ((Term1 == (0 : Int)) && (((CmdOp1 == (0 : Int)) && ((CmdClient1 == (0 : Int)) && ((CmdSeq1 == (0 : Int)) && ((CmdKey1 == (ByteArray.mk #[])) && ((CmdValue1 == (ByteArray.mk #[])) && ((CmdOld1 == (ByteArray.mk #[])) && true)))))) && true)))) H24 Q)
 (
 tephralaw06_CmdsBytes.k3 J eIndex eTerm eCmdOp eCmdClient eCmdSeq eCmdKey eCmdValue eCmdOld x3 x4 x5 Index Term CmdOp CmdClient CmdSeq CmdKey CmdValue CmdOld Index1 Term1 CmdOp1 CmdClient1 CmdSeq1 CmdKey1 CmdValue1 CmdOld1 false H24 Q))))) ∧ 
  (vB2S H23 x6.a x6.len (fun s9 => 
 SCalls Try.prog tephralaw06_bytes.id [.agg #[.int .i64 Index1, .int .i64 Term1, .int .i64 CmdOp1, .int .i64 CmdClient1, .int .i64 CmdSeq1, .string CmdKey1, .string CmdValue1, .string CmdOld1]] H23 (fun r20 H25 => ∃ x23 : ByteArray, r20 = .string x23 ∧ 
 Br (!(x23.toList == s9.toList)) (
 tephralaw06_CmdsBytes.k3 J eIndex eTerm eCmdOp eCmdClient eCmdSeq eCmdKey eCmdValue eCmdOld x3 x4 x5 Index Term CmdOp CmdClient CmdSeq CmdKey CmdValue CmdOld Index1 Term1 CmdOp1 CmdClient1 CmdSeq1 CmdKey1 CmdValue1 CmdOld1 true H25 Q)
 (
 Br (!x7) (
 tephralaw06_CmdsBytes.k3 J eIndex eTerm eCmdOp eCmdClient eCmdSeq eCmdKey eCmdValue eCmdOld x3 x4 x5 Index Term CmdOp CmdClient CmdSeq CmdKey CmdValue CmdOld Index1 Term1 CmdOp1 CmdClient1 CmdSeq1 CmdKey1 CmdValue1 CmdOld1 (!((Index1 == (0 : Int)) && ((Term1 == (0 : Int)) && (((CmdOp1 == (0 : Int)) && ((CmdClient1 == (0 : Int)) && ((CmdSeq1 == (0 : Int)) && ((CmdKey1 == (ByteArray.mk #[])) && ((CmdValue1 == (ByteArray.mk #[])) && ((CmdOld1 == (ByteArray.mk #[])) && true)))))) && true)))) H25 Q)
 (
 tephralaw06_CmdsBytes.k3 J eIndex eTerm eCmdOp eCmdClient eCmdSeq eCmdKey eCmdValue eCmdOld x3 x4 x5 Index Term CmdOp CmdClient CmdSeq CmdKey CmdValue CmdOld Index1 Term1 CmdOp1 CmdClient1 CmdSeq1 CmdKey1 CmdValue1 CmdOld1 false H25 Q))))))
 (
  (
 Br (!x7) (
 tephralaw06_CmdsBytes.k3 J eIndex eTerm eCmdOp eCmdClient eCmdSeq eCmdKey eCmdValue eCmdOld x3 x4 x5 Index Term CmdOp CmdClient CmdSeq CmdKey CmdValue CmdOld Index1 Term1 CmdOp1 CmdClient1 CmdSeq1 CmdKey1 CmdValue1 CmdOld1 (!((Index1 == (0 : Int)) && ((Term1 == (0 : Int)) && (((CmdOp1 == (0 : Int)) && ((CmdClient1 == (0 : Int)) && ((CmdSeq1 == (0 : Int)) && ((CmdKey1 == (ByteArray.mk #[])) && ((CmdValue1 == (ByteArray.mk #[])) && ((CmdOld1 == (ByteArray.mk #[])) && true)))))) && true)))) H23 Q)
 (
 tephralaw06_CmdsBytes.k3 J eIndex eTerm eCmdOp eCmdClient eCmdSeq eCmdKey eCmdValue eCmdOld x3 x4 x5 Index Term CmdOp CmdClient CmdSeq CmdKey CmdValue CmdOld Index1 Term1 CmdOp1 CmdClient1 CmdSeq1 CmdKey1 CmdValue1 CmdOld1 false H23 Q)) ∧ 
  (
 Br (!x7) (
 tephralaw06_CmdsBytes.k3 J eIndex eTerm eCmdOp eCmdClient eCmdSeq eCmdKey eCmdValue eCmdOld x3 x4 x5 Index Term CmdOp CmdClient CmdSeq CmdKey CmdValue CmdOld Index1 Term1 CmdOp1 CmdClient1 CmdSeq1 CmdKey1 CmdValue1 CmdOld1 (!((Index1 == (0 : Int)) && ((Term1 == (0 : Int)) && (((CmdOp1 == (0 : Int)) && ((CmdClient1 == (0 : Int)) && ((CmdSeq1 == (0 : Int)) && ((CmdKey1 == (ByteArray.mk #[])) && ((CmdValue1 == (ByteArray.mk #[])) && ((CmdOld1 == (ByteArray.mk #[])) && true)))))) && true)))) H23 Q)
 (
 tephralaw06_CmdsBytes.k3 J eIndex eTerm eCmdOp eCmdClient eCmdSeq eCmdKey eCmdValue eCmdOld x3 x4 x5 Index Term CmdOp CmdClient CmdSeq CmdKey CmdValue CmdOld Index1 Term1 CmdOp1 CmdClient1 CmdSeq1 CmdKey1 CmdValue1 CmdOld1 false H23 Q))))
 (
  (
 Br (!x7) (
 tephralaw06_CmdsBytes.k3 J eIndex eTerm eCmdOp eCmdClient eCmdSeq eCmdKey eCmdValue eCmdOld x3 x4 x5 Index Term CmdOp CmdClient CmdSeq CmdKey CmdValue CmdOld Index1 Term1 CmdOp1 CmdClient1 CmdSeq1 CmdKey1 CmdValue1 CmdOld1 (!((Index1 == (0 : Int)) && ((Term1 == (0 : Int)) && (((CmdOp1 == (0 : Int)) && ((CmdClient1 == (0 : Int)) && ((CmdSeq1 == (0 : Int)) && ((CmdKey1 == (ByteArray.mk #[])) && ((CmdValue1 == (ByteArray.mk #[])) && ((CmdOld1 == (ByteArray.mk #[])) && true)))))) && true)))) H23 Q)
 (
 tephralaw06_CmdsBytes.k3 J eIndex eTerm eCmdOp eCmdClient eCmdSeq eCmdKey eCmdValue eCmdOld x3 x4 x5 Index Term CmdOp CmdClient CmdSeq CmdKey CmdValue CmdOld Index1 Term1 CmdOp1 CmdClient1 CmdSeq1 CmdKey1 CmdValue1 CmdOld1 false H23 Q)) ∧ 
  (
 Br (!x7) (
 tephralaw06_CmdsBytes.k3 J eIndex eTerm eCmdOp eCmdClient eCmdSeq eCmdKey eCmdValue eCmdOld x3 x4 x5 Index Term CmdOp CmdClient CmdSeq CmdKey CmdValue CmdOld Index1 Term1 CmdOp1 CmdClient1 CmdSeq1 CmdKey1 CmdValue1 CmdOld1 (!((Index1 == (0 : Int)) && ((Term1 == (0 : Int)) && (((CmdOp1 == (0 : Int)) && ((CmdClient1 == (0 : Int)) && ((CmdSeq1 == (0 : Int)) && ((CmdKey1 == (ByteArray.mk #[])) && ((CmdValue1 == (ByteArray.mk #[])) && ((CmdOld1 == (ByteArray.mk #[])) && true)))))) && true)))) H23 Q)
 (
 tephralaw06_CmdsBytes.k3 J eIndex eTerm eCmdOp eCmdClient eCmdSeq eCmdKey eCmdValue eCmdOld x3 x4 x5 Index Term CmdOp CmdClient CmdSeq CmdKey CmdValue CmdOld Index1 Term1 CmdOp1 CmdClient1 CmdSeq1 CmdKey1 CmdValue1 CmdOld1 false H23 Q))))))))))))))
 (Q (.bool true) H7)
theorem tephralaw06_CmdsBytes.l1.eq (J : Jn) (eIndex : Int) (eTerm : Int) (eCmdOp : Int) (eCmdClient : Int) (eCmdSeq : Int) (eCmdKey : ByteArray) (eCmdValue : ByteArray) (eCmdOld : ByteArray) (x3 : Sl) (x4 : Int) (H7 : Hp) (x5 : Int) (Q : Value → Hp → Prop) : vAtBody Try.prog tephralaw06_CmdsBytes.cf J tephralaw06_CmdsBytes.fn [1, 1, 1, 0, 1, 0] [0, 1, 1, 1, 1] Q (tephralaw06_CmdsBytes.l1.st eIndex eTerm eCmdOp eCmdClient eCmdSeq eCmdKey eCmdValue eCmdOld x3 x4 H7 x5) = tephralaw06_CmdsBytes.l1.body J eIndex eTerm eCmdOp eCmdClient eCmdSeq eCmdKey eCmdValue eCmdOld x3 x4 H7 x5 Q := by kernel_rfl
theorem tephralaw06_CmdsBytes.l1.step {eIndex : Int} {eTerm : Int} {eCmdOp : Int} {eCmdClient : Int} {eCmdSeq : Int} {eCmdKey : ByteArray} {eCmdValue : ByteArray} {eCmdOld : ByteArray} {x3 : Sl} {x4 : Int} {H7 : Hp} {x5 : Int} {Q : Value → Hp → Prop} (h : tephralaw06_CmdsBytes.l1.body J0 eIndex eTerm eCmdOp eCmdClient eCmdSeq eCmdKey eCmdValue eCmdOld x3 x4 H7 x5 Q) : tephralaw06_CmdsBytes.l1 J0 eIndex eTerm eCmdOp eCmdClient eCmdSeq eCmdKey eCmdValue eCmdOld x3 x4 H7 x5 Q := vAt_stepC (tephralaw06_CmdsBytes.l1.st eIndex eTerm eCmdOp eCmdClient eCmdSeq eCmdKey eCmdValue eCmdOld x3 x4 H7 x5) (tephralaw06_CmdsBytes.l1.eq J0 eIndex eTerm eCmdOp eCmdClient eCmdSeq eCmdKey eCmdValue eCmdOld x3 x4 H7 x5 Q) (by kernel_rfl) h
noncomputable def tephralaw06_CmdsBytes.k3.body (J : Jn) (eIndex : Int) (eTerm : Int) (eCmdOp : Int) (eCmdClient : Int) (eCmdSeq : Int) (eCmdKey : ByteArray) (eCmdValue : ByteArray) (eCmdOld : ByteArray) (x3 : Sl) (x4 : Int) (x5 : Int) (Index : Int) (Term : Int) (CmdOp : Int) (CmdClient : Int) (CmdSeq : Int) (CmdKey : ByteArray) (CmdValue : ByteArray) (CmdOld : ByteArray) (Index1 : Int) (Term1 : Int) (CmdOp1 : Int) (CmdClient1 : Int) (CmdSeq1 : Int) (CmdKey1 : ByteArray) (CmdValue1 : ByteArray) (CmdOld1 : ByteArray) (x24 : Bool) (H26 : Hp) (Q : Value → Hp → Prop) : Prop :=
 
 Br x24 (Q (.bool false) H26)
 (
 tephralaw06_CmdsBytes.l1 J eIndex eTerm eCmdOp eCmdClient eCmdSeq eCmdKey eCmdValue eCmdOld x3 x4 H26 (w64 (x5 + 1)) Q)
theorem tephralaw06_CmdsBytes.k3.eq (J : Jn) (eIndex : Int) (eTerm : Int) (eCmdOp : Int) (eCmdClient : Int) (eCmdSeq : Int) (eCmdKey : ByteArray) (eCmdValue : ByteArray) (eCmdOld : ByteArray) (x3 : Sl) (x4 : Int) (x5 : Int) (Index : Int) (Term : Int) (CmdOp : Int) (CmdClient : Int) (CmdSeq : Int) (CmdKey : ByteArray) (CmdValue : ByteArray) (CmdOld : ByteArray) (Index1 : Int) (Term1 : Int) (CmdOp1 : Int) (CmdClient1 : Int) (CmdSeq1 : Int) (CmdKey1 : ByteArray) (CmdValue1 : ByteArray) (CmdOld1 : ByteArray) (x24 : Bool) (H26 : Hp) (Q : Value → Hp → Prop) : vSeg Try.prog tephralaw06_CmdsBytes.cf J tephralaw06_CmdsBytes.fn [1, 1, 1, 0, 1, 0, 0, 1, 1, 0, 0, 1, 1, 1, 1] [0, 1, 1, 1, 1, 1, 1, 1, 1, 1, 2, 2, 3] Q (tephralaw06_CmdsBytes.k3.st eIndex eTerm eCmdOp eCmdClient eCmdSeq eCmdKey eCmdValue eCmdOld x3 x4 x5 Index Term CmdOp CmdClient CmdSeq CmdKey CmdValue CmdOld Index1 Term1 CmdOp1 CmdClient1 CmdSeq1 CmdKey1 CmdValue1 CmdOld1 x24 H26) = tephralaw06_CmdsBytes.k3.body J eIndex eTerm eCmdOp eCmdClient eCmdSeq eCmdKey eCmdValue eCmdOld x3 x4 x5 Index Term CmdOp CmdClient CmdSeq CmdKey CmdValue CmdOld Index1 Term1 CmdOp1 CmdClient1 CmdSeq1 CmdKey1 CmdValue1 CmdOld1 x24 H26 Q := by kernel_rfl
theorem tephralaw06_CmdsBytes.k3.step {eIndex : Int} {eTerm : Int} {eCmdOp : Int} {eCmdClient : Int} {eCmdSeq : Int} {eCmdKey : ByteArray} {eCmdValue : ByteArray} {eCmdOld : ByteArray} {x3 : Sl} {x4 : Int} {x5 : Int} {Index : Int} {Term : Int} {CmdOp : Int} {CmdClient : Int} {CmdSeq : Int} {CmdKey : ByteArray} {CmdValue : ByteArray} {CmdOld : ByteArray} {Index1 : Int} {Term1 : Int} {CmdOp1 : Int} {CmdClient1 : Int} {CmdSeq1 : Int} {CmdKey1 : ByteArray} {CmdValue1 : ByteArray} {CmdOld1 : ByteArray} {x24 : Bool} {H26 : Hp} {Q : Value → Hp → Prop} (h : tephralaw06_CmdsBytes.k3.body J0 eIndex eTerm eCmdOp eCmdClient eCmdSeq eCmdKey eCmdValue eCmdOld x3 x4 x5 Index Term CmdOp CmdClient CmdSeq CmdKey CmdValue CmdOld Index1 Term1 CmdOp1 CmdClient1 CmdSeq1 CmdKey1 CmdValue1 CmdOld1 x24 H26 Q) : tephralaw06_CmdsBytes.k3 J0 eIndex eTerm eCmdOp eCmdClient eCmdSeq eCmdKey eCmdValue eCmdOld x3 x4 x5 Index Term CmdOp CmdClient CmdSeq CmdKey CmdValue CmdOld Index1 Term1 CmdOp1 CmdClient1 CmdSeq1 CmdKey1 CmdValue1 CmdOld1 x24 H26 Q := step_of (vSeg Try.prog tephralaw06_CmdsBytes.cf J0 tephralaw06_CmdsBytes.fn [1, 1, 1, 0, 1, 0, 0, 1, 1, 0, 0, 1, 1, 1, 1] [0, 1, 1, 1, 1, 1, 1, 1, 1, 1, 2, 2, 3] Q) (tephralaw06_CmdsBytes.k3.st eIndex eTerm eCmdOp eCmdClient eCmdSeq eCmdKey eCmdValue eCmdOld x3 x4 x5 Index Term CmdOp CmdClient CmdSeq CmdKey CmdValue CmdOld Index1 Term1 CmdOp1 CmdClient1 CmdSeq1 CmdKey1 CmdValue1 CmdOld1 x24 H26) (tephralaw06_CmdsBytes.k3.eq J0 eIndex eTerm eCmdOp eCmdClient eCmdSeq eCmdKey eCmdValue eCmdOld x3 x4 x5 Index Term CmdOp CmdClient CmdSeq CmdKey CmdValue CmdOld Index1 Term1 CmdOp1 CmdClient1 CmdSeq1 CmdKey1 CmdValue1 CmdOld1 x24 H26 Q) (by kernel_rfl) h
noncomputable def tephralaw06_CmdsBytes.vc (J : Jn) (eIndex : Int) (eTerm : Int) (eCmdOp : Int) (eCmdClient : Int) (eCmdSeq : Int) (eCmdKey : ByteArray) (eCmdValue : ByteArray) (eCmdOld : ByteArray) (says : Sl) (H : Hp) (Q : Value → Hp → Prop) : Prop :=
 
 SCalls Try.prog tephralaw06_awake.id [] (holes H 1) (fun r H1 => ∃ x : Bool, r = .bool x ∧ 
 Br (!x) (Q (.bool false) H1)
 (((0 : Int) ≤ (if (100 : Int) < ((eCmdKey.size : Nat) : Int) then 100 else ((eCmdKey.size : Nat) : Int)) ∧ (if (100 : Int) < ((eCmdKey.size : Nat) : Int) then 100 else ((eCmdKey.size : Nat) : Int)) ≤ ((eCmdKey.size : Nat) : Int)) ∧ ((0 : Int) ≤ (if (100 : Int) < ((eCmdValue.size : Nat) : Int) then 100 else ((eCmdValue.size : Nat) : Int)) ∧ (if (100 : Int) < ((eCmdValue.size : Nat) : Int) then 100 else ((eCmdValue.size : Nat) : Int)) ≤ ((eCmdValue.size : Nat) : Int)) ∧ ((0 : Int) ≤ (if (100 : Int) < ((eCmdOld.size : Nat) : Int) then 100 else ((eCmdOld.size : Nat) : Int)) ∧ (if (100 : Int) < ((eCmdOld.size : Nat) : Int) then 100 else ((eCmdOld.size : Nat) : Int)) ≤ ((eCmdOld.size : Nat) : Int)) ∧ 
 tephralaw06_CmdsBytes.k1 J eIndex eTerm eCmdOp eCmdClient eCmdSeq eCmdKey eCmdValue eCmdOld says H1 Q))
theorem tephralaw06_CmdsBytes.eq (J : Jn) (eIndex : Int) (eTerm : Int) (eCmdOp : Int) (eCmdClient : Int) (eCmdSeq : Int) (eCmdKey : ByteArray) (eCmdValue : ByteArray) (eCmdOld : ByteArray) (says : Sl) (H : Hp) (Q : Value → Hp → Prop) : vFn Try.prog tephralaw06_CmdsBytes.cf J tephralaw06_CmdsBytes.fn [.agg #[.int .i64 eIndex, .int .i64 eTerm, .int .i64 eCmdOp, .int .i64 eCmdClient, .int .i64 eCmdSeq, .string eCmdKey, .string eCmdValue, .string eCmdOld], .slice says.a says.len says.cap] H Q = tephralaw06_CmdsBytes.vc J eIndex eTerm eCmdOp eCmdClient eCmdSeq eCmdKey eCmdValue eCmdOld says H Q := by kernel_rfl
theorem tephralaw06_CmdsBytes.calls {eIndex : Int} {eTerm : Int} {eCmdOp : Int} {eCmdClient : Int} {eCmdSeq : Int} {eCmdKey : ByteArray} {eCmdValue : ByteArray} {eCmdOld : ByteArray} {says : Sl} {H : Hp} {Q : Value → Hp → Prop} (h : tephralaw06_CmdsBytes.vc J0 eIndex eTerm eCmdOp eCmdClient eCmdSeq eCmdKey eCmdValue eCmdOld says H Q) : SCalls Try.prog tephralaw06_CmdsBytes.id [.agg #[.int .i64 eIndex, .int .i64 eTerm, .int .i64 eCmdOp, .int .i64 eCmdClient, .int .i64 eCmdSeq, .string eCmdKey, .string eCmdValue, .string eCmdOld], .slice says.a says.len says.cap] H Q := vFn_of Try.mixed Try.func6 (tephralaw06_CmdsBytes.eq J0 eIndex eTerm eCmdOp eCmdClient eCmdSeq eCmdKey eCmdValue eCmdOld says H Q) h

/-! 3: tephra/tephralaw06.CmdsMay -/
noncomputable def tephralaw06_CmdsMay.cf : Cfg := ⟨[5, 6, 11], [], [(19, [5, 11], true)], [], true, []⟩
noncomputable def tephralaw06_CmdsMay.k1.st (cOp : Int) (cClient : Int) (cSeq : Int) (cKey : ByteArray) (cValue : ByteArray) (cOld : ByteArray) (sOp : Int) (sClient : Int) (sSeq : Int) (sKey : Int) (sValue : Int) (sOld : Int) (H3 : Hp) (y : Int) (y1 : Int) (y2 : Int) (y3 : ByteArray) (y4 : ByteArray) (y5 : ByteArray) : VS := ⟨mkFr 57 [(5, .loc 0 0), (11, .loc 2 0)], [(T_api_Cmd, [.int .i64 cOp, .int .i64 cClient, .int .i64 cSeq, .string cKey, .string cValue, .string cOld]), (T_tephralaw06_Say, [.int .u8 sOp, .int .u8 sClient, .int .u8 sSeq, .int .u8 sKey, .int .u8 sValue, .int .u8 sOld]), (T_api_Cmd, [.int .i64 y, .int .i64 y1, .int .i64 y2, .string y3, .string y4, .string y5])], H3⟩
noncomputable def tephralaw06_CmdsMay.k1 (J : Jn) (cOp : Int) (cClient : Int) (cSeq : Int) (cKey : ByteArray) (cValue : ByteArray) (cOld : ByteArray) (sOp : Int) (sClient : Int) (sSeq : Int) (sKey : Int) (sValue : Int) (sOld : Int) (H3 : Hp) (y : Int) (y1 : Int) (y2 : Int) (y3 : ByteArray) (y4 : ByteArray) (y5 : ByteArray) (Q : Value → Hp → Prop) : Prop := J (vSeg Try.prog tephralaw06_CmdsMay.cf J tephralaw06_CmdsMay.fn [1, 1, 1, 1, 1] [0, 2, 2, 3, 3] Q) (tephralaw06_CmdsMay.k1.st cOp cClient cSeq cKey cValue cOld sOp sClient sSeq sKey sValue sOld H3 y y1 y2 y3 y4 y5)
attribute [irreducible] tephralaw06_CmdsMay.k1
noncomputable def tephralaw06_CmdsMay.k1.body (J : Jn) (cOp : Int) (cClient : Int) (cSeq : Int) (cKey : ByteArray) (cValue : ByteArray) (cOld : ByteArray) (sOp : Int) (sClient : Int) (sSeq : Int) (sKey : Int) (sValue : Int) (sOld : Int) (H3 : Hp) (y : Int) (y1 : Int) (y2 : Int) (y3 : ByteArray) (y4 : ByteArray) (y5 : ByteArray) (Q : Value → Hp → Prop) : Prop :=
 
 SCalls Try.prog cmds_May.id [.agg #[.int .i64 cOp, .int .i64 cClient, .int .i64 cSeq, .string cKey, .string cValue, .string cOld]] H3 (fun r3 H4 => ∃ x2 : Bool, r3 = .bool x2 ∧ 
 SCalls Try.prog tephralaw06_may.id [.agg #[.int .i64 cOp, .int .i64 cClient, .int .i64 cSeq, .string cKey, .string cValue, .string cOld]] H4 (fun r4 H5 => ∃ x3 : Bool, r4 = .bool x3 ∧ 
 Br (x2 == x3) (
 SCalls Try.prog cmds_May.id [.agg #[.int .i64 y, .int .i64 y1, .int .i64 y2, .string y3, .string y4, .string y5]] H5 (fun r5 H6 => ∃ x4 : Bool, r5 = .bool x4 ∧ 
 SCalls Try.prog tephralaw06_may.id [.agg #[.int .i64 y, .int .i64 y1, .int .i64 y2, .string y3, .string y4, .string y5]] H6 (fun r6 H7 => ∃ x5 : Bool, r6 = .bool x5 ∧ Q (.bool (x4 == x5)) H7)))
 (Q (.bool false) H5)))
theorem tephralaw06_CmdsMay.k1.eq (J : Jn) (cOp : Int) (cClient : Int) (cSeq : Int) (cKey : ByteArray) (cValue : ByteArray) (cOld : ByteArray) (sOp : Int) (sClient : Int) (sSeq : Int) (sKey : Int) (sValue : Int) (sOld : Int) (H3 : Hp) (y : Int) (y1 : Int) (y2 : Int) (y3 : ByteArray) (y4 : ByteArray) (y5 : ByteArray) (Q : Value → Hp → Prop) : vSeg Try.prog tephralaw06_CmdsMay.cf J tephralaw06_CmdsMay.fn [1, 1, 1, 1, 1] [0, 2, 2, 3, 3] Q (tephralaw06_CmdsMay.k1.st cOp cClient cSeq cKey cValue cOld sOp sClient sSeq sKey sValue sOld H3 y y1 y2 y3 y4 y5) = tephralaw06_CmdsMay.k1.body J cOp cClient cSeq cKey cValue cOld sOp sClient sSeq sKey sValue sOld H3 y y1 y2 y3 y4 y5 Q := by kernel_rfl
theorem tephralaw06_CmdsMay.k1.step {cOp : Int} {cClient : Int} {cSeq : Int} {cKey : ByteArray} {cValue : ByteArray} {cOld : ByteArray} {sOp : Int} {sClient : Int} {sSeq : Int} {sKey : Int} {sValue : Int} {sOld : Int} {H3 : Hp} {y : Int} {y1 : Int} {y2 : Int} {y3 : ByteArray} {y4 : ByteArray} {y5 : ByteArray} {Q : Value → Hp → Prop} (h : tephralaw06_CmdsMay.k1.body J0 cOp cClient cSeq cKey cValue cOld sOp sClient sSeq sKey sValue sOld H3 y y1 y2 y3 y4 y5 Q) : tephralaw06_CmdsMay.k1 J0 cOp cClient cSeq cKey cValue cOld sOp sClient sSeq sKey sValue sOld H3 y y1 y2 y3 y4 y5 Q := step_of (vSeg Try.prog tephralaw06_CmdsMay.cf J0 tephralaw06_CmdsMay.fn [1, 1, 1, 1, 1] [0, 2, 2, 3, 3] Q) (tephralaw06_CmdsMay.k1.st cOp cClient cSeq cKey cValue cOld sOp sClient sSeq sKey sValue sOld H3 y y1 y2 y3 y4 y5) (tephralaw06_CmdsMay.k1.eq J0 cOp cClient cSeq cKey cValue cOld sOp sClient sSeq sKey sValue sOld H3 y y1 y2 y3 y4 y5 Q) (by kernel_rfl) h
noncomputable def tephralaw06_CmdsMay.vc (J : Jn) (cOp : Int) (cClient : Int) (cSeq : Int) (cKey : ByteArray) (cValue : ByteArray) (cOld : ByteArray) (sOp : Int) (sClient : Int) (sSeq : Int) (sKey : Int) (sValue : Int) (sOld : Int) (part : Int) (n : Int) (t : ByteArray) (H : Hp) (Q : Value → Hp → Prop) : Prop :=
 
 SCalls Try.prog tephralaw06_awake.id [] (holes H 2) (fun r H1 => ∃ x : Bool, r = .bool x ∧ 
 Br (!x) (Q (.bool false) H1)
 (
 SCalls Try.prog tephralaw06_Say_Cmd.id [.agg #[.int .u8 sOp, .int .u8 sClient, .int .u8 sSeq, .int .u8 sKey, .int .u8 sValue, .int .u8 sOld]] H1 (fun r1 H2 => ∃ Opv : Int, ∃ Client : Int, ∃ Seq : Int, ∃ Key : ByteArray, ∃ Valuev : ByteArray, ∃ Old : ByteArray, r1 = .agg #[.int .i64 Opv, .int .i64 Client, .int .i64 Seq, .string Key, .string Valuev, .string Old] ∧ 
 SCalls Try.prog cmds_May.id [.agg #[.int .i64 Opv, .int .i64 Client, .int .i64 Seq, .string Key, .string Valuev, .string Old]] (holes H2 1) (fun r2 H3 => ∃ x1 : Bool, r2 = .bool x1 ∧ 
 Br (!x1) (Q (.bool false) H3)
 ((7 : Int) ≠ 0 ∧ 
 Br ((Int.tmod part 7) == 0) (
 tephralaw06_CmdsMay.k1 J cOp cClient cSeq cKey cValue cOld sOp sClient sSeq sKey sValue sOld H3 n Client Seq Key Valuev Old Q)
 (
 Br ((Int.tmod part 7) == 1) (
 tephralaw06_CmdsMay.k1 J cOp cClient cSeq cKey cValue cOld sOp sClient sSeq sKey sValue sOld H3 Opv n Seq Key Valuev Old Q)
 (
 Br ((Int.tmod part 7) == 2) (
 tephralaw06_CmdsMay.k1 J cOp cClient cSeq cKey cValue cOld sOp sClient sSeq sKey sValue sOld H3 Opv Client n Key Valuev Old Q)
 (
 Br ((Int.tmod part 7) == 3) (
 tephralaw06_CmdsMay.k1 J cOp cClient cSeq cKey cValue cOld sOp sClient sSeq sKey sValue sOld H3 Opv Client Seq t Valuev Old Q)
 (
 Br ((Int.tmod part 7) == 4) (
 tephralaw06_CmdsMay.k1 J cOp cClient cSeq cKey cValue cOld sOp sClient sSeq sKey sValue sOld H3 Opv Client Seq Key t Old Q)
 (
 Br ((Int.tmod part 7) == 5) (
 tephralaw06_CmdsMay.k1 J cOp cClient cSeq cKey cValue cOld sOp sClient sSeq sKey sValue sOld H3 Opv Client Seq Key Valuev t Q)
 (
 tephralaw06_CmdsMay.k1 J cOp cClient cSeq cKey cValue cOld sOp sClient sSeq sKey sValue sOld H3 Opv Client Seq Key Valuev Old Q)))))))))))
theorem tephralaw06_CmdsMay.eq (J : Jn) (cOp : Int) (cClient : Int) (cSeq : Int) (cKey : ByteArray) (cValue : ByteArray) (cOld : ByteArray) (sOp : Int) (sClient : Int) (sSeq : Int) (sKey : Int) (sValue : Int) (sOld : Int) (part : Int) (n : Int) (t : ByteArray) (H : Hp) (Q : Value → Hp → Prop) : vFn Try.prog tephralaw06_CmdsMay.cf J tephralaw06_CmdsMay.fn [.agg #[.int .i64 cOp, .int .i64 cClient, .int .i64 cSeq, .string cKey, .string cValue, .string cOld], .agg #[.int .u8 sOp, .int .u8 sClient, .int .u8 sSeq, .int .u8 sKey, .int .u8 sValue, .int .u8 sOld], .int .u8 part, .int .i64 n, .string t] H Q = tephralaw06_CmdsMay.vc J cOp cClient cSeq cKey cValue cOld sOp sClient sSeq sKey sValue sOld part n t H Q := by kernel_rfl
theorem tephralaw06_CmdsMay.calls {cOp : Int} {cClient : Int} {cSeq : Int} {cKey : ByteArray} {cValue : ByteArray} {cOld : ByteArray} {sOp : Int} {sClient : Int} {sSeq : Int} {sKey : Int} {sValue : Int} {sOld : Int} {part : Int} {n : Int} {t : ByteArray} {H : Hp} {Q : Value → Hp → Prop} (h : tephralaw06_CmdsMay.vc J0 cOp cClient cSeq cKey cValue cOld sOp sClient sSeq sKey sValue sOld part n t H Q) : SCalls Try.prog tephralaw06_CmdsMay.id [.agg #[.int .i64 cOp, .int .i64 cClient, .int .i64 cSeq, .string cKey, .string cValue, .string cOld], .agg #[.int .u8 sOp, .int .u8 sClient, .int .u8 sSeq, .int .u8 sKey, .int .u8 sValue, .int .u8 sOld], .int .u8 part, .int .i64 n, .string t] H Q := vFn_of Try.mixed Try.func3 (tephralaw06_CmdsMay.eq J0 cOp cClient cSeq cKey cValue cOld sOp sClient sSeq sKey sValue sOld part n t H Q) h

/-! 4: tephra/tephralaw06.CmdsRight -/
noncomputable def tephralaw06_CmdsRight.cf : Cfg := ⟨[4, 5, 9], [], [], [], true, []⟩
noncomputable def tephralaw06_CmdsRight.vc (J : Jn) (eIndex : Int) (eTerm : Int) (eCmdOp : Int) (eCmdClient : Int) (eCmdSeq : Int) (eCmdKey : ByteArray) (eCmdValue : ByteArray) (eCmdOld : ByteArray) (sOp : Int) (sClient : Int) (sSeq : Int) (sKey : Int) (sValue : Int) (sOld : Int) (n : Int) (m : Int) (H : Hp) (Q : Value → Hp → Prop) : Prop :=
 
 SCalls Try.prog tephralaw06_awake.id [] (holes H 2) (fun r H1 => ∃ x : Bool, r = .bool x ∧ 
 Br (!x) (Q (.bool false) H1)
 (
 SCalls Try.prog tephralaw06_Say_Cmd.id [.agg #[.int .u8 sOp, .int .u8 sClient, .int .u8 sSeq, .int .u8 sKey, .int .u8 sValue, .int .u8 sOld]] H1 (fun r1 H2 => ∃ Opv : Int, ∃ Client : Int, ∃ Seq : Int, ∃ Key : ByteArray, ∃ Valuev : ByteArray, ∃ Old : ByteArray, r1 = .agg #[.int .i64 Opv, .int .i64 Client, .int .i64 Seq, .string Key, .string Valuev, .string Old] ∧ 
 SCalls Try.prog cmds_Right.id [.agg #[.int .i64 eIndex, .int .i64 eTerm, .int .i64 eCmdOp, .int .i64 eCmdClient, .int .i64 eCmdSeq, .string eCmdKey, .string eCmdValue, .string eCmdOld]] (holes H2 1) (fun r2 H3 => ∃ x1 : Bool, r2 = .bool x1 ∧ 
 SCalls Try.prog tephralaw06_right.id [.agg #[.int .i64 eIndex, .int .i64 eTerm, .int .i64 eCmdOp, .int .i64 eCmdClient, .int .i64 eCmdSeq, .string eCmdKey, .string eCmdValue, .string eCmdOld]] H3 (fun r3 H4 => ∃ x2 : Bool, r3 = .bool x2 ∧ 
 Br (x1 == x2) (
 SCalls Try.prog cmds_Right.id [.agg #[.int .i64 n, .int .i64 m, .int .i64 Opv, .int .i64 Client, .int .i64 Seq, .string Key, .string Valuev, .string Old]] H4 (fun r4 H5 => ∃ x3 : Bool, r4 = .bool x3 ∧ 
 SCalls Try.prog tephralaw06_right.id [.agg #[.int .i64 n, .int .i64 m, .int .i64 Opv, .int .i64 Client, .int .i64 Seq, .string Key, .string Valuev, .string Old]] H5 (fun r5 H6 => ∃ x4 : Bool, r5 = .bool x4 ∧ Q (.bool (x3 == x4)) H6)))
 (Q (.bool false) H4))))))
theorem tephralaw06_CmdsRight.eq (J : Jn) (eIndex : Int) (eTerm : Int) (eCmdOp : Int) (eCmdClient : Int) (eCmdSeq : Int) (eCmdKey : ByteArray) (eCmdValue : ByteArray) (eCmdOld : ByteArray) (sOp : Int) (sClient : Int) (sSeq : Int) (sKey : Int) (sValue : Int) (sOld : Int) (n : Int) (m : Int) (H : Hp) (Q : Value → Hp → Prop) : vFn Try.prog tephralaw06_CmdsRight.cf J tephralaw06_CmdsRight.fn [.agg #[.int .i64 eIndex, .int .i64 eTerm, .int .i64 eCmdOp, .int .i64 eCmdClient, .int .i64 eCmdSeq, .string eCmdKey, .string eCmdValue, .string eCmdOld], .agg #[.int .u8 sOp, .int .u8 sClient, .int .u8 sSeq, .int .u8 sKey, .int .u8 sValue, .int .u8 sOld], .int .i64 n, .int .i64 m] H Q = tephralaw06_CmdsRight.vc J eIndex eTerm eCmdOp eCmdClient eCmdSeq eCmdKey eCmdValue eCmdOld sOp sClient sSeq sKey sValue sOld n m H Q := by kernel_rfl
theorem tephralaw06_CmdsRight.calls {eIndex : Int} {eTerm : Int} {eCmdOp : Int} {eCmdClient : Int} {eCmdSeq : Int} {eCmdKey : ByteArray} {eCmdValue : ByteArray} {eCmdOld : ByteArray} {sOp : Int} {sClient : Int} {sSeq : Int} {sKey : Int} {sValue : Int} {sOld : Int} {n : Int} {m : Int} {H : Hp} {Q : Value → Hp → Prop} (h : tephralaw06_CmdsRight.vc J0 eIndex eTerm eCmdOp eCmdClient eCmdSeq eCmdKey eCmdValue eCmdOld sOp sClient sSeq sKey sValue sOld n m H Q) : SCalls Try.prog tephralaw06_CmdsRight.id [.agg #[.int .i64 eIndex, .int .i64 eTerm, .int .i64 eCmdOp, .int .i64 eCmdClient, .int .i64 eCmdSeq, .string eCmdKey, .string eCmdValue, .string eCmdOld], .agg #[.int .u8 sOp, .int .u8 sClient, .int .u8 sSeq, .int .u8 sKey, .int .u8 sValue, .int .u8 sOld], .int .i64 n, .int .i64 m] H Q := vFn_of Try.mixed Try.func4 (tephralaw06_CmdsRight.eq J0 eIndex eTerm eCmdOp eCmdClient eCmdSeq eCmdKey eCmdValue eCmdOld sOp sClient sSeq sKey sValue sOld n m H Q) h

/-! 5: tephra/tephralaw06.CmdsRow -/
noncomputable def tephralaw06_CmdsRow.cf : Cfg := ⟨[8, 17], [(10, [1, 50, 51, 52]), (14, [1, 14, 15, 50, 51, 52, 56, 57, 58])], [(9, [1, 4, 8, 11, 12], true), (17, [1, 14, 15, 50, 51, 52, 56, 57, 58], true)], [], true, []⟩
noncomputable def tephralaw06_CmdsRow.k1.st (fromv : Int) (turnIndex : Int) (turnTerm : Int) (turnCmdOp : Int) (turnCmdClient : Int) (turnCmdSeq : Int) (turnCmdKey : ByteArray) (turnCmdValue : ByteArray) (turnCmdOld : ByteArray) (raw : Sl) (x1 : Sl) (ap : Sl) (H5 : Hp) : VS := ⟨mkFr 102 [(1, .v (.int .u16 fromv)), (4, .v (.slice raw.a raw.len raw.cap)), (8, .loc 0 0), (11, .v (.slice x1.a x1.len x1.cap)), (12, .v (.slice ap.a ap.len ap.cap))], [(T_api_Entry, [.int .i64 turnIndex, .int .i64 turnTerm, .int .i64 turnCmdOp, .int .i64 turnCmdClient, .int .i64 turnCmdSeq, .string turnCmdKey, .string turnCmdValue, .string turnCmdOld])], H5⟩
noncomputable def tephralaw06_CmdsRow.k1 (J : Jn) (fromv : Int) (turnIndex : Int) (turnTerm : Int) (turnCmdOp : Int) (turnCmdClient : Int) (turnCmdSeq : Int) (turnCmdKey : ByteArray) (turnCmdValue : ByteArray) (turnCmdOld : ByteArray) (raw : Sl) (x1 : Sl) (ap : Sl) (H5 : Hp) (Q : Value → Hp → Prop) : Prop := J (vSeg Try.prog tephralaw06_CmdsRow.cf J tephralaw06_CmdsRow.fn [1, 1, 1, 1, 1, 1] [0, 1, 1, 1, 1, 1] Q) (tephralaw06_CmdsRow.k1.st fromv turnIndex turnTerm turnCmdOp turnCmdClient turnCmdSeq turnCmdKey turnCmdValue turnCmdOld raw x1 ap H5)
noncomputable def tephralaw06_CmdsRow.l1.st (fromv : Int) (turnIndex : Int) (turnTerm : Int) (turnCmdOp : Int) (turnCmdClient : Int) (turnCmdSeq : Int) (turnCmdKey : ByteArray) (turnCmdValue : ByteArray) (turnCmdOld : ByteArray) (H6 : Hp) (H7 : Hp) (x3 : Int) : VS := ⟨mkFr 102 [(1, .v (.int .u16 fromv)), (50, .v (.slice (some (Addr.mk (Array.size H6) 0 none)) 3 3)), (51, .v (.int .i64 ((3 : Nat) : Int))), (52, .v (.int .i64 x3))], [(T_api_Entry, [.int .i64 turnIndex, .int .i64 turnTerm, .int .i64 turnCmdOp, .int .i64 turnCmdClient, .int .i64 turnCmdSeq, .string turnCmdKey, .string turnCmdValue, .string turnCmdOld])], H7⟩
noncomputable def tephralaw06_CmdsRow.l1 (J : Jn) (fromv : Int) (turnIndex : Int) (turnTerm : Int) (turnCmdOp : Int) (turnCmdClient : Int) (turnCmdSeq : Int) (turnCmdKey : ByteArray) (turnCmdValue : ByteArray) (turnCmdOld : ByteArray) (H6 : Hp) (H7 : Hp) (x3 : Int) (Q : Value → Hp → Prop) : Prop := vAt Try.prog tephralaw06_CmdsRow.cf J tephralaw06_CmdsRow.fn [1, 1, 1, 1, 1, 1, 0, 1, 0] [0, 1, 1, 1, 1, 1, 1, 1] Q (tephralaw06_CmdsRow.l1.st fromv turnIndex turnTerm turnCmdOp turnCmdClient turnCmdSeq turnCmdKey turnCmdValue turnCmdOld H6 H7 x3)
noncomputable def tephralaw06_CmdsRow.l2.st (fromv : Int) (turnIndex : Int) (turnTerm : Int) (turnCmdOp : Int) (turnCmdClient : Int) (turnCmdSeq : Int) (turnCmdKey : ByteArray) (turnCmdValue : ByteArray) (turnCmdOld : ByteArray) (H6 : Hp) (x3 : Int) (x4 : Sl) (H8 : Hp) (ok : Bool) (x5 : Int) : VS := ⟨mkFr 102 [(1, .v (.int .u16 fromv)), (14, .v (.slice x4.a x4.len x4.cap)), (15, .v (.bool ok)), (50, .v (.slice (some (Addr.mk (Array.size H6) 0 none)) 3 3)), (51, .v (.int .i64 ((3 : Nat) : Int))), (52, .v (.int .i64 x3)), (56, .v (.slice x4.a x4.len x4.cap)), (57, .v (.int .i64 ((x4.len : Nat) : Int))), (58, .v (.int .i64 x5))], [(T_api_Entry, [.int .i64 turnIndex, .int .i64 turnTerm, .int .i64 turnCmdOp, .int .i64 turnCmdClient, .int .i64 turnCmdSeq, .string turnCmdKey, .string turnCmdValue, .string turnCmdOld])], H8⟩
noncomputable def tephralaw06_CmdsRow.l2 (J : Jn) (fromv : Int) (turnIndex : Int) (turnTerm : Int) (turnCmdOp : Int) (turnCmdClient : Int) (turnCmdSeq : Int) (turnCmdKey : ByteArray) (turnCmdValue : ByteArray) (turnCmdOld : ByteArray) (H6 : Hp) (x3 : Int) (x4 : Sl) (H8 : Hp) (ok : Bool) (x5 : Int) (Q : Value → Hp → Prop) : Prop := vAt Try.prog tephralaw06_CmdsRow.cf J tephralaw06_CmdsRow.fn [1, 1, 1, 1, 1, 1, 0, 1, 0, 0, 1, 1, 0, 0, 1, 1, 0, 1, 0] [0, 1, 1, 1, 1, 1, 1, 1, 1, 1, 1, 1, 1, 1, 1, 1] Q (tephralaw06_CmdsRow.l2.st fromv turnIndex turnTerm turnCmdOp turnCmdClient turnCmdSeq turnCmdKey turnCmdValue turnCmdOld H6 x3 x4 H8 ok x5)
noncomputable def tephralaw06_CmdsRow.k2.st (fromv : Int) (turnIndex : Int) (turnTerm : Int) (turnCmdOp : Int) (turnCmdClient : Int) (turnCmdSeq : Int) (turnCmdKey : ByteArray) (turnCmdValue : ByteArray) (turnCmdOld : ByteArray) (H6 : Hp) (x3 : Int) (x4 : Sl) (x5 : Int) (ok1 : Bool) (H10 : Hp) : VS := ⟨mkFr 102 [(1, .v (.int .u16 fromv)), (14, .v (.slice x4.a x4.len x4.cap)), (15, .v (.bool ok1)), (50, .v (.slice (some (Addr.mk (Array.size H6) 0 none)) 3 3)), (51, .v (.int .i64 ((3 : Nat) : Int))), (52, .v (.int .i64 x3)), (56, .v (.slice x4.a x4.len x4.cap)), (57, .v (.int .i64 ((x4.len : Nat) : Int))), (58, .v (.int .i64 x5))], [(T_api_Entry, [.int .i64 turnIndex, .int .i64 turnTerm, .int .i64 turnCmdOp, .int .i64 turnCmdClient, .int .i64 turnCmdSeq, .string turnCmdKey, .string turnCmdValue, .string turnCmdOld])], H10⟩
noncomputable def tephralaw06_CmdsRow.k2 (J : Jn) (fromv : Int) (turnIndex : Int) (turnTerm : Int) (turnCmdOp : Int) (turnCmdClient : Int) (turnCmdSeq : Int) (turnCmdKey : ByteArray) (turnCmdValue : ByteArray) (turnCmdOld : ByteArray) (H6 : Hp) (x3 : Int) (x4 : Sl) (x5 : Int) (ok1 : Bool) (H10 : Hp) (Q : Value → Hp → Prop) : Prop := J (vSeg Try.prog tephralaw06_CmdsRow.cf J tephralaw06_CmdsRow.fn [1, 1, 1, 1, 1, 1, 0, 1, 0, 0, 1, 1, 0, 0, 1, 1, 0, 1, 0, 0, 1, 1, 1] [0, 1, 1, 1, 1, 1, 1, 1, 1, 1, 1, 1, 1, 1, 1, 1, 1, 1, 1, 1] Q) (tephralaw06_CmdsRow.k2.st fromv turnIndex turnTerm turnCmdOp turnCmdClient turnCmdSeq turnCmdKey turnCmdValue turnCmdOld H6 x3 x4 x5 ok1 H10)
attribute [irreducible] tephralaw06_CmdsRow.k1 tephralaw06_CmdsRow.l1 tephralaw06_CmdsRow.l2 tephralaw06_CmdsRow.k2
noncomputable def tephralaw06_CmdsRow.k1.body (J : Jn) (fromv : Int) (turnIndex : Int) (turnTerm : Int) (turnCmdOp : Int) (turnCmdClient : Int) (turnCmdSeq : Int) (turnCmdKey : ByteArray) (turnCmdValue : ByteArray) (turnCmdOld : ByteArray) (raw : Sl) (x1 : Sl) (ap : Sl) (H5 : Hp) (Q : Value → Hp → Prop) : Prop :=
 
 vApp Try.prog T_sl_api_Entry x1.a x1.len x1.cap (.slice (some (Addr.mk (Array.size H5) 0 none)) 1 1) (Array.push H5 (.cells #[.int .i64 turnIndex, .int .i64 turnTerm, .int .i64 turnCmdOp, .int .i64 turnCmdClient, .int .i64 turnCmdSeq, .string turnCmdKey, .string turnCmdValue, .string turnCmdOld] T_api_Entry)) (fun ap1 H6 => 
 tephralaw06_CmdsRow.l1 J fromv turnIndex turnTerm turnCmdOp turnCmdClient turnCmdSeq turnCmdKey turnCmdValue turnCmdOld H6 (Array.push H6 (.cells #[.slice ap.a ap.len ap.cap, .slice raw.a raw.len raw.cap, .slice ap1.a ap1.len ap1.cap] T_sl_api_Entry)) 0 Q)
theorem tephralaw06_CmdsRow.k1.eq (J : Jn) (fromv : Int) (turnIndex : Int) (turnTerm : Int) (turnCmdOp : Int) (turnCmdClient : Int) (turnCmdSeq : Int) (turnCmdKey : ByteArray) (turnCmdValue : ByteArray) (turnCmdOld : ByteArray) (raw : Sl) (x1 : Sl) (ap : Sl) (H5 : Hp) (Q : Value → Hp → Prop) : vSeg Try.prog tephralaw06_CmdsRow.cf J tephralaw06_CmdsRow.fn [1, 1, 1, 1, 1, 1] [0, 1, 1, 1, 1, 1] Q (tephralaw06_CmdsRow.k1.st fromv turnIndex turnTerm turnCmdOp turnCmdClient turnCmdSeq turnCmdKey turnCmdValue turnCmdOld raw x1 ap H5) = tephralaw06_CmdsRow.k1.body J fromv turnIndex turnTerm turnCmdOp turnCmdClient turnCmdSeq turnCmdKey turnCmdValue turnCmdOld raw x1 ap H5 Q := by kernel_rfl
theorem tephralaw06_CmdsRow.k1.step {fromv : Int} {turnIndex : Int} {turnTerm : Int} {turnCmdOp : Int} {turnCmdClient : Int} {turnCmdSeq : Int} {turnCmdKey : ByteArray} {turnCmdValue : ByteArray} {turnCmdOld : ByteArray} {raw : Sl} {x1 : Sl} {ap : Sl} {H5 : Hp} {Q : Value → Hp → Prop} (h : tephralaw06_CmdsRow.k1.body J0 fromv turnIndex turnTerm turnCmdOp turnCmdClient turnCmdSeq turnCmdKey turnCmdValue turnCmdOld raw x1 ap H5 Q) : tephralaw06_CmdsRow.k1 J0 fromv turnIndex turnTerm turnCmdOp turnCmdClient turnCmdSeq turnCmdKey turnCmdValue turnCmdOld raw x1 ap H5 Q := step_of (vSeg Try.prog tephralaw06_CmdsRow.cf J0 tephralaw06_CmdsRow.fn [1, 1, 1, 1, 1, 1] [0, 1, 1, 1, 1, 1] Q) (tephralaw06_CmdsRow.k1.st fromv turnIndex turnTerm turnCmdOp turnCmdClient turnCmdSeq turnCmdKey turnCmdValue turnCmdOld raw x1 ap H5) (tephralaw06_CmdsRow.k1.eq J0 fromv turnIndex turnTerm turnCmdOp turnCmdClient turnCmdSeq turnCmdKey turnCmdValue turnCmdOld raw x1 ap H5 Q) (by kernel_rfl) h
noncomputable def tephralaw06_CmdsRow.l1.body (J : Jn) (fromv : Int) (turnIndex : Int) (turnTerm : Int) (turnCmdOp : Int) (turnCmdClient : Int) (turnCmdSeq : Int) (turnCmdKey : ByteArray) (turnCmdValue : ByteArray) (turnCmdOld : ByteArray) (H6 : Hp) (H7 : Hp) (x3 : Int) (Q : Value → Hp → Prop) : Prop :=
 
 Br (decide (x3 < ((3 : Nat) : Int))) (((0 : Int) ≤ x3 ∧ x3 < ((3 : Nat) : Int)) ∧ ∃ x4 : Sl, Hp.cell? H7 ((Addr.mk (Array.size H6) 0 none).add ((x3 : Int).toNat * 1)) = some (.slice x4.a x4.len x4.cap) ∧ 
 tephralaw06_CmdsRow.l2 J fromv turnIndex turnTerm turnCmdOp turnCmdClient turnCmdSeq turnCmdKey turnCmdValue turnCmdOld H6 x3 x4 H7 true 0 Q)
 (Q (.bool true) H7)
theorem tephralaw06_CmdsRow.l1.eq (J : Jn) (fromv : Int) (turnIndex : Int) (turnTerm : Int) (turnCmdOp : Int) (turnCmdClient : Int) (turnCmdSeq : Int) (turnCmdKey : ByteArray) (turnCmdValue : ByteArray) (turnCmdOld : ByteArray) (H6 : Hp) (H7 : Hp) (x3 : Int) (Q : Value → Hp → Prop) : vAtBody Try.prog tephralaw06_CmdsRow.cf J tephralaw06_CmdsRow.fn [1, 1, 1, 1, 1, 1, 0, 1, 0] [0, 1, 1, 1, 1, 1, 1, 1] Q (tephralaw06_CmdsRow.l1.st fromv turnIndex turnTerm turnCmdOp turnCmdClient turnCmdSeq turnCmdKey turnCmdValue turnCmdOld H6 H7 x3) = tephralaw06_CmdsRow.l1.body J fromv turnIndex turnTerm turnCmdOp turnCmdClient turnCmdSeq turnCmdKey turnCmdValue turnCmdOld H6 H7 x3 Q := by kernel_rfl
theorem tephralaw06_CmdsRow.l1.step {fromv : Int} {turnIndex : Int} {turnTerm : Int} {turnCmdOp : Int} {turnCmdClient : Int} {turnCmdSeq : Int} {turnCmdKey : ByteArray} {turnCmdValue : ByteArray} {turnCmdOld : ByteArray} {H6 : Hp} {H7 : Hp} {x3 : Int} {Q : Value → Hp → Prop} (h : tephralaw06_CmdsRow.l1.body J0 fromv turnIndex turnTerm turnCmdOp turnCmdClient turnCmdSeq turnCmdKey turnCmdValue turnCmdOld H6 H7 x3 Q) : tephralaw06_CmdsRow.l1 J0 fromv turnIndex turnTerm turnCmdOp turnCmdClient turnCmdSeq turnCmdKey turnCmdValue turnCmdOld H6 H7 x3 Q := vAt_stepC (tephralaw06_CmdsRow.l1.st fromv turnIndex turnTerm turnCmdOp turnCmdClient turnCmdSeq turnCmdKey turnCmdValue turnCmdOld H6 H7 x3) (tephralaw06_CmdsRow.l1.eq J0 fromv turnIndex turnTerm turnCmdOp turnCmdClient turnCmdSeq turnCmdKey turnCmdValue turnCmdOld H6 H7 x3 Q) (by kernel_rfl) h
noncomputable def tephralaw06_CmdsRow.l2.body (J : Jn) (fromv : Int) (turnIndex : Int) (turnTerm : Int) (turnCmdOp : Int) (turnCmdClient : Int) (turnCmdSeq : Int) (turnCmdKey : ByteArray) (turnCmdValue : ByteArray) (turnCmdOld : ByteArray) (H6 : Hp) (x3 : Int) (x4 : Sl) (H8 : Hp) (ok : Bool) (x5 : Int) (Q : Value → Hp → Prop) : Prop :=
 
 Br (decide (x5 < ((x4.len : Nat) : Int))) (((0 : Int) ≤ x5 ∧ x5 < ((x4.len : Nat) : Int)) ∧ vPtr x4.a (fun a1 => ∃ Index : Int, ∃ Term : Int, ∃ CmdOp : Int, ∃ CmdClient : Int, ∃ CmdSeq : Int, ∃ CmdKey : ByteArray, ∃ CmdValue : ByteArray, ∃ CmdOld : ByteArray, RowAt H8 (a1.add ((x5 : Int).toNat * 8)) [.int .i64 Index, .int .i64 Term, .int .i64 CmdOp, .int .i64 CmdClient, .int .i64 CmdSeq, .string CmdKey, .string CmdValue, .string CmdOld] ∧ 
 Br ok (
 SCalls Try.prog tephralaw06_right.id [.agg #[.int .i64 Index, .int .i64 Term, .int .i64 CmdOp, .int .i64 CmdClient, .int .i64 CmdSeq, .string CmdKey, .string CmdValue, .string CmdOld]] (holes H8 1) (fun r3 H9 => ∃ x6 : Bool, r3 = .bool x6 ∧ 
 Br x6 (
 Br (Index == (w64 ((w64 ((w64 (fromv)) + 1)) + x5))) (
 Br (x5 == 0) (
 tephralaw06_CmdsRow.k2 J fromv turnIndex turnTerm turnCmdOp turnCmdClient turnCmdSeq turnCmdKey turnCmdValue turnCmdOld H6 x3 x4 x5 true H9 Q)
 (((0 : Int) ≤ (w64 (x5 - 1)) ∧ (w64 (x5 - 1)) < ((x4.len : Nat) : Int)) ∧ vPtr x4.a (fun a2 => ∃ Term1 : Int, Hp.cell? H9 ((a2.add (((w64 (x5 - 1)) : Int).toNat * 8)).add 1) = some (.int .i64 Term1) ∧ 
 tephralaw06_CmdsRow.k2 J fromv turnIndex turnTerm turnCmdOp turnCmdClient turnCmdSeq turnCmdKey turnCmdValue turnCmdOld H6 x3 x4 x5 (decide (Term ≥ Term1)) H9 Q)))
 (
 tephralaw06_CmdsRow.k2 J fromv turnIndex turnTerm turnCmdOp turnCmdClient turnCmdSeq turnCmdKey turnCmdValue turnCmdOld H6 x3 x4 x5 false H9 Q))
 (
 tephralaw06_CmdsRow.k2 J fromv turnIndex turnTerm turnCmdOp turnCmdClient turnCmdSeq turnCmdKey turnCmdValue turnCmdOld H6 x3 x4 x5 false H9 Q)))
 (
 tephralaw06_CmdsRow.k2 J fromv turnIndex turnTerm turnCmdOp turnCmdClient turnCmdSeq turnCmdKey turnCmdValue turnCmdOld H6 x3 x4 x5 false (holes H8 1) Q)))
 (
 SCalls Try.prog cmds_Row.id [.slice x4.a x4.len x4.cap, .int .i64 (w64 ((w64 (fromv)) + 1))] H8 (fun r4 H11 => ∃ x7 : Bool, r4 = .bool x7 ∧ 
 Br (!(x7 == ok)) (Q (.bool false) H11)
 (
 tephralaw06_CmdsRow.l1 J fromv turnIndex turnTerm turnCmdOp turnCmdClient turnCmdSeq turnCmdKey turnCmdValue turnCmdOld H6 H11 (w64 (x3 + 1)) Q)))
theorem tephralaw06_CmdsRow.l2.eq (J : Jn) (fromv : Int) (turnIndex : Int) (turnTerm : Int) (turnCmdOp : Int) (turnCmdClient : Int) (turnCmdSeq : Int) (turnCmdKey : ByteArray) (turnCmdValue : ByteArray) (turnCmdOld : ByteArray) (H6 : Hp) (x3 : Int) (x4 : Sl) (H8 : Hp) (ok : Bool) (x5 : Int) (Q : Value → Hp → Prop) : vAtBody Try.prog tephralaw06_CmdsRow.cf J tephralaw06_CmdsRow.fn [1, 1, 1, 1, 1, 1, 0, 1, 0, 0, 1, 1, 0, 0, 1, 1, 0, 1, 0] [0, 1, 1, 1, 1, 1, 1, 1, 1, 1, 1, 1, 1, 1, 1, 1] Q (tephralaw06_CmdsRow.l2.st fromv turnIndex turnTerm turnCmdOp turnCmdClient turnCmdSeq turnCmdKey turnCmdValue turnCmdOld H6 x3 x4 H8 ok x5) = tephralaw06_CmdsRow.l2.body J fromv turnIndex turnTerm turnCmdOp turnCmdClient turnCmdSeq turnCmdKey turnCmdValue turnCmdOld H6 x3 x4 H8 ok x5 Q := by kernel_rfl
theorem tephralaw06_CmdsRow.l2.step {fromv : Int} {turnIndex : Int} {turnTerm : Int} {turnCmdOp : Int} {turnCmdClient : Int} {turnCmdSeq : Int} {turnCmdKey : ByteArray} {turnCmdValue : ByteArray} {turnCmdOld : ByteArray} {H6 : Hp} {x3 : Int} {x4 : Sl} {H8 : Hp} {ok : Bool} {x5 : Int} {Q : Value → Hp → Prop} (h : tephralaw06_CmdsRow.l2.body J0 fromv turnIndex turnTerm turnCmdOp turnCmdClient turnCmdSeq turnCmdKey turnCmdValue turnCmdOld H6 x3 x4 H8 ok x5 Q) : tephralaw06_CmdsRow.l2 J0 fromv turnIndex turnTerm turnCmdOp turnCmdClient turnCmdSeq turnCmdKey turnCmdValue turnCmdOld H6 x3 x4 H8 ok x5 Q := vAt_stepC (tephralaw06_CmdsRow.l2.st fromv turnIndex turnTerm turnCmdOp turnCmdClient turnCmdSeq turnCmdKey turnCmdValue turnCmdOld H6 x3 x4 H8 ok x5) (tephralaw06_CmdsRow.l2.eq J0 fromv turnIndex turnTerm turnCmdOp turnCmdClient turnCmdSeq turnCmdKey turnCmdValue turnCmdOld H6 x3 x4 H8 ok x5 Q) (by kernel_rfl) h
noncomputable def tephralaw06_CmdsRow.k2.body (J : Jn) (fromv : Int) (turnIndex : Int) (turnTerm : Int) (turnCmdOp : Int) (turnCmdClient : Int) (turnCmdSeq : Int) (turnCmdKey : ByteArray) (turnCmdValue : ByteArray) (turnCmdOld : ByteArray) (H6 : Hp) (x3 : Int) (x4 : Sl) (x5 : Int) (ok1 : Bool) (H10 : Hp) (Q : Value → Hp → Prop) : Prop :=
 
 tephralaw06_CmdsRow.l2 J fromv turnIndex turnTerm turnCmdOp turnCmdClient turnCmdSeq turnCmdKey turnCmdValue turnCmdOld H6 x3 x4 H10 ok1 (w64 (x5 + 1)) Q
theorem tephralaw06_CmdsRow.k2.eq (J : Jn) (fromv : Int) (turnIndex : Int) (turnTerm : Int) (turnCmdOp : Int) (turnCmdClient : Int) (turnCmdSeq : Int) (turnCmdKey : ByteArray) (turnCmdValue : ByteArray) (turnCmdOld : ByteArray) (H6 : Hp) (x3 : Int) (x4 : Sl) (x5 : Int) (ok1 : Bool) (H10 : Hp) (Q : Value → Hp → Prop) : vSeg Try.prog tephralaw06_CmdsRow.cf J tephralaw06_CmdsRow.fn [1, 1, 1, 1, 1, 1, 0, 1, 0, 0, 1, 1, 0, 0, 1, 1, 0, 1, 0, 0, 1, 1, 1] [0, 1, 1, 1, 1, 1, 1, 1, 1, 1, 1, 1, 1, 1, 1, 1, 1, 1, 1, 1] Q (tephralaw06_CmdsRow.k2.st fromv turnIndex turnTerm turnCmdOp turnCmdClient turnCmdSeq turnCmdKey turnCmdValue turnCmdOld H6 x3 x4 x5 ok1 H10) = tephralaw06_CmdsRow.k2.body J fromv turnIndex turnTerm turnCmdOp turnCmdClient turnCmdSeq turnCmdKey turnCmdValue turnCmdOld H6 x3 x4 x5 ok1 H10 Q := by kernel_rfl
theorem tephralaw06_CmdsRow.k2.step {fromv : Int} {turnIndex : Int} {turnTerm : Int} {turnCmdOp : Int} {turnCmdClient : Int} {turnCmdSeq : Int} {turnCmdKey : ByteArray} {turnCmdValue : ByteArray} {turnCmdOld : ByteArray} {H6 : Hp} {x3 : Int} {x4 : Sl} {x5 : Int} {ok1 : Bool} {H10 : Hp} {Q : Value → Hp → Prop} (h : tephralaw06_CmdsRow.k2.body J0 fromv turnIndex turnTerm turnCmdOp turnCmdClient turnCmdSeq turnCmdKey turnCmdValue turnCmdOld H6 x3 x4 x5 ok1 H10 Q) : tephralaw06_CmdsRow.k2 J0 fromv turnIndex turnTerm turnCmdOp turnCmdClient turnCmdSeq turnCmdKey turnCmdValue turnCmdOld H6 x3 x4 x5 ok1 H10 Q := step_of (vSeg Try.prog tephralaw06_CmdsRow.cf J0 tephralaw06_CmdsRow.fn [1, 1, 1, 1, 1, 1, 0, 1, 0, 0, 1, 1, 0, 0, 1, 1, 0, 1, 0, 0, 1, 1, 1] [0, 1, 1, 1, 1, 1, 1, 1, 1, 1, 1, 1, 1, 1, 1, 1, 1, 1, 1, 1] Q) (tephralaw06_CmdsRow.k2.st fromv turnIndex turnTerm turnCmdOp turnCmdClient turnCmdSeq turnCmdKey turnCmdValue turnCmdOld H6 x3 x4 x5 ok1 H10) (tephralaw06_CmdsRow.k2.eq J0 fromv turnIndex turnTerm turnCmdOp turnCmdClient turnCmdSeq turnCmdKey turnCmdValue turnCmdOld H6 x3 x4 x5 ok1 H10 Q) (by kernel_rfl) h
noncomputable def tephralaw06_CmdsRow.vc (J : Jn) (says : Sl) (fromv : Int) (atv : Int) (turnIndex : Int) (turnTerm : Int) (turnCmdOp : Int) (turnCmdClient : Int) (turnCmdSeq : Int) (turnCmdKey : ByteArray) (turnCmdValue : ByteArray) (turnCmdOld : ByteArray) (raw : Sl) (H : Hp) (Q : Value → Hp → Prop) : Prop :=
 
 SCalls Try.prog tephralaw06_awake.id [] (holes H 1) (fun r H1 => ∃ x : Bool, r = .bool x ∧ 
 Br (!x) (Q (.bool false) H1)
 (
 SCalls Try.prog tephralaw06_Entries.id [.slice says.a says.len says.cap, .int .i64 (w64 ((w64 (fromv)) + 1)), .int .i64 2] H1 (fun r1 H2 => ∃ x1 : Sl, r1 = .slice x1.a x1.len x1.cap ∧ 
 SCalls Try.prog cmds_Row.id [.slice x1.a x1.len x1.cap, .int .i64 (w64 ((w64 (fromv)) + 1))] H2 (fun r2 H3 => ∃ x2 : Bool, r2 = .bool x2 ∧ 
 Br (!x2) (Q (.bool false) H3)
 (
 vApp Try.prog T_sl_api_Entry none 0 0 (.slice x1.a x1.len x1.cap) H3 (fun ap H4 => 
 Br (decide (((ap.len : Nat) : Int) > 0)) ((((ap.len : Nat) : Int) : Int) ≠ 0 ∧ ((0 : Int) ≤ (Int.tmod (w64 (atv)) ((ap.len : Nat) : Int)) ∧ (Int.tmod (w64 (atv)) ((ap.len : Nat) : Int)) < ((ap.len : Nat) : Int)) ∧ vPtr ap.a (fun a => WrAt H4 (a.add (((Int.tmod (w64 (atv)) ((ap.len : Nat) : Int)) : Int).toNat * 8)) 8 ∧ 
 tephralaw06_CmdsRow.k1 J fromv turnIndex turnTerm turnCmdOp turnCmdClient turnCmdSeq turnCmdKey turnCmdValue turnCmdOld raw x1 ap (Hp.setCells H4 (a.add (((Int.tmod (w64 (atv)) ((ap.len : Nat) : Int)) : Int).toNat * 8)) [.int .i64 turnIndex, .int .i64 turnTerm, .int .i64 turnCmdOp, .int .i64 turnCmdClient, .int .i64 turnCmdSeq, .string turnCmdKey, .string turnCmdValue, .string turnCmdOld] 0) Q))
 (
 tephralaw06_CmdsRow.k1 J fromv turnIndex turnTerm turnCmdOp turnCmdClient turnCmdSeq turnCmdKey turnCmdValue turnCmdOld raw x1 ap H4 Q)))))))
theorem tephralaw06_CmdsRow.eq (J : Jn) (says : Sl) (fromv : Int) (atv : Int) (turnIndex : Int) (turnTerm : Int) (turnCmdOp : Int) (turnCmdClient : Int) (turnCmdSeq : Int) (turnCmdKey : ByteArray) (turnCmdValue : ByteArray) (turnCmdOld : ByteArray) (raw : Sl) (H : Hp) (Q : Value → Hp → Prop) : vFn Try.prog tephralaw06_CmdsRow.cf J tephralaw06_CmdsRow.fn [.slice says.a says.len says.cap, .int .u16 fromv, .int .u8 atv, .agg #[.int .i64 turnIndex, .int .i64 turnTerm, .int .i64 turnCmdOp, .int .i64 turnCmdClient, .int .i64 turnCmdSeq, .string turnCmdKey, .string turnCmdValue, .string turnCmdOld], .slice raw.a raw.len raw.cap] H Q = tephralaw06_CmdsRow.vc J says fromv atv turnIndex turnTerm turnCmdOp turnCmdClient turnCmdSeq turnCmdKey turnCmdValue turnCmdOld raw H Q := by kernel_rfl
theorem tephralaw06_CmdsRow.calls {says : Sl} {fromv : Int} {atv : Int} {turnIndex : Int} {turnTerm : Int} {turnCmdOp : Int} {turnCmdClient : Int} {turnCmdSeq : Int} {turnCmdKey : ByteArray} {turnCmdValue : ByteArray} {turnCmdOld : ByteArray} {raw : Sl} {H : Hp} {Q : Value → Hp → Prop} (h : tephralaw06_CmdsRow.vc J0 says fromv atv turnIndex turnTerm turnCmdOp turnCmdClient turnCmdSeq turnCmdKey turnCmdValue turnCmdOld raw H Q) : SCalls Try.prog tephralaw06_CmdsRow.id [.slice says.a says.len says.cap, .int .u16 fromv, .int .u8 atv, .agg #[.int .i64 turnIndex, .int .i64 turnTerm, .int .i64 turnCmdOp, .int .i64 turnCmdClient, .int .i64 turnCmdSeq, .string turnCmdKey, .string turnCmdValue, .string turnCmdOld], .slice raw.a raw.len raw.cap] H Q := vFn_of Try.mixed Try.func5 (tephralaw06_CmdsRow.eq J0 says fromv atv turnIndex turnTerm turnCmdOp turnCmdClient turnCmdSeq turnCmdKey turnCmdValue turnCmdOld raw H Q) h

/-! 9: tephra/tephralaw06.CmdsParts -/
noncomputable def tephralaw06_CmdsParts.cf : Cfg := ⟨[], [], [(6, [2, 7, 8, 49], true)], [(37, [2, 7, 8, 37])], true, []⟩
noncomputable def tephralaw06_CmdsParts.k1.st (cut : Int) (fromv : Int) (x1 : Sl) (x4 : Bool) (H5 : Hp) : VS := ⟨mkFr 66 [(2, .v (.int .u8 fromv)), (7, .v (.slice x1.a x1.len x1.cap)), (8, .v (.int .i64 (Int.tmod (w64 (cut)) (w64 (((x1.len : Nat) : Int) + 1))))), (37, .v (.bool x4))], [], H5⟩
noncomputable def tephralaw06_CmdsParts.k1 (J : Jn) (cut : Int) (fromv : Int) (x1 : Sl) (x4 : Bool) (H5 : Hp) (Q : Value → Hp → Prop) : Prop := J (vMid Try.prog tephralaw06_CmdsParts.cf J tephralaw06_CmdsParts.fn [1, 1, 1, 1, 0, 0] [0, 0, 0, 0, 0, 0] 16 Q) (tephralaw06_CmdsParts.k1.st cut fromv x1 x4 H5)
noncomputable def tephralaw06_CmdsParts.k2.st (cut : Int) (fromv : Int) (x1 : Sl) (x6 : Bool) (H7 : Hp) : VS := ⟨mkFr 66 [(2, .v (.int .u8 fromv)), (7, .v (.slice x1.a x1.len x1.cap)), (8, .v (.int .i64 (Int.tmod (w64 (cut)) (w64 (((x1.len : Nat) : Int) + 1))))), (49, .v (.bool x6))], [], H7⟩
noncomputable def tephralaw06_CmdsParts.k2 (J : Jn) (cut : Int) (fromv : Int) (x1 : Sl) (x6 : Bool) (H7 : Hp) (Q : Value → Hp → Prop) : Prop := J (vSeg Try.prog tephralaw06_CmdsParts.cf J tephralaw06_CmdsParts.fn [1, 1, 1, 1, 0, 1] [0, 0, 0, 0, 0, 0] Q) (tephralaw06_CmdsParts.k2.st cut fromv x1 x6 H7)
attribute [irreducible] tephralaw06_CmdsParts.k1 tephralaw06_CmdsParts.k2
noncomputable def tephralaw06_CmdsParts.k1.body (J : Jn) (cut : Int) (fromv : Int) (x1 : Sl) (x4 : Bool) (H5 : Hp) (Q : Value → Hp → Prop) : Prop :=
 
 Br x4 (
 tephralaw06_CmdsParts.k2 J cut fromv x1 true H5 Q)
 (((0 : Int) ≤ (Int.tmod (w64 (cut)) (w64 (((x1.len : Nat) : Int) + 1))) ∧ (Int.tmod (w64 (cut)) (w64 (((x1.len : Nat) : Int) + 1))) ≤ ((x1.len : Nat) : Int)) ∧ 
 SCalls Try.prog cmds_Row.id [.slice (cutA x1.a x1.cap (((Int.tmod (w64 (cut)) (w64 (((x1.len : Nat) : Int) + 1))) : Int).toNat) 8) (x1.len - (((Int.tmod (w64 (cut)) (w64 (((x1.len : Nat) : Int) + 1))) : Int).toNat)) (x1.cap - (((Int.tmod (w64 (cut)) (w64 (((x1.len : Nat) : Int) + 1))) : Int).toNat)), .int .i64 (w64 ((w64 ((w64 (fromv)) + 1)) + (Int.tmod (w64 (cut)) (w64 (((x1.len : Nat) : Int) + 1)))))] H5 (fun r4 H6 => ∃ x5 : Bool, r4 = .bool x5 ∧ 
 tephralaw06_CmdsParts.k2 J cut fromv x1 (!x5) H6 Q))
theorem tephralaw06_CmdsParts.k1.eq (J : Jn) (cut : Int) (fromv : Int) (x1 : Sl) (x4 : Bool) (H5 : Hp) (Q : Value → Hp → Prop) : vMid Try.prog tephralaw06_CmdsParts.cf J tephralaw06_CmdsParts.fn [1, 1, 1, 1, 0, 0] [0, 0, 0, 0, 0, 0] 16 Q (tephralaw06_CmdsParts.k1.st cut fromv x1 x4 H5) = tephralaw06_CmdsParts.k1.body J cut fromv x1 x4 H5 Q := by kernel_rfl
theorem tephralaw06_CmdsParts.k1.step {cut : Int} {fromv : Int} {x1 : Sl} {x4 : Bool} {H5 : Hp} {Q : Value → Hp → Prop} (h : tephralaw06_CmdsParts.k1.body J0 cut fromv x1 x4 H5 Q) : tephralaw06_CmdsParts.k1 J0 cut fromv x1 x4 H5 Q := step_of (vMid Try.prog tephralaw06_CmdsParts.cf J0 tephralaw06_CmdsParts.fn [1, 1, 1, 1, 0, 0] [0, 0, 0, 0, 0, 0] 16 Q) (tephralaw06_CmdsParts.k1.st cut fromv x1 x4 H5) (tephralaw06_CmdsParts.k1.eq J0 cut fromv x1 x4 H5 Q) (by kernel_rfl) h
noncomputable def tephralaw06_CmdsParts.k2.body (J : Jn) (cut : Int) (fromv : Int) (x1 : Sl) (x6 : Bool) (H7 : Hp) (Q : Value → Hp → Prop) : Prop :=
 
 Br x6 (Q (.bool false) H7)
 (
 Br (((x1.len : Nat) : Int) == (Int.tmod (w64 (cut)) (w64 (((x1.len : Nat) : Int) + 1)))) (Q (.bool true) H7)
 (((0 : Int) ≤ (Int.tmod (w64 (cut)) (w64 (((x1.len : Nat) : Int) + 1))) ∧ (Int.tmod (w64 (cut)) (w64 (((x1.len : Nat) : Int) + 1))) ≤ ((x1.len : Nat) : Int)) ∧ 
 SCalls Try.prog cmds_Row.id [.slice (cutA x1.a x1.cap (((Int.tmod (w64 (cut)) (w64 (((x1.len : Nat) : Int) + 1))) : Int).toNat) 8) (x1.len - (((Int.tmod (w64 (cut)) (w64 (((x1.len : Nat) : Int) + 1))) : Int).toNat)) (x1.cap - (((Int.tmod (w64 (cut)) (w64 (((x1.len : Nat) : Int) + 1))) : Int).toNat)), .int .i64 (w64 ((w64 ((w64 (fromv)) + 2)) + (Int.tmod (w64 (cut)) (w64 (((x1.len : Nat) : Int) + 1)))))] H7 (fun r5 H8 => ∃ x7 : Bool, r5 = .bool x7 ∧ Q (.bool (!x7)) H8)))
theorem tephralaw06_CmdsParts.k2.eq (J : Jn) (cut : Int) (fromv : Int) (x1 : Sl) (x6 : Bool) (H7 : Hp) (Q : Value → Hp → Prop) : vSeg Try.prog tephralaw06_CmdsParts.cf J tephralaw06_CmdsParts.fn [1, 1, 1, 1, 0, 1] [0, 0, 0, 0, 0, 0] Q (tephralaw06_CmdsParts.k2.st cut fromv x1 x6 H7) = tephralaw06_CmdsParts.k2.body J cut fromv x1 x6 H7 Q := by kernel_rfl
theorem tephralaw06_CmdsParts.k2.step {cut : Int} {fromv : Int} {x1 : Sl} {x6 : Bool} {H7 : Hp} {Q : Value → Hp → Prop} (h : tephralaw06_CmdsParts.k2.body J0 cut fromv x1 x6 H7 Q) : tephralaw06_CmdsParts.k2 J0 cut fromv x1 x6 H7 Q := step_of (vSeg Try.prog tephralaw06_CmdsParts.cf J0 tephralaw06_CmdsParts.fn [1, 1, 1, 1, 0, 1] [0, 0, 0, 0, 0, 0] Q) (tephralaw06_CmdsParts.k2.st cut fromv x1 x6 H7) (tephralaw06_CmdsParts.k2.eq J0 cut fromv x1 x6 H7 Q) (by kernel_rfl) h
noncomputable def tephralaw06_CmdsParts.vc (J : Jn) (says : Sl) (cut : Int) (fromv : Int) (H : Hp) (Q : Value → Hp → Prop) : Prop :=
 
 SCalls Try.prog tephralaw06_awake.id [] H (fun r H1 => ∃ x : Bool, r = .bool x ∧ 
 Br (!x) (Q (.bool false) H1)
 (
 SCalls Try.prog tephralaw06_Entries.id [.slice says.a says.len says.cap, .int .i64 (w64 ((w64 (fromv)) + 1)), .int .i64 0] H1 (fun r1 H2 => ∃ x1 : Sl, r1 = .slice x1.a x1.len x1.cap ∧ ((w64 (((x1.len : Nat) : Int) + 1)) : Int) ≠ 0 ∧ 
 SCalls Try.prog cmds_Row.id [.slice x1.a x1.len x1.cap, .int .i64 (w64 ((w64 (fromv)) + 1))] H2 (fun r2 H3 => ∃ x2 : Bool, r2 = .bool x2 ∧ 
 Br (!x2) (
 tephralaw06_CmdsParts.k1 J cut fromv x1 true H3 Q)
 (((0 : Int) ≤ (Int.tmod (w64 (cut)) (w64 (((x1.len : Nat) : Int) + 1))) ∧ (Int.tmod (w64 (cut)) (w64 (((x1.len : Nat) : Int) + 1))) ≤ ((x1.cap : Nat) : Int)) ∧ 
 SCalls Try.prog cmds_Row.id [.slice (cutA x1.a x1.cap 0 8) (((Int.tmod (w64 (cut)) (w64 (((x1.len : Nat) : Int) + 1))) : Int).toNat) x1.cap, .int .i64 (w64 ((w64 (fromv)) + 1))] H3 (fun r3 H4 => ∃ x3 : Bool, r3 = .bool x3 ∧ 
 tephralaw06_CmdsParts.k1 J cut fromv x1 (!x3) H4 Q))))))
theorem tephralaw06_CmdsParts.eq (J : Jn) (says : Sl) (cut : Int) (fromv : Int) (H : Hp) (Q : Value → Hp → Prop) : vFn Try.prog tephralaw06_CmdsParts.cf J tephralaw06_CmdsParts.fn [.slice says.a says.len says.cap, .int .u8 cut, .int .u8 fromv] H Q = tephralaw06_CmdsParts.vc J says cut fromv H Q := by kernel_rfl
theorem tephralaw06_CmdsParts.calls {says : Sl} {cut : Int} {fromv : Int} {H : Hp} {Q : Value → Hp → Prop} (h : tephralaw06_CmdsParts.vc J0 says cut fromv H Q) : SCalls Try.prog tephralaw06_CmdsParts.id [.slice says.a says.len says.cap, .int .u8 cut, .int .u8 fromv] H Q := vFn_of Try.mixed Try.func9 (tephralaw06_CmdsParts.eq J0 says cut fromv H Q) h

/-! 10: tephra/tephralaw06.awake -/
noncomputable def tephralaw06_awake.cf : Cfg := ⟨[1, 2], [], [], [(17, [1, 17]), (21, [1, 21]), (26, [1, 26])], true, []⟩
noncomputable def tephralaw06_awake.k1.st (H2 : Hp) (Index : Int) (Term : Int) (CmdOp : Int) (CmdClient : Int) (CmdSeq : Int) (CmdKey : ByteArray) (CmdValue : ByteArray) (CmdOld : ByteArray) (x2 : Bool) : VS := ⟨mkFr 32 [(1, .loc 0 0), (17, .v (.bool x2))], [(T_api_Entry, [.int .i64 3, .int .i64 1, .int .i64 1, .int .i64 1, .int .i64 2, .string (ByteArray.mk #[107]), .string (ByteArray.mk #[118]), .string (ByteArray.mk #[])]), (T_api_Entry, [.int .i64 Index, .int .i64 Term, .int .i64 CmdOp, .int .i64 CmdClient, .int .i64 CmdSeq, .string CmdKey, .string CmdValue, .string CmdOld])], (holes H2 1)⟩
noncomputable def tephralaw06_awake.k1 (J : Jn) (H2 : Hp) (Index : Int) (Term : Int) (CmdOp : Int) (CmdClient : Int) (CmdSeq : Int) (CmdKey : ByteArray) (CmdValue : ByteArray) (CmdOld : ByteArray) (x2 : Bool) (Q : Value → Hp → Prop) : Prop := J (vMid Try.prog tephralaw06_awake.cf J tephralaw06_awake.fn [1, 1, 1, 0] [0, 0, 1, 2] 6 Q) (tephralaw06_awake.k1.st H2 Index Term CmdOp CmdClient CmdSeq CmdKey CmdValue CmdOld x2)
noncomputable def tephralaw06_awake.k2.st (Index : Int) (Term : Int) (CmdOp : Int) (CmdClient : Int) (CmdSeq : Int) (CmdKey : ByteArray) (CmdValue : ByteArray) (CmdOld : ByteArray) (x4 : Bool) (H4 : Hp) : VS := ⟨mkFr 32 [(1, .loc 0 0), (21, .v (.bool x4))], [(T_api_Entry, [.int .i64 3, .int .i64 1, .int .i64 1, .int .i64 1, .int .i64 2, .string (ByteArray.mk #[107]), .string (ByteArray.mk #[118]), .string (ByteArray.mk #[])]), (T_api_Entry, [.int .i64 Index, .int .i64 Term, .int .i64 CmdOp, .int .i64 CmdClient, .int .i64 CmdSeq, .string CmdKey, .string CmdValue, .string CmdOld])], H4⟩
noncomputable def tephralaw06_awake.k2 (J : Jn) (Index : Int) (Term : Int) (CmdOp : Int) (CmdClient : Int) (CmdSeq : Int) (CmdKey : ByteArray) (CmdValue : ByteArray) (CmdOld : ByteArray) (x4 : Bool) (H4 : Hp) (Q : Value → Hp → Prop) : Prop := J (vMid Try.prog tephralaw06_awake.cf J tephralaw06_awake.fn [1, 1, 1, 0] [0, 0, 1, 2] 10 Q) (tephralaw06_awake.k2.st Index Term CmdOp CmdClient CmdSeq CmdKey CmdValue CmdOld x4 H4)
noncomputable def tephralaw06_awake.k3.st (Index : Int) (Term : Int) (CmdOp : Int) (CmdClient : Int) (CmdSeq : Int) (CmdKey : ByteArray) (CmdValue : ByteArray) (CmdOld : ByteArray) (x6 : Bool) (H6 : Hp) : VS := ⟨mkFr 32 [(1, .loc 0 0), (26, .v (.bool x6))], [(T_api_Entry, [.int .i64 3, .int .i64 1, .int .i64 1, .int .i64 1, .int .i64 2, .string (ByteArray.mk #[107]), .string (ByteArray.mk #[118]), .string (ByteArray.mk #[])]), (T_api_Entry, [.int .i64 Index, .int .i64 Term, .int .i64 CmdOp, .int .i64 CmdClient, .int .i64 CmdSeq, .string CmdKey, .string CmdValue, .string CmdOld])], H6⟩
noncomputable def tephralaw06_awake.k3 (J : Jn) (Index : Int) (Term : Int) (CmdOp : Int) (CmdClient : Int) (CmdSeq : Int) (CmdKey : ByteArray) (CmdValue : ByteArray) (CmdOld : ByteArray) (x6 : Bool) (H6 : Hp) (Q : Value → Hp → Prop) : Prop := J (vMid Try.prog tephralaw06_awake.cf J tephralaw06_awake.fn [1, 1, 1, 0] [0, 0, 1, 2] 15 Q) (tephralaw06_awake.k3.st Index Term CmdOp CmdClient CmdSeq CmdKey CmdValue CmdOld x6 H6)
attribute [irreducible] tephralaw06_awake.k1 tephralaw06_awake.k2 tephralaw06_awake.k3
noncomputable def tephralaw06_awake.k1.body (J : Jn) (H2 : Hp) (Index : Int) (Term : Int) (CmdOp : Int) (CmdClient : Int) (CmdSeq : Int) (CmdKey : ByteArray) (CmdValue : ByteArray) (CmdOld : ByteArray) (x2 : Bool) (Q : Value → Hp → Prop) : Prop :=
 
 Br x2 (
 SCalls Try.prog cmds_May.id [.agg #[.int .i64 0, .int .i64 0, .int .i64 0, .string (ByteArray.mk #[]), .string (ByteArray.mk #[]), .string (ByteArray.mk #[])]] (holes H2 1) (fun r2 H3 => ∃ x3 : Bool, r2 = .bool x3 ∧ 
 tephralaw06_awake.k2 J Index Term CmdOp CmdClient CmdSeq CmdKey CmdValue CmdOld x3 H3 Q))
 (
 tephralaw06_awake.k2 J Index Term CmdOp CmdClient CmdSeq CmdKey CmdValue CmdOld false (holes H2 1) Q)
theorem tephralaw06_awake.k1.eq (J : Jn) (H2 : Hp) (Index : Int) (Term : Int) (CmdOp : Int) (CmdClient : Int) (CmdSeq : Int) (CmdKey : ByteArray) (CmdValue : ByteArray) (CmdOld : ByteArray) (x2 : Bool) (Q : Value → Hp → Prop) : vMid Try.prog tephralaw06_awake.cf J tephralaw06_awake.fn [1, 1, 1, 0] [0, 0, 1, 2] 6 Q (tephralaw06_awake.k1.st H2 Index Term CmdOp CmdClient CmdSeq CmdKey CmdValue CmdOld x2) = tephralaw06_awake.k1.body J H2 Index Term CmdOp CmdClient CmdSeq CmdKey CmdValue CmdOld x2 Q := by kernel_rfl
theorem tephralaw06_awake.k1.step {H2 : Hp} {Index : Int} {Term : Int} {CmdOp : Int} {CmdClient : Int} {CmdSeq : Int} {CmdKey : ByteArray} {CmdValue : ByteArray} {CmdOld : ByteArray} {x2 : Bool} {Q : Value → Hp → Prop} (h : tephralaw06_awake.k1.body J0 H2 Index Term CmdOp CmdClient CmdSeq CmdKey CmdValue CmdOld x2 Q) : tephralaw06_awake.k1 J0 H2 Index Term CmdOp CmdClient CmdSeq CmdKey CmdValue CmdOld x2 Q := step_of (vMid Try.prog tephralaw06_awake.cf J0 tephralaw06_awake.fn [1, 1, 1, 0] [0, 0, 1, 2] 6 Q) (tephralaw06_awake.k1.st H2 Index Term CmdOp CmdClient CmdSeq CmdKey CmdValue CmdOld x2) (tephralaw06_awake.k1.eq J0 H2 Index Term CmdOp CmdClient CmdSeq CmdKey CmdValue CmdOld x2 Q) (by kernel_rfl) h
noncomputable def tephralaw06_awake.k2.body (J : Jn) (Index : Int) (Term : Int) (CmdOp : Int) (CmdClient : Int) (CmdSeq : Int) (CmdKey : ByteArray) (CmdValue : ByteArray) (CmdOld : ByteArray) (x4 : Bool) (H4 : Hp) (Q : Value → Hp → Prop) : Prop :=
 
 Br x4 (
 SCalls Try.prog cmds_May.id [.agg #[.int .i64 0, .int .i64 0, .int .i64 0, .string (ByteArray.mk #[107]), .string (ByteArray.mk #[]), .string (ByteArray.mk #[])]] H4 (fun r3 H5 => ∃ x5 : Bool, r3 = .bool x5 ∧ 
 tephralaw06_awake.k3 J Index Term CmdOp CmdClient CmdSeq CmdKey CmdValue CmdOld (!x5) H5 Q))
 (
 tephralaw06_awake.k3 J Index Term CmdOp CmdClient CmdSeq CmdKey CmdValue CmdOld false H4 Q)
theorem tephralaw06_awake.k2.eq (J : Jn) (Index : Int) (Term : Int) (CmdOp : Int) (CmdClient : Int) (CmdSeq : Int) (CmdKey : ByteArray) (CmdValue : ByteArray) (CmdOld : ByteArray) (x4 : Bool) (H4 : Hp) (Q : Value → Hp → Prop) : vMid Try.prog tephralaw06_awake.cf J tephralaw06_awake.fn [1, 1, 1, 0] [0, 0, 1, 2] 10 Q (tephralaw06_awake.k2.st Index Term CmdOp CmdClient CmdSeq CmdKey CmdValue CmdOld x4 H4) = tephralaw06_awake.k2.body J Index Term CmdOp CmdClient CmdSeq CmdKey CmdValue CmdOld x4 H4 Q := by kernel_rfl
theorem tephralaw06_awake.k2.step {Index : Int} {Term : Int} {CmdOp : Int} {CmdClient : Int} {CmdSeq : Int} {CmdKey : ByteArray} {CmdValue : ByteArray} {CmdOld : ByteArray} {x4 : Bool} {H4 : Hp} {Q : Value → Hp → Prop} (h : tephralaw06_awake.k2.body J0 Index Term CmdOp CmdClient CmdSeq CmdKey CmdValue CmdOld x4 H4 Q) : tephralaw06_awake.k2 J0 Index Term CmdOp CmdClient CmdSeq CmdKey CmdValue CmdOld x4 H4 Q := step_of (vMid Try.prog tephralaw06_awake.cf J0 tephralaw06_awake.fn [1, 1, 1, 0] [0, 0, 1, 2] 10 Q) (tephralaw06_awake.k2.st Index Term CmdOp CmdClient CmdSeq CmdKey CmdValue CmdOld x4 H4) (tephralaw06_awake.k2.eq J0 Index Term CmdOp CmdClient CmdSeq CmdKey CmdValue CmdOld x4 H4 Q) (by kernel_rfl) h
noncomputable def tephralaw06_awake.k3.body (J : Jn) (Index : Int) (Term : Int) (CmdOp : Int) (CmdClient : Int) (CmdSeq : Int) (CmdKey : ByteArray) (CmdValue : ByteArray) (CmdOld : ByteArray) (x6 : Bool) (H6 : Hp) (Q : Value → Hp → Prop) : Prop :=
 
 Br x6 (
 SCalls Try.prog cmds_Row.id [.slice (some (Addr.mk (Array.size H6) 0 none)) 1 1, .int .i64 3] (Array.push H6 (.cells #[.int .i64 3, .int .i64 1, .int .i64 1, .int .i64 1, .int .i64 2, .string (ByteArray.mk #[107]), .string (ByteArray.mk #[118]), .string (ByteArray.mk #[])] T_api_Entry)) (fun r4 H7 => ∃ x7 : Bool, r4 = .bool x7 ∧ Q (.bool x7) H7))
 (Q (.bool false) H6)
theorem tephralaw06_awake.k3.eq (J : Jn) (Index : Int) (Term : Int) (CmdOp : Int) (CmdClient : Int) (CmdSeq : Int) (CmdKey : ByteArray) (CmdValue : ByteArray) (CmdOld : ByteArray) (x6 : Bool) (H6 : Hp) (Q : Value → Hp → Prop) : vMid Try.prog tephralaw06_awake.cf J tephralaw06_awake.fn [1, 1, 1, 0] [0, 0, 1, 2] 15 Q (tephralaw06_awake.k3.st Index Term CmdOp CmdClient CmdSeq CmdKey CmdValue CmdOld x6 H6) = tephralaw06_awake.k3.body J Index Term CmdOp CmdClient CmdSeq CmdKey CmdValue CmdOld x6 H6 Q := by kernel_rfl
theorem tephralaw06_awake.k3.step {Index : Int} {Term : Int} {CmdOp : Int} {CmdClient : Int} {CmdSeq : Int} {CmdKey : ByteArray} {CmdValue : ByteArray} {CmdOld : ByteArray} {x6 : Bool} {H6 : Hp} {Q : Value → Hp → Prop} (h : tephralaw06_awake.k3.body J0 Index Term CmdOp CmdClient CmdSeq CmdKey CmdValue CmdOld x6 H6 Q) : tephralaw06_awake.k3 J0 Index Term CmdOp CmdClient CmdSeq CmdKey CmdValue CmdOld x6 H6 Q := step_of (vMid Try.prog tephralaw06_awake.cf J0 tephralaw06_awake.fn [1, 1, 1, 0] [0, 0, 1, 2] 15 Q) (tephralaw06_awake.k3.st Index Term CmdOp CmdClient CmdSeq CmdKey CmdValue CmdOld x6 H6) (tephralaw06_awake.k3.eq J0 Index Term CmdOp CmdClient CmdSeq CmdKey CmdValue CmdOld x6 H6 Q) (by kernel_rfl) h
noncomputable def tephralaw06_awake.vc (J : Jn) (H : Hp) (Q : Value → Hp → Prop) : Prop :=
 
 SCalls Try.prog cmds_Bytes.id [.agg #[.int .i64 3, .int .i64 1, .int .i64 1, .int .i64 1, .int .i64 2, .string (ByteArray.mk #[107]), .string (ByteArray.mk #[118]), .string (ByteArray.mk #[])]] (holes H 1) (fun r H1 => ∃ x : Sl, r = .slice x.a x.len x.cap ∧ 
 SCalls Try.prog cmds_Read.id [.slice x.a x.len x.cap] H1 (fun r1 H2 => ∃ Index : Int, ∃ Term : Int, ∃ CmdOp : Int, ∃ CmdClient : Int, ∃ CmdSeq : Int, ∃ CmdKey : ByteArray, ∃ CmdValue : ByteArray, ∃ CmdOld : ByteArray, ∃ x1 : Bool, r1 = .tuple #[.agg #[.int .i64 Index, .int .i64 Term, .int .i64 CmdOp, .int .i64 CmdClient, .int .i64 CmdSeq, .string CmdKey, .string CmdValue, .string CmdOld], .bool x1] ∧ 
 Br x1 (
 tephralaw06_awake.k1 J H2 Index Term CmdOp CmdClient CmdSeq CmdKey CmdValue CmdOld ((Index == (3 : Int)) && ((Term == (1 : Int)) && (((CmdOp == (1 : Int)) && ((CmdClient == (1 : Int)) && ((CmdSeq == (2 : Int)) && ((CmdKey == (ByteArray.mk #[107])) && ((CmdValue == (ByteArray.mk #[118])) && ((CmdOld == (ByteArray.mk #[])) && true)))))) && true))) Q)
 (
 tephralaw06_awake.k1 J H2 Index Term CmdOp CmdClient CmdSeq CmdKey CmdValue CmdOld false Q)))
theorem tephralaw06_awake.eq (J : Jn) (H : Hp) (Q : Value → Hp → Prop) : vFn Try.prog tephralaw06_awake.cf J tephralaw06_awake.fn [] H Q = tephralaw06_awake.vc J H Q := by kernel_rfl
theorem tephralaw06_awake.calls {H : Hp} {Q : Value → Hp → Prop} (h : tephralaw06_awake.vc J0 H Q) : SCalls Try.prog tephralaw06_awake.id [] H Q := vFn_of Try.mixed Try.func10 (tephralaw06_awake.eq J0 H Q) h

/-! 11: (tephra/tephralaw06.Say).Cmd -/
noncomputable def tephralaw06_Say_Cmd.cf : Cfg := ⟨[1, 2, 3], [], [(6, [1, 2, 3], true)], [], true, []⟩
noncomputable def tephralaw06_Say_Cmd.k1.st (sOp : Int) (sClient : Int) (sSeq : Int) (sKey : Int) (sValue : Int) (sOld : Int) (H : Hp) (y : ByteArray) : VS := ⟨mkFr 65 [(1, .loc 0 0), (2, .loc 1 0), (3, .loc 2 0)], [(T_tephralaw06_Say, [.int .u8 sOp, .int .u8 sClient, .int .u8 sSeq, .int .u8 sKey, .int .u8 sValue, .int .u8 sOld]), (T_api_Cmd, [.int .i64 0, .int .i64 0, .int .i64 0, .string (ByteArray.mk #[]), .string (ByteArray.mk #[]), .string (ByteArray.mk #[])]), (T_api_Cmd, [.int .i64 (w64 ((Int.tmod sOp 4))), .int .i64 (w64 ((Int.tmod sClient 4))), .int .i64 (w64 ((Int.tmod sSeq 40))), .string ((ByteArray.mk #[107]) ++ ((ByteArray.mk #[97, 98, 99, 100, 101, 102, 103, 104]).extract (((Int.tmod sKey 8) : Int).toNat) (((IntKind.u8.wrap ((Int.tmod sKey 8) + 1)) : Int).toNat))), .string y, .string (ByteArray.mk #[])])], (holes H 3)⟩
noncomputable def tephralaw06_Say_Cmd.k1 (J : Jn) (sOp : Int) (sClient : Int) (sSeq : Int) (sKey : Int) (sValue : Int) (sOld : Int) (H : Hp) (y : ByteArray) (Q : Value → Hp → Prop) : Prop := J (vSeg Try.prog tephralaw06_Say_Cmd.cf J tephralaw06_Say_Cmd.fn [1, 1, 1, 1] [0, 2, 3, 3] Q) (tephralaw06_Say_Cmd.k1.st sOp sClient sSeq sKey sValue sOld H y)
attribute [irreducible] tephralaw06_Say_Cmd.k1
noncomputable def tephralaw06_Say_Cmd.k1.body (J : Jn) (sOp : Int) (sClient : Int) (sSeq : Int) (sKey : Int) (sValue : Int) (sOld : Int) (H : Hp) (y : ByteArray) (Q : Value → Hp → Prop) : Prop :=
 
 Br ((w64 ((Int.tmod sOp 4))) == 3) ((2 : Int) ≠ 0 ∧ ((0 : Int) ≤ (Int.tmod sOld 2) ∧ (Int.tmod sOld 2) ≤ (((ByteArray.mk #[118]).size : Nat) : Int)) ∧ (10 : Int) ≠ 0 ∧ (10 : Int) ≠ 0 ∧ ((0 : Int) ≤ (IntKind.u8.wrap ((Int.tmod sOld 10) + 1)) ∧ (IntKind.u8.wrap ((Int.tmod sOld 10) + 1)) ≤ (((ByteArray.mk #[48, 49, 50, 51, 52, 53, 54, 55, 56, 57]).size : Nat) : Int)) ∧ ((0 : Int) ≤ (Int.tmod sOld 10) ∧ (Int.tmod sOld 10) ≤ (((((IntKind.u8.wrap ((Int.tmod sOld 10) + 1)) : Int).toNat) : Nat) : Int)) ∧ ((ByteArray.mk #[118]).extract 0 (((Int.tmod sOld 2) : Int).toNat)).size + ((ByteArray.mk #[48, 49, 50, 51, 52, 53, 54, 55, 56, 57]).extract (((Int.tmod sOld 10) : Int).toNat) (((IntKind.u8.wrap ((Int.tmod sOld 10) + 1)) : Int).toNat)).size ≤ 9223372036854775807 ∧ Q (.agg #[.int .i64 (w64 ((Int.tmod sOp 4))), .int .i64 (w64 ((Int.tmod sClient 4))), .int .i64 (w64 ((Int.tmod sSeq 40))), .string ((ByteArray.mk #[107]) ++ ((ByteArray.mk #[97, 98, 99, 100, 101, 102, 103, 104]).extract (((Int.tmod sKey 8) : Int).toNat) (((IntKind.u8.wrap ((Int.tmod sKey 8) + 1)) : Int).toNat))), .string y, .string (((ByteArray.mk #[118]).extract 0 (((Int.tmod sOld 2) : Int).toNat)) ++ ((ByteArray.mk #[48, 49, 50, 51, 52, 53, 54, 55, 56, 57]).extract (((Int.tmod sOld 10) : Int).toNat) (((IntKind.u8.wrap ((Int.tmod sOld 10) + 1)) : Int).toNat)))]) (holes H 3))
 (Q (.agg #[.int .i64 (w64 ((Int.tmod sOp 4))), .int .i64 (w64 ((Int.tmod sClient 4))), .int .i64 (w64 ((Int.tmod sSeq 40))), .string ((ByteArray.mk #[107]) ++ ((ByteArray.mk #[97, 98, 99, 100, 101, 102, 103, 104]).extract (((Int.tmod sKey 8) : Int).toNat) (((IntKind.u8.wrap ((Int.tmod sKey 8) + 1)) : Int).toNat))), .string y, .string (ByteArray.mk #[])]) (holes H 3))
theorem tephralaw06_Say_Cmd.k1.eq (J : Jn) (sOp : Int) (sClient : Int) (sSeq : Int) (sKey : Int) (sValue : Int) (sOld : Int) (H : Hp) (y : ByteArray) (Q : Value → Hp → Prop) : vSeg Try.prog tephralaw06_Say_Cmd.cf J tephralaw06_Say_Cmd.fn [1, 1, 1, 1] [0, 2, 3, 3] Q (tephralaw06_Say_Cmd.k1.st sOp sClient sSeq sKey sValue sOld H y) = tephralaw06_Say_Cmd.k1.body J sOp sClient sSeq sKey sValue sOld H y Q := by kernel_rfl
theorem tephralaw06_Say_Cmd.k1.step {sOp : Int} {sClient : Int} {sSeq : Int} {sKey : Int} {sValue : Int} {sOld : Int} {H : Hp} {y : ByteArray} {Q : Value → Hp → Prop} (h : tephralaw06_Say_Cmd.k1.body J0 sOp sClient sSeq sKey sValue sOld H y Q) : tephralaw06_Say_Cmd.k1 J0 sOp sClient sSeq sKey sValue sOld H y Q := step_of (vSeg Try.prog tephralaw06_Say_Cmd.cf J0 tephralaw06_Say_Cmd.fn [1, 1, 1, 1] [0, 2, 3, 3] Q) (tephralaw06_Say_Cmd.k1.st sOp sClient sSeq sKey sValue sOld H y) (tephralaw06_Say_Cmd.k1.eq J0 sOp sClient sSeq sKey sValue sOld H y Q) (by kernel_rfl) h
noncomputable def tephralaw06_Say_Cmd.vc (J : Jn) (sOp : Int) (sClient : Int) (sSeq : Int) (sKey : Int) (sValue : Int) (sOld : Int) (H : Hp) (Q : Value → Hp → Prop) : Prop :=
 (4 : Int) ≠ 0 ∧ (4 : Int) ≠ 0 ∧ (40 : Int) ≠ 0 ∧ (8 : Int) ≠ 0 ∧ (8 : Int) ≠ 0 ∧ ((0 : Int) ≤ (IntKind.u8.wrap ((Int.tmod sKey 8) + 1)) ∧ (IntKind.u8.wrap ((Int.tmod sKey 8) + 1)) ≤ (((ByteArray.mk #[97, 98, 99, 100, 101, 102, 103, 104]).size : Nat) : Int)) ∧ ((0 : Int) ≤ (Int.tmod sKey 8) ∧ (Int.tmod sKey 8) ≤ (((((IntKind.u8.wrap ((Int.tmod sKey 8) + 1)) : Int).toNat) : Nat) : Int)) ∧ (ByteArray.mk #[107]).size + ((ByteArray.mk #[97, 98, 99, 100, 101, 102, 103, 104]).extract (((Int.tmod sKey 8) : Int).toNat) (((IntKind.u8.wrap ((Int.tmod sKey 8) + 1)) : Int).toNat)).size ≤ 9223372036854775807 ∧ (2 : Int) ≠ 0 ∧ ((0 : Int) ≤ (Int.tmod sValue 2) ∧ (Int.tmod sValue 2) ≤ (((ByteArray.mk #[118]).size : Nat) : Int)) ∧ (10 : Int) ≠ 0 ∧ (10 : Int) ≠ 0 ∧ ((0 : Int) ≤ (IntKind.u8.wrap ((Int.tmod sValue 10) + 1)) ∧ (IntKind.u8.wrap ((Int.tmod sValue 10) + 1)) ≤ (((ByteArray.mk #[48, 49, 50, 51, 52, 53, 54, 55, 56, 57]).size : Nat) : Int)) ∧ ((0 : Int) ≤ (Int.tmod sValue 10) ∧ (Int.tmod sValue 10) ≤ (((((IntKind.u8.wrap ((Int.tmod sValue 10) + 1)) : Int).toNat) : Nat) : Int)) ∧ ((ByteArray.mk #[118]).extract 0 (((Int.tmod sValue 2) : Int).toNat)).size + ((ByteArray.mk #[48, 49, 50, 51, 52, 53, 54, 55, 56, 57]).extract (((Int.tmod sValue 10) : Int).toNat) (((IntKind.u8.wrap ((Int.tmod sValue 10) + 1)) : Int).toNat)).size ≤ 9223372036854775807 ∧ 
 Br ((w64 ((Int.tmod sOp 4))) == 0) (Q (.agg #[.int .i64 0, .int .i64 0, .int .i64 0, .string (ByteArray.mk #[]), .string (ByteArray.mk #[]), .string (ByteArray.mk #[])]) (holes H 3))
 (
 Br ((w64 ((Int.tmod sOp 4))) == 2) (
 tephralaw06_Say_Cmd.k1 J sOp sClient sSeq sKey sValue sOld H (ByteArray.mk #[]) Q)
 (
 tephralaw06_Say_Cmd.k1 J sOp sClient sSeq sKey sValue sOld H (((ByteArray.mk #[118]).extract 0 (((Int.tmod sValue 2) : Int).toNat)) ++ ((ByteArray.mk #[48, 49, 50, 51, 52, 53, 54, 55, 56, 57]).extract (((Int.tmod sValue 10) : Int).toNat) (((IntKind.u8.wrap ((Int.tmod sValue 10) + 1)) : Int).toNat))) Q))
theorem tephralaw06_Say_Cmd.eq (J : Jn) (sOp : Int) (sClient : Int) (sSeq : Int) (sKey : Int) (sValue : Int) (sOld : Int) (H : Hp) (Q : Value → Hp → Prop) : vFn Try.prog tephralaw06_Say_Cmd.cf J tephralaw06_Say_Cmd.fn [.agg #[.int .u8 sOp, .int .u8 sClient, .int .u8 sSeq, .int .u8 sKey, .int .u8 sValue, .int .u8 sOld]] H Q = tephralaw06_Say_Cmd.vc J sOp sClient sSeq sKey sValue sOld H Q := by kernel_rfl
theorem tephralaw06_Say_Cmd.calls {sOp : Int} {sClient : Int} {sSeq : Int} {sKey : Int} {sValue : Int} {sOld : Int} {H : Hp} {Q : Value → Hp → Prop} (h : tephralaw06_Say_Cmd.vc J0 sOp sClient sSeq sKey sValue sOld H Q) : SCalls Try.prog tephralaw06_Say_Cmd.id [.agg #[.int .u8 sOp, .int .u8 sClient, .int .u8 sSeq, .int .u8 sKey, .int .u8 sValue, .int .u8 sOld]] H Q := vFn_of Try.mixed Try.func11 (tephralaw06_Say_Cmd.eq J0 sOp sClient sSeq sKey sValue sOld H Q) h

/-! 12: tephra/cmds.May -/
noncomputable def cmds_May.cf : Cfg := ⟨[1], [], [(2, [1, 22], true)], [(10, [1, 10]), (16, [1, 16]), (36, [1, 36]), (41, [1, 41]), (46, [1, 46]), (51, [1, 51])], true, []⟩
noncomputable def cmds_May.k1.st (cOp : Int) (cClient : Int) (cSeq : Int) (cKey : ByteArray) (cValue : ByteArray) (cOld : ByteArray) (H : Hp) (x : Bool) : VS := ⟨mkFr 58 [(1, .loc 0 0), (10, .v (.bool x))], [(T_api_Cmd, [.int .i64 cOp, .int .i64 cClient, .int .i64 cSeq, .string cKey, .string cValue, .string cOld])], (holes H 1)⟩
noncomputable def cmds_May.k1 (J : Jn) (cOp : Int) (cClient : Int) (cSeq : Int) (cKey : ByteArray) (cValue : ByteArray) (cOld : ByteArray) (H : Hp) (x : Bool) (Q : Value → Hp → Prop) : Prop := J (vMid Try.prog cmds_May.cf J cmds_May.fn [1, 0, 0] [0, 1, 1] 8 Q) (cmds_May.k1.st cOp cClient cSeq cKey cValue cOld H x)
noncomputable def cmds_May.k2.st (cOp : Int) (cClient : Int) (cSeq : Int) (cKey : ByteArray) (cValue : ByteArray) (cOld : ByteArray) (H : Hp) (x1 : Bool) : VS := ⟨mkFr 58 [(1, .loc 0 0), (16, .v (.bool x1))], [(T_api_Cmd, [.int .i64 cOp, .int .i64 cClient, .int .i64 cSeq, .string cKey, .string cValue, .string cOld])], (holes H 1)⟩
noncomputable def cmds_May.k2 (J : Jn) (cOp : Int) (cClient : Int) (cSeq : Int) (cKey : ByteArray) (cValue : ByteArray) (cOld : ByteArray) (H : Hp) (x1 : Bool) (Q : Value → Hp → Prop) : Prop := J (vMid Try.prog cmds_May.cf J cmds_May.fn [1, 0, 0] [0, 1, 1] 14 Q) (cmds_May.k2.st cOp cClient cSeq cKey cValue cOld H x1)
noncomputable def cmds_May.k3.st (cOp : Int) (cClient : Int) (cSeq : Int) (cKey : ByteArray) (cValue : ByteArray) (cOld : ByteArray) (H : Hp) (x2 : Bool) : VS := ⟨mkFr 58 [(1, .loc 0 0), (22, .v (.bool x2))], [(T_api_Cmd, [.int .i64 cOp, .int .i64 cClient, .int .i64 cSeq, .string cKey, .string cValue, .string cOld])], (holes H 1)⟩
noncomputable def cmds_May.k3 (J : Jn) (cOp : Int) (cClient : Int) (cSeq : Int) (cKey : ByteArray) (cValue : ByteArray) (cOld : ByteArray) (H : Hp) (x2 : Bool) (Q : Value → Hp → Prop) : Prop := J (vSeg Try.prog cmds_May.cf J cmds_May.fn [1, 0, 1] [0, 1, 1] Q) (cmds_May.k3.st cOp cClient cSeq cKey cValue cOld H x2)
noncomputable def cmds_May.k4.st (cOp : Int) (cClient : Int) (cSeq : Int) (cKey : ByteArray) (cValue : ByteArray) (cOld : ByteArray) (H : Hp) (x3 : Bool) : VS := ⟨mkFr 58 [(1, .loc 0 0), (36, .v (.bool x3))], [(T_api_Cmd, [.int .i64 cOp, .int .i64 cClient, .int .i64 cSeq, .string cKey, .string cValue, .string cOld])], (holes H 1)⟩
noncomputable def cmds_May.k4 (J : Jn) (cOp : Int) (cClient : Int) (cSeq : Int) (cKey : ByteArray) (cValue : ByteArray) (cOld : ByteArray) (H : Hp) (x3 : Bool) (Q : Value → Hp → Prop) : Prop := J (vMid Try.prog cmds_May.cf J cmds_May.fn [1, 1, 1, 0] [0, 1, 1, 1] 8 Q) (cmds_May.k4.st cOp cClient cSeq cKey cValue cOld H x3)
noncomputable def cmds_May.k5.st (cOp : Int) (cClient : Int) (cSeq : Int) (cKey : ByteArray) (cValue : ByteArray) (cOld : ByteArray) (H : Hp) (x4 : Bool) : VS := ⟨mkFr 58 [(1, .loc 0 0), (41, .v (.bool x4))], [(T_api_Cmd, [.int .i64 cOp, .int .i64 cClient, .int .i64 cSeq, .string cKey, .string cValue, .string cOld])], (holes H 1)⟩
noncomputable def cmds_May.k5 (J : Jn) (cOp : Int) (cClient : Int) (cSeq : Int) (cKey : ByteArray) (cValue : ByteArray) (cOld : ByteArray) (H : Hp) (x4 : Bool) (Q : Value → Hp → Prop) : Prop := J (vMid Try.prog cmds_May.cf J cmds_May.fn [1, 1, 1, 0] [0, 1, 1, 1] 13 Q) (cmds_May.k5.st cOp cClient cSeq cKey cValue cOld H x4)
noncomputable def cmds_May.k6.st (cOp : Int) (cClient : Int) (cSeq : Int) (cKey : ByteArray) (cValue : ByteArray) (cOld : ByteArray) (H : Hp) (x5 : Bool) : VS := ⟨mkFr 58 [(1, .loc 0 0), (46, .v (.bool x5))], [(T_api_Cmd, [.int .i64 cOp, .int .i64 cClient, .int .i64 cSeq, .string cKey, .string cValue, .string cOld])], (holes H 1)⟩
noncomputable def cmds_May.k6 (J : Jn) (cOp : Int) (cClient : Int) (cSeq : Int) (cKey : ByteArray) (cValue : ByteArray) (cOld : ByteArray) (H : Hp) (x5 : Bool) (Q : Value → Hp → Prop) : Prop := J (vMid Try.prog cmds_May.cf J cmds_May.fn [1, 1, 1, 0] [0, 1, 1, 1] 18 Q) (cmds_May.k6.st cOp cClient cSeq cKey cValue cOld H x5)
noncomputable def cmds_May.k7.st (cOp : Int) (cClient : Int) (cSeq : Int) (cKey : ByteArray) (cValue : ByteArray) (cOld : ByteArray) (H : Hp) (x6 : Bool) : VS := ⟨mkFr 58 [(1, .loc 0 0), (51, .v (.bool x6))], [(T_api_Cmd, [.int .i64 cOp, .int .i64 cClient, .int .i64 cSeq, .string cKey, .string cValue, .string cOld])], (holes H 1)⟩
noncomputable def cmds_May.k7 (J : Jn) (cOp : Int) (cClient : Int) (cSeq : Int) (cKey : ByteArray) (cValue : ByteArray) (cOld : ByteArray) (H : Hp) (x6 : Bool) (Q : Value → Hp → Prop) : Prop := J (vMid Try.prog cmds_May.cf J cmds_May.fn [1, 1, 1, 0] [0, 1, 1, 1] 23 Q) (cmds_May.k7.st cOp cClient cSeq cKey cValue cOld H x6)
attribute [irreducible] cmds_May.k1 cmds_May.k2 cmds_May.k3 cmds_May.k4 cmds_May.k5 cmds_May.k6 cmds_May.k7
noncomputable def cmds_May.k1.body (J : Jn) (cOp : Int) (cClient : Int) (cSeq : Int) (cKey : ByteArray) (cValue : ByteArray) (cOld : ByteArray) (H : Hp) (x : Bool) (Q : Value → Hp → Prop) : Prop :=
 
 Br x (
 cmds_May.k2 J cOp cClient cSeq cKey cValue cOld H true Q)
 (
 cmds_May.k2 J cOp cClient cSeq cKey cValue cOld H (decide (((cValue.size : Nat) : Int) > 16)) Q)
theorem cmds_May.k1.eq (J : Jn) (cOp : Int) (cClient : Int) (cSeq : Int) (cKey : ByteArray) (cValue : ByteArray) (cOld : ByteArray) (H : Hp) (x : Bool) (Q : Value → Hp → Prop) : vMid Try.prog cmds_May.cf J cmds_May.fn [1, 0, 0] [0, 1, 1] 8 Q (cmds_May.k1.st cOp cClient cSeq cKey cValue cOld H x) = cmds_May.k1.body J cOp cClient cSeq cKey cValue cOld H x Q := by kernel_rfl
theorem cmds_May.k1.step {cOp : Int} {cClient : Int} {cSeq : Int} {cKey : ByteArray} {cValue : ByteArray} {cOld : ByteArray} {H : Hp} {x : Bool} {Q : Value → Hp → Prop} (h : cmds_May.k1.body J0 cOp cClient cSeq cKey cValue cOld H x Q) : cmds_May.k1 J0 cOp cClient cSeq cKey cValue cOld H x Q := step_of (vMid Try.prog cmds_May.cf J0 cmds_May.fn [1, 0, 0] [0, 1, 1] 8 Q) (cmds_May.k1.st cOp cClient cSeq cKey cValue cOld H x) (cmds_May.k1.eq J0 cOp cClient cSeq cKey cValue cOld H x Q) (by kernel_rfl) h
noncomputable def cmds_May.k2.body (J : Jn) (cOp : Int) (cClient : Int) (cSeq : Int) (cKey : ByteArray) (cValue : ByteArray) (cOld : ByteArray) (H : Hp) (x1 : Bool) (Q : Value → Hp → Prop) : Prop :=
 
 Br x1 (
 cmds_May.k3 J cOp cClient cSeq cKey cValue cOld H true Q)
 (
 cmds_May.k3 J cOp cClient cSeq cKey cValue cOld H (decide (((cOld.size : Nat) : Int) > 16)) Q)
theorem cmds_May.k2.eq (J : Jn) (cOp : Int) (cClient : Int) (cSeq : Int) (cKey : ByteArray) (cValue : ByteArray) (cOld : ByteArray) (H : Hp) (x1 : Bool) (Q : Value → Hp → Prop) : vMid Try.prog cmds_May.cf J cmds_May.fn [1, 0, 0] [0, 1, 1] 14 Q (cmds_May.k2.st cOp cClient cSeq cKey cValue cOld H x1) = cmds_May.k2.body J cOp cClient cSeq cKey cValue cOld H x1 Q := by kernel_rfl
theorem cmds_May.k2.step {cOp : Int} {cClient : Int} {cSeq : Int} {cKey : ByteArray} {cValue : ByteArray} {cOld : ByteArray} {H : Hp} {x1 : Bool} {Q : Value → Hp → Prop} (h : cmds_May.k2.body J0 cOp cClient cSeq cKey cValue cOld H x1 Q) : cmds_May.k2 J0 cOp cClient cSeq cKey cValue cOld H x1 Q := step_of (vMid Try.prog cmds_May.cf J0 cmds_May.fn [1, 0, 0] [0, 1, 1] 14 Q) (cmds_May.k2.st cOp cClient cSeq cKey cValue cOld H x1) (cmds_May.k2.eq J0 cOp cClient cSeq cKey cValue cOld H x1 Q) (by kernel_rfl) h
noncomputable def cmds_May.k3.body (J : Jn) (cOp : Int) (cClient : Int) (cSeq : Int) (cKey : ByteArray) (cValue : ByteArray) (cOld : ByteArray) (H : Hp) (x2 : Bool) (Q : Value → Hp → Prop) : Prop :=
 
 Br x2 (Q (.bool false) (holes H 1))
 (
 Br (cOp == 0) (Q (.bool ((cOp == (0 : Int)) && ((cClient == (0 : Int)) && ((cSeq == (0 : Int)) && ((cKey == (ByteArray.mk #[])) && ((cValue == (ByteArray.mk #[])) && ((cOld == (ByteArray.mk #[])) && true))))))) (holes H 1))
 (
 Br (decide (cClient ≥ 0)) (
 cmds_May.k4 J cOp cClient cSeq cKey cValue cOld H (decide (cClient < 4)) Q)
 (
 cmds_May.k4 J cOp cClient cSeq cKey cValue cOld H false Q)))
theorem cmds_May.k3.eq (J : Jn) (cOp : Int) (cClient : Int) (cSeq : Int) (cKey : ByteArray) (cValue : ByteArray) (cOld : ByteArray) (H : Hp) (x2 : Bool) (Q : Value → Hp → Prop) : vSeg Try.prog cmds_May.cf J cmds_May.fn [1, 0, 1] [0, 1, 1] Q (cmds_May.k3.st cOp cClient cSeq cKey cValue cOld H x2) = cmds_May.k3.body J cOp cClient cSeq cKey cValue cOld H x2 Q := by kernel_rfl
theorem cmds_May.k3.step {cOp : Int} {cClient : Int} {cSeq : Int} {cKey : ByteArray} {cValue : ByteArray} {cOld : ByteArray} {H : Hp} {x2 : Bool} {Q : Value → Hp → Prop} (h : cmds_May.k3.body J0 cOp cClient cSeq cKey cValue cOld H x2 Q) : cmds_May.k3 J0 cOp cClient cSeq cKey cValue cOld H x2 Q := step_of (vSeg Try.prog cmds_May.cf J0 cmds_May.fn [1, 0, 1] [0, 1, 1] Q) (cmds_May.k3.st cOp cClient cSeq cKey cValue cOld H x2) (cmds_May.k3.eq J0 cOp cClient cSeq cKey cValue cOld H x2 Q) (by kernel_rfl) h
noncomputable def cmds_May.k4.body (J : Jn) (cOp : Int) (cClient : Int) (cSeq : Int) (cKey : ByteArray) (cValue : ByteArray) (cOld : ByteArray) (H : Hp) (x3 : Bool) (Q : Value → Hp → Prop) : Prop :=
 
 Br x3 (
 cmds_May.k5 J cOp cClient cSeq cKey cValue cOld H (decide (cSeq ≥ 0)) Q)
 (
 cmds_May.k5 J cOp cClient cSeq cKey cValue cOld H false Q)
theorem cmds_May.k4.eq (J : Jn) (cOp : Int) (cClient : Int) (cSeq : Int) (cKey : ByteArray) (cValue : ByteArray) (cOld : ByteArray) (H : Hp) (x3 : Bool) (Q : Value → Hp → Prop) : vMid Try.prog cmds_May.cf J cmds_May.fn [1, 1, 1, 0] [0, 1, 1, 1] 8 Q (cmds_May.k4.st cOp cClient cSeq cKey cValue cOld H x3) = cmds_May.k4.body J cOp cClient cSeq cKey cValue cOld H x3 Q := by kernel_rfl
theorem cmds_May.k4.step {cOp : Int} {cClient : Int} {cSeq : Int} {cKey : ByteArray} {cValue : ByteArray} {cOld : ByteArray} {H : Hp} {x3 : Bool} {Q : Value → Hp → Prop} (h : cmds_May.k4.body J0 cOp cClient cSeq cKey cValue cOld H x3 Q) : cmds_May.k4 J0 cOp cClient cSeq cKey cValue cOld H x3 Q := step_of (vMid Try.prog cmds_May.cf J0 cmds_May.fn [1, 1, 1, 0] [0, 1, 1, 1] 8 Q) (cmds_May.k4.st cOp cClient cSeq cKey cValue cOld H x3) (cmds_May.k4.eq J0 cOp cClient cSeq cKey cValue cOld H x3 Q) (by kernel_rfl) h
noncomputable def cmds_May.k5.body (J : Jn) (cOp : Int) (cClient : Int) (cSeq : Int) (cKey : ByteArray) (cValue : ByteArray) (cOld : ByteArray) (H : Hp) (x4 : Bool) (Q : Value → Hp → Prop) : Prop :=
 
 Br x4 (
 cmds_May.k6 J cOp cClient cSeq cKey cValue cOld H (decide (cSeq ≤ 1048576)) Q)
 (
 cmds_May.k6 J cOp cClient cSeq cKey cValue cOld H false Q)
theorem cmds_May.k5.eq (J : Jn) (cOp : Int) (cClient : Int) (cSeq : Int) (cKey : ByteArray) (cValue : ByteArray) (cOld : ByteArray) (H : Hp) (x4 : Bool) (Q : Value → Hp → Prop) : vMid Try.prog cmds_May.cf J cmds_May.fn [1, 1, 1, 0] [0, 1, 1, 1] 13 Q (cmds_May.k5.st cOp cClient cSeq cKey cValue cOld H x4) = cmds_May.k5.body J cOp cClient cSeq cKey cValue cOld H x4 Q := by kernel_rfl
theorem cmds_May.k5.step {cOp : Int} {cClient : Int} {cSeq : Int} {cKey : ByteArray} {cValue : ByteArray} {cOld : ByteArray} {H : Hp} {x4 : Bool} {Q : Value → Hp → Prop} (h : cmds_May.k5.body J0 cOp cClient cSeq cKey cValue cOld H x4 Q) : cmds_May.k5 J0 cOp cClient cSeq cKey cValue cOld H x4 Q := step_of (vMid Try.prog cmds_May.cf J0 cmds_May.fn [1, 1, 1, 0] [0, 1, 1, 1] 13 Q) (cmds_May.k5.st cOp cClient cSeq cKey cValue cOld H x4) (cmds_May.k5.eq J0 cOp cClient cSeq cKey cValue cOld H x4 Q) (by kernel_rfl) h
noncomputable def cmds_May.k6.body (J : Jn) (cOp : Int) (cClient : Int) (cSeq : Int) (cKey : ByteArray) (cValue : ByteArray) (cOld : ByteArray) (H : Hp) (x5 : Bool) (Q : Value → Hp → Prop) : Prop :=
 
 Br x5 (
 cmds_May.k7 J cOp cClient cSeq cKey cValue cOld H (!(cKey.toList == (ByteArray.mk #[]).toList)) Q)
 (
 cmds_May.k7 J cOp cClient cSeq cKey cValue cOld H false Q)
theorem cmds_May.k6.eq (J : Jn) (cOp : Int) (cClient : Int) (cSeq : Int) (cKey : ByteArray) (cValue : ByteArray) (cOld : ByteArray) (H : Hp) (x5 : Bool) (Q : Value → Hp → Prop) : vMid Try.prog cmds_May.cf J cmds_May.fn [1, 1, 1, 0] [0, 1, 1, 1] 18 Q (cmds_May.k6.st cOp cClient cSeq cKey cValue cOld H x5) = cmds_May.k6.body J cOp cClient cSeq cKey cValue cOld H x5 Q := by kernel_rfl
theorem cmds_May.k6.step {cOp : Int} {cClient : Int} {cSeq : Int} {cKey : ByteArray} {cValue : ByteArray} {cOld : ByteArray} {H : Hp} {x5 : Bool} {Q : Value → Hp → Prop} (h : cmds_May.k6.body J0 cOp cClient cSeq cKey cValue cOld H x5 Q) : cmds_May.k6 J0 cOp cClient cSeq cKey cValue cOld H x5 Q := step_of (vMid Try.prog cmds_May.cf J0 cmds_May.fn [1, 1, 1, 0] [0, 1, 1, 1] 18 Q) (cmds_May.k6.st cOp cClient cSeq cKey cValue cOld H x5) (cmds_May.k6.eq J0 cOp cClient cSeq cKey cValue cOld H x5 Q) (by kernel_rfl) h
noncomputable def cmds_May.k7.body (J : Jn) (cOp : Int) (cClient : Int) (cSeq : Int) (cKey : ByteArray) (cValue : ByteArray) (cOld : ByteArray) (H : Hp) (x6 : Bool) (Q : Value → Hp → Prop) : Prop :=
 
 Br x6 (Q (.bool (decide (((cKey.size : Nat) : Int) ≤ 8))) (holes H 1))
 (Q (.bool false) (holes H 1))
theorem cmds_May.k7.eq (J : Jn) (cOp : Int) (cClient : Int) (cSeq : Int) (cKey : ByteArray) (cValue : ByteArray) (cOld : ByteArray) (H : Hp) (x6 : Bool) (Q : Value → Hp → Prop) : vMid Try.prog cmds_May.cf J cmds_May.fn [1, 1, 1, 0] [0, 1, 1, 1] 23 Q (cmds_May.k7.st cOp cClient cSeq cKey cValue cOld H x6) = cmds_May.k7.body J cOp cClient cSeq cKey cValue cOld H x6 Q := by kernel_rfl
theorem cmds_May.k7.step {cOp : Int} {cClient : Int} {cSeq : Int} {cKey : ByteArray} {cValue : ByteArray} {cOld : ByteArray} {H : Hp} {x6 : Bool} {Q : Value → Hp → Prop} (h : cmds_May.k7.body J0 cOp cClient cSeq cKey cValue cOld H x6 Q) : cmds_May.k7 J0 cOp cClient cSeq cKey cValue cOld H x6 Q := step_of (vMid Try.prog cmds_May.cf J0 cmds_May.fn [1, 1, 1, 0] [0, 1, 1, 1] 23 Q) (cmds_May.k7.st cOp cClient cSeq cKey cValue cOld H x6) (cmds_May.k7.eq J0 cOp cClient cSeq cKey cValue cOld H x6 Q) (by kernel_rfl) h
noncomputable def cmds_May.vc (J : Jn) (cOp : Int) (cClient : Int) (cSeq : Int) (cKey : ByteArray) (cValue : ByteArray) (cOld : ByteArray) (H : Hp) (Q : Value → Hp → Prop) : Prop :=
 
 Br (decide (cOp < 0)) (
 cmds_May.k1 J cOp cClient cSeq cKey cValue cOld H true Q)
 (
 cmds_May.k1 J cOp cClient cSeq cKey cValue cOld H (decide (cOp ≥ 4)) Q)
theorem cmds_May.eq (J : Jn) (cOp : Int) (cClient : Int) (cSeq : Int) (cKey : ByteArray) (cValue : ByteArray) (cOld : ByteArray) (H : Hp) (Q : Value → Hp → Prop) : vFn Try.prog cmds_May.cf J cmds_May.fn [.agg #[.int .i64 cOp, .int .i64 cClient, .int .i64 cSeq, .string cKey, .string cValue, .string cOld]] H Q = cmds_May.vc J cOp cClient cSeq cKey cValue cOld H Q := by kernel_rfl
theorem cmds_May.calls {cOp : Int} {cClient : Int} {cSeq : Int} {cKey : ByteArray} {cValue : ByteArray} {cOld : ByteArray} {H : Hp} {Q : Value → Hp → Prop} (h : cmds_May.vc J0 cOp cClient cSeq cKey cValue cOld H Q) : SCalls Try.prog cmds_May.id [.agg #[.int .i64 cOp, .int .i64 cClient, .int .i64 cSeq, .string cKey, .string cValue, .string cOld]] H Q := vFn_of Try.mixed Try.func12 (cmds_May.eq J0 cOp cClient cSeq cKey cValue cOld H Q) h

/-! 13: tephra/tephralaw06.may -/
noncomputable def tephralaw06_may.cf : Cfg := ⟨[1], [], [(2, [1, 22], true)], [(10, [1, 10]), (16, [1, 16]), (33, [1, 33]), (38, [1, 38]), (43, [1, 43]), (56, [1, 56]), (61, [1, 61]), (66, [1, 66]), (72, [1, 72])], true, []⟩
noncomputable def tephralaw06_may.k1.st (cOp : Int) (cClient : Int) (cSeq : Int) (cKey : ByteArray) (cValue : ByteArray) (cOld : ByteArray) (H : Hp) (x : Bool) : VS := ⟨mkFr 79 [(1, .loc 0 0), (10, .v (.bool x))], [(T_api_Cmd, [.int .i64 cOp, .int .i64 cClient, .int .i64 cSeq, .string cKey, .string cValue, .string cOld])], (holes H 1)⟩
noncomputable def tephralaw06_may.k1 (J : Jn) (cOp : Int) (cClient : Int) (cSeq : Int) (cKey : ByteArray) (cValue : ByteArray) (cOld : ByteArray) (H : Hp) (x : Bool) (Q : Value → Hp → Prop) : Prop := J (vMid Try.prog tephralaw06_may.cf J tephralaw06_may.fn [1, 0, 0] [0, 1, 1] 8 Q) (tephralaw06_may.k1.st cOp cClient cSeq cKey cValue cOld H x)
noncomputable def tephralaw06_may.k2.st (cOp : Int) (cClient : Int) (cSeq : Int) (cKey : ByteArray) (cValue : ByteArray) (cOld : ByteArray) (H : Hp) (x1 : Bool) : VS := ⟨mkFr 79 [(1, .loc 0 0), (16, .v (.bool x1))], [(T_api_Cmd, [.int .i64 cOp, .int .i64 cClient, .int .i64 cSeq, .string cKey, .string cValue, .string cOld])], (holes H 1)⟩
noncomputable def tephralaw06_may.k2 (J : Jn) (cOp : Int) (cClient : Int) (cSeq : Int) (cKey : ByteArray) (cValue : ByteArray) (cOld : ByteArray) (H : Hp) (x1 : Bool) (Q : Value → Hp → Prop) : Prop := J (vMid Try.prog tephralaw06_may.cf J tephralaw06_may.fn [1, 0, 0] [0, 1, 1] 14 Q) (tephralaw06_may.k2.st cOp cClient cSeq cKey cValue cOld H x1)
noncomputable def tephralaw06_may.k3.st (cOp : Int) (cClient : Int) (cSeq : Int) (cKey : ByteArray) (cValue : ByteArray) (cOld : ByteArray) (H : Hp) (x2 : Bool) : VS := ⟨mkFr 79 [(1, .loc 0 0), (22, .v (.bool x2))], [(T_api_Cmd, [.int .i64 cOp, .int .i64 cClient, .int .i64 cSeq, .string cKey, .string cValue, .string cOld])], (holes H 1)⟩
noncomputable def tephralaw06_may.k3 (J : Jn) (cOp : Int) (cClient : Int) (cSeq : Int) (cKey : ByteArray) (cValue : ByteArray) (cOld : ByteArray) (H : Hp) (x2 : Bool) (Q : Value → Hp → Prop) : Prop := J (vSeg Try.prog tephralaw06_may.cf J tephralaw06_may.fn [1, 0, 1] [0, 1, 1] Q) (tephralaw06_may.k3.st cOp cClient cSeq cKey cValue cOld H x2)
noncomputable def tephralaw06_may.k4.st (cOp : Int) (cClient : Int) (cSeq : Int) (cKey : ByteArray) (cValue : ByteArray) (cOld : ByteArray) (H : Hp) (x3 : Bool) : VS := ⟨mkFr 79 [(1, .loc 0 0), (33, .v (.bool x3))], [(T_api_Cmd, [.int .i64 cOp, .int .i64 cClient, .int .i64 cSeq, .string cKey, .string cValue, .string cOld])], (holes H 1)⟩
noncomputable def tephralaw06_may.k4 (J : Jn) (cOp : Int) (cClient : Int) (cSeq : Int) (cKey : ByteArray) (cValue : ByteArray) (cOld : ByteArray) (H : Hp) (x3 : Bool) (Q : Value → Hp → Prop) : Prop := J (vMid Try.prog tephralaw06_may.cf J tephralaw06_may.fn [1, 1, 0, 1, 0, 0] [0, 1, 1, 1, 1] 8 Q) (tephralaw06_may.k4.st cOp cClient cSeq cKey cValue cOld H x3)
noncomputable def tephralaw06_may.k5.st (cOp : Int) (cClient : Int) (cSeq : Int) (cKey : ByteArray) (cValue : ByteArray) (cOld : ByteArray) (H : Hp) (x4 : Bool) : VS := ⟨mkFr 79 [(1, .loc 0 0), (38, .v (.bool x4))], [(T_api_Cmd, [.int .i64 cOp, .int .i64 cClient, .int .i64 cSeq, .string cKey, .string cValue, .string cOld])], (holes H 1)⟩
noncomputable def tephralaw06_may.k5 (J : Jn) (cOp : Int) (cClient : Int) (cSeq : Int) (cKey : ByteArray) (cValue : ByteArray) (cOld : ByteArray) (H : Hp) (x4 : Bool) (Q : Value → Hp → Prop) : Prop := J (vMid Try.prog tephralaw06_may.cf J tephralaw06_may.fn [1, 1, 0, 1, 0, 0] [0, 1, 1, 1, 1] 13 Q) (tephralaw06_may.k5.st cOp cClient cSeq cKey cValue cOld H x4)
noncomputable def tephralaw06_may.k6.st (cOp : Int) (cClient : Int) (cSeq : Int) (cKey : ByteArray) (cValue : ByteArray) (cOld : ByteArray) (H : Hp) (x5 : Bool) : VS := ⟨mkFr 79 [(1, .loc 0 0), (43, .v (.bool x5))], [(T_api_Cmd, [.int .i64 cOp, .int .i64 cClient, .int .i64 cSeq, .string cKey, .string cValue, .string cOld])], (holes H 1)⟩
noncomputable def tephralaw06_may.k6 (J : Jn) (cOp : Int) (cClient : Int) (cSeq : Int) (cKey : ByteArray) (cValue : ByteArray) (cOld : ByteArray) (H : Hp) (x5 : Bool) (Q : Value → Hp → Prop) : Prop := J (vMid Try.prog tephralaw06_may.cf J tephralaw06_may.fn [1, 1, 0, 1, 0, 0] [0, 1, 1, 1, 1] 18 Q) (tephralaw06_may.k6.st cOp cClient cSeq cKey cValue cOld H x5)
noncomputable def tephralaw06_may.k7.st (cOp : Int) (cClient : Int) (cSeq : Int) (cKey : ByteArray) (cValue : ByteArray) (cOld : ByteArray) (H : Hp) (x6 : Bool) : VS := ⟨mkFr 79 [(1, .loc 0 0), (56, .v (.bool x6))], [(T_api_Cmd, [.int .i64 cOp, .int .i64 cClient, .int .i64 cSeq, .string cKey, .string cValue, .string cOld])], (holes H 1)⟩
noncomputable def tephralaw06_may.k7 (J : Jn) (cOp : Int) (cClient : Int) (cSeq : Int) (cKey : ByteArray) (cValue : ByteArray) (cOld : ByteArray) (H : Hp) (x6 : Bool) (Q : Value → Hp → Prop) : Prop := J (vMid Try.prog tephralaw06_may.cf J tephralaw06_may.fn [1, 1, 1, 0] [0, 1, 1, 1] 8 Q) (tephralaw06_may.k7.st cOp cClient cSeq cKey cValue cOld H x6)
noncomputable def tephralaw06_may.k8.st (cOp : Int) (cClient : Int) (cSeq : Int) (cKey : ByteArray) (cValue : ByteArray) (cOld : ByteArray) (H : Hp) (x7 : Bool) : VS := ⟨mkFr 79 [(1, .loc 0 0), (61, .v (.bool x7))], [(T_api_Cmd, [.int .i64 cOp, .int .i64 cClient, .int .i64 cSeq, .string cKey, .string cValue, .string cOld])], (holes H 1)⟩
noncomputable def tephralaw06_may.k8 (J : Jn) (cOp : Int) (cClient : Int) (cSeq : Int) (cKey : ByteArray) (cValue : ByteArray) (cOld : ByteArray) (H : Hp) (x7 : Bool) (Q : Value → Hp → Prop) : Prop := J (vMid Try.prog tephralaw06_may.cf J tephralaw06_may.fn [1, 1, 1, 0] [0, 1, 1, 1] 13 Q) (tephralaw06_may.k8.st cOp cClient cSeq cKey cValue cOld H x7)
noncomputable def tephralaw06_may.k9.st (cOp : Int) (cClient : Int) (cSeq : Int) (cKey : ByteArray) (cValue : ByteArray) (cOld : ByteArray) (H : Hp) (x8 : Bool) : VS := ⟨mkFr 79 [(1, .loc 0 0), (66, .v (.bool x8))], [(T_api_Cmd, [.int .i64 cOp, .int .i64 cClient, .int .i64 cSeq, .string cKey, .string cValue, .string cOld])], (holes H 1)⟩
noncomputable def tephralaw06_may.k9 (J : Jn) (cOp : Int) (cClient : Int) (cSeq : Int) (cKey : ByteArray) (cValue : ByteArray) (cOld : ByteArray) (H : Hp) (x8 : Bool) (Q : Value → Hp → Prop) : Prop := J (vMid Try.prog tephralaw06_may.cf J tephralaw06_may.fn [1, 1, 1, 0] [0, 1, 1, 1] 18 Q) (tephralaw06_may.k9.st cOp cClient cSeq cKey cValue cOld H x8)
noncomputable def tephralaw06_may.k10.st (cOp : Int) (cClient : Int) (cSeq : Int) (cKey : ByteArray) (cValue : ByteArray) (cOld : ByteArray) (H : Hp) (x9 : Bool) : VS := ⟨mkFr 79 [(1, .loc 0 0), (72, .v (.bool x9))], [(T_api_Cmd, [.int .i64 cOp, .int .i64 cClient, .int .i64 cSeq, .string cKey, .string cValue, .string cOld])], (holes H 1)⟩
noncomputable def tephralaw06_may.k10 (J : Jn) (cOp : Int) (cClient : Int) (cSeq : Int) (cKey : ByteArray) (cValue : ByteArray) (cOld : ByteArray) (H : Hp) (x9 : Bool) (Q : Value → Hp → Prop) : Prop := J (vMid Try.prog tephralaw06_may.cf J tephralaw06_may.fn [1, 1, 1, 0] [0, 1, 1, 1] 24 Q) (tephralaw06_may.k10.st cOp cClient cSeq cKey cValue cOld H x9)
attribute [irreducible] tephralaw06_may.k1 tephralaw06_may.k2 tephralaw06_may.k3 tephralaw06_may.k4 tephralaw06_may.k5 tephralaw06_may.k6 tephralaw06_may.k7 tephralaw06_may.k8 tephralaw06_may.k9 tephralaw06_may.k10
noncomputable def tephralaw06_may.k1.body (J : Jn) (cOp : Int) (cClient : Int) (cSeq : Int) (cKey : ByteArray) (cValue : ByteArray) (cOld : ByteArray) (H : Hp) (x : Bool) (Q : Value → Hp → Prop) : Prop :=
 
 Br x (
 tephralaw06_may.k2 J cOp cClient cSeq cKey cValue cOld H true Q)
 (
 tephralaw06_may.k2 J cOp cClient cSeq cKey cValue cOld H (decide (((cValue.size : Nat) : Int) > 16)) Q)
theorem tephralaw06_may.k1.eq (J : Jn) (cOp : Int) (cClient : Int) (cSeq : Int) (cKey : ByteArray) (cValue : ByteArray) (cOld : ByteArray) (H : Hp) (x : Bool) (Q : Value → Hp → Prop) : vMid Try.prog tephralaw06_may.cf J tephralaw06_may.fn [1, 0, 0] [0, 1, 1] 8 Q (tephralaw06_may.k1.st cOp cClient cSeq cKey cValue cOld H x) = tephralaw06_may.k1.body J cOp cClient cSeq cKey cValue cOld H x Q := by kernel_rfl
theorem tephralaw06_may.k1.step {cOp : Int} {cClient : Int} {cSeq : Int} {cKey : ByteArray} {cValue : ByteArray} {cOld : ByteArray} {H : Hp} {x : Bool} {Q : Value → Hp → Prop} (h : tephralaw06_may.k1.body J0 cOp cClient cSeq cKey cValue cOld H x Q) : tephralaw06_may.k1 J0 cOp cClient cSeq cKey cValue cOld H x Q := step_of (vMid Try.prog tephralaw06_may.cf J0 tephralaw06_may.fn [1, 0, 0] [0, 1, 1] 8 Q) (tephralaw06_may.k1.st cOp cClient cSeq cKey cValue cOld H x) (tephralaw06_may.k1.eq J0 cOp cClient cSeq cKey cValue cOld H x Q) (by kernel_rfl) h
noncomputable def tephralaw06_may.k2.body (J : Jn) (cOp : Int) (cClient : Int) (cSeq : Int) (cKey : ByteArray) (cValue : ByteArray) (cOld : ByteArray) (H : Hp) (x1 : Bool) (Q : Value → Hp → Prop) : Prop :=
 
 Br x1 (
 tephralaw06_may.k3 J cOp cClient cSeq cKey cValue cOld H true Q)
 (
 tephralaw06_may.k3 J cOp cClient cSeq cKey cValue cOld H (decide (((cOld.size : Nat) : Int) > 16)) Q)
theorem tephralaw06_may.k2.eq (J : Jn) (cOp : Int) (cClient : Int) (cSeq : Int) (cKey : ByteArray) (cValue : ByteArray) (cOld : ByteArray) (H : Hp) (x1 : Bool) (Q : Value → Hp → Prop) : vMid Try.prog tephralaw06_may.cf J tephralaw06_may.fn [1, 0, 0] [0, 1, 1] 14 Q (tephralaw06_may.k2.st cOp cClient cSeq cKey cValue cOld H x1) = tephralaw06_may.k2.body J cOp cClient cSeq cKey cValue cOld H x1 Q := by kernel_rfl
theorem tephralaw06_may.k2.step {cOp : Int} {cClient : Int} {cSeq : Int} {cKey : ByteArray} {cValue : ByteArray} {cOld : ByteArray} {H : Hp} {x1 : Bool} {Q : Value → Hp → Prop} (h : tephralaw06_may.k2.body J0 cOp cClient cSeq cKey cValue cOld H x1 Q) : tephralaw06_may.k2 J0 cOp cClient cSeq cKey cValue cOld H x1 Q := step_of (vMid Try.prog tephralaw06_may.cf J0 tephralaw06_may.fn [1, 0, 0] [0, 1, 1] 14 Q) (tephralaw06_may.k2.st cOp cClient cSeq cKey cValue cOld H x1) (tephralaw06_may.k2.eq J0 cOp cClient cSeq cKey cValue cOld H x1 Q) (by kernel_rfl) h
noncomputable def tephralaw06_may.k3.body (J : Jn) (cOp : Int) (cClient : Int) (cSeq : Int) (cKey : ByteArray) (cValue : ByteArray) (cOld : ByteArray) (H : Hp) (x2 : Bool) (Q : Value → Hp → Prop) : Prop :=
 
 Br x2 (Q (.bool false) (holes H 1))
 (
 Br (cOp == 0) (
 Br (cClient == 0) (
 tephralaw06_may.k4 J cOp cClient cSeq cKey cValue cOld H (cSeq == 0) Q)
 (
 tephralaw06_may.k4 J cOp cClient cSeq cKey cValue cOld H false Q))
 (
 Br (decide (cClient ≥ 0)) (
 tephralaw06_may.k7 J cOp cClient cSeq cKey cValue cOld H (decide (cClient < 4)) Q)
 (
 tephralaw06_may.k7 J cOp cClient cSeq cKey cValue cOld H false Q)))
theorem tephralaw06_may.k3.eq (J : Jn) (cOp : Int) (cClient : Int) (cSeq : Int) (cKey : ByteArray) (cValue : ByteArray) (cOld : ByteArray) (H : Hp) (x2 : Bool) (Q : Value → Hp → Prop) : vSeg Try.prog tephralaw06_may.cf J tephralaw06_may.fn [1, 0, 1] [0, 1, 1] Q (tephralaw06_may.k3.st cOp cClient cSeq cKey cValue cOld H x2) = tephralaw06_may.k3.body J cOp cClient cSeq cKey cValue cOld H x2 Q := by kernel_rfl
theorem tephralaw06_may.k3.step {cOp : Int} {cClient : Int} {cSeq : Int} {cKey : ByteArray} {cValue : ByteArray} {cOld : ByteArray} {H : Hp} {x2 : Bool} {Q : Value → Hp → Prop} (h : tephralaw06_may.k3.body J0 cOp cClient cSeq cKey cValue cOld H x2 Q) : tephralaw06_may.k3 J0 cOp cClient cSeq cKey cValue cOld H x2 Q := step_of (vSeg Try.prog tephralaw06_may.cf J0 tephralaw06_may.fn [1, 0, 1] [0, 1, 1] Q) (tephralaw06_may.k3.st cOp cClient cSeq cKey cValue cOld H x2) (tephralaw06_may.k3.eq J0 cOp cClient cSeq cKey cValue cOld H x2 Q) (by kernel_rfl) h
noncomputable def tephralaw06_may.k4.body (J : Jn) (cOp : Int) (cClient : Int) (cSeq : Int) (cKey : ByteArray) (cValue : ByteArray) (cOld : ByteArray) (H : Hp) (x3 : Bool) (Q : Value → Hp → Prop) : Prop :=
 
 Br x3 (
 tephralaw06_may.k5 J cOp cClient cSeq cKey cValue cOld H (cKey.toList == (ByteArray.mk #[]).toList) Q)
 (
 tephralaw06_may.k5 J cOp cClient cSeq cKey cValue cOld H false Q)
theorem tephralaw06_may.k4.eq (J : Jn) (cOp : Int) (cClient : Int) (cSeq : Int) (cKey : ByteArray) (cValue : ByteArray) (cOld : ByteArray) (H : Hp) (x3 : Bool) (Q : Value → Hp → Prop) : vMid Try.prog tephralaw06_may.cf J tephralaw06_may.fn [1, 1, 0, 1, 0, 0] [0, 1, 1, 1, 1] 8 Q (tephralaw06_may.k4.st cOp cClient cSeq cKey cValue cOld H x3) = tephralaw06_may.k4.body J cOp cClient cSeq cKey cValue cOld H x3 Q := by kernel_rfl
theorem tephralaw06_may.k4.step {cOp : Int} {cClient : Int} {cSeq : Int} {cKey : ByteArray} {cValue : ByteArray} {cOld : ByteArray} {H : Hp} {x3 : Bool} {Q : Value → Hp → Prop} (h : tephralaw06_may.k4.body J0 cOp cClient cSeq cKey cValue cOld H x3 Q) : tephralaw06_may.k4 J0 cOp cClient cSeq cKey cValue cOld H x3 Q := step_of (vMid Try.prog tephralaw06_may.cf J0 tephralaw06_may.fn [1, 1, 0, 1, 0, 0] [0, 1, 1, 1, 1] 8 Q) (tephralaw06_may.k4.st cOp cClient cSeq cKey cValue cOld H x3) (tephralaw06_may.k4.eq J0 cOp cClient cSeq cKey cValue cOld H x3 Q) (by kernel_rfl) h
noncomputable def tephralaw06_may.k5.body (J : Jn) (cOp : Int) (cClient : Int) (cSeq : Int) (cKey : ByteArray) (cValue : ByteArray) (cOld : ByteArray) (H : Hp) (x4 : Bool) (Q : Value → Hp → Prop) : Prop :=
 
 Br x4 (
 tephralaw06_may.k6 J cOp cClient cSeq cKey cValue cOld H (cValue.toList == (ByteArray.mk #[]).toList) Q)
 (
 tephralaw06_may.k6 J cOp cClient cSeq cKey cValue cOld H false Q)
theorem tephralaw06_may.k5.eq (J : Jn) (cOp : Int) (cClient : Int) (cSeq : Int) (cKey : ByteArray) (cValue : ByteArray) (cOld : ByteArray) (H : Hp) (x4 : Bool) (Q : Value → Hp → Prop) : vMid Try.prog tephralaw06_may.cf J tephralaw06_may.fn [1, 1, 0, 1, 0, 0] [0, 1, 1, 1, 1] 13 Q (tephralaw06_may.k5.st cOp cClient cSeq cKey cValue cOld H x4) = tephralaw06_may.k5.body J cOp cClient cSeq cKey cValue cOld H x4 Q := by kernel_rfl
theorem tephralaw06_may.k5.step {cOp : Int} {cClient : Int} {cSeq : Int} {cKey : ByteArray} {cValue : ByteArray} {cOld : ByteArray} {H : Hp} {x4 : Bool} {Q : Value → Hp → Prop} (h : tephralaw06_may.k5.body J0 cOp cClient cSeq cKey cValue cOld H x4 Q) : tephralaw06_may.k5 J0 cOp cClient cSeq cKey cValue cOld H x4 Q := step_of (vMid Try.prog tephralaw06_may.cf J0 tephralaw06_may.fn [1, 1, 0, 1, 0, 0] [0, 1, 1, 1, 1] 13 Q) (tephralaw06_may.k5.st cOp cClient cSeq cKey cValue cOld H x4) (tephralaw06_may.k5.eq J0 cOp cClient cSeq cKey cValue cOld H x4 Q) (by kernel_rfl) h
noncomputable def tephralaw06_may.k6.body (J : Jn) (cOp : Int) (cClient : Int) (cSeq : Int) (cKey : ByteArray) (cValue : ByteArray) (cOld : ByteArray) (H : Hp) (x5 : Bool) (Q : Value → Hp → Prop) : Prop :=
 
 Br x5 (Q (.bool (cOld.toList == (ByteArray.mk #[]).toList)) (holes H 1))
 (Q (.bool false) (holes H 1))
theorem tephralaw06_may.k6.eq (J : Jn) (cOp : Int) (cClient : Int) (cSeq : Int) (cKey : ByteArray) (cValue : ByteArray) (cOld : ByteArray) (H : Hp) (x5 : Bool) (Q : Value → Hp → Prop) : vMid Try.prog tephralaw06_may.cf J tephralaw06_may.fn [1, 1, 0, 1, 0, 0] [0, 1, 1, 1, 1] 18 Q (tephralaw06_may.k6.st cOp cClient cSeq cKey cValue cOld H x5) = tephralaw06_may.k6.body J cOp cClient cSeq cKey cValue cOld H x5 Q := by kernel_rfl
theorem tephralaw06_may.k6.step {cOp : Int} {cClient : Int} {cSeq : Int} {cKey : ByteArray} {cValue : ByteArray} {cOld : ByteArray} {H : Hp} {x5 : Bool} {Q : Value → Hp → Prop} (h : tephralaw06_may.k6.body J0 cOp cClient cSeq cKey cValue cOld H x5 Q) : tephralaw06_may.k6 J0 cOp cClient cSeq cKey cValue cOld H x5 Q := step_of (vMid Try.prog tephralaw06_may.cf J0 tephralaw06_may.fn [1, 1, 0, 1, 0, 0] [0, 1, 1, 1, 1] 18 Q) (tephralaw06_may.k6.st cOp cClient cSeq cKey cValue cOld H x5) (tephralaw06_may.k6.eq J0 cOp cClient cSeq cKey cValue cOld H x5 Q) (by kernel_rfl) h
noncomputable def tephralaw06_may.k7.body (J : Jn) (cOp : Int) (cClient : Int) (cSeq : Int) (cKey : ByteArray) (cValue : ByteArray) (cOld : ByteArray) (H : Hp) (x6 : Bool) (Q : Value → Hp → Prop) : Prop :=
 
 Br x6 (
 tephralaw06_may.k8 J cOp cClient cSeq cKey cValue cOld H (decide (cSeq ≥ 0)) Q)
 (
 tephralaw06_may.k8 J cOp cClient cSeq cKey cValue cOld H false Q)
theorem tephralaw06_may.k7.eq (J : Jn) (cOp : Int) (cClient : Int) (cSeq : Int) (cKey : ByteArray) (cValue : ByteArray) (cOld : ByteArray) (H : Hp) (x6 : Bool) (Q : Value → Hp → Prop) : vMid Try.prog tephralaw06_may.cf J tephralaw06_may.fn [1, 1, 1, 0] [0, 1, 1, 1] 8 Q (tephralaw06_may.k7.st cOp cClient cSeq cKey cValue cOld H x6) = tephralaw06_may.k7.body J cOp cClient cSeq cKey cValue cOld H x6 Q := by kernel_rfl
theorem tephralaw06_may.k7.step {cOp : Int} {cClient : Int} {cSeq : Int} {cKey : ByteArray} {cValue : ByteArray} {cOld : ByteArray} {H : Hp} {x6 : Bool} {Q : Value → Hp → Prop} (h : tephralaw06_may.k7.body J0 cOp cClient cSeq cKey cValue cOld H x6 Q) : tephralaw06_may.k7 J0 cOp cClient cSeq cKey cValue cOld H x6 Q := step_of (vMid Try.prog tephralaw06_may.cf J0 tephralaw06_may.fn [1, 1, 1, 0] [0, 1, 1, 1] 8 Q) (tephralaw06_may.k7.st cOp cClient cSeq cKey cValue cOld H x6) (tephralaw06_may.k7.eq J0 cOp cClient cSeq cKey cValue cOld H x6 Q) (by kernel_rfl) h
noncomputable def tephralaw06_may.k8.body (J : Jn) (cOp : Int) (cClient : Int) (cSeq : Int) (cKey : ByteArray) (cValue : ByteArray) (cOld : ByteArray) (H : Hp) (x7 : Bool) (Q : Value → Hp → Prop) : Prop :=
 
 Br x7 (
 tephralaw06_may.k9 J cOp cClient cSeq cKey cValue cOld H (decide (cSeq ≤ 1048576)) Q)
 (
 tephralaw06_may.k9 J cOp cClient cSeq cKey cValue cOld H false Q)
theorem tephralaw06_may.k8.eq (J : Jn) (cOp : Int) (cClient : Int) (cSeq : Int) (cKey : ByteArray) (cValue : ByteArray) (cOld : ByteArray) (H : Hp) (x7 : Bool) (Q : Value → Hp → Prop) : vMid Try.prog tephralaw06_may.cf J tephralaw06_may.fn [1, 1, 1, 0] [0, 1, 1, 1] 13 Q (tephralaw06_may.k8.st cOp cClient cSeq cKey cValue cOld H x7) = tephralaw06_may.k8.body J cOp cClient cSeq cKey cValue cOld H x7 Q := by kernel_rfl
theorem tephralaw06_may.k8.step {cOp : Int} {cClient : Int} {cSeq : Int} {cKey : ByteArray} {cValue : ByteArray} {cOld : ByteArray} {H : Hp} {x7 : Bool} {Q : Value → Hp → Prop} (h : tephralaw06_may.k8.body J0 cOp cClient cSeq cKey cValue cOld H x7 Q) : tephralaw06_may.k8 J0 cOp cClient cSeq cKey cValue cOld H x7 Q := step_of (vMid Try.prog tephralaw06_may.cf J0 tephralaw06_may.fn [1, 1, 1, 0] [0, 1, 1, 1] 13 Q) (tephralaw06_may.k8.st cOp cClient cSeq cKey cValue cOld H x7) (tephralaw06_may.k8.eq J0 cOp cClient cSeq cKey cValue cOld H x7 Q) (by kernel_rfl) h
noncomputable def tephralaw06_may.k9.body (J : Jn) (cOp : Int) (cClient : Int) (cSeq : Int) (cKey : ByteArray) (cValue : ByteArray) (cOld : ByteArray) (H : Hp) (x8 : Bool) (Q : Value → Hp → Prop) : Prop :=
 
 Br x8 (
 tephralaw06_may.k10 J cOp cClient cSeq cKey cValue cOld H (decide (((cKey.size : Nat) : Int) > 0)) Q)
 (
 tephralaw06_may.k10 J cOp cClient cSeq cKey cValue cOld H false Q)
theorem tephralaw06_may.k9.eq (J : Jn) (cOp : Int) (cClient : Int) (cSeq : Int) (cKey : ByteArray) (cValue : ByteArray) (cOld : ByteArray) (H : Hp) (x8 : Bool) (Q : Value → Hp → Prop) : vMid Try.prog tephralaw06_may.cf J tephralaw06_may.fn [1, 1, 1, 0] [0, 1, 1, 1] 18 Q (tephralaw06_may.k9.st cOp cClient cSeq cKey cValue cOld H x8) = tephralaw06_may.k9.body J cOp cClient cSeq cKey cValue cOld H x8 Q := by kernel_rfl
theorem tephralaw06_may.k9.step {cOp : Int} {cClient : Int} {cSeq : Int} {cKey : ByteArray} {cValue : ByteArray} {cOld : ByteArray} {H : Hp} {x8 : Bool} {Q : Value → Hp → Prop} (h : tephralaw06_may.k9.body J0 cOp cClient cSeq cKey cValue cOld H x8 Q) : tephralaw06_may.k9 J0 cOp cClient cSeq cKey cValue cOld H x8 Q := step_of (vMid Try.prog tephralaw06_may.cf J0 tephralaw06_may.fn [1, 1, 1, 0] [0, 1, 1, 1] 18 Q) (tephralaw06_may.k9.st cOp cClient cSeq cKey cValue cOld H x8) (tephralaw06_may.k9.eq J0 cOp cClient cSeq cKey cValue cOld H x8 Q) (by kernel_rfl) h
noncomputable def tephralaw06_may.k10.body (J : Jn) (cOp : Int) (cClient : Int) (cSeq : Int) (cKey : ByteArray) (cValue : ByteArray) (cOld : ByteArray) (H : Hp) (x9 : Bool) (Q : Value → Hp → Prop) : Prop :=
 
 Br x9 (Q (.bool (decide (((cKey.size : Nat) : Int) < 9))) (holes H 1))
 (Q (.bool false) (holes H 1))
theorem tephralaw06_may.k10.eq (J : Jn) (cOp : Int) (cClient : Int) (cSeq : Int) (cKey : ByteArray) (cValue : ByteArray) (cOld : ByteArray) (H : Hp) (x9 : Bool) (Q : Value → Hp → Prop) : vMid Try.prog tephralaw06_may.cf J tephralaw06_may.fn [1, 1, 1, 0] [0, 1, 1, 1] 24 Q (tephralaw06_may.k10.st cOp cClient cSeq cKey cValue cOld H x9) = tephralaw06_may.k10.body J cOp cClient cSeq cKey cValue cOld H x9 Q := by kernel_rfl
theorem tephralaw06_may.k10.step {cOp : Int} {cClient : Int} {cSeq : Int} {cKey : ByteArray} {cValue : ByteArray} {cOld : ByteArray} {H : Hp} {x9 : Bool} {Q : Value → Hp → Prop} (h : tephralaw06_may.k10.body J0 cOp cClient cSeq cKey cValue cOld H x9 Q) : tephralaw06_may.k10 J0 cOp cClient cSeq cKey cValue cOld H x9 Q := step_of (vMid Try.prog tephralaw06_may.cf J0 tephralaw06_may.fn [1, 1, 1, 0] [0, 1, 1, 1] 24 Q) (tephralaw06_may.k10.st cOp cClient cSeq cKey cValue cOld H x9) (tephralaw06_may.k10.eq J0 cOp cClient cSeq cKey cValue cOld H x9 Q) (by kernel_rfl) h
noncomputable def tephralaw06_may.vc (J : Jn) (cOp : Int) (cClient : Int) (cSeq : Int) (cKey : ByteArray) (cValue : ByteArray) (cOld : ByteArray) (H : Hp) (Q : Value → Hp → Prop) : Prop :=
 
 Br (decide (cOp < 0)) (
 tephralaw06_may.k1 J cOp cClient cSeq cKey cValue cOld H true Q)
 (
 tephralaw06_may.k1 J cOp cClient cSeq cKey cValue cOld H (decide (cOp > 3)) Q)
theorem tephralaw06_may.eq (J : Jn) (cOp : Int) (cClient : Int) (cSeq : Int) (cKey : ByteArray) (cValue : ByteArray) (cOld : ByteArray) (H : Hp) (Q : Value → Hp → Prop) : vFn Try.prog tephralaw06_may.cf J tephralaw06_may.fn [.agg #[.int .i64 cOp, .int .i64 cClient, .int .i64 cSeq, .string cKey, .string cValue, .string cOld]] H Q = tephralaw06_may.vc J cOp cClient cSeq cKey cValue cOld H Q := by kernel_rfl
theorem tephralaw06_may.calls {cOp : Int} {cClient : Int} {cSeq : Int} {cKey : ByteArray} {cValue : ByteArray} {cOld : ByteArray} {H : Hp} {Q : Value → Hp → Prop} (h : tephralaw06_may.vc J0 cOp cClient cSeq cKey cValue cOld H Q) : SCalls Try.prog tephralaw06_may.id [.agg #[.int .i64 cOp, .int .i64 cClient, .int .i64 cSeq, .string cKey, .string cValue, .string cOld]] H Q := vFn_of Try.mixed Try.func13 (tephralaw06_may.eq J0 cOp cClient cSeq cKey cValue cOld H Q) h

/-! 14: tephra/cmds.Right -/
noncomputable def cmds_Right.cf : Cfg := ⟨[1], [], [], [(10, [1, 10]), (15, [1, 15]), (20, [1, 20])], true, []⟩
noncomputable def cmds_Right.k1.st (eIndex : Int) (eTerm : Int) (eCmdOp : Int) (eCmdClient : Int) (eCmdSeq : Int) (eCmdKey : ByteArray) (eCmdValue : ByteArray) (eCmdOld : ByteArray) (H : Hp) (x : Bool) : VS := ⟨mkFr 26 [(1, .loc 0 0), (10, .v (.bool x))], [(T_api_Entry, [.int .i64 eIndex, .int .i64 eTerm, .int .i64 eCmdOp, .int .i64 eCmdClient, .int .i64 eCmdSeq, .string eCmdKey, .string eCmdValue, .string eCmdOld])], (holes H 1)⟩
noncomputable def cmds_Right.k1 (J : Jn) (eIndex : Int) (eTerm : Int) (eCmdOp : Int) (eCmdClient : Int) (eCmdSeq : Int) (eCmdKey : ByteArray) (eCmdValue : ByteArray) (eCmdOld : ByteArray) (H : Hp) (x : Bool) (Q : Value → Hp → Prop) : Prop := J (vMid Try.prog cmds_Right.cf J cmds_Right.fn [1, 0] [0, 1] 8 Q) (cmds_Right.k1.st eIndex eTerm eCmdOp eCmdClient eCmdSeq eCmdKey eCmdValue eCmdOld H x)
noncomputable def cmds_Right.k2.st (eIndex : Int) (eTerm : Int) (eCmdOp : Int) (eCmdClient : Int) (eCmdSeq : Int) (eCmdKey : ByteArray) (eCmdValue : ByteArray) (eCmdOld : ByteArray) (H : Hp) (x1 : Bool) : VS := ⟨mkFr 26 [(1, .loc 0 0), (15, .v (.bool x1))], [(T_api_Entry, [.int .i64 eIndex, .int .i64 eTerm, .int .i64 eCmdOp, .int .i64 eCmdClient, .int .i64 eCmdSeq, .string eCmdKey, .string eCmdValue, .string eCmdOld])], (holes H 1)⟩
noncomputable def cmds_Right.k2 (J : Jn) (eIndex : Int) (eTerm : Int) (eCmdOp : Int) (eCmdClient : Int) (eCmdSeq : Int) (eCmdKey : ByteArray) (eCmdValue : ByteArray) (eCmdOld : ByteArray) (H : Hp) (x1 : Bool) (Q : Value → Hp → Prop) : Prop := J (vMid Try.prog cmds_Right.cf J cmds_Right.fn [1, 0] [0, 1] 13 Q) (cmds_Right.k2.st eIndex eTerm eCmdOp eCmdClient eCmdSeq eCmdKey eCmdValue eCmdOld H x1)
noncomputable def cmds_Right.k3.st (eIndex : Int) (eTerm : Int) (eCmdOp : Int) (eCmdClient : Int) (eCmdSeq : Int) (eCmdKey : ByteArray) (eCmdValue : ByteArray) (eCmdOld : ByteArray) (H : Hp) (x2 : Bool) : VS := ⟨mkFr 26 [(1, .loc 0 0), (20, .v (.bool x2))], [(T_api_Entry, [.int .i64 eIndex, .int .i64 eTerm, .int .i64 eCmdOp, .int .i64 eCmdClient, .int .i64 eCmdSeq, .string eCmdKey, .string eCmdValue, .string eCmdOld])], (holes H 1)⟩
noncomputable def cmds_Right.k3 (J : Jn) (eIndex : Int) (eTerm : Int) (eCmdOp : Int) (eCmdClient : Int) (eCmdSeq : Int) (eCmdKey : ByteArray) (eCmdValue : ByteArray) (eCmdOld : ByteArray) (H : Hp) (x2 : Bool) (Q : Value → Hp → Prop) : Prop := J (vMid Try.prog cmds_Right.cf J cmds_Right.fn [1, 0] [0, 1] 18 Q) (cmds_Right.k3.st eIndex eTerm eCmdOp eCmdClient eCmdSeq eCmdKey eCmdValue eCmdOld H x2)
attribute [irreducible] cmds_Right.k1 cmds_Right.k2 cmds_Right.k3
noncomputable def cmds_Right.k1.body (J : Jn) (eIndex : Int) (eTerm : Int) (eCmdOp : Int) (eCmdClient : Int) (eCmdSeq : Int) (eCmdKey : ByteArray) (eCmdValue : ByteArray) (eCmdOld : ByteArray) (H : Hp) (x : Bool) (Q : Value → Hp → Prop) : Prop :=
 
 Br x (
 cmds_Right.k2 J eIndex eTerm eCmdOp eCmdClient eCmdSeq eCmdKey eCmdValue eCmdOld H (decide (eTerm ≥ 0)) Q)
 (
 cmds_Right.k2 J eIndex eTerm eCmdOp eCmdClient eCmdSeq eCmdKey eCmdValue eCmdOld H false Q)
theorem cmds_Right.k1.eq (J : Jn) (eIndex : Int) (eTerm : Int) (eCmdOp : Int) (eCmdClient : Int) (eCmdSeq : Int) (eCmdKey : ByteArray) (eCmdValue : ByteArray) (eCmdOld : ByteArray) (H : Hp) (x : Bool) (Q : Value → Hp → Prop) : vMid Try.prog cmds_Right.cf J cmds_Right.fn [1, 0] [0, 1] 8 Q (cmds_Right.k1.st eIndex eTerm eCmdOp eCmdClient eCmdSeq eCmdKey eCmdValue eCmdOld H x) = cmds_Right.k1.body J eIndex eTerm eCmdOp eCmdClient eCmdSeq eCmdKey eCmdValue eCmdOld H x Q := by kernel_rfl
theorem cmds_Right.k1.step {eIndex : Int} {eTerm : Int} {eCmdOp : Int} {eCmdClient : Int} {eCmdSeq : Int} {eCmdKey : ByteArray} {eCmdValue : ByteArray} {eCmdOld : ByteArray} {H : Hp} {x : Bool} {Q : Value → Hp → Prop} (h : cmds_Right.k1.body J0 eIndex eTerm eCmdOp eCmdClient eCmdSeq eCmdKey eCmdValue eCmdOld H x Q) : cmds_Right.k1 J0 eIndex eTerm eCmdOp eCmdClient eCmdSeq eCmdKey eCmdValue eCmdOld H x Q := step_of (vMid Try.prog cmds_Right.cf J0 cmds_Right.fn [1, 0] [0, 1] 8 Q) (cmds_Right.k1.st eIndex eTerm eCmdOp eCmdClient eCmdSeq eCmdKey eCmdValue eCmdOld H x) (cmds_Right.k1.eq J0 eIndex eTerm eCmdOp eCmdClient eCmdSeq eCmdKey eCmdValue eCmdOld H x Q) (by kernel_rfl) h
noncomputable def cmds_Right.k2.body (J : Jn) (eIndex : Int) (eTerm : Int) (eCmdOp : Int) (eCmdClient : Int) (eCmdSeq : Int) (eCmdKey : ByteArray) (eCmdValue : ByteArray) (eCmdOld : ByteArray) (H : Hp) (x1 : Bool) (Q : Value → Hp → Prop) : Prop :=
 
 Br x1 (
 cmds_Right.k3 J eIndex eTerm eCmdOp eCmdClient eCmdSeq eCmdKey eCmdValue eCmdOld H (decide (eTerm ≤ 1048576)) Q)
 (
 cmds_Right.k3 J eIndex eTerm eCmdOp eCmdClient eCmdSeq eCmdKey eCmdValue eCmdOld H false Q)
theorem cmds_Right.k2.eq (J : Jn) (eIndex : Int) (eTerm : Int) (eCmdOp : Int) (eCmdClient : Int) (eCmdSeq : Int) (eCmdKey : ByteArray) (eCmdValue : ByteArray) (eCmdOld : ByteArray) (H : Hp) (x1 : Bool) (Q : Value → Hp → Prop) : vMid Try.prog cmds_Right.cf J cmds_Right.fn [1, 0] [0, 1] 13 Q (cmds_Right.k2.st eIndex eTerm eCmdOp eCmdClient eCmdSeq eCmdKey eCmdValue eCmdOld H x1) = cmds_Right.k2.body J eIndex eTerm eCmdOp eCmdClient eCmdSeq eCmdKey eCmdValue eCmdOld H x1 Q := by kernel_rfl
theorem cmds_Right.k2.step {eIndex : Int} {eTerm : Int} {eCmdOp : Int} {eCmdClient : Int} {eCmdSeq : Int} {eCmdKey : ByteArray} {eCmdValue : ByteArray} {eCmdOld : ByteArray} {H : Hp} {x1 : Bool} {Q : Value → Hp → Prop} (h : cmds_Right.k2.body J0 eIndex eTerm eCmdOp eCmdClient eCmdSeq eCmdKey eCmdValue eCmdOld H x1 Q) : cmds_Right.k2 J0 eIndex eTerm eCmdOp eCmdClient eCmdSeq eCmdKey eCmdValue eCmdOld H x1 Q := step_of (vMid Try.prog cmds_Right.cf J0 cmds_Right.fn [1, 0] [0, 1] 13 Q) (cmds_Right.k2.st eIndex eTerm eCmdOp eCmdClient eCmdSeq eCmdKey eCmdValue eCmdOld H x1) (cmds_Right.k2.eq J0 eIndex eTerm eCmdOp eCmdClient eCmdSeq eCmdKey eCmdValue eCmdOld H x1 Q) (by kernel_rfl) h
noncomputable def cmds_Right.k3.body (J : Jn) (eIndex : Int) (eTerm : Int) (eCmdOp : Int) (eCmdClient : Int) (eCmdSeq : Int) (eCmdKey : ByteArray) (eCmdValue : ByteArray) (eCmdOld : ByteArray) (H : Hp) (x2 : Bool) (Q : Value → Hp → Prop) : Prop :=
 
 Br x2 (
 SCalls Try.prog cmds_May.id [.agg #[.int .i64 eCmdOp, .int .i64 eCmdClient, .int .i64 eCmdSeq, .string eCmdKey, .string eCmdValue, .string eCmdOld]] (holes H 1) (fun r H1 => ∃ x3 : Bool, r = .bool x3 ∧ Q (.bool x3) H1))
 (Q (.bool false) (holes H 1))
theorem cmds_Right.k3.eq (J : Jn) (eIndex : Int) (eTerm : Int) (eCmdOp : Int) (eCmdClient : Int) (eCmdSeq : Int) (eCmdKey : ByteArray) (eCmdValue : ByteArray) (eCmdOld : ByteArray) (H : Hp) (x2 : Bool) (Q : Value → Hp → Prop) : vMid Try.prog cmds_Right.cf J cmds_Right.fn [1, 0] [0, 1] 18 Q (cmds_Right.k3.st eIndex eTerm eCmdOp eCmdClient eCmdSeq eCmdKey eCmdValue eCmdOld H x2) = cmds_Right.k3.body J eIndex eTerm eCmdOp eCmdClient eCmdSeq eCmdKey eCmdValue eCmdOld H x2 Q := by kernel_rfl
theorem cmds_Right.k3.step {eIndex : Int} {eTerm : Int} {eCmdOp : Int} {eCmdClient : Int} {eCmdSeq : Int} {eCmdKey : ByteArray} {eCmdValue : ByteArray} {eCmdOld : ByteArray} {H : Hp} {x2 : Bool} {Q : Value → Hp → Prop} (h : cmds_Right.k3.body J0 eIndex eTerm eCmdOp eCmdClient eCmdSeq eCmdKey eCmdValue eCmdOld H x2 Q) : cmds_Right.k3 J0 eIndex eTerm eCmdOp eCmdClient eCmdSeq eCmdKey eCmdValue eCmdOld H x2 Q := step_of (vMid Try.prog cmds_Right.cf J0 cmds_Right.fn [1, 0] [0, 1] 18 Q) (cmds_Right.k3.st eIndex eTerm eCmdOp eCmdClient eCmdSeq eCmdKey eCmdValue eCmdOld H x2) (cmds_Right.k3.eq J0 eIndex eTerm eCmdOp eCmdClient eCmdSeq eCmdKey eCmdValue eCmdOld H x2 Q) (by kernel_rfl) h
noncomputable def cmds_Right.vc (J : Jn) (eIndex : Int) (eTerm : Int) (eCmdOp : Int) (eCmdClient : Int) (eCmdSeq : Int) (eCmdKey : ByteArray) (eCmdValue : ByteArray) (eCmdOld : ByteArray) (H : Hp) (Q : Value → Hp → Prop) : Prop :=
 
 Br (decide (eIndex ≥ 1)) (
 cmds_Right.k1 J eIndex eTerm eCmdOp eCmdClient eCmdSeq eCmdKey eCmdValue eCmdOld H (decide (eIndex ≤ 1048576)) Q)
 (
 cmds_Right.k1 J eIndex eTerm eCmdOp eCmdClient eCmdSeq eCmdKey eCmdValue eCmdOld H false Q)
theorem cmds_Right.eq (J : Jn) (eIndex : Int) (eTerm : Int) (eCmdOp : Int) (eCmdClient : Int) (eCmdSeq : Int) (eCmdKey : ByteArray) (eCmdValue : ByteArray) (eCmdOld : ByteArray) (H : Hp) (Q : Value → Hp → Prop) : vFn Try.prog cmds_Right.cf J cmds_Right.fn [.agg #[.int .i64 eIndex, .int .i64 eTerm, .int .i64 eCmdOp, .int .i64 eCmdClient, .int .i64 eCmdSeq, .string eCmdKey, .string eCmdValue, .string eCmdOld]] H Q = cmds_Right.vc J eIndex eTerm eCmdOp eCmdClient eCmdSeq eCmdKey eCmdValue eCmdOld H Q := by kernel_rfl
theorem cmds_Right.calls {eIndex : Int} {eTerm : Int} {eCmdOp : Int} {eCmdClient : Int} {eCmdSeq : Int} {eCmdKey : ByteArray} {eCmdValue : ByteArray} {eCmdOld : ByteArray} {H : Hp} {Q : Value → Hp → Prop} (h : cmds_Right.vc J0 eIndex eTerm eCmdOp eCmdClient eCmdSeq eCmdKey eCmdValue eCmdOld H Q) : SCalls Try.prog cmds_Right.id [.agg #[.int .i64 eIndex, .int .i64 eTerm, .int .i64 eCmdOp, .int .i64 eCmdClient, .int .i64 eCmdSeq, .string eCmdKey, .string eCmdValue, .string eCmdOld]] H Q := vFn_of Try.mixed Try.func14 (cmds_Right.eq J0 eIndex eTerm eCmdOp eCmdClient eCmdSeq eCmdKey eCmdValue eCmdOld H Q) h

/-! 15: tephra/tephralaw06.right -/
noncomputable def tephralaw06_right.cf : Cfg := ⟨[1], [], [], [(10, [1, 10]), (15, [1, 15]), (20, [1, 20])], true, []⟩
noncomputable def tephralaw06_right.k1.st (eIndex : Int) (eTerm : Int) (eCmdOp : Int) (eCmdClient : Int) (eCmdSeq : Int) (eCmdKey : ByteArray) (eCmdValue : ByteArray) (eCmdOld : ByteArray) (H : Hp) (x : Bool) : VS := ⟨mkFr 26 [(1, .loc 0 0), (10, .v (.bool x))], [(T_api_Entry, [.int .i64 eIndex, .int .i64 eTerm, .int .i64 eCmdOp, .int .i64 eCmdClient, .int .i64 eCmdSeq, .string eCmdKey, .string eCmdValue, .string eCmdOld])], (holes H 1)⟩
noncomputable def tephralaw06_right.k1 (J : Jn) (eIndex : Int) (eTerm : Int) (eCmdOp : Int) (eCmdClient : Int) (eCmdSeq : Int) (eCmdKey : ByteArray) (eCmdValue : ByteArray) (eCmdOld : ByteArray) (H : Hp) (x : Bool) (Q : Value → Hp → Prop) : Prop := J (vMid Try.prog tephralaw06_right.cf J tephralaw06_right.fn [1, 0] [0, 1] 8 Q) (tephralaw06_right.k1.st eIndex eTerm eCmdOp eCmdClient eCmdSeq eCmdKey eCmdValue eCmdOld H x)
noncomputable def tephralaw06_right.k2.st (eIndex : Int) (eTerm : Int) (eCmdOp : Int) (eCmdClient : Int) (eCmdSeq : Int) (eCmdKey : ByteArray) (eCmdValue : ByteArray) (eCmdOld : ByteArray) (H : Hp) (x1 : Bool) : VS := ⟨mkFr 26 [(1, .loc 0 0), (15, .v (.bool x1))], [(T_api_Entry, [.int .i64 eIndex, .int .i64 eTerm, .int .i64 eCmdOp, .int .i64 eCmdClient, .int .i64 eCmdSeq, .string eCmdKey, .string eCmdValue, .string eCmdOld])], (holes H 1)⟩
noncomputable def tephralaw06_right.k2 (J : Jn) (eIndex : Int) (eTerm : Int) (eCmdOp : Int) (eCmdClient : Int) (eCmdSeq : Int) (eCmdKey : ByteArray) (eCmdValue : ByteArray) (eCmdOld : ByteArray) (H : Hp) (x1 : Bool) (Q : Value → Hp → Prop) : Prop := J (vMid Try.prog tephralaw06_right.cf J tephralaw06_right.fn [1, 0] [0, 1] 13 Q) (tephralaw06_right.k2.st eIndex eTerm eCmdOp eCmdClient eCmdSeq eCmdKey eCmdValue eCmdOld H x1)
noncomputable def tephralaw06_right.k3.st (eIndex : Int) (eTerm : Int) (eCmdOp : Int) (eCmdClient : Int) (eCmdSeq : Int) (eCmdKey : ByteArray) (eCmdValue : ByteArray) (eCmdOld : ByteArray) (H : Hp) (x2 : Bool) : VS := ⟨mkFr 26 [(1, .loc 0 0), (20, .v (.bool x2))], [(T_api_Entry, [.int .i64 eIndex, .int .i64 eTerm, .int .i64 eCmdOp, .int .i64 eCmdClient, .int .i64 eCmdSeq, .string eCmdKey, .string eCmdValue, .string eCmdOld])], (holes H 1)⟩
noncomputable def tephralaw06_right.k3 (J : Jn) (eIndex : Int) (eTerm : Int) (eCmdOp : Int) (eCmdClient : Int) (eCmdSeq : Int) (eCmdKey : ByteArray) (eCmdValue : ByteArray) (eCmdOld : ByteArray) (H : Hp) (x2 : Bool) (Q : Value → Hp → Prop) : Prop := J (vMid Try.prog tephralaw06_right.cf J tephralaw06_right.fn [1, 0] [0, 1] 18 Q) (tephralaw06_right.k3.st eIndex eTerm eCmdOp eCmdClient eCmdSeq eCmdKey eCmdValue eCmdOld H x2)
attribute [irreducible] tephralaw06_right.k1 tephralaw06_right.k2 tephralaw06_right.k3
noncomputable def tephralaw06_right.k1.body (J : Jn) (eIndex : Int) (eTerm : Int) (eCmdOp : Int) (eCmdClient : Int) (eCmdSeq : Int) (eCmdKey : ByteArray) (eCmdValue : ByteArray) (eCmdOld : ByteArray) (H : Hp) (x : Bool) (Q : Value → Hp → Prop) : Prop :=
 
 Br x (
 tephralaw06_right.k2 J eIndex eTerm eCmdOp eCmdClient eCmdSeq eCmdKey eCmdValue eCmdOld H (decide (eTerm ≥ 0)) Q)
 (
 tephralaw06_right.k2 J eIndex eTerm eCmdOp eCmdClient eCmdSeq eCmdKey eCmdValue eCmdOld H false Q)
theorem tephralaw06_right.k1.eq (J : Jn) (eIndex : Int) (eTerm : Int) (eCmdOp : Int) (eCmdClient : Int) (eCmdSeq : Int) (eCmdKey : ByteArray) (eCmdValue : ByteArray) (eCmdOld : ByteArray) (H : Hp) (x : Bool) (Q : Value → Hp → Prop) : vMid Try.prog tephralaw06_right.cf J tephralaw06_right.fn [1, 0] [0, 1] 8 Q (tephralaw06_right.k1.st eIndex eTerm eCmdOp eCmdClient eCmdSeq eCmdKey eCmdValue eCmdOld H x) = tephralaw06_right.k1.body J eIndex eTerm eCmdOp eCmdClient eCmdSeq eCmdKey eCmdValue eCmdOld H x Q := by kernel_rfl
theorem tephralaw06_right.k1.step {eIndex : Int} {eTerm : Int} {eCmdOp : Int} {eCmdClient : Int} {eCmdSeq : Int} {eCmdKey : ByteArray} {eCmdValue : ByteArray} {eCmdOld : ByteArray} {H : Hp} {x : Bool} {Q : Value → Hp → Prop} (h : tephralaw06_right.k1.body J0 eIndex eTerm eCmdOp eCmdClient eCmdSeq eCmdKey eCmdValue eCmdOld H x Q) : tephralaw06_right.k1 J0 eIndex eTerm eCmdOp eCmdClient eCmdSeq eCmdKey eCmdValue eCmdOld H x Q := step_of (vMid Try.prog tephralaw06_right.cf J0 tephralaw06_right.fn [1, 0] [0, 1] 8 Q) (tephralaw06_right.k1.st eIndex eTerm eCmdOp eCmdClient eCmdSeq eCmdKey eCmdValue eCmdOld H x) (tephralaw06_right.k1.eq J0 eIndex eTerm eCmdOp eCmdClient eCmdSeq eCmdKey eCmdValue eCmdOld H x Q) (by kernel_rfl) h
noncomputable def tephralaw06_right.k2.body (J : Jn) (eIndex : Int) (eTerm : Int) (eCmdOp : Int) (eCmdClient : Int) (eCmdSeq : Int) (eCmdKey : ByteArray) (eCmdValue : ByteArray) (eCmdOld : ByteArray) (H : Hp) (x1 : Bool) (Q : Value → Hp → Prop) : Prop :=
 
 Br x1 (
 tephralaw06_right.k3 J eIndex eTerm eCmdOp eCmdClient eCmdSeq eCmdKey eCmdValue eCmdOld H (decide (eTerm ≤ 1048576)) Q)
 (
 tephralaw06_right.k3 J eIndex eTerm eCmdOp eCmdClient eCmdSeq eCmdKey eCmdValue eCmdOld H false Q)
theorem tephralaw06_right.k2.eq (J : Jn) (eIndex : Int) (eTerm : Int) (eCmdOp : Int) (eCmdClient : Int) (eCmdSeq : Int) (eCmdKey : ByteArray) (eCmdValue : ByteArray) (eCmdOld : ByteArray) (H : Hp) (x1 : Bool) (Q : Value → Hp → Prop) : vMid Try.prog tephralaw06_right.cf J tephralaw06_right.fn [1, 0] [0, 1] 13 Q (tephralaw06_right.k2.st eIndex eTerm eCmdOp eCmdClient eCmdSeq eCmdKey eCmdValue eCmdOld H x1) = tephralaw06_right.k2.body J eIndex eTerm eCmdOp eCmdClient eCmdSeq eCmdKey eCmdValue eCmdOld H x1 Q := by kernel_rfl
theorem tephralaw06_right.k2.step {eIndex : Int} {eTerm : Int} {eCmdOp : Int} {eCmdClient : Int} {eCmdSeq : Int} {eCmdKey : ByteArray} {eCmdValue : ByteArray} {eCmdOld : ByteArray} {H : Hp} {x1 : Bool} {Q : Value → Hp → Prop} (h : tephralaw06_right.k2.body J0 eIndex eTerm eCmdOp eCmdClient eCmdSeq eCmdKey eCmdValue eCmdOld H x1 Q) : tephralaw06_right.k2 J0 eIndex eTerm eCmdOp eCmdClient eCmdSeq eCmdKey eCmdValue eCmdOld H x1 Q := step_of (vMid Try.prog tephralaw06_right.cf J0 tephralaw06_right.fn [1, 0] [0, 1] 13 Q) (tephralaw06_right.k2.st eIndex eTerm eCmdOp eCmdClient eCmdSeq eCmdKey eCmdValue eCmdOld H x1) (tephralaw06_right.k2.eq J0 eIndex eTerm eCmdOp eCmdClient eCmdSeq eCmdKey eCmdValue eCmdOld H x1 Q) (by kernel_rfl) h
noncomputable def tephralaw06_right.k3.body (J : Jn) (eIndex : Int) (eTerm : Int) (eCmdOp : Int) (eCmdClient : Int) (eCmdSeq : Int) (eCmdKey : ByteArray) (eCmdValue : ByteArray) (eCmdOld : ByteArray) (H : Hp) (x2 : Bool) (Q : Value → Hp → Prop) : Prop :=
 
 Br x2 (
 SCalls Try.prog tephralaw06_may.id [.agg #[.int .i64 eCmdOp, .int .i64 eCmdClient, .int .i64 eCmdSeq, .string eCmdKey, .string eCmdValue, .string eCmdOld]] (holes H 1) (fun r H1 => ∃ x3 : Bool, r = .bool x3 ∧ Q (.bool x3) H1))
 (Q (.bool false) (holes H 1))
theorem tephralaw06_right.k3.eq (J : Jn) (eIndex : Int) (eTerm : Int) (eCmdOp : Int) (eCmdClient : Int) (eCmdSeq : Int) (eCmdKey : ByteArray) (eCmdValue : ByteArray) (eCmdOld : ByteArray) (H : Hp) (x2 : Bool) (Q : Value → Hp → Prop) : vMid Try.prog tephralaw06_right.cf J tephralaw06_right.fn [1, 0] [0, 1] 18 Q (tephralaw06_right.k3.st eIndex eTerm eCmdOp eCmdClient eCmdSeq eCmdKey eCmdValue eCmdOld H x2) = tephralaw06_right.k3.body J eIndex eTerm eCmdOp eCmdClient eCmdSeq eCmdKey eCmdValue eCmdOld H x2 Q := by kernel_rfl
theorem tephralaw06_right.k3.step {eIndex : Int} {eTerm : Int} {eCmdOp : Int} {eCmdClient : Int} {eCmdSeq : Int} {eCmdKey : ByteArray} {eCmdValue : ByteArray} {eCmdOld : ByteArray} {H : Hp} {x2 : Bool} {Q : Value → Hp → Prop} (h : tephralaw06_right.k3.body J0 eIndex eTerm eCmdOp eCmdClient eCmdSeq eCmdKey eCmdValue eCmdOld H x2 Q) : tephralaw06_right.k3 J0 eIndex eTerm eCmdOp eCmdClient eCmdSeq eCmdKey eCmdValue eCmdOld H x2 Q := step_of (vMid Try.prog tephralaw06_right.cf J0 tephralaw06_right.fn [1, 0] [0, 1] 18 Q) (tephralaw06_right.k3.st eIndex eTerm eCmdOp eCmdClient eCmdSeq eCmdKey eCmdValue eCmdOld H x2) (tephralaw06_right.k3.eq J0 eIndex eTerm eCmdOp eCmdClient eCmdSeq eCmdKey eCmdValue eCmdOld H x2 Q) (by kernel_rfl) h
noncomputable def tephralaw06_right.vc (J : Jn) (eIndex : Int) (eTerm : Int) (eCmdOp : Int) (eCmdClient : Int) (eCmdSeq : Int) (eCmdKey : ByteArray) (eCmdValue : ByteArray) (eCmdOld : ByteArray) (H : Hp) (Q : Value → Hp → Prop) : Prop :=
 
 Br (decide (eIndex > 0)) (
 tephralaw06_right.k1 J eIndex eTerm eCmdOp eCmdClient eCmdSeq eCmdKey eCmdValue eCmdOld H (decide (eIndex ≤ 1048576)) Q)
 (
 tephralaw06_right.k1 J eIndex eTerm eCmdOp eCmdClient eCmdSeq eCmdKey eCmdValue eCmdOld H false Q)
theorem tephralaw06_right.eq (J : Jn) (eIndex : Int) (eTerm : Int) (eCmdOp : Int) (eCmdClient : Int) (eCmdSeq : Int) (eCmdKey : ByteArray) (eCmdValue : ByteArray) (eCmdOld : ByteArray) (H : Hp) (Q : Value → Hp → Prop) : vFn Try.prog tephralaw06_right.cf J tephralaw06_right.fn [.agg #[.int .i64 eIndex, .int .i64 eTerm, .int .i64 eCmdOp, .int .i64 eCmdClient, .int .i64 eCmdSeq, .string eCmdKey, .string eCmdValue, .string eCmdOld]] H Q = tephralaw06_right.vc J eIndex eTerm eCmdOp eCmdClient eCmdSeq eCmdKey eCmdValue eCmdOld H Q := by kernel_rfl
theorem tephralaw06_right.calls {eIndex : Int} {eTerm : Int} {eCmdOp : Int} {eCmdClient : Int} {eCmdSeq : Int} {eCmdKey : ByteArray} {eCmdValue : ByteArray} {eCmdOld : ByteArray} {H : Hp} {Q : Value → Hp → Prop} (h : tephralaw06_right.vc J0 eIndex eTerm eCmdOp eCmdClient eCmdSeq eCmdKey eCmdValue eCmdOld H Q) : SCalls Try.prog tephralaw06_right.id [.agg #[.int .i64 eIndex, .int .i64 eTerm, .int .i64 eCmdOp, .int .i64 eCmdClient, .int .i64 eCmdSeq, .string eCmdKey, .string eCmdValue, .string eCmdOld]] H Q := vFn_of Try.mixed Try.func15 (tephralaw06_right.eq J0 eIndex eTerm eCmdOp eCmdClient eCmdSeq eCmdKey eCmdValue eCmdOld H Q) h

/-! 16: tephra/tephralaw06.Entries -/
noncomputable def tephralaw06_Entries.cf : Cfg := ⟨[9], [(3, [1, 2, 7, 14, 15, 16])], [(7, [1, 2, 7, 8, 9, 14, 15, 16], true)], [], true, []⟩
noncomputable def tephralaw06_Entries.l1.st (says : Sl) (fromv : Int) (H1 : Hp) (term1 : Int) (out : Sl) (x : Int) : VS := ⟨mkFr 38 [(1, .v (.int .i64 fromv)), (2, .v (.int .i64 term1)), (7, .v (.slice out.a out.len out.cap)), (14, .v (.slice (cutA says.a says.cap 0 6) (((if (80 : Int) < ((says.len : Nat) : Int) then 80 else ((says.len : Nat) : Int)) : Int).toNat) says.cap)), (15, .v (.int .i64 (((((if (80 : Int) < ((says.len : Nat) : Int) then 80 else ((says.len : Nat) : Int)) : Int).toNat) : Nat) : Int))), (16, .v (.int .i64 x))], [], H1⟩
noncomputable def tephralaw06_Entries.l1 (J : Jn) (says : Sl) (fromv : Int) (H1 : Hp) (term1 : Int) (out : Sl) (x : Int) (Q : Value → Hp → Prop) : Prop := vAt Try.prog tephralaw06_Entries.cf J tephralaw06_Entries.fn [1, 1, 0, 1, 0] [0, 0, 0, 0] Q (tephralaw06_Entries.l1.st says fromv H1 term1 out x)
noncomputable def tephralaw06_Entries.k1.st (says : Sl) (fromv : Int) (H1 : Hp) (out : Sl) (x : Int) (Opv : Int) (Client : Int) (Seq : Int) (Key : Int) (Valuev : Int) (Old : Int) (term2 : Int) : VS := ⟨mkFr 38 [(1, .v (.int .i64 fromv)), (2, .v (.int .i64 term2)), (7, .v (.slice out.a out.len out.cap)), (8, .v (.int .i64 x)), (9, .loc 0 0), (14, .v (.slice (cutA says.a says.cap 0 6) (((if (80 : Int) < ((says.len : Nat) : Int) then 80 else ((says.len : Nat) : Int)) : Int).toNat) says.cap)), (15, .v (.int .i64 (((((if (80 : Int) < ((says.len : Nat) : Int) then 80 else ((says.len : Nat) : Int)) : Int).toNat) : Nat) : Int))), (16, .v (.int .i64 x))], [(T_tephralaw06_Say, [.int .u8 Opv, .int .u8 Client, .int .u8 Seq, .int .u8 Key, .int .u8 Valuev, .int .u8 Old])], (holes H1 1)⟩
noncomputable def tephralaw06_Entries.k1 (J : Jn) (says : Sl) (fromv : Int) (H1 : Hp) (out : Sl) (x : Int) (Opv : Int) (Client : Int) (Seq : Int) (Key : Int) (Valuev : Int) (Old : Int) (term2 : Int) (Q : Value → Hp → Prop) : Prop := J (vSeg Try.prog tephralaw06_Entries.cf J tephralaw06_Entries.fn [1, 1, 0, 1, 0, 0, 1, 1, 0, 0, 1, 1] [0, 0, 0, 0, 0, 0, 0, 0, 0, 1] Q) (tephralaw06_Entries.k1.st says fromv H1 out x Opv Client Seq Key Valuev Old term2)
attribute [irreducible] tephralaw06_Entries.l1 tephralaw06_Entries.k1
noncomputable def tephralaw06_Entries.l1.body (J : Jn) (says : Sl) (fromv : Int) (H1 : Hp) (term1 : Int) (out : Sl) (x : Int) (Q : Value → Hp → Prop) : Prop :=
 
 Br (decide (x < (((((if (80 : Int) < ((says.len : Nat) : Int) then 80 else ((says.len : Nat) : Int)) : Int).toNat) : Nat) : Int))) (((0 : Int) ≤ x ∧ x < (((((if (80 : Int) < ((says.len : Nat) : Int) then 80 else ((says.len : Nat) : Int)) : Int).toNat) : Nat) : Int)) ∧ vPtr (cutA says.a says.cap 0 6) (fun a => ∃ Opv : Int, ∃ Client : Int, ∃ Seq : Int, ∃ Key : Int, ∃ Valuev : Int, ∃ Old : Int, RowAt H1 (a.add ((x : Int).toNat * 6)) [.int .u8 Opv, .int .u8 Client, .int .u8 Seq, .int .u8 Key, .int .u8 Valuev, .int .u8 Old] ∧ 
 Br (decide (Opv > 230)) (
 tephralaw06_Entries.k1 J says fromv H1 out x Opv Client Seq Key Valuev Old (w64 (term1 + 1)) Q)
 (
 tephralaw06_Entries.k1 J says fromv H1 out x Opv Client Seq Key Valuev Old term1 Q)))
 (Q (.slice out.a out.len out.cap) H1)
theorem tephralaw06_Entries.l1.eq (J : Jn) (says : Sl) (fromv : Int) (H1 : Hp) (term1 : Int) (out : Sl) (x : Int) (Q : Value → Hp → Prop) : vAtBody Try.prog tephralaw06_Entries.cf J tephralaw06_Entries.fn [1, 1, 0, 1, 0] [0, 0, 0, 0] Q (tephralaw06_Entries.l1.st says fromv H1 term1 out x) = tephralaw06_Entries.l1.body J says fromv H1 term1 out x Q := by kernel_rfl
theorem tephralaw06_Entries.l1.step {says : Sl} {fromv : Int} {H1 : Hp} {term1 : Int} {out : Sl} {x : Int} {Q : Value → Hp → Prop} (h : tephralaw06_Entries.l1.body J0 says fromv H1 term1 out x Q) : tephralaw06_Entries.l1 J0 says fromv H1 term1 out x Q := vAt_stepC (tephralaw06_Entries.l1.st says fromv H1 term1 out x) (tephralaw06_Entries.l1.eq J0 says fromv H1 term1 out x Q) (by kernel_rfl) h
noncomputable def tephralaw06_Entries.k1.body (J : Jn) (says : Sl) (fromv : Int) (H1 : Hp) (out : Sl) (x : Int) (Opv : Int) (Client : Int) (Seq : Int) (Key : Int) (Valuev : Int) (Old : Int) (term2 : Int) (Q : Value → Hp → Prop) : Prop :=
 
 SCalls Try.prog tephralaw06_Say_Cmd.id [.agg #[.int .u8 Opv, .int .u8 Client, .int .u8 Seq, .int .u8 Key, .int .u8 Valuev, .int .u8 Old]] (holes H1 1) (fun r H2 => ∃ Opv1 : Int, ∃ Client1 : Int, ∃ Seq1 : Int, ∃ Key1 : ByteArray, ∃ Valuev1 : ByteArray, ∃ Old1 : ByteArray, r = .agg #[.int .i64 Opv1, .int .i64 Client1, .int .i64 Seq1, .string Key1, .string Valuev1, .string Old1] ∧ 
 vApp Try.prog T_sl_api_Entry out.a out.len out.cap (.slice (some (Addr.mk (Array.size H2) 0 none)) 1 1) (Array.push H2 (.cells #[.int .i64 (w64 (fromv + x)), .int .i64 term2, .int .i64 Opv1, .int .i64 Client1, .int .i64 Seq1, .string Key1, .string Valuev1, .string Old1] T_api_Entry)) (fun ap H3 => 
 tephralaw06_Entries.l1 J says fromv H3 term2 ap (w64 (x + 1)) Q))
theorem tephralaw06_Entries.k1.eq (J : Jn) (says : Sl) (fromv : Int) (H1 : Hp) (out : Sl) (x : Int) (Opv : Int) (Client : Int) (Seq : Int) (Key : Int) (Valuev : Int) (Old : Int) (term2 : Int) (Q : Value → Hp → Prop) : vSeg Try.prog tephralaw06_Entries.cf J tephralaw06_Entries.fn [1, 1, 0, 1, 0, 0, 1, 1, 0, 0, 1, 1] [0, 0, 0, 0, 0, 0, 0, 0, 0, 1] Q (tephralaw06_Entries.k1.st says fromv H1 out x Opv Client Seq Key Valuev Old term2) = tephralaw06_Entries.k1.body J says fromv H1 out x Opv Client Seq Key Valuev Old term2 Q := by kernel_rfl
theorem tephralaw06_Entries.k1.step {says : Sl} {fromv : Int} {H1 : Hp} {out : Sl} {x : Int} {Opv : Int} {Client : Int} {Seq : Int} {Key : Int} {Valuev : Int} {Old : Int} {term2 : Int} {Q : Value → Hp → Prop} (h : tephralaw06_Entries.k1.body J0 says fromv H1 out x Opv Client Seq Key Valuev Old term2 Q) : tephralaw06_Entries.k1 J0 says fromv H1 out x Opv Client Seq Key Valuev Old term2 Q := step_of (vSeg Try.prog tephralaw06_Entries.cf J0 tephralaw06_Entries.fn [1, 1, 0, 1, 0, 0, 1, 1, 0, 0, 1, 1] [0, 0, 0, 0, 0, 0, 0, 0, 0, 1] Q) (tephralaw06_Entries.k1.st says fromv H1 out x Opv Client Seq Key Valuev Old term2) (tephralaw06_Entries.k1.eq J0 says fromv H1 out x Opv Client Seq Key Valuev Old term2 Q) (by kernel_rfl) h
noncomputable def tephralaw06_Entries.vc (J : Jn) (says : Sl) (fromv : Int) (term : Int) (H : Hp) (Q : Value → Hp → Prop) : Prop :=
 ((0 : Int) ≤ (if (80 : Int) < ((says.len : Nat) : Int) then 80 else ((says.len : Nat) : Int)) ∧ (if (80 : Int) < ((says.len : Nat) : Int) then 80 else ((says.len : Nat) : Int)) ≤ ((says.cap : Nat) : Int)) ∧ 
 tephralaw06_Entries.l1 J says fromv H term (Sl.mk none 0 0) 0 Q
theorem tephralaw06_Entries.eq (J : Jn) (says : Sl) (fromv : Int) (term : Int) (H : Hp) (Q : Value → Hp → Prop) : vFn Try.prog tephralaw06_Entries.cf J tephralaw06_Entries.fn [.slice says.a says.len says.cap, .int .i64 fromv, .int .i64 term] H Q = tephralaw06_Entries.vc J says fromv term H Q := by kernel_rfl
theorem tephralaw06_Entries.calls {says : Sl} {fromv : Int} {term : Int} {H : Hp} {Q : Value → Hp → Prop} (h : tephralaw06_Entries.vc J0 says fromv term H Q) : SCalls Try.prog tephralaw06_Entries.id [.slice says.a says.len says.cap, .int .i64 fromv, .int .i64 term] H Q := vFn_of Try.mixed Try.func16 (tephralaw06_Entries.eq J0 says fromv term H Q) h

/-! 17: tephra/cmds.Row -/
noncomputable def cmds_Row.cf : Cfg := ⟨[6], [(2, [0, 1, 7, 8, 9])], [], [], true, []⟩
noncomputable def cmds_Row.l1.st (es : Sl) (fromv : Int) (H1 : Hp) (x : Int) : VS := ⟨mkFr 41 [(0, .v (.slice es.a es.len es.cap)), (1, .v (.int .i64 fromv)), (7, .v (.slice es.a es.len es.cap)), (8, .v (.int .i64 ((es.len : Nat) : Int))), (9, .v (.int .i64 x))], [], H1⟩
noncomputable def cmds_Row.l1 (J : Jn) (es : Sl) (fromv : Int) (H1 : Hp) (x : Int) (Q : Value → Hp → Prop) : Prop := vAt Try.prog cmds_Row.cf J cmds_Row.fn [1, 0, 1, 0] [0, 0, 0] Q (cmds_Row.l1.st es fromv H1 x)
attribute [irreducible] cmds_Row.l1
noncomputable def cmds_Row.l1.body (J : Jn) (es : Sl) (fromv : Int) (H1 : Hp) (x : Int) (Q : Value → Hp → Prop) : Prop :=
 
 Br (decide (x < ((es.len : Nat) : Int))) (((0 : Int) ≤ x ∧ x < ((es.len : Nat) : Int)) ∧ vPtr es.a (fun a => ∃ Index : Int, ∃ Term : Int, ∃ CmdOp : Int, ∃ CmdClient : Int, ∃ CmdSeq : Int, ∃ CmdKey : ByteArray, ∃ CmdValue : ByteArray, ∃ CmdOld : ByteArray, RowAt H1 (a.add ((x : Int).toNat * 8)) [.int .i64 Index, .int .i64 Term, .int .i64 CmdOp, .int .i64 CmdClient, .int .i64 CmdSeq, .string CmdKey, .string CmdValue, .string CmdOld] ∧ 
 SCalls Try.prog cmds_Right.id [.agg #[.int .i64 Index, .int .i64 Term, .int .i64 CmdOp, .int .i64 CmdClient, .int .i64 CmdSeq, .string CmdKey, .string CmdValue, .string CmdOld]] (holes H1 1) (fun r H2 => ∃ x1 : Bool, r = .bool x1 ∧ 
 Br (!x1) (Q (.bool false) H2)
 (
 Br (Index != (w64 (fromv + x))) (Q (.bool false) H2)
 (
 Br (decide (x > 0)) (((0 : Int) ≤ (w64 (x - 1)) ∧ (w64 (x - 1)) < ((es.len : Nat) : Int)) ∧ vPtr es.a (fun a1 => ∃ Term1 : Int, Hp.cell? H2 ((a1.add (((w64 (x - 1)) : Int).toNat * 8)).add 1) = some (.int .i64 Term1) ∧ 
 Br (decide (Term < Term1)) (Q (.bool false) H2)
 (
 cmds_Row.l1 J es fromv H2 (w64 (x + 1)) Q)))
 (
 cmds_Row.l1 J es fromv H2 (w64 (x + 1)) Q))))))
 (Q (.bool true) H1)
theorem cmds_Row.l1.eq (J : Jn) (es : Sl) (fromv : Int) (H1 : Hp) (x : Int) (Q : Value → Hp → Prop) : vAtBody Try.prog cmds_Row.cf J cmds_Row.fn [1, 0, 1, 0] [0, 0, 0] Q (cmds_Row.l1.st es fromv H1 x) = cmds_Row.l1.body J es fromv H1 x Q := by kernel_rfl
theorem cmds_Row.l1.step {es : Sl} {fromv : Int} {H1 : Hp} {x : Int} {Q : Value → Hp → Prop} (h : cmds_Row.l1.body J0 es fromv H1 x Q) : cmds_Row.l1 J0 es fromv H1 x Q := vAt_stepC (cmds_Row.l1.st es fromv H1 x) (cmds_Row.l1.eq J0 es fromv H1 x Q) (by kernel_rfl) h
noncomputable def cmds_Row.vc (J : Jn) (es : Sl) (fromv : Int) (H : Hp) (Q : Value → Hp → Prop) : Prop :=
 
 cmds_Row.l1 J es fromv H 0 Q
theorem cmds_Row.eq (J : Jn) (es : Sl) (fromv : Int) (H : Hp) (Q : Value → Hp → Prop) : vFn Try.prog cmds_Row.cf J cmds_Row.fn [.slice es.a es.len es.cap, .int .i64 fromv] H Q = cmds_Row.vc J es fromv H Q := by kernel_rfl
theorem cmds_Row.calls {es : Sl} {fromv : Int} {H : Hp} {Q : Value → Hp → Prop} (h : cmds_Row.vc J0 es fromv H Q) : SCalls Try.prog cmds_Row.id [.slice es.a es.len es.cap, .int .i64 fromv] H Q := vFn_of Try.mixed Try.func17 (cmds_Row.eq J0 es fromv H Q) h

/-! 18: tephra/cmds.Bytes -/
noncomputable def cmds_Bytes.cf : Cfg := ⟨[1], [], [], [], true, []⟩
noncomputable def cmds_Bytes.vc (J : Jn) (eIndex : Int) (eTerm : Int) (eCmdOp : Int) (eCmdClient : Int) (eCmdSeq : Int) (eCmdKey : ByteArray) (eCmdValue : ByteArray) (eCmdOld : ByteArray) (H : Hp) (Q : Value → Hp → Prop) : Prop :=
 
 SCalls Try.prog pack_Writer_Num.id [.pointer (some (Addr.mk (Array.size (holes H 1)) 0 none)), .int .i64 eIndex] (Array.push (holes H 1) (.cells #[.slice none 0 0] T_pack_Writer)) (fun r H1 => ∃ x : Option Addr, r = .pointer x ∧ 
 SCalls Try.prog pack_Writer_Num.id [.pointer x, .int .i64 eTerm] H1 (fun r1 H2 => ∃ x1 : Option Addr, r1 = .pointer x1 ∧ 
 SCalls Try.prog cmds_put.id [.pointer (some (Addr.mk (Array.size (holes H 1)) 0 none)), .agg #[.int .i64 eCmdOp, .int .i64 eCmdClient, .int .i64 eCmdSeq, .string eCmdKey, .string eCmdValue, .string eCmdOld]] H2 (fun r2 H3 => r2 = .tuple #[] ∧ 
 SCalls Try.prog pack_Writer_Bytes.id [.pointer (some (Addr.mk (Array.size (holes H 1)) 0 none))] H3 (fun r3 H4 => ∃ x2 : Sl, r3 = .slice x2.a x2.len x2.cap ∧ Q (.slice x2.a x2.len x2.cap) H4))))
theorem cmds_Bytes.eq (J : Jn) (eIndex : Int) (eTerm : Int) (eCmdOp : Int) (eCmdClient : Int) (eCmdSeq : Int) (eCmdKey : ByteArray) (eCmdValue : ByteArray) (eCmdOld : ByteArray) (H : Hp) (Q : Value → Hp → Prop) : vFn Try.prog cmds_Bytes.cf J cmds_Bytes.fn [.agg #[.int .i64 eIndex, .int .i64 eTerm, .int .i64 eCmdOp, .int .i64 eCmdClient, .int .i64 eCmdSeq, .string eCmdKey, .string eCmdValue, .string eCmdOld]] H Q = cmds_Bytes.vc J eIndex eTerm eCmdOp eCmdClient eCmdSeq eCmdKey eCmdValue eCmdOld H Q := by kernel_rfl
theorem cmds_Bytes.calls {eIndex : Int} {eTerm : Int} {eCmdOp : Int} {eCmdClient : Int} {eCmdSeq : Int} {eCmdKey : ByteArray} {eCmdValue : ByteArray} {eCmdOld : ByteArray} {H : Hp} {Q : Value → Hp → Prop} (h : cmds_Bytes.vc J0 eIndex eTerm eCmdOp eCmdClient eCmdSeq eCmdKey eCmdValue eCmdOld H Q) : SCalls Try.prog cmds_Bytes.id [.agg #[.int .i64 eIndex, .int .i64 eTerm, .int .i64 eCmdOp, .int .i64 eCmdClient, .int .i64 eCmdSeq, .string eCmdKey, .string eCmdValue, .string eCmdOld]] H Q := vFn_of Try.mixed Try.func18 (cmds_Bytes.eq J0 eIndex eTerm eCmdOp eCmdClient eCmdSeq eCmdKey eCmdValue eCmdOld H Q) h

/-! 19: tephra/cmds.Read -/
noncomputable def cmds_Read.cf : Cfg := ⟨[2, 5], [], [], [], true, []⟩
noncomputable def cmds_Read.vc (J : Jn) (b : Sl) (H : Hp) (Q : Value → Hp → Prop) : Prop :=
 
 SCalls Try.prog pack_Of.id [.slice b.a b.len b.cap] (holes H 1) (fun r H1 => ∃ x : Option Addr, r = .pointer x ∧ 
 SCalls Try.prog pack_Reader_Num.id [.pointer x] H1 (fun r1 H2 => ∃ x1 : Int, r1 = .int .i64 x1 ∧ 
 SCalls Try.prog pack_Reader_Num.id [.pointer x] (holes H2 1) (fun r2 H3 => ∃ x2 : Int, r2 = .int .i64 x2 ∧ 
 SCalls Try.prog cmds_get.id [.pointer x] H3 (fun r3 H4 => ∃ Opv : Int, ∃ Client : Int, ∃ Seq : Int, ∃ Key : ByteArray, ∃ Valuev : ByteArray, ∃ Old : ByteArray, r3 = .agg #[.int .i64 Opv, .int .i64 Client, .int .i64 Seq, .string Key, .string Valuev, .string Old] ∧ 
 SCalls Try.prog pack_Reader_Done.id [.pointer x] H4 (fun r4 H5 => ∃ x3 : Bool, r4 = .bool x3 ∧ 
 Br (!x3) (Q (.tuple #[.agg #[.int .i64 0, .int .i64 0, .int .i64 0, .int .i64 0, .int .i64 0, .string (ByteArray.mk #[]), .string (ByteArray.mk #[]), .string (ByteArray.mk #[])], .bool false]) H5)
 (
 SCalls Try.prog cmds_Right.id [.agg #[.int .i64 x1, .int .i64 x2, .int .i64 Opv, .int .i64 Client, .int .i64 Seq, .string Key, .string Valuev, .string Old]] H5 (fun r5 H6 => ∃ x4 : Bool, r5 = .bool x4 ∧ 
 Br (!x4) (Q (.tuple #[.agg #[.int .i64 0, .int .i64 0, .int .i64 0, .int .i64 0, .int .i64 0, .string (ByteArray.mk #[]), .string (ByteArray.mk #[]), .string (ByteArray.mk #[])], .bool false]) H6)
 (Q (.tuple #[.agg #[.int .i64 x1, .int .i64 x2, .int .i64 Opv, .int .i64 Client, .int .i64 Seq, .string Key, .string Valuev, .string Old], .bool true]) H6))))))))
theorem cmds_Read.eq (J : Jn) (b : Sl) (H : Hp) (Q : Value → Hp → Prop) : vFn Try.prog cmds_Read.cf J cmds_Read.fn [.slice b.a b.len b.cap] H Q = cmds_Read.vc J b H Q := by kernel_rfl
theorem cmds_Read.calls {b : Sl} {H : Hp} {Q : Value → Hp → Prop} (h : cmds_Read.vc J0 b H Q) : SCalls Try.prog cmds_Read.id [.slice b.a b.len b.cap] H Q := vFn_of Try.mixed Try.func19 (cmds_Read.eq J0 b H Q) h

/-! 20: tephra/tephralaw06.bytes -/
noncomputable def tephralaw06_bytes.cf : Cfg := ⟨[1, 4], [], [], [], true, []⟩
noncomputable def tephralaw06_bytes.vc (J : Jn) (eIndex : Int) (eTerm : Int) (eCmdOp : Int) (eCmdClient : Int) (eCmdSeq : Int) (eCmdKey : ByteArray) (eCmdValue : ByteArray) (eCmdOld : ByteArray) (H : Hp) (Q : Value → Hp → Prop) : Prop :=
 
 SCalls Try.prog pack_Writer_Num.id [.pointer (some (Addr.mk (Array.size (holes H 1)) 0 none)), .int .i64 eIndex] (holes (Array.push (holes H 1) (.cells #[.slice none 0 0] T_pack_Writer)) 1) (fun r H1 => ∃ x : Option Addr, r = .pointer x ∧ 
 SCalls Try.prog pack_Writer_Num.id [.pointer x, .int .i64 eTerm] H1 (fun r1 H2 => ∃ x1 : Option Addr, r1 = .pointer x1 ∧ 
 SCalls Try.prog pack_Writer_Byte.id [.pointer x1, .int .u8 (IntKind.u8.wrap (eCmdOp))] H2 (fun r2 H3 => ∃ x2 : Option Addr, r2 = .pointer x2 ∧ 
 SCalls Try.prog pack_Writer_Num.id [.pointer x2, .int .i64 eCmdClient] H3 (fun r3 H4 => ∃ x3 : Option Addr, r3 = .pointer x3 ∧ 
 SCalls Try.prog pack_Writer_Num.id [.pointer x3, .int .i64 eCmdSeq] H4 (fun r4 H5 => ∃ x4 : Option Addr, r4 = .pointer x4 ∧ 
 SCalls Try.prog pack_Writer_Text.id [.pointer x4, .string eCmdKey] H5 (fun r5 H6 => ∃ x5 : Option Addr, r5 = .pointer x5 ∧ 
 SCalls Try.prog pack_Writer_Text.id [.pointer x5, .string eCmdValue] H6 (fun r6 H7 => ∃ x6 : Option Addr, r6 = .pointer x6 ∧ 
 SCalls Try.prog pack_Writer_Text.id [.pointer x6, .string eCmdOld] H7 (fun r7 H8 => ∃ x7 : Option Addr, r7 = .pointer x7 ∧ 
 SCalls Try.prog pack_Writer_Bytes.id [.pointer x7] H8 (fun r8 H9 => ∃ x8 : Sl, r8 = .slice x8.a x8.len x8.cap ∧ vB2S H9 x8.a x8.len (fun s => Q (.string s) H9))))))))))
theorem tephralaw06_bytes.eq (J : Jn) (eIndex : Int) (eTerm : Int) (eCmdOp : Int) (eCmdClient : Int) (eCmdSeq : Int) (eCmdKey : ByteArray) (eCmdValue : ByteArray) (eCmdOld : ByteArray) (H : Hp) (Q : Value → Hp → Prop) : vFn Try.prog tephralaw06_bytes.cf J tephralaw06_bytes.fn [.agg #[.int .i64 eIndex, .int .i64 eTerm, .int .i64 eCmdOp, .int .i64 eCmdClient, .int .i64 eCmdSeq, .string eCmdKey, .string eCmdValue, .string eCmdOld]] H Q = tephralaw06_bytes.vc J eIndex eTerm eCmdOp eCmdClient eCmdSeq eCmdKey eCmdValue eCmdOld H Q := by kernel_rfl
theorem tephralaw06_bytes.calls {eIndex : Int} {eTerm : Int} {eCmdOp : Int} {eCmdClient : Int} {eCmdSeq : Int} {eCmdKey : ByteArray} {eCmdValue : ByteArray} {eCmdOld : ByteArray} {H : Hp} {Q : Value → Hp → Prop} (h : tephralaw06_bytes.vc J0 eIndex eTerm eCmdOp eCmdClient eCmdSeq eCmdKey eCmdValue eCmdOld H Q) : SCalls Try.prog tephralaw06_bytes.id [.agg #[.int .i64 eIndex, .int .i64 eTerm, .int .i64 eCmdOp, .int .i64 eCmdClient, .int .i64 eCmdSeq, .string eCmdKey, .string eCmdValue, .string eCmdOld]] H Q := vFn_of Try.mixed Try.func20 (tephralaw06_bytes.eq J0 eIndex eTerm eCmdOp eCmdClient eCmdSeq eCmdKey eCmdValue eCmdOld H Q) h

/-! 21: (*tephra/pack.Writer).Num -/
noncomputable def pack_Writer_Num.cf : Cfg := ⟨[], [(2, [0, 1, 5])], [], [], true, []⟩
noncomputable def pack_Writer_Num.l1.st (w : Addr) (n : Int) (H1 : Hp) (k : Int) : VS := ⟨mkFr 25 [(0, .v (.pointer (some w))), (1, .v (.int .i64 n)), (5, .v (.int .i64 k))], [], H1⟩
noncomputable def pack_Writer_Num.l1 (J : Jn) (w : Addr) (n : Int) (H1 : Hp) (k : Int) (Q : Value → Hp → Prop) : Prop := vAt Try.prog pack_Writer_Num.cf J pack_Writer_Num.fn [1, 0, 1, 0] [0, 0, 0] Q (pack_Writer_Num.l1.st w n H1 k)
attribute [irreducible] pack_Writer_Num.l1
noncomputable def pack_Writer_Num.l1.body (J : Jn) (w : Addr) (n : Int) (H1 : Hp) (k : Int) (Q : Value → Hp → Prop) : Prop :=
 
 Br (decide (k ≥ 0)) (∃ b : Sl, Hp.cell? H1 w = some (.slice b.a b.len b.cap) ∧ (0 : Int) ≤ (w64 ((8 : Int) * k)) ∧ 
 vApp Try.prog T_sl_uint8 b.a b.len b.cap (.slice (some (Addr.mk (Array.size H1) 0 none)) 1 1) (Array.push H1 (.cells #[.int .u8 (IntKind.u8.wrap ((Int.fdiv n (2 ^ (min ((w64 ((8 : Int) * k)) : Int).toNat 64)))))] T_uint8)) (fun ap H2 => WrAt H2 w 1 ∧ 
 pack_Writer_Num.l1 J w n (Hp.setCell H2 w (.slice ap.a ap.len ap.cap)) (w64 (k - 1)) Q))
 (Q (.pointer (some w)) H1)
theorem pack_Writer_Num.l1.eq (J : Jn) (w : Addr) (n : Int) (H1 : Hp) (k : Int) (Q : Value → Hp → Prop) : vAtBody Try.prog pack_Writer_Num.cf J pack_Writer_Num.fn [1, 0, 1, 0] [0, 0, 0] Q (pack_Writer_Num.l1.st w n H1 k) = pack_Writer_Num.l1.body J w n H1 k Q := by kernel_rfl
theorem pack_Writer_Num.l1.step {w : Addr} {n : Int} {H1 : Hp} {k : Int} {Q : Value → Hp → Prop} (h : pack_Writer_Num.l1.body J0 w n H1 k Q) : pack_Writer_Num.l1 J0 w n H1 k Q := vAt_stepC (pack_Writer_Num.l1.st w n H1 k) (pack_Writer_Num.l1.eq J0 w n H1 k Q) (by kernel_rfl) h
noncomputable def pack_Writer_Num.vc (J : Jn) (w : Addr) (n : Int) (H : Hp) (Q : Value → Hp → Prop) : Prop :=
 
 pack_Writer_Num.l1 J w n H 7 Q
theorem pack_Writer_Num.eq (J : Jn) (w : Addr) (n : Int) (H : Hp) (Q : Value → Hp → Prop) : vFn Try.prog pack_Writer_Num.cf J pack_Writer_Num.fn [.pointer (some w), .int .i64 n] H Q = pack_Writer_Num.vc J w n H Q := by kernel_rfl
theorem pack_Writer_Num.calls {w : Addr} {n : Int} {H : Hp} {Q : Value → Hp → Prop} (h : pack_Writer_Num.vc J0 w n H Q) : SCalls Try.prog pack_Writer_Num.id [.pointer (some w), .int .i64 n] H Q := vFn_of Try.mixed Try.func21 (pack_Writer_Num.eq J0 w n H Q) h

/-! 22: tephra/cmds.put -/
noncomputable def cmds_put.cf : Cfg := ⟨[3], [], [], [], true, []⟩
noncomputable def cmds_put.vc (J : Jn) (w : Addr) (cOp : Int) (cClient : Int) (cSeq : Int) (cKey : ByteArray) (cValue : ByteArray) (cOld : ByteArray) (H : Hp) (Q : Value → Hp → Prop) : Prop :=
 
 SCalls Try.prog pack_Writer_Byte.id [.pointer (some w), .int .u8 (IntKind.u8.wrap (cOp))] (holes H 1) (fun r H1 => ∃ x : Option Addr, r = .pointer x ∧ 
 SCalls Try.prog pack_Writer_Num.id [.pointer x, .int .i64 cClient] H1 (fun r1 H2 => ∃ x1 : Option Addr, r1 = .pointer x1 ∧ 
 SCalls Try.prog pack_Writer_Num.id [.pointer x1, .int .i64 cSeq] H2 (fun r2 H3 => ∃ x2 : Option Addr, r2 = .pointer x2 ∧ 
 SCalls Try.prog pack_Writer_Text.id [.pointer x2, .string cKey] H3 (fun r3 H4 => ∃ x3 : Option Addr, r3 = .pointer x3 ∧ 
 SCalls Try.prog pack_Writer_Text.id [.pointer x3, .string cValue] H4 (fun r4 H5 => ∃ x4 : Option Addr, r4 = .pointer x4 ∧ 
 SCalls Try.prog pack_Writer_Text.id [.pointer x4, .string cOld] H5 (fun r5 H6 => ∃ x5 : Option Addr, r5 = .pointer x5 ∧ Q (.tuple #[]) H6))))))
theorem cmds_put.eq (J : Jn) (w : Addr) (cOp : Int) (cClient : Int) (cSeq : Int) (cKey : ByteArray) (cValue : ByteArray) (cOld : ByteArray) (H : Hp) (Q : Value → Hp → Prop) : vFn Try.prog cmds_put.cf J cmds_put.fn [.pointer (some w), .agg #[.int .i64 cOp, .int .i64 cClient, .int .i64 cSeq, .string cKey, .string cValue, .string cOld]] H Q = cmds_put.vc J w cOp cClient cSeq cKey cValue cOld H Q := by kernel_rfl
theorem cmds_put.calls {w : Addr} {cOp : Int} {cClient : Int} {cSeq : Int} {cKey : ByteArray} {cValue : ByteArray} {cOld : ByteArray} {H : Hp} {Q : Value → Hp → Prop} (h : cmds_put.vc J0 w cOp cClient cSeq cKey cValue cOld H Q) : SCalls Try.prog cmds_put.id [.pointer (some w), .agg #[.int .i64 cOp, .int .i64 cClient, .int .i64 cSeq, .string cKey, .string cValue, .string cOld]] H Q := vFn_of Try.mixed Try.func22 (cmds_put.eq J0 w cOp cClient cSeq cKey cValue cOld H Q) h

/-! 23: (*tephra/pack.Writer).Bytes -/
noncomputable def pack_Writer_Bytes.cf : Cfg := ⟨[], [], [], [], true, []⟩
noncomputable def pack_Writer_Bytes.vc (J : Jn) (w : Addr) (H : Hp) (Q : Value → Hp → Prop) : Prop :=
 ∃ b : Sl, Hp.cell? H w = some (.slice b.a b.len b.cap) ∧ 
 vApp Try.prog T_sl_uint8 none 0 0 (.slice b.a b.len b.cap) H (fun ap H1 => Q (.slice ap.a ap.len ap.cap) H1)
theorem pack_Writer_Bytes.eq (J : Jn) (w : Addr) (H : Hp) (Q : Value → Hp → Prop) : vFn Try.prog pack_Writer_Bytes.cf J pack_Writer_Bytes.fn [.pointer (some w)] H Q = pack_Writer_Bytes.vc J w H Q := by kernel_rfl
theorem pack_Writer_Bytes.calls {w : Addr} {H : Hp} {Q : Value → Hp → Prop} (h : pack_Writer_Bytes.vc J0 w H Q) : SCalls Try.prog pack_Writer_Bytes.id [.pointer (some w)] H Q := vFn_of Try.mixed Try.func23 (pack_Writer_Bytes.eq J0 w H Q) h

/-! 24: tephra/pack.Of -/
noncomputable def pack_Of.cf : Cfg := ⟨[], [], [], [], true, []⟩
noncomputable def pack_Of.vc (J : Jn) (b : Sl) (H : Hp) (Q : Value → Hp → Prop) : Prop :=
 Q (.pointer (some (Addr.mk (Array.size H) 0 none))) (Array.push H (.cells #[.slice b.a b.len b.cap, .bool false] T_pack_Reader))
theorem pack_Of.eq (J : Jn) (b : Sl) (H : Hp) (Q : Value → Hp → Prop) : vFn Try.prog pack_Of.cf J pack_Of.fn [.slice b.a b.len b.cap] H Q = pack_Of.vc J b H Q := by kernel_rfl
theorem pack_Of.calls {b : Sl} {H : Hp} {Q : Value → Hp → Prop} (h : pack_Of.vc J0 b H Q) : SCalls Try.prog pack_Of.id [.slice b.a b.len b.cap] H Q := vFn_of Try.mixed Try.func24 (pack_Of.eq J0 b H Q) h

/-! 25: (*tephra/pack.Reader).Num -/
noncomputable def pack_Reader_Num.cf : Cfg := ⟨[], [(3, [3, 7, 8, 9])], [], [], true, []⟩
noncomputable def pack_Reader_Num.l1.st (x : Sl) (H2 : Hp) (n : Int) (x1 : Int) : VS := ⟨mkFr 20 [(3, .v (.int .i64 n)), (7, .v (.slice x.a x.len x.cap)), (8, .v (.int .i64 ((x.len : Nat) : Int))), (9, .v (.int .i64 x1))], [], H2⟩
noncomputable def pack_Reader_Num.l1 (J : Jn) (x : Sl) (H2 : Hp) (n : Int) (x1 : Int) (Q : Value → Hp → Prop) : Prop := vAt Try.prog pack_Reader_Num.cf J pack_Reader_Num.fn [1, 1, 0, 1, 0] [0, 0, 0, 0] Q (pack_Reader_Num.l1.st x H2 n x1)
attribute [irreducible] pack_Reader_Num.l1
noncomputable def pack_Reader_Num.l1.body (J : Jn) (x : Sl) (H2 : Hp) (n : Int) (x1 : Int) (Q : Value → Hp → Prop) : Prop :=
 
 Br (decide (x1 < ((x.len : Nat) : Int))) (((0 : Int) ≤ x1 ∧ x1 < ((x.len : Nat) : Int)) ∧ vPtr x.a (fun a => ∃ x2 : Int, Hp.cell? H2 (a.add ((x1 : Int).toNat * 1)) = some (.int .u8 x2) ∧ (0 : Int) ≤ 8 ∧ 
 pack_Reader_Num.l1 J x H2 (bor .i64 (w64 (n * 2 ^ 8)) (w64 (x2))) (w64 (x1 + 1)) Q))
 (Q (.int .i64 n) H2)
theorem pack_Reader_Num.l1.eq (J : Jn) (x : Sl) (H2 : Hp) (n : Int) (x1 : Int) (Q : Value → Hp → Prop) : vAtBody Try.prog pack_Reader_Num.cf J pack_Reader_Num.fn [1, 1, 0, 1, 0] [0, 0, 0, 0] Q (pack_Reader_Num.l1.st x H2 n x1) = pack_Reader_Num.l1.body J x H2 n x1 Q := by kernel_rfl
theorem pack_Reader_Num.l1.step {x : Sl} {H2 : Hp} {n : Int} {x1 : Int} {Q : Value → Hp → Prop} (h : pack_Reader_Num.l1.body J0 x H2 n x1 Q) : pack_Reader_Num.l1 J0 x H2 n x1 Q := vAt_stepC (pack_Reader_Num.l1.st x H2 n x1) (pack_Reader_Num.l1.eq J0 x H2 n x1 Q) (by kernel_rfl) h
noncomputable def pack_Reader_Num.vc (J : Jn) (r : Addr) (H : Hp) (Q : Value → Hp → Prop) : Prop :=
 
 SCalls Try.prog pack_Reader_take.id [.pointer (some r), .int .i64 8] H (fun r1 H1 => ∃ x : Sl, r1 = .slice x.a x.len x.cap ∧ 
 pack_Reader_Num.l1 J x H1 0 0 Q)
theorem pack_Reader_Num.eq (J : Jn) (r : Addr) (H : Hp) (Q : Value → Hp → Prop) : vFn Try.prog pack_Reader_Num.cf J pack_Reader_Num.fn [.pointer (some r)] H Q = pack_Reader_Num.vc J r H Q := by kernel_rfl
theorem pack_Reader_Num.calls {r : Addr} {H : Hp} {Q : Value → Hp → Prop} (h : pack_Reader_Num.vc J0 r H Q) : SCalls Try.prog pack_Reader_Num.id [.pointer (some r)] H Q := vFn_of Try.mixed Try.func25 (pack_Reader_Num.eq J0 r H Q) h

/-! 26: tephra/cmds.get -/
noncomputable def cmds_get.cf : Cfg := ⟨[2, 3], [], [], [], true, []⟩
noncomputable def cmds_get.vc (J : Jn) (r : Addr) (H : Hp) (Q : Value → Hp → Prop) : Prop :=
 
 SCalls Try.prog pack_Reader_Byte.id [.pointer (some r)] (holes H 1) (fun r1 H1 => ∃ x : Int, r1 = .int .u8 x ∧ 
 SCalls Try.prog pack_Reader_Num.id [.pointer (some r)] (holes H1 1) (fun r2 H2 => ∃ x1 : Int, r2 = .int .i64 x1 ∧ 
 SCalls Try.prog pack_Reader_Num.id [.pointer (some r)] H2 (fun r3 H3 => ∃ x2 : Int, r3 = .int .i64 x2 ∧ 
 SCalls Try.prog pack_Reader_Text.id [.pointer (some r)] H3 (fun r4 H4 => ∃ x3 : ByteArray, r4 = .string x3 ∧ 
 SCalls Try.prog pack_Reader_Text.id [.pointer (some r)] H4 (fun r5 H5 => ∃ x4 : ByteArray, r5 = .string x4 ∧ 
 SCalls Try.prog pack_Reader_Text.id [.pointer (some r)] H5 (fun r6 H6 => ∃ x5 : ByteArray, r6 = .string x5 ∧ Q (.agg #[.int .i64 (w64 (x)), .int .i64 x1, .int .i64 x2, .string x3, .string x4, .string x5]) H6))))))
theorem cmds_get.eq (J : Jn) (r : Addr) (H : Hp) (Q : Value → Hp → Prop) : vFn Try.prog cmds_get.cf J cmds_get.fn [.pointer (some r)] H Q = cmds_get.vc J r H Q := by kernel_rfl
theorem cmds_get.calls {r : Addr} {H : Hp} {Q : Value → Hp → Prop} (h : cmds_get.vc J0 r H Q) : SCalls Try.prog cmds_get.id [.pointer (some r)] H Q := vFn_of Try.mixed Try.func26 (cmds_get.eq J0 r H Q) h

/-! 27: (*tephra/pack.Reader).Done -/
noncomputable def pack_Reader_Done.cf : Cfg := ⟨[], [], [], [], true, []⟩
noncomputable def pack_Reader_Done.vc (J : Jn) (r : Addr) (H : Hp) (Q : Value → Hp → Prop) : Prop :=
 ∃ bad : Bool, Hp.cell? H (r.add 1) = some (.bool bad) ∧ 
 Br (!bad) (∃ b : Sl, Hp.cell? H r = some (.slice b.a b.len b.cap) ∧ Q (.bool (((b.len : Nat) : Int) == 0)) H)
 (Q (.bool false) H)
theorem pack_Reader_Done.eq (J : Jn) (r : Addr) (H : Hp) (Q : Value → Hp → Prop) : vFn Try.prog pack_Reader_Done.cf J pack_Reader_Done.fn [.pointer (some r)] H Q = pack_Reader_Done.vc J r H Q := by kernel_rfl
theorem pack_Reader_Done.calls {r : Addr} {H : Hp} {Q : Value → Hp → Prop} (h : pack_Reader_Done.vc J0 r H Q) : SCalls Try.prog pack_Reader_Done.id [.pointer (some r)] H Q := vFn_of Try.mixed Try.func27 (pack_Reader_Done.eq J0 r H Q) h

/-! 28: (*tephra/pack.Writer).Byte -/
noncomputable def pack_Writer_Byte.cf : Cfg := ⟨[], [], [], [], true, []⟩
noncomputable def pack_Writer_Byte.vc (J : Jn) (w : Addr) (c : Int) (H : Hp) (Q : Value → Hp → Prop) : Prop :=
 ∃ b : Sl, Hp.cell? H w = some (.slice b.a b.len b.cap) ∧ 
 vApp Try.prog T_sl_uint8 b.a b.len b.cap (.slice (some (Addr.mk (Array.size H) 0 none)) 1 1) (Array.push H (.cells #[.int .u8 c] T_uint8)) (fun ap H1 => WrAt H1 w 1 ∧ Q (.pointer (some w)) (Hp.setCell H1 w (.slice ap.a ap.len ap.cap)))
theorem pack_Writer_Byte.eq (J : Jn) (w : Addr) (c : Int) (H : Hp) (Q : Value → Hp → Prop) : vFn Try.prog pack_Writer_Byte.cf J pack_Writer_Byte.fn [.pointer (some w), .int .u8 c] H Q = pack_Writer_Byte.vc J w c H Q := by kernel_rfl
theorem pack_Writer_Byte.calls {w : Addr} {c : Int} {H : Hp} {Q : Value → Hp → Prop} (h : pack_Writer_Byte.vc J0 w c H Q) : SCalls Try.prog pack_Writer_Byte.id [.pointer (some w), .int .u8 c] H Q := vFn_of Try.mixed Try.func28 (pack_Writer_Byte.eq J0 w c H Q) h

/-! 29: (*tephra/pack.Writer).Text -/
noncomputable def pack_Writer_Text.cf : Cfg := ⟨[], [], [], [], true, []⟩
noncomputable def pack_Writer_Text.vc (J : Jn) (w : Addr) (s : ByteArray) (H : Hp) (Q : Value → Hp → Prop) : Prop :=
 
 SCalls Try.prog pack_Writer_Num.id [.pointer (some w), .int .i64 ((s.size : Nat) : Int)] H (fun r H1 => ∃ x : Option Addr, r = .pointer x ∧ ∃ b : Sl, Hp.cell? H1 w = some (.slice b.a b.len b.cap) ∧ 
 vApp Try.prog T_sl_uint8 b.a b.len b.cap (.string s) H1 (fun ap H2 => WrAt H2 w 1 ∧ Q (.pointer (some w)) (Hp.setCell H2 w (.slice ap.a ap.len ap.cap))))
theorem pack_Writer_Text.eq (J : Jn) (w : Addr) (s : ByteArray) (H : Hp) (Q : Value → Hp → Prop) : vFn Try.prog pack_Writer_Text.cf J pack_Writer_Text.fn [.pointer (some w), .string s] H Q = pack_Writer_Text.vc J w s H Q := by kernel_rfl
theorem pack_Writer_Text.calls {w : Addr} {s : ByteArray} {H : Hp} {Q : Value → Hp → Prop} (h : pack_Writer_Text.vc J0 w s H Q) : SCalls Try.prog pack_Writer_Text.id [.pointer (some w), .string s] H Q := vFn_of Try.mixed Try.func29 (pack_Writer_Text.eq J0 w s H Q) h

/-! 30: (*tephra/pack.Reader).take -/
noncomputable def pack_Reader_take.cf : Cfg := ⟨[], [], [(2, [0, 1], true)], [(14, [0, 1, 6, 14]), (23, [0, 1, 6, 23])], true, []⟩
noncomputable def pack_Reader_take.k1.st (r : Addr) (n : Int) (H : Hp) (x : Bool) : VS := ⟨mkFr 46 [(0, .v (.pointer (some r))), (1, .v (.int .i64 n)), (6, .v (.pointer (some r))), (14, .v (.bool x))], [], H⟩
noncomputable def pack_Reader_take.k1 (J : Jn) (r : Addr) (n : Int) (H : Hp) (x : Bool) (Q : Value → Hp → Prop) : Prop := J (vMid Try.prog pack_Reader_take.cf J pack_Reader_take.fn [1, 0, 0] [0, 0, 0] 9 Q) (pack_Reader_take.k1.st r n H x)
noncomputable def pack_Reader_take.k2.st (r : Addr) (n : Int) (H : Hp) (x1 : Bool) : VS := ⟨mkFr 46 [(0, .v (.pointer (some r))), (1, .v (.int .i64 n)), (6, .v (.pointer (some r))), (23, .v (.bool x1))], [], H⟩
noncomputable def pack_Reader_take.k2 (J : Jn) (r : Addr) (n : Int) (H : Hp) (x1 : Bool) (Q : Value → Hp → Prop) : Prop := J (vMid Try.prog pack_Reader_take.cf J pack_Reader_take.fn [1, 0, 0] [0, 0, 0] 18 Q) (pack_Reader_take.k2.st r n H x1)
noncomputable def pack_Reader_take.k3.st (r : Addr) (n : Int) (H : Hp) (x1 : Bool) : VS := ⟨mkFr 46 [(0, .v (.pointer (some r))), (1, .v (.int .i64 n))], [], (Hp.setCell H (r.add 1) (.bool x1))⟩
noncomputable def pack_Reader_take.k3 (J : Jn) (r : Addr) (n : Int) (H : Hp) (x1 : Bool) (Q : Value → Hp → Prop) : Prop := J (vSeg Try.prog pack_Reader_take.cf J pack_Reader_take.fn [1, 0, 1] [0, 0, 0] Q) (pack_Reader_take.k3.st r n H x1)
attribute [irreducible] pack_Reader_take.k1 pack_Reader_take.k2 pack_Reader_take.k3
noncomputable def pack_Reader_take.k1.body (J : Jn) (r : Addr) (n : Int) (H : Hp) (x : Bool) (Q : Value → Hp → Prop) : Prop :=
 
 Br x (
 pack_Reader_take.k2 J r n H true Q)
 (∃ b : Sl, Hp.cell? H r = some (.slice b.a b.len b.cap) ∧ 
 pack_Reader_take.k2 J r n H (decide (n > ((b.len : Nat) : Int))) Q)
theorem pack_Reader_take.k1.eq (J : Jn) (r : Addr) (n : Int) (H : Hp) (x : Bool) (Q : Value → Hp → Prop) : vMid Try.prog pack_Reader_take.cf J pack_Reader_take.fn [1, 0, 0] [0, 0, 0] 9 Q (pack_Reader_take.k1.st r n H x) = pack_Reader_take.k1.body J r n H x Q := by kernel_rfl
theorem pack_Reader_take.k1.step {r : Addr} {n : Int} {H : Hp} {x : Bool} {Q : Value → Hp → Prop} (h : pack_Reader_take.k1.body J0 r n H x Q) : pack_Reader_take.k1 J0 r n H x Q := step_of (vMid Try.prog pack_Reader_take.cf J0 pack_Reader_take.fn [1, 0, 0] [0, 0, 0] 9 Q) (pack_Reader_take.k1.st r n H x) (pack_Reader_take.k1.eq J0 r n H x Q) (by kernel_rfl) h
noncomputable def pack_Reader_take.k2.body (J : Jn) (r : Addr) (n : Int) (H : Hp) (x1 : Bool) (Q : Value → Hp → Prop) : Prop :=
 WrAt H (r.add 1) 1 ∧ 
 pack_Reader_take.k3 J r n H x1 Q
theorem pack_Reader_take.k2.eq (J : Jn) (r : Addr) (n : Int) (H : Hp) (x1 : Bool) (Q : Value → Hp → Prop) : vMid Try.prog pack_Reader_take.cf J pack_Reader_take.fn [1, 0, 0] [0, 0, 0] 18 Q (pack_Reader_take.k2.st r n H x1) = pack_Reader_take.k2.body J r n H x1 Q := by kernel_rfl
theorem pack_Reader_take.k2.step {r : Addr} {n : Int} {H : Hp} {x1 : Bool} {Q : Value → Hp → Prop} (h : pack_Reader_take.k2.body J0 r n H x1 Q) : pack_Reader_take.k2 J0 r n H x1 Q := step_of (vMid Try.prog pack_Reader_take.cf J0 pack_Reader_take.fn [1, 0, 0] [0, 0, 0] 18 Q) (pack_Reader_take.k2.st r n H x1) (pack_Reader_take.k2.eq J0 r n H x1 Q) (by kernel_rfl) h
noncomputable def pack_Reader_take.k3.body (J : Jn) (r : Addr) (n : Int) (H : Hp) (x1 : Bool) (Q : Value → Hp → Prop) : Prop :=
 ∃ bad1 : Bool, Hp.cell? (Hp.setCell H (r.add 1) (.bool x1)) (r.add 1) = some (.bool bad1) ∧ 
 Br bad1 (Q (.slice none 0 0) (Hp.setCell H (r.add 1) (.bool x1)))
 (∃ b1 : Sl, Hp.cell? (Hp.setCell H (r.add 1) (.bool x1)) r = some (.slice b1.a b1.len b1.cap) ∧ ((0 : Int) ≤ n ∧ n ≤ ((b1.cap : Nat) : Int)) ∧ ∃ b2 : Sl, Hp.cell? (Hp.setCell H (r.add 1) (.bool x1)) r = some (.slice b2.a b2.len b2.cap) ∧ ((0 : Int) ≤ n ∧ n ≤ ((b2.len : Nat) : Int)) ∧ WrAt (Hp.setCell H (r.add 1) (.bool x1)) r 1 ∧ Q (.slice (cutA b1.a b1.cap 0 1) ((n : Int).toNat) b1.cap) (Hp.setCell (Hp.setCell H (r.add 1) (.bool x1)) r (.slice (cutA b2.a b2.cap ((n : Int).toNat) 1) (b2.len - ((n : Int).toNat)) (b2.cap - ((n : Int).toNat)))))
theorem pack_Reader_take.k3.eq (J : Jn) (r : Addr) (n : Int) (H : Hp) (x1 : Bool) (Q : Value → Hp → Prop) : vSeg Try.prog pack_Reader_take.cf J pack_Reader_take.fn [1, 0, 1] [0, 0, 0] Q (pack_Reader_take.k3.st r n H x1) = pack_Reader_take.k3.body J r n H x1 Q := by kernel_rfl
theorem pack_Reader_take.k3.step {r : Addr} {n : Int} {H : Hp} {x1 : Bool} {Q : Value → Hp → Prop} (h : pack_Reader_take.k3.body J0 r n H x1 Q) : pack_Reader_take.k3 J0 r n H x1 Q := step_of (vSeg Try.prog pack_Reader_take.cf J0 pack_Reader_take.fn [1, 0, 1] [0, 0, 0] Q) (pack_Reader_take.k3.st r n H x1) (pack_Reader_take.k3.eq J0 r n H x1 Q) (by kernel_rfl) h
noncomputable def pack_Reader_take.vc (J : Jn) (r : Addr) (n : Int) (H : Hp) (Q : Value → Hp → Prop) : Prop :=
 ∃ bad : Bool, Hp.cell? H (r.add 1) = some (.bool bad) ∧ 
 Br bad (
 pack_Reader_take.k1 J r n H true Q)
 (
 pack_Reader_take.k1 J r n H (decide (n < 0)) Q)
theorem pack_Reader_take.eq (J : Jn) (r : Addr) (n : Int) (H : Hp) (Q : Value → Hp → Prop) : vFn Try.prog pack_Reader_take.cf J pack_Reader_take.fn [.pointer (some r), .int .i64 n] H Q = pack_Reader_take.vc J r n H Q := by kernel_rfl
theorem pack_Reader_take.calls {r : Addr} {n : Int} {H : Hp} {Q : Value → Hp → Prop} (h : pack_Reader_take.vc J0 r n H Q) : SCalls Try.prog pack_Reader_take.id [.pointer (some r), .int .i64 n] H Q := vFn_of Try.mixed Try.func30 (pack_Reader_take.eq J0 r n H Q) h

/-! 31: (*tephra/pack.Reader).Byte -/
noncomputable def pack_Reader_Byte.cf : Cfg := ⟨[], [(2, [6, 7, 8])], [], [], true, []⟩
noncomputable def pack_Reader_Byte.l1.st (x : Sl) (H2 : Hp) : VS := ⟨mkFr 14 [(6, .v (.slice x.a x.len x.cap)), (7, .v (.int .i64 ((x.len : Nat) : Int))), (8, .v (.int .i64 0))], [], H2⟩
noncomputable def pack_Reader_Byte.l1 (J : Jn) (x : Sl) (H2 : Hp) (Q : Value → Hp → Prop) : Prop := vAt Try.prog pack_Reader_Byte.cf J pack_Reader_Byte.fn [1, 0, 1, 0] [0, 0, 0] Q (pack_Reader_Byte.l1.st x H2)
attribute [irreducible] pack_Reader_Byte.l1
noncomputable def pack_Reader_Byte.l1.body (J : Jn) (x : Sl) (H2 : Hp) (Q : Value → Hp → Prop) : Prop :=
 
 Br (decide ((0 : Int) < ((x.len : Nat) : Int))) (((0 : Int) ≤ 0 ∧ (0 : Int) < ((x.len : Nat) : Int)) ∧ vPtr x.a (fun a => ∃ x1 : Int, Hp.cell? H2 a = some (.int .u8 x1) ∧ Q (.int .u8 x1) H2))
 (Q (.int .u8 0) H2)
theorem pack_Reader_Byte.l1.eq (J : Jn) (x : Sl) (H2 : Hp) (Q : Value → Hp → Prop) : vAtBody Try.prog pack_Reader_Byte.cf J pack_Reader_Byte.fn [1, 0, 1, 0] [0, 0, 0] Q (pack_Reader_Byte.l1.st x H2) = pack_Reader_Byte.l1.body J x H2 Q := by kernel_rfl
theorem pack_Reader_Byte.l1.step {x : Sl} {H2 : Hp} {Q : Value → Hp → Prop} (h : pack_Reader_Byte.l1.body J0 x H2 Q) : pack_Reader_Byte.l1 J0 x H2 Q := vAt_stepC (pack_Reader_Byte.l1.st x H2) (pack_Reader_Byte.l1.eq J0 x H2 Q) (by kernel_rfl) h
noncomputable def pack_Reader_Byte.vc (J : Jn) (r : Addr) (H : Hp) (Q : Value → Hp → Prop) : Prop :=
 
 SCalls Try.prog pack_Reader_take.id [.pointer (some r), .int .i64 1] H (fun r1 H1 => ∃ x : Sl, r1 = .slice x.a x.len x.cap ∧ 
 pack_Reader_Byte.l1 J x H1 Q)
theorem pack_Reader_Byte.eq (J : Jn) (r : Addr) (H : Hp) (Q : Value → Hp → Prop) : vFn Try.prog pack_Reader_Byte.cf J pack_Reader_Byte.fn [.pointer (some r)] H Q = pack_Reader_Byte.vc J r H Q := by kernel_rfl
theorem pack_Reader_Byte.calls {r : Addr} {H : Hp} {Q : Value → Hp → Prop} (h : pack_Reader_Byte.vc J0 r H Q) : SCalls Try.prog pack_Reader_Byte.id [.pointer (some r)] H Q := vFn_of Try.mixed Try.func31 (pack_Reader_Byte.eq J0 r H Q) h

/-! 32: (*tephra/pack.Reader).Text -/
noncomputable def pack_Reader_Text.cf : Cfg := ⟨[], [], [], [], true, []⟩
noncomputable def pack_Reader_Text.vc (J : Jn) (r : Addr) (H : Hp) (Q : Value → Hp → Prop) : Prop :=
 
 SCalls Try.prog pack_Reader_Num.id [.pointer (some r)] H (fun r1 H1 => ∃ x : Int, r1 = .int .i64 x ∧ 
 SCalls Try.prog pack_Reader_take.id [.pointer (some r), .int .i64 x] H1 (fun r2 H2 => ∃ x1 : Sl, r2 = .slice x1.a x1.len x1.cap ∧ vB2S H2 x1.a x1.len (fun s => Q (.string s) H2)))
theorem pack_Reader_Text.eq (J : Jn) (r : Addr) (H : Hp) (Q : Value → Hp → Prop) : vFn Try.prog pack_Reader_Text.cf J pack_Reader_Text.fn [.pointer (some r)] H Q = pack_Reader_Text.vc J r H Q := by kernel_rfl
theorem pack_Reader_Text.calls {r : Addr} {H : Hp} {Q : Value → Hp → Prop} (h : pack_Reader_Text.vc J0 r H Q) : SCalls Try.prog pack_Reader_Text.id [.pointer (some r)] H Q := vFn_of Try.mixed Try.func32 (pack_Reader_Text.eq J0 r H Q) h

end Go.Proofs
