/- THE SEAT'S CODE, AS WALKED: for each function what is to be shown of it (printed by the own program gen.py), held by the kernel. -/
import Derived.Test.YtdfakiaehkfhnaaProg
import Derived.Test.YtdfakiaehkfhnaaKc13
set_option maxRecDepth 100000
set_option linter.all false
set_option linter.constructorNameAsVariable false
namespace Go.Proofs
open Go Go.KC
theorem Try.mixed : Try.prog.follows .mixedOrders = true := by kernel_rfl
abbrev tephralaw13_RlogMerge.id : Nat := 3
noncomputable abbrev tephralaw13_RlogMerge.fn : Func := Try.f3
abbrev tephralaw13_RlogNewer.id : Nat := 4
noncomputable abbrev tephralaw13_RlogNewer.fn : Func := Try.f4
abbrev tephralaw13_RlogRight.id : Nat := 5
noncomputable abbrev tephralaw13_RlogRight.fn : Func := Try.f5
abbrev tephralaw13_RlogAt.id : Nat := 6
noncomputable abbrev tephralaw13_RlogAt.fn : Func := Try.f6
abbrev tephralaw13_RlogAdd.id : Nat := 7
noncomputable abbrev tephralaw13_RlogAdd.fn : Func := Try.f7
abbrev tephralaw13_RlogPrefix.id : Nat := 8
noncomputable abbrev tephralaw13_RlogPrefix.fn : Func := Try.f8
abbrev tephralaw13_RlogCompact.id : Nat := 9
noncomputable abbrev tephralaw13_RlogCompact.fn : Func := Try.f9
abbrev tephralaw13_awake.id : Nat := 10
noncomputable abbrev tephralaw13_awake.fn : Func := Try.f10
abbrev tephralaw13_Some.id : Nat := 11
noncomputable abbrev tephralaw13_Some.fn : Func := Try.f11
abbrev tephralaw13_term.id : Nat := 12
noncomputable abbrev tephralaw13_term.fn : Func := Try.f12
abbrev tephralaw06_Entries.id : Nat := 13
noncomputable abbrev tephralaw06_Entries.fn : Func := Try.f13
abbrev rlog_Log_Merge.id : Nat := 14
noncomputable abbrev rlog_Log_Merge.fn : Func := Try.f14
abbrev tephralaw13_merge.id : Nat := 15
noncomputable abbrev tephralaw13_merge.fn : Func := Try.f15
abbrev tephralaw13_Same.id : Nat := 16
noncomputable abbrev tephralaw13_Same.fn : Func := Try.f16
abbrev rlog_Log_Newer.id : Nat := 17
noncomputable abbrev rlog_Log_Newer.fn : Func := Try.f17
abbrev rlog_Log_Last.id : Nat := 18
noncomputable abbrev rlog_Log_Last.fn : Func := Try.f18
abbrev rlog_Log_LastTerm.id : Nat := 19
noncomputable abbrev rlog_Log_LastTerm.fn : Func := Try.f19
abbrev rlog_Right.id : Nat := 20
noncomputable abbrev rlog_Right.fn : Func := Try.f20
abbrev rlog_Log_Clone.id : Nat := 21
noncomputable abbrev rlog_Log_Clone.fn : Func := Try.f21
abbrev cmds_Right.id : Nat := 22
noncomputable abbrev cmds_Right.fn : Func := Try.f22
abbrev rlog_Log_TermAt.id : Nat := 23
noncomputable abbrev rlog_Log_TermAt.fn : Func := Try.f23
abbrev rlog_Log_After.id : Nat := 24
noncomputable abbrev rlog_Log_After.fn : Func := Try.f24
abbrev rlog_Log_Add.id : Nat := 25
noncomputable abbrev rlog_Log_Add.fn : Func := Try.f25
abbrev tephralaw06_Say_Cmd.id : Nat := 26
noncomputable abbrev tephralaw06_Say_Cmd.fn : Func := Try.f26
abbrev rlog_Log_Compact.id : Nat := 27
noncomputable abbrev rlog_Log_Compact.fn : Func := Try.f27
abbrev cmds_Row.id : Nat := 28
noncomputable abbrev cmds_Row.fn : Func := Try.f28
abbrev slices_Clone_sl_api_Entry_api_Entry.id : Nat := 29
noncomputable abbrev slices_Clone_sl_api_Entry_api_Entry.fn : Func := Try.f29
abbrev cmds_May.id : Nat := 30
noncomputable abbrev cmds_May.fn : Func := Try.f30
abbrev T_ : Nat := 0
abbrev T_func : Nat := 1
abbrev T_int64 : Nat := 2
abbrev T_int : Nat := 3
abbrev T_bool : Nat := 4
abbrev T_uint8 : Nat := 5
abbrev T_abi_BoundsErrorCode : Nat := 6
abbrev T_struct_x_int64_y_int_signed_bool_code_abi_BoundsErrorCode : Nat := 7
abbrev T_runtime_boundsError : Nat := 8
abbrev T_string : Nat := 9
abbrev T_runtime_errorString : Nat := 10
abbrev T_runtime_plainError : Nat := 11
abbrev T_uintptr : Nat := 12
abbrev T_struct_msg_string_addr_uintptr : Nat := 13
abbrev T_runtime_errorAddressString : Nat := 14
abbrev T_p_runtime_TypeAssertionError : Nat := 15
abbrev T_p_runtime_PanicNilError : Nat := 16
abbrev T_p_abi_Type : Nat := 17
abbrev T_struct_typ_p_abi_Type : Nat := 18
abbrev T_maps_unhashableTypeError : Nat := 19
abbrev T_interface : Nat := 20
abbrev T_int32 : Nat := 21
abbrev T_sl_tephralaw06_Say : Nat := 22
abbrev T_int8 : Nat := 23
abbrev T_func_bool : Nat := 24
abbrev T_sl_api_Entry : Nat := 25
abbrev T_struct_Base_int_Term_int_Entries_sl_api_Entry : Nat := 26
abbrev T_rlog_Log : Nat := 27
abbrev T_func_sl_tephralaw06_Say_uint8_uint8_rlog_Log : Nat := 28
abbrev T_sl_int : Nat := 29
abbrev T_int_bool : Nat := 30
abbrev T_func_rlog_Log_int_int_bool : Nat := 31
abbrev T_func_sl_tephralaw06_Say_int_int_sl_api_Entry : Nat := 32
abbrev T_rlog_Log_bool : Nat := 33
abbrev T_func_int_int_sl_api_Entry_rlog_Log_bool : Nat := 34
abbrev T_func_rlog_Log_int_int_sl_api_Entry_rlog_Log_bool : Nat := 35
abbrev T_func_rlog_Log_rlog_Log_bool : Nat := 36
abbrev T_func_sl_tephralaw06_Say_sl_tephralaw06_Say_uint8_uint8_int8_ : Nat := 37
abbrev T_func_int_int_bool : Nat := 38
abbrev T_func_int : Nat := 39
abbrev T_func_sl_tephralaw06_Say_sl_tephralaw06_Say_uint8_uint8_bool : Nat := 40
abbrev T_api_Op : Nat := 41
abbrev T_struct_Op_api_Op_Client_int_Seq_int_Key_string_Value_string_ : Nat := 42
abbrev T_api_Cmd : Nat := 43
abbrev T_struct_Index_int_Term_int_Cmd_api_Cmd : Nat := 44
abbrev T_api_Entry : Nat := 45
abbrev T_func_rlog_Log_bool : Nat := 46
abbrev T_func_rlog_Log : Nat := 47
abbrev T_sl_rlog_Log : Nat := 48
abbrev T_func_api_Entry_bool : Nat := 49
abbrev T_func_rlog_Log_sl_tephralaw06_Say_uint8_uint8_uint8_api_Entry : Nat := 50
abbrev T_func_int_int_bool_51 : Nat := 51
abbrev T_sl_api_Entry_bool : Nat := 52
abbrev T_func_int_int_sl_api_Entry_bool : Nat := 53
abbrev T_func_sl_tephralaw06_Say_uint8_uint8_int8_int8_bool : Nat := 54
abbrev T_struct_Op_uint8_Client_uint8_Seq_uint8_Key_uint8_Value_uint8 : Nat := 55
abbrev T_tephralaw06_Say : Nat := 56
abbrev T_func_int_api_Cmd_rlog_Log : Nat := 57
abbrev T_func_api_Cmd : Nat := 58
abbrev T_func_sl_tephralaw06_Say_uint8_uint8_tephralaw06_Say_bool : Nat := 59
abbrev T_func_sl_tephralaw06_Say_sl_tephralaw06_Say_uint8_uint8_uint8 : Nat := 60
abbrev T_func_int_rlog_Log : Nat := 61
abbrev T_func_sl_api_Entry_int_bool : Nat := 62
abbrev T_func_sl_api_Entry_sl_api_Entry : Nat := 63
abbrev T_func_api_Cmd_bool : Nat := 64
abbrev T_func_string : Nat := 65
abbrev T_struct__interface_p_abi_Type_concrete_p_abi_Type_asserted_p_ : Nat := 66
abbrev T_runtime_TypeAssertionError : Nat := 67
abbrev T_0_p_runtime_PanicNilError : Nat := 68
abbrev T_struct___0_p_runtime_PanicNilError : Nat := 69
abbrev T_runtime_PanicNilError : Nat := 70
abbrev T_uint32 : Nat := 71
abbrev T_abi_TFlag : Nat := 72
abbrev T_abi_Kind : Nat := 73
abbrev T_func_unsafe_Pointer_unsafe_Pointer_bool : Nat := 74
abbrev T_p_uint8 : Nat := 75
abbrev T_abi_NameOff : Nat := 76
abbrev T_abi_TypeOff : Nat := 77
abbrev T_struct_Size__uintptr_PtrBytes_uintptr_Hash_uint32_TFlag_abi_ : Nat := 78
abbrev T_abi_Type : Nat := 79
abbrev T_unsafe_Pointer : Nat := 80

/-! 7: tephra/tephralaw13.RlogAdd -/
noncomputable def tephralaw13_RlogAdd.cf : Cfg := ⟨[7, 9, 10], [], [(5, [0, 1, 2, 7, 9, 10], false), (6, [0, 1, 2, 7, 9, 10, 11, 12], true)], [], true, [(4, [⟨0, 0, 512, 524288⟩, ⟨0, 0, 512, 1048576⟩, ⟨2, 1, 1048576, 2097152⟩, ⟨4, 0, 2097152, 4194304⟩, ⟨0, 0, 128, 8388608⟩, ⟨20, 1, 8388608, 16777216⟩, ⟨41, 1, 21495808, 33554432⟩, ⟨0, 0, 0, 1024⟩, ⟨255, 2, 33555456, 0⟩], .tk 0 1 (.tk 1 1 (.tk 4 1 (.alt 2 (.tk 3 2 (.alt 5 (.alt 6 (.alt 7 (.alt 8 (.fin) (.no)) (.no)) (.alt 7 (.alt 6 (.alt 8 (.fin) (.no)) (.no)) (.no))) (.alt 7 (.alt 5 (.alt 6 (.alt 8 (.fin) (.no)) (.no)) (.no)) (.no)))) (.alt 7 (.alt 2 (.tk 3 2 (.alt 5 (.alt 6 (.alt 8 (.fin) (.no)) (.no)) (.no))) (.no)) (.no)))))), (5, [⟨0, 0, 1024, 134217728⟩, ⟨0, 0, 512, 268435456⟩, ⟨2, 1, 268435456, 536870912⟩, ⟨5, 1, 671088640, 1073741824⟩, ⟨8, 0, 1073741824, 67108864⟩, ⟨16, 0, 67108864, 2147483648⟩, ⟨16, 0, 67108864, 4294967296⟩, ⟨63, 0, 2147483648, 2048⟩, ⟨255, 0, 4294967296, 4096⟩], .tk 0 1 (.tk 1 1 (.alt 2 (.alt 3 (.tk 4 2 (.tk 5 2 (.tk 6 2 (.tk 7 2 (.tk 8 2 (.fin)))))) (.no)) (.no)))), (6, [⟨0, 0, 4096, 8589934592⟩, ⟨1, 0, 8589934592, 17179869184⟩, ⟨2, 0, 17179871232, 34359738368⟩, ⟨6, 0, 51539607552, 68719476736⟩, ⟨10, 0, 85899345920, 137438953472⟩, ⟨18, 0, 154618822656, 274877906944⟩, ⟨34, 0, 274877906944, 549755813888⟩, ⟨64, 0, 549755815936, 1099511627776⟩, ⟨192, 0, 1649267441664, 2199023255552⟩, ⟨320, 0, 2748779069440, 4398046511104⟩, ⟨64, 0, 549755814400, 8796093022208⟩, ⟨1088, 1, 9345848836096, 17592186044416⟩, ⟨2112, 0, 18141941858304, 35184372088832⟩, ⟨64, 0, 549755814400, 70368744177664⟩, ⟨10304, 1, 70918499991552, 140737488355328⟩, ⟨16448, 0, 141287244169216, 281474976710656⟩, ⟨64, 0, 549755814016, 562949953421312⟩, ⟨81984, 1, 563499709235200, 1125899906842624⟩, ⟨168000, 0, 1443109011456000, 2251799813685248⟩, ⟨262720, 0, 2256747616010240, 4503599627370496⟩, ⟨524352, 0, 4504149383184384, 9007199254740992⟩, ⟨1179648, 0, 9007199254740992, 18014398509481984⟩, ⟨2097152, 0, 18014398509483008, 36028797018963968⟩, ⟨6291456, 1, 54043195528445952, 72057594037927936⟩, ⟨2097152, 0, 18014398509482496, 144115188075855872⟩, ⟨27262976, 1, 162129586585337856, 288230376151711744⟩, ⟨35651584, 0, 306244774661193728, 576460752303423488⟩, ⟨77594624, 0, 666532744850833408, 1152921504606846976⟩, ⟨136314880, 0, 1170935903116328960, 2305843009213693952⟩, ⟨301989888, 0, 2305843009213693952, 4611686018427387904⟩, ⟨536870912, 0, 4611686018427388928, 9223372036854775808⟩, ⟨536870912, 0, 4611686018427388928, 18446744073709551616⟩, ⟨2684354560, 1, 23058430092136939520, 36893488147419103232⟩, ⟨536870912, 0, 4611686018427388928, 73786976294838206464⟩, ⟨13421772800, 1, 78398662313265594368, 147573952589676412928⟩, ⟨23085449216, 1, 198302498792377679872, 295147905179352825856⟩, ⟨34896609280, 0, 299759591197780213760, 590295810358705651712⟩, ⟨103079215104, 0, 590295810358705651712, 1180591620717411303424⟩, ⟨137438953472, 0, 1180591620717411304448, 2361183241434822606848⟩, ⟨137438953472, 0, 1180591620717411303936, 4722366482869645213696⟩, ⟨687194767360, 1, 5902958103587056517120, 9444732965739290427392⟩, ⟨137438953472, 0, 1180591620717411303936, 18889465931478580854784⟩, ⟨3435973836800, 1, 20070057552195992158208, 37778931862957161709568⟩, ⟨5909874999296, 1, 50765439690848686047232, 75557863725914323419136⟩, ⟨8933531975680, 0, 76738455346631734722560, 151115727451828646838272⟩, ⟨17729624997888, 0, 152296319072546058141696, 302231454903657293676544⟩, ⟨43980465111040, 0, 302231454903657293676544, 604462909807314587353088⟩, ⟨70368744177664, 0, 604462909807314587353600, 1208925819614629174706176⟩, ⟨70368744177664, 0, 604462909807314587354112, 2417851639229258349412352⟩, ⟨351843720888320, 1, 3022314549036572936765440, 4835703278458516698824704⟩, ⟨70368744177664, 0, 604462909807314587354112, 9671406556917033397649408⟩, ⟨1759218604441600, 1, 10275869466724347985002496, 19342813113834066795298816⟩, ⟨3025855999639552, 1, 25991905121714527256182784, 38685626227668133590597632⟩, ⟨4573968371548160, 0, 39290089137475448177950720, 77371252455336267181195264⟩, ⟨13510798882111488, 0, 77371252455336267181195264, 154742504910672534362390528⟩, ⟨18014398509481984, 0, 154742504910672534362391040, 309485009821345068724781056⟩, ⟨18014398509481984, 0, 154742504910672534362390529, 618970019642690137449562112⟩, ⟨18014398509481984, 0, 154742504910672534362390530, 1237940039285380274899124224⟩, ⟨18014398509481984, 0, 154742504910672534362390532, 2475880078570760549798248448⟩, ⟨522417556774977536, 1, 4487532642409503496509325312, 4951760157141521099596496896⟩, ⟨630503947831869440, 1, 5415987671873538702683668480, 9903520314283042199192993792⟩, ⟨1170935903116328960, 0, 10058262819193714733555384320, 19807040628566084398385987584⟩, ⟨4611686018427387903, 0, 19807040628566084398385987584, 256⟩], .tk 0 2 (.tk 1 2 (.tk 2 2 (.tk 3 2 (.tk 4 2 (.tk 5 2 (.tk 6 2 (.tk 7 2 (.tk 8 2 (.tk 10 1 (.tk 13 1 (.tk 16 1 (.alt 9 (.alt 11 (.tk 12 2 (.alt 14 (.tk 15 2 (.alt 17 (.tk 18 2 (.tk 19 2 (.tk 20 2 (.tk 21 2 (.tk 22 1 (.tk 24 1 (.alt 23 (.alt 25 (.tk 26 2 (.tk 27 2 (.tk 28 2 (.tk 29 2 (.tk 30 1 (.tk 31 1 (.tk 33 1 (.alt 32 (.alt 34 (.alt 35 (.tk 36 2 (.tk 37 2 (.tk 38 1 (.tk 39 1 (.tk 41 1 (.alt 40 (.alt 42 (.alt 43 (.tk 44 2 (.tk 45 2 (.tk 46 2 (.tk 47 1 (.tk 48 1 (.tk 50 1 (.alt 49 (.alt 51 (.alt 52 (.tk 53 2 (.tk 54 2 (.tk 55 1 (.tk 56 2 (.tk 57 2 (.tk 58 2 (.alt 59 (.alt 60 (.tk 61 2 (.tk 62 2 (.fin))) (.no)) (.no)))))))) (.no)) (.no)) (.no)))))))) (.no)) (.no)) (.no))))))) (.no)) (.no)) (.no))))))))) (.no)) (.no)))))))) (.no))) (.no))) (.no)) (.alt 11 (.tk 12 2 (.alt 9 (.alt 14 (.tk 15 2 (.alt 17 (.tk 18 2 (.tk 19 2 (.tk 20 2 (.tk 21 2 (.tk 22 1 (.tk 24 1 (.alt 23 (.alt 25 (.tk 26 2 (.tk 27 2 (.tk 28 2 (.tk 29 2 (.tk 30 1 (.tk 31 1 (.tk 33 1 (.alt 32 (.alt 34 (.alt 35 (.tk 36 2 (.tk 37 2 (.tk 38 1 (.tk 39 1 (.tk 41 1 (.alt 40 (.alt 42 (.alt 43 (.tk 44 2 (.tk 45 2 (.tk 46 2 (.tk 47 1 (.tk 48 1 (.tk 50 1 (.alt 49 (.alt 51 (.alt 52 (.tk 53 2 (.tk 54 2 (.tk 55 1 (.tk 56 2 (.tk 57 2 (.tk 58 2 (.alt 59 (.alt 60 (.tk 61 2 (.tk 62 2 (.fin))) (.no)) (.no)))))))) (.no)) (.no)) (.no)))))))) (.no)) (.no)) (.no))))))) (.no)) (.no)) (.no))))))))) (.no)) (.no)))))))) (.no))) (.no)) (.alt 14 (.tk 15 2 (.alt 9 (.alt 17 (.tk 18 2 (.tk 19 2 (.tk 20 2 (.tk 21 2 (.tk 22 1 (.tk 24 1 (.alt 23 (.alt 25 (.tk 26 2 (.tk 27 2 (.tk 28 2 (.tk 29 2 (.tk 30 1 (.tk 31 1 (.tk 33 1 (.alt 32 (.alt 34 (.alt 35 (.tk 36 2 (.tk 37 2 (.tk 38 1 (.tk 39 1 (.tk 41 1 (.alt 40 (.alt 42 (.alt 43 (.tk 44 2 (.tk 45 2 (.tk 46 2 (.tk 47 1 (.tk 48 1 (.tk 50 1 (.alt 49 (.alt 51 (.alt 52 (.tk 53 2 (.tk 54 2 (.tk 55 1 (.tk 56 2 (.tk 57 2 (.tk 58 2 (.alt 59 (.alt 60 (.tk 61 2 (.tk 62 2 (.fin))) (.no)) (.no)))))))) (.no)) (.no)) (.no)))))))) (.no)) (.no)) (.no))))))) (.no)) (.no)) (.no))))))))) (.no)) (.no)))))))) (.no)) (.alt 17 (.tk 9 0 (.tk 18 2 (.tk 19 2 (.tk 20 2 (.tk 21 2 (.tk 22 1 (.tk 24 1 (.alt 23 (.alt 25 (.tk 26 2 (.tk 27 2 (.tk 28 2 (.tk 29 2 (.tk 30 1 (.tk 31 1 (.tk 33 1 (.alt 32 (.alt 34 (.alt 35 (.tk 36 2 (.tk 37 2 (.tk 38 1 (.tk 39 1 (.tk 41 1 (.alt 40 (.alt 42 (.alt 43 (.tk 44 2 (.tk 45 2 (.tk 46 2 (.tk 47 1 (.tk 48 1 (.tk 50 1 (.alt 49 (.alt 51 (.alt 52 (.tk 53 2 (.tk 54 2 (.tk 55 1 (.tk 56 2 (.tk 57 2 (.tk 58 2 (.alt 59 (.alt 60 (.tk 61 2 (.tk 62 2 (.fin))) (.no)) (.no)))))))) (.no)) (.no)) (.no)))))))) (.no)) (.no)) (.no))))))) (.no)) (.no)) (.no))))))))) (.no)) (.no))))))))) (.no)))) (.no)))) (.no)))))))))))))))]⟩
noncomputable def tephralaw13_RlogAdd.k1.st (says : Sl) (base : Int) (t : Int) (sOp : Int) (sClient : Int) (sSeq : Int) (sKey : Int) (sValue : Int) (sOld : Int) (Base : Int) (Term : Int) (Entries : Sl) (y : Int) (y1 : Int) (y2 : Sl) (H12 : Hp) : VS := ⟨mkFr 95 [(0, .v (.slice says.a says.len says.cap)), (1, .v (.int .u8 base)), (2, .v (.int .u8 t)), (7, .loc 0 0), (9, .loc 1 0), (10, .loc 2 0)], [(T_tephralaw06_Say, [.int .u8 sOp, .int .u8 sClient, .int .u8 sSeq, .int .u8 sKey, .int .u8 sValue, .int .u8 sOld]), (T_rlog_Log, [.int .i64 Base, .int .i64 Term, .slice Entries.a Entries.len Entries.cap]), (T_rlog_Log, [.int .i64 y, .int .i64 y1, .slice y2.a y2.len y2.cap])], H12⟩
noncomputable def tephralaw13_RlogAdd.k1 (J : Jn) (says : Sl) (base : Int) (t : Int) (sOp : Int) (sClient : Int) (sSeq : Int) (sKey : Int) (sValue : Int) (sOld : Int) (Base : Int) (Term : Int) (Entries : Sl) (y : Int) (y1 : Int) (y2 : Sl) (H12 : Hp) (Q : Value → Hp → Prop) : Prop := J (vSeg Try.prog tephralaw13_RlogAdd.cf J tephralaw13_RlogAdd.fn [1, 1, 1, 1] [0, 1, 1, 2] Q) (tephralaw13_RlogAdd.k1.st says base t sOp sClient sSeq sKey sValue sOld Base Term Entries y y1 y2 H12)
noncomputable def tephralaw13_RlogAdd.k2.st (says : Sl) (base : Int) (t : Int) (sOp : Int) (sClient : Int) (sSeq : Int) (sKey : Int) (sValue : Int) (sOld : Int) (Base : Int) (Term : Int) (Entries : Sl) (y : Int) (y1 : Int) (y2 : Sl) (H14 : Hp) (x4 : Sl) (x5 : Bool) : VS := ⟨mkFr 95 [(0, .v (.slice says.a says.len says.cap)), (1, .v (.int .u8 base)), (2, .v (.int .u8 t)), (7, .loc 0 0), (9, .loc 1 0), (10, .loc 2 0), (11, .v (.slice x4.a x4.len x4.cap)), (12, .v (.bool x5))], [(T_tephralaw06_Say, [.int .u8 sOp, .int .u8 sClient, .int .u8 sSeq, .int .u8 sKey, .int .u8 sValue, .int .u8 sOld]), (T_rlog_Log, [.int .i64 Base, .int .i64 Term, .slice Entries.a Entries.len Entries.cap]), (T_rlog_Log, [.int .i64 y, .int .i64 y1, .slice y2.a y2.len y2.cap])], H14⟩
noncomputable def tephralaw13_RlogAdd.k2 (J : Jn) (says : Sl) (base : Int) (t : Int) (sOp : Int) (sClient : Int) (sSeq : Int) (sKey : Int) (sValue : Int) (sOld : Int) (Base : Int) (Term : Int) (Entries : Sl) (y : Int) (y1 : Int) (y2 : Sl) (H14 : Hp) (x4 : Sl) (x5 : Bool) (Q : Value → Hp → Prop) : Prop := J (vSeg Try.prog tephralaw13_RlogAdd.cf J tephralaw13_RlogAdd.fn [1, 1, 1, 1, 1] [0, 1, 1, 2, 3] Q) (tephralaw13_RlogAdd.k2.st says base t sOp sClient sSeq sKey sValue sOld Base Term Entries y y1 y2 H14 x4 x5)
attribute [irreducible] tephralaw13_RlogAdd.k1 tephralaw13_RlogAdd.k2
noncomputable def tephralaw13_RlogAdd.k1.body (J : Jn) (says : Sl) (base : Int) (t : Int) (sOp : Int) (sClient : Int) (sSeq : Int) (sKey : Int) (sValue : Int) (sOld : Int) (Base : Int) (Term : Int) (Entries : Sl) (y : Int) (y1 : Int) (y2 : Sl) (H12 : Hp) (Q : Value → Hp → Prop) : Prop :=
 
 SCalls Try.prog rlog_Log_Last.id [.agg #[.int .i64 Base, .int .i64 Term, .slice Entries.a Entries.len Entries.cap]] H12 (fun r11 H13 => ∃ x3 : Int, r11 = .int .i64 x3 ∧ 
 SCalls Try.prog rlog_Log_After.id [.agg #[.int .i64 y, .int .i64 y1, .slice y2.a y2.len y2.cap], .int .i64 x3, .int .i64 5] H13 (fun r12 H14 => ∃ x4 : Sl, ∃ x5 : Bool, r12 = .tuple #[.slice x4.a x4.len x4.cap, .bool x5] ∧ 
 tephralaw13_RlogAdd.k2 J says base t sOp sClient sSeq sKey sValue sOld Base Term Entries y y1 y2 H14 x4 x5 Q))
theorem tephralaw13_RlogAdd.k1.eq (J : Jn) (says : Sl) (base : Int) (t : Int) (sOp : Int) (sClient : Int) (sSeq : Int) (sKey : Int) (sValue : Int) (sOld : Int) (Base : Int) (Term : Int) (Entries : Sl) (y : Int) (y1 : Int) (y2 : Sl) (H12 : Hp) (Q : Value → Hp → Prop) : vSeg Try.prog tephralaw13_RlogAdd.cf J tephralaw13_RlogAdd.fn [1, 1, 1, 1] [0, 1, 1, 2] Q (tephralaw13_RlogAdd.k1.st says base t sOp sClient sSeq sKey sValue sOld Base Term Entries y y1 y2 H12) = tephralaw13_RlogAdd.k1.body J says base t sOp sClient sSeq sKey sValue sOld Base Term Entries y y1 y2 H12 Q := by kernel_rfl
theorem tephralaw13_RlogAdd.k1.step {says : Sl} {base : Int} {t : Int} {sOp : Int} {sClient : Int} {sSeq : Int} {sKey : Int} {sValue : Int} {sOld : Int} {Base : Int} {Term : Int} {Entries : Sl} {y : Int} {y1 : Int} {y2 : Sl} {H12 : Hp} {Q : Value → Hp → Prop} (h : tephralaw13_RlogAdd.k1.body J0 says base t sOp sClient sSeq sKey sValue sOld Base Term Entries y y1 y2 H12 Q) : tephralaw13_RlogAdd.k1 J0 says base t sOp sClient sSeq sKey sValue sOld Base Term Entries y y1 y2 H12 Q := step_of (vSeg Try.prog tephralaw13_RlogAdd.cf J0 tephralaw13_RlogAdd.fn [1, 1, 1, 1] [0, 1, 1, 2] Q) (tephralaw13_RlogAdd.k1.st says base t sOp sClient sSeq sKey sValue sOld Base Term Entries y y1 y2 H12) (tephralaw13_RlogAdd.k1.eq J0 says base t sOp sClient sSeq sKey sValue sOld Base Term Entries y y1 y2 H12 Q) (by kernel_rfl) h
noncomputable def tephralaw13_RlogAdd.k2.body (J : Jn) (says : Sl) (base : Int) (t : Int) (sOp : Int) (sClient : Int) (sSeq : Int) (sKey : Int) (sValue : Int) (sOld : Int) (Base : Int) (Term : Int) (Entries : Sl) (y : Int) (y1 : Int) (y2 : Sl) (H14 : Hp) (x4 : Sl) (x5 : Bool) (Q : Value → Hp → Prop) : Prop :=
 
 Br x5 (
 Br (((x4.len : Nat) : Int) == 1) (((0 : Int) ≤ 0 ∧ (0 : Int) < ((x4.len : Nat) : Int)) ∧ vPtr x4.a (fun a => 
  (∃ Index : Int, ∃ Term5 : Int, ∃ CmdOp : Int, ∃ CmdClient : Int, ∃ CmdSeq : Int, ∃ CmdKey : ByteArray, ∃ CmdValue : ByteArray, ∃ CmdOld : ByteArray, RowAt H14 a [.int .i64 Index, .int .i64 Term5, .int .i64 CmdOp, .int .i64 CmdClient, .int .i64 CmdSeq, .string CmdKey, .string CmdValue, .string CmdOld] ∧ 
 SCalls Try.prog rlog_Log_Last.id [.agg #[.int .i64 Base, .int .i64 Term, .slice Entries.a Entries.len Entries.cap]] H14 (fun r13 H15 => ∃ x6 : Int, r13 = .int .i64 x6 ∧ 
 SCalls Try.prog rlog_Log_LastTerm.id [.agg #[.int .i64 Base, .int .i64 Term, .slice Entries.a Entries.len Entries.cap]] H15 (fun r14 H16 => ∃ x7 : Int, r14 = .int .i64 x7 ∧ 
 SCalls Try.prog tephralaw06_Say_Cmd.id [.agg #[.int .u8 sOp, .int .u8 sClient, .int .u8 sSeq, .int .u8 sKey, .int .u8 sValue, .int .u8 sOld]] H16 (fun r15 H17 => ∃ Opv3 : Int, ∃ Client3 : Int, ∃ Seq3 : Int, ∃ Key3 : ByteArray, ∃ Valuev3 : ByteArray, ∃ Old3 : ByteArray, r15 = .agg #[.int .i64 Opv3, .int .i64 Client3, .int .i64 Seq3, .string Key3, .string Valuev3, .string Old3] ∧ 
 Br ((Index == (w64 (x6 + 1))) && ((Term5 == (w64 (x7 + 1))) && (((CmdOp == Opv3) && ((CmdClient == Client3) && ((CmdSeq == Seq3) && ((CmdKey == Key3) && ((CmdValue == Valuev3) && ((CmdOld == Old3) && true)))))) && true))) (
 SCalls Try.prog rlog_Log_Last.id [.agg #[.int .i64 y, .int .i64 y1, .slice y2.a y2.len y2.cap]] H17 (fun r16 H18 => ∃ x8 : Int, r16 = .int .i64 x8 ∧ 
 SCalls Try.prog rlog_Log_Last.id [.agg #[.int .i64 Base, .int .i64 Term, .slice Entries.a Entries.len Entries.cap]] H18 (fun r17 H19 => ∃ x9 : Int, r17 = .int .i64 x9 ∧ 
 Br (x8 == (w64 (x9 + 1))) (
 SCalls Try.prog rlog_Log_Last.id [.agg #[.int .i64 y, .int .i64 y1, .slice y2.a y2.len y2.cap]] H19 (fun r18 H20 => ∃ x10 : Int, r18 = .int .i64 x10 ∧ 
 SCalls Try.prog rlog_Log_LastTerm.id [.agg #[.int .i64 y, .int .i64 y1, .slice y2.a y2.len y2.cap]] H20 (fun r19 H21 => ∃ x11 : Int, r19 = .int .i64 x11 ∧ 
 SCalls Try.prog rlog_Log_Newer.id [.agg #[.int .i64 y, .int .i64 y1, .slice y2.a y2.len y2.cap], .int .i64 x10, .int .i64 x11] H21 (fun r20 H22 => ∃ x12 : Bool, r20 = .bool x12 ∧ 
 Br x12 (
 SCalls Try.prog rlog_Log_Last.id [.agg #[.int .i64 Base, .int .i64 Term, .slice Entries.a Entries.len Entries.cap]] H22 (fun r21 H23 => ∃ x13 : Int, r21 = .int .i64 x13 ∧ 
 SCalls Try.prog rlog_Log_LastTerm.id [.agg #[.int .i64 Base, .int .i64 Term, .slice Entries.a Entries.len Entries.cap]] H23 (fun r22 H24 => ∃ x14 : Int, r22 = .int .i64 x14 ∧ 
 SCalls Try.prog rlog_Log_Newer.id [.agg #[.int .i64 y, .int .i64 y1, .slice y2.a y2.len y2.cap], .int .i64 x13, .int .i64 x14] H24 (fun r23 H25 => ∃ x15 : Bool, r23 = .bool x15 ∧ 
 Br (!x15) (
 SCalls Try.prog rlog_Log_Last.id [.agg #[.int .i64 y, .int .i64 y1, .slice y2.a y2.len y2.cap]] H25 (fun r24 H26 => ∃ x16 : Int, r24 = .int .i64 x16 ∧ 
 SCalls Try.prog rlog_Log_LastTerm.id [.agg #[.int .i64 y, .int .i64 y1, .slice y2.a y2.len y2.cap]] H26 (fun r25 H27 => ∃ x17 : Int, r25 = .int .i64 x17 ∧ 
 SCalls Try.prog rlog_Log_Newer.id [.agg #[.int .i64 Base, .int .i64 Term, .slice Entries.a Entries.len Entries.cap], .int .i64 x16, .int .i64 x17] H27 (fun r26 H28 => ∃ x18 : Bool, r26 = .bool x18 ∧ 
 Br x18 (
 SCalls Try.prog tephralaw13_Some.id [.slice says.a says.len says.cap, .int .u8 base, .int .u8 t] H28 (fun r27 H29 => ∃ Base5 : Int, ∃ Term6 : Int, ∃ Entries5 : Sl, r27 = .agg #[.int .i64 Base5, .int .i64 Term6, .slice Entries5.a Entries5.len Entries5.cap] ∧ 
 SCalls Try.prog tephralaw13_Same.id [.agg #[.int .i64 Base, .int .i64 Term, .slice Entries.a Entries.len Entries.cap], .agg #[.int .i64 Base5, .int .i64 Term6, .slice Entries5.a Entries5.len Entries5.cap]] H29 (fun r28 H30 => ∃ x19 : Bool, r28 = .bool x19 ∧ Q (.bool x19) H30)))
 (Q (.bool false) H28)))))
 (Q (.bool false) H25)))))
 (Q (.bool false) H22)))))
 (Q (.bool false) H19))))
 (Q (.bool false) H17))))) ∧ 
  (
 SCalls Try.prog rlog_Log_Last.id [.agg #[.int .i64 Base, .int .i64 Term, .slice Entries.a Entries.len Entries.cap]] H14 (fun r29 H31 => ∃ x20 : Int, r29 = .int .i64 x20 ∧ 
  (∃ Index1 : Int, ∃ Term7 : Int, ∃ CmdOp1 : Int, ∃ CmdClient1 : Int, ∃ CmdSeq1 : Int, ∃ CmdKey1 : ByteArray, ∃ CmdValue1 : ByteArray, ∃ CmdOld1 : ByteArray, RowAt H31 a [.int .i64 Index1, .int .i64 Term7, .int .i64 CmdOp1, .int .i64 CmdClient1, .int .i64 CmdSeq1, .string CmdKey1, .string CmdValue1, .string CmdOld1] ∧ 
 SCalls Try.prog rlog_Log_LastTerm.id [.agg #[.int .i64 Base, .int .i64 Term, .slice Entries.a Entries.len Entries.cap]] H31 (fun r30 H32 => ∃ x21 : Int, r30 = .int .i64 x21 ∧ 
 SCalls Try.prog tephralaw06_Say_Cmd.id [.agg #[.int .u8 sOp, .int .u8 sClient, .int .u8 sSeq, .int .u8 sKey, .int .u8 sValue, .int .u8 sOld]] H32 (fun r31 H33 => ∃ Opv4 : Int, ∃ Client4 : Int, ∃ Seq4 : Int, ∃ Key4 : ByteArray, ∃ Valuev4 : ByteArray, ∃ Old4 : ByteArray, r31 = .agg #[.int .i64 Opv4, .int .i64 Client4, .int .i64 Seq4, .string Key4, .string Valuev4, .string Old4] ∧ 
 Br ((Index1 == (w64 (x20 + 1))) && ((Term7 == (w64 (x21 + 1))) && (((CmdOp1 == Opv4) && ((CmdClient1 == Client4) && ((CmdSeq1 == Seq4) && ((CmdKey1 == Key4) && ((CmdValue1 == Valuev4) && ((CmdOld1 == Old4) && true)))))) && true))) (
 SCalls Try.prog rlog_Log_Last.id [.agg #[.int .i64 y, .int .i64 y1, .slice y2.a y2.len y2.cap]] H33 (fun r32 H34 => ∃ x22 : Int, r32 = .int .i64 x22 ∧ 
 SCalls Try.prog rlog_Log_Last.id [.agg #[.int .i64 Base, .int .i64 Term, .slice Entries.a Entries.len Entries.cap]] H34 (fun r33 H35 => ∃ x23 : Int, r33 = .int .i64 x23 ∧ 
 Br (x22 == (w64 (x23 + 1))) (
 SCalls Try.prog rlog_Log_Last.id [.agg #[.int .i64 y, .int .i64 y1, .slice y2.a y2.len y2.cap]] H35 (fun r34 H36 => ∃ x24 : Int, r34 = .int .i64 x24 ∧ 
 SCalls Try.prog rlog_Log_LastTerm.id [.agg #[.int .i64 y, .int .i64 y1, .slice y2.a y2.len y2.cap]] H36 (fun r35 H37 => ∃ x25 : Int, r35 = .int .i64 x25 ∧ 
 SCalls Try.prog rlog_Log_Newer.id [.agg #[.int .i64 y, .int .i64 y1, .slice y2.a y2.len y2.cap], .int .i64 x24, .int .i64 x25] H37 (fun r36 H38 => ∃ x26 : Bool, r36 = .bool x26 ∧ 
 Br x26 (
 SCalls Try.prog rlog_Log_Last.id [.agg #[.int .i64 Base, .int .i64 Term, .slice Entries.a Entries.len Entries.cap]] H38 (fun r37 H39 => ∃ x27 : Int, r37 = .int .i64 x27 ∧ 
 SCalls Try.prog rlog_Log_LastTerm.id [.agg #[.int .i64 Base, .int .i64 Term, .slice Entries.a Entries.len Entries.cap]] H39 (fun r38 H40 => ∃ x28 : Int, r38 = .int .i64 x28 ∧ 
 SCalls Try.prog rlog_Log_Newer.id [.agg #[.int .i64 y, .int .i64 y1, .slice y2.a y2.len y2.cap], .int .i64 x27, .int .i64 x28] H40 (fun r39 H41 => ∃ x29 : Bool, r39 = .bool x29 ∧ 
 Br (!x29) (
 SCalls Try.prog rlog_Log_Last.id [.agg #[.int .i64 y, .int .i64 y1, .slice y2.a y2.len y2.cap]] H41 (fun r40 H42 => ∃ x30 : Int, r40 = .int .i64 x30 ∧ 
 SCalls Try.prog rlog_Log_LastTerm.id [.agg #[.int .i64 y, .int .i64 y1, .slice y2.a y2.len y2.cap]] H42 (fun r41 H43 => ∃ x31 : Int, r41 = .int .i64 x31 ∧ 
 SCalls Try.prog rlog_Log_Newer.id [.agg #[.int .i64 Base, .int .i64 Term, .slice Entries.a Entries.len Entries.cap], .int .i64 x30, .int .i64 x31] H43 (fun r42 H44 => ∃ x32 : Bool, r42 = .bool x32 ∧ 
 Br x32 (
 SCalls Try.prog tephralaw13_Some.id [.slice says.a says.len says.cap, .int .u8 base, .int .u8 t] H44 (fun r43 H45 => ∃ Base6 : Int, ∃ Term8 : Int, ∃ Entries6 : Sl, r43 = .agg #[.int .i64 Base6, .int .i64 Term8, .slice Entries6.a Entries6.len Entries6.cap] ∧ 
 SCalls Try.prog tephralaw13_Same.id [.agg #[.int .i64 Base, .int .i64 Term, .slice Entries.a Entries.len Entries.cap], .agg #[.int .i64 Base6, .int .i64 Term8, .slice Entries6.a Entries6.len Entries6.cap]] H45 (fun r44 H46 => ∃ x33 : Bool, r44 = .bool x33 ∧ Q (.bool x33) H46)))
 (Q (.bool false) H44)))))
 (Q (.bool false) H41)))))
 (Q (.bool false) H38)))))
 (Q (.bool false) H35))))
 (Q (.bool false) H33)))) ∧ 
  (
 SCalls Try.prog rlog_Log_LastTerm.id [.agg #[.int .i64 Base, .int .i64 Term, .slice Entries.a Entries.len Entries.cap]] H31 (fun r45 H47 => ∃ x34 : Int, r45 = .int .i64 x34 ∧ 
  (∃ Index2 : Int, ∃ Term9 : Int, ∃ CmdOp2 : Int, ∃ CmdClient2 : Int, ∃ CmdSeq2 : Int, ∃ CmdKey2 : ByteArray, ∃ CmdValue2 : ByteArray, ∃ CmdOld2 : ByteArray, RowAt H47 a [.int .i64 Index2, .int .i64 Term9, .int .i64 CmdOp2, .int .i64 CmdClient2, .int .i64 CmdSeq2, .string CmdKey2, .string CmdValue2, .string CmdOld2] ∧ 
 SCalls Try.prog tephralaw06_Say_Cmd.id [.agg #[.int .u8 sOp, .int .u8 sClient, .int .u8 sSeq, .int .u8 sKey, .int .u8 sValue, .int .u8 sOld]] H47 (fun r46 H48 => ∃ Opv5 : Int, ∃ Client5 : Int, ∃ Seq5 : Int, ∃ Key5 : ByteArray, ∃ Valuev5 : ByteArray, ∃ Old5 : ByteArray, r46 = .agg #[.int .i64 Opv5, .int .i64 Client5, .int .i64 Seq5, .string Key5, .string Valuev5, .string Old5] ∧ 
 Br ((Index2 == (w64 (x20 + 1))) && ((Term9 == (w64 (x34 + 1))) && (((CmdOp2 == Opv5) && ((CmdClient2 == Client5) && ((CmdSeq2 == Seq5) && ((CmdKey2 == Key5) && ((CmdValue2 == Valuev5) && ((CmdOld2 == Old5) && true)))))) && true))) (
 SCalls Try.prog rlog_Log_Last.id [.agg #[.int .i64 y, .int .i64 y1, .slice y2.a y2.len y2.cap]] H48 (fun r47 H49 => ∃ x35 : Int, r47 = .int .i64 x35 ∧ 
 SCalls Try.prog rlog_Log_Last.id [.agg #[.int .i64 Base, .int .i64 Term, .slice Entries.a Entries.len Entries.cap]] H49 (fun r48 H50 => ∃ x36 : Int, r48 = .int .i64 x36 ∧ 
 Br (x35 == (w64 (x36 + 1))) (
 SCalls Try.prog rlog_Log_Last.id [.agg #[.int .i64 y, .int .i64 y1, .slice y2.a y2.len y2.cap]] H50 (fun r49 H51 => ∃ x37 : Int, r49 = .int .i64 x37 ∧ 
 SCalls Try.prog rlog_Log_LastTerm.id [.agg #[.int .i64 y, .int .i64 y1, .slice y2.a y2.len y2.cap]] H51 (fun r50 H52 => ∃ x38 : Int, r50 = .int .i64 x38 ∧ 
 SCalls Try.prog rlog_Log_Newer.id [.agg #[.int .i64 y, .int .i64 y1, .slice y2.a y2.len y2.cap], .int .i64 x37, .int .i64 x38] H52 (fun r51 H53 => ∃ x39 : Bool, r51 = .bool x39 ∧ 
 Br x39 (
 SCalls Try.prog rlog_Log_Last.id [.agg #[.int .i64 Base, .int .i64 Term, .slice Entries.a Entries.len Entries.cap]] H53 (fun r52 H54 => ∃ x40 : Int, r52 = .int .i64 x40 ∧ 
 SCalls Try.prog rlog_Log_LastTerm.id [.agg #[.int .i64 Base, .int .i64 Term, .slice Entries.a Entries.len Entries.cap]] H54 (fun r53 H55 => ∃ x41 : Int, r53 = .int .i64 x41 ∧ 
 SCalls Try.prog rlog_Log_Newer.id [.agg #[.int .i64 y, .int .i64 y1, .slice y2.a y2.len y2.cap], .int .i64 x40, .int .i64 x41] H55 (fun r54 H56 => ∃ x42 : Bool, r54 = .bool x42 ∧ 
 Br (!x42) (
 SCalls Try.prog rlog_Log_Last.id [.agg #[.int .i64 y, .int .i64 y1, .slice y2.a y2.len y2.cap]] H56 (fun r55 H57 => ∃ x43 : Int, r55 = .int .i64 x43 ∧ 
 SCalls Try.prog rlog_Log_LastTerm.id [.agg #[.int .i64 y, .int .i64 y1, .slice y2.a y2.len y2.cap]] H57 (fun r56 H58 => ∃ x44 : Int, r56 = .int .i64 x44 ∧ 
 SCalls Try.prog rlog_Log_Newer.id [.agg #[.int .i64 Base, .int .i64 Term, .slice Entries.a Entries.len Entries.cap], .int .i64 x43, .int .i64 x44] H58 (fun r57 H59 => ∃ x45 : Bool, r57 = .bool x45 ∧ 
 Br x45 (
 SCalls Try.prog tephralaw13_Some.id [.slice says.a says.len says.cap, .int .u8 base, .int .u8 t] H59 (fun r58 H60 => ∃ Base7 : Int, ∃ Term10 : Int, ∃ Entries7 : Sl, r58 = .agg #[.int .i64 Base7, .int .i64 Term10, .slice Entries7.a Entries7.len Entries7.cap] ∧ 
 SCalls Try.prog tephralaw13_Same.id [.agg #[.int .i64 Base, .int .i64 Term, .slice Entries.a Entries.len Entries.cap], .agg #[.int .i64 Base7, .int .i64 Term10, .slice Entries7.a Entries7.len Entries7.cap]] H60 (fun r59 H61 => ∃ x46 : Bool, r59 = .bool x46 ∧ Q (.bool x46) H61)))
 (Q (.bool false) H59)))))
 (Q (.bool false) H56)))))
 (Q (.bool false) H53)))))
 (Q (.bool false) H50))))
 (Q (.bool false) H48))) ∧ 
  (
 SCalls Try.prog tephralaw06_Say_Cmd.id [.agg #[.int .u8 sOp, .int .u8 sClient, .int .u8 sSeq, .int .u8 sKey, .int .u8 sValue, .int .u8 sOld]] H47 (fun r60 H62 => ∃ Opv6 : Int, ∃ Client6 : Int, ∃ Seq6 : Int, ∃ Key6 : ByteArray, ∃ Valuev6 : ByteArray, ∃ Old6 : ByteArray, r60 = .agg #[.int .i64 Opv6, .int .i64 Client6, .int .i64 Seq6, .string Key6, .string Valuev6, .string Old6] ∧ ∃ Index3 : Int, ∃ Term11 : Int, ∃ CmdOp3 : Int, ∃ CmdClient3 : Int, ∃ CmdSeq3 : Int, ∃ CmdKey3 : ByteArray, ∃ CmdValue3 : ByteArray, ∃ CmdOld3 : ByteArray, RowAt H62 a [.int .i64 Index3, .int .i64 Term11, .int .i64 CmdOp3, .int .i64 CmdClient3, .int .i64 CmdSeq3, .string CmdKey3, .string CmdValue3, .string CmdOld3] ∧ 
 Br ((Index3 == (w64 (x20 + 1))) && ((Term11 == (w64 (x34 + 1))) && (((CmdOp3 == Opv6) && ((CmdClient3 == Client6) && ((CmdSeq3 == Seq6) && ((CmdKey3 == Key6) && ((CmdValue3 == Valuev6) && ((CmdOld3 == Old6) && true)))))) && true))) (
 SCalls Try.prog rlog_Log_Last.id [.agg #[.int .i64 y, .int .i64 y1, .slice y2.a y2.len y2.cap]] H62 (fun r61 H63 => ∃ x47 : Int, r61 = .int .i64 x47 ∧ 
 SCalls Try.prog rlog_Log_Last.id [.agg #[.int .i64 Base, .int .i64 Term, .slice Entries.a Entries.len Entries.cap]] H63 (fun r62 H64 => ∃ x48 : Int, r62 = .int .i64 x48 ∧ 
 Br (x47 == (w64 (x48 + 1))) (
 SCalls Try.prog rlog_Log_Last.id [.agg #[.int .i64 y, .int .i64 y1, .slice y2.a y2.len y2.cap]] H64 (fun r63 H65 => ∃ x49 : Int, r63 = .int .i64 x49 ∧ 
 SCalls Try.prog rlog_Log_LastTerm.id [.agg #[.int .i64 y, .int .i64 y1, .slice y2.a y2.len y2.cap]] H65 (fun r64 H66 => ∃ x50 : Int, r64 = .int .i64 x50 ∧ 
 SCalls Try.prog rlog_Log_Newer.id [.agg #[.int .i64 y, .int .i64 y1, .slice y2.a y2.len y2.cap], .int .i64 x49, .int .i64 x50] H66 (fun r65 H67 => ∃ x51 : Bool, r65 = .bool x51 ∧ 
 Br x51 (
 SCalls Try.prog rlog_Log_Last.id [.agg #[.int .i64 Base, .int .i64 Term, .slice Entries.a Entries.len Entries.cap]] H67 (fun r66 H68 => ∃ x52 : Int, r66 = .int .i64 x52 ∧ 
 SCalls Try.prog rlog_Log_LastTerm.id [.agg #[.int .i64 Base, .int .i64 Term, .slice Entries.a Entries.len Entries.cap]] H68 (fun r67 H69 => ∃ x53 : Int, r67 = .int .i64 x53 ∧ 
 SCalls Try.prog rlog_Log_Newer.id [.agg #[.int .i64 y, .int .i64 y1, .slice y2.a y2.len y2.cap], .int .i64 x52, .int .i64 x53] H69 (fun r68 H70 => ∃ x54 : Bool, r68 = .bool x54 ∧ 
 Br (!x54) (
 SCalls Try.prog rlog_Log_Last.id [.agg #[.int .i64 y, .int .i64 y1, .slice y2.a y2.len y2.cap]] H70 (fun r69 H71 => ∃ x55 : Int, r69 = .int .i64 x55 ∧ 
 SCalls Try.prog rlog_Log_LastTerm.id [.agg #[.int .i64 y, .int .i64 y1, .slice y2.a y2.len y2.cap]] H71 (fun r70 H72 => ∃ x56 : Int, r70 = .int .i64 x56 ∧ 
 SCalls Try.prog rlog_Log_Newer.id [.agg #[.int .i64 Base, .int .i64 Term, .slice Entries.a Entries.len Entries.cap], .int .i64 x55, .int .i64 x56] H72 (fun r71 H73 => ∃ x57 : Bool, r71 = .bool x57 ∧ 
 Br x57 (
 SCalls Try.prog tephralaw13_Some.id [.slice says.a says.len says.cap, .int .u8 base, .int .u8 t] H73 (fun r72 H74 => ∃ Base8 : Int, ∃ Term12 : Int, ∃ Entries8 : Sl, r72 = .agg #[.int .i64 Base8, .int .i64 Term12, .slice Entries8.a Entries8.len Entries8.cap] ∧ 
 SCalls Try.prog tephralaw13_Same.id [.agg #[.int .i64 Base, .int .i64 Term, .slice Entries.a Entries.len Entries.cap], .agg #[.int .i64 Base8, .int .i64 Term12, .slice Entries8.a Entries8.len Entries8.cap]] H74 (fun r73 H75 => ∃ x58 : Bool, r73 = .bool x58 ∧ Q (.bool x58) H75)))
 (Q (.bool false) H73)))))
 (Q (.bool false) H70)))))
 (Q (.bool false) H67)))))
 (Q (.bool false) H64))))
 (Q (.bool false) H62)))))))))
 (
  (Q (.bool false) H14) ∧ 
  (
  (Q (.bool false) H14) ∧ 
  (
  (Q (.bool false) H14) ∧ 
  (Q (.bool false) H14)))))
 (
  (Q (.bool false) H14) ∧ 
  (
  (Q (.bool false) H14) ∧ 
  (
  (Q (.bool false) H14) ∧ 
  (Q (.bool false) H14))))
theorem tephralaw13_RlogAdd.k2.eq (J : Jn) (says : Sl) (base : Int) (t : Int) (sOp : Int) (sClient : Int) (sSeq : Int) (sKey : Int) (sValue : Int) (sOld : Int) (Base : Int) (Term : Int) (Entries : Sl) (y : Int) (y1 : Int) (y2 : Sl) (H14 : Hp) (x4 : Sl) (x5 : Bool) (Q : Value → Hp → Prop) : vSeg Try.prog tephralaw13_RlogAdd.cf J tephralaw13_RlogAdd.fn [1, 1, 1, 1, 1] [0, 1, 1, 2, 3] Q (tephralaw13_RlogAdd.k2.st says base t sOp sClient sSeq sKey sValue sOld Base Term Entries y y1 y2 H14 x4 x5) = tephralaw13_RlogAdd.k2.body J says base t sOp sClient sSeq sKey sValue sOld Base Term Entries y y1 y2 H14 x4 x5 Q := by kernel_rfl
theorem tephralaw13_RlogAdd.k2.step {says : Sl} {base : Int} {t : Int} {sOp : Int} {sClient : Int} {sSeq : Int} {sKey : Int} {sValue : Int} {sOld : Int} {Base : Int} {Term : Int} {Entries : Sl} {y : Int} {y1 : Int} {y2 : Sl} {H14 : Hp} {x4 : Sl} {x5 : Bool} {Q : Value → Hp → Prop} (h : tephralaw13_RlogAdd.k2.body J0 says base t sOp sClient sSeq sKey sValue sOld Base Term Entries y y1 y2 H14 x4 x5 Q) : tephralaw13_RlogAdd.k2 J0 says base t sOp sClient sSeq sKey sValue sOld Base Term Entries y y1 y2 H14 x4 x5 Q := step_of (vSeg Try.prog tephralaw13_RlogAdd.cf J0 tephralaw13_RlogAdd.fn [1, 1, 1, 1, 1] [0, 1, 1, 2, 3] Q) (tephralaw13_RlogAdd.k2.st says base t sOp sClient sSeq sKey sValue sOld Base Term Entries y y1 y2 H14 x4 x5) (tephralaw13_RlogAdd.k2.eq J0 says base t sOp sClient sSeq sKey sValue sOld Base Term Entries y y1 y2 H14 x4 x5 Q) (by kernel_rfl) h
noncomputable def tephralaw13_RlogAdd.vc (J : Jn) (says : Sl) (base : Int) (t : Int) (sOp : Int) (sClient : Int) (sSeq : Int) (sKey : Int) (sValue : Int) (sOld : Int) (H : Hp) (Q : Value → Hp → Prop) : Prop :=
 
 SCalls Try.prog tephralaw13_awake.id [] (holes H 1) (fun r H1 => ∃ x : Bool, r = .bool x ∧ 
 Br (!x) (Q (.bool false) H1)
 (
 SCalls Try.prog tephralaw13_Some.id [.slice says.a says.len says.cap, .int .u8 base, .int .u8 t] H1 (fun r1 H2 => ∃ Base : Int, ∃ Term : Int, ∃ Entries : Sl, r1 = .agg #[.int .i64 Base, .int .i64 Term, .slice Entries.a Entries.len Entries.cap] ∧ 
  (
 SCalls Try.prog rlog_Log_LastTerm.id [.agg #[.int .i64 Base, .int .i64 Term, .slice Entries.a Entries.len Entries.cap]] (holes H2 1) (fun r2 H3 => ∃ x1 : Int, r2 = .int .i64 x1 ∧ 
  (
 SCalls Try.prog tephralaw06_Say_Cmd.id [.agg #[.int .u8 sOp, .int .u8 sClient, .int .u8 sSeq, .int .u8 sKey, .int .u8 sValue, .int .u8 sOld]] H3 (fun r3 H4 => ∃ Opv : Int, ∃ Client : Int, ∃ Seq : Int, ∃ Key : ByteArray, ∃ Valuev : ByteArray, ∃ Old : ByteArray, r3 = .agg #[.int .i64 Opv, .int .i64 Client, .int .i64 Seq, .string Key, .string Valuev, .string Old] ∧ 
  (
 SCalls Try.prog rlog_Log_Add.id [.agg #[.int .i64 Base, .int .i64 Term, .slice Entries.a Entries.len Entries.cap], .int .i64 (w64 (x1 + 1)), .agg #[.int .i64 Opv, .int .i64 Client, .int .i64 Seq, .string Key, .string Valuev, .string Old]] H4 (fun r4 H5 => ∃ Base1 : Int, ∃ Term1 : Int, ∃ Entries1 : Sl, r4 = .agg #[.int .i64 Base1, .int .i64 Term1, .slice Entries1.a Entries1.len Entries1.cap] ∧ 
 tephralaw13_RlogAdd.k1 J says base t sOp sClient sSeq sKey sValue sOld Base Term Entries Base1 Term1 Entries1 (holes H5 1) Q)) ∧ 
  (
 SCalls Try.prog rlog_Log_Add.id [.agg #[.int .i64 Base, .int .i64 Term, .slice Entries.a Entries.len Entries.cap], .int .i64 (w64 (x1 + 1)), .agg #[.int .i64 Opv, .int .i64 Client, .int .i64 Seq, .string Key, .string Valuev, .string Old]] (holes H4 1) (fun r5 H6 => ∃ Base2 : Int, ∃ Term2 : Int, ∃ Entries2 : Sl, r5 = .agg #[.int .i64 Base2, .int .i64 Term2, .slice Entries2.a Entries2.len Entries2.cap] ∧ 
 tephralaw13_RlogAdd.k1 J says base t sOp sClient sSeq sKey sValue sOld Base Term Entries Base2 Term2 Entries2 H6 Q)))) ∧ 
  (
 SCalls Try.prog tephralaw06_Say_Cmd.id [.agg #[.int .u8 sOp, .int .u8 sClient, .int .u8 sSeq, .int .u8 sKey, .int .u8 sValue, .int .u8 sOld]] (holes H3 1) (fun r6 H7 => ∃ Opv1 : Int, ∃ Client1 : Int, ∃ Seq1 : Int, ∃ Key1 : ByteArray, ∃ Valuev1 : ByteArray, ∃ Old1 : ByteArray, r6 = .agg #[.int .i64 Opv1, .int .i64 Client1, .int .i64 Seq1, .string Key1, .string Valuev1, .string Old1] ∧ 
 SCalls Try.prog rlog_Log_Add.id [.agg #[.int .i64 Base, .int .i64 Term, .slice Entries.a Entries.len Entries.cap], .int .i64 (w64 (x1 + 1)), .agg #[.int .i64 Opv1, .int .i64 Client1, .int .i64 Seq1, .string Key1, .string Valuev1, .string Old1]] H7 (fun r7 H8 => ∃ Base3 : Int, ∃ Term3 : Int, ∃ Entries3 : Sl, r7 = .agg #[.int .i64 Base3, .int .i64 Term3, .slice Entries3.a Entries3.len Entries3.cap] ∧ 
 tephralaw13_RlogAdd.k1 J says base t sOp sClient sSeq sKey sValue sOld Base Term Entries Base3 Term3 Entries3 H8 Q))))) ∧ 
  (
 SCalls Try.prog rlog_Log_LastTerm.id [.agg #[.int .i64 Base, .int .i64 Term, .slice Entries.a Entries.len Entries.cap]] (holes H2 2) (fun r8 H9 => ∃ x2 : Int, r8 = .int .i64 x2 ∧ 
 SCalls Try.prog tephralaw06_Say_Cmd.id [.agg #[.int .u8 sOp, .int .u8 sClient, .int .u8 sSeq, .int .u8 sKey, .int .u8 sValue, .int .u8 sOld]] H9 (fun r9 H10 => ∃ Opv2 : Int, ∃ Client2 : Int, ∃ Seq2 : Int, ∃ Key2 : ByteArray, ∃ Valuev2 : ByteArray, ∃ Old2 : ByteArray, r9 = .agg #[.int .i64 Opv2, .int .i64 Client2, .int .i64 Seq2, .string Key2, .string Valuev2, .string Old2] ∧ 
 SCalls Try.prog rlog_Log_Add.id [.agg #[.int .i64 Base, .int .i64 Term, .slice Entries.a Entries.len Entries.cap], .int .i64 (w64 (x2 + 1)), .agg #[.int .i64 Opv2, .int .i64 Client2, .int .i64 Seq2, .string Key2, .string Valuev2, .string Old2]] H10 (fun r10 H11 => ∃ Base4 : Int, ∃ Term4 : Int, ∃ Entries4 : Sl, r10 = .agg #[.int .i64 Base4, .int .i64 Term4, .slice Entries4.a Entries4.len Entries4.cap] ∧ 
 tephralaw13_RlogAdd.k1 J says base t sOp sClient sSeq sKey sValue sOld Base Term Entries Base4 Term4 Entries4 H11 Q)))))))
theorem tephralaw13_RlogAdd.eq (J : Jn) (says : Sl) (base : Int) (t : Int) (sOp : Int) (sClient : Int) (sSeq : Int) (sKey : Int) (sValue : Int) (sOld : Int) (H : Hp) (Q : Value → Hp → Prop) : vFn Try.prog tephralaw13_RlogAdd.cf J tephralaw13_RlogAdd.fn [.slice says.a says.len says.cap, .int .u8 base, .int .u8 t, .agg #[.int .u8 sOp, .int .u8 sClient, .int .u8 sSeq, .int .u8 sKey, .int .u8 sValue, .int .u8 sOld]] H Q = tephralaw13_RlogAdd.vc J says base t sOp sClient sSeq sKey sValue sOld H Q := by kernel_rfl
theorem tephralaw13_RlogAdd.calls {says : Sl} {base : Int} {t : Int} {sOp : Int} {sClient : Int} {sSeq : Int} {sKey : Int} {sValue : Int} {sOld : Int} {H : Hp} {Q : Value → Hp → Prop} (h : tephralaw13_RlogAdd.vc J0 says base t sOp sClient sSeq sKey sValue sOld H Q) : SCalls Try.prog tephralaw13_RlogAdd.id [.slice says.a says.len says.cap, .int .u8 base, .int .u8 t, .agg #[.int .u8 sOp, .int .u8 sClient, .int .u8 sSeq, .int .u8 sKey, .int .u8 sValue, .int .u8 sOld]] H Q := vFn_of Try.mixed Try.func7 (tephralaw13_RlogAdd.eq J0 says base t sOp sClient sSeq sKey sValue sOld H Q) h

/-! 10: tephra/tephralaw13.awake -/
noncomputable def tephralaw13_awake.cf : Cfg := ⟨[1, 2, 4], [], [], [(30, [1, 2, 30]), (35, [1, 2, 35]), (40, [1, 2, 40]), (45, [1, 45]), (49, [1, 49])], true, []⟩
noncomputable def tephralaw13_awake.k1.st (Base2 : Int) (Term2 : Int) (Entries2 : Sl) (Base3 : Int) (Term3 : Int) (Entries3 : Sl) (H5 : Hp) (Base4 : Int) (Term4 : Int) (Entries4 : Sl) (x2 : Bool) : VS := ⟨mkFr 55 [(1, .loc 0 0), (2, .loc 1 0), (30, .v (.bool x2))], [(T_rlog_Log, [.int .i64 Base2, .int .i64 Term2, .slice Entries2.a Entries2.len Entries2.cap]), (T_rlog_Log, [.int .i64 Base3, .int .i64 Term3, .slice Entries3.a Entries3.len Entries3.cap]), (T_rlog_Log, [.int .i64 Base4, .int .i64 Term4, .slice Entries4.a Entries4.len Entries4.cap])], (holes H5 1)⟩
noncomputable def tephralaw13_awake.k1 (J : Jn) (Base2 : Int) (Term2 : Int) (Entries2 : Sl) (Base3 : Int) (Term3 : Int) (Entries3 : Sl) (H5 : Hp) (Base4 : Int) (Term4 : Int) (Entries4 : Sl) (x2 : Bool) (Q : Value → Hp → Prop) : Prop := J (vMid Try.prog tephralaw13_awake.cf J tephralaw13_awake.fn [1, 1, 1, 1, 1, 0] [0, 0, 1, 1, 2, 3] 5 Q) (tephralaw13_awake.k1.st Base2 Term2 Entries2 Base3 Term3 Entries3 H5 Base4 Term4 Entries4 x2)
noncomputable def tephralaw13_awake.k2.st (Base2 : Int) (Term2 : Int) (Entries2 : Sl) (Base3 : Int) (Term3 : Int) (Entries3 : Sl) (Base4 : Int) (Term4 : Int) (Entries4 : Sl) (x4 : Bool) (H7 : Hp) : VS := ⟨mkFr 55 [(1, .loc 0 0), (2, .loc 1 0), (35, .v (.bool x4))], [(T_rlog_Log, [.int .i64 Base2, .int .i64 Term2, .slice Entries2.a Entries2.len Entries2.cap]), (T_rlog_Log, [.int .i64 Base3, .int .i64 Term3, .slice Entries3.a Entries3.len Entries3.cap]), (T_rlog_Log, [.int .i64 Base4, .int .i64 Term4, .slice Entries4.a Entries4.len Entries4.cap])], H7⟩
noncomputable def tephralaw13_awake.k2 (J : Jn) (Base2 : Int) (Term2 : Int) (Entries2 : Sl) (Base3 : Int) (Term3 : Int) (Entries3 : Sl) (Base4 : Int) (Term4 : Int) (Entries4 : Sl) (x4 : Bool) (H7 : Hp) (Q : Value → Hp → Prop) : Prop := J (vMid Try.prog tephralaw13_awake.cf J tephralaw13_awake.fn [1, 1, 1, 1, 1, 0] [0, 0, 1, 1, 2, 3] 10 Q) (tephralaw13_awake.k2.st Base2 Term2 Entries2 Base3 Term3 Entries3 Base4 Term4 Entries4 x4 H7)
noncomputable def tephralaw13_awake.k3.st (Base2 : Int) (Term2 : Int) (Entries2 : Sl) (Base3 : Int) (Term3 : Int) (Entries3 : Sl) (Base4 : Int) (Term4 : Int) (Entries4 : Sl) (x6 : Bool) (H9 : Hp) : VS := ⟨mkFr 55 [(1, .loc 0 0), (2, .loc 1 0), (40, .v (.bool x6))], [(T_rlog_Log, [.int .i64 Base2, .int .i64 Term2, .slice Entries2.a Entries2.len Entries2.cap]), (T_rlog_Log, [.int .i64 Base3, .int .i64 Term3, .slice Entries3.a Entries3.len Entries3.cap]), (T_rlog_Log, [.int .i64 Base4, .int .i64 Term4, .slice Entries4.a Entries4.len Entries4.cap])], H9⟩
noncomputable def tephralaw13_awake.k3 (J : Jn) (Base2 : Int) (Term2 : Int) (Entries2 : Sl) (Base3 : Int) (Term3 : Int) (Entries3 : Sl) (Base4 : Int) (Term4 : Int) (Entries4 : Sl) (x6 : Bool) (H9 : Hp) (Q : Value → Hp → Prop) : Prop := J (vMid Try.prog tephralaw13_awake.cf J tephralaw13_awake.fn [1, 1, 1, 1, 1, 0] [0, 0, 1, 1, 2, 3] 15 Q) (tephralaw13_awake.k3.st Base2 Term2 Entries2 Base3 Term3 Entries3 Base4 Term4 Entries4 x6 H9)
noncomputable def tephralaw13_awake.k4.st (Base2 : Int) (Term2 : Int) (Entries2 : Sl) (Base3 : Int) (Term3 : Int) (Entries3 : Sl) (Base4 : Int) (Term4 : Int) (Entries4 : Sl) (x8 : Bool) (H11 : Hp) : VS := ⟨mkFr 55 [(1, .loc 0 0), (45, .v (.bool x8))], [(T_rlog_Log, [.int .i64 Base2, .int .i64 Term2, .slice Entries2.a Entries2.len Entries2.cap]), (T_rlog_Log, [.int .i64 Base3, .int .i64 Term3, .slice Entries3.a Entries3.len Entries3.cap]), (T_rlog_Log, [.int .i64 Base4, .int .i64 Term4, .slice Entries4.a Entries4.len Entries4.cap])], H11⟩
noncomputable def tephralaw13_awake.k4 (J : Jn) (Base2 : Int) (Term2 : Int) (Entries2 : Sl) (Base3 : Int) (Term3 : Int) (Entries3 : Sl) (Base4 : Int) (Term4 : Int) (Entries4 : Sl) (x8 : Bool) (H11 : Hp) (Q : Value → Hp → Prop) : Prop := J (vMid Try.prog tephralaw13_awake.cf J tephralaw13_awake.fn [1, 1, 1, 1, 1, 0] [0, 0, 1, 1, 2, 3] 20 Q) (tephralaw13_awake.k4.st Base2 Term2 Entries2 Base3 Term3 Entries3 Base4 Term4 Entries4 x8 H11)
noncomputable def tephralaw13_awake.k5.st (Base2 : Int) (Term2 : Int) (Entries2 : Sl) (Base3 : Int) (Term3 : Int) (Entries3 : Sl) (Base4 : Int) (Term4 : Int) (Entries4 : Sl) (x10 : Bool) (H13 : Hp) : VS := ⟨mkFr 55 [(1, .loc 0 0), (49, .v (.bool x10))], [(T_rlog_Log, [.int .i64 Base2, .int .i64 Term2, .slice Entries2.a Entries2.len Entries2.cap]), (T_rlog_Log, [.int .i64 Base3, .int .i64 Term3, .slice Entries3.a Entries3.len Entries3.cap]), (T_rlog_Log, [.int .i64 Base4, .int .i64 Term4, .slice Entries4.a Entries4.len Entries4.cap])], H13⟩
noncomputable def tephralaw13_awake.k5 (J : Jn) (Base2 : Int) (Term2 : Int) (Entries2 : Sl) (Base3 : Int) (Term3 : Int) (Entries3 : Sl) (Base4 : Int) (Term4 : Int) (Entries4 : Sl) (x10 : Bool) (H13 : Hp) (Q : Value → Hp → Prop) : Prop := J (vMid Try.prog tephralaw13_awake.cf J tephralaw13_awake.fn [1, 1, 1, 1, 1, 0] [0, 0, 1, 1, 2, 3] 24 Q) (tephralaw13_awake.k5.st Base2 Term2 Entries2 Base3 Term3 Entries3 Base4 Term4 Entries4 x10 H13)
attribute [irreducible] tephralaw13_awake.k1 tephralaw13_awake.k2 tephralaw13_awake.k3 tephralaw13_awake.k4 tephralaw13_awake.k5
noncomputable def tephralaw13_awake.k1.body (J : Jn) (Base2 : Int) (Term2 : Int) (Entries2 : Sl) (Base3 : Int) (Term3 : Int) (Entries3 : Sl) (H5 : Hp) (Base4 : Int) (Term4 : Int) (Entries4 : Sl) (x2 : Bool) (Q : Value → Hp → Prop) : Prop :=
 
 Br x2 (
 SCalls Try.prog rlog_Log_Last.id [.agg #[.int .i64 Base2, .int .i64 Term2, .slice Entries2.a Entries2.len Entries2.cap]] (holes H5 1) (fun r5 H6 => ∃ x3 : Int, r5 = .int .i64 x3 ∧ 
 tephralaw13_awake.k2 J Base2 Term2 Entries2 Base3 Term3 Entries3 Base4 Term4 Entries4 (x3 == 3) H6 Q))
 (
 tephralaw13_awake.k2 J Base2 Term2 Entries2 Base3 Term3 Entries3 Base4 Term4 Entries4 false (holes H5 1) Q)
theorem tephralaw13_awake.k1.eq (J : Jn) (Base2 : Int) (Term2 : Int) (Entries2 : Sl) (Base3 : Int) (Term3 : Int) (Entries3 : Sl) (H5 : Hp) (Base4 : Int) (Term4 : Int) (Entries4 : Sl) (x2 : Bool) (Q : Value → Hp → Prop) : vMid Try.prog tephralaw13_awake.cf J tephralaw13_awake.fn [1, 1, 1, 1, 1, 0] [0, 0, 1, 1, 2, 3] 5 Q (tephralaw13_awake.k1.st Base2 Term2 Entries2 Base3 Term3 Entries3 H5 Base4 Term4 Entries4 x2) = tephralaw13_awake.k1.body J Base2 Term2 Entries2 Base3 Term3 Entries3 H5 Base4 Term4 Entries4 x2 Q := by kernel_rfl
theorem tephralaw13_awake.k1.step {Base2 : Int} {Term2 : Int} {Entries2 : Sl} {Base3 : Int} {Term3 : Int} {Entries3 : Sl} {H5 : Hp} {Base4 : Int} {Term4 : Int} {Entries4 : Sl} {x2 : Bool} {Q : Value → Hp → Prop} (h : tephralaw13_awake.k1.body J0 Base2 Term2 Entries2 Base3 Term3 Entries3 H5 Base4 Term4 Entries4 x2 Q) : tephralaw13_awake.k1 J0 Base2 Term2 Entries2 Base3 Term3 Entries3 H5 Base4 Term4 Entries4 x2 Q := step_of (vMid Try.prog tephralaw13_awake.cf J0 tephralaw13_awake.fn [1, 1, 1, 1, 1, 0] [0, 0, 1, 1, 2, 3] 5 Q) (tephralaw13_awake.k1.st Base2 Term2 Entries2 Base3 Term3 Entries3 H5 Base4 Term4 Entries4 x2) (tephralaw13_awake.k1.eq J0 Base2 Term2 Entries2 Base3 Term3 Entries3 H5 Base4 Term4 Entries4 x2 Q) (by kernel_rfl) h
noncomputable def tephralaw13_awake.k2.body (J : Jn) (Base2 : Int) (Term2 : Int) (Entries2 : Sl) (Base3 : Int) (Term3 : Int) (Entries3 : Sl) (Base4 : Int) (Term4 : Int) (Entries4 : Sl) (x4 : Bool) (H7 : Hp) (Q : Value → Hp → Prop) : Prop :=
 
 Br x4 (
 SCalls Try.prog rlog_Log_Last.id [.agg #[.int .i64 Base3, .int .i64 Term3, .slice Entries3.a Entries3.len Entries3.cap]] H7 (fun r6 H8 => ∃ x5 : Int, r6 = .int .i64 x5 ∧ 
 tephralaw13_awake.k3 J Base2 Term2 Entries2 Base3 Term3 Entries3 Base4 Term4 Entries4 (x5 == 2) H8 Q))
 (
 tephralaw13_awake.k3 J Base2 Term2 Entries2 Base3 Term3 Entries3 Base4 Term4 Entries4 false H7 Q)
theorem tephralaw13_awake.k2.eq (J : Jn) (Base2 : Int) (Term2 : Int) (Entries2 : Sl) (Base3 : Int) (Term3 : Int) (Entries3 : Sl) (Base4 : Int) (Term4 : Int) (Entries4 : Sl) (x4 : Bool) (H7 : Hp) (Q : Value → Hp → Prop) : vMid Try.prog tephralaw13_awake.cf J tephralaw13_awake.fn [1, 1, 1, 1, 1, 0] [0, 0, 1, 1, 2, 3] 10 Q (tephralaw13_awake.k2.st Base2 Term2 Entries2 Base3 Term3 Entries3 Base4 Term4 Entries4 x4 H7) = tephralaw13_awake.k2.body J Base2 Term2 Entries2 Base3 Term3 Entries3 Base4 Term4 Entries4 x4 H7 Q := by kernel_rfl
theorem tephralaw13_awake.k2.step {Base2 : Int} {Term2 : Int} {Entries2 : Sl} {Base3 : Int} {Term3 : Int} {Entries3 : Sl} {Base4 : Int} {Term4 : Int} {Entries4 : Sl} {x4 : Bool} {H7 : Hp} {Q : Value → Hp → Prop} (h : tephralaw13_awake.k2.body J0 Base2 Term2 Entries2 Base3 Term3 Entries3 Base4 Term4 Entries4 x4 H7 Q) : tephralaw13_awake.k2 J0 Base2 Term2 Entries2 Base3 Term3 Entries3 Base4 Term4 Entries4 x4 H7 Q := step_of (vMid Try.prog tephralaw13_awake.cf J0 tephralaw13_awake.fn [1, 1, 1, 1, 1, 0] [0, 0, 1, 1, 2, 3] 10 Q) (tephralaw13_awake.k2.st Base2 Term2 Entries2 Base3 Term3 Entries3 Base4 Term4 Entries4 x4 H7) (tephralaw13_awake.k2.eq J0 Base2 Term2 Entries2 Base3 Term3 Entries3 Base4 Term4 Entries4 x4 H7 Q) (by kernel_rfl) h
noncomputable def tephralaw13_awake.k3.body (J : Jn) (Base2 : Int) (Term2 : Int) (Entries2 : Sl) (Base3 : Int) (Term3 : Int) (Entries3 : Sl) (Base4 : Int) (Term4 : Int) (Entries4 : Sl) (x6 : Bool) (H9 : Hp) (Q : Value → Hp → Prop) : Prop :=
 
 Br x6 (
 SCalls Try.prog rlog_Log_LastTerm.id [.agg #[.int .i64 Base3, .int .i64 Term3, .slice Entries3.a Entries3.len Entries3.cap]] H9 (fun r7 H10 => ∃ x7 : Int, r7 = .int .i64 x7 ∧ 
 tephralaw13_awake.k4 J Base2 Term2 Entries2 Base3 Term3 Entries3 Base4 Term4 Entries4 (x7 == 3) H10 Q))
 (
 tephralaw13_awake.k4 J Base2 Term2 Entries2 Base3 Term3 Entries3 Base4 Term4 Entries4 false H9 Q)
theorem tephralaw13_awake.k3.eq (J : Jn) (Base2 : Int) (Term2 : Int) (Entries2 : Sl) (Base3 : Int) (Term3 : Int) (Entries3 : Sl) (Base4 : Int) (Term4 : Int) (Entries4 : Sl) (x6 : Bool) (H9 : Hp) (Q : Value → Hp → Prop) : vMid Try.prog tephralaw13_awake.cf J tephralaw13_awake.fn [1, 1, 1, 1, 1, 0] [0, 0, 1, 1, 2, 3] 15 Q (tephralaw13_awake.k3.st Base2 Term2 Entries2 Base3 Term3 Entries3 Base4 Term4 Entries4 x6 H9) = tephralaw13_awake.k3.body J Base2 Term2 Entries2 Base3 Term3 Entries3 Base4 Term4 Entries4 x6 H9 Q := by kernel_rfl
theorem tephralaw13_awake.k3.step {Base2 : Int} {Term2 : Int} {Entries2 : Sl} {Base3 : Int} {Term3 : Int} {Entries3 : Sl} {Base4 : Int} {Term4 : Int} {Entries4 : Sl} {x6 : Bool} {H9 : Hp} {Q : Value → Hp → Prop} (h : tephralaw13_awake.k3.body J0 Base2 Term2 Entries2 Base3 Term3 Entries3 Base4 Term4 Entries4 x6 H9 Q) : tephralaw13_awake.k3 J0 Base2 Term2 Entries2 Base3 Term3 Entries3 Base4 Term4 Entries4 x6 H9 Q := step_of (vMid Try.prog tephralaw13_awake.cf J0 tephralaw13_awake.fn [1, 1, 1, 1, 1, 0] [0, 0, 1, 1, 2, 3] 15 Q) (tephralaw13_awake.k3.st Base2 Term2 Entries2 Base3 Term3 Entries3 Base4 Term4 Entries4 x6 H9) (tephralaw13_awake.k3.eq J0 Base2 Term2 Entries2 Base3 Term3 Entries3 Base4 Term4 Entries4 x6 H9 Q) (by kernel_rfl) h
noncomputable def tephralaw13_awake.k4.body (J : Jn) (Base2 : Int) (Term2 : Int) (Entries2 : Sl) (Base3 : Int) (Term3 : Int) (Entries3 : Sl) (Base4 : Int) (Term4 : Int) (Entries4 : Sl) (x8 : Bool) (H11 : Hp) (Q : Value → Hp → Prop) : Prop :=
 
 Br x8 (
 SCalls Try.prog rlog_Log_Newer.id [.agg #[.int .i64 Base2, .int .i64 Term2, .slice Entries2.a Entries2.len Entries2.cap], .int .i64 3, .int .i64 2] H11 (fun r8 H12 => ∃ x9 : Bool, r8 = .bool x9 ∧ 
 tephralaw13_awake.k5 J Base2 Term2 Entries2 Base3 Term3 Entries3 Base4 Term4 Entries4 x9 H12 Q))
 (
 tephralaw13_awake.k5 J Base2 Term2 Entries2 Base3 Term3 Entries3 Base4 Term4 Entries4 false H11 Q)
theorem tephralaw13_awake.k4.eq (J : Jn) (Base2 : Int) (Term2 : Int) (Entries2 : Sl) (Base3 : Int) (Term3 : Int) (Entries3 : Sl) (Base4 : Int) (Term4 : Int) (Entries4 : Sl) (x8 : Bool) (H11 : Hp) (Q : Value → Hp → Prop) : vMid Try.prog tephralaw13_awake.cf J tephralaw13_awake.fn [1, 1, 1, 1, 1, 0] [0, 0, 1, 1, 2, 3] 20 Q (tephralaw13_awake.k4.st Base2 Term2 Entries2 Base3 Term3 Entries3 Base4 Term4 Entries4 x8 H11) = tephralaw13_awake.k4.body J Base2 Term2 Entries2 Base3 Term3 Entries3 Base4 Term4 Entries4 x8 H11 Q := by kernel_rfl
theorem tephralaw13_awake.k4.step {Base2 : Int} {Term2 : Int} {Entries2 : Sl} {Base3 : Int} {Term3 : Int} {Entries3 : Sl} {Base4 : Int} {Term4 : Int} {Entries4 : Sl} {x8 : Bool} {H11 : Hp} {Q : Value → Hp → Prop} (h : tephralaw13_awake.k4.body J0 Base2 Term2 Entries2 Base3 Term3 Entries3 Base4 Term4 Entries4 x8 H11 Q) : tephralaw13_awake.k4 J0 Base2 Term2 Entries2 Base3 Term3 Entries3 Base4 Term4 Entries4 x8 H11 Q := step_of (vMid Try.prog tephralaw13_awake.cf J0 tephralaw13_awake.fn [1, 1, 1, 1, 1, 0] [0, 0, 1, 1, 2, 3] 20 Q) (tephralaw13_awake.k4.st Base2 Term2 Entries2 Base3 Term3 Entries3 Base4 Term4 Entries4 x8 H11) (tephralaw13_awake.k4.eq J0 Base2 Term2 Entries2 Base3 Term3 Entries3 Base4 Term4 Entries4 x8 H11 Q) (by kernel_rfl) h
noncomputable def tephralaw13_awake.k5.body (J : Jn) (Base2 : Int) (Term2 : Int) (Entries2 : Sl) (Base3 : Int) (Term3 : Int) (Entries3 : Sl) (Base4 : Int) (Term4 : Int) (Entries4 : Sl) (x10 : Bool) (H13 : Hp) (Q : Value → Hp → Prop) : Prop :=
 
 Br x10 (
 SCalls Try.prog rlog_Log_Newer.id [.agg #[.int .i64 Base2, .int .i64 Term2, .slice Entries2.a Entries2.len Entries2.cap], .int .i64 2, .int .i64 2] H13 (fun r9 H14 => ∃ x11 : Bool, r9 = .bool x11 ∧ Q (.bool (!x11)) H14))
 (Q (.bool false) H13)
theorem tephralaw13_awake.k5.eq (J : Jn) (Base2 : Int) (Term2 : Int) (Entries2 : Sl) (Base3 : Int) (Term3 : Int) (Entries3 : Sl) (Base4 : Int) (Term4 : Int) (Entries4 : Sl) (x10 : Bool) (H13 : Hp) (Q : Value → Hp → Prop) : vMid Try.prog tephralaw13_awake.cf J tephralaw13_awake.fn [1, 1, 1, 1, 1, 0] [0, 0, 1, 1, 2, 3] 24 Q (tephralaw13_awake.k5.st Base2 Term2 Entries2 Base3 Term3 Entries3 Base4 Term4 Entries4 x10 H13) = tephralaw13_awake.k5.body J Base2 Term2 Entries2 Base3 Term3 Entries3 Base4 Term4 Entries4 x10 H13 Q := by kernel_rfl
theorem tephralaw13_awake.k5.step {Base2 : Int} {Term2 : Int} {Entries2 : Sl} {Base3 : Int} {Term3 : Int} {Entries3 : Sl} {Base4 : Int} {Term4 : Int} {Entries4 : Sl} {x10 : Bool} {H13 : Hp} {Q : Value → Hp → Prop} (h : tephralaw13_awake.k5.body J0 Base2 Term2 Entries2 Base3 Term3 Entries3 Base4 Term4 Entries4 x10 H13 Q) : tephralaw13_awake.k5 J0 Base2 Term2 Entries2 Base3 Term3 Entries3 Base4 Term4 Entries4 x10 H13 Q := step_of (vMid Try.prog tephralaw13_awake.cf J0 tephralaw13_awake.fn [1, 1, 1, 1, 1, 0] [0, 0, 1, 1, 2, 3] 24 Q) (tephralaw13_awake.k5.st Base2 Term2 Entries2 Base3 Term3 Entries3 Base4 Term4 Entries4 x10 H13) (tephralaw13_awake.k5.eq J0 Base2 Term2 Entries2 Base3 Term3 Entries3 Base4 Term4 Entries4 x10 H13 Q) (by kernel_rfl) h
noncomputable def tephralaw13_awake.vc (J : Jn) (H : Hp) (Q : Value → Hp → Prop) : Prop :=
 
 SCalls Try.prog rlog_Log_Add.id [.agg #[.int .i64 0, .int .i64 0, .slice none 0 0], .int .i64 1, .agg #[.int .i64 0, .int .i64 0, .int .i64 0, .string (ByteArray.mk #[]), .string (ByteArray.mk #[]), .string (ByteArray.mk #[])]] (holes H 1) (fun r H1 => ∃ Base : Int, ∃ Term : Int, ∃ Entries : Sl, r = .agg #[.int .i64 Base, .int .i64 Term, .slice Entries.a Entries.len Entries.cap] ∧ 
 SCalls Try.prog rlog_Log_Add.id [.agg #[.int .i64 Base, .int .i64 Term, .slice Entries.a Entries.len Entries.cap], .int .i64 1, .agg #[.int .i64 0, .int .i64 0, .int .i64 0, .string (ByteArray.mk #[]), .string (ByteArray.mk #[]), .string (ByteArray.mk #[])]] H1 (fun r1 H2 => ∃ Base1 : Int, ∃ Term1 : Int, ∃ Entries1 : Sl, r1 = .agg #[.int .i64 Base1, .int .i64 Term1, .slice Entries1.a Entries1.len Entries1.cap] ∧ 
 SCalls Try.prog rlog_Log_Add.id [.agg #[.int .i64 Base1, .int .i64 Term1, .slice Entries1.a Entries1.len Entries1.cap], .int .i64 2, .agg #[.int .i64 0, .int .i64 0, .int .i64 0, .string (ByteArray.mk #[]), .string (ByteArray.mk #[]), .string (ByteArray.mk #[])]] H2 (fun r2 H3 => ∃ Base2 : Int, ∃ Term2 : Int, ∃ Entries2 : Sl, r2 = .agg #[.int .i64 Base2, .int .i64 Term2, .slice Entries2.a Entries2.len Entries2.cap] ∧ 
 SCalls Try.prog rlog_Log_Merge.id [.agg #[.int .i64 Base2, .int .i64 Term2, .slice Entries2.a Entries2.len Entries2.cap], .int .i64 1, .int .i64 1, .slice (some (Addr.mk (Array.size H3) 0 none)) 1 1] (Array.push H3 (.cells #[.int .i64 2, .int .i64 3, .int .i64 0, .int .i64 0, .int .i64 0, .string (ByteArray.mk #[]), .string (ByteArray.mk #[]), .string (ByteArray.mk #[])] T_api_Entry)) (fun r3 H4 => ∃ Base3 : Int, ∃ Term3 : Int, ∃ Entries3 : Sl, ∃ x : Bool, r3 = .tuple #[.agg #[.int .i64 Base3, .int .i64 Term3, .slice Entries3.a Entries3.len Entries3.cap], .bool x] ∧ 
 SCalls Try.prog rlog_Log_Merge.id [.agg #[.int .i64 Base2, .int .i64 Term2, .slice Entries2.a Entries2.len Entries2.cap], .int .i64 3, .int .i64 1, .slice none 0 0] (holes H4 1) (fun r4 H5 => ∃ Base4 : Int, ∃ Term4 : Int, ∃ Entries4 : Sl, ∃ x1 : Bool, r4 = .tuple #[.agg #[.int .i64 Base4, .int .i64 Term4, .slice Entries4.a Entries4.len Entries4.cap], .bool x1] ∧ 
 Br x (
 tephralaw13_awake.k1 J Base2 Term2 Entries2 Base3 Term3 Entries3 H5 Base4 Term4 Entries4 (!x1) Q)
 (
 tephralaw13_awake.k1 J Base2 Term2 Entries2 Base3 Term3 Entries3 H5 Base4 Term4 Entries4 false Q))))))
theorem tephralaw13_awake.eq (J : Jn) (H : Hp) (Q : Value → Hp → Prop) : vFn Try.prog tephralaw13_awake.cf J tephralaw13_awake.fn [] H Q = tephralaw13_awake.vc J H Q := by kernel_rfl
theorem tephralaw13_awake.calls {H : Hp} {Q : Value → Hp → Prop} (h : tephralaw13_awake.vc J0 H Q) : SCalls Try.prog tephralaw13_awake.id [] H Q := vFn_of Try.mixed Try.func10 (tephralaw13_awake.eq J0 H Q) h

/-! 11: tephra/tephralaw13.Some -/
noncomputable def tephralaw13_Some.cf : Cfg := ⟨[6], [], [], [], true, []⟩
noncomputable def tephralaw13_Some.vc (J : Jn) (says : Sl) (base : Int) (term : Int) (H : Hp) (Q : Value → Hp → Prop) : Prop :=
 (20 : Int) ≠ 0 ∧ (5 : Int) ≠ 0 ∧ 
 SCalls Try.prog tephralaw06_Entries.id [.slice says.a says.len says.cap, .int .i64 (w64 ((w64 ((Int.tmod base 20))) + 1)), .int .i64 (w64 ((Int.tmod term 5)))] (holes H 1) (fun r H1 => ∃ x : Sl, r = .slice x.a x.len x.cap ∧ Q (.agg #[.int .i64 (w64 ((Int.tmod base 20))), .int .i64 (w64 ((Int.tmod term 5))), .slice x.a x.len x.cap]) H1)
theorem tephralaw13_Some.eq (J : Jn) (says : Sl) (base : Int) (term : Int) (H : Hp) (Q : Value → Hp → Prop) : vFn Try.prog tephralaw13_Some.cf J tephralaw13_Some.fn [.slice says.a says.len says.cap, .int .u8 base, .int .u8 term] H Q = tephralaw13_Some.vc J says base term H Q := by kernel_rfl
theorem tephralaw13_Some.calls {says : Sl} {base : Int} {term : Int} {H : Hp} {Q : Value → Hp → Prop} (h : tephralaw13_Some.vc J0 says base term H Q) : SCalls Try.prog tephralaw13_Some.id [.slice says.a says.len says.cap, .int .u8 base, .int .u8 term] H Q := vFn_of Try.mixed Try.func11 (tephralaw13_Some.eq J0 says base term H Q) h

/-! 12: tephra/tephralaw13.term -/
noncomputable def tephralaw13_term.cf : Cfg := ⟨[2, 7], [(4, [1, 15, 16, 17])], [], [], true, []⟩
noncomputable def tephralaw13_term.l1.st (lBase : Int) (lTerm : Int) (lEntries : Sl) (i : Int) (H1 : Hp) (x : Int) : VS := ⟨mkFr 28 [(1, .v (.int .i64 i)), (15, .v (.slice lEntries.a lEntries.len lEntries.cap)), (16, .v (.int .i64 ((lEntries.len : Nat) : Int))), (17, .v (.int .i64 x))], [(T_rlog_Log, [.int .i64 lBase, .int .i64 lTerm, .slice lEntries.a lEntries.len lEntries.cap])], H1⟩
noncomputable def tephralaw13_term.l1 (J : Jn) (lBase : Int) (lTerm : Int) (lEntries : Sl) (i : Int) (H1 : Hp) (x : Int) (Q : Value → Hp → Prop) : Prop := vAt Try.prog tephralaw13_term.cf J tephralaw13_term.fn [1, 1, 0, 1, 0] [0, 1, 1, 1] Q (tephralaw13_term.l1.st lBase lTerm lEntries i H1 x)
attribute [irreducible] tephralaw13_term.l1
noncomputable def tephralaw13_term.l1.body (J : Jn) (lBase : Int) (lTerm : Int) (lEntries : Sl) (i : Int) (H1 : Hp) (x : Int) (Q : Value → Hp → Prop) : Prop :=
 
 Br (decide (x < ((lEntries.len : Nat) : Int))) (((0 : Int) ≤ x ∧ x < ((lEntries.len : Nat) : Int)) ∧ vPtr lEntries.a (fun a => ∃ Index : Int, ∃ Term : Int, ∃ CmdOp : Int, ∃ CmdClient : Int, ∃ CmdSeq : Int, ∃ CmdKey : ByteArray, ∃ CmdValue : ByteArray, ∃ CmdOld : ByteArray, RowAt H1 (a.add ((x : Int).toNat * 8)) [.int .i64 Index, .int .i64 Term, .int .i64 CmdOp, .int .i64 CmdClient, .int .i64 CmdSeq, .string CmdKey, .string CmdValue, .string CmdOld] ∧ 
 Br (Index == i) (Q (.tuple #[.int .i64 Term, .bool true]) (holes H1 1))
 (
 tephralaw13_term.l1 J lBase lTerm lEntries i (holes H1 1) (w64 (x + 1)) Q)))
 (Q (.tuple #[.int .i64 0, .bool false]) H1)
theorem tephralaw13_term.l1.eq (J : Jn) (lBase : Int) (lTerm : Int) (lEntries : Sl) (i : Int) (H1 : Hp) (x : Int) (Q : Value → Hp → Prop) : vAtBody Try.prog tephralaw13_term.cf J tephralaw13_term.fn [1, 1, 0, 1, 0] [0, 1, 1, 1] Q (tephralaw13_term.l1.st lBase lTerm lEntries i H1 x) = tephralaw13_term.l1.body J lBase lTerm lEntries i H1 x Q := by kernel_rfl
theorem tephralaw13_term.l1.step {lBase : Int} {lTerm : Int} {lEntries : Sl} {i : Int} {H1 : Hp} {x : Int} {Q : Value → Hp → Prop} (h : tephralaw13_term.l1.body J0 lBase lTerm lEntries i H1 x Q) : tephralaw13_term.l1 J0 lBase lTerm lEntries i H1 x Q := vAt_stepC (tephralaw13_term.l1.st lBase lTerm lEntries i H1 x) (tephralaw13_term.l1.eq J0 lBase lTerm lEntries i H1 x Q) (by kernel_rfl) h
noncomputable def tephralaw13_term.vc (J : Jn) (lBase : Int) (lTerm : Int) (lEntries : Sl) (i : Int) (H : Hp) (Q : Value → Hp → Prop) : Prop :=
 
 Br (i == lBase) (Q (.tuple #[.int .i64 lTerm, .bool true]) (holes H 1))
 (
 tephralaw13_term.l1 J lBase lTerm lEntries i (holes H 1) 0 Q)
theorem tephralaw13_term.eq (J : Jn) (lBase : Int) (lTerm : Int) (lEntries : Sl) (i : Int) (H : Hp) (Q : Value → Hp → Prop) : vFn Try.prog tephralaw13_term.cf J tephralaw13_term.fn [.agg #[.int .i64 lBase, .int .i64 lTerm, .slice lEntries.a lEntries.len lEntries.cap], .int .i64 i] H Q = tephralaw13_term.vc J lBase lTerm lEntries i H Q := by kernel_rfl
theorem tephralaw13_term.calls {lBase : Int} {lTerm : Int} {lEntries : Sl} {i : Int} {H : Hp} {Q : Value → Hp → Prop} (h : tephralaw13_term.vc J0 lBase lTerm lEntries i H Q) : SCalls Try.prog tephralaw13_term.id [.agg #[.int .i64 lBase, .int .i64 lTerm, .slice lEntries.a lEntries.len lEntries.cap], .int .i64 i] H Q := vFn_of Try.mixed Try.func12 (tephralaw13_term.eq J0 lBase lTerm lEntries i H Q) h

/-! 13: tephra/tephralaw06.Entries -/
noncomputable def tephralaw06_Entries.cf : Cfg := ⟨[9], [(3, [1, 2, 7, 14, 15, 16])], [(7, [1, 2, 7, 8, 9, 14, 15, 16], true)], [], true, []⟩
noncomputable def tephralaw06_Entries.l1.st (says : Sl) (fromv : Int) (H1 : Hp) (term1 : Int) (out : Sl) (x : Int) : VS := ⟨mkFr 38 [(1, .v (.int .i64 fromv)), (2, .v (.int .i64 term1)), (7, .v (.slice out.a out.len out.cap)), (14, .v (.slice (cutA says.a says.cap 0 6) (((if (80 : Int) < ((says.len : Nat) : Int) then 80 else ((says.len : Nat) : Int)) : Int).toNat) says.cap)), (15, .v (.int .i64 (((((if (80 : Int) < ((says.len : Nat) : Int) then 80 else ((says.len : Nat) : Int)) : Int).toNat) : Nat) : Int))), (16, .v (.int .i64 x))], [], H1⟩
noncomputable def tephralaw06_Entries.l1 (J : Jn) (says : Sl) (fromv : Int) (H1 : Hp) (term1 : Int) (out : Sl) (x : Int) (Q : Value → Hp → Prop) : Prop := vAt Try.prog tephralaw06_Entries.cf J tephralaw06_Entries.fn [1, 1, 0, 1, 0] [0, 0, 0, 0] Q (tephralaw06_Entries.l1.st says fromv H1 term1 out x)
noncomputable def tephralaw06_Entries.k1.st (says : Sl) (fromv : Int) (H1 : Hp) (out : Sl) (x : Int) (Opv : Int) (Client : Int) (Seq : Int) (Key : Int) (Valuev : Int) (Old : Int) (term2 : Int) : VS := ⟨mkFr 38 [(1, .v (.int .i64 fromv)), (2, .v (.int .i64 term2)), (7, .v (.slice out.a out.len out.cap)), (8, .v (.int .i64 x)), (9, .loc 0 0), (14, .v (.slice (cutA says.a says.cap 0 6) (((if (80 : Int) < ((says.len : Nat) : Int) then 80 else ((says.len : Nat) : Int)) : Int).toNat) says.cap)), (15, .v (.int .i64 (((((if (80 : Int) < ((says.len : Nat) : Int) then 80 else ((says.len : Nat) : Int)) : Int).toNat) : Nat) : Int))), (16, .v (.int .i64 x))], [(T_tephralaw06_Say, [.int .u8 Opv, .int .u8 Client, .int .u8 Seq, .int .u8 Key, .int .u8 Valuev, .int .u8 Old])], (holes H1 1)⟩
noncomputable def tephralaw06_Entries.k1 (J : Jn) (says : Sl) (fromv : Int) (H1 : Hp) (out : Sl) (x : Int) (Opv : Int) (Client : Int) (Seq : Int) (Key : Int) (Valuev : Int) (Old : Int) (term2 : Int) (Q : Value → Hp → Prop) : Prop := J (vSeg Try.prog tephralaw06_Entries.cf J tephralaw06_Entries.fn [1, 1, 0, 1, 0, 0, 1, 1, 0, 0, 1, 1] [0, 0, 0, 0, 0, 0, 0, 0, 0, 1] Q) (tephralaw06_Entries.k1.st says fromv H1 out x Opv Client Seq Key Valuev Old term2)
attribute [irreducible] tephralaw06_Entries.l1 tephralaw06_Entries.k1
noncomputable def tephralaw06_Entries.l1.body (J : Jn) (says : Sl) (fromv : Int) (H1 : Hp) (term1 : Int) (out : Sl) (x : Int) (Q : Value → Hp → Prop) : Prop :=
 
 Br (decide (x < (((((if (80 : Int) < ((says.len : Nat) : Int) then 80 else ((says.len : Nat) : Int)) : Int).toNat) : Nat) : Int))) (((0 : Int) ≤ x ∧ x < (((((if (80 : Int) < ((says.len : Nat) : Int) then 80 else ((says.len : Nat) : Int)) : Int).toNat) : Nat) : Int)) ∧ vPtr (cutA says.a says.cap 0 6) (fun a => ∃ Opv : Int, ∃ Client : Int, ∃ Seq : Int, ∃ Key : Int, ∃ Valuev : Int, ∃ Old : Int, RowAt H1 (a.add ((x : Int).toNat * 6)) [.int .u8 Opv, .int .u8 Client, .int .u8 Seq, .int .u8 Key, .int .u8 Valuev, .int .u8 Old] ∧ 
 Br (decide (Opv > 230)) (
 tephralaw06_Entries.k1 J says fromv H1 out x Opv Client Seq Key Valuev Old (w64 (term1 + 1)) Q)
 (
 tephralaw06_Entries.k1 J says fromv H1 out x Opv Client Seq Key Valuev Old term1 Q)))
 (Q (.slice out.a out.len out.cap) H1)
theorem tephralaw06_Entries.l1.eq (J : Jn) (says : Sl) (fromv : Int) (H1 : Hp) (term1 : Int) (out : Sl) (x : Int) (Q : Value → Hp → Prop) : vAtBody Try.prog tephralaw06_Entries.cf J tephralaw06_Entries.fn [1, 1, 0, 1, 0] [0, 0, 0, 0] Q (tephralaw06_Entries.l1.st says fromv H1 term1 out x) = tephralaw06_Entries.l1.body J says fromv H1 term1 out x Q := by kernel_rfl
theorem tephralaw06_Entries.l1.step {says : Sl} {fromv : Int} {H1 : Hp} {term1 : Int} {out : Sl} {x : Int} {Q : Value → Hp → Prop} (h : tephralaw06_Entries.l1.body J0 says fromv H1 term1 out x Q) : tephralaw06_Entries.l1 J0 says fromv H1 term1 out x Q := vAt_stepC (tephralaw06_Entries.l1.st says fromv H1 term1 out x) (tephralaw06_Entries.l1.eq J0 says fromv H1 term1 out x Q) (by kernel_rfl) h
noncomputable def tephralaw06_Entries.k1.body (J : Jn) (says : Sl) (fromv : Int) (H1 : Hp) (out : Sl) (x : Int) (Opv : Int) (Client : Int) (Seq : Int) (Key : Int) (Valuev : Int) (Old : Int) (term2 : Int) (Q : Value → Hp → Prop) : Prop :=
 
 SCalls Try.prog tephralaw06_Say_Cmd.id [.agg #[.int .u8 Opv, .int .u8 Client, .int .u8 Seq, .int .u8 Key, .int .u8 Valuev, .int .u8 Old]] (holes H1 1) (fun r H2 => ∃ Opv1 : Int, ∃ Client1 : Int, ∃ Seq1 : Int, ∃ Key1 : ByteArray, ∃ Valuev1 : ByteArray, ∃ Old1 : ByteArray, r = .agg #[.int .i64 Opv1, .int .i64 Client1, .int .i64 Seq1, .string Key1, .string Valuev1, .string Old1] ∧ 
 vApp Try.prog T_sl_api_Entry out.a out.len out.cap (.slice (some (Addr.mk (Array.size H2) 0 none)) 1 1) (Array.push H2 (.cells #[.int .i64 (w64 (fromv + x)), .int .i64 term2, .int .i64 Opv1, .int .i64 Client1, .int .i64 Seq1, .string Key1, .string Valuev1, .string Old1] T_api_Entry)) (fun ap H3 => 
 tephralaw06_Entries.l1 J says fromv H3 term2 ap (w64 (x + 1)) Q))
theorem tephralaw06_Entries.k1.eq (J : Jn) (says : Sl) (fromv : Int) (H1 : Hp) (out : Sl) (x : Int) (Opv : Int) (Client : Int) (Seq : Int) (Key : Int) (Valuev : Int) (Old : Int) (term2 : Int) (Q : Value → Hp → Prop) : vSeg Try.prog tephralaw06_Entries.cf J tephralaw06_Entries.fn [1, 1, 0, 1, 0, 0, 1, 1, 0, 0, 1, 1] [0, 0, 0, 0, 0, 0, 0, 0, 0, 1] Q (tephralaw06_Entries.k1.st says fromv H1 out x Opv Client Seq Key Valuev Old term2) = tephralaw06_Entries.k1.body J says fromv H1 out x Opv Client Seq Key Valuev Old term2 Q := by kernel_rfl
theorem tephralaw06_Entries.k1.step {says : Sl} {fromv : Int} {H1 : Hp} {out : Sl} {x : Int} {Opv : Int} {Client : Int} {Seq : Int} {Key : Int} {Valuev : Int} {Old : Int} {term2 : Int} {Q : Value → Hp → Prop} (h : tephralaw06_Entries.k1.body J0 says fromv H1 out x Opv Client Seq Key Valuev Old term2 Q) : tephralaw06_Entries.k1 J0 says fromv H1 out x Opv Client Seq Key Valuev Old term2 Q := step_of (vSeg Try.prog tephralaw06_Entries.cf J0 tephralaw06_Entries.fn [1, 1, 0, 1, 0, 0, 1, 1, 0, 0, 1, 1] [0, 0, 0, 0, 0, 0, 0, 0, 0, 1] Q) (tephralaw06_Entries.k1.st says fromv H1 out x Opv Client Seq Key Valuev Old term2) (tephralaw06_Entries.k1.eq J0 says fromv H1 out x Opv Client Seq Key Valuev Old term2 Q) (by kernel_rfl) h
noncomputable def tephralaw06_Entries.vc (J : Jn) (says : Sl) (fromv : Int) (term : Int) (H : Hp) (Q : Value → Hp → Prop) : Prop :=
 ((0 : Int) ≤ (if (80 : Int) < ((says.len : Nat) : Int) then 80 else ((says.len : Nat) : Int)) ∧ (if (80 : Int) < ((says.len : Nat) : Int) then 80 else ((says.len : Nat) : Int)) ≤ ((says.cap : Nat) : Int)) ∧ 
 tephralaw06_Entries.l1 J says fromv H term (Sl.mk none 0 0) 0 Q
theorem tephralaw06_Entries.eq (J : Jn) (says : Sl) (fromv : Int) (term : Int) (H : Hp) (Q : Value → Hp → Prop) : vFn Try.prog tephralaw06_Entries.cf J tephralaw06_Entries.fn [.slice says.a says.len says.cap, .int .i64 fromv, .int .i64 term] H Q = tephralaw06_Entries.vc J says fromv term H Q := by kernel_rfl
theorem tephralaw06_Entries.calls {says : Sl} {fromv : Int} {term : Int} {H : Hp} {Q : Value → Hp → Prop} (h : tephralaw06_Entries.vc J0 says fromv term H Q) : SCalls Try.prog tephralaw06_Entries.id [.slice says.a says.len says.cap, .int .i64 fromv, .int .i64 term] H Q := vFn_of Try.mixed Try.func13 (tephralaw06_Entries.eq J0 says fromv term H Q) h

/-! 14: (tephra/rlog.Log).Merge -/
noncomputable def rlog_Log_Merge.cf : Cfg := ⟨[4, 8, 13], [(4, [3, 4, 8]), (12, [4, 8, 65, 66, 67])], [(5, [3, 4, 8], true), (6, [3, 4, 8], true), (7, [1, 2, 3, 4, 8], true), (9, [3, 4, 8, 61], true), (16, [4, 8, 13, 65, 66, 67], true)], [], true, []⟩
noncomputable def rlog_Log_Merge.l1.st (lBase : Int) (lTerm : Int) (lEntries : Sl) (H2 : Hp) (es1 : Sl) : VS := ⟨mkFr 100 [(3, .v (.slice es1.a es1.len es1.cap)), (4, .loc 0 0), (8, .loc 1 0)], [(T_rlog_Log, [.int .i64 lBase, .int .i64 lTerm, .slice lEntries.a lEntries.len lEntries.cap]), (T_rlog_Log, [.int .i64 0, .int .i64 0, .slice none 0 0])], H2⟩
noncomputable def rlog_Log_Merge.l1 (J : Jn) (lBase : Int) (lTerm : Int) (lEntries : Sl) (H2 : Hp) (es1 : Sl) (Q : Value → Hp → Prop) : Prop := vAt Try.prog rlog_Log_Merge.cf J rlog_Log_Merge.fn [1, 1, 0, 1, 0, 0, 0] [0, 2, 2, 2, 2] Q (rlog_Log_Merge.l1.st lBase lTerm lEntries H2 es1)
noncomputable def rlog_Log_Merge.k1.st (lBase : Int) (lTerm : Int) (lEntries : Sl) (H2 : Hp) (es1 : Sl) : VS := ⟨mkFr 100 [(3, .v (.slice es1.a es1.len es1.cap)), (4, .loc 0 0), (8, .loc 1 0)], [(T_rlog_Log, [.int .i64 lBase, .int .i64 lTerm, .slice lEntries.a lEntries.len lEntries.cap]), (T_rlog_Log, [.int .i64 0, .int .i64 0, .slice none 0 0])], H2⟩
noncomputable def rlog_Log_Merge.k1 (J : Jn) (lBase : Int) (lTerm : Int) (lEntries : Sl) (H2 : Hp) (es1 : Sl) (Q : Value → Hp → Prop) : Prop := J (vSeg Try.prog rlog_Log_Merge.cf J rlog_Log_Merge.fn [1, 1, 0, 1, 0, 0, 0, 0, 1] [0, 2, 2, 2, 2, 2, 2] Q) (rlog_Log_Merge.k1.st lBase lTerm lEntries H2 es1)
noncomputable def rlog_Log_Merge.k2.st (lBase : Int) (lTerm : Int) (lEntries : Sl) (H2 : Hp) (es1 : Sl) : VS := ⟨mkFr 100 [(3, .v (.slice es1.a es1.len es1.cap)), (4, .loc 0 0), (8, .loc 1 0)], [(T_rlog_Log, [.int .i64 lBase, .int .i64 lTerm, .slice lEntries.a lEntries.len lEntries.cap]), (T_rlog_Log, [.int .i64 0, .int .i64 0, .slice none 0 0])], H2⟩
noncomputable def rlog_Log_Merge.k2 (J : Jn) (lBase : Int) (lTerm : Int) (lEntries : Sl) (H2 : Hp) (es1 : Sl) (Q : Value → Hp → Prop) : Prop := J (vSeg Try.prog rlog_Log_Merge.cf J rlog_Log_Merge.fn [1, 1, 0, 1, 0, 1] [0, 2, 2, 2, 2] Q) (rlog_Log_Merge.k2.st lBase lTerm lEntries H2 es1)
noncomputable def rlog_Log_Merge.k3.st (lBase : Int) (lTerm : Int) (lEntries : Sl) (prev : Int) (term : Int) (es : Sl) (H1 : Hp) : VS := ⟨mkFr 100 [(1, .v (.int .i64 prev)), (2, .v (.int .i64 term)), (3, .v (.slice es.a es.len es.cap)), (4, .loc 0 0), (8, .loc 1 0)], [(T_rlog_Log, [.int .i64 lBase, .int .i64 lTerm, .slice lEntries.a lEntries.len lEntries.cap]), (T_rlog_Log, [.int .i64 0, .int .i64 0, .slice none 0 0])], H1⟩
noncomputable def rlog_Log_Merge.k3 (J : Jn) (lBase : Int) (lTerm : Int) (lEntries : Sl) (prev : Int) (term : Int) (es : Sl) (H1 : Hp) (Q : Value → Hp → Prop) : Prop := J (vSeg Try.prog rlog_Log_Merge.cf J rlog_Log_Merge.fn [1, 1, 1] [0, 2, 2] Q) (rlog_Log_Merge.k3.st lBase lTerm lEntries prev term es H1)
noncomputable def rlog_Log_Merge.k4.st (lBase : Int) (lTerm : Int) (lEntries : Sl) (es : Sl) (H4 : Hp) (x4 : Bool) : VS := ⟨mkFr 100 [(3, .v (.slice es.a es.len es.cap)), (4, .loc 0 0), (8, .loc 1 0), (61, .v (.bool x4))], [(T_rlog_Log, [.int .i64 lBase, .int .i64 lTerm, .slice lEntries.a lEntries.len lEntries.cap]), (T_rlog_Log, [.int .i64 0, .int .i64 0, .slice none 0 0])], H4⟩
noncomputable def rlog_Log_Merge.k4 (J : Jn) (lBase : Int) (lTerm : Int) (lEntries : Sl) (es : Sl) (H4 : Hp) (x4 : Bool) (Q : Value → Hp → Prop) : Prop := J (vSeg Try.prog rlog_Log_Merge.cf J rlog_Log_Merge.fn [1, 1, 1, 0, 1, 1] [0, 2, 2, 2, 2, 2] Q) (rlog_Log_Merge.k4.st lBase lTerm lEntries es H4 x4)
noncomputable def rlog_Log_Merge.l2.st (es : Sl) (Base1 : Int) (Term1 : Int) (H6 : Hp) (x5 : Int) (y : Sl) : VS := ⟨mkFr 100 [(4, .loc 0 0), (8, .loc 1 0), (65, .v (.slice es.a es.len es.cap)), (66, .v (.int .i64 ((es.len : Nat) : Int))), (67, .v (.int .i64 x5))], [(T_rlog_Log, [.int .i64 Base1, .int .i64 Term1, .slice y.a y.len y.cap]), (T_rlog_Log, [.int .i64 0, .int .i64 0, .slice none 0 0])], H6⟩
noncomputable def rlog_Log_Merge.l2 (J : Jn) (es : Sl) (Base1 : Int) (Term1 : Int) (H6 : Hp) (x5 : Int) (y : Sl) (Q : Value → Hp → Prop) : Prop := vAt Try.prog rlog_Log_Merge.cf J rlog_Log_Merge.fn [1, 1, 1, 1, 1, 0, 1, 0] [0, 2, 2, 2, 2, 2, 2] Q (rlog_Log_Merge.l2.st es Base1 Term1 H6 x5 y)
noncomputable def rlog_Log_Merge.k5.st (es : Sl) (Base1 : Int) (Term1 : Int) (x5 : Int) (y : Sl) (Index1 : Int) (Term2 : Int) (CmdOp : Int) (CmdClient : Int) (CmdSeq : Int) (CmdKey : ByteArray) (CmdValue : ByteArray) (CmdOld : ByteArray) (H7 : Hp) : VS := ⟨mkFr 100 [(4, .loc 0 0), (8, .loc 1 0), (13, .loc 2 0), (65, .v (.slice es.a es.len es.cap)), (66, .v (.int .i64 ((es.len : Nat) : Int))), (67, .v (.int .i64 x5))], [(T_rlog_Log, [.int .i64 Base1, .int .i64 Term1, .slice y.a y.len y.cap]), (T_rlog_Log, [.int .i64 0, .int .i64 0, .slice none 0 0]), (T_api_Entry, [.int .i64 Index1, .int .i64 Term2, .int .i64 CmdOp, .int .i64 CmdClient, .int .i64 CmdSeq, .string CmdKey, .string CmdValue, .string CmdOld])], H7⟩
noncomputable def rlog_Log_Merge.k5 (J : Jn) (es : Sl) (Base1 : Int) (Term1 : Int) (x5 : Int) (y : Sl) (Index1 : Int) (Term2 : Int) (CmdOp : Int) (CmdClient : Int) (CmdSeq : Int) (CmdKey : ByteArray) (CmdValue : ByteArray) (CmdOld : ByteArray) (H7 : Hp) (Q : Value → Hp → Prop) : Prop := J (vSeg Try.prog rlog_Log_Merge.cf J rlog_Log_Merge.fn [1, 1, 1, 1, 1, 0, 1, 0, 0, 1, 1, 0, 0, 1, 1] [0, 2, 2, 2, 2, 2, 2, 2, 2, 2, 2, 2, 3] Q) (rlog_Log_Merge.k5.st es Base1 Term1 x5 y Index1 Term2 CmdOp CmdClient CmdSeq CmdKey CmdValue CmdOld H7)
attribute [irreducible] rlog_Log_Merge.l1 rlog_Log_Merge.k1 rlog_Log_Merge.k2 rlog_Log_Merge.k3 rlog_Log_Merge.k4 rlog_Log_Merge.l2 rlog_Log_Merge.k5
noncomputable def rlog_Log_Merge.l1.body (J : Jn) (lBase : Int) (lTerm : Int) (lEntries : Sl) (H2 : Hp) (es1 : Sl) (Q : Value → Hp → Prop) : Prop :=
 
 Br (decide (((es1.len : Nat) : Int) > 0)) (((0 : Int) ≤ 0 ∧ (0 : Int) < ((es1.len : Nat) : Int)) ∧ vPtr es1.a (fun a => ∃ Index : Int, Hp.cell? H2 a = some (.int .i64 Index) ∧ 
 Br (decide (Index ≤ lBase)) (
 rlog_Log_Merge.k1 J lBase lTerm lEntries H2 es1 Q)
 (
 rlog_Log_Merge.k2 J lBase lTerm lEntries H2 es1 Q)))
 (
 rlog_Log_Merge.k2 J lBase lTerm lEntries H2 es1 Q)
theorem rlog_Log_Merge.l1.eq (J : Jn) (lBase : Int) (lTerm : Int) (lEntries : Sl) (H2 : Hp) (es1 : Sl) (Q : Value → Hp → Prop) : vAtBody Try.prog rlog_Log_Merge.cf J rlog_Log_Merge.fn [1, 1, 0, 1, 0, 0, 0] [0, 2, 2, 2, 2] Q (rlog_Log_Merge.l1.st lBase lTerm lEntries H2 es1) = rlog_Log_Merge.l1.body J lBase lTerm lEntries H2 es1 Q := by kernel_rfl
theorem rlog_Log_Merge.l1.step {lBase : Int} {lTerm : Int} {lEntries : Sl} {H2 : Hp} {es1 : Sl} {Q : Value → Hp → Prop} (h : rlog_Log_Merge.l1.body J0 lBase lTerm lEntries H2 es1 Q) : rlog_Log_Merge.l1 J0 lBase lTerm lEntries H2 es1 Q := vAt_stepC (rlog_Log_Merge.l1.st lBase lTerm lEntries H2 es1) (rlog_Log_Merge.l1.eq J0 lBase lTerm lEntries H2 es1 Q) (by kernel_rfl) h
noncomputable def rlog_Log_Merge.k1.body (J : Jn) (lBase : Int) (lTerm : Int) (lEntries : Sl) (H2 : Hp) (es1 : Sl) (Q : Value → Hp → Prop) : Prop :=
 ((0 : Int) ≤ 1 ∧ (1 : Int) ≤ ((es1.len : Nat) : Int)) ∧ 
 rlog_Log_Merge.l1 J lBase lTerm lEntries H2 (Sl.mk (cutA es1.a es1.cap 1 8) (es1.len - 1) (es1.cap - 1)) Q
theorem rlog_Log_Merge.k1.eq (J : Jn) (lBase : Int) (lTerm : Int) (lEntries : Sl) (H2 : Hp) (es1 : Sl) (Q : Value → Hp → Prop) : vSeg Try.prog rlog_Log_Merge.cf J rlog_Log_Merge.fn [1, 1, 0, 1, 0, 0, 0, 0, 1] [0, 2, 2, 2, 2, 2, 2] Q (rlog_Log_Merge.k1.st lBase lTerm lEntries H2 es1) = rlog_Log_Merge.k1.body J lBase lTerm lEntries H2 es1 Q := by kernel_rfl
theorem rlog_Log_Merge.k1.step {lBase : Int} {lTerm : Int} {lEntries : Sl} {H2 : Hp} {es1 : Sl} {Q : Value → Hp → Prop} (h : rlog_Log_Merge.k1.body J0 lBase lTerm lEntries H2 es1 Q) : rlog_Log_Merge.k1 J0 lBase lTerm lEntries H2 es1 Q := step_of (vSeg Try.prog rlog_Log_Merge.cf J0 rlog_Log_Merge.fn [1, 1, 0, 1, 0, 0, 0, 0, 1] [0, 2, 2, 2, 2, 2, 2] Q) (rlog_Log_Merge.k1.st lBase lTerm lEntries H2 es1) (rlog_Log_Merge.k1.eq J0 lBase lTerm lEntries H2 es1 Q) (by kernel_rfl) h
noncomputable def rlog_Log_Merge.k2.body (J : Jn) (lBase : Int) (lTerm : Int) (lEntries : Sl) (H2 : Hp) (es1 : Sl) (Q : Value → Hp → Prop) : Prop :=
 
 SCalls Try.prog rlog_Log_Merge.id [.agg #[.int .i64 lBase, .int .i64 lTerm, .slice lEntries.a lEntries.len lEntries.cap], .int .i64 lBase, .int .i64 lTerm, .slice es1.a es1.len es1.cap] H2 (fun r1 H3 => ∃ Base : Int, ∃ Term : Int, ∃ Entries : Sl, ∃ x1 : Bool, r1 = .tuple #[.agg #[.int .i64 Base, .int .i64 Term, .slice Entries.a Entries.len Entries.cap], .bool x1] ∧ Q (.tuple #[.agg #[.int .i64 Base, .int .i64 Term, .slice Entries.a Entries.len Entries.cap], .bool x1]) H3)
theorem rlog_Log_Merge.k2.eq (J : Jn) (lBase : Int) (lTerm : Int) (lEntries : Sl) (H2 : Hp) (es1 : Sl) (Q : Value → Hp → Prop) : vSeg Try.prog rlog_Log_Merge.cf J rlog_Log_Merge.fn [1, 1, 0, 1, 0, 1] [0, 2, 2, 2, 2] Q (rlog_Log_Merge.k2.st lBase lTerm lEntries H2 es1) = rlog_Log_Merge.k2.body J lBase lTerm lEntries H2 es1 Q := by kernel_rfl
theorem rlog_Log_Merge.k2.step {lBase : Int} {lTerm : Int} {lEntries : Sl} {H2 : Hp} {es1 : Sl} {Q : Value → Hp → Prop} (h : rlog_Log_Merge.k2.body J0 lBase lTerm lEntries H2 es1 Q) : rlog_Log_Merge.k2 J0 lBase lTerm lEntries H2 es1 Q := step_of (vSeg Try.prog rlog_Log_Merge.cf J0 rlog_Log_Merge.fn [1, 1, 0, 1, 0, 1] [0, 2, 2, 2, 2] Q) (rlog_Log_Merge.k2.st lBase lTerm lEntries H2 es1) (rlog_Log_Merge.k2.eq J0 lBase lTerm lEntries H2 es1 Q) (by kernel_rfl) h
noncomputable def rlog_Log_Merge.k3.body (J : Jn) (lBase : Int) (lTerm : Int) (lEntries : Sl) (prev : Int) (term : Int) (es : Sl) (H1 : Hp) (Q : Value → Hp → Prop) : Prop :=
 
 SCalls Try.prog rlog_Log_TermAt.id [.agg #[.int .i64 lBase, .int .i64 lTerm, .slice lEntries.a lEntries.len lEntries.cap], .int .i64 prev] H1 (fun r2 H4 => ∃ x2 : Int, ∃ x3 : Bool, r2 = .tuple #[.int .i64 x2, .bool x3] ∧ 
 Br (!x3) (
 rlog_Log_Merge.k4 J lBase lTerm lEntries es H4 true Q)
 (
 rlog_Log_Merge.k4 J lBase lTerm lEntries es H4 (x2 != term) Q))
theorem rlog_Log_Merge.k3.eq (J : Jn) (lBase : Int) (lTerm : Int) (lEntries : Sl) (prev : Int) (term : Int) (es : Sl) (H1 : Hp) (Q : Value → Hp → Prop) : vSeg Try.prog rlog_Log_Merge.cf J rlog_Log_Merge.fn [1, 1, 1] [0, 2, 2] Q (rlog_Log_Merge.k3.st lBase lTerm lEntries prev term es H1) = rlog_Log_Merge.k3.body J lBase lTerm lEntries prev term es H1 Q := by kernel_rfl
theorem rlog_Log_Merge.k3.step {lBase : Int} {lTerm : Int} {lEntries : Sl} {prev : Int} {term : Int} {es : Sl} {H1 : Hp} {Q : Value → Hp → Prop} (h : rlog_Log_Merge.k3.body J0 lBase lTerm lEntries prev term es H1 Q) : rlog_Log_Merge.k3 J0 lBase lTerm lEntries prev term es H1 Q := step_of (vSeg Try.prog rlog_Log_Merge.cf J0 rlog_Log_Merge.fn [1, 1, 1] [0, 2, 2] Q) (rlog_Log_Merge.k3.st lBase lTerm lEntries prev term es H1) (rlog_Log_Merge.k3.eq J0 lBase lTerm lEntries prev term es H1 Q) (by kernel_rfl) h
noncomputable def rlog_Log_Merge.k4.body (J : Jn) (lBase : Int) (lTerm : Int) (lEntries : Sl) (es : Sl) (H4 : Hp) (x4 : Bool) (Q : Value → Hp → Prop) : Prop :=
 
 Br x4 (Q (.tuple #[.agg #[.int .i64 lBase, .int .i64 lTerm, .slice lEntries.a lEntries.len lEntries.cap], .bool false]) H4)
 (
 SCalls Try.prog rlog_Log_Clone.id [.agg #[.int .i64 lBase, .int .i64 lTerm, .slice lEntries.a lEntries.len lEntries.cap]] H4 (fun r3 H5 => ∃ Base1 : Int, ∃ Term1 : Int, ∃ Entries1 : Sl, r3 = .agg #[.int .i64 Base1, .int .i64 Term1, .slice Entries1.a Entries1.len Entries1.cap] ∧ 
 rlog_Log_Merge.l2 J es Base1 Term1 H5 0 Entries1 Q))
theorem rlog_Log_Merge.k4.eq (J : Jn) (lBase : Int) (lTerm : Int) (lEntries : Sl) (es : Sl) (H4 : Hp) (x4 : Bool) (Q : Value → Hp → Prop) : vSeg Try.prog rlog_Log_Merge.cf J rlog_Log_Merge.fn [1, 1, 1, 0, 1, 1] [0, 2, 2, 2, 2, 2] Q (rlog_Log_Merge.k4.st lBase lTerm lEntries es H4 x4) = rlog_Log_Merge.k4.body J lBase lTerm lEntries es H4 x4 Q := by kernel_rfl
theorem rlog_Log_Merge.k4.step {lBase : Int} {lTerm : Int} {lEntries : Sl} {es : Sl} {H4 : Hp} {x4 : Bool} {Q : Value → Hp → Prop} (h : rlog_Log_Merge.k4.body J0 lBase lTerm lEntries es H4 x4 Q) : rlog_Log_Merge.k4 J0 lBase lTerm lEntries es H4 x4 Q := step_of (vSeg Try.prog rlog_Log_Merge.cf J0 rlog_Log_Merge.fn [1, 1, 1, 0, 1, 1] [0, 2, 2, 2, 2, 2] Q) (rlog_Log_Merge.k4.st lBase lTerm lEntries es H4 x4) (rlog_Log_Merge.k4.eq J0 lBase lTerm lEntries es H4 x4 Q) (by kernel_rfl) h
noncomputable def rlog_Log_Merge.l2.body (J : Jn) (es : Sl) (Base1 : Int) (Term1 : Int) (H6 : Hp) (x5 : Int) (y : Sl) (Q : Value → Hp → Prop) : Prop :=
 
 Br (decide (x5 < ((es.len : Nat) : Int))) (((0 : Int) ≤ x5 ∧ x5 < ((es.len : Nat) : Int)) ∧ vPtr es.a (fun a1 => ∃ Index1 : Int, ∃ Term2 : Int, ∃ CmdOp : Int, ∃ CmdClient : Int, ∃ CmdSeq : Int, ∃ CmdKey : ByteArray, ∃ CmdValue : ByteArray, ∃ CmdOld : ByteArray, RowAt H6 (a1.add ((x5 : Int).toNat * 8)) [.int .i64 Index1, .int .i64 Term2, .int .i64 CmdOp, .int .i64 CmdClient, .int .i64 CmdSeq, .string CmdKey, .string CmdValue, .string CmdOld] ∧ 
 SCalls Try.prog rlog_Log_TermAt.id [.agg #[.int .i64 Base1, .int .i64 Term1, .slice y.a y.len y.cap], .int .i64 Index1] (holes H6 1) (fun r4 H7 => ∃ x6 : Int, ∃ x7 : Bool, r4 = .tuple #[.int .i64 x6, .bool x7] ∧ 
 Br x7 (
 Br (x6 == Term2) (
 rlog_Log_Merge.l2 J es Base1 Term1 H7 (w64 (x5 + 1)) y Q)
 (
 rlog_Log_Merge.k5 J es Base1 Term1 x5 y Index1 Term2 CmdOp CmdClient CmdSeq CmdKey CmdValue CmdOld H7 Q))
 (
 rlog_Log_Merge.k5 J es Base1 Term1 x5 y Index1 Term2 CmdOp CmdClient CmdSeq CmdKey CmdValue CmdOld H7 Q))))
 (Q (.tuple #[.agg #[.int .i64 Base1, .int .i64 Term1, .slice y.a y.len y.cap], .bool true]) H6)
theorem rlog_Log_Merge.l2.eq (J : Jn) (es : Sl) (Base1 : Int) (Term1 : Int) (H6 : Hp) (x5 : Int) (y : Sl) (Q : Value → Hp → Prop) : vAtBody Try.prog rlog_Log_Merge.cf J rlog_Log_Merge.fn [1, 1, 1, 1, 1, 0, 1, 0] [0, 2, 2, 2, 2, 2, 2] Q (rlog_Log_Merge.l2.st es Base1 Term1 H6 x5 y) = rlog_Log_Merge.l2.body J es Base1 Term1 H6 x5 y Q := by kernel_rfl
theorem rlog_Log_Merge.l2.step {es : Sl} {Base1 : Int} {Term1 : Int} {H6 : Hp} {x5 : Int} {y : Sl} {Q : Value → Hp → Prop} (h : rlog_Log_Merge.l2.body J0 es Base1 Term1 H6 x5 y Q) : rlog_Log_Merge.l2 J0 es Base1 Term1 H6 x5 y Q := vAt_stepC (rlog_Log_Merge.l2.st es Base1 Term1 H6 x5 y) (rlog_Log_Merge.l2.eq J0 es Base1 Term1 H6 x5 y Q) (by kernel_rfl) h
noncomputable def rlog_Log_Merge.k5.body (J : Jn) (es : Sl) (Base1 : Int) (Term1 : Int) (x5 : Int) (y : Sl) (Index1 : Int) (Term2 : Int) (CmdOp : Int) (CmdClient : Int) (CmdSeq : Int) (CmdKey : ByteArray) (CmdValue : ByteArray) (CmdOld : ByteArray) (H7 : Hp) (Q : Value → Hp → Prop) : Prop :=
 ((0 : Int) ≤ (w64 ((w64 (Index1 - Base1)) - 1)) ∧ (w64 ((w64 (Index1 - Base1)) - 1)) ≤ ((y.cap : Nat) : Int)) ∧ 
 vApp Try.prog T_sl_api_Entry (cutA y.a y.cap 0 8) (((w64 ((w64 (Index1 - Base1)) - 1)) : Int).toNat) y.cap (.slice (some (Addr.mk (Array.size H7) 0 none)) 1 1) (Array.push H7 (.cells #[.int .i64 Index1, .int .i64 Term2, .int .i64 CmdOp, .int .i64 CmdClient, .int .i64 CmdSeq, .string CmdKey, .string CmdValue, .string CmdOld] T_api_Entry)) (fun ap H8 => 
 rlog_Log_Merge.l2 J es Base1 Term1 H8 (w64 (x5 + 1)) ap Q)
theorem rlog_Log_Merge.k5.eq (J : Jn) (es : Sl) (Base1 : Int) (Term1 : Int) (x5 : Int) (y : Sl) (Index1 : Int) (Term2 : Int) (CmdOp : Int) (CmdClient : Int) (CmdSeq : Int) (CmdKey : ByteArray) (CmdValue : ByteArray) (CmdOld : ByteArray) (H7 : Hp) (Q : Value → Hp → Prop) : vSeg Try.prog rlog_Log_Merge.cf J rlog_Log_Merge.fn [1, 1, 1, 1, 1, 0, 1, 0, 0, 1, 1, 0, 0, 1, 1] [0, 2, 2, 2, 2, 2, 2, 2, 2, 2, 2, 2, 3] Q (rlog_Log_Merge.k5.st es Base1 Term1 x5 y Index1 Term2 CmdOp CmdClient CmdSeq CmdKey CmdValue CmdOld H7) = rlog_Log_Merge.k5.body J es Base1 Term1 x5 y Index1 Term2 CmdOp CmdClient CmdSeq CmdKey CmdValue CmdOld H7 Q := by kernel_rfl
theorem rlog_Log_Merge.k5.step {es : Sl} {Base1 : Int} {Term1 : Int} {x5 : Int} {y : Sl} {Index1 : Int} {Term2 : Int} {CmdOp : Int} {CmdClient : Int} {CmdSeq : Int} {CmdKey : ByteArray} {CmdValue : ByteArray} {CmdOld : ByteArray} {H7 : Hp} {Q : Value → Hp → Prop} (h : rlog_Log_Merge.k5.body J0 es Base1 Term1 x5 y Index1 Term2 CmdOp CmdClient CmdSeq CmdKey CmdValue CmdOld H7 Q) : rlog_Log_Merge.k5 J0 es Base1 Term1 x5 y Index1 Term2 CmdOp CmdClient CmdSeq CmdKey CmdValue CmdOld H7 Q := step_of (vSeg Try.prog rlog_Log_Merge.cf J0 rlog_Log_Merge.fn [1, 1, 1, 1, 1, 0, 1, 0, 0, 1, 1, 0, 0, 1, 1] [0, 2, 2, 2, 2, 2, 2, 2, 2, 2, 2, 2, 3] Q) (rlog_Log_Merge.k5.st es Base1 Term1 x5 y Index1 Term2 CmdOp CmdClient CmdSeq CmdKey CmdValue CmdOld H7) (rlog_Log_Merge.k5.eq J0 es Base1 Term1 x5 y Index1 Term2 CmdOp CmdClient CmdSeq CmdKey CmdValue CmdOld H7 Q) (by kernel_rfl) h
noncomputable def rlog_Log_Merge.vc (J : Jn) (lBase : Int) (lTerm : Int) (lEntries : Sl) (prev : Int) (term : Int) (es : Sl) (H : Hp) (Q : Value → Hp → Prop) : Prop :=
 
 SCalls Try.prog cmds_Row.id [.slice es.a es.len es.cap, .int .i64 (w64 (prev + 1))] (holes H 2) (fun r H1 => ∃ x : Bool, r = .bool x ∧ 
 Br (!x) (Q (.tuple #[.agg #[.int .i64 lBase, .int .i64 lTerm, .slice lEntries.a lEntries.len lEntries.cap], .bool false]) H1)
 (
 Br (decide (prev < lBase)) (
 rlog_Log_Merge.l1 J lBase lTerm lEntries H1 es Q)
 (
 rlog_Log_Merge.k3 J lBase lTerm lEntries prev term es H1 Q)))
theorem rlog_Log_Merge.eq (J : Jn) (lBase : Int) (lTerm : Int) (lEntries : Sl) (prev : Int) (term : Int) (es : Sl) (H : Hp) (Q : Value → Hp → Prop) : vFn Try.prog rlog_Log_Merge.cf J rlog_Log_Merge.fn [.agg #[.int .i64 lBase, .int .i64 lTerm, .slice lEntries.a lEntries.len lEntries.cap], .int .i64 prev, .int .i64 term, .slice es.a es.len es.cap] H Q = rlog_Log_Merge.vc J lBase lTerm lEntries prev term es H Q := by kernel_rfl
theorem rlog_Log_Merge.calls {lBase : Int} {lTerm : Int} {lEntries : Sl} {prev : Int} {term : Int} {es : Sl} {H : Hp} {Q : Value → Hp → Prop} (h : rlog_Log_Merge.vc J0 lBase lTerm lEntries prev term es H Q) : SCalls Try.prog rlog_Log_Merge.id [.agg #[.int .i64 lBase, .int .i64 lTerm, .slice lEntries.a lEntries.len lEntries.cap], .int .i64 prev, .int .i64 term, .slice es.a es.len es.cap] H Q := vFn_of Try.mixed Try.func14 (rlog_Log_Merge.eq J0 lBase lTerm lEntries prev term es H Q) h

/-! 15: tephra/tephralaw13.merge -/
noncomputable def tephralaw13_merge.cf : Cfg := ⟨[4, 8, 12, 14], [(4, [3, 4, 8]), (12, [4, 8, 12, 67, 68, 69])], [(5, [3, 4, 8], true), (6, [3, 4, 8], true), (7, [1, 2, 3, 4, 8], true), (9, [3, 4, 8, 57], true), (16, [4, 8, 12, 14, 67, 68, 69, 87], true)], [], true, []⟩
noncomputable def tephralaw13_merge.l1.st (lBase : Int) (lTerm : Int) (lEntries : Sl) (H2 : Hp) (es1 : Sl) : VS := ⟨mkFr 103 [(3, .v (.slice es1.a es1.len es1.cap)), (4, .loc 0 0), (8, .loc 1 0)], [(T_rlog_Log, [.int .i64 lBase, .int .i64 lTerm, .slice lEntries.a lEntries.len lEntries.cap]), (T_rlog_Log, [.int .i64 0, .int .i64 0, .slice none 0 0])], H2⟩
noncomputable def tephralaw13_merge.l1 (J : Jn) (lBase : Int) (lTerm : Int) (lEntries : Sl) (H2 : Hp) (es1 : Sl) (Q : Value → Hp → Prop) : Prop := vAt Try.prog tephralaw13_merge.cf J tephralaw13_merge.fn [1, 1, 0, 1, 0, 0, 0] [0, 2, 2, 2, 2] Q (tephralaw13_merge.l1.st lBase lTerm lEntries H2 es1)
noncomputable def tephralaw13_merge.k1.st (lBase : Int) (lTerm : Int) (lEntries : Sl) (H2 : Hp) (es1 : Sl) : VS := ⟨mkFr 103 [(3, .v (.slice es1.a es1.len es1.cap)), (4, .loc 0 0), (8, .loc 1 0)], [(T_rlog_Log, [.int .i64 lBase, .int .i64 lTerm, .slice lEntries.a lEntries.len lEntries.cap]), (T_rlog_Log, [.int .i64 0, .int .i64 0, .slice none 0 0])], H2⟩
noncomputable def tephralaw13_merge.k1 (J : Jn) (lBase : Int) (lTerm : Int) (lEntries : Sl) (H2 : Hp) (es1 : Sl) (Q : Value → Hp → Prop) : Prop := J (vSeg Try.prog tephralaw13_merge.cf J tephralaw13_merge.fn [1, 1, 0, 1, 0, 0, 0, 0, 1] [0, 2, 2, 2, 2, 2, 2] Q) (tephralaw13_merge.k1.st lBase lTerm lEntries H2 es1)
noncomputable def tephralaw13_merge.k2.st (lBase : Int) (lTerm : Int) (lEntries : Sl) (H2 : Hp) (es1 : Sl) : VS := ⟨mkFr 103 [(3, .v (.slice es1.a es1.len es1.cap)), (4, .loc 0 0), (8, .loc 1 0)], [(T_rlog_Log, [.int .i64 lBase, .int .i64 lTerm, .slice lEntries.a lEntries.len lEntries.cap]), (T_rlog_Log, [.int .i64 0, .int .i64 0, .slice none 0 0])], H2⟩
noncomputable def tephralaw13_merge.k2 (J : Jn) (lBase : Int) (lTerm : Int) (lEntries : Sl) (H2 : Hp) (es1 : Sl) (Q : Value → Hp → Prop) : Prop := J (vSeg Try.prog tephralaw13_merge.cf J tephralaw13_merge.fn [1, 1, 0, 1, 0, 1] [0, 2, 2, 2, 2] Q) (tephralaw13_merge.k2.st lBase lTerm lEntries H2 es1)
noncomputable def tephralaw13_merge.k3.st (lBase : Int) (lTerm : Int) (lEntries : Sl) (prev1 : Int) (atv1 : Int) (es2 : Sl) (H3 : Hp) : VS := ⟨mkFr 103 [(1, .v (.int .i64 prev1)), (2, .v (.int .i64 atv1)), (3, .v (.slice es2.a es2.len es2.cap)), (4, .loc 0 0), (8, .loc 1 0)], [(T_rlog_Log, [.int .i64 lBase, .int .i64 lTerm, .slice lEntries.a lEntries.len lEntries.cap]), (T_rlog_Log, [.int .i64 0, .int .i64 0, .slice none 0 0])], H3⟩
noncomputable def tephralaw13_merge.k3 (J : Jn) (lBase : Int) (lTerm : Int) (lEntries : Sl) (prev1 : Int) (atv1 : Int) (es2 : Sl) (H3 : Hp) (Q : Value → Hp → Prop) : Prop := J (vSeg Try.prog tephralaw13_merge.cf J tephralaw13_merge.fn [1, 1, 1] [0, 2, 2] Q) (tephralaw13_merge.k3.st lBase lTerm lEntries prev1 atv1 es2 H3)
noncomputable def tephralaw13_merge.k4.st (lBase : Int) (lTerm : Int) (lEntries : Sl) (es2 : Sl) (H4 : Hp) (x3 : Bool) : VS := ⟨mkFr 103 [(3, .v (.slice es2.a es2.len es2.cap)), (4, .loc 0 0), (8, .loc 1 0), (57, .v (.bool x3))], [(T_rlog_Log, [.int .i64 lBase, .int .i64 lTerm, .slice lEntries.a lEntries.len lEntries.cap]), (T_rlog_Log, [.int .i64 0, .int .i64 0, .slice none 0 0])], H4⟩
noncomputable def tephralaw13_merge.k4 (J : Jn) (lBase : Int) (lTerm : Int) (lEntries : Sl) (es2 : Sl) (H4 : Hp) (x3 : Bool) (Q : Value → Hp → Prop) : Prop := J (vSeg Try.prog tephralaw13_merge.cf J tephralaw13_merge.fn [1, 1, 1, 0, 1, 1] [0, 2, 2, 2, 2, 2] Q) (tephralaw13_merge.k4.st lBase lTerm lEntries es2 H4 x3)
noncomputable def tephralaw13_merge.l2.st (lBase : Int) (lTerm : Int) (lEntries : Sl) (es2 : Sl) (H7 : Hp) (x4 : Int) (y : Sl) : VS := ⟨mkFr 103 [(4, .loc 0 0), (8, .loc 1 0), (12, .loc 2 0), (67, .v (.slice es2.a es2.len es2.cap)), (68, .v (.int .i64 ((es2.len : Nat) : Int))), (69, .v (.int .i64 x4))], [(T_rlog_Log, [.int .i64 lBase, .int .i64 lTerm, .slice lEntries.a lEntries.len lEntries.cap]), (T_rlog_Log, [.int .i64 0, .int .i64 0, .slice none 0 0]), (T_rlog_Log, [.int .i64 lBase, .int .i64 lTerm, .slice y.a y.len y.cap])], H7⟩
noncomputable def tephralaw13_merge.l2 (J : Jn) (lBase : Int) (lTerm : Int) (lEntries : Sl) (es2 : Sl) (H7 : Hp) (x4 : Int) (y : Sl) (Q : Value → Hp → Prop) : Prop := vAt Try.prog tephralaw13_merge.cf J tephralaw13_merge.fn [1, 1, 1, 1, 1, 0, 1, 0] [0, 2, 2, 2, 2, 3, 3] Q (tephralaw13_merge.l2.st lBase lTerm lEntries es2 H7 x4 y)
noncomputable def tephralaw13_merge.k5.st (lBase : Int) (lTerm : Int) (lEntries : Sl) (es2 : Sl) (x4 : Int) (y : Sl) (Index1 : Int) (Term : Int) (CmdOp : Int) (CmdClient : Int) (CmdSeq : Int) (CmdKey : ByteArray) (CmdValue : ByteArray) (CmdOld : ByteArray) (H8 : Hp) (x7 : Bool) : VS := ⟨mkFr 103 [(4, .loc 0 0), (8, .loc 1 0), (12, .loc 2 0), (14, .loc 3 0), (67, .v (.slice es2.a es2.len es2.cap)), (68, .v (.int .i64 ((es2.len : Nat) : Int))), (69, .v (.int .i64 x4)), (87, .v (.bool x7))], [(T_rlog_Log, [.int .i64 lBase, .int .i64 lTerm, .slice lEntries.a lEntries.len lEntries.cap]), (T_rlog_Log, [.int .i64 0, .int .i64 0, .slice none 0 0]), (T_rlog_Log, [.int .i64 lBase, .int .i64 lTerm, .slice y.a y.len y.cap]), (T_api_Entry, [.int .i64 Index1, .int .i64 Term, .int .i64 CmdOp, .int .i64 CmdClient, .int .i64 CmdSeq, .string CmdKey, .string CmdValue, .string CmdOld])], H8⟩
noncomputable def tephralaw13_merge.k5 (J : Jn) (lBase : Int) (lTerm : Int) (lEntries : Sl) (es2 : Sl) (x4 : Int) (y : Sl) (Index1 : Int) (Term : Int) (CmdOp : Int) (CmdClient : Int) (CmdSeq : Int) (CmdKey : ByteArray) (CmdValue : ByteArray) (CmdOld : ByteArray) (H8 : Hp) (x7 : Bool) (Q : Value → Hp → Prop) : Prop := J (vSeg Try.prog tephralaw13_merge.cf J tephralaw13_merge.fn [1, 1, 1, 1, 1, 0, 1, 0, 0, 1, 1, 0, 0, 1, 1, 1] [0, 2, 2, 2, 2, 3, 3, 3, 3, 3, 3, 3, 4, 4] Q) (tephralaw13_merge.k5.st lBase lTerm lEntries es2 x4 y Index1 Term CmdOp CmdClient CmdSeq CmdKey CmdValue CmdOld H8 x7)
noncomputable def tephralaw13_merge.l3.st (lBase : Int) (lTerm : Int) (lEntries : Sl) (es2 : Sl) (H10 : Hp) (x8 : Int) (y1 : Sl) : VS := ⟨mkFr 103 [(4, .loc 0 0), (8, .loc 1 0), (12, .loc 2 0), (67, .v (.slice es2.a es2.len es2.cap)), (68, .v (.int .i64 ((es2.len : Nat) : Int))), (69, .v (.int .i64 x8))], [(T_rlog_Log, [.int .i64 lBase, .int .i64 lTerm, .slice lEntries.a lEntries.len lEntries.cap]), (T_rlog_Log, [.int .i64 0, .int .i64 0, .slice none 0 0]), (T_rlog_Log, [.int .i64 lBase, .int .i64 lTerm, .slice y1.a y1.len y1.cap])], H10⟩
noncomputable def tephralaw13_merge.l3 (J : Jn) (lBase : Int) (lTerm : Int) (lEntries : Sl) (es2 : Sl) (H10 : Hp) (x8 : Int) (y1 : Sl) (Q : Value → Hp → Prop) : Prop := vAt Try.prog tephralaw13_merge.cf J tephralaw13_merge.fn [1, 1, 1, 1, 1, 0, 1, 0] [0, 2, 2, 2, 2, 3, 3] Q (tephralaw13_merge.l3.st lBase lTerm lEntries es2 H10 x8 y1)
noncomputable def tephralaw13_merge.k6.st (lBase : Int) (lTerm : Int) (lEntries : Sl) (es2 : Sl) (x8 : Int) (y1 : Sl) (Index2 : Int) (Term1 : Int) (CmdOp1 : Int) (CmdClient1 : Int) (CmdSeq1 : Int) (CmdKey1 : ByteArray) (CmdValue1 : ByteArray) (CmdOld1 : ByteArray) (H11 : Hp) (x11 : Bool) : VS := ⟨mkFr 103 [(4, .loc 0 0), (8, .loc 1 0), (12, .loc 2 0), (14, .loc 3 0), (67, .v (.slice es2.a es2.len es2.cap)), (68, .v (.int .i64 ((es2.len : Nat) : Int))), (69, .v (.int .i64 x8)), (87, .v (.bool x11))], [(T_rlog_Log, [.int .i64 lBase, .int .i64 lTerm, .slice lEntries.a lEntries.len lEntries.cap]), (T_rlog_Log, [.int .i64 0, .int .i64 0, .slice none 0 0]), (T_rlog_Log, [.int .i64 lBase, .int .i64 lTerm, .slice y1.a y1.len y1.cap]), (T_api_Entry, [.int .i64 Index2, .int .i64 Term1, .int .i64 CmdOp1, .int .i64 CmdClient1, .int .i64 CmdSeq1, .string CmdKey1, .string CmdValue1, .string CmdOld1])], H11⟩
noncomputable def tephralaw13_merge.k6 (J : Jn) (lBase : Int) (lTerm : Int) (lEntries : Sl) (es2 : Sl) (x8 : Int) (y1 : Sl) (Index2 : Int) (Term1 : Int) (CmdOp1 : Int) (CmdClient1 : Int) (CmdSeq1 : Int) (CmdKey1 : ByteArray) (CmdValue1 : ByteArray) (CmdOld1 : ByteArray) (H11 : Hp) (x11 : Bool) (Q : Value → Hp → Prop) : Prop := J (vSeg Try.prog tephralaw13_merge.cf J tephralaw13_merge.fn [1, 1, 1, 1, 1, 0, 1, 0, 0, 1, 1, 0, 0, 1, 1, 1] [0, 2, 2, 2, 2, 3, 3, 3, 3, 3, 3, 3, 4, 4] Q) (tephralaw13_merge.k6.st lBase lTerm lEntries es2 x8 y1 Index2 Term1 CmdOp1 CmdClient1 CmdSeq1 CmdKey1 CmdValue1 CmdOld1 H11 x11)
attribute [irreducible] tephralaw13_merge.l1 tephralaw13_merge.k1 tephralaw13_merge.k2 tephralaw13_merge.k3 tephralaw13_merge.k4 tephralaw13_merge.l2 tephralaw13_merge.k5 tephralaw13_merge.l3 tephralaw13_merge.k6
noncomputable def tephralaw13_merge.l1.body (J : Jn) (lBase : Int) (lTerm : Int) (lEntries : Sl) (H2 : Hp) (es1 : Sl) (Q : Value → Hp → Prop) : Prop :=
 
 Br (decide (((es1.len : Nat) : Int) > 0)) (((0 : Int) ≤ 0 ∧ (0 : Int) < ((es1.len : Nat) : Int)) ∧ vPtr es1.a (fun a => ∃ Index : Int, Hp.cell? H2 a = some (.int .i64 Index) ∧ 
 Br (decide (Index ≤ lBase)) (
 tephralaw13_merge.k1 J lBase lTerm lEntries H2 es1 Q)
 (
 tephralaw13_merge.k2 J lBase lTerm lEntries H2 es1 Q)))
 (
 tephralaw13_merge.k2 J lBase lTerm lEntries H2 es1 Q)
theorem tephralaw13_merge.l1.eq (J : Jn) (lBase : Int) (lTerm : Int) (lEntries : Sl) (H2 : Hp) (es1 : Sl) (Q : Value → Hp → Prop) : vAtBody Try.prog tephralaw13_merge.cf J tephralaw13_merge.fn [1, 1, 0, 1, 0, 0, 0] [0, 2, 2, 2, 2] Q (tephralaw13_merge.l1.st lBase lTerm lEntries H2 es1) = tephralaw13_merge.l1.body J lBase lTerm lEntries H2 es1 Q := by kernel_rfl
theorem tephralaw13_merge.l1.step {lBase : Int} {lTerm : Int} {lEntries : Sl} {H2 : Hp} {es1 : Sl} {Q : Value → Hp → Prop} (h : tephralaw13_merge.l1.body J0 lBase lTerm lEntries H2 es1 Q) : tephralaw13_merge.l1 J0 lBase lTerm lEntries H2 es1 Q := vAt_stepC (tephralaw13_merge.l1.st lBase lTerm lEntries H2 es1) (tephralaw13_merge.l1.eq J0 lBase lTerm lEntries H2 es1 Q) (by kernel_rfl) h
noncomputable def tephralaw13_merge.k1.body (J : Jn) (lBase : Int) (lTerm : Int) (lEntries : Sl) (H2 : Hp) (es1 : Sl) (Q : Value → Hp → Prop) : Prop :=
 ((0 : Int) ≤ 1 ∧ (1 : Int) ≤ ((es1.len : Nat) : Int)) ∧ 
 tephralaw13_merge.l1 J lBase lTerm lEntries H2 (Sl.mk (cutA es1.a es1.cap 1 8) (es1.len - 1) (es1.cap - 1)) Q
theorem tephralaw13_merge.k1.eq (J : Jn) (lBase : Int) (lTerm : Int) (lEntries : Sl) (H2 : Hp) (es1 : Sl) (Q : Value → Hp → Prop) : vSeg Try.prog tephralaw13_merge.cf J tephralaw13_merge.fn [1, 1, 0, 1, 0, 0, 0, 0, 1] [0, 2, 2, 2, 2, 2, 2] Q (tephralaw13_merge.k1.st lBase lTerm lEntries H2 es1) = tephralaw13_merge.k1.body J lBase lTerm lEntries H2 es1 Q := by kernel_rfl
theorem tephralaw13_merge.k1.step {lBase : Int} {lTerm : Int} {lEntries : Sl} {H2 : Hp} {es1 : Sl} {Q : Value → Hp → Prop} (h : tephralaw13_merge.k1.body J0 lBase lTerm lEntries H2 es1 Q) : tephralaw13_merge.k1 J0 lBase lTerm lEntries H2 es1 Q := step_of (vSeg Try.prog tephralaw13_merge.cf J0 tephralaw13_merge.fn [1, 1, 0, 1, 0, 0, 0, 0, 1] [0, 2, 2, 2, 2, 2, 2] Q) (tephralaw13_merge.k1.st lBase lTerm lEntries H2 es1) (tephralaw13_merge.k1.eq J0 lBase lTerm lEntries H2 es1 Q) (by kernel_rfl) h
noncomputable def tephralaw13_merge.k2.body (J : Jn) (lBase : Int) (lTerm : Int) (lEntries : Sl) (H2 : Hp) (es1 : Sl) (Q : Value → Hp → Prop) : Prop :=
 
 tephralaw13_merge.k3 J lBase lTerm lEntries lBase lTerm es1 H2 Q
theorem tephralaw13_merge.k2.eq (J : Jn) (lBase : Int) (lTerm : Int) (lEntries : Sl) (H2 : Hp) (es1 : Sl) (Q : Value → Hp → Prop) : vSeg Try.prog tephralaw13_merge.cf J tephralaw13_merge.fn [1, 1, 0, 1, 0, 1] [0, 2, 2, 2, 2] Q (tephralaw13_merge.k2.st lBase lTerm lEntries H2 es1) = tephralaw13_merge.k2.body J lBase lTerm lEntries H2 es1 Q := by kernel_rfl
theorem tephralaw13_merge.k2.step {lBase : Int} {lTerm : Int} {lEntries : Sl} {H2 : Hp} {es1 : Sl} {Q : Value → Hp → Prop} (h : tephralaw13_merge.k2.body J0 lBase lTerm lEntries H2 es1 Q) : tephralaw13_merge.k2 J0 lBase lTerm lEntries H2 es1 Q := step_of (vSeg Try.prog tephralaw13_merge.cf J0 tephralaw13_merge.fn [1, 1, 0, 1, 0, 1] [0, 2, 2, 2, 2] Q) (tephralaw13_merge.k2.st lBase lTerm lEntries H2 es1) (tephralaw13_merge.k2.eq J0 lBase lTerm lEntries H2 es1 Q) (by kernel_rfl) h
noncomputable def tephralaw13_merge.k3.body (J : Jn) (lBase : Int) (lTerm : Int) (lEntries : Sl) (prev1 : Int) (atv1 : Int) (es2 : Sl) (H3 : Hp) (Q : Value → Hp → Prop) : Prop :=
 
 SCalls Try.prog tephralaw13_term.id [.agg #[.int .i64 lBase, .int .i64 lTerm, .slice lEntries.a lEntries.len lEntries.cap], .int .i64 prev1] H3 (fun r1 H4 => ∃ x1 : Int, ∃ x2 : Bool, r1 = .tuple #[.int .i64 x1, .bool x2] ∧ 
 Br (!x2) (
 tephralaw13_merge.k4 J lBase lTerm lEntries es2 H4 true Q)
 (
 tephralaw13_merge.k4 J lBase lTerm lEntries es2 H4 (x1 != atv1) Q))
theorem tephralaw13_merge.k3.eq (J : Jn) (lBase : Int) (lTerm : Int) (lEntries : Sl) (prev1 : Int) (atv1 : Int) (es2 : Sl) (H3 : Hp) (Q : Value → Hp → Prop) : vSeg Try.prog tephralaw13_merge.cf J tephralaw13_merge.fn [1, 1, 1] [0, 2, 2] Q (tephralaw13_merge.k3.st lBase lTerm lEntries prev1 atv1 es2 H3) = tephralaw13_merge.k3.body J lBase lTerm lEntries prev1 atv1 es2 H3 Q := by kernel_rfl
theorem tephralaw13_merge.k3.step {lBase : Int} {lTerm : Int} {lEntries : Sl} {prev1 : Int} {atv1 : Int} {es2 : Sl} {H3 : Hp} {Q : Value → Hp → Prop} (h : tephralaw13_merge.k3.body J0 lBase lTerm lEntries prev1 atv1 es2 H3 Q) : tephralaw13_merge.k3 J0 lBase lTerm lEntries prev1 atv1 es2 H3 Q := step_of (vSeg Try.prog tephralaw13_merge.cf J0 tephralaw13_merge.fn [1, 1, 1] [0, 2, 2] Q) (tephralaw13_merge.k3.st lBase lTerm lEntries prev1 atv1 es2 H3) (tephralaw13_merge.k3.eq J0 lBase lTerm lEntries prev1 atv1 es2 H3 Q) (by kernel_rfl) h
noncomputable def tephralaw13_merge.k4.body (J : Jn) (lBase : Int) (lTerm : Int) (lEntries : Sl) (es2 : Sl) (H4 : Hp) (x3 : Bool) (Q : Value → Hp → Prop) : Prop :=
 
 Br x3 (Q (.tuple #[.agg #[.int .i64 lBase, .int .i64 lTerm, .slice lEntries.a lEntries.len lEntries.cap], .bool false]) H4)
 (
  (
 vApp Try.prog T_sl_api_Entry none 0 0 (.slice lEntries.a lEntries.len lEntries.cap) H4 (fun ap H5 => 
 tephralaw13_merge.l2 J lBase lTerm lEntries es2 (holes H5 1) 0 ap Q)) ∧ 
  (
 vApp Try.prog T_sl_api_Entry none 0 0 (.slice lEntries.a lEntries.len lEntries.cap) (holes H4 1) (fun ap1 H6 => 
 tephralaw13_merge.l3 J lBase lTerm lEntries es2 H6 0 ap1 Q)))
theorem tephralaw13_merge.k4.eq (J : Jn) (lBase : Int) (lTerm : Int) (lEntries : Sl) (es2 : Sl) (H4 : Hp) (x3 : Bool) (Q : Value → Hp → Prop) : vSeg Try.prog tephralaw13_merge.cf J tephralaw13_merge.fn [1, 1, 1, 0, 1, 1] [0, 2, 2, 2, 2, 2] Q (tephralaw13_merge.k4.st lBase lTerm lEntries es2 H4 x3) = tephralaw13_merge.k4.body J lBase lTerm lEntries es2 H4 x3 Q := by kernel_rfl
theorem tephralaw13_merge.k4.step {lBase : Int} {lTerm : Int} {lEntries : Sl} {es2 : Sl} {H4 : Hp} {x3 : Bool} {Q : Value → Hp → Prop} (h : tephralaw13_merge.k4.body J0 lBase lTerm lEntries es2 H4 x3 Q) : tephralaw13_merge.k4 J0 lBase lTerm lEntries es2 H4 x3 Q := step_of (vSeg Try.prog tephralaw13_merge.cf J0 tephralaw13_merge.fn [1, 1, 1, 0, 1, 1] [0, 2, 2, 2, 2, 2] Q) (tephralaw13_merge.k4.st lBase lTerm lEntries es2 H4 x3) (tephralaw13_merge.k4.eq J0 lBase lTerm lEntries es2 H4 x3 Q) (by kernel_rfl) h
noncomputable def tephralaw13_merge.l2.body (J : Jn) (lBase : Int) (lTerm : Int) (lEntries : Sl) (es2 : Sl) (H7 : Hp) (x4 : Int) (y : Sl) (Q : Value → Hp → Prop) : Prop :=
 
 Br (decide (x4 < ((es2.len : Nat) : Int))) (((0 : Int) ≤ x4 ∧ x4 < ((es2.len : Nat) : Int)) ∧ vPtr es2.a (fun a1 => ∃ Index1 : Int, ∃ Term : Int, ∃ CmdOp : Int, ∃ CmdClient : Int, ∃ CmdSeq : Int, ∃ CmdKey : ByteArray, ∃ CmdValue : ByteArray, ∃ CmdOld : ByteArray, RowAt H7 (a1.add ((x4 : Int).toNat * 8)) [.int .i64 Index1, .int .i64 Term, .int .i64 CmdOp, .int .i64 CmdClient, .int .i64 CmdSeq, .string CmdKey, .string CmdValue, .string CmdOld] ∧ 
 SCalls Try.prog tephralaw13_term.id [.agg #[.int .i64 lBase, .int .i64 lTerm, .slice y.a y.len y.cap], .int .i64 Index1] (holes H7 1) (fun r2 H8 => ∃ x5 : Int, ∃ x6 : Bool, r2 = .tuple #[.int .i64 x5, .bool x6] ∧ 
 Br (!x6) (
 tephralaw13_merge.k5 J lBase lTerm lEntries es2 x4 y Index1 Term CmdOp CmdClient CmdSeq CmdKey CmdValue CmdOld H8 true Q)
 (
 tephralaw13_merge.k5 J lBase lTerm lEntries es2 x4 y Index1 Term CmdOp CmdClient CmdSeq CmdKey CmdValue CmdOld H8 (x5 != Term) Q))))
 (Q (.tuple #[.agg #[.int .i64 lBase, .int .i64 lTerm, .slice y.a y.len y.cap], .bool true]) H7)
theorem tephralaw13_merge.l2.eq (J : Jn) (lBase : Int) (lTerm : Int) (lEntries : Sl) (es2 : Sl) (H7 : Hp) (x4 : Int) (y : Sl) (Q : Value → Hp → Prop) : vAtBody Try.prog tephralaw13_merge.cf J tephralaw13_merge.fn [1, 1, 1, 1, 1, 0, 1, 0] [0, 2, 2, 2, 2, 3, 3] Q (tephralaw13_merge.l2.st lBase lTerm lEntries es2 H7 x4 y) = tephralaw13_merge.l2.body J lBase lTerm lEntries es2 H7 x4 y Q := by kernel_rfl
theorem tephralaw13_merge.l2.step {lBase : Int} {lTerm : Int} {lEntries : Sl} {es2 : Sl} {H7 : Hp} {x4 : Int} {y : Sl} {Q : Value → Hp → Prop} (h : tephralaw13_merge.l2.body J0 lBase lTerm lEntries es2 H7 x4 y Q) : tephralaw13_merge.l2 J0 lBase lTerm lEntries es2 H7 x4 y Q := vAt_stepC (tephralaw13_merge.l2.st lBase lTerm lEntries es2 H7 x4 y) (tephralaw13_merge.l2.eq J0 lBase lTerm lEntries es2 H7 x4 y Q) (by kernel_rfl) h
noncomputable def tephralaw13_merge.k5.body (J : Jn) (lBase : Int) (lTerm : Int) (lEntries : Sl) (es2 : Sl) (x4 : Int) (y : Sl) (Index1 : Int) (Term : Int) (CmdOp : Int) (CmdClient : Int) (CmdSeq : Int) (CmdKey : ByteArray) (CmdValue : ByteArray) (CmdOld : ByteArray) (H8 : Hp) (x7 : Bool) (Q : Value → Hp → Prop) : Prop :=
 
 Br x7 (((0 : Int) ≤ (w64 ((w64 (Index1 - lBase)) - 1)) ∧ (w64 ((w64 (Index1 - lBase)) - 1)) ≤ ((y.cap : Nat) : Int)) ∧ 
 vApp Try.prog T_sl_api_Entry (cutA y.a y.cap 0 8) (((w64 ((w64 (Index1 - lBase)) - 1)) : Int).toNat) y.cap (.slice (some (Addr.mk (Array.size H8) 0 none)) 1 1) (Array.push H8 (.cells #[.int .i64 Index1, .int .i64 Term, .int .i64 CmdOp, .int .i64 CmdClient, .int .i64 CmdSeq, .string CmdKey, .string CmdValue, .string CmdOld] T_api_Entry)) (fun ap2 H9 => 
 tephralaw13_merge.l2 J lBase lTerm lEntries es2 H9 (w64 (x4 + 1)) ap2 Q))
 (
 tephralaw13_merge.l2 J lBase lTerm lEntries es2 H8 (w64 (x4 + 1)) y Q)
theorem tephralaw13_merge.k5.eq (J : Jn) (lBase : Int) (lTerm : Int) (lEntries : Sl) (es2 : Sl) (x4 : Int) (y : Sl) (Index1 : Int) (Term : Int) (CmdOp : Int) (CmdClient : Int) (CmdSeq : Int) (CmdKey : ByteArray) (CmdValue : ByteArray) (CmdOld : ByteArray) (H8 : Hp) (x7 : Bool) (Q : Value → Hp → Prop) : vSeg Try.prog tephralaw13_merge.cf J tephralaw13_merge.fn [1, 1, 1, 1, 1, 0, 1, 0, 0, 1, 1, 0, 0, 1, 1, 1] [0, 2, 2, 2, 2, 3, 3, 3, 3, 3, 3, 3, 4, 4] Q (tephralaw13_merge.k5.st lBase lTerm lEntries es2 x4 y Index1 Term CmdOp CmdClient CmdSeq CmdKey CmdValue CmdOld H8 x7) = tephralaw13_merge.k5.body J lBase lTerm lEntries es2 x4 y Index1 Term CmdOp CmdClient CmdSeq CmdKey CmdValue CmdOld H8 x7 Q := by kernel_rfl
theorem tephralaw13_merge.k5.step {lBase : Int} {lTerm : Int} {lEntries : Sl} {es2 : Sl} {x4 : Int} {y : Sl} {Index1 : Int} {Term : Int} {CmdOp : Int} {CmdClient : Int} {CmdSeq : Int} {CmdKey : ByteArray} {CmdValue : ByteArray} {CmdOld : ByteArray} {H8 : Hp} {x7 : Bool} {Q : Value → Hp → Prop} (h : tephralaw13_merge.k5.body J0 lBase lTerm lEntries es2 x4 y Index1 Term CmdOp CmdClient CmdSeq CmdKey CmdValue CmdOld H8 x7 Q) : tephralaw13_merge.k5 J0 lBase lTerm lEntries es2 x4 y Index1 Term CmdOp CmdClient CmdSeq CmdKey CmdValue CmdOld H8 x7 Q := step_of (vSeg Try.prog tephralaw13_merge.cf J0 tephralaw13_merge.fn [1, 1, 1, 1, 1, 0, 1, 0, 0, 1, 1, 0, 0, 1, 1, 1] [0, 2, 2, 2, 2, 3, 3, 3, 3, 3, 3, 3, 4, 4] Q) (tephralaw13_merge.k5.st lBase lTerm lEntries es2 x4 y Index1 Term CmdOp CmdClient CmdSeq CmdKey CmdValue CmdOld H8 x7) (tephralaw13_merge.k5.eq J0 lBase lTerm lEntries es2 x4 y Index1 Term CmdOp CmdClient CmdSeq CmdKey CmdValue CmdOld H8 x7 Q) (by kernel_rfl) h
noncomputable def tephralaw13_merge.l3.body (J : Jn) (lBase : Int) (lTerm : Int) (lEntries : Sl) (es2 : Sl) (H10 : Hp) (x8 : Int) (y1 : Sl) (Q : Value → Hp → Prop) : Prop :=
 
 Br (decide (x8 < ((es2.len : Nat) : Int))) (((0 : Int) ≤ x8 ∧ x8 < ((es2.len : Nat) : Int)) ∧ vPtr es2.a (fun a2 => ∃ Index2 : Int, ∃ Term1 : Int, ∃ CmdOp1 : Int, ∃ CmdClient1 : Int, ∃ CmdSeq1 : Int, ∃ CmdKey1 : ByteArray, ∃ CmdValue1 : ByteArray, ∃ CmdOld1 : ByteArray, RowAt H10 (a2.add ((x8 : Int).toNat * 8)) [.int .i64 Index2, .int .i64 Term1, .int .i64 CmdOp1, .int .i64 CmdClient1, .int .i64 CmdSeq1, .string CmdKey1, .string CmdValue1, .string CmdOld1] ∧ 
 SCalls Try.prog tephralaw13_term.id [.agg #[.int .i64 lBase, .int .i64 lTerm, .slice y1.a y1.len y1.cap], .int .i64 Index2] (holes H10 1) (fun r3 H11 => ∃ x9 : Int, ∃ x10 : Bool, r3 = .tuple #[.int .i64 x9, .bool x10] ∧ 
 Br (!x10) (
 tephralaw13_merge.k6 J lBase lTerm lEntries es2 x8 y1 Index2 Term1 CmdOp1 CmdClient1 CmdSeq1 CmdKey1 CmdValue1 CmdOld1 H11 true Q)
 (
 tephralaw13_merge.k6 J lBase lTerm lEntries es2 x8 y1 Index2 Term1 CmdOp1 CmdClient1 CmdSeq1 CmdKey1 CmdValue1 CmdOld1 H11 (x9 != Term1) Q))))
 (Q (.tuple #[.agg #[.int .i64 lBase, .int .i64 lTerm, .slice y1.a y1.len y1.cap], .bool true]) H10)
theorem tephralaw13_merge.l3.eq (J : Jn) (lBase : Int) (lTerm : Int) (lEntries : Sl) (es2 : Sl) (H10 : Hp) (x8 : Int) (y1 : Sl) (Q : Value → Hp → Prop) : vAtBody Try.prog tephralaw13_merge.cf J tephralaw13_merge.fn [1, 1, 1, 1, 1, 0, 1, 0] [0, 2, 2, 2, 2, 3, 3] Q (tephralaw13_merge.l3.st lBase lTerm lEntries es2 H10 x8 y1) = tephralaw13_merge.l3.body J lBase lTerm lEntries es2 H10 x8 y1 Q := by kernel_rfl
theorem tephralaw13_merge.l3.step {lBase : Int} {lTerm : Int} {lEntries : Sl} {es2 : Sl} {H10 : Hp} {x8 : Int} {y1 : Sl} {Q : Value → Hp → Prop} (h : tephralaw13_merge.l3.body J0 lBase lTerm lEntries es2 H10 x8 y1 Q) : tephralaw13_merge.l3 J0 lBase lTerm lEntries es2 H10 x8 y1 Q := vAt_stepC (tephralaw13_merge.l3.st lBase lTerm lEntries es2 H10 x8 y1) (tephralaw13_merge.l3.eq J0 lBase lTerm lEntries es2 H10 x8 y1 Q) (by kernel_rfl) h
noncomputable def tephralaw13_merge.k6.body (J : Jn) (lBase : Int) (lTerm : Int) (lEntries : Sl) (es2 : Sl) (x8 : Int) (y1 : Sl) (Index2 : Int) (Term1 : Int) (CmdOp1 : Int) (CmdClient1 : Int) (CmdSeq1 : Int) (CmdKey1 : ByteArray) (CmdValue1 : ByteArray) (CmdOld1 : ByteArray) (H11 : Hp) (x11 : Bool) (Q : Value → Hp → Prop) : Prop :=
 
 Br x11 (((0 : Int) ≤ (w64 ((w64 (Index2 - lBase)) - 1)) ∧ (w64 ((w64 (Index2 - lBase)) - 1)) ≤ ((y1.cap : Nat) : Int)) ∧ 
 vApp Try.prog T_sl_api_Entry (cutA y1.a y1.cap 0 8) (((w64 ((w64 (Index2 - lBase)) - 1)) : Int).toNat) y1.cap (.slice (some (Addr.mk (Array.size H11) 0 none)) 1 1) (Array.push H11 (.cells #[.int .i64 Index2, .int .i64 Term1, .int .i64 CmdOp1, .int .i64 CmdClient1, .int .i64 CmdSeq1, .string CmdKey1, .string CmdValue1, .string CmdOld1] T_api_Entry)) (fun ap3 H12 => 
 tephralaw13_merge.l3 J lBase lTerm lEntries es2 H12 (w64 (x8 + 1)) ap3 Q))
 (
 tephralaw13_merge.l3 J lBase lTerm lEntries es2 H11 (w64 (x8 + 1)) y1 Q)
theorem tephralaw13_merge.k6.eq (J : Jn) (lBase : Int) (lTerm : Int) (lEntries : Sl) (es2 : Sl) (x8 : Int) (y1 : Sl) (Index2 : Int) (Term1 : Int) (CmdOp1 : Int) (CmdClient1 : Int) (CmdSeq1 : Int) (CmdKey1 : ByteArray) (CmdValue1 : ByteArray) (CmdOld1 : ByteArray) (H11 : Hp) (x11 : Bool) (Q : Value → Hp → Prop) : vSeg Try.prog tephralaw13_merge.cf J tephralaw13_merge.fn [1, 1, 1, 1, 1, 0, 1, 0, 0, 1, 1, 0, 0, 1, 1, 1] [0, 2, 2, 2, 2, 3, 3, 3, 3, 3, 3, 3, 4, 4] Q (tephralaw13_merge.k6.st lBase lTerm lEntries es2 x8 y1 Index2 Term1 CmdOp1 CmdClient1 CmdSeq1 CmdKey1 CmdValue1 CmdOld1 H11 x11) = tephralaw13_merge.k6.body J lBase lTerm lEntries es2 x8 y1 Index2 Term1 CmdOp1 CmdClient1 CmdSeq1 CmdKey1 CmdValue1 CmdOld1 H11 x11 Q := by kernel_rfl
theorem tephralaw13_merge.k6.step {lBase : Int} {lTerm : Int} {lEntries : Sl} {es2 : Sl} {x8 : Int} {y1 : Sl} {Index2 : Int} {Term1 : Int} {CmdOp1 : Int} {CmdClient1 : Int} {CmdSeq1 : Int} {CmdKey1 : ByteArray} {CmdValue1 : ByteArray} {CmdOld1 : ByteArray} {H11 : Hp} {x11 : Bool} {Q : Value → Hp → Prop} (h : tephralaw13_merge.k6.body J0 lBase lTerm lEntries es2 x8 y1 Index2 Term1 CmdOp1 CmdClient1 CmdSeq1 CmdKey1 CmdValue1 CmdOld1 H11 x11 Q) : tephralaw13_merge.k6 J0 lBase lTerm lEntries es2 x8 y1 Index2 Term1 CmdOp1 CmdClient1 CmdSeq1 CmdKey1 CmdValue1 CmdOld1 H11 x11 Q := step_of (vSeg Try.prog tephralaw13_merge.cf J0 tephralaw13_merge.fn [1, 1, 1, 1, 1, 0, 1, 0, 0, 1, 1, 0, 0, 1, 1, 1] [0, 2, 2, 2, 2, 3, 3, 3, 3, 3, 3, 3, 4, 4] Q) (tephralaw13_merge.k6.st lBase lTerm lEntries es2 x8 y1 Index2 Term1 CmdOp1 CmdClient1 CmdSeq1 CmdKey1 CmdValue1 CmdOld1 H11 x11) (tephralaw13_merge.k6.eq J0 lBase lTerm lEntries es2 x8 y1 Index2 Term1 CmdOp1 CmdClient1 CmdSeq1 CmdKey1 CmdValue1 CmdOld1 H11 x11 Q) (by kernel_rfl) h
noncomputable def tephralaw13_merge.vc (J : Jn) (lBase : Int) (lTerm : Int) (lEntries : Sl) (prev : Int) (atv : Int) (es : Sl) (H : Hp) (Q : Value → Hp → Prop) : Prop :=
 
 SCalls Try.prog cmds_Row.id [.slice es.a es.len es.cap, .int .i64 (w64 (prev + 1))] (holes H 2) (fun r H1 => ∃ x : Bool, r = .bool x ∧ 
 Br (!x) (Q (.tuple #[.agg #[.int .i64 lBase, .int .i64 lTerm, .slice lEntries.a lEntries.len lEntries.cap], .bool false]) H1)
 (
 Br (decide (prev < lBase)) (
 tephralaw13_merge.l1 J lBase lTerm lEntries H1 es Q)
 (
 tephralaw13_merge.k3 J lBase lTerm lEntries prev atv es H1 Q)))
theorem tephralaw13_merge.eq (J : Jn) (lBase : Int) (lTerm : Int) (lEntries : Sl) (prev : Int) (atv : Int) (es : Sl) (H : Hp) (Q : Value → Hp → Prop) : vFn Try.prog tephralaw13_merge.cf J tephralaw13_merge.fn [.agg #[.int .i64 lBase, .int .i64 lTerm, .slice lEntries.a lEntries.len lEntries.cap], .int .i64 prev, .int .i64 atv, .slice es.a es.len es.cap] H Q = tephralaw13_merge.vc J lBase lTerm lEntries prev atv es H Q := by kernel_rfl
theorem tephralaw13_merge.calls {lBase : Int} {lTerm : Int} {lEntries : Sl} {prev : Int} {atv : Int} {es : Sl} {H : Hp} {Q : Value → Hp → Prop} (h : tephralaw13_merge.vc J0 lBase lTerm lEntries prev atv es H Q) : SCalls Try.prog tephralaw13_merge.id [.agg #[.int .i64 lBase, .int .i64 lTerm, .slice lEntries.a lEntries.len lEntries.cap], .int .i64 prev, .int .i64 atv, .slice es.a es.len es.cap] H Q := vFn_of Try.mixed Try.func15 (tephralaw13_merge.eq J0 lBase lTerm lEntries prev atv es H Q) h

/-! 16: tephra/tephralaw13.Same -/
noncomputable def tephralaw13_Same.cf : Cfg := ⟨[2, 3], [(4, [2, 3, 29, 30])], [(2, [2, 3, 26], true)], [(17, [2, 3, 17])], true, []⟩
noncomputable def tephralaw13_Same.k1.st (aBase : Int) (aTerm : Int) (aEntries : Sl) (bBase : Int) (bTerm : Int) (bEntries : Sl) (H : Hp) (x : Bool) : VS := ⟨mkFr 45 [(2, .loc 0 0), (3, .loc 1 0), (17, .v (.bool x))], [(T_rlog_Log, [.int .i64 aBase, .int .i64 aTerm, .slice aEntries.a aEntries.len aEntries.cap]), (T_rlog_Log, [.int .i64 bBase, .int .i64 bTerm, .slice bEntries.a bEntries.len bEntries.cap])], (holes H 2)⟩
noncomputable def tephralaw13_Same.k1 (J : Jn) (aBase : Int) (aTerm : Int) (aEntries : Sl) (bBase : Int) (bTerm : Int) (bEntries : Sl) (H : Hp) (x : Bool) (Q : Value → Hp → Prop) : Prop := J (vMid Try.prog tephralaw13_Same.cf J tephralaw13_Same.fn [1, 0, 0] [0, 2, 2] 12 Q) (tephralaw13_Same.k1.st aBase aTerm aEntries bBase bTerm bEntries H x)
noncomputable def tephralaw13_Same.k2.st (aBase : Int) (aTerm : Int) (aEntries : Sl) (bBase : Int) (bTerm : Int) (bEntries : Sl) (H : Hp) (x1 : Bool) : VS := ⟨mkFr 45 [(2, .loc 0 0), (3, .loc 1 0), (26, .v (.bool x1))], [(T_rlog_Log, [.int .i64 aBase, .int .i64 aTerm, .slice aEntries.a aEntries.len aEntries.cap]), (T_rlog_Log, [.int .i64 bBase, .int .i64 bTerm, .slice bEntries.a bEntries.len bEntries.cap])], (holes H 2)⟩
noncomputable def tephralaw13_Same.k2 (J : Jn) (aBase : Int) (aTerm : Int) (aEntries : Sl) (bBase : Int) (bTerm : Int) (bEntries : Sl) (H : Hp) (x1 : Bool) (Q : Value → Hp → Prop) : Prop := J (vSeg Try.prog tephralaw13_Same.cf J tephralaw13_Same.fn [1, 0, 1] [0, 2, 2] Q) (tephralaw13_Same.k2.st aBase aTerm aEntries bBase bTerm bEntries H x1)
noncomputable def tephralaw13_Same.l1.st (aBase : Int) (aTerm : Int) (aEntries : Sl) (bBase : Int) (bTerm : Int) (bEntries : Sl) (H1 : Hp) (x2 : Int) : VS := ⟨mkFr 45 [(2, .loc 0 0), (3, .loc 1 0), (29, .v (.int .i64 ((aEntries.len : Nat) : Int))), (30, .v (.int .i64 x2))], [(T_rlog_Log, [.int .i64 aBase, .int .i64 aTerm, .slice aEntries.a aEntries.len aEntries.cap]), (T_rlog_Log, [.int .i64 bBase, .int .i64 bTerm, .slice bEntries.a bEntries.len bEntries.cap])], H1⟩
noncomputable def tephralaw13_Same.l1 (J : Jn) (aBase : Int) (aTerm : Int) (aEntries : Sl) (bBase : Int) (bTerm : Int) (bEntries : Sl) (H1 : Hp) (x2 : Int) (Q : Value → Hp → Prop) : Prop := vAt Try.prog tephralaw13_Same.cf J tephralaw13_Same.fn [1, 1, 0, 1, 0] [0, 2, 2, 2] Q (tephralaw13_Same.l1.st aBase aTerm aEntries bBase bTerm bEntries H1 x2)
attribute [irreducible] tephralaw13_Same.k1 tephralaw13_Same.k2 tephralaw13_Same.l1
noncomputable def tephralaw13_Same.k1.body (J : Jn) (aBase : Int) (aTerm : Int) (aEntries : Sl) (bBase : Int) (bTerm : Int) (bEntries : Sl) (H : Hp) (x : Bool) (Q : Value → Hp → Prop) : Prop :=
 
 Br x (
 tephralaw13_Same.k2 J aBase aTerm aEntries bBase bTerm bEntries H true Q)
 (
 tephralaw13_Same.k2 J aBase aTerm aEntries bBase bTerm bEntries H (((aEntries.len : Nat) : Int) != ((bEntries.len : Nat) : Int)) Q)
theorem tephralaw13_Same.k1.eq (J : Jn) (aBase : Int) (aTerm : Int) (aEntries : Sl) (bBase : Int) (bTerm : Int) (bEntries : Sl) (H : Hp) (x : Bool) (Q : Value → Hp → Prop) : vMid Try.prog tephralaw13_Same.cf J tephralaw13_Same.fn [1, 0, 0] [0, 2, 2] 12 Q (tephralaw13_Same.k1.st aBase aTerm aEntries bBase bTerm bEntries H x) = tephralaw13_Same.k1.body J aBase aTerm aEntries bBase bTerm bEntries H x Q := by kernel_rfl
theorem tephralaw13_Same.k1.step {aBase : Int} {aTerm : Int} {aEntries : Sl} {bBase : Int} {bTerm : Int} {bEntries : Sl} {H : Hp} {x : Bool} {Q : Value → Hp → Prop} (h : tephralaw13_Same.k1.body J0 aBase aTerm aEntries bBase bTerm bEntries H x Q) : tephralaw13_Same.k1 J0 aBase aTerm aEntries bBase bTerm bEntries H x Q := step_of (vMid Try.prog tephralaw13_Same.cf J0 tephralaw13_Same.fn [1, 0, 0] [0, 2, 2] 12 Q) (tephralaw13_Same.k1.st aBase aTerm aEntries bBase bTerm bEntries H x) (tephralaw13_Same.k1.eq J0 aBase aTerm aEntries bBase bTerm bEntries H x Q) (by kernel_rfl) h
noncomputable def tephralaw13_Same.k2.body (J : Jn) (aBase : Int) (aTerm : Int) (aEntries : Sl) (bBase : Int) (bTerm : Int) (bEntries : Sl) (H : Hp) (x1 : Bool) (Q : Value → Hp → Prop) : Prop :=
 
 Br x1 (Q (.bool false) (holes H 2))
 (
 tephralaw13_Same.l1 J aBase aTerm aEntries bBase bTerm bEntries (holes H 2) 0 Q)
theorem tephralaw13_Same.k2.eq (J : Jn) (aBase : Int) (aTerm : Int) (aEntries : Sl) (bBase : Int) (bTerm : Int) (bEntries : Sl) (H : Hp) (x1 : Bool) (Q : Value → Hp → Prop) : vSeg Try.prog tephralaw13_Same.cf J tephralaw13_Same.fn [1, 0, 1] [0, 2, 2] Q (tephralaw13_Same.k2.st aBase aTerm aEntries bBase bTerm bEntries H x1) = tephralaw13_Same.k2.body J aBase aTerm aEntries bBase bTerm bEntries H x1 Q := by kernel_rfl
theorem tephralaw13_Same.k2.step {aBase : Int} {aTerm : Int} {aEntries : Sl} {bBase : Int} {bTerm : Int} {bEntries : Sl} {H : Hp} {x1 : Bool} {Q : Value → Hp → Prop} (h : tephralaw13_Same.k2.body J0 aBase aTerm aEntries bBase bTerm bEntries H x1 Q) : tephralaw13_Same.k2 J0 aBase aTerm aEntries bBase bTerm bEntries H x1 Q := step_of (vSeg Try.prog tephralaw13_Same.cf J0 tephralaw13_Same.fn [1, 0, 1] [0, 2, 2] Q) (tephralaw13_Same.k2.st aBase aTerm aEntries bBase bTerm bEntries H x1) (tephralaw13_Same.k2.eq J0 aBase aTerm aEntries bBase bTerm bEntries H x1 Q) (by kernel_rfl) h
noncomputable def tephralaw13_Same.l1.body (J : Jn) (aBase : Int) (aTerm : Int) (aEntries : Sl) (bBase : Int) (bTerm : Int) (bEntries : Sl) (H1 : Hp) (x2 : Int) (Q : Value → Hp → Prop) : Prop :=
 
 Br (decide (x2 < ((aEntries.len : Nat) : Int))) (((0 : Int) ≤ x2 ∧ x2 < ((aEntries.len : Nat) : Int)) ∧ vPtr aEntries.a (fun a => ∃ Index : Int, ∃ Term : Int, ∃ CmdOp : Int, ∃ CmdClient : Int, ∃ CmdSeq : Int, ∃ CmdKey : ByteArray, ∃ CmdValue : ByteArray, ∃ CmdOld : ByteArray, RowAt H1 (a.add ((x2 : Int).toNat * 8)) [.int .i64 Index, .int .i64 Term, .int .i64 CmdOp, .int .i64 CmdClient, .int .i64 CmdSeq, .string CmdKey, .string CmdValue, .string CmdOld] ∧ ((0 : Int) ≤ x2 ∧ x2 < ((bEntries.len : Nat) : Int)) ∧ vPtr bEntries.a (fun a1 => ∃ Index1 : Int, ∃ Term1 : Int, ∃ CmdOp1 : Int, ∃ CmdClient1 : Int, ∃ CmdSeq1 : Int, ∃ CmdKey1 : ByteArray, ∃ CmdValue1 : ByteArray, ∃ CmdOld1 : ByteArray, RowAt H1 (a1.add ((x2 : Int).toNat * 8)) [.int .i64 Index1, .int .i64 Term1, .int .i64 CmdOp1, .int .i64 CmdClient1, .int .i64 CmdSeq1, .string CmdKey1, .string CmdValue1, .string CmdOld1] ∧ 
 Br (!((Index == Index1) && ((Term == Term1) && (((CmdOp == CmdOp1) && ((CmdClient == CmdClient1) && ((CmdSeq == CmdSeq1) && ((CmdKey == CmdKey1) && ((CmdValue == CmdValue1) && ((CmdOld == CmdOld1) && true)))))) && true)))) (Q (.bool false) H1)
 (
 tephralaw13_Same.l1 J aBase aTerm aEntries bBase bTerm bEntries H1 (w64 (x2 + 1)) Q))))
 (Q (.bool true) H1)
theorem tephralaw13_Same.l1.eq (J : Jn) (aBase : Int) (aTerm : Int) (aEntries : Sl) (bBase : Int) (bTerm : Int) (bEntries : Sl) (H1 : Hp) (x2 : Int) (Q : Value → Hp → Prop) : vAtBody Try.prog tephralaw13_Same.cf J tephralaw13_Same.fn [1, 1, 0, 1, 0] [0, 2, 2, 2] Q (tephralaw13_Same.l1.st aBase aTerm aEntries bBase bTerm bEntries H1 x2) = tephralaw13_Same.l1.body J aBase aTerm aEntries bBase bTerm bEntries H1 x2 Q := by kernel_rfl
theorem tephralaw13_Same.l1.step {aBase : Int} {aTerm : Int} {aEntries : Sl} {bBase : Int} {bTerm : Int} {bEntries : Sl} {H1 : Hp} {x2 : Int} {Q : Value → Hp → Prop} (h : tephralaw13_Same.l1.body J0 aBase aTerm aEntries bBase bTerm bEntries H1 x2 Q) : tephralaw13_Same.l1 J0 aBase aTerm aEntries bBase bTerm bEntries H1 x2 Q := vAt_stepC (tephralaw13_Same.l1.st aBase aTerm aEntries bBase bTerm bEntries H1 x2) (tephralaw13_Same.l1.eq J0 aBase aTerm aEntries bBase bTerm bEntries H1 x2 Q) (by kernel_rfl) h
noncomputable def tephralaw13_Same.vc (J : Jn) (aBase : Int) (aTerm : Int) (aEntries : Sl) (bBase : Int) (bTerm : Int) (bEntries : Sl) (H : Hp) (Q : Value → Hp → Prop) : Prop :=
 
 Br (aBase != bBase) (
 tephralaw13_Same.k1 J aBase aTerm aEntries bBase bTerm bEntries H true Q)
 (
 tephralaw13_Same.k1 J aBase aTerm aEntries bBase bTerm bEntries H (aTerm != bTerm) Q)
theorem tephralaw13_Same.eq (J : Jn) (aBase : Int) (aTerm : Int) (aEntries : Sl) (bBase : Int) (bTerm : Int) (bEntries : Sl) (H : Hp) (Q : Value → Hp → Prop) : vFn Try.prog tephralaw13_Same.cf J tephralaw13_Same.fn [.agg #[.int .i64 aBase, .int .i64 aTerm, .slice aEntries.a aEntries.len aEntries.cap], .agg #[.int .i64 bBase, .int .i64 bTerm, .slice bEntries.a bEntries.len bEntries.cap]] H Q = tephralaw13_Same.vc J aBase aTerm aEntries bBase bTerm bEntries H Q := by kernel_rfl
theorem tephralaw13_Same.calls {aBase : Int} {aTerm : Int} {aEntries : Sl} {bBase : Int} {bTerm : Int} {bEntries : Sl} {H : Hp} {Q : Value → Hp → Prop} (h : tephralaw13_Same.vc J0 aBase aTerm aEntries bBase bTerm bEntries H Q) : SCalls Try.prog tephralaw13_Same.id [.agg #[.int .i64 aBase, .int .i64 aTerm, .slice aEntries.a aEntries.len aEntries.cap], .agg #[.int .i64 bBase, .int .i64 bTerm, .slice bEntries.a bEntries.len bEntries.cap]] H Q := vFn_of Try.mixed Try.func16 (tephralaw13_Same.eq J0 aBase aTerm aEntries bBase bTerm bEntries H Q) h

/-! 17: (tephra/rlog.Log).Newer -/
noncomputable def rlog_Log_Newer.cf : Cfg := ⟨[3], [], [], [], true, []⟩
noncomputable def rlog_Log_Newer.vc (J : Jn) (lBase : Int) (lTerm : Int) (lEntries : Sl) (index : Int) (term : Int) (H : Hp) (Q : Value → Hp → Prop) : Prop :=
 
 SCalls Try.prog rlog_Log_LastTerm.id [.agg #[.int .i64 lBase, .int .i64 lTerm, .slice lEntries.a lEntries.len lEntries.cap]] (holes H 1) (fun r H1 => ∃ x : Int, r = .int .i64 x ∧ 
 Br (decide (term > x)) (Q (.bool true) H1)
 (
 SCalls Try.prog rlog_Log_LastTerm.id [.agg #[.int .i64 lBase, .int .i64 lTerm, .slice lEntries.a lEntries.len lEntries.cap]] H1 (fun r1 H2 => ∃ x1 : Int, r1 = .int .i64 x1 ∧ 
 Br (term == x1) (
 SCalls Try.prog rlog_Log_Last.id [.agg #[.int .i64 lBase, .int .i64 lTerm, .slice lEntries.a lEntries.len lEntries.cap]] H2 (fun r2 H3 => ∃ x2 : Int, r2 = .int .i64 x2 ∧ Q (.bool (decide (index ≥ x2))) H3))
 (Q (.bool false) H2))))
theorem rlog_Log_Newer.eq (J : Jn) (lBase : Int) (lTerm : Int) (lEntries : Sl) (index : Int) (term : Int) (H : Hp) (Q : Value → Hp → Prop) : vFn Try.prog rlog_Log_Newer.cf J rlog_Log_Newer.fn [.agg #[.int .i64 lBase, .int .i64 lTerm, .slice lEntries.a lEntries.len lEntries.cap], .int .i64 index, .int .i64 term] H Q = rlog_Log_Newer.vc J lBase lTerm lEntries index term H Q := by kernel_rfl
theorem rlog_Log_Newer.calls {lBase : Int} {lTerm : Int} {lEntries : Sl} {index : Int} {term : Int} {H : Hp} {Q : Value → Hp → Prop} (h : rlog_Log_Newer.vc J0 lBase lTerm lEntries index term H Q) : SCalls Try.prog rlog_Log_Newer.id [.agg #[.int .i64 lBase, .int .i64 lTerm, .slice lEntries.a lEntries.len lEntries.cap], .int .i64 index, .int .i64 term] H Q := vFn_of Try.mixed Try.func17 (rlog_Log_Newer.eq J0 lBase lTerm lEntries index term H Q) h

/-! 18: (tephra/rlog.Log).Last -/
noncomputable def rlog_Log_Last.cf : Cfg := ⟨[1], [], [], [], true, []⟩
noncomputable def rlog_Log_Last.vc (J : Jn) (lBase : Int) (lTerm : Int) (lEntries : Sl) (H : Hp) (Q : Value → Hp → Prop) : Prop :=
 Q (.int .i64 (w64 (lBase + ((lEntries.len : Nat) : Int)))) (holes H 1)
theorem rlog_Log_Last.eq (J : Jn) (lBase : Int) (lTerm : Int) (lEntries : Sl) (H : Hp) (Q : Value → Hp → Prop) : vFn Try.prog rlog_Log_Last.cf J rlog_Log_Last.fn [.agg #[.int .i64 lBase, .int .i64 lTerm, .slice lEntries.a lEntries.len lEntries.cap]] H Q = rlog_Log_Last.vc J lBase lTerm lEntries H Q := by kernel_rfl
theorem rlog_Log_Last.calls {lBase : Int} {lTerm : Int} {lEntries : Sl} {H : Hp} {Q : Value → Hp → Prop} (h : rlog_Log_Last.vc J0 lBase lTerm lEntries H Q) : SCalls Try.prog rlog_Log_Last.id [.agg #[.int .i64 lBase, .int .i64 lTerm, .slice lEntries.a lEntries.len lEntries.cap]] H Q := vFn_of Try.mixed Try.func18 (rlog_Log_Last.eq J0 lBase lTerm lEntries H Q) h

/-! 19: (tephra/rlog.Log).LastTerm -/
noncomputable def rlog_Log_LastTerm.cf : Cfg := ⟨[1], [], [], [], true, []⟩
noncomputable def rlog_Log_LastTerm.vc (J : Jn) (lBase : Int) (lTerm : Int) (lEntries : Sl) (H : Hp) (Q : Value → Hp → Prop) : Prop :=
 
 SCalls Try.prog rlog_Log_Last.id [.agg #[.int .i64 lBase, .int .i64 lTerm, .slice lEntries.a lEntries.len lEntries.cap]] (holes H 1) (fun r H1 => ∃ x : Int, r = .int .i64 x ∧ 
 SCalls Try.prog rlog_Log_TermAt.id [.agg #[.int .i64 lBase, .int .i64 lTerm, .slice lEntries.a lEntries.len lEntries.cap], .int .i64 x] H1 (fun r1 H2 => ∃ x1 : Int, ∃ x2 : Bool, r1 = .tuple #[.int .i64 x1, .bool x2] ∧ Q (.int .i64 x1) H2))
theorem rlog_Log_LastTerm.eq (J : Jn) (lBase : Int) (lTerm : Int) (lEntries : Sl) (H : Hp) (Q : Value → Hp → Prop) : vFn Try.prog rlog_Log_LastTerm.cf J rlog_Log_LastTerm.fn [.agg #[.int .i64 lBase, .int .i64 lTerm, .slice lEntries.a lEntries.len lEntries.cap]] H Q = rlog_Log_LastTerm.vc J lBase lTerm lEntries H Q := by kernel_rfl
theorem rlog_Log_LastTerm.calls {lBase : Int} {lTerm : Int} {lEntries : Sl} {H : Hp} {Q : Value → Hp → Prop} (h : rlog_Log_LastTerm.vc J0 lBase lTerm lEntries H Q) : SCalls Try.prog rlog_Log_LastTerm.id [.agg #[.int .i64 lBase, .int .i64 lTerm, .slice lEntries.a lEntries.len lEntries.cap]] H Q := vFn_of Try.mixed Try.func19 (rlog_Log_LastTerm.eq J0 lBase lTerm lEntries H Q) h

/-! 20: tephra/rlog.Right -/
noncomputable def rlog_Right.cf : Cfg := ⟨[1], [], [], [], true, []⟩
noncomputable def rlog_Right.vc (J : Jn) (lBase : Int) (lTerm : Int) (lEntries : Sl) (H : Hp) (Q : Value → Hp → Prop) : Prop :=
 
 Br (decide (lBase ≥ 0)) (
 Br (decide (lTerm ≥ 0)) (
 SCalls Try.prog cmds_Row.id [.slice lEntries.a lEntries.len lEntries.cap, .int .i64 (w64 (lBase + 1))] (holes H 1) (fun r H1 => ∃ x : Bool, r = .bool x ∧ 
 Br x (
 Br (((lEntries.len : Nat) : Int) == 0) (Q (.bool true) H1)
 (((0 : Int) ≤ 0 ∧ (0 : Int) < ((lEntries.len : Nat) : Int)) ∧ vPtr lEntries.a (fun a => ∃ Term : Int, Hp.cell? H1 (a.add 1) = some (.int .i64 Term) ∧ Q (.bool (decide (Term ≥ lTerm))) H1)))
 (Q (.bool false) H1)))
 (Q (.bool false) (holes H 1)))
 (Q (.bool false) (holes H 1))
theorem rlog_Right.eq (J : Jn) (lBase : Int) (lTerm : Int) (lEntries : Sl) (H : Hp) (Q : Value → Hp → Prop) : vFn Try.prog rlog_Right.cf J rlog_Right.fn [.agg #[.int .i64 lBase, .int .i64 lTerm, .slice lEntries.a lEntries.len lEntries.cap]] H Q = rlog_Right.vc J lBase lTerm lEntries H Q := by kernel_rfl
theorem rlog_Right.calls {lBase : Int} {lTerm : Int} {lEntries : Sl} {H : Hp} {Q : Value → Hp → Prop} (h : rlog_Right.vc J0 lBase lTerm lEntries H Q) : SCalls Try.prog rlog_Right.id [.agg #[.int .i64 lBase, .int .i64 lTerm, .slice lEntries.a lEntries.len lEntries.cap]] H Q := vFn_of Try.mixed Try.func20 (rlog_Right.eq J0 lBase lTerm lEntries H Q) h

/-! 21: (tephra/rlog.Log).Clone -/
noncomputable def rlog_Log_Clone.cf : Cfg := ⟨[1, 2], [], [], [], true, []⟩
noncomputable def rlog_Log_Clone.vc (J : Jn) (lBase : Int) (lTerm : Int) (lEntries : Sl) (H : Hp) (Q : Value → Hp → Prop) : Prop :=
 
 SCalls Try.prog slices_Clone_sl_api_Entry_api_Entry.id [.slice lEntries.a lEntries.len lEntries.cap] (holes H 2) (fun r H1 => ∃ x : Sl, r = .slice x.a x.len x.cap ∧ Q (.agg #[.int .i64 lBase, .int .i64 lTerm, .slice x.a x.len x.cap]) H1)
theorem rlog_Log_Clone.eq (J : Jn) (lBase : Int) (lTerm : Int) (lEntries : Sl) (H : Hp) (Q : Value → Hp → Prop) : vFn Try.prog rlog_Log_Clone.cf J rlog_Log_Clone.fn [.agg #[.int .i64 lBase, .int .i64 lTerm, .slice lEntries.a lEntries.len lEntries.cap]] H Q = rlog_Log_Clone.vc J lBase lTerm lEntries H Q := by kernel_rfl
theorem rlog_Log_Clone.calls {lBase : Int} {lTerm : Int} {lEntries : Sl} {H : Hp} {Q : Value → Hp → Prop} (h : rlog_Log_Clone.vc J0 lBase lTerm lEntries H Q) : SCalls Try.prog rlog_Log_Clone.id [.agg #[.int .i64 lBase, .int .i64 lTerm, .slice lEntries.a lEntries.len lEntries.cap]] H Q := vFn_of Try.mixed Try.func21 (rlog_Log_Clone.eq J0 lBase lTerm lEntries H Q) h

/-! 22: tephra/cmds.Right -/
noncomputable def cmds_Right.cf : Cfg := ⟨[1], [], [], [(10, [1, 10]), (15, [1, 15]), (20, [1, 20])], true, []⟩
noncomputable def cmds_Right.k1.st (eIndex : Int) (eTerm : Int) (eCmdOp : Int) (eCmdClient : Int) (eCmdSeq : Int) (eCmdKey : ByteArray) (eCmdValue : ByteArray) (eCmdOld : ByteArray) (H : Hp) (x : Bool) : VS := ⟨mkFr 26 [(1, .loc 0 0), (10, .v (.bool x))], [(T_api_Entry, [.int .i64 eIndex, .int .i64 eTerm, .int .i64 eCmdOp, .int .i64 eCmdClient, .int .i64 eCmdSeq, .string eCmdKey, .string eCmdValue, .string eCmdOld])], (holes H 1)⟩
noncomputable def cmds_Right.k1 (J : Jn) (eIndex : Int) (eTerm : Int) (eCmdOp : Int) (eCmdClient : Int) (eCmdSeq : Int) (eCmdKey : ByteArray) (eCmdValue : ByteArray) (eCmdOld : ByteArray) (H : Hp) (x : Bool) (Q : Value → Hp → Prop) : Prop := J (vMid Try.prog cmds_Right.cf J cmds_Right.fn [1, 0] [0, 1] 8 Q) (cmds_Right.k1.st eIndex eTerm eCmdOp eCmdClient eCmdSeq eCmdKey eCmdValue eCmdOld H x)
noncomputable def cmds_Right.k2.st (eIndex : Int) (eTerm : Int) (eCmdOp : Int) (eCmdClient : Int) (eCmdSeq : Int) (eCmdKey : ByteArray) (eCmdValue : ByteArray) (eCmdOld : ByteArray) (H : Hp) (x1 : Bool) : VS := ⟨mkFr 26 [(1, .loc 0 0), (15, .v (.bool x1))], [(T_api_Entry, [.int .i64 eIndex, .int .i64 eTerm, .int .i64 eCmdOp, .int .i64 eCmdClient, .int .i64 eCmdSeq, .string eCmdKey, .string eCmdValue, .string eCmdOld])], (holes H 1)⟩
noncomputable def cmds_Right.k2 (J : Jn) (eIndex : Int) (eTerm : Int) (eCmdOp : Int) (eCmdClient : Int) (eCmdSeq : Int) (eCmdKey : ByteArray) (eCmdValue : ByteArray) (eCmdOld : ByteArray) (H : Hp) (x1 : Bool) (Q : Value → Hp → Prop) : Prop := J (vMid Try.prog cmds_Right.cf J cmds_Right.fn [1, 0] [0, 1] 13 Q) (cmds_Right.k2.st eIndex eTerm eCmdOp eCmdClient eCmdSeq eCmdKey eCmdValue eCmdOld H x1)
noncomputable def cmds_Right.k3.st (eIndex : Int) (eTerm : Int) (eCmdOp : Int) (eCmdClient : Int) (eCmdSeq : Int) (eCmdKey : ByteArray) (eCmdValue : ByteArray) (eCmdOld : ByteArray) (H : Hp) (x2 : Bool) : VS := ⟨mkFr 26 [(1, .loc 0 0), (20, .v (.bool x2))], [(T_api_Entry, [.int .i64 eIndex, .int .i64 eTerm, .int .i64 eCmdOp, .int .i64 eCmdClient, .int .i64 eCmdSeq, .string eCmdKey, .string eCmdValue, .string eCmdOld])], (holes H 1)⟩
noncomputable def cmds_Right.k3 (J : Jn) (eIndex : Int) (eTerm : Int) (eCmdOp : Int) (eCmdClient : Int) (eCmdSeq : Int) (eCmdKey : ByteArray) (eCmdValue : ByteArray) (eCmdOld : ByteArray) (H : Hp) (x2 : Bool) (Q : Value → Hp → Prop) : Prop := J (vMid Try.prog cmds_Right.cf J cmds_Right.fn [1, 0] [0, 1] 18 Q) (cmds_Right.k3.st eIndex eTerm eCmdOp eCmdClient eCmdSeq eCmdKey eCmdValue eCmdOld H x2)
attribute [irreducible] cmds_Right.k1 cmds_Right.k2 cmds_Right.k3
noncomputable def cmds_Right.k1.body (J : Jn) (eIndex : Int) (eTerm : Int) (eCmdOp : Int) (eCmdClient : Int) (eCmdSeq : Int) (eCmdKey : ByteArray) (eCmdValue : ByteArray) (eCmdOld : ByteArray) (H : Hp) (x : Bool) (Q : Value → Hp → Prop) : Prop :=
 
 Br x (
 cmds_Right.k2 J eIndex eTerm eCmdOp eCmdClient eCmdSeq eCmdKey eCmdValue eCmdOld H (decide (eTerm ≥ 0)) Q)
 (
 cmds_Right.k2 J eIndex eTerm eCmdOp eCmdClient eCmdSeq eCmdKey eCmdValue eCmdOld H false Q)
theorem cmds_Right.k1.eq (J : Jn) (eIndex : Int) (eTerm : Int) (eCmdOp : Int) (eCmdClient : Int) (eCmdSeq : Int) (eCmdKey : ByteArray) (eCmdValue : ByteArray) (eCmdOld : ByteArray) (H : Hp) (x : Bool) (Q : Value → Hp → Prop) : vMid Try.prog cmds_Right.cf J cmds_Right.fn [1, 0] [0, 1] 8 Q (cmds_Right.k1.st eIndex eTerm eCmdOp eCmdClient eCmdSeq eCmdKey eCmdValue eCmdOld H x) = cmds_Right.k1.body J eIndex eTerm eCmdOp eCmdClient eCmdSeq eCmdKey eCmdValue eCmdOld H x Q := by kernel_rfl
theorem cmds_Right.k1.step {eIndex : Int} {eTerm : Int} {eCmdOp : Int} {eCmdClient : Int} {eCmdSeq : Int} {eCmdKey : ByteArray} {eCmdValue : ByteArray} {eCmdOld : ByteArray} {H : Hp} {x : Bool} {Q : Value → Hp → Prop} (h : cmds_Right.k1.body J0 eIndex eTerm eCmdOp eCmdClient eCmdSeq eCmdKey eCmdValue eCmdOld H x Q) : cmds_Right.k1 J0 eIndex eTerm eCmdOp eCmdClient eCmdSeq eCmdKey eCmdValue eCmdOld H x Q := step_of (vMid Try.prog cmds_Right.cf J0 cmds_Right.fn [1, 0] [0, 1] 8 Q) (cmds_Right.k1.st eIndex eTerm eCmdOp eCmdClient eCmdSeq eCmdKey eCmdValue eCmdOld H x) (cmds_Right.k1.eq J0 eIndex eTerm eCmdOp eCmdClient eCmdSeq eCmdKey eCmdValue eCmdOld H x Q) (by kernel_rfl) h
noncomputable def cmds_Right.k2.body (J : Jn) (eIndex : Int) (eTerm : Int) (eCmdOp : Int) (eCmdClient : Int) (eCmdSeq : Int) (eCmdKey : ByteArray) (eCmdValue : ByteArray) (eCmdOld : ByteArray) (H : Hp) (x1 : Bool) (Q : Value → Hp → Prop) : Prop :=
 
 Br x1 (
 cmds_Right.k3 J eIndex eTerm eCmdOp eCmdClient eCmdSeq eCmdKey eCmdValue eCmdOld H (decide (eTerm ≤ 1048576)) Q)
 (
 cmds_Right.k3 J eIndex eTerm eCmdOp eCmdClient eCmdSeq eCmdKey eCmdValue eCmdOld H false Q)
theorem cmds_Right.k2.eq (J : Jn) (eIndex : Int) (eTerm : Int) (eCmdOp : Int) (eCmdClient : Int) (eCmdSeq : Int) (eCmdKey : ByteArray) (eCmdValue : ByteArray) (eCmdOld : ByteArray) (H : Hp) (x1 : Bool) (Q : Value → Hp → Prop) : vMid Try.prog cmds_Right.cf J cmds_Right.fn [1, 0] [0, 1] 13 Q (cmds_Right.k2.st eIndex eTerm eCmdOp eCmdClient eCmdSeq eCmdKey eCmdValue eCmdOld H x1) = cmds_Right.k2.body J eIndex eTerm eCmdOp eCmdClient eCmdSeq eCmdKey eCmdValue eCmdOld H x1 Q := by kernel_rfl
theorem cmds_Right.k2.step {eIndex : Int} {eTerm : Int} {eCmdOp : Int} {eCmdClient : Int} {eCmdSeq : Int} {eCmdKey : ByteArray} {eCmdValue : ByteArray} {eCmdOld : ByteArray} {H : Hp} {x1 : Bool} {Q : Value → Hp → Prop} (h : cmds_Right.k2.body J0 eIndex eTerm eCmdOp eCmdClient eCmdSeq eCmdKey eCmdValue eCmdOld H x1 Q) : cmds_Right.k2 J0 eIndex eTerm eCmdOp eCmdClient eCmdSeq eCmdKey eCmdValue eCmdOld H x1 Q := step_of (vMid Try.prog cmds_Right.cf J0 cmds_Right.fn [1, 0] [0, 1] 13 Q) (cmds_Right.k2.st eIndex eTerm eCmdOp eCmdClient eCmdSeq eCmdKey eCmdValue eCmdOld H x1) (cmds_Right.k2.eq J0 eIndex eTerm eCmdOp eCmdClient eCmdSeq eCmdKey eCmdValue eCmdOld H x1 Q) (by kernel_rfl) h
noncomputable def cmds_Right.k3.body (J : Jn) (eIndex : Int) (eTerm : Int) (eCmdOp : Int) (eCmdClient : Int) (eCmdSeq : Int) (eCmdKey : ByteArray) (eCmdValue : ByteArray) (eCmdOld : ByteArray) (H : Hp) (x2 : Bool) (Q : Value → Hp → Prop) : Prop :=
 
 Br x2 (
 SCalls Try.prog cmds_May.id [.agg #[.int .i64 eCmdOp, .int .i64 eCmdClient, .int .i64 eCmdSeq, .string eCmdKey, .string eCmdValue, .string eCmdOld]] (holes H 1) (fun r H1 => ∃ x3 : Bool, r = .bool x3 ∧ Q (.bool x3) H1))
 (Q (.bool false) (holes H 1))
theorem cmds_Right.k3.eq (J : Jn) (eIndex : Int) (eTerm : Int) (eCmdOp : Int) (eCmdClient : Int) (eCmdSeq : Int) (eCmdKey : ByteArray) (eCmdValue : ByteArray) (eCmdOld : ByteArray) (H : Hp) (x2 : Bool) (Q : Value → Hp → Prop) : vMid Try.prog cmds_Right.cf J cmds_Right.fn [1, 0] [0, 1] 18 Q (cmds_Right.k3.st eIndex eTerm eCmdOp eCmdClient eCmdSeq eCmdKey eCmdValue eCmdOld H x2) = cmds_Right.k3.body J eIndex eTerm eCmdOp eCmdClient eCmdSeq eCmdKey eCmdValue eCmdOld H x2 Q := by kernel_rfl
theorem cmds_Right.k3.step {eIndex : Int} {eTerm : Int} {eCmdOp : Int} {eCmdClient : Int} {eCmdSeq : Int} {eCmdKey : ByteArray} {eCmdValue : ByteArray} {eCmdOld : ByteArray} {H : Hp} {x2 : Bool} {Q : Value → Hp → Prop} (h : cmds_Right.k3.body J0 eIndex eTerm eCmdOp eCmdClient eCmdSeq eCmdKey eCmdValue eCmdOld H x2 Q) : cmds_Right.k3 J0 eIndex eTerm eCmdOp eCmdClient eCmdSeq eCmdKey eCmdValue eCmdOld H x2 Q := step_of (vMid Try.prog cmds_Right.cf J0 cmds_Right.fn [1, 0] [0, 1] 18 Q) (cmds_Right.k3.st eIndex eTerm eCmdOp eCmdClient eCmdSeq eCmdKey eCmdValue eCmdOld H x2) (cmds_Right.k3.eq J0 eIndex eTerm eCmdOp eCmdClient eCmdSeq eCmdKey eCmdValue eCmdOld H x2 Q) (by kernel_rfl) h
noncomputable def cmds_Right.vc (J : Jn) (eIndex : Int) (eTerm : Int) (eCmdOp : Int) (eCmdClient : Int) (eCmdSeq : Int) (eCmdKey : ByteArray) (eCmdValue : ByteArray) (eCmdOld : ByteArray) (H : Hp) (Q : Value → Hp → Prop) : Prop :=
 
 Br (decide (eIndex ≥ 1)) (
 cmds_Right.k1 J eIndex eTerm eCmdOp eCmdClient eCmdSeq eCmdKey eCmdValue eCmdOld H (decide (eIndex ≤ 1048576)) Q)
 (
 cmds_Right.k1 J eIndex eTerm eCmdOp eCmdClient eCmdSeq eCmdKey eCmdValue eCmdOld H false Q)
theorem cmds_Right.eq (J : Jn) (eIndex : Int) (eTerm : Int) (eCmdOp : Int) (eCmdClient : Int) (eCmdSeq : Int) (eCmdKey : ByteArray) (eCmdValue : ByteArray) (eCmdOld : ByteArray) (H : Hp) (Q : Value → Hp → Prop) : vFn Try.prog cmds_Right.cf J cmds_Right.fn [.agg #[.int .i64 eIndex, .int .i64 eTerm, .int .i64 eCmdOp, .int .i64 eCmdClient, .int .i64 eCmdSeq, .string eCmdKey, .string eCmdValue, .string eCmdOld]] H Q = cmds_Right.vc J eIndex eTerm eCmdOp eCmdClient eCmdSeq eCmdKey eCmdValue eCmdOld H Q := by kernel_rfl
theorem cmds_Right.calls {eIndex : Int} {eTerm : Int} {eCmdOp : Int} {eCmdClient : Int} {eCmdSeq : Int} {eCmdKey : ByteArray} {eCmdValue : ByteArray} {eCmdOld : ByteArray} {H : Hp} {Q : Value → Hp → Prop} (h : cmds_Right.vc J0 eIndex eTerm eCmdOp eCmdClient eCmdSeq eCmdKey eCmdValue eCmdOld H Q) : SCalls Try.prog cmds_Right.id [.agg #[.int .i64 eIndex, .int .i64 eTerm, .int .i64 eCmdOp, .int .i64 eCmdClient, .int .i64 eCmdSeq, .string eCmdKey, .string eCmdValue, .string eCmdOld]] H Q := vFn_of Try.mixed Try.func22 (cmds_Right.eq J0 eIndex eTerm eCmdOp eCmdClient eCmdSeq eCmdKey eCmdValue eCmdOld H Q) h

/-! 23: (tephra/rlog.Log).TermAt -/
noncomputable def rlog_Log_TermAt.cf : Cfg := ⟨[2], [], [(4, [1, 2, 13], true)], [], true, []⟩
noncomputable def rlog_Log_TermAt.k1.st (lBase : Int) (lTerm : Int) (lEntries : Sl) (i : Int) (x1 : Bool) (H2 : Hp) : VS := ⟨mkFr 34 [(1, .v (.int .i64 i)), (2, .loc 0 0), (13, .v (.bool x1))], [(T_rlog_Log, [.int .i64 lBase, .int .i64 lTerm, .slice lEntries.a lEntries.len lEntries.cap])], H2⟩
noncomputable def rlog_Log_TermAt.k1 (J : Jn) (lBase : Int) (lTerm : Int) (lEntries : Sl) (i : Int) (x1 : Bool) (H2 : Hp) (Q : Value → Hp → Prop) : Prop := J (vSeg Try.prog rlog_Log_TermAt.cf J rlog_Log_TermAt.fn [1, 0, 0, 1, 1, 1] [0, 1, 1, 1] Q) (rlog_Log_TermAt.k1.st lBase lTerm lEntries i x1 H2)
attribute [irreducible] rlog_Log_TermAt.k1
noncomputable def rlog_Log_TermAt.k1.body (J : Jn) (lBase : Int) (lTerm : Int) (lEntries : Sl) (i : Int) (x1 : Bool) (H2 : Hp) (Q : Value → Hp → Prop) : Prop :=
 
 Br x1 (Q (.tuple #[.int .i64 0, .bool false]) H2)
 (((0 : Int) ≤ (w64 ((w64 (i - lBase)) - 1)) ∧ (w64 ((w64 (i - lBase)) - 1)) < ((lEntries.len : Nat) : Int)) ∧ vPtr lEntries.a (fun a => ∃ Term : Int, Hp.cell? H2 ((a.add (((w64 ((w64 (i - lBase)) - 1)) : Int).toNat * 8)).add 1) = some (.int .i64 Term) ∧ Q (.tuple #[.int .i64 Term, .bool true]) H2))
theorem rlog_Log_TermAt.k1.eq (J : Jn) (lBase : Int) (lTerm : Int) (lEntries : Sl) (i : Int) (x1 : Bool) (H2 : Hp) (Q : Value → Hp → Prop) : vSeg Try.prog rlog_Log_TermAt.cf J rlog_Log_TermAt.fn [1, 0, 0, 1, 1, 1] [0, 1, 1, 1] Q (rlog_Log_TermAt.k1.st lBase lTerm lEntries i x1 H2) = rlog_Log_TermAt.k1.body J lBase lTerm lEntries i x1 H2 Q := by kernel_rfl
theorem rlog_Log_TermAt.k1.step {lBase : Int} {lTerm : Int} {lEntries : Sl} {i : Int} {x1 : Bool} {H2 : Hp} {Q : Value → Hp → Prop} (h : rlog_Log_TermAt.k1.body J0 lBase lTerm lEntries i x1 H2 Q) : rlog_Log_TermAt.k1 J0 lBase lTerm lEntries i x1 H2 Q := step_of (vSeg Try.prog rlog_Log_TermAt.cf J0 rlog_Log_TermAt.fn [1, 0, 0, 1, 1, 1] [0, 1, 1, 1] Q) (rlog_Log_TermAt.k1.st lBase lTerm lEntries i x1 H2) (rlog_Log_TermAt.k1.eq J0 lBase lTerm lEntries i x1 H2 Q) (by kernel_rfl) h
noncomputable def rlog_Log_TermAt.vc (J : Jn) (lBase : Int) (lTerm : Int) (lEntries : Sl) (i : Int) (H : Hp) (Q : Value → Hp → Prop) : Prop :=
 
 Br (i == lBase) (Q (.tuple #[.int .i64 lTerm, .bool true]) (holes H 1))
 (
 Br (decide (i < lBase)) (
 rlog_Log_TermAt.k1 J lBase lTerm lEntries i true (holes H 1) Q)
 (
 SCalls Try.prog rlog_Log_Last.id [.agg #[.int .i64 lBase, .int .i64 lTerm, .slice lEntries.a lEntries.len lEntries.cap]] (holes H 1) (fun r H1 => ∃ x : Int, r = .int .i64 x ∧ 
 rlog_Log_TermAt.k1 J lBase lTerm lEntries i (decide (i > x)) H1 Q)))
theorem rlog_Log_TermAt.eq (J : Jn) (lBase : Int) (lTerm : Int) (lEntries : Sl) (i : Int) (H : Hp) (Q : Value → Hp → Prop) : vFn Try.prog rlog_Log_TermAt.cf J rlog_Log_TermAt.fn [.agg #[.int .i64 lBase, .int .i64 lTerm, .slice lEntries.a lEntries.len lEntries.cap], .int .i64 i] H Q = rlog_Log_TermAt.vc J lBase lTerm lEntries i H Q := by kernel_rfl
theorem rlog_Log_TermAt.calls {lBase : Int} {lTerm : Int} {lEntries : Sl} {i : Int} {H : Hp} {Q : Value → Hp → Prop} (h : rlog_Log_TermAt.vc J0 lBase lTerm lEntries i H Q) : SCalls Try.prog rlog_Log_TermAt.id [.agg #[.int .i64 lBase, .int .i64 lTerm, .slice lEntries.a lEntries.len lEntries.cap], .int .i64 i] H Q := vFn_of Try.mixed Try.func23 (rlog_Log_TermAt.eq J0 lBase lTerm lEntries i H Q) h

/-! 24: (tephra/rlog.Log).After -/
noncomputable def rlog_Log_After.cf : Cfg := ⟨[3], [], [(2, [1, 2, 3, 18], true)], [], true, []⟩
noncomputable def rlog_Log_After.k1.st (lBase : Int) (lTerm : Int) (lEntries : Sl) (i : Int) (most : Int) (x1 : Bool) (H2 : Hp) : VS := ⟨mkFr 34 [(1, .v (.int .i64 i)), (2, .v (.int .i64 most)), (3, .loc 0 0), (18, .v (.bool x1))], [(T_rlog_Log, [.int .i64 lBase, .int .i64 lTerm, .slice lEntries.a lEntries.len lEntries.cap])], H2⟩
noncomputable def rlog_Log_After.k1 (J : Jn) (lBase : Int) (lTerm : Int) (lEntries : Sl) (i : Int) (most : Int) (x1 : Bool) (H2 : Hp) (Q : Value → Hp → Prop) : Prop := J (vSeg Try.prog rlog_Log_After.cf J rlog_Log_After.fn [1, 0, 1] [0, 1, 1] Q) (rlog_Log_After.k1.st lBase lTerm lEntries i most x1 H2)
attribute [irreducible] rlog_Log_After.k1
noncomputable def rlog_Log_After.k1.body (J : Jn) (lBase : Int) (lTerm : Int) (lEntries : Sl) (i : Int) (most : Int) (x1 : Bool) (H2 : Hp) (Q : Value → Hp → Prop) : Prop :=
 
 Br x1 (Q (.tuple #[.slice none 0 0, .bool false]) H2)
 (((0 : Int) ≤ (w64 (i - lBase)) ∧ (w64 (i - lBase)) ≤ ((lEntries.len : Nat) : Int)) ∧ ((0 : Int) ≤ (if (if most > 0 then most else 0) < (((lEntries.len - (((w64 (i - lBase)) : Int).toNat)) : Nat) : Int) then (if most > 0 then most else 0) else (((lEntries.len - (((w64 (i - lBase)) : Int).toNat)) : Nat) : Int)) ∧ (if (if most > 0 then most else 0) < (((lEntries.len - (((w64 (i - lBase)) : Int).toNat)) : Nat) : Int) then (if most > 0 then most else 0) else (((lEntries.len - (((w64 (i - lBase)) : Int).toNat)) : Nat) : Int)) ≤ (((lEntries.cap - (((w64 (i - lBase)) : Int).toNat)) : Nat) : Int)) ∧ 
 SCalls Try.prog slices_Clone_sl_api_Entry_api_Entry.id [.slice (cutA (cutA lEntries.a lEntries.cap (((w64 (i - lBase)) : Int).toNat) 8) (lEntries.cap - (((w64 (i - lBase)) : Int).toNat)) 0 8) (((if (if most > 0 then most else 0) < (((lEntries.len - (((w64 (i - lBase)) : Int).toNat)) : Nat) : Int) then (if most > 0 then most else 0) else (((lEntries.len - (((w64 (i - lBase)) : Int).toNat)) : Nat) : Int)) : Int).toNat) (lEntries.cap - (((w64 (i - lBase)) : Int).toNat))] H2 (fun r1 H3 => ∃ x2 : Sl, r1 = .slice x2.a x2.len x2.cap ∧ Q (.tuple #[.slice x2.a x2.len x2.cap, .bool true]) H3))
theorem rlog_Log_After.k1.eq (J : Jn) (lBase : Int) (lTerm : Int) (lEntries : Sl) (i : Int) (most : Int) (x1 : Bool) (H2 : Hp) (Q : Value → Hp → Prop) : vSeg Try.prog rlog_Log_After.cf J rlog_Log_After.fn [1, 0, 1] [0, 1, 1] Q (rlog_Log_After.k1.st lBase lTerm lEntries i most x1 H2) = rlog_Log_After.k1.body J lBase lTerm lEntries i most x1 H2 Q := by kernel_rfl
theorem rlog_Log_After.k1.step {lBase : Int} {lTerm : Int} {lEntries : Sl} {i : Int} {most : Int} {x1 : Bool} {H2 : Hp} {Q : Value → Hp → Prop} (h : rlog_Log_After.k1.body J0 lBase lTerm lEntries i most x1 H2 Q) : rlog_Log_After.k1 J0 lBase lTerm lEntries i most x1 H2 Q := step_of (vSeg Try.prog rlog_Log_After.cf J0 rlog_Log_After.fn [1, 0, 1] [0, 1, 1] Q) (rlog_Log_After.k1.st lBase lTerm lEntries i most x1 H2) (rlog_Log_After.k1.eq J0 lBase lTerm lEntries i most x1 H2 Q) (by kernel_rfl) h
noncomputable def rlog_Log_After.vc (J : Jn) (lBase : Int) (lTerm : Int) (lEntries : Sl) (i : Int) (most : Int) (H : Hp) (Q : Value → Hp → Prop) : Prop :=
 
 Br (decide (i < lBase)) (
 rlog_Log_After.k1 J lBase lTerm lEntries i most true (holes H 1) Q)
 (
 SCalls Try.prog rlog_Log_Last.id [.agg #[.int .i64 lBase, .int .i64 lTerm, .slice lEntries.a lEntries.len lEntries.cap]] (holes H 1) (fun r H1 => ∃ x : Int, r = .int .i64 x ∧ 
 rlog_Log_After.k1 J lBase lTerm lEntries i most (decide (i > x)) H1 Q))
theorem rlog_Log_After.eq (J : Jn) (lBase : Int) (lTerm : Int) (lEntries : Sl) (i : Int) (most : Int) (H : Hp) (Q : Value → Hp → Prop) : vFn Try.prog rlog_Log_After.cf J rlog_Log_After.fn [.agg #[.int .i64 lBase, .int .i64 lTerm, .slice lEntries.a lEntries.len lEntries.cap], .int .i64 i, .int .i64 most] H Q = rlog_Log_After.vc J lBase lTerm lEntries i most H Q := by kernel_rfl
theorem rlog_Log_After.calls {lBase : Int} {lTerm : Int} {lEntries : Sl} {i : Int} {most : Int} {H : Hp} {Q : Value → Hp → Prop} (h : rlog_Log_After.vc J0 lBase lTerm lEntries i most H Q) : SCalls Try.prog rlog_Log_After.id [.agg #[.int .i64 lBase, .int .i64 lTerm, .slice lEntries.a lEntries.len lEntries.cap], .int .i64 i, .int .i64 most] H Q := vFn_of Try.mixed Try.func24 (rlog_Log_After.eq J0 lBase lTerm lEntries i most H Q) h

/-! 25: (tephra/rlog.Log).Add -/
noncomputable def rlog_Log_Add.cf : Cfg := ⟨[3, 5, 6], [], [], [], true, []⟩
noncomputable def rlog_Log_Add.vc (J : Jn) (lBase : Int) (lTerm : Int) (lEntries : Sl) (term : Int) (cOp : Int) (cClient : Int) (cSeq : Int) (cKey : ByteArray) (cValue : ByteArray) (cOld : ByteArray) (H : Hp) (Q : Value → Hp → Prop) : Prop :=
 
 SCalls Try.prog rlog_Log_Clone.id [.agg #[.int .i64 lBase, .int .i64 lTerm, .slice lEntries.a lEntries.len lEntries.cap]] (holes H 3) (fun r H1 => ∃ Base : Int, ∃ Term : Int, ∃ Entries : Sl, r = .agg #[.int .i64 Base, .int .i64 Term, .slice Entries.a Entries.len Entries.cap] ∧ 
 SCalls Try.prog rlog_Log_Last.id [.agg #[.int .i64 Base, .int .i64 Term, .slice Entries.a Entries.len Entries.cap]] H1 (fun r1 H2 => ∃ x : Int, r1 = .int .i64 x ∧ 
 vApp Try.prog T_sl_api_Entry Entries.a Entries.len Entries.cap (.slice (some (Addr.mk (Array.size H2) 0 none)) 1 1) (Array.push H2 (.cells #[.int .i64 (w64 (x + 1)), .int .i64 term, .int .i64 cOp, .int .i64 cClient, .int .i64 cSeq, .string cKey, .string cValue, .string cOld] T_api_Entry)) (fun ap H3 => Q (.agg #[.int .i64 Base, .int .i64 Term, .slice ap.a ap.len ap.cap]) H3)))
theorem rlog_Log_Add.eq (J : Jn) (lBase : Int) (lTerm : Int) (lEntries : Sl) (term : Int) (cOp : Int) (cClient : Int) (cSeq : Int) (cKey : ByteArray) (cValue : ByteArray) (cOld : ByteArray) (H : Hp) (Q : Value → Hp → Prop) : vFn Try.prog rlog_Log_Add.cf J rlog_Log_Add.fn [.agg #[.int .i64 lBase, .int .i64 lTerm, .slice lEntries.a lEntries.len lEntries.cap], .int .i64 term, .agg #[.int .i64 cOp, .int .i64 cClient, .int .i64 cSeq, .string cKey, .string cValue, .string cOld]] H Q = rlog_Log_Add.vc J lBase lTerm lEntries term cOp cClient cSeq cKey cValue cOld H Q := by kernel_rfl
theorem rlog_Log_Add.calls {lBase : Int} {lTerm : Int} {lEntries : Sl} {term : Int} {cOp : Int} {cClient : Int} {cSeq : Int} {cKey : ByteArray} {cValue : ByteArray} {cOld : ByteArray} {H : Hp} {Q : Value → Hp → Prop} (h : rlog_Log_Add.vc J0 lBase lTerm lEntries term cOp cClient cSeq cKey cValue cOld H Q) : SCalls Try.prog rlog_Log_Add.id [.agg #[.int .i64 lBase, .int .i64 lTerm, .slice lEntries.a lEntries.len lEntries.cap], .int .i64 term, .agg #[.int .i64 cOp, .int .i64 cClient, .int .i64 cSeq, .string cKey, .string cValue, .string cOld]] H Q := vFn_of Try.mixed Try.func25 (rlog_Log_Add.eq J0 lBase lTerm lEntries term cOp cClient cSeq cKey cValue cOld H Q) h

/-! 26: (tephra/tephralaw06.Say).Cmd -/
noncomputable def tephralaw06_Say_Cmd.cf : Cfg := ⟨[1, 2, 3], [], [(6, [1, 2, 3], true)], [], true, []⟩
noncomputable def tephralaw06_Say_Cmd.k1.st (sOp : Int) (sClient : Int) (sSeq : Int) (sKey : Int) (sValue : Int) (sOld : Int) (H : Hp) (y : ByteArray) : VS := ⟨mkFr 65 [(1, .loc 0 0), (2, .loc 1 0), (3, .loc 2 0)], [(T_tephralaw06_Say, [.int .u8 sOp, .int .u8 sClient, .int .u8 sSeq, .int .u8 sKey, .int .u8 sValue, .int .u8 sOld]), (T_api_Cmd, [.int .i64 0, .int .i64 0, .int .i64 0, .string (ByteArray.mk #[]), .string (ByteArray.mk #[]), .string (ByteArray.mk #[])]), (T_api_Cmd, [.int .i64 (w64 ((Int.tmod sOp 4))), .int .i64 (w64 ((Int.tmod sClient 4))), .int .i64 (w64 ((Int.tmod sSeq 40))), .string ((ByteArray.mk #[107]) ++ ((ByteArray.mk #[97, 98, 99, 100, 101, 102, 103, 104]).extract (((Int.tmod sKey 8) : Int).toNat) (((IntKind.u8.wrap ((Int.tmod sKey 8) + 1)) : Int).toNat))), .string y, .string (ByteArray.mk #[])])], (holes H 3)⟩
noncomputable def tephralaw06_Say_Cmd.k1 (J : Jn) (sOp : Int) (sClient : Int) (sSeq : Int) (sKey : Int) (sValue : Int) (sOld : Int) (H : Hp) (y : ByteArray) (Q : Value → Hp → Prop) : Prop := J (vSeg Try.prog tephralaw06_Say_Cmd.cf J tephralaw06_Say_Cmd.fn [1, 1, 1, 1] [0, 2, 3, 3] Q) (tephralaw06_Say_Cmd.k1.st sOp sClient sSeq sKey sValue sOld H y)
attribute [irreducible] tephralaw06_Say_Cmd.k1
noncomputable def tephralaw06_Say_Cmd.k1.body (J : Jn) (sOp : Int) (sClient : Int) (sSeq : Int) (sKey : Int) (sValue : Int) (sOld : Int) (H : Hp) (y : ByteArray) (Q : Value → Hp → Prop) : Prop :=
 
 Br ((w64 ((Int.tmod sOp 4))) == 3) ((2 : Int) ≠ 0 ∧ ((0 : Int) ≤ (Int.tmod sOld 2) ∧ (Int.tmod sOld 2) ≤ (((ByteArray.mk #[118]).size : Nat) : Int)) ∧ (10 : Int) ≠ 0 ∧ (10 : Int) ≠ 0 ∧ ((0 : Int) ≤ (IntKind.u8.wrap ((Int.tmod sOld 10) + 1)) ∧ (IntKind.u8.wrap ((Int.tmod sOld 10) + 1)) ≤ (((ByteArray.mk #[48, 49, 50, 51, 52, 53, 54, 55, 56, 57]).size : Nat) : Int)) ∧ ((0 : Int) ≤ (Int.tmod sOld 10) ∧ (Int.tmod sOld 10) ≤ (((((IntKind.u8.wrap ((Int.tmod sOld 10) + 1)) : Int).toNat) : Nat) : Int)) ∧ ((ByteArray.mk #[118]).extract 0 (((Int.tmod sOld 2) : Int).toNat)).size + ((ByteArray.mk #[48, 49, 50, 51, 52, 53, 54, 55, 56, 57]).extract (((Int.tmod sOld 10) : Int).toNat) (((IntKind.u8.wrap ((Int.tmod sOld 10) + 1)) : Int).toNat)).size ≤ 9223372036854775807 ∧ Q (.agg #[.int .i64 (w64 ((Int.tmod sOp 4))), .int .i64 (w64 ((Int.tmod sClient 4))), .int .i64 (w64 ((Int.tmod sSeq 40))), .string ((ByteArray.mk #[107]) ++ ((ByteArray.mk #[97, 98, 99, 100, 101, 102, 103, 104]).extract (((Int.tmod sKey 8) : Int).toNat) (((IntKind.u8.wrap ((Int.tmod sKey 8) + 1)) : Int).toNat))), .string y, .string (((ByteArray.mk #[118]).extract 0 (((Int.tmod sOld 2) : Int).toNat)) ++ ((ByteArray.mk #[48, 49, 50, 51, 52, 53, 54, 55, 56, 57]).extract (((Int.tmod sOld 10) : Int).toNat) (((IntKind.u8.wrap ((Int.tmod sOld 10) + 1)) : Int).toNat)))]) (holes H 3))
 (Q (.agg #[.int .i64 (w64 ((Int.tmod sOp 4))), .int .i64 (w64 ((Int.tmod sClient 4))), .int .i64 (w64 ((Int.tmod sSeq 40))), .string ((ByteArray.mk #[107]) ++ ((ByteArray.mk #[97, 98, 99, 100, 101, 102, 103, 104]).extract (((Int.tmod sKey 8) : Int).toNat) (((IntKind.u8.wrap ((Int.tmod sKey 8) + 1)) : Int).toNat))), .string y, .string (ByteArray.mk #[])]) (holes H 3))
theorem tephralaw06_Say_Cmd.k1.eq (J : Jn) (sOp : Int) (sClient : Int) (sSeq : Int) (sKey : Int) (sValue : Int) (sOld : Int) (H : Hp) (y : ByteArray) (Q : Value → Hp → Prop) : vSeg Try.prog tephralaw06_Say_Cmd.cf J tephralaw06_Say_Cmd.fn [1, 1, 1, 1] [0, 2, 3, 3] Q (tephralaw06_Say_Cmd.k1.st sOp sClient sSeq sKey sValue sOld H y) = tephralaw06_Say_Cmd.k1.body J sOp sClient sSeq sKey sValue sOld H y Q := by kernel_rfl
theorem tephralaw06_Say_Cmd.k1.step {sOp : Int} {sClient : Int} {sSeq : Int} {sKey : Int} {sValue : Int} {sOld : Int} {H : Hp} {y : ByteArray} {Q : Value → Hp → Prop} (h : tephralaw06_Say_Cmd.k1.body J0 sOp sClient sSeq sKey sValue sOld H y Q) : tephralaw06_Say_Cmd.k1 J0 sOp sClient sSeq sKey sValue sOld H y Q := step_of (vSeg Try.prog tephralaw06_Say_Cmd.cf J0 tephralaw06_Say_Cmd.fn [1, 1, 1, 1] [0, 2, 3, 3] Q) (tephralaw06_Say_Cmd.k1.st sOp sClient sSeq sKey sValue sOld H y) (tephralaw06_Say_Cmd.k1.eq J0 sOp sClient sSeq sKey sValue sOld H y Q) (by kernel_rfl) h
noncomputable def tephralaw06_Say_Cmd.vc (J : Jn) (sOp : Int) (sClient : Int) (sSeq : Int) (sKey : Int) (sValue : Int) (sOld : Int) (H : Hp) (Q : Value → Hp → Prop) : Prop :=
 (4 : Int) ≠ 0 ∧ (4 : Int) ≠ 0 ∧ (40 : Int) ≠ 0 ∧ (8 : Int) ≠ 0 ∧ (8 : Int) ≠ 0 ∧ ((0 : Int) ≤ (IntKind.u8.wrap ((Int.tmod sKey 8) + 1)) ∧ (IntKind.u8.wrap ((Int.tmod sKey 8) + 1)) ≤ (((ByteArray.mk #[97, 98, 99, 100, 101, 102, 103, 104]).size : Nat) : Int)) ∧ ((0 : Int) ≤ (Int.tmod sKey 8) ∧ (Int.tmod sKey 8) ≤ (((((IntKind.u8.wrap ((Int.tmod sKey 8) + 1)) : Int).toNat) : Nat) : Int)) ∧ (ByteArray.mk #[107]).size + ((ByteArray.mk #[97, 98, 99, 100, 101, 102, 103, 104]).extract (((Int.tmod sKey 8) : Int).toNat) (((IntKind.u8.wrap ((Int.tmod sKey 8) + 1)) : Int).toNat)).size ≤ 9223372036854775807 ∧ (2 : Int) ≠ 0 ∧ ((0 : Int) ≤ (Int.tmod sValue 2) ∧ (Int.tmod sValue 2) ≤ (((ByteArray.mk #[118]).size : Nat) : Int)) ∧ (10 : Int) ≠ 0 ∧ (10 : Int) ≠ 0 ∧ ((0 : Int) ≤ (IntKind.u8.wrap ((Int.tmod sValue 10) + 1)) ∧ (IntKind.u8.wrap ((Int.tmod sValue 10) + 1)) ≤ (((ByteArray.mk #[48, 49, 50, 51, 52, 53, 54, 55, 56, 57]).size : Nat) : Int)) ∧ ((0 : Int) ≤ (Int.tmod sValue 10) ∧ (Int.tmod sValue 10) ≤ (((((IntKind.u8.wrap ((Int.tmod sValue 10) + 1)) : Int).toNat) : Nat) : Int)) ∧ ((ByteArray.mk #[118]).extract 0 (((Int.tmod sValue 2) : Int).toNat)).size + ((ByteArray.mk #[48, 49, 50, 51, 52, 53, 54, 55, 56, 57]).extract (((Int.tmod sValue 10) : Int).toNat) (((IntKind.u8.wrap ((Int.tmod sValue 10) + 1)) : Int).toNat)).size ≤ 9223372036854775807 ∧ 
 Br ((w64 ((Int.tmod sOp 4))) == 0) (Q (.agg #[.int .i64 0, .int .i64 0, .int .i64 0, .string (ByteArray.mk #[]), .string (ByteArray.mk #[]), .string (ByteArray.mk #[])]) (holes H 3))
 (
 Br ((w64 ((Int.tmod sOp 4))) == 2) (
 tephralaw06_Say_Cmd.k1 J sOp sClient sSeq sKey sValue sOld H (ByteArray.mk #[]) Q)
 (
 tephralaw06_Say_Cmd.k1 J sOp sClient sSeq sKey sValue sOld H (((ByteArray.mk #[118]).extract 0 (((Int.tmod sValue 2) : Int).toNat)) ++ ((ByteArray.mk #[48, 49, 50, 51, 52, 53, 54, 55, 56, 57]).extract (((Int.tmod sValue 10) : Int).toNat) (((IntKind.u8.wrap ((Int.tmod sValue 10) + 1)) : Int).toNat))) Q))
theorem tephralaw06_Say_Cmd.eq (J : Jn) (sOp : Int) (sClient : Int) (sSeq : Int) (sKey : Int) (sValue : Int) (sOld : Int) (H : Hp) (Q : Value → Hp → Prop) : vFn Try.prog tephralaw06_Say_Cmd.cf J tephralaw06_Say_Cmd.fn [.agg #[.int .u8 sOp, .int .u8 sClient, .int .u8 sSeq, .int .u8 sKey, .int .u8 sValue, .int .u8 sOld]] H Q = tephralaw06_Say_Cmd.vc J sOp sClient sSeq sKey sValue sOld H Q := by kernel_rfl
theorem tephralaw06_Say_Cmd.calls {sOp : Int} {sClient : Int} {sSeq : Int} {sKey : Int} {sValue : Int} {sOld : Int} {H : Hp} {Q : Value → Hp → Prop} (h : tephralaw06_Say_Cmd.vc J0 sOp sClient sSeq sKey sValue sOld H Q) : SCalls Try.prog tephralaw06_Say_Cmd.id [.agg #[.int .u8 sOp, .int .u8 sClient, .int .u8 sSeq, .int .u8 sKey, .int .u8 sValue, .int .u8 sOld]] H Q := vFn_of Try.mixed Try.func26 (tephralaw06_Say_Cmd.eq J0 sOp sClient sSeq sKey sValue sOld H Q) h

/-! 27: (tephra/rlog.Log).Compact -/
noncomputable def rlog_Log_Compact.cf : Cfg := ⟨[2, 4], [], [], [], true, []⟩
noncomputable def rlog_Log_Compact.vc (J : Jn) (lBase : Int) (lTerm : Int) (lEntries : Sl) (i : Int) (H : Hp) (Q : Value → Hp → Prop) : Prop :=
 
 SCalls Try.prog rlog_Log_TermAt.id [.agg #[.int .i64 lBase, .int .i64 lTerm, .slice lEntries.a lEntries.len lEntries.cap], .int .i64 i] (holes H 2) (fun r H1 => ∃ x : Int, ∃ x1 : Bool, r = .tuple #[.int .i64 x, .bool x1] ∧ 
 Br (!x1) (Q (.agg #[.int .i64 lBase, .int .i64 lTerm, .slice lEntries.a lEntries.len lEntries.cap]) H1)
 (((0 : Int) ≤ (w64 (i - lBase)) ∧ (w64 (i - lBase)) ≤ ((lEntries.len : Nat) : Int)) ∧ 
 SCalls Try.prog slices_Clone_sl_api_Entry_api_Entry.id [.slice (cutA lEntries.a lEntries.cap (((w64 (i - lBase)) : Int).toNat) 8) (lEntries.len - (((w64 (i - lBase)) : Int).toNat)) (lEntries.cap - (((w64 (i - lBase)) : Int).toNat))] H1 (fun r1 H2 => ∃ x2 : Sl, r1 = .slice x2.a x2.len x2.cap ∧ Q (.agg #[.int .i64 i, .int .i64 x, .slice x2.a x2.len x2.cap]) H2)))
theorem rlog_Log_Compact.eq (J : Jn) (lBase : Int) (lTerm : Int) (lEntries : Sl) (i : Int) (H : Hp) (Q : Value → Hp → Prop) : vFn Try.prog rlog_Log_Compact.cf J rlog_Log_Compact.fn [.agg #[.int .i64 lBase, .int .i64 lTerm, .slice lEntries.a lEntries.len lEntries.cap], .int .i64 i] H Q = rlog_Log_Compact.vc J lBase lTerm lEntries i H Q := by kernel_rfl
theorem rlog_Log_Compact.calls {lBase : Int} {lTerm : Int} {lEntries : Sl} {i : Int} {H : Hp} {Q : Value → Hp → Prop} (h : rlog_Log_Compact.vc J0 lBase lTerm lEntries i H Q) : SCalls Try.prog rlog_Log_Compact.id [.agg #[.int .i64 lBase, .int .i64 lTerm, .slice lEntries.a lEntries.len lEntries.cap], .int .i64 i] H Q := vFn_of Try.mixed Try.func27 (rlog_Log_Compact.eq J0 lBase lTerm lEntries i H Q) h

/-! 28: tephra/cmds.Row -/
noncomputable def cmds_Row.cf : Cfg := ⟨[6], [(2, [0, 1, 7, 8, 9])], [], [], true, []⟩
noncomputable def cmds_Row.l1.st (es : Sl) (fromv : Int) (H1 : Hp) (x : Int) : VS := ⟨mkFr 41 [(0, .v (.slice es.a es.len es.cap)), (1, .v (.int .i64 fromv)), (7, .v (.slice es.a es.len es.cap)), (8, .v (.int .i64 ((es.len : Nat) : Int))), (9, .v (.int .i64 x))], [], H1⟩
noncomputable def cmds_Row.l1 (J : Jn) (es : Sl) (fromv : Int) (H1 : Hp) (x : Int) (Q : Value → Hp → Prop) : Prop := vAt Try.prog cmds_Row.cf J cmds_Row.fn [1, 0, 1, 0] [0, 0, 0] Q (cmds_Row.l1.st es fromv H1 x)
attribute [irreducible] cmds_Row.l1
noncomputable def cmds_Row.l1.body (J : Jn) (es : Sl) (fromv : Int) (H1 : Hp) (x : Int) (Q : Value → Hp → Prop) : Prop :=
 
 Br (decide (x < ((es.len : Nat) : Int))) (((0 : Int) ≤ x ∧ x < ((es.len : Nat) : Int)) ∧ vPtr es.a (fun a => ∃ Index : Int, ∃ Term : Int, ∃ CmdOp : Int, ∃ CmdClient : Int, ∃ CmdSeq : Int, ∃ CmdKey : ByteArray, ∃ CmdValue : ByteArray, ∃ CmdOld : ByteArray, RowAt H1 (a.add ((x : Int).toNat * 8)) [.int .i64 Index, .int .i64 Term, .int .i64 CmdOp, .int .i64 CmdClient, .int .i64 CmdSeq, .string CmdKey, .string CmdValue, .string CmdOld] ∧ 
 SCalls Try.prog cmds_Right.id [.agg #[.int .i64 Index, .int .i64 Term, .int .i64 CmdOp, .int .i64 CmdClient, .int .i64 CmdSeq, .string CmdKey, .string CmdValue, .string CmdOld]] (holes H1 1) (fun r H2 => ∃ x1 : Bool, r = .bool x1 ∧ 
 Br (!x1) (Q (.bool false) H2)
 (
 Br (Index != (w64 (fromv + x))) (Q (.bool false) H2)
 (
 Br (decide (x > 0)) (((0 : Int) ≤ (w64 (x - 1)) ∧ (w64 (x - 1)) < ((es.len : Nat) : Int)) ∧ vPtr es.a (fun a1 => ∃ Term1 : Int, Hp.cell? H2 ((a1.add (((w64 (x - 1)) : Int).toNat * 8)).add 1) = some (.int .i64 Term1) ∧ 
 Br (decide (Term < Term1)) (Q (.bool false) H2)
 (
 cmds_Row.l1 J es fromv H2 (w64 (x + 1)) Q)))
 (
 cmds_Row.l1 J es fromv H2 (w64 (x + 1)) Q))))))
 (Q (.bool true) H1)
theorem cmds_Row.l1.eq (J : Jn) (es : Sl) (fromv : Int) (H1 : Hp) (x : Int) (Q : Value → Hp → Prop) : vAtBody Try.prog cmds_Row.cf J cmds_Row.fn [1, 0, 1, 0] [0, 0, 0] Q (cmds_Row.l1.st es fromv H1 x) = cmds_Row.l1.body J es fromv H1 x Q := by kernel_rfl
theorem cmds_Row.l1.step {es : Sl} {fromv : Int} {H1 : Hp} {x : Int} {Q : Value → Hp → Prop} (h : cmds_Row.l1.body J0 es fromv H1 x Q) : cmds_Row.l1 J0 es fromv H1 x Q := vAt_stepC (cmds_Row.l1.st es fromv H1 x) (cmds_Row.l1.eq J0 es fromv H1 x Q) (by kernel_rfl) h
noncomputable def cmds_Row.vc (J : Jn) (es : Sl) (fromv : Int) (H : Hp) (Q : Value → Hp → Prop) : Prop :=
 
 cmds_Row.l1 J es fromv H 0 Q
theorem cmds_Row.eq (J : Jn) (es : Sl) (fromv : Int) (H : Hp) (Q : Value → Hp → Prop) : vFn Try.prog cmds_Row.cf J cmds_Row.fn [.slice es.a es.len es.cap, .int .i64 fromv] H Q = cmds_Row.vc J es fromv H Q := by kernel_rfl
theorem cmds_Row.calls {es : Sl} {fromv : Int} {H : Hp} {Q : Value → Hp → Prop} (h : cmds_Row.vc J0 es fromv H Q) : SCalls Try.prog cmds_Row.id [.slice es.a es.len es.cap, .int .i64 fromv] H Q := vFn_of Try.mixed Try.func28 (cmds_Row.eq J0 es fromv H Q) h

/-! 29: slices.Clone___tephra/api.Entry,tephra/api.Entry_ -/
noncomputable def slices_Clone_sl_api_Entry_api_Entry.cf : Cfg := ⟨[], [], [], [], true, []⟩
noncomputable def slices_Clone_sl_api_Entry_api_Entry.vc (J : Jn) (s : Sl) (H : Hp) (Q : Value → Hp → Prop) : Prop :=
 
 Br s.a.isNone (Q (.slice none 0 0) H)
 (
 vApp Try.prog T_sl_api_Entry (some (Addr.mk (Array.size H) 0 none)) 0 0 (.slice s.a s.len s.cap) (Array.push H (.cells #[] T_api_Entry)) (fun ap H1 => Q (.slice ap.a ap.len ap.cap) H1))
theorem slices_Clone_sl_api_Entry_api_Entry.eq (J : Jn) (s : Sl) (H : Hp) (Q : Value → Hp → Prop) : vFn Try.prog slices_Clone_sl_api_Entry_api_Entry.cf J slices_Clone_sl_api_Entry_api_Entry.fn [.slice s.a s.len s.cap] H Q = slices_Clone_sl_api_Entry_api_Entry.vc J s H Q := by kernel_rfl
theorem slices_Clone_sl_api_Entry_api_Entry.calls {s : Sl} {H : Hp} {Q : Value → Hp → Prop} (h : slices_Clone_sl_api_Entry_api_Entry.vc J0 s H Q) : SCalls Try.prog slices_Clone_sl_api_Entry_api_Entry.id [.slice s.a s.len s.cap] H Q := vFn_of Try.mixed Try.func29 (slices_Clone_sl_api_Entry_api_Entry.eq J0 s H Q) h

/-! 30: tephra/cmds.May -/
noncomputable def cmds_May.cf : Cfg := ⟨[1], [], [(2, [1, 22], true)], [(10, [1, 10]), (16, [1, 16]), (36, [1, 36]), (41, [1, 41]), (46, [1, 46]), (51, [1, 51])], true, []⟩
noncomputable def cmds_May.k1.st (cOp : Int) (cClient : Int) (cSeq : Int) (cKey : ByteArray) (cValue : ByteArray) (cOld : ByteArray) (H : Hp) (x : Bool) : VS := ⟨mkFr 58 [(1, .loc 0 0), (10, .v (.bool x))], [(T_api_Cmd, [.int .i64 cOp, .int .i64 cClient, .int .i64 cSeq, .string cKey, .string cValue, .string cOld])], (holes H 1)⟩
noncomputable def cmds_May.k1 (J : Jn) (cOp : Int) (cClient : Int) (cSeq : Int) (cKey : ByteArray) (cValue : ByteArray) (cOld : ByteArray) (H : Hp) (x : Bool) (Q : Value → Hp → Prop) : Prop := J (vMid Try.prog cmds_May.cf J cmds_May.fn [1, 0, 0] [0, 1, 1] 8 Q) (cmds_May.k1.st cOp cClient cSeq cKey cValue cOld H x)
noncomputable def cmds_May.k2.st (cOp : Int) (cClient : Int) (cSeq : Int) (cKey : ByteArray) (cValue : ByteArray) (cOld : ByteArray) (H : Hp) (x1 : Bool) : VS := ⟨mkFr 58 [(1, .loc 0 0), (16, .v (.bool x1))], [(T_api_Cmd, [.int .i64 cOp, .int .i64 cClient, .int .i64 cSeq, .string cKey, .string cValue, .string cOld])], (holes H 1)⟩
noncomputable def cmds_May.k2 (J : Jn) (cOp : Int) (cClient : Int) (cSeq : Int) (cKey : ByteArray) (cValue : ByteArray) (cOld : ByteArray) (H : Hp) (x1 : Bool) (Q : Value → Hp → Prop) : Prop := J (vMid Try.prog cmds_May.cf J cmds_May.fn [1, 0, 0] [0, 1, 1] 14 Q) (cmds_May.k2.st cOp cClient cSeq cKey cValue cOld H x1)
noncomputable def cmds_May.k3.st (cOp : Int) (cClient : Int) (cSeq : Int) (cKey : ByteArray) (cValue : ByteArray) (cOld : ByteArray) (H : Hp) (x2 : Bool) : VS := ⟨mkFr 58 [(1, .loc 0 0), (22, .v (.bool x2))], [(T_api_Cmd, [.int .i64 cOp, .int .i64 cClient, .int .i64 cSeq, .string cKey, .string cValue, .string cOld])], (holes H 1)⟩
noncomputable def cmds_May.k3 (J : Jn) (cOp : Int) (cClient : Int) (cSeq : Int) (cKey : ByteArray) (cValue : ByteArray) (cOld : ByteArray) (H : Hp) (x2 : Bool) (Q : Value → Hp → Prop) : Prop := J (vSeg Try.prog cmds_May.cf J cmds_May.fn [1, 0, 1] [0, 1, 1] Q) (cmds_May.k3.st cOp cClient cSeq cKey cValue cOld H x2)
noncomputable def cmds_May.k4.st (cOp : Int) (cClient : Int) (cSeq : Int) (cKey : ByteArray) (cValue : ByteArray) (cOld : ByteArray) (H : Hp) (x3 : Bool) : VS := ⟨mkFr 58 [(1, .loc 0 0), (36, .v (.bool x3))], [(T_api_Cmd, [.int .i64 cOp, .int .i64 cClient, .int .i64 cSeq, .string cKey, .string cValue, .string cOld])], (holes H 1)⟩
noncomputable def cmds_May.k4 (J : Jn) (cOp : Int) (cClient : Int) (cSeq : Int) (cKey : ByteArray) (cValue : ByteArray) (cOld : ByteArray) (H : Hp) (x3 : Bool) (Q : Value → Hp → Prop) : Prop := J (vMid Try.prog cmds_May.cf J cmds_May.fn [1, 1, 1, 0] [0, 1, 1, 1] 8 Q) (cmds_May.k4.st cOp cClient cSeq cKey cValue cOld H x3)
noncomputable def cmds_May.k5.st (cOp : Int) (cClient : Int) (cSeq : Int) (cKey : ByteArray) (cValue : ByteArray) (cOld : ByteArray) (H : Hp) (x4 : Bool) : VS := ⟨mkFr 58 [(1, .loc 0 0), (41, .v (.bool x4))], [(T_api_Cmd, [.int .i64 cOp, .int .i64 cClient, .int .i64 cSeq, .string cKey, .string cValue, .string cOld])], (holes H 1)⟩
noncomputable def cmds_May.k5 (J : Jn) (cOp : Int) (cClient : Int) (cSeq : Int) (cKey : ByteArray) (cValue : ByteArray) (cOld : ByteArray) (H : Hp) (x4 : Bool) (Q : Value → Hp → Prop) : Prop := J (vMid Try.prog cmds_May.cf J cmds_May.fn [1, 1, 1, 0] [0, 1, 1, 1] 13 Q) (cmds_May.k5.st cOp cClient cSeq cKey cValue cOld H x4)
noncomputable def cmds_May.k6.st (cOp : Int) (cClient : Int) (cSeq : Int) (cKey : ByteArray) (cValue : ByteArray) (cOld : ByteArray) (H : Hp) (x5 : Bool) : VS := ⟨mkFr 58 [(1, .loc 0 0), (46, .v (.bool x5))], [(T_api_Cmd, [.int .i64 cOp, .int .i64 cClient, .int .i64 cSeq, .string cKey, .string cValue, .string cOld])], (holes H 1)⟩
noncomputable def cmds_May.k6 (J : Jn) (cOp : Int) (cClient : Int) (cSeq : Int) (cKey : ByteArray) (cValue : ByteArray) (cOld : ByteArray) (H : Hp) (x5 : Bool) (Q : Value → Hp → Prop) : Prop := J (vMid Try.prog cmds_May.cf J cmds_May.fn [1, 1, 1, 0] [0, 1, 1, 1] 18 Q) (cmds_May.k6.st cOp cClient cSeq cKey cValue cOld H x5)
noncomputable def cmds_May.k7.st (cOp : Int) (cClient : Int) (cSeq : Int) (cKey : ByteArray) (cValue : ByteArray) (cOld : ByteArray) (H : Hp) (x6 : Bool) : VS := ⟨mkFr 58 [(1, .loc 0 0), (51, .v (.bool x6))], [(T_api_Cmd, [.int .i64 cOp, .int .i64 cClient, .int .i64 cSeq, .string cKey, .string cValue, .string cOld])], (holes H 1)⟩
noncomputable def cmds_May.k7 (J : Jn) (cOp : Int) (cClient : Int) (cSeq : Int) (cKey : ByteArray) (cValue : ByteArray) (cOld : ByteArray) (H : Hp) (x6 : Bool) (Q : Value → Hp → Prop) : Prop := J (vMid Try.prog cmds_May.cf J cmds_May.fn [1, 1, 1, 0] [0, 1, 1, 1] 23 Q) (cmds_May.k7.st cOp cClient cSeq cKey cValue cOld H x6)
attribute [irreducible] cmds_May.k1 cmds_May.k2 cmds_May.k3 cmds_May.k4 cmds_May.k5 cmds_May.k6 cmds_May.k7
noncomputable def cmds_May.k1.body (J : Jn) (cOp : Int) (cClient : Int) (cSeq : Int) (cKey : ByteArray) (cValue : ByteArray) (cOld : ByteArray) (H : Hp) (x : Bool) (Q : Value → Hp → Prop) : Prop :=
 
 Br x (
 cmds_May.k2 J cOp cClient cSeq cKey cValue cOld H true Q)
 (
 cmds_May.k2 J cOp cClient cSeq cKey cValue cOld H (decide (((cValue.size : Nat) : Int) > 16)) Q)
theorem cmds_May.k1.eq (J : Jn) (cOp : Int) (cClient : Int) (cSeq : Int) (cKey : ByteArray) (cValue : ByteArray) (cOld : ByteArray) (H : Hp) (x : Bool) (Q : Value → Hp → Prop) : vMid Try.prog cmds_May.cf J cmds_May.fn [1, 0, 0] [0, 1, 1] 8 Q (cmds_May.k1.st cOp cClient cSeq cKey cValue cOld H x) = cmds_May.k1.body J cOp cClient cSeq cKey cValue cOld H x Q := by kernel_rfl
theorem cmds_May.k1.step {cOp : Int} {cClient : Int} {cSeq : Int} {cKey : ByteArray} {cValue : ByteArray} {cOld : ByteArray} {H : Hp} {x : Bool} {Q : Value → Hp → Prop} (h : cmds_May.k1.body J0 cOp cClient cSeq cKey cValue cOld H x Q) : cmds_May.k1 J0 cOp cClient cSeq cKey cValue cOld H x Q := step_of (vMid Try.prog cmds_May.cf J0 cmds_May.fn [1, 0, 0] [0, 1, 1] 8 Q) (cmds_May.k1.st cOp cClient cSeq cKey cValue cOld H x) (cmds_May.k1.eq J0 cOp cClient cSeq cKey cValue cOld H x Q) (by kernel_rfl) h
noncomputable def cmds_May.k2.body (J : Jn) (cOp : Int) (cClient : Int) (cSeq : Int) (cKey : ByteArray) (cValue : ByteArray) (cOld : ByteArray) (H : Hp) (x1 : Bool) (Q : Value → Hp → Prop) : Prop :=
 
 Br x1 (
 cmds_May.k3 J cOp cClient cSeq cKey cValue cOld H true Q)
 (
 cmds_May.k3 J cOp cClient cSeq cKey cValue cOld H (decide (((cOld.size : Nat) : Int) > 16)) Q)
theorem cmds_May.k2.eq (J : Jn) (cOp : Int) (cClient : Int) (cSeq : Int) (cKey : ByteArray) (cValue : ByteArray) (cOld : ByteArray) (H : Hp) (x1 : Bool) (Q : Value → Hp → Prop) : vMid Try.prog cmds_May.cf J cmds_May.fn [1, 0, 0] [0, 1, 1] 14 Q (cmds_May.k2.st cOp cClient cSeq cKey cValue cOld H x1) = cmds_May.k2.body J cOp cClient cSeq cKey cValue cOld H x1 Q := by kernel_rfl
theorem cmds_May.k2.step {cOp : Int} {cClient : Int} {cSeq : Int} {cKey : ByteArray} {cValue : ByteArray} {cOld : ByteArray} {H : Hp} {x1 : Bool} {Q : Value → Hp → Prop} (h : cmds_May.k2.body J0 cOp cClient cSeq cKey cValue cOld H x1 Q) : cmds_May.k2 J0 cOp cClient cSeq cKey cValue cOld H x1 Q := step_of (vMid Try.prog cmds_May.cf J0 cmds_May.fn [1, 0, 0] [0, 1, 1] 14 Q) (cmds_May.k2.st cOp cClient cSeq cKey cValue cOld H x1) (cmds_May.k2.eq J0 cOp cClient cSeq cKey cValue cOld H x1 Q) (by kernel_rfl) h
noncomputable def cmds_May.k3.body (J : Jn) (cOp : Int) (cClient : Int) (cSeq : Int) (cKey : ByteArray) (cValue : ByteArray) (cOld : ByteArray) (H : Hp) (x2 : Bool) (Q : Value → Hp → Prop) : Prop :=
 
 Br x2 (Q (.bool false) (holes H 1))
 (
 Br (cOp == 0) (Q (.bool ((cOp == (0 : Int)) && ((cClient == (0 : Int)) && ((cSeq == (0 : Int)) && ((cKey == (ByteArray.mk #[])) && ((cValue == (ByteArray.mk #[])) && ((cOld == (ByteArray.mk #[])) && true))))))) (holes H 1))
 (
 Br (decide (cClient ≥ 0)) (
 cmds_May.k4 J cOp cClient cSeq cKey cValue cOld H (decide (cClient < 4)) Q)
 (
 cmds_May.k4 J cOp cClient cSeq cKey cValue cOld H false Q)))
theorem cmds_May.k3.eq (J : Jn) (cOp : Int) (cClient : Int) (cSeq : Int) (cKey : ByteArray) (cValue : ByteArray) (cOld : ByteArray) (H : Hp) (x2 : Bool) (Q : Value → Hp → Prop) : vSeg Try.prog cmds_May.cf J cmds_May.fn [1, 0, 1] [0, 1, 1] Q (cmds_May.k3.st cOp cClient cSeq cKey cValue cOld H x2) = cmds_May.k3.body J cOp cClient cSeq cKey cValue cOld H x2 Q := by kernel_rfl
theorem cmds_May.k3.step {cOp : Int} {cClient : Int} {cSeq : Int} {cKey : ByteArray} {cValue : ByteArray} {cOld : ByteArray} {H : Hp} {x2 : Bool} {Q : Value → Hp → Prop} (h : cmds_May.k3.body J0 cOp cClient cSeq cKey cValue cOld H x2 Q) : cmds_May.k3 J0 cOp cClient cSeq cKey cValue cOld H x2 Q := step_of (vSeg Try.prog cmds_May.cf J0 cmds_May.fn [1, 0, 1] [0, 1, 1] Q) (cmds_May.k3.st cOp cClient cSeq cKey cValue cOld H x2) (cmds_May.k3.eq J0 cOp cClient cSeq cKey cValue cOld H x2 Q) (by kernel_rfl) h
noncomputable def cmds_May.k4.body (J : Jn) (cOp : Int) (cClient : Int) (cSeq : Int) (cKey : ByteArray) (cValue : ByteArray) (cOld : ByteArray) (H : Hp) (x3 : Bool) (Q : Value → Hp → Prop) : Prop :=
 
 Br x3 (
 cmds_May.k5 J cOp cClient cSeq cKey cValue cOld H (decide (cSeq ≥ 0)) Q)
 (
 cmds_May.k5 J cOp cClient cSeq cKey cValue cOld H false Q)
theorem cmds_May.k4.eq (J : Jn) (cOp : Int) (cClient : Int) (cSeq : Int) (cKey : ByteArray) (cValue : ByteArray) (cOld : ByteArray) (H : Hp) (x3 : Bool) (Q : Value → Hp → Prop) : vMid Try.prog cmds_May.cf J cmds_May.fn [1, 1, 1, 0] [0, 1, 1, 1] 8 Q (cmds_May.k4.st cOp cClient cSeq cKey cValue cOld H x3) = cmds_May.k4.body J cOp cClient cSeq cKey cValue cOld H x3 Q := by kernel_rfl
theorem cmds_May.k4.step {cOp : Int} {cClient : Int} {cSeq : Int} {cKey : ByteArray} {cValue : ByteArray} {cOld : ByteArray} {H : Hp} {x3 : Bool} {Q : Value → Hp → Prop} (h : cmds_May.k4.body J0 cOp cClient cSeq cKey cValue cOld H x3 Q) : cmds_May.k4 J0 cOp cClient cSeq cKey cValue cOld H x3 Q := step_of (vMid Try.prog cmds_May.cf J0 cmds_May.fn [1, 1, 1, 0] [0, 1, 1, 1] 8 Q) (cmds_May.k4.st cOp cClient cSeq cKey cValue cOld H x3) (cmds_May.k4.eq J0 cOp cClient cSeq cKey cValue cOld H x3 Q) (by kernel_rfl) h
noncomputable def cmds_May.k5.body (J : Jn) (cOp : Int) (cClient : Int) (cSeq : Int) (cKey : ByteArray) (cValue : ByteArray) (cOld : ByteArray) (H : Hp) (x4 : Bool) (Q : Value → Hp → Prop) : Prop :=
 
 Br x4 (
 cmds_May.k6 J cOp cClient cSeq cKey cValue cOld H (decide (cSeq ≤ 1048576)) Q)
 (
 cmds_May.k6 J cOp cClient cSeq cKey cValue cOld H false Q)
theorem cmds_May.k5.eq (J : Jn) (cOp : Int) (cClient : Int) (cSeq : Int) (cKey : ByteArray) (cValue : ByteArray) (cOld : ByteArray) (H : Hp) (x4 : Bool) (Q : Value → Hp → Prop) : vMid Try.prog cmds_May.cf J cmds_May.fn [1, 1, 1, 0] [0, 1, 1, 1] 13 Q (cmds_May.k5.st cOp cClient cSeq cKey cValue cOld H x4) = cmds_May.k5.body J cOp cClient cSeq cKey cValue cOld H x4 Q := by kernel_rfl
theorem cmds_May.k5.step {cOp : Int} {cClient : Int} {cSeq : Int} {cKey : ByteArray} {cValue : ByteArray} {cOld : ByteArray} {H : Hp} {x4 : Bool} {Q : Value → Hp → Prop} (h : cmds_May.k5.body J0 cOp cClient cSeq cKey cValue cOld H x4 Q) : cmds_May.k5 J0 cOp cClient cSeq cKey cValue cOld H x4 Q := step_of (vMid Try.prog cmds_May.cf J0 cmds_May.fn [1, 1, 1, 0] [0, 1, 1, 1] 13 Q) (cmds_May.k5.st cOp cClient cSeq cKey cValue cOld H x4) (cmds_May.k5.eq J0 cOp cClient cSeq cKey cValue cOld H x4 Q) (by kernel_rfl) h
noncomputable def cmds_May.k6.body (J : Jn) (cOp : Int) (cClient : Int) (cSeq : Int) (cKey : ByteArray) (cValue : ByteArray) (cOld : ByteArray) (H : Hp) (x5 : Bool) (Q : Value → Hp → Prop) : Prop :=
 
 Br x5 (
 cmds_May.k7 J cOp cClient cSeq cKey cValue cOld H (!(cKey.toList == (ByteArray.mk #[]).toList)) Q)
 (
 cmds_May.k7 J cOp cClient cSeq cKey cValue cOld H false Q)
theorem cmds_May.k6.eq (J : Jn) (cOp : Int) (cClient : Int) (cSeq : Int) (cKey : ByteArray) (cValue : ByteArray) (cOld : ByteArray) (H : Hp) (x5 : Bool) (Q : Value → Hp → Prop) : vMid Try.prog cmds_May.cf J cmds_May.fn [1, 1, 1, 0] [0, 1, 1, 1] 18 Q (cmds_May.k6.st cOp cClient cSeq cKey cValue cOld H x5) = cmds_May.k6.body J cOp cClient cSeq cKey cValue cOld H x5 Q := by kernel_rfl
theorem cmds_May.k6.step {cOp : Int} {cClient : Int} {cSeq : Int} {cKey : ByteArray} {cValue : ByteArray} {cOld : ByteArray} {H : Hp} {x5 : Bool} {Q : Value → Hp → Prop} (h : cmds_May.k6.body J0 cOp cClient cSeq cKey cValue cOld H x5 Q) : cmds_May.k6 J0 cOp cClient cSeq cKey cValue cOld H x5 Q := step_of (vMid Try.prog cmds_May.cf J0 cmds_May.fn [1, 1, 1, 0] [0, 1, 1, 1] 18 Q) (cmds_May.k6.st cOp cClient cSeq cKey cValue cOld H x5) (cmds_May.k6.eq J0 cOp cClient cSeq cKey cValue cOld H x5 Q) (by kernel_rfl) h
noncomputable def cmds_May.k7.body (J : Jn) (cOp : Int) (cClient : Int) (cSeq : Int) (cKey : ByteArray) (cValue : ByteArray) (cOld : ByteArray) (H : Hp) (x6 : Bool) (Q : Value → Hp → Prop) : Prop :=
 
 Br x6 (Q (.bool (decide (((cKey.size : Nat) : Int) ≤ 8))) (holes H 1))
 (Q (.bool false) (holes H 1))
theorem cmds_May.k7.eq (J : Jn) (cOp : Int) (cClient : Int) (cSeq : Int) (cKey : ByteArray) (cValue : ByteArray) (cOld : ByteArray) (H : Hp) (x6 : Bool) (Q : Value → Hp → Prop) : vMid Try.prog cmds_May.cf J cmds_May.fn [1, 1, 1, 0] [0, 1, 1, 1] 23 Q (cmds_May.k7.st cOp cClient cSeq cKey cValue cOld H x6) = cmds_May.k7.body J cOp cClient cSeq cKey cValue cOld H x6 Q := by kernel_rfl
theorem cmds_May.k7.step {cOp : Int} {cClient : Int} {cSeq : Int} {cKey : ByteArray} {cValue : ByteArray} {cOld : ByteArray} {H : Hp} {x6 : Bool} {Q : Value → Hp → Prop} (h : cmds_May.k7.body J0 cOp cClient cSeq cKey cValue cOld H x6 Q) : cmds_May.k7 J0 cOp cClient cSeq cKey cValue cOld H x6 Q := step_of (vMid Try.prog cmds_May.cf J0 cmds_May.fn [1, 1, 1, 0] [0, 1, 1, 1] 23 Q) (cmds_May.k7.st cOp cClient cSeq cKey cValue cOld H x6) (cmds_May.k7.eq J0 cOp cClient cSeq cKey cValue cOld H x6 Q) (by kernel_rfl) h
noncomputable def cmds_May.vc (J : Jn) (cOp : Int) (cClient : Int) (cSeq : Int) (cKey : ByteArray) (cValue : ByteArray) (cOld : ByteArray) (H : Hp) (Q : Value → Hp → Prop) : Prop :=
 
 Br (decide (cOp < 0)) (
 cmds_May.k1 J cOp cClient cSeq cKey cValue cOld H true Q)
 (
 cmds_May.k1 J cOp cClient cSeq cKey cValue cOld H (decide (cOp ≥ 4)) Q)
theorem cmds_May.eq (J : Jn) (cOp : Int) (cClient : Int) (cSeq : Int) (cKey : ByteArray) (cValue : ByteArray) (cOld : ByteArray) (H : Hp) (Q : Value → Hp → Prop) : vFn Try.prog cmds_May.cf J cmds_May.fn [.agg #[.int .i64 cOp, .int .i64 cClient, .int .i64 cSeq, .string cKey, .string cValue, .string cOld]] H Q = cmds_May.vc J cOp cClient cSeq cKey cValue cOld H Q := by kernel_rfl
theorem cmds_May.calls {cOp : Int} {cClient : Int} {cSeq : Int} {cKey : ByteArray} {cValue : ByteArray} {cOld : ByteArray} {H : Hp} {Q : Value → Hp → Prop} (h : cmds_May.vc J0 cOp cClient cSeq cKey cValue cOld H Q) : SCalls Try.prog cmds_May.id [.agg #[.int .i64 cOp, .int .i64 cClient, .int .i64 cSeq, .string cKey, .string cValue, .string cOld]] H Q := vFn_of Try.mixed Try.func30 (cmds_May.eq J0 cOp cClient cSeq cKey cValue cOld H Q) h

end Go.Proofs
