/- THE SEAT'S CODE, AS WALKED, text 2 of 2: for each function what is to be shown of it (printed by the own program gen.py), held by the kernel. -/
import Derived.Test.YtpdondaekinmdaaT09a
set_option maxRecDepth 100000
set_option linter.all false
set_option linter.constructorNameAsVariable false
namespace Go.Proofs
open Go Go.KC
/-! 53: (*tephra/sorted.Map_string, string_).Put -/
noncomputable def sorted_Map_string_string_Put.cf : Cfg := ⟨[], [], [], [], true, []⟩
noncomputable def sorted_Map_string_string_Put.vc (J : Jn) (m : Addr) (k : ByteArray) (v : ByteArray) (H : Hp) (Q : Value → Hp → Prop) : Prop :=
 
 SCalls Try.prog sorted_Map_string_string_find.id [.pointer (some m), .string k] H (fun r H1 => ∃ x : Int, ∃ x1 : Bool, r = .tuple #[.int .i64 x, .bool x1] ∧ 
 Br x1 (∃ items : Sl, Hp.cell? H1 m = some (.slice items.a items.len items.cap) ∧ ((0 : Int) ≤ x ∧ x < ((items.len : Nat) : Int)) ∧ vPtr items.a (fun a => WrAt H1 ((a.add ((x : Int).toNat * 2)).add 1) 1 ∧ Q (.bool false) (Hp.setCell H1 ((a.add ((x : Int).toNat * 2)).add 1) (.string v))))
 (∃ items1 : Sl, Hp.cell? H1 m = some (.slice items1.a items1.len items1.cap) ∧ 
 SCalls Try.prog slices_Insert_sl_sorted_item_string_string_sorted_item_string_string.id [.slice items1.a items1.len items1.cap, .int .i64 x, .slice (some (Addr.mk (Array.size H1) 0 none)) 1 1] (Array.push H1 (.cells #[.string k, .string v] T_sorted_item_string_string)) (fun r1 H2 => ∃ x2 : Sl, r1 = .slice x2.a x2.len x2.cap ∧ WrAt H2 m 1 ∧ Q (.bool true) (Hp.setCell H2 m (.slice x2.a x2.len x2.cap)))))
theorem sorted_Map_string_string_Put.eq (J : Jn) (m : Addr) (k : ByteArray) (v : ByteArray) (H : Hp) (Q : Value → Hp → Prop) : vFn Try.prog sorted_Map_string_string_Put.cf J sorted_Map_string_string_Put.fn [.pointer (some m), .string k, .string v] H Q = sorted_Map_string_string_Put.vc J m k v H Q := by kernel_rfl
theorem sorted_Map_string_string_Put.calls {m : Addr} {k : ByteArray} {v : ByteArray} {H : Hp} {Q : Value → Hp → Prop} (h : sorted_Map_string_string_Put.vc J0 m k v H Q) : SCalls Try.prog sorted_Map_string_string_Put.id [.pointer (some m), .string k, .string v] H Q := vFn_of Try.mixed Try.func53 (sorted_Map_string_string_Put.eq J0 m k v H Q) h

/-! 54: tephra/sorted.Merge_string,string_ -/
noncomputable def sorted_Merge_string_string.cf : Cfg := ⟨[1000003], [], [], [], true, []⟩
noncomputable def sorted_Merge_string_string.vc (J : Jn) (a : Fv) (b : Fv) (H : Hp) (Q : Value → Hp → Prop) : Prop :=
 ∀ b1 : Nat, b1 = Array.size H → ∀ H1 : Hp, H1 = (Array.push H (.cells #[.func a.fn a.fi a.ca] T_iter_Seq2_string_string)) → ∀ b2 : Nat, b2 = Array.size H1 → ∀ H2 : Hp, H2 = (Array.push H1 (.cells #[.func b.fn b.fi b.ca] T_iter_Seq2_string_string)) → Q (.func (.func 69) #[] #[.pointer (some (Addr.mk b2 0 none)), .pointer (some (Addr.mk b1 0 none))]) H2
theorem sorted_Merge_string_string.eq (J : Jn) (a : Fv) (b : Fv) (H : Hp) (Q : Value → Hp → Prop) : vFn Try.prog sorted_Merge_string_string.cf J sorted_Merge_string_string.fn [.func a.fn a.fi a.ca, .func b.fn b.fi b.ca] H Q = sorted_Merge_string_string.vc J a b H Q := by kernel_rfl
theorem sorted_Merge_string_string.calls {a : Fv} {b : Fv} {H : Hp} {Q : Value → Hp → Prop} (h : sorted_Merge_string_string.vc J0 a b H Q) : SCalls Try.prog sorted_Merge_string_string.id [.func a.fn a.fi a.ca, .func b.fn b.fi b.ca] H Q := vFn_of Try.mixed Try.func54 (sorted_Merge_string_string.eq J0 a b H Q) h

/-! 55: (*tephra/sorted.Map_string, string_).All -/
noncomputable def sorted_Map_string_string_All.cf : Cfg := ⟨[], [], [], [], true, []⟩
noncomputable def sorted_Map_string_string_All.vc (J : Jn) (m : Addr) (H : Hp) (Q : Value → Hp → Prop) : Prop :=
 Q (.func (.func 70) #[] #[.pointer (some (Addr.mk (Array.size H) 0 none))]) (Array.push H (.cells #[.pointer (some m)] T_p_sorted_Map_string_string))
theorem sorted_Map_string_string_All.eq (J : Jn) (m : Addr) (H : Hp) (Q : Value → Hp → Prop) : vFn Try.prog sorted_Map_string_string_All.cf J sorted_Map_string_string_All.fn [.pointer (some m)] H Q = sorted_Map_string_string_All.vc J m H Q := by kernel_rfl
theorem sorted_Map_string_string_All.calls {m : Addr} {H : Hp} {Q : Value → Hp → Prop} (h : sorted_Map_string_string_All.vc J0 m H Q) : SCalls Try.prog sorted_Map_string_string_All.id [.pointer (some m)] H Q := vFn_of Try.mixed Try.func55 (sorted_Map_string_string_All.eq J0 m H Q) h

/-! 56: (*tephra/sorted.Map_string, string_).Get -/
noncomputable def sorted_Map_string_string_Get.cf : Cfg := ⟨[], [], [], [], true, []⟩
noncomputable def sorted_Map_string_string_Get.vc (J : Jn) (m : Addr) (k : ByteArray) (H : Hp) (Q : Value → Hp → Prop) : Prop :=
 
 SCalls Try.prog sorted_Map_string_string_find.id [.pointer (some m), .string k] H (fun r H1 => ∃ x : Int, ∃ x1 : Bool, r = .tuple #[.int .i64 x, .bool x1] ∧ 
 Br x1 (∃ items : Sl, Hp.cell? H1 m = some (.slice items.a items.len items.cap) ∧ ((0 : Int) ≤ x ∧ x < ((items.len : Nat) : Int)) ∧ vPtr items.a (fun a => ∃ value : ByteArray, Hp.cell? H1 ((a.add ((x : Int).toNat * 2)).add 1) = some (.string value) ∧ Q (.tuple #[.string value, .bool true]) H1))
 (Q (.tuple #[.string (ByteArray.mk #[]), .bool false]) H1))
theorem sorted_Map_string_string_Get.eq (J : Jn) (m : Addr) (k : ByteArray) (H : Hp) (Q : Value → Hp → Prop) : vFn Try.prog sorted_Map_string_string_Get.cf J sorted_Map_string_string_Get.fn [.pointer (some m), .string k] H Q = sorted_Map_string_string_Get.vc J m k H Q := by kernel_rfl
theorem sorted_Map_string_string_Get.calls {m : Addr} {k : ByteArray} {H : Hp} {Q : Value → Hp → Prop} (h : sorted_Map_string_string_Get.vc J0 m k H Q) : SCalls Try.prog sorted_Map_string_string_Get.id [.pointer (some m), .string k] H Q := vFn_of Try.mixed Try.func56 (sorted_Map_string_string_Get.eq J0 m k H Q) h

/-! 64: tephra/state.Apply -/
noncomputable def state_Apply.cf : Cfg := ⟨[3, 4, 5, 7, 10, 12, 1000003], [(1000021, [2])], [(4, [2, 3, 4, 5, 19], true), (6, [2, 3, 4, 5], true), (11, [2, 3, 4, 5, 6, 7, 65], true)], [], true, []⟩
noncomputable def state_Apply.cfr : Cfg := { state_Apply.cf with rf := false }
noncomputable def state_Apply.r1.fr (b : Nat) : List AV := mkFr 112 [(2, .v (.pointer (some (Addr.mk b 0 none))))]
noncomputable def state_Apply.r1.code : Code := sub (bodyOf state_Apply.fn) [1, 1, 1, 1, 1, 1, 1, 1, 1, 1, 1, 0, 1, 0]
noncomputable def state_Apply.r1.rec (fn : FuncId) (tm : Array Value) (d : Nat) (st : LoopState) (pd : Option Code) : Obj := recO fn tm (rgP state_Apply.r1.code) (rgA state_Apply.r1.code) (rgB state_Apply.r1.code) d st pd
noncomputable def state_Apply.k1.st (eIndex : Int) (eTerm : Int) (eCmdOp : Int) (eCmdClient : Int) (eCmdSeq : Int) (eCmdKey : ByteArray) (eCmdValue : ByteArray) (eCmdOld : ByteArray) (b : Nat) (H5 : Hp) (x1 : Bool) : VS := ⟨mkFr 112 [(2, .v (.pointer (some (Addr.mk b 0 none)))), (3, .loc 0 0), (4, .loc 1 0), (5, .loc 2 0), (19, .v (.bool x1))], [(T_api_Entry, [.int .i64 eIndex, .int .i64 eTerm, .int .i64 eCmdOp, .int .i64 eCmdClient, .int .i64 eCmdSeq, .string eCmdKey, .string eCmdValue, .string eCmdOld]), (T_api_State, [.int .i64 0, .int .i64 0, .slice none 0 0, .slice none 0 0]), (T_api_Reply, [.int .i64 0, .string (ByteArray.mk #[])])], H5⟩
noncomputable def state_Apply.k1 (J : Jn) (eIndex : Int) (eTerm : Int) (eCmdOp : Int) (eCmdClient : Int) (eCmdSeq : Int) (eCmdKey : ByteArray) (eCmdValue : ByteArray) (eCmdOld : ByteArray) (b : Nat) (H5 : Hp) (x1 : Bool) (Q : Value → Hp → Prop) : Prop := J (vSeg Try.prog state_Apply.cf J state_Apply.fn [1, 0, 0, 1, 1, 1] [0, 3, 3, 3] Q) (state_Apply.k1.st eIndex eTerm eCmdOp eCmdClient eCmdSeq eCmdKey eCmdValue eCmdOld b H5 x1)
noncomputable def state_Apply.k2.st (eIndex : Int) (eTerm : Int) (eCmdOp : Int) (eCmdClient : Int) (eCmdSeq : Int) (eCmdKey : ByteArray) (eCmdValue : ByteArray) (eCmdOld : ByteArray) (b : Nat) (H10 : Hp) : VS := ⟨mkFr 112 [(2, .v (.pointer (some (Addr.mk b 0 none)))), (3, .loc 0 0), (4, .loc 1 0), (5, .loc 2 0)], [(T_api_Entry, [.int .i64 eIndex, .int .i64 eTerm, .int .i64 eCmdOp, .int .i64 eCmdClient, .int .i64 eCmdSeq, .string eCmdKey, .string eCmdValue, .string eCmdOld]), (T_api_State, [.int .i64 0, .int .i64 0, .slice none 0 0, .slice none 0 0]), (T_api_Reply, [.int .i64 0, .string (ByteArray.mk #[])])], H10⟩
noncomputable def state_Apply.k2 (J : Jn) (eIndex : Int) (eTerm : Int) (eCmdOp : Int) (eCmdClient : Int) (eCmdSeq : Int) (eCmdKey : ByteArray) (eCmdValue : ByteArray) (eCmdOld : ByteArray) (b : Nat) (H10 : Hp) (Q : Value → Hp → Prop) : Prop := J (vSeg Try.prog state_Apply.cf J state_Apply.fn [1, 1, 1] [0, 3, 3] Q) (state_Apply.k2.st eIndex eTerm eCmdOp eCmdClient eCmdSeq eCmdKey eCmdValue eCmdOld b H10)
noncomputable def state_Apply.k3.st (eIndex : Int) (eTerm : Int) (eCmdOp : Int) (eCmdClient : Int) (eCmdSeq : Int) (eCmdKey : ByteArray) (eCmdValue : ByteArray) (eCmdOld : ByteArray) (b : Nat) (x2 : Option Addr) (Client : Int) (Seq : Int) (ReplyErr : Int) (ReplyValue : ByteArray) (H13 : Hp) (x4 : Bool) : VS := ⟨mkFr 112 [(2, .v (.pointer (some (Addr.mk b 0 none)))), (3, .loc 0 0), (4, .loc 1 0), (5, .loc 2 0), (6, .v (.pointer x2)), (7, .loc 3 0), (65, .v (.bool x4))], [(T_api_Entry, [.int .i64 eIndex, .int .i64 eTerm, .int .i64 eCmdOp, .int .i64 eCmdClient, .int .i64 eCmdSeq, .string eCmdKey, .string eCmdValue, .string eCmdOld]), (T_api_State, [.int .i64 0, .int .i64 0, .slice none 0 0, .slice none 0 0]), (T_api_Reply, [.int .i64 0, .string (ByteArray.mk #[])]), (T_api_Session, [.int .i64 Client, .int .i64 Seq, .int .i64 ReplyErr, .string ReplyValue])], H13⟩
noncomputable def state_Apply.k3 (J : Jn) (eIndex : Int) (eTerm : Int) (eCmdOp : Int) (eCmdClient : Int) (eCmdSeq : Int) (eCmdKey : ByteArray) (eCmdValue : ByteArray) (eCmdOld : ByteArray) (b : Nat) (x2 : Option Addr) (Client : Int) (Seq : Int) (ReplyErr : Int) (ReplyValue : ByteArray) (H13 : Hp) (x4 : Bool) (Q : Value → Hp → Prop) : Prop := J (vSeg Try.prog state_Apply.cf J state_Apply.fn [1, 1, 1, 1, 1, 0, 1, 1] [0, 3, 3, 3, 3, 3, 3, 4] Q) (state_Apply.k3.st eIndex eTerm eCmdOp eCmdClient eCmdSeq eCmdKey eCmdValue eCmdOld b x2 Client Seq ReplyErr ReplyValue H13 x4)
attribute [irreducible] state_Apply.k1 state_Apply.k2 state_Apply.k3
noncomputable def state_Apply.k1.body (J : Jn) (eIndex : Int) (eTerm : Int) (eCmdOp : Int) (eCmdClient : Int) (eCmdSeq : Int) (eCmdKey : ByteArray) (eCmdValue : ByteArray) (eCmdOld : ByteArray) (b : Nat) (H5 : Hp) (x1 : Bool) (Q : Value → Hp → Prop) : Prop :=
 
 Br x1 (∃ Index2 : Int, ∃ Term2 : Int, ∃ Pairs1 : Sl, ∃ Sessions1 : Sl, RowAt H5 (Addr.mk b 0 none) [.int .i64 Index2, .int .i64 Term2, .slice Pairs1.a Pairs1.len Pairs1.cap, .slice Sessions1.a Sessions1.len Sessions1.cap] ∧ Q (.tuple #[.agg #[.int .i64 Index2, .int .i64 Term2, .slice Pairs1.a Pairs1.len Pairs1.cap, .slice Sessions1.a Sessions1.len Sessions1.cap], .agg #[.int .i64 8, .string (ByteArray.mk #[])]]) H5)
 (
  (WrAt H5 (Addr.mk b 0 none) 1 ∧ ∀ H6 : Hp, H6 = (Hp.setCell H5 (Addr.mk b 0 none) (.int .i64 eIndex)) → WrAt H6 ((Addr.mk b 0 none).add 1) 1 ∧ ∀ H7 : Hp, H7 = (Hp.setCell H6 ((Addr.mk b 0 none).add 1) (.int .i64 eTerm)) → 
 state_Apply.k2 J eIndex eTerm eCmdOp eCmdClient eCmdSeq eCmdKey eCmdValue eCmdOld b H7 Q) ∧ 
  (WrAt H5 (Addr.mk b 0 none) 1 ∧ ∀ H8 : Hp, H8 = (Hp.setCell H5 (Addr.mk b 0 none) (.int .i64 eIndex)) → WrAt H8 ((Addr.mk b 0 none).add 1) 1 ∧ ∀ H9 : Hp, H9 = (Hp.setCell H8 ((Addr.mk b 0 none).add 1) (.int .i64 eTerm)) → 
 state_Apply.k2 J eIndex eTerm eCmdOp eCmdClient eCmdSeq eCmdKey eCmdValue eCmdOld b H9 Q))
theorem state_Apply.k1.eq (J : Jn) (eIndex : Int) (eTerm : Int) (eCmdOp : Int) (eCmdClient : Int) (eCmdSeq : Int) (eCmdKey : ByteArray) (eCmdValue : ByteArray) (eCmdOld : ByteArray) (b : Nat) (H5 : Hp) (x1 : Bool) (Q : Value → Hp → Prop) : vSeg Try.prog state_Apply.cf J state_Apply.fn [1, 0, 0, 1, 1, 1] [0, 3, 3, 3] Q (state_Apply.k1.st eIndex eTerm eCmdOp eCmdClient eCmdSeq eCmdKey eCmdValue eCmdOld b H5 x1) = state_Apply.k1.body J eIndex eTerm eCmdOp eCmdClient eCmdSeq eCmdKey eCmdValue eCmdOld b H5 x1 Q := by kernel_rfl
theorem state_Apply.k1.step {eIndex : Int} {eTerm : Int} {eCmdOp : Int} {eCmdClient : Int} {eCmdSeq : Int} {eCmdKey : ByteArray} {eCmdValue : ByteArray} {eCmdOld : ByteArray} {b : Nat} {H5 : Hp} {x1 : Bool} {Q : Value → Hp → Prop} (h : state_Apply.k1.body J0 eIndex eTerm eCmdOp eCmdClient eCmdSeq eCmdKey eCmdValue eCmdOld b H5 x1 Q) : state_Apply.k1 J0 eIndex eTerm eCmdOp eCmdClient eCmdSeq eCmdKey eCmdValue eCmdOld b H5 x1 Q := step_of (vSeg Try.prog state_Apply.cf J0 state_Apply.fn [1, 0, 0, 1, 1, 1] [0, 3, 3, 3] Q) (state_Apply.k1.st eIndex eTerm eCmdOp eCmdClient eCmdSeq eCmdKey eCmdValue eCmdOld b H5 x1) (state_Apply.k1.eq J0 eIndex eTerm eCmdOp eCmdClient eCmdSeq eCmdKey eCmdValue eCmdOld b H5 x1 Q) (by kernel_rfl) h
noncomputable def state_Apply.k2.body (J : Jn) (eIndex : Int) (eTerm : Int) (eCmdOp : Int) (eCmdClient : Int) (eCmdSeq : Int) (eCmdKey : ByteArray) (eCmdValue : ByteArray) (eCmdOld : ByteArray) (b : Nat) (H10 : Hp) (Q : Value → Hp → Prop) : Prop :=
 
 Br (eCmdOp == 0) (∃ Index3 : Int, ∃ Term3 : Int, ∃ Pairs2 : Sl, ∃ Sessions2 : Sl, RowAt H10 (Addr.mk b 0 none) [.int .i64 Index3, .int .i64 Term3, .slice Pairs2.a Pairs2.len Pairs2.cap, .slice Sessions2.a Sessions2.len Sessions2.cap] ∧ Q (.tuple #[.agg #[.int .i64 Index3, .int .i64 Term3, .slice Pairs2.a Pairs2.len Pairs2.cap, .slice Sessions2.a Sessions2.len Sessions2.cap], .agg #[.int .i64 0, .string (ByteArray.mk #[])]]) H10)
 (∃ Index4 : Int, ∃ Term4 : Int, ∃ Pairs3 : Sl, ∃ Sessions3 : Sl, RowAt H10 (Addr.mk b 0 none) [.int .i64 Index4, .int .i64 Term4, .slice Pairs3.a Pairs3.len Pairs3.cap, .slice Sessions3.a Sessions3.len Sessions3.cap] ∧ 
 SCalls Try.prog state_sessions.id [.agg #[.int .i64 Index4, .int .i64 Term4, .slice Pairs3.a Pairs3.len Pairs3.cap, .slice Sessions3.a Sessions3.len Sessions3.cap]] H10 (fun r1 H11 => ∃ x2 : Option Addr, r1 = .pointer x2 ∧ 
 SCalls Try.prog sorted_Map_int_api_Session_Get.id [.pointer x2, .int .i64 eCmdClient] H11 (fun r2 H12 => ∃ Client : Int, ∃ Seq : Int, ∃ ReplyErr : Int, ∃ ReplyValue : ByteArray, ∃ x3 : Bool, r2 = .tuple #[.agg #[.int .i64 Client, .int .i64 Seq, .int .i64 ReplyErr, .string ReplyValue], .bool x3] ∧ ∀ H13 : Hp, H13 = (holes H12 1) → 
 Br x3 (
 state_Apply.k3 J eIndex eTerm eCmdOp eCmdClient eCmdSeq eCmdKey eCmdValue eCmdOld b x2 Client Seq ReplyErr ReplyValue H13 (decide (Seq ≥ eCmdSeq)) Q)
 (
 state_Apply.k3 J eIndex eTerm eCmdOp eCmdClient eCmdSeq eCmdKey eCmdValue eCmdOld b x2 Client Seq ReplyErr ReplyValue H13 false Q))))
theorem state_Apply.k2.eq (J : Jn) (eIndex : Int) (eTerm : Int) (eCmdOp : Int) (eCmdClient : Int) (eCmdSeq : Int) (eCmdKey : ByteArray) (eCmdValue : ByteArray) (eCmdOld : ByteArray) (b : Nat) (H10 : Hp) (Q : Value → Hp → Prop) : vSeg Try.prog state_Apply.cf J state_Apply.fn [1, 1, 1] [0, 3, 3] Q (state_Apply.k2.st eIndex eTerm eCmdOp eCmdClient eCmdSeq eCmdKey eCmdValue eCmdOld b H10) = state_Apply.k2.body J eIndex eTerm eCmdOp eCmdClient eCmdSeq eCmdKey eCmdValue eCmdOld b H10 Q := by kernel_rfl
theorem state_Apply.k2.step {eIndex : Int} {eTerm : Int} {eCmdOp : Int} {eCmdClient : Int} {eCmdSeq : Int} {eCmdKey : ByteArray} {eCmdValue : ByteArray} {eCmdOld : ByteArray} {b : Nat} {H10 : Hp} {Q : Value → Hp → Prop} (h : state_Apply.k2.body J0 eIndex eTerm eCmdOp eCmdClient eCmdSeq eCmdKey eCmdValue eCmdOld b H10 Q) : state_Apply.k2 J0 eIndex eTerm eCmdOp eCmdClient eCmdSeq eCmdKey eCmdValue eCmdOld b H10 Q := step_of (vSeg Try.prog state_Apply.cf J0 state_Apply.fn [1, 1, 1] [0, 3, 3] Q) (state_Apply.k2.st eIndex eTerm eCmdOp eCmdClient eCmdSeq eCmdKey eCmdValue eCmdOld b H10) (state_Apply.k2.eq J0 eIndex eTerm eCmdOp eCmdClient eCmdSeq eCmdKey eCmdValue eCmdOld b H10 Q) (by kernel_rfl) h
noncomputable def state_Apply.k3.body (J : Jn) (eIndex : Int) (eTerm : Int) (eCmdOp : Int) (eCmdClient : Int) (eCmdSeq : Int) (eCmdKey : ByteArray) (eCmdValue : ByteArray) (eCmdOld : ByteArray) (b : Nat) (x2 : Option Addr) (Client : Int) (Seq : Int) (ReplyErr : Int) (ReplyValue : ByteArray) (H13 : Hp) (x4 : Bool) (Q : Value → Hp → Prop) : Prop :=
 
 Br x4 (
 Br (Seq == eCmdSeq) (∃ Index5 : Int, ∃ Term5 : Int, ∃ Pairs4 : Sl, ∃ Sessions4 : Sl, RowAt H13 (Addr.mk b 0 none) [.int .i64 Index5, .int .i64 Term5, .slice Pairs4.a Pairs4.len Pairs4.cap, .slice Sessions4.a Sessions4.len Sessions4.cap] ∧ 
  (Q (.tuple #[.agg #[.int .i64 Index5, .int .i64 Term5, .slice Pairs4.a Pairs4.len Pairs4.cap, .slice Sessions4.a Sessions4.len Sessions4.cap], .agg #[.int .i64 ReplyErr, .string ReplyValue]]) H13) ∧ 
  (Q (.tuple #[.agg #[.int .i64 Index5, .int .i64 Term5, .slice Pairs4.a Pairs4.len Pairs4.cap, .slice Sessions4.a Sessions4.len Sessions4.cap], .agg #[.int .i64 ReplyErr, .string ReplyValue]]) H13))
 (∃ Index6 : Int, ∃ Term6 : Int, ∃ Pairs5 : Sl, ∃ Sessions5 : Sl, RowAt H13 (Addr.mk b 0 none) [.int .i64 Index6, .int .i64 Term6, .slice Pairs5.a Pairs5.len Pairs5.cap, .slice Sessions5.a Sessions5.len Sessions5.cap] ∧ Q (.tuple #[.agg #[.int .i64 Index6, .int .i64 Term6, .slice Pairs5.a Pairs5.len Pairs5.cap, .slice Sessions5.a Sessions5.len Sessions5.cap], .agg #[.int .i64 12, .string (ByteArray.mk #[])]]) H13))
 (∃ Index7 : Int, ∃ Term7 : Int, ∃ Pairs6 : Sl, ∃ Sessions6 : Sl, RowAt H13 (Addr.mk b 0 none) [.int .i64 Index7, .int .i64 Term7, .slice Pairs6.a Pairs6.len Pairs6.cap, .slice Sessions6.a Sessions6.len Sessions6.cap] ∧ 
 SCalls Try.prog state_pairs.id [.agg #[.int .i64 Index7, .int .i64 Term7, .slice Pairs6.a Pairs6.len Pairs6.cap, .slice Sessions6.a Sessions6.len Sessions6.cap]] H13 (fun r3 H14 => ∃ x5 : Option Addr, r3 = .pointer x5 ∧ 
 SCalls Try.prog state_do.id [.pointer x5, .agg #[.int .i64 eCmdOp, .int .i64 eCmdClient, .int .i64 eCmdSeq, .string eCmdKey, .string eCmdValue, .string eCmdOld]] H14 (fun r4 H15 => ∃ Err : Int, ∃ Valuev : ByteArray, r4 = .agg #[.int .i64 Err, .string Valuev] ∧ ∀ H16 : Hp, H16 = (holes H15 1) → 
 SCalls Try.prog state_rows.id [.pointer x5] H16 (fun r5 H17 => ∃ x6 : Sl, r5 = .slice x6.a x6.len x6.cap ∧ WrAt H17 ((Addr.mk b 0 none).add 2) 1 ∧ ∀ H18 : Hp, H18 = (Hp.setCell H17 ((Addr.mk b 0 none).add 2) (.slice x6.a x6.len x6.cap)) → 
 SCalls Try.prog sorted_Map_int_api_Session_Put.id [.pointer x2, .int .i64 eCmdClient, .agg #[.int .i64 eCmdClient, .int .i64 eCmdSeq, .int .i64 Err, .string Valuev]] H18 (fun r6 H19 => ∃ x7 : Bool, r6 = .bool x7 ∧ WrAt H19 ((Addr.mk b 0 none).add 3) 1 ∧ ∀ H20 : Hp, H20 = (Hp.setCell H19 ((Addr.mk b 0 none).add 3) (.slice none 0 0)) → 
 SCalls Try.prog sorted_Map_int_api_Session_All.id [.pointer x2] H20 (fun r7 H21 => ∃ x8 : Fv, r7 = .func x8.fn x8.fi x8.ca ∧ 
 ∀ fn : FuncId, ∀ tm : Array Value, TmOf (state_Apply.r1.fr b) tm → vRg Try.prog (.func x8.fn x8.fi x8.ca) (Array.size H21 + 1) (Array.push (Array.push H21 hole) (state_Apply.r1.rec fn tm (Array.size H21) .ready none)) (fun H28 => ∃ st : LoopState, ∃ pd : Option Code, H28[(Array.size H21 + 1)]? = some (state_Apply.r1.rec fn tm (Array.size H21) st pd) ∧ st ≠ .busy ∧ ∀ H29 : Hp, H29 = (Array.setIfInBounds H28 (Array.size H21 + 1) (state_Apply.r1.rec fn tm (Array.size H21) .exhausted pd)) → ((pd = none → ∃ Index8 : Int, ∃ Term8 : Int, ∃ Pairs7 : Sl, ∃ Sessions8 : Sl, RowAt H29 (Addr.mk b 0 none) [.int .i64 Index8, .int .i64 Term8, .slice Pairs7.a Pairs7.len Pairs7.cap, .slice Sessions8.a Sessions8.len Sessions8.cap] ∧ 
  (Q (.tuple #[.agg #[.int .i64 Index8, .int .i64 Term8, .slice Pairs7.a Pairs7.len Pairs7.cap, .slice Sessions8.a Sessions8.len Sessions8.cap], .agg #[.int .i64 Err, .string Valuev]]) H29) ∧ 
  (Q (.tuple #[.agg #[.int .i64 Index8, .int .i64 Term8, .slice Pairs7.a Pairs7.len Pairs7.cap, .slice Sessions8.a Sessions8.len Sessions8.cap], .agg #[.int .i64 Err, .string Valuev]]) H29)) ∧ (pd = some .ret → Q (.tuple #[.agg #[.int .i64 0, .int .i64 0, .slice none 0 0, .slice none 0 0], .agg #[.int .i64 0, .string (ByteArray.mk #[])]]) H29) ∧ (True) ∧ (pd = none ∨ pd = some .ret ∨ ∃ i ∈ ([] : List Nat), pd = some (.exit i))))))))))
theorem state_Apply.k3.eq (J : Jn) (eIndex : Int) (eTerm : Int) (eCmdOp : Int) (eCmdClient : Int) (eCmdSeq : Int) (eCmdKey : ByteArray) (eCmdValue : ByteArray) (eCmdOld : ByteArray) (b : Nat) (x2 : Option Addr) (Client : Int) (Seq : Int) (ReplyErr : Int) (ReplyValue : ByteArray) (H13 : Hp) (x4 : Bool) (Q : Value → Hp → Prop) : vSeg Try.prog state_Apply.cf J state_Apply.fn [1, 1, 1, 1, 1, 0, 1, 1] [0, 3, 3, 3, 3, 3, 3, 4] Q (state_Apply.k3.st eIndex eTerm eCmdOp eCmdClient eCmdSeq eCmdKey eCmdValue eCmdOld b x2 Client Seq ReplyErr ReplyValue H13 x4) = state_Apply.k3.body J eIndex eTerm eCmdOp eCmdClient eCmdSeq eCmdKey eCmdValue eCmdOld b x2 Client Seq ReplyErr ReplyValue H13 x4 Q := by kernel_rfl
theorem state_Apply.k3.step {eIndex : Int} {eTerm : Int} {eCmdOp : Int} {eCmdClient : Int} {eCmdSeq : Int} {eCmdKey : ByteArray} {eCmdValue : ByteArray} {eCmdOld : ByteArray} {b : Nat} {x2 : Option Addr} {Client : Int} {Seq : Int} {ReplyErr : Int} {ReplyValue : ByteArray} {H13 : Hp} {x4 : Bool} {Q : Value → Hp → Prop} (h : state_Apply.k3.body J0 eIndex eTerm eCmdOp eCmdClient eCmdSeq eCmdKey eCmdValue eCmdOld b x2 Client Seq ReplyErr ReplyValue H13 x4 Q) : state_Apply.k3 J0 eIndex eTerm eCmdOp eCmdClient eCmdSeq eCmdKey eCmdValue eCmdOld b x2 Client Seq ReplyErr ReplyValue H13 x4 Q := step_of (vSeg Try.prog state_Apply.cf J0 state_Apply.fn [1, 1, 1, 1, 1, 0, 1, 1] [0, 3, 3, 3, 3, 3, 3, 4] Q) (state_Apply.k3.st eIndex eTerm eCmdOp eCmdClient eCmdSeq eCmdKey eCmdValue eCmdOld b x2 Client Seq ReplyErr ReplyValue H13 x4) (state_Apply.k3.eq J0 eIndex eTerm eCmdOp eCmdClient eCmdSeq eCmdKey eCmdValue eCmdOld b x2 Client Seq ReplyErr ReplyValue H13 x4 Q) (by kernel_rfl) h
noncomputable def state_Apply.r1.body (J : Jn) (b : Nat) (l : Nat) (rc : LoopState → Option Code → Obj) (k : Int) (vClient : Int) (vSeq : Int) (vReplyErr : Int) (vReplyValue : ByteArray) (H22 : Hp) (Q : Value → Hp → Prop) : Prop :=
 ∀ H23 : Hp, H23 = (holes H22 1) → H23[l]? = some (rc .ready none) ∧ ∀ H24 : Hp, H24 = (Array.setIfInBounds H23 l (rc .busy none)) → ∃ Sessions7 : Sl, Hp.cell? H24 ((Addr.mk b 0 none).add 3) = some (.slice Sessions7.a Sessions7.len Sessions7.cap) ∧ ∀ b1 : Nat, b1 = Array.size H24 → ∀ H25 : Hp, H25 = (Array.push H24 (.cells #[.int .i64 vClient, .int .i64 vSeq, .int .i64 vReplyErr, .string vReplyValue] T_api_Session)) → 
 vApp Try.prog T_sl_api_Session Sessions7.a Sessions7.len Sessions7.cap (.slice (some (Addr.mk b1 0 none)) 1 1) H25 (fun ap H26 => WrAt H26 ((Addr.mk b 0 none).add 3) 1 ∧ ∀ H27 : Hp, H27 = (Hp.setCell H26 ((Addr.mk b 0 none).add 3) (.slice ap.a ap.len ap.cap)) → 
 ((∃ st : LoopState, ∃ pd : Option Code, H27[l]? = some (rc st pd)) ∧ Q (.bool true) (Array.setIfInBounds H27 l (rc .ready none))))
theorem state_Apply.r1.eq (J : Jn) (b : Nat) (l : Nat) (rc : LoopState → Option Code → Obj) (k : Int) (vClient : Int) (vSeq : Int) (vReplyErr : Int) (vReplyValue : ByteArray) (H22 : Hp) (Q : Value → Hp → Prop) : vRound Try.prog state_Apply.cfr J (rgA state_Apply.r1.code) (rgB state_Apply.r1.code) (setFr (state_Apply.r1.fr b) (rgP state_Apply.r1.code).toList [.int .i64 k, .agg #[.int .i64 vClient, .int .i64 vSeq, .int .i64 vReplyErr, .string vReplyValue]]) l rc H22 Q = state_Apply.r1.body J b l rc k vClient vSeq vReplyErr vReplyValue H22 Q := by kernel_rfl
theorem state_Apply.r1.calls {b : Nat} {l : Nat} {k : Int} {vClient : Int} {vSeq : Int} {vReplyErr : Int} {vReplyValue : ByteArray} {H22 : Hp} {fnA : FuncId} {tmA : Array Value} {dA : Nat} {Q : Value → Hp → Prop} (hl : H22[l]? = some (state_Apply.r1.rec fnA tmA dA .ready none)) (hT : TmOf (state_Apply.r1.fr b) tmA) (h : state_Apply.r1.body J0 b l (state_Apply.r1.rec fnA tmA dA) k vClient vSeq vReplyErr vReplyValue H22 Q) : YCalls Try.prog l [.int .i64 k, .agg #[.int .i64 vClient, .int .i64 vSeq, .int .i64 vReplyErr, .string vReplyValue]] H22 Q := vRound_calls (cf := state_Apply.cfr) (fn := fnA) (tm := tmA) (ps := rgP state_Apply.r1.code) (asg := rgA state_Apply.r1.code) (body := rgB state_Apply.r1.code) (d := dA) (fr := (state_Apply.r1.fr b)) Try.mixed (by kernel_rfl) hl (by kernel_rfl) hT ((state_Apply.r1.eq J0 b l (state_Apply.r1.rec fnA tmA dA) k vClient vSeq vReplyErr vReplyValue H22 Q).mpr h)
attribute [irreducible] state_Apply.r1.rec state_Apply.r1.fr state_Apply.r1.code
noncomputable def state_Apply.vc (J : Jn) (sIndex : Int) (sTerm : Int) (sPairs : Sl) (sSessions : Sl) (eIndex : Int) (eTerm : Int) (eCmdOp : Int) (eCmdClient : Int) (eCmdSeq : Int) (eCmdKey : ByteArray) (eCmdValue : ByteArray) (eCmdOld : ByteArray) (H : Hp) (Q : Value → Hp → Prop) : Prop :=
 ∀ b : Nat, b = Array.size H → ∀ H1 : Hp, H1 = (Array.push H (.cells #[.int .i64 sIndex, .int .i64 sTerm, .slice sPairs.a sPairs.len sPairs.cap, .slice sSessions.a sSessions.len sSessions.cap] T_api_State)) → ∀ H2 : Hp, H2 = (holes H1 1) → ∀ H3 : Hp, H3 = (holes H2 1) → ∀ H4 : Hp, H4 = (holes H3 1) → 
 SCalls Try.prog cmds_Right.id [.agg #[.int .i64 eIndex, .int .i64 eTerm, .int .i64 eCmdOp, .int .i64 eCmdClient, .int .i64 eCmdSeq, .string eCmdKey, .string eCmdValue, .string eCmdOld]] H4 (fun r H5 => ∃ x : Bool, r = .bool x ∧ 
 Br (!x) (∃ Index : Int, ∃ Term : Int, ∃ Pairs : Sl, ∃ Sessions : Sl, RowAt H5 (Addr.mk b 0 none) [.int .i64 Index, .int .i64 Term, .slice Pairs.a Pairs.len Pairs.cap, .slice Sessions.a Sessions.len Sessions.cap] ∧ Q (.tuple #[.agg #[.int .i64 Index, .int .i64 Term, .slice Pairs.a Pairs.len Pairs.cap, .slice Sessions.a Sessions.len Sessions.cap], .agg #[.int .i64 14, .string (ByteArray.mk #[])]]) H5)
 (∃ Index1 : Int, Hp.cell? H5 (Addr.mk b 0 none) = some (.int .i64 Index1) ∧ 
 Br (eIndex != (w64 (Index1 + 1))) (
 state_Apply.k1 J eIndex eTerm eCmdOp eCmdClient eCmdSeq eCmdKey eCmdValue eCmdOld b H5 true Q)
 (∃ Term1 : Int, Hp.cell? H5 ((Addr.mk b 0 none).add 1) = some (.int .i64 Term1) ∧ 
 state_Apply.k1 J eIndex eTerm eCmdOp eCmdClient eCmdSeq eCmdKey eCmdValue eCmdOld b H5 (decide (eTerm < Term1)) Q)))
theorem state_Apply.eq (J : Jn) (sIndex : Int) (sTerm : Int) (sPairs : Sl) (sSessions : Sl) (eIndex : Int) (eTerm : Int) (eCmdOp : Int) (eCmdClient : Int) (eCmdSeq : Int) (eCmdKey : ByteArray) (eCmdValue : ByteArray) (eCmdOld : ByteArray) (H : Hp) (Q : Value → Hp → Prop) : vFn Try.prog state_Apply.cf J state_Apply.fn [.agg #[.int .i64 sIndex, .int .i64 sTerm, .slice sPairs.a sPairs.len sPairs.cap, .slice sSessions.a sSessions.len sSessions.cap], .agg #[.int .i64 eIndex, .int .i64 eTerm, .int .i64 eCmdOp, .int .i64 eCmdClient, .int .i64 eCmdSeq, .string eCmdKey, .string eCmdValue, .string eCmdOld]] H Q = state_Apply.vc J sIndex sTerm sPairs sSessions eIndex eTerm eCmdOp eCmdClient eCmdSeq eCmdKey eCmdValue eCmdOld H Q := by kernel_rfl
theorem state_Apply.calls {sIndex : Int} {sTerm : Int} {sPairs : Sl} {sSessions : Sl} {eIndex : Int} {eTerm : Int} {eCmdOp : Int} {eCmdClient : Int} {eCmdSeq : Int} {eCmdKey : ByteArray} {eCmdValue : ByteArray} {eCmdOld : ByteArray} {H : Hp} {Q : Value → Hp → Prop} (h : state_Apply.vc J0 sIndex sTerm sPairs sSessions eIndex eTerm eCmdOp eCmdClient eCmdSeq eCmdKey eCmdValue eCmdOld H Q) : SCalls Try.prog state_Apply.id [.agg #[.int .i64 sIndex, .int .i64 sTerm, .slice sPairs.a sPairs.len sPairs.cap, .slice sSessions.a sSessions.len sSessions.cap], .agg #[.int .i64 eIndex, .int .i64 eTerm, .int .i64 eCmdOp, .int .i64 eCmdClient, .int .i64 eCmdSeq, .string eCmdKey, .string eCmdValue, .string eCmdOld]] H Q := vFn_of Try.mixed Try.func64 (state_Apply.eq J0 sIndex sTerm sPairs sSessions eIndex eTerm eCmdOp eCmdClient eCmdSeq eCmdKey eCmdValue eCmdOld H Q) h

/-! 67: (*tephra/sorted.Map_string, string_).find -/
noncomputable def sorted_Map_string_string_find.cf : Cfg := ⟨[], [], [], [], true, []⟩
noncomputable def sorted_Map_string_string_find.vc (J : Jn) (m : Addr) (k : ByteArray) (H : Hp) (Q : Value → Hp → Prop) : Prop :=
 ∃ items : Sl, Hp.cell? H m = some (.slice items.a items.len items.cap) ∧ 
 SCalls Try.prog slices_BinarySearchFunc_sl_sorted_item_string_string_sorted_item_string_string_string.id [.slice items.a items.len items.cap, .string k, .func (.func 84) #[] #[]] H (fun r H1 => ∃ x : Int, ∃ x1 : Bool, r = .tuple #[.int .i64 x, .bool x1] ∧ Q (.tuple #[.int .i64 x, .bool x1]) H1)
theorem sorted_Map_string_string_find.eq (J : Jn) (m : Addr) (k : ByteArray) (H : Hp) (Q : Value → Hp → Prop) : vFn Try.prog sorted_Map_string_string_find.cf J sorted_Map_string_string_find.fn [.pointer (some m), .string k] H Q = sorted_Map_string_string_find.vc J m k H Q := by kernel_rfl
theorem sorted_Map_string_string_find.calls {m : Addr} {k : ByteArray} {H : Hp} {Q : Value → Hp → Prop} (h : sorted_Map_string_string_find.vc J0 m k H Q) : SCalls Try.prog sorted_Map_string_string_find.id [.pointer (some m), .string k] H Q := vFn_of Try.mixed Try.func67 (sorted_Map_string_string_find.eq J0 m k H Q) h

/-! 68: slices.Insert___tephra/sorted.item_string, string_,tephra/sorted.item_string, string__ -/
noncomputable def slices_Insert_sl_sorted_item_string_string_sorted_item_string_string.cf : Cfg := ⟨[], [], [], [], true, []⟩
noncomputable def slices_Insert_sl_sorted_item_string_string_sorted_item_string_string.vc (J : Jn) (s : Sl) (i : Int) (v : Sl) (H : Hp) (Q : Value → Hp → Prop) : Prop :=
 ((0 : Int) ≤ i ∧ i ≤ ((s.len : Nat) : Int)) ∧ 
 Br (((v.len : Nat) : Int) == 0) (Q (.slice s.a s.len s.cap) H)
 (
 Br (i == ((s.len : Nat) : Int)) (
 vApp Try.prog T_sl_sorted_item_string_string s.a s.len s.cap (.slice v.a v.len v.cap) H (fun ap H1 => Q (.slice ap.a ap.len ap.cap) H1))
 (
 Br (decide ((w64 (((s.len : Nat) : Int) + ((v.len : Nat) : Int))) > ((s.cap : Nat) : Int))) (((0 : Int) ≤ i ∧ i ≤ ((s.cap : Nat) : Int)) ∧ 
 vAppZ Try.prog T_sl_sorted_item_string_string (cutA s.a s.cap 0 2) ((i : Int).toNat) s.cap (w64 ((w64 (((s.len : Nat) : Int) + ((v.len : Nat) : Int))) - i)) H (fun ap1 H2 => ((0 : Int) ≤ i ∧ i ≤ ((ap1.len : Nat) : Int)) ∧ 
 vCopy Try.prog T_sl_sorted_item_string_string (cutA ap1.a ap1.cap ((i : Int).toNat) 2) (ap1.len - ((i : Int).toNat)) (.slice v.a v.len v.cap) H2 (fun n H3 => ((0 : Int) ≤ (w64 (i + ((v.len : Nat) : Int))) ∧ (w64 (i + ((v.len : Nat) : Int))) ≤ ((ap1.len : Nat) : Int)) ∧ ((0 : Int) ≤ i ∧ i ≤ ((s.len : Nat) : Int)) ∧ 
 vCopy Try.prog T_sl_sorted_item_string_string (cutA ap1.a ap1.cap (((w64 (i + ((v.len : Nat) : Int))) : Int).toNat) 2) (ap1.len - (((w64 (i + ((v.len : Nat) : Int))) : Int).toNat)) (.slice (cutA s.a s.cap ((i : Int).toNat) 2) (s.len - ((i : Int).toNat)) (s.cap - ((i : Int).toNat))) H3 (fun n1 H4 => Q (.slice ap1.a ap1.len ap1.cap) H4))))
 (((0 : Int) ≤ (w64 (((s.len : Nat) : Int) + ((v.len : Nat) : Int))) ∧ (w64 (((s.len : Nat) : Int) + ((v.len : Nat) : Int))) ≤ ((s.cap : Nat) : Int)) ∧ ((0 : Int) ≤ (w64 (i + ((v.len : Nat) : Int))) ∧ (w64 (i + ((v.len : Nat) : Int))) ≤ (((((w64 (((s.len : Nat) : Int) + ((v.len : Nat) : Int))) : Int).toNat) : Nat) : Int)) ∧ 
 ExtC Try.prog 86 [.slice v.a v.len v.cap, .slice (cutA (cutA s.a s.cap 0 2) s.cap (((w64 (i + ((v.len : Nat) : Int))) : Int).toNat) 2) ((((w64 (((s.len : Nat) : Int) + ((v.len : Nat) : Int))) : Int).toNat) - (((w64 (i + ((v.len : Nat) : Int))) : Int).toNat)) (s.cap - (((w64 (i + ((v.len : Nat) : Int))) : Int).toNat))] H (fun r H5 => ∃ x : Bool, r = .bool x ∧ 
 Br (!x) (((0 : Int) ≤ (w64 (i + ((v.len : Nat) : Int))) ∧ (w64 (i + ((v.len : Nat) : Int))) ≤ (((((w64 (((s.len : Nat) : Int) + ((v.len : Nat) : Int))) : Int).toNat) : Nat) : Int)) ∧ ((0 : Int) ≤ i ∧ i ≤ (((((w64 (((s.len : Nat) : Int) + ((v.len : Nat) : Int))) : Int).toNat) : Nat) : Int)) ∧ 
 vCopy Try.prog T_sl_sorted_item_string_string (cutA (cutA s.a s.cap 0 2) s.cap (((w64 (i + ((v.len : Nat) : Int))) : Int).toNat) 2) ((((w64 (((s.len : Nat) : Int) + ((v.len : Nat) : Int))) : Int).toNat) - (((w64 (i + ((v.len : Nat) : Int))) : Int).toNat)) (.slice (cutA (cutA s.a s.cap 0 2) s.cap ((i : Int).toNat) 2) ((((w64 (((s.len : Nat) : Int) + ((v.len : Nat) : Int))) : Int).toNat) - ((i : Int).toNat)) (s.cap - ((i : Int).toNat))) H5 (fun n2 H6 => ((0 : Int) ≤ i ∧ i ≤ (((((w64 (((s.len : Nat) : Int) + ((v.len : Nat) : Int))) : Int).toNat) : Nat) : Int)) ∧ 
 vCopy Try.prog T_sl_sorted_item_string_string (cutA (cutA s.a s.cap 0 2) s.cap ((i : Int).toNat) 2) ((((w64 (((s.len : Nat) : Int) + ((v.len : Nat) : Int))) : Int).toNat) - ((i : Int).toNat)) (.slice v.a v.len v.cap) H6 (fun n3 H7 => Q (.slice (cutA s.a s.cap 0 2) (((w64 (((s.len : Nat) : Int) + ((v.len : Nat) : Int))) : Int).toNat) s.cap) H7)))
 (((0 : Int) ≤ ((s.len : Nat) : Int) ∧ ((s.len : Nat) : Int) ≤ (((((w64 (((s.len : Nat) : Int) + ((v.len : Nat) : Int))) : Int).toNat) : Nat) : Int)) ∧ 
 vCopy Try.prog T_sl_sorted_item_string_string (cutA (cutA s.a s.cap 0 2) s.cap ((((s.len : Nat) : Int) : Int).toNat) 2) ((((w64 (((s.len : Nat) : Int) + ((v.len : Nat) : Int))) : Int).toNat) - ((((s.len : Nat) : Int) : Int).toNat)) (.slice v.a v.len v.cap) H5 (fun n4 H8 => ((0 : Int) ≤ i ∧ i ≤ (((((w64 (((s.len : Nat) : Int) + ((v.len : Nat) : Int))) : Int).toNat) : Nat) : Int)) ∧ 
 SCalls Try.prog slices_rotateRight_sorted_item_string_string.id [.slice (cutA (cutA s.a s.cap 0 2) s.cap ((i : Int).toNat) 2) ((((w64 (((s.len : Nat) : Int) + ((v.len : Nat) : Int))) : Int).toNat) - ((i : Int).toNat)) (s.cap - ((i : Int).toNat)), .int .i64 ((v.len : Nat) : Int)] H8 (fun r1 H9 => r1 = .tuple #[] ∧ Q (.slice (cutA s.a s.cap 0 2) (((w64 (((s.len : Nat) : Int) + ((v.len : Nat) : Int))) : Int).toNat) s.cap) H9)))))))
theorem slices_Insert_sl_sorted_item_string_string_sorted_item_string_string.eq (J : Jn) (s : Sl) (i : Int) (v : Sl) (H : Hp) (Q : Value → Hp → Prop) : vFn Try.prog slices_Insert_sl_sorted_item_string_string_sorted_item_string_string.cf J slices_Insert_sl_sorted_item_string_string_sorted_item_string_string.fn [.slice s.a s.len s.cap, .int .i64 i, .slice v.a v.len v.cap] H Q = slices_Insert_sl_sorted_item_string_string_sorted_item_string_string.vc J s i v H Q := by kernel_rfl
theorem slices_Insert_sl_sorted_item_string_string_sorted_item_string_string.calls {s : Sl} {i : Int} {v : Sl} {H : Hp} {Q : Value → Hp → Prop} (h : slices_Insert_sl_sorted_item_string_string_sorted_item_string_string.vc J0 s i v H Q) : SCalls Try.prog slices_Insert_sl_sorted_item_string_string_sorted_item_string_string.id [.slice s.a s.len s.cap, .int .i64 i, .slice v.a v.len v.cap] H Q := vFn_of Try.mixed Try.func68 (slices_Insert_sl_sorted_item_string_string_sorted_item_string_string.eq J0 s i v H Q) h

/-! 69: tephra/sorted.Merge_string,string_$1 -/
noncomputable def sorted_Merge_string_string_1.cf : Cfg := ⟨[10, 1000003], [(9, [3, 4, 7, 8]), (17, [3, 69, 70, 71]), (1000005, [4]), (1000009, [3, 4])], [(10, [3, 4, 7, 8], true), (11, [3, 4, 7, 8], true), (12, [3, 4, 7, 8], true), (13, [3, 4, 7, 8, 57], true)], [], true, []⟩
noncomputable def sorted_Merge_string_string_1.cfr : Cfg := { sorted_Merge_string_string_1.cf with rf := false }
noncomputable def sorted_Merge_string_string_1.r1.fr (b1 : Nat) : List AV := mkFr 83 [(4, .v (.pointer (some (Addr.mk b1 0 none))))]
noncomputable def sorted_Merge_string_string_1.r1.code : Code := sub (bodyOf sorted_Merge_string_string_1.fn) [1, 1, 0, 1, 0]
noncomputable def sorted_Merge_string_string_1.r1.rec (fn : FuncId) (tm : Array Value) (d : Nat) (st : LoopState) (pd : Option Code) : Obj := recO fn tm (rgP sorted_Merge_string_string_1.r1.code) (rgA sorted_Merge_string_string_1.r1.code) (rgB sorted_Merge_string_string_1.r1.code) d st pd
noncomputable def sorted_Merge_string_string_1.r2.fr (b : Nat) (b1 : Nat) : List AV := mkFr 83 [(3, .v (.pointer (some (Addr.mk b 0 none)))), (4, .v (.pointer (some (Addr.mk b1 0 none))))]
noncomputable def sorted_Merge_string_string_1.r2.code : Code := sub (bodyOf sorted_Merge_string_string_1.fn) [1, 1, 1, 0, 1, 0]
noncomputable def sorted_Merge_string_string_1.r2.rec (fn : FuncId) (tm : Array Value) (d : Nat) (st : LoopState) (pd : Option Code) : Obj := recO fn tm (rgP sorted_Merge_string_string_1.r2.code) (rgA sorted_Merge_string_string_1.r2.code) (rgB sorted_Merge_string_string_1.r2.code) d st pd
noncomputable def sorted_Merge_string_string_1.l1.st (b : Nat) (b1 : Nat) (k1 : ByteArray) (v1 : ByteArray) (H12 : Hp) : VS := ⟨mkFr 83 [(3, .v (.pointer (some (Addr.mk b 0 none)))), (4, .v (.pointer (some (Addr.mk b1 0 none)))), (7, .v (.string k1)), (8, .v (.string v1))], [], H12⟩
noncomputable def sorted_Merge_string_string_1.l1 (J : Jn) (b : Nat) (b1 : Nat) (l1 : Nat) (rc1 : LoopState → Option Code → Obj) (k1 : ByteArray) (v1 : ByteArray) (H12 : Hp) (Q : Value → Hp → Prop) : Prop := vAtC Try.prog sorted_Merge_string_string_1.cfr J (rgB sorted_Merge_string_string_1.r2.code) [0, 0, 0] [0] (roundK l1 rc1 Q) (sorted_Merge_string_string_1.l1.st b b1 k1 v1 H12)
noncomputable def sorted_Merge_string_string_1.k1.st (b : Nat) (b1 : Nat) (k1 : ByteArray) (v1 : ByteArray) (H12 : Hp) : VS := ⟨mkFr 83 [(3, .v (.pointer (some (Addr.mk b 0 none)))), (4, .v (.pointer (some (Addr.mk b1 0 none)))), (7, .v (.string k1)), (8, .v (.string v1))], [], H12⟩
noncomputable def sorted_Merge_string_string_1.k1 (J : Jn) (b : Nat) (b1 : Nat) (l1 : Nat) (rc1 : LoopState → Option Code → Obj) (k1 : ByteArray) (v1 : ByteArray) (H12 : Hp) (Q : Value → Hp → Prop) : Prop := J (vSegC Try.prog sorted_Merge_string_string_1.cfr J (rgB sorted_Merge_string_string_1.r2.code) [0, 0, 0, 0, 1] [0, 0, 0] (roundK l1 rc1 Q)) (sorted_Merge_string_string_1.k1.st b b1 k1 v1 H12)
noncomputable def sorted_Merge_string_string_1.k2.st (b : Nat) (b1 : Nat) (k1 : ByteArray) (v1 : ByteArray) (H13 : Hp) : VS := ⟨mkFr 83 [(3, .v (.pointer (some (Addr.mk b 0 none)))), (4, .v (.pointer (some (Addr.mk b1 0 none)))), (7, .v (.string k1)), (8, .v (.string v1))], [], H13⟩
noncomputable def sorted_Merge_string_string_1.k2 (J : Jn) (b : Nat) (b1 : Nat) (l1 : Nat) (rc1 : LoopState → Option Code → Obj) (k1 : ByteArray) (v1 : ByteArray) (H13 : Hp) (Q : Value → Hp → Prop) : Prop := J (vSegC Try.prog sorted_Merge_string_string_1.cfr J (rgB sorted_Merge_string_string_1.r2.code) [0, 0, 0, 0, 1, 0, 1] [0, 0, 0, 0] (roundK l1 rc1 Q)) (sorted_Merge_string_string_1.k2.st b b1 k1 v1 H13)
noncomputable def sorted_Merge_string_string_1.k3.st (b : Nat) (b1 : Nat) (k1 : ByteArray) (v1 : ByteArray) (H12 : Hp) : VS := ⟨mkFr 83 [(3, .v (.pointer (some (Addr.mk b 0 none)))), (4, .v (.pointer (some (Addr.mk b1 0 none)))), (7, .v (.string k1)), (8, .v (.string v1))], [], H12⟩
noncomputable def sorted_Merge_string_string_1.k3 (J : Jn) (b : Nat) (b1 : Nat) (l1 : Nat) (rc1 : LoopState → Option Code → Obj) (k1 : ByteArray) (v1 : ByteArray) (H12 : Hp) (Q : Value → Hp → Prop) : Prop := J (vSegC Try.prog sorted_Merge_string_string_1.cfr J (rgB sorted_Merge_string_string_1.r2.code) [0, 1] [0] (roundK l1 rc1 Q)) (sorted_Merge_string_string_1.k3.st b b1 k1 v1 H12)
noncomputable def sorted_Merge_string_string_1.k4.st (b : Nat) (b1 : Nat) (k1 : ByteArray) (v1 : ByteArray) (H12 : Hp) (x12 : Bool) : VS := ⟨mkFr 83 [(3, .v (.pointer (some (Addr.mk b 0 none)))), (4, .v (.pointer (some (Addr.mk b1 0 none)))), (7, .v (.string k1)), (8, .v (.string v1)), (57, .v (.bool x12))], [], H12⟩
noncomputable def sorted_Merge_string_string_1.k4 (J : Jn) (b : Nat) (b1 : Nat) (l1 : Nat) (rc1 : LoopState → Option Code → Obj) (k1 : ByteArray) (v1 : ByteArray) (H12 : Hp) (x12 : Bool) (Q : Value → Hp → Prop) : Prop := J (vSegC Try.prog sorted_Merge_string_string_1.cfr J (rgB sorted_Merge_string_string_1.r2.code) [0, 1, 0, 1] [0, 0, 0] (roundK l1 rc1 Q)) (sorted_Merge_string_string_1.k4.st b b1 k1 v1 H12 x12)
noncomputable def sorted_Merge_string_string_1.l2.st (b : Nat) (x19 : Sl) (H20 : Hp) (x20 : Int) : VS := ⟨mkFr 83 [(3, .v (.pointer (some (Addr.mk b 0 none)))), (69, .v (.slice x19.a x19.len x19.cap)), (70, .v (.int .i64 ((x19.len : Nat) : Int))), (71, .v (.int .i64 x20))], [], H20⟩
noncomputable def sorted_Merge_string_string_1.l2 (J : Jn) (b : Nat) (x19 : Sl) (H20 : Hp) (x20 : Int) (Q : Value → Hp → Prop) : Prop := vAt Try.prog sorted_Merge_string_string_1.cf J sorted_Merge_string_string_1.fn [1, 1, 1, 1, 1, 0] [0, 0, 0, 0, 0] Q (sorted_Merge_string_string_1.l2.st b x19 H20 x20)
attribute [irreducible] sorted_Merge_string_string_1.l1 sorted_Merge_string_string_1.k1 sorted_Merge_string_string_1.k2 sorted_Merge_string_string_1.k3 sorted_Merge_string_string_1.k4 sorted_Merge_string_string_1.l2
noncomputable def sorted_Merge_string_string_1.l1.body (J : Jn) (b : Nat) (b1 : Nat) (l1 : Nat) (rc1 : LoopState → Option Code → Obj) (k1 : ByteArray) (v1 : ByteArray) (H12 : Hp) (Q : Value → Hp → Prop) : Prop :=
 ∃ x3 : Sl, Hp.cell? H12 (Addr.mk b1 0 none) = some (.slice x3.a x3.len x3.cap) ∧ 
 Br (decide (((x3.len : Nat) : Int) > 0)) (∃ x4 : Sl, Hp.cell? H12 (Addr.mk b1 0 none) = some (.slice x4.a x4.len x4.cap) ∧ ((0 : Int) ≤ 0 ∧ (0 : Int) < ((x4.len : Nat) : Int)) ∧ vPtr x4.a (fun a => ∃ key : ByteArray, Hp.cell? H12 a = some (.string key) ∧ 
 Br (Op.bytesLess key.toList k1.toList) (
 sorted_Merge_string_string_1.k1 J b b1 l1 rc1 k1 v1 H12 Q)
 (
 sorted_Merge_string_string_1.k3 J b b1 l1 rc1 k1 v1 H12 Q)))
 (
 sorted_Merge_string_string_1.k3 J b b1 l1 rc1 k1 v1 H12 Q)
theorem sorted_Merge_string_string_1.l1.eq (J : Jn) (b : Nat) (b1 : Nat) (l1 : Nat) (rc1 : LoopState → Option Code → Obj) (k1 : ByteArray) (v1 : ByteArray) (H12 : Hp) (Q : Value → Hp → Prop) : vAtBodyC Try.prog sorted_Merge_string_string_1.cfr J (rgB sorted_Merge_string_string_1.r2.code) [0, 0, 0] [0] (roundK l1 rc1 Q) (sorted_Merge_string_string_1.l1.st b b1 k1 v1 H12) = sorted_Merge_string_string_1.l1.body J b b1 l1 rc1 k1 v1 H12 Q := by kernel_rfl
theorem sorted_Merge_string_string_1.l1.step {b : Nat} {b1 : Nat} {l1 : Nat} {rc1 : LoopState → Option Code → Obj} {k1 : ByteArray} {v1 : ByteArray} {H12 : Hp} {Q : Value → Hp → Prop} (h : sorted_Merge_string_string_1.l1.body J0 b b1 l1 rc1 k1 v1 H12 Q) : sorted_Merge_string_string_1.l1 J0 b b1 l1 rc1 k1 v1 H12 Q := vAtC_stepC (sorted_Merge_string_string_1.l1.st b b1 k1 v1 H12) (sorted_Merge_string_string_1.l1.eq J0 b b1 l1 rc1 k1 v1 H12 Q) (by kernel_rfl) h
noncomputable def sorted_Merge_string_string_1.k1.body (J : Jn) (b : Nat) (b1 : Nat) (l1 : Nat) (rc1 : LoopState → Option Code → Obj) (k1 : ByteArray) (v1 : ByteArray) (H12 : Hp) (Q : Value → Hp → Prop) : Prop :=
 ∃ x5 : Fv, Hp.cell? H12 (Addr.mk b 0 none) = some (.func x5.fn x5.fi x5.ca) ∧ ∃ x6 : Sl, Hp.cell? H12 (Addr.mk b1 0 none) = some (.slice x6.a x6.len x6.cap) ∧ ((0 : Int) ≤ 0 ∧ (0 : Int) < ((x6.len : Nat) : Int)) ∧ vPtr x6.a (fun a1 => ∃ key1 : ByteArray, Hp.cell? H12 a1 = some (.string key1) ∧ ∃ x7 : Sl, Hp.cell? H12 (Addr.mk b1 0 none) = some (.slice x7.a x7.len x7.cap) ∧ ((0 : Int) ≤ 0 ∧ (0 : Int) < ((x7.len : Nat) : Int)) ∧ vPtr x7.a (fun a2 => ∃ value : ByteArray, Hp.cell? H12 (a2.add 1) = some (.string value) ∧ 
 vInv Try.prog (.func x5.fn x5.fi x5.ca) [.string key1, .string value] H12 (fun r H13 => ∃ x8 : Bool, r = .bool x8 ∧ 
 Br (!x8) (
 ((∃ st : LoopState, ∃ pd : Option Code, H13[l1]? = some (rc1 st pd)) ∧ Q (.bool false) (Array.setIfInBounds H13 l1 (rc1 .done (some .ret)))))
 (
 sorted_Merge_string_string_1.k2 J b b1 l1 rc1 k1 v1 H13 Q))))
theorem sorted_Merge_string_string_1.k1.eq (J : Jn) (b : Nat) (b1 : Nat) (l1 : Nat) (rc1 : LoopState → Option Code → Obj) (k1 : ByteArray) (v1 : ByteArray) (H12 : Hp) (Q : Value → Hp → Prop) : vSegC Try.prog sorted_Merge_string_string_1.cfr J (rgB sorted_Merge_string_string_1.r2.code) [0, 0, 0, 0, 1] [0, 0, 0] (roundK l1 rc1 Q) (sorted_Merge_string_string_1.k1.st b b1 k1 v1 H12) = sorted_Merge_string_string_1.k1.body J b b1 l1 rc1 k1 v1 H12 Q := by kernel_rfl
theorem sorted_Merge_string_string_1.k1.step {b : Nat} {b1 : Nat} {l1 : Nat} {rc1 : LoopState → Option Code → Obj} {k1 : ByteArray} {v1 : ByteArray} {H12 : Hp} {Q : Value → Hp → Prop} (h : sorted_Merge_string_string_1.k1.body J0 b b1 l1 rc1 k1 v1 H12 Q) : sorted_Merge_string_string_1.k1 J0 b b1 l1 rc1 k1 v1 H12 Q := step_of (vSegC Try.prog sorted_Merge_string_string_1.cfr J0 (rgB sorted_Merge_string_string_1.r2.code) [0, 0, 0, 0, 1] [0, 0, 0] (roundK l1 rc1 Q)) (sorted_Merge_string_string_1.k1.st b b1 k1 v1 H12) (sorted_Merge_string_string_1.k1.eq J0 b b1 l1 rc1 k1 v1 H12 Q) (by kernel_rfl) h
noncomputable def sorted_Merge_string_string_1.k2.body (J : Jn) (b : Nat) (b1 : Nat) (l1 : Nat) (rc1 : LoopState → Option Code → Obj) (k1 : ByteArray) (v1 : ByteArray) (H13 : Hp) (Q : Value → Hp → Prop) : Prop :=
 ∃ x9 : Sl, Hp.cell? H13 (Addr.mk b1 0 none) = some (.slice x9.a x9.len x9.cap) ∧ ((0 : Int) ≤ 1 ∧ (1 : Int) ≤ ((x9.len : Nat) : Int)) ∧ WrAt H13 (Addr.mk b1 0 none) 1 ∧ ∀ H14 : Hp, H14 = (Hp.setCell H13 (Addr.mk b1 0 none) (.slice (cutA x9.a x9.cap 1 2) (x9.len - 1) (x9.cap - 1))) → 
 sorted_Merge_string_string_1.l1 J b b1 l1 rc1 k1 v1 H14 Q
theorem sorted_Merge_string_string_1.k2.eq (J : Jn) (b : Nat) (b1 : Nat) (l1 : Nat) (rc1 : LoopState → Option Code → Obj) (k1 : ByteArray) (v1 : ByteArray) (H13 : Hp) (Q : Value → Hp → Prop) : vSegC Try.prog sorted_Merge_string_string_1.cfr J (rgB sorted_Merge_string_string_1.r2.code) [0, 0, 0, 0, 1, 0, 1] [0, 0, 0, 0] (roundK l1 rc1 Q) (sorted_Merge_string_string_1.k2.st b b1 k1 v1 H13) = sorted_Merge_string_string_1.k2.body J b b1 l1 rc1 k1 v1 H13 Q := by kernel_rfl
theorem sorted_Merge_string_string_1.k2.step {b : Nat} {b1 : Nat} {l1 : Nat} {rc1 : LoopState → Option Code → Obj} {k1 : ByteArray} {v1 : ByteArray} {H13 : Hp} {Q : Value → Hp → Prop} (h : sorted_Merge_string_string_1.k2.body J0 b b1 l1 rc1 k1 v1 H13 Q) : sorted_Merge_string_string_1.k2 J0 b b1 l1 rc1 k1 v1 H13 Q := step_of (vSegC Try.prog sorted_Merge_string_string_1.cfr J0 (rgB sorted_Merge_string_string_1.r2.code) [0, 0, 0, 0, 1, 0, 1] [0, 0, 0, 0] (roundK l1 rc1 Q)) (sorted_Merge_string_string_1.k2.st b b1 k1 v1 H13) (sorted_Merge_string_string_1.k2.eq J0 b b1 l1 rc1 k1 v1 H13 Q) (by kernel_rfl) h
noncomputable def sorted_Merge_string_string_1.k3.body (J : Jn) (b : Nat) (b1 : Nat) (l1 : Nat) (rc1 : LoopState → Option Code → Obj) (k1 : ByteArray) (v1 : ByteArray) (H12 : Hp) (Q : Value → Hp → Prop) : Prop :=
 ∃ x10 : Sl, Hp.cell? H12 (Addr.mk b1 0 none) = some (.slice x10.a x10.len x10.cap) ∧ 
 Br (decide (((x10.len : Nat) : Int) > 0)) (∃ x11 : Sl, Hp.cell? H12 (Addr.mk b1 0 none) = some (.slice x11.a x11.len x11.cap) ∧ ((0 : Int) ≤ 0 ∧ (0 : Int) < ((x11.len : Nat) : Int)) ∧ vPtr x11.a (fun a3 => ∃ key2 : ByteArray, Hp.cell? H12 a3 = some (.string key2) ∧ 
 sorted_Merge_string_string_1.k4 J b b1 l1 rc1 k1 v1 H12 (key2.toList == k1.toList) Q))
 (
 sorted_Merge_string_string_1.k4 J b b1 l1 rc1 k1 v1 H12 false Q)
theorem sorted_Merge_string_string_1.k3.eq (J : Jn) (b : Nat) (b1 : Nat) (l1 : Nat) (rc1 : LoopState → Option Code → Obj) (k1 : ByteArray) (v1 : ByteArray) (H12 : Hp) (Q : Value → Hp → Prop) : vSegC Try.prog sorted_Merge_string_string_1.cfr J (rgB sorted_Merge_string_string_1.r2.code) [0, 1] [0] (roundK l1 rc1 Q) (sorted_Merge_string_string_1.k3.st b b1 k1 v1 H12) = sorted_Merge_string_string_1.k3.body J b b1 l1 rc1 k1 v1 H12 Q := by kernel_rfl
theorem sorted_Merge_string_string_1.k3.step {b : Nat} {b1 : Nat} {l1 : Nat} {rc1 : LoopState → Option Code → Obj} {k1 : ByteArray} {v1 : ByteArray} {H12 : Hp} {Q : Value → Hp → Prop} (h : sorted_Merge_string_string_1.k3.body J0 b b1 l1 rc1 k1 v1 H12 Q) : sorted_Merge_string_string_1.k3 J0 b b1 l1 rc1 k1 v1 H12 Q := step_of (vSegC Try.prog sorted_Merge_string_string_1.cfr J0 (rgB sorted_Merge_string_string_1.r2.code) [0, 1] [0] (roundK l1 rc1 Q)) (sorted_Merge_string_string_1.k3.st b b1 k1 v1 H12) (sorted_Merge_string_string_1.k3.eq J0 b b1 l1 rc1 k1 v1 H12 Q) (by kernel_rfl) h
noncomputable def sorted_Merge_string_string_1.k4.body (J : Jn) (b : Nat) (b1 : Nat) (l1 : Nat) (rc1 : LoopState → Option Code → Obj) (k1 : ByteArray) (v1 : ByteArray) (H12 : Hp) (x12 : Bool) (Q : Value → Hp → Prop) : Prop :=
 
 Br x12 (∃ x13 : Sl, Hp.cell? H12 (Addr.mk b1 0 none) = some (.slice x13.a x13.len x13.cap) ∧ ((0 : Int) ≤ 0 ∧ (0 : Int) < ((x13.len : Nat) : Int)) ∧ vPtr x13.a (fun a4 => ∃ value1 : ByteArray, Hp.cell? H12 (a4.add 1) = some (.string value1) ∧ ∃ x14 : Sl, Hp.cell? H12 (Addr.mk b1 0 none) = some (.slice x14.a x14.len x14.cap) ∧ ((0 : Int) ≤ 1 ∧ (1 : Int) ≤ ((x14.len : Nat) : Int)) ∧ WrAt H12 (Addr.mk b1 0 none) 1 ∧ ∀ H15 : Hp, H15 = (Hp.setCell H12 (Addr.mk b1 0 none) (.slice (cutA x14.a x14.cap 1 2) (x14.len - 1) (x14.cap - 1))) → ∃ x15 : Fv, Hp.cell? H15 (Addr.mk b 0 none) = some (.func x15.fn x15.fi x15.ca) ∧ 
 vInv Try.prog (.func x15.fn x15.fi x15.ca) [.string k1, .string value1] H15 (fun r1 H16 => ∃ x16 : Bool, r1 = .bool x16 ∧ 
 Br (!x16) (
 ((∃ st : LoopState, ∃ pd : Option Code, H16[l1]? = some (rc1 st pd)) ∧ Q (.bool false) (Array.setIfInBounds H16 l1 (rc1 .done (some .ret)))))
 (
 ((∃ st : LoopState, ∃ pd : Option Code, H16[l1]? = some (rc1 st pd)) ∧ Q (.bool true) (Array.setIfInBounds H16 l1 (rc1 .ready none)))))))
 (∃ x17 : Fv, Hp.cell? H12 (Addr.mk b 0 none) = some (.func x17.fn x17.fi x17.ca) ∧ 
 vInv Try.prog (.func x17.fn x17.fi x17.ca) [.string k1, .string v1] H12 (fun r2 H17 => ∃ x18 : Bool, r2 = .bool x18 ∧ 
 Br (!x18) (
 ((∃ st : LoopState, ∃ pd : Option Code, H17[l1]? = some (rc1 st pd)) ∧ Q (.bool false) (Array.setIfInBounds H17 l1 (rc1 .done (some .ret)))))
 (
 ((∃ st : LoopState, ∃ pd : Option Code, H17[l1]? = some (rc1 st pd)) ∧ Q (.bool true) (Array.setIfInBounds H17 l1 (rc1 .ready none))))))
theorem sorted_Merge_string_string_1.k4.eq (J : Jn) (b : Nat) (b1 : Nat) (l1 : Nat) (rc1 : LoopState → Option Code → Obj) (k1 : ByteArray) (v1 : ByteArray) (H12 : Hp) (x12 : Bool) (Q : Value → Hp → Prop) : vSegC Try.prog sorted_Merge_string_string_1.cfr J (rgB sorted_Merge_string_string_1.r2.code) [0, 1, 0, 1] [0, 0, 0] (roundK l1 rc1 Q) (sorted_Merge_string_string_1.k4.st b b1 k1 v1 H12 x12) = sorted_Merge_string_string_1.k4.body J b b1 l1 rc1 k1 v1 H12 x12 Q := by kernel_rfl
theorem sorted_Merge_string_string_1.k4.step {b : Nat} {b1 : Nat} {l1 : Nat} {rc1 : LoopState → Option Code → Obj} {k1 : ByteArray} {v1 : ByteArray} {H12 : Hp} {x12 : Bool} {Q : Value → Hp → Prop} (h : sorted_Merge_string_string_1.k4.body J0 b b1 l1 rc1 k1 v1 H12 x12 Q) : sorted_Merge_string_string_1.k4 J0 b b1 l1 rc1 k1 v1 H12 x12 Q := step_of (vSegC Try.prog sorted_Merge_string_string_1.cfr J0 (rgB sorted_Merge_string_string_1.r2.code) [0, 1, 0, 1] [0, 0, 0] (roundK l1 rc1 Q)) (sorted_Merge_string_string_1.k4.st b b1 k1 v1 H12 x12) (sorted_Merge_string_string_1.k4.eq J0 b b1 l1 rc1 k1 v1 H12 x12 Q) (by kernel_rfl) h
noncomputable def sorted_Merge_string_string_1.l2.body (J : Jn) (b : Nat) (x19 : Sl) (H20 : Hp) (x20 : Int) (Q : Value → Hp → Prop) : Prop :=
 
 Br (decide (x20 < ((x19.len : Nat) : Int))) (((0 : Int) ≤ x20 ∧ x20 < ((x19.len : Nat) : Int)) ∧ vPtr x19.a (fun a5 => ∃ key3 : ByteArray, ∃ value2 : ByteArray, RowAt H20 (a5.add ((x20 : Int).toNat * 2)) [.string key3, .string value2] ∧ ∀ H21 : Hp, H21 = (holes H20 1) → ∃ x21 : Fv, Hp.cell? H21 (Addr.mk b 0 none) = some (.func x21.fn x21.fi x21.ca) ∧ 
 vInv Try.prog (.func x21.fn x21.fi x21.ca) [.string key3, .string value2] H21 (fun r3 H22 => ∃ x22 : Bool, r3 = .bool x22 ∧ 
 Br (!x22) (Q (.tuple #[]) H22)
 (
 sorted_Merge_string_string_1.l2 J b x19 H22 (w64 (x20 + 1)) Q))))
 (Q (.tuple #[]) H20)
theorem sorted_Merge_string_string_1.l2.eq (J : Jn) (b : Nat) (x19 : Sl) (H20 : Hp) (x20 : Int) (Q : Value → Hp → Prop) : vAtBody Try.prog sorted_Merge_string_string_1.cf J sorted_Merge_string_string_1.fn [1, 1, 1, 1, 1, 0] [0, 0, 0, 0, 0] Q (sorted_Merge_string_string_1.l2.st b x19 H20 x20) = sorted_Merge_string_string_1.l2.body J b x19 H20 x20 Q := by kernel_rfl
theorem sorted_Merge_string_string_1.l2.step {b : Nat} {x19 : Sl} {H20 : Hp} {x20 : Int} {Q : Value → Hp → Prop} (h : sorted_Merge_string_string_1.l2.body J0 b x19 H20 x20 Q) : sorted_Merge_string_string_1.l2 J0 b x19 H20 x20 Q := vAt_stepC (sorted_Merge_string_string_1.l2.st b x19 H20 x20) (sorted_Merge_string_string_1.l2.eq J0 b x19 H20 x20 Q) (by kernel_rfl) h
noncomputable def sorted_Merge_string_string_1.r1.body (J : Jn) (b1 : Nat) (l : Nat) (rc : LoopState → Option Code → Obj) (k : ByteArray) (v : ByteArray) (H3 : Hp) (Q : Value → Hp → Prop) : Prop :=
 H3[l]? = some (rc .ready none) ∧ ∀ H4 : Hp, H4 = (Array.setIfInBounds H3 l (rc .busy none)) → ∃ x1 : Sl, Hp.cell? H4 (Addr.mk b1 0 none) = some (.slice x1.a x1.len x1.cap) ∧ ∀ b2 : Nat, b2 = Array.size H4 → ∀ H5 : Hp, H5 = (Array.push H4 (.cells #[.string k, .string v] T_sorted_item_string_string)) → 
 vApp Try.prog T_sl_sorted_item_string_string x1.a x1.len x1.cap (.slice (some (Addr.mk b2 0 none)) 1 1) H5 (fun ap H6 => WrAt H6 (Addr.mk b1 0 none) 1 ∧ ∀ H7 : Hp, H7 = (Hp.setCell H6 (Addr.mk b1 0 none) (.slice ap.a ap.len ap.cap)) → 
 ((∃ st : LoopState, ∃ pd : Option Code, H7[l]? = some (rc st pd)) ∧ Q (.bool true) (Array.setIfInBounds H7 l (rc .ready none))))
theorem sorted_Merge_string_string_1.r1.eq (J : Jn) (b1 : Nat) (l : Nat) (rc : LoopState → Option Code → Obj) (k : ByteArray) (v : ByteArray) (H3 : Hp) (Q : Value → Hp → Prop) : vRound Try.prog sorted_Merge_string_string_1.cfr J (rgA sorted_Merge_string_string_1.r1.code) (rgB sorted_Merge_string_string_1.r1.code) (setFr (sorted_Merge_string_string_1.r1.fr b1) (rgP sorted_Merge_string_string_1.r1.code).toList [.string k, .string v]) l rc H3 Q = sorted_Merge_string_string_1.r1.body J b1 l rc k v H3 Q := by kernel_rfl
theorem sorted_Merge_string_string_1.r1.calls {b1 : Nat} {l : Nat} {k : ByteArray} {v : ByteArray} {H3 : Hp} {fnA : FuncId} {tmA : Array Value} {dA : Nat} {Q : Value → Hp → Prop} (hl : H3[l]? = some (sorted_Merge_string_string_1.r1.rec fnA tmA dA .ready none)) (hT : TmOf (sorted_Merge_string_string_1.r1.fr b1) tmA) (h : sorted_Merge_string_string_1.r1.body J0 b1 l (sorted_Merge_string_string_1.r1.rec fnA tmA dA) k v H3 Q) : YCalls Try.prog l [.string k, .string v] H3 Q := vRound_calls (cf := sorted_Merge_string_string_1.cfr) (fn := fnA) (tm := tmA) (ps := rgP sorted_Merge_string_string_1.r1.code) (asg := rgA sorted_Merge_string_string_1.r1.code) (body := rgB sorted_Merge_string_string_1.r1.code) (d := dA) (fr := (sorted_Merge_string_string_1.r1.fr b1)) Try.mixed (by kernel_rfl) hl (by kernel_rfl) hT ((sorted_Merge_string_string_1.r1.eq J0 b1 l (sorted_Merge_string_string_1.r1.rec fnA tmA dA) k v H3 Q).mpr h)
noncomputable def sorted_Merge_string_string_1.r2.body (J : Jn) (b : Nat) (b1 : Nat) (l1 : Nat) (rc1 : LoopState → Option Code → Obj) (k1 : ByteArray) (v1 : ByteArray) (H10 : Hp) (Q : Value → Hp → Prop) : Prop :=
 H10[l1]? = some (rc1 .ready none) ∧ ∀ H11 : Hp, H11 = (Array.setIfInBounds H10 l1 (rc1 .busy none)) → 
 sorted_Merge_string_string_1.l1 J b b1 l1 rc1 k1 v1 H11 Q
theorem sorted_Merge_string_string_1.r2.eq (J : Jn) (b : Nat) (b1 : Nat) (l1 : Nat) (rc1 : LoopState → Option Code → Obj) (k1 : ByteArray) (v1 : ByteArray) (H10 : Hp) (Q : Value → Hp → Prop) : vRound Try.prog sorted_Merge_string_string_1.cfr J (rgA sorted_Merge_string_string_1.r2.code) (rgB sorted_Merge_string_string_1.r2.code) (setFr (sorted_Merge_string_string_1.r2.fr b b1) (rgP sorted_Merge_string_string_1.r2.code).toList [.string k1, .string v1]) l1 rc1 H10 Q = sorted_Merge_string_string_1.r2.body J b b1 l1 rc1 k1 v1 H10 Q := by kernel_rfl
theorem sorted_Merge_string_string_1.r2.calls {b : Nat} {b1 : Nat} {l1 : Nat} {k1 : ByteArray} {v1 : ByteArray} {H10 : Hp} {fnA : FuncId} {tmA : Array Value} {dA : Nat} {Q : Value → Hp → Prop} (hl : H10[l1]? = some (sorted_Merge_string_string_1.r2.rec fnA tmA dA .ready none)) (hT : TmOf (sorted_Merge_string_string_1.r2.fr b b1) tmA) (h : sorted_Merge_string_string_1.r2.body J0 b b1 l1 (sorted_Merge_string_string_1.r2.rec fnA tmA dA) k1 v1 H10 Q) : YCalls Try.prog l1 [.string k1, .string v1] H10 Q := vRound_calls (cf := sorted_Merge_string_string_1.cfr) (fn := fnA) (tm := tmA) (ps := rgP sorted_Merge_string_string_1.r2.code) (asg := rgA sorted_Merge_string_string_1.r2.code) (body := rgB sorted_Merge_string_string_1.r2.code) (d := dA) (fr := (sorted_Merge_string_string_1.r2.fr b b1)) Try.mixed (by kernel_rfl) hl (by kernel_rfl) hT ((sorted_Merge_string_string_1.r2.eq J0 b b1 l1 (sorted_Merge_string_string_1.r2.rec fnA tmA dA) k1 v1 H10 Q).mpr h)
attribute [irreducible] sorted_Merge_string_string_1.r1.rec sorted_Merge_string_string_1.r1.fr sorted_Merge_string_string_1.r1.code sorted_Merge_string_string_1.r2.rec sorted_Merge_string_string_1.r2.fr sorted_Merge_string_string_1.r2.code
noncomputable def sorted_Merge_string_string_1.vc (J : Jn) (yield : Fv) (cap0 : Addr) (cap1 : Addr) (H : Hp) (Q : Value → Hp → Prop) : Prop :=
 ∀ b : Nat, b = Array.size H → ∀ H1 : Hp, H1 = (Array.push H (.cells #[.func yield.fn yield.fi yield.ca] T_func_string_string_bool)) → ∀ b1 : Nat, b1 = Array.size H1 → ∀ H2 : Hp, H2 = (Array.push H1 (.cells #[.slice none 0 0] T_sl_sorted_item_string_string)) → ∃ x : Fv, Hp.cell? H2 cap0 = some (.func x.fn x.fi x.ca) ∧ 
 ∀ fn : FuncId, ∀ tm : Array Value, TmOf (sorted_Merge_string_string_1.r1.fr b1) tm → vRg Try.prog (.func x.fn x.fi x.ca) (Array.size H2 + 1) (Array.push (Array.push H2 hole) (sorted_Merge_string_string_1.r1.rec fn tm (Array.size H2) .ready none)) (fun H8 => ∃ st : LoopState, ∃ pd : Option Code, H8[(Array.size H2 + 1)]? = some (sorted_Merge_string_string_1.r1.rec fn tm (Array.size H2) st pd) ∧ st ≠ .busy ∧ ∀ H9 : Hp, H9 = (Array.setIfInBounds H8 (Array.size H2 + 1) (sorted_Merge_string_string_1.r1.rec fn tm (Array.size H2) .exhausted pd)) → ((pd = none → ∃ x2 : Fv, Hp.cell? H9 cap1 = some (.func x2.fn x2.fi x2.ca) ∧ 
 ∀ fn1 : FuncId, ∀ tm1 : Array Value, TmOf (sorted_Merge_string_string_1.r2.fr b b1) tm1 → vRg Try.prog (.func x2.fn x2.fi x2.ca) (Array.size H9 + 1) (Array.push (Array.push H9 hole) (sorted_Merge_string_string_1.r2.rec fn1 tm1 (Array.size H9) .ready none)) (fun H18 => ∃ st1 : LoopState, ∃ pd1 : Option Code, H18[(Array.size H9 + 1)]? = some (sorted_Merge_string_string_1.r2.rec fn1 tm1 (Array.size H9) st1 pd1) ∧ st1 ≠ .busy ∧ ∀ H19 : Hp, H19 = (Array.setIfInBounds H18 (Array.size H9 + 1) (sorted_Merge_string_string_1.r2.rec fn1 tm1 (Array.size H9) .exhausted pd1)) → ((pd1 = none → ∃ x19 : Sl, Hp.cell? H19 (Addr.mk b1 0 none) = some (.slice x19.a x19.len x19.cap) ∧ 
 sorted_Merge_string_string_1.l2 J b x19 H19 0 Q) ∧ (pd1 = some .ret → Q (.tuple #[]) H19) ∧ (True) ∧ (pd1 = none ∨ pd1 = some .ret ∨ ∃ i ∈ ([] : List Nat), pd1 = some (.exit i))))) ∧ (pd = some .ret → Q (.tuple #[]) H9) ∧ (True) ∧ (pd = none ∨ pd = some .ret ∨ ∃ i ∈ ([] : List Nat), pd = some (.exit i))))
theorem sorted_Merge_string_string_1.eq (J : Jn) (yield : Fv) (cap0 : Addr) (cap1 : Addr) (H : Hp) (Q : Value → Hp → Prop) : vFn Try.prog sorted_Merge_string_string_1.cf J sorted_Merge_string_string_1.fn [.func yield.fn yield.fi yield.ca, .pointer (some cap0), .pointer (some cap1)] H Q = sorted_Merge_string_string_1.vc J yield cap0 cap1 H Q := by kernel_rfl
theorem sorted_Merge_string_string_1.calls {yield : Fv} {cap0 : Addr} {cap1 : Addr} {H : Hp} {Q : Value → Hp → Prop} (h : sorted_Merge_string_string_1.vc J0 yield cap0 cap1 H Q) : SCalls Try.prog sorted_Merge_string_string_1.id [.func yield.fn yield.fi yield.ca, .pointer (some cap0), .pointer (some cap1)] H Q := vFn_of Try.mixed Try.func69 (sorted_Merge_string_string_1.eq J0 yield cap0 cap1 H Q) h

/-! 70: (*tephra/sorted.Map_string, string_).All$1 -/
noncomputable def sorted_Map_string_string_All_1.cf : Cfg := ⟨[4], [(1, [0, 8, 9, 10])], [], [], true, []⟩
noncomputable def sorted_Map_string_string_All_1.l1.st (yield : Fv) (items : Sl) (H1 : Hp) (x1 : Int) : VS := ⟨mkFr 22 [(0, .v (.func yield.fn yield.fi yield.ca)), (8, .v (.slice items.a items.len items.cap)), (9, .v (.int .i64 ((items.len : Nat) : Int))), (10, .v (.int .i64 x1))], [], H1⟩
noncomputable def sorted_Map_string_string_All_1.l1 (J : Jn) (yield : Fv) (items : Sl) (H1 : Hp) (x1 : Int) (Q : Value → Hp → Prop) : Prop := vAt Try.prog sorted_Map_string_string_All_1.cf J sorted_Map_string_string_All_1.fn [1, 0] [0] Q (sorted_Map_string_string_All_1.l1.st yield items H1 x1)
attribute [irreducible] sorted_Map_string_string_All_1.l1
noncomputable def sorted_Map_string_string_All_1.l1.body (J : Jn) (yield : Fv) (items : Sl) (H1 : Hp) (x1 : Int) (Q : Value → Hp → Prop) : Prop :=
 
 Br (decide (x1 < ((items.len : Nat) : Int))) (((0 : Int) ≤ x1 ∧ x1 < ((items.len : Nat) : Int)) ∧ vPtr items.a (fun a1 => ∃ key : ByteArray, ∃ value : ByteArray, RowAt H1 (a1.add ((x1 : Int).toNat * 2)) [.string key, .string value] ∧ 
 vInv Try.prog (.func yield.fn yield.fi yield.ca) [.string key, .string value] (holes H1 1) (fun r H2 => ∃ x2 : Bool, r = .bool x2 ∧ 
 Br (!x2) (Q (.tuple #[]) H2)
 (
 sorted_Map_string_string_All_1.l1 J yield items H2 (w64 (x1 + 1)) Q))))
 (Q (.tuple #[]) H1)
theorem sorted_Map_string_string_All_1.l1.eq (J : Jn) (yield : Fv) (items : Sl) (H1 : Hp) (x1 : Int) (Q : Value → Hp → Prop) : vAtBody Try.prog sorted_Map_string_string_All_1.cf J sorted_Map_string_string_All_1.fn [1, 0] [0] Q (sorted_Map_string_string_All_1.l1.st yield items H1 x1) = sorted_Map_string_string_All_1.l1.body J yield items H1 x1 Q := by kernel_rfl
theorem sorted_Map_string_string_All_1.l1.step {yield : Fv} {items : Sl} {H1 : Hp} {x1 : Int} {Q : Value → Hp → Prop} (h : sorted_Map_string_string_All_1.l1.body J0 yield items H1 x1 Q) : sorted_Map_string_string_All_1.l1 J0 yield items H1 x1 Q := vAt_stepC (sorted_Map_string_string_All_1.l1.st yield items H1 x1) (sorted_Map_string_string_All_1.l1.eq J0 yield items H1 x1 Q) (by kernel_rfl) h
noncomputable def sorted_Map_string_string_All_1.vc (J : Jn) (yield : Fv) (cap0 : Addr) (H : Hp) (Q : Value → Hp → Prop) : Prop :=
 ∃ x : Option Addr, Hp.cell? H cap0 = some (.pointer x) ∧ vPtr x (fun a => ∃ items : Sl, Hp.cell? H a = some (.slice items.a items.len items.cap) ∧ 
 sorted_Map_string_string_All_1.l1 J yield items H 0 Q)
theorem sorted_Map_string_string_All_1.eq (J : Jn) (yield : Fv) (cap0 : Addr) (H : Hp) (Q : Value → Hp → Prop) : vFn Try.prog sorted_Map_string_string_All_1.cf J sorted_Map_string_string_All_1.fn [.func yield.fn yield.fi yield.ca, .pointer (some cap0)] H Q = sorted_Map_string_string_All_1.vc J yield cap0 H Q := by kernel_rfl
theorem sorted_Map_string_string_All_1.calls {yield : Fv} {cap0 : Addr} {H : Hp} {Q : Value → Hp → Prop} (h : sorted_Map_string_string_All_1.vc J0 yield cap0 H Q) : SCalls Try.prog sorted_Map_string_string_All_1.id [.func yield.fn yield.fi yield.ca, .pointer (some cap0)] H Q := vFn_of Try.mixed Try.func70 (sorted_Map_string_string_All_1.eq J0 yield cap0 H Q) h

/-! 75: tephra/state.sessions -/
noncomputable def state_sessions.cf : Cfg := ⟨[1, 5, 1000003], [(3, [3, 9, 10, 11])], [], [], true, []⟩
noncomputable def state_sessions.l1.st (sIndex : Int) (sTerm : Int) (sPairs : Sl) (sSessions : Sl) (b : Nat) (H3 : Hp) (x : Int) : VS := ⟨mkFr 22 [(3, .v (.pointer (some (Addr.mk b 0 none)))), (9, .v (.slice sSessions.a sSessions.len sSessions.cap)), (10, .v (.int .i64 ((sSessions.len : Nat) : Int))), (11, .v (.int .i64 x))], [(T_api_State, [.int .i64 sIndex, .int .i64 sTerm, .slice sPairs.a sPairs.len sPairs.cap, .slice sSessions.a sSessions.len sSessions.cap])], H3⟩
noncomputable def state_sessions.l1 (J : Jn) (sIndex : Int) (sTerm : Int) (sPairs : Sl) (sSessions : Sl) (b : Nat) (H3 : Hp) (x : Int) (Q : Value → Hp → Prop) : Prop := vAt Try.prog state_sessions.cf J state_sessions.fn [1, 1, 0, 1, 0] [0, 1, 1, 1] Q (state_sessions.l1.st sIndex sTerm sPairs sSessions b H3 x)
attribute [irreducible] state_sessions.l1
noncomputable def state_sessions.l1.body (J : Jn) (sIndex : Int) (sTerm : Int) (sPairs : Sl) (sSessions : Sl) (b : Nat) (H3 : Hp) (x : Int) (Q : Value → Hp → Prop) : Prop :=
 
 Br (decide (x < ((sSessions.len : Nat) : Int))) (((0 : Int) ≤ x ∧ x < ((sSessions.len : Nat) : Int)) ∧ vPtr sSessions.a (fun a => ∃ Client : Int, ∃ Seq : Int, ∃ ReplyErr : Int, ∃ ReplyValue : ByteArray, RowAt H3 (a.add ((x : Int).toNat * 4)) [.int .i64 Client, .int .i64 Seq, .int .i64 ReplyErr, .string ReplyValue] ∧ ∀ H4 : Hp, H4 = (holes H3 1) → 
 SCalls Try.prog sorted_Map_int_api_Session_Put.id [.pointer (some (Addr.mk b 0 none)), .int .i64 Client, .agg #[.int .i64 Client, .int .i64 Seq, .int .i64 ReplyErr, .string ReplyValue]] H4 (fun r H5 => ∃ x1 : Bool, r = .bool x1 ∧ 
 state_sessions.l1 J sIndex sTerm sPairs sSessions b H5 (w64 (x + 1)) Q)))
 (Q (.pointer (some (Addr.mk b 0 none))) H3)
theorem state_sessions.l1.eq (J : Jn) (sIndex : Int) (sTerm : Int) (sPairs : Sl) (sSessions : Sl) (b : Nat) (H3 : Hp) (x : Int) (Q : Value → Hp → Prop) : vAtBody Try.prog state_sessions.cf J state_sessions.fn [1, 1, 0, 1, 0] [0, 1, 1, 1] Q (state_sessions.l1.st sIndex sTerm sPairs sSessions b H3 x) = state_sessions.l1.body J sIndex sTerm sPairs sSessions b H3 x Q := by kernel_rfl
theorem state_sessions.l1.step {sIndex : Int} {sTerm : Int} {sPairs : Sl} {sSessions : Sl} {b : Nat} {H3 : Hp} {x : Int} {Q : Value → Hp → Prop} (h : state_sessions.l1.body J0 sIndex sTerm sPairs sSessions b H3 x Q) : state_sessions.l1 J0 sIndex sTerm sPairs sSessions b H3 x Q := vAt_stepC (state_sessions.l1.st sIndex sTerm sPairs sSessions b H3 x) (state_sessions.l1.eq J0 sIndex sTerm sPairs sSessions b H3 x Q) (by kernel_rfl) h
noncomputable def state_sessions.vc (J : Jn) (sIndex : Int) (sTerm : Int) (sPairs : Sl) (sSessions : Sl) (H : Hp) (Q : Value → Hp → Prop) : Prop :=
 ∀ H1 : Hp, H1 = (holes H 1) → ∀ b : Nat, b = Array.size H1 → ∀ H2 : Hp, H2 = (Array.push H1 (.cells #[.slice none 0 0] T_sorted_Map_int_api_Session)) → 
 state_sessions.l1 J sIndex sTerm sPairs sSessions b H2 0 Q
theorem state_sessions.eq (J : Jn) (sIndex : Int) (sTerm : Int) (sPairs : Sl) (sSessions : Sl) (H : Hp) (Q : Value → Hp → Prop) : vFn Try.prog state_sessions.cf J state_sessions.fn [.agg #[.int .i64 sIndex, .int .i64 sTerm, .slice sPairs.a sPairs.len sPairs.cap, .slice sSessions.a sSessions.len sSessions.cap]] H Q = state_sessions.vc J sIndex sTerm sPairs sSessions H Q := by kernel_rfl
theorem state_sessions.calls {sIndex : Int} {sTerm : Int} {sPairs : Sl} {sSessions : Sl} {H : Hp} {Q : Value → Hp → Prop} (h : state_sessions.vc J0 sIndex sTerm sPairs sSessions H Q) : SCalls Try.prog state_sessions.id [.agg #[.int .i64 sIndex, .int .i64 sTerm, .slice sPairs.a sPairs.len sPairs.cap, .slice sSessions.a sSessions.len sSessions.cap]] H Q := vFn_of Try.mixed Try.func75 (state_sessions.eq J0 sIndex sTerm sPairs sSessions H Q) h

/-! 76: (*tephra/sorted.Map_int, tephra/api.Session_).Get -/
noncomputable def sorted_Map_int_api_Session_Get.cf : Cfg := ⟨[4, 8], [], [], [], true, []⟩
noncomputable def sorted_Map_int_api_Session_Get.vc (J : Jn) (m : Addr) (k : Int) (H : Hp) (Q : Value → Hp → Prop) : Prop :=
 
 SCalls Try.prog sorted_Map_int_api_Session_find.id [.pointer (some m), .int .i64 k] (holes H 1) (fun r H1 => ∃ x : Int, ∃ x1 : Bool, r = .tuple #[.int .i64 x, .bool x1] ∧ 
 Br x1 (∃ items : Sl, Hp.cell? H1 m = some (.slice items.a items.len items.cap) ∧ ((0 : Int) ≤ x ∧ x < ((items.len : Nat) : Int)) ∧ vPtr items.a (fun a => ∃ Client : Int, ∃ Seq : Int, ∃ ReplyErr : Int, ∃ ReplyValue : ByteArray, RowAt H1 ((a.add ((x : Int).toNat * 5)).add 1) [.int .i64 Client, .int .i64 Seq, .int .i64 ReplyErr, .string ReplyValue] ∧ Q (.tuple #[.agg #[.int .i64 Client, .int .i64 Seq, .int .i64 ReplyErr, .string ReplyValue], .bool true]) H1))
 (Q (.tuple #[.agg #[.int .i64 0, .int .i64 0, .int .i64 0, .string (ByteArray.mk #[])], .bool false]) (holes H1 1)))
theorem sorted_Map_int_api_Session_Get.eq (J : Jn) (m : Addr) (k : Int) (H : Hp) (Q : Value → Hp → Prop) : vFn Try.prog sorted_Map_int_api_Session_Get.cf J sorted_Map_int_api_Session_Get.fn [.pointer (some m), .int .i64 k] H Q = sorted_Map_int_api_Session_Get.vc J m k H Q := by kernel_rfl
theorem sorted_Map_int_api_Session_Get.calls {m : Addr} {k : Int} {H : Hp} {Q : Value → Hp → Prop} (h : sorted_Map_int_api_Session_Get.vc J0 m k H Q) : SCalls Try.prog sorted_Map_int_api_Session_Get.id [.pointer (some m), .int .i64 k] H Q := vFn_of Try.mixed Try.func76 (sorted_Map_int_api_Session_Get.eq J0 m k H Q) h

/-! 77: tephra/state.pairs -/
noncomputable def state_pairs.cf : Cfg := ⟨[1, 5, 1000003], [(3, [3, 9, 10, 11])], [], [], true, []⟩
noncomputable def state_pairs.l1.st (sIndex : Int) (sTerm : Int) (sPairs : Sl) (sSessions : Sl) (b : Nat) (H3 : Hp) (x : Int) : VS := ⟨mkFr 23 [(3, .v (.pointer (some (Addr.mk b 0 none)))), (9, .v (.slice sPairs.a sPairs.len sPairs.cap)), (10, .v (.int .i64 ((sPairs.len : Nat) : Int))), (11, .v (.int .i64 x))], [(T_api_State, [.int .i64 sIndex, .int .i64 sTerm, .slice sPairs.a sPairs.len sPairs.cap, .slice sSessions.a sSessions.len sSessions.cap])], H3⟩
noncomputable def state_pairs.l1 (J : Jn) (sIndex : Int) (sTerm : Int) (sPairs : Sl) (sSessions : Sl) (b : Nat) (H3 : Hp) (x : Int) (Q : Value → Hp → Prop) : Prop := vAt Try.prog state_pairs.cf J state_pairs.fn [1, 1, 0, 1, 0] [0, 1, 1, 1] Q (state_pairs.l1.st sIndex sTerm sPairs sSessions b H3 x)
attribute [irreducible] state_pairs.l1
noncomputable def state_pairs.l1.body (J : Jn) (sIndex : Int) (sTerm : Int) (sPairs : Sl) (sSessions : Sl) (b : Nat) (H3 : Hp) (x : Int) (Q : Value → Hp → Prop) : Prop :=
 
 Br (decide (x < ((sPairs.len : Nat) : Int))) (((0 : Int) ≤ x ∧ x < ((sPairs.len : Nat) : Int)) ∧ vPtr sPairs.a (fun a => ∃ Key : ByteArray, ∃ Valuev : ByteArray, ∃ Gone : Bool, RowAt H3 (a.add ((x : Int).toNat * 3)) [.string Key, .string Valuev, .bool Gone] ∧ ∀ H4 : Hp, H4 = (holes H3 1) → 
 SCalls Try.prog sorted_Map_string_string_Put.id [.pointer (some (Addr.mk b 0 none)), .string Key, .string Valuev] H4 (fun r H5 => ∃ x1 : Bool, r = .bool x1 ∧ 
 state_pairs.l1 J sIndex sTerm sPairs sSessions b H5 (w64 (x + 1)) Q)))
 (Q (.pointer (some (Addr.mk b 0 none))) H3)
theorem state_pairs.l1.eq (J : Jn) (sIndex : Int) (sTerm : Int) (sPairs : Sl) (sSessions : Sl) (b : Nat) (H3 : Hp) (x : Int) (Q : Value → Hp → Prop) : vAtBody Try.prog state_pairs.cf J state_pairs.fn [1, 1, 0, 1, 0] [0, 1, 1, 1] Q (state_pairs.l1.st sIndex sTerm sPairs sSessions b H3 x) = state_pairs.l1.body J sIndex sTerm sPairs sSessions b H3 x Q := by kernel_rfl
theorem state_pairs.l1.step {sIndex : Int} {sTerm : Int} {sPairs : Sl} {sSessions : Sl} {b : Nat} {H3 : Hp} {x : Int} {Q : Value → Hp → Prop} (h : state_pairs.l1.body J0 sIndex sTerm sPairs sSessions b H3 x Q) : state_pairs.l1 J0 sIndex sTerm sPairs sSessions b H3 x Q := vAt_stepC (state_pairs.l1.st sIndex sTerm sPairs sSessions b H3 x) (state_pairs.l1.eq J0 sIndex sTerm sPairs sSessions b H3 x Q) (by kernel_rfl) h
noncomputable def state_pairs.vc (J : Jn) (sIndex : Int) (sTerm : Int) (sPairs : Sl) (sSessions : Sl) (H : Hp) (Q : Value → Hp → Prop) : Prop :=
 ∀ H1 : Hp, H1 = (holes H 1) → ∀ b : Nat, b = Array.size H1 → ∀ H2 : Hp, H2 = (Array.push H1 (.cells #[.slice none 0 0] T_sorted_Map_string_string)) → 
 state_pairs.l1 J sIndex sTerm sPairs sSessions b H2 0 Q
theorem state_pairs.eq (J : Jn) (sIndex : Int) (sTerm : Int) (sPairs : Sl) (sSessions : Sl) (H : Hp) (Q : Value → Hp → Prop) : vFn Try.prog state_pairs.cf J state_pairs.fn [.agg #[.int .i64 sIndex, .int .i64 sTerm, .slice sPairs.a sPairs.len sPairs.cap, .slice sSessions.a sSessions.len sSessions.cap]] H Q = state_pairs.vc J sIndex sTerm sPairs sSessions H Q := by kernel_rfl
theorem state_pairs.calls {sIndex : Int} {sTerm : Int} {sPairs : Sl} {sSessions : Sl} {H : Hp} {Q : Value → Hp → Prop} (h : state_pairs.vc J0 sIndex sTerm sPairs sSessions H Q) : SCalls Try.prog state_pairs.id [.agg #[.int .i64 sIndex, .int .i64 sTerm, .slice sPairs.a sPairs.len sPairs.cap, .slice sSessions.a sSessions.len sSessions.cap]] H Q := vFn_of Try.mixed Try.func77 (state_pairs.eq J0 sIndex sTerm sPairs sSessions H Q) h

/-! 78: tephra/state.do -/
noncomputable def state_do.cf : Cfg := ⟨[3, 4, 1000003], [], [(4, [0, 3, 4, 5, 6, 20], true), (6, [0, 3, 4, 5, 34], true), (8, [0, 3, 4, 5, 43], true)], [(27, [0, 3, 4, 5, 6, 27])], true, []⟩
noncomputable def state_do.k1.st (m : Addr) (cOp : Int) (cClient : Int) (cSeq : Int) (cKey : ByteArray) (cValue : ByteArray) (cOld : ByteArray) (H3 : Hp) (x : ByteArray) (x1 : Bool) (x2 : Bool) : VS := ⟨mkFr 65 [(0, .v (.pointer (some m))), (3, .loc 0 0), (4, .loc 1 0), (5, .v (.string x)), (6, .v (.bool x1)), (27, .v (.bool x2))], [(T_api_Cmd, [.int .i64 cOp, .int .i64 cClient, .int .i64 cSeq, .string cKey, .string cValue, .string cOld]), (T_api_Reply, [.int .i64 0, .string (ByteArray.mk #[])])], H3⟩
noncomputable def state_do.k1 (J : Jn) (m : Addr) (cOp : Int) (cClient : Int) (cSeq : Int) (cKey : ByteArray) (cValue : ByteArray) (cOld : ByteArray) (H3 : Hp) (x : ByteArray) (x1 : Bool) (x2 : Bool) (Q : Value → Hp → Prop) : Prop := J (vMid Try.prog state_do.cf J state_do.fn [1, 1, 0, 0, 0] [0, 2, 2, 2] 7 Q) (state_do.k1.st m cOp cClient cSeq cKey cValue cOld H3 x x1 x2)
noncomputable def state_do.k2.st (m : Addr) (cOp : Int) (cClient : Int) (cSeq : Int) (cKey : ByteArray) (cValue : ByteArray) (cOld : ByteArray) (x : ByteArray) (x1 : Bool) (x4 : Bool) (H5 : Hp) : VS := ⟨mkFr 65 [(0, .v (.pointer (some m))), (3, .loc 0 0), (4, .loc 1 0), (5, .v (.string x)), (6, .v (.bool x1)), (20, .v (.bool x4))], [(T_api_Cmd, [.int .i64 cOp, .int .i64 cClient, .int .i64 cSeq, .string cKey, .string cValue, .string cOld]), (T_api_Reply, [.int .i64 0, .string (ByteArray.mk #[])])], H5⟩
noncomputable def state_do.k2 (J : Jn) (m : Addr) (cOp : Int) (cClient : Int) (cSeq : Int) (cKey : ByteArray) (cValue : ByteArray) (cOld : ByteArray) (x : ByteArray) (x1 : Bool) (x4 : Bool) (H5 : Hp) (Q : Value → Hp → Prop) : Prop := J (vSeg Try.prog state_do.cf J state_do.fn [1, 1, 0, 0, 1] [0, 2, 2, 2] Q) (state_do.k2.st m cOp cClient cSeq cKey cValue cOld x x1 x4 H5)
noncomputable def state_do.k3.st (m : Addr) (cOp : Int) (cClient : Int) (cSeq : Int) (cKey : ByteArray) (cValue : ByteArray) (cOld : ByteArray) (x : ByteArray) (H5 : Hp) (x5 : Bool) : VS := ⟨mkFr 65 [(0, .v (.pointer (some m))), (3, .loc 0 0), (4, .loc 1 0), (5, .v (.string x)), (34, .v (.bool x5))], [(T_api_Cmd, [.int .i64 cOp, .int .i64 cClient, .int .i64 cSeq, .string cKey, .string cValue, .string cOld]), (T_api_Reply, [.int .i64 0, .string (ByteArray.mk #[])])], H5⟩
noncomputable def state_do.k3 (J : Jn) (m : Addr) (cOp : Int) (cClient : Int) (cSeq : Int) (cKey : ByteArray) (cValue : ByteArray) (cOld : ByteArray) (x : ByteArray) (H5 : Hp) (x5 : Bool) (Q : Value → Hp → Prop) : Prop := J (vSeg Try.prog state_do.cf J state_do.fn [1, 1, 0, 0, 1, 1, 1] [0, 2, 2, 2, 2] Q) (state_do.k3.st m cOp cClient cSeq cKey cValue cOld x H5 x5)
noncomputable def state_do.k4.st (m : Addr) (cOp : Int) (cClient : Int) (cSeq : Int) (cKey : ByteArray) (cValue : ByteArray) (cOld : ByteArray) (x : ByteArray) (H5 : Hp) (x6 : Bool) : VS := ⟨mkFr 65 [(0, .v (.pointer (some m))), (3, .loc 0 0), (4, .loc 1 0), (5, .v (.string x)), (43, .v (.bool x6))], [(T_api_Cmd, [.int .i64 cOp, .int .i64 cClient, .int .i64 cSeq, .string cKey, .string cValue, .string cOld]), (T_api_Reply, [.int .i64 0, .string (ByteArray.mk #[])])], H5⟩
noncomputable def state_do.k4 (J : Jn) (m : Addr) (cOp : Int) (cClient : Int) (cSeq : Int) (cKey : ByteArray) (cValue : ByteArray) (cOld : ByteArray) (x : ByteArray) (H5 : Hp) (x6 : Bool) (Q : Value → Hp → Prop) : Prop := J (vSeg Try.prog state_do.cf J state_do.fn [1, 1, 0, 0, 1, 1, 1, 1, 1] [0, 2, 2, 2, 2, 2] Q) (state_do.k4.st m cOp cClient cSeq cKey cValue cOld x H5 x6)
attribute [irreducible] state_do.k1 state_do.k2 state_do.k3 state_do.k4
noncomputable def state_do.k1.body (J : Jn) (m : Addr) (cOp : Int) (cClient : Int) (cSeq : Int) (cKey : ByteArray) (cValue : ByteArray) (cOld : ByteArray) (H3 : Hp) (x : ByteArray) (x1 : Bool) (x2 : Bool) (Q : Value → Hp → Prop) : Prop :=
 
 Br x2 (
 SCalls Try.prog sorted_Map_string_string_Len.id [.pointer (some m)] H3 (fun r1 H4 => ∃ x3 : Int, r1 = .int .i64 x3 ∧ 
 state_do.k2 J m cOp cClient cSeq cKey cValue cOld x x1 (decide (x3 ≥ 64)) H4 Q))
 (
 state_do.k2 J m cOp cClient cSeq cKey cValue cOld x x1 false H3 Q)
theorem state_do.k1.eq (J : Jn) (m : Addr) (cOp : Int) (cClient : Int) (cSeq : Int) (cKey : ByteArray) (cValue : ByteArray) (cOld : ByteArray) (H3 : Hp) (x : ByteArray) (x1 : Bool) (x2 : Bool) (Q : Value → Hp → Prop) : vMid Try.prog state_do.cf J state_do.fn [1, 1, 0, 0, 0] [0, 2, 2, 2] 7 Q (state_do.k1.st m cOp cClient cSeq cKey cValue cOld H3 x x1 x2) = state_do.k1.body J m cOp cClient cSeq cKey cValue cOld H3 x x1 x2 Q := by kernel_rfl
theorem state_do.k1.step {m : Addr} {cOp : Int} {cClient : Int} {cSeq : Int} {cKey : ByteArray} {cValue : ByteArray} {cOld : ByteArray} {H3 : Hp} {x : ByteArray} {x1 : Bool} {x2 : Bool} {Q : Value → Hp → Prop} (h : state_do.k1.body J0 m cOp cClient cSeq cKey cValue cOld H3 x x1 x2 Q) : state_do.k1 J0 m cOp cClient cSeq cKey cValue cOld H3 x x1 x2 Q := step_of (vMid Try.prog state_do.cf J0 state_do.fn [1, 1, 0, 0, 0] [0, 2, 2, 2] 7 Q) (state_do.k1.st m cOp cClient cSeq cKey cValue cOld H3 x x1 x2) (state_do.k1.eq J0 m cOp cClient cSeq cKey cValue cOld H3 x x1 x2 Q) (by kernel_rfl) h
noncomputable def state_do.k2.body (J : Jn) (m : Addr) (cOp : Int) (cClient : Int) (cSeq : Int) (cKey : ByteArray) (cValue : ByteArray) (cOld : ByteArray) (x : ByteArray) (x1 : Bool) (x4 : Bool) (H5 : Hp) (Q : Value → Hp → Prop) : Prop :=
 
 Br x4 (Q (.agg #[.int .i64 4, .string (ByteArray.mk #[])]) H5)
 (
 Br (cOp != 1) (
 state_do.k3 J m cOp cClient cSeq cKey cValue cOld x H5 (!x1) Q)
 (
 state_do.k3 J m cOp cClient cSeq cKey cValue cOld x H5 false Q))
theorem state_do.k2.eq (J : Jn) (m : Addr) (cOp : Int) (cClient : Int) (cSeq : Int) (cKey : ByteArray) (cValue : ByteArray) (cOld : ByteArray) (x : ByteArray) (x1 : Bool) (x4 : Bool) (H5 : Hp) (Q : Value → Hp → Prop) : vSeg Try.prog state_do.cf J state_do.fn [1, 1, 0, 0, 1] [0, 2, 2, 2] Q (state_do.k2.st m cOp cClient cSeq cKey cValue cOld x x1 x4 H5) = state_do.k2.body J m cOp cClient cSeq cKey cValue cOld x x1 x4 H5 Q := by kernel_rfl
theorem state_do.k2.step {m : Addr} {cOp : Int} {cClient : Int} {cSeq : Int} {cKey : ByteArray} {cValue : ByteArray} {cOld : ByteArray} {x : ByteArray} {x1 : Bool} {x4 : Bool} {H5 : Hp} {Q : Value → Hp → Prop} (h : state_do.k2.body J0 m cOp cClient cSeq cKey cValue cOld x x1 x4 H5 Q) : state_do.k2 J0 m cOp cClient cSeq cKey cValue cOld x x1 x4 H5 Q := step_of (vSeg Try.prog state_do.cf J0 state_do.fn [1, 1, 0, 0, 1] [0, 2, 2, 2] Q) (state_do.k2.st m cOp cClient cSeq cKey cValue cOld x x1 x4 H5) (state_do.k2.eq J0 m cOp cClient cSeq cKey cValue cOld x x1 x4 H5 Q) (by kernel_rfl) h
noncomputable def state_do.k3.body (J : Jn) (m : Addr) (cOp : Int) (cClient : Int) (cSeq : Int) (cKey : ByteArray) (cValue : ByteArray) (cOld : ByteArray) (x : ByteArray) (H5 : Hp) (x5 : Bool) (Q : Value → Hp → Prop) : Prop :=
 
 Br x5 (Q (.agg #[.int .i64 6, .string (ByteArray.mk #[])]) H5)
 (
 Br (cOp == 3) (
 state_do.k4 J m cOp cClient cSeq cKey cValue cOld x H5 (!(x.toList == cOld.toList)) Q)
 (
 state_do.k4 J m cOp cClient cSeq cKey cValue cOld x H5 false Q))
theorem state_do.k3.eq (J : Jn) (m : Addr) (cOp : Int) (cClient : Int) (cSeq : Int) (cKey : ByteArray) (cValue : ByteArray) (cOld : ByteArray) (x : ByteArray) (H5 : Hp) (x5 : Bool) (Q : Value → Hp → Prop) : vSeg Try.prog state_do.cf J state_do.fn [1, 1, 0, 0, 1, 1, 1] [0, 2, 2, 2, 2] Q (state_do.k3.st m cOp cClient cSeq cKey cValue cOld x H5 x5) = state_do.k3.body J m cOp cClient cSeq cKey cValue cOld x H5 x5 Q := by kernel_rfl
theorem state_do.k3.step {m : Addr} {cOp : Int} {cClient : Int} {cSeq : Int} {cKey : ByteArray} {cValue : ByteArray} {cOld : ByteArray} {x : ByteArray} {H5 : Hp} {x5 : Bool} {Q : Value → Hp → Prop} (h : state_do.k3.body J0 m cOp cClient cSeq cKey cValue cOld x H5 x5 Q) : state_do.k3 J0 m cOp cClient cSeq cKey cValue cOld x H5 x5 Q := step_of (vSeg Try.prog state_do.cf J0 state_do.fn [1, 1, 0, 0, 1, 1, 1] [0, 2, 2, 2, 2] Q) (state_do.k3.st m cOp cClient cSeq cKey cValue cOld x H5 x5) (state_do.k3.eq J0 m cOp cClient cSeq cKey cValue cOld x H5 x5 Q) (by kernel_rfl) h
noncomputable def state_do.k4.body (J : Jn) (m : Addr) (cOp : Int) (cClient : Int) (cSeq : Int) (cKey : ByteArray) (cValue : ByteArray) (cOld : ByteArray) (x : ByteArray) (H5 : Hp) (x6 : Bool) (Q : Value → Hp → Prop) : Prop :=
 
 Br x6 (Q (.agg #[.int .i64 11, .string x]) H5)
 (
 Br (cOp == 2) (
 SCalls Try.prog sorted_Map_string_string_Del.id [.pointer (some m), .string cKey] H5 (fun r2 H6 => ∃ x7 : Bool, r2 = .bool x7 ∧ Q (.agg #[.int .i64 0, .string x]) H6))
 (
 SCalls Try.prog sorted_Map_string_string_Put.id [.pointer (some m), .string cKey, .string cValue] H5 (fun r3 H7 => ∃ x8 : Bool, r3 = .bool x8 ∧ Q (.agg #[.int .i64 0, .string x]) H7)))
theorem state_do.k4.eq (J : Jn) (m : Addr) (cOp : Int) (cClient : Int) (cSeq : Int) (cKey : ByteArray) (cValue : ByteArray) (cOld : ByteArray) (x : ByteArray) (H5 : Hp) (x6 : Bool) (Q : Value → Hp → Prop) : vSeg Try.prog state_do.cf J state_do.fn [1, 1, 0, 0, 1, 1, 1, 1, 1] [0, 2, 2, 2, 2, 2] Q (state_do.k4.st m cOp cClient cSeq cKey cValue cOld x H5 x6) = state_do.k4.body J m cOp cClient cSeq cKey cValue cOld x H5 x6 Q := by kernel_rfl
theorem state_do.k4.step {m : Addr} {cOp : Int} {cClient : Int} {cSeq : Int} {cKey : ByteArray} {cValue : ByteArray} {cOld : ByteArray} {x : ByteArray} {H5 : Hp} {x6 : Bool} {Q : Value → Hp → Prop} (h : state_do.k4.body J0 m cOp cClient cSeq cKey cValue cOld x H5 x6 Q) : state_do.k4 J0 m cOp cClient cSeq cKey cValue cOld x H5 x6 Q := step_of (vSeg Try.prog state_do.cf J0 state_do.fn [1, 1, 0, 0, 1, 1, 1, 1, 1] [0, 2, 2, 2, 2, 2] Q) (state_do.k4.st m cOp cClient cSeq cKey cValue cOld x H5 x6) (state_do.k4.eq J0 m cOp cClient cSeq cKey cValue cOld x H5 x6 Q) (by kernel_rfl) h
noncomputable def state_do.vc (J : Jn) (m : Addr) (cOp : Int) (cClient : Int) (cSeq : Int) (cKey : ByteArray) (cValue : ByteArray) (cOld : ByteArray) (H : Hp) (Q : Value → Hp → Prop) : Prop :=
 ∀ H1 : Hp, H1 = (holes H 1) → ∀ H2 : Hp, H2 = (holes H1 1) → 
 SCalls Try.prog sorted_Map_string_string_Get.id [.pointer (some m), .string cKey] H2 (fun r H3 => ∃ x : ByteArray, ∃ x1 : Bool, r = .tuple #[.string x, .bool x1] ∧ 
 Br (cOp == 1) (
 state_do.k1 J m cOp cClient cSeq cKey cValue cOld H3 x x1 (!x1) Q)
 (
 state_do.k1 J m cOp cClient cSeq cKey cValue cOld H3 x x1 false Q))
theorem state_do.eq (J : Jn) (m : Addr) (cOp : Int) (cClient : Int) (cSeq : Int) (cKey : ByteArray) (cValue : ByteArray) (cOld : ByteArray) (H : Hp) (Q : Value → Hp → Prop) : vFn Try.prog state_do.cf J state_do.fn [.pointer (some m), .agg #[.int .i64 cOp, .int .i64 cClient, .int .i64 cSeq, .string cKey, .string cValue, .string cOld]] H Q = state_do.vc J m cOp cClient cSeq cKey cValue cOld H Q := by kernel_rfl
theorem state_do.calls {m : Addr} {cOp : Int} {cClient : Int} {cSeq : Int} {cKey : ByteArray} {cValue : ByteArray} {cOld : ByteArray} {H : Hp} {Q : Value → Hp → Prop} (h : state_do.vc J0 m cOp cClient cSeq cKey cValue cOld H Q) : SCalls Try.prog state_do.id [.pointer (some m), .agg #[.int .i64 cOp, .int .i64 cClient, .int .i64 cSeq, .string cKey, .string cValue, .string cOld]] H Q := vFn_of Try.mixed Try.func78 (state_do.eq J0 m cOp cClient cSeq cKey cValue cOld H Q) h

/-! 79: tephra/state.rows -/
noncomputable def state_rows.cf : Cfg := ⟨[1000003], [(1000005, [3])], [], [], true, []⟩
noncomputable def state_rows.cfr : Cfg := { state_rows.cf with rf := false }
noncomputable def state_rows.r1.fr (b : Nat) : List AV := mkFr 17 [(3, .v (.pointer (some (Addr.mk b 0 none))))]
noncomputable def state_rows.r1.code : Code := sub (bodyOf state_rows.fn) [1, 1, 0, 1, 0]
noncomputable def state_rows.r1.rec (fn : FuncId) (tm : Array Value) (d : Nat) (st : LoopState) (pd : Option Code) : Obj := recO fn tm (rgP state_rows.r1.code) (rgA state_rows.r1.code) (rgB state_rows.r1.code) d st pd
noncomputable def state_rows.r1.body (J : Jn) (b : Nat) (l : Nat) (rc : LoopState → Option Code → Obj) (k : ByteArray) (v : ByteArray) (H3 : Hp) (Q : Value → Hp → Prop) : Prop :=
 H3[l]? = some (rc .ready none) ∧ ∀ H4 : Hp, H4 = (Array.setIfInBounds H3 l (rc .busy none)) → ∃ x1 : Sl, Hp.cell? H4 (Addr.mk b 0 none) = some (.slice x1.a x1.len x1.cap) ∧ ∀ b1 : Nat, b1 = Array.size H4 → ∀ H5 : Hp, H5 = (Array.push H4 (.cells #[.string k, .string v, .bool false] T_api_Pair)) → 
 vApp Try.prog T_sl_api_Pair x1.a x1.len x1.cap (.slice (some (Addr.mk b1 0 none)) 1 1) H5 (fun ap H6 => WrAt H6 (Addr.mk b 0 none) 1 ∧ ∀ H7 : Hp, H7 = (Hp.setCell H6 (Addr.mk b 0 none) (.slice ap.a ap.len ap.cap)) → 
 ((∃ st : LoopState, ∃ pd : Option Code, H7[l]? = some (rc st pd)) ∧ Q (.bool true) (Array.setIfInBounds H7 l (rc .ready none))))
theorem state_rows.r1.eq (J : Jn) (b : Nat) (l : Nat) (rc : LoopState → Option Code → Obj) (k : ByteArray) (v : ByteArray) (H3 : Hp) (Q : Value → Hp → Prop) : vRound Try.prog state_rows.cfr J (rgA state_rows.r1.code) (rgB state_rows.r1.code) (setFr (state_rows.r1.fr b) (rgP state_rows.r1.code).toList [.string k, .string v]) l rc H3 Q = state_rows.r1.body J b l rc k v H3 Q := by kernel_rfl
theorem state_rows.r1.calls {b : Nat} {l : Nat} {k : ByteArray} {v : ByteArray} {H3 : Hp} {fnA : FuncId} {tmA : Array Value} {dA : Nat} {Q : Value → Hp → Prop} (hl : H3[l]? = some (state_rows.r1.rec fnA tmA dA .ready none)) (hT : TmOf (state_rows.r1.fr b) tmA) (h : state_rows.r1.body J0 b l (state_rows.r1.rec fnA tmA dA) k v H3 Q) : YCalls Try.prog l [.string k, .string v] H3 Q := vRound_calls (cf := state_rows.cfr) (fn := fnA) (tm := tmA) (ps := rgP state_rows.r1.code) (asg := rgA state_rows.r1.code) (body := rgB state_rows.r1.code) (d := dA) (fr := (state_rows.r1.fr b)) Try.mixed (by kernel_rfl) hl (by kernel_rfl) hT ((state_rows.r1.eq J0 b l (state_rows.r1.rec fnA tmA dA) k v H3 Q).mpr h)
attribute [irreducible] state_rows.r1.rec state_rows.r1.fr state_rows.r1.code
noncomputable def state_rows.vc (J : Jn) (m : Addr) (H : Hp) (Q : Value → Hp → Prop) : Prop :=
 ∀ b : Nat, b = Array.size H → ∀ H1 : Hp, H1 = (Array.push H (.cells #[.slice none 0 0] T_sl_api_Pair)) → 
 SCalls Try.prog sorted_Map_string_string_All.id [.pointer (some m)] H1 (fun r H2 => ∃ x : Fv, r = .func x.fn x.fi x.ca ∧ 
 ∀ fn : FuncId, ∀ tm : Array Value, TmOf (state_rows.r1.fr b) tm → vRg Try.prog (.func x.fn x.fi x.ca) (Array.size H2 + 1) (Array.push (Array.push H2 hole) (state_rows.r1.rec fn tm (Array.size H2) .ready none)) (fun H8 => ∃ st : LoopState, ∃ pd : Option Code, H8[(Array.size H2 + 1)]? = some (state_rows.r1.rec fn tm (Array.size H2) st pd) ∧ st ≠ .busy ∧ ∀ H9 : Hp, H9 = (Array.setIfInBounds H8 (Array.size H2 + 1) (state_rows.r1.rec fn tm (Array.size H2) .exhausted pd)) → ((pd = none → ∃ x2 : Sl, Hp.cell? H9 (Addr.mk b 0 none) = some (.slice x2.a x2.len x2.cap) ∧ Q (.slice x2.a x2.len x2.cap) H9) ∧ (pd = some .ret → Q (.slice none 0 0) H9) ∧ (True) ∧ (pd = none ∨ pd = some .ret ∨ ∃ i ∈ ([] : List Nat), pd = some (.exit i)))))
theorem state_rows.eq (J : Jn) (m : Addr) (H : Hp) (Q : Value → Hp → Prop) : vFn Try.prog state_rows.cf J state_rows.fn [.pointer (some m)] H Q = state_rows.vc J m H Q := by kernel_rfl
theorem state_rows.calls {m : Addr} {H : Hp} {Q : Value → Hp → Prop} (h : state_rows.vc J0 m H Q) : SCalls Try.prog state_rows.id [.pointer (some m)] H Q := vFn_of Try.mixed Try.func79 (state_rows.eq J0 m H Q) h

/-! 80: (*tephra/sorted.Map_int, tephra/api.Session_).Put -/
noncomputable def sorted_Map_int_api_Session_Put.cf : Cfg := ⟨[5], [], [], [], true, []⟩
noncomputable def sorted_Map_int_api_Session_Put.vc (J : Jn) (m : Addr) (k : Int) (vClient : Int) (vSeq : Int) (vReplyErr : Int) (vReplyValue : ByteArray) (H : Hp) (Q : Value → Hp → Prop) : Prop :=
 
 SCalls Try.prog sorted_Map_int_api_Session_find.id [.pointer (some m), .int .i64 k] (holes H 1) (fun r H1 => ∃ x : Int, ∃ x1 : Bool, r = .tuple #[.int .i64 x, .bool x1] ∧ 
 Br x1 (∃ items : Sl, Hp.cell? H1 m = some (.slice items.a items.len items.cap) ∧ ((0 : Int) ≤ x ∧ x < ((items.len : Nat) : Int)) ∧ vPtr items.a (fun a => WrAt H1 ((a.add ((x : Int).toNat * 5)).add 1) 4 ∧ Q (.bool false) (Hp.setCells H1 ((a.add ((x : Int).toNat * 5)).add 1) [.int .i64 vClient, .int .i64 vSeq, .int .i64 vReplyErr, .string vReplyValue] 0)))
 (∃ items1 : Sl, Hp.cell? H1 m = some (.slice items1.a items1.len items1.cap) ∧ 
 SCalls Try.prog slices_Insert_sl_sorted_item_int_api_Session_sorted_item_int_api_Session.id [.slice items1.a items1.len items1.cap, .int .i64 x, .slice (some (Addr.mk (Array.size H1) 0 none)) 1 1] (Array.push H1 (.cells #[.int .i64 k, .int .i64 vClient, .int .i64 vSeq, .int .i64 vReplyErr, .string vReplyValue] T_sorted_item_int_api_Session)) (fun r1 H2 => ∃ x2 : Sl, r1 = .slice x2.a x2.len x2.cap ∧ WrAt H2 m 1 ∧ Q (.bool true) (Hp.setCell H2 m (.slice x2.a x2.len x2.cap)))))
theorem sorted_Map_int_api_Session_Put.eq (J : Jn) (m : Addr) (k : Int) (vClient : Int) (vSeq : Int) (vReplyErr : Int) (vReplyValue : ByteArray) (H : Hp) (Q : Value → Hp → Prop) : vFn Try.prog sorted_Map_int_api_Session_Put.cf J sorted_Map_int_api_Session_Put.fn [.pointer (some m), .int .i64 k, .agg #[.int .i64 vClient, .int .i64 vSeq, .int .i64 vReplyErr, .string vReplyValue]] H Q = sorted_Map_int_api_Session_Put.vc J m k vClient vSeq vReplyErr vReplyValue H Q := by kernel_rfl
theorem sorted_Map_int_api_Session_Put.calls {m : Addr} {k : Int} {vClient : Int} {vSeq : Int} {vReplyErr : Int} {vReplyValue : ByteArray} {H : Hp} {Q : Value → Hp → Prop} (h : sorted_Map_int_api_Session_Put.vc J0 m k vClient vSeq vReplyErr vReplyValue H Q) : SCalls Try.prog sorted_Map_int_api_Session_Put.id [.pointer (some m), .int .i64 k, .agg #[.int .i64 vClient, .int .i64 vSeq, .int .i64 vReplyErr, .string vReplyValue]] H Q := vFn_of Try.mixed Try.func80 (sorted_Map_int_api_Session_Put.eq J0 m k vClient vSeq vReplyErr vReplyValue H Q) h

/-! 81: (*tephra/sorted.Map_int, tephra/api.Session_).All -/
noncomputable def sorted_Map_int_api_Session_All.cf : Cfg := ⟨[], [], [], [], true, []⟩
noncomputable def sorted_Map_int_api_Session_All.vc (J : Jn) (m : Addr) (H : Hp) (Q : Value → Hp → Prop) : Prop :=
 Q (.func (.func 94) #[] #[.pointer (some (Addr.mk (Array.size H) 0 none))]) (Array.push H (.cells #[.pointer (some m)] T_p_sorted_Map_int_api_Session))
theorem sorted_Map_int_api_Session_All.eq (J : Jn) (m : Addr) (H : Hp) (Q : Value → Hp → Prop) : vFn Try.prog sorted_Map_int_api_Session_All.cf J sorted_Map_int_api_Session_All.fn [.pointer (some m)] H Q = sorted_Map_int_api_Session_All.vc J m H Q := by kernel_rfl
theorem sorted_Map_int_api_Session_All.calls {m : Addr} {H : Hp} {Q : Value → Hp → Prop} (h : sorted_Map_int_api_Session_All.vc J0 m H Q) : SCalls Try.prog sorted_Map_int_api_Session_All.id [.pointer (some m)] H Q := vFn_of Try.mixed Try.func81 (sorted_Map_int_api_Session_All.eq J0 m H Q) h

/-! 83: slices.BinarySearchFunc___tephra/sorted.item_string, string_,tephra/sorted.item_string, string_,string_ -/
noncomputable def slices_BinarySearchFunc_sl_sorted_item_string_string_sorted_item_string_string_string.cf : Cfg := ⟨[], [(3, [0, 1, 2, 8, 9, 10])], [], [], true, []⟩
noncomputable def slices_BinarySearchFunc_sl_sorted_item_string_string_sorted_item_string_string_string.l1.st (x : Sl) (target : ByteArray) (cmp : Fv) (H1 : Hp) (i : Int) (j : Int) : VS := ⟨mkFr 49 [(0, .v (.slice x.a x.len x.cap)), (1, .v (.string target)), (2, .v (.func cmp.fn cmp.fi cmp.ca)), (8, .v (.int .i64 ((x.len : Nat) : Int))), (9, .v (.int .i64 i)), (10, .v (.int .i64 j))], [], H1⟩
noncomputable def slices_BinarySearchFunc_sl_sorted_item_string_string_sorted_item_string_string_string.l1 (J : Jn) (x : Sl) (target : ByteArray) (cmp : Fv) (H1 : Hp) (i : Int) (j : Int) (Q : Value → Hp → Prop) : Prop := vAt Try.prog slices_BinarySearchFunc_sl_sorted_item_string_string_sorted_item_string_string_string.cf J slices_BinarySearchFunc_sl_sorted_item_string_string_sorted_item_string_string_string.fn [1, 1, 1, 0, 0] [0, 0, 0, 0] Q (slices_BinarySearchFunc_sl_sorted_item_string_string_sorted_item_string_string_string.l1.st x target cmp H1 i j)
attribute [irreducible] slices_BinarySearchFunc_sl_sorted_item_string_string_sorted_item_string_string_string.l1
noncomputable def slices_BinarySearchFunc_sl_sorted_item_string_string_sorted_item_string_string_string.l1.body (J : Jn) (x : Sl) (target : ByteArray) (cmp : Fv) (H1 : Hp) (i : Int) (j : Int) (Q : Value → Hp → Prop) : Prop :=
 
 Br (decide (i < j)) ((0 : Int) ≤ 1 ∧ ((0 : Int) ≤ (w64 ((Int.fdiv (IntKind.u64.wrap ((w64 (i + j)))) (2 ^ 1)))) ∧ (w64 ((Int.fdiv (IntKind.u64.wrap ((w64 (i + j)))) (2 ^ 1)))) < ((x.len : Nat) : Int)) ∧ vPtr x.a (fun a => ∃ key : ByteArray, ∃ value : ByteArray, RowAt H1 (a.add (((w64 ((Int.fdiv (IntKind.u64.wrap ((w64 (i + j)))) (2 ^ 1)))) : Int).toNat * 2)) [.string key, .string value] ∧ 
 vInv Try.prog (.func cmp.fn cmp.fi cmp.ca) [.agg #[.string key, .string value], .string target] H1 (fun r H2 => ∃ x1 : Int, r = .int .i64 x1 ∧ 
 Br (decide (x1 < 0)) (
 slices_BinarySearchFunc_sl_sorted_item_string_string_sorted_item_string_string_string.l1 J x target cmp H2 (w64 ((w64 ((Int.fdiv (IntKind.u64.wrap ((w64 (i + j)))) (2 ^ 1)))) + 1)) j Q)
 (
 slices_BinarySearchFunc_sl_sorted_item_string_string_sorted_item_string_string_string.l1 J x target cmp H2 i (w64 ((Int.fdiv (IntKind.u64.wrap ((w64 (i + j)))) (2 ^ 1)))) Q))))
 (
 Br (decide (i < ((x.len : Nat) : Int))) (((0 : Int) ≤ i ∧ i < ((x.len : Nat) : Int)) ∧ vPtr x.a (fun a1 => ∃ key1 : ByteArray, ∃ value1 : ByteArray, RowAt H1 (a1.add ((i : Int).toNat * 2)) [.string key1, .string value1] ∧ 
 vInv Try.prog (.func cmp.fn cmp.fi cmp.ca) [.agg #[.string key1, .string value1], .string target] H1 (fun r1 H3 => ∃ x2 : Int, r1 = .int .i64 x2 ∧ Q (.tuple #[.int .i64 i, .bool (x2 == 0)]) H3)))
 (Q (.tuple #[.int .i64 i, .bool false]) H1))
theorem slices_BinarySearchFunc_sl_sorted_item_string_string_sorted_item_string_string_string.l1.eq (J : Jn) (x : Sl) (target : ByteArray) (cmp : Fv) (H1 : Hp) (i : Int) (j : Int) (Q : Value → Hp → Prop) : vAtBody Try.prog slices_BinarySearchFunc_sl_sorted_item_string_string_sorted_item_string_string_string.cf J slices_BinarySearchFunc_sl_sorted_item_string_string_sorted_item_string_string_string.fn [1, 1, 1, 0, 0] [0, 0, 0, 0] Q (slices_BinarySearchFunc_sl_sorted_item_string_string_sorted_item_string_string_string.l1.st x target cmp H1 i j) = slices_BinarySearchFunc_sl_sorted_item_string_string_sorted_item_string_string_string.l1.body J x target cmp H1 i j Q := by kernel_rfl
theorem slices_BinarySearchFunc_sl_sorted_item_string_string_sorted_item_string_string_string.l1.step {x : Sl} {target : ByteArray} {cmp : Fv} {H1 : Hp} {i : Int} {j : Int} {Q : Value → Hp → Prop} (h : slices_BinarySearchFunc_sl_sorted_item_string_string_sorted_item_string_string_string.l1.body J0 x target cmp H1 i j Q) : slices_BinarySearchFunc_sl_sorted_item_string_string_sorted_item_string_string_string.l1 J0 x target cmp H1 i j Q := vAt_stepC (slices_BinarySearchFunc_sl_sorted_item_string_string_sorted_item_string_string_string.l1.st x target cmp H1 i j) (slices_BinarySearchFunc_sl_sorted_item_string_string_sorted_item_string_string_string.l1.eq J0 x target cmp H1 i j Q) (by kernel_rfl) h
noncomputable def slices_BinarySearchFunc_sl_sorted_item_string_string_sorted_item_string_string_string.vc (J : Jn) (x : Sl) (target : ByteArray) (cmp : Fv) (H : Hp) (Q : Value → Hp → Prop) : Prop :=
 
 slices_BinarySearchFunc_sl_sorted_item_string_string_sorted_item_string_string_string.l1 J x target cmp H 0 ((x.len : Nat) : Int) Q
theorem slices_BinarySearchFunc_sl_sorted_item_string_string_sorted_item_string_string_string.eq (J : Jn) (x : Sl) (target : ByteArray) (cmp : Fv) (H : Hp) (Q : Value → Hp → Prop) : vFn Try.prog slices_BinarySearchFunc_sl_sorted_item_string_string_sorted_item_string_string_string.cf J slices_BinarySearchFunc_sl_sorted_item_string_string_sorted_item_string_string_string.fn [.slice x.a x.len x.cap, .string target, .func cmp.fn cmp.fi cmp.ca] H Q = slices_BinarySearchFunc_sl_sorted_item_string_string_sorted_item_string_string_string.vc J x target cmp H Q := by kernel_rfl
theorem slices_BinarySearchFunc_sl_sorted_item_string_string_sorted_item_string_string_string.calls {x : Sl} {target : ByteArray} {cmp : Fv} {H : Hp} {Q : Value → Hp → Prop} (h : slices_BinarySearchFunc_sl_sorted_item_string_string_sorted_item_string_string_string.vc J0 x target cmp H Q) : SCalls Try.prog slices_BinarySearchFunc_sl_sorted_item_string_string_sorted_item_string_string_string.id [.slice x.a x.len x.cap, .string target, .func cmp.fn cmp.fi cmp.ca] H Q := vFn_of Try.mixed Try.func83 (slices_BinarySearchFunc_sl_sorted_item_string_string_sorted_item_string_string_string.eq J0 x target cmp H Q) h

/-! 84: (*tephra/sorted.Map_string, string_).find$1 -/
noncomputable def sorted_Map_string_string_find_1.cf : Cfg := ⟨[2], [], [], [], true, []⟩
noncomputable def sorted_Map_string_string_find_1.vc (J : Jn) (xkey : ByteArray) (xvalue : ByteArray) (k : ByteArray) (H : Hp) (Q : Value → Hp → Prop) : Prop :=
 
 SCalls Try.prog cmp_Compare_string.id [.string xkey, .string k] (holes H 1) (fun r H1 => ∃ x : Int, r = .int .i64 x ∧ Q (.int .i64 x) H1)
theorem sorted_Map_string_string_find_1.eq (J : Jn) (xkey : ByteArray) (xvalue : ByteArray) (k : ByteArray) (H : Hp) (Q : Value → Hp → Prop) : vFn Try.prog sorted_Map_string_string_find_1.cf J sorted_Map_string_string_find_1.fn [.agg #[.string xkey, .string xvalue], .string k] H Q = sorted_Map_string_string_find_1.vc J xkey xvalue k H Q := by kernel_rfl
theorem sorted_Map_string_string_find_1.calls {xkey : ByteArray} {xvalue : ByteArray} {k : ByteArray} {H : Hp} {Q : Value → Hp → Prop} (h : sorted_Map_string_string_find_1.vc J0 xkey xvalue k H Q) : SCalls Try.prog sorted_Map_string_string_find_1.id [.agg #[.string xkey, .string xvalue], .string k] H Q := vFn_of Try.mixed Try.func84 (sorted_Map_string_string_find_1.eq J0 xkey xvalue k H Q) h

/-! 85: cmp.Compare_string_ -/
noncomputable def cmp_Compare_string.cf : Cfg := ⟨[], [], [], [], true, []⟩
noncomputable def cmp_Compare_string.vc (J : Jn) (x : ByteArray) (y : ByteArray) (H : Hp) (Q : Value → Hp → Prop) : Prop :=
 
 SCalls Try.prog cmp_isNaN_string.id [.string x] H (fun r H1 => ∃ x1 : Bool, r = .bool x1 ∧ 
 SCalls Try.prog cmp_isNaN_string.id [.string y] H1 (fun r1 H2 => ∃ x2 : Bool, r1 = .bool x2 ∧ 
 Br x1 (
 Br x2 (Q (.int .i64 0) H2)
 (Q (.int .i64 (-1)) H2))
 (
 Br x2 (Q (.int .i64 1) H2)
 (
 Br (Op.bytesLess x.toList y.toList) (Q (.int .i64 (-1)) H2)
 (
 Br (!((Op.bytesLess x.toList y.toList) || (x.toList == y.toList))) (Q (.int .i64 1) H2)
 (Q (.int .i64 0) H2))))))
theorem cmp_Compare_string.eq (J : Jn) (x : ByteArray) (y : ByteArray) (H : Hp) (Q : Value → Hp → Prop) : vFn Try.prog cmp_Compare_string.cf J cmp_Compare_string.fn [.string x, .string y] H Q = cmp_Compare_string.vc J x y H Q := by kernel_rfl
theorem cmp_Compare_string.calls {x : ByteArray} {y : ByteArray} {H : Hp} {Q : Value → Hp → Prop} (h : cmp_Compare_string.vc J0 x y H Q) : SCalls Try.prog cmp_Compare_string.id [.string x, .string y] H Q := vFn_of Try.mixed Try.func85 (cmp_Compare_string.eq J0 x y H Q) h

/-! 87: slices.rotateRight_tephra/sorted.item_string, string__ -/
noncomputable def slices_rotateRight_sorted_item_string_string.cf : Cfg := ⟨[], [], [], [], true, []⟩
noncomputable def slices_rotateRight_sorted_item_string_string.vc (J : Jn) (s : Sl) (r : Int) (H : Hp) (Q : Value → Hp → Prop) : Prop :=
 
 SCalls Try.prog slices_rotateLeft_sorted_item_string_string.id [.slice s.a s.len s.cap, .int .i64 (w64 (((s.len : Nat) : Int) - r))] H (fun r1 H1 => r1 = .tuple #[] ∧ Q (.tuple #[]) H1)
theorem slices_rotateRight_sorted_item_string_string.eq (J : Jn) (s : Sl) (r : Int) (H : Hp) (Q : Value → Hp → Prop) : vFn Try.prog slices_rotateRight_sorted_item_string_string.cf J slices_rotateRight_sorted_item_string_string.fn [.slice s.a s.len s.cap, .int .i64 r] H Q = slices_rotateRight_sorted_item_string_string.vc J s r H Q := by kernel_rfl
theorem slices_rotateRight_sorted_item_string_string.calls {s : Sl} {r : Int} {H : Hp} {Q : Value → Hp → Prop} (h : slices_rotateRight_sorted_item_string_string.vc J0 s r H Q) : SCalls Try.prog slices_rotateRight_sorted_item_string_string.id [.slice s.a s.len s.cap, .int .i64 r] H Q := vFn_of Try.mixed Try.func87 (slices_rotateRight_sorted_item_string_string.eq J0 s r H Q) h

/-! 90: (*tephra/sorted.Map_int, tephra/api.Session_).find -/
noncomputable def sorted_Map_int_api_Session_find.cf : Cfg := ⟨[], [], [], [], true, []⟩
noncomputable def sorted_Map_int_api_Session_find.vc (J : Jn) (m : Addr) (k : Int) (H : Hp) (Q : Value → Hp → Prop) : Prop :=
 ∃ items : Sl, Hp.cell? H m = some (.slice items.a items.len items.cap) ∧ 
 SCalls Try.prog slices_BinarySearchFunc_sl_sorted_item_int_api_Session_sorted_item_int_api_Session_int.id [.slice items.a items.len items.cap, .int .i64 k, .func (.func 98) #[] #[]] H (fun r H1 => ∃ x : Int, ∃ x1 : Bool, r = .tuple #[.int .i64 x, .bool x1] ∧ Q (.tuple #[.int .i64 x, .bool x1]) H1)
theorem sorted_Map_int_api_Session_find.eq (J : Jn) (m : Addr) (k : Int) (H : Hp) (Q : Value → Hp → Prop) : vFn Try.prog sorted_Map_int_api_Session_find.cf J sorted_Map_int_api_Session_find.fn [.pointer (some m), .int .i64 k] H Q = sorted_Map_int_api_Session_find.vc J m k H Q := by kernel_rfl
theorem sorted_Map_int_api_Session_find.calls {m : Addr} {k : Int} {H : Hp} {Q : Value → Hp → Prop} (h : sorted_Map_int_api_Session_find.vc J0 m k H Q) : SCalls Try.prog sorted_Map_int_api_Session_find.id [.pointer (some m), .int .i64 k] H Q := vFn_of Try.mixed Try.func90 (sorted_Map_int_api_Session_find.eq J0 m k H Q) h

/-! 91: (*tephra/sorted.Map_string, string_).Len -/
noncomputable def sorted_Map_string_string_Len.cf : Cfg := ⟨[], [], [], [], true, []⟩
noncomputable def sorted_Map_string_string_Len.vc (J : Jn) (m : Addr) (H : Hp) (Q : Value → Hp → Prop) : Prop :=
 ∃ items : Sl, Hp.cell? H m = some (.slice items.a items.len items.cap) ∧ Q (.int .i64 ((items.len : Nat) : Int)) H
theorem sorted_Map_string_string_Len.eq (J : Jn) (m : Addr) (H : Hp) (Q : Value → Hp → Prop) : vFn Try.prog sorted_Map_string_string_Len.cf J sorted_Map_string_string_Len.fn [.pointer (some m)] H Q = sorted_Map_string_string_Len.vc J m H Q := by kernel_rfl
theorem sorted_Map_string_string_Len.calls {m : Addr} {H : Hp} {Q : Value → Hp → Prop} (h : sorted_Map_string_string_Len.vc J0 m H Q) : SCalls Try.prog sorted_Map_string_string_Len.id [.pointer (some m)] H Q := vFn_of Try.mixed Try.func91 (sorted_Map_string_string_Len.eq J0 m H Q) h

/-! 92: (*tephra/sorted.Map_string, string_).Del -/
noncomputable def sorted_Map_string_string_Del.cf : Cfg := ⟨[], [], [], [], true, []⟩
noncomputable def sorted_Map_string_string_Del.vc (J : Jn) (m : Addr) (k : ByteArray) (H : Hp) (Q : Value → Hp → Prop) : Prop :=
 
 SCalls Try.prog sorted_Map_string_string_find.id [.pointer (some m), .string k] H (fun r H1 => ∃ x : Int, ∃ x1 : Bool, r = .tuple #[.int .i64 x, .bool x1] ∧ 
 Br x1 (∃ items : Sl, Hp.cell? H1 m = some (.slice items.a items.len items.cap) ∧ 
 SCalls Try.prog slices_Delete_sl_sorted_item_string_string_sorted_item_string_string.id [.slice items.a items.len items.cap, .int .i64 x, .int .i64 (w64 (x + 1))] H1 (fun r1 H2 => ∃ x2 : Sl, r1 = .slice x2.a x2.len x2.cap ∧ WrAt H2 m 1 ∧ Q (.bool x1) (Hp.setCell H2 m (.slice x2.a x2.len x2.cap))))
 (Q (.bool x1) H1))
theorem sorted_Map_string_string_Del.eq (J : Jn) (m : Addr) (k : ByteArray) (H : Hp) (Q : Value → Hp → Prop) : vFn Try.prog sorted_Map_string_string_Del.cf J sorted_Map_string_string_Del.fn [.pointer (some m), .string k] H Q = sorted_Map_string_string_Del.vc J m k H Q := by kernel_rfl
theorem sorted_Map_string_string_Del.calls {m : Addr} {k : ByteArray} {H : Hp} {Q : Value → Hp → Prop} (h : sorted_Map_string_string_Del.vc J0 m k H Q) : SCalls Try.prog sorted_Map_string_string_Del.id [.pointer (some m), .string k] H Q := vFn_of Try.mixed Try.func92 (sorted_Map_string_string_Del.eq J0 m k H Q) h

/-! 93: slices.Insert___tephra/sorted.item_int, tephra/api.Session_,tephra/sorted.item_int, tephra/api.Session__ -/
noncomputable def slices_Insert_sl_sorted_item_int_api_Session_sorted_item_int_api_Session.cf : Cfg := ⟨[], [], [], [], true, []⟩
noncomputable def slices_Insert_sl_sorted_item_int_api_Session_sorted_item_int_api_Session.vc (J : Jn) (s : Sl) (i : Int) (v : Sl) (H : Hp) (Q : Value → Hp → Prop) : Prop :=
 ((0 : Int) ≤ i ∧ i ≤ ((s.len : Nat) : Int)) ∧ 
 Br (((v.len : Nat) : Int) == 0) (Q (.slice s.a s.len s.cap) H)
 (
 Br (i == ((s.len : Nat) : Int)) (
 vApp Try.prog T_sl_sorted_item_int_api_Session s.a s.len s.cap (.slice v.a v.len v.cap) H (fun ap H1 => Q (.slice ap.a ap.len ap.cap) H1))
 (
 Br (decide ((w64 (((s.len : Nat) : Int) + ((v.len : Nat) : Int))) > ((s.cap : Nat) : Int))) (((0 : Int) ≤ i ∧ i ≤ ((s.cap : Nat) : Int)) ∧ 
 vAppZ Try.prog T_sl_sorted_item_int_api_Session (cutA s.a s.cap 0 5) ((i : Int).toNat) s.cap (w64 ((w64 (((s.len : Nat) : Int) + ((v.len : Nat) : Int))) - i)) H (fun ap1 H2 => ((0 : Int) ≤ i ∧ i ≤ ((ap1.len : Nat) : Int)) ∧ 
 vCopy Try.prog T_sl_sorted_item_int_api_Session (cutA ap1.a ap1.cap ((i : Int).toNat) 5) (ap1.len - ((i : Int).toNat)) (.slice v.a v.len v.cap) H2 (fun n H3 => ((0 : Int) ≤ (w64 (i + ((v.len : Nat) : Int))) ∧ (w64 (i + ((v.len : Nat) : Int))) ≤ ((ap1.len : Nat) : Int)) ∧ ((0 : Int) ≤ i ∧ i ≤ ((s.len : Nat) : Int)) ∧ 
 vCopy Try.prog T_sl_sorted_item_int_api_Session (cutA ap1.a ap1.cap (((w64 (i + ((v.len : Nat) : Int))) : Int).toNat) 5) (ap1.len - (((w64 (i + ((v.len : Nat) : Int))) : Int).toNat)) (.slice (cutA s.a s.cap ((i : Int).toNat) 5) (s.len - ((i : Int).toNat)) (s.cap - ((i : Int).toNat))) H3 (fun n1 H4 => Q (.slice ap1.a ap1.len ap1.cap) H4))))
 (((0 : Int) ≤ (w64 (((s.len : Nat) : Int) + ((v.len : Nat) : Int))) ∧ (w64 (((s.len : Nat) : Int) + ((v.len : Nat) : Int))) ≤ ((s.cap : Nat) : Int)) ∧ ((0 : Int) ≤ (w64 (i + ((v.len : Nat) : Int))) ∧ (w64 (i + ((v.len : Nat) : Int))) ≤ (((((w64 (((s.len : Nat) : Int) + ((v.len : Nat) : Int))) : Int).toNat) : Nat) : Int)) ∧ 
 ExtC Try.prog 101 [.slice v.a v.len v.cap, .slice (cutA (cutA s.a s.cap 0 5) s.cap (((w64 (i + ((v.len : Nat) : Int))) : Int).toNat) 5) ((((w64 (((s.len : Nat) : Int) + ((v.len : Nat) : Int))) : Int).toNat) - (((w64 (i + ((v.len : Nat) : Int))) : Int).toNat)) (s.cap - (((w64 (i + ((v.len : Nat) : Int))) : Int).toNat))] H (fun r H5 => ∃ x : Bool, r = .bool x ∧ 
 Br (!x) (((0 : Int) ≤ (w64 (i + ((v.len : Nat) : Int))) ∧ (w64 (i + ((v.len : Nat) : Int))) ≤ (((((w64 (((s.len : Nat) : Int) + ((v.len : Nat) : Int))) : Int).toNat) : Nat) : Int)) ∧ ((0 : Int) ≤ i ∧ i ≤ (((((w64 (((s.len : Nat) : Int) + ((v.len : Nat) : Int))) : Int).toNat) : Nat) : Int)) ∧ 
 vCopy Try.prog T_sl_sorted_item_int_api_Session (cutA (cutA s.a s.cap 0 5) s.cap (((w64 (i + ((v.len : Nat) : Int))) : Int).toNat) 5) ((((w64 (((s.len : Nat) : Int) + ((v.len : Nat) : Int))) : Int).toNat) - (((w64 (i + ((v.len : Nat) : Int))) : Int).toNat)) (.slice (cutA (cutA s.a s.cap 0 5) s.cap ((i : Int).toNat) 5) ((((w64 (((s.len : Nat) : Int) + ((v.len : Nat) : Int))) : Int).toNat) - ((i : Int).toNat)) (s.cap - ((i : Int).toNat))) H5 (fun n2 H6 => ((0 : Int) ≤ i ∧ i ≤ (((((w64 (((s.len : Nat) : Int) + ((v.len : Nat) : Int))) : Int).toNat) : Nat) : Int)) ∧ 
 vCopy Try.prog T_sl_sorted_item_int_api_Session (cutA (cutA s.a s.cap 0 5) s.cap ((i : Int).toNat) 5) ((((w64 (((s.len : Nat) : Int) + ((v.len : Nat) : Int))) : Int).toNat) - ((i : Int).toNat)) (.slice v.a v.len v.cap) H6 (fun n3 H7 => Q (.slice (cutA s.a s.cap 0 5) (((w64 (((s.len : Nat) : Int) + ((v.len : Nat) : Int))) : Int).toNat) s.cap) H7)))
 (((0 : Int) ≤ ((s.len : Nat) : Int) ∧ ((s.len : Nat) : Int) ≤ (((((w64 (((s.len : Nat) : Int) + ((v.len : Nat) : Int))) : Int).toNat) : Nat) : Int)) ∧ 
 vCopy Try.prog T_sl_sorted_item_int_api_Session (cutA (cutA s.a s.cap 0 5) s.cap ((((s.len : Nat) : Int) : Int).toNat) 5) ((((w64 (((s.len : Nat) : Int) + ((v.len : Nat) : Int))) : Int).toNat) - ((((s.len : Nat) : Int) : Int).toNat)) (.slice v.a v.len v.cap) H5 (fun n4 H8 => ((0 : Int) ≤ i ∧ i ≤ (((((w64 (((s.len : Nat) : Int) + ((v.len : Nat) : Int))) : Int).toNat) : Nat) : Int)) ∧ 
 SCalls Try.prog slices_rotateRight_sorted_item_int_api_Session.id [.slice (cutA (cutA s.a s.cap 0 5) s.cap ((i : Int).toNat) 5) ((((w64 (((s.len : Nat) : Int) + ((v.len : Nat) : Int))) : Int).toNat) - ((i : Int).toNat)) (s.cap - ((i : Int).toNat)), .int .i64 ((v.len : Nat) : Int)] H8 (fun r1 H9 => r1 = .tuple #[] ∧ Q (.slice (cutA s.a s.cap 0 5) (((w64 (((s.len : Nat) : Int) + ((v.len : Nat) : Int))) : Int).toNat) s.cap) H9)))))))
theorem slices_Insert_sl_sorted_item_int_api_Session_sorted_item_int_api_Session.eq (J : Jn) (s : Sl) (i : Int) (v : Sl) (H : Hp) (Q : Value → Hp → Prop) : vFn Try.prog slices_Insert_sl_sorted_item_int_api_Session_sorted_item_int_api_Session.cf J slices_Insert_sl_sorted_item_int_api_Session_sorted_item_int_api_Session.fn [.slice s.a s.len s.cap, .int .i64 i, .slice v.a v.len v.cap] H Q = slices_Insert_sl_sorted_item_int_api_Session_sorted_item_int_api_Session.vc J s i v H Q := by kernel_rfl
theorem slices_Insert_sl_sorted_item_int_api_Session_sorted_item_int_api_Session.calls {s : Sl} {i : Int} {v : Sl} {H : Hp} {Q : Value → Hp → Prop} (h : slices_Insert_sl_sorted_item_int_api_Session_sorted_item_int_api_Session.vc J0 s i v H Q) : SCalls Try.prog slices_Insert_sl_sorted_item_int_api_Session_sorted_item_int_api_Session.id [.slice s.a s.len s.cap, .int .i64 i, .slice v.a v.len v.cap] H Q := vFn_of Try.mixed Try.func93 (slices_Insert_sl_sorted_item_int_api_Session_sorted_item_int_api_Session.eq J0 s i v H Q) h

/-! 94: (*tephra/sorted.Map_int, tephra/api.Session_).All$1 -/
noncomputable def sorted_Map_int_api_Session_All_1.cf : Cfg := ⟨[4], [(1, [0, 8, 9, 10])], [], [], true, []⟩
noncomputable def sorted_Map_int_api_Session_All_1.l1.st (yield : Fv) (items : Sl) (H1 : Hp) (x1 : Int) : VS := ⟨mkFr 22 [(0, .v (.func yield.fn yield.fi yield.ca)), (8, .v (.slice items.a items.len items.cap)), (9, .v (.int .i64 ((items.len : Nat) : Int))), (10, .v (.int .i64 x1))], [], H1⟩
noncomputable def sorted_Map_int_api_Session_All_1.l1 (J : Jn) (yield : Fv) (items : Sl) (H1 : Hp) (x1 : Int) (Q : Value → Hp → Prop) : Prop := vAt Try.prog sorted_Map_int_api_Session_All_1.cf J sorted_Map_int_api_Session_All_1.fn [1, 0] [0] Q (sorted_Map_int_api_Session_All_1.l1.st yield items H1 x1)
attribute [irreducible] sorted_Map_int_api_Session_All_1.l1
noncomputable def sorted_Map_int_api_Session_All_1.l1.body (J : Jn) (yield : Fv) (items : Sl) (H1 : Hp) (x1 : Int) (Q : Value → Hp → Prop) : Prop :=
 
 Br (decide (x1 < ((items.len : Nat) : Int))) (((0 : Int) ≤ x1 ∧ x1 < ((items.len : Nat) : Int)) ∧ vPtr items.a (fun a1 => ∃ key : Int, ∃ valueClient : Int, ∃ valueSeq : Int, ∃ valueReplyErr : Int, ∃ valueReplyValue : ByteArray, RowAt H1 (a1.add ((x1 : Int).toNat * 5)) [.int .i64 key, .int .i64 valueClient, .int .i64 valueSeq, .int .i64 valueReplyErr, .string valueReplyValue] ∧ 
 vInv Try.prog (.func yield.fn yield.fi yield.ca) [.int .i64 key, .agg #[.int .i64 valueClient, .int .i64 valueSeq, .int .i64 valueReplyErr, .string valueReplyValue]] (holes H1 1) (fun r H2 => ∃ x2 : Bool, r = .bool x2 ∧ 
 Br (!x2) (Q (.tuple #[]) H2)
 (
 sorted_Map_int_api_Session_All_1.l1 J yield items H2 (w64 (x1 + 1)) Q))))
 (Q (.tuple #[]) H1)
theorem sorted_Map_int_api_Session_All_1.l1.eq (J : Jn) (yield : Fv) (items : Sl) (H1 : Hp) (x1 : Int) (Q : Value → Hp → Prop) : vAtBody Try.prog sorted_Map_int_api_Session_All_1.cf J sorted_Map_int_api_Session_All_1.fn [1, 0] [0] Q (sorted_Map_int_api_Session_All_1.l1.st yield items H1 x1) = sorted_Map_int_api_Session_All_1.l1.body J yield items H1 x1 Q := by kernel_rfl
theorem sorted_Map_int_api_Session_All_1.l1.step {yield : Fv} {items : Sl} {H1 : Hp} {x1 : Int} {Q : Value → Hp → Prop} (h : sorted_Map_int_api_Session_All_1.l1.body J0 yield items H1 x1 Q) : sorted_Map_int_api_Session_All_1.l1 J0 yield items H1 x1 Q := vAt_stepC (sorted_Map_int_api_Session_All_1.l1.st yield items H1 x1) (sorted_Map_int_api_Session_All_1.l1.eq J0 yield items H1 x1 Q) (by kernel_rfl) h
noncomputable def sorted_Map_int_api_Session_All_1.vc (J : Jn) (yield : Fv) (cap0 : Addr) (H : Hp) (Q : Value → Hp → Prop) : Prop :=
 ∃ x : Option Addr, Hp.cell? H cap0 = some (.pointer x) ∧ vPtr x (fun a => ∃ items : Sl, Hp.cell? H a = some (.slice items.a items.len items.cap) ∧ 
 sorted_Map_int_api_Session_All_1.l1 J yield items H 0 Q)
theorem sorted_Map_int_api_Session_All_1.eq (J : Jn) (yield : Fv) (cap0 : Addr) (H : Hp) (Q : Value → Hp → Prop) : vFn Try.prog sorted_Map_int_api_Session_All_1.cf J sorted_Map_int_api_Session_All_1.fn [.func yield.fn yield.fi yield.ca, .pointer (some cap0)] H Q = sorted_Map_int_api_Session_All_1.vc J yield cap0 H Q := by kernel_rfl
theorem sorted_Map_int_api_Session_All_1.calls {yield : Fv} {cap0 : Addr} {H : Hp} {Q : Value → Hp → Prop} (h : sorted_Map_int_api_Session_All_1.vc J0 yield cap0 H Q) : SCalls Try.prog sorted_Map_int_api_Session_All_1.id [.func yield.fn yield.fi yield.ca, .pointer (some cap0)] H Q := vFn_of Try.mixed Try.func94 (sorted_Map_int_api_Session_All_1.eq J0 yield cap0 H Q) h

/-! 95: cmp.isNaN_string_ -/
noncomputable def cmp_isNaN_string.cf : Cfg := ⟨[], [], [], [], true, []⟩
noncomputable def cmp_isNaN_string.vc (J : Jn) (x : ByteArray) (H : Hp) (Q : Value → Hp → Prop) : Prop :=
 Q (.bool (!(x.toList == x.toList))) H
theorem cmp_isNaN_string.eq (J : Jn) (x : ByteArray) (H : Hp) (Q : Value → Hp → Prop) : vFn Try.prog cmp_isNaN_string.cf J cmp_isNaN_string.fn [.string x] H Q = cmp_isNaN_string.vc J x H Q := by kernel_rfl
theorem cmp_isNaN_string.calls {x : ByteArray} {H : Hp} {Q : Value → Hp → Prop} (h : cmp_isNaN_string.vc J0 x H Q) : SCalls Try.prog cmp_isNaN_string.id [.string x] H Q := vFn_of Try.mixed Try.func95 (cmp_isNaN_string.eq J0 x H Q) h

/-! 96: slices.rotateLeft_tephra/sorted.item_string, string__ -/
noncomputable def slices_rotateLeft_sorted_item_string_string.cf : Cfg := ⟨[], [], [], [], true, []⟩
noncomputable def slices_rotateLeft_sorted_item_string_string.vc (J : Jn) (s : Sl) (r : Int) (H : Hp) (Q : Value → Hp → Prop) : Prop :=
 ((0 : Int) ≤ r ∧ r ≤ ((s.cap : Nat) : Int)) ∧ 
 SCalls Try.prog slices_Reverse_sl_sorted_item_string_string_sorted_item_string_string.id [.slice (cutA s.a s.cap 0 2) ((r : Int).toNat) s.cap] H (fun r1 H1 => r1 = .tuple #[] ∧ ((0 : Int) ≤ r ∧ r ≤ ((s.len : Nat) : Int)) ∧ 
 SCalls Try.prog slices_Reverse_sl_sorted_item_string_string_sorted_item_string_string.id [.slice (cutA s.a s.cap ((r : Int).toNat) 2) (s.len - ((r : Int).toNat)) (s.cap - ((r : Int).toNat))] H1 (fun r2 H2 => r2 = .tuple #[] ∧ 
 SCalls Try.prog slices_Reverse_sl_sorted_item_string_string_sorted_item_string_string.id [.slice s.a s.len s.cap] H2 (fun r3 H3 => r3 = .tuple #[] ∧ Q (.tuple #[]) H3)))
theorem slices_rotateLeft_sorted_item_string_string.eq (J : Jn) (s : Sl) (r : Int) (H : Hp) (Q : Value → Hp → Prop) : vFn Try.prog slices_rotateLeft_sorted_item_string_string.cf J slices_rotateLeft_sorted_item_string_string.fn [.slice s.a s.len s.cap, .int .i64 r] H Q = slices_rotateLeft_sorted_item_string_string.vc J s r H Q := by kernel_rfl
theorem slices_rotateLeft_sorted_item_string_string.calls {s : Sl} {r : Int} {H : Hp} {Q : Value → Hp → Prop} (h : slices_rotateLeft_sorted_item_string_string.vc J0 s r H Q) : SCalls Try.prog slices_rotateLeft_sorted_item_string_string.id [.slice s.a s.len s.cap, .int .i64 r] H Q := vFn_of Try.mixed Try.func96 (slices_rotateLeft_sorted_item_string_string.eq J0 s r H Q) h

/-! 97: slices.BinarySearchFunc___tephra/sorted.item_int, tephra/api.Session_,tephra/sorted.item_int, tephra/api.Session_,int_ -/
noncomputable def slices_BinarySearchFunc_sl_sorted_item_int_api_Session_sorted_item_int_api_Session_int.cf : Cfg := ⟨[], [(3, [0, 1, 2, 8, 9, 10])], [], [], true, []⟩
noncomputable def slices_BinarySearchFunc_sl_sorted_item_int_api_Session_sorted_item_int_api_Session_int.l1.st (x : Sl) (target : Int) (cmp : Fv) (H1 : Hp) (i : Int) (j : Int) : VS := ⟨mkFr 49 [(0, .v (.slice x.a x.len x.cap)), (1, .v (.int .i64 target)), (2, .v (.func cmp.fn cmp.fi cmp.ca)), (8, .v (.int .i64 ((x.len : Nat) : Int))), (9, .v (.int .i64 i)), (10, .v (.int .i64 j))], [], H1⟩
noncomputable def slices_BinarySearchFunc_sl_sorted_item_int_api_Session_sorted_item_int_api_Session_int.l1 (J : Jn) (x : Sl) (target : Int) (cmp : Fv) (H1 : Hp) (i : Int) (j : Int) (Q : Value → Hp → Prop) : Prop := vAt Try.prog slices_BinarySearchFunc_sl_sorted_item_int_api_Session_sorted_item_int_api_Session_int.cf J slices_BinarySearchFunc_sl_sorted_item_int_api_Session_sorted_item_int_api_Session_int.fn [1, 1, 1, 0, 0] [0, 0, 0, 0] Q (slices_BinarySearchFunc_sl_sorted_item_int_api_Session_sorted_item_int_api_Session_int.l1.st x target cmp H1 i j)
attribute [irreducible] slices_BinarySearchFunc_sl_sorted_item_int_api_Session_sorted_item_int_api_Session_int.l1
noncomputable def slices_BinarySearchFunc_sl_sorted_item_int_api_Session_sorted_item_int_api_Session_int.l1.body (J : Jn) (x : Sl) (target : Int) (cmp : Fv) (H1 : Hp) (i : Int) (j : Int) (Q : Value → Hp → Prop) : Prop :=
 
 Br (decide (i < j)) ((0 : Int) ≤ 1 ∧ ((0 : Int) ≤ (w64 ((Int.fdiv (IntKind.u64.wrap ((w64 (i + j)))) (2 ^ 1)))) ∧ (w64 ((Int.fdiv (IntKind.u64.wrap ((w64 (i + j)))) (2 ^ 1)))) < ((x.len : Nat) : Int)) ∧ vPtr x.a (fun a => ∃ key : Int, ∃ valueClient : Int, ∃ valueSeq : Int, ∃ valueReplyErr : Int, ∃ valueReplyValue : ByteArray, RowAt H1 (a.add (((w64 ((Int.fdiv (IntKind.u64.wrap ((w64 (i + j)))) (2 ^ 1)))) : Int).toNat * 5)) [.int .i64 key, .int .i64 valueClient, .int .i64 valueSeq, .int .i64 valueReplyErr, .string valueReplyValue] ∧ 
 vInv Try.prog (.func cmp.fn cmp.fi cmp.ca) [.agg #[.int .i64 key, .int .i64 valueClient, .int .i64 valueSeq, .int .i64 valueReplyErr, .string valueReplyValue], .int .i64 target] H1 (fun r H2 => ∃ x1 : Int, r = .int .i64 x1 ∧ 
 Br (decide (x1 < 0)) (
 slices_BinarySearchFunc_sl_sorted_item_int_api_Session_sorted_item_int_api_Session_int.l1 J x target cmp H2 (w64 ((w64 ((Int.fdiv (IntKind.u64.wrap ((w64 (i + j)))) (2 ^ 1)))) + 1)) j Q)
 (
 slices_BinarySearchFunc_sl_sorted_item_int_api_Session_sorted_item_int_api_Session_int.l1 J x target cmp H2 i (w64 ((Int.fdiv (IntKind.u64.wrap ((w64 (i + j)))) (2 ^ 1)))) Q))))
 (
 Br (decide (i < ((x.len : Nat) : Int))) (((0 : Int) ≤ i ∧ i < ((x.len : Nat) : Int)) ∧ vPtr x.a (fun a1 => ∃ key1 : Int, ∃ valueClient1 : Int, ∃ valueSeq1 : Int, ∃ valueReplyErr1 : Int, ∃ valueReplyValue1 : ByteArray, RowAt H1 (a1.add ((i : Int).toNat * 5)) [.int .i64 key1, .int .i64 valueClient1, .int .i64 valueSeq1, .int .i64 valueReplyErr1, .string valueReplyValue1] ∧ 
 vInv Try.prog (.func cmp.fn cmp.fi cmp.ca) [.agg #[.int .i64 key1, .int .i64 valueClient1, .int .i64 valueSeq1, .int .i64 valueReplyErr1, .string valueReplyValue1], .int .i64 target] H1 (fun r1 H3 => ∃ x2 : Int, r1 = .int .i64 x2 ∧ Q (.tuple #[.int .i64 i, .bool (x2 == 0)]) H3)))
 (Q (.tuple #[.int .i64 i, .bool false]) H1))
theorem slices_BinarySearchFunc_sl_sorted_item_int_api_Session_sorted_item_int_api_Session_int.l1.eq (J : Jn) (x : Sl) (target : Int) (cmp : Fv) (H1 : Hp) (i : Int) (j : Int) (Q : Value → Hp → Prop) : vAtBody Try.prog slices_BinarySearchFunc_sl_sorted_item_int_api_Session_sorted_item_int_api_Session_int.cf J slices_BinarySearchFunc_sl_sorted_item_int_api_Session_sorted_item_int_api_Session_int.fn [1, 1, 1, 0, 0] [0, 0, 0, 0] Q (slices_BinarySearchFunc_sl_sorted_item_int_api_Session_sorted_item_int_api_Session_int.l1.st x target cmp H1 i j) = slices_BinarySearchFunc_sl_sorted_item_int_api_Session_sorted_item_int_api_Session_int.l1.body J x target cmp H1 i j Q := by kernel_rfl
theorem slices_BinarySearchFunc_sl_sorted_item_int_api_Session_sorted_item_int_api_Session_int.l1.step {x : Sl} {target : Int} {cmp : Fv} {H1 : Hp} {i : Int} {j : Int} {Q : Value → Hp → Prop} (h : slices_BinarySearchFunc_sl_sorted_item_int_api_Session_sorted_item_int_api_Session_int.l1.body J0 x target cmp H1 i j Q) : slices_BinarySearchFunc_sl_sorted_item_int_api_Session_sorted_item_int_api_Session_int.l1 J0 x target cmp H1 i j Q := vAt_stepC (slices_BinarySearchFunc_sl_sorted_item_int_api_Session_sorted_item_int_api_Session_int.l1.st x target cmp H1 i j) (slices_BinarySearchFunc_sl_sorted_item_int_api_Session_sorted_item_int_api_Session_int.l1.eq J0 x target cmp H1 i j Q) (by kernel_rfl) h
noncomputable def slices_BinarySearchFunc_sl_sorted_item_int_api_Session_sorted_item_int_api_Session_int.vc (J : Jn) (x : Sl) (target : Int) (cmp : Fv) (H : Hp) (Q : Value → Hp → Prop) : Prop :=
 
 slices_BinarySearchFunc_sl_sorted_item_int_api_Session_sorted_item_int_api_Session_int.l1 J x target cmp H 0 ((x.len : Nat) : Int) Q
theorem slices_BinarySearchFunc_sl_sorted_item_int_api_Session_sorted_item_int_api_Session_int.eq (J : Jn) (x : Sl) (target : Int) (cmp : Fv) (H : Hp) (Q : Value → Hp → Prop) : vFn Try.prog slices_BinarySearchFunc_sl_sorted_item_int_api_Session_sorted_item_int_api_Session_int.cf J slices_BinarySearchFunc_sl_sorted_item_int_api_Session_sorted_item_int_api_Session_int.fn [.slice x.a x.len x.cap, .int .i64 target, .func cmp.fn cmp.fi cmp.ca] H Q = slices_BinarySearchFunc_sl_sorted_item_int_api_Session_sorted_item_int_api_Session_int.vc J x target cmp H Q := by kernel_rfl
theorem slices_BinarySearchFunc_sl_sorted_item_int_api_Session_sorted_item_int_api_Session_int.calls {x : Sl} {target : Int} {cmp : Fv} {H : Hp} {Q : Value → Hp → Prop} (h : slices_BinarySearchFunc_sl_sorted_item_int_api_Session_sorted_item_int_api_Session_int.vc J0 x target cmp H Q) : SCalls Try.prog slices_BinarySearchFunc_sl_sorted_item_int_api_Session_sorted_item_int_api_Session_int.id [.slice x.a x.len x.cap, .int .i64 target, .func cmp.fn cmp.fi cmp.ca] H Q := vFn_of Try.mixed Try.func97 (slices_BinarySearchFunc_sl_sorted_item_int_api_Session_sorted_item_int_api_Session_int.eq J0 x target cmp H Q) h

/-! 98: (*tephra/sorted.Map_int, tephra/api.Session_).find$1 -/
noncomputable def sorted_Map_int_api_Session_find_1.cf : Cfg := ⟨[2], [], [], [], true, []⟩
noncomputable def sorted_Map_int_api_Session_find_1.vc (J : Jn) (xkey : Int) (xvalueClient : Int) (xvalueSeq : Int) (xvalueReplyErr : Int) (xvalueReplyValue : ByteArray) (k : Int) (H : Hp) (Q : Value → Hp → Prop) : Prop :=
 
 SCalls Try.prog cmp_Compare_int.id [.int .i64 xkey, .int .i64 k] (holes H 1) (fun r H1 => ∃ x : Int, r = .int .i64 x ∧ Q (.int .i64 x) H1)
theorem sorted_Map_int_api_Session_find_1.eq (J : Jn) (xkey : Int) (xvalueClient : Int) (xvalueSeq : Int) (xvalueReplyErr : Int) (xvalueReplyValue : ByteArray) (k : Int) (H : Hp) (Q : Value → Hp → Prop) : vFn Try.prog sorted_Map_int_api_Session_find_1.cf J sorted_Map_int_api_Session_find_1.fn [.agg #[.int .i64 xkey, .int .i64 xvalueClient, .int .i64 xvalueSeq, .int .i64 xvalueReplyErr, .string xvalueReplyValue], .int .i64 k] H Q = sorted_Map_int_api_Session_find_1.vc J xkey xvalueClient xvalueSeq xvalueReplyErr xvalueReplyValue k H Q := by kernel_rfl
theorem sorted_Map_int_api_Session_find_1.calls {xkey : Int} {xvalueClient : Int} {xvalueSeq : Int} {xvalueReplyErr : Int} {xvalueReplyValue : ByteArray} {k : Int} {H : Hp} {Q : Value → Hp → Prop} (h : sorted_Map_int_api_Session_find_1.vc J0 xkey xvalueClient xvalueSeq xvalueReplyErr xvalueReplyValue k H Q) : SCalls Try.prog sorted_Map_int_api_Session_find_1.id [.agg #[.int .i64 xkey, .int .i64 xvalueClient, .int .i64 xvalueSeq, .int .i64 xvalueReplyErr, .string xvalueReplyValue], .int .i64 k] H Q := vFn_of Try.mixed Try.func98 (sorted_Map_int_api_Session_find_1.eq J0 xkey xvalueClient xvalueSeq xvalueReplyErr xvalueReplyValue k H Q) h

/-! 99: cmp.Compare_int_ -/
noncomputable def cmp_Compare_int.cf : Cfg := ⟨[], [], [], [], true, []⟩
noncomputable def cmp_Compare_int.vc (J : Jn) (x : Int) (y : Int) (H : Hp) (Q : Value → Hp → Prop) : Prop :=
 
 SCalls Try.prog cmp_isNaN_int.id [.int .i64 x] H (fun r H1 => ∃ x1 : Bool, r = .bool x1 ∧ 
 SCalls Try.prog cmp_isNaN_int.id [.int .i64 y] H1 (fun r1 H2 => ∃ x2 : Bool, r1 = .bool x2 ∧ 
 Br x1 (
 Br x2 (Q (.int .i64 0) H2)
 (Q (.int .i64 (-1)) H2))
 (
 Br x2 (Q (.int .i64 1) H2)
 (
 Br (decide (x < y)) (Q (.int .i64 (-1)) H2)
 (
 Br (decide (x > y)) (Q (.int .i64 1) H2)
 (Q (.int .i64 0) H2))))))
theorem cmp_Compare_int.eq (J : Jn) (x : Int) (y : Int) (H : Hp) (Q : Value → Hp → Prop) : vFn Try.prog cmp_Compare_int.cf J cmp_Compare_int.fn [.int .i64 x, .int .i64 y] H Q = cmp_Compare_int.vc J x y H Q := by kernel_rfl
theorem cmp_Compare_int.calls {x : Int} {y : Int} {H : Hp} {Q : Value → Hp → Prop} (h : cmp_Compare_int.vc J0 x y H Q) : SCalls Try.prog cmp_Compare_int.id [.int .i64 x, .int .i64 y] H Q := vFn_of Try.mixed Try.func99 (cmp_Compare_int.eq J0 x y H Q) h

/-! 100: slices.Delete___tephra/sorted.item_string, string_,tephra/sorted.item_string, string__ -/
noncomputable def slices_Delete_sl_sorted_item_string_string_sorted_item_string_string.cf : Cfg := ⟨[], [], [], [], true, []⟩
noncomputable def slices_Delete_sl_sorted_item_string_string_sorted_item_string_string.vc (J : Jn) (s : Sl) (i : Int) (j : Int) (H : Hp) (Q : Value → Hp → Prop) : Prop :=
 ((0 : Int) ≤ ((s.len : Nat) : Int) ∧ ((s.len : Nat) : Int) ≤ ((s.cap : Nat) : Int)) ∧ ((0 : Int) ≤ j ∧ j ≤ ((((((s.len : Nat) : Int) : Int).toNat) : Nat) : Int)) ∧ ((0 : Int) ≤ i ∧ i ≤ ((((j : Int).toNat) : Nat) : Int)) ∧ 
 Br (i == j) (Q (.slice s.a s.len s.cap) H)
 (((0 : Int) ≤ i ∧ i ≤ ((s.cap : Nat) : Int)) ∧ ((0 : Int) ≤ j ∧ j ≤ ((s.len : Nat) : Int)) ∧ 
 vApp Try.prog T_sl_sorted_item_string_string (cutA s.a s.cap 0 2) ((i : Int).toNat) s.cap (.slice (cutA s.a s.cap ((j : Int).toNat) 2) (s.len - ((j : Int).toNat)) (s.cap - ((j : Int).toNat))) H (fun ap H1 => ((0 : Int) ≤ ((s.len : Nat) : Int) ∧ ((s.len : Nat) : Int) ≤ ((ap.cap : Nat) : Int)) ∧ ((0 : Int) ≤ ((ap.len : Nat) : Int) ∧ ((ap.len : Nat) : Int) ≤ ((((((s.len : Nat) : Int) : Int).toNat) : Nat) : Int)) ∧ 
 vClear Try.prog T_sl_sorted_item_string_string (cutA ap.a ap.cap ((((ap.len : Nat) : Int) : Int).toNat) 2) (((((s.len : Nat) : Int) : Int).toNat) - ((((ap.len : Nat) : Int) : Int).toNat)) H1 (fun H2 => Q (.slice ap.a ap.len ap.cap) H2)))
theorem slices_Delete_sl_sorted_item_string_string_sorted_item_string_string.eq (J : Jn) (s : Sl) (i : Int) (j : Int) (H : Hp) (Q : Value → Hp → Prop) : vFn Try.prog slices_Delete_sl_sorted_item_string_string_sorted_item_string_string.cf J slices_Delete_sl_sorted_item_string_string_sorted_item_string_string.fn [.slice s.a s.len s.cap, .int .i64 i, .int .i64 j] H Q = slices_Delete_sl_sorted_item_string_string_sorted_item_string_string.vc J s i j H Q := by kernel_rfl
theorem slices_Delete_sl_sorted_item_string_string_sorted_item_string_string.calls {s : Sl} {i : Int} {j : Int} {H : Hp} {Q : Value → Hp → Prop} (h : slices_Delete_sl_sorted_item_string_string_sorted_item_string_string.vc J0 s i j H Q) : SCalls Try.prog slices_Delete_sl_sorted_item_string_string_sorted_item_string_string.id [.slice s.a s.len s.cap, .int .i64 i, .int .i64 j] H Q := vFn_of Try.mixed Try.func100 (slices_Delete_sl_sorted_item_string_string_sorted_item_string_string.eq J0 s i j H Q) h

/-! 102: slices.rotateRight_tephra/sorted.item_int, tephra/api.Session__ -/
noncomputable def slices_rotateRight_sorted_item_int_api_Session.cf : Cfg := ⟨[], [], [], [], true, []⟩
noncomputable def slices_rotateRight_sorted_item_int_api_Session.vc (J : Jn) (s : Sl) (r : Int) (H : Hp) (Q : Value → Hp → Prop) : Prop :=
 
 SCalls Try.prog slices_rotateLeft_sorted_item_int_api_Session.id [.slice s.a s.len s.cap, .int .i64 (w64 (((s.len : Nat) : Int) - r))] H (fun r1 H1 => r1 = .tuple #[] ∧ Q (.tuple #[]) H1)
theorem slices_rotateRight_sorted_item_int_api_Session.eq (J : Jn) (s : Sl) (r : Int) (H : Hp) (Q : Value → Hp → Prop) : vFn Try.prog slices_rotateRight_sorted_item_int_api_Session.cf J slices_rotateRight_sorted_item_int_api_Session.fn [.slice s.a s.len s.cap, .int .i64 r] H Q = slices_rotateRight_sorted_item_int_api_Session.vc J s r H Q := by kernel_rfl
theorem slices_rotateRight_sorted_item_int_api_Session.calls {s : Sl} {r : Int} {H : Hp} {Q : Value → Hp → Prop} (h : slices_rotateRight_sorted_item_int_api_Session.vc J0 s r H Q) : SCalls Try.prog slices_rotateRight_sorted_item_int_api_Session.id [.slice s.a s.len s.cap, .int .i64 r] H Q := vFn_of Try.mixed Try.func102 (slices_rotateRight_sorted_item_int_api_Session.eq J0 s r H Q) h

/-! 103: slices.Reverse___tephra/sorted.item_string, string_,tephra/sorted.item_string, string__ -/
noncomputable def slices_Reverse_sl_sorted_item_string_string_sorted_item_string_string.cf : Cfg := ⟨[], [(1, [0, 2, 3])], [], [], true, []⟩
noncomputable def slices_Reverse_sl_sorted_item_string_string_sorted_item_string_string.l1.st (s : Sl) (H1 : Hp) (i : Int) (j : Int) : VS := ⟨mkFr 28 [(0, .v (.slice s.a s.len s.cap)), (2, .v (.int .i64 i)), (3, .v (.int .i64 j))], [], H1⟩
noncomputable def slices_Reverse_sl_sorted_item_string_string_sorted_item_string_string.l1 (J : Jn) (s : Sl) (H1 : Hp) (i : Int) (j : Int) (Q : Value → Hp → Prop) : Prop := vAt Try.prog slices_Reverse_sl_sorted_item_string_string_sorted_item_string_string.cf J slices_Reverse_sl_sorted_item_string_string_sorted_item_string_string.fn [1, 0] [0] Q (slices_Reverse_sl_sorted_item_string_string_sorted_item_string_string.l1.st s H1 i j)
attribute [irreducible] slices_Reverse_sl_sorted_item_string_string_sorted_item_string_string.l1
noncomputable def slices_Reverse_sl_sorted_item_string_string_sorted_item_string_string.l1.body (J : Jn) (s : Sl) (H1 : Hp) (i : Int) (j : Int) (Q : Value → Hp → Prop) : Prop :=
 
 Br (decide (i < j)) (((0 : Int) ≤ j ∧ j < ((s.len : Nat) : Int)) ∧ vPtr s.a (fun a => ∃ key : ByteArray, ∃ value : ByteArray, RowAt H1 (a.add ((j : Int).toNat * 2)) [.string key, .string value] ∧ ((0 : Int) ≤ i ∧ i < ((s.len : Nat) : Int)) ∧ vPtr s.a (fun a1 => ∃ key1 : ByteArray, ∃ value1 : ByteArray, RowAt H1 (a1.add ((i : Int).toNat * 2)) [.string key1, .string value1] ∧ ((0 : Int) ≤ i ∧ i < ((s.len : Nat) : Int)) ∧ vPtr s.a (fun a2 => WrAt H1 (a2.add ((i : Int).toNat * 2)) 2 ∧ ((0 : Int) ≤ j ∧ j < ((s.len : Nat) : Int)) ∧ vPtr s.a (fun a3 => WrAt (Hp.setCells H1 (a2.add ((i : Int).toNat * 2)) [.string key, .string value] 0) (a3.add ((j : Int).toNat * 2)) 2 ∧ 
 slices_Reverse_sl_sorted_item_string_string_sorted_item_string_string.l1 J s (Hp.setCells (Hp.setCells H1 (a2.add ((i : Int).toNat * 2)) [.string key, .string value] 0) (a3.add ((j : Int).toNat * 2)) [.string key1, .string value1] 0) (w64 (i + 1)) (w64 (j - 1)) Q)))))
 (Q (.tuple #[]) H1)
theorem slices_Reverse_sl_sorted_item_string_string_sorted_item_string_string.l1.eq (J : Jn) (s : Sl) (H1 : Hp) (i : Int) (j : Int) (Q : Value → Hp → Prop) : vAtBody Try.prog slices_Reverse_sl_sorted_item_string_string_sorted_item_string_string.cf J slices_Reverse_sl_sorted_item_string_string_sorted_item_string_string.fn [1, 0] [0] Q (slices_Reverse_sl_sorted_item_string_string_sorted_item_string_string.l1.st s H1 i j) = slices_Reverse_sl_sorted_item_string_string_sorted_item_string_string.l1.body J s H1 i j Q := by kernel_rfl
theorem slices_Reverse_sl_sorted_item_string_string_sorted_item_string_string.l1.step {s : Sl} {H1 : Hp} {i : Int} {j : Int} {Q : Value → Hp → Prop} (h : slices_Reverse_sl_sorted_item_string_string_sorted_item_string_string.l1.body J0 s H1 i j Q) : slices_Reverse_sl_sorted_item_string_string_sorted_item_string_string.l1 J0 s H1 i j Q := vAt_stepC (slices_Reverse_sl_sorted_item_string_string_sorted_item_string_string.l1.st s H1 i j) (slices_Reverse_sl_sorted_item_string_string_sorted_item_string_string.l1.eq J0 s H1 i j Q) (by kernel_rfl) h
noncomputable def slices_Reverse_sl_sorted_item_string_string_sorted_item_string_string.vc (J : Jn) (s : Sl) (H : Hp) (Q : Value → Hp → Prop) : Prop :=
 
 slices_Reverse_sl_sorted_item_string_string_sorted_item_string_string.l1 J s H 0 (w64 (((s.len : Nat) : Int) - 1)) Q
theorem slices_Reverse_sl_sorted_item_string_string_sorted_item_string_string.eq (J : Jn) (s : Sl) (H : Hp) (Q : Value → Hp → Prop) : vFn Try.prog slices_Reverse_sl_sorted_item_string_string_sorted_item_string_string.cf J slices_Reverse_sl_sorted_item_string_string_sorted_item_string_string.fn [.slice s.a s.len s.cap] H Q = slices_Reverse_sl_sorted_item_string_string_sorted_item_string_string.vc J s H Q := by kernel_rfl
theorem slices_Reverse_sl_sorted_item_string_string_sorted_item_string_string.calls {s : Sl} {H : Hp} {Q : Value → Hp → Prop} (h : slices_Reverse_sl_sorted_item_string_string_sorted_item_string_string.vc J0 s H Q) : SCalls Try.prog slices_Reverse_sl_sorted_item_string_string_sorted_item_string_string.id [.slice s.a s.len s.cap] H Q := vFn_of Try.mixed Try.func103 (slices_Reverse_sl_sorted_item_string_string_sorted_item_string_string.eq J0 s H Q) h

/-! 104: cmp.isNaN_int_ -/
noncomputable def cmp_isNaN_int.cf : Cfg := ⟨[], [], [], [], true, []⟩
noncomputable def cmp_isNaN_int.vc (J : Jn) (x : Int) (H : Hp) (Q : Value → Hp → Prop) : Prop :=
 Q (.bool (x != x)) H
theorem cmp_isNaN_int.eq (J : Jn) (x : Int) (H : Hp) (Q : Value → Hp → Prop) : vFn Try.prog cmp_isNaN_int.cf J cmp_isNaN_int.fn [.int .i64 x] H Q = cmp_isNaN_int.vc J x H Q := by kernel_rfl
theorem cmp_isNaN_int.calls {x : Int} {H : Hp} {Q : Value → Hp → Prop} (h : cmp_isNaN_int.vc J0 x H Q) : SCalls Try.prog cmp_isNaN_int.id [.int .i64 x] H Q := vFn_of Try.mixed Try.func104 (cmp_isNaN_int.eq J0 x H Q) h

/-! 105: slices.rotateLeft_tephra/sorted.item_int, tephra/api.Session__ -/
noncomputable def slices_rotateLeft_sorted_item_int_api_Session.cf : Cfg := ⟨[], [], [], [], true, []⟩
noncomputable def slices_rotateLeft_sorted_item_int_api_Session.vc (J : Jn) (s : Sl) (r : Int) (H : Hp) (Q : Value → Hp → Prop) : Prop :=
 ((0 : Int) ≤ r ∧ r ≤ ((s.cap : Nat) : Int)) ∧ 
 SCalls Try.prog slices_Reverse_sl_sorted_item_int_api_Session_sorted_item_int_api_Session.id [.slice (cutA s.a s.cap 0 5) ((r : Int).toNat) s.cap] H (fun r1 H1 => r1 = .tuple #[] ∧ ((0 : Int) ≤ r ∧ r ≤ ((s.len : Nat) : Int)) ∧ 
 SCalls Try.prog slices_Reverse_sl_sorted_item_int_api_Session_sorted_item_int_api_Session.id [.slice (cutA s.a s.cap ((r : Int).toNat) 5) (s.len - ((r : Int).toNat)) (s.cap - ((r : Int).toNat))] H1 (fun r2 H2 => r2 = .tuple #[] ∧ 
 SCalls Try.prog slices_Reverse_sl_sorted_item_int_api_Session_sorted_item_int_api_Session.id [.slice s.a s.len s.cap] H2 (fun r3 H3 => r3 = .tuple #[] ∧ Q (.tuple #[]) H3)))
theorem slices_rotateLeft_sorted_item_int_api_Session.eq (J : Jn) (s : Sl) (r : Int) (H : Hp) (Q : Value → Hp → Prop) : vFn Try.prog slices_rotateLeft_sorted_item_int_api_Session.cf J slices_rotateLeft_sorted_item_int_api_Session.fn [.slice s.a s.len s.cap, .int .i64 r] H Q = slices_rotateLeft_sorted_item_int_api_Session.vc J s r H Q := by kernel_rfl
theorem slices_rotateLeft_sorted_item_int_api_Session.calls {s : Sl} {r : Int} {H : Hp} {Q : Value → Hp → Prop} (h : slices_rotateLeft_sorted_item_int_api_Session.vc J0 s r H Q) : SCalls Try.prog slices_rotateLeft_sorted_item_int_api_Session.id [.slice s.a s.len s.cap, .int .i64 r] H Q := vFn_of Try.mixed Try.func105 (slices_rotateLeft_sorted_item_int_api_Session.eq J0 s r H Q) h

/-! 106: slices.Reverse___tephra/sorted.item_int, tephra/api.Session_,tephra/sorted.item_int, tephra/api.Session__ -/
noncomputable def slices_Reverse_sl_sorted_item_int_api_Session_sorted_item_int_api_Session.cf : Cfg := ⟨[], [(1, [0, 2, 3])], [], [], true, []⟩
noncomputable def slices_Reverse_sl_sorted_item_int_api_Session_sorted_item_int_api_Session.l1.st (s : Sl) (H1 : Hp) (i : Int) (j : Int) : VS := ⟨mkFr 28 [(0, .v (.slice s.a s.len s.cap)), (2, .v (.int .i64 i)), (3, .v (.int .i64 j))], [], H1⟩
noncomputable def slices_Reverse_sl_sorted_item_int_api_Session_sorted_item_int_api_Session.l1 (J : Jn) (s : Sl) (H1 : Hp) (i : Int) (j : Int) (Q : Value → Hp → Prop) : Prop := vAt Try.prog slices_Reverse_sl_sorted_item_int_api_Session_sorted_item_int_api_Session.cf J slices_Reverse_sl_sorted_item_int_api_Session_sorted_item_int_api_Session.fn [1, 0] [0] Q (slices_Reverse_sl_sorted_item_int_api_Session_sorted_item_int_api_Session.l1.st s H1 i j)
attribute [irreducible] slices_Reverse_sl_sorted_item_int_api_Session_sorted_item_int_api_Session.l1
noncomputable def slices_Reverse_sl_sorted_item_int_api_Session_sorted_item_int_api_Session.l1.body (J : Jn) (s : Sl) (H1 : Hp) (i : Int) (j : Int) (Q : Value → Hp → Prop) : Prop :=
 
 Br (decide (i < j)) (((0 : Int) ≤ j ∧ j < ((s.len : Nat) : Int)) ∧ vPtr s.a (fun a => ∃ key : Int, ∃ valueClient : Int, ∃ valueSeq : Int, ∃ valueReplyErr : Int, ∃ valueReplyValue : ByteArray, RowAt H1 (a.add ((j : Int).toNat * 5)) [.int .i64 key, .int .i64 valueClient, .int .i64 valueSeq, .int .i64 valueReplyErr, .string valueReplyValue] ∧ ((0 : Int) ≤ i ∧ i < ((s.len : Nat) : Int)) ∧ vPtr s.a (fun a1 => ∃ key1 : Int, ∃ valueClient1 : Int, ∃ valueSeq1 : Int, ∃ valueReplyErr1 : Int, ∃ valueReplyValue1 : ByteArray, RowAt H1 (a1.add ((i : Int).toNat * 5)) [.int .i64 key1, .int .i64 valueClient1, .int .i64 valueSeq1, .int .i64 valueReplyErr1, .string valueReplyValue1] ∧ ((0 : Int) ≤ i ∧ i < ((s.len : Nat) : Int)) ∧ vPtr s.a (fun a2 => WrAt H1 (a2.add ((i : Int).toNat * 5)) 5 ∧ ((0 : Int) ≤ j ∧ j < ((s.len : Nat) : Int)) ∧ vPtr s.a (fun a3 => WrAt (Hp.setCells H1 (a2.add ((i : Int).toNat * 5)) [.int .i64 key, .int .i64 valueClient, .int .i64 valueSeq, .int .i64 valueReplyErr, .string valueReplyValue] 0) (a3.add ((j : Int).toNat * 5)) 5 ∧ 
 slices_Reverse_sl_sorted_item_int_api_Session_sorted_item_int_api_Session.l1 J s (Hp.setCells (Hp.setCells H1 (a2.add ((i : Int).toNat * 5)) [.int .i64 key, .int .i64 valueClient, .int .i64 valueSeq, .int .i64 valueReplyErr, .string valueReplyValue] 0) (a3.add ((j : Int).toNat * 5)) [.int .i64 key1, .int .i64 valueClient1, .int .i64 valueSeq1, .int .i64 valueReplyErr1, .string valueReplyValue1] 0) (w64 (i + 1)) (w64 (j - 1)) Q)))))
 (Q (.tuple #[]) H1)
theorem slices_Reverse_sl_sorted_item_int_api_Session_sorted_item_int_api_Session.l1.eq (J : Jn) (s : Sl) (H1 : Hp) (i : Int) (j : Int) (Q : Value → Hp → Prop) : vAtBody Try.prog slices_Reverse_sl_sorted_item_int_api_Session_sorted_item_int_api_Session.cf J slices_Reverse_sl_sorted_item_int_api_Session_sorted_item_int_api_Session.fn [1, 0] [0] Q (slices_Reverse_sl_sorted_item_int_api_Session_sorted_item_int_api_Session.l1.st s H1 i j) = slices_Reverse_sl_sorted_item_int_api_Session_sorted_item_int_api_Session.l1.body J s H1 i j Q := by kernel_rfl
theorem slices_Reverse_sl_sorted_item_int_api_Session_sorted_item_int_api_Session.l1.step {s : Sl} {H1 : Hp} {i : Int} {j : Int} {Q : Value → Hp → Prop} (h : slices_Reverse_sl_sorted_item_int_api_Session_sorted_item_int_api_Session.l1.body J0 s H1 i j Q) : slices_Reverse_sl_sorted_item_int_api_Session_sorted_item_int_api_Session.l1 J0 s H1 i j Q := vAt_stepC (slices_Reverse_sl_sorted_item_int_api_Session_sorted_item_int_api_Session.l1.st s H1 i j) (slices_Reverse_sl_sorted_item_int_api_Session_sorted_item_int_api_Session.l1.eq J0 s H1 i j Q) (by kernel_rfl) h
noncomputable def slices_Reverse_sl_sorted_item_int_api_Session_sorted_item_int_api_Session.vc (J : Jn) (s : Sl) (H : Hp) (Q : Value → Hp → Prop) : Prop :=
 
 slices_Reverse_sl_sorted_item_int_api_Session_sorted_item_int_api_Session.l1 J s H 0 (w64 (((s.len : Nat) : Int) - 1)) Q
theorem slices_Reverse_sl_sorted_item_int_api_Session_sorted_item_int_api_Session.eq (J : Jn) (s : Sl) (H : Hp) (Q : Value → Hp → Prop) : vFn Try.prog slices_Reverse_sl_sorted_item_int_api_Session_sorted_item_int_api_Session.cf J slices_Reverse_sl_sorted_item_int_api_Session_sorted_item_int_api_Session.fn [.slice s.a s.len s.cap] H Q = slices_Reverse_sl_sorted_item_int_api_Session_sorted_item_int_api_Session.vc J s H Q := by kernel_rfl
theorem slices_Reverse_sl_sorted_item_int_api_Session_sorted_item_int_api_Session.calls {s : Sl} {H : Hp} {Q : Value → Hp → Prop} (h : slices_Reverse_sl_sorted_item_int_api_Session_sorted_item_int_api_Session.vc J0 s H Q) : SCalls Try.prog slices_Reverse_sl_sorted_item_int_api_Session_sorted_item_int_api_Session.id [.slice s.a s.len s.cap] H Q := vFn_of Try.mixed Try.func106 (slices_Reverse_sl_sorted_item_int_api_Session_sorted_item_int_api_Session.eq J0 s H Q) h

/-! 23: tephra/image.ReadDelta -/
noncomputable def image_ReadDelta.cf : Cfg := ⟨[2, 7, 1000003], [], [], [], true, []⟩
noncomputable def image_ReadDelta.vc (J : Jn) (b : Sl) (H : Hp) (Q : Value → Hp → Prop) : Prop :=
 ∀ H1 : Hp, H1 = (holes H 1) → 
 SCalls Try.prog image_rows.id [.slice b.a b.len b.cap, .int .i64 1, .int .i64 2] H1 (fun r H2 => ∃ x : Sl, ∃ x1 : Int, ∃ x2 : Int, r = .tuple #[.slice x.a x.len x.cap, .int .i64 x1, .int .i64 x2] ∧ 
 Br (x2 != 0) (Q (.tuple #[.agg #[.int .i64 0, .int .i64 0, .int .i64 0, .slice none 0 0, .slice none 0 0], .int .i64 x2]) H2)
 (((0 : Int) ≤ 1 ∧ (1 : Int) < ((x.len : Nat) : Int)) ∧ vPtr x.a (fun a => ∃ x3 : Sl, Hp.cell? H2 (a.add 1) = some (.slice x3.a x3.len x3.cap) ∧ 
 SCalls Try.prog delta_Read.id [.slice x3.a x3.len x3.cap] H2 (fun r1 H3 => ∃ From : Int, ∃ To : Int, ∃ Term : Int, ∃ Pairs : Sl, ∃ Sessions : Sl, ∃ x4 : Bool, r1 = .tuple #[.agg #[.int .i64 From, .int .i64 To, .int .i64 Term, .slice Pairs.a Pairs.len Pairs.cap, .slice Sessions.a Sessions.len Sessions.cap], .bool x4] ∧ ∀ H4 : Hp, H4 = (holes H3 1) → 
 Br (!x4) (
  (
  (Q (.tuple #[.agg #[.int .i64 0, .int .i64 0, .int .i64 0, .slice none 0 0, .slice none 0 0], .int .i64 10]) H4) ∧ 
  (
  (Q (.tuple #[.agg #[.int .i64 0, .int .i64 0, .int .i64 0, .slice none 0 0, .slice none 0 0], .int .i64 10]) H4) ∧ 
  (Q (.tuple #[.agg #[.int .i64 0, .int .i64 0, .int .i64 0, .slice none 0 0, .slice none 0 0], .int .i64 10]) H4))) ∧ 
  (
  (Q (.tuple #[.agg #[.int .i64 0, .int .i64 0, .int .i64 0, .slice none 0 0, .slice none 0 0], .int .i64 10]) H4) ∧ 
  (Q (.tuple #[.agg #[.int .i64 0, .int .i64 0, .int .i64 0, .slice none 0 0, .slice none 0 0], .int .i64 10]) H4)))
 (((0 : Int) ≤ 0 ∧ (0 : Int) < ((x.len : Nat) : Int)) ∧ vPtr x.a (fun a1 => 
  (∃ x5 : Sl, Hp.cell? H4 a1 = some (.slice x5.a x5.len x5.cap) ∧ 
  (vB2S H4 x5.a x5.len (fun s => 
 SCalls Try.prog image_head.id [.int .i64 1, .int .i64 From, .int .i64 To] H4 (fun r2 H5 => ∃ x6 : Sl, r2 = .slice x6.a x6.len x6.cap ∧ vB2S H5 x6.a x6.len (fun s1 => 
 Br (!(s.toList == s1.toList)) (Q (.tuple #[.agg #[.int .i64 0, .int .i64 0, .int .i64 0, .slice none 0 0, .slice none 0 0], .int .i64 10]) H5)
 (Q (.tuple #[.agg #[.int .i64 From, .int .i64 To, .int .i64 Term, .slice Pairs.a Pairs.len Pairs.cap, .slice Sessions.a Sessions.len Sessions.cap], .int .i64 0]) H5))))) ∧ 
  (
 SCalls Try.prog image_head.id [.int .i64 1, .int .i64 From, .int .i64 To] H4 (fun r3 H6 => ∃ x7 : Sl, r3 = .slice x7.a x7.len x7.cap ∧ 
  (vB2S H6 x5.a x5.len (fun s2 => vB2S H6 x7.a x7.len (fun s3 => 
 Br (!(s2.toList == s3.toList)) (Q (.tuple #[.agg #[.int .i64 0, .int .i64 0, .int .i64 0, .slice none 0 0, .slice none 0 0], .int .i64 10]) H6)
 (Q (.tuple #[.agg #[.int .i64 From, .int .i64 To, .int .i64 Term, .slice Pairs.a Pairs.len Pairs.cap, .slice Sessions.a Sessions.len Sessions.cap], .int .i64 0]) H6)))) ∧ 
  (vB2S H6 x7.a x7.len (fun s4 => vB2S H6 x5.a x5.len (fun s5 => 
 Br (!(s5.toList == s4.toList)) (Q (.tuple #[.agg #[.int .i64 0, .int .i64 0, .int .i64 0, .slice none 0 0, .slice none 0 0], .int .i64 10]) H6)
 (Q (.tuple #[.agg #[.int .i64 From, .int .i64 To, .int .i64 Term, .slice Pairs.a Pairs.len Pairs.cap, .slice Sessions.a Sessions.len Sessions.cap], .int .i64 0]) H6))))))) ∧ 
  (
 SCalls Try.prog image_head.id [.int .i64 1, .int .i64 From, .int .i64 To] H4 (fun r4 H7 => ∃ x8 : Sl, r4 = .slice x8.a x8.len x8.cap ∧ ∃ x9 : Sl, Hp.cell? H7 a1 = some (.slice x9.a x9.len x9.cap) ∧ 
  (vB2S H7 x9.a x9.len (fun s6 => vB2S H7 x8.a x8.len (fun s7 => 
 Br (!(s6.toList == s7.toList)) (Q (.tuple #[.agg #[.int .i64 0, .int .i64 0, .int .i64 0, .slice none 0 0, .slice none 0 0], .int .i64 10]) H7)
 (Q (.tuple #[.agg #[.int .i64 From, .int .i64 To, .int .i64 Term, .slice Pairs.a Pairs.len Pairs.cap, .slice Sessions.a Sessions.len Sessions.cap], .int .i64 0]) H7)))) ∧ 
  (vB2S H7 x8.a x8.len (fun s8 => vB2S H7 x9.a x9.len (fun s9 => 
 Br (!(s9.toList == s8.toList)) (Q (.tuple #[.agg #[.int .i64 0, .int .i64 0, .int .i64 0, .slice none 0 0, .slice none 0 0], .int .i64 10]) H7)
 (Q (.tuple #[.agg #[.int .i64 From, .int .i64 To, .int .i64 Term, .slice Pairs.a Pairs.len Pairs.cap, .slice Sessions.a Sessions.len Sessions.cap], .int .i64 0]) H7))))))))))))
theorem image_ReadDelta.eq (J : Jn) (b : Sl) (H : Hp) (Q : Value → Hp → Prop) : vFn Try.prog image_ReadDelta.cf J image_ReadDelta.fn [.slice b.a b.len b.cap] H Q = image_ReadDelta.vc J b H Q := by kernel_rfl
theorem image_ReadDelta.calls {b : Sl} {H : Hp} {Q : Value → Hp → Prop} (h : image_ReadDelta.vc J0 b H Q) : SCalls Try.prog image_ReadDelta.id [.slice b.a b.len b.cap] H Q := vFn_of Try.mixed Try.func23 (image_ReadDelta.eq J0 b H Q) h

/-! 24: tephra/image.Delta -/
noncomputable def image_Delta.cf : Cfg := ⟨[1, 1000003], [], [], [], true, []⟩
noncomputable def image_Delta.vc (J : Jn) (dFrom : Int) (dTo : Int) (dTerm : Int) (dPairs : Sl) (dSessions : Sl) (H : Hp) (Q : Value → Hp → Prop) : Prop :=
 ∀ H1 : Hp, H1 = (holes H 1) → 
 SCalls Try.prog image_head.id [.int .i64 1, .int .i64 dFrom, .int .i64 dTo] H1 (fun r H2 => ∃ x : Sl, r = .slice x.a x.len x.cap ∧ 
 SCalls Try.prog delta_Bytes.id [.agg #[.int .i64 dFrom, .int .i64 dTo, .int .i64 dTerm, .slice dPairs.a dPairs.len dPairs.cap, .slice dSessions.a dSessions.len dSessions.cap]] H2 (fun r1 H3 => ∃ x1 : Sl, r1 = .slice x1.a x1.len x1.cap ∧ ∀ b : Nat, b = Array.size H3 → ∀ H4 : Hp, H4 = (Array.push H3 (.cells #[.slice x.a x.len x.cap, .slice x1.a x1.len x1.cap] T_sl_uint8)) → 
 SCalls Try.prog image_frames.id [.slice (some (Addr.mk b 0 none)) 2 2] H4 (fun r2 H5 => ∃ x2 : Sl, ∃ x3 : Int, r2 = .tuple #[.slice x2.a x2.len x2.cap, .int .i64 x3] ∧ Q (.tuple #[.slice x2.a x2.len x2.cap, .int .i64 x3]) H5)))
theorem image_Delta.eq (J : Jn) (dFrom : Int) (dTo : Int) (dTerm : Int) (dPairs : Sl) (dSessions : Sl) (H : Hp) (Q : Value → Hp → Prop) : vFn Try.prog image_Delta.cf J image_Delta.fn [.agg #[.int .i64 dFrom, .int .i64 dTo, .int .i64 dTerm, .slice dPairs.a dPairs.len dPairs.cap, .slice dSessions.a dSessions.len dSessions.cap]] H Q = image_Delta.vc J dFrom dTo dTerm dPairs dSessions H Q := by kernel_rfl
theorem image_Delta.calls {dFrom : Int} {dTo : Int} {dTerm : Int} {dPairs : Sl} {dSessions : Sl} {H : Hp} {Q : Value → Hp → Prop} (h : image_Delta.vc J0 dFrom dTo dTerm dPairs dSessions H Q) : SCalls Try.prog image_Delta.id [.agg #[.int .i64 dFrom, .int .i64 dTo, .int .i64 dTerm, .slice dPairs.a dPairs.len dPairs.cap, .slice dSessions.a dSessions.len dSessions.cap]] H Q := vFn_of Try.mixed Try.func24 (image_Delta.eq J0 dFrom dTo dTerm dPairs dSessions H Q) h

/-! 26: tephra/delta.Right -/
noncomputable def delta_Right.cf : Cfg := ⟨[1, 1000003], [], [], [(12, [1, 12]), (17, [1, 17]), (22, [1, 22]), (27, [1, 27])], true, []⟩
noncomputable def delta_Right.k1.st (dFrom : Int) (dTo : Int) (dTerm : Int) (dPairs : Sl) (dSessions : Sl) (H1 : Hp) (x : Bool) : VS := ⟨mkFr 35 [(1, .loc 0 0), (12, .v (.bool x))], [(T_delta_Delta, [.int .i64 dFrom, .int .i64 dTo, .int .i64 dTerm, .slice dPairs.a dPairs.len dPairs.cap, .slice dSessions.a dSessions.len dSessions.cap])], H1⟩
noncomputable def delta_Right.k1 (J : Jn) (dFrom : Int) (dTo : Int) (dTerm : Int) (dPairs : Sl) (dSessions : Sl) (H1 : Hp) (x : Bool) (Q : Value → Hp → Prop) : Prop := J (vMid Try.prog delta_Right.cf J delta_Right.fn [1, 0] [0, 1] 10 Q) (delta_Right.k1.st dFrom dTo dTerm dPairs dSessions H1 x)
noncomputable def delta_Right.k2.st (dFrom : Int) (dTo : Int) (dTerm : Int) (dPairs : Sl) (dSessions : Sl) (H1 : Hp) (x1 : Bool) : VS := ⟨mkFr 35 [(1, .loc 0 0), (17, .v (.bool x1))], [(T_delta_Delta, [.int .i64 dFrom, .int .i64 dTo, .int .i64 dTerm, .slice dPairs.a dPairs.len dPairs.cap, .slice dSessions.a dSessions.len dSessions.cap])], H1⟩
noncomputable def delta_Right.k2 (J : Jn) (dFrom : Int) (dTo : Int) (dTerm : Int) (dPairs : Sl) (dSessions : Sl) (H1 : Hp) (x1 : Bool) (Q : Value → Hp → Prop) : Prop := J (vMid Try.prog delta_Right.cf J delta_Right.fn [1, 0] [0, 1] 15 Q) (delta_Right.k2.st dFrom dTo dTerm dPairs dSessions H1 x1)
noncomputable def delta_Right.k3.st (dFrom : Int) (dTo : Int) (dTerm : Int) (dPairs : Sl) (dSessions : Sl) (H1 : Hp) (x2 : Bool) : VS := ⟨mkFr 35 [(1, .loc 0 0), (22, .v (.bool x2))], [(T_delta_Delta, [.int .i64 dFrom, .int .i64 dTo, .int .i64 dTerm, .slice dPairs.a dPairs.len dPairs.cap, .slice dSessions.a dSessions.len dSessions.cap])], H1⟩
noncomputable def delta_Right.k3 (J : Jn) (dFrom : Int) (dTo : Int) (dTerm : Int) (dPairs : Sl) (dSessions : Sl) (H1 : Hp) (x2 : Bool) (Q : Value → Hp → Prop) : Prop := J (vMid Try.prog delta_Right.cf J delta_Right.fn [1, 0] [0, 1] 20 Q) (delta_Right.k3.st dFrom dTo dTerm dPairs dSessions H1 x2)
noncomputable def delta_Right.k4.st (dFrom : Int) (dTo : Int) (dTerm : Int) (dPairs : Sl) (dSessions : Sl) (H1 : Hp) (x3 : Bool) : VS := ⟨mkFr 35 [(1, .loc 0 0), (27, .v (.bool x3))], [(T_delta_Delta, [.int .i64 dFrom, .int .i64 dTo, .int .i64 dTerm, .slice dPairs.a dPairs.len dPairs.cap, .slice dSessions.a dSessions.len dSessions.cap])], H1⟩
noncomputable def delta_Right.k4 (J : Jn) (dFrom : Int) (dTo : Int) (dTerm : Int) (dPairs : Sl) (dSessions : Sl) (H1 : Hp) (x3 : Bool) (Q : Value → Hp → Prop) : Prop := J (vMid Try.prog delta_Right.cf J delta_Right.fn [1, 0] [0, 1] 25 Q) (delta_Right.k4.st dFrom dTo dTerm dPairs dSessions H1 x3)
attribute [irreducible] delta_Right.k1 delta_Right.k2 delta_Right.k3 delta_Right.k4
noncomputable def delta_Right.k1.body (J : Jn) (dFrom : Int) (dTo : Int) (dTerm : Int) (dPairs : Sl) (dSessions : Sl) (H1 : Hp) (x : Bool) (Q : Value → Hp → Prop) : Prop :=
 
 Br x (
 delta_Right.k2 J dFrom dTo dTerm dPairs dSessions H1 (decide (dTo ≤ 1048576)) Q)
 (
 delta_Right.k2 J dFrom dTo dTerm dPairs dSessions H1 false Q)
theorem delta_Right.k1.eq (J : Jn) (dFrom : Int) (dTo : Int) (dTerm : Int) (dPairs : Sl) (dSessions : Sl) (H1 : Hp) (x : Bool) (Q : Value → Hp → Prop) : vMid Try.prog delta_Right.cf J delta_Right.fn [1, 0] [0, 1] 10 Q (delta_Right.k1.st dFrom dTo dTerm dPairs dSessions H1 x) = delta_Right.k1.body J dFrom dTo dTerm dPairs dSessions H1 x Q := by kernel_rfl
theorem delta_Right.k1.step {dFrom : Int} {dTo : Int} {dTerm : Int} {dPairs : Sl} {dSessions : Sl} {H1 : Hp} {x : Bool} {Q : Value → Hp → Prop} (h : delta_Right.k1.body J0 dFrom dTo dTerm dPairs dSessions H1 x Q) : delta_Right.k1 J0 dFrom dTo dTerm dPairs dSessions H1 x Q := step_of (vMid Try.prog delta_Right.cf J0 delta_Right.fn [1, 0] [0, 1] 10 Q) (delta_Right.k1.st dFrom dTo dTerm dPairs dSessions H1 x) (delta_Right.k1.eq J0 dFrom dTo dTerm dPairs dSessions H1 x Q) (by kernel_rfl) h
noncomputable def delta_Right.k2.body (J : Jn) (dFrom : Int) (dTo : Int) (dTerm : Int) (dPairs : Sl) (dSessions : Sl) (H1 : Hp) (x1 : Bool) (Q : Value → Hp → Prop) : Prop :=
 
 Br x1 (
 delta_Right.k3 J dFrom dTo dTerm dPairs dSessions H1 (decide (dTerm ≥ 0)) Q)
 (
 delta_Right.k3 J dFrom dTo dTerm dPairs dSessions H1 false Q)
theorem delta_Right.k2.eq (J : Jn) (dFrom : Int) (dTo : Int) (dTerm : Int) (dPairs : Sl) (dSessions : Sl) (H1 : Hp) (x1 : Bool) (Q : Value → Hp → Prop) : vMid Try.prog delta_Right.cf J delta_Right.fn [1, 0] [0, 1] 15 Q (delta_Right.k2.st dFrom dTo dTerm dPairs dSessions H1 x1) = delta_Right.k2.body J dFrom dTo dTerm dPairs dSessions H1 x1 Q := by kernel_rfl
theorem delta_Right.k2.step {dFrom : Int} {dTo : Int} {dTerm : Int} {dPairs : Sl} {dSessions : Sl} {H1 : Hp} {x1 : Bool} {Q : Value → Hp → Prop} (h : delta_Right.k2.body J0 dFrom dTo dTerm dPairs dSessions H1 x1 Q) : delta_Right.k2 J0 dFrom dTo dTerm dPairs dSessions H1 x1 Q := step_of (vMid Try.prog delta_Right.cf J0 delta_Right.fn [1, 0] [0, 1] 15 Q) (delta_Right.k2.st dFrom dTo dTerm dPairs dSessions H1 x1) (delta_Right.k2.eq J0 dFrom dTo dTerm dPairs dSessions H1 x1 Q) (by kernel_rfl) h
noncomputable def delta_Right.k3.body (J : Jn) (dFrom : Int) (dTo : Int) (dTerm : Int) (dPairs : Sl) (dSessions : Sl) (H1 : Hp) (x2 : Bool) (Q : Value → Hp → Prop) : Prop :=
 
 Br x2 (
 delta_Right.k4 J dFrom dTo dTerm dPairs dSessions H1 (decide (dTerm ≤ 1048576)) Q)
 (
 delta_Right.k4 J dFrom dTo dTerm dPairs dSessions H1 false Q)
theorem delta_Right.k3.eq (J : Jn) (dFrom : Int) (dTo : Int) (dTerm : Int) (dPairs : Sl) (dSessions : Sl) (H1 : Hp) (x2 : Bool) (Q : Value → Hp → Prop) : vMid Try.prog delta_Right.cf J delta_Right.fn [1, 0] [0, 1] 20 Q (delta_Right.k3.st dFrom dTo dTerm dPairs dSessions H1 x2) = delta_Right.k3.body J dFrom dTo dTerm dPairs dSessions H1 x2 Q := by kernel_rfl
theorem delta_Right.k3.step {dFrom : Int} {dTo : Int} {dTerm : Int} {dPairs : Sl} {dSessions : Sl} {H1 : Hp} {x2 : Bool} {Q : Value → Hp → Prop} (h : delta_Right.k3.body J0 dFrom dTo dTerm dPairs dSessions H1 x2 Q) : delta_Right.k3 J0 dFrom dTo dTerm dPairs dSessions H1 x2 Q := step_of (vMid Try.prog delta_Right.cf J0 delta_Right.fn [1, 0] [0, 1] 20 Q) (delta_Right.k3.st dFrom dTo dTerm dPairs dSessions H1 x2) (delta_Right.k3.eq J0 dFrom dTo dTerm dPairs dSessions H1 x2 Q) (by kernel_rfl) h
noncomputable def delta_Right.k4.body (J : Jn) (dFrom : Int) (dTo : Int) (dTerm : Int) (dPairs : Sl) (dSessions : Sl) (H1 : Hp) (x3 : Bool) (Q : Value → Hp → Prop) : Prop :=
 
 Br x3 (
 SCalls Try.prog state_RightRows.id [.slice dPairs.a dPairs.len dPairs.cap, .slice dSessions.a dSessions.len dSessions.cap, .int .i64 512] H1 (fun r H2 => ∃ x4 : Bool, r = .bool x4 ∧ Q (.bool x4) H2))
 (Q (.bool false) H1)
theorem delta_Right.k4.eq (J : Jn) (dFrom : Int) (dTo : Int) (dTerm : Int) (dPairs : Sl) (dSessions : Sl) (H1 : Hp) (x3 : Bool) (Q : Value → Hp → Prop) : vMid Try.prog delta_Right.cf J delta_Right.fn [1, 0] [0, 1] 25 Q (delta_Right.k4.st dFrom dTo dTerm dPairs dSessions H1 x3) = delta_Right.k4.body J dFrom dTo dTerm dPairs dSessions H1 x3 Q := by kernel_rfl
theorem delta_Right.k4.step {dFrom : Int} {dTo : Int} {dTerm : Int} {dPairs : Sl} {dSessions : Sl} {H1 : Hp} {x3 : Bool} {Q : Value → Hp → Prop} (h : delta_Right.k4.body J0 dFrom dTo dTerm dPairs dSessions H1 x3 Q) : delta_Right.k4 J0 dFrom dTo dTerm dPairs dSessions H1 x3 Q := step_of (vMid Try.prog delta_Right.cf J0 delta_Right.fn [1, 0] [0, 1] 25 Q) (delta_Right.k4.st dFrom dTo dTerm dPairs dSessions H1 x3) (delta_Right.k4.eq J0 dFrom dTo dTerm dPairs dSessions H1 x3 Q) (by kernel_rfl) h
noncomputable def delta_Right.vc (J : Jn) (dFrom : Int) (dTo : Int) (dTerm : Int) (dPairs : Sl) (dSessions : Sl) (H : Hp) (Q : Value → Hp → Prop) : Prop :=
 ∀ H1 : Hp, H1 = (holes H 1) → 
 Br (decide (dFrom ≥ 0)) (
 delta_Right.k1 J dFrom dTo dTerm dPairs dSessions H1 (decide (dFrom ≤ dTo)) Q)
 (
 delta_Right.k1 J dFrom dTo dTerm dPairs dSessions H1 false Q)
theorem delta_Right.eq (J : Jn) (dFrom : Int) (dTo : Int) (dTerm : Int) (dPairs : Sl) (dSessions : Sl) (H : Hp) (Q : Value → Hp → Prop) : vFn Try.prog delta_Right.cf J delta_Right.fn [.agg #[.int .i64 dFrom, .int .i64 dTo, .int .i64 dTerm, .slice dPairs.a dPairs.len dPairs.cap, .slice dSessions.a dSessions.len dSessions.cap]] H Q = delta_Right.vc J dFrom dTo dTerm dPairs dSessions H Q := by kernel_rfl
theorem delta_Right.calls {dFrom : Int} {dTo : Int} {dTerm : Int} {dPairs : Sl} {dSessions : Sl} {H : Hp} {Q : Value → Hp → Prop} (h : delta_Right.vc J0 dFrom dTo dTerm dPairs dSessions H Q) : SCalls Try.prog delta_Right.id [.agg #[.int .i64 dFrom, .int .i64 dTo, .int .i64 dTerm, .slice dPairs.a dPairs.len dPairs.cap, .slice dSessions.a dSessions.len dSessions.cap]] H Q := vFn_of Try.mixed Try.func26 (delta_Right.eq J0 dFrom dTo dTerm dPairs dSessions H Q) h

/-! 27: tephra/delta.Bytes -/
noncomputable def delta_Bytes.cf : Cfg := ⟨[1, 1000003], [], [(3, [1, 3], true)], [], true, []⟩
noncomputable def delta_Bytes.k1.st (dFrom : Int) (dTo : Int) (dTerm : Int) (dPairs : Sl) (dSessions : Sl) (b : Nat) (H5 : Hp) : VS := ⟨mkFr 24 [(1, .loc 0 0), (3, .v (.pointer (some (Addr.mk b 0 none))))], [(T_delta_Delta, [.int .i64 dFrom, .int .i64 dTo, .int .i64 dTerm, .slice dPairs.a dPairs.len dPairs.cap, .slice dSessions.a dSessions.len dSessions.cap])], H5⟩
noncomputable def delta_Bytes.k1 (J : Jn) (dFrom : Int) (dTo : Int) (dTerm : Int) (dPairs : Sl) (dSessions : Sl) (b : Nat) (H5 : Hp) (Q : Value → Hp → Prop) : Prop := J (vSeg Try.prog delta_Bytes.cf J delta_Bytes.fn [1, 1, 1] [0, 1, 1] Q) (delta_Bytes.k1.st dFrom dTo dTerm dPairs dSessions b H5)
attribute [irreducible] delta_Bytes.k1
noncomputable def delta_Bytes.k1.body (J : Jn) (dFrom : Int) (dTo : Int) (dTerm : Int) (dPairs : Sl) (dSessions : Sl) (b : Nat) (H5 : Hp) (Q : Value → Hp → Prop) : Prop :=
 
 SCalls Try.prog state_PutRows.id [.pointer (some (Addr.mk b 0 none)), .slice dPairs.a dPairs.len dPairs.cap, .slice dSessions.a dSessions.len dSessions.cap] H5 (fun r3 H6 => r3 = .tuple #[] ∧ 
 SCalls Try.prog pack_Writer_Bytes.id [.pointer (some (Addr.mk b 0 none))] H6 (fun r4 H7 => ∃ x3 : Sl, r4 = .slice x3.a x3.len x3.cap ∧ Q (.slice x3.a x3.len x3.cap) H7))
theorem delta_Bytes.k1.eq (J : Jn) (dFrom : Int) (dTo : Int) (dTerm : Int) (dPairs : Sl) (dSessions : Sl) (b : Nat) (H5 : Hp) (Q : Value → Hp → Prop) : vSeg Try.prog delta_Bytes.cf J delta_Bytes.fn [1, 1, 1] [0, 1, 1] Q (delta_Bytes.k1.st dFrom dTo dTerm dPairs dSessions b H5) = delta_Bytes.k1.body J dFrom dTo dTerm dPairs dSessions b H5 Q := by kernel_rfl
theorem delta_Bytes.k1.step {dFrom : Int} {dTo : Int} {dTerm : Int} {dPairs : Sl} {dSessions : Sl} {b : Nat} {H5 : Hp} {Q : Value → Hp → Prop} (h : delta_Bytes.k1.body J0 dFrom dTo dTerm dPairs dSessions b H5 Q) : delta_Bytes.k1 J0 dFrom dTo dTerm dPairs dSessions b H5 Q := step_of (vSeg Try.prog delta_Bytes.cf J0 delta_Bytes.fn [1, 1, 1] [0, 1, 1] Q) (delta_Bytes.k1.st dFrom dTo dTerm dPairs dSessions b H5) (delta_Bytes.k1.eq J0 dFrom dTo dTerm dPairs dSessions b H5 Q) (by kernel_rfl) h
noncomputable def delta_Bytes.vc (J : Jn) (dFrom : Int) (dTo : Int) (dTerm : Int) (dPairs : Sl) (dSessions : Sl) (H : Hp) (Q : Value → Hp → Prop) : Prop :=
 ∀ H1 : Hp, H1 = (holes H 1) → ∀ b : Nat, b = Array.size H1 → ∀ H2 : Hp, H2 = (Array.push H1 (.cells #[.slice none 0 0] T_pack_Writer)) → 
 SCalls Try.prog pack_Writer_Num.id [.pointer (some (Addr.mk b 0 none)), .int .i64 dFrom] H2 (fun r H3 => ∃ x : Option Addr, r = .pointer x ∧ 
 SCalls Try.prog pack_Writer_Num.id [.pointer x, .int .i64 dTo] H3 (fun r1 H4 => ∃ x1 : Option Addr, r1 = .pointer x1 ∧ 
 SCalls Try.prog pack_Writer_Num.id [.pointer x1, .int .i64 dTerm] H4 (fun r2 H5 => ∃ x2 : Option Addr, r2 = .pointer x2 ∧ 
 delta_Bytes.k1 J dFrom dTo dTerm dPairs dSessions b H5 Q)))
theorem delta_Bytes.eq (J : Jn) (dFrom : Int) (dTo : Int) (dTerm : Int) (dPairs : Sl) (dSessions : Sl) (H : Hp) (Q : Value → Hp → Prop) : vFn Try.prog delta_Bytes.cf J delta_Bytes.fn [.agg #[.int .i64 dFrom, .int .i64 dTo, .int .i64 dTerm, .slice dPairs.a dPairs.len dPairs.cap, .slice dSessions.a dSessions.len dSessions.cap]] H Q = delta_Bytes.vc J dFrom dTo dTerm dPairs dSessions H Q := by kernel_rfl
theorem delta_Bytes.calls {dFrom : Int} {dTo : Int} {dTerm : Int} {dPairs : Sl} {dSessions : Sl} {H : Hp} {Q : Value → Hp → Prop} (h : delta_Bytes.vc J0 dFrom dTo dTerm dPairs dSessions H Q) : SCalls Try.prog delta_Bytes.id [.agg #[.int .i64 dFrom, .int .i64 dTo, .int .i64 dTerm, .slice dPairs.a dPairs.len dPairs.cap, .slice dSessions.a dSessions.len dSessions.cap]] H Q := vFn_of Try.mixed Try.func27 (delta_Bytes.eq J0 dFrom dTo dTerm dPairs dSessions H Q) h

/-! 28: tephra/delta.Same -/
noncomputable def delta_Same.cf : Cfg := ⟨[2, 3, 1000003], [], [], [], true, []⟩
noncomputable def delta_Same.vc (J : Jn) (aFrom : Int) (aTo : Int) (aTerm : Int) (aPairs : Sl) (aSessions : Sl) (bFrom : Int) (bTo : Int) (bTerm : Int) (bPairs : Sl) (bSessions : Sl) (H : Hp) (Q : Value → Hp → Prop) : Prop :=
 ∀ H1 : Hp, H1 = (holes H 1) → ∀ H2 : Hp, H2 = (holes H1 1) → 
 SCalls Try.prog delta_Bytes.id [.agg #[.int .i64 aFrom, .int .i64 aTo, .int .i64 aTerm, .slice aPairs.a aPairs.len aPairs.cap, .slice aSessions.a aSessions.len aSessions.cap]] H2 (fun r H3 => ∃ x : Sl, r = .slice x.a x.len x.cap ∧ 
  (vB2S H3 x.a x.len (fun s => 
 SCalls Try.prog delta_Bytes.id [.agg #[.int .i64 bFrom, .int .i64 bTo, .int .i64 bTerm, .slice bPairs.a bPairs.len bPairs.cap, .slice bSessions.a bSessions.len bSessions.cap]] H3 (fun r1 H4 => ∃ x1 : Sl, r1 = .slice x1.a x1.len x1.cap ∧ vB2S H4 x1.a x1.len (fun s1 => Q (.bool (s.toList == s1.toList)) H4)))) ∧ 
  (
 SCalls Try.prog delta_Bytes.id [.agg #[.int .i64 bFrom, .int .i64 bTo, .int .i64 bTerm, .slice bPairs.a bPairs.len bPairs.cap, .slice bSessions.a bSessions.len bSessions.cap]] H3 (fun r2 H5 => ∃ x2 : Sl, r2 = .slice x2.a x2.len x2.cap ∧ 
  (vB2S H5 x.a x.len (fun s2 => vB2S H5 x2.a x2.len (fun s3 => Q (.bool (s2.toList == s3.toList)) H5))) ∧ 
  (vB2S H5 x2.a x2.len (fun s4 => vB2S H5 x.a x.len (fun s5 => Q (.bool (s5.toList == s4.toList)) H5))))))
theorem delta_Same.eq (J : Jn) (aFrom : Int) (aTo : Int) (aTerm : Int) (aPairs : Sl) (aSessions : Sl) (bFrom : Int) (bTo : Int) (bTerm : Int) (bPairs : Sl) (bSessions : Sl) (H : Hp) (Q : Value → Hp → Prop) : vFn Try.prog delta_Same.cf J delta_Same.fn [.agg #[.int .i64 aFrom, .int .i64 aTo, .int .i64 aTerm, .slice aPairs.a aPairs.len aPairs.cap, .slice aSessions.a aSessions.len aSessions.cap], .agg #[.int .i64 bFrom, .int .i64 bTo, .int .i64 bTerm, .slice bPairs.a bPairs.len bPairs.cap, .slice bSessions.a bSessions.len bSessions.cap]] H Q = delta_Same.vc J aFrom aTo aTerm aPairs aSessions bFrom bTo bTerm bPairs bSessions H Q := by kernel_rfl
theorem delta_Same.calls {aFrom : Int} {aTo : Int} {aTerm : Int} {aPairs : Sl} {aSessions : Sl} {bFrom : Int} {bTo : Int} {bTerm : Int} {bPairs : Sl} {bSessions : Sl} {H : Hp} {Q : Value → Hp → Prop} (h : delta_Same.vc J0 aFrom aTo aTerm aPairs aSessions bFrom bTo bTerm bPairs bSessions H Q) : SCalls Try.prog delta_Same.id [.agg #[.int .i64 aFrom, .int .i64 aTo, .int .i64 aTerm, .slice aPairs.a aPairs.len aPairs.cap, .slice aSessions.a aSessions.len aSessions.cap], .agg #[.int .i64 bFrom, .int .i64 bTo, .int .i64 bTerm, .slice bPairs.a bPairs.len bPairs.cap, .slice bSessions.a bSessions.len bSessions.cap]] H Q := vFn_of Try.mixed Try.func28 (delta_Same.eq J0 aFrom aTo aTerm aPairs aSessions bFrom bTo bTerm bPairs bSessions H Q) h

/-! 29: tephra/tephralaw08.Three -/
noncomputable def tephralaw08_Three.cf : Cfg := ⟨[6, 1000003], [], [], [], true, []⟩
noncomputable def tephralaw08_Three.vc (J : Jn) (says : Sl) (one : Int) (two : Int) (H : Hp) (Q : Value → Hp → Prop) : Prop :=
 ∀ H1 : Hp, H1 = (holes H 1) → 
 SCalls Try.prog tephralaw06_Entries.id [.slice says.a says.len says.cap, .int .i64 1, .int .i64 0] H1 (fun r H2 => ∃ x : Sl, r = .slice x.a x.len x.cap ∧ ((w64 (((x.len : Nat) : Int) + 1)) : Int) ≠ 0 ∧ ((w64 ((w64 (((x.len : Nat) : Int) - (Int.tmod (w64 (one)) (w64 (((x.len : Nat) : Int) + 1))))) + 1)) : Int) ≠ 0 ∧ ((0 : Int) ≤ (Int.tmod (w64 (one)) (w64 (((x.len : Nat) : Int) + 1))) ∧ (Int.tmod (w64 (one)) (w64 (((x.len : Nat) : Int) + 1))) ≤ ((x.cap : Nat) : Int)) ∧ ((0 : Int) ≤ (w64 ((Int.tmod (w64 (one)) (w64 (((x.len : Nat) : Int) + 1))) + (Int.tmod (w64 (two)) (w64 ((w64 (((x.len : Nat) : Int) - (Int.tmod (w64 (one)) (w64 (((x.len : Nat) : Int) + 1))))) + 1))))) ∧ (w64 ((Int.tmod (w64 (one)) (w64 (((x.len : Nat) : Int) + 1))) + (Int.tmod (w64 (two)) (w64 ((w64 (((x.len : Nat) : Int) - (Int.tmod (w64 (one)) (w64 (((x.len : Nat) : Int) + 1))))) + 1))))) ≤ ((x.cap : Nat) : Int)) ∧ 
 SCalls Try.prog state_Fold.id [.agg #[.int .i64 0, .int .i64 0, .slice none 0 0, .slice none 0 0], .slice (cutA x.a x.cap 0 8) (((Int.tmod (w64 (one)) (w64 (((x.len : Nat) : Int) + 1))) : Int).toNat) x.cap] H2 (fun r1 H3 => ∃ Index : Int, ∃ Term : Int, ∃ Pairs : Sl, ∃ Sessions : Sl, r1 = .agg #[.int .i64 Index, .int .i64 Term, .slice Pairs.a Pairs.len Pairs.cap, .slice Sessions.a Sessions.len Sessions.cap] ∧ 
 SCalls Try.prog state_Fold.id [.agg #[.int .i64 0, .int .i64 0, .slice none 0 0, .slice none 0 0], .slice (cutA x.a x.cap 0 8) (((w64 ((Int.tmod (w64 (one)) (w64 (((x.len : Nat) : Int) + 1))) + (Int.tmod (w64 (two)) (w64 ((w64 (((x.len : Nat) : Int) - (Int.tmod (w64 (one)) (w64 (((x.len : Nat) : Int) + 1))))) + 1))))) : Int).toNat) x.cap] H3 (fun r2 H4 => ∃ Index1 : Int, ∃ Term1 : Int, ∃ Pairs1 : Sl, ∃ Sessions1 : Sl, r2 = .agg #[.int .i64 Index1, .int .i64 Term1, .slice Pairs1.a Pairs1.len Pairs1.cap, .slice Sessions1.a Sessions1.len Sessions1.cap] ∧ 
 SCalls Try.prog state_Fold.id [.agg #[.int .i64 0, .int .i64 0, .slice none 0 0, .slice none 0 0], .slice x.a x.len x.cap] H4 (fun r3 H5 => ∃ Index2 : Int, ∃ Term2 : Int, ∃ Pairs2 : Sl, ∃ Sessions2 : Sl, r3 = .agg #[.int .i64 Index2, .int .i64 Term2, .slice Pairs2.a Pairs2.len Pairs2.cap, .slice Sessions2.a Sessions2.len Sessions2.cap] ∧ Q (.agg #[.int .i64 Index, .int .i64 Term, .slice Pairs.a Pairs.len Pairs.cap, .slice Sessions.a Sessions.len Sessions.cap, .int .i64 Index1, .int .i64 Term1, .slice Pairs1.a Pairs1.len Pairs1.cap, .slice Sessions1.a Sessions1.len Sessions1.cap, .int .i64 Index2, .int .i64 Term2, .slice Pairs2.a Pairs2.len Pairs2.cap, .slice Sessions2.a Sessions2.len Sessions2.cap]) H5))))
theorem tephralaw08_Three.eq (J : Jn) (says : Sl) (one : Int) (two : Int) (H : Hp) (Q : Value → Hp → Prop) : vFn Try.prog tephralaw08_Three.cf J tephralaw08_Three.fn [.slice says.a says.len says.cap, .int .u8 one, .int .u8 two] H Q = tephralaw08_Three.vc J says one two H Q := by kernel_rfl
theorem tephralaw08_Three.calls {says : Sl} {one : Int} {two : Int} {H : Hp} {Q : Value → Hp → Prop} (h : tephralaw08_Three.vc J0 says one two H Q) : SCalls Try.prog tephralaw08_Three.id [.slice says.a says.len says.cap, .int .u8 one, .int .u8 two] H Q := vFn_of Try.mixed Try.func29 (tephralaw08_Three.eq J0 says one two H Q) h

/-! 30: tephra/delta.Between -/
noncomputable def delta_Between.cf : Cfg := ⟨[2, 3, 4, 10, 12, 1000003], [(1000008, [7]), (1000012, [8]), (1000015, [6, 7, 8])], [(2, [2, 3, 4, 5, 29], true), (4, [2, 3, 4, 5, 6], true), (20, [6, 13, 14, 84], true)], [], true, []⟩
noncomputable def delta_Between.cfr : Cfg := { delta_Between.cf with rf := false }
noncomputable def delta_Between.r1.fr (b2 : Nat) : List AV := mkFr 101 [(7, .v (.pointer (some (Addr.mk b2 0 none))))]
noncomputable def delta_Between.r1.code : Code := sub (bodyOf delta_Between.fn) [1, 1, 1, 1, 0, 1, 0]
noncomputable def delta_Between.r1.rec (fn : FuncId) (tm : Array Value) (d : Nat) (st : LoopState) (pd : Option Code) : Obj := recO fn tm (rgP delta_Between.r1.code) (rgA delta_Between.r1.code) (rgB delta_Between.r1.code) d st pd
noncomputable def delta_Between.r2.fr (b3 : Nat) : List AV := mkFr 101 [(8, .v (.pointer (some (Addr.mk b3 0 none))))]
noncomputable def delta_Between.r2.code : Code := sub (bodyOf delta_Between.fn) [1, 1, 1, 1, 1, 0, 1, 0]
noncomputable def delta_Between.r2.rec (fn : FuncId) (tm : Array Value) (d : Nat) (st : LoopState) (pd : Option Code) : Obj := recO fn tm (rgP delta_Between.r2.code) (rgA delta_Between.r2.code) (rgB delta_Between.r2.code) d st pd
noncomputable def delta_Between.r3.fr (d : Addr) (b2 : Nat) (b3 : Nat) : List AV := mkFr 101 [(6, .v (.pointer (some d))), (7, .v (.pointer (some (Addr.mk b2 0 none)))), (8, .v (.pointer (some (Addr.mk b3 0 none))))]
noncomputable def delta_Between.r3.code : Code := sub (bodyOf delta_Between.fn) [1, 1, 1, 1, 1, 1, 0, 1, 0]
noncomputable def delta_Between.r3.rec (fn : FuncId) (tm : Array Value) (d : Nat) (st : LoopState) (pd : Option Code) : Obj := recO fn tm (rgP delta_Between.r3.code) (rgA delta_Between.r3.code) (rgB delta_Between.r3.code) d st pd
noncomputable def delta_Between.k1.st (aIndex : Int) (aTerm : Int) (aPairs : Sl) (aSessions : Sl) (bIndex : Int) (bTerm : Int) (bPairs : Sl) (bSessions : Sl) (H3 : Hp) (x : Bool) : VS := ⟨mkFr 101 [(2, .loc 0 0), (3, .loc 1 0), (4, .loc 2 0), (5, .v (.int .i64 0)), (29, .v (.bool x))], [(T_api_State, [.int .i64 aIndex, .int .i64 aTerm, .slice aPairs.a aPairs.len aPairs.cap, .slice aSessions.a aSessions.len aSessions.cap]), (T_api_State, [.int .i64 bIndex, .int .i64 bTerm, .slice bPairs.a bPairs.len bPairs.cap, .slice bSessions.a bSessions.len bSessions.cap]), (T_delta_Delta, [.int .i64 0, .int .i64 0, .int .i64 0, .slice none 0 0, .slice none 0 0])], H3⟩
noncomputable def delta_Between.k1 (J : Jn) (aIndex : Int) (aTerm : Int) (aPairs : Sl) (aSessions : Sl) (bIndex : Int) (bTerm : Int) (bPairs : Sl) (bSessions : Sl) (H3 : Hp) (x : Bool) (Q : Value → Hp → Prop) : Prop := J (vSeg Try.prog delta_Between.cf J delta_Between.fn [1, 0, 1] [0, 3, 3] Q) (delta_Between.k1.st aIndex aTerm aPairs aSessions bIndex bTerm bPairs bSessions H3 x)
noncomputable def delta_Between.k2.st (aIndex : Int) (aTerm : Int) (aPairs : Sl) (aSessions : Sl) (bIndex : Int) (bTerm : Int) (bPairs : Sl) (bSessions : Sl) (d : Addr) (H10 : Hp) : VS := ⟨mkFr 101 [(2, .loc 0 0), (3, .loc 1 0), (4, .loc 2 0), (5, .v (.int .i64 0)), (6, .v (.pointer (some d)))], [(T_api_State, [.int .i64 aIndex, .int .i64 aTerm, .slice aPairs.a aPairs.len aPairs.cap, .slice aSessions.a aSessions.len aSessions.cap]), (T_api_State, [.int .i64 bIndex, .int .i64 bTerm, .slice bPairs.a bPairs.len bPairs.cap, .slice bSessions.a bSessions.len bSessions.cap]), (T_delta_Delta, [.int .i64 0, .int .i64 0, .int .i64 0, .slice none 0 0, .slice none 0 0])], H10⟩
noncomputable def delta_Between.k2 (J : Jn) (aIndex : Int) (aTerm : Int) (aPairs : Sl) (aSessions : Sl) (bIndex : Int) (bTerm : Int) (bPairs : Sl) (bSessions : Sl) (d : Addr) (H10 : Hp) (Q : Value → Hp → Prop) : Prop := J (vSeg Try.prog delta_Between.cf J delta_Between.fn [1, 1, 1] [0, 3, 3] Q) (delta_Between.k2.st aIndex aTerm aPairs aSessions bIndex bTerm bPairs bSessions d H10)
noncomputable def delta_Between.k3.st (d : Addr) (k2 : ByteArray) (x8 : ByteArray) (H33 : Hp) (x12 : Bool) : VS := ⟨mkFr 101 [(6, .v (.pointer (some d))), (13, .v (.string k2)), (14, .v (.string x8)), (84, .v (.bool x12))], [], H33⟩
noncomputable def delta_Between.k3 (J : Jn) (d : Addr) (l2 : Nat) (rc2 : LoopState → Option Code → Obj) (k2 : ByteArray) (x8 : ByteArray) (H33 : Hp) (x12 : Bool) (Q : Value → Hp → Prop) : Prop := J (vSegC Try.prog delta_Between.cfr J (rgB delta_Between.r3.code) [0, 1, 1, 0, 1, 1, 1] [0, 0, 0, 0] (roundK l2 rc2 Q)) (delta_Between.k3.st d k2 x8 H33 x12)
attribute [irreducible] delta_Between.k1 delta_Between.k2 delta_Between.k3
noncomputable def delta_Between.k1.body (J : Jn) (aIndex : Int) (aTerm : Int) (aPairs : Sl) (aSessions : Sl) (bIndex : Int) (bTerm : Int) (bPairs : Sl) (bSessions : Sl) (H3 : Hp) (x : Bool) (Q : Value → Hp → Prop) : Prop :=
 
 Br x (Q (.tuple #[.agg #[.int .i64 0, .int .i64 0, .int .i64 0, .slice none 0 0, .slice none 0 0], .int .i64 8]) H3)
 (
  (
 vApp Try.prog T_sl_api_Session none 0 0 (.slice bSessions.a bSessions.len bSessions.cap) H3 (fun ap H4 => ∀ b : Nat, b = Array.size H4 → ∀ H5 : Hp, H5 = (Array.push H4 (.cells #[.int .i64 0, .int .i64 0, .int .i64 0, .slice none 0 0, .slice none 0 0] T_delta_Delta)) → WrAt H5 (Addr.mk b 0 none) 5 ∧ ∀ H6 : Hp, H6 = (Hp.setCells H5 (Addr.mk b 0 none) [.int .i64 aIndex, .int .i64 bIndex, .int .i64 bTerm, .slice none 0 0, .slice ap.a ap.len ap.cap] 0) → 
 delta_Between.k2 J aIndex aTerm aPairs aSessions bIndex bTerm bPairs bSessions ((Addr.mk b 0 none)) H6 Q)) ∧ 
  (∀ b1 : Nat, b1 = Array.size H3 → ∀ H7 : Hp, H7 = (Array.push H3 (.cells #[.int .i64 0, .int .i64 0, .int .i64 0, .slice none 0 0, .slice none 0 0] T_delta_Delta)) → 
 vApp Try.prog T_sl_api_Session none 0 0 (.slice bSessions.a bSessions.len bSessions.cap) H7 (fun ap1 H8 => WrAt H8 (Addr.mk b1 0 none) 5 ∧ ∀ H9 : Hp, H9 = (Hp.setCells H8 (Addr.mk b1 0 none) [.int .i64 aIndex, .int .i64 bIndex, .int .i64 bTerm, .slice none 0 0, .slice ap1.a ap1.len ap1.cap] 0) → 
 delta_Between.k2 J aIndex aTerm aPairs aSessions bIndex bTerm bPairs bSessions ((Addr.mk b1 0 none)) H9 Q)))
theorem delta_Between.k1.eq (J : Jn) (aIndex : Int) (aTerm : Int) (aPairs : Sl) (aSessions : Sl) (bIndex : Int) (bTerm : Int) (bPairs : Sl) (bSessions : Sl) (H3 : Hp) (x : Bool) (Q : Value → Hp → Prop) : vSeg Try.prog delta_Between.cf J delta_Between.fn [1, 0, 1] [0, 3, 3] Q (delta_Between.k1.st aIndex aTerm aPairs aSessions bIndex bTerm bPairs bSessions H3 x) = delta_Between.k1.body J aIndex aTerm aPairs aSessions bIndex bTerm bPairs bSessions H3 x Q := by kernel_rfl
theorem delta_Between.k1.step {aIndex : Int} {aTerm : Int} {aPairs : Sl} {aSessions : Sl} {bIndex : Int} {bTerm : Int} {bPairs : Sl} {bSessions : Sl} {H3 : Hp} {x : Bool} {Q : Value → Hp → Prop} (h : delta_Between.k1.body J0 aIndex aTerm aPairs aSessions bIndex bTerm bPairs bSessions H3 x Q) : delta_Between.k1 J0 aIndex aTerm aPairs aSessions bIndex bTerm bPairs bSessions H3 x Q := step_of (vSeg Try.prog delta_Between.cf J0 delta_Between.fn [1, 0, 1] [0, 3, 3] Q) (delta_Between.k1.st aIndex aTerm aPairs aSessions bIndex bTerm bPairs bSessions H3 x) (delta_Between.k1.eq J0 aIndex aTerm aPairs aSessions bIndex bTerm bPairs bSessions H3 x Q) (by kernel_rfl) h
noncomputable def delta_Between.k2.body (J : Jn) (aIndex : Int) (aTerm : Int) (aPairs : Sl) (aSessions : Sl) (bIndex : Int) (bTerm : Int) (bPairs : Sl) (bSessions : Sl) (d : Addr) (H10 : Hp) (Q : Value → Hp → Prop) : Prop :=
 ∀ b2 : Nat, b2 = Array.size H10 → ∀ H11 : Hp, H11 = (Array.push H10 (.cells #[.slice none 0 0] T_sorted_Map_string_string)) → ∀ b3 : Nat, b3 = Array.size H11 → ∀ H12 : Hp, H12 = (Array.push H11 (.cells #[.slice none 0 0] T_sorted_Map_string_string)) → 
 SCalls Try.prog delta_seq.id [.slice aPairs.a aPairs.len aPairs.cap] H12 (fun r H13 => ∃ x1 : Fv, r = .func x1.fn x1.fi x1.ca ∧ 
 ∀ fn : FuncId, ∀ tm : Array Value, TmOf (delta_Between.r1.fr b2) tm → vRg Try.prog (.func x1.fn x1.fi x1.ca) (Array.size H13 + 1) (Array.push (Array.push H13 hole) (delta_Between.r1.rec fn tm (Array.size H13) .ready none)) (fun H18 => ∃ st : LoopState, ∃ pd : Option Code, H18[(Array.size H13 + 1)]? = some (delta_Between.r1.rec fn tm (Array.size H13) st pd) ∧ st ≠ .busy ∧ ∀ H19 : Hp, H19 = (Array.setIfInBounds H18 (Array.size H13 + 1) (delta_Between.r1.rec fn tm (Array.size H13) .exhausted pd)) → ((pd = none → 
 SCalls Try.prog delta_seq.id [.slice bPairs.a bPairs.len bPairs.cap] H19 (fun r2 H20 => ∃ x3 : Fv, r2 = .func x3.fn x3.fi x3.ca ∧ 
 ∀ fn1 : FuncId, ∀ tm1 : Array Value, TmOf (delta_Between.r2.fr b3) tm1 → vRg Try.prog (.func x3.fn x3.fi x3.ca) (Array.size H20 + 1) (Array.push (Array.push H20 hole) (delta_Between.r2.rec fn1 tm1 (Array.size H20) .ready none)) (fun H25 => ∃ st1 : LoopState, ∃ pd1 : Option Code, H25[(Array.size H20 + 1)]? = some (delta_Between.r2.rec fn1 tm1 (Array.size H20) st1 pd1) ∧ st1 ≠ .busy ∧ ∀ H26 : Hp, H26 = (Array.setIfInBounds H25 (Array.size H20 + 1) (delta_Between.r2.rec fn1 tm1 (Array.size H20) .exhausted pd1)) → ((pd1 = none → 
 SCalls Try.prog sorted_Map_string_string_All.id [.pointer (some (Addr.mk b2 0 none))] H26 (fun r4 H27 => ∃ x5 : Fv, r4 = .func x5.fn x5.fi x5.ca ∧ 
 SCalls Try.prog sorted_Map_string_string_All.id [.pointer (some (Addr.mk b3 0 none))] H27 (fun r5 H28 => ∃ x6 : Fv, r5 = .func x6.fn x6.fi x6.ca ∧ 
 SCalls Try.prog sorted_Merge_string_string.id [.func x5.fn x5.fi x5.ca, .func x6.fn x6.fi x6.ca] H28 (fun r6 H29 => ∃ x7 : Fv, r6 = .func x7.fn x7.fi x7.ca ∧ 
 ∀ fn2 : FuncId, ∀ tm2 : Array Value, TmOf (delta_Between.r3.fr d b2 b3) tm2 → vRg Try.prog (.func x7.fn x7.fi x7.ca) (Array.size H29 + 1) (Array.push (Array.push H29 hole) (delta_Between.r3.rec fn2 tm2 (Array.size H29) .ready none)) (fun H40 => ∃ st2 : LoopState, ∃ pd2 : Option Code, H40[(Array.size H29 + 1)]? = some (delta_Between.r3.rec fn2 tm2 (Array.size H29) st2 pd2) ∧ st2 ≠ .busy ∧ ∀ H41 : Hp, H41 = (Array.setIfInBounds H40 (Array.size H29 + 1) (delta_Between.r3.rec fn2 tm2 (Array.size H29) .exhausted pd2)) → ((pd2 = none → ∃ From : Int, ∃ To : Int, ∃ Term : Int, ∃ Pairs2 : Sl, ∃ Sessions : Sl, RowAt H41 d [.int .i64 From, .int .i64 To, .int .i64 Term, .slice Pairs2.a Pairs2.len Pairs2.cap, .slice Sessions.a Sessions.len Sessions.cap] ∧ Q (.tuple #[.agg #[.int .i64 From, .int .i64 To, .int .i64 Term, .slice Pairs2.a Pairs2.len Pairs2.cap, .slice Sessions.a Sessions.len Sessions.cap], .int .i64 0]) H41) ∧ (pd2 = some .ret → Q (.tuple #[.agg #[.int .i64 0, .int .i64 0, .int .i64 0, .slice none 0 0, .slice none 0 0], .int .i64 0]) H41) ∧ (True) ∧ (pd2 = none ∨ pd2 = some .ret ∨ ∃ i ∈ ([] : List Nat), pd2 = some (.exit i)))))))) ∧ (pd1 = some .ret → Q (.tuple #[.agg #[.int .i64 0, .int .i64 0, .int .i64 0, .slice none 0 0, .slice none 0 0], .int .i64 0]) H26) ∧ (True) ∧ (pd1 = none ∨ pd1 = some .ret ∨ ∃ i ∈ ([] : List Nat), pd1 = some (.exit i)))))) ∧ (pd = some .ret → Q (.tuple #[.agg #[.int .i64 0, .int .i64 0, .int .i64 0, .slice none 0 0, .slice none 0 0], .int .i64 0]) H19) ∧ (True) ∧ (pd = none ∨ pd = some .ret ∨ ∃ i ∈ ([] : List Nat), pd = some (.exit i)))))
theorem delta_Between.k2.eq (J : Jn) (aIndex : Int) (aTerm : Int) (aPairs : Sl) (aSessions : Sl) (bIndex : Int) (bTerm : Int) (bPairs : Sl) (bSessions : Sl) (d : Addr) (H10 : Hp) (Q : Value → Hp → Prop) : vSeg Try.prog delta_Between.cf J delta_Between.fn [1, 1, 1] [0, 3, 3] Q (delta_Between.k2.st aIndex aTerm aPairs aSessions bIndex bTerm bPairs bSessions d H10) = delta_Between.k2.body J aIndex aTerm aPairs aSessions bIndex bTerm bPairs bSessions d H10 Q := by kernel_rfl
theorem delta_Between.k2.step {aIndex : Int} {aTerm : Int} {aPairs : Sl} {aSessions : Sl} {bIndex : Int} {bTerm : Int} {bPairs : Sl} {bSessions : Sl} {d : Addr} {H10 : Hp} {Q : Value → Hp → Prop} (h : delta_Between.k2.body J0 aIndex aTerm aPairs aSessions bIndex bTerm bPairs bSessions d H10 Q) : delta_Between.k2 J0 aIndex aTerm aPairs aSessions bIndex bTerm bPairs bSessions d H10 Q := step_of (vSeg Try.prog delta_Between.cf J0 delta_Between.fn [1, 1, 1] [0, 3, 3] Q) (delta_Between.k2.st aIndex aTerm aPairs aSessions bIndex bTerm bPairs bSessions d H10) (delta_Between.k2.eq J0 aIndex aTerm aPairs aSessions bIndex bTerm bPairs bSessions d H10 Q) (by kernel_rfl) h
noncomputable def delta_Between.k3.body (J : Jn) (d : Addr) (l2 : Nat) (rc2 : LoopState → Option Code → Obj) (k2 : ByteArray) (x8 : ByteArray) (H33 : Hp) (x12 : Bool) (Q : Value → Hp → Prop) : Prop :=
 
 Br x12 (∃ Pairs1 : Sl, Hp.cell? H33 (d.add 3) = some (.slice Pairs1.a Pairs1.len Pairs1.cap) ∧ ∀ b5 : Nat, b5 = Array.size H33 → ∀ H37 : Hp, H37 = (Array.push H33 (.cells #[.string k2, .string x8, .bool false] T_api_Pair)) → 
 vApp Try.prog T_sl_api_Pair Pairs1.a Pairs1.len Pairs1.cap (.slice (some (Addr.mk b5 0 none)) 1 1) H37 (fun ap3 H38 => WrAt H38 (d.add 3) 1 ∧ ∀ H39 : Hp, H39 = (Hp.setCell H38 (d.add 3) (.slice ap3.a ap3.len ap3.cap)) → 
 ((∃ st : LoopState, ∃ pd : Option Code, H39[l2]? = some (rc2 st pd)) ∧ Q (.bool true) (Array.setIfInBounds H39 l2 (rc2 .ready none)))))
 (
 ((∃ st : LoopState, ∃ pd : Option Code, H33[l2]? = some (rc2 st pd)) ∧ Q (.bool true) (Array.setIfInBounds H33 l2 (rc2 .ready none))))
theorem delta_Between.k3.eq (J : Jn) (d : Addr) (l2 : Nat) (rc2 : LoopState → Option Code → Obj) (k2 : ByteArray) (x8 : ByteArray) (H33 : Hp) (x12 : Bool) (Q : Value → Hp → Prop) : vSegC Try.prog delta_Between.cfr J (rgB delta_Between.r3.code) [0, 1, 1, 0, 1, 1, 1] [0, 0, 0, 0] (roundK l2 rc2 Q) (delta_Between.k3.st d k2 x8 H33 x12) = delta_Between.k3.body J d l2 rc2 k2 x8 H33 x12 Q := by kernel_rfl
theorem delta_Between.k3.step {d : Addr} {l2 : Nat} {rc2 : LoopState → Option Code → Obj} {k2 : ByteArray} {x8 : ByteArray} {H33 : Hp} {x12 : Bool} {Q : Value → Hp → Prop} (h : delta_Between.k3.body J0 d l2 rc2 k2 x8 H33 x12 Q) : delta_Between.k3 J0 d l2 rc2 k2 x8 H33 x12 Q := step_of (vSegC Try.prog delta_Between.cfr J0 (rgB delta_Between.r3.code) [0, 1, 1, 0, 1, 1, 1] [0, 0, 0, 0] (roundK l2 rc2 Q)) (delta_Between.k3.st d k2 x8 H33 x12) (delta_Between.k3.eq J0 d l2 rc2 k2 x8 H33 x12 Q) (by kernel_rfl) h
noncomputable def delta_Between.r1.body (J : Jn) (b2 : Nat) (l : Nat) (rc : LoopState → Option Code → Obj) (k : ByteArray) (vKey : ByteArray) (vValue : ByteArray) (vGone : Bool) (H14 : Hp) (Q : Value → Hp → Prop) : Prop :=
 ∀ H15 : Hp, H15 = (holes H14 1) → H15[l]? = some (rc .ready none) ∧ ∀ H16 : Hp, H16 = (Array.setIfInBounds H15 l (rc .busy none)) → 
 SCalls Try.prog sorted_Map_string_string_Put.id [.pointer (some (Addr.mk b2 0 none)), .string k, .string vValue] H16 (fun r1 H17 => ∃ x2 : Bool, r1 = .bool x2 ∧ 
 ((∃ st : LoopState, ∃ pd : Option Code, H17[l]? = some (rc st pd)) ∧ Q (.bool true) (Array.setIfInBounds H17 l (rc .ready none))))
theorem delta_Between.r1.eq (J : Jn) (b2 : Nat) (l : Nat) (rc : LoopState → Option Code → Obj) (k : ByteArray) (vKey : ByteArray) (vValue : ByteArray) (vGone : Bool) (H14 : Hp) (Q : Value → Hp → Prop) : vRound Try.prog delta_Between.cfr J (rgA delta_Between.r1.code) (rgB delta_Between.r1.code) (setFr (delta_Between.r1.fr b2) (rgP delta_Between.r1.code).toList [.string k, .agg #[.string vKey, .string vValue, .bool vGone]]) l rc H14 Q = delta_Between.r1.body J b2 l rc k vKey vValue vGone H14 Q := by kernel_rfl
theorem delta_Between.r1.calls {b2 : Nat} {l : Nat} {k : ByteArray} {vKey : ByteArray} {vValue : ByteArray} {vGone : Bool} {H14 : Hp} {fnA : FuncId} {tmA : Array Value} {dA : Nat} {Q : Value → Hp → Prop} (hl : H14[l]? = some (delta_Between.r1.rec fnA tmA dA .ready none)) (hT : TmOf (delta_Between.r1.fr b2) tmA) (h : delta_Between.r1.body J0 b2 l (delta_Between.r1.rec fnA tmA dA) k vKey vValue vGone H14 Q) : YCalls Try.prog l [.string k, .agg #[.string vKey, .string vValue, .bool vGone]] H14 Q := vRound_calls (cf := delta_Between.cfr) (fn := fnA) (tm := tmA) (ps := rgP delta_Between.r1.code) (asg := rgA delta_Between.r1.code) (body := rgB delta_Between.r1.code) (d := dA) (fr := (delta_Between.r1.fr b2)) Try.mixed (by kernel_rfl) hl (by kernel_rfl) hT ((delta_Between.r1.eq J0 b2 l (delta_Between.r1.rec fnA tmA dA) k vKey vValue vGone H14 Q).mpr h)
noncomputable def delta_Between.r2.body (J : Jn) (b3 : Nat) (l1 : Nat) (rc1 : LoopState → Option Code → Obj) (k1 : ByteArray) (vKey1 : ByteArray) (vValue1 : ByteArray) (vGone1 : Bool) (H21 : Hp) (Q : Value → Hp → Prop) : Prop :=
 ∀ H22 : Hp, H22 = (holes H21 1) → H22[l1]? = some (rc1 .ready none) ∧ ∀ H23 : Hp, H23 = (Array.setIfInBounds H22 l1 (rc1 .busy none)) → 
 SCalls Try.prog sorted_Map_string_string_Put.id [.pointer (some (Addr.mk b3 0 none)), .string k1, .string vValue1] H23 (fun r3 H24 => ∃ x4 : Bool, r3 = .bool x4 ∧ 
 ((∃ st : LoopState, ∃ pd : Option Code, H24[l1]? = some (rc1 st pd)) ∧ Q (.bool true) (Array.setIfInBounds H24 l1 (rc1 .ready none))))
theorem delta_Between.r2.eq (J : Jn) (b3 : Nat) (l1 : Nat) (rc1 : LoopState → Option Code → Obj) (k1 : ByteArray) (vKey1 : ByteArray) (vValue1 : ByteArray) (vGone1 : Bool) (H21 : Hp) (Q : Value → Hp → Prop) : vRound Try.prog delta_Between.cfr J (rgA delta_Between.r2.code) (rgB delta_Between.r2.code) (setFr (delta_Between.r2.fr b3) (rgP delta_Between.r2.code).toList [.string k1, .agg #[.string vKey1, .string vValue1, .bool vGone1]]) l1 rc1 H21 Q = delta_Between.r2.body J b3 l1 rc1 k1 vKey1 vValue1 vGone1 H21 Q := by kernel_rfl
theorem delta_Between.r2.calls {b3 : Nat} {l1 : Nat} {k1 : ByteArray} {vKey1 : ByteArray} {vValue1 : ByteArray} {vGone1 : Bool} {H21 : Hp} {fnA : FuncId} {tmA : Array Value} {dA : Nat} {Q : Value → Hp → Prop} (hl : H21[l1]? = some (delta_Between.r2.rec fnA tmA dA .ready none)) (hT : TmOf (delta_Between.r2.fr b3) tmA) (h : delta_Between.r2.body J0 b3 l1 (delta_Between.r2.rec fnA tmA dA) k1 vKey1 vValue1 vGone1 H21 Q) : YCalls Try.prog l1 [.string k1, .agg #[.string vKey1, .string vValue1, .bool vGone1]] H21 Q := vRound_calls (cf := delta_Between.cfr) (fn := fnA) (tm := tmA) (ps := rgP delta_Between.r2.code) (asg := rgA delta_Between.r2.code) (body := rgB delta_Between.r2.code) (d := dA) (fr := (delta_Between.r2.fr b3)) Try.mixed (by kernel_rfl) hl (by kernel_rfl) hT ((delta_Between.r2.eq J0 b3 l1 (delta_Between.r2.rec fnA tmA dA) k1 vKey1 vValue1 vGone1 H21 Q).mpr h)
noncomputable def delta_Between.r3.body (J : Jn) (d : Addr) (b2 : Nat) (b3 : Nat) (l2 : Nat) (rc2 : LoopState → Option Code → Obj) (k2 : ByteArray) (v : ByteArray) (H30 : Hp) (Q : Value → Hp → Prop) : Prop :=
 H30[l2]? = some (rc2 .ready none) ∧ ∀ H31 : Hp, H31 = (Array.setIfInBounds H30 l2 (rc2 .busy none)) → 
 SCalls Try.prog sorted_Map_string_string_Get.id [.pointer (some (Addr.mk b3 0 none)), .string k2] H31 (fun r7 H32 => ∃ x8 : ByteArray, ∃ x9 : Bool, r7 = .tuple #[.string x8, .bool x9] ∧ 
 SCalls Try.prog sorted_Map_string_string_Get.id [.pointer (some (Addr.mk b2 0 none)), .string k2] H32 (fun r8 H33 => ∃ x10 : ByteArray, ∃ x11 : Bool, r8 = .tuple #[.string x10, .bool x11] ∧ 
 Br (!x9) (∃ Pairs : Sl, Hp.cell? H33 (d.add 3) = some (.slice Pairs.a Pairs.len Pairs.cap) ∧ ∀ b4 : Nat, b4 = Array.size H33 → ∀ H34 : Hp, H34 = (Array.push H33 (.cells #[.string k2, .string (ByteArray.mk #[]), .bool true] T_api_Pair)) → 
 vApp Try.prog T_sl_api_Pair Pairs.a Pairs.len Pairs.cap (.slice (some (Addr.mk b4 0 none)) 1 1) H34 (fun ap2 H35 => WrAt H35 (d.add 3) 1 ∧ ∀ H36 : Hp, H36 = (Hp.setCell H35 (d.add 3) (.slice ap2.a ap2.len ap2.cap)) → 
 ((∃ st : LoopState, ∃ pd : Option Code, H36[l2]? = some (rc2 st pd)) ∧ Q (.bool true) (Array.setIfInBounds H36 l2 (rc2 .ready none)))))
 (
 Br (!x11) (
 delta_Between.k3 J d l2 rc2 k2 x8 H33 true Q)
 (
 delta_Between.k3 J d l2 rc2 k2 x8 H33 (!(x10.toList == x8.toList)) Q))))
theorem delta_Between.r3.eq (J : Jn) (d : Addr) (b2 : Nat) (b3 : Nat) (l2 : Nat) (rc2 : LoopState → Option Code → Obj) (k2 : ByteArray) (v : ByteArray) (H30 : Hp) (Q : Value → Hp → Prop) : vRound Try.prog delta_Between.cfr J (rgA delta_Between.r3.code) (rgB delta_Between.r3.code) (setFr (delta_Between.r3.fr d b2 b3) (rgP delta_Between.r3.code).toList [.string k2, .string v]) l2 rc2 H30 Q = delta_Between.r3.body J d b2 b3 l2 rc2 k2 v H30 Q := by kernel_rfl
theorem delta_Between.r3.calls {d : Addr} {b2 : Nat} {b3 : Nat} {l2 : Nat} {k2 : ByteArray} {v : ByteArray} {H30 : Hp} {fnA : FuncId} {tmA : Array Value} {dA : Nat} {Q : Value → Hp → Prop} (hl : H30[l2]? = some (delta_Between.r3.rec fnA tmA dA .ready none)) (hT : TmOf (delta_Between.r3.fr d b2 b3) tmA) (h : delta_Between.r3.body J0 d b2 b3 l2 (delta_Between.r3.rec fnA tmA dA) k2 v H30 Q) : YCalls Try.prog l2 [.string k2, .string v] H30 Q := vRound_calls (cf := delta_Between.cfr) (fn := fnA) (tm := tmA) (ps := rgP delta_Between.r3.code) (asg := rgA delta_Between.r3.code) (body := rgB delta_Between.r3.code) (d := dA) (fr := (delta_Between.r3.fr d b2 b3)) Try.mixed (by kernel_rfl) hl (by kernel_rfl) hT ((delta_Between.r3.eq J0 d b2 b3 l2 (delta_Between.r3.rec fnA tmA dA) k2 v H30 Q).mpr h)
attribute [irreducible] delta_Between.r1.rec delta_Between.r1.fr delta_Between.r1.code delta_Between.r2.rec delta_Between.r2.fr delta_Between.r2.code delta_Between.r3.rec delta_Between.r3.fr delta_Between.r3.code
noncomputable def delta_Between.vc (J : Jn) (aIndex : Int) (aTerm : Int) (aPairs : Sl) (aSessions : Sl) (bIndex : Int) (bTerm : Int) (bPairs : Sl) (bSessions : Sl) (H : Hp) (Q : Value → Hp → Prop) : Prop :=
 ∀ H1 : Hp, H1 = (holes H 1) → ∀ H2 : Hp, H2 = (holes H1 1) → ∀ H3 : Hp, H3 = (holes H2 1) → 
 Br (decide (bIndex < aIndex)) (
 delta_Between.k1 J aIndex aTerm aPairs aSessions bIndex bTerm bPairs bSessions H3 true Q)
 (
 delta_Between.k1 J aIndex aTerm aPairs aSessions bIndex bTerm bPairs bSessions H3 (decide (bTerm < aTerm)) Q)
theorem delta_Between.eq (J : Jn) (aIndex : Int) (aTerm : Int) (aPairs : Sl) (aSessions : Sl) (bIndex : Int) (bTerm : Int) (bPairs : Sl) (bSessions : Sl) (H : Hp) (Q : Value → Hp → Prop) : vFn Try.prog delta_Between.cf J delta_Between.fn [.agg #[.int .i64 aIndex, .int .i64 aTerm, .slice aPairs.a aPairs.len aPairs.cap, .slice aSessions.a aSessions.len aSessions.cap], .agg #[.int .i64 bIndex, .int .i64 bTerm, .slice bPairs.a bPairs.len bPairs.cap, .slice bSessions.a bSessions.len bSessions.cap]] H Q = delta_Between.vc J aIndex aTerm aPairs aSessions bIndex bTerm bPairs bSessions H Q := by kernel_rfl
theorem delta_Between.calls {aIndex : Int} {aTerm : Int} {aPairs : Sl} {aSessions : Sl} {bIndex : Int} {bTerm : Int} {bPairs : Sl} {bSessions : Sl} {H : Hp} {Q : Value → Hp → Prop} (h : delta_Between.vc J0 aIndex aTerm aPairs aSessions bIndex bTerm bPairs bSessions H Q) : SCalls Try.prog delta_Between.id [.agg #[.int .i64 aIndex, .int .i64 aTerm, .slice aPairs.a aPairs.len aPairs.cap, .slice aSessions.a aSessions.len aSessions.cap], .agg #[.int .i64 bIndex, .int .i64 bTerm, .slice bPairs.a bPairs.len bPairs.cap, .slice bSessions.a bSessions.len bSessions.cap]] H Q := vFn_of Try.mixed Try.func30 (delta_Between.eq J0 aIndex aTerm aPairs aSessions bIndex bTerm bPairs bSessions H Q) h

/-! 50: tephra/delta.Read -/
noncomputable def delta_Read.cf : Cfg := ⟨[2, 5, 1000003], [], [], [], true, []⟩
noncomputable def delta_Read.vc (J : Jn) (b : Sl) (H : Hp) (Q : Value → Hp → Prop) : Prop :=
 ∀ H1 : Hp, H1 = (holes H 1) → 
 SCalls Try.prog pack_Of.id [.slice b.a b.len b.cap] H1 (fun r H2 => ∃ x : Option Addr, r = .pointer x ∧ 
 SCalls Try.prog pack_Reader_Num.id [.pointer x] H2 (fun r1 H3 => ∃ x1 : Int, r1 = .int .i64 x1 ∧ ∀ H4 : Hp, H4 = (holes H3 1) → 
 SCalls Try.prog pack_Reader_Num.id [.pointer x] H4 (fun r2 H5 => ∃ x2 : Int, r2 = .int .i64 x2 ∧ 
 SCalls Try.prog pack_Reader_Num.id [.pointer x] H5 (fun r3 H6 => ∃ x3 : Int, r3 = .int .i64 x3 ∧ 
 SCalls Try.prog state_ReadRows.id [.pointer x] H6 (fun r4 H7 => ∃ x4 : Sl, ∃ x5 : Sl, r4 = .tuple #[.slice x4.a x4.len x4.cap, .slice x5.a x5.len x5.cap] ∧ 
 SCalls Try.prog pack_Reader_Done.id [.pointer x] H7 (fun r5 H8 => ∃ x6 : Bool, r5 = .bool x6 ∧ 
 Br (!x6) (
  (
  (Q (.tuple #[.agg #[.int .i64 0, .int .i64 0, .int .i64 0, .slice none 0 0, .slice none 0 0], .bool false]) H8) ∧ 
  (Q (.tuple #[.agg #[.int .i64 0, .int .i64 0, .int .i64 0, .slice none 0 0, .slice none 0 0], .bool false]) H8)) ∧ 
  (Q (.tuple #[.agg #[.int .i64 0, .int .i64 0, .int .i64 0, .slice none 0 0, .slice none 0 0], .bool false]) H8))
 (
 SCalls Try.prog delta_Right.id [.agg #[.int .i64 x1, .int .i64 x2, .int .i64 x3, .slice x4.a x4.len x4.cap, .slice x5.a x5.len x5.cap]] H8 (fun r6 H9 => ∃ x7 : Bool, r6 = .bool x7 ∧ 
 Br (!x7) (
  (
  (Q (.tuple #[.agg #[.int .i64 0, .int .i64 0, .int .i64 0, .slice none 0 0, .slice none 0 0], .bool false]) H9) ∧ 
  (Q (.tuple #[.agg #[.int .i64 0, .int .i64 0, .int .i64 0, .slice none 0 0, .slice none 0 0], .bool false]) H9)) ∧ 
  (Q (.tuple #[.agg #[.int .i64 0, .int .i64 0, .int .i64 0, .slice none 0 0, .slice none 0 0], .bool false]) H9))
 (
  (
 SCalls Try.prog delta_Bytes.id [.agg #[.int .i64 x1, .int .i64 x2, .int .i64 x3, .slice x4.a x4.len x4.cap, .slice x5.a x5.len x5.cap]] H9 (fun r7 H10 => ∃ x8 : Sl, r7 = .slice x8.a x8.len x8.cap ∧ 
  (vB2S H10 x8.a x8.len (fun s => vB2S H10 b.a b.len (fun s1 => 
 Br (!(s.toList == s1.toList)) (Q (.tuple #[.agg #[.int .i64 0, .int .i64 0, .int .i64 0, .slice none 0 0, .slice none 0 0], .bool false]) H10)
 (Q (.tuple #[.agg #[.int .i64 x1, .int .i64 x2, .int .i64 x3, .slice x4.a x4.len x4.cap, .slice x5.a x5.len x5.cap], .bool true]) H10)))) ∧ 
  (vB2S H10 b.a b.len (fun s2 => vB2S H10 x8.a x8.len (fun s3 => 
 Br (!(s3.toList == s2.toList)) (Q (.tuple #[.agg #[.int .i64 0, .int .i64 0, .int .i64 0, .slice none 0 0, .slice none 0 0], .bool false]) H10)
 (Q (.tuple #[.agg #[.int .i64 x1, .int .i64 x2, .int .i64 x3, .slice x4.a x4.len x4.cap, .slice x5.a x5.len x5.cap], .bool true]) H10)))))) ∧ 
  (vB2S H9 b.a b.len (fun s4 => 
 SCalls Try.prog delta_Bytes.id [.agg #[.int .i64 x1, .int .i64 x2, .int .i64 x3, .slice x4.a x4.len x4.cap, .slice x5.a x5.len x5.cap]] H9 (fun r8 H11 => ∃ x9 : Sl, r8 = .slice x9.a x9.len x9.cap ∧ vB2S H11 x9.a x9.len (fun s5 => 
 Br (!(s5.toList == s4.toList)) (Q (.tuple #[.agg #[.int .i64 0, .int .i64 0, .int .i64 0, .slice none 0 0, .slice none 0 0], .bool false]) H11)
 (Q (.tuple #[.agg #[.int .i64 x1, .int .i64 x2, .int .i64 x3, .slice x4.a x4.len x4.cap, .slice x5.a x5.len x5.cap], .bool true]) H11))))))))))))))
theorem delta_Read.eq (J : Jn) (b : Sl) (H : Hp) (Q : Value → Hp → Prop) : vFn Try.prog delta_Read.cf J delta_Read.fn [.slice b.a b.len b.cap] H Q = delta_Read.vc J b H Q := by kernel_rfl
theorem delta_Read.calls {b : Sl} {H : Hp} {Q : Value → Hp → Prop} (h : delta_Read.vc J0 b H Q) : SCalls Try.prog delta_Read.id [.slice b.a b.len b.cap] H Q := vFn_of Try.mixed Try.func50 (delta_Read.eq J0 b H Q) h

/-! 52: tephra/delta.seq -/
noncomputable def delta_seq.cf : Cfg := ⟨[1000003], [], [], [], true, []⟩
noncomputable def delta_seq.vc (J : Jn) (ps : Sl) (H : Hp) (Q : Value → Hp → Prop) : Prop :=
 ∀ b : Nat, b = Array.size H → ∀ H1 : Hp, H1 = (Array.push H (.cells #[.slice ps.a ps.len ps.cap] T_sl_api_Pair)) → Q (.func (.func 66) #[] #[.pointer (some (Addr.mk b 0 none))]) H1
theorem delta_seq.eq (J : Jn) (ps : Sl) (H : Hp) (Q : Value → Hp → Prop) : vFn Try.prog delta_seq.cf J delta_seq.fn [.slice ps.a ps.len ps.cap] H Q = delta_seq.vc J ps H Q := by kernel_rfl
theorem delta_seq.calls {ps : Sl} {H : Hp} {Q : Value → Hp → Prop} (h : delta_seq.vc J0 ps H Q) : SCalls Try.prog delta_seq.id [.slice ps.a ps.len ps.cap] H Q := vFn_of Try.mixed Try.func52 (delta_seq.eq J0 ps H Q) h

/-! 66: tephra/delta.seq$1 -/
noncomputable def delta_seq_1.cf : Cfg := ⟨[4, 1000003], [(1, [0, 5, 6, 7])], [], [], true, []⟩
noncomputable def delta_seq_1.l1.st (yield : Fv) (x : Sl) (H1 : Hp) (x1 : Int) : VS := ⟨mkFr 18 [(0, .v (.func yield.fn yield.fi yield.ca)), (5, .v (.slice x.a x.len x.cap)), (6, .v (.int .i64 ((x.len : Nat) : Int))), (7, .v (.int .i64 x1))], [], H1⟩
noncomputable def delta_seq_1.l1 (J : Jn) (yield : Fv) (x : Sl) (H1 : Hp) (x1 : Int) (Q : Value → Hp → Prop) : Prop := vAt Try.prog delta_seq_1.cf J delta_seq_1.fn [1, 0] [0] Q (delta_seq_1.l1.st yield x H1 x1)
attribute [irreducible] delta_seq_1.l1
noncomputable def delta_seq_1.l1.body (J : Jn) (yield : Fv) (x : Sl) (H1 : Hp) (x1 : Int) (Q : Value → Hp → Prop) : Prop :=
 
 Br (decide (x1 < ((x.len : Nat) : Int))) (((0 : Int) ≤ x1 ∧ x1 < ((x.len : Nat) : Int)) ∧ vPtr x.a (fun a => ∃ Key : ByteArray, ∃ Valuev : ByteArray, ∃ Gone : Bool, RowAt H1 (a.add ((x1 : Int).toNat * 3)) [.string Key, .string Valuev, .bool Gone] ∧ ∀ H2 : Hp, H2 = (holes H1 1) → 
 vInv Try.prog (.func yield.fn yield.fi yield.ca) [.string Key, .agg #[.string Key, .string Valuev, .bool Gone]] H2 (fun r H3 => ∃ x2 : Bool, r = .bool x2 ∧ 
 Br (!x2) (Q (.tuple #[]) H3)
 (
 delta_seq_1.l1 J yield x H3 (w64 (x1 + 1)) Q))))
 (Q (.tuple #[]) H1)
theorem delta_seq_1.l1.eq (J : Jn) (yield : Fv) (x : Sl) (H1 : Hp) (x1 : Int) (Q : Value → Hp → Prop) : vAtBody Try.prog delta_seq_1.cf J delta_seq_1.fn [1, 0] [0] Q (delta_seq_1.l1.st yield x H1 x1) = delta_seq_1.l1.body J yield x H1 x1 Q := by kernel_rfl
theorem delta_seq_1.l1.step {yield : Fv} {x : Sl} {H1 : Hp} {x1 : Int} {Q : Value → Hp → Prop} (h : delta_seq_1.l1.body J0 yield x H1 x1 Q) : delta_seq_1.l1 J0 yield x H1 x1 Q := vAt_stepC (delta_seq_1.l1.st yield x H1 x1) (delta_seq_1.l1.eq J0 yield x H1 x1 Q) (by kernel_rfl) h
noncomputable def delta_seq_1.vc (J : Jn) (yield : Fv) (cap0 : Addr) (H : Hp) (Q : Value → Hp → Prop) : Prop :=
 ∃ x : Sl, Hp.cell? H cap0 = some (.slice x.a x.len x.cap) ∧ 
 delta_seq_1.l1 J yield x H 0 Q
theorem delta_seq_1.eq (J : Jn) (yield : Fv) (cap0 : Addr) (H : Hp) (Q : Value → Hp → Prop) : vFn Try.prog delta_seq_1.cf J delta_seq_1.fn [.func yield.fn yield.fi yield.ca, .pointer (some cap0)] H Q = delta_seq_1.vc J yield cap0 H Q := by kernel_rfl
theorem delta_seq_1.calls {yield : Fv} {cap0 : Addr} {H : Hp} {Q : Value → Hp → Prop} (h : delta_seq_1.vc J0 yield cap0 H Q) : SCalls Try.prog delta_seq_1.id [.func yield.fn yield.fi yield.ca, .pointer (some cap0)] H Q := vFn_of Try.mixed Try.func66 (delta_seq_1.eq J0 yield cap0 H Q) h

/-! 8: tephra/tephralaw09.ImageDelta -/
noncomputable def tephralaw09_ImageDelta.cf : Cfg := ⟨[7, 8, 12, 14, 1000003], [], [], [], true, []⟩
noncomputable def tephralaw09_ImageDelta.vc (J : Jn) (says : Sl) (one : Int) (two : Int) (H : Hp) (Q : Value → Hp → Prop) : Prop :=
 
 SCalls Try.prog tephralaw09_awake.id [] H (fun r H1 => ∃ x : Bool, r = .bool x ∧ 
 Br (!x) (Q (.bool false) H1)
 (
 SCalls Try.prog tephralaw08_Three.id [.slice says.a says.len says.cap, .int .u8 one, .int .u8 two] H1 (fun r1 H2 => ∃ x0Index : Int, ∃ x0Term : Int, ∃ x0Pairs : Sl, ∃ x0Sessions : Sl, ∃ x1Index : Int, ∃ x1Term : Int, ∃ x1Pairs : Sl, ∃ x1Sessions : Sl, ∃ x2Index : Int, ∃ x2Term : Int, ∃ x2Pairs : Sl, ∃ x2Sessions : Sl, r1 = .agg #[.int .i64 x0Index, .int .i64 x0Term, .slice x0Pairs.a x0Pairs.len x0Pairs.cap, .slice x0Sessions.a x0Sessions.len x0Sessions.cap, .int .i64 x1Index, .int .i64 x1Term, .slice x1Pairs.a x1Pairs.len x1Pairs.cap, .slice x1Sessions.a x1Sessions.len x1Sessions.cap, .int .i64 x2Index, .int .i64 x2Term, .slice x2Pairs.a x2Pairs.len x2Pairs.cap, .slice x2Sessions.a x2Sessions.len x2Sessions.cap] ∧ ∀ H3 : Hp, H3 = (holes H2 1) → ((0 : Int) ≤ 0 ∧ (0 : Int) < ((3 : Nat) : Int)) ∧ ((0 : Int) ≤ 1 ∧ (1 : Int) < ((3 : Nat) : Int)) ∧ 
 SCalls Try.prog delta_Between.id [.agg #[.int .i64 x0Index, .int .i64 x0Term, .slice x0Pairs.a x0Pairs.len x0Pairs.cap, .slice x0Sessions.a x0Sessions.len x0Sessions.cap], .agg #[.int .i64 x1Index, .int .i64 x1Term, .slice x1Pairs.a x1Pairs.len x1Pairs.cap, .slice x1Sessions.a x1Sessions.len x1Sessions.cap]] H3 (fun r2 H4 => ∃ From : Int, ∃ To : Int, ∃ Term : Int, ∃ Pairs : Sl, ∃ Sessions : Sl, ∃ x1 : Int, r2 = .tuple #[.agg #[.int .i64 From, .int .i64 To, .int .i64 Term, .slice Pairs.a Pairs.len Pairs.cap, .slice Sessions.a Sessions.len Sessions.cap], .int .i64 x1] ∧ ∀ H5 : Hp, H5 = (holes H4 1) → 
 SCalls Try.prog image_Delta.id [.agg #[.int .i64 From, .int .i64 To, .int .i64 Term, .slice Pairs.a Pairs.len Pairs.cap, .slice Sessions.a Sessions.len Sessions.cap]] H5 (fun r3 H6 => ∃ x2 : Sl, ∃ x3 : Int, r3 = .tuple #[.slice x2.a x2.len x2.cap, .int .i64 x3] ∧ 
 SCalls Try.prog image_ReadDelta.id [.slice x2.a x2.len x2.cap] H6 (fun r4 H7 => ∃ From1 : Int, ∃ To1 : Int, ∃ Term1 : Int, ∃ Pairs1 : Sl, ∃ Sessions1 : Sl, ∃ x4 : Int, r4 = .tuple #[.agg #[.int .i64 From1, .int .i64 To1, .int .i64 Term1, .slice Pairs1.a Pairs1.len Pairs1.cap, .slice Sessions1.a Sessions1.len Sessions1.cap], .int .i64 x4] ∧ ∀ H8 : Hp, H8 = (holes H7 1) → 
 SCalls Try.prog image_ReadFull.id [.slice x2.a x2.len x2.cap] H8 (fun r5 H9 => ∃ Index : Int, ∃ Term2 : Int, ∃ Pairs2 : Sl, ∃ Sessions2 : Sl, ∃ x5 : Int, r5 = .tuple #[.agg #[.int .i64 Index, .int .i64 Term2, .slice Pairs2.a Pairs2.len Pairs2.cap, .slice Sessions2.a Sessions2.len Sessions2.cap], .int .i64 x5] ∧ ∀ H10 : Hp, H10 = (holes H9 1) → 
 SCalls Try.prog image_ReadPart.id [.slice x2.a x2.len x2.cap, .int .i64 From] H10 (fun r6 H11 => ∃ x6 : Sl, ∃ x7 : Int, ∃ x8 : Int, r6 = .tuple #[.slice x6.a x6.len x6.cap, .int .i64 x7, .int .i64 x8] ∧ 
 Br (x3 == 0) (
 Br (x4 == 0) (
 SCalls Try.prog delta_Same.id [.agg #[.int .i64 From1, .int .i64 To1, .int .i64 Term1, .slice Pairs1.a Pairs1.len Pairs1.cap, .slice Sessions1.a Sessions1.len Sessions1.cap], .agg #[.int .i64 From, .int .i64 To, .int .i64 Term, .slice Pairs.a Pairs.len Pairs.cap, .slice Sessions.a Sessions.len Sessions.cap]] H11 (fun r7 H12 => ∃ x9 : Bool, r7 = .bool x9 ∧ 
 Br x9 (
 Br (x5 == 10) (
 Br (x8 == 10) (
  (vB2S H12 x2.a x2.len (fun s => 
 SCalls Try.prog tephralaw09_head.id [.int .i64 1, .int .i64 From, .int .i64 To] H12 (fun r8 H13 => ∃ x10 : ByteArray, r8 = .string x10 ∧ 
 SCalls Try.prog delta_Bytes.id [.agg #[.int .i64 From, .int .i64 To, .int .i64 Term, .slice Pairs.a Pairs.len Pairs.cap, .slice Sessions.a Sessions.len Sessions.cap]] H13 (fun r9 H14 => ∃ x11 : Sl, r9 = .slice x11.a x11.len x11.cap ∧ 
 SCalls Try.prog tephralaw09_form.id [.slice x11.a x11.len x11.cap] H14 (fun r10 H15 => ∃ x12 : ByteArray, r10 = .string x12 ∧ x10.size + x12.size ≤ 9223372036854775807 ∧ Q (.bool (s.toList == (x10 ++ x12).toList)) H15))))) ∧ 
  (
 SCalls Try.prog tephralaw09_head.id [.int .i64 1, .int .i64 From, .int .i64 To] H12 (fun r11 H16 => ∃ x13 : ByteArray, r11 = .string x13 ∧ 
  (vB2S H16 x2.a x2.len (fun s1 => 
 SCalls Try.prog delta_Bytes.id [.agg #[.int .i64 From, .int .i64 To, .int .i64 Term, .slice Pairs.a Pairs.len Pairs.cap, .slice Sessions.a Sessions.len Sessions.cap]] H16 (fun r12 H17 => ∃ x14 : Sl, r12 = .slice x14.a x14.len x14.cap ∧ 
 SCalls Try.prog tephralaw09_form.id [.slice x14.a x14.len x14.cap] H17 (fun r13 H18 => ∃ x15 : ByteArray, r13 = .string x15 ∧ x13.size + x15.size ≤ 9223372036854775807 ∧ Q (.bool (s1.toList == (x13 ++ x15).toList)) H18)))) ∧ 
  (
 SCalls Try.prog delta_Bytes.id [.agg #[.int .i64 From, .int .i64 To, .int .i64 Term, .slice Pairs.a Pairs.len Pairs.cap, .slice Sessions.a Sessions.len Sessions.cap]] H16 (fun r14 H19 => ∃ x16 : Sl, r14 = .slice x16.a x16.len x16.cap ∧ 
  (vB2S H19 x2.a x2.len (fun s2 => 
 SCalls Try.prog tephralaw09_form.id [.slice x16.a x16.len x16.cap] H19 (fun r15 H20 => ∃ x17 : ByteArray, r15 = .string x17 ∧ x13.size + x17.size ≤ 9223372036854775807 ∧ Q (.bool (s2.toList == (x13 ++ x17).toList)) H20))) ∧ 
  (
 SCalls Try.prog tephralaw09_form.id [.slice x16.a x16.len x16.cap] H19 (fun r16 H21 => ∃ x18 : ByteArray, r16 = .string x18 ∧ x13.size + x18.size ≤ 9223372036854775807 ∧ vB2S H21 x2.a x2.len (fun s3 => Q (.bool (s3.toList == (x13 ++ x18).toList)) H21))))))))
 (
  (Q (.bool false) H12) ∧ 
  (
  (Q (.bool false) H12) ∧ 
  (
  (Q (.bool false) H12) ∧ 
  (Q (.bool false) H12)))))
 (
  (Q (.bool false) H12) ∧ 
  (
  (Q (.bool false) H12) ∧ 
  (
  (Q (.bool false) H12) ∧ 
  (Q (.bool false) H12)))))
 (
  (Q (.bool false) H12) ∧ 
  (
  (Q (.bool false) H12) ∧ 
  (
  (Q (.bool false) H12) ∧ 
  (Q (.bool false) H12))))))
 (
  (Q (.bool false) H11) ∧ 
  (
  (Q (.bool false) H11) ∧ 
  (
  (Q (.bool false) H11) ∧ 
  (Q (.bool false) H11)))))
 (
  (Q (.bool false) H11) ∧ 
  (
  (Q (.bool false) H11) ∧ 
  (
  (Q (.bool false) H11) ∧ 
  (Q (.bool false) H11))))))))))))
theorem tephralaw09_ImageDelta.eq (J : Jn) (says : Sl) (one : Int) (two : Int) (H : Hp) (Q : Value → Hp → Prop) : vFn Try.prog tephralaw09_ImageDelta.cf J tephralaw09_ImageDelta.fn [.slice says.a says.len says.cap, .int .u8 one, .int .u8 two] H Q = tephralaw09_ImageDelta.vc J says one two H Q := by kernel_rfl
theorem tephralaw09_ImageDelta.calls {says : Sl} {one : Int} {two : Int} {H : Hp} {Q : Value → Hp → Prop} (h : tephralaw09_ImageDelta.vc J0 says one two H Q) : SCalls Try.prog tephralaw09_ImageDelta.id [.slice says.a says.len says.cap, .int .u8 one, .int .u8 two] H Q := vFn_of Try.mixed Try.func8 (tephralaw09_ImageDelta.eq J0 says one two H Q) h

end Go.Proofs
