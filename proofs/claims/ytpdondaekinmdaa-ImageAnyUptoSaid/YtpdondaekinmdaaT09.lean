/- THE SEAT'S CODE, AS WALKED, text 3 of 3: for each function what is to be shown of it (printed by the own program gen.py), held by the kernel. -/
import Derived.Test.YtpdondaekinmdaaT09b
set_option maxRecDepth 100000
set_option linter.all false
set_option linter.constructorNameAsVariable false
namespace Go.Proofs
open Go Go.KC
/-! 84: (*tephra/sorted.Map_string, string_).find$1 -/
noncomputable def sorted_Map_string_string_find_1.cf : Cfg := ⟨[2], [], [], [], true, []⟩
noncomputable def sorted_Map_string_string_find_1.vc (J : Jn) (xkey : ByteArray) (xvalue : ByteArray) (k : ByteArray) (H : Hp) (Q : Value → Hp → Prop) : Prop :=
 
 SCalls Try.prog cmp_Compare_string.id [.string xkey, .string k] (holes H 1) (fun r H1 => ∃ x : Int, r = .int .i64 x ∧ Q (.int .i64 x) H1)
theorem sorted_Map_string_string_find_1.eq (J : Jn) (xkey : ByteArray) (xvalue : ByteArray) (k : ByteArray) (H : Hp) (Q : Value → Hp → Prop) : vFn Try.prog sorted_Map_string_string_find_1.cf J sorted_Map_string_string_find_1.fn [.agg #[.string xkey, .string xvalue], .string k] H Q = sorted_Map_string_string_find_1.vc J xkey xvalue k H Q := by kernel_rfl
theorem sorted_Map_string_string_find_1.calls {xkey : ByteArray} {xvalue : ByteArray} {k : ByteArray} {H : Hp} {Q : Value → Hp → Prop} (h : sorted_Map_string_string_find_1.vc J0 xkey xvalue k H Q) : SCalls Try.prog sorted_Map_string_string_find_1.id [.agg #[.string xkey, .string xvalue], .string k] H Q := vFn_of Try.mixed Try.func84 (sorted_Map_string_string_find_1.eq J0 xkey xvalue k H Q) h

/-! 85: cmp.Compare_string_ -/
noncomputable def cmp_Compare_string.cf : Cfg := ⟨[], [], [], [], true, []⟩
noncomputable def cmp_Compare_string.vc (J : Jn) (x : ByteArray) (y : ByteArray) (H : Hp) (Q : Value → Hp → Prop) : Prop :=
 
 SCalls Try.prog cmp_isNaN_string.id [.string x] H (fun r H1 => ∃ x1 : Bool, r = .bool x1 ∧ 
 SCalls Try.prog cmp_isNaN_string.id [.string y] H1 (fun r1 H2 => ∃ x2 : Bool, r1 = .bool x2 ∧ 
 Br x1 (
 Br x2 (Q (.int .i64 0) H2)
 (Q (.int .i64 (-1)) H2))
 (
 Br x2 (Q (.int .i64 1) H2)
 (
 Br (Op.bytesLess x.toList y.toList) (Q (.int .i64 (-1)) H2)
 (
 Br (!((Op.bytesLess x.toList y.toList) || (x.toList == y.toList))) (Q (.int .i64 1) H2)
 (Q (.int .i64 0) H2))))))
theorem cmp_Compare_string.eq (J : Jn) (x : ByteArray) (y : ByteArray) (H : Hp) (Q : Value → Hp → Prop) : vFn Try.prog cmp_Compare_string.cf J cmp_Compare_string.fn [.string x, .string y] H Q = cmp_Compare_string.vc J x y H Q := by kernel_rfl
theorem cmp_Compare_string.calls {x : ByteArray} {y : ByteArray} {H : Hp} {Q : Value → Hp → Prop} (h : cmp_Compare_string.vc J0 x y H Q) : SCalls Try.prog cmp_Compare_string.id [.string x, .string y] H Q := vFn_of Try.mixed Try.func85 (cmp_Compare_string.eq J0 x y H Q) h

/-! 87: slices.rotateRight_tephra/sorted.item_string, string__ -/
noncomputable def slices_rotateRight_sorted_item_string_string.cf : Cfg := ⟨[], [], [], [], true, []⟩
noncomputable def slices_rotateRight_sorted_item_string_string.vc (J : Jn) (s : Sl) (r : Int) (H : Hp) (Q : Value → Hp → Prop) : Prop :=
 
 SCalls Try.prog slices_rotateLeft_sorted_item_string_string.id [.slice s.a s.len s.cap, .int .i64 (w64 (((s.len : Nat) : Int) - r))] H (fun r1 H1 => r1 = .tuple #[] ∧ Q (.tuple #[]) H1)
theorem slices_rotateRight_sorted_item_string_string.eq (J : Jn) (s : Sl) (r : Int) (H : Hp) (Q : Value → Hp → Prop) : vFn Try.prog slices_rotateRight_sorted_item_string_string.cf J slices_rotateRight_sorted_item_string_string.fn [.slice s.a s.len s.cap, .int .i64 r] H Q = slices_rotateRight_sorted_item_string_string.vc J s r H Q := by kernel_rfl
theorem slices_rotateRight_sorted_item_string_string.calls {s : Sl} {r : Int} {H : Hp} {Q : Value → Hp → Prop} (h : slices_rotateRight_sorted_item_string_string.vc J0 s r H Q) : SCalls Try.prog slices_rotateRight_sorted_item_string_string.id [.slice s.a s.len s.cap, .int .i64 r] H Q := vFn_of Try.mixed Try.func87 (slices_rotateRight_sorted_item_string_string.eq J0 s r H Q) h

/-! 90: (*tephra/sorted.Map_int, tephra/api.Session_).find -/
noncomputable def sorted_Map_int_api_Session_find.cf : Cfg := ⟨[], [], [], [], true, []⟩
noncomputable def sorted_Map_int_api_Session_find.vc (J : Jn) (m : Addr) (k : Int) (H : Hp) (Q : Value → Hp → Prop) : Prop :=
 ∃ items : Sl, Hp.cell? H m = some (.slice items.a items.len items.cap) ∧ 
 SCalls Try.prog slices_BinarySearchFunc_sl_sorted_item_int_api_Session_sorted_item_int_api_Session_int.id [.slice items.a items.len items.cap, .int .i64 k, .func (.func 98) #[] #[]] H (fun r H1 => ∃ x : Int, ∃ x1 : Bool, r = .tuple #[.int .i64 x, .bool x1] ∧ Q (.tuple #[.int .i64 x, .bool x1]) H1)
theorem sorted_Map_int_api_Session_find.eq (J : Jn) (m : Addr) (k : Int) (H : Hp) (Q : Value → Hp → Prop) : vFn Try.prog sorted_Map_int_api_Session_find.cf J sorted_Map_int_api_Session_find.fn [.pointer (some m), .int .i64 k] H Q = sorted_Map_int_api_Session_find.vc J m k H Q := by kernel_rfl
theorem sorted_Map_int_api_Session_find.calls {m : Addr} {k : Int} {H : Hp} {Q : Value → Hp → Prop} (h : sorted_Map_int_api_Session_find.vc J0 m k H Q) : SCalls Try.prog sorted_Map_int_api_Session_find.id [.pointer (some m), .int .i64 k] H Q := vFn_of Try.mixed Try.func90 (sorted_Map_int_api_Session_find.eq J0 m k H Q) h

/-! 91: (*tephra/sorted.Map_string, string_).Len -/
noncomputable def sorted_Map_string_string_Len.cf : Cfg := ⟨[], [], [], [], true, []⟩
noncomputable def sorted_Map_string_string_Len.vc (J : Jn) (m : Addr) (H : Hp) (Q : Value → Hp → Prop) : Prop :=
 ∃ items : Sl, Hp.cell? H m = some (.slice items.a items.len items.cap) ∧ Q (.int .i64 ((items.len : Nat) : Int)) H
theorem sorted_Map_string_string_Len.eq (J : Jn) (m : Addr) (H : Hp) (Q : Value → Hp → Prop) : vFn Try.prog sorted_Map_string_string_Len.cf J sorted_Map_string_string_Len.fn [.pointer (some m)] H Q = sorted_Map_string_string_Len.vc J m H Q := by kernel_rfl
theorem sorted_Map_string_string_Len.calls {m : Addr} {H : Hp} {Q : Value → Hp → Prop} (h : sorted_Map_string_string_Len.vc J0 m H Q) : SCalls Try.prog sorted_Map_string_string_Len.id [.pointer (some m)] H Q := vFn_of Try.mixed Try.func91 (sorted_Map_string_string_Len.eq J0 m H Q) h

/-! 92: (*tephra/sorted.Map_string, string_).Del -/
noncomputable def sorted_Map_string_string_Del.cf : Cfg := ⟨[], [], [], [], true, []⟩
noncomputable def sorted_Map_string_string_Del.vc (J : Jn) (m : Addr) (k : ByteArray) (H : Hp) (Q : Value → Hp → Prop) : Prop :=
 
 SCalls Try.prog sorted_Map_string_string_find.id [.pointer (some m), .string k] H (fun r H1 => ∃ x : Int, ∃ x1 : Bool, r = .tuple #[.int .i64 x, .bool x1] ∧ 
 Br x1 (∃ items : Sl, Hp.cell? H1 m = some (.slice items.a items.len items.cap) ∧ 
 SCalls Try.prog slices_Delete_sl_sorted_item_string_string_sorted_item_string_string.id [.slice items.a items.len items.cap, .int .i64 x, .int .i64 (w64 (x + 1))] H1 (fun r1 H2 => ∃ x2 : Sl, r1 = .slice x2.a x2.len x2.cap ∧ WrAt H2 m 1 ∧ Q (.bool x1) (Hp.setCell H2 m (.slice x2.a x2.len x2.cap))))
 (Q (.bool x1) H1))
theorem sorted_Map_string_string_Del.eq (J : Jn) (m : Addr) (k : ByteArray) (H : Hp) (Q : Value → Hp → Prop) : vFn Try.prog sorted_Map_string_string_Del.cf J sorted_Map_string_string_Del.fn [.pointer (some m), .string k] H Q = sorted_Map_string_string_Del.vc J m k H Q := by kernel_rfl
theorem sorted_Map_string_string_Del.calls {m : Addr} {k : ByteArray} {H : Hp} {Q : Value → Hp → Prop} (h : sorted_Map_string_string_Del.vc J0 m k H Q) : SCalls Try.prog sorted_Map_string_string_Del.id [.pointer (some m), .string k] H Q := vFn_of Try.mixed Try.func92 (sorted_Map_string_string_Del.eq J0 m k H Q) h

/-! 93: slices.Insert___tephra/sorted.item_int, tephra/api.Session_,tephra/sorted.item_int, tephra/api.Session__ -/
noncomputable def slices_Insert_sl_sorted_item_int_api_Session_sorted_item_int_api_Session.cf : Cfg := ⟨[], [], [], [], true, []⟩
noncomputable def slices_Insert_sl_sorted_item_int_api_Session_sorted_item_int_api_Session.vc (J : Jn) (s : Sl) (i : Int) (v : Sl) (H : Hp) (Q : Value → Hp → Prop) : Prop :=
 ((0 : Int) ≤ i ∧ i ≤ ((s.len : Nat) : Int)) ∧ 
 Br (((v.len : Nat) : Int) == 0) (Q (.slice s.a s.len s.cap) H)
 (
 Br (i == ((s.len : Nat) : Int)) (
 vApp Try.prog T_sl_sorted_item_int_api_Session s.a s.len s.cap (.slice v.a v.len v.cap) H (fun ap H1 => Q (.slice ap.a ap.len ap.cap) H1))
 (
 Br (decide ((w64 (((s.len : Nat) : Int) + ((v.len : Nat) : Int))) > ((s.cap : Nat) : Int))) (((0 : Int) ≤ i ∧ i ≤ ((s.cap : Nat) : Int)) ∧ 
 vAppZ Try.prog T_sl_sorted_item_int_api_Session (cutA s.a s.cap 0 5) ((i : Int).toNat) s.cap (w64 ((w64 (((s.len : Nat) : Int) + ((v.len : Nat) : Int))) - i)) H (fun ap1 H2 => ((0 : Int) ≤ i ∧ i ≤ ((ap1.len : Nat) : Int)) ∧ 
 vCopy Try.prog T_sl_sorted_item_int_api_Session (cutA ap1.a ap1.cap ((i : Int).toNat) 5) (ap1.len - ((i : Int).toNat)) (.slice v.a v.len v.cap) H2 (fun n H3 => ((0 : Int) ≤ (w64 (i + ((v.len : Nat) : Int))) ∧ (w64 (i + ((v.len : Nat) : Int))) ≤ ((ap1.len : Nat) : Int)) ∧ ((0 : Int) ≤ i ∧ i ≤ ((s.len : Nat) : Int)) ∧ 
 vCopy Try.prog T_sl_sorted_item_int_api_Session (cutA ap1.a ap1.cap (((w64 (i + ((v.len : Nat) : Int))) : Int).toNat) 5) (ap1.len - (((w64 (i + ((v.len : Nat) : Int))) : Int).toNat)) (.slice (cutA s.a s.cap ((i : Int).toNat) 5) (s.len - ((i : Int).toNat)) (s.cap - ((i : Int).toNat))) H3 (fun n1 H4 => Q (.slice ap1.a ap1.len ap1.cap) H4))))
 (((0 : Int) ≤ (w64 (((s.len : Nat) : Int) + ((v.len : Nat) : Int))) ∧ (w64 (((s.len : Nat) : Int) + ((v.len : Nat) : Int))) ≤ ((s.cap : Nat) : Int)) ∧ ((0 : Int) ≤ (w64 (i + ((v.len : Nat) : Int))) ∧ (w64 (i + ((v.len : Nat) : Int))) ≤ (((((w64 (((s.len : Nat) : Int) + ((v.len : Nat) : Int))) : Int).toNat) : Nat) : Int)) ∧ 
 ExtC Try.prog 101 [.slice v.a v.len v.cap, .slice (cutA (cutA s.a s.cap 0 5) s.cap (((w64 (i + ((v.len : Nat) : Int))) : Int).toNat) 5) ((((w64 (((s.len : Nat) : Int) + ((v.len : Nat) : Int))) : Int).toNat) - (((w64 (i + ((v.len : Nat) : Int))) : Int).toNat)) (s.cap - (((w64 (i + ((v.len : Nat) : Int))) : Int).toNat))] H (fun r H5 => ∃ x : Bool, r = .bool x ∧ 
 Br (!x) (((0 : Int) ≤ (w64 (i + ((v.len : Nat) : Int))) ∧ (w64 (i + ((v.len : Nat) : Int))) ≤ (((((w64 (((s.len : Nat) : Int) + ((v.len : Nat) : Int))) : Int).toNat) : Nat) : Int)) ∧ ((0 : Int) ≤ i ∧ i ≤ (((((w64 (((s.len : Nat) : Int) + ((v.len : Nat) : Int))) : Int).toNat) : Nat) : Int)) ∧ 
 vCopy Try.prog T_sl_sorted_item_int_api_Session (cutA (cutA s.a s.cap 0 5) s.cap (((w64 (i + ((v.len : Nat) : Int))) : Int).toNat) 5) ((((w64 (((s.len : Nat) : Int) + ((v.len : Nat) : Int))) : Int).toNat) - (((w64 (i + ((v.len : Nat) : Int))) : Int).toNat)) (.slice (cutA (cutA s.a s.cap 0 5) s.cap ((i : Int).toNat) 5) ((((w64 (((s.len : Nat) : Int) + ((v.len : Nat) : Int))) : Int).toNat) - ((i : Int).toNat)) (s.cap - ((i : Int).toNat))) H5 (fun n2 H6 => ((0 : Int) ≤ i ∧ i ≤ (((((w64 (((s.len : Nat) : Int) + ((v.len : Nat) : Int))) : Int).toNat) : Nat) : Int)) ∧ 
 vCopy Try.prog T_sl_sorted_item_int_api_Session (cutA (cutA s.a s.cap 0 5) s.cap ((i : Int).toNat) 5) ((((w64 (((s.len : Nat) : Int) + ((v.len : Nat) : Int))) : Int).toNat) - ((i : Int).toNat)) (.slice v.a v.len v.cap) H6 (fun n3 H7 => Q (.slice (cutA s.a s.cap 0 5) (((w64 (((s.len : Nat) : Int) + ((v.len : Nat) : Int))) : Int).toNat) s.cap) H7)))
 (((0 : Int) ≤ ((s.len : Nat) : Int) ∧ ((s.len : Nat) : Int) ≤ (((((w64 (((s.len : Nat) : Int) + ((v.len : Nat) : Int))) : Int).toNat) : Nat) : Int)) ∧ 
 vCopy Try.prog T_sl_sorted_item_int_api_Session (cutA (cutA s.a s.cap 0 5) s.cap ((((s.len : Nat) : Int) : Int).toNat) 5) ((((w64 (((s.len : Nat) : Int) + ((v.len : Nat) : Int))) : Int).toNat) - ((((s.len : Nat) : Int) : Int).toNat)) (.slice v.a v.len v.cap) H5 (fun n4 H8 => ((0 : Int) ≤ i ∧ i ≤ (((((w64 (((s.len : Nat) : Int) + ((v.len : Nat) : Int))) : Int).toNat) : Nat) : Int)) ∧ 
 SCalls Try.prog slices_rotateRight_sorted_item_int_api_Session.id [.slice (cutA (cutA s.a s.cap 0 5) s.cap ((i : Int).toNat) 5) ((((w64 (((s.len : Nat) : Int) + ((v.len : Nat) : Int))) : Int).toNat) - ((i : Int).toNat)) (s.cap - ((i : Int).toNat)), .int .i64 ((v.len : Nat) : Int)] H8 (fun r1 H9 => r1 = .tuple #[] ∧ Q (.slice (cutA s.a s.cap 0 5) (((w64 (((s.len : Nat) : Int) + ((v.len : Nat) : Int))) : Int).toNat) s.cap) H9)))))))
theorem slices_Insert_sl_sorted_item_int_api_Session_sorted_item_int_api_Session.eq (J : Jn) (s : Sl) (i : Int) (v : Sl) (H : Hp) (Q : Value → Hp → Prop) : vFn Try.prog slices_Insert_sl_sorted_item_int_api_Session_sorted_item_int_api_Session.cf J slices_Insert_sl_sorted_item_int_api_Session_sorted_item_int_api_Session.fn [.slice s.a s.len s.cap, .int .i64 i, .slice v.a v.len v.cap] H Q = slices_Insert_sl_sorted_item_int_api_Session_sorted_item_int_api_Session.vc J s i v H Q := by kernel_rfl
theorem slices_Insert_sl_sorted_item_int_api_Session_sorted_item_int_api_Session.calls {s : Sl} {i : Int} {v : Sl} {H : Hp} {Q : Value → Hp → Prop} (h : slices_Insert_sl_sorted_item_int_api_Session_sorted_item_int_api_Session.vc J0 s i v H Q) : SCalls Try.prog slices_Insert_sl_sorted_item_int_api_Session_sorted_item_int_api_Session.id [.slice s.a s.len s.cap, .int .i64 i, .slice v.a v.len v.cap] H Q := vFn_of Try.mixed Try.func93 (slices_Insert_sl_sorted_item_int_api_Session_sorted_item_int_api_Session.eq J0 s i v H Q) h

/-! 94: (*tephra/sorted.Map_int, tephra/api.Session_).All$1 -/
noncomputable def sorted_Map_int_api_Session_All_1.cf : Cfg := ⟨[4], [(1, [0, 8, 9, 10])], [], [], true, []⟩
noncomputable def sorted_Map_int_api_Session_All_1.l1.st (yield : Fv) (items : Sl) (H1 : Hp) (x1 : Int) : VS := ⟨mkFr 22 [(0, .v (.func yield.fn yield.fi yield.ca)), (8, .v (.slice items.a items.len items.cap)), (9, .v (.int .i64 ((items.len : Nat) : Int))), (10, .v (.int .i64 x1))], [], H1⟩
noncomputable def sorted_Map_int_api_Session_All_1.l1 (J : Jn) (yield : Fv) (items : Sl) (H1 : Hp) (x1 : Int) (Q : Value → Hp → Prop) : Prop := vAt Try.prog sorted_Map_int_api_Session_All_1.cf J sorted_Map_int_api_Session_All_1.fn [1, 0] [0] Q (sorted_Map_int_api_Session_All_1.l1.st yield items H1 x1)
attribute [irreducible] sorted_Map_int_api_Session_All_1.l1
noncomputable def sorted_Map_int_api_Session_All_1.l1.body (J : Jn) (yield : Fv) (items : Sl) (H1 : Hp) (x1 : Int) (Q : Value → Hp → Prop) : Prop :=
 
 Br (decide (x1 < ((items.len : Nat) : Int))) (((0 : Int) ≤ x1 ∧ x1 < ((items.len : Nat) : Int)) ∧ vPtr items.a (fun a1 => ∃ key : Int, ∃ valueClient : Int, ∃ valueSeq : Int, ∃ valueReplyErr : Int, ∃ valueReplyValue : ByteArray, RowAt H1 (a1.add ((x1 : Int).toNat * 5)) [.int .i64 key, .int .i64 valueClient, .int .i64 valueSeq, .int .i64 valueReplyErr, .string valueReplyValue] ∧ 
 vInv Try.prog (.func yield.fn yield.fi yield.ca) [.int .i64 key, .agg #[.int .i64 valueClient, .int .i64 valueSeq, .int .i64 valueReplyErr, .string valueReplyValue]] (holes H1 1) (fun r H2 => ∃ x2 : Bool, r = .bool x2 ∧ 
 Br (!x2) (Q (.tuple #[]) H2)
 (
 sorted_Map_int_api_Session_All_1.l1 J yield items H2 (w64 (x1 + 1)) Q))))
 (Q (.tuple #[]) H1)
theorem sorted_Map_int_api_Session_All_1.l1.eq (J : Jn) (yield : Fv) (items : Sl) (H1 : Hp) (x1 : Int) (Q : Value → Hp → Prop) : vAtBody Try.prog sorted_Map_int_api_Session_All_1.cf J sorted_Map_int_api_Session_All_1.fn [1, 0] [0] Q (sorted_Map_int_api_Session_All_1.l1.st yield items H1 x1) = sorted_Map_int_api_Session_All_1.l1.body J yield items H1 x1 Q := by kernel_rfl
theorem sorted_Map_int_api_Session_All_1.l1.step {yield : Fv} {items : Sl} {H1 : Hp} {x1 : Int} {Q : Value → Hp → Prop} (h : sorted_Map_int_api_Session_All_1.l1.body J0 yield items H1 x1 Q) : sorted_Map_int_api_Session_All_1.l1 J0 yield items H1 x1 Q := vAt_stepC (sorted_Map_int_api_Session_All_1.l1.st yield items H1 x1) (sorted_Map_int_api_Session_All_1.l1.eq J0 yield items H1 x1 Q) (by kernel_rfl) h
noncomputable def sorted_Map_int_api_Session_All_1.vc (J : Jn) (yield : Fv) (cap0 : Addr) (H : Hp) (Q : Value → Hp → Prop) : Prop :=
 ∃ x : Option Addr, Hp.cell? H cap0 = some (.pointer x) ∧ vPtr x (fun a => ∃ items : Sl, Hp.cell? H a = some (.slice items.a items.len items.cap) ∧ 
 sorted_Map_int_api_Session_All_1.l1 J yield items H 0 Q)
theorem sorted_Map_int_api_Session_All_1.eq (J : Jn) (yield : Fv) (cap0 : Addr) (H : Hp) (Q : Value → Hp → Prop) : vFn Try.prog sorted_Map_int_api_Session_All_1.cf J sorted_Map_int_api_Session_All_1.fn [.func yield.fn yield.fi yield.ca, .pointer (some cap0)] H Q = sorted_Map_int_api_Session_All_1.vc J yield cap0 H Q := by kernel_rfl
theorem sorted_Map_int_api_Session_All_1.calls {yield : Fv} {cap0 : Addr} {H : Hp} {Q : Value → Hp → Prop} (h : sorted_Map_int_api_Session_All_1.vc J0 yield cap0 H Q) : SCalls Try.prog sorted_Map_int_api_Session_All_1.id [.func yield.fn yield.fi yield.ca, .pointer (some cap0)] H Q := vFn_of Try.mixed Try.func94 (sorted_Map_int_api_Session_All_1.eq J0 yield cap0 H Q) h

/-! 95: cmp.isNaN_string_ -/
noncomputable def cmp_isNaN_string.cf : Cfg := ⟨[], [], [], [], true, []⟩
noncomputable def cmp_isNaN_string.vc (J : Jn) (x : ByteArray) (H : Hp) (Q : Value → Hp → Prop) : Prop :=
 Q (.bool (!(x.toList == x.toList))) H
theorem cmp_isNaN_string.eq (J : Jn) (x : ByteArray) (H : Hp) (Q : Value → Hp → Prop) : vFn Try.prog cmp_isNaN_string.cf J cmp_isNaN_string.fn [.string x] H Q = cmp_isNaN_string.vc J x H Q := by kernel_rfl
theorem cmp_isNaN_string.calls {x : ByteArray} {H : Hp} {Q : Value → Hp → Prop} (h : cmp_isNaN_string.vc J0 x H Q) : SCalls Try.prog cmp_isNaN_string.id [.string x] H Q := vFn_of Try.mixed Try.func95 (cmp_isNaN_string.eq J0 x H Q) h

/-! 96: slices.rotateLeft_tephra/sorted.item_string, string__ -/
noncomputable def slices_rotateLeft_sorted_item_string_string.cf : Cfg := ⟨[], [], [], [], true, []⟩
noncomputable def slices_rotateLeft_sorted_item_string_string.vc (J : Jn) (s : Sl) (r : Int) (H : Hp) (Q : Value → Hp → Prop) : Prop :=
 ((0 : Int) ≤ r ∧ r ≤ ((s.cap : Nat) : Int)) ∧ 
 SCalls Try.prog slices_Reverse_sl_sorted_item_string_string_sorted_item_string_string.id [.slice (cutA s.a s.cap 0 2) ((r : Int).toNat) s.cap] H (fun r1 H1 => r1 = .tuple #[] ∧ ((0 : Int) ≤ r ∧ r ≤ ((s.len : Nat) : Int)) ∧ 
 SCalls Try.prog slices_Reverse_sl_sorted_item_string_string_sorted_item_string_string.id [.slice (cutA s.a s.cap ((r : Int).toNat) 2) (s.len - ((r : Int).toNat)) (s.cap - ((r : Int).toNat))] H1 (fun r2 H2 => r2 = .tuple #[] ∧ 
 SCalls Try.prog slices_Reverse_sl_sorted_item_string_string_sorted_item_string_string.id [.slice s.a s.len s.cap] H2 (fun r3 H3 => r3 = .tuple #[] ∧ Q (.tuple #[]) H3)))
theorem slices_rotateLeft_sorted_item_string_string.eq (J : Jn) (s : Sl) (r : Int) (H : Hp) (Q : Value → Hp → Prop) : vFn Try.prog slices_rotateLeft_sorted_item_string_string.cf J slices_rotateLeft_sorted_item_string_string.fn [.slice s.a s.len s.cap, .int .i64 r] H Q = slices_rotateLeft_sorted_item_string_string.vc J s r H Q := by kernel_rfl
theorem slices_rotateLeft_sorted_item_string_string.calls {s : Sl} {r : Int} {H : Hp} {Q : Value → Hp → Prop} (h : slices_rotateLeft_sorted_item_string_string.vc J0 s r H Q) : SCalls Try.prog slices_rotateLeft_sorted_item_string_string.id [.slice s.a s.len s.cap, .int .i64 r] H Q := vFn_of Try.mixed Try.func96 (slices_rotateLeft_sorted_item_string_string.eq J0 s r H Q) h

/-! 97: slices.BinarySearchFunc___tephra/sorted.item_int, tephra/api.Session_,tephra/sorted.item_int, tephra/api.Session_,int_ -/
noncomputable def slices_BinarySearchFunc_sl_sorted_item_int_api_Session_sorted_item_int_api_Session_int.cf : Cfg := ⟨[], [(3, [0, 1, 2, 8, 9, 10])], [], [], true, []⟩
noncomputable def slices_BinarySearchFunc_sl_sorted_item_int_api_Session_sorted_item_int_api_Session_int.l1.st (x : Sl) (target : Int) (cmp : Fv) (H1 : Hp) (i : Int) (j : Int) : VS := ⟨mkFr 49 [(0, .v (.slice x.a x.len x.cap)), (1, .v (.int .i64 target)), (2, .v (.func cmp.fn cmp.fi cmp.ca)), (8, .v (.int .i64 ((x.len : Nat) : Int))), (9, .v (.int .i64 i)), (10, .v (.int .i64 j))], [], H1⟩
noncomputable def slices_BinarySearchFunc_sl_sorted_item_int_api_Session_sorted_item_int_api_Session_int.l1 (J : Jn) (x : Sl) (target : Int) (cmp : Fv) (H1 : Hp) (i : Int) (j : Int) (Q : Value → Hp → Prop) : Prop := vAt Try.prog slices_BinarySearchFunc_sl_sorted_item_int_api_Session_sorted_item_int_api_Session_int.cf J slices_BinarySearchFunc_sl_sorted_item_int_api_Session_sorted_item_int_api_Session_int.fn [1, 1, 1, 0, 0] [0, 0, 0, 0] Q (slices_BinarySearchFunc_sl_sorted_item_int_api_Session_sorted_item_int_api_Session_int.l1.st x target cmp H1 i j)
attribute [irreducible] slices_BinarySearchFunc_sl_sorted_item_int_api_Session_sorted_item_int_api_Session_int.l1
noncomputable def slices_BinarySearchFunc_sl_sorted_item_int_api_Session_sorted_item_int_api_Session_int.l1.body (J : Jn) (x : Sl) (target : Int) (cmp : Fv) (H1 : Hp) (i : Int) (j : Int) (Q : Value → Hp → Prop) : Prop :=
 
 Br (decide (i < j)) ((0 : Int) ≤ 1 ∧ ((0 : Int) ≤ (w64 ((Int.fdiv (IntKind.u64.wrap ((w64 (i + j)))) (2 ^ 1)))) ∧ (w64 ((Int.fdiv (IntKind.u64.wrap ((w64 (i + j)))) (2 ^ 1)))) < ((x.len : Nat) : Int)) ∧ vPtr x.a (fun a => ∃ key : Int, ∃ valueClient : Int, ∃ valueSeq : Int, ∃ valueReplyErr : Int, ∃ valueReplyValue : ByteArray, RowAt H1 (a.add (((w64 ((Int.fdiv (IntKind.u64.wrap ((w64 (i + j)))) (2 ^ 1)))) : Int).toNat * 5)) [.int .i64 key, .int .i64 valueClient, .int .i64 valueSeq, .int .i64 valueReplyErr, .string valueReplyValue] ∧ 
 vInv Try.prog (.func cmp.fn cmp.fi cmp.ca) [.agg #[.int .i64 key, .int .i64 valueClient, .int .i64 valueSeq, .int .i64 valueReplyErr, .string valueReplyValue], .int .i64 target] H1 (fun r H2 => ∃ x1 : Int, r = .int .i64 x1 ∧ 
 Br (decide (x1 < 0)) (
 slices_BinarySearchFunc_sl_sorted_item_int_api_Session_sorted_item_int_api_Session_int.l1 J x target cmp H2 (w64 ((w64 ((Int.fdiv (IntKind.u64.wrap ((w64 (i + j)))) (2 ^ 1)))) + 1)) j Q)
 (
 slices_BinarySearchFunc_sl_sorted_item_int_api_Session_sorted_item_int_api_Session_int.l1 J x target cmp H2 i (w64 ((Int.fdiv (IntKind.u64.wrap ((w64 (i + j)))) (2 ^ 1)))) Q))))
 (
 Br (decide (i < ((x.len : Nat) : Int))) (((0 : Int) ≤ i ∧ i < ((x.len : Nat) : Int)) ∧ vPtr x.a (fun a1 => ∃ key1 : Int, ∃ valueClient1 : Int, ∃ valueSeq1 : Int, ∃ valueReplyErr1 : Int, ∃ valueReplyValue1 : ByteArray, RowAt H1 (a1.add ((i : Int).toNat * 5)) [.int .i64 key1, .int .i64 valueClient1, .int .i64 valueSeq1, .int .i64 valueReplyErr1, .string valueReplyValue1] ∧ 
 vInv Try.prog (.func cmp.fn cmp.fi cmp.ca) [.agg #[.int .i64 key1, .int .i64 valueClient1, .int .i64 valueSeq1, .int .i64 valueReplyErr1, .string valueReplyValue1], .int .i64 target] H1 (fun r1 H3 => ∃ x2 : Int, r1 = .int .i64 x2 ∧ Q (.tuple #[.int .i64 i, .bool (x2 == 0)]) H3)))
 (Q (.tuple #[.int .i64 i, .bool false]) H1))
theorem slices_BinarySearchFunc_sl_sorted_item_int_api_Session_sorted_item_int_api_Session_int.l1.eq (J : Jn) (x : Sl) (target : Int) (cmp : Fv) (H1 : Hp) (i : Int) (j : Int) (Q : Value → Hp → Prop) : vAtBody Try.prog slices_BinarySearchFunc_sl_sorted_item_int_api_Session_sorted_item_int_api_Session_int.cf J slices_BinarySearchFunc_sl_sorted_item_int_api_Session_sorted_item_int_api_Session_int.fn [1, 1, 1, 0, 0] [0, 0, 0, 0] Q (slices_BinarySearchFunc_sl_sorted_item_int_api_Session_sorted_item_int_api_Session_int.l1.st x target cmp H1 i j) = slices_BinarySearchFunc_sl_sorted_item_int_api_Session_sorted_item_int_api_Session_int.l1.body J x target cmp H1 i j Q := by kernel_rfl
theorem slices_BinarySearchFunc_sl_sorted_item_int_api_Session_sorted_item_int_api_Session_int.l1.step {x : Sl} {target : Int} {cmp : Fv} {H1 : Hp} {i : Int} {j : Int} {Q : Value → Hp → Prop} (h : slices_BinarySearchFunc_sl_sorted_item_int_api_Session_sorted_item_int_api_Session_int.l1.body J0 x target cmp H1 i j Q) : slices_BinarySearchFunc_sl_sorted_item_int_api_Session_sorted_item_int_api_Session_int.l1 J0 x target cmp H1 i j Q := vAt_stepC (slices_BinarySearchFunc_sl_sorted_item_int_api_Session_sorted_item_int_api_Session_int.l1.st x target cmp H1 i j) (slices_BinarySearchFunc_sl_sorted_item_int_api_Session_sorted_item_int_api_Session_int.l1.eq J0 x target cmp H1 i j Q) (by kernel_rfl) h
noncomputable def slices_BinarySearchFunc_sl_sorted_item_int_api_Session_sorted_item_int_api_Session_int.vc (J : Jn) (x : Sl) (target : Int) (cmp : Fv) (H : Hp) (Q : Value → Hp → Prop) : Prop :=
 
 slices_BinarySearchFunc_sl_sorted_item_int_api_Session_sorted_item_int_api_Session_int.l1 J x target cmp H 0 ((x.len : Nat) : Int) Q
theorem slices_BinarySearchFunc_sl_sorted_item_int_api_Session_sorted_item_int_api_Session_int.eq (J : Jn) (x : Sl) (target : Int) (cmp : Fv) (H : Hp) (Q : Value → Hp → Prop) : vFn Try.prog slices_BinarySearchFunc_sl_sorted_item_int_api_Session_sorted_item_int_api_Session_int.cf J slices_BinarySearchFunc_sl_sorted_item_int_api_Session_sorted_item_int_api_Session_int.fn [.slice x.a x.len x.cap, .int .i64 target, .func cmp.fn cmp.fi cmp.ca] H Q = slices_BinarySearchFunc_sl_sorted_item_int_api_Session_sorted_item_int_api_Session_int.vc J x target cmp H Q := by kernel_rfl
theorem slices_BinarySearchFunc_sl_sorted_item_int_api_Session_sorted_item_int_api_Session_int.calls {x : Sl} {target : Int} {cmp : Fv} {H : Hp} {Q : Value → Hp → Prop} (h : slices_BinarySearchFunc_sl_sorted_item_int_api_Session_sorted_item_int_api_Session_int.vc J0 x target cmp H Q) : SCalls Try.prog slices_BinarySearchFunc_sl_sorted_item_int_api_Session_sorted_item_int_api_Session_int.id [.slice x.a x.len x.cap, .int .i64 target, .func cmp.fn cmp.fi cmp.ca] H Q := vFn_of Try.mixed Try.func97 (slices_BinarySearchFunc_sl_sorted_item_int_api_Session_sorted_item_int_api_Session_int.eq J0 x target cmp H Q) h

/-! 98: (*tephra/sorted.Map_int, tephra/api.Session_).find$1 -/
noncomputable def sorted_Map_int_api_Session_find_1.cf : Cfg := ⟨[2], [], [], [], true, []⟩
noncomputable def sorted_Map_int_api_Session_find_1.vc (J : Jn) (xkey : Int) (xvalueClient : Int) (xvalueSeq : Int) (xvalueReplyErr : Int) (xvalueReplyValue : ByteArray) (k : Int) (H : Hp) (Q : Value → Hp → Prop) : Prop :=
 
 SCalls Try.prog cmp_Compare_int.id [.int .i64 xkey, .int .i64 k] (holes H 1) (fun r H1 => ∃ x : Int, r = .int .i64 x ∧ Q (.int .i64 x) H1)
theorem sorted_Map_int_api_Session_find_1.eq (J : Jn) (xkey : Int) (xvalueClient : Int) (xvalueSeq : Int) (xvalueReplyErr : Int) (xvalueReplyValue : ByteArray) (k : Int) (H : Hp) (Q : Value → Hp → Prop) : vFn Try.prog sorted_Map_int_api_Session_find_1.cf J sorted_Map_int_api_Session_find_1.fn [.agg #[.int .i64 xkey, .int .i64 xvalueClient, .int .i64 xvalueSeq, .int .i64 xvalueReplyErr, .string xvalueReplyValue], .int .i64 k] H Q = sorted_Map_int_api_Session_find_1.vc J xkey xvalueClient xvalueSeq xvalueReplyErr xvalueReplyValue k H Q := by kernel_rfl
theorem sorted_Map_int_api_Session_find_1.calls {xkey : Int} {xvalueClient : Int} {xvalueSeq : Int} {xvalueReplyErr : Int} {xvalueReplyValue : ByteArray} {k : Int} {H : Hp} {Q : Value → Hp → Prop} (h : sorted_Map_int_api_Session_find_1.vc J0 xkey xvalueClient xvalueSeq xvalueReplyErr xvalueReplyValue k H Q) : SCalls Try.prog sorted_Map_int_api_Session_find_1.id [.agg #[.int .i64 xkey, .int .i64 xvalueClient, .int .i64 xvalueSeq, .int .i64 xvalueReplyErr, .string xvalueReplyValue], .int .i64 k] H Q := vFn_of Try.mixed Try.func98 (sorted_Map_int_api_Session_find_1.eq J0 xkey xvalueClient xvalueSeq xvalueReplyErr xvalueReplyValue k H Q) h

/-! 99: cmp.Compare_int_ -/
noncomputable def cmp_Compare_int.cf : Cfg := ⟨[], [], [], [], true, []⟩
noncomputable def cmp_Compare_int.vc (J : Jn) (x : Int) (y : Int) (H : Hp) (Q : Value → Hp → Prop) : Prop :=
 
 SCalls Try.prog cmp_isNaN_int.id [.int .i64 x] H (fun r H1 => ∃ x1 : Bool, r = .bool x1 ∧ 
 SCalls Try.prog cmp_isNaN_int.id [.int .i64 y] H1 (fun r1 H2 => ∃ x2 : Bool, r1 = .bool x2 ∧ 
 Br x1 (
 Br x2 (Q (.int .i64 0) H2)
 (Q (.int .i64 (-1)) H2))
 (
 Br x2 (Q (.int .i64 1) H2)
 (
 Br (decide (x < y)) (Q (.int .i64 (-1)) H2)
 (
 Br (decide (x > y)) (Q (.int .i64 1) H2)
 (Q (.int .i64 0) H2))))))
theorem cmp_Compare_int.eq (J : Jn) (x : Int) (y : Int) (H : Hp) (Q : Value → Hp → Prop) : vFn Try.prog cmp_Compare_int.cf J cmp_Compare_int.fn [.int .i64 x, .int .i64 y] H Q = cmp_Compare_int.vc J x y H Q := by kernel_rfl
theorem cmp_Compare_int.calls {x : Int} {y : Int} {H : Hp} {Q : Value → Hp → Prop} (h : cmp_Compare_int.vc J0 x y H Q) : SCalls Try.prog cmp_Compare_int.id [.int .i64 x, .int .i64 y] H Q := vFn_of Try.mixed Try.func99 (cmp_Compare_int.eq J0 x y H Q) h

/-! 100: slices.Delete___tephra/sorted.item_string, string_,tephra/sorted.item_string, string__ -/
noncomputable def slices_Delete_sl_sorted_item_string_string_sorted_item_string_string.cf : Cfg := ⟨[], [], [], [], true, []⟩
noncomputable def slices_Delete_sl_sorted_item_string_string_sorted_item_string_string.vc (J : Jn) (s : Sl) (i : Int) (j : Int) (H : Hp) (Q : Value → Hp → Prop) : Prop :=
 ((0 : Int) ≤ ((s.len : Nat) : Int) ∧ ((s.len : Nat) : Int) ≤ ((s.cap : Nat) : Int)) ∧ ((0 : Int) ≤ j ∧ j ≤ ((((((s.len : Nat) : Int) : Int).toNat) : Nat) : Int)) ∧ ((0 : Int) ≤ i ∧ i ≤ ((((j : Int).toNat) : Nat) : Int)) ∧ 
 Br (i == j) (Q (.slice s.a s.len s.cap) H)
 (((0 : Int) ≤ i ∧ i ≤ ((s.cap : Nat) : Int)) ∧ ((0 : Int) ≤ j ∧ j ≤ ((s.len : Nat) : Int)) ∧ 
 vApp Try.prog T_sl_sorted_item_string_string (cutA s.a s.cap 0 2) ((i : Int).toNat) s.cap (.slice (cutA s.a s.cap ((j : Int).toNat) 2) (s.len - ((j : Int).toNat)) (s.cap - ((j : Int).toNat))) H (fun ap H1 => ((0 : Int) ≤ ((s.len : Nat) : Int) ∧ ((s.len : Nat) : Int) ≤ ((ap.cap : Nat) : Int)) ∧ ((0 : Int) ≤ ((ap.len : Nat) : Int) ∧ ((ap.len : Nat) : Int) ≤ ((((((s.len : Nat) : Int) : Int).toNat) : Nat) : Int)) ∧ 
 vClear Try.prog T_sl_sorted_item_string_string (cutA ap.a ap.cap ((((ap.len : Nat) : Int) : Int).toNat) 2) (((((s.len : Nat) : Int) : Int).toNat) - ((((ap.len : Nat) : Int) : Int).toNat)) H1 (fun H2 => Q (.slice ap.a ap.len ap.cap) H2)))
theorem slices_Delete_sl_sorted_item_string_string_sorted_item_string_string.eq (J : Jn) (s : Sl) (i : Int) (j : Int) (H : Hp) (Q : Value → Hp → Prop) : vFn Try.prog slices_Delete_sl_sorted_item_string_string_sorted_item_string_string.cf J slices_Delete_sl_sorted_item_string_string_sorted_item_string_string.fn [.slice s.a s.len s.cap, .int .i64 i, .int .i64 j] H Q = slices_Delete_sl_sorted_item_string_string_sorted_item_string_string.vc J s i j H Q := by kernel_rfl
theorem slices_Delete_sl_sorted_item_string_string_sorted_item_string_string.calls {s : Sl} {i : Int} {j : Int} {H : Hp} {Q : Value → Hp → Prop} (h : slices_Delete_sl_sorted_item_string_string_sorted_item_string_string.vc J0 s i j H Q) : SCalls Try.prog slices_Delete_sl_sorted_item_string_string_sorted_item_string_string.id [.slice s.a s.len s.cap, .int .i64 i, .int .i64 j] H Q := vFn_of Try.mixed Try.func100 (slices_Delete_sl_sorted_item_string_string_sorted_item_string_string.eq J0 s i j H Q) h

/-! 102: slices.rotateRight_tephra/sorted.item_int, tephra/api.Session__ -/
noncomputable def slices_rotateRight_sorted_item_int_api_Session.cf : Cfg := ⟨[], [], [], [], true, []⟩
noncomputable def slices_rotateRight_sorted_item_int_api_Session.vc (J : Jn) (s : Sl) (r : Int) (H : Hp) (Q : Value → Hp → Prop) : Prop :=
 
 SCalls Try.prog slices_rotateLeft_sorted_item_int_api_Session.id [.slice s.a s.len s.cap, .int .i64 (w64 (((s.len : Nat) : Int) - r))] H (fun r1 H1 => r1 = .tuple #[] ∧ Q (.tuple #[]) H1)
theorem slices_rotateRight_sorted_item_int_api_Session.eq (J : Jn) (s : Sl) (r : Int) (H : Hp) (Q : Value → Hp → Prop) : vFn Try.prog slices_rotateRight_sorted_item_int_api_Session.cf J slices_rotateRight_sorted_item_int_api_Session.fn [.slice s.a s.len s.cap, .int .i64 r] H Q = slices_rotateRight_sorted_item_int_api_Session.vc J s r H Q := by kernel_rfl
theorem slices_rotateRight_sorted_item_int_api_Session.calls {s : Sl} {r : Int} {H : Hp} {Q : Value → Hp → Prop} (h : slices_rotateRight_sorted_item_int_api_Session.vc J0 s r H Q) : SCalls Try.prog slices_rotateRight_sorted_item_int_api_Session.id [.slice s.a s.len s.cap, .int .i64 r] H Q := vFn_of Try.mixed Try.func102 (slices_rotateRight_sorted_item_int_api_Session.eq J0 s r H Q) h

/-! 103: slices.Reverse___tephra/sorted.item_string, string_,tephra/sorted.item_string, string__ -/
noncomputable def slices_Reverse_sl_sorted_item_string_string_sorted_item_string_string.cf : Cfg := ⟨[], [(1, [0, 2, 3])], [], [], true, []⟩
noncomputable def slices_Reverse_sl_sorted_item_string_string_sorted_item_string_string.l1.st (s : Sl) (H1 : Hp) (i : Int) (j : Int) : VS := ⟨mkFr 28 [(0, .v (.slice s.a s.len s.cap)), (2, .v (.int .i64 i)), (3, .v (.int .i64 j))], [], H1⟩
noncomputable def slices_Reverse_sl_sorted_item_string_string_sorted_item_string_string.l1 (J : Jn) (s : Sl) (H1 : Hp) (i : Int) (j : Int) (Q : Value → Hp → Prop) : Prop := vAt Try.prog slices_Reverse_sl_sorted_item_string_string_sorted_item_string_string.cf J slices_Reverse_sl_sorted_item_string_string_sorted_item_string_string.fn [1, 0] [0] Q (slices_Reverse_sl_sorted_item_string_string_sorted_item_string_string.l1.st s H1 i j)
attribute [irreducible] slices_Reverse_sl_sorted_item_string_string_sorted_item_string_string.l1
noncomputable def slices_Reverse_sl_sorted_item_string_string_sorted_item_string_string.l1.body (J : Jn) (s : Sl) (H1 : Hp) (i : Int) (j : Int) (Q : Value → Hp → Prop) : Prop :=
 
 Br (decide (i < j)) (((0 : Int) ≤ j ∧ j < ((s.len : Nat) : Int)) ∧ vPtr s.a (fun a => ∃ key : ByteArray, ∃ value : ByteArray, RowAt H1 (a.add ((j : Int).toNat * 2)) [.string key, .string value] ∧ ((0 : Int) ≤ i ∧ i < ((s.len : Nat) : Int)) ∧ vPtr s.a (fun a1 => ∃ key1 : ByteArray, ∃ value1 : ByteArray, RowAt H1 (a1.add ((i : Int).toNat * 2)) [.string key1, .string value1] ∧ ((0 : Int) ≤ i ∧ i < ((s.len : Nat) : Int)) ∧ vPtr s.a (fun a2 => WrAt H1 (a2.add ((i : Int).toNat * 2)) 2 ∧ ((0 : Int) ≤ j ∧ j < ((s.len : Nat) : Int)) ∧ vPtr s.a (fun a3 => WrAt (Hp.setCells H1 (a2.add ((i : Int).toNat * 2)) [.string key, .string value] 0) (a3.add ((j : Int).toNat * 2)) 2 ∧ 
 slices_Reverse_sl_sorted_item_string_string_sorted_item_string_string.l1 J s (Hp.setCells (Hp.setCells H1 (a2.add ((i : Int).toNat * 2)) [.string key, .string value] 0) (a3.add ((j : Int).toNat * 2)) [.string key1, .string value1] 0) (w64 (i + 1)) (w64 (j - 1)) Q)))))
 (Q (.tuple #[]) H1)
theorem slices_Reverse_sl_sorted_item_string_string_sorted_item_string_string.l1.eq (J : Jn) (s : Sl) (H1 : Hp) (i : Int) (j : Int) (Q : Value → Hp → Prop) : vAtBody Try.prog slices_Reverse_sl_sorted_item_string_string_sorted_item_string_string.cf J slices_Reverse_sl_sorted_item_string_string_sorted_item_string_string.fn [1, 0] [0] Q (slices_Reverse_sl_sorted_item_string_string_sorted_item_string_string.l1.st s H1 i j) = slices_Reverse_sl_sorted_item_string_string_sorted_item_string_string.l1.body J s H1 i j Q := by kernel_rfl
theorem slices_Reverse_sl_sorted_item_string_string_sorted_item_string_string.l1.step {s : Sl} {H1 : Hp} {i : Int} {j : Int} {Q : Value → Hp → Prop} (h : slices_Reverse_sl_sorted_item_string_string_sorted_item_string_string.l1.body J0 s H1 i j Q) : slices_Reverse_sl_sorted_item_string_string_sorted_item_string_string.l1 J0 s H1 i j Q := vAt_stepC (slices_Reverse_sl_sorted_item_string_string_sorted_item_string_string.l1.st s H1 i j) (slices_Reverse_sl_sorted_item_string_string_sorted_item_string_string.l1.eq J0 s H1 i j Q) (by kernel_rfl) h
noncomputable def slices_Reverse_sl_sorted_item_string_string_sorted_item_string_string.vc (J : Jn) (s : Sl) (H : Hp) (Q : Value → Hp → Prop) : Prop :=
 
 slices_Reverse_sl_sorted_item_string_string_sorted_item_string_string.l1 J s H 0 (w64 (((s.len : Nat) : Int) - 1)) Q
theorem slices_Reverse_sl_sorted_item_string_string_sorted_item_string_string.eq (J : Jn) (s : Sl) (H : Hp) (Q : Value → Hp → Prop) : vFn Try.prog slices_Reverse_sl_sorted_item_string_string_sorted_item_string_string.cf J slices_Reverse_sl_sorted_item_string_string_sorted_item_string_string.fn [.slice s.a s.len s.cap] H Q = slices_Reverse_sl_sorted_item_string_string_sorted_item_string_string.vc J s H Q := by kernel_rfl
theorem slices_Reverse_sl_sorted_item_string_string_sorted_item_string_string.calls {s : Sl} {H : Hp} {Q : Value → Hp → Prop} (h : slices_Reverse_sl_sorted_item_string_string_sorted_item_string_string.vc J0 s H Q) : SCalls Try.prog slices_Reverse_sl_sorted_item_string_string_sorted_item_string_string.id [.slice s.a s.len s.cap] H Q := vFn_of Try.mixed Try.func103 (slices_Reverse_sl_sorted_item_string_string_sorted_item_string_string.eq J0 s H Q) h

/-! 104: cmp.isNaN_int_ -/
noncomputable def cmp_isNaN_int.cf : Cfg := ⟨[], [], [], [], true, []⟩
noncomputable def cmp_isNaN_int.vc (J : Jn) (x : Int) (H : Hp) (Q : Value → Hp → Prop) : Prop :=
 Q (.bool (x != x)) H
theorem cmp_isNaN_int.eq (J : Jn) (x : Int) (H : Hp) (Q : Value → Hp → Prop) : vFn Try.prog cmp_isNaN_int.cf J cmp_isNaN_int.fn [.int .i64 x] H Q = cmp_isNaN_int.vc J x H Q := by kernel_rfl
theorem cmp_isNaN_int.calls {x : Int} {H : Hp} {Q : Value → Hp → Prop} (h : cmp_isNaN_int.vc J0 x H Q) : SCalls Try.prog cmp_isNaN_int.id [.int .i64 x] H Q := vFn_of Try.mixed Try.func104 (cmp_isNaN_int.eq J0 x H Q) h

/-! 105: slices.rotateLeft_tephra/sorted.item_int, tephra/api.Session__ -/
noncomputable def slices_rotateLeft_sorted_item_int_api_Session.cf : Cfg := ⟨[], [], [], [], true, []⟩
noncomputable def slices_rotateLeft_sorted_item_int_api_Session.vc (J : Jn) (s : Sl) (r : Int) (H : Hp) (Q : Value → Hp → Prop) : Prop :=
 ((0 : Int) ≤ r ∧ r ≤ ((s.cap : Nat) : Int)) ∧ 
 SCalls Try.prog slices_Reverse_sl_sorted_item_int_api_Session_sorted_item_int_api_Session.id [.slice (cutA s.a s.cap 0 5) ((r : Int).toNat) s.cap] H (fun r1 H1 => r1 = .tuple #[] ∧ ((0 : Int) ≤ r ∧ r ≤ ((s.len : Nat) : Int)) ∧ 
 SCalls Try.prog slices_Reverse_sl_sorted_item_int_api_Session_sorted_item_int_api_Session.id [.slice (cutA s.a s.cap ((r : Int).toNat) 5) (s.len - ((r : Int).toNat)) (s.cap - ((r : Int).toNat))] H1 (fun r2 H2 => r2 = .tuple #[] ∧ 
 SCalls Try.prog slices_Reverse_sl_sorted_item_int_api_Session_sorted_item_int_api_Session.id [.slice s.a s.len s.cap] H2 (fun r3 H3 => r3 = .tuple #[] ∧ Q (.tuple #[]) H3)))
theorem slices_rotateLeft_sorted_item_int_api_Session.eq (J : Jn) (s : Sl) (r : Int) (H : Hp) (Q : Value → Hp → Prop) : vFn Try.prog slices_rotateLeft_sorted_item_int_api_Session.cf J slices_rotateLeft_sorted_item_int_api_Session.fn [.slice s.a s.len s.cap, .int .i64 r] H Q = slices_rotateLeft_sorted_item_int_api_Session.vc J s r H Q := by kernel_rfl
theorem slices_rotateLeft_sorted_item_int_api_Session.calls {s : Sl} {r : Int} {H : Hp} {Q : Value → Hp → Prop} (h : slices_rotateLeft_sorted_item_int_api_Session.vc J0 s r H Q) : SCalls Try.prog slices_rotateLeft_sorted_item_int_api_Session.id [.slice s.a s.len s.cap, .int .i64 r] H Q := vFn_of Try.mixed Try.func105 (slices_rotateLeft_sorted_item_int_api_Session.eq J0 s r H Q) h

/-! 106: slices.Reverse___tephra/sorted.item_int, tephra/api.Session_,tephra/sorted.item_int, tephra/api.Session__ -/
noncomputable def slices_Reverse_sl_sorted_item_int_api_Session_sorted_item_int_api_Session.cf : Cfg := ⟨[], [(1, [0, 2, 3])], [], [], true, []⟩
noncomputable def slices_Reverse_sl_sorted_item_int_api_Session_sorted_item_int_api_Session.l1.st (s : Sl) (H1 : Hp) (i : Int) (j : Int) : VS := ⟨mkFr 28 [(0, .v (.slice s.a s.len s.cap)), (2, .v (.int .i64 i)), (3, .v (.int .i64 j))], [], H1⟩
noncomputable def slices_Reverse_sl_sorted_item_int_api_Session_sorted_item_int_api_Session.l1 (J : Jn) (s : Sl) (H1 : Hp) (i : Int) (j : Int) (Q : Value → Hp → Prop) : Prop := vAt Try.prog slices_Reverse_sl_sorted_item_int_api_Session_sorted_item_int_api_Session.cf J slices_Reverse_sl_sorted_item_int_api_Session_sorted_item_int_api_Session.fn [1, 0] [0] Q (slices_Reverse_sl_sorted_item_int_api_Session_sorted_item_int_api_Session.l1.st s H1 i j)
attribute [irreducible] slices_Reverse_sl_sorted_item_int_api_Session_sorted_item_int_api_Session.l1
noncomputable def slices_Reverse_sl_sorted_item_int_api_Session_sorted_item_int_api_Session.l1.body (J : Jn) (s : Sl) (H1 : Hp) (i : Int) (j : Int) (Q : Value → Hp → Prop) : Prop :=
 
 Br (decide (i < j)) (((0 : Int) ≤ j ∧ j < ((s.len : Nat) : Int)) ∧ vPtr s.a (fun a => ∃ key : Int, ∃ valueClient : Int, ∃ valueSeq : Int, ∃ valueReplyErr : Int, ∃ valueReplyValue : ByteArray, RowAt H1 (a.add ((j : Int).toNat * 5)) [.int .i64 key, .int .i64 valueClient, .int .i64 valueSeq, .int .i64 valueReplyErr, .string valueReplyValue] ∧ ((0 : Int) ≤ i ∧ i < ((s.len : Nat) : Int)) ∧ vPtr s.a (fun a1 => ∃ key1 : Int, ∃ valueClient1 : Int, ∃ valueSeq1 : Int, ∃ valueReplyErr1 : Int, ∃ valueReplyValue1 : ByteArray, RowAt H1 (a1.add ((i : Int).toNat * 5)) [.int .i64 key1, .int .i64 valueClient1, .int .i64 valueSeq1, .int .i64 valueReplyErr1, .string valueReplyValue1] ∧ ((0 : Int) ≤ i ∧ i < ((s.len : Nat) : Int)) ∧ vPtr s.a (fun a2 => WrAt H1 (a2.add ((i : Int).toNat * 5)) 5 ∧ ((0 : Int) ≤ j ∧ j < ((s.len : Nat) : Int)) ∧ vPtr s.a (fun a3 => WrAt (Hp.setCells H1 (a2.add ((i : Int).toNat * 5)) [.int .i64 key, .int .i64 valueClient, .int .i64 valueSeq, .int .i64 valueReplyErr, .string valueReplyValue] 0) (a3.add ((j : Int).toNat * 5)) 5 ∧ 
 slices_Reverse_sl_sorted_item_int_api_Session_sorted_item_int_api_Session.l1 J s (Hp.setCells (Hp.setCells H1 (a2.add ((i : Int).toNat * 5)) [.int .i64 key, .int .i64 valueClient, .int .i64 valueSeq, .int .i64 valueReplyErr, .string valueReplyValue] 0) (a3.add ((j : Int).toNat * 5)) [.int .i64 key1, .int .i64 valueClient1, .int .i64 valueSeq1, .int .i64 valueReplyErr1, .string valueReplyValue1] 0) (w64 (i + 1)) (w64 (j - 1)) Q)))))
 (Q (.tuple #[]) H1)
theorem slices_Reverse_sl_sorted_item_int_api_Session_sorted_item_int_api_Session.l1.eq (J : Jn) (s : Sl) (H1 : Hp) (i : Int) (j : Int) (Q : Value → Hp → Prop) : vAtBody Try.prog slices_Reverse_sl_sorted_item_int_api_Session_sorted_item_int_api_Session.cf J slices_Reverse_sl_sorted_item_int_api_Session_sorted_item_int_api_Session.fn [1, 0] [0] Q (slices_Reverse_sl_sorted_item_int_api_Session_sorted_item_int_api_Session.l1.st s H1 i j) = slices_Reverse_sl_sorted_item_int_api_Session_sorted_item_int_api_Session.l1.body J s H1 i j Q := by kernel_rfl
theorem slices_Reverse_sl_sorted_item_int_api_Session_sorted_item_int_api_Session.l1.step {s : Sl} {H1 : Hp} {i : Int} {j : Int} {Q : Value → Hp → Prop} (h : slices_Reverse_sl_sorted_item_int_api_Session_sorted_item_int_api_Session.l1.body J0 s H1 i j Q) : slices_Reverse_sl_sorted_item_int_api_Session_sorted_item_int_api_Session.l1 J0 s H1 i j Q := vAt_stepC (slices_Reverse_sl_sorted_item_int_api_Session_sorted_item_int_api_Session.l1.st s H1 i j) (slices_Reverse_sl_sorted_item_int_api_Session_sorted_item_int_api_Session.l1.eq J0 s H1 i j Q) (by kernel_rfl) h
noncomputable def slices_Reverse_sl_sorted_item_int_api_Session_sorted_item_int_api_Session.vc (J : Jn) (s : Sl) (H : Hp) (Q : Value → Hp → Prop) : Prop :=
 
 slices_Reverse_sl_sorted_item_int_api_Session_sorted_item_int_api_Session.l1 J s H 0 (w64 (((s.len : Nat) : Int) - 1)) Q
theorem slices_Reverse_sl_sorted_item_int_api_Session_sorted_item_int_api_Session.eq (J : Jn) (s : Sl) (H : Hp) (Q : Value → Hp → Prop) : vFn Try.prog slices_Reverse_sl_sorted_item_int_api_Session_sorted_item_int_api_Session.cf J slices_Reverse_sl_sorted_item_int_api_Session_sorted_item_int_api_Session.fn [.slice s.a s.len s.cap] H Q = slices_Reverse_sl_sorted_item_int_api_Session_sorted_item_int_api_Session.vc J s H Q := by kernel_rfl
theorem slices_Reverse_sl_sorted_item_int_api_Session_sorted_item_int_api_Session.calls {s : Sl} {H : Hp} {Q : Value → Hp → Prop} (h : slices_Reverse_sl_sorted_item_int_api_Session_sorted_item_int_api_Session.vc J0 s H Q) : SCalls Try.prog slices_Reverse_sl_sorted_item_int_api_Session_sorted_item_int_api_Session.id [.slice s.a s.len s.cap] H Q := vFn_of Try.mixed Try.func106 (slices_Reverse_sl_sorted_item_int_api_Session_sorted_item_int_api_Session.eq J0 s H Q) h

/-! 23: tephra/image.ReadDelta -/
noncomputable def image_ReadDelta.cf : Cfg := ⟨[2, 7, 1000003], [], [], [], true, []⟩
noncomputable def image_ReadDelta.vc (J : Jn) (b : Sl) (H : Hp) (Q : Value → Hp → Prop) : Prop :=
 ∀ H1 : Hp, H1 = (holes H 1) → 
 SCalls Try.prog image_rows.id [.slice b.a b.len b.cap, .int .i64 1, .int .i64 2] H1 (fun r H2 => ∃ x : Sl, ∃ x1 : Int, ∃ x2 : Int, r = .tuple #[.slice x.a x.len x.cap, .int .i64 x1, .int .i64 x2] ∧ 
 Br (x2 != 0) (Q (.tuple #[.agg #[.int .i64 0, .int .i64 0, .int .i64 0, .slice none 0 0, .slice none 0 0], .int .i64 x2]) H2)
 (((0 : Int) ≤ 1 ∧ (1 : Int) < ((x.len : Nat) : Int)) ∧ vPtr x.a (fun a => ∃ x3 : Sl, Hp.cell? H2 (a.add 1) = some (.slice x3.a x3.len x3.cap) ∧ 
 SCalls Try.prog delta_Read.id [.slice x3.a x3.len x3.cap] H2 (fun r1 H3 => ∃ From : Int, ∃ To : Int, ∃ Term : Int, ∃ Pairs : Sl, ∃ Sessions : Sl, ∃ x4 : Bool, r1 = .tuple #[.agg #[.int .i64 From, .int .i64 To, .int .i64 Term, .slice Pairs.a Pairs.len Pairs.cap, .slice Sessions.a Sessions.len Sessions.cap], .bool x4] ∧ ∀ H4 : Hp, H4 = (holes H3 1) → 
 Br (!x4) (
  (
  (Q (.tuple #[.agg #[.int .i64 0, .int .i64 0, .int .i64 0, .slice none 0 0, .slice none 0 0], .int .i64 10]) H4) ∧ 
  (
  (Q (.tuple #[.agg #[.int .i64 0, .int .i64 0, .int .i64 0, .slice none 0 0, .slice none 0 0], .int .i64 10]) H4) ∧ 
  (Q (.tuple #[.agg #[.int .i64 0, .int .i64 0, .int .i64 0, .slice none 0 0, .slice none 0 0], .int .i64 10]) H4))) ∧ 
  (
  (Q (.tuple #[.agg #[.int .i64 0, .int .i64 0, .int .i64 0, .slice none 0 0, .slice none 0 0], .int .i64 10]) H4) ∧ 
  (Q (.tuple #[.agg #[.int .i64 0, .int .i64 0, .int .i64 0, .slice none 0 0, .slice none 0 0], .int .i64 10]) H4)))
 (((0 : Int) ≤ 0 ∧ (0 : Int) < ((x.len : Nat) : Int)) ∧ vPtr x.a (fun a1 => 
  (∃ x5 : Sl, Hp.cell? H4 a1 = some (.slice x5.a x5.len x5.cap) ∧ 
  (vB2S H4 x5.a x5.len (fun s => 
 SCalls Try.prog image_head.id [.int .i64 1, .int .i64 From, .int .i64 To] H4 (fun r2 H5 => ∃ x6 : Sl, r2 = .slice x6.a x6.len x6.cap ∧ vB2S H5 x6.a x6.len (fun s1 => 
 Br (!(s.toList == s1.toList)) (Q (.tuple #[.agg #[.int .i64 0, .int .i64 0, .int .i64 0, .slice none 0 0, .slice none 0 0], .int .i64 10]) H5)
 (Q (.tuple #[.agg #[.int .i64 From, .int .i64 To, .int .i64 Term, .slice Pairs.a Pairs.len Pairs.cap, .slice Sessions.a Sessions.len Sessions.cap], .int .i64 0]) H5))))) ∧ 
  (
 SCalls Try.prog image_head.id [.int .i64 1, .int .i64 From, .int .i64 To] H4 (fun r3 H6 => ∃ x7 : Sl, r3 = .slice x7.a x7.len x7.cap ∧ 
  (vB2S H6 x5.a x5.len (fun s2 => vB2S H6 x7.a x7.len (fun s3 => 
 Br (!(s2.toList == s3.toList)) (Q (.tuple #[.agg #[.int .i64 0, .int .i64 0, .int .i64 0, .slice none 0 0, .slice none 0 0], .int .i64 10]) H6)
 (Q (.tuple #[.agg #[.int .i64 From, .int .i64 To, .int .i64 Term, .slice Pairs.a Pairs.len Pairs.cap, .slice Sessions.a Sessions.len Sessions.cap], .int .i64 0]) H6)))) ∧ 
  (vB2S H6 x7.a x7.len (fun s4 => vB2S H6 x5.a x5.len (fun s5 => 
 Br (!(s5.toList == s4.toList)) (Q (.tuple #[.agg #[.int .i64 0, .int .i64 0, .int .i64 0, .slice none 0 0, .slice none 0 0], .int .i64 10]) H6)
 (Q (.tuple #[.agg #[.int .i64 From, .int .i64 To, .int .i64 Term, .slice Pairs.a Pairs.len Pairs.cap, .slice Sessions.a Sessions.len Sessions.cap], .int .i64 0]) H6))))))) ∧ 
  (
 SCalls Try.prog image_head.id [.int .i64 1, .int .i64 From, .int .i64 To] H4 (fun r4 H7 => ∃ x8 : Sl, r4 = .slice x8.a x8.len x8.cap ∧ ∃ x9 : Sl, Hp.cell? H7 a1 = some (.slice x9.a x9.len x9.cap) ∧ 
  (vB2S H7 x9.a x9.len (fun s6 => vB2S H7 x8.a x8.len (fun s7 => 
 Br (!(s6.toList == s7.toList)) (Q (.tuple #[.agg #[.int .i64 0, .int .i64 0, .int .i64 0, .slice none 0 0, .slice none 0 0], .int .i64 10]) H7)
 (Q (.tuple #[.agg #[.int .i64 From, .int .i64 To, .int .i64 Term, .slice Pairs.a Pairs.len Pairs.cap, .slice Sessions.a Sessions.len Sessions.cap], .int .i64 0]) H7)))) ∧ 
  (vB2S H7 x8.a x8.len (fun s8 => vB2S H7 x9.a x9.len (fun s9 => 
 Br (!(s9.toList == s8.toList)) (Q (.tuple #[.agg #[.int .i64 0, .int .i64 0, .int .i64 0, .slice none 0 0, .slice none 0 0], .int .i64 10]) H7)
 (Q (.tuple #[.agg #[.int .i64 From, .int .i64 To, .int .i64 Term, .slice Pairs.a Pairs.len Pairs.cap, .slice Sessions.a Sessions.len Sessions.cap], .int .i64 0]) H7))))))))))))
theorem image_ReadDelta.eq (J : Jn) (b : Sl) (H : Hp) (Q : Value → Hp → Prop) : vFn Try.prog image_ReadDelta.cf J image_ReadDelta.fn [.slice b.a b.len b.cap] H Q = image_ReadDelta.vc J b H Q := by kernel_rfl
theorem image_ReadDelta.calls {b : Sl} {H : Hp} {Q : Value → Hp → Prop} (h : image_ReadDelta.vc J0 b H Q) : SCalls Try.prog image_ReadDelta.id [.slice b.a b.len b.cap] H Q := vFn_of Try.mixed Try.func23 (image_ReadDelta.eq J0 b H Q) h

/-! 24: tephra/image.Delta -/
noncomputable def image_Delta.cf : Cfg := ⟨[1, 1000003], [], [], [], true, []⟩
noncomputable def image_Delta.vc (J : Jn) (dFrom : Int) (dTo : Int) (dTerm : Int) (dPairs : Sl) (dSessions : Sl) (H : Hp) (Q : Value → Hp → Prop) : Prop :=
 ∀ H1 : Hp, H1 = (holes H 1) → 
 SCalls Try.prog image_head.id [.int .i64 1, .int .i64 dFrom, .int .i64 dTo] H1 (fun r H2 => ∃ x : Sl, r = .slice x.a x.len x.cap ∧ 
 SCalls Try.prog delta_Bytes.id [.agg #[.int .i64 dFrom, .int .i64 dTo, .int .i64 dTerm, .slice dPairs.a dPairs.len dPairs.cap, .slice dSessions.a dSessions.len dSessions.cap]] H2 (fun r1 H3 => ∃ x1 : Sl, r1 = .slice x1.a x1.len x1.cap ∧ ∀ b : Nat, b = Array.size H3 → ∀ H4 : Hp, H4 = (Array.push H3 (.cells #[.slice x.a x.len x.cap, .slice x1.a x1.len x1.cap] T_sl_uint8)) → 
 SCalls Try.prog image_frames.id [.slice (some (Addr.mk b 0 none)) 2 2] H4 (fun r2 H5 => ∃ x2 : Sl, ∃ x3 : Int, r2 = .tuple #[.slice x2.a x2.len x2.cap, .int .i64 x3] ∧ Q (.tuple #[.slice x2.a x2.len x2.cap, .int .i64 x3]) H5)))
theorem image_Delta.eq (J : Jn) (dFrom : Int) (dTo : Int) (dTerm : Int) (dPairs : Sl) (dSessions : Sl) (H : Hp) (Q : Value → Hp → Prop) : vFn Try.prog image_Delta.cf J image_Delta.fn [.agg #[.int .i64 dFrom, .int .i64 dTo, .int .i64 dTerm, .slice dPairs.a dPairs.len dPairs.cap, .slice dSessions.a dSessions.len dSessions.cap]] H Q = image_Delta.vc J dFrom dTo dTerm dPairs dSessions H Q := by kernel_rfl
theorem image_Delta.calls {dFrom : Int} {dTo : Int} {dTerm : Int} {dPairs : Sl} {dSessions : Sl} {H : Hp} {Q : Value → Hp → Prop} (h : image_Delta.vc J0 dFrom dTo dTerm dPairs dSessions H Q) : SCalls Try.prog image_Delta.id [.agg #[.int .i64 dFrom, .int .i64 dTo, .int .i64 dTerm, .slice dPairs.a dPairs.len dPairs.cap, .slice dSessions.a dSessions.len dSessions.cap]] H Q := vFn_of Try.mixed Try.func24 (image_Delta.eq J0 dFrom dTo dTerm dPairs dSessions H Q) h

/-! 26: tephra/delta.Right -/
noncomputable def delta_Right.cf : Cfg := ⟨[1, 1000003], [], [], [(12, [1, 12]), (17, [1, 17]), (22, [1, 22]), (27, [1, 27])], true, []⟩
noncomputable def delta_Right.k1.st (dFrom : Int) (dTo : Int) (dTerm : Int) (dPairs : Sl) (dSessions : Sl) (H1 : Hp) (x : Bool) : VS := ⟨mkFr 35 [(1, .loc 0 0), (12, .v (.bool x))], [(T_delta_Delta, [.int .i64 dFrom, .int .i64 dTo, .int .i64 dTerm, .slice dPairs.a dPairs.len dPairs.cap, .slice dSessions.a dSessions.len dSessions.cap])], H1⟩
noncomputable def delta_Right.k1 (J : Jn) (dFrom : Int) (dTo : Int) (dTerm : Int) (dPairs : Sl) (dSessions : Sl) (H1 : Hp) (x : Bool) (Q : Value → Hp → Prop) : Prop := J (vMid Try.prog delta_Right.cf J delta_Right.fn [1, 0] [0, 1] 10 Q) (delta_Right.k1.st dFrom dTo dTerm dPairs dSessions H1 x)
noncomputable def delta_Right.k2.st (dFrom : Int) (dTo : Int) (dTerm : Int) (dPairs : Sl) (dSessions : Sl) (H1 : Hp) (x1 : Bool) : VS := ⟨mkFr 35 [(1, .loc 0 0), (17, .v (.bool x1))], [(T_delta_Delta, [.int .i64 dFrom, .int .i64 dTo, .int .i64 dTerm, .slice dPairs.a dPairs.len dPairs.cap, .slice dSessions.a dSessions.len dSessions.cap])], H1⟩
noncomputable def delta_Right.k2 (J : Jn) (dFrom : Int) (dTo : Int) (dTerm : Int) (dPairs : Sl) (dSessions : Sl) (H1 : Hp) (x1 : Bool) (Q : Value → Hp → Prop) : Prop := J (vMid Try.prog delta_Right.cf J delta_Right.fn [1, 0] [0, 1] 15 Q) (delta_Right.k2.st dFrom dTo dTerm dPairs dSessions H1 x1)
noncomputable def delta_Right.k3.st (dFrom : Int) (dTo : Int) (dTerm : Int) (dPairs : Sl) (dSessions : Sl) (H1 : Hp) (x2 : Bool) : VS := ⟨mkFr 35 [(1, .loc 0 0), (22, .v (.bool x2))], [(T_delta_Delta, [.int .i64 dFrom, .int .i64 dTo, .int .i64 dTerm, .slice dPairs.a dPairs.len dPairs.cap, .slice dSessions.a dSessions.len dSessions.cap])], H1⟩
noncomputable def delta_Right.k3 (J : Jn) (dFrom : Int) (dTo : Int) (dTerm : Int) (dPairs : Sl) (dSessions : Sl) (H1 : Hp) (x2 : Bool) (Q : Value → Hp → Prop) : Prop := J (vMid Try.prog delta_Right.cf J delta_Right.fn [1, 0] [0, 1] 20 Q) (delta_Right.k3.st dFrom dTo dTerm dPairs dSessions H1 x2)
noncomputable def delta_Right.k4.st (dFrom : Int) (dTo : Int) (dTerm : Int) (dPairs : Sl) (dSessions : Sl) (H1 : Hp) (x3 : Bool) : VS := ⟨mkFr 35 [(1, .loc 0 0), (27, .v (.bool x3))], [(T_delta_Delta, [.int .i64 dFrom, .int .i64 dTo, .int .i64 dTerm, .slice dPairs.a dPairs.len dPairs.cap, .slice dSessions.a dSessions.len dSessions.cap])], H1⟩
noncomputable def delta_Right.k4 (J : Jn) (dFrom : Int) (dTo : Int) (dTerm : Int) (dPairs : Sl) (dSessions : Sl) (H1 : Hp) (x3 : Bool) (Q : Value → Hp → Prop) : Prop := J (vMid Try.prog delta_Right.cf J delta_Right.fn [1, 0] [0, 1] 25 Q) (delta_Right.k4.st dFrom dTo dTerm dPairs dSessions H1 x3)
attribute [irreducible] delta_Right.k1 delta_Right.k2 delta_Right.k3 delta_Right.k4
noncomputable def delta_Right.k1.body (J : Jn) (dFrom : Int) (dTo : Int) (dTerm : Int) (dPairs : Sl) (dSessions : Sl) (H1 : Hp) (x : Bool) (Q : Value → Hp → Prop) : Prop :=
 
 Br x (
 delta_Right.k2 J dFrom dTo dTerm dPairs dSessions H1 (decide (dTo ≤ 1048576)) Q)
 (
 delta_Right.k2 J dFrom dTo dTerm dPairs dSessions H1 false Q)
theorem delta_Right.k1.eq (J : Jn) (dFrom : Int) (dTo : Int) (dTerm : Int) (dPairs : Sl) (dSessions : Sl) (H1 : Hp) (x : Bool) (Q : Value → Hp → Prop) : vMid Try.prog delta_Right.cf J delta_Right.fn [1, 0] [0, 1] 10 Q (delta_Right.k1.st dFrom dTo dTerm dPairs dSessions H1 x) = delta_Right.k1.body J dFrom dTo dTerm dPairs dSessions H1 x Q := by kernel_rfl
theorem delta_Right.k1.step {dFrom : Int} {dTo : Int} {dTerm : Int} {dPairs : Sl} {dSessions : Sl} {H1 : Hp} {x : Bool} {Q : Value → Hp → Prop} (h : delta_Right.k1.body J0 dFrom dTo dTerm dPairs dSessions H1 x Q) : delta_Right.k1 J0 dFrom dTo dTerm dPairs dSessions H1 x Q := step_of (vMid Try.prog delta_Right.cf J0 delta_Right.fn [1, 0] [0, 1] 10 Q) (delta_Right.k1.st dFrom dTo dTerm dPairs dSessions H1 x) (delta_Right.k1.eq J0 dFrom dTo dTerm dPairs dSessions H1 x Q) (by kernel_rfl) h
noncomputable def delta_Right.k2.body (J : Jn) (dFrom : Int) (dTo : Int) (dTerm : Int) (dPairs : Sl) (dSessions : Sl) (H1 : Hp) (x1 : Bool) (Q : Value → Hp → Prop) : Prop :=
 
 Br x1 (
 delta_Right.k3 J dFrom dTo dTerm dPairs dSessions H1 (decide (dTerm ≥ 0)) Q)
 (
 delta_Right.k3 J dFrom dTo dTerm dPairs dSessions H1 false Q)
theorem delta_Right.k2.eq (J : Jn) (dFrom : Int) (dTo : Int) (dTerm : Int) (dPairs : Sl) (dSessions : Sl) (H1 : Hp) (x1 : Bool) (Q : Value → Hp → Prop) : vMid Try.prog delta_Right.cf J delta_Right.fn [1, 0] [0, 1] 15 Q (delta_Right.k2.st dFrom dTo dTerm dPairs dSessions H1 x1) = delta_Right.k2.body J dFrom dTo dTerm dPairs dSessions H1 x1 Q := by kernel_rfl
theorem delta_Right.k2.step {dFrom : Int} {dTo : Int} {dTerm : Int} {dPairs : Sl} {dSessions : Sl} {H1 : Hp} {x1 : Bool} {Q : Value → Hp → Prop} (h : delta_Right.k2.body J0 dFrom dTo dTerm dPairs dSessions H1 x1 Q) : delta_Right.k2 J0 dFrom dTo dTerm dPairs dSessions H1 x1 Q := step_of (vMid Try.prog delta_Right.cf J0 delta_Right.fn [1, 0] [0, 1] 15 Q) (delta_Right.k2.st dFrom dTo dTerm dPairs dSessions H1 x1) (delta_Right.k2.eq J0 dFrom dTo dTerm dPairs dSessions H1 x1 Q) (by kernel_rfl) h
noncomputable def delta_Right.k3.body (J : Jn) (dFrom : Int) (dTo : Int) (dTerm : Int) (dPairs : Sl) (dSessions : Sl) (H1 : Hp) (x2 : Bool) (Q : Value → Hp → Prop) : Prop :=
 
 Br x2 (
 delta_Right.k4 J dFrom dTo dTerm dPairs dSessions H1 (decide (dTerm ≤ 1048576)) Q)
 (
 delta_Right.k4 J dFrom dTo dTerm dPairs dSessions H1 false Q)
theorem delta_Right.k3.eq (J : Jn) (dFrom : Int) (dTo : Int) (dTerm : Int) (dPairs : Sl) (dSessions : Sl) (H1 : Hp) (x2 : Bool) (Q : Value → Hp → Prop) : vMid Try.prog delta_Right.cf J delta_Right.fn [1, 0] [0, 1] 20 Q (delta_Right.k3.st dFrom dTo dTerm dPairs dSessions H1 x2) = delta_Right.k3.body J dFrom dTo dTerm dPairs dSessions H1 x2 Q := by kernel_rfl
theorem delta_Right.k3.step {dFrom : Int} {dTo : Int} {dTerm : Int} {dPairs : Sl} {dSessions : Sl} {H1 : Hp} {x2 : Bool} {Q : Value → Hp → Prop} (h : delta_Right.k3.body J0 dFrom dTo dTerm dPairs dSessions H1 x2 Q) : delta_Right.k3 J0 dFrom dTo dTerm dPairs dSessions H1 x2 Q := step_of (vMid Try.prog delta_Right.cf J0 delta_Right.fn [1, 0] [0, 1] 20 Q) (delta_Right.k3.st dFrom dTo dTerm dPairs dSessions H1 x2) (delta_Right.k3.eq J0 dFrom dTo dTerm dPairs dSessions H1 x2 Q) (by kernel_rfl) h
noncomputable def delta_Right.k4.body (J : Jn) (dFrom : Int) (dTo : Int) (dTerm : Int) (dPairs : Sl) (dSessions : Sl) (H1 : Hp) (x3 : Bool) (Q : Value → Hp → Prop) : Prop :=
 
 Br x3 (
 SCalls Try.prog state_RightRows.id [.slice dPairs.a dPairs.len dPairs.cap, .slice dSessions.a dSessions.len dSessions.cap, .int .i64 512] H1 (fun r H2 => ∃ x4 : Bool, r = .bool x4 ∧ Q (.bool x4) H2))
 (Q (.bool false) H1)
theorem delta_Right.k4.eq (J : Jn) (dFrom : Int) (dTo : Int) (dTerm : Int) (dPairs : Sl) (dSessions : Sl) (H1 : Hp) (x3 : Bool) (Q : Value → Hp → Prop) : vMid Try.prog delta_Right.cf J delta_Right.fn [1, 0] [0, 1] 25 Q (delta_Right.k4.st dFrom dTo dTerm dPairs dSessions H1 x3) = delta_Right.k4.body J dFrom dTo dTerm dPairs dSessions H1 x3 Q := by kernel_rfl
theorem delta_Right.k4.step {dFrom : Int} {dTo : Int} {dTerm : Int} {dPairs : Sl} {dSessions : Sl} {H1 : Hp} {x3 : Bool} {Q : Value → Hp → Prop} (h : delta_Right.k4.body J0 dFrom dTo dTerm dPairs dSessions H1 x3 Q) : delta_Right.k4 J0 dFrom dTo dTerm dPairs dSessions H1 x3 Q := step_of (vMid Try.prog delta_Right.cf J0 delta_Right.fn [1, 0] [0, 1] 25 Q) (delta_Right.k4.st dFrom dTo dTerm dPairs dSessions H1 x3) (delta_Right.k4.eq J0 dFrom dTo dTerm dPairs dSessions H1 x3 Q) (by kernel_rfl) h
noncomputable def delta_Right.vc (J : Jn) (dFrom : Int) (dTo : Int) (dTerm : Int) (dPairs : Sl) (dSessions : Sl) (H : Hp) (Q : Value → Hp → Prop) : Prop :=
 ∀ H1 : Hp, H1 = (holes H 1) → 
 Br (decide (dFrom ≥ 0)) (
 delta_Right.k1 J dFrom dTo dTerm dPairs dSessions H1 (decide (dFrom ≤ dTo)) Q)
 (
 delta_Right.k1 J dFrom dTo dTerm dPairs dSessions H1 false Q)
theorem delta_Right.eq (J : Jn) (dFrom : Int) (dTo : Int) (dTerm : Int) (dPairs : Sl) (dSessions : Sl) (H : Hp) (Q : Value → Hp → Prop) : vFn Try.prog delta_Right.cf J delta_Right.fn [.agg #[.int .i64 dFrom, .int .i64 dTo, .int .i64 dTerm, .slice dPairs.a dPairs.len dPairs.cap, .slice dSessions.a dSessions.len dSessions.cap]] H Q = delta_Right.vc J dFrom dTo dTerm dPairs dSessions H Q := by kernel_rfl
theorem delta_Right.calls {dFrom : Int} {dTo : Int} {dTerm : Int} {dPairs : Sl} {dSessions : Sl} {H : Hp} {Q : Value → Hp → Prop} (h : delta_Right.vc J0 dFrom dTo dTerm dPairs dSessions H Q) : SCalls Try.prog delta_Right.id [.agg #[.int .i64 dFrom, .int .i64 dTo, .int .i64 dTerm, .slice dPairs.a dPairs.len dPairs.cap, .slice dSessions.a dSessions.len dSessions.cap]] H Q := vFn_of Try.mixed Try.func26 (delta_Right.eq J0 dFrom dTo dTerm dPairs dSessions H Q) h

/-! 27: tephra/delta.Bytes -/
noncomputable def delta_Bytes.cf : Cfg := ⟨[1, 1000003], [], [(3, [1, 3], true)], [], true, []⟩
noncomputable def delta_Bytes.k1.st (dFrom : Int) (dTo : Int) (dTerm : Int) (dPairs : Sl) (dSessions : Sl) (b : Nat) (H5 : Hp) : VS := ⟨mkFr 24 [(1, .loc 0 0), (3, .v (.pointer (some (Addr.mk b 0 none))))], [(T_delta_Delta, [.int .i64 dFrom, .int .i64 dTo, .int .i64 dTerm, .slice dPairs.a dPairs.len dPairs.cap, .slice dSessions.a dSessions.len dSessions.cap])], H5⟩
noncomputable def delta_Bytes.k1 (J : Jn) (dFrom : Int) (dTo : Int) (dTerm : Int) (dPairs : Sl) (dSessions : Sl) (b : Nat) (H5 : Hp) (Q : Value → Hp → Prop) : Prop := J (vSeg Try.prog delta_Bytes.cf J delta_Bytes.fn [1, 1, 1] [0, 1, 1] Q) (delta_Bytes.k1.st dFrom dTo dTerm dPairs dSessions b H5)
attribute [irreducible] delta_Bytes.k1
noncomputable def delta_Bytes.k1.body (J : Jn) (dFrom : Int) (dTo : Int) (dTerm : Int) (dPairs : Sl) (dSessions : Sl) (b : Nat) (H5 : Hp) (Q : Value → Hp → Prop) : Prop :=
 
 SCalls Try.prog state_PutRows.id [.pointer (some (Addr.mk b 0 none)), .slice dPairs.a dPairs.len dPairs.cap, .slice dSessions.a dSessions.len dSessions.cap] H5 (fun r3 H6 => r3 = .tuple #[] ∧ 
 SCalls Try.prog pack_Writer_Bytes.id [.pointer (some (Addr.mk b 0 none))] H6 (fun r4 H7 => ∃ x3 : Sl, r4 = .slice x3.a x3.len x3.cap ∧ Q (.slice x3.a x3.len x3.cap) H7))
theorem delta_Bytes.k1.eq (J : Jn) (dFrom : Int) (dTo : Int) (dTerm : Int) (dPairs : Sl) (dSessions : Sl) (b : Nat) (H5 : Hp) (Q : Value → Hp → Prop) : vSeg Try.prog delta_Bytes.cf J delta_Bytes.fn [1, 1, 1] [0, 1, 1] Q (delta_Bytes.k1.st dFrom dTo dTerm dPairs dSessions b H5) = delta_Bytes.k1.body J dFrom dTo dTerm dPairs dSessions b H5 Q := by kernel_rfl
theorem delta_Bytes.k1.step {dFrom : Int} {dTo : Int} {dTerm : Int} {dPairs : Sl} {dSessions : Sl} {b : Nat} {H5 : Hp} {Q : Value → Hp → Prop} (h : delta_Bytes.k1.body J0 dFrom dTo dTerm dPairs dSessions b H5 Q) : delta_Bytes.k1 J0 dFrom dTo dTerm dPairs dSessions b H5 Q := step_of (vSeg Try.prog delta_Bytes.cf J0 delta_Bytes.fn [1, 1, 1] [0, 1, 1] Q) (delta_Bytes.k1.st dFrom dTo dTerm dPairs dSessions b H5) (delta_Bytes.k1.eq J0 dFrom dTo dTerm dPairs dSessions b H5 Q) (by kernel_rfl) h
noncomputable def delta_Bytes.vc (J : Jn) (dFrom : Int) (dTo : Int) (dTerm : Int) (dPairs : Sl) (dSessions : Sl) (H : Hp) (Q : Value → Hp → Prop) : Prop :=
 ∀ H1 : Hp, H1 = (holes H 1) → ∀ b : Nat, b = Array.size H1 → ∀ H2 : Hp, H2 = (Array.push H1 (.cells #[.slice none 0 0] T_pack_Writer)) → 
 SCalls Try.prog pack_Writer_Num.id [.pointer (some (Addr.mk b 0 none)), .int .i64 dFrom] H2 (fun r H3 => ∃ x : Option Addr, r = .pointer x ∧ 
 SCalls Try.prog pack_Writer_Num.id [.pointer x, .int .i64 dTo] H3 (fun r1 H4 => ∃ x1 : Option Addr, r1 = .pointer x1 ∧ 
 SCalls Try.prog pack_Writer_Num.id [.pointer x1, .int .i64 dTerm] H4 (fun r2 H5 => ∃ x2 : Option Addr, r2 = .pointer x2 ∧ 
 delta_Bytes.k1 J dFrom dTo dTerm dPairs dSessions b H5 Q)))
theorem delta_Bytes.eq (J : Jn) (dFrom : Int) (dTo : Int) (dTerm : Int) (dPairs : Sl) (dSessions : Sl) (H : Hp) (Q : Value → Hp → Prop) : vFn Try.prog delta_Bytes.cf J delta_Bytes.fn [.agg #[.int .i64 dFrom, .int .i64 dTo, .int .i64 dTerm, .slice dPairs.a dPairs.len dPairs.cap, .slice dSessions.a dSessions.len dSessions.cap]] H Q = delta_Bytes.vc J dFrom dTo dTerm dPairs dSessions H Q := by kernel_rfl
theorem delta_Bytes.calls {dFrom : Int} {dTo : Int} {dTerm : Int} {dPairs : Sl} {dSessions : Sl} {H : Hp} {Q : Value → Hp → Prop} (h : delta_Bytes.vc J0 dFrom dTo dTerm dPairs dSessions H Q) : SCalls Try.prog delta_Bytes.id [.agg #[.int .i64 dFrom, .int .i64 dTo, .int .i64 dTerm, .slice dPairs.a dPairs.len dPairs.cap, .slice dSessions.a dSessions.len dSessions.cap]] H Q := vFn_of Try.mixed Try.func27 (delta_Bytes.eq J0 dFrom dTo dTerm dPairs dSessions H Q) h

/-! 28: tephra/delta.Same -/
noncomputable def delta_Same.cf : Cfg := ⟨[2, 3, 1000003], [], [], [], true, []⟩
noncomputable def delta_Same.vc (J : Jn) (aFrom : Int) (aTo : Int) (aTerm : Int) (aPairs : Sl) (aSessions : Sl) (bFrom : Int) (bTo : Int) (bTerm : Int) (bPairs : Sl) (bSessions : Sl) (H : Hp) (Q : Value → Hp → Prop) : Prop :=
 ∀ H1 : Hp, H1 = (holes H 1) → ∀ H2 : Hp, H2 = (holes H1 1) → 
 SCalls Try.prog delta_Bytes.id [.agg #[.int .i64 aFrom, .int .i64 aTo, .int .i64 aTerm, .slice aPairs.a aPairs.len aPairs.cap, .slice aSessions.a aSessions.len aSessions.cap]] H2 (fun r H3 => ∃ x : Sl, r = .slice x.a x.len x.cap ∧ 
  (vB2S H3 x.a x.len (fun s => 
 SCalls Try.prog delta_Bytes.id [.agg #[.int .i64 bFrom, .int .i64 bTo, .int .i64 bTerm, .slice bPairs.a bPairs.len bPairs.cap, .slice bSessions.a bSessions.len bSessions.cap]] H3 (fun r1 H4 => ∃ x1 : Sl, r1 = .slice x1.a x1.len x1.cap ∧ vB2S H4 x1.a x1.len (fun s1 => Q (.bool (s.toList == s1.toList)) H4)))) ∧ 
  (
 SCalls Try.prog delta_Bytes.id [.agg #[.int .i64 bFrom, .int .i64 bTo, .int .i64 bTerm, .slice bPairs.a bPairs.len bPairs.cap, .slice bSessions.a bSessions.len bSessions.cap]] H3 (fun r2 H5 => ∃ x2 : Sl, r2 = .slice x2.a x2.len x2.cap ∧ 
  (vB2S H5 x.a x.len (fun s2 => vB2S H5 x2.a x2.len (fun s3 => Q (.bool (s2.toList == s3.toList)) H5))) ∧ 
  (vB2S H5 x2.a x2.len (fun s4 => vB2S H5 x.a x.len (fun s5 => Q (.bool (s5.toList == s4.toList)) H5))))))
theorem delta_Same.eq (J : Jn) (aFrom : Int) (aTo : Int) (aTerm : Int) (aPairs : Sl) (aSessions : Sl) (bFrom : Int) (bTo : Int) (bTerm : Int) (bPairs : Sl) (bSessions : Sl) (H : Hp) (Q : Value → Hp → Prop) : vFn Try.prog delta_Same.cf J delta_Same.fn [.agg #[.int .i64 aFrom, .int .i64 aTo, .int .i64 aTerm, .slice aPairs.a aPairs.len aPairs.cap, .slice aSessions.a aSessions.len aSessions.cap], .agg #[.int .i64 bFrom, .int .i64 bTo, .int .i64 bTerm, .slice bPairs.a bPairs.len bPairs.cap, .slice bSessions.a bSessions.len bSessions.cap]] H Q = delta_Same.vc J aFrom aTo aTerm aPairs aSessions bFrom bTo bTerm bPairs bSessions H Q := by kernel_rfl
theorem delta_Same.calls {aFrom : Int} {aTo : Int} {aTerm : Int} {aPairs : Sl} {aSessions : Sl} {bFrom : Int} {bTo : Int} {bTerm : Int} {bPairs : Sl} {bSessions : Sl} {H : Hp} {Q : Value → Hp → Prop} (h : delta_Same.vc J0 aFrom aTo aTerm aPairs aSessions bFrom bTo bTerm bPairs bSessions H Q) : SCalls Try.prog delta_Same.id [.agg #[.int .i64 aFrom, .int .i64 aTo, .int .i64 aTerm, .slice aPairs.a aPairs.len aPairs.cap, .slice aSessions.a aSessions.len aSessions.cap], .agg #[.int .i64 bFrom, .int .i64 bTo, .int .i64 bTerm, .slice bPairs.a bPairs.len bPairs.cap, .slice bSessions.a bSessions.len bSessions.cap]] H Q := vFn_of Try.mixed Try.func28 (delta_Same.eq J0 aFrom aTo aTerm aPairs aSessions bFrom bTo bTerm bPairs bSessions H Q) h

/-! 50: tephra/delta.Read -/
noncomputable def delta_Read.cf : Cfg := ⟨[2, 5, 1000003], [], [], [], true, []⟩
noncomputable def delta_Read.vc (J : Jn) (b : Sl) (H : Hp) (Q : Value → Hp → Prop) : Prop :=
 ∀ H1 : Hp, H1 = (holes H 1) → 
 SCalls Try.prog pack_Of.id [.slice b.a b.len b.cap] H1 (fun r H2 => ∃ x : Option Addr, r = .pointer x ∧ 
 SCalls Try.prog pack_Reader_Num.id [.pointer x] H2 (fun r1 H3 => ∃ x1 : Int, r1 = .int .i64 x1 ∧ ∀ H4 : Hp, H4 = (holes H3 1) → 
 SCalls Try.prog pack_Reader_Num.id [.pointer x] H4 (fun r2 H5 => ∃ x2 : Int, r2 = .int .i64 x2 ∧ 
 SCalls Try.prog pack_Reader_Num.id [.pointer x] H5 (fun r3 H6 => ∃ x3 : Int, r3 = .int .i64 x3 ∧ 
 SCalls Try.prog state_ReadRows.id [.pointer x] H6 (fun r4 H7 => ∃ x4 : Sl, ∃ x5 : Sl, r4 = .tuple #[.slice x4.a x4.len x4.cap, .slice x5.a x5.len x5.cap] ∧ 
 SCalls Try.prog pack_Reader_Done.id [.pointer x] H7 (fun r5 H8 => ∃ x6 : Bool, r5 = .bool x6 ∧ 
 Br (!x6) (
  (
  (Q (.tuple #[.agg #[.int .i64 0, .int .i64 0, .int .i64 0, .slice none 0 0, .slice none 0 0], .bool false]) H8) ∧ 
  (Q (.tuple #[.agg #[.int .i64 0, .int .i64 0, .int .i64 0, .slice none 0 0, .slice none 0 0], .bool false]) H8)) ∧ 
  (Q (.tuple #[.agg #[.int .i64 0, .int .i64 0, .int .i64 0, .slice none 0 0, .slice none 0 0], .bool false]) H8))
 (
 SCalls Try.prog delta_Right.id [.agg #[.int .i64 x1, .int .i64 x2, .int .i64 x3, .slice x4.a x4.len x4.cap, .slice x5.a x5.len x5.cap]] H8 (fun r6 H9 => ∃ x7 : Bool, r6 = .bool x7 ∧ 
 Br (!x7) (
  (
  (Q (.tuple #[.agg #[.int .i64 0, .int .i64 0, .int .i64 0, .slice none 0 0, .slice none 0 0], .bool false]) H9) ∧ 
  (Q (.tuple #[.agg #[.int .i64 0, .int .i64 0, .int .i64 0, .slice none 0 0, .slice none 0 0], .bool false]) H9)) ∧ 
  (Q (.tuple #[.agg #[.int .i64 0, .int .i64 0, .int .i64 0, .slice none 0 0, .slice none 0 0], .bool false]) H9))
 (
  (
 SCalls Try.prog delta_Bytes.id [.agg #[.int .i64 x1, .int .i64 x2, .int .i64 x3, .slice x4.a x4.len x4.cap, .slice x5.a x5.len x5.cap]] H9 (fun r7 H10 => ∃ x8 : Sl, r7 = .slice x8.a x8.len x8.cap ∧ 
  (vB2S H10 x8.a x8.len (fun s => vB2S H10 b.a b.len (fun s1 => 
 Br (!(s.toList == s1.toList)) (Q (.tuple #[.agg #[.int .i64 0, .int .i64 0, .int .i64 0, .slice none 0 0, .slice none 0 0], .bool false]) H10)
 (Q (.tuple #[.agg #[.int .i64 x1, .int .i64 x2, .int .i64 x3, .slice x4.a x4.len x4.cap, .slice x5.a x5.len x5.cap], .bool true]) H10)))) ∧ 
  (vB2S H10 b.a b.len (fun s2 => vB2S H10 x8.a x8.len (fun s3 => 
 Br (!(s3.toList == s2.toList)) (Q (.tuple #[.agg #[.int .i64 0, .int .i64 0, .int .i64 0, .slice none 0 0, .slice none 0 0], .bool false]) H10)
 (Q (.tuple #[.agg #[.int .i64 x1, .int .i64 x2, .int .i64 x3, .slice x4.a x4.len x4.cap, .slice x5.a x5.len x5.cap], .bool true]) H10)))))) ∧ 
  (vB2S H9 b.a b.len (fun s4 => 
 SCalls Try.prog delta_Bytes.id [.agg #[.int .i64 x1, .int .i64 x2, .int .i64 x3, .slice x4.a x4.len x4.cap, .slice x5.a x5.len x5.cap]] H9 (fun r8 H11 => ∃ x9 : Sl, r8 = .slice x9.a x9.len x9.cap ∧ vB2S H11 x9.a x9.len (fun s5 => 
 Br (!(s5.toList == s4.toList)) (Q (.tuple #[.agg #[.int .i64 0, .int .i64 0, .int .i64 0, .slice none 0 0, .slice none 0 0], .bool false]) H11)
 (Q (.tuple #[.agg #[.int .i64 x1, .int .i64 x2, .int .i64 x3, .slice x4.a x4.len x4.cap, .slice x5.a x5.len x5.cap], .bool true]) H11))))))))))))))
theorem delta_Read.eq (J : Jn) (b : Sl) (H : Hp) (Q : Value → Hp → Prop) : vFn Try.prog delta_Read.cf J delta_Read.fn [.slice b.a b.len b.cap] H Q = delta_Read.vc J b H Q := by kernel_rfl
theorem delta_Read.calls {b : Sl} {H : Hp} {Q : Value → Hp → Prop} (h : delta_Read.vc J0 b H Q) : SCalls Try.prog delta_Read.id [.slice b.a b.len b.cap] H Q := vFn_of Try.mixed Try.func50 (delta_Read.eq J0 b H Q) h

/-! 52: tephra/delta.seq -/
noncomputable def delta_seq.cf : Cfg := ⟨[1000003], [], [], [], true, []⟩
noncomputable def delta_seq.vc (J : Jn) (ps : Sl) (H : Hp) (Q : Value → Hp → Prop) : Prop :=
 ∀ b : Nat, b = Array.size H → ∀ H1 : Hp, H1 = (Array.push H (.cells #[.slice ps.a ps.len ps.cap] T_sl_api_Pair)) → Q (.func (.func 66) #[] #[.pointer (some (Addr.mk b 0 none))]) H1
theorem delta_seq.eq (J : Jn) (ps : Sl) (H : Hp) (Q : Value → Hp → Prop) : vFn Try.prog delta_seq.cf J delta_seq.fn [.slice ps.a ps.len ps.cap] H Q = delta_seq.vc J ps H Q := by kernel_rfl
theorem delta_seq.calls {ps : Sl} {H : Hp} {Q : Value → Hp → Prop} (h : delta_seq.vc J0 ps H Q) : SCalls Try.prog delta_seq.id [.slice ps.a ps.len ps.cap] H Q := vFn_of Try.mixed Try.func52 (delta_seq.eq J0 ps H Q) h

/-! 66: tephra/delta.seq$1 -/
noncomputable def delta_seq_1.cf : Cfg := ⟨[4, 1000003], [(1, [0, 5, 6, 7])], [], [], true, []⟩
noncomputable def delta_seq_1.l1.st (yield : Fv) (x : Sl) (H1 : Hp) (x1 : Int) : VS := ⟨mkFr 18 [(0, .v (.func yield.fn yield.fi yield.ca)), (5, .v (.slice x.a x.len x.cap)), (6, .v (.int .i64 ((x.len : Nat) : Int))), (7, .v (.int .i64 x1))], [], H1⟩
noncomputable def delta_seq_1.l1 (J : Jn) (yield : Fv) (x : Sl) (H1 : Hp) (x1 : Int) (Q : Value → Hp → Prop) : Prop := vAt Try.prog delta_seq_1.cf J delta_seq_1.fn [1, 0] [0] Q (delta_seq_1.l1.st yield x H1 x1)
attribute [irreducible] delta_seq_1.l1
noncomputable def delta_seq_1.l1.body (J : Jn) (yield : Fv) (x : Sl) (H1 : Hp) (x1 : Int) (Q : Value → Hp → Prop) : Prop :=
 
 Br (decide (x1 < ((x.len : Nat) : Int))) (((0 : Int) ≤ x1 ∧ x1 < ((x.len : Nat) : Int)) ∧ vPtr x.a (fun a => ∃ Key : ByteArray, ∃ Valuev : ByteArray, ∃ Gone : Bool, RowAt H1 (a.add ((x1 : Int).toNat * 3)) [.string Key, .string Valuev, .bool Gone] ∧ ∀ H2 : Hp, H2 = (holes H1 1) → 
 vInv Try.prog (.func yield.fn yield.fi yield.ca) [.string Key, .agg #[.string Key, .string Valuev, .bool Gone]] H2 (fun r H3 => ∃ x2 : Bool, r = .bool x2 ∧ 
 Br (!x2) (Q (.tuple #[]) H3)
 (
 delta_seq_1.l1 J yield x H3 (w64 (x1 + 1)) Q))))
 (Q (.tuple #[]) H1)
theorem delta_seq_1.l1.eq (J : Jn) (yield : Fv) (x : Sl) (H1 : Hp) (x1 : Int) (Q : Value → Hp → Prop) : vAtBody Try.prog delta_seq_1.cf J delta_seq_1.fn [1, 0] [0] Q (delta_seq_1.l1.st yield x H1 x1) = delta_seq_1.l1.body J yield x H1 x1 Q := by kernel_rfl
theorem delta_seq_1.l1.step {yield : Fv} {x : Sl} {H1 : Hp} {x1 : Int} {Q : Value → Hp → Prop} (h : delta_seq_1.l1.body J0 yield x H1 x1 Q) : delta_seq_1.l1 J0 yield x H1 x1 Q := vAt_stepC (delta_seq_1.l1.st yield x H1 x1) (delta_seq_1.l1.eq J0 yield x H1 x1 Q) (by kernel_rfl) h
noncomputable def delta_seq_1.vc (J : Jn) (yield : Fv) (cap0 : Addr) (H : Hp) (Q : Value → Hp → Prop) : Prop :=
 ∃ x : Sl, Hp.cell? H cap0 = some (.slice x.a x.len x.cap) ∧ 
 delta_seq_1.l1 J yield x H 0 Q
theorem delta_seq_1.eq (J : Jn) (yield : Fv) (cap0 : Addr) (H : Hp) (Q : Value → Hp → Prop) : vFn Try.prog delta_seq_1.cf J delta_seq_1.fn [.func yield.fn yield.fi yield.ca, .pointer (some cap0)] H Q = delta_seq_1.vc J yield cap0 H Q := by kernel_rfl
theorem delta_seq_1.calls {yield : Fv} {cap0 : Addr} {H : Hp} {Q : Value → Hp → Prop} (h : delta_seq_1.vc J0 yield cap0 H Q) : SCalls Try.prog delta_seq_1.id [.func yield.fn yield.fi yield.ca, .pointer (some cap0)] H Q := vFn_of Try.mixed Try.func66 (delta_seq_1.eq J0 yield cap0 H Q) h

/-! 21: tephra/state.Same -/
noncomputable def state_Same.cf : Cfg := ⟨[2, 3, 1000003], [], [], [], true, []⟩
noncomputable def state_Same.vc (J : Jn) (aIndex : Int) (aTerm : Int) (aPairs : Sl) (aSessions : Sl) (bIndex : Int) (bTerm : Int) (bPairs : Sl) (bSessions : Sl) (H : Hp) (Q : Value → Hp → Prop) : Prop :=
 ∀ H1 : Hp, H1 = (holes H 1) → ∀ H2 : Hp, H2 = (holes H1 1) → 
 SCalls Try.prog state_Bytes.id [.agg #[.int .i64 aIndex, .int .i64 aTerm, .slice aPairs.a aPairs.len aPairs.cap, .slice aSessions.a aSessions.len aSessions.cap]] H2 (fun r H3 => ∃ x : Sl, r = .slice x.a x.len x.cap ∧ 
  (vB2S H3 x.a x.len (fun s => 
 SCalls Try.prog state_Bytes.id [.agg #[.int .i64 bIndex, .int .i64 bTerm, .slice bPairs.a bPairs.len bPairs.cap, .slice bSessions.a bSessions.len bSessions.cap]] H3 (fun r1 H4 => ∃ x1 : Sl, r1 = .slice x1.a x1.len x1.cap ∧ vB2S H4 x1.a x1.len (fun s1 => Q (.bool (s.toList == s1.toList)) H4)))) ∧ 
  (
 SCalls Try.prog state_Bytes.id [.agg #[.int .i64 bIndex, .int .i64 bTerm, .slice bPairs.a bPairs.len bPairs.cap, .slice bSessions.a bSessions.len bSessions.cap]] H3 (fun r2 H5 => ∃ x2 : Sl, r2 = .slice x2.a x2.len x2.cap ∧ 
  (vB2S H5 x.a x.len (fun s2 => vB2S H5 x2.a x2.len (fun s3 => Q (.bool (s2.toList == s3.toList)) H5))) ∧ 
  (vB2S H5 x2.a x2.len (fun s4 => vB2S H5 x.a x.len (fun s5 => Q (.bool (s5.toList == s4.toList)) H5))))))
theorem state_Same.eq (J : Jn) (aIndex : Int) (aTerm : Int) (aPairs : Sl) (aSessions : Sl) (bIndex : Int) (bTerm : Int) (bPairs : Sl) (bSessions : Sl) (H : Hp) (Q : Value → Hp → Prop) : vFn Try.prog state_Same.cf J state_Same.fn [.agg #[.int .i64 aIndex, .int .i64 aTerm, .slice aPairs.a aPairs.len aPairs.cap, .slice aSessions.a aSessions.len aSessions.cap], .agg #[.int .i64 bIndex, .int .i64 bTerm, .slice bPairs.a bPairs.len bPairs.cap, .slice bSessions.a bSessions.len bSessions.cap]] H Q = state_Same.vc J aIndex aTerm aPairs aSessions bIndex bTerm bPairs bSessions H Q := by kernel_rfl
theorem state_Same.calls {aIndex : Int} {aTerm : Int} {aPairs : Sl} {aSessions : Sl} {bIndex : Int} {bTerm : Int} {bPairs : Sl} {bSessions : Sl} {H : Hp} {Q : Value → Hp → Prop} (h : state_Same.vc J0 aIndex aTerm aPairs aSessions bIndex bTerm bPairs bSessions H Q) : SCalls Try.prog state_Same.id [.agg #[.int .i64 aIndex, .int .i64 aTerm, .slice aPairs.a aPairs.len aPairs.cap, .slice aSessions.a aSessions.len aSessions.cap], .agg #[.int .i64 bIndex, .int .i64 bTerm, .slice bPairs.a bPairs.len bPairs.cap, .slice bSessions.a bSessions.len bSessions.cap]] H Q := vFn_of Try.mixed Try.func21 (state_Same.eq J0 aIndex aTerm aPairs aSessions bIndex bTerm bPairs bSessions H Q) h

/-! 6: tephra/tephralaw09.ImageAny -/
noncomputable def tephralaw09_ImageAny.cf : Cfg := ⟨[15, 17, 1000003], [(8, [4, 54, 55, 56])], [(14, [4, 14, 15, 16, 17, 18, 19, 20, 21, 54, 55, 56, 99], true), (18, [4, 14, 19, 20, 21, 54, 55, 56, 139], true)], [(83, [4, 14, 15, 16, 17, 18, 19, 20, 21, 54, 55, 56, 83]), (90, [4, 14, 15, 16, 17, 18, 19, 20, 21, 54, 55, 56, 84, 90]), (91, [4, 14, 15, 16, 17, 18, 19, 20, 21, 54, 55, 56, 91]), (122, [4, 14, 17, 18, 19, 20, 21, 24, 54, 55, 56, 112, 122]), (123, [4, 14, 17, 18, 19, 20, 21, 24, 54, 55, 56, 123])], true, []⟩
noncomputable def tephralaw09_ImageAny.l1.st (fromv : Int) (b : Nat) (H8 : Hp) (x4 : Int) : VS := ⟨mkFr 169 [(4, .v (.int .u8 fromv)), (54, .v (.slice (some (Addr.mk b 0 none)) 3 3)), (55, .v (.int .i64 ((3 : Nat) : Int))), (56, .v (.int .i64 x4))], [], H8⟩
noncomputable def tephralaw09_ImageAny.l1 (J : Jn) (fromv : Int) (b : Nat) (H8 : Hp) (x4 : Int) (Q : Value → Hp → Prop) : Prop := vAt Try.prog tephralaw09_ImageAny.cf J tephralaw09_ImageAny.fn [1, 1, 1, 1, 1, 0, 1, 0] [0, 0, 0, 0, 0, 0, 0] Q (tephralaw09_ImageAny.l1.st fromv b H8 x4)
noncomputable def tephralaw09_ImageAny.k1.st (fromv : Int) (b : Nat) (x4 : Int) (x5 : Sl) (Index1 : Int) (Term1 : Int) (Pairs1 : Sl) (Sessions1 : Sl) (x6 : Int) (From : Int) (To : Int) (Term2 : Int) (Pairs2 : Sl) (Sessions2 : Sl) (x7 : Int) (H13 : Hp) (x8 : Sl) (x9 : Int) (x10 : Int) (x11 : Bool) : VS := ⟨mkFr 169 [(4, .v (.int .u8 fromv)), (14, .v (.slice x5.a x5.len x5.cap)), (15, .loc 0 0), (16, .v (.int .i64 x6)), (17, .loc 1 0), (18, .v (.int .i64 x7)), (19, .v (.slice x8.a x8.len x8.cap)), (20, .v (.int .i64 x9)), (21, .v (.int .i64 x10)), (54, .v (.slice (some (Addr.mk b 0 none)) 3 3)), (55, .v (.int .i64 ((3 : Nat) : Int))), (56, .v (.int .i64 x4)), (83, .v (.bool x11))], [(T_api_State, [.int .i64 Index1, .int .i64 Term1, .slice Pairs1.a Pairs1.len Pairs1.cap, .slice Sessions1.a Sessions1.len Sessions1.cap]), (T_delta_Delta, [.int .i64 From, .int .i64 To, .int .i64 Term2, .slice Pairs2.a Pairs2.len Pairs2.cap, .slice Sessions2.a Sessions2.len Sessions2.cap])], H13⟩
noncomputable def tephralaw09_ImageAny.k1 (J : Jn) (fromv : Int) (b : Nat) (x4 : Int) (x5 : Sl) (Index1 : Int) (Term1 : Int) (Pairs1 : Sl) (Sessions1 : Sl) (x6 : Int) (From : Int) (To : Int) (Term2 : Int) (Pairs2 : Sl) (Sessions2 : Sl) (x7 : Int) (H13 : Hp) (x8 : Sl) (x9 : Int) (x10 : Int) (x11 : Bool) (Q : Value → Hp → Prop) : Prop := J (vMid Try.prog tephralaw09_ImageAny.cf J tephralaw09_ImageAny.fn [1, 1, 1, 1, 1, 0, 1, 0, 0, 1, 1, 0, 0, 1, 1, 1, 1, 0, 0] [0, 0, 0, 0, 0, 0, 0, 0, 0, 0, 0, 0, 0, 1, 2, 2, 2] 6 Q) (tephralaw09_ImageAny.k1.st fromv b x4 x5 Index1 Term1 Pairs1 Sessions1 x6 From To Term2 Pairs2 Sessions2 x7 H13 x8 x9 x10 x11)
noncomputable def tephralaw09_ImageAny.k2.st (fromv : Int) (b : Nat) (x4 : Int) (x5 : Sl) (Index1 : Int) (Term1 : Int) (Pairs1 : Sl) (Sessions1 : Sl) (x6 : Int) (From : Int) (To : Int) (Term2 : Int) (Pairs2 : Sl) (Sessions2 : Sl) (x7 : Int) (H13 : Hp) (x8 : Sl) (x9 : Int) (x10 : Int) : VS := ⟨mkFr 169 [(4, .v (.int .u8 fromv)), (14, .v (.slice x5.a x5.len x5.cap)), (15, .loc 0 0), (16, .v (.int .i64 x6)), (17, .loc 1 0), (18, .v (.int .i64 x7)), (19, .v (.slice x8.a x8.len x8.cap)), (20, .v (.int .i64 x9)), (21, .v (.int .i64 x10)), (54, .v (.slice (some (Addr.mk b 0 none)) 3 3)), (55, .v (.int .i64 ((3 : Nat) : Int))), (56, .v (.int .i64 x4)), (84, .v (.bool true)), (90, .v (.tuple #[]))], [(T_api_State, [.int .i64 Index1, .int .i64 Term1, .slice Pairs1.a Pairs1.len Pairs1.cap, .slice Sessions1.a Sessions1.len Sessions1.cap]), (T_delta_Delta, [.int .i64 From, .int .i64 To, .int .i64 Term2, .slice Pairs2.a Pairs2.len Pairs2.cap, .slice Sessions2.a Sessions2.len Sessions2.cap])], H13⟩
noncomputable def tephralaw09_ImageAny.k2 (J : Jn) (fromv : Int) (b : Nat) (x4 : Int) (x5 : Sl) (Index1 : Int) (Term1 : Int) (Pairs1 : Sl) (Sessions1 : Sl) (x6 : Int) (From : Int) (To : Int) (Term2 : Int) (Pairs2 : Sl) (Sessions2 : Sl) (x7 : Int) (H13 : Hp) (x8 : Sl) (x9 : Int) (x10 : Int) (Q : Value → Hp → Prop) : Prop := J (vMid Try.prog tephralaw09_ImageAny.cf J tephralaw09_ImageAny.fn [1, 1, 1, 1, 1, 0, 1, 0, 0, 1, 1, 0, 0, 1, 1, 1, 1, 0, 0] [0, 0, 0, 0, 0, 0, 0, 0, 0, 0, 0, 0, 0, 1, 2, 2, 2] 13 Q) (tephralaw09_ImageAny.k2.st fromv b x4 x5 Index1 Term1 Pairs1 Sessions1 x6 From To Term2 Pairs2 Sessions2 x7 H13 x8 x9 x10)
noncomputable def tephralaw09_ImageAny.k3.st (fromv : Int) (b : Nat) (x4 : Int) (x5 : Sl) (Index1 : Int) (Term1 : Int) (Pairs1 : Sl) (Sessions1 : Sl) (x6 : Int) (From : Int) (To : Int) (Term2 : Int) (Pairs2 : Sl) (Sessions2 : Sl) (x7 : Int) (H13 : Hp) (x8 : Sl) (x9 : Int) (x10 : Int) (x12 : Bool) : VS := ⟨mkFr 169 [(4, .v (.int .u8 fromv)), (14, .v (.slice x5.a x5.len x5.cap)), (15, .loc 0 0), (16, .v (.int .i64 x6)), (17, .loc 1 0), (18, .v (.int .i64 x7)), (19, .v (.slice x8.a x8.len x8.cap)), (20, .v (.int .i64 x9)), (21, .v (.int .i64 x10)), (54, .v (.slice (some (Addr.mk b 0 none)) 3 3)), (55, .v (.int .i64 ((3 : Nat) : Int))), (56, .v (.int .i64 x4)), (84, .v (.bool false)), (90, .v (.bool x12))], [(T_api_State, [.int .i64 Index1, .int .i64 Term1, .slice Pairs1.a Pairs1.len Pairs1.cap, .slice Sessions1.a Sessions1.len Sessions1.cap]), (T_delta_Delta, [.int .i64 From, .int .i64 To, .int .i64 Term2, .slice Pairs2.a Pairs2.len Pairs2.cap, .slice Sessions2.a Sessions2.len Sessions2.cap])], H13⟩
noncomputable def tephralaw09_ImageAny.k3 (J : Jn) (fromv : Int) (b : Nat) (x4 : Int) (x5 : Sl) (Index1 : Int) (Term1 : Int) (Pairs1 : Sl) (Sessions1 : Sl) (x6 : Int) (From : Int) (To : Int) (Term2 : Int) (Pairs2 : Sl) (Sessions2 : Sl) (x7 : Int) (H13 : Hp) (x8 : Sl) (x9 : Int) (x10 : Int) (x12 : Bool) (Q : Value → Hp → Prop) : Prop := J (vMid Try.prog tephralaw09_ImageAny.cf J tephralaw09_ImageAny.fn [1, 1, 1, 1, 1, 0, 1, 0, 0, 1, 1, 0, 0, 1, 1, 1, 1, 0, 0] [0, 0, 0, 0, 0, 0, 0, 0, 0, 0, 0, 0, 0, 1, 2, 2, 2] 13 Q) (tephralaw09_ImageAny.k3.st fromv b x4 x5 Index1 Term1 Pairs1 Sessions1 x6 From To Term2 Pairs2 Sessions2 x7 H13 x8 x9 x10 x12)
noncomputable def tephralaw09_ImageAny.k4.st (fromv : Int) (b : Nat) (x4 : Int) (x5 : Sl) (Index1 : Int) (Term1 : Int) (Pairs1 : Sl) (Sessions1 : Sl) (x6 : Int) (From : Int) (To : Int) (Term2 : Int) (Pairs2 : Sl) (Sessions2 : Sl) (x7 : Int) (H13 : Hp) (x8 : Sl) (x9 : Int) (x10 : Int) (x13 : Bool) : VS := ⟨mkFr 169 [(4, .v (.int .u8 fromv)), (14, .v (.slice x5.a x5.len x5.cap)), (15, .loc 0 0), (16, .v (.int .i64 x6)), (17, .loc 1 0), (18, .v (.int .i64 x7)), (19, .v (.slice x8.a x8.len x8.cap)), (20, .v (.int .i64 x9)), (21, .v (.int .i64 x10)), (54, .v (.slice (some (Addr.mk b 0 none)) 3 3)), (55, .v (.int .i64 ((3 : Nat) : Int))), (56, .v (.int .i64 x4)), (91, .v (.bool x13))], [(T_api_State, [.int .i64 Index1, .int .i64 Term1, .slice Pairs1.a Pairs1.len Pairs1.cap, .slice Sessions1.a Sessions1.len Sessions1.cap]), (T_delta_Delta, [.int .i64 From, .int .i64 To, .int .i64 Term2, .slice Pairs2.a Pairs2.len Pairs2.cap, .slice Sessions2.a Sessions2.len Sessions2.cap])], H13⟩
noncomputable def tephralaw09_ImageAny.k4 (J : Jn) (fromv : Int) (b : Nat) (x4 : Int) (x5 : Sl) (Index1 : Int) (Term1 : Int) (Pairs1 : Sl) (Sessions1 : Sl) (x6 : Int) (From : Int) (To : Int) (Term2 : Int) (Pairs2 : Sl) (Sessions2 : Sl) (x7 : Int) (H13 : Hp) (x8 : Sl) (x9 : Int) (x10 : Int) (x13 : Bool) (Q : Value → Hp → Prop) : Prop := J (vMid Try.prog tephralaw09_ImageAny.cf J tephralaw09_ImageAny.fn [1, 1, 1, 1, 1, 0, 1, 0, 0, 1, 1, 0, 0, 1, 1, 1, 1, 0, 0] [0, 0, 0, 0, 0, 0, 0, 0, 0, 0, 0, 0, 0, 1, 2, 2, 2] 14 Q) (tephralaw09_ImageAny.k4.st fromv b x4 x5 Index1 Term1 Pairs1 Sessions1 x6 From To Term2 Pairs2 Sessions2 x7 H13 x8 x9 x10 x13)
noncomputable def tephralaw09_ImageAny.k5.st (fromv : Int) (b : Nat) (x4 : Int) (x5 : Sl) (Index1 : Int) (Term1 : Int) (Pairs1 : Sl) (Sessions1 : Sl) (x6 : Int) (From : Int) (To : Int) (Term2 : Int) (Pairs2 : Sl) (Sessions2 : Sl) (x7 : Int) (H13 : Hp) (x8 : Sl) (x9 : Int) (x10 : Int) (x14 : Bool) : VS := ⟨mkFr 169 [(4, .v (.int .u8 fromv)), (14, .v (.slice x5.a x5.len x5.cap)), (15, .loc 0 0), (16, .v (.int .i64 x6)), (17, .loc 1 0), (18, .v (.int .i64 x7)), (19, .v (.slice x8.a x8.len x8.cap)), (20, .v (.int .i64 x9)), (21, .v (.int .i64 x10)), (54, .v (.slice (some (Addr.mk b 0 none)) 3 3)), (55, .v (.int .i64 ((3 : Nat) : Int))), (56, .v (.int .i64 x4)), (99, .v (.bool x14))], [(T_api_State, [.int .i64 Index1, .int .i64 Term1, .slice Pairs1.a Pairs1.len Pairs1.cap, .slice Sessions1.a Sessions1.len Sessions1.cap]), (T_delta_Delta, [.int .i64 From, .int .i64 To, .int .i64 Term2, .slice Pairs2.a Pairs2.len Pairs2.cap, .slice Sessions2.a Sessions2.len Sessions2.cap])], H13⟩
noncomputable def tephralaw09_ImageAny.k5 (J : Jn) (fromv : Int) (b : Nat) (x4 : Int) (x5 : Sl) (Index1 : Int) (Term1 : Int) (Pairs1 : Sl) (Sessions1 : Sl) (x6 : Int) (From : Int) (To : Int) (Term2 : Int) (Pairs2 : Sl) (Sessions2 : Sl) (x7 : Int) (H13 : Hp) (x8 : Sl) (x9 : Int) (x10 : Int) (x14 : Bool) (Q : Value → Hp → Prop) : Prop := J (vSeg Try.prog tephralaw09_ImageAny.cf J tephralaw09_ImageAny.fn [1, 1, 1, 1, 1, 0, 1, 0, 0, 1, 1, 0, 0, 1, 1, 1, 1, 0, 1] [0, 0, 0, 0, 0, 0, 0, 0, 0, 0, 0, 0, 0, 1, 2, 2, 2] Q) (tephralaw09_ImageAny.k5.st fromv b x4 x5 Index1 Term1 Pairs1 Sessions1 x6 From To Term2 Pairs2 Sessions2 x7 H13 x8 x9 x10 x14)
noncomputable def tephralaw09_ImageAny.k6.st (fromv : Int) (b : Nat) (x4 : Int) (x5 : Sl) (Index1 : Int) (Term1 : Int) (Pairs1 : Sl) (Sessions1 : Sl) (From : Int) (To : Int) (Term2 : Int) (Pairs2 : Sl) (Sessions2 : Sl) (x7 : Int) (x8 : Sl) (x9 : Int) (x10 : Int) (x17 : Sl) (H16 : Hp) (x20 : Bool) : VS := ⟨mkFr 169 [(4, .v (.int .u8 fromv)), (14, .v (.slice x5.a x5.len x5.cap)), (17, .loc 1 0), (18, .v (.int .i64 x7)), (19, .v (.slice x8.a x8.len x8.cap)), (20, .v (.int .i64 x9)), (21, .v (.int .i64 x10)), (24, .v (.slice x17.a x17.len x17.cap)), (54, .v (.slice (some (Addr.mk b 0 none)) 3 3)), (55, .v (.int .i64 ((3 : Nat) : Int))), (56, .v (.int .i64 x4)), (112, .v (.bool true)), (122, .v (.bool x20))], [(T_api_State, [.int .i64 Index1, .int .i64 Term1, .slice Pairs1.a Pairs1.len Pairs1.cap, .slice Sessions1.a Sessions1.len Sessions1.cap]), (T_delta_Delta, [.int .i64 From, .int .i64 To, .int .i64 Term2, .slice Pairs2.a Pairs2.len Pairs2.cap, .slice Sessions2.a Sessions2.len Sessions2.cap])], H16⟩
noncomputable def tephralaw09_ImageAny.k6 (J : Jn) (fromv : Int) (b : Nat) (x4 : Int) (x5 : Sl) (Index1 : Int) (Term1 : Int) (Pairs1 : Sl) (Sessions1 : Sl) (From : Int) (To : Int) (Term2 : Int) (Pairs2 : Sl) (Sessions2 : Sl) (x7 : Int) (x8 : Sl) (x9 : Int) (x10 : Int) (x17 : Sl) (H16 : Hp) (x20 : Bool) (Q : Value → Hp → Prop) : Prop := J (vMid Try.prog tephralaw09_ImageAny.cf J tephralaw09_ImageAny.fn [1, 1, 1, 1, 1, 0, 1, 0, 0, 1, 1, 0, 0, 1, 1, 1, 1, 1, 1, 1, 0, 0] [0, 0, 0, 0, 0, 0, 0, 0, 0, 0, 0, 0, 0, 1, 2, 2, 2, 2, 2, 2] 13 Q) (tephralaw09_ImageAny.k6.st fromv b x4 x5 Index1 Term1 Pairs1 Sessions1 From To Term2 Pairs2 Sessions2 x7 x8 x9 x10 x17 H16 x20)
noncomputable def tephralaw09_ImageAny.k7.st (fromv : Int) (b : Nat) (x4 : Int) (x5 : Sl) (Index1 : Int) (Term1 : Int) (Pairs1 : Sl) (Sessions1 : Sl) (From : Int) (To : Int) (Term2 : Int) (Pairs2 : Sl) (Sessions2 : Sl) (x7 : Int) (x8 : Sl) (x9 : Int) (x10 : Int) (H15 : Hp) (x17 : Sl) : VS := ⟨mkFr 169 [(4, .v (.int .u8 fromv)), (14, .v (.slice x5.a x5.len x5.cap)), (17, .loc 1 0), (18, .v (.int .i64 x7)), (19, .v (.slice x8.a x8.len x8.cap)), (20, .v (.int .i64 x9)), (21, .v (.int .i64 x10)), (24, .v (.slice x17.a x17.len x17.cap)), (54, .v (.slice (some (Addr.mk b 0 none)) 3 3)), (55, .v (.int .i64 ((3 : Nat) : Int))), (56, .v (.int .i64 x4)), (112, .v (.bool false)), (122, .v (.tuple #[]))], [(T_api_State, [.int .i64 Index1, .int .i64 Term1, .slice Pairs1.a Pairs1.len Pairs1.cap, .slice Sessions1.a Sessions1.len Sessions1.cap]), (T_delta_Delta, [.int .i64 From, .int .i64 To, .int .i64 Term2, .slice Pairs2.a Pairs2.len Pairs2.cap, .slice Sessions2.a Sessions2.len Sessions2.cap])], H15⟩
noncomputable def tephralaw09_ImageAny.k7 (J : Jn) (fromv : Int) (b : Nat) (x4 : Int) (x5 : Sl) (Index1 : Int) (Term1 : Int) (Pairs1 : Sl) (Sessions1 : Sl) (From : Int) (To : Int) (Term2 : Int) (Pairs2 : Sl) (Sessions2 : Sl) (x7 : Int) (x8 : Sl) (x9 : Int) (x10 : Int) (H15 : Hp) (x17 : Sl) (Q : Value → Hp → Prop) : Prop := J (vMid Try.prog tephralaw09_ImageAny.cf J tephralaw09_ImageAny.fn [1, 1, 1, 1, 1, 0, 1, 0, 0, 1, 1, 0, 0, 1, 1, 1, 1, 1, 1, 1, 0, 0] [0, 0, 0, 0, 0, 0, 0, 0, 0, 0, 0, 0, 0, 1, 2, 2, 2, 2, 2, 2] 13 Q) (tephralaw09_ImageAny.k7.st fromv b x4 x5 Index1 Term1 Pairs1 Sessions1 From To Term2 Pairs2 Sessions2 x7 x8 x9 x10 H15 x17)
noncomputable def tephralaw09_ImageAny.k8.st (fromv : Int) (b : Nat) (x4 : Int) (x5 : Sl) (Index1 : Int) (Term1 : Int) (Pairs1 : Sl) (Sessions1 : Sl) (From : Int) (To : Int) (Term2 : Int) (Pairs2 : Sl) (Sessions2 : Sl) (x7 : Int) (x8 : Sl) (x9 : Int) (x10 : Int) (x17 : Sl) (x21 : Bool) (H17 : Hp) : VS := ⟨mkFr 169 [(4, .v (.int .u8 fromv)), (14, .v (.slice x5.a x5.len x5.cap)), (17, .loc 1 0), (18, .v (.int .i64 x7)), (19, .v (.slice x8.a x8.len x8.cap)), (20, .v (.int .i64 x9)), (21, .v (.int .i64 x10)), (24, .v (.slice x17.a x17.len x17.cap)), (54, .v (.slice (some (Addr.mk b 0 none)) 3 3)), (55, .v (.int .i64 ((3 : Nat) : Int))), (56, .v (.int .i64 x4)), (123, .v (.bool x21))], [(T_api_State, [.int .i64 Index1, .int .i64 Term1, .slice Pairs1.a Pairs1.len Pairs1.cap, .slice Sessions1.a Sessions1.len Sessions1.cap]), (T_delta_Delta, [.int .i64 From, .int .i64 To, .int .i64 Term2, .slice Pairs2.a Pairs2.len Pairs2.cap, .slice Sessions2.a Sessions2.len Sessions2.cap])], H17⟩
noncomputable def tephralaw09_ImageAny.k8 (J : Jn) (fromv : Int) (b : Nat) (x4 : Int) (x5 : Sl) (Index1 : Int) (Term1 : Int) (Pairs1 : Sl) (Sessions1 : Sl) (From : Int) (To : Int) (Term2 : Int) (Pairs2 : Sl) (Sessions2 : Sl) (x7 : Int) (x8 : Sl) (x9 : Int) (x10 : Int) (x17 : Sl) (x21 : Bool) (H17 : Hp) (Q : Value → Hp → Prop) : Prop := J (vMid Try.prog tephralaw09_ImageAny.cf J tephralaw09_ImageAny.fn [1, 1, 1, 1, 1, 0, 1, 0, 0, 1, 1, 0, 0, 1, 1, 1, 1, 1, 1, 1, 0, 0] [0, 0, 0, 0, 0, 0, 0, 0, 0, 0, 0, 0, 0, 1, 2, 2, 2, 2, 2, 2] 14 Q) (tephralaw09_ImageAny.k8.st fromv b x4 x5 Index1 Term1 Pairs1 Sessions1 From To Term2 Pairs2 Sessions2 x7 x8 x9 x10 x17 x21 H17)
noncomputable def tephralaw09_ImageAny.k9.st (fromv : Int) (b : Nat) (x4 : Int) (x5 : Sl) (Index1 : Int) (Term1 : Int) (Pairs1 : Sl) (Sessions1 : Sl) (From : Int) (To : Int) (Term2 : Int) (Pairs2 : Sl) (Sessions2 : Sl) (x8 : Sl) (x9 : Int) (x10 : Int) (x23 : Bool) (H19 : Hp) : VS := ⟨mkFr 169 [(4, .v (.int .u8 fromv)), (14, .v (.slice x5.a x5.len x5.cap)), (19, .v (.slice x8.a x8.len x8.cap)), (20, .v (.int .i64 x9)), (21, .v (.int .i64 x10)), (54, .v (.slice (some (Addr.mk b 0 none)) 3 3)), (55, .v (.int .i64 ((3 : Nat) : Int))), (56, .v (.int .i64 x4)), (139, .v (.bool x23))], [(T_api_State, [.int .i64 Index1, .int .i64 Term1, .slice Pairs1.a Pairs1.len Pairs1.cap, .slice Sessions1.a Sessions1.len Sessions1.cap]), (T_delta_Delta, [.int .i64 From, .int .i64 To, .int .i64 Term2, .slice Pairs2.a Pairs2.len Pairs2.cap, .slice Sessions2.a Sessions2.len Sessions2.cap])], H19⟩
noncomputable def tephralaw09_ImageAny.k9 (J : Jn) (fromv : Int) (b : Nat) (x4 : Int) (x5 : Sl) (Index1 : Int) (Term1 : Int) (Pairs1 : Sl) (Sessions1 : Sl) (From : Int) (To : Int) (Term2 : Int) (Pairs2 : Sl) (Sessions2 : Sl) (x8 : Sl) (x9 : Int) (x10 : Int) (x23 : Bool) (H19 : Hp) (Q : Value → Hp → Prop) : Prop := J (vSeg Try.prog tephralaw09_ImageAny.cf J tephralaw09_ImageAny.fn [1, 1, 1, 1, 1, 0, 1, 0, 0, 1, 1, 0, 0, 1, 1, 1, 1, 1, 1, 1, 0, 1] [0, 0, 0, 0, 0, 0, 0, 0, 0, 0, 0, 0, 0, 1, 2, 2, 2, 2, 2, 2] Q) (tephralaw09_ImageAny.k9.st fromv b x4 x5 Index1 Term1 Pairs1 Sessions1 From To Term2 Pairs2 Sessions2 x8 x9 x10 x23 H19)
attribute [irreducible] tephralaw09_ImageAny.l1 tephralaw09_ImageAny.k1 tephralaw09_ImageAny.k2 tephralaw09_ImageAny.k3 tephralaw09_ImageAny.k4 tephralaw09_ImageAny.k5 tephralaw09_ImageAny.k6 tephralaw09_ImageAny.k7 tephralaw09_ImageAny.k8 tephralaw09_ImageAny.k9
noncomputable def tephralaw09_ImageAny.l1.body (J : Jn) (fromv : Int) (b : Nat) (H8 : Hp) (x4 : Int) (Q : Value → Hp → Prop) : Prop :=
 
 Br (decide (x4 < ((3 : Nat) : Int))) (((0 : Int) ≤ x4 ∧ x4 < ((3 : Nat) : Int)) ∧ ∃ x5 : Sl, Hp.cell? H8 ((Addr.mk b 0 none).add ((x4 : Int).toNat * 1)) = some (.slice x5.a x5.len x5.cap) ∧ 
 SCalls Try.prog image_ReadFull.id [.slice x5.a x5.len x5.cap] H8 (fun r3 H9 => ∃ Index1 : Int, ∃ Term1 : Int, ∃ Pairs1 : Sl, ∃ Sessions1 : Sl, ∃ x6 : Int, r3 = .tuple #[.agg #[.int .i64 Index1, .int .i64 Term1, .slice Pairs1.a Pairs1.len Pairs1.cap, .slice Sessions1.a Sessions1.len Sessions1.cap], .int .i64 x6] ∧ ∀ H10 : Hp, H10 = (holes H9 1) → 
 SCalls Try.prog image_ReadDelta.id [.slice x5.a x5.len x5.cap] H10 (fun r4 H11 => ∃ From : Int, ∃ To : Int, ∃ Term2 : Int, ∃ Pairs2 : Sl, ∃ Sessions2 : Sl, ∃ x7 : Int, r4 = .tuple #[.agg #[.int .i64 From, .int .i64 To, .int .i64 Term2, .slice Pairs2.a Pairs2.len Pairs2.cap, .slice Sessions2.a Sessions2.len Sessions2.cap], .int .i64 x7] ∧ ∀ H12 : Hp, H12 = (holes H11 1) → 
 SCalls Try.prog image_ReadPart.id [.slice x5.a x5.len x5.cap, .int .i64 (w64 (fromv))] H12 (fun r5 H13 => ∃ x8 : Sl, ∃ x9 : Int, ∃ x10 : Int, r5 = .tuple #[.slice x8.a x8.len x8.cap, .int .i64 x9, .int .i64 x10] ∧ 
 Br (x6 != 0) (
 tephralaw09_ImageAny.k1 J fromv b x4 x5 Index1 Term1 Pairs1 Sessions1 x6 From To Term2 Pairs2 Sessions2 x7 H13 x8 x9 x10 (x6 != 10) Q)
 (
 tephralaw09_ImageAny.k1 J fromv b x4 x5 Index1 Term1 Pairs1 Sessions1 x6 From To Term2 Pairs2 Sessions2 x7 H13 x8 x9 x10 false Q)))))
 (Q (.bool true) H8)
theorem tephralaw09_ImageAny.l1.eq (J : Jn) (fromv : Int) (b : Nat) (H8 : Hp) (x4 : Int) (Q : Value → Hp → Prop) : vAtBody Try.prog tephralaw09_ImageAny.cf J tephralaw09_ImageAny.fn [1, 1, 1, 1, 1, 0, 1, 0] [0, 0, 0, 0, 0, 0, 0] Q (tephralaw09_ImageAny.l1.st fromv b H8 x4) = tephralaw09_ImageAny.l1.body J fromv b H8 x4 Q := by kernel_rfl
theorem tephralaw09_ImageAny.l1.step {fromv : Int} {b : Nat} {H8 : Hp} {x4 : Int} {Q : Value → Hp → Prop} (h : tephralaw09_ImageAny.l1.body J0 fromv b H8 x4 Q) : tephralaw09_ImageAny.l1 J0 fromv b H8 x4 Q := vAt_stepC (tephralaw09_ImageAny.l1.st fromv b H8 x4) (tephralaw09_ImageAny.l1.eq J0 fromv b H8 x4 Q) (by kernel_rfl) h
noncomputable def tephralaw09_ImageAny.k1.body (J : Jn) (fromv : Int) (b : Nat) (x4 : Int) (x5 : Sl) (Index1 : Int) (Term1 : Int) (Pairs1 : Sl) (Sessions1 : Sl) (x6 : Int) (From : Int) (To : Int) (Term2 : Int) (Pairs2 : Sl) (Sessions2 : Sl) (x7 : Int) (H13 : Hp) (x8 : Sl) (x9 : Int) (x10 : Int) (x11 : Bool) (Q : Value → Hp → Prop) : Prop :=
 
 Br x11 (
 tephralaw09_ImageAny.k2 J fromv b x4 x5 Index1 Term1 Pairs1 Sessions1 x6 From To Term2 Pairs2 Sessions2 x7 H13 x8 x9 x10 Q)
 (
 Br (x7 != 0) (
 tephralaw09_ImageAny.k3 J fromv b x4 x5 Index1 Term1 Pairs1 Sessions1 x6 From To Term2 Pairs2 Sessions2 x7 H13 x8 x9 x10 (x7 != 10) Q)
 (
 tephralaw09_ImageAny.k3 J fromv b x4 x5 Index1 Term1 Pairs1 Sessions1 x6 From To Term2 Pairs2 Sessions2 x7 H13 x8 x9 x10 false Q))
theorem tephralaw09_ImageAny.k1.eq (J : Jn) (fromv : Int) (b : Nat) (x4 : Int) (x5 : Sl) (Index1 : Int) (Term1 : Int) (Pairs1 : Sl) (Sessions1 : Sl) (x6 : Int) (From : Int) (To : Int) (Term2 : Int) (Pairs2 : Sl) (Sessions2 : Sl) (x7 : Int) (H13 : Hp) (x8 : Sl) (x9 : Int) (x10 : Int) (x11 : Bool) (Q : Value → Hp → Prop) : vMid Try.prog tephralaw09_ImageAny.cf J tephralaw09_ImageAny.fn [1, 1, 1, 1, 1, 0, 1, 0, 0, 1, 1, 0, 0, 1, 1, 1, 1, 0, 0] [0, 0, 0, 0, 0, 0, 0, 0, 0, 0, 0, 0, 0, 1, 2, 2, 2] 6 Q (tephralaw09_ImageAny.k1.st fromv b x4 x5 Index1 Term1 Pairs1 Sessions1 x6 From To Term2 Pairs2 Sessions2 x7 H13 x8 x9 x10 x11) = tephralaw09_ImageAny.k1.body J fromv b x4 x5 Index1 Term1 Pairs1 Sessions1 x6 From To Term2 Pairs2 Sessions2 x7 H13 x8 x9 x10 x11 Q := by kernel_rfl
theorem tephralaw09_ImageAny.k1.step {fromv : Int} {b : Nat} {x4 : Int} {x5 : Sl} {Index1 : Int} {Term1 : Int} {Pairs1 : Sl} {Sessions1 : Sl} {x6 : Int} {From : Int} {To : Int} {Term2 : Int} {Pairs2 : Sl} {Sessions2 : Sl} {x7 : Int} {H13 : Hp} {x8 : Sl} {x9 : Int} {x10 : Int} {x11 : Bool} {Q : Value → Hp → Prop} (h : tephralaw09_ImageAny.k1.body J0 fromv b x4 x5 Index1 Term1 Pairs1 Sessions1 x6 From To Term2 Pairs2 Sessions2 x7 H13 x8 x9 x10 x11 Q) : tephralaw09_ImageAny.k1 J0 fromv b x4 x5 Index1 Term1 Pairs1 Sessions1 x6 From To Term2 Pairs2 Sessions2 x7 H13 x8 x9 x10 x11 Q := step_of (vMid Try.prog tephralaw09_ImageAny.cf J0 tephralaw09_ImageAny.fn [1, 1, 1, 1, 1, 0, 1, 0, 0, 1, 1, 0, 0, 1, 1, 1, 1, 0, 0] [0, 0, 0, 0, 0, 0, 0, 0, 0, 0, 0, 0, 0, 1, 2, 2, 2] 6 Q) (tephralaw09_ImageAny.k1.st fromv b x4 x5 Index1 Term1 Pairs1 Sessions1 x6 From To Term2 Pairs2 Sessions2 x7 H13 x8 x9 x10 x11) (tephralaw09_ImageAny.k1.eq J0 fromv b x4 x5 Index1 Term1 Pairs1 Sessions1 x6 From To Term2 Pairs2 Sessions2 x7 H13 x8 x9 x10 x11 Q) (by kernel_rfl) h
noncomputable def tephralaw09_ImageAny.k2.body (J : Jn) (fromv : Int) (b : Nat) (x4 : Int) (x5 : Sl) (Index1 : Int) (Term1 : Int) (Pairs1 : Sl) (Sessions1 : Sl) (x6 : Int) (From : Int) (To : Int) (Term2 : Int) (Pairs2 : Sl) (Sessions2 : Sl) (x7 : Int) (H13 : Hp) (x8 : Sl) (x9 : Int) (x10 : Int) (Q : Value → Hp → Prop) : Prop :=
 
 tephralaw09_ImageAny.k4 J fromv b x4 x5 Index1 Term1 Pairs1 Sessions1 x6 From To Term2 Pairs2 Sessions2 x7 H13 x8 x9 x10 true Q
theorem tephralaw09_ImageAny.k2.eq (J : Jn) (fromv : Int) (b : Nat) (x4 : Int) (x5 : Sl) (Index1 : Int) (Term1 : Int) (Pairs1 : Sl) (Sessions1 : Sl) (x6 : Int) (From : Int) (To : Int) (Term2 : Int) (Pairs2 : Sl) (Sessions2 : Sl) (x7 : Int) (H13 : Hp) (x8 : Sl) (x9 : Int) (x10 : Int) (Q : Value → Hp → Prop) : vMid Try.prog tephralaw09_ImageAny.cf J tephralaw09_ImageAny.fn [1, 1, 1, 1, 1, 0, 1, 0, 0, 1, 1, 0, 0, 1, 1, 1, 1, 0, 0] [0, 0, 0, 0, 0, 0, 0, 0, 0, 0, 0, 0, 0, 1, 2, 2, 2] 13 Q (tephralaw09_ImageAny.k2.st fromv b x4 x5 Index1 Term1 Pairs1 Sessions1 x6 From To Term2 Pairs2 Sessions2 x7 H13 x8 x9 x10) = tephralaw09_ImageAny.k2.body J fromv b x4 x5 Index1 Term1 Pairs1 Sessions1 x6 From To Term2 Pairs2 Sessions2 x7 H13 x8 x9 x10 Q := by kernel_rfl
theorem tephralaw09_ImageAny.k2.step {fromv : Int} {b : Nat} {x4 : Int} {x5 : Sl} {Index1 : Int} {Term1 : Int} {Pairs1 : Sl} {Sessions1 : Sl} {x6 : Int} {From : Int} {To : Int} {Term2 : Int} {Pairs2 : Sl} {Sessions2 : Sl} {x7 : Int} {H13 : Hp} {x8 : Sl} {x9 : Int} {x10 : Int} {Q : Value → Hp → Prop} (h : tephralaw09_ImageAny.k2.body J0 fromv b x4 x5 Index1 Term1 Pairs1 Sessions1 x6 From To Term2 Pairs2 Sessions2 x7 H13 x8 x9 x10 Q) : tephralaw09_ImageAny.k2 J0 fromv b x4 x5 Index1 Term1 Pairs1 Sessions1 x6 From To Term2 Pairs2 Sessions2 x7 H13 x8 x9 x10 Q := step_of (vMid Try.prog tephralaw09_ImageAny.cf J0 tephralaw09_ImageAny.fn [1, 1, 1, 1, 1, 0, 1, 0, 0, 1, 1, 0, 0, 1, 1, 1, 1, 0, 0] [0, 0, 0, 0, 0, 0, 0, 0, 0, 0, 0, 0, 0, 1, 2, 2, 2] 13 Q) (tephralaw09_ImageAny.k2.st fromv b x4 x5 Index1 Term1 Pairs1 Sessions1 x6 From To Term2 Pairs2 Sessions2 x7 H13 x8 x9 x10) (tephralaw09_ImageAny.k2.eq J0 fromv b x4 x5 Index1 Term1 Pairs1 Sessions1 x6 From To Term2 Pairs2 Sessions2 x7 H13 x8 x9 x10 Q) (by kernel_rfl) h
noncomputable def tephralaw09_ImageAny.k3.body (J : Jn) (fromv : Int) (b : Nat) (x4 : Int) (x5 : Sl) (Index1 : Int) (Term1 : Int) (Pairs1 : Sl) (Sessions1 : Sl) (x6 : Int) (From : Int) (To : Int) (Term2 : Int) (Pairs2 : Sl) (Sessions2 : Sl) (x7 : Int) (H13 : Hp) (x8 : Sl) (x9 : Int) (x10 : Int) (x12 : Bool) (Q : Value → Hp → Prop) : Prop :=
 
 tephralaw09_ImageAny.k4 J fromv b x4 x5 Index1 Term1 Pairs1 Sessions1 x6 From To Term2 Pairs2 Sessions2 x7 H13 x8 x9 x10 x12 Q
theorem tephralaw09_ImageAny.k3.eq (J : Jn) (fromv : Int) (b : Nat) (x4 : Int) (x5 : Sl) (Index1 : Int) (Term1 : Int) (Pairs1 : Sl) (Sessions1 : Sl) (x6 : Int) (From : Int) (To : Int) (Term2 : Int) (Pairs2 : Sl) (Sessions2 : Sl) (x7 : Int) (H13 : Hp) (x8 : Sl) (x9 : Int) (x10 : Int) (x12 : Bool) (Q : Value → Hp → Prop) : vMid Try.prog tephralaw09_ImageAny.cf J tephralaw09_ImageAny.fn [1, 1, 1, 1, 1, 0, 1, 0, 0, 1, 1, 0, 0, 1, 1, 1, 1, 0, 0] [0, 0, 0, 0, 0, 0, 0, 0, 0, 0, 0, 0, 0, 1, 2, 2, 2] 13 Q (tephralaw09_ImageAny.k3.st fromv b x4 x5 Index1 Term1 Pairs1 Sessions1 x6 From To Term2 Pairs2 Sessions2 x7 H13 x8 x9 x10 x12) = tephralaw09_ImageAny.k3.body J fromv b x4 x5 Index1 Term1 Pairs1 Sessions1 x6 From To Term2 Pairs2 Sessions2 x7 H13 x8 x9 x10 x12 Q := by kernel_rfl
theorem tephralaw09_ImageAny.k3.step {fromv : Int} {b : Nat} {x4 : Int} {x5 : Sl} {Index1 : Int} {Term1 : Int} {Pairs1 : Sl} {Sessions1 : Sl} {x6 : Int} {From : Int} {To : Int} {Term2 : Int} {Pairs2 : Sl} {Sessions2 : Sl} {x7 : Int} {H13 : Hp} {x8 : Sl} {x9 : Int} {x10 : Int} {x12 : Bool} {Q : Value → Hp → Prop} (h : tephralaw09_ImageAny.k3.body J0 fromv b x4 x5 Index1 Term1 Pairs1 Sessions1 x6 From To Term2 Pairs2 Sessions2 x7 H13 x8 x9 x10 x12 Q) : tephralaw09_ImageAny.k3 J0 fromv b x4 x5 Index1 Term1 Pairs1 Sessions1 x6 From To Term2 Pairs2 Sessions2 x7 H13 x8 x9 x10 x12 Q := step_of (vMid Try.prog tephralaw09_ImageAny.cf J0 tephralaw09_ImageAny.fn [1, 1, 1, 1, 1, 0, 1, 0, 0, 1, 1, 0, 0, 1, 1, 1, 1, 0, 0] [0, 0, 0, 0, 0, 0, 0, 0, 0, 0, 0, 0, 0, 1, 2, 2, 2] 13 Q) (tephralaw09_ImageAny.k3.st fromv b x4 x5 Index1 Term1 Pairs1 Sessions1 x6 From To Term2 Pairs2 Sessions2 x7 H13 x8 x9 x10 x12) (tephralaw09_ImageAny.k3.eq J0 fromv b x4 x5 Index1 Term1 Pairs1 Sessions1 x6 From To Term2 Pairs2 Sessions2 x7 H13 x8 x9 x10 x12 Q) (by kernel_rfl) h
noncomputable def tephralaw09_ImageAny.k4.body (J : Jn) (fromv : Int) (b : Nat) (x4 : Int) (x5 : Sl) (Index1 : Int) (Term1 : Int) (Pairs1 : Sl) (Sessions1 : Sl) (x6 : Int) (From : Int) (To : Int) (Term2 : Int) (Pairs2 : Sl) (Sessions2 : Sl) (x7 : Int) (H13 : Hp) (x8 : Sl) (x9 : Int) (x10 : Int) (x13 : Bool) (Q : Value → Hp → Prop) : Prop :=
 
 Br x13 (
 tephralaw09_ImageAny.k5 J fromv b x4 x5 Index1 Term1 Pairs1 Sessions1 x6 From To Term2 Pairs2 Sessions2 x7 H13 x8 x9 x10 true Q)
 (
 Br (x10 != 0) (
 tephralaw09_ImageAny.k5 J fromv b x4 x5 Index1 Term1 Pairs1 Sessions1 x6 From To Term2 Pairs2 Sessions2 x7 H13 x8 x9 x10 (x10 != 10) Q)
 (
 tephralaw09_ImageAny.k5 J fromv b x4 x5 Index1 Term1 Pairs1 Sessions1 x6 From To Term2 Pairs2 Sessions2 x7 H13 x8 x9 x10 false Q))
theorem tephralaw09_ImageAny.k4.eq (J : Jn) (fromv : Int) (b : Nat) (x4 : Int) (x5 : Sl) (Index1 : Int) (Term1 : Int) (Pairs1 : Sl) (Sessions1 : Sl) (x6 : Int) (From : Int) (To : Int) (Term2 : Int) (Pairs2 : Sl) (Sessions2 : Sl) (x7 : Int) (H13 : Hp) (x8 : Sl) (x9 : Int) (x10 : Int) (x13 : Bool) (Q : Value → Hp → Prop) : vMid Try.prog tephralaw09_ImageAny.cf J tephralaw09_ImageAny.fn [1, 1, 1, 1, 1, 0, 1, 0, 0, 1, 1, 0, 0, 1, 1, 1, 1, 0, 0] [0, 0, 0, 0, 0, 0, 0, 0, 0, 0, 0, 0, 0, 1, 2, 2, 2] 14 Q (tephralaw09_ImageAny.k4.st fromv b x4 x5 Index1 Term1 Pairs1 Sessions1 x6 From To Term2 Pairs2 Sessions2 x7 H13 x8 x9 x10 x13) = tephralaw09_ImageAny.k4.body J fromv b x4 x5 Index1 Term1 Pairs1 Sessions1 x6 From To Term2 Pairs2 Sessions2 x7 H13 x8 x9 x10 x13 Q := by kernel_rfl
theorem tephralaw09_ImageAny.k4.step {fromv : Int} {b : Nat} {x4 : Int} {x5 : Sl} {Index1 : Int} {Term1 : Int} {Pairs1 : Sl} {Sessions1 : Sl} {x6 : Int} {From : Int} {To : Int} {Term2 : Int} {Pairs2 : Sl} {Sessions2 : Sl} {x7 : Int} {H13 : Hp} {x8 : Sl} {x9 : Int} {x10 : Int} {x13 : Bool} {Q : Value → Hp → Prop} (h : tephralaw09_ImageAny.k4.body J0 fromv b x4 x5 Index1 Term1 Pairs1 Sessions1 x6 From To Term2 Pairs2 Sessions2 x7 H13 x8 x9 x10 x13 Q) : tephralaw09_ImageAny.k4 J0 fromv b x4 x5 Index1 Term1 Pairs1 Sessions1 x6 From To Term2 Pairs2 Sessions2 x7 H13 x8 x9 x10 x13 Q := step_of (vMid Try.prog tephralaw09_ImageAny.cf J0 tephralaw09_ImageAny.fn [1, 1, 1, 1, 1, 0, 1, 0, 0, 1, 1, 0, 0, 1, 1, 1, 1, 0, 0] [0, 0, 0, 0, 0, 0, 0, 0, 0, 0, 0, 0, 0, 1, 2, 2, 2] 14 Q) (tephralaw09_ImageAny.k4.st fromv b x4 x5 Index1 Term1 Pairs1 Sessions1 x6 From To Term2 Pairs2 Sessions2 x7 H13 x8 x9 x10 x13) (tephralaw09_ImageAny.k4.eq J0 fromv b x4 x5 Index1 Term1 Pairs1 Sessions1 x6 From To Term2 Pairs2 Sessions2 x7 H13 x8 x9 x10 x13 Q) (by kernel_rfl) h
noncomputable def tephralaw09_ImageAny.k5.body (J : Jn) (fromv : Int) (b : Nat) (x4 : Int) (x5 : Sl) (Index1 : Int) (Term1 : Int) (Pairs1 : Sl) (Sessions1 : Sl) (x6 : Int) (From : Int) (To : Int) (Term2 : Int) (Pairs2 : Sl) (Sessions2 : Sl) (x7 : Int) (H13 : Hp) (x8 : Sl) (x9 : Int) (x10 : Int) (x14 : Bool) (Q : Value → Hp → Prop) : Prop :=
 
 Br x14 (Q (.bool false) H13)
 (
 SCalls Try.prog image_Full.id [.agg #[.int .i64 Index1, .int .i64 Term1, .slice Pairs1.a Pairs1.len Pairs1.cap, .slice Sessions1.a Sessions1.len Sessions1.cap]] H13 (fun r6 H14 => ∃ x15 : Sl, ∃ x16 : Int, r6 = .tuple #[.slice x15.a x15.len x15.cap, .int .i64 x16] ∧ 
 SCalls Try.prog image_Delta.id [.agg #[.int .i64 From, .int .i64 To, .int .i64 Term2, .slice Pairs2.a Pairs2.len Pairs2.cap, .slice Sessions2.a Sessions2.len Sessions2.cap]] H14 (fun r7 H15 => ∃ x17 : Sl, ∃ x18 : Int, r7 = .tuple #[.slice x17.a x17.len x17.cap, .int .i64 x18] ∧ 
 Br (x6 == 0) (
 SCalls Try.prog state_Right.id [.agg #[.int .i64 Index1, .int .i64 Term1, .slice Pairs1.a Pairs1.len Pairs1.cap, .slice Sessions1.a Sessions1.len Sessions1.cap]] H15 (fun r8 H16 => ∃ x19 : Bool, r8 = .bool x19 ∧ 
 Br (!x19) (
 tephralaw09_ImageAny.k6 J fromv b x4 x5 Index1 Term1 Pairs1 Sessions1 From To Term2 Pairs2 Sessions2 x7 x8 x9 x10 x17 H16 true Q)
 (vB2S H16 x15.a x15.len (fun s => vB2S H16 x5.a x5.len (fun s1 => 
 tephralaw09_ImageAny.k6 J fromv b x4 x5 Index1 Term1 Pairs1 Sessions1 From To Term2 Pairs2 Sessions2 x7 x8 x9 x10 x17 H16 (!(s.toList == s1.toList)) Q)))))
 (
 tephralaw09_ImageAny.k7 J fromv b x4 x5 Index1 Term1 Pairs1 Sessions1 From To Term2 Pairs2 Sessions2 x7 x8 x9 x10 H15 x17 Q))))
theorem tephralaw09_ImageAny.k5.eq (J : Jn) (fromv : Int) (b : Nat) (x4 : Int) (x5 : Sl) (Index1 : Int) (Term1 : Int) (Pairs1 : Sl) (Sessions1 : Sl) (x6 : Int) (From : Int) (To : Int) (Term2 : Int) (Pairs2 : Sl) (Sessions2 : Sl) (x7 : Int) (H13 : Hp) (x8 : Sl) (x9 : Int) (x10 : Int) (x14 : Bool) (Q : Value → Hp → Prop) : vSeg Try.prog tephralaw09_ImageAny.cf J tephralaw09_ImageAny.fn [1, 1, 1, 1, 1, 0, 1, 0, 0, 1, 1, 0, 0, 1, 1, 1, 1, 0, 1] [0, 0, 0, 0, 0, 0, 0, 0, 0, 0, 0, 0, 0, 1, 2, 2, 2] Q (tephralaw09_ImageAny.k5.st fromv b x4 x5 Index1 Term1 Pairs1 Sessions1 x6 From To Term2 Pairs2 Sessions2 x7 H13 x8 x9 x10 x14) = tephralaw09_ImageAny.k5.body J fromv b x4 x5 Index1 Term1 Pairs1 Sessions1 x6 From To Term2 Pairs2 Sessions2 x7 H13 x8 x9 x10 x14 Q := by kernel_rfl
theorem tephralaw09_ImageAny.k5.step {fromv : Int} {b : Nat} {x4 : Int} {x5 : Sl} {Index1 : Int} {Term1 : Int} {Pairs1 : Sl} {Sessions1 : Sl} {x6 : Int} {From : Int} {To : Int} {Term2 : Int} {Pairs2 : Sl} {Sessions2 : Sl} {x7 : Int} {H13 : Hp} {x8 : Sl} {x9 : Int} {x10 : Int} {x14 : Bool} {Q : Value → Hp → Prop} (h : tephralaw09_ImageAny.k5.body J0 fromv b x4 x5 Index1 Term1 Pairs1 Sessions1 x6 From To Term2 Pairs2 Sessions2 x7 H13 x8 x9 x10 x14 Q) : tephralaw09_ImageAny.k5 J0 fromv b x4 x5 Index1 Term1 Pairs1 Sessions1 x6 From To Term2 Pairs2 Sessions2 x7 H13 x8 x9 x10 x14 Q := step_of (vSeg Try.prog tephralaw09_ImageAny.cf J0 tephralaw09_ImageAny.fn [1, 1, 1, 1, 1, 0, 1, 0, 0, 1, 1, 0, 0, 1, 1, 1, 1, 0, 1] [0, 0, 0, 0, 0, 0, 0, 0, 0, 0, 0, 0, 0, 1, 2, 2, 2] Q) (tephralaw09_ImageAny.k5.st fromv b x4 x5 Index1 Term1 Pairs1 Sessions1 x6 From To Term2 Pairs2 Sessions2 x7 H13 x8 x9 x10 x14) (tephralaw09_ImageAny.k5.eq J0 fromv b x4 x5 Index1 Term1 Pairs1 Sessions1 x6 From To Term2 Pairs2 Sessions2 x7 H13 x8 x9 x10 x14 Q) (by kernel_rfl) h
noncomputable def tephralaw09_ImageAny.k6.body (J : Jn) (fromv : Int) (b : Nat) (x4 : Int) (x5 : Sl) (Index1 : Int) (Term1 : Int) (Pairs1 : Sl) (Sessions1 : Sl) (From : Int) (To : Int) (Term2 : Int) (Pairs2 : Sl) (Sessions2 : Sl) (x7 : Int) (x8 : Sl) (x9 : Int) (x10 : Int) (x17 : Sl) (H16 : Hp) (x20 : Bool) (Q : Value → Hp → Prop) : Prop :=
 
 tephralaw09_ImageAny.k8 J fromv b x4 x5 Index1 Term1 Pairs1 Sessions1 From To Term2 Pairs2 Sessions2 x7 x8 x9 x10 x17 x20 H16 Q
theorem tephralaw09_ImageAny.k6.eq (J : Jn) (fromv : Int) (b : Nat) (x4 : Int) (x5 : Sl) (Index1 : Int) (Term1 : Int) (Pairs1 : Sl) (Sessions1 : Sl) (From : Int) (To : Int) (Term2 : Int) (Pairs2 : Sl) (Sessions2 : Sl) (x7 : Int) (x8 : Sl) (x9 : Int) (x10 : Int) (x17 : Sl) (H16 : Hp) (x20 : Bool) (Q : Value → Hp → Prop) : vMid Try.prog tephralaw09_ImageAny.cf J tephralaw09_ImageAny.fn [1, 1, 1, 1, 1, 0, 1, 0, 0, 1, 1, 0, 0, 1, 1, 1, 1, 1, 1, 1, 0, 0] [0, 0, 0, 0, 0, 0, 0, 0, 0, 0, 0, 0, 0, 1, 2, 2, 2, 2, 2, 2] 13 Q (tephralaw09_ImageAny.k6.st fromv b x4 x5 Index1 Term1 Pairs1 Sessions1 From To Term2 Pairs2 Sessions2 x7 x8 x9 x10 x17 H16 x20) = tephralaw09_ImageAny.k6.body J fromv b x4 x5 Index1 Term1 Pairs1 Sessions1 From To Term2 Pairs2 Sessions2 x7 x8 x9 x10 x17 H16 x20 Q := by kernel_rfl
theorem tephralaw09_ImageAny.k6.step {fromv : Int} {b : Nat} {x4 : Int} {x5 : Sl} {Index1 : Int} {Term1 : Int} {Pairs1 : Sl} {Sessions1 : Sl} {From : Int} {To : Int} {Term2 : Int} {Pairs2 : Sl} {Sessions2 : Sl} {x7 : Int} {x8 : Sl} {x9 : Int} {x10 : Int} {x17 : Sl} {H16 : Hp} {x20 : Bool} {Q : Value → Hp → Prop} (h : tephralaw09_ImageAny.k6.body J0 fromv b x4 x5 Index1 Term1 Pairs1 Sessions1 From To Term2 Pairs2 Sessions2 x7 x8 x9 x10 x17 H16 x20 Q) : tephralaw09_ImageAny.k6 J0 fromv b x4 x5 Index1 Term1 Pairs1 Sessions1 From To Term2 Pairs2 Sessions2 x7 x8 x9 x10 x17 H16 x20 Q := step_of (vMid Try.prog tephralaw09_ImageAny.cf J0 tephralaw09_ImageAny.fn [1, 1, 1, 1, 1, 0, 1, 0, 0, 1, 1, 0, 0, 1, 1, 1, 1, 1, 1, 1, 0, 0] [0, 0, 0, 0, 0, 0, 0, 0, 0, 0, 0, 0, 0, 1, 2, 2, 2, 2, 2, 2] 13 Q) (tephralaw09_ImageAny.k6.st fromv b x4 x5 Index1 Term1 Pairs1 Sessions1 From To Term2 Pairs2 Sessions2 x7 x8 x9 x10 x17 H16 x20) (tephralaw09_ImageAny.k6.eq J0 fromv b x4 x5 Index1 Term1 Pairs1 Sessions1 From To Term2 Pairs2 Sessions2 x7 x8 x9 x10 x17 H16 x20 Q) (by kernel_rfl) h
noncomputable def tephralaw09_ImageAny.k7.body (J : Jn) (fromv : Int) (b : Nat) (x4 : Int) (x5 : Sl) (Index1 : Int) (Term1 : Int) (Pairs1 : Sl) (Sessions1 : Sl) (From : Int) (To : Int) (Term2 : Int) (Pairs2 : Sl) (Sessions2 : Sl) (x7 : Int) (x8 : Sl) (x9 : Int) (x10 : Int) (H15 : Hp) (x17 : Sl) (Q : Value → Hp → Prop) : Prop :=
 
 tephralaw09_ImageAny.k8 J fromv b x4 x5 Index1 Term1 Pairs1 Sessions1 From To Term2 Pairs2 Sessions2 x7 x8 x9 x10 x17 false H15 Q
theorem tephralaw09_ImageAny.k7.eq (J : Jn) (fromv : Int) (b : Nat) (x4 : Int) (x5 : Sl) (Index1 : Int) (Term1 : Int) (Pairs1 : Sl) (Sessions1 : Sl) (From : Int) (To : Int) (Term2 : Int) (Pairs2 : Sl) (Sessions2 : Sl) (x7 : Int) (x8 : Sl) (x9 : Int) (x10 : Int) (H15 : Hp) (x17 : Sl) (Q : Value → Hp → Prop) : vMid Try.prog tephralaw09_ImageAny.cf J tephralaw09_ImageAny.fn [1, 1, 1, 1, 1, 0, 1, 0, 0, 1, 1, 0, 0, 1, 1, 1, 1, 1, 1, 1, 0, 0] [0, 0, 0, 0, 0, 0, 0, 0, 0, 0, 0, 0, 0, 1, 2, 2, 2, 2, 2, 2] 13 Q (tephralaw09_ImageAny.k7.st fromv b x4 x5 Index1 Term1 Pairs1 Sessions1 From To Term2 Pairs2 Sessions2 x7 x8 x9 x10 H15 x17) = tephralaw09_ImageAny.k7.body J fromv b x4 x5 Index1 Term1 Pairs1 Sessions1 From To Term2 Pairs2 Sessions2 x7 x8 x9 x10 H15 x17 Q := by kernel_rfl
theorem tephralaw09_ImageAny.k7.step {fromv : Int} {b : Nat} {x4 : Int} {x5 : Sl} {Index1 : Int} {Term1 : Int} {Pairs1 : Sl} {Sessions1 : Sl} {From : Int} {To : Int} {Term2 : Int} {Pairs2 : Sl} {Sessions2 : Sl} {x7 : Int} {x8 : Sl} {x9 : Int} {x10 : Int} {H15 : Hp} {x17 : Sl} {Q : Value → Hp → Prop} (h : tephralaw09_ImageAny.k7.body J0 fromv b x4 x5 Index1 Term1 Pairs1 Sessions1 From To Term2 Pairs2 Sessions2 x7 x8 x9 x10 H15 x17 Q) : tephralaw09_ImageAny.k7 J0 fromv b x4 x5 Index1 Term1 Pairs1 Sessions1 From To Term2 Pairs2 Sessions2 x7 x8 x9 x10 H15 x17 Q := step_of (vMid Try.prog tephralaw09_ImageAny.cf J0 tephralaw09_ImageAny.fn [1, 1, 1, 1, 1, 0, 1, 0, 0, 1, 1, 0, 0, 1, 1, 1, 1, 1, 1, 1, 0, 0] [0, 0, 0, 0, 0, 0, 0, 0, 0, 0, 0, 0, 0, 1, 2, 2, 2, 2, 2, 2] 13 Q) (tephralaw09_ImageAny.k7.st fromv b x4 x5 Index1 Term1 Pairs1 Sessions1 From To Term2 Pairs2 Sessions2 x7 x8 x9 x10 H15 x17) (tephralaw09_ImageAny.k7.eq J0 fromv b x4 x5 Index1 Term1 Pairs1 Sessions1 From To Term2 Pairs2 Sessions2 x7 x8 x9 x10 H15 x17 Q) (by kernel_rfl) h
noncomputable def tephralaw09_ImageAny.k8.body (J : Jn) (fromv : Int) (b : Nat) (x4 : Int) (x5 : Sl) (Index1 : Int) (Term1 : Int) (Pairs1 : Sl) (Sessions1 : Sl) (From : Int) (To : Int) (Term2 : Int) (Pairs2 : Sl) (Sessions2 : Sl) (x7 : Int) (x8 : Sl) (x9 : Int) (x10 : Int) (x17 : Sl) (x21 : Bool) (H17 : Hp) (Q : Value → Hp → Prop) : Prop :=
 
 Br x21 (
 tephralaw09_ImageAny.k9 J fromv b x4 x5 Index1 Term1 Pairs1 Sessions1 From To Term2 Pairs2 Sessions2 x8 x9 x10 true H17 Q)
 (
 Br (x7 == 0) (
 SCalls Try.prog delta_Right.id [.agg #[.int .i64 From, .int .i64 To, .int .i64 Term2, .slice Pairs2.a Pairs2.len Pairs2.cap, .slice Sessions2.a Sessions2.len Sessions2.cap]] H17 (fun r9 H18 => ∃ x22 : Bool, r9 = .bool x22 ∧ 
 Br (!x22) (
 tephralaw09_ImageAny.k9 J fromv b x4 x5 Index1 Term1 Pairs1 Sessions1 From To Term2 Pairs2 Sessions2 x8 x9 x10 true H18 Q)
 (vB2S H18 x17.a x17.len (fun s2 => vB2S H18 x5.a x5.len (fun s3 => 
 tephralaw09_ImageAny.k9 J fromv b x4 x5 Index1 Term1 Pairs1 Sessions1 From To Term2 Pairs2 Sessions2 x8 x9 x10 (!(s2.toList == s3.toList)) H18 Q)))))
 (
 tephralaw09_ImageAny.k9 J fromv b x4 x5 Index1 Term1 Pairs1 Sessions1 From To Term2 Pairs2 Sessions2 x8 x9 x10 false H17 Q))
theorem tephralaw09_ImageAny.k8.eq (J : Jn) (fromv : Int) (b : Nat) (x4 : Int) (x5 : Sl) (Index1 : Int) (Term1 : Int) (Pairs1 : Sl) (Sessions1 : Sl) (From : Int) (To : Int) (Term2 : Int) (Pairs2 : Sl) (Sessions2 : Sl) (x7 : Int) (x8 : Sl) (x9 : Int) (x10 : Int) (x17 : Sl) (x21 : Bool) (H17 : Hp) (Q : Value → Hp → Prop) : vMid Try.prog tephralaw09_ImageAny.cf J tephralaw09_ImageAny.fn [1, 1, 1, 1, 1, 0, 1, 0, 0, 1, 1, 0, 0, 1, 1, 1, 1, 1, 1, 1, 0, 0] [0, 0, 0, 0, 0, 0, 0, 0, 0, 0, 0, 0, 0, 1, 2, 2, 2, 2, 2, 2] 14 Q (tephralaw09_ImageAny.k8.st fromv b x4 x5 Index1 Term1 Pairs1 Sessions1 From To Term2 Pairs2 Sessions2 x7 x8 x9 x10 x17 x21 H17) = tephralaw09_ImageAny.k8.body J fromv b x4 x5 Index1 Term1 Pairs1 Sessions1 From To Term2 Pairs2 Sessions2 x7 x8 x9 x10 x17 x21 H17 Q := by kernel_rfl
theorem tephralaw09_ImageAny.k8.step {fromv : Int} {b : Nat} {x4 : Int} {x5 : Sl} {Index1 : Int} {Term1 : Int} {Pairs1 : Sl} {Sessions1 : Sl} {From : Int} {To : Int} {Term2 : Int} {Pairs2 : Sl} {Sessions2 : Sl} {x7 : Int} {x8 : Sl} {x9 : Int} {x10 : Int} {x17 : Sl} {x21 : Bool} {H17 : Hp} {Q : Value → Hp → Prop} (h : tephralaw09_ImageAny.k8.body J0 fromv b x4 x5 Index1 Term1 Pairs1 Sessions1 From To Term2 Pairs2 Sessions2 x7 x8 x9 x10 x17 x21 H17 Q) : tephralaw09_ImageAny.k8 J0 fromv b x4 x5 Index1 Term1 Pairs1 Sessions1 From To Term2 Pairs2 Sessions2 x7 x8 x9 x10 x17 x21 H17 Q := step_of (vMid Try.prog tephralaw09_ImageAny.cf J0 tephralaw09_ImageAny.fn [1, 1, 1, 1, 1, 0, 1, 0, 0, 1, 1, 0, 0, 1, 1, 1, 1, 1, 1, 1, 0, 0] [0, 0, 0, 0, 0, 0, 0, 0, 0, 0, 0, 0, 0, 1, 2, 2, 2, 2, 2, 2] 14 Q) (tephralaw09_ImageAny.k8.st fromv b x4 x5 Index1 Term1 Pairs1 Sessions1 From To Term2 Pairs2 Sessions2 x7 x8 x9 x10 x17 x21 H17) (tephralaw09_ImageAny.k8.eq J0 fromv b x4 x5 Index1 Term1 Pairs1 Sessions1 From To Term2 Pairs2 Sessions2 x7 x8 x9 x10 x17 x21 H17 Q) (by kernel_rfl) h
noncomputable def tephralaw09_ImageAny.k9.body (J : Jn) (fromv : Int) (b : Nat) (x4 : Int) (x5 : Sl) (Index1 : Int) (Term1 : Int) (Pairs1 : Sl) (Sessions1 : Sl) (From : Int) (To : Int) (Term2 : Int) (Pairs2 : Sl) (Sessions2 : Sl) (x8 : Sl) (x9 : Int) (x10 : Int) (x23 : Bool) (H19 : Hp) (Q : Value → Hp → Prop) : Prop :=
 
 Br x23 (Q (.bool false) H19)
 (
 Br (x10 == 0) (
 SCalls Try.prog cmds_Row.id [.slice x8.a x8.len x8.cap, .int .i64 (w64 ((w64 (fromv)) + 1))] H19 (fun r10 H20 => ∃ x24 : Bool, r10 = .bool x24 ∧ 
 Br (!x24) (
  (
  (
  (Q (.bool false) H20) ∧ 
  (Q (.bool false) H20)) ∧ 
  (Q (.bool false) H20)) ∧ 
  (Q (.bool false) H20))
 (
 Br (decide (x9 > ((x5.len : Nat) : Int))) (
  (
  (
  (Q (.bool false) H20) ∧ 
  (Q (.bool false) H20)) ∧ 
  (Q (.bool false) H20)) ∧ 
  (Q (.bool false) H20))
 (((0 : Int) ≤ x9 ∧ x9 ≤ ((x5.cap : Nat) : Int)) ∧ 
  (
 SCalls Try.prog tephralaw09_part.id [.slice x8.a x8.len x8.cap, .int .i64 (w64 (fromv))] H20 (fun r11 H21 => ∃ x25 : Sl, r11 = .slice x25.a x25.len x25.cap ∧ 
  (vB2S H21 x25.a x25.len (fun s4 => vB2S H21 (cutA x5.a x5.cap 0 1) ((x9 : Int).toNat) (fun s5 => 
 Br (!(s4.toList == s5.toList)) (Q (.bool false) H21)
 (
 tephralaw09_ImageAny.l1 J fromv b H21 (w64 (x4 + 1)) Q)))) ∧ 
  (vB2S H21 (cutA x5.a x5.cap 0 1) ((x9 : Int).toNat) (fun s6 => vB2S H21 x25.a x25.len (fun s7 => 
 Br (!(s7.toList == s6.toList)) (Q (.bool false) H21)
 (
 tephralaw09_ImageAny.l1 J fromv b H21 (w64 (x4 + 1)) Q)))))) ∧ 
  (vB2S H20 (cutA x5.a x5.cap 0 1) ((x9 : Int).toNat) (fun s8 => 
 SCalls Try.prog tephralaw09_part.id [.slice x8.a x8.len x8.cap, .int .i64 (w64 (fromv))] H20 (fun r12 H22 => ∃ x26 : Sl, r12 = .slice x26.a x26.len x26.cap ∧ vB2S H22 x26.a x26.len (fun s9 => 
 Br (!(s9.toList == s8.toList)) (Q (.bool false) H22)
 (
 tephralaw09_ImageAny.l1 J fromv b H22 (w64 (x4 + 1)) Q)))))))))
 (
  (
  (
  (
 tephralaw09_ImageAny.l1 J fromv b H19 (w64 (x4 + 1)) Q) ∧ 
  (
 tephralaw09_ImageAny.l1 J fromv b H19 (w64 (x4 + 1)) Q)) ∧ 
  (
 tephralaw09_ImageAny.l1 J fromv b H19 (w64 (x4 + 1)) Q)) ∧ 
  (
 tephralaw09_ImageAny.l1 J fromv b H19 (w64 (x4 + 1)) Q)))
theorem tephralaw09_ImageAny.k9.eq (J : Jn) (fromv : Int) (b : Nat) (x4 : Int) (x5 : Sl) (Index1 : Int) (Term1 : Int) (Pairs1 : Sl) (Sessions1 : Sl) (From : Int) (To : Int) (Term2 : Int) (Pairs2 : Sl) (Sessions2 : Sl) (x8 : Sl) (x9 : Int) (x10 : Int) (x23 : Bool) (H19 : Hp) (Q : Value → Hp → Prop) : vSeg Try.prog tephralaw09_ImageAny.cf J tephralaw09_ImageAny.fn [1, 1, 1, 1, 1, 0, 1, 0, 0, 1, 1, 0, 0, 1, 1, 1, 1, 1, 1, 1, 0, 1] [0, 0, 0, 0, 0, 0, 0, 0, 0, 0, 0, 0, 0, 1, 2, 2, 2, 2, 2, 2] Q (tephralaw09_ImageAny.k9.st fromv b x4 x5 Index1 Term1 Pairs1 Sessions1 From To Term2 Pairs2 Sessions2 x8 x9 x10 x23 H19) = tephralaw09_ImageAny.k9.body J fromv b x4 x5 Index1 Term1 Pairs1 Sessions1 From To Term2 Pairs2 Sessions2 x8 x9 x10 x23 H19 Q := by kernel_rfl
theorem tephralaw09_ImageAny.k9.step {fromv : Int} {b : Nat} {x4 : Int} {x5 : Sl} {Index1 : Int} {Term1 : Int} {Pairs1 : Sl} {Sessions1 : Sl} {From : Int} {To : Int} {Term2 : Int} {Pairs2 : Sl} {Sessions2 : Sl} {x8 : Sl} {x9 : Int} {x10 : Int} {x23 : Bool} {H19 : Hp} {Q : Value → Hp → Prop} (h : tephralaw09_ImageAny.k9.body J0 fromv b x4 x5 Index1 Term1 Pairs1 Sessions1 From To Term2 Pairs2 Sessions2 x8 x9 x10 x23 H19 Q) : tephralaw09_ImageAny.k9 J0 fromv b x4 x5 Index1 Term1 Pairs1 Sessions1 From To Term2 Pairs2 Sessions2 x8 x9 x10 x23 H19 Q := step_of (vSeg Try.prog tephralaw09_ImageAny.cf J0 tephralaw09_ImageAny.fn [1, 1, 1, 1, 1, 0, 1, 0, 0, 1, 1, 0, 0, 1, 1, 1, 1, 1, 1, 1, 0, 1] [0, 0, 0, 0, 0, 0, 0, 0, 0, 0, 0, 0, 0, 1, 2, 2, 2, 2, 2, 2] Q) (tephralaw09_ImageAny.k9.st fromv b x4 x5 Index1 Term1 Pairs1 Sessions1 From To Term2 Pairs2 Sessions2 x8 x9 x10 x23 H19) (tephralaw09_ImageAny.k9.eq J0 fromv b x4 x5 Index1 Term1 Pairs1 Sessions1 From To Term2 Pairs2 Sessions2 x8 x9 x10 x23 H19 Q) (by kernel_rfl) h
noncomputable def tephralaw09_ImageAny.vc (J : Jn) (raw : Sl) (says : Sl) (atv : Int) (byv : Int) (fromv : Int) (H : Hp) (Q : Value → Hp → Prop) : Prop :=
 
 SCalls Try.prog tephralaw09_awake.id [] H (fun r H1 => ∃ x : Bool, r = .bool x ∧ 
 Br (!x) (Q (.bool false) H1)
 (
 SCalls Try.prog tephralaw07_Some.id [.slice says.a says.len says.cap] H1 (fun r1 H2 => ∃ Index : Int, ∃ Term : Int, ∃ Pairs : Sl, ∃ Sessions : Sl, r1 = .agg #[.int .i64 Index, .int .i64 Term, .slice Pairs.a Pairs.len Pairs.cap, .slice Sessions.a Sessions.len Sessions.cap] ∧ 
 SCalls Try.prog image_Full.id [.agg #[.int .i64 Index, .int .i64 Term, .slice Pairs.a Pairs.len Pairs.cap, .slice Sessions.a Sessions.len Sessions.cap]] H2 (fun r2 H3 => ∃ x1 : Sl, ∃ x2 : Int, r2 = .tuple #[.slice x1.a x1.len x1.cap, .int .i64 x2] ∧ 
 Br (((x1.len : Nat) : Int) == 0) (Q (.bool false) H3)
 ((((x1.len : Nat) : Int) : Int) ≠ 0 ∧ ((0 : Int) ≤ (Int.tmod (w64 (atv)) ((x1.len : Nat) : Int)) ∧ (Int.tmod (w64 (atv)) ((x1.len : Nat) : Int)) < ((x1.len : Nat) : Int)) ∧ vPtr x1.a (fun a => ∃ x3 : Int, Hp.cell? H3 (a.add (((Int.tmod (w64 (atv)) ((x1.len : Nat) : Int)) : Int).toNat * 1)) = some (.int .u8 x3) ∧ ((0 : Int) ≤ (Int.tmod (w64 (atv)) ((x1.len : Nat) : Int)) ∧ (Int.tmod (w64 (atv)) ((x1.len : Nat) : Int)) < ((x1.len : Nat) : Int)) ∧ vPtr x1.a (fun a1 => WrAt H3 (a1.add (((Int.tmod (w64 (atv)) ((x1.len : Nat) : Int)) : Int).toNat * 1)) 1 ∧ ∀ H4 : Hp, H4 = (Hp.setCell H3 (a1.add (((Int.tmod (w64 (atv)) ((x1.len : Nat) : Int)) : Int).toNat * 1)) (.int .u8 (bxor .u8 x3 byv))) → 
 vApp Try.prog T_sl_uint8 none 0 0 (.slice raw.a raw.len raw.cap) H4 (fun ap H5 => 
 vApp Try.prog T_sl_uint8 ap.a ap.len ap.cap (.slice x1.a x1.len x1.cap) H5 (fun ap1 H6 => ∀ b : Nat, b = Array.size H6 → ∀ H7 : Hp, H7 = (Array.push H6 (.cells #[.slice raw.a raw.len raw.cap, .slice x1.a x1.len x1.cap, .slice ap1.a ap1.len ap1.cap] T_sl_uint8)) → 
 tephralaw09_ImageAny.l1 J fromv b H7 0 Q)))))))))
theorem tephralaw09_ImageAny.eq (J : Jn) (raw : Sl) (says : Sl) (atv : Int) (byv : Int) (fromv : Int) (H : Hp) (Q : Value → Hp → Prop) : vFn Try.prog tephralaw09_ImageAny.cf J tephralaw09_ImageAny.fn [.slice raw.a raw.len raw.cap, .slice says.a says.len says.cap, .int .u16 atv, .int .u8 byv, .int .u8 fromv] H Q = tephralaw09_ImageAny.vc J raw says atv byv fromv H Q := by kernel_rfl
theorem tephralaw09_ImageAny.calls {raw : Sl} {says : Sl} {atv : Int} {byv : Int} {fromv : Int} {H : Hp} {Q : Value → Hp → Prop} (h : tephralaw09_ImageAny.vc J0 raw says atv byv fromv H Q) : SCalls Try.prog tephralaw09_ImageAny.id [.slice raw.a raw.len raw.cap, .slice says.a says.len says.cap, .int .u16 atv, .int .u8 byv, .int .u8 fromv] H Q := vFn_of Try.mixed Try.func6 (tephralaw09_ImageAny.eq J0 raw says atv byv fromv H Q) h

end Go.Proofs
