/- THE SEAT'S CODE, AS WALKED, text 3 of 3: for each function what is to be shown of it (printed by the own program gen.py), held by the kernel. -/
import Derived.Test.YtpdondaekinmdaaT09b
set_option maxRecDepth 100000
set_option linter.all false
set_option linter.constructorNameAsVariable false
namespace Go.Proofs
open Go Go.KC
/-! 87: slices.rotateRight_tephra/sorted.item_string, string__ -/
noncomputable def slices_rotateRight_sorted_item_string_string.cf : Cfg := ⟨[], [], [], [], true, []⟩
noncomputable def slices_rotateRight_sorted_item_string_string.vc (J : Jn) (s : Sl) (r : Int) (H : Hp) (Q : Value → Hp → Prop) : Prop :=
 
 SCalls Try.prog slices_rotateLeft_sorted_item_string_string.id [.slice s.a s.len s.cap, .int .i64 (w64 (((s.len : Nat) : Int) - r))] H (fun r1 H1 => r1 = .tuple #[] ∧ Q (.tuple #[]) H1)
theorem slices_rotateRight_sorted_item_string_string.eq (J : Jn) (s : Sl) (r : Int) (H : Hp) (Q : Value → Hp → Prop) : vFn Try.prog slices_rotateRight_sorted_item_string_string.cf J slices_rotateRight_sorted_item_string_string.fn [.slice s.a s.len s.cap, .int .i64 r] H Q = slices_rotateRight_sorted_item_string_string.vc J s r H Q := by kernel_rfl
theorem slices_rotateRight_sorted_item_string_string.calls {s : Sl} {r : Int} {H : Hp} {Q : Value → Hp → Prop} (h : slices_rotateRight_sorted_item_string_string.vc J0 s r H Q) : SCalls Try.prog slices_rotateRight_sorted_item_string_string.id [.slice s.a s.len s.cap, .int .i64 r] H Q := vFn_of Try.mixed Try.func87 (slices_rotateRight_sorted_item_string_string.eq J0 s r H Q) h

/-! 90: (*tephra/sorted.Map_int, tephra/api.Session_).find -/
noncomputable def sorted_Map_int_api_Session_find.cf : Cfg := ⟨[], [], [], [], true, []⟩
noncomputable def sorted_Map_int_api_Session_find.vc (J : Jn) (m : Addr) (k : Int) (H : Hp) (Q : Value → Hp → Prop) : Prop :=
 ∃ items : Sl, Hp.cell? H m = some (.slice items.a items.len items.cap) ∧ 
 SCalls Try.prog slices_BinarySearchFunc_sl_sorted_item_int_api_Session_sorted_item_int_api_Session_int.id [.slice items.a items.len items.cap, .int .i64 k, .func (.func 98) #[] #[]] H (fun r H1 => ∃ x : Int, ∃ x1 : Bool, r = .tuple #[.int .i64 x, .bool x1] ∧ Q (.tuple #[.int .i64 x, .bool x1]) H1)
theorem sorted_Map_int_api_Session_find.eq (J : Jn) (m : Addr) (k : Int) (H : Hp) (Q : Value → Hp → Prop) : vFn Try.prog sorted_Map_int_api_Session_find.cf J sorted_Map_int_api_Session_find.fn [.pointer (some m), .int .i64 k] H Q = sorted_Map_int_api_Session_find.vc J m k H Q := by kernel_rfl
theorem sorted_Map_int_api_Session_find.calls {m : Addr} {k : Int} {H : Hp} {Q : Value → Hp → Prop} (h : sorted_Map_int_api_Session_find.vc J0 m k H Q) : SCalls Try.prog sorted_Map_int_api_Session_find.id [.pointer (some m), .int .i64 k] H Q := vFn_of Try.mixed Try.func90 (sorted_Map_int_api_Session_find.eq J0 m k H Q) h

/-! 91: (*tephra/sorted.Map_string, string_).Len -/
noncomputable def sorted_Map_string_string_Len.cf : Cfg := ⟨[], [], [], [], true, []⟩
noncomputable def sorted_Map_string_string_Len.vc (J : Jn) (m : Addr) (H : Hp) (Q : Value → Hp → Prop) : Prop :=
 ∃ items : Sl, Hp.cell? H m = some (.slice items.a items.len items.cap) ∧ Q (.int .i64 ((items.len : Nat) : Int)) H
theorem sorted_Map_string_string_Len.eq (J : Jn) (m : Addr) (H : Hp) (Q : Value → Hp → Prop) : vFn Try.prog sorted_Map_string_string_Len.cf J sorted_Map_string_string_Len.fn [.pointer (some m)] H Q = sorted_Map_string_string_Len.vc J m H Q := by kernel_rfl
theorem sorted_Map_string_string_Len.calls {m : Addr} {H : Hp} {Q : Value → Hp → Prop} (h : sorted_Map_string_string_Len.vc J0 m H Q) : SCalls Try.prog sorted_Map_string_string_Len.id [.pointer (some m)] H Q := vFn_of Try.mixed Try.func91 (sorted_Map_string_string_Len.eq J0 m H Q) h

/-! 92: (*tephra/sorted.Map_string, string_).Del -/
noncomputable def sorted_Map_string_string_Del.cf : Cfg := ⟨[], [], [], [], true, []⟩
noncomputable def sorted_Map_string_string_Del.vc (J : Jn) (m : Addr) (k : ByteArray) (H : Hp) (Q : Value → Hp → Prop) : Prop :=
 
 SCalls Try.prog sorted_Map_string_string_find.id [.pointer (some m), .string k] H (fun r H1 => ∃ x : Int, ∃ x1 : Bool, r = .tuple #[.int .i64 x, .bool x1] ∧ 
 Br x1 (∃ items : Sl, Hp.cell? H1 m = some (.slice items.a items.len items.cap) ∧ 
 SCalls Try.prog slices_Delete_sl_sorted_item_string_string_sorted_item_string_string.id [.slice items.a items.len items.cap, .int .i64 x, .int .i64 (w64 (x + 1))] H1 (fun r1 H2 => ∃ x2 : Sl, r1 = .slice x2.a x2.len x2.cap ∧ WrAt H2 m 1 ∧ Q (.bool x1) (Hp.setCell H2 m (.slice x2.a x2.len x2.cap))))
 (Q (.bool x1) H1))
theorem sorted_Map_string_string_Del.eq (J : Jn) (m : Addr) (k : ByteArray) (H : Hp) (Q : Value → Hp → Prop) : vFn Try.prog sorted_Map_string_string_Del.cf J sorted_Map_string_string_Del.fn [.pointer (some m), .string k] H Q = sorted_Map_string_string_Del.vc J m k H Q := by kernel_rfl
theorem sorted_Map_string_string_Del.calls {m : Addr} {k : ByteArray} {H : Hp} {Q : Value → Hp → Prop} (h : sorted_Map_string_string_Del.vc J0 m k H Q) : SCalls Try.prog sorted_Map_string_string_Del.id [.pointer (some m), .string k] H Q := vFn_of Try.mixed Try.func92 (sorted_Map_string_string_Del.eq J0 m k H Q) h

/-! 93: slices.Insert___tephra/sorted.item_int, tephra/api.Session_,tephra/sorted.item_int, tephra/api.Session__ -/
noncomputable def slices_Insert_sl_sorted_item_int_api_Session_sorted_item_int_api_Session.cf : Cfg := ⟨[], [], [], [], true, []⟩
noncomputable def slices_Insert_sl_sorted_item_int_api_Session_sorted_item_int_api_Session.vc (J : Jn) (s : Sl) (i : Int) (v : Sl) (H : Hp) (Q : Value → Hp → Prop) : Prop :=
 ((0 : Int) ≤ i ∧ i ≤ ((s.len : Nat) : Int)) ∧ 
 Br (((v.len : Nat) : Int) == 0) (Q (.slice s.a s.len s.cap) H)
 (
 Br (i == ((s.len : Nat) : Int)) (
 vApp Try.prog T_sl_sorted_item_int_api_Session s.a s.len s.cap (.slice v.a v.len v.cap) H (fun ap H1 => Q (.slice ap.a ap.len ap.cap) H1))
 (
 Br (decide ((w64 (((s.len : Nat) : Int) + ((v.len : Nat) : Int))) > ((s.cap : Nat) : Int))) (((0 : Int) ≤ i ∧ i ≤ ((s.cap : Nat) : Int)) ∧ 
 vAppZ Try.prog T_sl_sorted_item_int_api_Session (cutA s.a s.cap 0 5) ((i : Int).toNat) s.cap (w64 ((w64 (((s.len : Nat) : Int) + ((v.len : Nat) : Int))) - i)) H (fun ap1 H2 => ((0 : Int) ≤ i ∧ i ≤ ((ap1.len : Nat) : Int)) ∧ 
 vCopy Try.prog T_sl_sorted_item_int_api_Session (cutA ap1.a ap1.cap ((i : Int).toNat) 5) (ap1.len - ((i : Int).toNat)) (.slice v.a v.len v.cap) H2 (fun n H3 => ((0 : Int) ≤ (w64 (i + ((v.len : Nat) : Int))) ∧ (w64 (i + ((v.len : Nat) : Int))) ≤ ((ap1.len : Nat) : Int)) ∧ ((0 : Int) ≤ i ∧ i ≤ ((s.len : Nat) : Int)) ∧ 
 vCopy Try.prog T_sl_sorted_item_int_api_Session (cutA ap1.a ap1.cap (((w64 (i + ((v.len : Nat) : Int))) : Int).toNat) 5) (ap1.len - (((w64 (i + ((v.len : Nat) : Int))) : Int).toNat)) (.slice (cutA s.a s.cap ((i : Int).toNat) 5) (s.len - ((i : Int).toNat)) (s.cap - ((i : Int).toNat))) H3 (fun n1 H4 => Q (.slice ap1.a ap1.len ap1.cap) H4))))
 (((0 : Int) ≤ (w64 (((s.len : Nat) : Int) + ((v.len : Nat) : Int))) ∧ (w64 (((s.len : Nat) : Int) + ((v.len : Nat) : Int))) ≤ ((s.cap : Nat) : Int)) ∧ ((0 : Int) ≤ (w64 (i + ((v.len : Nat) : Int))) ∧ (w64 (i + ((v.len : Nat) : Int))) ≤ (((((w64 (((s.len : Nat) : Int) + ((v.len : Nat) : Int))) : Int).toNat) : Nat) : Int)) ∧ 
 ExtC Try.prog 101 [.slice v.a v.len v.cap, .slice (cutA (cutA s.a s.cap 0 5) s.cap (((w64 (i + ((v.len : Nat) : Int))) : Int).toNat) 5) ((((w64 (((s.len : Nat) : Int) + ((v.len : Nat) : Int))) : Int).toNat) - (((w64 (i + ((v.len : Nat) : Int))) : Int).toNat)) (s.cap - (((w64 (i + ((v.len : Nat) : Int))) : Int).toNat))] H (fun r H5 => ∃ x : Bool, r = .bool x ∧ 
 Br (!x) (((0 : Int) ≤ (w64 (i + ((v.len : Nat) : Int))) ∧ (w64 (i + ((v.len : Nat) : Int))) ≤ (((((w64 (((s.len : Nat) : Int) + ((v.len : Nat) : Int))) : Int).toNat) : Nat) : Int)) ∧ ((0 : Int) ≤ i ∧ i ≤ (((((w64 (((s.len : Nat) : Int) + ((v.len : Nat) : Int))) : Int).toNat) : Nat) : Int)) ∧ 
 vCopy Try.prog T_sl_sorted_item_int_api_Session (cutA (cutA s.a s.cap 0 5) s.cap (((w64 (i + ((v.len : Nat) : Int))) : Int).toNat) 5) ((((w64 (((s.len : Nat) : Int) + ((v.len : Nat) : Int))) : Int).toNat) - (((w64 (i + ((v.len : Nat) : Int))) : Int).toNat)) (.slice (cutA (cutA s.a s.cap 0 5) s.cap ((i : Int).toNat) 5) ((((w64 (((s.len : Nat) : Int) + ((v.len : Nat) : Int))) : Int).toNat) - ((i : Int).toNat)) (s.cap - ((i : Int).toNat))) H5 (fun n2 H6 => ((0 : Int) ≤ i ∧ i ≤ (((((w64 (((s.len : Nat) : Int) + ((v.len : Nat) : Int))) : Int).toNat) : Nat) : Int)) ∧ 
 vCopy Try.prog T_sl_sorted_item_int_api_Session (cutA (cutA s.a s.cap 0 5) s.cap ((i : Int).toNat) 5) ((((w64 (((s.len : Nat) : Int) + ((v.len : Nat) : Int))) : Int).toNat) - ((i : Int).toNat)) (.slice v.a v.len v.cap) H6 (fun n3 H7 => Q (.slice (cutA s.a s.cap 0 5) (((w64 (((s.len : Nat) : Int) + ((v.len : Nat) : Int))) : Int).toNat) s.cap) H7)))
 (((0 : Int) ≤ ((s.len : Nat) : Int) ∧ ((s.len : Nat) : Int) ≤ (((((w64 (((s.len : Nat) : Int) + ((v.len : Nat) : Int))) : Int).toNat) : Nat) : Int)) ∧ 
 vCopy Try.prog T_sl_sorted_item_int_api_Session (cutA (cutA s.a s.cap 0 5) s.cap ((((s.len : Nat) : Int) : Int).toNat) 5) ((((w64 (((s.len : Nat) : Int) + ((v.len : Nat) : Int))) : Int).toNat) - ((((s.len : Nat) : Int) : Int).toNat)) (.slice v.a v.len v.cap) H5 (fun n4 H8 => ((0 : Int) ≤ i ∧ i ≤ (((((w64 (((s.len : Nat) : Int) + ((v.len : Nat) : Int))) : Int).toNat) : Nat) : Int)) ∧ 
 SCalls Try.prog slices_rotateRight_sorted_item_int_api_Session.id [.slice (cutA (cutA s.a s.cap 0 5) s.cap ((i : Int).toNat) 5) ((((w64 (((s.len : Nat) : Int) + ((v.len : Nat) : Int))) : Int).toNat) - ((i : Int).toNat)) (s.cap - ((i : Int).toNat)), .int .i64 ((v.len : Nat) : Int)] H8 (fun r1 H9 => r1 = .tuple #[] ∧ Q (.slice (cutA s.a s.cap 0 5) (((w64 (((s.len : Nat) : Int) + ((v.len : Nat) : Int))) : Int).toNat) s.cap) H9)))))))
theorem slices_Insert_sl_sorted_item_int_api_Session_sorted_item_int_api_Session.eq (J : Jn) (s : Sl) (i : Int) (v : Sl) (H : Hp) (Q : Value → Hp → Prop) : vFn Try.prog slices_Insert_sl_sorted_item_int_api_Session_sorted_item_int_api_Session.cf J slices_Insert_sl_sorted_item_int_api_Session_sorted_item_int_api_Session.fn [.slice s.a s.len s.cap, .int .i64 i, .slice v.a v.len v.cap] H Q = slices_Insert_sl_sorted_item_int_api_Session_sorted_item_int_api_Session.vc J s i v H Q := by kernel_rfl
theorem slices_Insert_sl_sorted_item_int_api_Session_sorted_item_int_api_Session.calls {s : Sl} {i : Int} {v : Sl} {H : Hp} {Q : Value → Hp → Prop} (h : slices_Insert_sl_sorted_item_int_api_Session_sorted_item_int_api_Session.vc J0 s i v H Q) : SCalls Try.prog slices_Insert_sl_sorted_item_int_api_Session_sorted_item_int_api_Session.id [.slice s.a s.len s.cap, .int .i64 i, .slice v.a v.len v.cap] H Q := vFn_of Try.mixed Try.func93 (slices_Insert_sl_sorted_item_int_api_Session_sorted_item_int_api_Session.eq J0 s i v H Q) h

/-! 94: (*tephra/sorted.Map_int, tephra/api.Session_).All$1 -/
noncomputable def sorted_Map_int_api_Session_All_1.cf : Cfg := ⟨[4], [(1, [0, 8, 9, 10])], [], [], true, []⟩
noncomputable def sorted_Map_int_api_Session_All_1.l1.st (yield : Fv) (items : Sl) (H1 : Hp) (x1 : Int) : VS := ⟨mkFr 22 [(0, .v (.func yield.fn yield.fi yield.ca)), (8, .v (.slice items.a items.len items.cap)), (9, .v (.int .i64 ((items.len : Nat) : Int))), (10, .v (.int .i64 x1))], [], H1⟩
noncomputable def sorted_Map_int_api_Session_All_1.l1 (J : Jn) (yield : Fv) (items : Sl) (H1 : Hp) (x1 : Int) (Q : Value → Hp → Prop) : Prop := vAt Try.prog sorted_Map_int_api_Session_All_1.cf J sorted_Map_int_api_Session_All_1.fn [1, 0] [0] Q (sorted_Map_int_api_Session_All_1.l1.st yield items H1 x1)
attribute [irreducible] sorted_Map_int_api_Session_All_1.l1
noncomputable def sorted_Map_int_api_Session_All_1.l1.body (J : Jn) (yield : Fv) (items : Sl) (H1 : Hp) (x1 : Int) (Q : Value → Hp → Prop) : Prop :=
 
 Br (decide (x1 < ((items.len : Nat) : Int))) (((0 : Int) ≤ x1 ∧ x1 < ((items.len : Nat) : Int)) ∧ vPtr items.a (fun a1 => ∃ key : Int, ∃ valueClient : Int, ∃ valueSeq : Int, ∃ valueReplyErr : Int, ∃ valueReplyValue : ByteArray, RowAt H1 (a1.add ((x1 : Int).toNat * 5)) [.int .i64 key, .int .i64 valueClient, .int .i64 valueSeq, .int .i64 valueReplyErr, .string valueReplyValue] ∧ 
 vInv Try.prog (.func yield.fn yield.fi yield.ca) [.int .i64 key, .agg #[.int .i64 valueClient, .int .i64 valueSeq, .int .i64 valueReplyErr, .string valueReplyValue]] (holes H1 1) (fun r H2 => ∃ x2 : Bool, r = .bool x2 ∧ 
 Br (!x2) (Q (.tuple #[]) H2)
 (
 sorted_Map_int_api_Session_All_1.l1 J yield items H2 (w64 (x1 + 1)) Q))))
 (Q (.tuple #[]) H1)
theorem sorted_Map_int_api_Session_All_1.l1.eq (J : Jn) (yield : Fv) (items : Sl) (H1 : Hp) (x1 : Int) (Q : Value → Hp → Prop) : vAtBody Try.prog sorted_Map_int_api_Session_All_1.cf J sorted_Map_int_api_Session_All_1.fn [1, 0] [0] Q (sorted_Map_int_api_Session_All_1.l1.st yield items H1 x1) = sorted_Map_int_api_Session_All_1.l1.body J yield items H1 x1 Q := by kernel_rfl
theorem sorted_Map_int_api_Session_All_1.l1.step {yield : Fv} {items : Sl} {H1 : Hp} {x1 : Int} {Q : Value → Hp → Prop} (h : sorted_Map_int_api_Session_All_1.l1.body J0 yield items H1 x1 Q) : sorted_Map_int_api_Session_All_1.l1 J0 yield items H1 x1 Q := vAt_stepC (sorted_Map_int_api_Session_All_1.l1.st yield items H1 x1) (sorted_Map_int_api_Session_All_1.l1.eq J0 yield items H1 x1 Q) (by kernel_rfl) h
noncomputable def sorted_Map_int_api_Session_All_1.vc (J : Jn) (yield : Fv) (cap0 : Addr) (H : Hp) (Q : Value → Hp → Prop) : Prop :=
 ∃ x : Option Addr, Hp.cell? H cap0 = some (.pointer x) ∧ vPtr x (fun a => ∃ items : Sl, Hp.cell? H a = some (.slice items.a items.len items.cap) ∧ 
 sorted_Map_int_api_Session_All_1.l1 J yield items H 0 Q)
theorem sorted_Map_int_api_Session_All_1.eq (J : Jn) (yield : Fv) (cap0 : Addr) (H : Hp) (Q : Value → Hp → Prop) : vFn Try.prog sorted_Map_int_api_Session_All_1.cf J sorted_Map_int_api_Session_All_1.fn [.func yield.fn yield.fi yield.ca, .pointer (some cap0)] H Q = sorted_Map_int_api_Session_All_1.vc J yield cap0 H Q := by kernel_rfl
theorem sorted_Map_int_api_Session_All_1.calls {yield : Fv} {cap0 : Addr} {H : Hp} {Q : Value → Hp → Prop} (h : sorted_Map_int_api_Session_All_1.vc J0 yield cap0 H Q) : SCalls Try.prog sorted_Map_int_api_Session_All_1.id [.func yield.fn yield.fi yield.ca, .pointer (some cap0)] H Q := vFn_of Try.mixed Try.func94 (sorted_Map_int_api_Session_All_1.eq J0 yield cap0 H Q) h

/-! 95: cmp.isNaN_string_ -/
noncomputable def cmp_isNaN_string.cf : Cfg := ⟨[], [], [], [], true, []⟩
noncomputable def cmp_isNaN_string.vc (J : Jn) (x : ByteArray) (H : Hp) (Q : Value → Hp → Prop) : Prop :=
 Q (.bool (!(x.toList == x.toList))) H
theorem cmp_isNaN_string.eq (J : Jn) (x : ByteArray) (H : Hp) (Q : Value → Hp → Prop) : vFn Try.prog cmp_isNaN_string.cf J cmp_isNaN_string.fn [.string x] H Q = cmp_isNaN_string.vc J x H Q := by kernel_rfl
theorem cmp_isNaN_string.calls {x : ByteArray} {H : Hp} {Q : Value → Hp → Prop} (h : cmp_isNaN_string.vc J0 x H Q) : SCalls Try.prog cmp_isNaN_string.id [.string x] H Q := vFn_of Try.mixed Try.func95 (cmp_isNaN_string.eq J0 x H Q) h

/-! 96: slices.rotateLeft_tephra/sorted.item_string, string__ -/
noncomputable def slices_rotateLeft_sorted_item_string_string.cf : Cfg := ⟨[], [], [], [], true, []⟩
noncomputable def slices_rotateLeft_sorted_item_string_string.vc (J : Jn) (s : Sl) (r : Int) (H : Hp) (Q : Value → Hp → Prop) : Prop :=
 ((0 : Int) ≤ r ∧ r ≤ ((s.cap : Nat) : Int)) ∧ 
 SCalls Try.prog slices_Reverse_sl_sorted_item_string_string_sorted_item_string_string.id [.slice (cutA s.a s.cap 0 2) ((r : Int).toNat) s.cap] H (fun r1 H1 => r1 = .tuple #[] ∧ ((0 : Int) ≤ r ∧ r ≤ ((s.len : Nat) : Int)) ∧ 
 SCalls Try.prog slices_Reverse_sl_sorted_item_string_string_sorted_item_string_string.id [.slice (cutA s.a s.cap ((r : Int).toNat) 2) (s.len - ((r : Int).toNat)) (s.cap - ((r : Int).toNat))] H1 (fun r2 H2 => r2 = .tuple #[] ∧ 
 SCalls Try.prog slices_Reverse_sl_sorted_item_string_string_sorted_item_string_string.id [.slice s.a s.len s.cap] H2 (fun r3 H3 => r3 = .tuple #[] ∧ Q (.tuple #[]) H3)))
theorem slices_rotateLeft_sorted_item_string_string.eq (J : Jn) (s : Sl) (r : Int) (H : Hp) (Q : Value → Hp → Prop) : vFn Try.prog slices_rotateLeft_sorted_item_string_string.cf J slices_rotateLeft_sorted_item_string_string.fn [.slice s.a s.len s.cap, .int .i64 r] H Q = slices_rotateLeft_sorted_item_string_string.vc J s r H Q := by kernel_rfl
theorem slices_rotateLeft_sorted_item_string_string.calls {s : Sl} {r : Int} {H : Hp} {Q : Value → Hp → Prop} (h : slices_rotateLeft_sorted_item_string_string.vc J0 s r H Q) : SCalls Try.prog slices_rotateLeft_sorted_item_string_string.id [.slice s.a s.len s.cap, .int .i64 r] H Q := vFn_of Try.mixed Try.func96 (slices_rotateLeft_sorted_item_string_string.eq J0 s r H Q) h

/-! 97: slices.BinarySearchFunc___tephra/sorted.item_int, tephra/api.Session_,tephra/sorted.item_int, tephra/api.Session_,int_ -/
noncomputable def slices_BinarySearchFunc_sl_sorted_item_int_api_Session_sorted_item_int_api_Session_int.cf : Cfg := ⟨[], [(3, [0, 1, 2, 8, 9, 10])], [], [], true, []⟩
noncomputable def slices_BinarySearchFunc_sl_sorted_item_int_api_Session_sorted_item_int_api_Session_int.l1.st (x : Sl) (target : Int) (cmp : Fv) (H1 : Hp) (i : Int) (j : Int) : VS := ⟨mkFr 49 [(0, .v (.slice x.a x.len x.cap)), (1, .v (.int .i64 target)), (2, .v (.func cmp.fn cmp.fi cmp.ca)), (8, .v (.int .i64 ((x.len : Nat) : Int))), (9, .v (.int .i64 i)), (10, .v (.int .i64 j))], [], H1⟩
noncomputable def slices_BinarySearchFunc_sl_sorted_item_int_api_Session_sorted_item_int_api_Session_int.l1 (J : Jn) (x : Sl) (target : Int) (cmp : Fv) (H1 : Hp) (i : Int) (j : Int) (Q : Value → Hp → Prop) : Prop := vAt Try.prog slices_BinarySearchFunc_sl_sorted_item_int_api_Session_sorted_item_int_api_Session_int.cf J slices_BinarySearchFunc_sl_sorted_item_int_api_Session_sorted_item_int_api_Session_int.fn [1, 1, 1, 0, 0] [0, 0, 0, 0] Q (slices_BinarySearchFunc_sl_sorted_item_int_api_Session_sorted_item_int_api_Session_int.l1.st x target cmp H1 i j)
attribute [irreducible] slices_BinarySearchFunc_sl_sorted_item_int_api_Session_sorted_item_int_api_Session_int.l1
noncomputable def slices_BinarySearchFunc_sl_sorted_item_int_api_Session_sorted_item_int_api_Session_int.l1.body (J : Jn) (x : Sl) (target : Int) (cmp : Fv) (H1 : Hp) (i : Int) (j : Int) (Q : Value → Hp → Prop) : Prop :=
 
 Br (decide (i < j)) ((0 : Int) ≤ 1 ∧ ((0 : Int) ≤ (w64 ((Int.fdiv (IntKind.u64.wrap ((w64 (i + j)))) (2 ^ 1)))) ∧ (w64 ((Int.fdiv (IntKind.u64.wrap ((w64 (i + j)))) (2 ^ 1)))) < ((x.len : Nat) : Int)) ∧ vPtr x.a (fun a => ∃ key : Int, ∃ valueClient : Int, ∃ valueSeq : Int, ∃ valueReplyErr : Int, ∃ valueReplyValue : ByteArray, RowAt H1 (a.add (((w64 ((Int.fdiv (IntKind.u64.wrap ((w64 (i + j)))) (2 ^ 1)))) : Int).toNat * 5)) [.int .i64 key, .int .i64 valueClient, .int .i64 valueSeq, .int .i64 valueReplyErr, .string valueReplyValue] ∧ 
 vInv Try.prog (.func cmp.fn cmp.fi cmp.ca) [.agg #[.int .i64 key, .int .i64 valueClient, .int .i64 valueSeq, .int .i64 valueReplyErr, .string valueReplyValue], .int .i64 target] H1 (fun r H2 => ∃ x1 : Int, r = .int .i64 x1 ∧ 
 Br (decide (x1 < 0)) (
 slices_BinarySearchFunc_sl_sorted_item_int_api_Session_sorted_item_int_api_Session_int.l1 J x target cmp H2 (w64 ((w64 ((Int.fdiv (IntKind.u64.wrap ((w64 (i + j)))) (2 ^ 1)))) + 1)) j Q)
 (
 slices_BinarySearchFunc_sl_sorted_item_int_api_Session_sorted_item_int_api_Session_int.l1 J x target cmp H2 i (w64 ((Int.fdiv (IntKind.u64.wrap ((w64 (i + j)))) (2 ^ 1)))) Q))))
 (
 Br (decide (i < ((x.len : Nat) : Int))) (((0 : Int) ≤ i ∧ i < ((x.len : Nat) : Int)) ∧ vPtr x.a (fun a1 => ∃ key1 : Int, ∃ valueClient1 : Int, ∃ valueSeq1 : Int, ∃ valueReplyErr1 : Int, ∃ valueReplyValue1 : ByteArray, RowAt H1 (a1.add ((i : Int).toNat * 5)) [.int .i64 key1, .int .i64 valueClient1, .int .i64 valueSeq1, .int .i64 valueReplyErr1, .string valueReplyValue1] ∧ 
 vInv Try.prog (.func cmp.fn cmp.fi cmp.ca) [.agg #[.int .i64 key1, .int .i64 valueClient1, .int .i64 valueSeq1, .int .i64 valueReplyErr1, .string valueReplyValue1], .int .i64 target] H1 (fun r1 H3 => ∃ x2 : Int, r1 = .int .i64 x2 ∧ Q (.tuple #[.int .i64 i, .bool (x2 == 0)]) H3)))
 (Q (.tuple #[.int .i64 i, .bool false]) H1))
theorem slices_BinarySearchFunc_sl_sorted_item_int_api_Session_sorted_item_int_api_Session_int.l1.eq (J : Jn) (x : Sl) (target : Int) (cmp : Fv) (H1 : Hp) (i : Int) (j : Int) (Q : Value → Hp → Prop) : vAtBody Try.prog slices_BinarySearchFunc_sl_sorted_item_int_api_Session_sorted_item_int_api_Session_int.cf J slices_BinarySearchFunc_sl_sorted_item_int_api_Session_sorted_item_int_api_Session_int.fn [1, 1, 1, 0, 0] [0, 0, 0, 0] Q (slices_BinarySearchFunc_sl_sorted_item_int_api_Session_sorted_item_int_api_Session_int.l1.st x target cmp H1 i j) = slices_BinarySearchFunc_sl_sorted_item_int_api_Session_sorted_item_int_api_Session_int.l1.body J x target cmp H1 i j Q := by kernel_rfl
theorem slices_BinarySearchFunc_sl_sorted_item_int_api_Session_sorted_item_int_api_Session_int.l1.step {x : Sl} {target : Int} {cmp : Fv} {H1 : Hp} {i : Int} {j : Int} {Q : Value → Hp → Prop} (h : slices_BinarySearchFunc_sl_sorted_item_int_api_Session_sorted_item_int_api_Session_int.l1.body J0 x target cmp H1 i j Q) : slices_BinarySearchFunc_sl_sorted_item_int_api_Session_sorted_item_int_api_Session_int.l1 J0 x target cmp H1 i j Q := vAt_stepC (slices_BinarySearchFunc_sl_sorted_item_int_api_Session_sorted_item_int_api_Session_int.l1.st x target cmp H1 i j) (slices_BinarySearchFunc_sl_sorted_item_int_api_Session_sorted_item_int_api_Session_int.l1.eq J0 x target cmp H1 i j Q) (by kernel_rfl) h
noncomputable def slices_BinarySearchFunc_sl_sorted_item_int_api_Session_sorted_item_int_api_Session_int.vc (J : Jn) (x : Sl) (target : Int) (cmp : Fv) (H : Hp) (Q : Value → Hp → Prop) : Prop :=
 
 slices_BinarySearchFunc_sl_sorted_item_int_api_Session_sorted_item_int_api_Session_int.l1 J x target cmp H 0 ((x.len : Nat) : Int) Q
theorem slices_BinarySearchFunc_sl_sorted_item_int_api_Session_sorted_item_int_api_Session_int.eq (J : Jn) (x : Sl) (target : Int) (cmp : Fv) (H : Hp) (Q : Value → Hp → Prop) : vFn Try.prog slices_BinarySearchFunc_sl_sorted_item_int_api_Session_sorted_item_int_api_Session_int.cf J slices_BinarySearchFunc_sl_sorted_item_int_api_Session_sorted_item_int_api_Session_int.fn [.slice x.a x.len x.cap, .int .i64 target, .func cmp.fn cmp.fi cmp.ca] H Q = slices_BinarySearchFunc_sl_sorted_item_int_api_Session_sorted_item_int_api_Session_int.vc J x target cmp H Q := by kernel_rfl
theorem slices_BinarySearchFunc_sl_sorted_item_int_api_Session_sorted_item_int_api_Session_int.calls {x : Sl} {target : Int} {cmp : Fv} {H : Hp} {Q : Value → Hp → Prop} (h : slices_BinarySearchFunc_sl_sorted_item_int_api_Session_sorted_item_int_api_Session_int.vc J0 x target cmp H Q) : SCalls Try.prog slices_BinarySearchFunc_sl_sorted_item_int_api_Session_sorted_item_int_api_Session_int.id [.slice x.a x.len x.cap, .int .i64 target, .func cmp.fn cmp.fi cmp.ca] H Q := vFn_of Try.mixed Try.func97 (slices_BinarySearchFunc_sl_sorted_item_int_api_Session_sorted_item_int_api_Session_int.eq J0 x target cmp H Q) h

/-! 98: (*tephra/sorted.Map_int, tephra/api.Session_).find$1 -/
noncomputable def sorted_Map_int_api_Session_find_1.cf : Cfg := ⟨[2], [], [], [], true, []⟩
noncomputable def sorted_Map_int_api_Session_find_1.vc (J : Jn) (xkey : Int) (xvalueClient : Int) (xvalueSeq : Int) (xvalueReplyErr : Int) (xvalueReplyValue : ByteArray) (k : Int) (H : Hp) (Q : Value → Hp → Prop) : Prop :=
 
 SCalls Try.prog cmp_Compare_int.id [.int .i64 xkey, .int .i64 k] (holes H 1) (fun r H1 => ∃ x : Int, r = .int .i64 x ∧ Q (.int .i64 x) H1)
theorem sorted_Map_int_api_Session_find_1.eq (J : Jn) (xkey : Int) (xvalueClient : Int) (xvalueSeq : Int) (xvalueReplyErr : Int) (xvalueReplyValue : ByteArray) (k : Int) (H : Hp) (Q : Value → Hp → Prop) : vFn Try.prog sorted_Map_int_api_Session_find_1.cf J sorted_Map_int_api_Session_find_1.fn [.agg #[.int .i64 xkey, .int .i64 xvalueClient, .int .i64 xvalueSeq, .int .i64 xvalueReplyErr, .string xvalueReplyValue], .int .i64 k] H Q = sorted_Map_int_api_Session_find_1.vc J xkey xvalueClient xvalueSeq xvalueReplyErr xvalueReplyValue k H Q := by kernel_rfl
theorem sorted_Map_int_api_Session_find_1.calls {xkey : Int} {xvalueClient : Int} {xvalueSeq : Int} {xvalueReplyErr : Int} {xvalueReplyValue : ByteArray} {k : Int} {H : Hp} {Q : Value → Hp → Prop} (h : sorted_Map_int_api_Session_find_1.vc J0 xkey xvalueClient xvalueSeq xvalueReplyErr xvalueReplyValue k H Q) : SCalls Try.prog sorted_Map_int_api_Session_find_1.id [.agg #[.int .i64 xkey, .int .i64 xvalueClient, .int .i64 xvalueSeq, .int .i64 xvalueReplyErr, .string xvalueReplyValue], .int .i64 k] H Q := vFn_of Try.mixed Try.func98 (sorted_Map_int_api_Session_find_1.eq J0 xkey xvalueClient xvalueSeq xvalueReplyErr xvalueReplyValue k H Q) h

/-! 99: cmp.Compare_int_ -/
noncomputable def cmp_Compare_int.cf : Cfg := ⟨[], [], [], [], true, []⟩
noncomputable def cmp_Compare_int.vc (J : Jn) (x : Int) (y : Int) (H : Hp) (Q : Value → Hp → Prop) : Prop :=
 
 SCalls Try.prog cmp_isNaN_int.id [.int .i64 x] H (fun r H1 => ∃ x1 : Bool, r = .bool x1 ∧ 
 SCalls Try.prog cmp_isNaN_int.id [.int .i64 y] H1 (fun r1 H2 => ∃ x2 : Bool, r1 = .bool x2 ∧ 
 Br x1 (
 Br x2 (Q (.int .i64 0) H2)
 (Q (.int .i64 (-1)) H2))
 (
 Br x2 (Q (.int .i64 1) H2)
 (
 Br (decide (x < y)) (Q (.int .i64 (-1)) H2)
 (
 Br (decide (x > y)) (Q (.int .i64 1) H2)
 (Q (.int .i64 0) H2))))))
theorem cmp_Compare_int.eq (J : Jn) (x : Int) (y : Int) (H : Hp) (Q : Value → Hp → Prop) : vFn Try.prog cmp_Compare_int.cf J cmp_Compare_int.fn [.int .i64 x, .int .i64 y] H Q = cmp_Compare_int.vc J x y H Q := by kernel_rfl
theorem cmp_Compare_int.calls {x : Int} {y : Int} {H : Hp} {Q : Value → Hp → Prop} (h : cmp_Compare_int.vc J0 x y H Q) : SCalls Try.prog cmp_Compare_int.id [.int .i64 x, .int .i64 y] H Q := vFn_of Try.mixed Try.func99 (cmp_Compare_int.eq J0 x y H Q) h

/-! 100: slices.Delete___tephra/sorted.item_string, string_,tephra/sorted.item_string, string__ -/
noncomputable def slices_Delete_sl_sorted_item_string_string_sorted_item_string_string.cf : Cfg := ⟨[], [], [], [], true, []⟩
noncomputable def slices_Delete_sl_sorted_item_string_string_sorted_item_string_string.vc (J : Jn) (s : Sl) (i : Int) (j : Int) (H : Hp) (Q : Value → Hp → Prop) : Prop :=
 ((0 : Int) ≤ ((s.len : Nat) : Int) ∧ ((s.len : Nat) : Int) ≤ ((s.cap : Nat) : Int)) ∧ ((0 : Int) ≤ j ∧ j ≤ ((((((s.len : Nat) : Int) : Int).toNat) : Nat) : Int)) ∧ ((0 : Int) ≤ i ∧ i ≤ ((((j : Int).toNat) : Nat) : Int)) ∧ 
 Br (i == j) (Q (.slice s.a s.len s.cap) H)
 (((0 : Int) ≤ i ∧ i ≤ ((s.cap : Nat) : Int)) ∧ ((0 : Int) ≤ j ∧ j ≤ ((s.len : Nat) : Int)) ∧ 
 vApp Try.prog T_sl_sorted_item_string_string (cutA s.a s.cap 0 2) ((i : Int).toNat) s.cap (.slice (cutA s.a s.cap ((j : Int).toNat) 2) (s.len - ((j : Int).toNat)) (s.cap - ((j : Int).toNat))) H (fun ap H1 => ((0 : Int) ≤ ((s.len : Nat) : Int) ∧ ((s.len : Nat) : Int) ≤ ((ap.cap : Nat) : Int)) ∧ ((0 : Int) ≤ ((ap.len : Nat) : Int) ∧ ((ap.len : Nat) : Int) ≤ ((((((s.len : Nat) : Int) : Int).toNat) : Nat) : Int)) ∧ 
 vClear Try.prog T_sl_sorted_item_string_string (cutA ap.a ap.cap ((((ap.len : Nat) : Int) : Int).toNat) 2) (((((s.len : Nat) : Int) : Int).toNat) - ((((ap.len : Nat) : Int) : Int).toNat)) H1 (fun H2 => Q (.slice ap.a ap.len ap.cap) H2)))
theorem slices_Delete_sl_sorted_item_string_string_sorted_item_string_string.eq (J : Jn) (s : Sl) (i : Int) (j : Int) (H : Hp) (Q : Value → Hp → Prop) : vFn Try.prog slices_Delete_sl_sorted_item_string_string_sorted_item_string_string.cf J slices_Delete_sl_sorted_item_string_string_sorted_item_string_string.fn [.slice s.a s.len s.cap, .int .i64 i, .int .i64 j] H Q = slices_Delete_sl_sorted_item_string_string_sorted_item_string_string.vc J s i j H Q := by kernel_rfl
theorem slices_Delete_sl_sorted_item_string_string_sorted_item_string_string.calls {s : Sl} {i : Int} {j : Int} {H : Hp} {Q : Value → Hp → Prop} (h : slices_Delete_sl_sorted_item_string_string_sorted_item_string_string.vc J0 s i j H Q) : SCalls Try.prog slices_Delete_sl_sorted_item_string_string_sorted_item_string_string.id [.slice s.a s.len s.cap, .int .i64 i, .int .i64 j] H Q := vFn_of Try.mixed Try.func100 (slices_Delete_sl_sorted_item_string_string_sorted_item_string_string.eq J0 s i j H Q) h

/-! 102: slices.rotateRight_tephra/sorted.item_int, tephra/api.Session__ -/
noncomputable def slices_rotateRight_sorted_item_int_api_Session.cf : Cfg := ⟨[], [], [], [], true, []⟩
noncomputable def slices_rotateRight_sorted_item_int_api_Session.vc (J : Jn) (s : Sl) (r : Int) (H : Hp) (Q : Value → Hp → Prop) : Prop :=
 
 SCalls Try.prog slices_rotateLeft_sorted_item_int_api_Session.id [.slice s.a s.len s.cap, .int .i64 (w64 (((s.len : Nat) : Int) - r))] H (fun r1 H1 => r1 = .tuple #[] ∧ Q (.tuple #[]) H1)
theorem slices_rotateRight_sorted_item_int_api_Session.eq (J : Jn) (s : Sl) (r : Int) (H : Hp) (Q : Value → Hp → Prop) : vFn Try.prog slices_rotateRight_sorted_item_int_api_Session.cf J slices_rotateRight_sorted_item_int_api_Session.fn [.slice s.a s.len s.cap, .int .i64 r] H Q = slices_rotateRight_sorted_item_int_api_Session.vc J s r H Q := by kernel_rfl
theorem slices_rotateRight_sorted_item_int_api_Session.calls {s : Sl} {r : Int} {H : Hp} {Q : Value → Hp → Prop} (h : slices_rotateRight_sorted_item_int_api_Session.vc J0 s r H Q) : SCalls Try.prog slices_rotateRight_sorted_item_int_api_Session.id [.slice s.a s.len s.cap, .int .i64 r] H Q := vFn_of Try.mixed Try.func102 (slices_rotateRight_sorted_item_int_api_Session.eq J0 s r H Q) h

/-! 103: slices.Reverse___tephra/sorted.item_string, string_,tephra/sorted.item_string, string__ -/
noncomputable def slices_Reverse_sl_sorted_item_string_string_sorted_item_string_string.cf : Cfg := ⟨[], [(1, [0, 2, 3])], [], [], true, []⟩
noncomputable def slices_Reverse_sl_sorted_item_string_string_sorted_item_string_string.l1.st (s : Sl) (H1 : Hp) (i : Int) (j : Int) : VS := ⟨mkFr 28 [(0, .v (.slice s.a s.len s.cap)), (2, .v (.int .i64 i)), (3, .v (.int .i64 j))], [], H1⟩
noncomputable def slices_Reverse_sl_sorted_item_string_string_sorted_item_string_string.l1 (J : Jn) (s : Sl) (H1 : Hp) (i : Int) (j : Int) (Q : Value → Hp → Prop) : Prop := vAt Try.prog slices_Reverse_sl_sorted_item_string_string_sorted_item_string_string.cf J slices_Reverse_sl_sorted_item_string_string_sorted_item_string_string.fn [1, 0] [0] Q (slices_Reverse_sl_sorted_item_string_string_sorted_item_string_string.l1.st s H1 i j)
attribute [irreducible] slices_Reverse_sl_sorted_item_string_string_sorted_item_string_string.l1
noncomputable def slices_Reverse_sl_sorted_item_string_string_sorted_item_string_string.l1.body (J : Jn) (s : Sl) (H1 : Hp) (i : Int) (j : Int) (Q : Value → Hp → Prop) : Prop :=
 
 Br (decide (i < j)) (((0 : Int) ≤ j ∧ j < ((s.len : Nat) : Int)) ∧ vPtr s.a (fun a => ∃ key : ByteArray, ∃ value : ByteArray, RowAt H1 (a.add ((j : Int).toNat * 2)) [.string key, .string value] ∧ ((0 : Int) ≤ i ∧ i < ((s.len : Nat) : Int)) ∧ vPtr s.a (fun a1 => ∃ key1 : ByteArray, ∃ value1 : ByteArray, RowAt H1 (a1.add ((i : Int).toNat * 2)) [.string key1, .string value1] ∧ ((0 : Int) ≤ i ∧ i < ((s.len : Nat) : Int)) ∧ vPtr s.a (fun a2 => WrAt H1 (a2.add ((i : Int).toNat * 2)) 2 ∧ ((0 : Int) ≤ j ∧ j < ((s.len : Nat) : Int)) ∧ vPtr s.a (fun a3 => WrAt (Hp.setCells H1 (a2.add ((i : Int).toNat * 2)) [.string key, .string value] 0) (a3.add ((j : Int).toNat * 2)) 2 ∧ 
 slices_Reverse_sl_sorted_item_string_string_sorted_item_string_string.l1 J s (Hp.setCells (Hp.setCells H1 (a2.add ((i : Int).toNat * 2)) [.string key, .string value] 0) (a3.add ((j : Int).toNat * 2)) [.string key1, .string value1] 0) (w64 (i + 1)) (w64 (j - 1)) Q)))))
 (Q (.tuple #[]) H1)
theorem slices_Reverse_sl_sorted_item_string_string_sorted_item_string_string.l1.eq (J : Jn) (s : Sl) (H1 : Hp) (i : Int) (j : Int) (Q : Value → Hp → Prop) : vAtBody Try.prog slices_Reverse_sl_sorted_item_string_string_sorted_item_string_string.cf J slices_Reverse_sl_sorted_item_string_string_sorted_item_string_string.fn [1, 0] [0] Q (slices_Reverse_sl_sorted_item_string_string_sorted_item_string_string.l1.st s H1 i j) = slices_Reverse_sl_sorted_item_string_string_sorted_item_string_string.l1.body J s H1 i j Q := by kernel_rfl
theorem slices_Reverse_sl_sorted_item_string_string_sorted_item_string_string.l1.step {s : Sl} {H1 : Hp} {i : Int} {j : Int} {Q : Value → Hp → Prop} (h : slices_Reverse_sl_sorted_item_string_string_sorted_item_string_string.l1.body J0 s H1 i j Q) : slices_Reverse_sl_sorted_item_string_string_sorted_item_string_string.l1 J0 s H1 i j Q := vAt_stepC (slices_Reverse_sl_sorted_item_string_string_sorted_item_string_string.l1.st s H1 i j) (slices_Reverse_sl_sorted_item_string_string_sorted_item_string_string.l1.eq J0 s H1 i j Q) (by kernel_rfl) h
noncomputable def slices_Reverse_sl_sorted_item_string_string_sorted_item_string_string.vc (J : Jn) (s : Sl) (H : Hp) (Q : Value → Hp → Prop) : Prop :=
 
 slices_Reverse_sl_sorted_item_string_string_sorted_item_string_string.l1 J s H 0 (w64 (((s.len : Nat) : Int) - 1)) Q
theorem slices_Reverse_sl_sorted_item_string_string_sorted_item_string_string.eq (J : Jn) (s : Sl) (H : Hp) (Q : Value → Hp → Prop) : vFn Try.prog slices_Reverse_sl_sorted_item_string_string_sorted_item_string_string.cf J slices_Reverse_sl_sorted_item_string_string_sorted_item_string_string.fn [.slice s.a s.len s.cap] H Q = slices_Reverse_sl_sorted_item_string_string_sorted_item_string_string.vc J s H Q := by kernel_rfl
theorem slices_Reverse_sl_sorted_item_string_string_sorted_item_string_string.calls {s : Sl} {H : Hp} {Q : Value → Hp → Prop} (h : slices_Reverse_sl_sorted_item_string_string_sorted_item_string_string.vc J0 s H Q) : SCalls Try.prog slices_Reverse_sl_sorted_item_string_string_sorted_item_string_string.id [.slice s.a s.len s.cap] H Q := vFn_of Try.mixed Try.func103 (slices_Reverse_sl_sorted_item_string_string_sorted_item_string_string.eq J0 s H Q) h

/-! 104: cmp.isNaN_int_ -/
noncomputable def cmp_isNaN_int.cf : Cfg := ⟨[], [], [], [], true, []⟩
noncomputable def cmp_isNaN_int.vc (J : Jn) (x : Int) (H : Hp) (Q : Value → Hp → Prop) : Prop :=
 Q (.bool (x != x)) H
theorem cmp_isNaN_int.eq (J : Jn) (x : Int) (H : Hp) (Q : Value → Hp → Prop) : vFn Try.prog cmp_isNaN_int.cf J cmp_isNaN_int.fn [.int .i64 x] H Q = cmp_isNaN_int.vc J x H Q := by kernel_rfl
theorem cmp_isNaN_int.calls {x : Int} {H : Hp} {Q : Value → Hp → Prop} (h : cmp_isNaN_int.vc J0 x H Q) : SCalls Try.prog cmp_isNaN_int.id [.int .i64 x] H Q := vFn_of Try.mixed Try.func104 (cmp_isNaN_int.eq J0 x H Q) h

/-! 105: slices.rotateLeft_tephra/sorted.item_int, tephra/api.Session__ -/
noncomputable def slices_rotateLeft_sorted_item_int_api_Session.cf : Cfg := ⟨[], [], [], [], true, []⟩
noncomputable def slices_rotateLeft_sorted_item_int_api_Session.vc (J : Jn) (s : Sl) (r : Int) (H : Hp) (Q : Value → Hp → Prop) : Prop :=
 ((0 : Int) ≤ r ∧ r ≤ ((s.cap : Nat) : Int)) ∧ 
 SCalls Try.prog slices_Reverse_sl_sorted_item_int_api_Session_sorted_item_int_api_Session.id [.slice (cutA s.a s.cap 0 5) ((r : Int).toNat) s.cap] H (fun r1 H1 => r1 = .tuple #[] ∧ ((0 : Int) ≤ r ∧ r ≤ ((s.len : Nat) : Int)) ∧ 
 SCalls Try.prog slices_Reverse_sl_sorted_item_int_api_Session_sorted_item_int_api_Session.id [.slice (cutA s.a s.cap ((r : Int).toNat) 5) (s.len - ((r : Int).toNat)) (s.cap - ((r : Int).toNat))] H1 (fun r2 H2 => r2 = .tuple #[] ∧ 
 SCalls Try.prog slices_Reverse_sl_sorted_item_int_api_Session_sorted_item_int_api_Session.id [.slice s.a s.len s.cap] H2 (fun r3 H3 => r3 = .tuple #[] ∧ Q (.tuple #[]) H3)))
theorem slices_rotateLeft_sorted_item_int_api_Session.eq (J : Jn) (s : Sl) (r : Int) (H : Hp) (Q : Value → Hp → Prop) : vFn Try.prog slices_rotateLeft_sorted_item_int_api_Session.cf J slices_rotateLeft_sorted_item_int_api_Session.fn [.slice s.a s.len s.cap, .int .i64 r] H Q = slices_rotateLeft_sorted_item_int_api_Session.vc J s r H Q := by kernel_rfl
theorem slices_rotateLeft_sorted_item_int_api_Session.calls {s : Sl} {r : Int} {H : Hp} {Q : Value → Hp → Prop} (h : slices_rotateLeft_sorted_item_int_api_Session.vc J0 s r H Q) : SCalls Try.prog slices_rotateLeft_sorted_item_int_api_Session.id [.slice s.a s.len s.cap, .int .i64 r] H Q := vFn_of Try.mixed Try.func105 (slices_rotateLeft_sorted_item_int_api_Session.eq J0 s r H Q) h

/-! 106: slices.Reverse___tephra/sorted.item_int, tephra/api.Session_,tephra/sorted.item_int, tephra/api.Session__ -/
noncomputable def slices_Reverse_sl_sorted_item_int_api_Session_sorted_item_int_api_Session.cf : Cfg := ⟨[], [(1, [0, 2, 3])], [], [], true, []⟩
noncomputable def slices_Reverse_sl_sorted_item_int_api_Session_sorted_item_int_api_Session.l1.st (s : Sl) (H1 : Hp) (i : Int) (j : Int) : VS := ⟨mkFr 28 [(0, .v (.slice s.a s.len s.cap)), (2, .v (.int .i64 i)), (3, .v (.int .i64 j))], [], H1⟩
noncomputable def slices_Reverse_sl_sorted_item_int_api_Session_sorted_item_int_api_Session.l1 (J : Jn) (s : Sl) (H1 : Hp) (i : Int) (j : Int) (Q : Value → Hp → Prop) : Prop := vAt Try.prog slices_Reverse_sl_sorted_item_int_api_Session_sorted_item_int_api_Session.cf J slices_Reverse_sl_sorted_item_int_api_Session_sorted_item_int_api_Session.fn [1, 0] [0] Q (slices_Reverse_sl_sorted_item_int_api_Session_sorted_item_int_api_Session.l1.st s H1 i j)
attribute [irreducible] slices_Reverse_sl_sorted_item_int_api_Session_sorted_item_int_api_Session.l1
noncomputable def slices_Reverse_sl_sorted_item_int_api_Session_sorted_item_int_api_Session.l1.body (J : Jn) (s : Sl) (H1 : Hp) (i : Int) (j : Int) (Q : Value → Hp → Prop) : Prop :=
 
 Br (decide (i < j)) (((0 : Int) ≤ j ∧ j < ((s.len : Nat) : Int)) ∧ vPtr s.a (fun a => ∃ key : Int, ∃ valueClient : Int, ∃ valueSeq : Int, ∃ valueReplyErr : Int, ∃ valueReplyValue : ByteArray, RowAt H1 (a.add ((j : Int).toNat * 5)) [.int .i64 key, .int .i64 valueClient, .int .i64 valueSeq, .int .i64 valueReplyErr, .string valueReplyValue] ∧ ((0 : Int) ≤ i ∧ i < ((s.len : Nat) : Int)) ∧ vPtr s.a (fun a1 => ∃ key1 : Int, ∃ valueClient1 : Int, ∃ valueSeq1 : Int, ∃ valueReplyErr1 : Int, ∃ valueReplyValue1 : ByteArray, RowAt H1 (a1.add ((i : Int).toNat * 5)) [.int .i64 key1, .int .i64 valueClient1, .int .i64 valueSeq1, .int .i64 valueReplyErr1, .string valueReplyValue1] ∧ ((0 : Int) ≤ i ∧ i < ((s.len : Nat) : Int)) ∧ vPtr s.a (fun a2 => WrAt H1 (a2.add ((i : Int).toNat * 5)) 5 ∧ ((0 : Int) ≤ j ∧ j < ((s.len : Nat) : Int)) ∧ vPtr s.a (fun a3 => WrAt (Hp.setCells H1 (a2.add ((i : Int).toNat * 5)) [.int .i64 key, .int .i64 valueClient, .int .i64 valueSeq, .int .i64 valueReplyErr, .string valueReplyValue] 0) (a3.add ((j : Int).toNat * 5)) 5 ∧ 
 slices_Reverse_sl_sorted_item_int_api_Session_sorted_item_int_api_Session.l1 J s (Hp.setCells (Hp.setCells H1 (a2.add ((i : Int).toNat * 5)) [.int .i64 key, .int .i64 valueClient, .int .i64 valueSeq, .int .i64 valueReplyErr, .string valueReplyValue] 0) (a3.add ((j : Int).toNat * 5)) [.int .i64 key1, .int .i64 valueClient1, .int .i64 valueSeq1, .int .i64 valueReplyErr1, .string valueReplyValue1] 0) (w64 (i + 1)) (w64 (j - 1)) Q)))))
 (Q (.tuple #[]) H1)
theorem slices_Reverse_sl_sorted_item_int_api_Session_sorted_item_int_api_Session.l1.eq (J : Jn) (s : Sl) (H1 : Hp) (i : Int) (j : Int) (Q : Value → Hp → Prop) : vAtBody Try.prog slices_Reverse_sl_sorted_item_int_api_Session_sorted_item_int_api_Session.cf J slices_Reverse_sl_sorted_item_int_api_Session_sorted_item_int_api_Session.fn [1, 0] [0] Q (slices_Reverse_sl_sorted_item_int_api_Session_sorted_item_int_api_Session.l1.st s H1 i j) = slices_Reverse_sl_sorted_item_int_api_Session_sorted_item_int_api_Session.l1.body J s H1 i j Q := by kernel_rfl
theorem slices_Reverse_sl_sorted_item_int_api_Session_sorted_item_int_api_Session.l1.step {s : Sl} {H1 : Hp} {i : Int} {j : Int} {Q : Value → Hp → Prop} (h : slices_Reverse_sl_sorted_item_int_api_Session_sorted_item_int_api_Session.l1.body J0 s H1 i j Q) : slices_Reverse_sl_sorted_item_int_api_Session_sorted_item_int_api_Session.l1 J0 s H1 i j Q := vAt_stepC (slices_Reverse_sl_sorted_item_int_api_Session_sorted_item_int_api_Session.l1.st s H1 i j) (slices_Reverse_sl_sorted_item_int_api_Session_sorted_item_int_api_Session.l1.eq J0 s H1 i j Q) (by kernel_rfl) h
noncomputable def slices_Reverse_sl_sorted_item_int_api_Session_sorted_item_int_api_Session.vc (J : Jn) (s : Sl) (H : Hp) (Q : Value → Hp → Prop) : Prop :=
 
 slices_Reverse_sl_sorted_item_int_api_Session_sorted_item_int_api_Session.l1 J s H 0 (w64 (((s.len : Nat) : Int) - 1)) Q
theorem slices_Reverse_sl_sorted_item_int_api_Session_sorted_item_int_api_Session.eq (J : Jn) (s : Sl) (H : Hp) (Q : Value → Hp → Prop) : vFn Try.prog slices_Reverse_sl_sorted_item_int_api_Session_sorted_item_int_api_Session.cf J slices_Reverse_sl_sorted_item_int_api_Session_sorted_item_int_api_Session.fn [.slice s.a s.len s.cap] H Q = slices_Reverse_sl_sorted_item_int_api_Session_sorted_item_int_api_Session.vc J s H Q := by kernel_rfl
theorem slices_Reverse_sl_sorted_item_int_api_Session_sorted_item_int_api_Session.calls {s : Sl} {H : Hp} {Q : Value → Hp → Prop} (h : slices_Reverse_sl_sorted_item_int_api_Session_sorted_item_int_api_Session.vc J0 s H Q) : SCalls Try.prog slices_Reverse_sl_sorted_item_int_api_Session_sorted_item_int_api_Session.id [.slice s.a s.len s.cap] H Q := vFn_of Try.mixed Try.func106 (slices_Reverse_sl_sorted_item_int_api_Session_sorted_item_int_api_Session.eq J0 s H Q) h

/-! 23: tephra/image.ReadDelta -/
noncomputable def image_ReadDelta.cf : Cfg := ⟨[2, 7, 1000003], [], [], [], true, []⟩
noncomputable def image_ReadDelta.vc (J : Jn) (b : Sl) (H : Hp) (Q : Value → Hp → Prop) : Prop :=
 ∀ H1 : Hp, H1 = (holes H 1) → 
 SCalls Try.prog image_rows.id [.slice b.a b.len b.cap, .int .i64 1, .int .i64 2] H1 (fun r H2 => ∃ x : Sl, ∃ x1 : Int, ∃ x2 : Int, r = .tuple #[.slice x.a x.len x.cap, .int .i64 x1, .int .i64 x2] ∧ 
 Br (x2 != 0) (Q (.tuple #[.agg #[.int .i64 0, .int .i64 0, .int .i64 0, .slice none 0 0, .slice none 0 0], .int .i64 x2]) H2)
 (((0 : Int) ≤ 1 ∧ (1 : Int) < ((x.len : Nat) : Int)) ∧ vPtr x.a (fun a => ∃ x3 : Sl, Hp.cell? H2 (a.add 1) = some (.slice x3.a x3.len x3.cap) ∧ 
 SCalls Try.prog delta_Read.id [.slice x3.a x3.len x3.cap] H2 (fun r1 H3 => ∃ From : Int, ∃ To : Int, ∃ Term : Int, ∃ Pairs : Sl, ∃ Sessions : Sl, ∃ x4 : Bool, r1 = .tuple #[.agg #[.int .i64 From, .int .i64 To, .int .i64 Term, .slice Pairs.a Pairs.len Pairs.cap, .slice Sessions.a Sessions.len Sessions.cap], .bool x4] ∧ ∀ H4 : Hp, H4 = (holes H3 1) → 
 Br (!x4) (
  (
  (Q (.tuple #[.agg #[.int .i64 0, .int .i64 0, .int .i64 0, .slice none 0 0, .slice none 0 0], .int .i64 10]) H4) ∧ 
  (
  (Q (.tuple #[.agg #[.int .i64 0, .int .i64 0, .int .i64 0, .slice none 0 0, .slice none 0 0], .int .i64 10]) H4) ∧ 
  (Q (.tuple #[.agg #[.int .i64 0, .int .i64 0, .int .i64 0, .slice none 0 0, .slice none 0 0], .int .i64 10]) H4))) ∧ 
  (
  (Q (.tuple #[.agg #[.int .i64 0, .int .i64 0, .int .i64 0, .slice none 0 0, .slice none 0 0], .int .i64 10]) H4) ∧ 
  (Q (.tuple #[.agg #[.int .i64 0, .int .i64 0, .int .i64 0, .slice none 0 0, .slice none 0 0], .int .i64 10]) H4)))
 (((0 : Int) ≤ 0 ∧ (0 : Int) < ((x.len : Nat) : Int)) ∧ vPtr x.a (fun a1 => 
  (∃ x5 : Sl, Hp.cell? H4 a1 = some (.slice x5.a x5.len x5.cap) ∧ 
  (vB2S H4 x5.a x5.len (fun s => 
 SCalls Try.prog image_head.id [.int .i64 1, .int .i64 From, .int .i64 To] H4 (fun r2 H5 => ∃ x6 : Sl, r2 = .slice x6.a x6.len x6.cap ∧ vB2S H5 x6.a x6.len (fun s1 => 
 Br (!(s.toList == s1.toList)) (Q (.tuple #[.agg #[.int .i64 0, .int .i64 0, .int .i64 0, .slice none 0 0, .slice none 0 0], .int .i64 10]) H5)
 (Q (.tuple #[.agg #[.int .i64 From, .int .i64 To, .int .i64 Term, .slice Pairs.a Pairs.len Pairs.cap, .slice Sessions.a Sessions.len Sessions.cap], .int .i64 0]) H5))))) ∧ 
  (
 SCalls Try.prog image_head.id [.int .i64 1, .int .i64 From, .int .i64 To] H4 (fun r3 H6 => ∃ x7 : Sl, r3 = .slice x7.a x7.len x7.cap ∧ 
  (vB2S H6 x5.a x5.len (fun s2 => vB2S H6 x7.a x7.len (fun s3 => 
 Br (!(s2.toList == s3.toList)) (Q (.tuple #[.agg #[.int .i64 0, .int .i64 0, .int .i64 0, .slice none 0 0, .slice none 0 0], .int .i64 10]) H6)
 (Q (.tuple #[.agg #[.int .i64 From, .int .i64 To, .int .i64 Term, .slice Pairs.a Pairs.len Pairs.cap, .slice Sessions.a Sessions.len Sessions.cap], .int .i64 0]) H6)))) ∧ 
  (vB2S H6 x7.a x7.len (fun s4 => vB2S H6 x5.a x5.len (fun s5 => 
 Br (!(s5.toList == s4.toList)) (Q (.tuple #[.agg #[.int .i64 0, .int .i64 0, .int .i64 0, .slice none 0 0, .slice none 0 0], .int .i64 10]) H6)
 (Q (.tuple #[.agg #[.int .i64 From, .int .i64 To, .int .i64 Term, .slice Pairs.a Pairs.len Pairs.cap, .slice Sessions.a Sessions.len Sessions.cap], .int .i64 0]) H6))))))) ∧ 
  (
 SCalls Try.prog image_head.id [.int .i64 1, .int .i64 From, .int .i64 To] H4 (fun r4 H7 => ∃ x8 : Sl, r4 = .slice x8.a x8.len x8.cap ∧ ∃ x9 : Sl, Hp.cell? H7 a1 = some (.slice x9.a x9.len x9.cap) ∧ 
  (vB2S H7 x9.a x9.len (fun s6 => vB2S H7 x8.a x8.len (fun s7 => 
 Br (!(s6.toList == s7.toList)) (Q (.tuple #[.agg #[.int .i64 0, .int .i64 0, .int .i64 0, .slice none 0 0, .slice none 0 0], .int .i64 10]) H7)
 (Q (.tuple #[.agg #[.int .i64 From, .int .i64 To, .int .i64 Term, .slice Pairs.a Pairs.len Pairs.cap, .slice Sessions.a Sessions.len Sessions.cap], .int .i64 0]) H7)))) ∧ 
  (vB2S H7 x8.a x8.len (fun s8 => vB2S H7 x9.a x9.len (fun s9 => 
 Br (!(s9.toList == s8.toList)) (Q (.tuple #[.agg #[.int .i64 0, .int .i64 0, .int .i64 0, .slice none 0 0, .slice none 0 0], .int .i64 10]) H7)
 (Q (.tuple #[.agg #[.int .i64 From, .int .i64 To, .int .i64 Term, .slice Pairs.a Pairs.len Pairs.cap, .slice Sessions.a Sessions.len Sessions.cap], .int .i64 0]) H7))))))))))))
theorem image_ReadDelta.eq (J : Jn) (b : Sl) (H : Hp) (Q : Value → Hp → Prop) : vFn Try.prog image_ReadDelta.cf J image_ReadDelta.fn [.slice b.a b.len b.cap] H Q = image_ReadDelta.vc J b H Q := by kernel_rfl
theorem image_ReadDelta.calls {b : Sl} {H : Hp} {Q : Value → Hp → Prop} (h : image_ReadDelta.vc J0 b H Q) : SCalls Try.prog image_ReadDelta.id [.slice b.a b.len b.cap] H Q := vFn_of Try.mixed Try.func23 (image_ReadDelta.eq J0 b H Q) h

/-! 24: tephra/image.Delta -/
noncomputable def image_Delta.cf : Cfg := ⟨[1, 1000003], [], [], [], true, []⟩
noncomputable def image_Delta.vc (J : Jn) (dFrom : Int) (dTo : Int) (dTerm : Int) (dPairs : Sl) (dSessions : Sl) (H : Hp) (Q : Value → Hp → Prop) : Prop :=
 ∀ H1 : Hp, H1 = (holes H 1) → 
 SCalls Try.prog image_head.id [.int .i64 1, .int .i64 dFrom, .int .i64 dTo] H1 (fun r H2 => ∃ x : Sl, r = .slice x.a x.len x.cap ∧ 
 SCalls Try.prog delta_Bytes.id [.agg #[.int .i64 dFrom, .int .i64 dTo, .int .i64 dTerm, .slice dPairs.a dPairs.len dPairs.cap, .slice dSessions.a dSessions.len dSessions.cap]] H2 (fun r1 H3 => ∃ x1 : Sl, r1 = .slice x1.a x1.len x1.cap ∧ ∀ b : Nat, b = Array.size H3 → ∀ H4 : Hp, H4 = (Array.push H3 (.cells #[.slice x.a x.len x.cap, .slice x1.a x1.len x1.cap] T_sl_uint8)) → 
 SCalls Try.prog image_frames.id [.slice (some (Addr.mk b 0 none)) 2 2] H4 (fun r2 H5 => ∃ x2 : Sl, ∃ x3 : Int, r2 = .tuple #[.slice x2.a x2.len x2.cap, .int .i64 x3] ∧ Q (.tuple #[.slice x2.a x2.len x2.cap, .int .i64 x3]) H5)))
theorem image_Delta.eq (J : Jn) (dFrom : Int) (dTo : Int) (dTerm : Int) (dPairs : Sl) (dSessions : Sl) (H : Hp) (Q : Value → Hp → Prop) : vFn Try.prog image_Delta.cf J image_Delta.fn [.agg #[.int .i64 dFrom, .int .i64 dTo, .int .i64 dTerm, .slice dPairs.a dPairs.len dPairs.cap, .slice dSessions.a dSessions.len dSessions.cap]] H Q = image_Delta.vc J dFrom dTo dTerm dPairs dSessions H Q := by kernel_rfl
theorem image_Delta.calls {dFrom : Int} {dTo : Int} {dTerm : Int} {dPairs : Sl} {dSessions : Sl} {H : Hp} {Q : Value → Hp → Prop} (h : image_Delta.vc J0 dFrom dTo dTerm dPairs dSessions H Q) : SCalls Try.prog image_Delta.id [.agg #[.int .i64 dFrom, .int .i64 dTo, .int .i64 dTerm, .slice dPairs.a dPairs.len dPairs.cap, .slice dSessions.a dSessions.len dSessions.cap]] H Q := vFn_of Try.mixed Try.func24 (image_Delta.eq J0 dFrom dTo dTerm dPairs dSessions H Q) h

/-! 26: tephra/delta.Right -/
noncomputable def delta_Right.cf : Cfg := ⟨[1, 1000003], [], [], [(12, [1, 12]), (17, [1, 17]), (22, [1, 22]), (27, [1, 27])], true, []⟩
noncomputable def delta_Right.k1.st (dFrom : Int) (dTo : Int) (dTerm : Int) (dPairs : Sl) (dSessions : Sl) (H1 : Hp) (x : Bool) : VS := ⟨mkFr 35 [(1, .loc 0 0), (12, .v (.bool x))], [(T_delta_Delta, [.int .i64 dFrom, .int .i64 dTo, .int .i64 dTerm, .slice dPairs.a dPairs.len dPairs.cap, .slice dSessions.a dSessions.len dSessions.cap])], H1⟩
noncomputable def delta_Right.k1 (J : Jn) (dFrom : Int) (dTo : Int) (dTerm : Int) (dPairs : Sl) (dSessions : Sl) (H1 : Hp) (x : Bool) (Q : Value → Hp → Prop) : Prop := J (vMid Try.prog delta_Right.cf J delta_Right.fn [1, 0] [0, 1] 10 Q) (delta_Right.k1.st dFrom dTo dTerm dPairs dSessions H1 x)
noncomputable def delta_Right.k2.st (dFrom : Int) (dTo : Int) (dTerm : Int) (dPairs : Sl) (dSessions : Sl) (H1 : Hp) (x1 : Bool) : VS := ⟨mkFr 35 [(1, .loc 0 0), (17, .v (.bool x1))], [(T_delta_Delta, [.int .i64 dFrom, .int .i64 dTo, .int .i64 dTerm, .slice dPairs.a dPairs.len dPairs.cap, .slice dSessions.a dSessions.len dSessions.cap])], H1⟩
noncomputable def delta_Right.k2 (J : Jn) (dFrom : Int) (dTo : Int) (dTerm : Int) (dPairs : Sl) (dSessions : Sl) (H1 : Hp) (x1 : Bool) (Q : Value → Hp → Prop) : Prop := J (vMid Try.prog delta_Right.cf J delta_Right.fn [1, 0] [0, 1] 15 Q) (delta_Right.k2.st dFrom dTo dTerm dPairs dSessions H1 x1)
noncomputable def delta_Right.k3.st (dFrom : Int) (dTo : Int) (dTerm : Int) (dPairs : Sl) (dSessions : Sl) (H1 : Hp) (x2 : Bool) : VS := ⟨mkFr 35 [(1, .loc 0 0), (22, .v (.bool x2))], [(T_delta_Delta, [.int .i64 dFrom, .int .i64 dTo, .int .i64 dTerm, .slice dPairs.a dPairs.len dPairs.cap, .slice dSessions.a dSessions.len dSessions.cap])], H1⟩
noncomputable def delta_Right.k3 (J : Jn) (dFrom : Int) (dTo : Int) (dTerm : Int) (dPairs : Sl) (dSessions : Sl) (H1 : Hp) (x2 : Bool) (Q : Value → Hp → Prop) : Prop := J (vMid Try.prog delta_Right.cf J delta_Right.fn [1, 0] [0, 1] 20 Q) (delta_Right.k3.st dFrom dTo dTerm dPairs dSessions H1 x2)
noncomputable def delta_Right.k4.st (dFrom : Int) (dTo : Int) (dTerm : Int) (dPairs : Sl) (dSessions : Sl) (H1 : Hp) (x3 : Bool) : VS := ⟨mkFr 35 [(1, .loc 0 0), (27, .v (.bool x3))], [(T_delta_Delta, [.int .i64 dFrom, .int .i64 dTo, .int .i64 dTerm, .slice dPairs.a dPairs.len dPairs.cap, .slice dSessions.a dSessions.len dSessions.cap])], H1⟩
noncomputable def delta_Right.k4 (J : Jn) (dFrom : Int) (dTo : Int) (dTerm : Int) (dPairs : Sl) (dSessions : Sl) (H1 : Hp) (x3 : Bool) (Q : Value → Hp → Prop) : Prop := J (vMid Try.prog delta_Right.cf J delta_Right.fn [1, 0] [0, 1] 25 Q) (delta_Right.k4.st dFrom dTo dTerm dPairs dSessions H1 x3)
attribute [irreducible] delta_Right.k1 delta_Right.k2 delta_Right.k3 delta_Right.k4
noncomputable def delta_Right.k1.body (J : Jn) (dFrom : Int) (dTo : Int) (dTerm : Int) (dPairs : Sl) (dSessions : Sl) (H1 : Hp) (x : Bool) (Q : Value → Hp → Prop) : Prop :=
 
 Br x (
 delta_Right.k2 J dFrom dTo dTerm dPairs dSessions H1 (decide (dTo ≤ 1048576)) Q)
 (
 delta_Right.k2 J dFrom dTo dTerm dPairs dSessions H1 false Q)
theorem delta_Right.k1.eq (J : Jn) (dFrom : Int) (dTo : Int) (dTerm : Int) (dPairs : Sl) (dSessions : Sl) (H1 : Hp) (x : Bool) (Q : Value → Hp → Prop) : vMid Try.prog delta_Right.cf J delta_Right.fn [1, 0] [0, 1] 10 Q (delta_Right.k1.st dFrom dTo dTerm dPairs dSessions H1 x) = delta_Right.k1.body J dFrom dTo dTerm dPairs dSessions H1 x Q := by kernel_rfl
theorem delta_Right.k1.step {dFrom : Int} {dTo : Int} {dTerm : Int} {dPairs : Sl} {dSessions : Sl} {H1 : Hp} {x : Bool} {Q : Value → Hp → Prop} (h : delta_Right.k1.body J0 dFrom dTo dTerm dPairs dSessions H1 x Q) : delta_Right.k1 J0 dFrom dTo dTerm dPairs dSessions H1 x Q := step_of (vMid Try.prog delta_Right.cf J0 delta_Right.fn [1, 0] [0, 1] 10 Q) (delta_Right.k1.st dFrom dTo dTerm dPairs dSessions H1 x) (delta_Right.k1.eq J0 dFrom dTo dTerm dPairs dSessions H1 x Q) (by kernel_rfl) h
noncomputable def delta_Right.k2.body (J : Jn) (dFrom : Int) (dTo : Int) (dTerm : Int) (dPairs : Sl) (dSessions : Sl) (H1 : Hp) (x1 : Bool) (Q : Value → Hp → Prop) : Prop :=
 
 Br x1 (
 delta_Right.k3 J dFrom dTo dTerm dPairs dSessions H1 (decide (dTerm ≥ 0)) Q)
 (
 delta_Right.k3 J dFrom dTo dTerm dPairs dSessions H1 false Q)
theorem delta_Right.k2.eq (J : Jn) (dFrom : Int) (dTo : Int) (dTerm : Int) (dPairs : Sl) (dSessions : Sl) (H1 : Hp) (x1 : Bool) (Q : Value → Hp → Prop) : vMid Try.prog delta_Right.cf J delta_Right.fn [1, 0] [0, 1] 15 Q (delta_Right.k2.st dFrom dTo dTerm dPairs dSessions H1 x1) = delta_Right.k2.body J dFrom dTo dTerm dPairs dSessions H1 x1 Q := by kernel_rfl
theorem delta_Right.k2.step {dFrom : Int} {dTo : Int} {dTerm : Int} {dPairs : Sl} {dSessions : Sl} {H1 : Hp} {x1 : Bool} {Q : Value → Hp → Prop} (h : delta_Right.k2.body J0 dFrom dTo dTerm dPairs dSessions H1 x1 Q) : delta_Right.k2 J0 dFrom dTo dTerm dPairs dSessions H1 x1 Q := step_of (vMid Try.prog delta_Right.cf J0 delta_Right.fn [1, 0] [0, 1] 15 Q) (delta_Right.k2.st dFrom dTo dTerm dPairs dSessions H1 x1) (delta_Right.k2.eq J0 dFrom dTo dTerm dPairs dSessions H1 x1 Q) (by kernel_rfl) h
noncomputable def delta_Right.k3.body (J : Jn) (dFrom : Int) (dTo : Int) (dTerm : Int) (dPairs : Sl) (dSessions : Sl) (H1 : Hp) (x2 : Bool) (Q : Value → Hp → Prop) : Prop :=
 
 Br x2 (
 delta_Right.k4 J dFrom dTo dTerm dPairs dSessions H1 (decide (dTerm ≤ 1048576)) Q)
 (
 delta_Right.k4 J dFrom dTo dTerm dPairs dSessions H1 false Q)
theorem delta_Right.k3.eq (J : Jn) (dFrom : Int) (dTo : Int) (dTerm : Int) (dPairs : Sl) (dSessions : Sl) (H1 : Hp) (x2 : Bool) (Q : Value → Hp → Prop) : vMid Try.prog delta_Right.cf J delta_Right.fn [1, 0] [0, 1] 20 Q (delta_Right.k3.st dFrom dTo dTerm dPairs dSessions H1 x2) = delta_Right.k3.body J dFrom dTo dTerm dPairs dSessions H1 x2 Q := by kernel_rfl
theorem delta_Right.k3.step {dFrom : Int} {dTo : Int} {dTerm : Int} {dPairs : Sl} {dSessions : Sl} {H1 : Hp} {x2 : Bool} {Q : Value → Hp → Prop} (h : delta_Right.k3.body J0 dFrom dTo dTerm dPairs dSessions H1 x2 Q) : delta_Right.k3 J0 dFrom dTo dTerm dPairs dSessions H1 x2 Q := step_of (vMid Try.prog delta_Right.cf J0 delta_Right.fn [1, 0] [0, 1] 20 Q) (delta_Right.k3.st dFrom dTo dTerm dPairs dSessions H1 x2) (delta_Right.k3.eq J0 dFrom dTo dTerm dPairs dSessions H1 x2 Q) (by kernel_rfl) h
noncomputable def delta_Right.k4.body (J : Jn) (dFrom : Int) (dTo : Int) (dTerm : Int) (dPairs : Sl) (dSessions : Sl) (H1 : Hp) (x3 : Bool) (Q : Value → Hp → Prop) : Prop :=
 
 Br x3 (
 SCalls Try.prog state_RightRows.id [.slice dPairs.a dPairs.len dPairs.cap, .slice dSessions.a dSessions.len dSessions.cap, .int .i64 512] H1 (fun r H2 => ∃ x4 : Bool, r = .bool x4 ∧ Q (.bool x4) H2))
 (Q (.bool false) H1)
theorem delta_Right.k4.eq (J : Jn) (dFrom : Int) (dTo : Int) (dTerm : Int) (dPairs : Sl) (dSessions : Sl) (H1 : Hp) (x3 : Bool) (Q : Value → Hp → Prop) : vMid Try.prog delta_Right.cf J delta_Right.fn [1, 0] [0, 1] 25 Q (delta_Right.k4.st dFrom dTo dTerm dPairs dSessions H1 x3) = delta_Right.k4.body J dFrom dTo dTerm dPairs dSessions H1 x3 Q := by kernel_rfl
theorem delta_Right.k4.step {dFrom : Int} {dTo : Int} {dTerm : Int} {dPairs : Sl} {dSessions : Sl} {H1 : Hp} {x3 : Bool} {Q : Value → Hp → Prop} (h : delta_Right.k4.body J0 dFrom dTo dTerm dPairs dSessions H1 x3 Q) : delta_Right.k4 J0 dFrom dTo dTerm dPairs dSessions H1 x3 Q := step_of (vMid Try.prog delta_Right.cf J0 delta_Right.fn [1, 0] [0, 1] 25 Q) (delta_Right.k4.st dFrom dTo dTerm dPairs dSessions H1 x3) (delta_Right.k4.eq J0 dFrom dTo dTerm dPairs dSessions H1 x3 Q) (by kernel_rfl) h
noncomputable def delta_Right.vc (J : Jn) (dFrom : Int) (dTo : Int) (dTerm : Int) (dPairs : Sl) (dSessions : Sl) (H : Hp) (Q : Value → Hp → Prop) : Prop :=
 ∀ H1 : Hp, H1 = (holes H 1) → 
 Br (decide (dFrom ≥ 0)) (
 delta_Right.k1 J dFrom dTo dTerm dPairs dSessions H1 (decide (dFrom ≤ dTo)) Q)
 (
 delta_Right.k1 J dFrom dTo dTerm dPairs dSessions H1 false Q)
theorem delta_Right.eq (J : Jn) (dFrom : Int) (dTo : Int) (dTerm : Int) (dPairs : Sl) (dSessions : Sl) (H : Hp) (Q : Value → Hp → Prop) : vFn Try.prog delta_Right.cf J delta_Right.fn [.agg #[.int .i64 dFrom, .int .i64 dTo, .int .i64 dTerm, .slice dPairs.a dPairs.len dPairs.cap, .slice dSessions.a dSessions.len dSessions.cap]] H Q = delta_Right.vc J dFrom dTo dTerm dPairs dSessions H Q := by kernel_rfl
theorem delta_Right.calls {dFrom : Int} {dTo : Int} {dTerm : Int} {dPairs : Sl} {dSessions : Sl} {H : Hp} {Q : Value → Hp → Prop} (h : delta_Right.vc J0 dFrom dTo dTerm dPairs dSessions H Q) : SCalls Try.prog delta_Right.id [.agg #[.int .i64 dFrom, .int .i64 dTo, .int .i64 dTerm, .slice dPairs.a dPairs.len dPairs.cap, .slice dSessions.a dSessions.len dSessions.cap]] H Q := vFn_of Try.mixed Try.func26 (delta_Right.eq J0 dFrom dTo dTerm dPairs dSessions H Q) h

/-! 27: tephra/delta.Bytes -/
noncomputable def delta_Bytes.cf : Cfg := ⟨[1, 1000003], [], [(3, [1, 3], true)], [], true, []⟩
noncomputable def delta_Bytes.k1.st (dFrom : Int) (dTo : Int) (dTerm : Int) (dPairs : Sl) (dSessions : Sl) (b : Nat) (H5 : Hp) : VS := ⟨mkFr 24 [(1, .loc 0 0), (3, .v (.pointer (some (Addr.mk b 0 none))))], [(T_delta_Delta, [.int .i64 dFrom, .int .i64 dTo, .int .i64 dTerm, .slice dPairs.a dPairs.len dPairs.cap, .slice dSessions.a dSessions.len dSessions.cap])], H5⟩
noncomputable def delta_Bytes.k1 (J : Jn) (dFrom : Int) (dTo : Int) (dTerm : Int) (dPairs : Sl) (dSessions : Sl) (b : Nat) (H5 : Hp) (Q : Value → Hp → Prop) : Prop := J (vSeg Try.prog delta_Bytes.cf J delta_Bytes.fn [1, 1, 1] [0, 1, 1] Q) (delta_Bytes.k1.st dFrom dTo dTerm dPairs dSessions b H5)
attribute [irreducible] delta_Bytes.k1
noncomputable def delta_Bytes.k1.body (J : Jn) (dFrom : Int) (dTo : Int) (dTerm : Int) (dPairs : Sl) (dSessions : Sl) (b : Nat) (H5 : Hp) (Q : Value → Hp → Prop) : Prop :=
 
 SCalls Try.prog state_PutRows.id [.pointer (some (Addr.mk b 0 none)), .slice dPairs.a dPairs.len dPairs.cap, .slice dSessions.a dSessions.len dSessions.cap] H5 (fun r3 H6 => r3 = .tuple #[] ∧ 
 SCalls Try.prog pack_Writer_Bytes.id [.pointer (some (Addr.mk b 0 none))] H6 (fun r4 H7 => ∃ x3 : Sl, r4 = .slice x3.a x3.len x3.cap ∧ Q (.slice x3.a x3.len x3.cap) H7))
theorem delta_Bytes.k1.eq (J : Jn) (dFrom : Int) (dTo : Int) (dTerm : Int) (dPairs : Sl) (dSessions : Sl) (b : Nat) (H5 : Hp) (Q : Value → Hp → Prop) : vSeg Try.prog delta_Bytes.cf J delta_Bytes.fn [1, 1, 1] [0, 1, 1] Q (delta_Bytes.k1.st dFrom dTo dTerm dPairs dSessions b H5) = delta_Bytes.k1.body J dFrom dTo dTerm dPairs dSessions b H5 Q := by kernel_rfl
theorem delta_Bytes.k1.step {dFrom : Int} {dTo : Int} {dTerm : Int} {dPairs : Sl} {dSessions : Sl} {b : Nat} {H5 : Hp} {Q : Value → Hp → Prop} (h : delta_Bytes.k1.body J0 dFrom dTo dTerm dPairs dSessions b H5 Q) : delta_Bytes.k1 J0 dFrom dTo dTerm dPairs dSessions b H5 Q := step_of (vSeg Try.prog delta_Bytes.cf J0 delta_Bytes.fn [1, 1, 1] [0, 1, 1] Q) (delta_Bytes.k1.st dFrom dTo dTerm dPairs dSessions b H5) (delta_Bytes.k1.eq J0 dFrom dTo dTerm dPairs dSessions b H5 Q) (by kernel_rfl) h
noncomputable def delta_Bytes.vc (J : Jn) (dFrom : Int) (dTo : Int) (dTerm : Int) (dPairs : Sl) (dSessions : Sl) (H : Hp) (Q : Value → Hp → Prop) : Prop :=
 ∀ H1 : Hp, H1 = (holes H 1) → ∀ b : Nat, b = Array.size H1 → ∀ H2 : Hp, H2 = (Array.push H1 (.cells #[.slice none 0 0] T_pack_Writer)) → 
 SCalls Try.prog pack_Writer_Num.id [.pointer (some (Addr.mk b 0 none)), .int .i64 dFrom] H2 (fun r H3 => ∃ x : Option Addr, r = .pointer x ∧ 
 SCalls Try.prog pack_Writer_Num.id [.pointer x, .int .i64 dTo] H3 (fun r1 H4 => ∃ x1 : Option Addr, r1 = .pointer x1 ∧ 
 SCalls Try.prog pack_Writer_Num.id [.pointer x1, .int .i64 dTerm] H4 (fun r2 H5 => ∃ x2 : Option Addr, r2 = .pointer x2 ∧ 
 delta_Bytes.k1 J dFrom dTo dTerm dPairs dSessions b H5 Q)))
theorem delta_Bytes.eq (J : Jn) (dFrom : Int) (dTo : Int) (dTerm : Int) (dPairs : Sl) (dSessions : Sl) (H : Hp) (Q : Value → Hp → Prop) : vFn Try.prog delta_Bytes.cf J delta_Bytes.fn [.agg #[.int .i64 dFrom, .int .i64 dTo, .int .i64 dTerm, .slice dPairs.a dPairs.len dPairs.cap, .slice dSessions.a dSessions.len dSessions.cap]] H Q = delta_Bytes.vc J dFrom dTo dTerm dPairs dSessions H Q := by kernel_rfl
theorem delta_Bytes.calls {dFrom : Int} {dTo : Int} {dTerm : Int} {dPairs : Sl} {dSessions : Sl} {H : Hp} {Q : Value → Hp → Prop} (h : delta_Bytes.vc J0 dFrom dTo dTerm dPairs dSessions H Q) : SCalls Try.prog delta_Bytes.id [.agg #[.int .i64 dFrom, .int .i64 dTo, .int .i64 dTerm, .slice dPairs.a dPairs.len dPairs.cap, .slice dSessions.a dSessions.len dSessions.cap]] H Q := vFn_of Try.mixed Try.func27 (delta_Bytes.eq J0 dFrom dTo dTerm dPairs dSessions H Q) h

/-! 28: tephra/delta.Same -/
noncomputable def delta_Same.cf : Cfg := ⟨[2, 3, 1000003], [], [], [], true, []⟩
noncomputable def delta_Same.vc (J : Jn) (aFrom : Int) (aTo : Int) (aTerm : Int) (aPairs : Sl) (aSessions : Sl) (bFrom : Int) (bTo : Int) (bTerm : Int) (bPairs : Sl) (bSessions : Sl) (H : Hp) (Q : Value → Hp → Prop) : Prop :=
 ∀ H1 : Hp, H1 = (holes H 1) → ∀ H2 : Hp, H2 = (holes H1 1) → 
 SCalls Try.prog delta_Bytes.id [.agg #[.int .i64 aFrom, .int .i64 aTo, .int .i64 aTerm, .slice aPairs.a aPairs.len aPairs.cap, .slice aSessions.a aSessions.len aSessions.cap]] H2 (fun r H3 => ∃ x : Sl, r = .slice x.a x.len x.cap ∧ 
  (vB2S H3 x.a x.len (fun s => 
 SCalls Try.prog delta_Bytes.id [.agg #[.int .i64 bFrom, .int .i64 bTo, .int .i64 bTerm, .slice bPairs.a bPairs.len bPairs.cap, .slice bSessions.a bSessions.len bSessions.cap]] H3 (fun r1 H4 => ∃ x1 : Sl, r1 = .slice x1.a x1.len x1.cap ∧ vB2S H4 x1.a x1.len (fun s1 => Q (.bool (s.toList == s1.toList)) H4)))) ∧ 
  (
 SCalls Try.prog delta_Bytes.id [.agg #[.int .i64 bFrom, .int .i64 bTo, .int .i64 bTerm, .slice bPairs.a bPairs.len bPairs.cap, .slice bSessions.a bSessions.len bSessions.cap]] H3 (fun r2 H5 => ∃ x2 : Sl, r2 = .slice x2.a x2.len x2.cap ∧ 
  (vB2S H5 x.a x.len (fun s2 => vB2S H5 x2.a x2.len (fun s3 => Q (.bool (s2.toList == s3.toList)) H5))) ∧ 
  (vB2S H5 x2.a x2.len (fun s4 => vB2S H5 x.a x.len (fun s5 => Q (.bool (s5.toList == s4.toList)) H5))))))
theorem delta_Same.eq (J : Jn) (aFrom : Int) (aTo : Int) (aTerm : Int) (aPairs : Sl) (aSessions : Sl) (bFrom : Int) (bTo : Int) (bTerm : Int) (bPairs : Sl) (bSessions : Sl) (H : Hp) (Q : Value → Hp → Prop) : vFn Try.prog delta_Same.cf J delta_Same.fn [.agg #[.int .i64 aFrom, .int .i64 aTo, .int .i64 aTerm, .slice aPairs.a aPairs.len aPairs.cap, .slice aSessions.a aSessions.len aSessions.cap], .agg #[.int .i64 bFrom, .int .i64 bTo, .int .i64 bTerm, .slice bPairs.a bPairs.len bPairs.cap, .slice bSessions.a bSessions.len bSessions.cap]] H Q = delta_Same.vc J aFrom aTo aTerm aPairs aSessions bFrom bTo bTerm bPairs bSessions H Q := by kernel_rfl
theorem delta_Same.calls {aFrom : Int} {aTo : Int} {aTerm : Int} {aPairs : Sl} {aSessions : Sl} {bFrom : Int} {bTo : Int} {bTerm : Int} {bPairs : Sl} {bSessions : Sl} {H : Hp} {Q : Value → Hp → Prop} (h : delta_Same.vc J0 aFrom aTo aTerm aPairs aSessions bFrom bTo bTerm bPairs bSessions H Q) : SCalls Try.prog delta_Same.id [.agg #[.int .i64 aFrom, .int .i64 aTo, .int .i64 aTerm, .slice aPairs.a aPairs.len aPairs.cap, .slice aSessions.a aSessions.len aSessions.cap], .agg #[.int .i64 bFrom, .int .i64 bTo, .int .i64 bTerm, .slice bPairs.a bPairs.len bPairs.cap, .slice bSessions.a bSessions.len bSessions.cap]] H Q := vFn_of Try.mixed Try.func28 (delta_Same.eq J0 aFrom aTo aTerm aPairs aSessions bFrom bTo bTerm bPairs bSessions H Q) h

/-! 29: tephra/tephralaw08.Three -/
noncomputable def tephralaw08_Three.cf : Cfg := ⟨[6, 1000003], [], [], [], true, []⟩
noncomputable def tephralaw08_Three.vc (J : Jn) (says : Sl) (one : Int) (two : Int) (H : Hp) (Q : Value → Hp → Prop) : Prop :=
 ∀ H1 : Hp, H1 = (holes H 1) → 
 SCalls Try.prog tephralaw06_Entries.id [.slice says.a says.len says.cap, .int .i64 1, .int .i64 0] H1 (fun r H2 => ∃ x : Sl, r = .slice x.a x.len x.cap ∧ ((w64 (((x.len : Nat) : Int) + 1)) : Int) ≠ 0 ∧ ((w64 ((w64 (((x.len : Nat) : Int) - (Int.tmod (w64 (one)) (w64 (((x.len : Nat) : Int) + 1))))) + 1)) : Int) ≠ 0 ∧ ((0 : Int) ≤ (Int.tmod (w64 (one)) (w64 (((x.len : Nat) : Int) + 1))) ∧ (Int.tmod (w64 (one)) (w64 (((x.len : Nat) : Int) + 1))) ≤ ((x.cap : Nat) : Int)) ∧ ((0 : Int) ≤ (w64 ((Int.tmod (w64 (one)) (w64 (((x.len : Nat) : Int) + 1))) + (Int.tmod (w64 (two)) (w64 ((w64 (((x.len : Nat) : Int) - (Int.tmod (w64 (one)) (w64 (((x.len : Nat) : Int) + 1))))) + 1))))) ∧ (w64 ((Int.tmod (w64 (one)) (w64 (((x.len : Nat) : Int) + 1))) + (Int.tmod (w64 (two)) (w64 ((w64 (((x.len : Nat) : Int) - (Int.tmod (w64 (one)) (w64 (((x.len : Nat) : Int) + 1))))) + 1))))) ≤ ((x.cap : Nat) : Int)) ∧ 
 SCalls Try.prog state_Fold.id [.agg #[.int .i64 0, .int .i64 0, .slice none 0 0, .slice none 0 0], .slice (cutA x.a x.cap 0 8) (((Int.tmod (w64 (one)) (w64 (((x.len : Nat) : Int) + 1))) : Int).toNat) x.cap] H2 (fun r1 H3 => ∃ Index : Int, ∃ Term : Int, ∃ Pairs : Sl, ∃ Sessions : Sl, r1 = .agg #[.int .i64 Index, .int .i64 Term, .slice Pairs.a Pairs.len Pairs.cap, .slice Sessions.a Sessions.len Sessions.cap] ∧ 
 SCalls Try.prog state_Fold.id [.agg #[.int .i64 0, .int .i64 0, .slice none 0 0, .slice none 0 0], .slice (cutA x.a x.cap 0 8) (((w64 ((Int.tmod (w64 (one)) (w64 (((x.len : Nat) : Int) + 1))) + (Int.tmod (w64 (two)) (w64 ((w64 (((x.len : Nat) : Int) - (Int.tmod (w64 (one)) (w64 (((x.len : Nat) : Int) + 1))))) + 1))))) : Int).toNat) x.cap] H3 (fun r2 H4 => ∃ Index1 : Int, ∃ Term1 : Int, ∃ Pairs1 : Sl, ∃ Sessions1 : Sl, r2 = .agg #[.int .i64 Index1, .int .i64 Term1, .slice Pairs1.a Pairs1.len Pairs1.cap, .slice Sessions1.a Sessions1.len Sessions1.cap] ∧ 
 SCalls Try.prog state_Fold.id [.agg #[.int .i64 0, .int .i64 0, .slice none 0 0, .slice none 0 0], .slice x.a x.len x.cap] H4 (fun r3 H5 => ∃ Index2 : Int, ∃ Term2 : Int, ∃ Pairs2 : Sl, ∃ Sessions2 : Sl, r3 = .agg #[.int .i64 Index2, .int .i64 Term2, .slice Pairs2.a Pairs2.len Pairs2.cap, .slice Sessions2.a Sessions2.len Sessions2.cap] ∧ Q (.agg #[.int .i64 Index, .int .i64 Term, .slice Pairs.a Pairs.len Pairs.cap, .slice Sessions.a Sessions.len Sessions.cap, .int .i64 Index1, .int .i64 Term1, .slice Pairs1.a Pairs1.len Pairs1.cap, .slice Sessions1.a Sessions1.len Sessions1.cap, .int .i64 Index2, .int .i64 Term2, .slice Pairs2.a Pairs2.len Pairs2.cap, .slice Sessions2.a Sessions2.len Sessions2.cap]) H5))))
theorem tephralaw08_Three.eq (J : Jn) (says : Sl) (one : Int) (two : Int) (H : Hp) (Q : Value → Hp → Prop) : vFn Try.prog tephralaw08_Three.cf J tephralaw08_Three.fn [.slice says.a says.len says.cap, .int .u8 one, .int .u8 two] H Q = tephralaw08_Three.vc J says one two H Q := by kernel_rfl
theorem tephralaw08_Three.calls {says : Sl} {one : Int} {two : Int} {H : Hp} {Q : Value → Hp → Prop} (h : tephralaw08_Three.vc J0 says one two H Q) : SCalls Try.prog tephralaw08_Three.id [.slice says.a says.len says.cap, .int .u8 one, .int .u8 two] H Q := vFn_of Try.mixed Try.func29 (tephralaw08_Three.eq J0 says one two H Q) h

/-! 30: tephra/delta.Between -/
noncomputable def delta_Between.cf : Cfg := ⟨[2, 3, 4, 10, 12, 1000003], [(1000008, [7]), (1000012, [8]), (1000015, [6, 7, 8])], [(2, [2, 3, 4, 5, 29], true), (4, [2, 3, 4, 5, 6], true), (20, [6, 13, 14, 84], true)], [], true, []⟩
noncomputable def delta_Between.cfr : Cfg := { delta_Between.cf with rf := false }
noncomputable def delta_Between.r1.fr (b2 : Nat) : List AV := mkFr 101 [(7, .v (.pointer (some (Addr.mk b2 0 none))))]
noncomputable def delta_Between.r1.code : Code := sub (bodyOf delta_Between.fn) [1, 1, 1, 1, 0, 1, 0]
noncomputable def delta_Between.r1.rec (fn : FuncId) (tm : Array Value) (d : Nat) (st : LoopState) (pd : Option Code) : Obj := recO fn tm (rgP delta_Between.r1.code) (rgA delta_Between.r1.code) (rgB delta_Between.r1.code) d st pd
noncomputable def delta_Between.r2.fr (b3 : Nat) : List AV := mkFr 101 [(8, .v (.pointer (some (Addr.mk b3 0 none))))]
noncomputable def delta_Between.r2.code : Code := sub (bodyOf delta_Between.fn) [1, 1, 1, 1, 1, 0, 1, 0]
noncomputable def delta_Between.r2.rec (fn : FuncId) (tm : Array Value) (d : Nat) (st : LoopState) (pd : Option Code) : Obj := recO fn tm (rgP delta_Between.r2.code) (rgA delta_Between.r2.code) (rgB delta_Between.r2.code) d st pd
noncomputable def delta_Between.r3.fr (d : Addr) (b2 : Nat) (b3 : Nat) : List AV := mkFr 101 [(6, .v (.pointer (some d))), (7, .v (.pointer (some (Addr.mk b2 0 none)))), (8, .v (.pointer (some (Addr.mk b3 0 none))))]
noncomputable def delta_Between.r3.code : Code := sub (bodyOf delta_Between.fn) [1, 1, 1, 1, 1, 1, 0, 1, 0]
noncomputable def delta_Between.r3.rec (fn : FuncId) (tm : Array Value) (d : Nat) (st : LoopState) (pd : Option Code) : Obj := recO fn tm (rgP delta_Between.r3.code) (rgA delta_Between.r3.code) (rgB delta_Between.r3.code) d st pd
noncomputable def delta_Between.k1.st (aIndex : Int) (aTerm : Int) (aPairs : Sl) (aSessions : Sl) (bIndex : Int) (bTerm : Int) (bPairs : Sl) (bSessions : Sl) (H3 : Hp) (x : Bool) : VS := ⟨mkFr 101 [(2, .loc 0 0), (3, .loc 1 0), (4, .loc 2 0), (5, .v (.int .i64 0)), (29, .v (.bool x))], [(T_api_State, [.int .i64 aIndex, .int .i64 aTerm, .slice aPairs.a aPairs.len aPairs.cap, .slice aSessions.a aSessions.len aSessions.cap]), (T_api_State, [.int .i64 bIndex, .int .i64 bTerm, .slice bPairs.a bPairs.len bPairs.cap, .slice bSessions.a bSessions.len bSessions.cap]), (T_delta_Delta, [.int .i64 0, .int .i64 0, .int .i64 0, .slice none 0 0, .slice none 0 0])], H3⟩
noncomputable def delta_Between.k1 (J : Jn) (aIndex : Int) (aTerm : Int) (aPairs : Sl) (aSessions : Sl) (bIndex : Int) (bTerm : Int) (bPairs : Sl) (bSessions : Sl) (H3 : Hp) (x : Bool) (Q : Value → Hp → Prop) : Prop := J (vSeg Try.prog delta_Between.cf J delta_Between.fn [1, 0, 1] [0, 3, 3] Q) (delta_Between.k1.st aIndex aTerm aPairs aSessions bIndex bTerm bPairs bSessions H3 x)
noncomputable def delta_Between.k2.st (aIndex : Int) (aTerm : Int) (aPairs : Sl) (aSessions : Sl) (bIndex : Int) (bTerm : Int) (bPairs : Sl) (bSessions : Sl) (d : Addr) (H10 : Hp) : VS := ⟨mkFr 101 [(2, .loc 0 0), (3, .loc 1 0), (4, .loc 2 0), (5, .v (.int .i64 0)), (6, .v (.pointer (some d)))], [(T_api_State, [.int .i64 aIndex, .int .i64 aTerm, .slice aPairs.a aPairs.len aPairs.cap, .slice aSessions.a aSessions.len aSessions.cap]), (T_api_State, [.int .i64 bIndex, .int .i64 bTerm, .slice bPairs.a bPairs.len bPairs.cap, .slice bSessions.a bSessions.len bSessions.cap]), (T_delta_Delta, [.int .i64 0, .int .i64 0, .int .i64 0, .slice none 0 0, .slice none 0 0])], H10⟩
noncomputable def delta_Between.k2 (J : Jn) (aIndex : Int) (aTerm : Int) (aPairs : Sl) (aSessions : Sl) (bIndex : Int) (bTerm : Int) (bPairs : Sl) (bSessions : Sl) (d : Addr) (H10 : Hp) (Q : Value → Hp → Prop) : Prop := J (vSeg Try.prog delta_Between.cf J delta_Between.fn [1, 1, 1] [0, 3, 3] Q) (delta_Between.k2.st aIndex aTerm aPairs aSessions bIndex bTerm bPairs bSessions d H10)
noncomputable def delta_Between.k3.st (d : Addr) (k2 : ByteArray) (x8 : ByteArray) (H33 : Hp) (x12 : Bool) : VS := ⟨mkFr 101 [(6, .v (.pointer (some d))), (13, .v (.string k2)), (14, .v (.string x8)), (84, .v (.bool x12))], [], H33⟩
noncomputable def delta_Between.k3 (J : Jn) (d : Addr) (l2 : Nat) (rc2 : LoopState → Option Code → Obj) (k2 : ByteArray) (x8 : ByteArray) (H33 : Hp) (x12 : Bool) (Q : Value → Hp → Prop) : Prop := J (vSegC Try.prog delta_Between.cfr J (rgB delta_Between.r3.code) [0, 1, 1, 0, 1, 1, 1] [0, 0, 0, 0] (roundK l2 rc2 Q)) (delta_Between.k3.st d k2 x8 H33 x12)
attribute [irreducible] delta_Between.k1 delta_Between.k2 delta_Between.k3
noncomputable def delta_Between.k1.body (J : Jn) (aIndex : Int) (aTerm : Int) (aPairs : Sl) (aSessions : Sl) (bIndex : Int) (bTerm : Int) (bPairs : Sl) (bSessions : Sl) (H3 : Hp) (x : Bool) (Q : Value → Hp → Prop) : Prop :=
 
 Br x (Q (.tuple #[.agg #[.int .i64 0, .int .i64 0, .int .i64 0, .slice none 0 0, .slice none 0 0], .int .i64 8]) H3)
 (
  (
 vApp Try.prog T_sl_api_Session none 0 0 (.slice bSessions.a bSessions.len bSessions.cap) H3 (fun ap H4 => ∀ b : Nat, b = Array.size H4 → ∀ H5 : Hp, H5 = (Array.push H4 (.cells #[.int .i64 0, .int .i64 0, .int .i64 0, .slice none 0 0, .slice none 0 0] T_delta_Delta)) → WrAt H5 (Addr.mk b 0 none) 5 ∧ ∀ H6 : Hp, H6 = (Hp.setCells H5 (Addr.mk b 0 none) [.int .i64 aIndex, .int .i64 bIndex, .int .i64 bTerm, .slice none 0 0, .slice ap.a ap.len ap.cap] 0) → 
 delta_Between.k2 J aIndex aTerm aPairs aSessions bIndex bTerm bPairs bSessions ((Addr.mk b 0 none)) H6 Q)) ∧ 
  (∀ b1 : Nat, b1 = Array.size H3 → ∀ H7 : Hp, H7 = (Array.push H3 (.cells #[.int .i64 0, .int .i64 0, .int .i64 0, .slice none 0 0, .slice none 0 0] T_delta_Delta)) → 
 vApp Try.prog T_sl_api_Session none 0 0 (.slice bSessions.a bSessions.len bSessions.cap) H7 (fun ap1 H8 => WrAt H8 (Addr.mk b1 0 none) 5 ∧ ∀ H9 : Hp, H9 = (Hp.setCells H8 (Addr.mk b1 0 none) [.int .i64 aIndex, .int .i64 bIndex, .int .i64 bTerm, .slice none 0 0, .slice ap1.a ap1.len ap1.cap] 0) → 
 delta_Between.k2 J aIndex aTerm aPairs aSessions bIndex bTerm bPairs bSessions ((Addr.mk b1 0 none)) H9 Q)))
theorem delta_Between.k1.eq (J : Jn) (aIndex : Int) (aTerm : Int) (aPairs : Sl) (aSessions : Sl) (bIndex : Int) (bTerm : Int) (bPairs : Sl) (bSessions : Sl) (H3 : Hp) (x : Bool) (Q : Value → Hp → Prop) : vSeg Try.prog delta_Between.cf J delta_Between.fn [1, 0, 1] [0, 3, 3] Q (delta_Between.k1.st aIndex aTerm aPairs aSessions bIndex bTerm bPairs bSessions H3 x) = delta_Between.k1.body J aIndex aTerm aPairs aSessions bIndex bTerm bPairs bSessions H3 x Q := by kernel_rfl
theorem delta_Between.k1.step {aIndex : Int} {aTerm : Int} {aPairs : Sl} {aSessions : Sl} {bIndex : Int} {bTerm : Int} {bPairs : Sl} {bSessions : Sl} {H3 : Hp} {x : Bool} {Q : Value → Hp → Prop} (h : delta_Between.k1.body J0 aIndex aTerm aPairs aSessions bIndex bTerm bPairs bSessions H3 x Q) : delta_Between.k1 J0 aIndex aTerm aPairs aSessions bIndex bTerm bPairs bSessions H3 x Q := step_of (vSeg Try.prog delta_Between.cf J0 delta_Between.fn [1, 0, 1] [0, 3, 3] Q) (delta_Between.k1.st aIndex aTerm aPairs aSessions bIndex bTerm bPairs bSessions H3 x) (delta_Between.k1.eq J0 aIndex aTerm aPairs aSessions bIndex bTerm bPairs bSessions H3 x Q) (by kernel_rfl) h
noncomputable def delta_Between.k2.body (J : Jn) (aIndex : Int) (aTerm : Int) (aPairs : Sl) (aSessions : Sl) (bIndex : Int) (bTerm : Int) (bPairs : Sl) (bSessions : Sl) (d : Addr) (H10 : Hp) (Q : Value → Hp → Prop) : Prop :=
 ∀ b2 : Nat, b2 = Array.size H10 → ∀ H11 : Hp, H11 = (Array.push H10 (.cells #[.slice none 0 0] T_sorted_Map_string_string)) → ∀ b3 : Nat, b3 = Array.size H11 → ∀ H12 : Hp, H12 = (Array.push H11 (.cells #[.slice none 0 0] T_sorted_Map_string_string)) → 
 SCalls Try.prog delta_seq.id [.slice aPairs.a aPairs.len aPairs.cap] H12 (fun r H13 => ∃ x1 : Fv, r = .func x1.fn x1.fi x1.ca ∧ 
 ∀ fn : FuncId, ∀ tm : Array Value, TmOf (delta_Between.r1.fr b2) tm → vRg Try.prog (.func x1.fn x1.fi x1.ca) (Array.size H13 + 1) (Array.push (Array.push H13 hole) (delta_Between.r1.rec fn tm (Array.size H13) .ready none)) (fun H18 => ∃ st : LoopState, ∃ pd : Option Code, H18[(Array.size H13 + 1)]? = some (delta_Between.r1.rec fn tm (Array.size H13) st pd) ∧ st ≠ .busy ∧ ∀ H19 : Hp, H19 = (Array.setIfInBounds H18 (Array.size H13 + 1) (delta_Between.r1.rec fn tm (Array.size H13) .exhausted pd)) → ((pd = none → 
 SCalls Try.prog delta_seq.id [.slice bPairs.a bPairs.len bPairs.cap] H19 (fun r2 H20 => ∃ x3 : Fv, r2 = .func x3.fn x3.fi x3.ca ∧ 
 ∀ fn1 : FuncId, ∀ tm1 : Array Value, TmOf (delta_Between.r2.fr b3) tm1 → vRg Try.prog (.func x3.fn x3.fi x3.ca) (Array.size H20 + 1) (Array.push (Array.push H20 hole) (delta_Between.r2.rec fn1 tm1 (Array.size H20) .ready none)) (fun H25 => ∃ st1 : LoopState, ∃ pd1 : Option Code, H25[(Array.size H20 + 1)]? = some (delta_Between.r2.rec fn1 tm1 (Array.size H20) st1 pd1) ∧ st1 ≠ .busy ∧ ∀ H26 : Hp, H26 = (Array.setIfInBounds H25 (Array.size H20 + 1) (delta_Between.r2.rec fn1 tm1 (Array.size H20) .exhausted pd1)) → ((pd1 = none → 
 SCalls Try.prog sorted_Map_string_string_All.id [.pointer (some (Addr.mk b2 0 none))] H26 (fun r4 H27 => ∃ x5 : Fv, r4 = .func x5.fn x5.fi x5.ca ∧ 
 SCalls Try.prog sorted_Map_string_string_All.id [.pointer (some (Addr.mk b3 0 none))] H27 (fun r5 H28 => ∃ x6 : Fv, r5 = .func x6.fn x6.fi x6.ca ∧ 
 SCalls Try.prog sorted_Merge_string_string.id [.func x5.fn x5.fi x5.ca, .func x6.fn x6.fi x6.ca] H28 (fun r6 H29 => ∃ x7 : Fv, r6 = .func x7.fn x7.fi x7.ca ∧ 
 ∀ fn2 : FuncId, ∀ tm2 : Array Value, TmOf (delta_Between.r3.fr d b2 b3) tm2 → vRg Try.prog (.func x7.fn x7.fi x7.ca) (Array.size H29 + 1) (Array.push (Array.push H29 hole) (delta_Between.r3.rec fn2 tm2 (Array.size H29) .ready none)) (fun H40 => ∃ st2 : LoopState, ∃ pd2 : Option Code, H40[(Array.size H29 + 1)]? = some (delta_Between.r3.rec fn2 tm2 (Array.size H29) st2 pd2) ∧ st2 ≠ .busy ∧ ∀ H41 : Hp, H41 = (Array.setIfInBounds H40 (Array.size H29 + 1) (delta_Between.r3.rec fn2 tm2 (Array.size H29) .exhausted pd2)) → ((pd2 = none → ∃ From : Int, ∃ To : Int, ∃ Term : Int, ∃ Pairs2 : Sl, ∃ Sessions : Sl, RowAt H41 d [.int .i64 From, .int .i64 To, .int .i64 Term, .slice Pairs2.a Pairs2.len Pairs2.cap, .slice Sessions.a Sessions.len Sessions.cap] ∧ Q (.tuple #[.agg #[.int .i64 From, .int .i64 To, .int .i64 Term, .slice Pairs2.a Pairs2.len Pairs2.cap, .slice Sessions.a Sessions.len Sessions.cap], .int .i64 0]) H41) ∧ (pd2 = some .ret → Q (.tuple #[.agg #[.int .i64 0, .int .i64 0, .int .i64 0, .slice none 0 0, .slice none 0 0], .int .i64 0]) H41) ∧ (True) ∧ (pd2 = none ∨ pd2 = some .ret ∨ ∃ i ∈ ([] : List Nat), pd2 = some (.exit i)))))))) ∧ (pd1 = some .ret → Q (.tuple #[.agg #[.int .i64 0, .int .i64 0, .int .i64 0, .slice none 0 0, .slice none 0 0], .int .i64 0]) H26) ∧ (True) ∧ (pd1 = none ∨ pd1 = some .ret ∨ ∃ i ∈ ([] : List Nat), pd1 = some (.exit i)))))) ∧ (pd = some .ret → Q (.tuple #[.agg #[.int .i64 0, .int .i64 0, .int .i64 0, .slice none 0 0, .slice none 0 0], .int .i64 0]) H19) ∧ (True) ∧ (pd = none ∨ pd = some .ret ∨ ∃ i ∈ ([] : List Nat), pd = some (.exit i)))))
theorem delta_Between.k2.eq (J : Jn) (aIndex : Int) (aTerm : Int) (aPairs : Sl) (aSessions : Sl) (bIndex : Int) (bTerm : Int) (bPairs : Sl) (bSessions : Sl) (d : Addr) (H10 : Hp) (Q : Value → Hp → Prop) : vSeg Try.prog delta_Between.cf J delta_Between.fn [1, 1, 1] [0, 3, 3] Q (delta_Between.k2.st aIndex aTerm aPairs aSessions bIndex bTerm bPairs bSessions d H10) = delta_Between.k2.body J aIndex aTerm aPairs aSessions bIndex bTerm bPairs bSessions d H10 Q := by kernel_rfl
theorem delta_Between.k2.step {aIndex : Int} {aTerm : Int} {aPairs : Sl} {aSessions : Sl} {bIndex : Int} {bTerm : Int} {bPairs : Sl} {bSessions : Sl} {d : Addr} {H10 : Hp} {Q : Value → Hp → Prop} (h : delta_Between.k2.body J0 aIndex aTerm aPairs aSessions bIndex bTerm bPairs bSessions d H10 Q) : delta_Between.k2 J0 aIndex aTerm aPairs aSessions bIndex bTerm bPairs bSessions d H10 Q := step_of (vSeg Try.prog delta_Between.cf J0 delta_Between.fn [1, 1, 1] [0, 3, 3] Q) (delta_Between.k2.st aIndex aTerm aPairs aSessions bIndex bTerm bPairs bSessions d H10) (delta_Between.k2.eq J0 aIndex aTerm aPairs aSessions bIndex bTerm bPairs bSessions d H10 Q) (by kernel_rfl) h
noncomputable def delta_Between.k3.body (J : Jn) (d : Addr) (l2 : Nat) (rc2 : LoopState → Option Code → Obj) (k2 : ByteArray) (x8 : ByteArray) (H33 : Hp) (x12 : Bool) (Q : Value → Hp → Prop) : Prop :=
 
 Br x12 (∃ Pairs1 : Sl, Hp.cell? H33 (d.add 3) = some (.slice Pairs1.a Pairs1.len Pairs1.cap) ∧ ∀ b5 : Nat, b5 = Array.size H33 → ∀ H37 : Hp, H37 = (Array.push H33 (.cells #[.string k2, .string x8, .bool false] T_api_Pair)) → 
 vApp Try.prog T_sl_api_Pair Pairs1.a Pairs1.len Pairs1.cap (.slice (some (Addr.mk b5 0 none)) 1 1) H37 (fun ap3 H38 => WrAt H38 (d.add 3) 1 ∧ ∀ H39 : Hp, H39 = (Hp.setCell H38 (d.add 3) (.slice ap3.a ap3.len ap3.cap)) → 
 ((∃ st : LoopState, ∃ pd : Option Code, H39[l2]? = some (rc2 st pd)) ∧ Q (.bool true) (Array.setIfInBounds H39 l2 (rc2 .ready none)))))
 (
 ((∃ st : LoopState, ∃ pd : Option Code, H33[l2]? = some (rc2 st pd)) ∧ Q (.bool true) (Array.setIfInBounds H33 l2 (rc2 .ready none))))
theorem delta_Between.k3.eq (J : Jn) (d : Addr) (l2 : Nat) (rc2 : LoopState → Option Code → Obj) (k2 : ByteArray) (x8 : ByteArray) (H33 : Hp) (x12 : Bool) (Q : Value → Hp → Prop) : vSegC Try.prog delta_Between.cfr J (rgB delta_Between.r3.code) [0, 1, 1, 0, 1, 1, 1] [0, 0, 0, 0] (roundK l2 rc2 Q) (delta_Between.k3.st d k2 x8 H33 x12) = delta_Between.k3.body J d l2 rc2 k2 x8 H33 x12 Q := by kernel_rfl
theorem delta_Between.k3.step {d : Addr} {l2 : Nat} {rc2 : LoopState → Option Code → Obj} {k2 : ByteArray} {x8 : ByteArray} {H33 : Hp} {x12 : Bool} {Q : Value → Hp → Prop} (h : delta_Between.k3.body J0 d l2 rc2 k2 x8 H33 x12 Q) : delta_Between.k3 J0 d l2 rc2 k2 x8 H33 x12 Q := step_of (vSegC Try.prog delta_Between.cfr J0 (rgB delta_Between.r3.code) [0, 1, 1, 0, 1, 1, 1] [0, 0, 0, 0] (roundK l2 rc2 Q)) (delta_Between.k3.st d k2 x8 H33 x12) (delta_Between.k3.eq J0 d l2 rc2 k2 x8 H33 x12 Q) (by kernel_rfl) h
noncomputable def delta_Between.r1.body (J : Jn) (b2 : Nat) (l : Nat) (rc : LoopState → Option Code → Obj) (k : ByteArray) (vKey : ByteArray) (vValue : ByteArray) (vGone : Bool) (H14 : Hp) (Q : Value → Hp → Prop) : Prop :=
 ∀ H15 : Hp, H15 = (holes H14 1) → H15[l]? = some (rc .ready none) ∧ ∀ H16 : Hp, H16 = (Array.setIfInBounds H15 l (rc .busy none)) → 
 SCalls Try.prog sorted_Map_string_string_Put.id [.pointer (some (Addr.mk b2 0 none)), .string k, .string vValue] H16 (fun r1 H17 => ∃ x2 : Bool, r1 = .bool x2 ∧ 
 ((∃ st : LoopState, ∃ pd : Option Code, H17[l]? = some (rc st pd)) ∧ Q (.bool true) (Array.setIfInBounds H17 l (rc .ready none))))
theorem delta_Between.r1.eq (J : Jn) (b2 : Nat) (l : Nat) (rc : LoopState → Option Code → Obj) (k : ByteArray) (vKey : ByteArray) (vValue : ByteArray) (vGone : Bool) (H14 : Hp) (Q : Value → Hp → Prop) : vRound Try.prog delta_Between.cfr J (rgA delta_Between.r1.code) (rgB delta_Between.r1.code) (setFr (delta_Between.r1.fr b2) (rgP delta_Between.r1.code).toList [.string k, .agg #[.string vKey, .string vValue, .bool vGone]]) l rc H14 Q = delta_Between.r1.body J b2 l rc k vKey vValue vGone H14 Q := by kernel_rfl
theorem delta_Between.r1.calls {b2 : Nat} {l : Nat} {k : ByteArray} {vKey : ByteArray} {vValue : ByteArray} {vGone : Bool} {H14 : Hp} {fnA : FuncId} {tmA : Array Value} {dA : Nat} {Q : Value → Hp → Prop} (hl : H14[l]? = some (delta_Between.r1.rec fnA tmA dA .ready none)) (hT : TmOf (delta_Between.r1.fr b2) tmA) (h : delta_Between.r1.body J0 b2 l (delta_Between.r1.rec fnA tmA dA) k vKey vValue vGone H14 Q) : YCalls Try.prog l [.string k, .agg #[.string vKey, .string vValue, .bool vGone]] H14 Q := vRound_calls (cf := delta_Between.cfr) (fn := fnA) (tm := tmA) (ps := rgP delta_Between.r1.code) (asg := rgA delta_Between.r1.code) (body := rgB delta_Between.r1.code) (d := dA) (fr := (delta_Between.r1.fr b2)) Try.mixed (by kernel_rfl) hl (by kernel_rfl) hT ((delta_Between.r1.eq J0 b2 l (delta_Between.r1.rec fnA tmA dA) k vKey vValue vGone H14 Q).mpr h)
noncomputable def delta_Between.r2.body (J : Jn) (b3 : Nat) (l1 : Nat) (rc1 : LoopState → Option Code → Obj) (k1 : ByteArray) (vKey1 : ByteArray) (vValue1 : ByteArray) (vGone1 : Bool) (H21 : Hp) (Q : Value → Hp → Prop) : Prop :=
 ∀ H22 : Hp, H22 = (holes H21 1) → H22[l1]? = some (rc1 .ready none) ∧ ∀ H23 : Hp, H23 = (Array.setIfInBounds H22 l1 (rc1 .busy none)) → 
 SCalls Try.prog sorted_Map_string_string_Put.id [.pointer (some (Addr.mk b3 0 none)), .string k1, .string vValue1] H23 (fun r3 H24 => ∃ x4 : Bool, r3 = .bool x4 ∧ 
 ((∃ st : LoopState, ∃ pd : Option Code, H24[l1]? = some (rc1 st pd)) ∧ Q (.bool true) (Array.setIfInBounds H24 l1 (rc1 .ready none))))
theorem delta_Between.r2.eq (J : Jn) (b3 : Nat) (l1 : Nat) (rc1 : LoopState → Option Code → Obj) (k1 : ByteArray) (vKey1 : ByteArray) (vValue1 : ByteArray) (vGone1 : Bool) (H21 : Hp) (Q : Value → Hp → Prop) : vRound Try.prog delta_Between.cfr J (rgA delta_Between.r2.code) (rgB delta_Between.r2.code) (setFr (delta_Between.r2.fr b3) (rgP delta_Between.r2.code).toList [.string k1, .agg #[.string vKey1, .string vValue1, .bool vGone1]]) l1 rc1 H21 Q = delta_Between.r2.body J b3 l1 rc1 k1 vKey1 vValue1 vGone1 H21 Q := by kernel_rfl
theorem delta_Between.r2.calls {b3 : Nat} {l1 : Nat} {k1 : ByteArray} {vKey1 : ByteArray} {vValue1 : ByteArray} {vGone1 : Bool} {H21 : Hp} {fnA : FuncId} {tmA : Array Value} {dA : Nat} {Q : Value → Hp → Prop} (hl : H21[l1]? = some (delta_Between.r2.rec fnA tmA dA .ready none)) (hT : TmOf (delta_Between.r2.fr b3) tmA) (h : delta_Between.r2.body J0 b3 l1 (delta_Between.r2.rec fnA tmA dA) k1 vKey1 vValue1 vGone1 H21 Q) : YCalls Try.prog l1 [.string k1, .agg #[.string vKey1, .string vValue1, .bool vGone1]] H21 Q := vRound_calls (cf := delta_Between.cfr) (fn := fnA) (tm := tmA) (ps := rgP delta_Between.r2.code) (asg := rgA delta_Between.r2.code) (body := rgB delta_Between.r2.code) (d := dA) (fr := (delta_Between.r2.fr b3)) Try.mixed (by kernel_rfl) hl (by kernel_rfl) hT ((delta_Between.r2.eq J0 b3 l1 (delta_Between.r2.rec fnA tmA dA) k1 vKey1 vValue1 vGone1 H21 Q).mpr h)
noncomputable def delta_Between.r3.body (J : Jn) (d : Addr) (b2 : Nat) (b3 : Nat) (l2 : Nat) (rc2 : LoopState → Option Code → Obj) (k2 : ByteArray) (v : ByteArray) (H30 : Hp) (Q : Value → Hp → Prop) : Prop :=
 H30[l2]? = some (rc2 .ready none) ∧ ∀ H31 : Hp, H31 = (Array.setIfInBounds H30 l2 (rc2 .busy none)) → 
 SCalls Try.prog sorted_Map_string_string_Get.id [.pointer (some (Addr.mk b3 0 none)), .string k2] H31 (fun r7 H32 => ∃ x8 : ByteArray, ∃ x9 : Bool, r7 = .tuple #[.string x8, .bool x9] ∧ 
 SCalls Try.prog sorted_Map_string_string_Get.id [.pointer (some (Addr.mk b2 0 none)), .string k2] H32 (fun r8 H33 => ∃ x10 : ByteArray, ∃ x11 : Bool, r8 = .tuple #[.string x10, .bool x11] ∧ 
 Br (!x9) (∃ Pairs : Sl, Hp.cell? H33 (d.add 3) = some (.slice Pairs.a Pairs.len Pairs.cap) ∧ ∀ b4 : Nat, b4 = Array.size H33 → ∀ H34 : Hp, H34 = (Array.push H33 (.cells #[.string k2, .string (ByteArray.mk #[]), .bool true] T_api_Pair)) → 
 vApp Try.prog T_sl_api_Pair Pairs.a Pairs.len Pairs.cap (.slice (some (Addr.mk b4 0 none)) 1 1) H34 (fun ap2 H35 => WrAt H35 (d.add 3) 1 ∧ ∀ H36 : Hp, H36 = (Hp.setCell H35 (d.add 3) (.slice ap2.a ap2.len ap2.cap)) → 
 ((∃ st : LoopState, ∃ pd : Option Code, H36[l2]? = some (rc2 st pd)) ∧ Q (.bool true) (Array.setIfInBounds H36 l2 (rc2 .ready none)))))
 (
 Br (!x11) (
 delta_Between.k3 J d l2 rc2 k2 x8 H33 true Q)
 (
 delta_Between.k3 J d l2 rc2 k2 x8 H33 (!(x10.toList == x8.toList)) Q))))
theorem delta_Between.r3.eq (J : Jn) (d : Addr) (b2 : Nat) (b3 : Nat) (l2 : Nat) (rc2 : LoopState → Option Code → Obj) (k2 : ByteArray) (v : ByteArray) (H30 : Hp) (Q : Value → Hp → Prop) : vRound Try.prog delta_Between.cfr J (rgA delta_Between.r3.code) (rgB delta_Between.r3.code) (setFr (delta_Between.r3.fr d b2 b3) (rgP delta_Between.r3.code).toList [.string k2, .string v]) l2 rc2 H30 Q = delta_Between.r3.body J d b2 b3 l2 rc2 k2 v H30 Q := by kernel_rfl
theorem delta_Between.r3.calls {d : Addr} {b2 : Nat} {b3 : Nat} {l2 : Nat} {k2 : ByteArray} {v : ByteArray} {H30 : Hp} {fnA : FuncId} {tmA : Array Value} {dA : Nat} {Q : Value → Hp → Prop} (hl : H30[l2]? = some (delta_Between.r3.rec fnA tmA dA .ready none)) (hT : TmOf (delta_Between.r3.fr d b2 b3) tmA) (h : delta_Between.r3.body J0 d b2 b3 l2 (delta_Between.r3.rec fnA tmA dA) k2 v H30 Q) : YCalls Try.prog l2 [.string k2, .string v] H30 Q := vRound_calls (cf := delta_Between.cfr) (fn := fnA) (tm := tmA) (ps := rgP delta_Between.r3.code) (asg := rgA delta_Between.r3.code) (body := rgB delta_Between.r3.code) (d := dA) (fr := (delta_Between.r3.fr d b2 b3)) Try.mixed (by kernel_rfl) hl (by kernel_rfl) hT ((delta_Between.r3.eq J0 d b2 b3 l2 (delta_Between.r3.rec fnA tmA dA) k2 v H30 Q).mpr h)
attribute [irreducible] delta_Between.r1.rec delta_Between.r1.fr delta_Between.r1.code delta_Between.r2.rec delta_Between.r2.fr delta_Between.r2.code delta_Between.r3.rec delta_Between.r3.fr delta_Between.r3.code
noncomputable def delta_Between.vc (J : Jn) (aIndex : Int) (aTerm : Int) (aPairs : Sl) (aSessions : Sl) (bIndex : Int) (bTerm : Int) (bPairs : Sl) (bSessions : Sl) (H : Hp) (Q : Value → Hp → Prop) : Prop :=
 ∀ H1 : Hp, H1 = (holes H 1) → ∀ H2 : Hp, H2 = (holes H1 1) → ∀ H3 : Hp, H3 = (holes H2 1) → 
 Br (decide (bIndex < aIndex)) (
 delta_Between.k1 J aIndex aTerm aPairs aSessions bIndex bTerm bPairs bSessions H3 true Q)
 (
 delta_Between.k1 J aIndex aTerm aPairs aSessions bIndex bTerm bPairs bSessions H3 (decide (bTerm < aTerm)) Q)
theorem delta_Between.eq (J : Jn) (aIndex : Int) (aTerm : Int) (aPairs : Sl) (aSessions : Sl) (bIndex : Int) (bTerm : Int) (bPairs : Sl) (bSessions : Sl) (H : Hp) (Q : Value → Hp → Prop) : vFn Try.prog delta_Between.cf J delta_Between.fn [.agg #[.int .i64 aIndex, .int .i64 aTerm, .slice aPairs.a aPairs.len aPairs.cap, .slice aSessions.a aSessions.len aSessions.cap], .agg #[.int .i64 bIndex, .int .i64 bTerm, .slice bPairs.a bPairs.len bPairs.cap, .slice bSessions.a bSessions.len bSessions.cap]] H Q = delta_Between.vc J aIndex aTerm aPairs aSessions bIndex bTerm bPairs bSessions H Q := by kernel_rfl
theorem delta_Between.calls {aIndex : Int} {aTerm : Int} {aPairs : Sl} {aSessions : Sl} {bIndex : Int} {bTerm : Int} {bPairs : Sl} {bSessions : Sl} {H : Hp} {Q : Value → Hp → Prop} (h : delta_Between.vc J0 aIndex aTerm aPairs aSessions bIndex bTerm bPairs bSessions H Q) : SCalls Try.prog delta_Between.id [.agg #[.int .i64 aIndex, .int .i64 aTerm, .slice aPairs.a aPairs.len aPairs.cap, .slice aSessions.a aSessions.len aSessions.cap], .agg #[.int .i64 bIndex, .int .i64 bTerm, .slice bPairs.a bPairs.len bPairs.cap, .slice bSessions.a bSessions.len bSessions.cap]] H Q := vFn_of Try.mixed Try.func30 (delta_Between.eq J0 aIndex aTerm aPairs aSessions bIndex bTerm bPairs bSessions H Q) h

/-! 50: tephra/delta.Read -/
noncomputable def delta_Read.cf : Cfg := ⟨[2, 5, 1000003], [], [], [], true, []⟩
noncomputable def delta_Read.vc (J : Jn) (b : Sl) (H : Hp) (Q : Value → Hp → Prop) : Prop :=
 ∀ H1 : Hp, H1 = (holes H 1) → 
 SCalls Try.prog pack_Of.id [.slice b.a b.len b.cap] H1 (fun r H2 => ∃ x : Option Addr, r = .pointer x ∧ 
 SCalls Try.prog pack_Reader_Num.id [.pointer x] H2 (fun r1 H3 => ∃ x1 : Int, r1 = .int .i64 x1 ∧ ∀ H4 : Hp, H4 = (holes H3 1) → 
 SCalls Try.prog pack_Reader_Num.id [.pointer x] H4 (fun r2 H5 => ∃ x2 : Int, r2 = .int .i64 x2 ∧ 
 SCalls Try.prog pack_Reader_Num.id [.pointer x] H5 (fun r3 H6 => ∃ x3 : Int, r3 = .int .i64 x3 ∧ 
 SCalls Try.prog state_ReadRows.id [.pointer x] H6 (fun r4 H7 => ∃ x4 : Sl, ∃ x5 : Sl, r4 = .tuple #[.slice x4.a x4.len x4.cap, .slice x5.a x5.len x5.cap] ∧ 
 SCalls Try.prog pack_Reader_Done.id [.pointer x] H7 (fun r5 H8 => ∃ x6 : Bool, r5 = .bool x6 ∧ 
 Br (!x6) (
  (
  (Q (.tuple #[.agg #[.int .i64 0, .int .i64 0, .int .i64 0, .slice none 0 0, .slice none 0 0], .bool false]) H8) ∧ 
  (Q (.tuple #[.agg #[.int .i64 0, .int .i64 0, .int .i64 0, .slice none 0 0, .slice none 0 0], .bool false]) H8)) ∧ 
  (Q (.tuple #[.agg #[.int .i64 0, .int .i64 0, .int .i64 0, .slice none 0 0, .slice none 0 0], .bool false]) H8))
 (
 SCalls Try.prog delta_Right.id [.agg #[.int .i64 x1, .int .i64 x2, .int .i64 x3, .slice x4.a x4.len x4.cap, .slice x5.a x5.len x5.cap]] H8 (fun r6 H9 => ∃ x7 : Bool, r6 = .bool x7 ∧ 
 Br (!x7) (
  (
  (Q (.tuple #[.agg #[.int .i64 0, .int .i64 0, .int .i64 0, .slice none 0 0, .slice none 0 0], .bool false]) H9) ∧ 
  (Q (.tuple #[.agg #[.int .i64 0, .int .i64 0, .int .i64 0, .slice none 0 0, .slice none 0 0], .bool false]) H9)) ∧ 
  (Q (.tuple #[.agg #[.int .i64 0, .int .i64 0, .int .i64 0, .slice none 0 0, .slice none 0 0], .bool false]) H9))
 (
  (
 SCalls Try.prog delta_Bytes.id [.agg #[.int .i64 x1, .int .i64 x2, .int .i64 x3, .slice x4.a x4.len x4.cap, .slice x5.a x5.len x5.cap]] H9 (fun r7 H10 => ∃ x8 : Sl, r7 = .slice x8.a x8.len x8.cap ∧ 
  (vB2S H10 x8.a x8.len (fun s => vB2S H10 b.a b.len (fun s1 => 
 Br (!(s.toList == s1.toList)) (Q (.tuple #[.agg #[.int .i64 0, .int .i64 0, .int .i64 0, .slice none 0 0, .slice none 0 0], .bool false]) H10)
 (Q (.tuple #[.agg #[.int .i64 x1, .int .i64 x2, .int .i64 x3, .slice x4.a x4.len x4.cap, .slice x5.a x5.len x5.cap], .bool true]) H10)))) ∧ 
  (vB2S H10 b.a b.len (fun s2 => vB2S H10 x8.a x8.len (fun s3 => 
 Br (!(s3.toList == s2.toList)) (Q (.tuple #[.agg #[.int .i64 0, .int .i64 0, .int .i64 0, .slice none 0 0, .slice none 0 0], .bool false]) H10)
 (Q (.tuple #[.agg #[.int .i64 x1, .int .i64 x2, .int .i64 x3, .slice x4.a x4.len x4.cap, .slice x5.a x5.len x5.cap], .bool true]) H10)))))) ∧ 
  (vB2S H9 b.a b.len (fun s4 => 
 SCalls Try.prog delta_Bytes.id [.agg #[.int .i64 x1, .int .i64 x2, .int .i64 x3, .slice x4.a x4.len x4.cap, .slice x5.a x5.len x5.cap]] H9 (fun r8 H11 => ∃ x9 : Sl, r8 = .slice x9.a x9.len x9.cap ∧ vB2S H11 x9.a x9.len (fun s5 => 
 Br (!(s5.toList == s4.toList)) (Q (.tuple #[.agg #[.int .i64 0, .int .i64 0, .int .i64 0, .slice none 0 0, .slice none 0 0], .bool false]) H11)
 (Q (.tuple #[.agg #[.int .i64 x1, .int .i64 x2, .int .i64 x3, .slice x4.a x4.len x4.cap, .slice x5.a x5.len x5.cap], .bool true]) H11))))))))))))))
theorem delta_Read.eq (J : Jn) (b : Sl) (H : Hp) (Q : Value → Hp → Prop) : vFn Try.prog delta_Read.cf J delta_Read.fn [.slice b.a b.len b.cap] H Q = delta_Read.vc J b H Q := by kernel_rfl
theorem delta_Read.calls {b : Sl} {H : Hp} {Q : Value → Hp → Prop} (h : delta_Read.vc J0 b H Q) : SCalls Try.prog delta_Read.id [.slice b.a b.len b.cap] H Q := vFn_of Try.mixed Try.func50 (delta_Read.eq J0 b H Q) h

/-! 52: tephra/delta.seq -/
noncomputable def delta_seq.cf : Cfg := ⟨[1000003], [], [], [], true, []⟩
noncomputable def delta_seq.vc (J : Jn) (ps : Sl) (H : Hp) (Q : Value → Hp → Prop) : Prop :=
 ∀ b : Nat, b = Array.size H → ∀ H1 : Hp, H1 = (Array.push H (.cells #[.slice ps.a ps.len ps.cap] T_sl_api_Pair)) → Q (.func (.func 66) #[] #[.pointer (some (Addr.mk b 0 none))]) H1
theorem delta_seq.eq (J : Jn) (ps : Sl) (H : Hp) (Q : Value → Hp → Prop) : vFn Try.prog delta_seq.cf J delta_seq.fn [.slice ps.a ps.len ps.cap] H Q = delta_seq.vc J ps H Q := by kernel_rfl
theorem delta_seq.calls {ps : Sl} {H : Hp} {Q : Value → Hp → Prop} (h : delta_seq.vc J0 ps H Q) : SCalls Try.prog delta_seq.id [.slice ps.a ps.len ps.cap] H Q := vFn_of Try.mixed Try.func52 (delta_seq.eq J0 ps H Q) h

/-! 66: tephra/delta.seq$1 -/
noncomputable def delta_seq_1.cf : Cfg := ⟨[4, 1000003], [(1, [0, 5, 6, 7])], [], [], true, []⟩
noncomputable def delta_seq_1.l1.st (yield : Fv) (x : Sl) (H1 : Hp) (x1 : Int) : VS := ⟨mkFr 18 [(0, .v (.func yield.fn yield.fi yield.ca)), (5, .v (.slice x.a x.len x.cap)), (6, .v (.int .i64 ((x.len : Nat) : Int))), (7, .v (.int .i64 x1))], [], H1⟩
noncomputable def delta_seq_1.l1 (J : Jn) (yield : Fv) (x : Sl) (H1 : Hp) (x1 : Int) (Q : Value → Hp → Prop) : Prop := vAt Try.prog delta_seq_1.cf J delta_seq_1.fn [1, 0] [0] Q (delta_seq_1.l1.st yield x H1 x1)
attribute [irreducible] delta_seq_1.l1
noncomputable def delta_seq_1.l1.body (J : Jn) (yield : Fv) (x : Sl) (H1 : Hp) (x1 : Int) (Q : Value → Hp → Prop) : Prop :=
 
 Br (decide (x1 < ((x.len : Nat) : Int))) (((0 : Int) ≤ x1 ∧ x1 < ((x.len : Nat) : Int)) ∧ vPtr x.a (fun a => ∃ Key : ByteArray, ∃ Valuev : ByteArray, ∃ Gone : Bool, RowAt H1 (a.add ((x1 : Int).toNat * 3)) [.string Key, .string Valuev, .bool Gone] ∧ ∀ H2 : Hp, H2 = (holes H1 1) → 
 vInv Try.prog (.func yield.fn yield.fi yield.ca) [.string Key, .agg #[.string Key, .string Valuev, .bool Gone]] H2 (fun r H3 => ∃ x2 : Bool, r = .bool x2 ∧ 
 Br (!x2) (Q (.tuple #[]) H3)
 (
 delta_seq_1.l1 J yield x H3 (w64 (x1 + 1)) Q))))
 (Q (.tuple #[]) H1)
theorem delta_seq_1.l1.eq (J : Jn) (yield : Fv) (x : Sl) (H1 : Hp) (x1 : Int) (Q : Value → Hp → Prop) : vAtBody Try.prog delta_seq_1.cf J delta_seq_1.fn [1, 0] [0] Q (delta_seq_1.l1.st yield x H1 x1) = delta_seq_1.l1.body J yield x H1 x1 Q := by kernel_rfl
theorem delta_seq_1.l1.step {yield : Fv} {x : Sl} {H1 : Hp} {x1 : Int} {Q : Value → Hp → Prop} (h : delta_seq_1.l1.body J0 yield x H1 x1 Q) : delta_seq_1.l1 J0 yield x H1 x1 Q := vAt_stepC (delta_seq_1.l1.st yield x H1 x1) (delta_seq_1.l1.eq J0 yield x H1 x1 Q) (by kernel_rfl) h
noncomputable def delta_seq_1.vc (J : Jn) (yield : Fv) (cap0 : Addr) (H : Hp) (Q : Value → Hp → Prop) : Prop :=
 ∃ x : Sl, Hp.cell? H cap0 = some (.slice x.a x.len x.cap) ∧ 
 delta_seq_1.l1 J yield x H 0 Q
theorem delta_seq_1.eq (J : Jn) (yield : Fv) (cap0 : Addr) (H : Hp) (Q : Value → Hp → Prop) : vFn Try.prog delta_seq_1.cf J delta_seq_1.fn [.func yield.fn yield.fi yield.ca, .pointer (some cap0)] H Q = delta_seq_1.vc J yield cap0 H Q := by kernel_rfl
theorem delta_seq_1.calls {yield : Fv} {cap0 : Addr} {H : Hp} {Q : Value → Hp → Prop} (h : delta_seq_1.vc J0 yield cap0 H Q) : SCalls Try.prog delta_seq_1.id [.func yield.fn yield.fi yield.ca, .pointer (some cap0)] H Q := vFn_of Try.mixed Try.func66 (delta_seq_1.eq J0 yield cap0 H Q) h

/-! 21: tephra/state.Same -/
noncomputable def state_Same.cf : Cfg := ⟨[2, 3, 1000003], [], [], [], true, []⟩
noncomputable def state_Same.vc (J : Jn) (aIndex : Int) (aTerm : Int) (aPairs : Sl) (aSessions : Sl) (bIndex : Int) (bTerm : Int) (bPairs : Sl) (bSessions : Sl) (H : Hp) (Q : Value → Hp → Prop) : Prop :=
 ∀ H1 : Hp, H1 = (holes H 1) → ∀ H2 : Hp, H2 = (holes H1 1) → 
 SCalls Try.prog state_Bytes.id [.agg #[.int .i64 aIndex, .int .i64 aTerm, .slice aPairs.a aPairs.len aPairs.cap, .slice aSessions.a aSessions.len aSessions.cap]] H2 (fun r H3 => ∃ x : Sl, r = .slice x.a x.len x.cap ∧ 
  (vB2S H3 x.a x.len (fun s => 
 SCalls Try.prog state_Bytes.id [.agg #[.int .i64 bIndex, .int .i64 bTerm, .slice bPairs.a bPairs.len bPairs.cap, .slice bSessions.a bSessions.len bSessions.cap]] H3 (fun r1 H4 => ∃ x1 : Sl, r1 = .slice x1.a x1.len x1.cap ∧ vB2S H4 x1.a x1.len (fun s1 => Q (.bool (s.toList == s1.toList)) H4)))) ∧ 
  (
 SCalls Try.prog state_Bytes.id [.agg #[.int .i64 bIndex, .int .i64 bTerm, .slice bPairs.a bPairs.len bPairs.cap, .slice bSessions.a bSessions.len bSessions.cap]] H3 (fun r2 H5 => ∃ x2 : Sl, r2 = .slice x2.a x2.len x2.cap ∧ 
  (vB2S H5 x.a x.len (fun s2 => vB2S H5 x2.a x2.len (fun s3 => Q (.bool (s2.toList == s3.toList)) H5))) ∧ 
  (vB2S H5 x2.a x2.len (fun s4 => vB2S H5 x.a x.len (fun s5 => Q (.bool (s5.toList == s4.toList)) H5))))))
theorem state_Same.eq (J : Jn) (aIndex : Int) (aTerm : Int) (aPairs : Sl) (aSessions : Sl) (bIndex : Int) (bTerm : Int) (bPairs : Sl) (bSessions : Sl) (H : Hp) (Q : Value → Hp → Prop) : vFn Try.prog state_Same.cf J state_Same.fn [.agg #[.int .i64 aIndex, .int .i64 aTerm, .slice aPairs.a aPairs.len aPairs.cap, .slice aSessions.a aSessions.len aSessions.cap], .agg #[.int .i64 bIndex, .int .i64 bTerm, .slice bPairs.a bPairs.len bPairs.cap, .slice bSessions.a bSessions.len bSessions.cap]] H Q = state_Same.vc J aIndex aTerm aPairs aSessions bIndex bTerm bPairs bSessions H Q := by kernel_rfl
theorem state_Same.calls {aIndex : Int} {aTerm : Int} {aPairs : Sl} {aSessions : Sl} {bIndex : Int} {bTerm : Int} {bPairs : Sl} {bSessions : Sl} {H : Hp} {Q : Value → Hp → Prop} (h : state_Same.vc J0 aIndex aTerm aPairs aSessions bIndex bTerm bPairs bSessions H Q) : SCalls Try.prog state_Same.id [.agg #[.int .i64 aIndex, .int .i64 aTerm, .slice aPairs.a aPairs.len aPairs.cap, .slice aSessions.a aSessions.len aSessions.cap], .agg #[.int .i64 bIndex, .int .i64 bTerm, .slice bPairs.a bPairs.len bPairs.cap, .slice bSessions.a bSessions.len bSessions.cap]] H Q := vFn_of Try.mixed Try.func21 (state_Same.eq J0 aIndex aTerm aPairs aSessions bIndex bTerm bPairs bSessions H Q) h

/-! 8: tephra/tephralaw09.ImageDelta -/
noncomputable def tephralaw09_ImageDelta.cf : Cfg := ⟨[7, 8, 12, 14, 1000003], [], [], [], true, []⟩
noncomputable def tephralaw09_ImageDelta.vc (J : Jn) (says : Sl) (one : Int) (two : Int) (H : Hp) (Q : Value → Hp → Prop) : Prop :=
 
 SCalls Try.prog tephralaw09_awake.id [] H (fun r H1 => ∃ x : Bool, r = .bool x ∧ 
 Br (!x) (Q (.bool false) H1)
 (
 SCalls Try.prog tephralaw08_Three.id [.slice says.a says.len says.cap, .int .u8 one, .int .u8 two] H1 (fun r1 H2 => ∃ x0Index : Int, ∃ x0Term : Int, ∃ x0Pairs : Sl, ∃ x0Sessions : Sl, ∃ x1Index : Int, ∃ x1Term : Int, ∃ x1Pairs : Sl, ∃ x1Sessions : Sl, ∃ x2Index : Int, ∃ x2Term : Int, ∃ x2Pairs : Sl, ∃ x2Sessions : Sl, r1 = .agg #[.int .i64 x0Index, .int .i64 x0Term, .slice x0Pairs.a x0Pairs.len x0Pairs.cap, .slice x0Sessions.a x0Sessions.len x0Sessions.cap, .int .i64 x1Index, .int .i64 x1Term, .slice x1Pairs.a x1Pairs.len x1Pairs.cap, .slice x1Sessions.a x1Sessions.len x1Sessions.cap, .int .i64 x2Index, .int .i64 x2Term, .slice x2Pairs.a x2Pairs.len x2Pairs.cap, .slice x2Sessions.a x2Sessions.len x2Sessions.cap] ∧ ∀ H3 : Hp, H3 = (holes H2 1) → ((0 : Int) ≤ 0 ∧ (0 : Int) < ((3 : Nat) : Int)) ∧ ((0 : Int) ≤ 1 ∧ (1 : Int) < ((3 : Nat) : Int)) ∧ 
 SCalls Try.prog delta_Between.id [.agg #[.int .i64 x0Index, .int .i64 x0Term, .slice x0Pairs.a x0Pairs.len x0Pairs.cap, .slice x0Sessions.a x0Sessions.len x0Sessions.cap], .agg #[.int .i64 x1Index, .int .i64 x1Term, .slice x1Pairs.a x1Pairs.len x1Pairs.cap, .slice x1Sessions.a x1Sessions.len x1Sessions.cap]] H3 (fun r2 H4 => ∃ From : Int, ∃ To : Int, ∃ Term : Int, ∃ Pairs : Sl, ∃ Sessions : Sl, ∃ x1 : Int, r2 = .tuple #[.agg #[.int .i64 From, .int .i64 To, .int .i64 Term, .slice Pairs.a Pairs.len Pairs.cap, .slice Sessions.a Sessions.len Sessions.cap], .int .i64 x1] ∧ ∀ H5 : Hp, H5 = (holes H4 1) → 
 SCalls Try.prog image_Delta.id [.agg #[.int .i64 From, .int .i64 To, .int .i64 Term, .slice Pairs.a Pairs.len Pairs.cap, .slice Sessions.a Sessions.len Sessions.cap]] H5 (fun r3 H6 => ∃ x2 : Sl, ∃ x3 : Int, r3 = .tuple #[.slice x2.a x2.len x2.cap, .int .i64 x3] ∧ 
 SCalls Try.prog image_ReadDelta.id [.slice x2.a x2.len x2.cap] H6 (fun r4 H7 => ∃ From1 : Int, ∃ To1 : Int, ∃ Term1 : Int, ∃ Pairs1 : Sl, ∃ Sessions1 : Sl, ∃ x4 : Int, r4 = .tuple #[.agg #[.int .i64 From1, .int .i64 To1, .int .i64 Term1, .slice Pairs1.a Pairs1.len Pairs1.cap, .slice Sessions1.a Sessions1.len Sessions1.cap], .int .i64 x4] ∧ ∀ H8 : Hp, H8 = (holes H7 1) → 
 SCalls Try.prog image_ReadFull.id [.slice x2.a x2.len x2.cap] H8 (fun r5 H9 => ∃ Index : Int, ∃ Term2 : Int, ∃ Pairs2 : Sl, ∃ Sessions2 : Sl, ∃ x5 : Int, r5 = .tuple #[.agg #[.int .i64 Index, .int .i64 Term2, .slice Pairs2.a Pairs2.len Pairs2.cap, .slice Sessions2.a Sessions2.len Sessions2.cap], .int .i64 x5] ∧ ∀ H10 : Hp, H10 = (holes H9 1) → 
 SCalls Try.prog image_ReadPart.id [.slice x2.a x2.len x2.cap, .int .i64 From] H10 (fun r6 H11 => ∃ x6 : Sl, ∃ x7 : Int, ∃ x8 : Int, r6 = .tuple #[.slice x6.a x6.len x6.cap, .int .i64 x7, .int .i64 x8] ∧ 
 Br (x3 == 0) (
 Br (x4 == 0) (
 SCalls Try.prog delta_Same.id [.agg #[.int .i64 From1, .int .i64 To1, .int .i64 Term1, .slice Pairs1.a Pairs1.len Pairs1.cap, .slice Sessions1.a Sessions1.len Sessions1.cap], .agg #[.int .i64 From, .int .i64 To, .int .i64 Term, .slice Pairs.a Pairs.len Pairs.cap, .slice Sessions.a Sessions.len Sessions.cap]] H11 (fun r7 H12 => ∃ x9 : Bool, r7 = .bool x9 ∧ 
 Br x9 (
 Br (x5 == 10) (
 Br (x8 == 10) (
  (vB2S H12 x2.a x2.len (fun s => 
 SCalls Try.prog tephralaw09_head.id [.int .i64 1, .int .i64 From, .int .i64 To] H12 (fun r8 H13 => ∃ x10 : ByteArray, r8 = .string x10 ∧ 
 SCalls Try.prog delta_Bytes.id [.agg #[.int .i64 From, .int .i64 To, .int .i64 Term, .slice Pairs.a Pairs.len Pairs.cap, .slice Sessions.a Sessions.len Sessions.cap]] H13 (fun r9 H14 => ∃ x11 : Sl, r9 = .slice x11.a x11.len x11.cap ∧ 
 SCalls Try.prog tephralaw09_form.id [.slice x11.a x11.len x11.cap] H14 (fun r10 H15 => ∃ x12 : ByteArray, r10 = .string x12 ∧ x10.size + x12.size ≤ 9223372036854775807 ∧ Q (.bool (s.toList == (x10 ++ x12).toList)) H15))))) ∧ 
  (
 SCalls Try.prog tephralaw09_head.id [.int .i64 1, .int .i64 From, .int .i64 To] H12 (fun r11 H16 => ∃ x13 : ByteArray, r11 = .string x13 ∧ 
  (vB2S H16 x2.a x2.len (fun s1 => 
 SCalls Try.prog delta_Bytes.id [.agg #[.int .i64 From, .int .i64 To, .int .i64 Term, .slice Pairs.a Pairs.len Pairs.cap, .slice Sessions.a Sessions.len Sessions.cap]] H16 (fun r12 H17 => ∃ x14 : Sl, r12 = .slice x14.a x14.len x14.cap ∧ 
 SCalls Try.prog tephralaw09_form.id [.slice x14.a x14.len x14.cap] H17 (fun r13 H18 => ∃ x15 : ByteArray, r13 = .string x15 ∧ x13.size + x15.size ≤ 9223372036854775807 ∧ Q (.bool (s1.toList == (x13 ++ x15).toList)) H18)))) ∧ 
  (
 SCalls Try.prog delta_Bytes.id [.agg #[.int .i64 From, .int .i64 To, .int .i64 Term, .slice Pairs.a Pairs.len Pairs.cap, .slice Sessions.a Sessions.len Sessions.cap]] H16 (fun r14 H19 => ∃ x16 : Sl, r14 = .slice x16.a x16.len x16.cap ∧ 
  (vB2S H19 x2.a x2.len (fun s2 => 
 SCalls Try.prog tephralaw09_form.id [.slice x16.a x16.len x16.cap] H19 (fun r15 H20 => ∃ x17 : ByteArray, r15 = .string x17 ∧ x13.size + x17.size ≤ 9223372036854775807 ∧ Q (.bool (s2.toList == (x13 ++ x17).toList)) H20))) ∧ 
  (
 SCalls Try.prog tephralaw09_form.id [.slice x16.a x16.len x16.cap] H19 (fun r16 H21 => ∃ x18 : ByteArray, r16 = .string x18 ∧ x13.size + x18.size ≤ 9223372036854775807 ∧ vB2S H21 x2.a x2.len (fun s3 => Q (.bool (s3.toList == (x13 ++ x18).toList)) H21))))))))
 (
  (Q (.bool false) H12) ∧ 
  (
  (Q (.bool false) H12) ∧ 
  (
  (Q (.bool false) H12) ∧ 
  (Q (.bool false) H12)))))
 (
  (Q (.bool false) H12) ∧ 
  (
  (Q (.bool false) H12) ∧ 
  (
  (Q (.bool false) H12) ∧ 
  (Q (.bool false) H12)))))
 (
  (Q (.bool false) H12) ∧ 
  (
  (Q (.bool false) H12) ∧ 
  (
  (Q (.bool false) H12) ∧ 
  (Q (.bool false) H12))))))
 (
  (Q (.bool false) H11) ∧ 
  (
  (Q (.bool false) H11) ∧ 
  (
  (Q (.bool false) H11) ∧ 
  (Q (.bool false) H11)))))
 (
  (Q (.bool false) H11) ∧ 
  (
  (Q (.bool false) H11) ∧ 
  (
  (Q (.bool false) H11) ∧ 
  (Q (.bool false) H11))))))))))))
theorem tephralaw09_ImageDelta.eq (J : Jn) (says : Sl) (one : Int) (two : Int) (H : Hp) (Q : Value → Hp → Prop) : vFn Try.prog tephralaw09_ImageDelta.cf J tephralaw09_ImageDelta.fn [.slice says.a says.len says.cap, .int .u8 one, .int .u8 two] H Q = tephralaw09_ImageDelta.vc J says one two H Q := by kernel_rfl
theorem tephralaw09_ImageDelta.calls {says : Sl} {one : Int} {two : Int} {H : Hp} {Q : Value → Hp → Prop} (h : tephralaw09_ImageDelta.vc J0 says one two H Q) : SCalls Try.prog tephralaw09_ImageDelta.id [.slice says.a says.len says.cap, .int .u8 one, .int .u8 two] H Q := vFn_of Try.mixed Try.func8 (tephralaw09_ImageDelta.eq J0 says one two H Q) h

/-! 7: tephra/tephralaw09.ImageLong -/
noncomputable def tephralaw09_ImageLong.cf : Cfg := ⟨[5, 9, 1000003], [(5, [0, 1, 5, 6])], [], [(71, [5, 9, 12, 71]), (75, [5, 9, 75])], true, []⟩
noncomputable def tephralaw09_ImageLong.l1.st (n : Int) (says : Sl) (H3 : Hp) (k : Int) (y : Sl) : VS := ⟨mkFr 81 [(0, .v (.int .u8 n)), (1, .v (.slice says.a says.len says.cap)), (5, .loc 0 0), (6, .v (.int .i64 k))], [(T_delta_Delta, [.int .i64 0, .int .i64 1, .int .i64 0, .slice y.a y.len y.cap, .slice none 0 0])], H3⟩
noncomputable def tephralaw09_ImageLong.l1 (J : Jn) (n : Int) (says : Sl) (H3 : Hp) (k : Int) (y : Sl) (Q : Value → Hp → Prop) : Prop := vAt Try.prog tephralaw09_ImageLong.cf J tephralaw09_ImageLong.fn [1, 1, 1, 0, 1, 0] [0, 0, 0, 1, 1] Q (tephralaw09_ImageLong.l1.st n says H3 k y)
noncomputable def tephralaw09_ImageLong.k1.st (y : Sl) (From : Int) (To : Int) (Term : Int) (Pairs : Sl) (Sessions : Sl) (H12 : Hp) (x6 : Int) (x7 : Bool) : VS := ⟨mkFr 81 [(5, .loc 0 0), (9, .loc 1 0), (12, .v (.int .i64 x6)), (71, .v (.bool x7))], [(T_delta_Delta, [.int .i64 0, .int .i64 1, .int .i64 0, .slice y.a y.len y.cap, .slice none 0 0]), (T_delta_Delta, [.int .i64 From, .int .i64 To, .int .i64 Term, .slice Pairs.a Pairs.len Pairs.cap, .slice Sessions.a Sessions.len Sessions.cap])], H12⟩
noncomputable def tephralaw09_ImageLong.k1 (J : Jn) (y : Sl) (From : Int) (To : Int) (Term : Int) (Pairs : Sl) (Sessions : Sl) (H12 : Hp) (x6 : Int) (x7 : Bool) (Q : Value → Hp → Prop) : Prop := J (vMid Try.prog tephralaw09_ImageLong.cf J tephralaw09_ImageLong.fn [1, 1, 1, 1, 1, 1, 1, 1, 0] [0, 0, 0, 1, 1, 1, 1, 2, 2] 6 Q) (tephralaw09_ImageLong.k1.st y From To Term Pairs Sessions H12 x6 x7)
noncomputable def tephralaw09_ImageLong.k2.st (y : Sl) (From : Int) (To : Int) (Term : Int) (Pairs : Sl) (Sessions : Sl) (H12 : Hp) (x8 : Bool) : VS := ⟨mkFr 81 [(5, .loc 0 0), (9, .loc 1 0), (75, .v (.bool x8))], [(T_delta_Delta, [.int .i64 0, .int .i64 1, .int .i64 0, .slice y.a y.len y.cap, .slice none 0 0]), (T_delta_Delta, [.int .i64 From, .int .i64 To, .int .i64 Term, .slice Pairs.a Pairs.len Pairs.cap, .slice Sessions.a Sessions.len Sessions.cap])], H12⟩
noncomputable def tephralaw09_ImageLong.k2 (J : Jn) (y : Sl) (From : Int) (To : Int) (Term : Int) (Pairs : Sl) (Sessions : Sl) (H12 : Hp) (x8 : Bool) (Q : Value → Hp → Prop) : Prop := J (vMid Try.prog tephralaw09_ImageLong.cf J tephralaw09_ImageLong.fn [1, 1, 1, 1, 1, 1, 1, 1, 0] [0, 0, 0, 1, 1, 1, 1, 2, 2] 10 Q) (tephralaw09_ImageLong.k2.st y From To Term Pairs Sessions H12 x8)
attribute [irreducible] tephralaw09_ImageLong.l1 tephralaw09_ImageLong.k1 tephralaw09_ImageLong.k2
noncomputable def tephralaw09_ImageLong.l1.body (J : Jn) (n : Int) (says : Sl) (H3 : Hp) (k : Int) (y : Sl) (Q : Value → Hp → Prop) : Prop :=
 (120 : Int) ≠ 0 ∧ 
 Br (decide (k < (w64 ((390 : Int) + (w64 ((Int.tmod n 120))))))) ((200 : Int) ≠ 0 ∧ (200 : Int) ≠ 0 ∧ ∀ b : Nat, b = Array.size H3 → ∀ H4 : Hp, H4 = (Array.push H3 (.cells #[.int .u8 107, .int .u8 (IntKind.u8.wrap ((w64 (Int.tdiv k 200)))), .int .u8 (IntKind.u8.wrap ((w64 ((1 : Int) + (Int.tmod k 200))))), .int .u8 97, .int .u8 98, .int .u8 99, .int .u8 100, .int .u8 101] T_uint8)) → vB2S H4 (some (Addr.mk b 0 none)) 8 (fun s => ∀ b1 : Nat, b1 = Array.size H4 → ∀ H5 : Hp, H5 = (Array.push H4 (.cells #[.string s, .string (ByteArray.mk #[48, 49, 50, 51, 52, 53, 54, 55, 56, 57, 97, 98, 99, 100, 101, 102]), .bool false] T_api_Pair)) → 
 vApp Try.prog T_sl_api_Pair y.a y.len y.cap (.slice (some (Addr.mk b1 0 none)) 1 1) H5 (fun ap H6 => 
 tephralaw09_ImageLong.l1 J n says H6 (w64 (k + 1)) ap Q)))
 (
 SCalls Try.prog image_Delta.id [.agg #[.int .i64 0, .int .i64 1, .int .i64 0, .slice y.a y.len y.cap, .slice none 0 0]] H3 (fun r1 H7 => ∃ x1 : Sl, ∃ x2 : Int, r1 = .tuple #[.slice x1.a x1.len x1.cap, .int .i64 x2] ∧ 
 SCalls Try.prog delta_Bytes.id [.agg #[.int .i64 0, .int .i64 1, .int .i64 0, .slice y.a y.len y.cap, .slice none 0 0]] H7 (fun r2 H8 => ∃ x3 : Sl, r2 = .slice x3.a x3.len x3.cap ∧ 
 Br (decide (((x3.len : Nat) : Int) > 16384)) (
 Br (x2 == 4) (Q (.bool (((x1.len : Nat) : Int) == 0)) H8)
 (Q (.bool false) H8))
 (
 SCalls Try.prog image_ReadDelta.id [.slice x1.a x1.len x1.cap] H8 (fun r3 H9 => ∃ From : Int, ∃ To : Int, ∃ Term : Int, ∃ Pairs : Sl, ∃ Sessions : Sl, ∃ x4 : Int, r3 = .tuple #[.agg #[.int .i64 From, .int .i64 To, .int .i64 Term, .slice Pairs.a Pairs.len Pairs.cap, .slice Sessions.a Sessions.len Sessions.cap], .int .i64 x4] ∧ ∀ H10 : Hp, H10 = (holes H9 1) → 
 SCalls Try.prog tephralaw07_Some.id [.slice says.a says.len says.cap] H10 (fun r4 H11 => ∃ Index : Int, ∃ Term1 : Int, ∃ Pairs1 : Sl, ∃ Sessions1 : Sl, r4 = .agg #[.int .i64 Index, .int .i64 Term1, .slice Pairs1.a Pairs1.len Pairs1.cap, .slice Sessions1.a Sessions1.len Sessions1.cap] ∧ 
 SCalls Try.prog image_Full.id [.agg #[.int .i64 Index, .int .i64 Term1, .slice Pairs1.a Pairs1.len Pairs1.cap, .slice Sessions1.a Sessions1.len Sessions1.cap]] H11 (fun r5 H12 => ∃ x5 : Sl, ∃ x6 : Int, r5 = .tuple #[.slice x5.a x5.len x5.cap, .int .i64 x6] ∧ 
 Br (x2 == 0) (
 tephralaw09_ImageLong.k1 J y From To Term Pairs Sessions H12 x6 (x4 == 0) Q)
 (
 tephralaw09_ImageLong.k1 J y From To Term Pairs Sessions H12 x6 false Q))))))))
theorem tephralaw09_ImageLong.l1.eq (J : Jn) (n : Int) (says : Sl) (H3 : Hp) (k : Int) (y : Sl) (Q : Value → Hp → Prop) : vAtBody Try.prog tephralaw09_ImageLong.cf J tephralaw09_ImageLong.fn [1, 1, 1, 0, 1, 0] [0, 0, 0, 1, 1] Q (tephralaw09_ImageLong.l1.st n says H3 k y) = tephralaw09_ImageLong.l1.body J n says H3 k y Q := by kernel_rfl
theorem tephralaw09_ImageLong.l1.step {n : Int} {says : Sl} {H3 : Hp} {k : Int} {y : Sl} {Q : Value → Hp → Prop} (h : tephralaw09_ImageLong.l1.body J0 n says H3 k y Q) : tephralaw09_ImageLong.l1 J0 n says H3 k y Q := vAt_stepC (tephralaw09_ImageLong.l1.st n says H3 k y) (tephralaw09_ImageLong.l1.eq J0 n says H3 k y Q) (by kernel_rfl) h
noncomputable def tephralaw09_ImageLong.k1.body (J : Jn) (y : Sl) (From : Int) (To : Int) (Term : Int) (Pairs : Sl) (Sessions : Sl) (H12 : Hp) (x6 : Int) (x7 : Bool) (Q : Value → Hp → Prop) : Prop :=
 
 Br x7 (
 tephralaw09_ImageLong.k2 J y From To Term Pairs Sessions H12 (x6 == 0) Q)
 (
 tephralaw09_ImageLong.k2 J y From To Term Pairs Sessions H12 false Q)
theorem tephralaw09_ImageLong.k1.eq (J : Jn) (y : Sl) (From : Int) (To : Int) (Term : Int) (Pairs : Sl) (Sessions : Sl) (H12 : Hp) (x6 : Int) (x7 : Bool) (Q : Value → Hp → Prop) : vMid Try.prog tephralaw09_ImageLong.cf J tephralaw09_ImageLong.fn [1, 1, 1, 1, 1, 1, 1, 1, 0] [0, 0, 0, 1, 1, 1, 1, 2, 2] 6 Q (tephralaw09_ImageLong.k1.st y From To Term Pairs Sessions H12 x6 x7) = tephralaw09_ImageLong.k1.body J y From To Term Pairs Sessions H12 x6 x7 Q := by kernel_rfl
theorem tephralaw09_ImageLong.k1.step {y : Sl} {From : Int} {To : Int} {Term : Int} {Pairs : Sl} {Sessions : Sl} {H12 : Hp} {x6 : Int} {x7 : Bool} {Q : Value → Hp → Prop} (h : tephralaw09_ImageLong.k1.body J0 y From To Term Pairs Sessions H12 x6 x7 Q) : tephralaw09_ImageLong.k1 J0 y From To Term Pairs Sessions H12 x6 x7 Q := step_of (vMid Try.prog tephralaw09_ImageLong.cf J0 tephralaw09_ImageLong.fn [1, 1, 1, 1, 1, 1, 1, 1, 0] [0, 0, 0, 1, 1, 1, 1, 2, 2] 6 Q) (tephralaw09_ImageLong.k1.st y From To Term Pairs Sessions H12 x6 x7) (tephralaw09_ImageLong.k1.eq J0 y From To Term Pairs Sessions H12 x6 x7 Q) (by kernel_rfl) h
noncomputable def tephralaw09_ImageLong.k2.body (J : Jn) (y : Sl) (From : Int) (To : Int) (Term : Int) (Pairs : Sl) (Sessions : Sl) (H12 : Hp) (x8 : Bool) (Q : Value → Hp → Prop) : Prop :=
 
 Br x8 (
 SCalls Try.prog delta_Same.id [.agg #[.int .i64 From, .int .i64 To, .int .i64 Term, .slice Pairs.a Pairs.len Pairs.cap, .slice Sessions.a Sessions.len Sessions.cap], .agg #[.int .i64 0, .int .i64 1, .int .i64 0, .slice y.a y.len y.cap, .slice none 0 0]] H12 (fun r6 H13 => ∃ x9 : Bool, r6 = .bool x9 ∧ Q (.bool x9) H13))
 (Q (.bool false) H12)
theorem tephralaw09_ImageLong.k2.eq (J : Jn) (y : Sl) (From : Int) (To : Int) (Term : Int) (Pairs : Sl) (Sessions : Sl) (H12 : Hp) (x8 : Bool) (Q : Value → Hp → Prop) : vMid Try.prog tephralaw09_ImageLong.cf J tephralaw09_ImageLong.fn [1, 1, 1, 1, 1, 1, 1, 1, 0] [0, 0, 0, 1, 1, 1, 1, 2, 2] 10 Q (tephralaw09_ImageLong.k2.st y From To Term Pairs Sessions H12 x8) = tephralaw09_ImageLong.k2.body J y From To Term Pairs Sessions H12 x8 Q := by kernel_rfl
theorem tephralaw09_ImageLong.k2.step {y : Sl} {From : Int} {To : Int} {Term : Int} {Pairs : Sl} {Sessions : Sl} {H12 : Hp} {x8 : Bool} {Q : Value → Hp → Prop} (h : tephralaw09_ImageLong.k2.body J0 y From To Term Pairs Sessions H12 x8 Q) : tephralaw09_ImageLong.k2 J0 y From To Term Pairs Sessions H12 x8 Q := step_of (vMid Try.prog tephralaw09_ImageLong.cf J0 tephralaw09_ImageLong.fn [1, 1, 1, 1, 1, 1, 1, 1, 0] [0, 0, 0, 1, 1, 1, 1, 2, 2] 10 Q) (tephralaw09_ImageLong.k2.st y From To Term Pairs Sessions H12 x8) (tephralaw09_ImageLong.k2.eq J0 y From To Term Pairs Sessions H12 x8 Q) (by kernel_rfl) h
noncomputable def tephralaw09_ImageLong.vc (J : Jn) (n : Int) (says : Sl) (H : Hp) (Q : Value → Hp → Prop) : Prop :=
 
 SCalls Try.prog tephralaw09_awake.id [] H (fun r H1 => ∃ x : Bool, r = .bool x ∧ 
 Br (!x) (Q (.bool false) H1)
 (∀ H2 : Hp, H2 = (holes H1 1) → 
 tephralaw09_ImageLong.l1 J n says H2 0 (Sl.mk none 0 0) Q))
theorem tephralaw09_ImageLong.eq (J : Jn) (n : Int) (says : Sl) (H : Hp) (Q : Value → Hp → Prop) : vFn Try.prog tephralaw09_ImageLong.cf J tephralaw09_ImageLong.fn [.int .u8 n, .slice says.a says.len says.cap] H Q = tephralaw09_ImageLong.vc J n says H Q := by kernel_rfl
theorem tephralaw09_ImageLong.calls {n : Int} {says : Sl} {H : Hp} {Q : Value → Hp → Prop} (h : tephralaw09_ImageLong.vc J0 n says H Q) : SCalls Try.prog tephralaw09_ImageLong.id [.int .u8 n, .slice says.a says.len says.cap] H Q := vFn_of Try.mixed Try.func7 (tephralaw09_ImageLong.eq J0 n says H Q) h

end Go.Proofs
