/- THE SEAT'S CODE, AS WALKED, second half. -/
import Derived.Test.YtgndfbbgomlbeaaT07a
set_option maxRecDepth 100000
set_option linter.all false
set_option linter.constructorNameAsVariable false
namespace Go.Proofs
open Go Go.KC
/-! 53: (*tephra/sorted.Map_string, string_).Len -/
noncomputable def sorted_Map_string_string_Len.cf : Cfg := ⟨[], [], [], [], true⟩
noncomputable def sorted_Map_string_string_Len.vc (J : Jn) (m : Addr) (H : Hp) (Q : Value → Hp → Prop) : Prop :=
 ∃ items : Sl, Hp.cell? H m = some (.slice items.a items.len items.cap) ∧ Q (.int .i64 ((items.len : Nat) : Int)) H
theorem sorted_Map_string_string_Len.eq (J : Jn) (m : Addr) (H : Hp) (Q : Value → Hp → Prop) : vFn Try.prog sorted_Map_string_string_Len.cf J sorted_Map_string_string_Len.fn [.pointer (some m)] H Q = sorted_Map_string_string_Len.vc J m H Q := by kernel_rfl
theorem sorted_Map_string_string_Len.calls {m : Addr} {H : Hp} {Q : Value → Hp → Prop} (h : sorted_Map_string_string_Len.vc J0 m H Q) : SCalls Try.prog sorted_Map_string_string_Len.id [.pointer (some m)] H Q := vFn_of Try.mixed Try.func53 (sorted_Map_string_string_Len.eq J0 m H Q) h

/-! 54: (*tephra/sorted.Map_string, string_).Del -/
noncomputable def sorted_Map_string_string_Del.cf : Cfg := ⟨[], [], [], [], true⟩
noncomputable def sorted_Map_string_string_Del.vc (J : Jn) (m : Addr) (k : ByteArray) (H : Hp) (Q : Value → Hp → Prop) : Prop :=
 
 SCalls Try.prog sorted_Map_string_string_find.id [.pointer (some m), .string k] H (fun r H1 => ∃ x : Int, ∃ x1 : Bool, r = .tuple #[.int .i64 x, .bool x1] ∧ 
 Br x1 (∃ items : Sl, Hp.cell? H1 m = some (.slice items.a items.len items.cap) ∧ 
 SCalls Try.prog slices_Delete_sl_sorted_item_string_string_sorted_item_string_string.id [.slice items.a items.len items.cap, .int .i64 x, .int .i64 (w64 (x + 1))] H1 (fun r1 H2 => ∃ x2 : Sl, r1 = .slice x2.a x2.len x2.cap ∧ WrAt H2 m 1 ∧ Q (.bool x1) (Hp.setCell H2 m (.slice x2.a x2.len x2.cap))))
 (Q (.bool x1) H1))
theorem sorted_Map_string_string_Del.eq (J : Jn) (m : Addr) (k : ByteArray) (H : Hp) (Q : Value → Hp → Prop) : vFn Try.prog sorted_Map_string_string_Del.cf J sorted_Map_string_string_Del.fn [.pointer (some m), .string k] H Q = sorted_Map_string_string_Del.vc J m k H Q := by kernel_rfl
theorem sorted_Map_string_string_Del.calls {m : Addr} {k : ByteArray} {H : Hp} {Q : Value → Hp → Prop} (h : sorted_Map_string_string_Del.vc J0 m k H Q) : SCalls Try.prog sorted_Map_string_string_Del.id [.pointer (some m), .string k] H Q := vFn_of Try.mixed Try.func54 (sorted_Map_string_string_Del.eq J0 m k H Q) h

/-! 55: (*tephra/sorted.Map_string, string_).All -/
noncomputable def sorted_Map_string_string_All.cf : Cfg := ⟨[], [], [], [], true⟩
noncomputable def sorted_Map_string_string_All.vc (J : Jn) (m : Addr) (H : Hp) (Q : Value → Hp → Prop) : Prop :=
 Q (.func (.func 65) #[] #[.pointer (some (Addr.mk (Array.size H) 0 none))]) (Array.push H (.cells #[.pointer (some m)] T_p_sorted_Map_string_string))
theorem sorted_Map_string_string_All.eq (J : Jn) (m : Addr) (H : Hp) (Q : Value → Hp → Prop) : vFn Try.prog sorted_Map_string_string_All.cf J sorted_Map_string_string_All.fn [.pointer (some m)] H Q = sorted_Map_string_string_All.vc J m H Q := by kernel_rfl
theorem sorted_Map_string_string_All.calls {m : Addr} {H : Hp} {Q : Value → Hp → Prop} (h : sorted_Map_string_string_All.vc J0 m H Q) : SCalls Try.prog sorted_Map_string_string_All.id [.pointer (some m)] H Q := vFn_of Try.mixed Try.func55 (sorted_Map_string_string_All.eq J0 m H Q) h

/-! 56: slices.Insert___tephra/sorted.item_int, tephra/api.Session_,tephra/sorted.item_int, tephra/api.Session__ -/
noncomputable def slices_Insert_sl_sorted_item_int_api_Session_sorted_item_int_api_Session.cf : Cfg := ⟨[], [], [], [], true⟩
noncomputable def slices_Insert_sl_sorted_item_int_api_Session_sorted_item_int_api_Session.vc (J : Jn) (s : Sl) (i : Int) (v : Sl) (H : Hp) (Q : Value → Hp → Prop) : Prop :=
 ((0 : Int) ≤ i ∧ i ≤ ((s.len : Nat) : Int)) ∧ 
 Br (((v.len : Nat) : Int) == 0) (Q (.slice s.a s.len s.cap) H)
 (
 Br (i == ((s.len : Nat) : Int)) (
 vApp Try.prog T_sl_sorted_item_int_api_Session s.a s.len s.cap (.slice v.a v.len v.cap) H (fun ap H1 => Q (.slice ap.a ap.len ap.cap) H1))
 (
 Br (decide ((w64 (((s.len : Nat) : Int) + ((v.len : Nat) : Int))) > ((s.cap : Nat) : Int))) (((0 : Int) ≤ i ∧ i ≤ ((s.cap : Nat) : Int)) ∧ 
 vAppZ Try.prog T_sl_sorted_item_int_api_Session (cutA s.a s.cap 0 5) ((i : Int).toNat) s.cap (w64 ((w64 (((s.len : Nat) : Int) + ((v.len : Nat) : Int))) - i)) H (fun ap1 H2 => ((0 : Int) ≤ i ∧ i ≤ ((ap1.len : Nat) : Int)) ∧ 
 vCopy Try.prog T_sl_sorted_item_int_api_Session (cutA ap1.a ap1.cap ((i : Int).toNat) 5) (ap1.len - ((i : Int).toNat)) (.slice v.a v.len v.cap) H2 (fun n H3 => ((0 : Int) ≤ (w64 (i + ((v.len : Nat) : Int))) ∧ (w64 (i + ((v.len : Nat) : Int))) ≤ ((ap1.len : Nat) : Int)) ∧ ((0 : Int) ≤ i ∧ i ≤ ((s.len : Nat) : Int)) ∧ 
 vCopy Try.prog T_sl_sorted_item_int_api_Session (cutA ap1.a ap1.cap (((w64 (i + ((v.len : Nat) : Int))) : Int).toNat) 5) (ap1.len - (((w64 (i + ((v.len : Nat) : Int))) : Int).toNat)) (.slice (cutA s.a s.cap ((i : Int).toNat) 5) (s.len - ((i : Int).toNat)) (s.cap - ((i : Int).toNat))) H3 (fun n1 H4 => Q (.slice ap1.a ap1.len ap1.cap) H4))))
 (((0 : Int) ≤ (w64 (((s.len : Nat) : Int) + ((v.len : Nat) : Int))) ∧ (w64 (((s.len : Nat) : Int) + ((v.len : Nat) : Int))) ≤ ((s.cap : Nat) : Int)) ∧ ((0 : Int) ≤ (w64 (i + ((v.len : Nat) : Int))) ∧ (w64 (i + ((v.len : Nat) : Int))) ≤ (((((w64 (((s.len : Nat) : Int) + ((v.len : Nat) : Int))) : Int).toNat) : Nat) : Int)) ∧ 
 ExtC Try.prog 66 [.slice v.a v.len v.cap, .slice (cutA (cutA s.a s.cap 0 5) s.cap (((w64 (i + ((v.len : Nat) : Int))) : Int).toNat) 5) ((((w64 (((s.len : Nat) : Int) + ((v.len : Nat) : Int))) : Int).toNat) - (((w64 (i + ((v.len : Nat) : Int))) : Int).toNat)) (s.cap - (((w64 (i + ((v.len : Nat) : Int))) : Int).toNat))] H (fun r H5 => ∃ x : Bool, r = .bool x ∧ 
 Br (!x) (((0 : Int) ≤ (w64 (i + ((v.len : Nat) : Int))) ∧ (w64 (i + ((v.len : Nat) : Int))) ≤ (((((w64 (((s.len : Nat) : Int) + ((v.len : Nat) : Int))) : Int).toNat) : Nat) : Int)) ∧ ((0 : Int) ≤ i ∧ i ≤ (((((w64 (((s.len : Nat) : Int) + ((v.len : Nat) : Int))) : Int).toNat) : Nat) : Int)) ∧ 
 vCopy Try.prog T_sl_sorted_item_int_api_Session (cutA (cutA s.a s.cap 0 5) s.cap (((w64 (i + ((v.len : Nat) : Int))) : Int).toNat) 5) ((((w64 (((s.len : Nat) : Int) + ((v.len : Nat) : Int))) : Int).toNat) - (((w64 (i + ((v.len : Nat) : Int))) : Int).toNat)) (.slice (cutA (cutA s.a s.cap 0 5) s.cap ((i : Int).toNat) 5) ((((w64 (((s.len : Nat) : Int) + ((v.len : Nat) : Int))) : Int).toNat) - ((i : Int).toNat)) (s.cap - ((i : Int).toNat))) H5 (fun n2 H6 => ((0 : Int) ≤ i ∧ i ≤ (((((w64 (((s.len : Nat) : Int) + ((v.len : Nat) : Int))) : Int).toNat) : Nat) : Int)) ∧ 
 vCopy Try.prog T_sl_sorted_item_int_api_Session (cutA (cutA s.a s.cap 0 5) s.cap ((i : Int).toNat) 5) ((((w64 (((s.len : Nat) : Int) + ((v.len : Nat) : Int))) : Int).toNat) - ((i : Int).toNat)) (.slice v.a v.len v.cap) H6 (fun n3 H7 => Q (.slice (cutA s.a s.cap 0 5) (((w64 (((s.len : Nat) : Int) + ((v.len : Nat) : Int))) : Int).toNat) s.cap) H7)))
 (((0 : Int) ≤ ((s.len : Nat) : Int) ∧ ((s.len : Nat) : Int) ≤ (((((w64 (((s.len : Nat) : Int) + ((v.len : Nat) : Int))) : Int).toNat) : Nat) : Int)) ∧ 
 vCopy Try.prog T_sl_sorted_item_int_api_Session (cutA (cutA s.a s.cap 0 5) s.cap ((((s.len : Nat) : Int) : Int).toNat) 5) ((((w64 (((s.len : Nat) : Int) + ((v.len : Nat) : Int))) : Int).toNat) - ((((s.len : Nat) : Int) : Int).toNat)) (.slice v.a v.len v.cap) H5 (fun n4 H8 => ((0 : Int) ≤ i ∧ i ≤ (((((w64 (((s.len : Nat) : Int) + ((v.len : Nat) : Int))) : Int).toNat) : Nat) : Int)) ∧ 
 SCalls Try.prog slices_rotateRight_sorted_item_int_api_Session.id [.slice (cutA (cutA s.a s.cap 0 5) s.cap ((i : Int).toNat) 5) ((((w64 (((s.len : Nat) : Int) + ((v.len : Nat) : Int))) : Int).toNat) - ((i : Int).toNat)) (s.cap - ((i : Int).toNat)), .int .i64 ((v.len : Nat) : Int)] H8 (fun r1 H9 => r1 = .tuple #[] ∧ Q (.slice (cutA s.a s.cap 0 5) (((w64 (((s.len : Nat) : Int) + ((v.len : Nat) : Int))) : Int).toNat) s.cap) H9)))))))
theorem slices_Insert_sl_sorted_item_int_api_Session_sorted_item_int_api_Session.eq (J : Jn) (s : Sl) (i : Int) (v : Sl) (H : Hp) (Q : Value → Hp → Prop) : vFn Try.prog slices_Insert_sl_sorted_item_int_api_Session_sorted_item_int_api_Session.cf J slices_Insert_sl_sorted_item_int_api_Session_sorted_item_int_api_Session.fn [.slice s.a s.len s.cap, .int .i64 i, .slice v.a v.len v.cap] H Q = slices_Insert_sl_sorted_item_int_api_Session_sorted_item_int_api_Session.vc J s i v H Q := by kernel_rfl
theorem slices_Insert_sl_sorted_item_int_api_Session_sorted_item_int_api_Session.calls {s : Sl} {i : Int} {v : Sl} {H : Hp} {Q : Value → Hp → Prop} (h : slices_Insert_sl_sorted_item_int_api_Session_sorted_item_int_api_Session.vc J0 s i v H Q) : SCalls Try.prog slices_Insert_sl_sorted_item_int_api_Session_sorted_item_int_api_Session.id [.slice s.a s.len s.cap, .int .i64 i, .slice v.a v.len v.cap] H Q := vFn_of Try.mixed Try.func56 (slices_Insert_sl_sorted_item_int_api_Session_sorted_item_int_api_Session.eq J0 s i v H Q) h

/-! 57: (*tephra/sorted.Map_int, tephra/api.Session_).All$1 -/
noncomputable def sorted_Map_int_api_Session_All_1.cf : Cfg := ⟨[4], [(1, [0, 8, 9, 10])], [], [], true⟩
noncomputable def sorted_Map_int_api_Session_All_1.l1.st (yield : Fv) (items : Sl) (H1 : Hp) (x1 : Int) : VS := ⟨mkFr 22 [(0, .v (.func yield.fn yield.fi yield.ca)), (8, .v (.slice items.a items.len items.cap)), (9, .v (.int .i64 ((items.len : Nat) : Int))), (10, .v (.int .i64 x1))], [], H1⟩
noncomputable def sorted_Map_int_api_Session_All_1.l1 (J : Jn) (yield : Fv) (items : Sl) (H1 : Hp) (x1 : Int) (Q : Value → Hp → Prop) : Prop := vAt Try.prog sorted_Map_int_api_Session_All_1.cf J sorted_Map_int_api_Session_All_1.fn [1, 0] [0] Q (sorted_Map_int_api_Session_All_1.l1.st yield items H1 x1)
attribute [irreducible] sorted_Map_int_api_Session_All_1.l1
noncomputable def sorted_Map_int_api_Session_All_1.l1.body (J : Jn) (yield : Fv) (items : Sl) (H1 : Hp) (x1 : Int) (Q : Value → Hp → Prop) : Prop :=
 
 Br (decide (x1 < ((items.len : Nat) : Int))) (((0 : Int) ≤ x1 ∧ x1 < ((items.len : Nat) : Int)) ∧ vPtr items.a (fun a1 => ∃ key : Int, ∃ valueClient : Int, ∃ valueSeq : Int, ∃ valueReplyErr : Int, ∃ valueReplyValue : ByteArray, RowAt H1 (a1.add ((x1 : Int).toNat * 5)) [.int .i64 key, .int .i64 valueClient, .int .i64 valueSeq, .int .i64 valueReplyErr, .string valueReplyValue] ∧ 
 vInv Try.prog (.func yield.fn yield.fi yield.ca) [.int .i64 key, .agg #[.int .i64 valueClient, .int .i64 valueSeq, .int .i64 valueReplyErr, .string valueReplyValue]] (holes H1 1) (fun r H2 => ∃ x2 : Bool, r = .bool x2 ∧ 
 Br (!x2) (Q (.tuple #[]) H2)
 (
 sorted_Map_int_api_Session_All_1.l1 J yield items H2 (w64 (x1 + 1)) Q))))
 (Q (.tuple #[]) H1)
theorem sorted_Map_int_api_Session_All_1.l1.eq (J : Jn) (yield : Fv) (items : Sl) (H1 : Hp) (x1 : Int) (Q : Value → Hp → Prop) : vAtBody Try.prog sorted_Map_int_api_Session_All_1.cf J sorted_Map_int_api_Session_All_1.fn [1, 0] [0] Q (sorted_Map_int_api_Session_All_1.l1.st yield items H1 x1) = sorted_Map_int_api_Session_All_1.l1.body J yield items H1 x1 Q := by kernel_rfl
theorem sorted_Map_int_api_Session_All_1.l1.step {yield : Fv} {items : Sl} {H1 : Hp} {x1 : Int} {Q : Value → Hp → Prop} (h : sorted_Map_int_api_Session_All_1.l1.body J0 yield items H1 x1 Q) : sorted_Map_int_api_Session_All_1.l1 J0 yield items H1 x1 Q := vAt_stepC (sorted_Map_int_api_Session_All_1.l1.st yield items H1 x1) (sorted_Map_int_api_Session_All_1.l1.eq J0 yield items H1 x1 Q) (by kernel_rfl) h
noncomputable def sorted_Map_int_api_Session_All_1.vc (J : Jn) (yield : Fv) (cap0 : Addr) (H : Hp) (Q : Value → Hp → Prop) : Prop :=
 ∃ x : Option Addr, Hp.cell? H cap0 = some (.pointer x) ∧ vPtr x (fun a => ∃ items : Sl, Hp.cell? H a = some (.slice items.a items.len items.cap) ∧ 
 sorted_Map_int_api_Session_All_1.l1 J yield items H 0 Q)
theorem sorted_Map_int_api_Session_All_1.eq (J : Jn) (yield : Fv) (cap0 : Addr) (H : Hp) (Q : Value → Hp → Prop) : vFn Try.prog sorted_Map_int_api_Session_All_1.cf J sorted_Map_int_api_Session_All_1.fn [.func yield.fn yield.fi yield.ca, .pointer (some cap0)] H Q = sorted_Map_int_api_Session_All_1.vc J yield cap0 H Q := by kernel_rfl
theorem sorted_Map_int_api_Session_All_1.calls {yield : Fv} {cap0 : Addr} {H : Hp} {Q : Value → Hp → Prop} (h : sorted_Map_int_api_Session_All_1.vc J0 yield cap0 H Q) : SCalls Try.prog sorted_Map_int_api_Session_All_1.id [.func yield.fn yield.fi yield.ca, .pointer (some cap0)] H Q := vFn_of Try.mixed Try.func57 (sorted_Map_int_api_Session_All_1.eq J0 yield cap0 H Q) h

/-! 58: (*tephra/pack.Reader).take -/
noncomputable def pack_Reader_take.cf : Cfg := ⟨[], [], [(2, [0, 1], true)], [(14, [0, 1, 6, 14]), (23, [0, 1, 6, 23])], true⟩
noncomputable def pack_Reader_take.k1.st (r : Addr) (n : Int) (H : Hp) (x : Bool) : VS := ⟨mkFr 46 [(0, .v (.pointer (some r))), (1, .v (.int .i64 n)), (6, .v (.pointer (some r))), (14, .v (.bool x))], [], H⟩
noncomputable def pack_Reader_take.k1 (J : Jn) (r : Addr) (n : Int) (H : Hp) (x : Bool) (Q : Value → Hp → Prop) : Prop := J (vMid Try.prog pack_Reader_take.cf J pack_Reader_take.fn [1, 0, 0] [0, 0, 0] 9 Q) (pack_Reader_take.k1.st r n H x)
noncomputable def pack_Reader_take.k2.st (r : Addr) (n : Int) (H : Hp) (x1 : Bool) : VS := ⟨mkFr 46 [(0, .v (.pointer (some r))), (1, .v (.int .i64 n)), (6, .v (.pointer (some r))), (23, .v (.bool x1))], [], H⟩
noncomputable def pack_Reader_take.k2 (J : Jn) (r : Addr) (n : Int) (H : Hp) (x1 : Bool) (Q : Value → Hp → Prop) : Prop := J (vMid Try.prog pack_Reader_take.cf J pack_Reader_take.fn [1, 0, 0] [0, 0, 0] 18 Q) (pack_Reader_take.k2.st r n H x1)
noncomputable def pack_Reader_take.k3.st (r : Addr) (n : Int) (H : Hp) (x1 : Bool) : VS := ⟨mkFr 46 [(0, .v (.pointer (some r))), (1, .v (.int .i64 n))], [], (Hp.setCell H (r.add 1) (.bool x1))⟩
noncomputable def pack_Reader_take.k3 (J : Jn) (r : Addr) (n : Int) (H : Hp) (x1 : Bool) (Q : Value → Hp → Prop) : Prop := J (vSeg Try.prog pack_Reader_take.cf J pack_Reader_take.fn [1, 0, 1] [0, 0, 0] Q) (pack_Reader_take.k3.st r n H x1)
attribute [irreducible] pack_Reader_take.k1 pack_Reader_take.k2 pack_Reader_take.k3
noncomputable def pack_Reader_take.k1.body (J : Jn) (r : Addr) (n : Int) (H : Hp) (x : Bool) (Q : Value → Hp → Prop) : Prop :=
 
 Br x (
 pack_Reader_take.k2 J r n H true Q)
 (∃ b : Sl, Hp.cell? H r = some (.slice b.a b.len b.cap) ∧ 
 pack_Reader_take.k2 J r n H (decide (n > ((b.len : Nat) : Int))) Q)
theorem pack_Reader_take.k1.eq (J : Jn) (r : Addr) (n : Int) (H : Hp) (x : Bool) (Q : Value → Hp → Prop) : vMid Try.prog pack_Reader_take.cf J pack_Reader_take.fn [1, 0, 0] [0, 0, 0] 9 Q (pack_Reader_take.k1.st r n H x) = pack_Reader_take.k1.body J r n H x Q := by kernel_rfl
theorem pack_Reader_take.k1.step {r : Addr} {n : Int} {H : Hp} {x : Bool} {Q : Value → Hp → Prop} (h : pack_Reader_take.k1.body J0 r n H x Q) : pack_Reader_take.k1 J0 r n H x Q := step_of (vMid Try.prog pack_Reader_take.cf J0 pack_Reader_take.fn [1, 0, 0] [0, 0, 0] 9 Q) (pack_Reader_take.k1.st r n H x) (pack_Reader_take.k1.eq J0 r n H x Q) (by kernel_rfl) h
noncomputable def pack_Reader_take.k2.body (J : Jn) (r : Addr) (n : Int) (H : Hp) (x1 : Bool) (Q : Value → Hp → Prop) : Prop :=
 WrAt H (r.add 1) 1 ∧ 
 pack_Reader_take.k3 J r n H x1 Q
theorem pack_Reader_take.k2.eq (J : Jn) (r : Addr) (n : Int) (H : Hp) (x1 : Bool) (Q : Value → Hp → Prop) : vMid Try.prog pack_Reader_take.cf J pack_Reader_take.fn [1, 0, 0] [0, 0, 0] 18 Q (pack_Reader_take.k2.st r n H x1) = pack_Reader_take.k2.body J r n H x1 Q := by kernel_rfl
theorem pack_Reader_take.k2.step {r : Addr} {n : Int} {H : Hp} {x1 : Bool} {Q : Value → Hp → Prop} (h : pack_Reader_take.k2.body J0 r n H x1 Q) : pack_Reader_take.k2 J0 r n H x1 Q := step_of (vMid Try.prog pack_Reader_take.cf J0 pack_Reader_take.fn [1, 0, 0] [0, 0, 0] 18 Q) (pack_Reader_take.k2.st r n H x1) (pack_Reader_take.k2.eq J0 r n H x1 Q) (by kernel_rfl) h
noncomputable def pack_Reader_take.k3.body (J : Jn) (r : Addr) (n : Int) (H : Hp) (x1 : Bool) (Q : Value → Hp → Prop) : Prop :=
 ∃ bad1 : Bool, Hp.cell? (Hp.setCell H (r.add 1) (.bool x1)) (r.add 1) = some (.bool bad1) ∧ 
 Br bad1 (Q (.slice none 0 0) (Hp.setCell H (r.add 1) (.bool x1)))
 (∃ b1 : Sl, Hp.cell? (Hp.setCell H (r.add 1) (.bool x1)) r = some (.slice b1.a b1.len b1.cap) ∧ ((0 : Int) ≤ n ∧ n ≤ ((b1.cap : Nat) : Int)) ∧ ∃ b2 : Sl, Hp.cell? (Hp.setCell H (r.add 1) (.bool x1)) r = some (.slice b2.a b2.len b2.cap) ∧ ((0 : Int) ≤ n ∧ n ≤ ((b2.len : Nat) : Int)) ∧ WrAt (Hp.setCell H (r.add 1) (.bool x1)) r 1 ∧ Q (.slice (cutA b1.a b1.cap 0 1) ((n : Int).toNat) b1.cap) (Hp.setCell (Hp.setCell H (r.add 1) (.bool x1)) r (.slice (cutA b2.a b2.cap ((n : Int).toNat) 1) (b2.len - ((n : Int).toNat)) (b2.cap - ((n : Int).toNat)))))
theorem pack_Reader_take.k3.eq (J : Jn) (r : Addr) (n : Int) (H : Hp) (x1 : Bool) (Q : Value → Hp → Prop) : vSeg Try.prog pack_Reader_take.cf J pack_Reader_take.fn [1, 0, 1] [0, 0, 0] Q (pack_Reader_take.k3.st r n H x1) = pack_Reader_take.k3.body J r n H x1 Q := by kernel_rfl
theorem pack_Reader_take.k3.step {r : Addr} {n : Int} {H : Hp} {x1 : Bool} {Q : Value → Hp → Prop} (h : pack_Reader_take.k3.body J0 r n H x1 Q) : pack_Reader_take.k3 J0 r n H x1 Q := step_of (vSeg Try.prog pack_Reader_take.cf J0 pack_Reader_take.fn [1, 0, 1] [0, 0, 0] Q) (pack_Reader_take.k3.st r n H x1) (pack_Reader_take.k3.eq J0 r n H x1 Q) (by kernel_rfl) h
noncomputable def pack_Reader_take.vc (J : Jn) (r : Addr) (n : Int) (H : Hp) (Q : Value → Hp → Prop) : Prop :=
 ∃ bad : Bool, Hp.cell? H (r.add 1) = some (.bool bad) ∧ 
 Br bad (
 pack_Reader_take.k1 J r n H true Q)
 (
 pack_Reader_take.k1 J r n H (decide (n < 0)) Q)
theorem pack_Reader_take.eq (J : Jn) (r : Addr) (n : Int) (H : Hp) (Q : Value → Hp → Prop) : vFn Try.prog pack_Reader_take.cf J pack_Reader_take.fn [.pointer (some r), .int .i64 n] H Q = pack_Reader_take.vc J r n H Q := by kernel_rfl
theorem pack_Reader_take.calls {r : Addr} {n : Int} {H : Hp} {Q : Value → Hp → Prop} (h : pack_Reader_take.vc J0 r n H Q) : SCalls Try.prog pack_Reader_take.id [.pointer (some r), .int .i64 n] H Q := vFn_of Try.mixed Try.func58 (pack_Reader_take.eq J0 r n H Q) h

/-! 59: slices.BinarySearchFunc___tephra/sorted.item_int, tephra/api.Session_,tephra/sorted.item_int, tephra/api.Session_,int_ -/
noncomputable def slices_BinarySearchFunc_sl_sorted_item_int_api_Session_sorted_item_int_api_Session_int.cf : Cfg := ⟨[], [(3, [0, 1, 2, 8, 9, 10])], [], [], true⟩
noncomputable def slices_BinarySearchFunc_sl_sorted_item_int_api_Session_sorted_item_int_api_Session_int.l1.st (x : Sl) (target : Int) (cmp : Fv) (H1 : Hp) (i : Int) (j : Int) : VS := ⟨mkFr 49 [(0, .v (.slice x.a x.len x.cap)), (1, .v (.int .i64 target)), (2, .v (.func cmp.fn cmp.fi cmp.ca)), (8, .v (.int .i64 ((x.len : Nat) : Int))), (9, .v (.int .i64 i)), (10, .v (.int .i64 j))], [], H1⟩
noncomputable def slices_BinarySearchFunc_sl_sorted_item_int_api_Session_sorted_item_int_api_Session_int.l1 (J : Jn) (x : Sl) (target : Int) (cmp : Fv) (H1 : Hp) (i : Int) (j : Int) (Q : Value → Hp → Prop) : Prop := vAt Try.prog slices_BinarySearchFunc_sl_sorted_item_int_api_Session_sorted_item_int_api_Session_int.cf J slices_BinarySearchFunc_sl_sorted_item_int_api_Session_sorted_item_int_api_Session_int.fn [1, 1, 1, 0, 0] [0, 0, 0, 0] Q (slices_BinarySearchFunc_sl_sorted_item_int_api_Session_sorted_item_int_api_Session_int.l1.st x target cmp H1 i j)
attribute [irreducible] slices_BinarySearchFunc_sl_sorted_item_int_api_Session_sorted_item_int_api_Session_int.l1
noncomputable def slices_BinarySearchFunc_sl_sorted_item_int_api_Session_sorted_item_int_api_Session_int.l1.body (J : Jn) (x : Sl) (target : Int) (cmp : Fv) (H1 : Hp) (i : Int) (j : Int) (Q : Value → Hp → Prop) : Prop :=
 
 Br (decide (i < j)) ((0 : Int) ≤ 1 ∧ ((0 : Int) ≤ (w64 ((Int.fdiv (IntKind.u64.wrap ((w64 (i + j)))) (2 ^ 1)))) ∧ (w64 ((Int.fdiv (IntKind.u64.wrap ((w64 (i + j)))) (2 ^ 1)))) < ((x.len : Nat) : Int)) ∧ vPtr x.a (fun a => ∃ key : Int, ∃ valueClient : Int, ∃ valueSeq : Int, ∃ valueReplyErr : Int, ∃ valueReplyValue : ByteArray, RowAt H1 (a.add (((w64 ((Int.fdiv (IntKind.u64.wrap ((w64 (i + j)))) (2 ^ 1)))) : Int).toNat * 5)) [.int .i64 key, .int .i64 valueClient, .int .i64 valueSeq, .int .i64 valueReplyErr, .string valueReplyValue] ∧ 
 vInv Try.prog (.func cmp.fn cmp.fi cmp.ca) [.agg #[.int .i64 key, .int .i64 valueClient, .int .i64 valueSeq, .int .i64 valueReplyErr, .string valueReplyValue], .int .i64 target] H1 (fun r H2 => ∃ x1 : Int, r = .int .i64 x1 ∧ 
 Br (decide (x1 < 0)) (
 slices_BinarySearchFunc_sl_sorted_item_int_api_Session_sorted_item_int_api_Session_int.l1 J x target cmp H2 (w64 ((w64 ((Int.fdiv (IntKind.u64.wrap ((w64 (i + j)))) (2 ^ 1)))) + 1)) j Q)
 (
 slices_BinarySearchFunc_sl_sorted_item_int_api_Session_sorted_item_int_api_Session_int.l1 J x target cmp H2 i (w64 ((Int.fdiv (IntKind.u64.wrap ((w64 (i + j)))) (2 ^ 1)))) Q))))
 (
 Br (decide (i < ((x.len : Nat) : Int))) (((0 : Int) ≤ i ∧ i < ((x.len : Nat) : Int)) ∧ vPtr x.a (fun a1 => ∃ key1 : Int, ∃ valueClient1 : Int, ∃ valueSeq1 : Int, ∃ valueReplyErr1 : Int, ∃ valueReplyValue1 : ByteArray, RowAt H1 (a1.add ((i : Int).toNat * 5)) [.int .i64 key1, .int .i64 valueClient1, .int .i64 valueSeq1, .int .i64 valueReplyErr1, .string valueReplyValue1] ∧ 
 vInv Try.prog (.func cmp.fn cmp.fi cmp.ca) [.agg #[.int .i64 key1, .int .i64 valueClient1, .int .i64 valueSeq1, .int .i64 valueReplyErr1, .string valueReplyValue1], .int .i64 target] H1 (fun r1 H3 => ∃ x2 : Int, r1 = .int .i64 x2 ∧ Q (.tuple #[.int .i64 i, .bool (x2 == 0)]) H3)))
 (Q (.tuple #[.int .i64 i, .bool false]) H1))
theorem slices_BinarySearchFunc_sl_sorted_item_int_api_Session_sorted_item_int_api_Session_int.l1.eq (J : Jn) (x : Sl) (target : Int) (cmp : Fv) (H1 : Hp) (i : Int) (j : Int) (Q : Value → Hp → Prop) : vAtBody Try.prog slices_BinarySearchFunc_sl_sorted_item_int_api_Session_sorted_item_int_api_Session_int.cf J slices_BinarySearchFunc_sl_sorted_item_int_api_Session_sorted_item_int_api_Session_int.fn [1, 1, 1, 0, 0] [0, 0, 0, 0] Q (slices_BinarySearchFunc_sl_sorted_item_int_api_Session_sorted_item_int_api_Session_int.l1.st x target cmp H1 i j) = slices_BinarySearchFunc_sl_sorted_item_int_api_Session_sorted_item_int_api_Session_int.l1.body J x target cmp H1 i j Q := by kernel_rfl
theorem slices_BinarySearchFunc_sl_sorted_item_int_api_Session_sorted_item_int_api_Session_int.l1.step {x : Sl} {target : Int} {cmp : Fv} {H1 : Hp} {i : Int} {j : Int} {Q : Value → Hp → Prop} (h : slices_BinarySearchFunc_sl_sorted_item_int_api_Session_sorted_item_int_api_Session_int.l1.body J0 x target cmp H1 i j Q) : slices_BinarySearchFunc_sl_sorted_item_int_api_Session_sorted_item_int_api_Session_int.l1 J0 x target cmp H1 i j Q := vAt_stepC (slices_BinarySearchFunc_sl_sorted_item_int_api_Session_sorted_item_int_api_Session_int.l1.st x target cmp H1 i j) (slices_BinarySearchFunc_sl_sorted_item_int_api_Session_sorted_item_int_api_Session_int.l1.eq J0 x target cmp H1 i j Q) (by kernel_rfl) h
noncomputable def slices_BinarySearchFunc_sl_sorted_item_int_api_Session_sorted_item_int_api_Session_int.vc (J : Jn) (x : Sl) (target : Int) (cmp : Fv) (H : Hp) (Q : Value → Hp → Prop) : Prop :=
 
 slices_BinarySearchFunc_sl_sorted_item_int_api_Session_sorted_item_int_api_Session_int.l1 J x target cmp H 0 ((x.len : Nat) : Int) Q
theorem slices_BinarySearchFunc_sl_sorted_item_int_api_Session_sorted_item_int_api_Session_int.eq (J : Jn) (x : Sl) (target : Int) (cmp : Fv) (H : Hp) (Q : Value → Hp → Prop) : vFn Try.prog slices_BinarySearchFunc_sl_sorted_item_int_api_Session_sorted_item_int_api_Session_int.cf J slices_BinarySearchFunc_sl_sorted_item_int_api_Session_sorted_item_int_api_Session_int.fn [.slice x.a x.len x.cap, .int .i64 target, .func cmp.fn cmp.fi cmp.ca] H Q = slices_BinarySearchFunc_sl_sorted_item_int_api_Session_sorted_item_int_api_Session_int.vc J x target cmp H Q := by kernel_rfl
theorem slices_BinarySearchFunc_sl_sorted_item_int_api_Session_sorted_item_int_api_Session_int.calls {x : Sl} {target : Int} {cmp : Fv} {H : Hp} {Q : Value → Hp → Prop} (h : slices_BinarySearchFunc_sl_sorted_item_int_api_Session_sorted_item_int_api_Session_int.vc J0 x target cmp H Q) : SCalls Try.prog slices_BinarySearchFunc_sl_sorted_item_int_api_Session_sorted_item_int_api_Session_int.id [.slice x.a x.len x.cap, .int .i64 target, .func cmp.fn cmp.fi cmp.ca] H Q := vFn_of Try.mixed Try.func59 (slices_BinarySearchFunc_sl_sorted_item_int_api_Session_sorted_item_int_api_Session_int.eq J0 x target cmp H Q) h

/-! 60: (*tephra/sorted.Map_int, tephra/api.Session_).find$1 -/
noncomputable def sorted_Map_int_api_Session_find_1.cf : Cfg := ⟨[2], [], [], [], true⟩
noncomputable def sorted_Map_int_api_Session_find_1.vc (J : Jn) (xkey : Int) (xvalueClient : Int) (xvalueSeq : Int) (xvalueReplyErr : Int) (xvalueReplyValue : ByteArray) (k : Int) (H : Hp) (Q : Value → Hp → Prop) : Prop :=
 
 SCalls Try.prog cmp_Compare_int.id [.int .i64 xkey, .int .i64 k] (holes H 1) (fun r H1 => ∃ x : Int, r = .int .i64 x ∧ Q (.int .i64 x) H1)
theorem sorted_Map_int_api_Session_find_1.eq (J : Jn) (xkey : Int) (xvalueClient : Int) (xvalueSeq : Int) (xvalueReplyErr : Int) (xvalueReplyValue : ByteArray) (k : Int) (H : Hp) (Q : Value → Hp → Prop) : vFn Try.prog sorted_Map_int_api_Session_find_1.cf J sorted_Map_int_api_Session_find_1.fn [.agg #[.int .i64 xkey, .int .i64 xvalueClient, .int .i64 xvalueSeq, .int .i64 xvalueReplyErr, .string xvalueReplyValue], .int .i64 k] H Q = sorted_Map_int_api_Session_find_1.vc J xkey xvalueClient xvalueSeq xvalueReplyErr xvalueReplyValue k H Q := by kernel_rfl
theorem sorted_Map_int_api_Session_find_1.calls {xkey : Int} {xvalueClient : Int} {xvalueSeq : Int} {xvalueReplyErr : Int} {xvalueReplyValue : ByteArray} {k : Int} {H : Hp} {Q : Value → Hp → Prop} (h : sorted_Map_int_api_Session_find_1.vc J0 xkey xvalueClient xvalueSeq xvalueReplyErr xvalueReplyValue k H Q) : SCalls Try.prog sorted_Map_int_api_Session_find_1.id [.agg #[.int .i64 xkey, .int .i64 xvalueClient, .int .i64 xvalueSeq, .int .i64 xvalueReplyErr, .string xvalueReplyValue], .int .i64 k] H Q := vFn_of Try.mixed Try.func60 (sorted_Map_int_api_Session_find_1.eq J0 xkey xvalueClient xvalueSeq xvalueReplyErr xvalueReplyValue k H Q) h

/-! 61: cmp.Compare_int_ -/
noncomputable def cmp_Compare_int.cf : Cfg := ⟨[], [], [], [], true⟩
noncomputable def cmp_Compare_int.vc (J : Jn) (x : Int) (y : Int) (H : Hp) (Q : Value → Hp → Prop) : Prop :=
 
 SCalls Try.prog cmp_isNaN_int.id [.int .i64 x] H (fun r H1 => ∃ x1 : Bool, r = .bool x1 ∧ 
 SCalls Try.prog cmp_isNaN_int.id [.int .i64 y] H1 (fun r1 H2 => ∃ x2 : Bool, r1 = .bool x2 ∧ 
 Br x1 (
 Br x2 (Q (.int .i64 0) H2)
 (Q (.int .i64 (-1)) H2))
 (
 Br x2 (Q (.int .i64 1) H2)
 (
 Br (decide (x < y)) (Q (.int .i64 (-1)) H2)
 (
 Br (decide (x > y)) (Q (.int .i64 1) H2)
 (Q (.int .i64 0) H2))))))
theorem cmp_Compare_int.eq (J : Jn) (x : Int) (y : Int) (H : Hp) (Q : Value → Hp → Prop) : vFn Try.prog cmp_Compare_int.cf J cmp_Compare_int.fn [.int .i64 x, .int .i64 y] H Q = cmp_Compare_int.vc J x y H Q := by kernel_rfl
theorem cmp_Compare_int.calls {x : Int} {y : Int} {H : Hp} {Q : Value → Hp → Prop} (h : cmp_Compare_int.vc J0 x y H Q) : SCalls Try.prog cmp_Compare_int.id [.int .i64 x, .int .i64 y] H Q := vFn_of Try.mixed Try.func61 (cmp_Compare_int.eq J0 x y H Q) h

/-! 62: (*tephra/sorted.Map_string, string_).find -/
noncomputable def sorted_Map_string_string_find.cf : Cfg := ⟨[], [], [], [], true⟩
noncomputable def sorted_Map_string_string_find.vc (J : Jn) (m : Addr) (k : ByteArray) (H : Hp) (Q : Value → Hp → Prop) : Prop :=
 ∃ items : Sl, Hp.cell? H m = some (.slice items.a items.len items.cap) ∧ 
 SCalls Try.prog slices_BinarySearchFunc_sl_sorted_item_string_string_sorted_item_string_string_string.id [.slice items.a items.len items.cap, .string k, .func (.func 70) #[] #[]] H (fun r H1 => ∃ x : Int, ∃ x1 : Bool, r = .tuple #[.int .i64 x, .bool x1] ∧ Q (.tuple #[.int .i64 x, .bool x1]) H1)
theorem sorted_Map_string_string_find.eq (J : Jn) (m : Addr) (k : ByteArray) (H : Hp) (Q : Value → Hp → Prop) : vFn Try.prog sorted_Map_string_string_find.cf J sorted_Map_string_string_find.fn [.pointer (some m), .string k] H Q = sorted_Map_string_string_find.vc J m k H Q := by kernel_rfl
theorem sorted_Map_string_string_find.calls {m : Addr} {k : ByteArray} {H : Hp} {Q : Value → Hp → Prop} (h : sorted_Map_string_string_find.vc J0 m k H Q) : SCalls Try.prog sorted_Map_string_string_find.id [.pointer (some m), .string k] H Q := vFn_of Try.mixed Try.func62 (sorted_Map_string_string_find.eq J0 m k H Q) h

/-! 63: slices.Insert___tephra/sorted.item_string, string_,tephra/sorted.item_string, string__ -/
noncomputable def slices_Insert_sl_sorted_item_string_string_sorted_item_string_string.cf : Cfg := ⟨[], [], [], [], true⟩
noncomputable def slices_Insert_sl_sorted_item_string_string_sorted_item_string_string.vc (J : Jn) (s : Sl) (i : Int) (v : Sl) (H : Hp) (Q : Value → Hp → Prop) : Prop :=
 ((0 : Int) ≤ i ∧ i ≤ ((s.len : Nat) : Int)) ∧ 
 Br (((v.len : Nat) : Int) == 0) (Q (.slice s.a s.len s.cap) H)
 (
 Br (i == ((s.len : Nat) : Int)) (
 vApp Try.prog T_sl_sorted_item_string_string s.a s.len s.cap (.slice v.a v.len v.cap) H (fun ap H1 => Q (.slice ap.a ap.len ap.cap) H1))
 (
 Br (decide ((w64 (((s.len : Nat) : Int) + ((v.len : Nat) : Int))) > ((s.cap : Nat) : Int))) (((0 : Int) ≤ i ∧ i ≤ ((s.cap : Nat) : Int)) ∧ 
 vAppZ Try.prog T_sl_sorted_item_string_string (cutA s.a s.cap 0 2) ((i : Int).toNat) s.cap (w64 ((w64 (((s.len : Nat) : Int) + ((v.len : Nat) : Int))) - i)) H (fun ap1 H2 => ((0 : Int) ≤ i ∧ i ≤ ((ap1.len : Nat) : Int)) ∧ 
 vCopy Try.prog T_sl_sorted_item_string_string (cutA ap1.a ap1.cap ((i : Int).toNat) 2) (ap1.len - ((i : Int).toNat)) (.slice v.a v.len v.cap) H2 (fun n H3 => ((0 : Int) ≤ (w64 (i + ((v.len : Nat) : Int))) ∧ (w64 (i + ((v.len : Nat) : Int))) ≤ ((ap1.len : Nat) : Int)) ∧ ((0 : Int) ≤ i ∧ i ≤ ((s.len : Nat) : Int)) ∧ 
 vCopy Try.prog T_sl_sorted_item_string_string (cutA ap1.a ap1.cap (((w64 (i + ((v.len : Nat) : Int))) : Int).toNat) 2) (ap1.len - (((w64 (i + ((v.len : Nat) : Int))) : Int).toNat)) (.slice (cutA s.a s.cap ((i : Int).toNat) 2) (s.len - ((i : Int).toNat)) (s.cap - ((i : Int).toNat))) H3 (fun n1 H4 => Q (.slice ap1.a ap1.len ap1.cap) H4))))
 (((0 : Int) ≤ (w64 (((s.len : Nat) : Int) + ((v.len : Nat) : Int))) ∧ (w64 (((s.len : Nat) : Int) + ((v.len : Nat) : Int))) ≤ ((s.cap : Nat) : Int)) ∧ ((0 : Int) ≤ (w64 (i + ((v.len : Nat) : Int))) ∧ (w64 (i + ((v.len : Nat) : Int))) ≤ (((((w64 (((s.len : Nat) : Int) + ((v.len : Nat) : Int))) : Int).toNat) : Nat) : Int)) ∧ 
 ExtC Try.prog 72 [.slice v.a v.len v.cap, .slice (cutA (cutA s.a s.cap 0 2) s.cap (((w64 (i + ((v.len : Nat) : Int))) : Int).toNat) 2) ((((w64 (((s.len : Nat) : Int) + ((v.len : Nat) : Int))) : Int).toNat) - (((w64 (i + ((v.len : Nat) : Int))) : Int).toNat)) (s.cap - (((w64 (i + ((v.len : Nat) : Int))) : Int).toNat))] H (fun r H5 => ∃ x : Bool, r = .bool x ∧ 
 Br (!x) (((0 : Int) ≤ (w64 (i + ((v.len : Nat) : Int))) ∧ (w64 (i + ((v.len : Nat) : Int))) ≤ (((((w64 (((s.len : Nat) : Int) + ((v.len : Nat) : Int))) : Int).toNat) : Nat) : Int)) ∧ ((0 : Int) ≤ i ∧ i ≤ (((((w64 (((s.len : Nat) : Int) + ((v.len : Nat) : Int))) : Int).toNat) : Nat) : Int)) ∧ 
 vCopy Try.prog T_sl_sorted_item_string_string (cutA (cutA s.a s.cap 0 2) s.cap (((w64 (i + ((v.len : Nat) : Int))) : Int).toNat) 2) ((((w64 (((s.len : Nat) : Int) + ((v.len : Nat) : Int))) : Int).toNat) - (((w64 (i + ((v.len : Nat) : Int))) : Int).toNat)) (.slice (cutA (cutA s.a s.cap 0 2) s.cap ((i : Int).toNat) 2) ((((w64 (((s.len : Nat) : Int) + ((v.len : Nat) : Int))) : Int).toNat) - ((i : Int).toNat)) (s.cap - ((i : Int).toNat))) H5 (fun n2 H6 => ((0 : Int) ≤ i ∧ i ≤ (((((w64 (((s.len : Nat) : Int) + ((v.len : Nat) : Int))) : Int).toNat) : Nat) : Int)) ∧ 
 vCopy Try.prog T_sl_sorted_item_string_string (cutA (cutA s.a s.cap 0 2) s.cap ((i : Int).toNat) 2) ((((w64 (((s.len : Nat) : Int) + ((v.len : Nat) : Int))) : Int).toNat) - ((i : Int).toNat)) (.slice v.a v.len v.cap) H6 (fun n3 H7 => Q (.slice (cutA s.a s.cap 0 2) (((w64 (((s.len : Nat) : Int) + ((v.len : Nat) : Int))) : Int).toNat) s.cap) H7)))
 (((0 : Int) ≤ ((s.len : Nat) : Int) ∧ ((s.len : Nat) : Int) ≤ (((((w64 (((s.len : Nat) : Int) + ((v.len : Nat) : Int))) : Int).toNat) : Nat) : Int)) ∧ 
 vCopy Try.prog T_sl_sorted_item_string_string (cutA (cutA s.a s.cap 0 2) s.cap ((((s.len : Nat) : Int) : Int).toNat) 2) ((((w64 (((s.len : Nat) : Int) + ((v.len : Nat) : Int))) : Int).toNat) - ((((s.len : Nat) : Int) : Int).toNat)) (.slice v.a v.len v.cap) H5 (fun n4 H8 => ((0 : Int) ≤ i ∧ i ≤ (((((w64 (((s.len : Nat) : Int) + ((v.len : Nat) : Int))) : Int).toNat) : Nat) : Int)) ∧ 
 SCalls Try.prog slices_rotateRight_sorted_item_string_string.id [.slice (cutA (cutA s.a s.cap 0 2) s.cap ((i : Int).toNat) 2) ((((w64 (((s.len : Nat) : Int) + ((v.len : Nat) : Int))) : Int).toNat) - ((i : Int).toNat)) (s.cap - ((i : Int).toNat)), .int .i64 ((v.len : Nat) : Int)] H8 (fun r1 H9 => r1 = .tuple #[] ∧ Q (.slice (cutA s.a s.cap 0 2) (((w64 (((s.len : Nat) : Int) + ((v.len : Nat) : Int))) : Int).toNat) s.cap) H9)))))))
theorem slices_Insert_sl_sorted_item_string_string_sorted_item_string_string.eq (J : Jn) (s : Sl) (i : Int) (v : Sl) (H : Hp) (Q : Value → Hp → Prop) : vFn Try.prog slices_Insert_sl_sorted_item_string_string_sorted_item_string_string.cf J slices_Insert_sl_sorted_item_string_string_sorted_item_string_string.fn [.slice s.a s.len s.cap, .int .i64 i, .slice v.a v.len v.cap] H Q = slices_Insert_sl_sorted_item_string_string_sorted_item_string_string.vc J s i v H Q := by kernel_rfl
theorem slices_Insert_sl_sorted_item_string_string_sorted_item_string_string.calls {s : Sl} {i : Int} {v : Sl} {H : Hp} {Q : Value → Hp → Prop} (h : slices_Insert_sl_sorted_item_string_string_sorted_item_string_string.vc J0 s i v H Q) : SCalls Try.prog slices_Insert_sl_sorted_item_string_string_sorted_item_string_string.id [.slice s.a s.len s.cap, .int .i64 i, .slice v.a v.len v.cap] H Q := vFn_of Try.mixed Try.func63 (slices_Insert_sl_sorted_item_string_string_sorted_item_string_string.eq J0 s i v H Q) h

/-! 64: slices.Delete___tephra/sorted.item_string, string_,tephra/sorted.item_string, string__ -/
noncomputable def slices_Delete_sl_sorted_item_string_string_sorted_item_string_string.cf : Cfg := ⟨[], [], [], [], true⟩
noncomputable def slices_Delete_sl_sorted_item_string_string_sorted_item_string_string.vc (J : Jn) (s : Sl) (i : Int) (j : Int) (H : Hp) (Q : Value → Hp → Prop) : Prop :=
 ((0 : Int) ≤ ((s.len : Nat) : Int) ∧ ((s.len : Nat) : Int) ≤ ((s.cap : Nat) : Int)) ∧ ((0 : Int) ≤ j ∧ j ≤ ((((((s.len : Nat) : Int) : Int).toNat) : Nat) : Int)) ∧ ((0 : Int) ≤ i ∧ i ≤ ((((j : Int).toNat) : Nat) : Int)) ∧ 
 Br (i == j) (Q (.slice s.a s.len s.cap) H)
 (((0 : Int) ≤ i ∧ i ≤ ((s.cap : Nat) : Int)) ∧ ((0 : Int) ≤ j ∧ j ≤ ((s.len : Nat) : Int)) ∧ 
 vApp Try.prog T_sl_sorted_item_string_string (cutA s.a s.cap 0 2) ((i : Int).toNat) s.cap (.slice (cutA s.a s.cap ((j : Int).toNat) 2) (s.len - ((j : Int).toNat)) (s.cap - ((j : Int).toNat))) H (fun ap H1 => ((0 : Int) ≤ ((s.len : Nat) : Int) ∧ ((s.len : Nat) : Int) ≤ ((ap.cap : Nat) : Int)) ∧ ((0 : Int) ≤ ((ap.len : Nat) : Int) ∧ ((ap.len : Nat) : Int) ≤ ((((((s.len : Nat) : Int) : Int).toNat) : Nat) : Int)) ∧ 
 vClear Try.prog T_sl_sorted_item_string_string (cutA ap.a ap.cap ((((ap.len : Nat) : Int) : Int).toNat) 2) (((((s.len : Nat) : Int) : Int).toNat) - ((((ap.len : Nat) : Int) : Int).toNat)) H1 (fun H2 => Q (.slice ap.a ap.len ap.cap) H2)))
theorem slices_Delete_sl_sorted_item_string_string_sorted_item_string_string.eq (J : Jn) (s : Sl) (i : Int) (j : Int) (H : Hp) (Q : Value → Hp → Prop) : vFn Try.prog slices_Delete_sl_sorted_item_string_string_sorted_item_string_string.cf J slices_Delete_sl_sorted_item_string_string_sorted_item_string_string.fn [.slice s.a s.len s.cap, .int .i64 i, .int .i64 j] H Q = slices_Delete_sl_sorted_item_string_string_sorted_item_string_string.vc J s i j H Q := by kernel_rfl
theorem slices_Delete_sl_sorted_item_string_string_sorted_item_string_string.calls {s : Sl} {i : Int} {j : Int} {H : Hp} {Q : Value → Hp → Prop} (h : slices_Delete_sl_sorted_item_string_string_sorted_item_string_string.vc J0 s i j H Q) : SCalls Try.prog slices_Delete_sl_sorted_item_string_string_sorted_item_string_string.id [.slice s.a s.len s.cap, .int .i64 i, .int .i64 j] H Q := vFn_of Try.mixed Try.func64 (slices_Delete_sl_sorted_item_string_string_sorted_item_string_string.eq J0 s i j H Q) h

/-! 65: (*tephra/sorted.Map_string, string_).All$1 -/
noncomputable def sorted_Map_string_string_All_1.cf : Cfg := ⟨[4], [(1, [0, 8, 9, 10])], [], [], true⟩
noncomputable def sorted_Map_string_string_All_1.l1.st (yield : Fv) (items : Sl) (H1 : Hp) (x1 : Int) : VS := ⟨mkFr 22 [(0, .v (.func yield.fn yield.fi yield.ca)), (8, .v (.slice items.a items.len items.cap)), (9, .v (.int .i64 ((items.len : Nat) : Int))), (10, .v (.int .i64 x1))], [], H1⟩
noncomputable def sorted_Map_string_string_All_1.l1 (J : Jn) (yield : Fv) (items : Sl) (H1 : Hp) (x1 : Int) (Q : Value → Hp → Prop) : Prop := vAt Try.prog sorted_Map_string_string_All_1.cf J sorted_Map_string_string_All_1.fn [1, 0] [0] Q (sorted_Map_string_string_All_1.l1.st yield items H1 x1)
attribute [irreducible] sorted_Map_string_string_All_1.l1
noncomputable def sorted_Map_string_string_All_1.l1.body (J : Jn) (yield : Fv) (items : Sl) (H1 : Hp) (x1 : Int) (Q : Value → Hp → Prop) : Prop :=
 
 Br (decide (x1 < ((items.len : Nat) : Int))) (((0 : Int) ≤ x1 ∧ x1 < ((items.len : Nat) : Int)) ∧ vPtr items.a (fun a1 => ∃ key : ByteArray, ∃ value : ByteArray, RowAt H1 (a1.add ((x1 : Int).toNat * 2)) [.string key, .string value] ∧ 
 vInv Try.prog (.func yield.fn yield.fi yield.ca) [.string key, .string value] (holes H1 1) (fun r H2 => ∃ x2 : Bool, r = .bool x2 ∧ 
 Br (!x2) (Q (.tuple #[]) H2)
 (
 sorted_Map_string_string_All_1.l1 J yield items H2 (w64 (x1 + 1)) Q))))
 (Q (.tuple #[]) H1)
theorem sorted_Map_string_string_All_1.l1.eq (J : Jn) (yield : Fv) (items : Sl) (H1 : Hp) (x1 : Int) (Q : Value → Hp → Prop) : vAtBody Try.prog sorted_Map_string_string_All_1.cf J sorted_Map_string_string_All_1.fn [1, 0] [0] Q (sorted_Map_string_string_All_1.l1.st yield items H1 x1) = sorted_Map_string_string_All_1.l1.body J yield items H1 x1 Q := by kernel_rfl
theorem sorted_Map_string_string_All_1.l1.step {yield : Fv} {items : Sl} {H1 : Hp} {x1 : Int} {Q : Value → Hp → Prop} (h : sorted_Map_string_string_All_1.l1.body J0 yield items H1 x1 Q) : sorted_Map_string_string_All_1.l1 J0 yield items H1 x1 Q := vAt_stepC (sorted_Map_string_string_All_1.l1.st yield items H1 x1) (sorted_Map_string_string_All_1.l1.eq J0 yield items H1 x1 Q) (by kernel_rfl) h
noncomputable def sorted_Map_string_string_All_1.vc (J : Jn) (yield : Fv) (cap0 : Addr) (H : Hp) (Q : Value → Hp → Prop) : Prop :=
 ∃ x : Option Addr, Hp.cell? H cap0 = some (.pointer x) ∧ vPtr x (fun a => ∃ items : Sl, Hp.cell? H a = some (.slice items.a items.len items.cap) ∧ 
 sorted_Map_string_string_All_1.l1 J yield items H 0 Q)
theorem sorted_Map_string_string_All_1.eq (J : Jn) (yield : Fv) (cap0 : Addr) (H : Hp) (Q : Value → Hp → Prop) : vFn Try.prog sorted_Map_string_string_All_1.cf J sorted_Map_string_string_All_1.fn [.func yield.fn yield.fi yield.ca, .pointer (some cap0)] H Q = sorted_Map_string_string_All_1.vc J yield cap0 H Q := by kernel_rfl
theorem sorted_Map_string_string_All_1.calls {yield : Fv} {cap0 : Addr} {H : Hp} {Q : Value → Hp → Prop} (h : sorted_Map_string_string_All_1.vc J0 yield cap0 H Q) : SCalls Try.prog sorted_Map_string_string_All_1.id [.func yield.fn yield.fi yield.ca, .pointer (some cap0)] H Q := vFn_of Try.mixed Try.func65 (sorted_Map_string_string_All_1.eq J0 yield cap0 H Q) h

/-! 67: slices.rotateRight_tephra/sorted.item_int, tephra/api.Session__ -/
noncomputable def slices_rotateRight_sorted_item_int_api_Session.cf : Cfg := ⟨[], [], [], [], true⟩
noncomputable def slices_rotateRight_sorted_item_int_api_Session.vc (J : Jn) (s : Sl) (r : Int) (H : Hp) (Q : Value → Hp → Prop) : Prop :=
 
 SCalls Try.prog slices_rotateLeft_sorted_item_int_api_Session.id [.slice s.a s.len s.cap, .int .i64 (w64 (((s.len : Nat) : Int) - r))] H (fun r1 H1 => r1 = .tuple #[] ∧ Q (.tuple #[]) H1)
theorem slices_rotateRight_sorted_item_int_api_Session.eq (J : Jn) (s : Sl) (r : Int) (H : Hp) (Q : Value → Hp → Prop) : vFn Try.prog slices_rotateRight_sorted_item_int_api_Session.cf J slices_rotateRight_sorted_item_int_api_Session.fn [.slice s.a s.len s.cap, .int .i64 r] H Q = slices_rotateRight_sorted_item_int_api_Session.vc J s r H Q := by kernel_rfl
theorem slices_rotateRight_sorted_item_int_api_Session.calls {s : Sl} {r : Int} {H : Hp} {Q : Value → Hp → Prop} (h : slices_rotateRight_sorted_item_int_api_Session.vc J0 s r H Q) : SCalls Try.prog slices_rotateRight_sorted_item_int_api_Session.id [.slice s.a s.len s.cap, .int .i64 r] H Q := vFn_of Try.mixed Try.func67 (slices_rotateRight_sorted_item_int_api_Session.eq J0 s r H Q) h

/-! 68: cmp.isNaN_int_ -/
noncomputable def cmp_isNaN_int.cf : Cfg := ⟨[], [], [], [], true⟩
noncomputable def cmp_isNaN_int.vc (J : Jn) (x : Int) (H : Hp) (Q : Value → Hp → Prop) : Prop :=
 Q (.bool (x != x)) H
theorem cmp_isNaN_int.eq (J : Jn) (x : Int) (H : Hp) (Q : Value → Hp → Prop) : vFn Try.prog cmp_isNaN_int.cf J cmp_isNaN_int.fn [.int .i64 x] H Q = cmp_isNaN_int.vc J x H Q := by kernel_rfl
theorem cmp_isNaN_int.calls {x : Int} {H : Hp} {Q : Value → Hp → Prop} (h : cmp_isNaN_int.vc J0 x H Q) : SCalls Try.prog cmp_isNaN_int.id [.int .i64 x] H Q := vFn_of Try.mixed Try.func68 (cmp_isNaN_int.eq J0 x H Q) h

/-! 69: slices.BinarySearchFunc___tephra/sorted.item_string, string_,tephra/sorted.item_string, string_,string_ -/
noncomputable def slices_BinarySearchFunc_sl_sorted_item_string_string_sorted_item_string_string_string.cf : Cfg := ⟨[], [(3, [0, 1, 2, 8, 9, 10])], [], [], true⟩
noncomputable def slices_BinarySearchFunc_sl_sorted_item_string_string_sorted_item_string_string_string.l1.st (x : Sl) (target : ByteArray) (cmp : Fv) (H1 : Hp) (i : Int) (j : Int) : VS := ⟨mkFr 49 [(0, .v (.slice x.a x.len x.cap)), (1, .v (.string target)), (2, .v (.func cmp.fn cmp.fi cmp.ca)), (8, .v (.int .i64 ((x.len : Nat) : Int))), (9, .v (.int .i64 i)), (10, .v (.int .i64 j))], [], H1⟩
noncomputable def slices_BinarySearchFunc_sl_sorted_item_string_string_sorted_item_string_string_string.l1 (J : Jn) (x : Sl) (target : ByteArray) (cmp : Fv) (H1 : Hp) (i : Int) (j : Int) (Q : Value → Hp → Prop) : Prop := vAt Try.prog slices_BinarySearchFunc_sl_sorted_item_string_string_sorted_item_string_string_string.cf J slices_BinarySearchFunc_sl_sorted_item_string_string_sorted_item_string_string_string.fn [1, 1, 1, 0, 0] [0, 0, 0, 0] Q (slices_BinarySearchFunc_sl_sorted_item_string_string_sorted_item_string_string_string.l1.st x target cmp H1 i j)
attribute [irreducible] slices_BinarySearchFunc_sl_sorted_item_string_string_sorted_item_string_string_string.l1
noncomputable def slices_BinarySearchFunc_sl_sorted_item_string_string_sorted_item_string_string_string.l1.body (J : Jn) (x : Sl) (target : ByteArray) (cmp : Fv) (H1 : Hp) (i : Int) (j : Int) (Q : Value → Hp → Prop) : Prop :=
 
 Br (decide (i < j)) ((0 : Int) ≤ 1 ∧ ((0 : Int) ≤ (w64 ((Int.fdiv (IntKind.u64.wrap ((w64 (i + j)))) (2 ^ 1)))) ∧ (w64 ((Int.fdiv (IntKind.u64.wrap ((w64 (i + j)))) (2 ^ 1)))) < ((x.len : Nat) : Int)) ∧ vPtr x.a (fun a => ∃ key : ByteArray, ∃ value : ByteArray, RowAt H1 (a.add (((w64 ((Int.fdiv (IntKind.u64.wrap ((w64 (i + j)))) (2 ^ 1)))) : Int).toNat * 2)) [.string key, .string value] ∧ 
 vInv Try.prog (.func cmp.fn cmp.fi cmp.ca) [.agg #[.string key, .string value], .string target] H1 (fun r H2 => ∃ x1 : Int, r = .int .i64 x1 ∧ 
 Br (decide (x1 < 0)) (
 slices_BinarySearchFunc_sl_sorted_item_string_string_sorted_item_string_string_string.l1 J x target cmp H2 (w64 ((w64 ((Int.fdiv (IntKind.u64.wrap ((w64 (i + j)))) (2 ^ 1)))) + 1)) j Q)
 (
 slices_BinarySearchFunc_sl_sorted_item_string_string_sorted_item_string_string_string.l1 J x target cmp H2 i (w64 ((Int.fdiv (IntKind.u64.wrap ((w64 (i + j)))) (2 ^ 1)))) Q))))
 (
 Br (decide (i < ((x.len : Nat) : Int))) (((0 : Int) ≤ i ∧ i < ((x.len : Nat) : Int)) ∧ vPtr x.a (fun a1 => ∃ key1 : ByteArray, ∃ value1 : ByteArray, RowAt H1 (a1.add ((i : Int).toNat * 2)) [.string key1, .string value1] ∧ 
 vInv Try.prog (.func cmp.fn cmp.fi cmp.ca) [.agg #[.string key1, .string value1], .string target] H1 (fun r1 H3 => ∃ x2 : Int, r1 = .int .i64 x2 ∧ Q (.tuple #[.int .i64 i, .bool (x2 == 0)]) H3)))
 (Q (.tuple #[.int .i64 i, .bool false]) H1))
theorem slices_BinarySearchFunc_sl_sorted_item_string_string_sorted_item_string_string_string.l1.eq (J : Jn) (x : Sl) (target : ByteArray) (cmp : Fv) (H1 : Hp) (i : Int) (j : Int) (Q : Value → Hp → Prop) : vAtBody Try.prog slices_BinarySearchFunc_sl_sorted_item_string_string_sorted_item_string_string_string.cf J slices_BinarySearchFunc_sl_sorted_item_string_string_sorted_item_string_string_string.fn [1, 1, 1, 0, 0] [0, 0, 0, 0] Q (slices_BinarySearchFunc_sl_sorted_item_string_string_sorted_item_string_string_string.l1.st x target cmp H1 i j) = slices_BinarySearchFunc_sl_sorted_item_string_string_sorted_item_string_string_string.l1.body J x target cmp H1 i j Q := by kernel_rfl
theorem slices_BinarySearchFunc_sl_sorted_item_string_string_sorted_item_string_string_string.l1.step {x : Sl} {target : ByteArray} {cmp : Fv} {H1 : Hp} {i : Int} {j : Int} {Q : Value → Hp → Prop} (h : slices_BinarySearchFunc_sl_sorted_item_string_string_sorted_item_string_string_string.l1.body J0 x target cmp H1 i j Q) : slices_BinarySearchFunc_sl_sorted_item_string_string_sorted_item_string_string_string.l1 J0 x target cmp H1 i j Q := vAt_stepC (slices_BinarySearchFunc_sl_sorted_item_string_string_sorted_item_string_string_string.l1.st x target cmp H1 i j) (slices_BinarySearchFunc_sl_sorted_item_string_string_sorted_item_string_string_string.l1.eq J0 x target cmp H1 i j Q) (by kernel_rfl) h
noncomputable def slices_BinarySearchFunc_sl_sorted_item_string_string_sorted_item_string_string_string.vc (J : Jn) (x : Sl) (target : ByteArray) (cmp : Fv) (H : Hp) (Q : Value → Hp → Prop) : Prop :=
 
 slices_BinarySearchFunc_sl_sorted_item_string_string_sorted_item_string_string_string.l1 J x target cmp H 0 ((x.len : Nat) : Int) Q
theorem slices_BinarySearchFunc_sl_sorted_item_string_string_sorted_item_string_string_string.eq (J : Jn) (x : Sl) (target : ByteArray) (cmp : Fv) (H : Hp) (Q : Value → Hp → Prop) : vFn Try.prog slices_BinarySearchFunc_sl_sorted_item_string_string_sorted_item_string_string_string.cf J slices_BinarySearchFunc_sl_sorted_item_string_string_sorted_item_string_string_string.fn [.slice x.a x.len x.cap, .string target, .func cmp.fn cmp.fi cmp.ca] H Q = slices_BinarySearchFunc_sl_sorted_item_string_string_sorted_item_string_string_string.vc J x target cmp H Q := by kernel_rfl
theorem slices_BinarySearchFunc_sl_sorted_item_string_string_sorted_item_string_string_string.calls {x : Sl} {target : ByteArray} {cmp : Fv} {H : Hp} {Q : Value → Hp → Prop} (h : slices_BinarySearchFunc_sl_sorted_item_string_string_sorted_item_string_string_string.vc J0 x target cmp H Q) : SCalls Try.prog slices_BinarySearchFunc_sl_sorted_item_string_string_sorted_item_string_string_string.id [.slice x.a x.len x.cap, .string target, .func cmp.fn cmp.fi cmp.ca] H Q := vFn_of Try.mixed Try.func69 (slices_BinarySearchFunc_sl_sorted_item_string_string_sorted_item_string_string_string.eq J0 x target cmp H Q) h

/-! 70: (*tephra/sorted.Map_string, string_).find$1 -/
noncomputable def sorted_Map_string_string_find_1.cf : Cfg := ⟨[2], [], [], [], true⟩
noncomputable def sorted_Map_string_string_find_1.vc (J : Jn) (xkey : ByteArray) (xvalue : ByteArray) (k : ByteArray) (H : Hp) (Q : Value → Hp → Prop) : Prop :=
 
 SCalls Try.prog cmp_Compare_string.id [.string xkey, .string k] (holes H 1) (fun r H1 => ∃ x : Int, r = .int .i64 x ∧ Q (.int .i64 x) H1)
theorem sorted_Map_string_string_find_1.eq (J : Jn) (xkey : ByteArray) (xvalue : ByteArray) (k : ByteArray) (H : Hp) (Q : Value → Hp → Prop) : vFn Try.prog sorted_Map_string_string_find_1.cf J sorted_Map_string_string_find_1.fn [.agg #[.string xkey, .string xvalue], .string k] H Q = sorted_Map_string_string_find_1.vc J xkey xvalue k H Q := by kernel_rfl
theorem sorted_Map_string_string_find_1.calls {xkey : ByteArray} {xvalue : ByteArray} {k : ByteArray} {H : Hp} {Q : Value → Hp → Prop} (h : sorted_Map_string_string_find_1.vc J0 xkey xvalue k H Q) : SCalls Try.prog sorted_Map_string_string_find_1.id [.agg #[.string xkey, .string xvalue], .string k] H Q := vFn_of Try.mixed Try.func70 (sorted_Map_string_string_find_1.eq J0 xkey xvalue k H Q) h

/-! 71: cmp.Compare_string_ -/
noncomputable def cmp_Compare_string.cf : Cfg := ⟨[], [], [], [], true⟩
noncomputable def cmp_Compare_string.vc (J : Jn) (x : ByteArray) (y : ByteArray) (H : Hp) (Q : Value → Hp → Prop) : Prop :=
 
 SCalls Try.prog cmp_isNaN_string.id [.string x] H (fun r H1 => ∃ x1 : Bool, r = .bool x1 ∧ 
 SCalls Try.prog cmp_isNaN_string.id [.string y] H1 (fun r1 H2 => ∃ x2 : Bool, r1 = .bool x2 ∧ 
 Br x1 (
 Br x2 (Q (.int .i64 0) H2)
 (Q (.int .i64 (-1)) H2))
 (
 Br x2 (Q (.int .i64 1) H2)
 (
 Br (Op.bytesLess x.toList y.toList) (Q (.int .i64 (-1)) H2)
 (
 Br (!((Op.bytesLess x.toList y.toList) || (x.toList == y.toList))) (Q (.int .i64 1) H2)
 (Q (.int .i64 0) H2))))))
theorem cmp_Compare_string.eq (J : Jn) (x : ByteArray) (y : ByteArray) (H : Hp) (Q : Value → Hp → Prop) : vFn Try.prog cmp_Compare_string.cf J cmp_Compare_string.fn [.string x, .string y] H Q = cmp_Compare_string.vc J x y H Q := by kernel_rfl
theorem cmp_Compare_string.calls {x : ByteArray} {y : ByteArray} {H : Hp} {Q : Value → Hp → Prop} (h : cmp_Compare_string.vc J0 x y H Q) : SCalls Try.prog cmp_Compare_string.id [.string x, .string y] H Q := vFn_of Try.mixed Try.func71 (cmp_Compare_string.eq J0 x y H Q) h

/-! 73: slices.rotateRight_tephra/sorted.item_string, string__ -/
noncomputable def slices_rotateRight_sorted_item_string_string.cf : Cfg := ⟨[], [], [], [], true⟩
noncomputable def slices_rotateRight_sorted_item_string_string.vc (J : Jn) (s : Sl) (r : Int) (H : Hp) (Q : Value → Hp → Prop) : Prop :=
 
 SCalls Try.prog slices_rotateLeft_sorted_item_string_string.id [.slice s.a s.len s.cap, .int .i64 (w64 (((s.len : Nat) : Int) - r))] H (fun r1 H1 => r1 = .tuple #[] ∧ Q (.tuple #[]) H1)
theorem slices_rotateRight_sorted_item_string_string.eq (J : Jn) (s : Sl) (r : Int) (H : Hp) (Q : Value → Hp → Prop) : vFn Try.prog slices_rotateRight_sorted_item_string_string.cf J slices_rotateRight_sorted_item_string_string.fn [.slice s.a s.len s.cap, .int .i64 r] H Q = slices_rotateRight_sorted_item_string_string.vc J s r H Q := by kernel_rfl
theorem slices_rotateRight_sorted_item_string_string.calls {s : Sl} {r : Int} {H : Hp} {Q : Value → Hp → Prop} (h : slices_rotateRight_sorted_item_string_string.vc J0 s r H Q) : SCalls Try.prog slices_rotateRight_sorted_item_string_string.id [.slice s.a s.len s.cap, .int .i64 r] H Q := vFn_of Try.mixed Try.func73 (slices_rotateRight_sorted_item_string_string.eq J0 s r H Q) h

/-! 74: slices.rotateLeft_tephra/sorted.item_int, tephra/api.Session__ -/
noncomputable def slices_rotateLeft_sorted_item_int_api_Session.cf : Cfg := ⟨[], [], [], [], true⟩
noncomputable def slices_rotateLeft_sorted_item_int_api_Session.vc (J : Jn) (s : Sl) (r : Int) (H : Hp) (Q : Value → Hp → Prop) : Prop :=
 ((0 : Int) ≤ r ∧ r ≤ ((s.cap : Nat) : Int)) ∧ 
 SCalls Try.prog slices_Reverse_sl_sorted_item_int_api_Session_sorted_item_int_api_Session.id [.slice (cutA s.a s.cap 0 5) ((r : Int).toNat) s.cap] H (fun r1 H1 => r1 = .tuple #[] ∧ ((0 : Int) ≤ r ∧ r ≤ ((s.len : Nat) : Int)) ∧ 
 SCalls Try.prog slices_Reverse_sl_sorted_item_int_api_Session_sorted_item_int_api_Session.id [.slice (cutA s.a s.cap ((r : Int).toNat) 5) (s.len - ((r : Int).toNat)) (s.cap - ((r : Int).toNat))] H1 (fun r2 H2 => r2 = .tuple #[] ∧ 
 SCalls Try.prog slices_Reverse_sl_sorted_item_int_api_Session_sorted_item_int_api_Session.id [.slice s.a s.len s.cap] H2 (fun r3 H3 => r3 = .tuple #[] ∧ Q (.tuple #[]) H3)))
theorem slices_rotateLeft_sorted_item_int_api_Session.eq (J : Jn) (s : Sl) (r : Int) (H : Hp) (Q : Value → Hp → Prop) : vFn Try.prog slices_rotateLeft_sorted_item_int_api_Session.cf J slices_rotateLeft_sorted_item_int_api_Session.fn [.slice s.a s.len s.cap, .int .i64 r] H Q = slices_rotateLeft_sorted_item_int_api_Session.vc J s r H Q := by kernel_rfl
theorem slices_rotateLeft_sorted_item_int_api_Session.calls {s : Sl} {r : Int} {H : Hp} {Q : Value → Hp → Prop} (h : slices_rotateLeft_sorted_item_int_api_Session.vc J0 s r H Q) : SCalls Try.prog slices_rotateLeft_sorted_item_int_api_Session.id [.slice s.a s.len s.cap, .int .i64 r] H Q := vFn_of Try.mixed Try.func74 (slices_rotateLeft_sorted_item_int_api_Session.eq J0 s r H Q) h

/-! 75: cmp.isNaN_string_ -/
noncomputable def cmp_isNaN_string.cf : Cfg := ⟨[], [], [], [], true⟩
noncomputable def cmp_isNaN_string.vc (J : Jn) (x : ByteArray) (H : Hp) (Q : Value → Hp → Prop) : Prop :=
 Q (.bool (!(x.toList == x.toList))) H
theorem cmp_isNaN_string.eq (J : Jn) (x : ByteArray) (H : Hp) (Q : Value → Hp → Prop) : vFn Try.prog cmp_isNaN_string.cf J cmp_isNaN_string.fn [.string x] H Q = cmp_isNaN_string.vc J x H Q := by kernel_rfl
theorem cmp_isNaN_string.calls {x : ByteArray} {H : Hp} {Q : Value → Hp → Prop} (h : cmp_isNaN_string.vc J0 x H Q) : SCalls Try.prog cmp_isNaN_string.id [.string x] H Q := vFn_of Try.mixed Try.func75 (cmp_isNaN_string.eq J0 x H Q) h

/-! 76: slices.rotateLeft_tephra/sorted.item_string, string__ -/
noncomputable def slices_rotateLeft_sorted_item_string_string.cf : Cfg := ⟨[], [], [], [], true⟩
noncomputable def slices_rotateLeft_sorted_item_string_string.vc (J : Jn) (s : Sl) (r : Int) (H : Hp) (Q : Value → Hp → Prop) : Prop :=
 ((0 : Int) ≤ r ∧ r ≤ ((s.cap : Nat) : Int)) ∧ 
 SCalls Try.prog slices_Reverse_sl_sorted_item_string_string_sorted_item_string_string.id [.slice (cutA s.a s.cap 0 2) ((r : Int).toNat) s.cap] H (fun r1 H1 => r1 = .tuple #[] ∧ ((0 : Int) ≤ r ∧ r ≤ ((s.len : Nat) : Int)) ∧ 
 SCalls Try.prog slices_Reverse_sl_sorted_item_string_string_sorted_item_string_string.id [.slice (cutA s.a s.cap ((r : Int).toNat) 2) (s.len - ((r : Int).toNat)) (s.cap - ((r : Int).toNat))] H1 (fun r2 H2 => r2 = .tuple #[] ∧ 
 SCalls Try.prog slices_Reverse_sl_sorted_item_string_string_sorted_item_string_string.id [.slice s.a s.len s.cap] H2 (fun r3 H3 => r3 = .tuple #[] ∧ Q (.tuple #[]) H3)))
theorem slices_rotateLeft_sorted_item_string_string.eq (J : Jn) (s : Sl) (r : Int) (H : Hp) (Q : Value → Hp → Prop) : vFn Try.prog slices_rotateLeft_sorted_item_string_string.cf J slices_rotateLeft_sorted_item_string_string.fn [.slice s.a s.len s.cap, .int .i64 r] H Q = slices_rotateLeft_sorted_item_string_string.vc J s r H Q := by kernel_rfl
theorem slices_rotateLeft_sorted_item_string_string.calls {s : Sl} {r : Int} {H : Hp} {Q : Value → Hp → Prop} (h : slices_rotateLeft_sorted_item_string_string.vc J0 s r H Q) : SCalls Try.prog slices_rotateLeft_sorted_item_string_string.id [.slice s.a s.len s.cap, .int .i64 r] H Q := vFn_of Try.mixed Try.func76 (slices_rotateLeft_sorted_item_string_string.eq J0 s r H Q) h

/-! 77: slices.Reverse___tephra/sorted.item_int, tephra/api.Session_,tephra/sorted.item_int, tephra/api.Session__ -/
noncomputable def slices_Reverse_sl_sorted_item_int_api_Session_sorted_item_int_api_Session.cf : Cfg := ⟨[], [(1, [0, 2, 3])], [], [], true⟩
noncomputable def slices_Reverse_sl_sorted_item_int_api_Session_sorted_item_int_api_Session.l1.st (s : Sl) (H1 : Hp) (i : Int) (j : Int) : VS := ⟨mkFr 28 [(0, .v (.slice s.a s.len s.cap)), (2, .v (.int .i64 i)), (3, .v (.int .i64 j))], [], H1⟩
noncomputable def slices_Reverse_sl_sorted_item_int_api_Session_sorted_item_int_api_Session.l1 (J : Jn) (s : Sl) (H1 : Hp) (i : Int) (j : Int) (Q : Value → Hp → Prop) : Prop := vAt Try.prog slices_Reverse_sl_sorted_item_int_api_Session_sorted_item_int_api_Session.cf J slices_Reverse_sl_sorted_item_int_api_Session_sorted_item_int_api_Session.fn [1, 0] [0] Q (slices_Reverse_sl_sorted_item_int_api_Session_sorted_item_int_api_Session.l1.st s H1 i j)
attribute [irreducible] slices_Reverse_sl_sorted_item_int_api_Session_sorted_item_int_api_Session.l1
noncomputable def slices_Reverse_sl_sorted_item_int_api_Session_sorted_item_int_api_Session.l1.body (J : Jn) (s : Sl) (H1 : Hp) (i : Int) (j : Int) (Q : Value → Hp → Prop) : Prop :=
 
 Br (decide (i < j)) (((0 : Int) ≤ j ∧ j < ((s.len : Nat) : Int)) ∧ vPtr s.a (fun a => ∃ key : Int, ∃ valueClient : Int, ∃ valueSeq : Int, ∃ valueReplyErr : Int, ∃ valueReplyValue : ByteArray, RowAt H1 (a.add ((j : Int).toNat * 5)) [.int .i64 key, .int .i64 valueClient, .int .i64 valueSeq, .int .i64 valueReplyErr, .string valueReplyValue] ∧ ((0 : Int) ≤ i ∧ i < ((s.len : Nat) : Int)) ∧ vPtr s.a (fun a1 => ∃ key1 : Int, ∃ valueClient1 : Int, ∃ valueSeq1 : Int, ∃ valueReplyErr1 : Int, ∃ valueReplyValue1 : ByteArray, RowAt H1 (a1.add ((i : Int).toNat * 5)) [.int .i64 key1, .int .i64 valueClient1, .int .i64 valueSeq1, .int .i64 valueReplyErr1, .string valueReplyValue1] ∧ ((0 : Int) ≤ i ∧ i < ((s.len : Nat) : Int)) ∧ vPtr s.a (fun a2 => WrAt H1 (a2.add ((i : Int).toNat * 5)) 5 ∧ ((0 : Int) ≤ j ∧ j < ((s.len : Nat) : Int)) ∧ vPtr s.a (fun a3 => WrAt (Hp.setCells H1 (a2.add ((i : Int).toNat * 5)) [.int .i64 key, .int .i64 valueClient, .int .i64 valueSeq, .int .i64 valueReplyErr, .string valueReplyValue] 0) (a3.add ((j : Int).toNat * 5)) 5 ∧ 
 slices_Reverse_sl_sorted_item_int_api_Session_sorted_item_int_api_Session.l1 J s (Hp.setCells (Hp.setCells H1 (a2.add ((i : Int).toNat * 5)) [.int .i64 key, .int .i64 valueClient, .int .i64 valueSeq, .int .i64 valueReplyErr, .string valueReplyValue] 0) (a3.add ((j : Int).toNat * 5)) [.int .i64 key1, .int .i64 valueClient1, .int .i64 valueSeq1, .int .i64 valueReplyErr1, .string valueReplyValue1] 0) (w64 (i + 1)) (w64 (j - 1)) Q)))))
 (Q (.tuple #[]) H1)
theorem slices_Reverse_sl_sorted_item_int_api_Session_sorted_item_int_api_Session.l1.eq (J : Jn) (s : Sl) (H1 : Hp) (i : Int) (j : Int) (Q : Value → Hp → Prop) : vAtBody Try.prog slices_Reverse_sl_sorted_item_int_api_Session_sorted_item_int_api_Session.cf J slices_Reverse_sl_sorted_item_int_api_Session_sorted_item_int_api_Session.fn [1, 0] [0] Q (slices_Reverse_sl_sorted_item_int_api_Session_sorted_item_int_api_Session.l1.st s H1 i j) = slices_Reverse_sl_sorted_item_int_api_Session_sorted_item_int_api_Session.l1.body J s H1 i j Q := by kernel_rfl
theorem slices_Reverse_sl_sorted_item_int_api_Session_sorted_item_int_api_Session.l1.step {s : Sl} {H1 : Hp} {i : Int} {j : Int} {Q : Value → Hp → Prop} (h : slices_Reverse_sl_sorted_item_int_api_Session_sorted_item_int_api_Session.l1.body J0 s H1 i j Q) : slices_Reverse_sl_sorted_item_int_api_Session_sorted_item_int_api_Session.l1 J0 s H1 i j Q := vAt_stepC (slices_Reverse_sl_sorted_item_int_api_Session_sorted_item_int_api_Session.l1.st s H1 i j) (slices_Reverse_sl_sorted_item_int_api_Session_sorted_item_int_api_Session.l1.eq J0 s H1 i j Q) (by kernel_rfl) h
noncomputable def slices_Reverse_sl_sorted_item_int_api_Session_sorted_item_int_api_Session.vc (J : Jn) (s : Sl) (H : Hp) (Q : Value → Hp → Prop) : Prop :=
 
 slices_Reverse_sl_sorted_item_int_api_Session_sorted_item_int_api_Session.l1 J s H 0 (w64 (((s.len : Nat) : Int) - 1)) Q
theorem slices_Reverse_sl_sorted_item_int_api_Session_sorted_item_int_api_Session.eq (J : Jn) (s : Sl) (H : Hp) (Q : Value → Hp → Prop) : vFn Try.prog slices_Reverse_sl_sorted_item_int_api_Session_sorted_item_int_api_Session.cf J slices_Reverse_sl_sorted_item_int_api_Session_sorted_item_int_api_Session.fn [.slice s.a s.len s.cap] H Q = slices_Reverse_sl_sorted_item_int_api_Session_sorted_item_int_api_Session.vc J s H Q := by kernel_rfl
theorem slices_Reverse_sl_sorted_item_int_api_Session_sorted_item_int_api_Session.calls {s : Sl} {H : Hp} {Q : Value → Hp → Prop} (h : slices_Reverse_sl_sorted_item_int_api_Session_sorted_item_int_api_Session.vc J0 s H Q) : SCalls Try.prog slices_Reverse_sl_sorted_item_int_api_Session_sorted_item_int_api_Session.id [.slice s.a s.len s.cap] H Q := vFn_of Try.mixed Try.func77 (slices_Reverse_sl_sorted_item_int_api_Session_sorted_item_int_api_Session.eq J0 s H Q) h

/-! 78: slices.Reverse___tephra/sorted.item_string, string_,tephra/sorted.item_string, string__ -/
noncomputable def slices_Reverse_sl_sorted_item_string_string_sorted_item_string_string.cf : Cfg := ⟨[], [(1, [0, 2, 3])], [], [], true⟩
noncomputable def slices_Reverse_sl_sorted_item_string_string_sorted_item_string_string.l1.st (s : Sl) (H1 : Hp) (i : Int) (j : Int) : VS := ⟨mkFr 28 [(0, .v (.slice s.a s.len s.cap)), (2, .v (.int .i64 i)), (3, .v (.int .i64 j))], [], H1⟩
noncomputable def slices_Reverse_sl_sorted_item_string_string_sorted_item_string_string.l1 (J : Jn) (s : Sl) (H1 : Hp) (i : Int) (j : Int) (Q : Value → Hp → Prop) : Prop := vAt Try.prog slices_Reverse_sl_sorted_item_string_string_sorted_item_string_string.cf J slices_Reverse_sl_sorted_item_string_string_sorted_item_string_string.fn [1, 0] [0] Q (slices_Reverse_sl_sorted_item_string_string_sorted_item_string_string.l1.st s H1 i j)
attribute [irreducible] slices_Reverse_sl_sorted_item_string_string_sorted_item_string_string.l1
noncomputable def slices_Reverse_sl_sorted_item_string_string_sorted_item_string_string.l1.body (J : Jn) (s : Sl) (H1 : Hp) (i : Int) (j : Int) (Q : Value → Hp → Prop) : Prop :=
 
 Br (decide (i < j)) (((0 : Int) ≤ j ∧ j < ((s.len : Nat) : Int)) ∧ vPtr s.a (fun a => ∃ key : ByteArray, ∃ value : ByteArray, RowAt H1 (a.add ((j : Int).toNat * 2)) [.string key, .string value] ∧ ((0 : Int) ≤ i ∧ i < ((s.len : Nat) : Int)) ∧ vPtr s.a (fun a1 => ∃ key1 : ByteArray, ∃ value1 : ByteArray, RowAt H1 (a1.add ((i : Int).toNat * 2)) [.string key1, .string value1] ∧ ((0 : Int) ≤ i ∧ i < ((s.len : Nat) : Int)) ∧ vPtr s.a (fun a2 => WrAt H1 (a2.add ((i : Int).toNat * 2)) 2 ∧ ((0 : Int) ≤ j ∧ j < ((s.len : Nat) : Int)) ∧ vPtr s.a (fun a3 => WrAt (Hp.setCells H1 (a2.add ((i : Int).toNat * 2)) [.string key, .string value] 0) (a3.add ((j : Int).toNat * 2)) 2 ∧ 
 slices_Reverse_sl_sorted_item_string_string_sorted_item_string_string.l1 J s (Hp.setCells (Hp.setCells H1 (a2.add ((i : Int).toNat * 2)) [.string key, .string value] 0) (a3.add ((j : Int).toNat * 2)) [.string key1, .string value1] 0) (w64 (i + 1)) (w64 (j - 1)) Q)))))
 (Q (.tuple #[]) H1)
theorem slices_Reverse_sl_sorted_item_string_string_sorted_item_string_string.l1.eq (J : Jn) (s : Sl) (H1 : Hp) (i : Int) (j : Int) (Q : Value → Hp → Prop) : vAtBody Try.prog slices_Reverse_sl_sorted_item_string_string_sorted_item_string_string.cf J slices_Reverse_sl_sorted_item_string_string_sorted_item_string_string.fn [1, 0] [0] Q (slices_Reverse_sl_sorted_item_string_string_sorted_item_string_string.l1.st s H1 i j) = slices_Reverse_sl_sorted_item_string_string_sorted_item_string_string.l1.body J s H1 i j Q := by kernel_rfl
theorem slices_Reverse_sl_sorted_item_string_string_sorted_item_string_string.l1.step {s : Sl} {H1 : Hp} {i : Int} {j : Int} {Q : Value → Hp → Prop} (h : slices_Reverse_sl_sorted_item_string_string_sorted_item_string_string.l1.body J0 s H1 i j Q) : slices_Reverse_sl_sorted_item_string_string_sorted_item_string_string.l1 J0 s H1 i j Q := vAt_stepC (slices_Reverse_sl_sorted_item_string_string_sorted_item_string_string.l1.st s H1 i j) (slices_Reverse_sl_sorted_item_string_string_sorted_item_string_string.l1.eq J0 s H1 i j Q) (by kernel_rfl) h
noncomputable def slices_Reverse_sl_sorted_item_string_string_sorted_item_string_string.vc (J : Jn) (s : Sl) (H : Hp) (Q : Value → Hp → Prop) : Prop :=
 
 slices_Reverse_sl_sorted_item_string_string_sorted_item_string_string.l1 J s H 0 (w64 (((s.len : Nat) : Int) - 1)) Q
theorem slices_Reverse_sl_sorted_item_string_string_sorted_item_string_string.eq (J : Jn) (s : Sl) (H : Hp) (Q : Value → Hp → Prop) : vFn Try.prog slices_Reverse_sl_sorted_item_string_string_sorted_item_string_string.cf J slices_Reverse_sl_sorted_item_string_string_sorted_item_string_string.fn [.slice s.a s.len s.cap] H Q = slices_Reverse_sl_sorted_item_string_string_sorted_item_string_string.vc J s H Q := by kernel_rfl
theorem slices_Reverse_sl_sorted_item_string_string_sorted_item_string_string.calls {s : Sl} {H : Hp} {Q : Value → Hp → Prop} (h : slices_Reverse_sl_sorted_item_string_string_sorted_item_string_string.vc J0 s H Q) : SCalls Try.prog slices_Reverse_sl_sorted_item_string_string_sorted_item_string_string.id [.slice s.a s.len s.cap] H Q := vFn_of Try.mixed Try.func78 (slices_Reverse_sl_sorted_item_string_string_sorted_item_string_string.eq J0 s H Q) h

/-! 24: tephra/tephralaw07.Lays -/
noncomputable def tephralaw07_Lays.cf : Cfg := ⟨[7, 9, 1000003], [(2, [0, 2, 14, 15, 16]), (11, [0, 38, 39, 40])], [(5, [0, 2, 7, 14, 15, 16], true)], [], true⟩
noncomputable def tephralaw07_Lays.l1.st (w : Addr) (ps : Sl) (xs : Sl) (H2 : Hp) (x1 : Int) : VS := ⟨mkFr 60 [(0, .v (.pointer (some w))), (2, .v (.slice xs.a xs.len xs.cap)), (14, .v (.slice ps.a ps.len ps.cap)), (15, .v (.int .i64 ((ps.len : Nat) : Int))), (16, .v (.int .i64 x1))], [], H2⟩
noncomputable def tephralaw07_Lays.l1 (J : Jn) (w : Addr) (ps : Sl) (xs : Sl) (H2 : Hp) (x1 : Int) (Q : Value → Hp → Prop) : Prop := vAt Try.prog tephralaw07_Lays.cf J tephralaw07_Lays.fn [1, 0, 1, 0] [0, 0, 0] Q (tephralaw07_Lays.l1.st w ps xs H2 x1)
noncomputable def tephralaw07_Lays.k1.st (w : Addr) (ps : Sl) (xs : Sl) (x1 : Int) (Key : ByteArray) (Valuev : ByteArray) (Gone : Bool) (H5 : Hp) : VS := ⟨mkFr 60 [(0, .v (.pointer (some w))), (2, .v (.slice xs.a xs.len xs.cap)), (7, .loc 0 0), (14, .v (.slice ps.a ps.len ps.cap)), (15, .v (.int .i64 ((ps.len : Nat) : Int))), (16, .v (.int .i64 x1))], [(T_api_Pair, [.string Key, .string Valuev, .bool Gone])], H5⟩
noncomputable def tephralaw07_Lays.k1 (J : Jn) (w : Addr) (ps : Sl) (xs : Sl) (x1 : Int) (Key : ByteArray) (Valuev : ByteArray) (Gone : Bool) (H5 : Hp) (Q : Value → Hp → Prop) : Prop := J (vSeg Try.prog tephralaw07_Lays.cf J tephralaw07_Lays.fn [1, 0, 1, 0, 0, 1, 1, 0, 0, 1, 1] [0, 0, 0, 0, 0, 0, 0, 0, 1] Q) (tephralaw07_Lays.k1.st w ps xs x1 Key Valuev Gone H5)
noncomputable def tephralaw07_Lays.l2.st (w : Addr) (xs : Sl) (H9 : Hp) (x7 : Int) : VS := ⟨mkFr 60 [(0, .v (.pointer (some w))), (38, .v (.slice xs.a xs.len xs.cap)), (39, .v (.int .i64 ((xs.len : Nat) : Int))), (40, .v (.int .i64 x7))], [], H9⟩
noncomputable def tephralaw07_Lays.l2 (J : Jn) (w : Addr) (xs : Sl) (H9 : Hp) (x7 : Int) (Q : Value → Hp → Prop) : Prop := vAt Try.prog tephralaw07_Lays.cf J tephralaw07_Lays.fn [1, 1, 1, 1, 0] [0, 0, 0, 0] Q (tephralaw07_Lays.l2.st w xs H9 x7)
attribute [irreducible] tephralaw07_Lays.l1 tephralaw07_Lays.k1 tephralaw07_Lays.l2
noncomputable def tephralaw07_Lays.l1.body (J : Jn) (w : Addr) (ps : Sl) (xs : Sl) (H2 : Hp) (x1 : Int) (Q : Value → Hp → Prop) : Prop :=
 
 Br (decide (x1 < ((ps.len : Nat) : Int))) (((0 : Int) ≤ x1 ∧ x1 < ((ps.len : Nat) : Int)) ∧ vPtr ps.a (fun a => ∃ Key : ByteArray, ∃ Valuev : ByteArray, ∃ Gone : Bool, RowAt H2 (a.add ((x1 : Int).toNat * 3)) [.string Key, .string Valuev, .bool Gone] ∧ ∀ H3 : Hp, H3 = (holes H2 1) → 
 SCalls Try.prog pack_Writer_Text.id [.pointer (some w), .string Key] H3 (fun r1 H4 => ∃ x2 : Option Addr, r1 = .pointer x2 ∧ 
 SCalls Try.prog pack_Writer_Text.id [.pointer x2, .string Valuev] H4 (fun r2 H5 => ∃ x3 : Option Addr, r2 = .pointer x3 ∧ 
 tephralaw07_Lays.k1 J w ps xs x1 Key Valuev Gone H5 Q))))
 (
 SCalls Try.prog pack_Writer_Num.id [.pointer (some w), .int .i64 ((xs.len : Nat) : Int)] H2 (fun r5 H8 => ∃ x6 : Option Addr, r5 = .pointer x6 ∧ 
 tephralaw07_Lays.l2 J w xs H8 0 Q))
theorem tephralaw07_Lays.l1.eq (J : Jn) (w : Addr) (ps : Sl) (xs : Sl) (H2 : Hp) (x1 : Int) (Q : Value → Hp → Prop) : vAtBody Try.prog tephralaw07_Lays.cf J tephralaw07_Lays.fn [1, 0, 1, 0] [0, 0, 0] Q (tephralaw07_Lays.l1.st w ps xs H2 x1) = tephralaw07_Lays.l1.body J w ps xs H2 x1 Q := by kernel_rfl
theorem tephralaw07_Lays.l1.step {w : Addr} {ps : Sl} {xs : Sl} {H2 : Hp} {x1 : Int} {Q : Value → Hp → Prop} (h : tephralaw07_Lays.l1.body J0 w ps xs H2 x1 Q) : tephralaw07_Lays.l1 J0 w ps xs H2 x1 Q := vAt_stepC (tephralaw07_Lays.l1.st w ps xs H2 x1) (tephralaw07_Lays.l1.eq J0 w ps xs H2 x1 Q) (by kernel_rfl) h
noncomputable def tephralaw07_Lays.k1.body (J : Jn) (w : Addr) (ps : Sl) (xs : Sl) (x1 : Int) (Key : ByteArray) (Valuev : ByteArray) (Gone : Bool) (H5 : Hp) (Q : Value → Hp → Prop) : Prop :=
 
 Br Gone (
 SCalls Try.prog pack_Writer_Byte.id [.pointer (some w), .int .u8 1] H5 (fun r3 H6 => ∃ x4 : Option Addr, r3 = .pointer x4 ∧ 
 tephralaw07_Lays.l1 J w ps xs H6 (w64 (x1 + 1)) Q))
 (
 SCalls Try.prog pack_Writer_Byte.id [.pointer (some w), .int .u8 0] H5 (fun r4 H7 => ∃ x5 : Option Addr, r4 = .pointer x5 ∧ 
 tephralaw07_Lays.l1 J w ps xs H7 (w64 (x1 + 1)) Q))
theorem tephralaw07_Lays.k1.eq (J : Jn) (w : Addr) (ps : Sl) (xs : Sl) (x1 : Int) (Key : ByteArray) (Valuev : ByteArray) (Gone : Bool) (H5 : Hp) (Q : Value → Hp → Prop) : vSeg Try.prog tephralaw07_Lays.cf J tephralaw07_Lays.fn [1, 0, 1, 0, 0, 1, 1, 0, 0, 1, 1] [0, 0, 0, 0, 0, 0, 0, 0, 1] Q (tephralaw07_Lays.k1.st w ps xs x1 Key Valuev Gone H5) = tephralaw07_Lays.k1.body J w ps xs x1 Key Valuev Gone H5 Q := by kernel_rfl
theorem tephralaw07_Lays.k1.step {w : Addr} {ps : Sl} {xs : Sl} {x1 : Int} {Key : ByteArray} {Valuev : ByteArray} {Gone : Bool} {H5 : Hp} {Q : Value → Hp → Prop} (h : tephralaw07_Lays.k1.body J0 w ps xs x1 Key Valuev Gone H5 Q) : tephralaw07_Lays.k1 J0 w ps xs x1 Key Valuev Gone H5 Q := step_of (vSeg Try.prog tephralaw07_Lays.cf J0 tephralaw07_Lays.fn [1, 0, 1, 0, 0, 1, 1, 0, 0, 1, 1] [0, 0, 0, 0, 0, 0, 0, 0, 1] Q) (tephralaw07_Lays.k1.st w ps xs x1 Key Valuev Gone H5) (tephralaw07_Lays.k1.eq J0 w ps xs x1 Key Valuev Gone H5 Q) (by kernel_rfl) h
noncomputable def tephralaw07_Lays.l2.body (J : Jn) (w : Addr) (xs : Sl) (H9 : Hp) (x7 : Int) (Q : Value → Hp → Prop) : Prop :=
 
 Br (decide (x7 < ((xs.len : Nat) : Int))) (((0 : Int) ≤ x7 ∧ x7 < ((xs.len : Nat) : Int)) ∧ vPtr xs.a (fun a1 => ∃ Client : Int, ∃ Seq : Int, ∃ ReplyErr : Int, ∃ ReplyValue : ByteArray, RowAt H9 (a1.add ((x7 : Int).toNat * 4)) [.int .i64 Client, .int .i64 Seq, .int .i64 ReplyErr, .string ReplyValue] ∧ ∀ H10 : Hp, H10 = (holes H9 1) → 
 SCalls Try.prog pack_Writer_Num.id [.pointer (some w), .int .i64 Client] H10 (fun r6 H11 => ∃ x8 : Option Addr, r6 = .pointer x8 ∧ 
 SCalls Try.prog pack_Writer_Num.id [.pointer x8, .int .i64 Seq] H11 (fun r7 H12 => ∃ x9 : Option Addr, r7 = .pointer x9 ∧ 
 SCalls Try.prog pack_Writer_Num.id [.pointer x9, .int .i64 ReplyErr] H12 (fun r8 H13 => ∃ x10 : Option Addr, r8 = .pointer x10 ∧ 
 SCalls Try.prog pack_Writer_Text.id [.pointer x10, .string ReplyValue] H13 (fun r9 H14 => ∃ x11 : Option Addr, r9 = .pointer x11 ∧ 
 tephralaw07_Lays.l2 J w xs H14 (w64 (x7 + 1)) Q))))))
 (Q (.tuple #[]) H9)
theorem tephralaw07_Lays.l2.eq (J : Jn) (w : Addr) (xs : Sl) (H9 : Hp) (x7 : Int) (Q : Value → Hp → Prop) : vAtBody Try.prog tephralaw07_Lays.cf J tephralaw07_Lays.fn [1, 1, 1, 1, 0] [0, 0, 0, 0] Q (tephralaw07_Lays.l2.st w xs H9 x7) = tephralaw07_Lays.l2.body J w xs H9 x7 Q := by kernel_rfl
theorem tephralaw07_Lays.l2.step {w : Addr} {xs : Sl} {H9 : Hp} {x7 : Int} {Q : Value → Hp → Prop} (h : tephralaw07_Lays.l2.body J0 w xs H9 x7 Q) : tephralaw07_Lays.l2 J0 w xs H9 x7 Q := vAt_stepC (tephralaw07_Lays.l2.st w xs H9 x7) (tephralaw07_Lays.l2.eq J0 w xs H9 x7 Q) (by kernel_rfl) h
noncomputable def tephralaw07_Lays.vc (J : Jn) (w : Addr) (ps : Sl) (xs : Sl) (H : Hp) (Q : Value → Hp → Prop) : Prop :=
 
 SCalls Try.prog pack_Writer_Num.id [.pointer (some w), .int .i64 ((ps.len : Nat) : Int)] H (fun r H1 => ∃ x : Option Addr, r = .pointer x ∧ 
 tephralaw07_Lays.l1 J w ps xs H1 0 Q)
theorem tephralaw07_Lays.eq (J : Jn) (w : Addr) (ps : Sl) (xs : Sl) (H : Hp) (Q : Value → Hp → Prop) : vFn Try.prog tephralaw07_Lays.cf J tephralaw07_Lays.fn [.pointer (some w), .slice ps.a ps.len ps.cap, .slice xs.a xs.len xs.cap] H Q = tephralaw07_Lays.vc J w ps xs H Q := by kernel_rfl
theorem tephralaw07_Lays.calls {w : Addr} {ps : Sl} {xs : Sl} {H : Hp} {Q : Value → Hp → Prop} (h : tephralaw07_Lays.vc J0 w ps xs H Q) : SCalls Try.prog tephralaw07_Lays.id [.pointer (some w), .slice ps.a ps.len ps.cap, .slice xs.a xs.len xs.cap] H Q := vFn_of Try.mixed Try.func24 (tephralaw07_Lays.eq J0 w ps xs H Q) h

/-! 27: tephra/state.ReadRows -/
noncomputable def state_ReadRows.cf : Cfg := ⟨[6, 10, 1000003], [(3, [0, 4, 5]), (14, [0, 4, 8, 9])], [(5, [0, 4, 5], true), (11, [0, 4, 5, 6], true), (12, [0, 4], true), (16, [0, 4, 8, 9], true)], [], true⟩
noncomputable def state_ReadRows.l1.st (r : Addr) (H2 : Hp) (ps : Sl) (n : Int) : VS := ⟨mkFr 71 [(0, .v (.pointer (some r))), (4, .v (.slice ps.a ps.len ps.cap)), (5, .v (.int .i64 n))], [], H2⟩
noncomputable def state_ReadRows.l1 (J : Jn) (r : Addr) (H2 : Hp) (ps : Sl) (n : Int) (Q : Value → Hp → Prop) : Prop := vAt Try.prog state_ReadRows.cf J state_ReadRows.fn [1, 1, 0, 1, 0] [0, 0, 0, 0] Q (state_ReadRows.l1.st r H2 ps n)
noncomputable def state_ReadRows.k1.st (r : Addr) (ps : Sl) (n : Int) (H3 : Hp) : VS := ⟨mkFr 71 [(0, .v (.pointer (some r))), (4, .v (.slice ps.a ps.len ps.cap)), (5, .v (.int .i64 n))], [], H3⟩
noncomputable def state_ReadRows.k1 (J : Jn) (r : Addr) (ps : Sl) (n : Int) (H3 : Hp) (Q : Value → Hp → Prop) : Prop := J (vSeg Try.prog state_ReadRows.cf J state_ReadRows.fn [1, 1, 0, 1, 0, 0, 1] [0, 0, 0, 0, 0, 0] Q) (state_ReadRows.k1.st r ps n H3)
noncomputable def state_ReadRows.k2.st (r : Addr) (ps : Sl) (n : Int) (x3 : ByteArray) (H7 : Hp) (x4 : Int) (y : ByteArray) : VS := ⟨mkFr 71 [(0, .v (.pointer (some r))), (4, .v (.slice ps.a ps.len ps.cap)), (5, .v (.int .i64 n)), (6, .loc 0 0)], [(T_api_Pair, [.string y, .string x3, .bool (x4 == 1)])], H7⟩
noncomputable def state_ReadRows.k2 (J : Jn) (r : Addr) (ps : Sl) (n : Int) (x3 : ByteArray) (H7 : Hp) (x4 : Int) (y : ByteArray) (Q : Value → Hp → Prop) : Prop := J (vSeg Try.prog state_ReadRows.cf J state_ReadRows.fn [1, 1, 0, 1, 0, 0, 1, 0, 0, 1, 1, 1, 1, 1] [0, 0, 0, 0, 0, 0, 0, 0, 1, 1, 1, 1] Q) (state_ReadRows.k2.st r ps n x3 H7 x4 y)
noncomputable def state_ReadRows.k3.st (r : Addr) (ps : Sl) (H10 : Hp) : VS := ⟨mkFr 71 [(0, .v (.pointer (some r))), (4, .v (.slice ps.a ps.len ps.cap))], [], H10⟩
noncomputable def state_ReadRows.k3 (J : Jn) (r : Addr) (ps : Sl) (H10 : Hp) (Q : Value → Hp → Prop) : Prop := J (vSeg Try.prog state_ReadRows.cf J state_ReadRows.fn [1, 1, 1] [0, 0, 0] Q) (state_ReadRows.k3.st r ps H10)
noncomputable def state_ReadRows.l2.st (r : Addr) (ps : Sl) (H12 : Hp) (xs : Sl) (n1 : Int) : VS := ⟨mkFr 71 [(0, .v (.pointer (some r))), (4, .v (.slice ps.a ps.len ps.cap)), (8, .v (.slice xs.a xs.len xs.cap)), (9, .v (.int .i64 n1))], [], H12⟩
noncomputable def state_ReadRows.l2 (J : Jn) (r : Addr) (ps : Sl) (H12 : Hp) (xs : Sl) (n1 : Int) (Q : Value → Hp → Prop) : Prop := vAt Try.prog state_ReadRows.cf J state_ReadRows.fn [1, 1, 1, 1, 0, 1, 0] [0, 0, 0, 0, 0, 0] Q (state_ReadRows.l2.st r ps H12 xs n1)
noncomputable def state_ReadRows.k4.st (r : Addr) (ps : Sl) (xs : Sl) (n1 : Int) (H13 : Hp) : VS := ⟨mkFr 71 [(0, .v (.pointer (some r))), (4, .v (.slice ps.a ps.len ps.cap)), (8, .v (.slice xs.a xs.len xs.cap)), (9, .v (.int .i64 n1))], [], H13⟩
noncomputable def state_ReadRows.k4 (J : Jn) (r : Addr) (ps : Sl) (xs : Sl) (n1 : Int) (H13 : Hp) (Q : Value → Hp → Prop) : Prop := J (vSeg Try.prog state_ReadRows.cf J state_ReadRows.fn [1, 1, 1, 1, 0, 1, 0, 0, 1] [0, 0, 0, 0, 0, 0, 0, 0] Q) (state_ReadRows.k4.st r ps xs n1 H13)
attribute [irreducible] state_ReadRows.l1 state_ReadRows.k1 state_ReadRows.k2 state_ReadRows.k3 state_ReadRows.l2 state_ReadRows.k4
noncomputable def state_ReadRows.l1.body (J : Jn) (r : Addr) (H2 : Hp) (ps : Sl) (n : Int) (Q : Value → Hp → Prop) : Prop :=
 
 Br (decide (n > 0)) (
 SCalls Try.prog pack_Reader_Bad.id [.pointer (some r)] H2 (fun r2 H3 => ∃ x1 : Bool, r2 = .bool x1 ∧ 
 Br (!x1) (
 state_ReadRows.k1 J r ps n H3 Q)
 (
 state_ReadRows.k3 J r ps H3 Q)))
 (
 state_ReadRows.k3 J r ps H2 Q)
theorem state_ReadRows.l1.eq (J : Jn) (r : Addr) (H2 : Hp) (ps : Sl) (n : Int) (Q : Value → Hp → Prop) : vAtBody Try.prog state_ReadRows.cf J state_ReadRows.fn [1, 1, 0, 1, 0] [0, 0, 0, 0] Q (state_ReadRows.l1.st r H2 ps n) = state_ReadRows.l1.body J r H2 ps n Q := by kernel_rfl
theorem state_ReadRows.l1.step {r : Addr} {H2 : Hp} {ps : Sl} {n : Int} {Q : Value → Hp → Prop} (h : state_ReadRows.l1.body J0 r H2 ps n Q) : state_ReadRows.l1 J0 r H2 ps n Q := vAt_stepC (state_ReadRows.l1.st r H2 ps n) (state_ReadRows.l1.eq J0 r H2 ps n Q) (by kernel_rfl) h
noncomputable def state_ReadRows.k1.body (J : Jn) (r : Addr) (ps : Sl) (n : Int) (H3 : Hp) (Q : Value → Hp → Prop) : Prop :=
 
 SCalls Try.prog pack_Reader_Text.id [.pointer (some r)] H3 (fun r3 H4 => ∃ x2 : ByteArray, r3 = .string x2 ∧ ∀ H5 : Hp, H5 = (holes H4 1) → 
 SCalls Try.prog pack_Reader_Text.id [.pointer (some r)] H5 (fun r4 H6 => ∃ x3 : ByteArray, r4 = .string x3 ∧ 
 SCalls Try.prog pack_Reader_Byte.id [.pointer (some r)] H6 (fun r5 H7 => ∃ x4 : Int, r5 = .int .u8 x4 ∧ 
 Br (decide (x4 > 1)) (
 state_ReadRows.k2 J r ps n x3 H7 x4 (ByteArray.mk #[]) Q)
 (
 state_ReadRows.k2 J r ps n x3 H7 x4 x2 Q))))
theorem state_ReadRows.k1.eq (J : Jn) (r : Addr) (ps : Sl) (n : Int) (H3 : Hp) (Q : Value → Hp → Prop) : vSeg Try.prog state_ReadRows.cf J state_ReadRows.fn [1, 1, 0, 1, 0, 0, 1] [0, 0, 0, 0, 0, 0] Q (state_ReadRows.k1.st r ps n H3) = state_ReadRows.k1.body J r ps n H3 Q := by kernel_rfl
theorem state_ReadRows.k1.step {r : Addr} {ps : Sl} {n : Int} {H3 : Hp} {Q : Value → Hp → Prop} (h : state_ReadRows.k1.body J0 r ps n H3 Q) : state_ReadRows.k1 J0 r ps n H3 Q := step_of (vSeg Try.prog state_ReadRows.cf J0 state_ReadRows.fn [1, 1, 0, 1, 0, 0, 1] [0, 0, 0, 0, 0, 0] Q) (state_ReadRows.k1.st r ps n H3) (state_ReadRows.k1.eq J0 r ps n H3 Q) (by kernel_rfl) h
noncomputable def state_ReadRows.k2.body (J : Jn) (r : Addr) (ps : Sl) (n : Int) (x3 : ByteArray) (H7 : Hp) (x4 : Int) (y : ByteArray) (Q : Value → Hp → Prop) : Prop :=
 ∀ b : Nat, b = Array.size H7 → ∀ H8 : Hp, H8 = (Array.push H7 (.cells #[.string y, .string x3, .bool (x4 == 1)] T_api_Pair)) → 
 vApp Try.prog T_sl_api_Pair ps.a ps.len ps.cap (.slice (some (Addr.mk b 0 none)) 1 1) H8 (fun ap H9 => 
 state_ReadRows.l1 J r H9 ap (w64 (n - 1)) Q)
theorem state_ReadRows.k2.eq (J : Jn) (r : Addr) (ps : Sl) (n : Int) (x3 : ByteArray) (H7 : Hp) (x4 : Int) (y : ByteArray) (Q : Value → Hp → Prop) : vSeg Try.prog state_ReadRows.cf J state_ReadRows.fn [1, 1, 0, 1, 0, 0, 1, 0, 0, 1, 1, 1, 1, 1] [0, 0, 0, 0, 0, 0, 0, 0, 1, 1, 1, 1] Q (state_ReadRows.k2.st r ps n x3 H7 x4 y) = state_ReadRows.k2.body J r ps n x3 H7 x4 y Q := by kernel_rfl
theorem state_ReadRows.k2.step {r : Addr} {ps : Sl} {n : Int} {x3 : ByteArray} {H7 : Hp} {x4 : Int} {y : ByteArray} {Q : Value → Hp → Prop} (h : state_ReadRows.k2.body J0 r ps n x3 H7 x4 y Q) : state_ReadRows.k2 J0 r ps n x3 H7 x4 y Q := step_of (vSeg Try.prog state_ReadRows.cf J0 state_ReadRows.fn [1, 1, 0, 1, 0, 0, 1, 0, 0, 1, 1, 1, 1, 1] [0, 0, 0, 0, 0, 0, 0, 0, 1, 1, 1, 1] Q) (state_ReadRows.k2.st r ps n x3 H7 x4 y) (state_ReadRows.k2.eq J0 r ps n x3 H7 x4 y Q) (by kernel_rfl) h
noncomputable def state_ReadRows.k3.body (J : Jn) (r : Addr) (ps : Sl) (H10 : Hp) (Q : Value → Hp → Prop) : Prop :=
 
 SCalls Try.prog pack_Reader_Num.id [.pointer (some r)] H10 (fun r6 H11 => ∃ x5 : Int, r6 = .int .i64 x5 ∧ 
 state_ReadRows.l2 J r ps H11 (Sl.mk none 0 0) x5 Q)
theorem state_ReadRows.k3.eq (J : Jn) (r : Addr) (ps : Sl) (H10 : Hp) (Q : Value → Hp → Prop) : vSeg Try.prog state_ReadRows.cf J state_ReadRows.fn [1, 1, 1] [0, 0, 0] Q (state_ReadRows.k3.st r ps H10) = state_ReadRows.k3.body J r ps H10 Q := by kernel_rfl
theorem state_ReadRows.k3.step {r : Addr} {ps : Sl} {H10 : Hp} {Q : Value → Hp → Prop} (h : state_ReadRows.k3.body J0 r ps H10 Q) : state_ReadRows.k3 J0 r ps H10 Q := step_of (vSeg Try.prog state_ReadRows.cf J0 state_ReadRows.fn [1, 1, 1] [0, 0, 0] Q) (state_ReadRows.k3.st r ps H10) (state_ReadRows.k3.eq J0 r ps H10 Q) (by kernel_rfl) h
noncomputable def state_ReadRows.l2.body (J : Jn) (r : Addr) (ps : Sl) (H12 : Hp) (xs : Sl) (n1 : Int) (Q : Value → Hp → Prop) : Prop :=
 
 Br (decide (n1 > 0)) (
 SCalls Try.prog pack_Reader_Bad.id [.pointer (some r)] H12 (fun r7 H13 => ∃ x6 : Bool, r7 = .bool x6 ∧ 
 Br (!x6) (
 state_ReadRows.k4 J r ps xs n1 H13 Q)
 (Q (.tuple #[.slice ps.a ps.len ps.cap, .slice xs.a xs.len xs.cap]) H13)))
 (Q (.tuple #[.slice ps.a ps.len ps.cap, .slice xs.a xs.len xs.cap]) H12)
theorem state_ReadRows.l2.eq (J : Jn) (r : Addr) (ps : Sl) (H12 : Hp) (xs : Sl) (n1 : Int) (Q : Value → Hp → Prop) : vAtBody Try.prog state_ReadRows.cf J state_ReadRows.fn [1, 1, 1, 1, 0, 1, 0] [0, 0, 0, 0, 0, 0] Q (state_ReadRows.l2.st r ps H12 xs n1) = state_ReadRows.l2.body J r ps H12 xs n1 Q := by kernel_rfl
theorem state_ReadRows.l2.step {r : Addr} {ps : Sl} {H12 : Hp} {xs : Sl} {n1 : Int} {Q : Value → Hp → Prop} (h : state_ReadRows.l2.body J0 r ps H12 xs n1 Q) : state_ReadRows.l2 J0 r ps H12 xs n1 Q := vAt_stepC (state_ReadRows.l2.st r ps H12 xs n1) (state_ReadRows.l2.eq J0 r ps H12 xs n1 Q) (by kernel_rfl) h
noncomputable def state_ReadRows.k4.body (J : Jn) (r : Addr) (ps : Sl) (xs : Sl) (n1 : Int) (H13 : Hp) (Q : Value → Hp → Prop) : Prop :=
 
 SCalls Try.prog pack_Reader_Num.id [.pointer (some r)] H13 (fun r8 H14 => ∃ x7 : Int, r8 = .int .i64 x7 ∧ ∀ H15 : Hp, H15 = (holes H14 1) → 
 SCalls Try.prog pack_Reader_Num.id [.pointer (some r)] H15 (fun r9 H16 => ∃ x8 : Int, r9 = .int .i64 x8 ∧ 
 SCalls Try.prog pack_Reader_Num.id [.pointer (some r)] H16 (fun r10 H17 => ∃ x9 : Int, r10 = .int .i64 x9 ∧ 
 SCalls Try.prog pack_Reader_Text.id [.pointer (some r)] H17 (fun r11 H18 => ∃ x10 : ByteArray, r11 = .string x10 ∧ ∀ b1 : Nat, b1 = Array.size H18 → ∀ H19 : Hp, H19 = (Array.push H18 (.cells #[.int .i64 x7, .int .i64 x8, .int .i64 x9, .string x10] T_api_Session)) → 
 vApp Try.prog T_sl_api_Session xs.a xs.len xs.cap (.slice (some (Addr.mk b1 0 none)) 1 1) H19 (fun ap1 H20 => 
 state_ReadRows.l2 J r ps H20 ap1 (w64 (n1 - 1)) Q)))))
theorem state_ReadRows.k4.eq (J : Jn) (r : Addr) (ps : Sl) (xs : Sl) (n1 : Int) (H13 : Hp) (Q : Value → Hp → Prop) : vSeg Try.prog state_ReadRows.cf J state_ReadRows.fn [1, 1, 1, 1, 0, 1, 0, 0, 1] [0, 0, 0, 0, 0, 0, 0, 0] Q (state_ReadRows.k4.st r ps xs n1 H13) = state_ReadRows.k4.body J r ps xs n1 H13 Q := by kernel_rfl
theorem state_ReadRows.k4.step {r : Addr} {ps : Sl} {xs : Sl} {n1 : Int} {H13 : Hp} {Q : Value → Hp → Prop} (h : state_ReadRows.k4.body J0 r ps xs n1 H13 Q) : state_ReadRows.k4 J0 r ps xs n1 H13 Q := step_of (vSeg Try.prog state_ReadRows.cf J0 state_ReadRows.fn [1, 1, 1, 1, 0, 1, 0, 0, 1] [0, 0, 0, 0, 0, 0, 0, 0] Q) (state_ReadRows.k4.st r ps xs n1 H13) (state_ReadRows.k4.eq J0 r ps xs n1 H13 Q) (by kernel_rfl) h
noncomputable def state_ReadRows.vc (J : Jn) (r : Addr) (H : Hp) (Q : Value → Hp → Prop) : Prop :=
 
 SCalls Try.prog pack_Reader_Num.id [.pointer (some r)] H (fun r1 H1 => ∃ x : Int, r1 = .int .i64 x ∧ 
 state_ReadRows.l1 J r H1 (Sl.mk none 0 0) x Q)
theorem state_ReadRows.eq (J : Jn) (r : Addr) (H : Hp) (Q : Value → Hp → Prop) : vFn Try.prog state_ReadRows.cf J state_ReadRows.fn [.pointer (some r)] H Q = state_ReadRows.vc J r H Q := by kernel_rfl
theorem state_ReadRows.calls {r : Addr} {H : Hp} {Q : Value → Hp → Prop} (h : state_ReadRows.vc J0 r H Q) : SCalls Try.prog state_ReadRows.id [.pointer (some r)] H Q := vFn_of Try.mixed Try.func27 (state_ReadRows.eq J0 r H Q) h

/-! 30: tephra/tephralaw07.rows -/
noncomputable def tephralaw07_rows.cf : Cfg := ⟨[8, 10, 1000003], [(2, [0, 1, 2, 11, 12, 13]), (8, [0, 1, 2, 60, 61, 62])], [(5, [0, 1, 2, 11, 12, 13, 58], true), (11, [0, 1, 2, 60, 61, 62, 118], true)], [], true⟩
noncomputable def tephralaw07_rows.l1.st (ps : Sl) (xs : Sl) (most : Int) (H1 : Hp) (x : Int) : VS := ⟨mkFr 124 [(0, .v (.slice ps.a ps.len ps.cap)), (1, .v (.slice xs.a xs.len xs.cap)), (2, .v (.int .i64 most)), (11, .v (.slice ps.a ps.len ps.cap)), (12, .v (.int .i64 ((ps.len : Nat) : Int))), (13, .v (.int .i64 x))], [], H1⟩
noncomputable def tephralaw07_rows.l1 (J : Jn) (ps : Sl) (xs : Sl) (most : Int) (H1 : Hp) (x : Int) (Q : Value → Hp → Prop) : Prop := vAt Try.prog tephralaw07_rows.cf J tephralaw07_rows.fn [1, 0, 1, 0] [0, 0, 0] Q (tephralaw07_rows.l1.st ps xs most H1 x)
noncomputable def tephralaw07_rows.k1.st (ps : Sl) (xs : Sl) (most : Int) (x : Int) (Key : ByteArray) (Valuev : ByteArray) (Gone : Bool) (H2 : Hp) (x1 : Bool) : VS := ⟨mkFr 124 [(0, .v (.slice ps.a ps.len ps.cap)), (1, .v (.slice xs.a xs.len xs.cap)), (2, .v (.int .i64 most)), (11, .v (.slice ps.a ps.len ps.cap)), (12, .v (.int .i64 ((ps.len : Nat) : Int))), (13, .v (.int .i64 x)), (58, .v (.bool x1))], [(T_api_Pair, [.string Key, .string Valuev, .bool Gone])], H2⟩
noncomputable def tephralaw07_rows.k1 (J : Jn) (ps : Sl) (xs : Sl) (most : Int) (x : Int) (Key : ByteArray) (Valuev : ByteArray) (Gone : Bool) (H2 : Hp) (x1 : Bool) (Q : Value → Hp → Prop) : Prop := J (vSeg Try.prog tephralaw07_rows.cf J tephralaw07_rows.fn [1, 0, 1, 0, 0, 1, 1, 0, 0, 1, 1] [0, 0, 0, 0, 0, 0, 0, 0, 1] Q) (tephralaw07_rows.k1.st ps xs most x Key Valuev Gone H2 x1)
noncomputable def tephralaw07_rows.l2.st (ps : Sl) (xs : Sl) (most : Int) (H3 : Hp) (x2 : Int) : VS := ⟨mkFr 124 [(0, .v (.slice ps.a ps.len ps.cap)), (1, .v (.slice xs.a xs.len xs.cap)), (2, .v (.int .i64 most)), (60, .v (.slice xs.a xs.len xs.cap)), (61, .v (.int .i64 ((xs.len : Nat) : Int))), (62, .v (.int .i64 x2))], [], H3⟩
noncomputable def tephralaw07_rows.l2 (J : Jn) (ps : Sl) (xs : Sl) (most : Int) (H3 : Hp) (x2 : Int) (Q : Value → Hp → Prop) : Prop := vAt Try.prog tephralaw07_rows.cf J tephralaw07_rows.fn [1, 1, 0, 1, 0] [0, 0, 0, 0] Q (tephralaw07_rows.l2.st ps xs most H3 x2)
noncomputable def tephralaw07_rows.k2.st (ps : Sl) (xs : Sl) (most : Int) (x2 : Int) (Client : Int) (Seq : Int) (ReplyErr : Int) (ReplyValue : ByteArray) (H4 : Hp) (x3 : Bool) : VS := ⟨mkFr 124 [(0, .v (.slice ps.a ps.len ps.cap)), (1, .v (.slice xs.a xs.len xs.cap)), (2, .v (.int .i64 most)), (60, .v (.slice xs.a xs.len xs.cap)), (61, .v (.int .i64 ((xs.len : Nat) : Int))), (62, .v (.int .i64 x2)), (118, .v (.bool x3))], [(T_api_Session, [.int .i64 Client, .int .i64 Seq, .int .i64 ReplyErr, .string ReplyValue])], H4⟩
noncomputable def tephralaw07_rows.k2 (J : Jn) (ps : Sl) (xs : Sl) (most : Int) (x2 : Int) (Client : Int) (Seq : Int) (ReplyErr : Int) (ReplyValue : ByteArray) (H4 : Hp) (x3 : Bool) (Q : Value → Hp → Prop) : Prop := J (vSeg Try.prog tephralaw07_rows.cf J tephralaw07_rows.fn [1, 1, 0, 1, 0, 0, 1, 1, 0, 0, 1, 1] [0, 0, 0, 0, 0, 0, 0, 0, 0, 1] Q) (tephralaw07_rows.k2.st ps xs most x2 Client Seq ReplyErr ReplyValue H4 x3)
attribute [irreducible] tephralaw07_rows.l1 tephralaw07_rows.k1 tephralaw07_rows.l2 tephralaw07_rows.k2
noncomputable def tephralaw07_rows.l1.body (J : Jn) (ps : Sl) (xs : Sl) (most : Int) (H1 : Hp) (x : Int) (Q : Value → Hp → Prop) : Prop :=
 
 Br (decide (x < ((ps.len : Nat) : Int))) (((0 : Int) ≤ x ∧ x < ((ps.len : Nat) : Int)) ∧ vPtr ps.a (fun a => ∃ Key : ByteArray, ∃ Valuev : ByteArray, ∃ Gone : Bool, RowAt H1 (a.add ((x : Int).toNat * 3)) [.string Key, .string Valuev, .bool Gone] ∧ ∀ H2 : Hp, H2 = (holes H1 1) → 
 Br (decide (((Key.size : Nat) : Int) < 1)) (
 tephralaw07_rows.k1 J ps xs most x Key Valuev Gone H2 true Q)
 (
 Br (decide (((Key.size : Nat) : Int) > 8)) (
 tephralaw07_rows.k1 J ps xs most x Key Valuev Gone H2 true Q)
 (
 Br (decide (((Valuev.size : Nat) : Int) > 16)) (
 tephralaw07_rows.k1 J ps xs most x Key Valuev Gone H2 true Q)
 (
 Br Gone (
 Br (decide (((Valuev.size : Nat) : Int) > 0)) (
 tephralaw07_rows.k1 J ps xs most x Key Valuev Gone H2 true Q)
 (
 Br (decide (x > 0)) (((0 : Int) ≤ (w64 (x - 1)) ∧ (w64 (x - 1)) < ((ps.len : Nat) : Int)) ∧ vPtr ps.a (fun a1 => ∃ Key1 : ByteArray, Hp.cell? H2 (a1.add (((w64 (x - 1)) : Int).toNat * 3)) = some (.string Key1) ∧ 
 tephralaw07_rows.k1 J ps xs most x Key Valuev Gone H2 ((Op.bytesLess Key.toList Key1.toList) || (Key.toList == Key1.toList)) Q))
 (
 tephralaw07_rows.k1 J ps xs most x Key Valuev Gone H2 false Q)))
 (
 Br (decide (x > 0)) (((0 : Int) ≤ (w64 (x - 1)) ∧ (w64 (x - 1)) < ((ps.len : Nat) : Int)) ∧ vPtr ps.a (fun a2 => ∃ Key2 : ByteArray, Hp.cell? H2 (a2.add (((w64 (x - 1)) : Int).toNat * 3)) = some (.string Key2) ∧ 
 tephralaw07_rows.k1 J ps xs most x Key Valuev Gone H2 ((Op.bytesLess Key.toList Key2.toList) || (Key.toList == Key2.toList)) Q))
 (
 tephralaw07_rows.k1 J ps xs most x Key Valuev Gone H2 false Q)))))))
 (
 tephralaw07_rows.l2 J ps xs most H1 0 Q)
theorem tephralaw07_rows.l1.eq (J : Jn) (ps : Sl) (xs : Sl) (most : Int) (H1 : Hp) (x : Int) (Q : Value → Hp → Prop) : vAtBody Try.prog tephralaw07_rows.cf J tephralaw07_rows.fn [1, 0, 1, 0] [0, 0, 0] Q (tephralaw07_rows.l1.st ps xs most H1 x) = tephralaw07_rows.l1.body J ps xs most H1 x Q := by kernel_rfl
theorem tephralaw07_rows.l1.step {ps : Sl} {xs : Sl} {most : Int} {H1 : Hp} {x : Int} {Q : Value → Hp → Prop} (h : tephralaw07_rows.l1.body J0 ps xs most H1 x Q) : tephralaw07_rows.l1 J0 ps xs most H1 x Q := vAt_stepC (tephralaw07_rows.l1.st ps xs most H1 x) (tephralaw07_rows.l1.eq J0 ps xs most H1 x Q) (by kernel_rfl) h
noncomputable def tephralaw07_rows.k1.body (J : Jn) (ps : Sl) (xs : Sl) (most : Int) (x : Int) (Key : ByteArray) (Valuev : ByteArray) (Gone : Bool) (H2 : Hp) (x1 : Bool) (Q : Value → Hp → Prop) : Prop :=
 
 Br x1 (Q (.bool false) H2)
 (
 tephralaw07_rows.l1 J ps xs most H2 (w64 (x + 1)) Q)
theorem tephralaw07_rows.k1.eq (J : Jn) (ps : Sl) (xs : Sl) (most : Int) (x : Int) (Key : ByteArray) (Valuev : ByteArray) (Gone : Bool) (H2 : Hp) (x1 : Bool) (Q : Value → Hp → Prop) : vSeg Try.prog tephralaw07_rows.cf J tephralaw07_rows.fn [1, 0, 1, 0, 0, 1, 1, 0, 0, 1, 1] [0, 0, 0, 0, 0, 0, 0, 0, 1] Q (tephralaw07_rows.k1.st ps xs most x Key Valuev Gone H2 x1) = tephralaw07_rows.k1.body J ps xs most x Key Valuev Gone H2 x1 Q := by kernel_rfl
theorem tephralaw07_rows.k1.step {ps : Sl} {xs : Sl} {most : Int} {x : Int} {Key : ByteArray} {Valuev : ByteArray} {Gone : Bool} {H2 : Hp} {x1 : Bool} {Q : Value → Hp → Prop} (h : tephralaw07_rows.k1.body J0 ps xs most x Key Valuev Gone H2 x1 Q) : tephralaw07_rows.k1 J0 ps xs most x Key Valuev Gone H2 x1 Q := step_of (vSeg Try.prog tephralaw07_rows.cf J0 tephralaw07_rows.fn [1, 0, 1, 0, 0, 1, 1, 0, 0, 1, 1] [0, 0, 0, 0, 0, 0, 0, 0, 1] Q) (tephralaw07_rows.k1.st ps xs most x Key Valuev Gone H2 x1) (tephralaw07_rows.k1.eq J0 ps xs most x Key Valuev Gone H2 x1 Q) (by kernel_rfl) h
noncomputable def tephralaw07_rows.l2.body (J : Jn) (ps : Sl) (xs : Sl) (most : Int) (H3 : Hp) (x2 : Int) (Q : Value → Hp → Prop) : Prop :=
 
 Br (decide (x2 < ((xs.len : Nat) : Int))) (((0 : Int) ≤ x2 ∧ x2 < ((xs.len : Nat) : Int)) ∧ vPtr xs.a (fun a3 => ∃ Client : Int, ∃ Seq : Int, ∃ ReplyErr : Int, ∃ ReplyValue : ByteArray, RowAt H3 (a3.add ((x2 : Int).toNat * 4)) [.int .i64 Client, .int .i64 Seq, .int .i64 ReplyErr, .string ReplyValue] ∧ ∀ H4 : Hp, H4 = (holes H3 1) → 
 Br (decide (Client < 0)) (
 tephralaw07_rows.k2 J ps xs most x2 Client Seq ReplyErr ReplyValue H4 true Q)
 (
 Br (decide (Client > 3)) (
 tephralaw07_rows.k2 J ps xs most x2 Client Seq ReplyErr ReplyValue H4 true Q)
 (
 Br (decide (Seq < 0)) (
 tephralaw07_rows.k2 J ps xs most x2 Client Seq ReplyErr ReplyValue H4 true Q)
 (
 Br (decide (Seq > 1048576)) (
 tephralaw07_rows.k2 J ps xs most x2 Client Seq ReplyErr ReplyValue H4 true Q)
 (
 Br (decide (ReplyErr < 0)) (
 tephralaw07_rows.k2 J ps xs most x2 Client Seq ReplyErr ReplyValue H4 true Q)
 (
 Br (decide (ReplyErr > 14)) (
 tephralaw07_rows.k2 J ps xs most x2 Client Seq ReplyErr ReplyValue H4 true Q)
 (
 Br (decide (((ReplyValue.size : Nat) : Int) > 16)) (
 tephralaw07_rows.k2 J ps xs most x2 Client Seq ReplyErr ReplyValue H4 true Q)
 (
 Br (decide (x2 > 0)) (((0 : Int) ≤ (w64 (x2 - 1)) ∧ (w64 (x2 - 1)) < ((xs.len : Nat) : Int)) ∧ vPtr xs.a (fun a4 => ∃ Client1 : Int, Hp.cell? H4 (a4.add (((w64 (x2 - 1)) : Int).toNat * 4)) = some (.int .i64 Client1) ∧ 
 tephralaw07_rows.k2 J ps xs most x2 Client Seq ReplyErr ReplyValue H4 (decide (Client ≤ Client1)) Q))
 (
 tephralaw07_rows.k2 J ps xs most x2 Client Seq ReplyErr ReplyValue H4 false Q))))))))))
 (Q (.bool (decide (((ps.len : Nat) : Int) ≤ most))) H3)
theorem tephralaw07_rows.l2.eq (J : Jn) (ps : Sl) (xs : Sl) (most : Int) (H3 : Hp) (x2 : Int) (Q : Value → Hp → Prop) : vAtBody Try.prog tephralaw07_rows.cf J tephralaw07_rows.fn [1, 1, 0, 1, 0] [0, 0, 0, 0] Q (tephralaw07_rows.l2.st ps xs most H3 x2) = tephralaw07_rows.l2.body J ps xs most H3 x2 Q := by kernel_rfl
theorem tephralaw07_rows.l2.step {ps : Sl} {xs : Sl} {most : Int} {H3 : Hp} {x2 : Int} {Q : Value → Hp → Prop} (h : tephralaw07_rows.l2.body J0 ps xs most H3 x2 Q) : tephralaw07_rows.l2 J0 ps xs most H3 x2 Q := vAt_stepC (tephralaw07_rows.l2.st ps xs most H3 x2) (tephralaw07_rows.l2.eq J0 ps xs most H3 x2 Q) (by kernel_rfl) h
noncomputable def tephralaw07_rows.k2.body (J : Jn) (ps : Sl) (xs : Sl) (most : Int) (x2 : Int) (Client : Int) (Seq : Int) (ReplyErr : Int) (ReplyValue : ByteArray) (H4 : Hp) (x3 : Bool) (Q : Value → Hp → Prop) : Prop :=
 
 Br x3 (Q (.bool false) H4)
 (
 tephralaw07_rows.l2 J ps xs most H4 (w64 (x2 + 1)) Q)
theorem tephralaw07_rows.k2.eq (J : Jn) (ps : Sl) (xs : Sl) (most : Int) (x2 : Int) (Client : Int) (Seq : Int) (ReplyErr : Int) (ReplyValue : ByteArray) (H4 : Hp) (x3 : Bool) (Q : Value → Hp → Prop) : vSeg Try.prog tephralaw07_rows.cf J tephralaw07_rows.fn [1, 1, 0, 1, 0, 0, 1, 1, 0, 0, 1, 1] [0, 0, 0, 0, 0, 0, 0, 0, 0, 1] Q (tephralaw07_rows.k2.st ps xs most x2 Client Seq ReplyErr ReplyValue H4 x3) = tephralaw07_rows.k2.body J ps xs most x2 Client Seq ReplyErr ReplyValue H4 x3 Q := by kernel_rfl
theorem tephralaw07_rows.k2.step {ps : Sl} {xs : Sl} {most : Int} {x2 : Int} {Client : Int} {Seq : Int} {ReplyErr : Int} {ReplyValue : ByteArray} {H4 : Hp} {x3 : Bool} {Q : Value → Hp → Prop} (h : tephralaw07_rows.k2.body J0 ps xs most x2 Client Seq ReplyErr ReplyValue H4 x3 Q) : tephralaw07_rows.k2 J0 ps xs most x2 Client Seq ReplyErr ReplyValue H4 x3 Q := step_of (vSeg Try.prog tephralaw07_rows.cf J0 tephralaw07_rows.fn [1, 1, 0, 1, 0, 0, 1, 1, 0, 0, 1, 1] [0, 0, 0, 0, 0, 0, 0, 0, 0, 1] Q) (tephralaw07_rows.k2.st ps xs most x2 Client Seq ReplyErr ReplyValue H4 x3) (tephralaw07_rows.k2.eq J0 ps xs most x2 Client Seq ReplyErr ReplyValue H4 x3 Q) (by kernel_rfl) h
noncomputable def tephralaw07_rows.vc (J : Jn) (ps : Sl) (xs : Sl) (most : Int) (H : Hp) (Q : Value → Hp → Prop) : Prop :=
 
 tephralaw07_rows.l1 J ps xs most H 0 Q
theorem tephralaw07_rows.eq (J : Jn) (ps : Sl) (xs : Sl) (most : Int) (H : Hp) (Q : Value → Hp → Prop) : vFn Try.prog tephralaw07_rows.cf J tephralaw07_rows.fn [.slice ps.a ps.len ps.cap, .slice xs.a xs.len xs.cap, .int .i64 most] H Q = tephralaw07_rows.vc J ps xs most H Q := by kernel_rfl
theorem tephralaw07_rows.calls {ps : Sl} {xs : Sl} {most : Int} {H : Hp} {Q : Value → Hp → Prop} (h : tephralaw07_rows.vc J0 ps xs most H Q) : SCalls Try.prog tephralaw07_rows.id [.slice ps.a ps.len ps.cap, .slice xs.a xs.len xs.cap, .int .i64 most] H Q := vFn_of Try.mixed Try.func30 (tephralaw07_rows.eq J0 ps xs most H Q) h

/-! 32: tephra/state.Read -/
noncomputable def state_Read.cf : Cfg := ⟨[2, 5, 1000003], [], [], [], true⟩
noncomputable def state_Read.vc (J : Jn) (b : Sl) (H : Hp) (Q : Value → Hp → Prop) : Prop :=
 ∀ H1 : Hp, H1 = (holes H 1) → 
 SCalls Try.prog pack_Of.id [.slice b.a b.len b.cap] H1 (fun r H2 => ∃ x : Option Addr, r = .pointer x ∧ 
 SCalls Try.prog pack_Reader_Num.id [.pointer x] H2 (fun r1 H3 => ∃ x1 : Int, r1 = .int .i64 x1 ∧ ∀ H4 : Hp, H4 = (holes H3 1) → 
 SCalls Try.prog pack_Reader_Num.id [.pointer x] H4 (fun r2 H5 => ∃ x2 : Int, r2 = .int .i64 x2 ∧ 
 SCalls Try.prog state_ReadRows.id [.pointer x] H5 (fun r3 H6 => ∃ x3 : Sl, ∃ x4 : Sl, r3 = .tuple #[.slice x3.a x3.len x3.cap, .slice x4.a x4.len x4.cap] ∧ 
 SCalls Try.prog pack_Reader_Done.id [.pointer x] H6 (fun r4 H7 => ∃ x5 : Bool, r4 = .bool x5 ∧ 
 Br (!x5) (
  (
  (Q (.tuple #[.agg #[.int .i64 0, .int .i64 0, .slice none 0 0, .slice none 0 0], .bool false]) H7) ∧ 
  (Q (.tuple #[.agg #[.int .i64 0, .int .i64 0, .slice none 0 0, .slice none 0 0], .bool false]) H7)) ∧ 
  (Q (.tuple #[.agg #[.int .i64 0, .int .i64 0, .slice none 0 0, .slice none 0 0], .bool false]) H7))
 (
 SCalls Try.prog state_Right.id [.agg #[.int .i64 x1, .int .i64 x2, .slice x3.a x3.len x3.cap, .slice x4.a x4.len x4.cap]] H7 (fun r5 H8 => ∃ x6 : Bool, r5 = .bool x6 ∧ 
 Br (!x6) (
  (
  (Q (.tuple #[.agg #[.int .i64 0, .int .i64 0, .slice none 0 0, .slice none 0 0], .bool false]) H8) ∧ 
  (Q (.tuple #[.agg #[.int .i64 0, .int .i64 0, .slice none 0 0, .slice none 0 0], .bool false]) H8)) ∧ 
  (Q (.tuple #[.agg #[.int .i64 0, .int .i64 0, .slice none 0 0, .slice none 0 0], .bool false]) H8))
 (
  (
 SCalls Try.prog state_Bytes.id [.agg #[.int .i64 x1, .int .i64 x2, .slice x3.a x3.len x3.cap, .slice x4.a x4.len x4.cap]] H8 (fun r6 H9 => ∃ x7 : Sl, r6 = .slice x7.a x7.len x7.cap ∧ 
  (vB2S H9 x7.a x7.len (fun s => vB2S H9 b.a b.len (fun s1 => 
 Br (!(s.toList == s1.toList)) (Q (.tuple #[.agg #[.int .i64 0, .int .i64 0, .slice none 0 0, .slice none 0 0], .bool false]) H9)
 (Q (.tuple #[.agg #[.int .i64 x1, .int .i64 x2, .slice x3.a x3.len x3.cap, .slice x4.a x4.len x4.cap], .bool true]) H9)))) ∧ 
  (vB2S H9 b.a b.len (fun s2 => vB2S H9 x7.a x7.len (fun s3 => 
 Br (!(s3.toList == s2.toList)) (Q (.tuple #[.agg #[.int .i64 0, .int .i64 0, .slice none 0 0, .slice none 0 0], .bool false]) H9)
 (Q (.tuple #[.agg #[.int .i64 x1, .int .i64 x2, .slice x3.a x3.len x3.cap, .slice x4.a x4.len x4.cap], .bool true]) H9)))))) ∧ 
  (vB2S H8 b.a b.len (fun s4 => 
 SCalls Try.prog state_Bytes.id [.agg #[.int .i64 x1, .int .i64 x2, .slice x3.a x3.len x3.cap, .slice x4.a x4.len x4.cap]] H8 (fun r7 H10 => ∃ x8 : Sl, r7 = .slice x8.a x8.len x8.cap ∧ vB2S H10 x8.a x8.len (fun s5 => 
 Br (!(s5.toList == s4.toList)) (Q (.tuple #[.agg #[.int .i64 0, .int .i64 0, .slice none 0 0, .slice none 0 0], .bool false]) H10)
 (Q (.tuple #[.agg #[.int .i64 x1, .int .i64 x2, .slice x3.a x3.len x3.cap, .slice x4.a x4.len x4.cap], .bool true]) H10)))))))))))))
theorem state_Read.eq (J : Jn) (b : Sl) (H : Hp) (Q : Value → Hp → Prop) : vFn Try.prog state_Read.cf J state_Read.fn [.slice b.a b.len b.cap] H Q = state_Read.vc J b H Q := by kernel_rfl
theorem state_Read.calls {b : Sl} {H : Hp} {Q : Value → Hp → Prop} (h : state_Read.vc J0 b H Q) : SCalls Try.prog state_Read.id [.slice b.a b.len b.cap] H Q := vFn_of Try.mixed Try.func32 (state_Read.eq J0 b H Q) h

/-! 33: tephra/tephralaw07.Right -/
noncomputable def tephralaw07_Right.cf : Cfg := ⟨[1, 4, 1000003], [(2, [1, 6, 7, 8])], [], [(22, [1, 22]), (27, [1, 27]), (32, [1, 32])], true⟩
noncomputable def tephralaw07_Right.l1.st (sIndex : Int) (sTerm : Int) (sPairs : Sl) (sSessions : Sl) (H2 : Hp) (x : Int) : VS := ⟨mkFr 40 [(1, .loc 0 0), (6, .v (.slice sPairs.a sPairs.len sPairs.cap)), (7, .v (.int .i64 ((sPairs.len : Nat) : Int))), (8, .v (.int .i64 x))], [(T_api_State, [.int .i64 sIndex, .int .i64 sTerm, .slice sPairs.a sPairs.len sPairs.cap, .slice sSessions.a sSessions.len sSessions.cap])], H2⟩
noncomputable def tephralaw07_Right.l1 (J : Jn) (sIndex : Int) (sTerm : Int) (sPairs : Sl) (sSessions : Sl) (H2 : Hp) (x : Int) (Q : Value → Hp → Prop) : Prop := vAt Try.prog tephralaw07_Right.cf J tephralaw07_Right.fn [1, 0, 1, 0] [0, 1, 1] Q (tephralaw07_Right.l1.st sIndex sTerm sPairs sSessions H2 x)
noncomputable def tephralaw07_Right.k1.st (sIndex : Int) (sTerm : Int) (sPairs : Sl) (sSessions : Sl) (H2 : Hp) (x1 : Bool) : VS := ⟨mkFr 40 [(1, .loc 0 0), (22, .v (.bool x1))], [(T_api_State, [.int .i64 sIndex, .int .i64 sTerm, .slice sPairs.a sPairs.len sPairs.cap, .slice sSessions.a sSessions.len sSessions.cap])], H2⟩
noncomputable def tephralaw07_Right.k1 (J : Jn) (sIndex : Int) (sTerm : Int) (sPairs : Sl) (sSessions : Sl) (H2 : Hp) (x1 : Bool) (Q : Value → Hp → Prop) : Prop := J (vMid Try.prog tephralaw07_Right.cf J tephralaw07_Right.fn [1, 1, 0] [0, 1, 1] 8 Q) (tephralaw07_Right.k1.st sIndex sTerm sPairs sSessions H2 x1)
noncomputable def tephralaw07_Right.k2.st (sIndex : Int) (sTerm : Int) (sPairs : Sl) (sSessions : Sl) (H2 : Hp) (x2 : Bool) : VS := ⟨mkFr 40 [(1, .loc 0 0), (27, .v (.bool x2))], [(T_api_State, [.int .i64 sIndex, .int .i64 sTerm, .slice sPairs.a sPairs.len sPairs.cap, .slice sSessions.a sSessions.len sSessions.cap])], H2⟩
noncomputable def tephralaw07_Right.k2 (J : Jn) (sIndex : Int) (sTerm : Int) (sPairs : Sl) (sSessions : Sl) (H2 : Hp) (x2 : Bool) (Q : Value → Hp → Prop) : Prop := J (vMid Try.prog tephralaw07_Right.cf J tephralaw07_Right.fn [1, 1, 0] [0, 1, 1] 13 Q) (tephralaw07_Right.k2.st sIndex sTerm sPairs sSessions H2 x2)
noncomputable def tephralaw07_Right.k3.st (sIndex : Int) (sTerm : Int) (sPairs : Sl) (sSessions : Sl) (H2 : Hp) (x3 : Bool) : VS := ⟨mkFr 40 [(1, .loc 0 0), (32, .v (.bool x3))], [(T_api_State, [.int .i64 sIndex, .int .i64 sTerm, .slice sPairs.a sPairs.len sPairs.cap, .slice sSessions.a sSessions.len sSessions.cap])], H2⟩
noncomputable def tephralaw07_Right.k3 (J : Jn) (sIndex : Int) (sTerm : Int) (sPairs : Sl) (sSessions : Sl) (H2 : Hp) (x3 : Bool) (Q : Value → Hp → Prop) : Prop := J (vMid Try.prog tephralaw07_Right.cf J tephralaw07_Right.fn [1, 1, 0] [0, 1, 1] 18 Q) (tephralaw07_Right.k3.st sIndex sTerm sPairs sSessions H2 x3)
attribute [irreducible] tephralaw07_Right.l1 tephralaw07_Right.k1 tephralaw07_Right.k2 tephralaw07_Right.k3
noncomputable def tephralaw07_Right.l1.body (J : Jn) (sIndex : Int) (sTerm : Int) (sPairs : Sl) (sSessions : Sl) (H2 : Hp) (x : Int) (Q : Value → Hp → Prop) : Prop :=
 
 Br (decide (x < ((sPairs.len : Nat) : Int))) (((0 : Int) ≤ x ∧ x < ((sPairs.len : Nat) : Int)) ∧ vPtr sPairs.a (fun a => ∃ Key : ByteArray, ∃ Valuev : ByteArray, ∃ Gone : Bool, RowAt H2 (a.add ((x : Int).toNat * 3)) [.string Key, .string Valuev, .bool Gone] ∧ ∀ H3 : Hp, H3 = (holes H2 1) → 
 Br Gone (Q (.bool false) H3)
 (
 tephralaw07_Right.l1 J sIndex sTerm sPairs sSessions H3 (w64 (x + 1)) Q)))
 (
 Br (decide (sIndex ≥ 0)) (
 tephralaw07_Right.k1 J sIndex sTerm sPairs sSessions H2 (decide (sIndex ≤ 1048576)) Q)
 (
 tephralaw07_Right.k1 J sIndex sTerm sPairs sSessions H2 false Q))
theorem tephralaw07_Right.l1.eq (J : Jn) (sIndex : Int) (sTerm : Int) (sPairs : Sl) (sSessions : Sl) (H2 : Hp) (x : Int) (Q : Value → Hp → Prop) : vAtBody Try.prog tephralaw07_Right.cf J tephralaw07_Right.fn [1, 0, 1, 0] [0, 1, 1] Q (tephralaw07_Right.l1.st sIndex sTerm sPairs sSessions H2 x) = tephralaw07_Right.l1.body J sIndex sTerm sPairs sSessions H2 x Q := by kernel_rfl
theorem tephralaw07_Right.l1.step {sIndex : Int} {sTerm : Int} {sPairs : Sl} {sSessions : Sl} {H2 : Hp} {x : Int} {Q : Value → Hp → Prop} (h : tephralaw07_Right.l1.body J0 sIndex sTerm sPairs sSessions H2 x Q) : tephralaw07_Right.l1 J0 sIndex sTerm sPairs sSessions H2 x Q := vAt_stepC (tephralaw07_Right.l1.st sIndex sTerm sPairs sSessions H2 x) (tephralaw07_Right.l1.eq J0 sIndex sTerm sPairs sSessions H2 x Q) (by kernel_rfl) h
noncomputable def tephralaw07_Right.k1.body (J : Jn) (sIndex : Int) (sTerm : Int) (sPairs : Sl) (sSessions : Sl) (H2 : Hp) (x1 : Bool) (Q : Value → Hp → Prop) : Prop :=
 
 Br x1 (
 tephralaw07_Right.k2 J sIndex sTerm sPairs sSessions H2 (decide (sTerm ≥ 0)) Q)
 (
 tephralaw07_Right.k2 J sIndex sTerm sPairs sSessions H2 false Q)
theorem tephralaw07_Right.k1.eq (J : Jn) (sIndex : Int) (sTerm : Int) (sPairs : Sl) (sSessions : Sl) (H2 : Hp) (x1 : Bool) (Q : Value → Hp → Prop) : vMid Try.prog tephralaw07_Right.cf J tephralaw07_Right.fn [1, 1, 0] [0, 1, 1] 8 Q (tephralaw07_Right.k1.st sIndex sTerm sPairs sSessions H2 x1) = tephralaw07_Right.k1.body J sIndex sTerm sPairs sSessions H2 x1 Q := by kernel_rfl
theorem tephralaw07_Right.k1.step {sIndex : Int} {sTerm : Int} {sPairs : Sl} {sSessions : Sl} {H2 : Hp} {x1 : Bool} {Q : Value → Hp → Prop} (h : tephralaw07_Right.k1.body J0 sIndex sTerm sPairs sSessions H2 x1 Q) : tephralaw07_Right.k1 J0 sIndex sTerm sPairs sSessions H2 x1 Q := step_of (vMid Try.prog tephralaw07_Right.cf J0 tephralaw07_Right.fn [1, 1, 0] [0, 1, 1] 8 Q) (tephralaw07_Right.k1.st sIndex sTerm sPairs sSessions H2 x1) (tephralaw07_Right.k1.eq J0 sIndex sTerm sPairs sSessions H2 x1 Q) (by kernel_rfl) h
noncomputable def tephralaw07_Right.k2.body (J : Jn) (sIndex : Int) (sTerm : Int) (sPairs : Sl) (sSessions : Sl) (H2 : Hp) (x2 : Bool) (Q : Value → Hp → Prop) : Prop :=
 
 Br x2 (
 tephralaw07_Right.k3 J sIndex sTerm sPairs sSessions H2 (decide (sTerm ≤ 1048576)) Q)
 (
 tephralaw07_Right.k3 J sIndex sTerm sPairs sSessions H2 false Q)
theorem tephralaw07_Right.k2.eq (J : Jn) (sIndex : Int) (sTerm : Int) (sPairs : Sl) (sSessions : Sl) (H2 : Hp) (x2 : Bool) (Q : Value → Hp → Prop) : vMid Try.prog tephralaw07_Right.cf J tephralaw07_Right.fn [1, 1, 0] [0, 1, 1] 13 Q (tephralaw07_Right.k2.st sIndex sTerm sPairs sSessions H2 x2) = tephralaw07_Right.k2.body J sIndex sTerm sPairs sSessions H2 x2 Q := by kernel_rfl
theorem tephralaw07_Right.k2.step {sIndex : Int} {sTerm : Int} {sPairs : Sl} {sSessions : Sl} {H2 : Hp} {x2 : Bool} {Q : Value → Hp → Prop} (h : tephralaw07_Right.k2.body J0 sIndex sTerm sPairs sSessions H2 x2 Q) : tephralaw07_Right.k2 J0 sIndex sTerm sPairs sSessions H2 x2 Q := step_of (vMid Try.prog tephralaw07_Right.cf J0 tephralaw07_Right.fn [1, 1, 0] [0, 1, 1] 13 Q) (tephralaw07_Right.k2.st sIndex sTerm sPairs sSessions H2 x2) (tephralaw07_Right.k2.eq J0 sIndex sTerm sPairs sSessions H2 x2 Q) (by kernel_rfl) h
noncomputable def tephralaw07_Right.k3.body (J : Jn) (sIndex : Int) (sTerm : Int) (sPairs : Sl) (sSessions : Sl) (H2 : Hp) (x3 : Bool) (Q : Value → Hp → Prop) : Prop :=
 
 Br x3 (
 SCalls Try.prog tephralaw07_rows.id [.slice sPairs.a sPairs.len sPairs.cap, .slice sSessions.a sSessions.len sSessions.cap, .int .i64 64] H2 (fun r H4 => ∃ x4 : Bool, r = .bool x4 ∧ Q (.bool x4) H4))
 (Q (.bool false) H2)
theorem tephralaw07_Right.k3.eq (J : Jn) (sIndex : Int) (sTerm : Int) (sPairs : Sl) (sSessions : Sl) (H2 : Hp) (x3 : Bool) (Q : Value → Hp → Prop) : vMid Try.prog tephralaw07_Right.cf J tephralaw07_Right.fn [1, 1, 0] [0, 1, 1] 18 Q (tephralaw07_Right.k3.st sIndex sTerm sPairs sSessions H2 x3) = tephralaw07_Right.k3.body J sIndex sTerm sPairs sSessions H2 x3 Q := by kernel_rfl
theorem tephralaw07_Right.k3.step {sIndex : Int} {sTerm : Int} {sPairs : Sl} {sSessions : Sl} {H2 : Hp} {x3 : Bool} {Q : Value → Hp → Prop} (h : tephralaw07_Right.k3.body J0 sIndex sTerm sPairs sSessions H2 x3 Q) : tephralaw07_Right.k3 J0 sIndex sTerm sPairs sSessions H2 x3 Q := step_of (vMid Try.prog tephralaw07_Right.cf J0 tephralaw07_Right.fn [1, 1, 0] [0, 1, 1] 18 Q) (tephralaw07_Right.k3.st sIndex sTerm sPairs sSessions H2 x3) (tephralaw07_Right.k3.eq J0 sIndex sTerm sPairs sSessions H2 x3 Q) (by kernel_rfl) h
noncomputable def tephralaw07_Right.vc (J : Jn) (sIndex : Int) (sTerm : Int) (sPairs : Sl) (sSessions : Sl) (H : Hp) (Q : Value → Hp → Prop) : Prop :=
 ∀ H1 : Hp, H1 = (holes H 1) → 
 tephralaw07_Right.l1 J sIndex sTerm sPairs sSessions H1 0 Q
theorem tephralaw07_Right.eq (J : Jn) (sIndex : Int) (sTerm : Int) (sPairs : Sl) (sSessions : Sl) (H : Hp) (Q : Value → Hp → Prop) : vFn Try.prog tephralaw07_Right.cf J tephralaw07_Right.fn [.agg #[.int .i64 sIndex, .int .i64 sTerm, .slice sPairs.a sPairs.len sPairs.cap, .slice sSessions.a sSessions.len sSessions.cap]] H Q = tephralaw07_Right.vc J sIndex sTerm sPairs sSessions H Q := by kernel_rfl
theorem tephralaw07_Right.calls {sIndex : Int} {sTerm : Int} {sPairs : Sl} {sSessions : Sl} {H : Hp} {Q : Value → Hp → Prop} (h : tephralaw07_Right.vc J0 sIndex sTerm sPairs sSessions H Q) : SCalls Try.prog tephralaw07_Right.id [.agg #[.int .i64 sIndex, .int .i64 sTerm, .slice sPairs.a sPairs.len sPairs.cap, .slice sSessions.a sSessions.len sSessions.cap]] H Q := vFn_of Try.mixed Try.func33 (tephralaw07_Right.eq J0 sIndex sTerm sPairs sSessions H Q) h

/-! 34: tephra/tephralaw07.bytes -/
noncomputable def tephralaw07_bytes.cf : Cfg := ⟨[1, 1000003], [], [(3, [1, 3], true)], [], true⟩
noncomputable def tephralaw07_bytes.k1.st (sIndex : Int) (sTerm : Int) (sPairs : Sl) (sSessions : Sl) (b : Nat) (H4 : Hp) : VS := ⟨mkFr 22 [(1, .loc 0 0), (3, .v (.pointer (some (Addr.mk b 0 none))))], [(T_api_State, [.int .i64 sIndex, .int .i64 sTerm, .slice sPairs.a sPairs.len sPairs.cap, .slice sSessions.a sSessions.len sSessions.cap])], H4⟩
noncomputable def tephralaw07_bytes.k1 (J : Jn) (sIndex : Int) (sTerm : Int) (sPairs : Sl) (sSessions : Sl) (b : Nat) (H4 : Hp) (Q : Value → Hp → Prop) : Prop := J (vSeg Try.prog tephralaw07_bytes.cf J tephralaw07_bytes.fn [1, 1, 1] [0, 1, 1] Q) (tephralaw07_bytes.k1.st sIndex sTerm sPairs sSessions b H4)
attribute [irreducible] tephralaw07_bytes.k1
noncomputable def tephralaw07_bytes.k1.body (J : Jn) (sIndex : Int) (sTerm : Int) (sPairs : Sl) (sSessions : Sl) (b : Nat) (H4 : Hp) (Q : Value → Hp → Prop) : Prop :=
 
 SCalls Try.prog tephralaw07_Lays.id [.pointer (some (Addr.mk b 0 none)), .slice sPairs.a sPairs.len sPairs.cap, .slice sSessions.a sSessions.len sSessions.cap] H4 (fun r2 H5 => r2 = .tuple #[] ∧ 
 SCalls Try.prog pack_Writer_Bytes.id [.pointer (some (Addr.mk b 0 none))] H5 (fun r3 H6 => ∃ x2 : Sl, r3 = .slice x2.a x2.len x2.cap ∧ vB2S H6 x2.a x2.len (fun s => Q (.string s) H6)))
theorem tephralaw07_bytes.k1.eq (J : Jn) (sIndex : Int) (sTerm : Int) (sPairs : Sl) (sSessions : Sl) (b : Nat) (H4 : Hp) (Q : Value → Hp → Prop) : vSeg Try.prog tephralaw07_bytes.cf J tephralaw07_bytes.fn [1, 1, 1] [0, 1, 1] Q (tephralaw07_bytes.k1.st sIndex sTerm sPairs sSessions b H4) = tephralaw07_bytes.k1.body J sIndex sTerm sPairs sSessions b H4 Q := by kernel_rfl
theorem tephralaw07_bytes.k1.step {sIndex : Int} {sTerm : Int} {sPairs : Sl} {sSessions : Sl} {b : Nat} {H4 : Hp} {Q : Value → Hp → Prop} (h : tephralaw07_bytes.k1.body J0 sIndex sTerm sPairs sSessions b H4 Q) : tephralaw07_bytes.k1 J0 sIndex sTerm sPairs sSessions b H4 Q := step_of (vSeg Try.prog tephralaw07_bytes.cf J0 tephralaw07_bytes.fn [1, 1, 1] [0, 1, 1] Q) (tephralaw07_bytes.k1.st sIndex sTerm sPairs sSessions b H4) (tephralaw07_bytes.k1.eq J0 sIndex sTerm sPairs sSessions b H4 Q) (by kernel_rfl) h
noncomputable def tephralaw07_bytes.vc (J : Jn) (sIndex : Int) (sTerm : Int) (sPairs : Sl) (sSessions : Sl) (H : Hp) (Q : Value → Hp → Prop) : Prop :=
 ∀ H1 : Hp, H1 = (holes H 1) → ∀ b : Nat, b = Array.size H1 → ∀ H2 : Hp, H2 = (Array.push H1 (.cells #[.slice none 0 0] T_pack_Writer)) → 
 SCalls Try.prog pack_Writer_Num.id [.pointer (some (Addr.mk b 0 none)), .int .i64 sIndex] H2 (fun r H3 => ∃ x : Option Addr, r = .pointer x ∧ 
 SCalls Try.prog pack_Writer_Num.id [.pointer x, .int .i64 sTerm] H3 (fun r1 H4 => ∃ x1 : Option Addr, r1 = .pointer x1 ∧ 
 tephralaw07_bytes.k1 J sIndex sTerm sPairs sSessions b H4 Q))
theorem tephralaw07_bytes.eq (J : Jn) (sIndex : Int) (sTerm : Int) (sPairs : Sl) (sSessions : Sl) (H : Hp) (Q : Value → Hp → Prop) : vFn Try.prog tephralaw07_bytes.cf J tephralaw07_bytes.fn [.agg #[.int .i64 sIndex, .int .i64 sTerm, .slice sPairs.a sPairs.len sPairs.cap, .slice sSessions.a sSessions.len sSessions.cap]] H Q = tephralaw07_bytes.vc J sIndex sTerm sPairs sSessions H Q := by kernel_rfl
theorem tephralaw07_bytes.calls {sIndex : Int} {sTerm : Int} {sPairs : Sl} {sSessions : Sl} {H : Hp} {Q : Value → Hp → Prop} (h : tephralaw07_bytes.vc J0 sIndex sTerm sPairs sSessions H Q) : SCalls Try.prog tephralaw07_bytes.id [.agg #[.int .i64 sIndex, .int .i64 sTerm, .slice sPairs.a sPairs.len sPairs.cap, .slice sSessions.a sSessions.len sSessions.cap]] H Q := vFn_of Try.mixed Try.func34 (tephralaw07_bytes.eq J0 sIndex sTerm sPairs sSessions H Q) h

/-! 47: (*tephra/pack.Reader).Bad -/
noncomputable def pack_Reader_Bad.cf : Cfg := ⟨[], [], [], [], true⟩
noncomputable def pack_Reader_Bad.vc (J : Jn) (r : Addr) (H : Hp) (Q : Value → Hp → Prop) : Prop :=
 ∃ bad : Bool, Hp.cell? H (r.add 1) = some (.bool bad) ∧ Q (.bool bad) H
theorem pack_Reader_Bad.eq (J : Jn) (r : Addr) (H : Hp) (Q : Value → Hp → Prop) : vFn Try.prog pack_Reader_Bad.cf J pack_Reader_Bad.fn [.pointer (some r)] H Q = pack_Reader_Bad.vc J r H Q := by kernel_rfl
theorem pack_Reader_Bad.calls {r : Addr} {H : Hp} {Q : Value → Hp → Prop} (h : pack_Reader_Bad.vc J0 r H Q) : SCalls Try.prog pack_Reader_Bad.id [.pointer (some r)] H Q := vFn_of Try.mixed Try.func47 (pack_Reader_Bad.eq J0 r H Q) h

/-! 8: tephra/tephralaw07.StateRows -/
noncomputable def tephralaw07_StateRows.cf : Cfg := ⟨[1000003], [(12, [0, 1, 10, 11, 88, 89]), (18, [1, 11, 103, 104])], [(10, [0, 1, 10, 11, 86], true), (15, [0, 1, 10, 11, 88, 89, 100], true)], [], true⟩
noncomputable def tephralaw07_StateRows.k1.st (ps : Sl) (xs : Sl) (x3 : Sl) (x4 : Sl) (x17 : Bool) (H21 : Hp) : VS := ⟨mkFr 117 [(0, .v (.slice (cutA ps.a ps.cap 0 3) (((if (30 : Int) < ((ps.len : Nat) : Int) then 30 else ((ps.len : Nat) : Int)) : Int).toNat) ps.cap)), (1, .v (.slice (cutA xs.a xs.cap 0 4) (((if (30 : Int) < ((xs.len : Nat) : Int) then 30 else ((xs.len : Nat) : Int)) : Int).toNat) xs.cap)), (10, .v (.slice x3.a x3.len x3.cap)), (11, .v (.slice x4.a x4.len x4.cap)), (86, .v (.bool x17))], [], H21⟩
noncomputable def tephralaw07_StateRows.k1 (J : Jn) (ps : Sl) (xs : Sl) (x3 : Sl) (x4 : Sl) (x17 : Bool) (H21 : Hp) (Q : Value → Hp → Prop) : Prop := J (vSeg Try.prog tephralaw07_StateRows.cf J tephralaw07_StateRows.fn [1, 1, 1, 1, 1, 1, 1, 1, 0, 1] [0, 0, 0, 0, 0, 0, 0, 0, 0, 0] Q) (tephralaw07_StateRows.k1.st ps xs x3 x4 x17 H21)
noncomputable def tephralaw07_StateRows.l1.st (ps : Sl) (xs : Sl) (x3 : Sl) (x4 : Sl) (H22 : Hp) (x18 : Int) : VS := ⟨mkFr 117 [(0, .v (.slice (cutA ps.a ps.cap 0 3) (((if (30 : Int) < ((ps.len : Nat) : Int) then 30 else ((ps.len : Nat) : Int)) : Int).toNat) ps.cap)), (1, .v (.slice (cutA xs.a xs.cap 0 4) (((if (30 : Int) < ((xs.len : Nat) : Int) then 30 else ((xs.len : Nat) : Int)) : Int).toNat) xs.cap)), (10, .v (.slice x3.a x3.len x3.cap)), (11, .v (.slice x4.a x4.len x4.cap)), (88, .v (.int .i64 (((((if (30 : Int) < ((ps.len : Nat) : Int) then 30 else ((ps.len : Nat) : Int)) : Int).toNat) : Nat) : Int))), (89, .v (.int .i64 x18))], [], H22⟩
noncomputable def tephralaw07_StateRows.l1 (J : Jn) (ps : Sl) (xs : Sl) (x3 : Sl) (x4 : Sl) (H22 : Hp) (x18 : Int) (Q : Value → Hp → Prop) : Prop := vAt Try.prog tephralaw07_StateRows.cf J tephralaw07_StateRows.fn [1, 1, 1, 1, 1, 1, 1, 1, 1, 0, 1, 0] [0, 0, 0, 0, 0, 0, 0, 0, 0, 0, 0] Q (tephralaw07_StateRows.l1.st ps xs x3 x4 H22 x18)
noncomputable def tephralaw07_StateRows.k2.st (ps : Sl) (xs : Sl) (x3 : Sl) (x4 : Sl) (H22 : Hp) (x18 : Int) (Key : ByteArray) (Valuev : ByteArray) (Gone : Bool) (Key1 : ByteArray) (Valuev1 : ByteArray) (Gone1 : Bool) : VS := ⟨mkFr 117 [(0, .v (.slice (cutA ps.a ps.cap 0 3) (((if (30 : Int) < ((ps.len : Nat) : Int) then 30 else ((ps.len : Nat) : Int)) : Int).toNat) ps.cap)), (1, .v (.slice (cutA xs.a xs.cap 0 4) (((if (30 : Int) < ((xs.len : Nat) : Int) then 30 else ((xs.len : Nat) : Int)) : Int).toNat) xs.cap)), (10, .v (.slice x3.a x3.len x3.cap)), (11, .v (.slice x4.a x4.len x4.cap)), (88, .v (.int .i64 (((((if (30 : Int) < ((ps.len : Nat) : Int) then 30 else ((ps.len : Nat) : Int)) : Int).toNat) : Nat) : Int))), (89, .v (.int .i64 x18)), (100, .v (.bool (!((Key == Key1) && ((Valuev == Valuev1) && ((Gone == Gone1) && true))))))], [], H22⟩
noncomputable def tephralaw07_StateRows.k2 (J : Jn) (ps : Sl) (xs : Sl) (x3 : Sl) (x4 : Sl) (H22 : Hp) (x18 : Int) (Key : ByteArray) (Valuev : ByteArray) (Gone : Bool) (Key1 : ByteArray) (Valuev1 : ByteArray) (Gone1 : Bool) (Q : Value → Hp → Prop) : Prop := J (vSeg Try.prog tephralaw07_StateRows.cf J tephralaw07_StateRows.fn [1, 1, 1, 1, 1, 1, 1, 1, 1, 0, 1, 0, 0, 1, 1, 0, 0, 1, 1] [0, 0, 0, 0, 0, 0, 0, 0, 0, 0, 0, 0, 0, 0, 0, 0, 0] Q) (tephralaw07_StateRows.k2.st ps xs x3 x4 H22 x18 Key Valuev Gone Key1 Valuev1 Gone1)
noncomputable def tephralaw07_StateRows.l2.st (xs : Sl) (x4 : Sl) (H23 : Hp) (x19 : Int) : VS := ⟨mkFr 117 [(1, .v (.slice (cutA xs.a xs.cap 0 4) (((if (30 : Int) < ((xs.len : Nat) : Int) then 30 else ((xs.len : Nat) : Int)) : Int).toNat) xs.cap)), (11, .v (.slice x4.a x4.len x4.cap)), (103, .v (.int .i64 (((((if (30 : Int) < ((xs.len : Nat) : Int) then 30 else ((xs.len : Nat) : Int)) : Int).toNat) : Nat) : Int))), (104, .v (.int .i64 x19))], [], H23⟩
noncomputable def tephralaw07_StateRows.l2 (J : Jn) (xs : Sl) (x4 : Sl) (H23 : Hp) (x19 : Int) (Q : Value → Hp → Prop) : Prop := vAt Try.prog tephralaw07_StateRows.cf J tephralaw07_StateRows.fn [1, 1, 1, 1, 1, 1, 1, 1, 1, 1, 0, 1, 0] [0, 0, 0, 0, 0, 0, 0, 0, 0, 0, 0, 0] Q (tephralaw07_StateRows.l2.st xs x4 H23 x19)
attribute [irreducible] tephralaw07_StateRows.k1 tephralaw07_StateRows.l1 tephralaw07_StateRows.k2 tephralaw07_StateRows.l2
noncomputable def tephralaw07_StateRows.k1.body (J : Jn) (ps : Sl) (xs : Sl) (x3 : Sl) (x4 : Sl) (x17 : Bool) (H21 : Hp) (Q : Value → Hp → Prop) : Prop :=
 
 Br x17 (Q (.bool false) H21)
 (
 tephralaw07_StateRows.l1 J ps xs x3 x4 H21 0 Q)
theorem tephralaw07_StateRows.k1.eq (J : Jn) (ps : Sl) (xs : Sl) (x3 : Sl) (x4 : Sl) (x17 : Bool) (H21 : Hp) (Q : Value → Hp → Prop) : vSeg Try.prog tephralaw07_StateRows.cf J tephralaw07_StateRows.fn [1, 1, 1, 1, 1, 1, 1, 1, 0, 1] [0, 0, 0, 0, 0, 0, 0, 0, 0, 0] Q (tephralaw07_StateRows.k1.st ps xs x3 x4 x17 H21) = tephralaw07_StateRows.k1.body J ps xs x3 x4 x17 H21 Q := by kernel_rfl
theorem tephralaw07_StateRows.k1.step {ps : Sl} {xs : Sl} {x3 : Sl} {x4 : Sl} {x17 : Bool} {H21 : Hp} {Q : Value → Hp → Prop} (h : tephralaw07_StateRows.k1.body J0 ps xs x3 x4 x17 H21 Q) : tephralaw07_StateRows.k1 J0 ps xs x3 x4 x17 H21 Q := step_of (vSeg Try.prog tephralaw07_StateRows.cf J0 tephralaw07_StateRows.fn [1, 1, 1, 1, 1, 1, 1, 1, 0, 1] [0, 0, 0, 0, 0, 0, 0, 0, 0, 0] Q) (tephralaw07_StateRows.k1.st ps xs x3 x4 x17 H21) (tephralaw07_StateRows.k1.eq J0 ps xs x3 x4 x17 H21 Q) (by kernel_rfl) h
noncomputable def tephralaw07_StateRows.l1.body (J : Jn) (ps : Sl) (xs : Sl) (x3 : Sl) (x4 : Sl) (H22 : Hp) (x18 : Int) (Q : Value → Hp → Prop) : Prop :=
 
 Br (decide (x18 < (((((if (30 : Int) < ((ps.len : Nat) : Int) then 30 else ((ps.len : Nat) : Int)) : Int).toNat) : Nat) : Int))) (((0 : Int) ≤ x18 ∧ x18 < ((x3.len : Nat) : Int)) ∧ vPtr x3.a (fun a => ∃ Key : ByteArray, ∃ Valuev : ByteArray, ∃ Gone : Bool, RowAt H22 (a.add ((x18 : Int).toNat * 3)) [.string Key, .string Valuev, .bool Gone] ∧ ((0 : Int) ≤ x18 ∧ x18 < (((((if (30 : Int) < ((ps.len : Nat) : Int) then 30 else ((ps.len : Nat) : Int)) : Int).toNat) : Nat) : Int)) ∧ vPtr (cutA ps.a ps.cap 0 3) (fun a1 => ∃ Key1 : ByteArray, ∃ Valuev1 : ByteArray, ∃ Gone1 : Bool, RowAt H22 (a1.add ((x18 : Int).toNat * 3)) [.string Key1, .string Valuev1, .bool Gone1] ∧ 
 tephralaw07_StateRows.k2 J ps xs x3 x4 H22 x18 Key Valuev Gone Key1 Valuev1 Gone1 Q)))
 (
 tephralaw07_StateRows.l2 J xs x4 H22 0 Q)
theorem tephralaw07_StateRows.l1.eq (J : Jn) (ps : Sl) (xs : Sl) (x3 : Sl) (x4 : Sl) (H22 : Hp) (x18 : Int) (Q : Value → Hp → Prop) : vAtBody Try.prog tephralaw07_StateRows.cf J tephralaw07_StateRows.fn [1, 1, 1, 1, 1, 1, 1, 1, 1, 0, 1, 0] [0, 0, 0, 0, 0, 0, 0, 0, 0, 0, 0] Q (tephralaw07_StateRows.l1.st ps xs x3 x4 H22 x18) = tephralaw07_StateRows.l1.body J ps xs x3 x4 H22 x18 Q := by kernel_rfl
theorem tephralaw07_StateRows.l1.step {ps : Sl} {xs : Sl} {x3 : Sl} {x4 : Sl} {H22 : Hp} {x18 : Int} {Q : Value → Hp → Prop} (h : tephralaw07_StateRows.l1.body J0 ps xs x3 x4 H22 x18 Q) : tephralaw07_StateRows.l1 J0 ps xs x3 x4 H22 x18 Q := vAt_stepC (tephralaw07_StateRows.l1.st ps xs x3 x4 H22 x18) (tephralaw07_StateRows.l1.eq J0 ps xs x3 x4 H22 x18 Q) (by kernel_rfl) h
noncomputable def tephralaw07_StateRows.k2.body (J : Jn) (ps : Sl) (xs : Sl) (x3 : Sl) (x4 : Sl) (H22 : Hp) (x18 : Int) (Key : ByteArray) (Valuev : ByteArray) (Gone : Bool) (Key1 : ByteArray) (Valuev1 : ByteArray) (Gone1 : Bool) (Q : Value → Hp → Prop) : Prop :=
 
 Br (!((Key == Key1) && ((Valuev == Valuev1) && ((Gone == Gone1) && true)))) (Q (.bool false) H22)
 (
 tephralaw07_StateRows.l1 J ps xs x3 x4 H22 (w64 (x18 + 1)) Q)
theorem tephralaw07_StateRows.k2.eq (J : Jn) (ps : Sl) (xs : Sl) (x3 : Sl) (x4 : Sl) (H22 : Hp) (x18 : Int) (Key : ByteArray) (Valuev : ByteArray) (Gone : Bool) (Key1 : ByteArray) (Valuev1 : ByteArray) (Gone1 : Bool) (Q : Value → Hp → Prop) : vSeg Try.prog tephralaw07_StateRows.cf J tephralaw07_StateRows.fn [1, 1, 1, 1, 1, 1, 1, 1, 1, 0, 1, 0, 0, 1, 1, 0, 0, 1, 1] [0, 0, 0, 0, 0, 0, 0, 0, 0, 0, 0, 0, 0, 0, 0, 0, 0] Q (tephralaw07_StateRows.k2.st ps xs x3 x4 H22 x18 Key Valuev Gone Key1 Valuev1 Gone1) = tephralaw07_StateRows.k2.body J ps xs x3 x4 H22 x18 Key Valuev Gone Key1 Valuev1 Gone1 Q := by kernel_rfl
theorem tephralaw07_StateRows.k2.step {ps : Sl} {xs : Sl} {x3 : Sl} {x4 : Sl} {H22 : Hp} {x18 : Int} {Key : ByteArray} {Valuev : ByteArray} {Gone : Bool} {Key1 : ByteArray} {Valuev1 : ByteArray} {Gone1 : Bool} {Q : Value → Hp → Prop} (h : tephralaw07_StateRows.k2.body J0 ps xs x3 x4 H22 x18 Key Valuev Gone Key1 Valuev1 Gone1 Q) : tephralaw07_StateRows.k2 J0 ps xs x3 x4 H22 x18 Key Valuev Gone Key1 Valuev1 Gone1 Q := step_of (vSeg Try.prog tephralaw07_StateRows.cf J0 tephralaw07_StateRows.fn [1, 1, 1, 1, 1, 1, 1, 1, 1, 0, 1, 0, 0, 1, 1, 0, 0, 1, 1] [0, 0, 0, 0, 0, 0, 0, 0, 0, 0, 0, 0, 0, 0, 0, 0, 0] Q) (tephralaw07_StateRows.k2.st ps xs x3 x4 H22 x18 Key Valuev Gone Key1 Valuev1 Gone1) (tephralaw07_StateRows.k2.eq J0 ps xs x3 x4 H22 x18 Key Valuev Gone Key1 Valuev1 Gone1 Q) (by kernel_rfl) h
noncomputable def tephralaw07_StateRows.l2.body (J : Jn) (xs : Sl) (x4 : Sl) (H23 : Hp) (x19 : Int) (Q : Value → Hp → Prop) : Prop :=
 
 Br (decide (x19 < (((((if (30 : Int) < ((xs.len : Nat) : Int) then 30 else ((xs.len : Nat) : Int)) : Int).toNat) : Nat) : Int))) (((0 : Int) ≤ x19 ∧ x19 < ((x4.len : Nat) : Int)) ∧ vPtr x4.a (fun a2 => ∃ Client : Int, ∃ Seq : Int, ∃ ReplyErr : Int, ∃ ReplyValue : ByteArray, RowAt H23 (a2.add ((x19 : Int).toNat * 4)) [.int .i64 Client, .int .i64 Seq, .int .i64 ReplyErr, .string ReplyValue] ∧ ((0 : Int) ≤ x19 ∧ x19 < (((((if (30 : Int) < ((xs.len : Nat) : Int) then 30 else ((xs.len : Nat) : Int)) : Int).toNat) : Nat) : Int)) ∧ vPtr (cutA xs.a xs.cap 0 4) (fun a3 => ∃ Client1 : Int, ∃ Seq1 : Int, ∃ ReplyErr1 : Int, ∃ ReplyValue1 : ByteArray, RowAt H23 (a3.add ((x19 : Int).toNat * 4)) [.int .i64 Client1, .int .i64 Seq1, .int .i64 ReplyErr1, .string ReplyValue1] ∧ 
 Br (!((Client == Client1) && ((Seq == Seq1) && (((ReplyErr == ReplyErr1) && ((ReplyValue == ReplyValue1) && true)) && true)))) (Q (.bool false) H23)
 (
 tephralaw07_StateRows.l2 J xs x4 H23 (w64 (x19 + 1)) Q))))
 (Q (.bool true) H23)
theorem tephralaw07_StateRows.l2.eq (J : Jn) (xs : Sl) (x4 : Sl) (H23 : Hp) (x19 : Int) (Q : Value → Hp → Prop) : vAtBody Try.prog tephralaw07_StateRows.cf J tephralaw07_StateRows.fn [1, 1, 1, 1, 1, 1, 1, 1, 1, 1, 0, 1, 0] [0, 0, 0, 0, 0, 0, 0, 0, 0, 0, 0, 0] Q (tephralaw07_StateRows.l2.st xs x4 H23 x19) = tephralaw07_StateRows.l2.body J xs x4 H23 x19 Q := by kernel_rfl
theorem tephralaw07_StateRows.l2.step {xs : Sl} {x4 : Sl} {H23 : Hp} {x19 : Int} {Q : Value → Hp → Prop} (h : tephralaw07_StateRows.l2.body J0 xs x4 H23 x19 Q) : tephralaw07_StateRows.l2 J0 xs x4 H23 x19 Q := vAt_stepC (tephralaw07_StateRows.l2.st xs x4 H23 x19) (tephralaw07_StateRows.l2.eq J0 xs x4 H23 x19 Q) (by kernel_rfl) h
noncomputable def tephralaw07_StateRows.vc (J : Jn) (ps : Sl) (xs : Sl) (most : Int) (H : Hp) (Q : Value → Hp → Prop) : Prop :=
 
 SCalls Try.prog tephralaw07_awake.id [] H (fun r H1 => ∃ x : Bool, r = .bool x ∧ 
 Br (!x) (Q (.bool false) H1)
 (((0 : Int) ≤ (if (30 : Int) < ((ps.len : Nat) : Int) then 30 else ((ps.len : Nat) : Int)) ∧ (if (30 : Int) < ((ps.len : Nat) : Int) then 30 else ((ps.len : Nat) : Int)) ≤ ((ps.cap : Nat) : Int)) ∧ ((0 : Int) ≤ (if (30 : Int) < ((xs.len : Nat) : Int) then 30 else ((xs.len : Nat) : Int)) ∧ (if (30 : Int) < ((xs.len : Nat) : Int) then 30 else ((xs.len : Nat) : Int)) ≤ ((xs.cap : Nat) : Int)) ∧ ∀ b : Nat, b = Array.size H1 → ∀ H2 : Hp, H2 = (Array.push H1 (.cells #[.slice none 0 0] T_pack_Writer)) → ∀ b1 : Nat, b1 = Array.size H2 → ∀ H3 : Hp, H3 = (Array.push H2 (.cells #[.slice none 0 0] T_pack_Writer)) → 
 SCalls Try.prog state_PutRows.id [.pointer (some (Addr.mk b 0 none)), .slice (cutA ps.a ps.cap 0 3) (((if (30 : Int) < ((ps.len : Nat) : Int) then 30 else ((ps.len : Nat) : Int)) : Int).toNat) ps.cap, .slice (cutA xs.a xs.cap 0 4) (((if (30 : Int) < ((xs.len : Nat) : Int) then 30 else ((xs.len : Nat) : Int)) : Int).toNat) xs.cap] H3 (fun r1 H4 => r1 = .tuple #[] ∧ 
 SCalls Try.prog tephralaw07_Lays.id [.pointer (some (Addr.mk b1 0 none)), .slice (cutA ps.a ps.cap 0 3) (((if (30 : Int) < ((ps.len : Nat) : Int) then 30 else ((ps.len : Nat) : Int)) : Int).toNat) ps.cap, .slice (cutA xs.a xs.cap 0 4) (((if (30 : Int) < ((xs.len : Nat) : Int) then 30 else ((xs.len : Nat) : Int)) : Int).toNat) xs.cap] H4 (fun r2 H5 => r2 = .tuple #[] ∧ 
 SCalls Try.prog pack_Writer_Bytes.id [.pointer (some (Addr.mk b 0 none))] H5 (fun r3 H6 => ∃ x1 : Sl, r3 = .slice x1.a x1.len x1.cap ∧ 
 SCalls Try.prog pack_Of.id [.slice x1.a x1.len x1.cap] H6 (fun r4 H7 => ∃ x2 : Option Addr, r4 = .pointer x2 ∧ 
 SCalls Try.prog state_ReadRows.id [.pointer x2] H7 (fun r5 H8 => ∃ x3 : Sl, ∃ x4 : Sl, r5 = .tuple #[.slice x3.a x3.len x3.cap, .slice x4.a x4.len x4.cap] ∧ 
 SCalls Try.prog pack_Writer_Bytes.id [.pointer (some (Addr.mk b 0 none))] H8 (fun r6 H9 => ∃ x5 : Sl, r6 = .slice x5.a x5.len x5.cap ∧ 
  (vB2S H9 x5.a x5.len (fun s => 
 SCalls Try.prog pack_Writer_Bytes.id [.pointer (some (Addr.mk b1 0 none))] H9 (fun r7 H10 => ∃ x6 : Sl, r7 = .slice x6.a x6.len x6.cap ∧ vB2S H10 x6.a x6.len (fun s1 => 
 Br (!(s.toList == s1.toList)) (
  (
  (
 tephralaw07_StateRows.k1 J ps xs x3 x4 true H10 Q) ∧ 
  (
 tephralaw07_StateRows.k1 J ps xs x3 x4 true H10 Q)) ∧ 
  (
 tephralaw07_StateRows.k1 J ps xs x3 x4 true H10 Q))
 (
 SCalls Try.prog pack_Reader_Done.id [.pointer x2] H10 (fun r8 H11 => ∃ x7 : Bool, r8 = .bool x7 ∧ 
 Br (!x7) (
  (
  (
 tephralaw07_StateRows.k1 J ps xs x3 x4 true H11 Q) ∧ 
  (
 tephralaw07_StateRows.k1 J ps xs x3 x4 true H11 Q)) ∧ 
  (
 tephralaw07_StateRows.k1 J ps xs x3 x4 true H11 Q))
 (
 Br (((x3.len : Nat) : Int) != (((((if (30 : Int) < ((ps.len : Nat) : Int) then 30 else ((ps.len : Nat) : Int)) : Int).toNat) : Nat) : Int)) (
  (
  (
 tephralaw07_StateRows.k1 J ps xs x3 x4 true H11 Q) ∧ 
  (
 tephralaw07_StateRows.k1 J ps xs x3 x4 true H11 Q)) ∧ 
  (
 tephralaw07_StateRows.k1 J ps xs x3 x4 true H11 Q))
 (
 Br (((x4.len : Nat) : Int) != (((((if (30 : Int) < ((xs.len : Nat) : Int) then 30 else ((xs.len : Nat) : Int)) : Int).toNat) : Nat) : Int)) (
  (
  (
 tephralaw07_StateRows.k1 J ps xs x3 x4 true H11 Q) ∧ 
  (
 tephralaw07_StateRows.k1 J ps xs x3 x4 true H11 Q)) ∧ 
  (
 tephralaw07_StateRows.k1 J ps xs x3 x4 true H11 Q))
 ((40 : Int) ≠ 0 ∧ (40 : Int) ≠ 0 ∧ 
 SCalls Try.prog state_RightRows.id [.slice (cutA ps.a ps.cap 0 3) (((if (30 : Int) < ((ps.len : Nat) : Int) then 30 else ((ps.len : Nat) : Int)) : Int).toNat) ps.cap, .slice (cutA xs.a xs.cap 0 4) (((if (30 : Int) < ((xs.len : Nat) : Int) then 30 else ((xs.len : Nat) : Int)) : Int).toNat) xs.cap, .int .i64 (w64 ((Int.tmod most 40)))] H11 (fun r9 H12 => ∃ x8 : Bool, r9 = .bool x8 ∧ 
 SCalls Try.prog tephralaw07_rows.id [.slice (cutA ps.a ps.cap 0 3) (((if (30 : Int) < ((ps.len : Nat) : Int) then 30 else ((ps.len : Nat) : Int)) : Int).toNat) ps.cap, .slice (cutA xs.a xs.cap 0 4) (((if (30 : Int) < ((xs.len : Nat) : Int) then 30 else ((xs.len : Nat) : Int)) : Int).toNat) xs.cap, .int .i64 (w64 ((Int.tmod most 40)))] H12 (fun r10 H13 => ∃ x9 : Bool, r10 = .bool x9 ∧ 
 tephralaw07_StateRows.k1 J ps xs x3 x4 (!(x8 == x9)) H13 Q))))))))))) ∧ 
  (
 SCalls Try.prog pack_Writer_Bytes.id [.pointer (some (Addr.mk b1 0 none))] H9 (fun r11 H14 => ∃ x10 : Sl, r11 = .slice x10.a x10.len x10.cap ∧ 
  (vB2S H14 x5.a x5.len (fun s2 => vB2S H14 x10.a x10.len (fun s3 => 
 Br (!(s2.toList == s3.toList)) (
  (
  (
 tephralaw07_StateRows.k1 J ps xs x3 x4 true H14 Q) ∧ 
  (
 tephralaw07_StateRows.k1 J ps xs x3 x4 true H14 Q)) ∧ 
  (
 tephralaw07_StateRows.k1 J ps xs x3 x4 true H14 Q))
 (
 SCalls Try.prog pack_Reader_Done.id [.pointer x2] H14 (fun r12 H15 => ∃ x11 : Bool, r12 = .bool x11 ∧ 
 Br (!x11) (
  (
  (
 tephralaw07_StateRows.k1 J ps xs x3 x4 true H15 Q) ∧ 
  (
 tephralaw07_StateRows.k1 J ps xs x3 x4 true H15 Q)) ∧ 
  (
 tephralaw07_StateRows.k1 J ps xs x3 x4 true H15 Q))
 (
 Br (((x3.len : Nat) : Int) != (((((if (30 : Int) < ((ps.len : Nat) : Int) then 30 else ((ps.len : Nat) : Int)) : Int).toNat) : Nat) : Int)) (
  (
  (
 tephralaw07_StateRows.k1 J ps xs x3 x4 true H15 Q) ∧ 
  (
 tephralaw07_StateRows.k1 J ps xs x3 x4 true H15 Q)) ∧ 
  (
 tephralaw07_StateRows.k1 J ps xs x3 x4 true H15 Q))
 (
 Br (((x4.len : Nat) : Int) != (((((if (30 : Int) < ((xs.len : Nat) : Int) then 30 else ((xs.len : Nat) : Int)) : Int).toNat) : Nat) : Int)) (
  (
  (
 tephralaw07_StateRows.k1 J ps xs x3 x4 true H15 Q) ∧ 
  (
 tephralaw07_StateRows.k1 J ps xs x3 x4 true H15 Q)) ∧ 
  (
 tephralaw07_StateRows.k1 J ps xs x3 x4 true H15 Q))
 ((40 : Int) ≠ 0 ∧ (40 : Int) ≠ 0 ∧ 
 SCalls Try.prog state_RightRows.id [.slice (cutA ps.a ps.cap 0 3) (((if (30 : Int) < ((ps.len : Nat) : Int) then 30 else ((ps.len : Nat) : Int)) : Int).toNat) ps.cap, .slice (cutA xs.a xs.cap 0 4) (((if (30 : Int) < ((xs.len : Nat) : Int) then 30 else ((xs.len : Nat) : Int)) : Int).toNat) xs.cap, .int .i64 (w64 ((Int.tmod most 40)))] H15 (fun r13 H16 => ∃ x12 : Bool, r13 = .bool x12 ∧ 
 SCalls Try.prog tephralaw07_rows.id [.slice (cutA ps.a ps.cap 0 3) (((if (30 : Int) < ((ps.len : Nat) : Int) then 30 else ((ps.len : Nat) : Int)) : Int).toNat) ps.cap, .slice (cutA xs.a xs.cap 0 4) (((if (30 : Int) < ((xs.len : Nat) : Int) then 30 else ((xs.len : Nat) : Int)) : Int).toNat) xs.cap, .int .i64 (w64 ((Int.tmod most 40)))] H16 (fun r14 H17 => ∃ x13 : Bool, r14 = .bool x13 ∧ 
 tephralaw07_StateRows.k1 J ps xs x3 x4 (!(x12 == x13)) H17 Q)))))))))) ∧ 
  (vB2S H14 x10.a x10.len (fun s4 => vB2S H14 x5.a x5.len (fun s5 => 
 Br (!(s5.toList == s4.toList)) (
  (
  (
 tephralaw07_StateRows.k1 J ps xs x3 x4 true H14 Q) ∧ 
  (
 tephralaw07_StateRows.k1 J ps xs x3 x4 true H14 Q)) ∧ 
  (
 tephralaw07_StateRows.k1 J ps xs x3 x4 true H14 Q))
 (
 SCalls Try.prog pack_Reader_Done.id [.pointer x2] H14 (fun r15 H18 => ∃ x14 : Bool, r15 = .bool x14 ∧ 
 Br (!x14) (
  (
  (
 tephralaw07_StateRows.k1 J ps xs x3 x4 true H18 Q) ∧ 
  (
 tephralaw07_StateRows.k1 J ps xs x3 x4 true H18 Q)) ∧ 
  (
 tephralaw07_StateRows.k1 J ps xs x3 x4 true H18 Q))
 (
 Br (((x3.len : Nat) : Int) != (((((if (30 : Int) < ((ps.len : Nat) : Int) then 30 else ((ps.len : Nat) : Int)) : Int).toNat) : Nat) : Int)) (
  (
  (
 tephralaw07_StateRows.k1 J ps xs x3 x4 true H18 Q) ∧ 
  (
 tephralaw07_StateRows.k1 J ps xs x3 x4 true H18 Q)) ∧ 
  (
 tephralaw07_StateRows.k1 J ps xs x3 x4 true H18 Q))
 (
 Br (((x4.len : Nat) : Int) != (((((if (30 : Int) < ((xs.len : Nat) : Int) then 30 else ((xs.len : Nat) : Int)) : Int).toNat) : Nat) : Int)) (
  (
  (
 tephralaw07_StateRows.k1 J ps xs x3 x4 true H18 Q) ∧ 
  (
 tephralaw07_StateRows.k1 J ps xs x3 x4 true H18 Q)) ∧ 
  (
 tephralaw07_StateRows.k1 J ps xs x3 x4 true H18 Q))
 ((40 : Int) ≠ 0 ∧ (40 : Int) ≠ 0 ∧ 
 SCalls Try.prog state_RightRows.id [.slice (cutA ps.a ps.cap 0 3) (((if (30 : Int) < ((ps.len : Nat) : Int) then 30 else ((ps.len : Nat) : Int)) : Int).toNat) ps.cap, .slice (cutA xs.a xs.cap 0 4) (((if (30 : Int) < ((xs.len : Nat) : Int) then 30 else ((xs.len : Nat) : Int)) : Int).toNat) xs.cap, .int .i64 (w64 ((Int.tmod most 40)))] H18 (fun r16 H19 => ∃ x15 : Bool, r16 = .bool x15 ∧ 
 SCalls Try.prog tephralaw07_rows.id [.slice (cutA ps.a ps.cap 0 3) (((if (30 : Int) < ((ps.len : Nat) : Int) then 30 else ((ps.len : Nat) : Int)) : Int).toNat) ps.cap, .slice (cutA xs.a xs.cap 0 4) (((if (30 : Int) < ((xs.len : Nat) : Int) then 30 else ((xs.len : Nat) : Int)) : Int).toNat) xs.cap, .int .i64 (w64 ((Int.tmod most 40)))] H19 (fun r17 H20 => ∃ x16 : Bool, r17 = .bool x16 ∧ 
 tephralaw07_StateRows.k1 J ps xs x3 x4 (!(x15 == x16)) H20 Q))))))))))))))))))))
theorem tephralaw07_StateRows.eq (J : Jn) (ps : Sl) (xs : Sl) (most : Int) (H : Hp) (Q : Value → Hp → Prop) : vFn Try.prog tephralaw07_StateRows.cf J tephralaw07_StateRows.fn [.slice ps.a ps.len ps.cap, .slice xs.a xs.len xs.cap, .int .u8 most] H Q = tephralaw07_StateRows.vc J ps xs most H Q := by kernel_rfl
theorem tephralaw07_StateRows.calls {ps : Sl} {xs : Sl} {most : Int} {H : Hp} {Q : Value → Hp → Prop} (h : tephralaw07_StateRows.vc J0 ps xs most H Q) : SCalls Try.prog tephralaw07_StateRows.id [.slice ps.a ps.len ps.cap, .slice xs.a xs.len xs.cap, .int .u8 most] H Q := vFn_of Try.mixed Try.func8 (tephralaw07_StateRows.eq J0 ps xs most H Q) h

/-! 10: tephra/tephralaw07.StateBytes -/
noncomputable def tephralaw07_StateBytes.cf : Cfg := ⟨[3, 6, 8, 1000003], [(5, [31, 32, 33])], [(4, [0, 3], true), (5, [31, 32, 33], true)], [], true⟩
noncomputable def tephralaw07_StateBytes.k1.st (says : Sl) (rawIndex : Int) (rawTerm : Int) (rawPairs : Sl) (rawSessions : Sl) (H2 : Hp) : VS := ⟨mkFr 86 [(0, .v (.slice says.a says.len says.cap)), (3, .loc 0 0)], [(T_api_State, [.int .i64 rawIndex, .int .i64 rawTerm, .slice (cutA rawPairs.a rawPairs.cap 0 3) (((if (30 : Int) < ((rawPairs.len : Nat) : Int) then 30 else ((rawPairs.len : Nat) : Int)) : Int).toNat) rawPairs.cap, .slice (cutA rawSessions.a rawSessions.cap 0 4) (((if (30 : Int) < ((rawSessions.len : Nat) : Int) then 30 else ((rawSessions.len : Nat) : Int)) : Int).toNat) rawSessions.cap])], H2⟩
noncomputable def tephralaw07_StateBytes.k1 (J : Jn) (says : Sl) (rawIndex : Int) (rawTerm : Int) (rawPairs : Sl) (rawSessions : Sl) (H2 : Hp) (Q : Value → Hp → Prop) : Prop := J (vSeg Try.prog tephralaw07_StateBytes.cf J tephralaw07_StateBytes.fn [1, 1, 1] [0, 1, 1] Q) (tephralaw07_StateBytes.k1.st says rawIndex rawTerm rawPairs rawSessions H2)
noncomputable def tephralaw07_StateBytes.k2.st (rawIndex : Int) (rawTerm : Int) (rawPairs : Sl) (rawSessions : Sl) (b : Nat) (H4 : Hp) : VS := ⟨mkFr 86 [(31, .v (.slice (some (Addr.mk b 0 none)) 2 2)), (32, .v (.int .i64 ((2 : Nat) : Int))), (33, .v (.int .i64 0))], [(T_api_State, [.int .i64 rawIndex, .int .i64 rawTerm, .slice (cutA rawPairs.a rawPairs.cap 0 3) (((if (30 : Int) < ((rawPairs.len : Nat) : Int) then 30 else ((rawPairs.len : Nat) : Int)) : Int).toNat) rawPairs.cap, .slice (cutA rawSessions.a rawSessions.cap 0 4) (((if (30 : Int) < ((rawSessions.len : Nat) : Int) then 30 else ((rawSessions.len : Nat) : Int)) : Int).toNat) rawSessions.cap])], H4⟩
noncomputable def tephralaw07_StateBytes.k2 (J : Jn) (rawIndex : Int) (rawTerm : Int) (rawPairs : Sl) (rawSessions : Sl) (b : Nat) (H4 : Hp) (Q : Value → Hp → Prop) : Prop := J (vSeg Try.prog tephralaw07_StateBytes.cf J tephralaw07_StateBytes.fn [1, 1, 1, 0, 1] [0, 1, 1, 1, 1] Q) (tephralaw07_StateBytes.k2.st rawIndex rawTerm rawPairs rawSessions b H4)
noncomputable def tephralaw07_StateBytes.l1.st (rawIndex : Int) (rawTerm : Int) (rawPairs : Sl) (rawSessions : Sl) (b : Nat) (H5 : Hp) (x1 : Int) : VS := ⟨mkFr 86 [(31, .v (.slice (some (Addr.mk b 0 none)) 2 2)), (32, .v (.int .i64 ((2 : Nat) : Int))), (33, .v (.int .i64 x1))], [(T_api_State, [.int .i64 rawIndex, .int .i64 rawTerm, .slice (cutA rawPairs.a rawPairs.cap 0 3) (((if (30 : Int) < ((rawPairs.len : Nat) : Int) then 30 else ((rawPairs.len : Nat) : Int)) : Int).toNat) rawPairs.cap, .slice (cutA rawSessions.a rawSessions.cap 0 4) (((if (30 : Int) < ((rawSessions.len : Nat) : Int) then 30 else ((rawSessions.len : Nat) : Int)) : Int).toNat) rawSessions.cap])], H5⟩
noncomputable def tephralaw07_StateBytes.l1 (J : Jn) (rawIndex : Int) (rawTerm : Int) (rawPairs : Sl) (rawSessions : Sl) (b : Nat) (H5 : Hp) (x1 : Int) (Q : Value → Hp → Prop) : Prop := vAt Try.prog tephralaw07_StateBytes.cf J tephralaw07_StateBytes.fn [1, 1, 1, 0, 1, 0] [0, 1, 1, 1, 1] Q (tephralaw07_StateBytes.l1.st rawIndex rawTerm rawPairs rawSessions b H5 x1)
attribute [irreducible] tephralaw07_StateBytes.k1 tephralaw07_StateBytes.k2 tephralaw07_StateBytes.l1
noncomputable def tephralaw07_StateBytes.k1.body (J : Jn) (says : Sl) (rawIndex : Int) (rawTerm : Int) (rawPairs : Sl) (rawSessions : Sl) (H2 : Hp) (Q : Value → Hp → Prop) : Prop :=
 
 SCalls Try.prog tephralaw07_Some.id [.slice says.a says.len says.cap] H2 (fun r1 H3 => ∃ Index : Int, ∃ Term : Int, ∃ Pairs : Sl, ∃ Sessions : Sl, r1 = .agg #[.int .i64 Index, .int .i64 Term, .slice Pairs.a Pairs.len Pairs.cap, .slice Sessions.a Sessions.len Sessions.cap] ∧ ∀ b : Nat, b = Array.size H3 → ∀ H4 : Hp, H4 = (Array.push H3 (.cells #[.int .i64 Index, .int .i64 Term, .slice Pairs.a Pairs.len Pairs.cap, .slice Sessions.a Sessions.len Sessions.cap, .int .i64 rawIndex, .int .i64 rawTerm, .slice (cutA rawPairs.a rawPairs.cap 0 3) (((if (30 : Int) < ((rawPairs.len : Nat) : Int) then 30 else ((rawPairs.len : Nat) : Int)) : Int).toNat) rawPairs.cap, .slice (cutA rawSessions.a rawSessions.cap 0 4) (((if (30 : Int) < ((rawSessions.len : Nat) : Int) then 30 else ((rawSessions.len : Nat) : Int)) : Int).toNat) rawSessions.cap] T_api_State)) → 
 tephralaw07_StateBytes.k2 J rawIndex rawTerm rawPairs rawSessions b H4 Q)
theorem tephralaw07_StateBytes.k1.eq (J : Jn) (says : Sl) (rawIndex : Int) (rawTerm : Int) (rawPairs : Sl) (rawSessions : Sl) (H2 : Hp) (Q : Value → Hp → Prop) : vSeg Try.prog tephralaw07_StateBytes.cf J tephralaw07_StateBytes.fn [1, 1, 1] [0, 1, 1] Q (tephralaw07_StateBytes.k1.st says rawIndex rawTerm rawPairs rawSessions H2) = tephralaw07_StateBytes.k1.body J says rawIndex rawTerm rawPairs rawSessions H2 Q := by kernel_rfl
theorem tephralaw07_StateBytes.k1.step {says : Sl} {rawIndex : Int} {rawTerm : Int} {rawPairs : Sl} {rawSessions : Sl} {H2 : Hp} {Q : Value → Hp → Prop} (h : tephralaw07_StateBytes.k1.body J0 says rawIndex rawTerm rawPairs rawSessions H2 Q) : tephralaw07_StateBytes.k1 J0 says rawIndex rawTerm rawPairs rawSessions H2 Q := step_of (vSeg Try.prog tephralaw07_StateBytes.cf J0 tephralaw07_StateBytes.fn [1, 1, 1] [0, 1, 1] Q) (tephralaw07_StateBytes.k1.st says rawIndex rawTerm rawPairs rawSessions H2) (tephralaw07_StateBytes.k1.eq J0 says rawIndex rawTerm rawPairs rawSessions H2 Q) (by kernel_rfl) h
noncomputable def tephralaw07_StateBytes.k2.body (J : Jn) (rawIndex : Int) (rawTerm : Int) (rawPairs : Sl) (rawSessions : Sl) (b : Nat) (H4 : Hp) (Q : Value → Hp → Prop) : Prop :=
 
 tephralaw07_StateBytes.l1 J rawIndex rawTerm rawPairs rawSessions b H4 0 Q
theorem tephralaw07_StateBytes.k2.eq (J : Jn) (rawIndex : Int) (rawTerm : Int) (rawPairs : Sl) (rawSessions : Sl) (b : Nat) (H4 : Hp) (Q : Value → Hp → Prop) : vSeg Try.prog tephralaw07_StateBytes.cf J tephralaw07_StateBytes.fn [1, 1, 1, 0, 1] [0, 1, 1, 1, 1] Q (tephralaw07_StateBytes.k2.st rawIndex rawTerm rawPairs rawSessions b H4) = tephralaw07_StateBytes.k2.body J rawIndex rawTerm rawPairs rawSessions b H4 Q := by kernel_rfl
theorem tephralaw07_StateBytes.k2.step {rawIndex : Int} {rawTerm : Int} {rawPairs : Sl} {rawSessions : Sl} {b : Nat} {H4 : Hp} {Q : Value → Hp → Prop} (h : tephralaw07_StateBytes.k2.body J0 rawIndex rawTerm rawPairs rawSessions b H4 Q) : tephralaw07_StateBytes.k2 J0 rawIndex rawTerm rawPairs rawSessions b H4 Q := step_of (vSeg Try.prog tephralaw07_StateBytes.cf J0 tephralaw07_StateBytes.fn [1, 1, 1, 0, 1] [0, 1, 1, 1, 1] Q) (tephralaw07_StateBytes.k2.st rawIndex rawTerm rawPairs rawSessions b H4) (tephralaw07_StateBytes.k2.eq J0 rawIndex rawTerm rawPairs rawSessions b H4 Q) (by kernel_rfl) h
noncomputable def tephralaw07_StateBytes.l1.body (J : Jn) (rawIndex : Int) (rawTerm : Int) (rawPairs : Sl) (rawSessions : Sl) (b : Nat) (H5 : Hp) (x1 : Int) (Q : Value → Hp → Prop) : Prop :=
 
 Br (decide (x1 < ((2 : Nat) : Int))) (((0 : Int) ≤ x1 ∧ x1 < ((2 : Nat) : Int)) ∧ ∃ Index1 : Int, ∃ Term1 : Int, ∃ Pairs1 : Sl, ∃ Sessions1 : Sl, RowAt H5 ((Addr.mk b 0 none).add ((x1 : Int).toNat * 4)) [.int .i64 Index1, .int .i64 Term1, .slice Pairs1.a Pairs1.len Pairs1.cap, .slice Sessions1.a Sessions1.len Sessions1.cap] ∧ ∀ H6 : Hp, H6 = (holes H5 1) → 
 SCalls Try.prog state_Bytes.id [.agg #[.int .i64 Index1, .int .i64 Term1, .slice Pairs1.a Pairs1.len Pairs1.cap, .slice Sessions1.a Sessions1.len Sessions1.cap]] H6 (fun r2 H7 => ∃ x2 : Sl, r2 = .slice x2.a x2.len x2.cap ∧ 
 SCalls Try.prog state_Read.id [.slice x2.a x2.len x2.cap] H7 (fun r3 H8 => ∃ Index2 : Int, ∃ Term2 : Int, ∃ Pairs2 : Sl, ∃ Sessions2 : Sl, ∃ x3 : Bool, r3 = .tuple #[.agg #[.int .i64 Index2, .int .i64 Term2, .slice Pairs2.a Pairs2.len Pairs2.cap, .slice Sessions2.a Sessions2.len Sessions2.cap], .bool x3] ∧ ∀ H9 : Hp, H9 = (holes H8 1) → 
  (vB2S H9 x2.a x2.len (fun s => 
 SCalls Try.prog tephralaw07_bytes.id [.agg #[.int .i64 Index1, .int .i64 Term1, .slice Pairs1.a Pairs1.len Pairs1.cap, .slice Sessions1.a Sessions1.len Sessions1.cap]] H9 (fun r4 H10 => ∃ x4 : ByteArray, r4 = .string x4 ∧ 
 Br (!(s.toList == x4.toList)) (
  (Q (.bool false) H10) ∧ 
  (Q (.bool false) H10))
 (
 SCalls Try.prog state_Right.id [.agg #[.int .i64 Index1, .int .i64 Term1, .slice Pairs1.a Pairs1.len Pairs1.cap, .slice Sessions1.a Sessions1.len Sessions1.cap]] H10 (fun r5 H11 => ∃ x5 : Bool, r5 = .bool x5 ∧ 
 SCalls Try.prog tephralaw07_Right.id [.agg #[.int .i64 Index1, .int .i64 Term1, .slice Pairs1.a Pairs1.len Pairs1.cap, .slice Sessions1.a Sessions1.len Sessions1.cap]] H11 (fun r6 H12 => ∃ x6 : Bool, r6 = .bool x6 ∧ 
 Br (!(x5 == x6)) (
  (Q (.bool false) H12) ∧ 
  (Q (.bool false) H12))
 (
 SCalls Try.prog tephralaw07_Right.id [.agg #[.int .i64 Index1, .int .i64 Term1, .slice Pairs1.a Pairs1.len Pairs1.cap, .slice Sessions1.a Sessions1.len Sessions1.cap]] H12 (fun r7 H13 => ∃ x7 : Bool, r7 = .bool x7 ∧ 
 Br x7 (
 Br (!x3) (
  (Q (.bool false) H13) ∧ 
  (Q (.bool false) H13))
 (
 SCalls Try.prog state_Same.id [.agg #[.int .i64 Index1, .int .i64 Term1, .slice Pairs1.a Pairs1.len Pairs1.cap, .slice Sessions1.a Sessions1.len Sessions1.cap], .agg #[.int .i64 Index2, .int .i64 Term2, .slice Pairs2.a Pairs2.len Pairs2.cap, .slice Sessions2.a Sessions2.len Sessions2.cap]] H13 (fun r8 H14 => ∃ x8 : Bool, r8 = .bool x8 ∧ 
 Br (!x8) (
  (Q (.bool false) H14) ∧ 
  (Q (.bool false) H14))
 (
 Br x3 (
 SCalls Try.prog tephralaw07_Right.id [.agg #[.int .i64 Index2, .int .i64 Term2, .slice Pairs2.a Pairs2.len Pairs2.cap, .slice Sessions2.a Sessions2.len Sessions2.cap]] H14 (fun r9 H15 => ∃ x9 : Bool, r9 = .bool x9 ∧ 
 Br (!x9) (
  (Q (.bool false) H15) ∧ 
  (Q (.bool false) H15))
 (
  (
 SCalls Try.prog tephralaw07_bytes.id [.agg #[.int .i64 Index2, .int .i64 Term2, .slice Pairs2.a Pairs2.len Pairs2.cap, .slice Sessions2.a Sessions2.len Sessions2.cap]] H15 (fun r10 H16 => ∃ x10 : ByteArray, r10 = .string x10 ∧ vB2S H16 x2.a x2.len (fun s1 => 
 Br (!(x10.toList == s1.toList)) (Q (.bool false) H16)
 (
 tephralaw07_StateBytes.l1 J rawIndex rawTerm rawPairs rawSessions b H16 (w64 (x1 + 1)) Q)))) ∧ 
  (vB2S H15 x2.a x2.len (fun s2 => 
 SCalls Try.prog tephralaw07_bytes.id [.agg #[.int .i64 Index2, .int .i64 Term2, .slice Pairs2.a Pairs2.len Pairs2.cap, .slice Sessions2.a Sessions2.len Sessions2.cap]] H15 (fun r11 H17 => ∃ x11 : ByteArray, r11 = .string x11 ∧ 
 Br (!(x11.toList == s2.toList)) (Q (.bool false) H17)
 (
 tephralaw07_StateBytes.l1 J rawIndex rawTerm rawPairs rawSessions b H17 (w64 (x1 + 1)) Q)))))))
 (
  (
 tephralaw07_StateBytes.l1 J rawIndex rawTerm rawPairs rawSessions b H14 (w64 (x1 + 1)) Q) ∧ 
  (
 tephralaw07_StateBytes.l1 J rawIndex rawTerm rawPairs rawSessions b H14 (w64 (x1 + 1)) Q))))))
 (
 Br x3 (
 SCalls Try.prog tephralaw07_Right.id [.agg #[.int .i64 Index2, .int .i64 Term2, .slice Pairs2.a Pairs2.len Pairs2.cap, .slice Sessions2.a Sessions2.len Sessions2.cap]] H13 (fun r12 H18 => ∃ x12 : Bool, r12 = .bool x12 ∧ 
 Br (!x12) (
  (Q (.bool false) H18) ∧ 
  (Q (.bool false) H18))
 (
  (
 SCalls Try.prog tephralaw07_bytes.id [.agg #[.int .i64 Index2, .int .i64 Term2, .slice Pairs2.a Pairs2.len Pairs2.cap, .slice Sessions2.a Sessions2.len Sessions2.cap]] H18 (fun r13 H19 => ∃ x13 : ByteArray, r13 = .string x13 ∧ vB2S H19 x2.a x2.len (fun s3 => 
 Br (!(x13.toList == s3.toList)) (Q (.bool false) H19)
 (
 tephralaw07_StateBytes.l1 J rawIndex rawTerm rawPairs rawSessions b H19 (w64 (x1 + 1)) Q)))) ∧ 
  (vB2S H18 x2.a x2.len (fun s4 => 
 SCalls Try.prog tephralaw07_bytes.id [.agg #[.int .i64 Index2, .int .i64 Term2, .slice Pairs2.a Pairs2.len Pairs2.cap, .slice Sessions2.a Sessions2.len Sessions2.cap]] H18 (fun r14 H20 => ∃ x14 : ByteArray, r14 = .string x14 ∧ 
 Br (!(x14.toList == s4.toList)) (Q (.bool false) H20)
 (
 tephralaw07_StateBytes.l1 J rawIndex rawTerm rawPairs rawSessions b H20 (w64 (x1 + 1)) Q)))))))
 (
  (
 tephralaw07_StateBytes.l1 J rawIndex rawTerm rawPairs rawSessions b H13 (w64 (x1 + 1)) Q) ∧ 
  (
 tephralaw07_StateBytes.l1 J rawIndex rawTerm rawPairs rawSessions b H13 (w64 (x1 + 1)) Q))))))))))) ∧ 
  (
 SCalls Try.prog tephralaw07_bytes.id [.agg #[.int .i64 Index1, .int .i64 Term1, .slice Pairs1.a Pairs1.len Pairs1.cap, .slice Sessions1.a Sessions1.len Sessions1.cap]] H9 (fun r15 H21 => ∃ x15 : ByteArray, r15 = .string x15 ∧ vB2S H21 x2.a x2.len (fun s5 => 
 Br (!(s5.toList == x15.toList)) (
  (Q (.bool false) H21) ∧ 
  (Q (.bool false) H21))
 (
 SCalls Try.prog state_Right.id [.agg #[.int .i64 Index1, .int .i64 Term1, .slice Pairs1.a Pairs1.len Pairs1.cap, .slice Sessions1.a Sessions1.len Sessions1.cap]] H21 (fun r16 H22 => ∃ x16 : Bool, r16 = .bool x16 ∧ 
 SCalls Try.prog tephralaw07_Right.id [.agg #[.int .i64 Index1, .int .i64 Term1, .slice Pairs1.a Pairs1.len Pairs1.cap, .slice Sessions1.a Sessions1.len Sessions1.cap]] H22 (fun r17 H23 => ∃ x17 : Bool, r17 = .bool x17 ∧ 
 Br (!(x16 == x17)) (
  (Q (.bool false) H23) ∧ 
  (Q (.bool false) H23))
 (
 SCalls Try.prog tephralaw07_Right.id [.agg #[.int .i64 Index1, .int .i64 Term1, .slice Pairs1.a Pairs1.len Pairs1.cap, .slice Sessions1.a Sessions1.len Sessions1.cap]] H23 (fun r18 H24 => ∃ x18 : Bool, r18 = .bool x18 ∧ 
 Br x18 (
 Br (!x3) (
  (Q (.bool false) H24) ∧ 
  (Q (.bool false) H24))
 (
 SCalls Try.prog state_Same.id [.agg #[.int .i64 Index1, .int .i64 Term1, .slice Pairs1.a Pairs1.len Pairs1.cap, .slice Sessions1.a Sessions1.len Sessions1.cap], .agg #[.int .i64 Index2, .int .i64 Term2, .slice Pairs2.a Pairs2.len Pairs2.cap, .slice Sessions2.a Sessions2.len Sessions2.cap]] H24 (fun r19 H25 => ∃ x19 : Bool, r19 = .bool x19 ∧ 
 Br (!x19) (
  (Q (.bool false) H25) ∧ 
  (Q (.bool false) H25))
 (
 Br x3 (
 SCalls Try.prog tephralaw07_Right.id [.agg #[.int .i64 Index2, .int .i64 Term2, .slice Pairs2.a Pairs2.len Pairs2.cap, .slice Sessions2.a Sessions2.len Sessions2.cap]] H25 (fun r20 H26 => ∃ x20 : Bool, r20 = .bool x20 ∧ 
 Br (!x20) (
  (Q (.bool false) H26) ∧ 
  (Q (.bool false) H26))
 (
  (
 SCalls Try.prog tephralaw07_bytes.id [.agg #[.int .i64 Index2, .int .i64 Term2, .slice Pairs2.a Pairs2.len Pairs2.cap, .slice Sessions2.a Sessions2.len Sessions2.cap]] H26 (fun r21 H27 => ∃ x21 : ByteArray, r21 = .string x21 ∧ vB2S H27 x2.a x2.len (fun s6 => 
 Br (!(x21.toList == s6.toList)) (Q (.bool false) H27)
 (
 tephralaw07_StateBytes.l1 J rawIndex rawTerm rawPairs rawSessions b H27 (w64 (x1 + 1)) Q)))) ∧ 
  (vB2S H26 x2.a x2.len (fun s7 => 
 SCalls Try.prog tephralaw07_bytes.id [.agg #[.int .i64 Index2, .int .i64 Term2, .slice Pairs2.a Pairs2.len Pairs2.cap, .slice Sessions2.a Sessions2.len Sessions2.cap]] H26 (fun r22 H28 => ∃ x22 : ByteArray, r22 = .string x22 ∧ 
 Br (!(x22.toList == s7.toList)) (Q (.bool false) H28)
 (
 tephralaw07_StateBytes.l1 J rawIndex rawTerm rawPairs rawSessions b H28 (w64 (x1 + 1)) Q)))))))
 (
  (
 tephralaw07_StateBytes.l1 J rawIndex rawTerm rawPairs rawSessions b H25 (w64 (x1 + 1)) Q) ∧ 
  (
 tephralaw07_StateBytes.l1 J rawIndex rawTerm rawPairs rawSessions b H25 (w64 (x1 + 1)) Q))))))
 (
 Br x3 (
 SCalls Try.prog tephralaw07_Right.id [.agg #[.int .i64 Index2, .int .i64 Term2, .slice Pairs2.a Pairs2.len Pairs2.cap, .slice Sessions2.a Sessions2.len Sessions2.cap]] H24 (fun r23 H29 => ∃ x23 : Bool, r23 = .bool x23 ∧ 
 Br (!x23) (
  (Q (.bool false) H29) ∧ 
  (Q (.bool false) H29))
 (
  (
 SCalls Try.prog tephralaw07_bytes.id [.agg #[.int .i64 Index2, .int .i64 Term2, .slice Pairs2.a Pairs2.len Pairs2.cap, .slice Sessions2.a Sessions2.len Sessions2.cap]] H29 (fun r24 H30 => ∃ x24 : ByteArray, r24 = .string x24 ∧ vB2S H30 x2.a x2.len (fun s8 => 
 Br (!(x24.toList == s8.toList)) (Q (.bool false) H30)
 (
 tephralaw07_StateBytes.l1 J rawIndex rawTerm rawPairs rawSessions b H30 (w64 (x1 + 1)) Q)))) ∧ 
  (vB2S H29 x2.a x2.len (fun s9 => 
 SCalls Try.prog tephralaw07_bytes.id [.agg #[.int .i64 Index2, .int .i64 Term2, .slice Pairs2.a Pairs2.len Pairs2.cap, .slice Sessions2.a Sessions2.len Sessions2.cap]] H29 (fun r25 H31 => ∃ x25 : ByteArray, r25 = .string x25 ∧ 
 Br (!(x25.toList == s9.toList)) (Q (.bool false) H31)
 (
 tephralaw07_StateBytes.l1 J rawIndex rawTerm rawPairs rawSessions b H31 (w64 (x1 + 1)) Q)))))))
 (
  (
 tephralaw07_StateBytes.l1 J rawIndex rawTerm rawPairs rawSessions b H24 (w64 (x1 + 1)) Q) ∧ 
  (
 tephralaw07_StateBytes.l1 J rawIndex rawTerm rawPairs rawSessions b H24 (w64 (x1 + 1)) Q))))))))))))))
 (Q (.bool true) H5)
theorem tephralaw07_StateBytes.l1.eq (J : Jn) (rawIndex : Int) (rawTerm : Int) (rawPairs : Sl) (rawSessions : Sl) (b : Nat) (H5 : Hp) (x1 : Int) (Q : Value → Hp → Prop) : vAtBody Try.prog tephralaw07_StateBytes.cf J tephralaw07_StateBytes.fn [1, 1, 1, 0, 1, 0] [0, 1, 1, 1, 1] Q (tephralaw07_StateBytes.l1.st rawIndex rawTerm rawPairs rawSessions b H5 x1) = tephralaw07_StateBytes.l1.body J rawIndex rawTerm rawPairs rawSessions b H5 x1 Q := by kernel_rfl
theorem tephralaw07_StateBytes.l1.step {rawIndex : Int} {rawTerm : Int} {rawPairs : Sl} {rawSessions : Sl} {b : Nat} {H5 : Hp} {x1 : Int} {Q : Value → Hp → Prop} (h : tephralaw07_StateBytes.l1.body J0 rawIndex rawTerm rawPairs rawSessions b H5 x1 Q) : tephralaw07_StateBytes.l1 J0 rawIndex rawTerm rawPairs rawSessions b H5 x1 Q := vAt_stepC (tephralaw07_StateBytes.l1.st rawIndex rawTerm rawPairs rawSessions b H5 x1) (tephralaw07_StateBytes.l1.eq J0 rawIndex rawTerm rawPairs rawSessions b H5 x1 Q) (by kernel_rfl) h
noncomputable def tephralaw07_StateBytes.vc (J : Jn) (says : Sl) (rawIndex : Int) (rawTerm : Int) (rawPairs : Sl) (rawSessions : Sl) (H : Hp) (Q : Value → Hp → Prop) : Prop :=
 ∀ H1 : Hp, H1 = (holes H 1) → 
 SCalls Try.prog tephralaw07_awake.id [] H1 (fun r H2 => ∃ x : Bool, r = .bool x ∧ 
 Br (!x) (Q (.bool false) H2)
 (((0 : Int) ≤ (if (30 : Int) < ((rawPairs.len : Nat) : Int) then 30 else ((rawPairs.len : Nat) : Int)) ∧ (if (30 : Int) < ((rawPairs.len : Nat) : Int) then 30 else ((rawPairs.len : Nat) : Int)) ≤ ((rawPairs.cap : Nat) : Int)) ∧ ((0 : Int) ≤ (if (30 : Int) < ((rawSessions.len : Nat) : Int) then 30 else ((rawSessions.len : Nat) : Int)) ∧ (if (30 : Int) < ((rawSessions.len : Nat) : Int) then 30 else ((rawSessions.len : Nat) : Int)) ≤ ((rawSessions.cap : Nat) : Int)) ∧ 
 tephralaw07_StateBytes.k1 J says rawIndex rawTerm rawPairs rawSessions H2 Q))
theorem tephralaw07_StateBytes.eq (J : Jn) (says : Sl) (rawIndex : Int) (rawTerm : Int) (rawPairs : Sl) (rawSessions : Sl) (H : Hp) (Q : Value → Hp → Prop) : vFn Try.prog tephralaw07_StateBytes.cf J tephralaw07_StateBytes.fn [.slice says.a says.len says.cap, .agg #[.int .i64 rawIndex, .int .i64 rawTerm, .slice rawPairs.a rawPairs.len rawPairs.cap, .slice rawSessions.a rawSessions.len rawSessions.cap]] H Q = tephralaw07_StateBytes.vc J says rawIndex rawTerm rawPairs rawSessions H Q := by kernel_rfl
theorem tephralaw07_StateBytes.calls {says : Sl} {rawIndex : Int} {rawTerm : Int} {rawPairs : Sl} {rawSessions : Sl} {H : Hp} {Q : Value → Hp → Prop} (h : tephralaw07_StateBytes.vc J0 says rawIndex rawTerm rawPairs rawSessions H Q) : SCalls Try.prog tephralaw07_StateBytes.id [.slice says.a says.len says.cap, .agg #[.int .i64 rawIndex, .int .i64 rawTerm, .slice rawPairs.a rawPairs.len rawPairs.cap, .slice rawSessions.a rawSessions.len rawSessions.cap]] H Q := vFn_of Try.mixed Try.func10 (tephralaw07_StateBytes.eq J0 says rawIndex rawTerm rawPairs rawSessions H Q) h

end Go.Proofs
