/- THE SEAT'S CODE, AS WALKED, text 2 of 2: for each function what is to be shown of it (printed by the own program gen.py), held by the kernel. -/
import Derived.Test.YtpdondaekinmdaaT09a
set_option maxRecDepth 100000
set_option linter.all false
set_option linter.constructorNameAsVariable false
namespace Go.Proofs
open Go Go.KC
/-! 74: tephra/frame.One -/
noncomputable def frame_One.cf : Cfg := ⟨[1000003], [], [(11, [0, 5, 28], true)], [], true, []⟩
noncomputable def frame_One.k1.st (b : Sl) (x : Int) (x2 : Int) (H3 : Hp) (x3 : Int) : VS := ⟨mkFr 47 [(0, .v (.slice b.a b.len b.cap)), (5, .v (.int .i64 x)), (28, .v (.bool ((w64 (x2)) != x3)))], [], H3⟩
noncomputable def frame_One.k1 (J : Jn) (b : Sl) (x : Int) (x2 : Int) (H3 : Hp) (x3 : Int) (Q : Value → Hp → Prop) : Prop := J (vSeg Try.prog frame_One.cf J frame_One.fn [1, 1, 1, 0, 0, 1, 1, 1, 1, 1, 1, 1] [0, 0, 0, 0, 0, 0, 0, 0] Q) (frame_One.k1.st b x x2 H3 x3)
attribute [irreducible] frame_One.k1
noncomputable def frame_One.k1.body (J : Jn) (b : Sl) (x : Int) (x2 : Int) (H3 : Hp) (x3 : Int) (Q : Value → Hp → Prop) : Prop :=
 
 Br ((w64 (x2)) != x3) (Q (.tuple #[.slice none 0 0, .int .i64 0, .int .i64 2]) H3)
 (((0 : Int) ≤ (w64 ((8 : Int) + x)) ∧ (w64 ((8 : Int) + x)) ≤ ((b.cap : Nat) : Int)) ∧ ((0 : Int) ≤ 8 ∧ (8 : Int) ≤ (((((w64 ((8 : Int) + x)) : Int).toNat) : Nat) : Int)) ∧ 
 vApp Try.prog T_sl_uint8 none 0 0 (.slice (cutA b.a b.cap 8 1) ((((w64 ((8 : Int) + x)) : Int).toNat) - 8) (b.cap - 8)) H3 (fun ap H4 => Q (.tuple #[.slice ap.a ap.len ap.cap, .int .i64 (w64 ((w64 ((8 : Int) + x)) + 1)), .int .i64 0]) H4))
theorem frame_One.k1.eq (J : Jn) (b : Sl) (x : Int) (x2 : Int) (H3 : Hp) (x3 : Int) (Q : Value → Hp → Prop) : vSeg Try.prog frame_One.cf J frame_One.fn [1, 1, 1, 0, 0, 1, 1, 1, 1, 1, 1, 1] [0, 0, 0, 0, 0, 0, 0, 0] Q (frame_One.k1.st b x x2 H3 x3) = frame_One.k1.body J b x x2 H3 x3 Q := by kernel_rfl
theorem frame_One.k1.step {b : Sl} {x : Int} {x2 : Int} {H3 : Hp} {x3 : Int} {Q : Value → Hp → Prop} (h : frame_One.k1.body J0 b x x2 H3 x3 Q) : frame_One.k1 J0 b x x2 H3 x3 Q := step_of (vSeg Try.prog frame_One.cf J0 frame_One.fn [1, 1, 1, 0, 0, 1, 1, 1, 1, 1, 1, 1] [0, 0, 0, 0, 0, 0, 0, 0] Q) (frame_One.k1.st b x x2 H3 x3) (frame_One.k1.eq J0 b x x2 H3 x3 Q) (by kernel_rfl) h
noncomputable def frame_One.vc (J : Jn) (b : Sl) (H : Hp) (Q : Value → Hp → Prop) : Prop :=
 
 Br (decide (((b.len : Nat) : Int) < 8)) (Q (.tuple #[.slice none 0 0, .int .i64 0, .int .i64 3]) H)
 (
 SCalls Try.prog frame_number.id [.slice b.a b.len b.cap] H (fun r H1 => ∃ x : Int, r = .int .i64 x ∧ 
 Br (decide (x > 16384)) (Q (.tuple #[.slice none 0 0, .int .i64 0, .int .i64 1]) H1)
 (
 Br (decide (((b.len : Nat) : Int) < (w64 ((w64 ((8 : Int) + x)) + 1)))) (Q (.tuple #[.slice none 0 0, .int .i64 0, .int .i64 3]) H1)
 (((0 : Int) ≤ (w64 ((8 : Int) + x)) ∧ (w64 ((8 : Int) + x)) < ((b.len : Nat) : Int)) ∧ vPtr b.a (fun a => ∃ x1 : Int, Hp.cell? H1 (a.add (((w64 ((8 : Int) + x)) : Int).toNat * 1)) = some (.int .u8 x1) ∧ 
 Br (x1 != 229) (Q (.tuple #[.slice none 0 0, .int .i64 0, .int .i64 1]) H1)
 (((0 : Int) ≤ (w64 ((8 : Int) + x)) ∧ (w64 ((8 : Int) + x)) ≤ ((b.cap : Nat) : Int)) ∧ ((0 : Int) ≤ 8 ∧ (8 : Int) ≤ (((((w64 ((8 : Int) + x)) : Int).toNat) : Nat) : Int)) ∧ ((0 : Int) ≤ 4 ∧ (4 : Int) ≤ ((b.len : Nat) : Int)) ∧ 
 SCalls Try.prog check_Sum.id [.slice (cutA b.a b.cap 8 1) ((((w64 ((8 : Int) + x)) : Int).toNat) - 8) (b.cap - 8)] H1 (fun r1 H2 => ∃ x2 : Int, r1 = .int .u32 x2 ∧ 
 SCalls Try.prog frame_number.id [.slice (cutA b.a b.cap 4 1) (b.len - 4) (b.cap - 4)] H2 (fun r2 H3 => ∃ x3 : Int, r2 = .int .i64 x3 ∧ 
 frame_One.k1 J b x x2 H3 x3 Q))))))))
theorem frame_One.eq (J : Jn) (b : Sl) (H : Hp) (Q : Value → Hp → Prop) : vFn Try.prog frame_One.cf J frame_One.fn [.slice b.a b.len b.cap] H Q = frame_One.vc J b H Q := by kernel_rfl
theorem frame_One.calls {b : Sl} {H : Hp} {Q : Value → Hp → Prop} (h : frame_One.vc J0 b H Q) : SCalls Try.prog frame_One.id [.slice b.a b.len b.cap] H Q := vFn_of Try.mixed Try.func74 (frame_One.eq J0 b H Q) h

/-! 82: (*tephra/pack.Reader).Bad -/
noncomputable def pack_Reader_Bad.cf : Cfg := ⟨[], [], [], [], true, []⟩
noncomputable def pack_Reader_Bad.vc (J : Jn) (r : Addr) (H : Hp) (Q : Value → Hp → Prop) : Prop :=
 ∃ bad : Bool, Hp.cell? H (r.add 1) = some (.bool bad) ∧ Q (.bool bad) H
theorem pack_Reader_Bad.eq (J : Jn) (r : Addr) (H : Hp) (Q : Value → Hp → Prop) : vFn Try.prog pack_Reader_Bad.cf J pack_Reader_Bad.fn [.pointer (some r)] H Q = pack_Reader_Bad.vc J r H Q := by kernel_rfl
theorem pack_Reader_Bad.calls {r : Addr} {H : Hp} {Q : Value → Hp → Prop} (h : pack_Reader_Bad.vc J0 r H Q) : SCalls Try.prog pack_Reader_Bad.id [.pointer (some r)] H Q := vFn_of Try.mixed Try.func82 (pack_Reader_Bad.eq J0 r H Q) h

/-! 88: tephra/frame.All$1 -/
noncomputable def frame_All_1.cf : Cfg := ⟨[1000003], [(1, [0, 1, 3])], [], [], true, []⟩
noncomputable def frame_All_1.l1.st (yield : Fv) (cap0 : Addr) (H1 : Hp) (atv : Int) : VS := ⟨mkFr 27 [(0, .v (.func yield.fn yield.fi yield.ca)), (1, .v (.pointer (some cap0))), (3, .v (.int .i64 atv))], [], H1⟩
noncomputable def frame_All_1.l1 (J : Jn) (yield : Fv) (cap0 : Addr) (H1 : Hp) (atv : Int) (Q : Value → Hp → Prop) : Prop := vAt Try.prog frame_All_1.cf J frame_All_1.fn [1, 0] [0] Q (frame_All_1.l1.st yield cap0 H1 atv)
attribute [irreducible] frame_All_1.l1
noncomputable def frame_All_1.l1.body (J : Jn) (yield : Fv) (cap0 : Addr) (H1 : Hp) (atv : Int) (Q : Value → Hp → Prop) : Prop :=
 ∃ x : Sl, Hp.cell? H1 cap0 = some (.slice x.a x.len x.cap) ∧ ((0 : Int) ≤ atv ∧ atv ≤ ((x.len : Nat) : Int)) ∧ 
 SCalls Try.prog frame_One.id [.slice (cutA x.a x.cap ((atv : Int).toNat) 1) (x.len - ((atv : Int).toNat)) (x.cap - ((atv : Int).toNat))] H1 (fun r H2 => ∃ x1 : Sl, ∃ x2 : Int, ∃ x3 : Int, r = .tuple #[.slice x1.a x1.len x1.cap, .int .i64 x2, .int .i64 x3] ∧ 
 Br (x3 != 0) (Q (.tuple #[]) H2)
 (
 vInv Try.prog (.func yield.fn yield.fi yield.ca) [.int .i64 (w64 (atv + x2)), .slice x1.a x1.len x1.cap] H2 (fun r1 H3 => ∃ x4 : Bool, r1 = .bool x4 ∧ 
 Br (!x4) (Q (.tuple #[]) H3)
 (
 frame_All_1.l1 J yield cap0 H3 (w64 (atv + x2)) Q))))
theorem frame_All_1.l1.eq (J : Jn) (yield : Fv) (cap0 : Addr) (H1 : Hp) (atv : Int) (Q : Value → Hp → Prop) : vAtBody Try.prog frame_All_1.cf J frame_All_1.fn [1, 0] [0] Q (frame_All_1.l1.st yield cap0 H1 atv) = frame_All_1.l1.body J yield cap0 H1 atv Q := by kernel_rfl
theorem frame_All_1.l1.step {yield : Fv} {cap0 : Addr} {H1 : Hp} {atv : Int} {Q : Value → Hp → Prop} (h : frame_All_1.l1.body J0 yield cap0 H1 atv Q) : frame_All_1.l1 J0 yield cap0 H1 atv Q := vAt_stepC (frame_All_1.l1.st yield cap0 H1 atv) (frame_All_1.l1.eq J0 yield cap0 H1 atv Q) (by kernel_rfl) h
noncomputable def frame_All_1.vc (J : Jn) (yield : Fv) (cap0 : Addr) (H : Hp) (Q : Value → Hp → Prop) : Prop :=
 
 frame_All_1.l1 J yield cap0 H 0 Q
theorem frame_All_1.eq (J : Jn) (yield : Fv) (cap0 : Addr) (H : Hp) (Q : Value → Hp → Prop) : vFn Try.prog frame_All_1.cf J frame_All_1.fn [.func yield.fn yield.fi yield.ca, .pointer (some cap0)] H Q = frame_All_1.vc J yield cap0 H Q := by kernel_rfl
theorem frame_All_1.calls {yield : Fv} {cap0 : Addr} {H : Hp} {Q : Value → Hp → Prop} (h : frame_All_1.vc J0 yield cap0 H Q) : SCalls Try.prog frame_All_1.id [.func yield.fn yield.fi yield.ca, .pointer (some cap0)] H Q := vFn_of Try.mixed Try.func88 (frame_All_1.eq J0 yield cap0 H Q) h

/-! 89: tephra/frame.number -/
noncomputable def frame_number.cf : Cfg := ⟨[1000003], [], [], [], true, []⟩
noncomputable def frame_number.vc (J : Jn) (b : Sl) (H : Hp) (Q : Value → Hp → Prop) : Prop :=
 ((0 : Int) ≤ 0 ∧ (0 : Int) < ((b.len : Nat) : Int)) ∧ vPtr b.a (fun a => ∃ x : Int, Hp.cell? H a = some (.int .u8 x) ∧ (0 : Int) ≤ 24 ∧ ((0 : Int) ≤ 1 ∧ (1 : Int) < ((b.len : Nat) : Int)) ∧ vPtr b.a (fun a1 => ∃ x1 : Int, Hp.cell? H (a1.add 1) = some (.int .u8 x1) ∧ (0 : Int) ≤ 16 ∧ ((0 : Int) ≤ 2 ∧ (2 : Int) < ((b.len : Nat) : Int)) ∧ vPtr b.a (fun a2 => ∃ x2 : Int, Hp.cell? H (a2.add 2) = some (.int .u8 x2) ∧ (0 : Int) ≤ 8 ∧ ((0 : Int) ≤ 3 ∧ (3 : Int) < ((b.len : Nat) : Int)) ∧ vPtr b.a (fun a3 => ∃ x3 : Int, Hp.cell? H (a3.add 3) = some (.int .u8 x3) ∧ Q (.int .i64 (bor .i64 (bor .i64 (bor .i64 (w64 ((w64 (x)) * 2 ^ 24)) (w64 ((w64 (x1)) * 2 ^ 16))) (w64 ((w64 (x2)) * 2 ^ 8))) (w64 (x3)))) H))))
theorem frame_number.eq (J : Jn) (b : Sl) (H : Hp) (Q : Value → Hp → Prop) : vFn Try.prog frame_number.cf J frame_number.fn [.slice b.a b.len b.cap] H Q = frame_number.vc J b H Q := by kernel_rfl
theorem frame_number.calls {b : Sl} {H : Hp} {Q : Value → Hp → Prop} (h : frame_number.vc J0 b H Q) : SCalls Try.prog frame_number.id [.slice b.a b.len b.cap] H Q := vFn_of Try.mixed Try.func89 (frame_number.eq J0 b H Q) h

/-! 5: tephra/tephralaw09.ImageFull -/
noncomputable def tephralaw09_ImageFull.cf : Cfg := ⟨[7, 10, 13, 1000003], [], [(7, [1, 2, 8, 54], true), (11, [2, 8, 12], true)], [(90, [13, 83, 90])], true, []⟩
noncomputable def tephralaw09_ImageFull.k1.st (atv : Int) (byv : Int) (Index : Int) (Term : Int) (Pairs : Sl) (Sessions : Sl) (x1 : Sl) (Index1 : Int) (Term1 : Int) (Pairs1 : Sl) (Sessions1 : Sl) (x14 : Bool) (H17 : Hp) : VS := ⟨mkFr 98 [(1, .v (.int .u16 atv)), (2, .v (.int .u8 byv)), (8, .v (.slice x1.a x1.len x1.cap)), (54, .v (.bool x14))], [(T_api_State, [.int .i64 Index, .int .i64 Term, .slice Pairs.a Pairs.len Pairs.cap, .slice Sessions.a Sessions.len Sessions.cap]), (T_api_State, [.int .i64 Index1, .int .i64 Term1, .slice Pairs1.a Pairs1.len Pairs1.cap, .slice Sessions1.a Sessions1.len Sessions1.cap])], H17⟩
noncomputable def tephralaw09_ImageFull.k1 (J : Jn) (atv : Int) (byv : Int) (Index : Int) (Term : Int) (Pairs : Sl) (Sessions : Sl) (x1 : Sl) (Index1 : Int) (Term1 : Int) (Pairs1 : Sl) (Sessions1 : Sl) (x14 : Bool) (H17 : Hp) (Q : Value → Hp → Prop) : Prop := J (vSeg Try.prog tephralaw09_ImageFull.cf J tephralaw09_ImageFull.fn [1, 1, 1, 1, 1, 0, 1] [0, 0, 0, 1, 1, 2, 2] Q) (tephralaw09_ImageFull.k1.st atv byv Index Term Pairs Sessions x1 Index1 Term1 Pairs1 Sessions1 x14 H17)
noncomputable def tephralaw09_ImageFull.k2.st (byv : Int) (Index : Int) (Term : Int) (Pairs : Sl) (Sessions : Sl) (x1 : Sl) (Index1 : Int) (Term1 : Int) (Pairs1 : Sl) (Sessions1 : Sl) (H17 : Hp) (k : Int) : VS := ⟨mkFr 98 [(2, .v (.int .u8 byv)), (8, .v (.slice x1.a x1.len x1.cap)), (12, .v (.int .i64 k))], [(T_api_State, [.int .i64 Index, .int .i64 Term, .slice Pairs.a Pairs.len Pairs.cap, .slice Sessions.a Sessions.len Sessions.cap]), (T_api_State, [.int .i64 Index1, .int .i64 Term1, .slice Pairs1.a Pairs1.len Pairs1.cap, .slice Sessions1.a Sessions1.len Sessions1.cap])], H17⟩
noncomputable def tephralaw09_ImageFull.k2 (J : Jn) (byv : Int) (Index : Int) (Term : Int) (Pairs : Sl) (Sessions : Sl) (x1 : Sl) (Index1 : Int) (Term1 : Int) (Pairs1 : Sl) (Sessions1 : Sl) (H17 : Hp) (k : Int) (Q : Value → Hp → Prop) : Prop := J (vSeg Try.prog tephralaw09_ImageFull.cf J tephralaw09_ImageFull.fn [1, 1, 1, 1, 1, 1, 1, 1] [0, 0, 0, 1, 1, 2, 2, 2] Q) (tephralaw09_ImageFull.k2.st byv Index Term Pairs Sessions x1 Index1 Term1 Pairs1 Sessions1 H17 k)
noncomputable def tephralaw09_ImageFull.k3.st (Index : Int) (Term : Int) (Pairs : Sl) (Sessions : Sl) (Index1 : Int) (Term1 : Int) (Pairs1 : Sl) (Sessions1 : Sl) (Index2 : Int) (Term2 : Int) (Pairs2 : Sl) (Sessions2 : Sl) (H20 : Hp) : VS := ⟨mkFr 98 [(13, .loc 2 0), (83, .v (.bool true)), (90, .v (.tuple #[]))], [(T_api_State, [.int .i64 Index, .int .i64 Term, .slice Pairs.a Pairs.len Pairs.cap, .slice Sessions.a Sessions.len Sessions.cap]), (T_api_State, [.int .i64 Index1, .int .i64 Term1, .slice Pairs1.a Pairs1.len Pairs1.cap, .slice Sessions1.a Sessions1.len Sessions1.cap]), (T_api_State, [.int .i64 Index2, .int .i64 Term2, .slice Pairs2.a Pairs2.len Pairs2.cap, .slice Sessions2.a Sessions2.len Sessions2.cap])], H20⟩
noncomputable def tephralaw09_ImageFull.k3 (J : Jn) (Index : Int) (Term : Int) (Pairs : Sl) (Sessions : Sl) (Index1 : Int) (Term1 : Int) (Pairs1 : Sl) (Sessions1 : Sl) (Index2 : Int) (Term2 : Int) (Pairs2 : Sl) (Sessions2 : Sl) (H20 : Hp) (Q : Value → Hp → Prop) : Prop := J (vMid Try.prog tephralaw09_ImageFull.cf J tephralaw09_ImageFull.fn [1, 1, 1, 1, 1, 1, 1, 1, 1, 1, 0] [0, 0, 0, 1, 1, 2, 2, 2, 2, 2, 3] 10 Q) (tephralaw09_ImageFull.k3.st Index Term Pairs Sessions Index1 Term1 Pairs1 Sessions1 Index2 Term2 Pairs2 Sessions2 H20)
noncomputable def tephralaw09_ImageFull.k4.st (Index : Int) (Term : Int) (Pairs : Sl) (Sessions : Sl) (Index1 : Int) (Term1 : Int) (Pairs1 : Sl) (Sessions1 : Sl) (Index2 : Int) (Term2 : Int) (Pairs2 : Sl) (Sessions2 : Sl) (H20 : Hp) (x17 : Bool) : VS := ⟨mkFr 98 [(13, .loc 2 0), (83, .v (.bool false)), (90, .v (.bool x17))], [(T_api_State, [.int .i64 Index, .int .i64 Term, .slice Pairs.a Pairs.len Pairs.cap, .slice Sessions.a Sessions.len Sessions.cap]), (T_api_State, [.int .i64 Index1, .int .i64 Term1, .slice Pairs1.a Pairs1.len Pairs1.cap, .slice Sessions1.a Sessions1.len Sessions1.cap]), (T_api_State, [.int .i64 Index2, .int .i64 Term2, .slice Pairs2.a Pairs2.len Pairs2.cap, .slice Sessions2.a Sessions2.len Sessions2.cap])], H20⟩
noncomputable def tephralaw09_ImageFull.k4 (J : Jn) (Index : Int) (Term : Int) (Pairs : Sl) (Sessions : Sl) (Index1 : Int) (Term1 : Int) (Pairs1 : Sl) (Sessions1 : Sl) (Index2 : Int) (Term2 : Int) (Pairs2 : Sl) (Sessions2 : Sl) (H20 : Hp) (x17 : Bool) (Q : Value → Hp → Prop) : Prop := J (vMid Try.prog tephralaw09_ImageFull.cf J tephralaw09_ImageFull.fn [1, 1, 1, 1, 1, 1, 1, 1, 1, 1, 0] [0, 0, 0, 1, 1, 2, 2, 2, 2, 2, 3] 10 Q) (tephralaw09_ImageFull.k4.st Index Term Pairs Sessions Index1 Term1 Pairs1 Sessions1 Index2 Term2 Pairs2 Sessions2 H20 x17)
attribute [irreducible] tephralaw09_ImageFull.k1 tephralaw09_ImageFull.k2 tephralaw09_ImageFull.k3 tephralaw09_ImageFull.k4
noncomputable def tephralaw09_ImageFull.k1.body (J : Jn) (atv : Int) (byv : Int) (Index : Int) (Term : Int) (Pairs : Sl) (Sessions : Sl) (x1 : Sl) (Index1 : Int) (Term1 : Int) (Pairs1 : Sl) (Sessions1 : Sl) (x14 : Bool) (H17 : Hp) (Q : Value → Hp → Prop) : Prop :=
 
 Br x14 (Q (.bool false) H17)
 ((22 : Int) ≠ 0 ∧ (3 : Int) ≠ 0 ∧ 
 Br (decide ((Int.tmod atv 3) > 0)) (((w64 (((x1.len : Nat) : Int) - 30)) : Int) ≠ 0 ∧ 
 tephralaw09_ImageFull.k2 J byv Index Term Pairs Sessions x1 Index1 Term1 Pairs1 Sessions1 H17 (w64 ((30 : Int) + (Int.tmod (w64 (atv)) (w64 (((x1.len : Nat) : Int) - 30))))) Q)
 (
 tephralaw09_ImageFull.k2 J byv Index Term Pairs Sessions x1 Index1 Term1 Pairs1 Sessions1 H17 (w64 ((4 : Int) + (Int.tmod (w64 (atv)) 22))) Q))
theorem tephralaw09_ImageFull.k1.eq (J : Jn) (atv : Int) (byv : Int) (Index : Int) (Term : Int) (Pairs : Sl) (Sessions : Sl) (x1 : Sl) (Index1 : Int) (Term1 : Int) (Pairs1 : Sl) (Sessions1 : Sl) (x14 : Bool) (H17 : Hp) (Q : Value → Hp → Prop) : vSeg Try.prog tephralaw09_ImageFull.cf J tephralaw09_ImageFull.fn [1, 1, 1, 1, 1, 0, 1] [0, 0, 0, 1, 1, 2, 2] Q (tephralaw09_ImageFull.k1.st atv byv Index Term Pairs Sessions x1 Index1 Term1 Pairs1 Sessions1 x14 H17) = tephralaw09_ImageFull.k1.body J atv byv Index Term Pairs Sessions x1 Index1 Term1 Pairs1 Sessions1 x14 H17 Q := by kernel_rfl
theorem tephralaw09_ImageFull.k1.step {atv : Int} {byv : Int} {Index : Int} {Term : Int} {Pairs : Sl} {Sessions : Sl} {x1 : Sl} {Index1 : Int} {Term1 : Int} {Pairs1 : Sl} {Sessions1 : Sl} {x14 : Bool} {H17 : Hp} {Q : Value → Hp → Prop} (h : tephralaw09_ImageFull.k1.body J0 atv byv Index Term Pairs Sessions x1 Index1 Term1 Pairs1 Sessions1 x14 H17 Q) : tephralaw09_ImageFull.k1 J0 atv byv Index Term Pairs Sessions x1 Index1 Term1 Pairs1 Sessions1 x14 H17 Q := step_of (vSeg Try.prog tephralaw09_ImageFull.cf J0 tephralaw09_ImageFull.fn [1, 1, 1, 1, 1, 0, 1] [0, 0, 0, 1, 1, 2, 2] Q) (tephralaw09_ImageFull.k1.st atv byv Index Term Pairs Sessions x1 Index1 Term1 Pairs1 Sessions1 x14 H17) (tephralaw09_ImageFull.k1.eq J0 atv byv Index Term Pairs Sessions x1 Index1 Term1 Pairs1 Sessions1 x14 H17 Q) (by kernel_rfl) h
noncomputable def tephralaw09_ImageFull.k2.body (J : Jn) (byv : Int) (Index : Int) (Term : Int) (Pairs : Sl) (Sessions : Sl) (x1 : Sl) (Index1 : Int) (Term1 : Int) (Pairs1 : Sl) (Sessions1 : Sl) (H17 : Hp) (k : Int) (Q : Value → Hp → Prop) : Prop :=
 ((0 : Int) ≤ k ∧ k < ((x1.len : Nat) : Int)) ∧ vPtr x1.a (fun a => ∃ x15 : Int, Hp.cell? H17 (a.add ((k : Int).toNat * 1)) = some (.int .u8 x15) ∧ ((0 : Int) ≤ k ∧ k < ((x1.len : Nat) : Int)) ∧ vPtr x1.a (fun a1 => WrAt H17 (a1.add ((k : Int).toNat * 1)) 1 ∧ ∀ H18 : Hp, H18 = (Hp.setCell H17 (a1.add ((k : Int).toNat * 1)) (.int .u8 (bxor .u8 x15 byv))) → 
 SCalls Try.prog image_ReadFull.id [.slice x1.a x1.len x1.cap] H18 (fun r14 H19 => ∃ Index2 : Int, ∃ Term2 : Int, ∃ Pairs2 : Sl, ∃ Sessions2 : Sl, ∃ x16 : Int, r14 = .tuple #[.agg #[.int .i64 Index2, .int .i64 Term2, .slice Pairs2.a Pairs2.len Pairs2.cap, .slice Sessions2.a Sessions2.len Sessions2.cap], .int .i64 x16] ∧ ∀ H20 : Hp, H20 = (holes H19 1) → 
 Br (byv == 0) (
 tephralaw09_ImageFull.k3 J Index Term Pairs Sessions Index1 Term1 Pairs1 Sessions1 Index2 Term2 Pairs2 Sessions2 H20 Q)
 (
 Br (x16 == 10) (
 tephralaw09_ImageFull.k4 J Index Term Pairs Sessions Index1 Term1 Pairs1 Sessions1 Index2 Term2 Pairs2 Sessions2 H20 (Index2 == 0) Q)
 (
 tephralaw09_ImageFull.k4 J Index Term Pairs Sessions Index1 Term1 Pairs1 Sessions1 Index2 Term2 Pairs2 Sessions2 H20 false Q)))))
theorem tephralaw09_ImageFull.k2.eq (J : Jn) (byv : Int) (Index : Int) (Term : Int) (Pairs : Sl) (Sessions : Sl) (x1 : Sl) (Index1 : Int) (Term1 : Int) (Pairs1 : Sl) (Sessions1 : Sl) (H17 : Hp) (k : Int) (Q : Value → Hp → Prop) : vSeg Try.prog tephralaw09_ImageFull.cf J tephralaw09_ImageFull.fn [1, 1, 1, 1, 1, 1, 1, 1] [0, 0, 0, 1, 1, 2, 2, 2] Q (tephralaw09_ImageFull.k2.st byv Index Term Pairs Sessions x1 Index1 Term1 Pairs1 Sessions1 H17 k) = tephralaw09_ImageFull.k2.body J byv Index Term Pairs Sessions x1 Index1 Term1 Pairs1 Sessions1 H17 k Q := by kernel_rfl
theorem tephralaw09_ImageFull.k2.step {byv : Int} {Index : Int} {Term : Int} {Pairs : Sl} {Sessions : Sl} {x1 : Sl} {Index1 : Int} {Term1 : Int} {Pairs1 : Sl} {Sessions1 : Sl} {H17 : Hp} {k : Int} {Q : Value → Hp → Prop} (h : tephralaw09_ImageFull.k2.body J0 byv Index Term Pairs Sessions x1 Index1 Term1 Pairs1 Sessions1 H17 k Q) : tephralaw09_ImageFull.k2 J0 byv Index Term Pairs Sessions x1 Index1 Term1 Pairs1 Sessions1 H17 k Q := step_of (vSeg Try.prog tephralaw09_ImageFull.cf J0 tephralaw09_ImageFull.fn [1, 1, 1, 1, 1, 1, 1, 1] [0, 0, 0, 1, 1, 2, 2, 2] Q) (tephralaw09_ImageFull.k2.st byv Index Term Pairs Sessions x1 Index1 Term1 Pairs1 Sessions1 H17 k) (tephralaw09_ImageFull.k2.eq J0 byv Index Term Pairs Sessions x1 Index1 Term1 Pairs1 Sessions1 H17 k Q) (by kernel_rfl) h
noncomputable def tephralaw09_ImageFull.k3.body (J : Jn) (Index : Int) (Term : Int) (Pairs : Sl) (Sessions : Sl) (Index1 : Int) (Term1 : Int) (Pairs1 : Sl) (Sessions1 : Sl) (Index2 : Int) (Term2 : Int) (Pairs2 : Sl) (Sessions2 : Sl) (H20 : Hp) (Q : Value → Hp → Prop) : Prop :=
 Q (.bool true) H20
theorem tephralaw09_ImageFull.k3.eq (J : Jn) (Index : Int) (Term : Int) (Pairs : Sl) (Sessions : Sl) (Index1 : Int) (Term1 : Int) (Pairs1 : Sl) (Sessions1 : Sl) (Index2 : Int) (Term2 : Int) (Pairs2 : Sl) (Sessions2 : Sl) (H20 : Hp) (Q : Value → Hp → Prop) : vMid Try.prog tephralaw09_ImageFull.cf J tephralaw09_ImageFull.fn [1, 1, 1, 1, 1, 1, 1, 1, 1, 1, 0] [0, 0, 0, 1, 1, 2, 2, 2, 2, 2, 3] 10 Q (tephralaw09_ImageFull.k3.st Index Term Pairs Sessions Index1 Term1 Pairs1 Sessions1 Index2 Term2 Pairs2 Sessions2 H20) = tephralaw09_ImageFull.k3.body J Index Term Pairs Sessions Index1 Term1 Pairs1 Sessions1 Index2 Term2 Pairs2 Sessions2 H20 Q := by kernel_rfl
theorem tephralaw09_ImageFull.k3.step {Index : Int} {Term : Int} {Pairs : Sl} {Sessions : Sl} {Index1 : Int} {Term1 : Int} {Pairs1 : Sl} {Sessions1 : Sl} {Index2 : Int} {Term2 : Int} {Pairs2 : Sl} {Sessions2 : Sl} {H20 : Hp} {Q : Value → Hp → Prop} (h : tephralaw09_ImageFull.k3.body J0 Index Term Pairs Sessions Index1 Term1 Pairs1 Sessions1 Index2 Term2 Pairs2 Sessions2 H20 Q) : tephralaw09_ImageFull.k3 J0 Index Term Pairs Sessions Index1 Term1 Pairs1 Sessions1 Index2 Term2 Pairs2 Sessions2 H20 Q := step_of (vMid Try.prog tephralaw09_ImageFull.cf J0 tephralaw09_ImageFull.fn [1, 1, 1, 1, 1, 1, 1, 1, 1, 1, 0] [0, 0, 0, 1, 1, 2, 2, 2, 2, 2, 3] 10 Q) (tephralaw09_ImageFull.k3.st Index Term Pairs Sessions Index1 Term1 Pairs1 Sessions1 Index2 Term2 Pairs2 Sessions2 H20) (tephralaw09_ImageFull.k3.eq J0 Index Term Pairs Sessions Index1 Term1 Pairs1 Sessions1 Index2 Term2 Pairs2 Sessions2 H20 Q) (by kernel_rfl) h
noncomputable def tephralaw09_ImageFull.k4.body (J : Jn) (Index : Int) (Term : Int) (Pairs : Sl) (Sessions : Sl) (Index1 : Int) (Term1 : Int) (Pairs1 : Sl) (Sessions1 : Sl) (Index2 : Int) (Term2 : Int) (Pairs2 : Sl) (Sessions2 : Sl) (H20 : Hp) (x17 : Bool) (Q : Value → Hp → Prop) : Prop :=
 
 Br x17 (Q (.bool (((Pairs2.len : Nat) : Int) == 0)) H20)
 (Q (.bool false) H20)
theorem tephralaw09_ImageFull.k4.eq (J : Jn) (Index : Int) (Term : Int) (Pairs : Sl) (Sessions : Sl) (Index1 : Int) (Term1 : Int) (Pairs1 : Sl) (Sessions1 : Sl) (Index2 : Int) (Term2 : Int) (Pairs2 : Sl) (Sessions2 : Sl) (H20 : Hp) (x17 : Bool) (Q : Value → Hp → Prop) : vMid Try.prog tephralaw09_ImageFull.cf J tephralaw09_ImageFull.fn [1, 1, 1, 1, 1, 1, 1, 1, 1, 1, 0] [0, 0, 0, 1, 1, 2, 2, 2, 2, 2, 3] 10 Q (tephralaw09_ImageFull.k4.st Index Term Pairs Sessions Index1 Term1 Pairs1 Sessions1 Index2 Term2 Pairs2 Sessions2 H20 x17) = tephralaw09_ImageFull.k4.body J Index Term Pairs Sessions Index1 Term1 Pairs1 Sessions1 Index2 Term2 Pairs2 Sessions2 H20 x17 Q := by kernel_rfl
theorem tephralaw09_ImageFull.k4.step {Index : Int} {Term : Int} {Pairs : Sl} {Sessions : Sl} {Index1 : Int} {Term1 : Int} {Pairs1 : Sl} {Sessions1 : Sl} {Index2 : Int} {Term2 : Int} {Pairs2 : Sl} {Sessions2 : Sl} {H20 : Hp} {x17 : Bool} {Q : Value → Hp → Prop} (h : tephralaw09_ImageFull.k4.body J0 Index Term Pairs Sessions Index1 Term1 Pairs1 Sessions1 Index2 Term2 Pairs2 Sessions2 H20 x17 Q) : tephralaw09_ImageFull.k4 J0 Index Term Pairs Sessions Index1 Term1 Pairs1 Sessions1 Index2 Term2 Pairs2 Sessions2 H20 x17 Q := step_of (vMid Try.prog tephralaw09_ImageFull.cf J0 tephralaw09_ImageFull.fn [1, 1, 1, 1, 1, 1, 1, 1, 1, 1, 0] [0, 0, 0, 1, 1, 2, 2, 2, 2, 2, 3] 10 Q) (tephralaw09_ImageFull.k4.st Index Term Pairs Sessions Index1 Term1 Pairs1 Sessions1 Index2 Term2 Pairs2 Sessions2 H20 x17) (tephralaw09_ImageFull.k4.eq J0 Index Term Pairs Sessions Index1 Term1 Pairs1 Sessions1 Index2 Term2 Pairs2 Sessions2 H20 x17 Q) (by kernel_rfl) h
noncomputable def tephralaw09_ImageFull.vc (J : Jn) (says : Sl) (atv : Int) (byv : Int) (H : Hp) (Q : Value → Hp → Prop) : Prop :=
 
 SCalls Try.prog tephralaw09_awake.id [] H (fun r H1 => ∃ x : Bool, r = .bool x ∧ 
 Br (!x) (Q (.bool false) H1)
 (
 SCalls Try.prog tephralaw07_Some.id [.slice says.a says.len says.cap] H1 (fun r1 H2 => ∃ Index : Int, ∃ Term : Int, ∃ Pairs : Sl, ∃ Sessions : Sl, r1 = .agg #[.int .i64 Index, .int .i64 Term, .slice Pairs.a Pairs.len Pairs.cap, .slice Sessions.a Sessions.len Sessions.cap] ∧ ∀ H3 : Hp, H3 = (holes H2 1) → 
 SCalls Try.prog image_Full.id [.agg #[.int .i64 Index, .int .i64 Term, .slice Pairs.a Pairs.len Pairs.cap, .slice Sessions.a Sessions.len Sessions.cap]] H3 (fun r2 H4 => ∃ x1 : Sl, ∃ x2 : Int, r2 = .tuple #[.slice x1.a x1.len x1.cap, .int .i64 x2] ∧ 
 SCalls Try.prog image_ReadFull.id [.slice x1.a x1.len x1.cap] H4 (fun r3 H5 => ∃ Index1 : Int, ∃ Term1 : Int, ∃ Pairs1 : Sl, ∃ Sessions1 : Sl, ∃ x3 : Int, r3 = .tuple #[.agg #[.int .i64 Index1, .int .i64 Term1, .slice Pairs1.a Pairs1.len Pairs1.cap, .slice Sessions1.a Sessions1.len Sessions1.cap], .int .i64 x3] ∧ ∀ H6 : Hp, H6 = (holes H5 1) → 
 Br (x2 != 0) (
  (
 tephralaw09_ImageFull.k1 J atv byv Index Term Pairs Sessions x1 Index1 Term1 Pairs1 Sessions1 true H6 Q) ∧ 
  (
  (
 tephralaw09_ImageFull.k1 J atv byv Index Term Pairs Sessions x1 Index1 Term1 Pairs1 Sessions1 true H6 Q) ∧ 
  (
  (
 tephralaw09_ImageFull.k1 J atv byv Index Term Pairs Sessions x1 Index1 Term1 Pairs1 Sessions1 true H6 Q) ∧ 
  (
 tephralaw09_ImageFull.k1 J atv byv Index Term Pairs Sessions x1 Index1 Term1 Pairs1 Sessions1 true H6 Q))))
 (
 Br (x3 != 0) (
  (
 tephralaw09_ImageFull.k1 J atv byv Index Term Pairs Sessions x1 Index1 Term1 Pairs1 Sessions1 true H6 Q) ∧ 
  (
  (
 tephralaw09_ImageFull.k1 J atv byv Index Term Pairs Sessions x1 Index1 Term1 Pairs1 Sessions1 true H6 Q) ∧ 
  (
  (
 tephralaw09_ImageFull.k1 J atv byv Index Term Pairs Sessions x1 Index1 Term1 Pairs1 Sessions1 true H6 Q) ∧ 
  (
 tephralaw09_ImageFull.k1 J atv byv Index Term Pairs Sessions x1 Index1 Term1 Pairs1 Sessions1 true H6 Q))))
 (
 SCalls Try.prog state_Same.id [.agg #[.int .i64 Index, .int .i64 Term, .slice Pairs.a Pairs.len Pairs.cap, .slice Sessions.a Sessions.len Sessions.cap], .agg #[.int .i64 Index1, .int .i64 Term1, .slice Pairs1.a Pairs1.len Pairs1.cap, .slice Sessions1.a Sessions1.len Sessions1.cap]] H6 (fun r4 H7 => ∃ x4 : Bool, r4 = .bool x4 ∧ 
 Br (!x4) (
  (
 tephralaw09_ImageFull.k1 J atv byv Index Term Pairs Sessions x1 Index1 Term1 Pairs1 Sessions1 true H7 Q) ∧ 
  (
  (
 tephralaw09_ImageFull.k1 J atv byv Index Term Pairs Sessions x1 Index1 Term1 Pairs1 Sessions1 true H7 Q) ∧ 
  (
  (
 tephralaw09_ImageFull.k1 J atv byv Index Term Pairs Sessions x1 Index1 Term1 Pairs1 Sessions1 true H7 Q) ∧ 
  (
 tephralaw09_ImageFull.k1 J atv byv Index Term Pairs Sessions x1 Index1 Term1 Pairs1 Sessions1 true H7 Q))))
 (
  (vB2S H7 x1.a x1.len (fun s => 
 SCalls Try.prog tephralaw09_head.id [.int .i64 0, .int .i64 Index, .int .i64 Index] H7 (fun r5 H8 => ∃ x5 : ByteArray, r5 = .string x5 ∧ 
 SCalls Try.prog state_Bytes.id [.agg #[.int .i64 Index, .int .i64 Term, .slice Pairs.a Pairs.len Pairs.cap, .slice Sessions.a Sessions.len Sessions.cap]] H8 (fun r6 H9 => ∃ x6 : Sl, r6 = .slice x6.a x6.len x6.cap ∧ 
 SCalls Try.prog tephralaw09_form.id [.slice x6.a x6.len x6.cap] H9 (fun r7 H10 => ∃ x7 : ByteArray, r7 = .string x7 ∧ x5.size + x7.size ≤ 9223372036854775807 ∧ 
 tephralaw09_ImageFull.k1 J atv byv Index Term Pairs Sessions x1 Index1 Term1 Pairs1 Sessions1 (!(s.toList == (x5 ++ x7).toList)) H10 Q))))) ∧ 
  (
 SCalls Try.prog tephralaw09_head.id [.int .i64 0, .int .i64 Index, .int .i64 Index] H7 (fun r8 H11 => ∃ x8 : ByteArray, r8 = .string x8 ∧ 
  (vB2S H11 x1.a x1.len (fun s1 => 
 SCalls Try.prog state_Bytes.id [.agg #[.int .i64 Index, .int .i64 Term, .slice Pairs.a Pairs.len Pairs.cap, .slice Sessions.a Sessions.len Sessions.cap]] H11 (fun r9 H12 => ∃ x9 : Sl, r9 = .slice x9.a x9.len x9.cap ∧ 
 SCalls Try.prog tephralaw09_form.id [.slice x9.a x9.len x9.cap] H12 (fun r10 H13 => ∃ x10 : ByteArray, r10 = .string x10 ∧ x8.size + x10.size ≤ 9223372036854775807 ∧ 
 tephralaw09_ImageFull.k1 J atv byv Index Term Pairs Sessions x1 Index1 Term1 Pairs1 Sessions1 (!(s1.toList == (x8 ++ x10).toList)) H13 Q)))) ∧ 
  (
 SCalls Try.prog state_Bytes.id [.agg #[.int .i64 Index, .int .i64 Term, .slice Pairs.a Pairs.len Pairs.cap, .slice Sessions.a Sessions.len Sessions.cap]] H11 (fun r11 H14 => ∃ x11 : Sl, r11 = .slice x11.a x11.len x11.cap ∧ 
  (vB2S H14 x1.a x1.len (fun s2 => 
 SCalls Try.prog tephralaw09_form.id [.slice x11.a x11.len x11.cap] H14 (fun r12 H15 => ∃ x12 : ByteArray, r12 = .string x12 ∧ x8.size + x12.size ≤ 9223372036854775807 ∧ 
 tephralaw09_ImageFull.k1 J atv byv Index Term Pairs Sessions x1 Index1 Term1 Pairs1 Sessions1 (!(s2.toList == (x8 ++ x12).toList)) H15 Q))) ∧ 
  (
 SCalls Try.prog tephralaw09_form.id [.slice x11.a x11.len x11.cap] H14 (fun r13 H16 => ∃ x13 : ByteArray, r13 = .string x13 ∧ x8.size + x13.size ≤ 9223372036854775807 ∧ vB2S H16 x1.a x1.len (fun s3 => 
 tephralaw09_ImageFull.k1 J atv byv Index Term Pairs Sessions x1 Index1 Term1 Pairs1 Sessions1 (!(s3.toList == (x8 ++ x13).toList)) H16 Q))))))))))))))))
theorem tephralaw09_ImageFull.eq (J : Jn) (says : Sl) (atv : Int) (byv : Int) (H : Hp) (Q : Value → Hp → Prop) : vFn Try.prog tephralaw09_ImageFull.cf J tephralaw09_ImageFull.fn [.slice says.a says.len says.cap, .int .u16 atv, .int .u8 byv] H Q = tephralaw09_ImageFull.vc J says atv byv H Q := by kernel_rfl
theorem tephralaw09_ImageFull.calls {says : Sl} {atv : Int} {byv : Int} {H : Hp} {Q : Value → Hp → Prop} (h : tephralaw09_ImageFull.vc J0 says atv byv H Q) : SCalls Try.prog tephralaw09_ImageFull.id [.slice says.a says.len says.cap, .int .u16 atv, .int .u8 byv] H Q := vFn_of Try.mixed Try.func5 (tephralaw09_ImageFull.eq J0 says atv byv H Q) h

/-! 18: tephra/tephralaw07.Some -/
noncomputable def tephralaw07_Some.cf : Cfg := ⟨[2, 1000003], [], [], [], true, []⟩
noncomputable def tephralaw07_Some.vc (J : Jn) (says : Sl) (H : Hp) (Q : Value → Hp → Prop) : Prop :=
 ∀ H1 : Hp, H1 = (holes H 1) → 
 SCalls Try.prog tephralaw06_Entries.id [.slice says.a says.len says.cap, .int .i64 1, .int .i64 0] H1 (fun r H2 => ∃ x : Sl, r = .slice x.a x.len x.cap ∧ 
 SCalls Try.prog state_Fold.id [.agg #[.int .i64 0, .int .i64 0, .slice none 0 0, .slice none 0 0], .slice x.a x.len x.cap] H2 (fun r1 H3 => ∃ Index : Int, ∃ Term : Int, ∃ Pairs : Sl, ∃ Sessions : Sl, r1 = .agg #[.int .i64 Index, .int .i64 Term, .slice Pairs.a Pairs.len Pairs.cap, .slice Sessions.a Sessions.len Sessions.cap] ∧ Q (.agg #[.int .i64 Index, .int .i64 Term, .slice Pairs.a Pairs.len Pairs.cap, .slice Sessions.a Sessions.len Sessions.cap]) H3))
theorem tephralaw07_Some.eq (J : Jn) (says : Sl) (H : Hp) (Q : Value → Hp → Prop) : vFn Try.prog tephralaw07_Some.cf J tephralaw07_Some.fn [.slice says.a says.len says.cap] H Q = tephralaw07_Some.vc J says H Q := by kernel_rfl
theorem tephralaw07_Some.calls {says : Sl} {H : Hp} {Q : Value → Hp → Prop} (h : tephralaw07_Some.vc J0 says H Q) : SCalls Try.prog tephralaw07_Some.id [.slice says.a says.len says.cap] H Q := vFn_of Try.mixed Try.func18 (tephralaw07_Some.eq J0 says H Q) h

/-! 21: tephra/state.Same -/
noncomputable def state_Same.cf : Cfg := ⟨[2, 3, 1000003], [], [], [], true, []⟩
noncomputable def state_Same.vc (J : Jn) (aIndex : Int) (aTerm : Int) (aPairs : Sl) (aSessions : Sl) (bIndex : Int) (bTerm : Int) (bPairs : Sl) (bSessions : Sl) (H : Hp) (Q : Value → Hp → Prop) : Prop :=
 ∀ H1 : Hp, H1 = (holes H 1) → ∀ H2 : Hp, H2 = (holes H1 1) → 
 SCalls Try.prog state_Bytes.id [.agg #[.int .i64 aIndex, .int .i64 aTerm, .slice aPairs.a aPairs.len aPairs.cap, .slice aSessions.a aSessions.len aSessions.cap]] H2 (fun r H3 => ∃ x : Sl, r = .slice x.a x.len x.cap ∧ 
  (vB2S H3 x.a x.len (fun s => 
 SCalls Try.prog state_Bytes.id [.agg #[.int .i64 bIndex, .int .i64 bTerm, .slice bPairs.a bPairs.len bPairs.cap, .slice bSessions.a bSessions.len bSessions.cap]] H3 (fun r1 H4 => ∃ x1 : Sl, r1 = .slice x1.a x1.len x1.cap ∧ vB2S H4 x1.a x1.len (fun s1 => Q (.bool (s.toList == s1.toList)) H4)))) ∧ 
  (
 SCalls Try.prog state_Bytes.id [.agg #[.int .i64 bIndex, .int .i64 bTerm, .slice bPairs.a bPairs.len bPairs.cap, .slice bSessions.a bSessions.len bSessions.cap]] H3 (fun r2 H5 => ∃ x2 : Sl, r2 = .slice x2.a x2.len x2.cap ∧ 
  (vB2S H5 x.a x.len (fun s2 => vB2S H5 x2.a x2.len (fun s3 => Q (.bool (s2.toList == s3.toList)) H5))) ∧ 
  (vB2S H5 x2.a x2.len (fun s4 => vB2S H5 x.a x.len (fun s5 => Q (.bool (s5.toList == s4.toList)) H5))))))
theorem state_Same.eq (J : Jn) (aIndex : Int) (aTerm : Int) (aPairs : Sl) (aSessions : Sl) (bIndex : Int) (bTerm : Int) (bPairs : Sl) (bSessions : Sl) (H : Hp) (Q : Value → Hp → Prop) : vFn Try.prog state_Same.cf J state_Same.fn [.agg #[.int .i64 aIndex, .int .i64 aTerm, .slice aPairs.a aPairs.len aPairs.cap, .slice aSessions.a aSessions.len aSessions.cap], .agg #[.int .i64 bIndex, .int .i64 bTerm, .slice bPairs.a bPairs.len bPairs.cap, .slice bSessions.a bSessions.len bSessions.cap]] H Q = state_Same.vc J aIndex aTerm aPairs aSessions bIndex bTerm bPairs bSessions H Q := by kernel_rfl
theorem state_Same.calls {aIndex : Int} {aTerm : Int} {aPairs : Sl} {aSessions : Sl} {bIndex : Int} {bTerm : Int} {bPairs : Sl} {bSessions : Sl} {H : Hp} {Q : Value → Hp → Prop} (h : state_Same.vc J0 aIndex aTerm aPairs aSessions bIndex bTerm bPairs bSessions H Q) : SCalls Try.prog state_Same.id [.agg #[.int .i64 aIndex, .int .i64 aTerm, .slice aPairs.a aPairs.len aPairs.cap, .slice aSessions.a aSessions.len aSessions.cap], .agg #[.int .i64 bIndex, .int .i64 bTerm, .slice bPairs.a bPairs.len bPairs.cap, .slice bSessions.a bSessions.len bSessions.cap]] H Q := vFn_of Try.mixed Try.func21 (state_Same.eq J0 aIndex aTerm aPairs aSessions bIndex bTerm bPairs bSessions H Q) h

/-! 46: tephra/state.Fold -/
noncomputable def state_Fold.cf : Cfg := ⟨[2, 4, 6, 1000003], [(2, [2, 4, 7, 8, 9])], [], [], true, []⟩
noncomputable def state_Fold.l1.st (es : Sl) (H3 : Hp) (x : Int) (y : Int) (y1 : Int) (y2 : Sl) (y3 : Sl) : VS := ⟨mkFr 21 [(2, .loc 0 0), (4, .loc 1 0), (7, .v (.slice es.a es.len es.cap)), (8, .v (.int .i64 ((es.len : Nat) : Int))), (9, .v (.int .i64 x))], [(T_api_State, [.int .i64 y, .int .i64 y1, .slice y2.a y2.len y2.cap, .slice y3.a y3.len y3.cap]), (T_api_State, [.int .i64 0, .int .i64 0, .slice none 0 0, .slice none 0 0])], H3⟩
noncomputable def state_Fold.l1 (J : Jn) (es : Sl) (H3 : Hp) (x : Int) (y : Int) (y1 : Int) (y2 : Sl) (y3 : Sl) (Q : Value → Hp → Prop) : Prop := vAt Try.prog state_Fold.cf J state_Fold.fn [1, 0, 1, 0] [0, 2, 2] Q (state_Fold.l1.st es H3 x y y1 y2 y3)
attribute [irreducible] state_Fold.l1
noncomputable def state_Fold.l1.body (J : Jn) (es : Sl) (H3 : Hp) (x : Int) (y : Int) (y1 : Int) (y2 : Sl) (y3 : Sl) (Q : Value → Hp → Prop) : Prop :=
 
 Br (decide (x < ((es.len : Nat) : Int))) (((0 : Int) ≤ x ∧ x < ((es.len : Nat) : Int)) ∧ vPtr es.a (fun a => ∃ Index : Int, ∃ Term : Int, ∃ CmdOp : Int, ∃ CmdClient : Int, ∃ CmdSeq : Int, ∃ CmdKey : ByteArray, ∃ CmdValue : ByteArray, ∃ CmdOld : ByteArray, RowAt H3 (a.add ((x : Int).toNat * 8)) [.int .i64 Index, .int .i64 Term, .int .i64 CmdOp, .int .i64 CmdClient, .int .i64 CmdSeq, .string CmdKey, .string CmdValue, .string CmdOld] ∧ ∀ H4 : Hp, H4 = (holes H3 1) → 
 SCalls Try.prog state_Apply.id [.agg #[.int .i64 y, .int .i64 y1, .slice y2.a y2.len y2.cap, .slice y3.a y3.len y3.cap], .agg #[.int .i64 Index, .int .i64 Term, .int .i64 CmdOp, .int .i64 CmdClient, .int .i64 CmdSeq, .string CmdKey, .string CmdValue, .string CmdOld]] H4 (fun r H5 => ∃ Index1 : Int, ∃ Term1 : Int, ∃ Pairs : Sl, ∃ Sessions : Sl, ∃ Err : Int, ∃ Valuev : ByteArray, r = .tuple #[.agg #[.int .i64 Index1, .int .i64 Term1, .slice Pairs.a Pairs.len Pairs.cap, .slice Sessions.a Sessions.len Sessions.cap], .agg #[.int .i64 Err, .string Valuev]] ∧ 
 state_Fold.l1 J es H5 (w64 (x + 1)) Index1 Term1 Pairs Sessions Q)))
 (Q (.agg #[.int .i64 y, .int .i64 y1, .slice y2.a y2.len y2.cap, .slice y3.a y3.len y3.cap]) H3)
theorem state_Fold.l1.eq (J : Jn) (es : Sl) (H3 : Hp) (x : Int) (y : Int) (y1 : Int) (y2 : Sl) (y3 : Sl) (Q : Value → Hp → Prop) : vAtBody Try.prog state_Fold.cf J state_Fold.fn [1, 0, 1, 0] [0, 2, 2] Q (state_Fold.l1.st es H3 x y y1 y2 y3) = state_Fold.l1.body J es H3 x y y1 y2 y3 Q := by kernel_rfl
theorem state_Fold.l1.step {es : Sl} {H3 : Hp} {x : Int} {y : Int} {y1 : Int} {y2 : Sl} {y3 : Sl} {Q : Value → Hp → Prop} (h : state_Fold.l1.body J0 es H3 x y y1 y2 y3 Q) : state_Fold.l1 J0 es H3 x y y1 y2 y3 Q := vAt_stepC (state_Fold.l1.st es H3 x y y1 y2 y3) (state_Fold.l1.eq J0 es H3 x y y1 y2 y3 Q) (by kernel_rfl) h
noncomputable def state_Fold.vc (J : Jn) (sIndex : Int) (sTerm : Int) (sPairs : Sl) (sSessions : Sl) (es : Sl) (H : Hp) (Q : Value → Hp → Prop) : Prop :=
 ∀ H1 : Hp, H1 = (holes H 1) → ∀ H2 : Hp, H2 = (holes H1 1) → 
 state_Fold.l1 J es H2 0 sIndex sTerm sPairs sSessions Q
theorem state_Fold.eq (J : Jn) (sIndex : Int) (sTerm : Int) (sPairs : Sl) (sSessions : Sl) (es : Sl) (H : Hp) (Q : Value → Hp → Prop) : vFn Try.prog state_Fold.cf J state_Fold.fn [.agg #[.int .i64 sIndex, .int .i64 sTerm, .slice sPairs.a sPairs.len sPairs.cap, .slice sSessions.a sSessions.len sSessions.cap], .slice es.a es.len es.cap] H Q = state_Fold.vc J sIndex sTerm sPairs sSessions es H Q := by kernel_rfl
theorem state_Fold.calls {sIndex : Int} {sTerm : Int} {sPairs : Sl} {sSessions : Sl} {es : Sl} {H : Hp} {Q : Value → Hp → Prop} (h : state_Fold.vc J0 sIndex sTerm sPairs sSessions es H Q) : SCalls Try.prog state_Fold.id [.agg #[.int .i64 sIndex, .int .i64 sTerm, .slice sPairs.a sPairs.len sPairs.cap, .slice sSessions.a sSessions.len sSessions.cap], .slice es.a es.len es.cap] H Q := vFn_of Try.mixed Try.func46 (state_Fold.eq J0 sIndex sTerm sPairs sSessions es H Q) h

/-! 53: (*tephra/sorted.Map_string, string_).Put -/
noncomputable def sorted_Map_string_string_Put.cf : Cfg := ⟨[], [], [], [], true, []⟩
noncomputable def sorted_Map_string_string_Put.vc (J : Jn) (m : Addr) (k : ByteArray) (v : ByteArray) (H : Hp) (Q : Value → Hp → Prop) : Prop :=
 
 SCalls Try.prog sorted_Map_string_string_find.id [.pointer (some m), .string k] H (fun r H1 => ∃ x : Int, ∃ x1 : Bool, r = .tuple #[.int .i64 x, .bool x1] ∧ 
 Br x1 (∃ items : Sl, Hp.cell? H1 m = some (.slice items.a items.len items.cap) ∧ ((0 : Int) ≤ x ∧ x < ((items.len : Nat) : Int)) ∧ vPtr items.a (fun a => WrAt H1 ((a.add ((x : Int).toNat * 2)).add 1) 1 ∧ Q (.bool false) (Hp.setCell H1 ((a.add ((x : Int).toNat * 2)).add 1) (.string v))))
 (∃ items1 : Sl, Hp.cell? H1 m = some (.slice items1.a items1.len items1.cap) ∧ 
 SCalls Try.prog slices_Insert_sl_sorted_item_string_string_sorted_item_string_string.id [.slice items1.a items1.len items1.cap, .int .i64 x, .slice (some (Addr.mk (Array.size H1) 0 none)) 1 1] (Array.push H1 (.cells #[.string k, .string v] T_sorted_item_string_string)) (fun r1 H2 => ∃ x2 : Sl, r1 = .slice x2.a x2.len x2.cap ∧ WrAt H2 m 1 ∧ Q (.bool true) (Hp.setCell H2 m (.slice x2.a x2.len x2.cap)))))
theorem sorted_Map_string_string_Put.eq (J : Jn) (m : Addr) (k : ByteArray) (v : ByteArray) (H : Hp) (Q : Value → Hp → Prop) : vFn Try.prog sorted_Map_string_string_Put.cf J sorted_Map_string_string_Put.fn [.pointer (some m), .string k, .string v] H Q = sorted_Map_string_string_Put.vc J m k v H Q := by kernel_rfl
theorem sorted_Map_string_string_Put.calls {m : Addr} {k : ByteArray} {v : ByteArray} {H : Hp} {Q : Value → Hp → Prop} (h : sorted_Map_string_string_Put.vc J0 m k v H Q) : SCalls Try.prog sorted_Map_string_string_Put.id [.pointer (some m), .string k, .string v] H Q := vFn_of Try.mixed Try.func53 (sorted_Map_string_string_Put.eq J0 m k v H Q) h

/-! 55: (*tephra/sorted.Map_string, string_).All -/
noncomputable def sorted_Map_string_string_All.cf : Cfg := ⟨[], [], [], [], true, []⟩
noncomputable def sorted_Map_string_string_All.vc (J : Jn) (m : Addr) (H : Hp) (Q : Value → Hp → Prop) : Prop :=
 Q (.func (.func 70) #[] #[.pointer (some (Addr.mk (Array.size H) 0 none))]) (Array.push H (.cells #[.pointer (some m)] T_p_sorted_Map_string_string))
theorem sorted_Map_string_string_All.eq (J : Jn) (m : Addr) (H : Hp) (Q : Value → Hp → Prop) : vFn Try.prog sorted_Map_string_string_All.cf J sorted_Map_string_string_All.fn [.pointer (some m)] H Q = sorted_Map_string_string_All.vc J m H Q := by kernel_rfl
theorem sorted_Map_string_string_All.calls {m : Addr} {H : Hp} {Q : Value → Hp → Prop} (h : sorted_Map_string_string_All.vc J0 m H Q) : SCalls Try.prog sorted_Map_string_string_All.id [.pointer (some m)] H Q := vFn_of Try.mixed Try.func55 (sorted_Map_string_string_All.eq J0 m H Q) h

/-! 56: (*tephra/sorted.Map_string, string_).Get -/
noncomputable def sorted_Map_string_string_Get.cf : Cfg := ⟨[], [], [], [], true, []⟩
noncomputable def sorted_Map_string_string_Get.vc (J : Jn) (m : Addr) (k : ByteArray) (H : Hp) (Q : Value → Hp → Prop) : Prop :=
 
 SCalls Try.prog sorted_Map_string_string_find.id [.pointer (some m), .string k] H (fun r H1 => ∃ x : Int, ∃ x1 : Bool, r = .tuple #[.int .i64 x, .bool x1] ∧ 
 Br x1 (∃ items : Sl, Hp.cell? H1 m = some (.slice items.a items.len items.cap) ∧ ((0 : Int) ≤ x ∧ x < ((items.len : Nat) : Int)) ∧ vPtr items.a (fun a => ∃ value : ByteArray, Hp.cell? H1 ((a.add ((x : Int).toNat * 2)).add 1) = some (.string value) ∧ Q (.tuple #[.string value, .bool true]) H1))
 (Q (.tuple #[.string (ByteArray.mk #[]), .bool false]) H1))
theorem sorted_Map_string_string_Get.eq (J : Jn) (m : Addr) (k : ByteArray) (H : Hp) (Q : Value → Hp → Prop) : vFn Try.prog sorted_Map_string_string_Get.cf J sorted_Map_string_string_Get.fn [.pointer (some m), .string k] H Q = sorted_Map_string_string_Get.vc J m k H Q := by kernel_rfl
theorem sorted_Map_string_string_Get.calls {m : Addr} {k : ByteArray} {H : Hp} {Q : Value → Hp → Prop} (h : sorted_Map_string_string_Get.vc J0 m k H Q) : SCalls Try.prog sorted_Map_string_string_Get.id [.pointer (some m), .string k] H Q := vFn_of Try.mixed Try.func56 (sorted_Map_string_string_Get.eq J0 m k H Q) h

/-! 64: tephra/state.Apply -/
noncomputable def state_Apply.cf : Cfg := ⟨[3, 4, 5, 7, 10, 12, 1000003], [(1000021, [2])], [(4, [2, 3, 4, 5, 19], true), (6, [2, 3, 4, 5], true), (11, [2, 3, 4, 5, 6, 7, 65], true)], [], true, []⟩
noncomputable def state_Apply.cfr : Cfg := { state_Apply.cf with rf := false }
noncomputable def state_Apply.r1.fr (b : Nat) : List AV := mkFr 112 [(2, .v (.pointer (some (Addr.mk b 0 none))))]
noncomputable def state_Apply.r1.code : Code := sub (bodyOf state_Apply.fn) [1, 1, 1, 1, 1, 1, 1, 1, 1, 1, 1, 0, 1, 0]
noncomputable def state_Apply.r1.rec (fn : FuncId) (tm : Array Value) (d : Nat) (st : LoopState) (pd : Option Code) : Obj := recO fn tm (rgP state_Apply.r1.code) (rgA state_Apply.r1.code) (rgB state_Apply.r1.code) d st pd
noncomputable def state_Apply.k1.st (eIndex : Int) (eTerm : Int) (eCmdOp : Int) (eCmdClient : Int) (eCmdSeq : Int) (eCmdKey : ByteArray) (eCmdValue : ByteArray) (eCmdOld : ByteArray) (b : Nat) (H5 : Hp) (x1 : Bool) : VS := ⟨mkFr 112 [(2, .v (.pointer (some (Addr.mk b 0 none)))), (3, .loc 0 0), (4, .loc 1 0), (5, .loc 2 0), (19, .v (.bool x1))], [(T_api_Entry, [.int .i64 eIndex, .int .i64 eTerm, .int .i64 eCmdOp, .int .i64 eCmdClient, .int .i64 eCmdSeq, .string eCmdKey, .string eCmdValue, .string eCmdOld]), (T_api_State, [.int .i64 0, .int .i64 0, .slice none 0 0, .slice none 0 0]), (T_api_Reply, [.int .i64 0, .string (ByteArray.mk #[])])], H5⟩
noncomputable def state_Apply.k1 (J : Jn) (eIndex : Int) (eTerm : Int) (eCmdOp : Int) (eCmdClient : Int) (eCmdSeq : Int) (eCmdKey : ByteArray) (eCmdValue : ByteArray) (eCmdOld : ByteArray) (b : Nat) (H5 : Hp) (x1 : Bool) (Q : Value → Hp → Prop) : Prop := J (vSeg Try.prog state_Apply.cf J state_Apply.fn [1, 0, 0, 1, 1, 1] [0, 3, 3, 3] Q) (state_Apply.k1.st eIndex eTerm eCmdOp eCmdClient eCmdSeq eCmdKey eCmdValue eCmdOld b H5 x1)
noncomputable def state_Apply.k2.st (eIndex : Int) (eTerm : Int) (eCmdOp : Int) (eCmdClient : Int) (eCmdSeq : Int) (eCmdKey : ByteArray) (eCmdValue : ByteArray) (eCmdOld : ByteArray) (b : Nat) (H10 : Hp) : VS := ⟨mkFr 112 [(2, .v (.pointer (some (Addr.mk b 0 none)))), (3, .loc 0 0), (4, .loc 1 0), (5, .loc 2 0)], [(T_api_Entry, [.int .i64 eIndex, .int .i64 eTerm, .int .i64 eCmdOp, .int .i64 eCmdClient, .int .i64 eCmdSeq, .string eCmdKey, .string eCmdValue, .string eCmdOld]), (T_api_State, [.int .i64 0, .int .i64 0, .slice none 0 0, .slice none 0 0]), (T_api_Reply, [.int .i64 0, .string (ByteArray.mk #[])])], H10⟩
noncomputable def state_Apply.k2 (J : Jn) (eIndex : Int) (eTerm : Int) (eCmdOp : Int) (eCmdClient : Int) (eCmdSeq : Int) (eCmdKey : ByteArray) (eCmdValue : ByteArray) (eCmdOld : ByteArray) (b : Nat) (H10 : Hp) (Q : Value → Hp → Prop) : Prop := J (vSeg Try.prog state_Apply.cf J state_Apply.fn [1, 1, 1] [0, 3, 3] Q) (state_Apply.k2.st eIndex eTerm eCmdOp eCmdClient eCmdSeq eCmdKey eCmdValue eCmdOld b H10)
noncomputable def state_Apply.k3.st (eIndex : Int) (eTerm : Int) (eCmdOp : Int) (eCmdClient : Int) (eCmdSeq : Int) (eCmdKey : ByteArray) (eCmdValue : ByteArray) (eCmdOld : ByteArray) (b : Nat) (x2 : Option Addr) (Client : Int) (Seq : Int) (ReplyErr : Int) (ReplyValue : ByteArray) (H13 : Hp) (x4 : Bool) : VS := ⟨mkFr 112 [(2, .v (.pointer (some (Addr.mk b 0 none)))), (3, .loc 0 0), (4, .loc 1 0), (5, .loc 2 0), (6, .v (.pointer x2)), (7, .loc 3 0), (65, .v (.bool x4))], [(T_api_Entry, [.int .i64 eIndex, .int .i64 eTerm, .int .i64 eCmdOp, .int .i64 eCmdClient, .int .i64 eCmdSeq, .string eCmdKey, .string eCmdValue, .string eCmdOld]), (T_api_State, [.int .i64 0, .int .i64 0, .slice none 0 0, .slice none 0 0]), (T_api_Reply, [.int .i64 0, .string (ByteArray.mk #[])]), (T_api_Session, [.int .i64 Client, .int .i64 Seq, .int .i64 ReplyErr, .string ReplyValue])], H13⟩
noncomputable def state_Apply.k3 (J : Jn) (eIndex : Int) (eTerm : Int) (eCmdOp : Int) (eCmdClient : Int) (eCmdSeq : Int) (eCmdKey : ByteArray) (eCmdValue : ByteArray) (eCmdOld : ByteArray) (b : Nat) (x2 : Option Addr) (Client : Int) (Seq : Int) (ReplyErr : Int) (ReplyValue : ByteArray) (H13 : Hp) (x4 : Bool) (Q : Value → Hp → Prop) : Prop := J (vSeg Try.prog state_Apply.cf J state_Apply.fn [1, 1, 1, 1, 1, 0, 1, 1] [0, 3, 3, 3, 3, 3, 3, 4] Q) (state_Apply.k3.st eIndex eTerm eCmdOp eCmdClient eCmdSeq eCmdKey eCmdValue eCmdOld b x2 Client Seq ReplyErr ReplyValue H13 x4)
attribute [irreducible] state_Apply.k1 state_Apply.k2 state_Apply.k3
noncomputable def state_Apply.k1.body (J : Jn) (eIndex : Int) (eTerm : Int) (eCmdOp : Int) (eCmdClient : Int) (eCmdSeq : Int) (eCmdKey : ByteArray) (eCmdValue : ByteArray) (eCmdOld : ByteArray) (b : Nat) (H5 : Hp) (x1 : Bool) (Q : Value → Hp → Prop) : Prop :=
 
 Br x1 (∃ Index2 : Int, ∃ Term2 : Int, ∃ Pairs1 : Sl, ∃ Sessions1 : Sl, RowAt H5 (Addr.mk b 0 none) [.int .i64 Index2, .int .i64 Term2, .slice Pairs1.a Pairs1.len Pairs1.cap, .slice Sessions1.a Sessions1.len Sessions1.cap] ∧ Q (.tuple #[.agg #[.int .i64 Index2, .int .i64 Term2, .slice Pairs1.a Pairs1.len Pairs1.cap, .slice Sessions1.a Sessions1.len Sessions1.cap], .agg #[.int .i64 8, .string (ByteArray.mk #[])]]) H5)
 (
  (WrAt H5 (Addr.mk b 0 none) 1 ∧ ∀ H6 : Hp, H6 = (Hp.setCell H5 (Addr.mk b 0 none) (.int .i64 eIndex)) → WrAt H6 ((Addr.mk b 0 none).add 1) 1 ∧ ∀ H7 : Hp, H7 = (Hp.setCell H6 ((Addr.mk b 0 none).add 1) (.int .i64 eTerm)) → 
 state_Apply.k2 J eIndex eTerm eCmdOp eCmdClient eCmdSeq eCmdKey eCmdValue eCmdOld b H7 Q) ∧ 
  (WrAt H5 (Addr.mk b 0 none) 1 ∧ ∀ H8 : Hp, H8 = (Hp.setCell H5 (Addr.mk b 0 none) (.int .i64 eIndex)) → WrAt H8 ((Addr.mk b 0 none).add 1) 1 ∧ ∀ H9 : Hp, H9 = (Hp.setCell H8 ((Addr.mk b 0 none).add 1) (.int .i64 eTerm)) → 
 state_Apply.k2 J eIndex eTerm eCmdOp eCmdClient eCmdSeq eCmdKey eCmdValue eCmdOld b H9 Q))
theorem state_Apply.k1.eq (J : Jn) (eIndex : Int) (eTerm : Int) (eCmdOp : Int) (eCmdClient : Int) (eCmdSeq : Int) (eCmdKey : ByteArray) (eCmdValue : ByteArray) (eCmdOld : ByteArray) (b : Nat) (H5 : Hp) (x1 : Bool) (Q : Value → Hp → Prop) : vSeg Try.prog state_Apply.cf J state_Apply.fn [1, 0, 0, 1, 1, 1] [0, 3, 3, 3] Q (state_Apply.k1.st eIndex eTerm eCmdOp eCmdClient eCmdSeq eCmdKey eCmdValue eCmdOld b H5 x1) = state_Apply.k1.body J eIndex eTerm eCmdOp eCmdClient eCmdSeq eCmdKey eCmdValue eCmdOld b H5 x1 Q := by kernel_rfl
theorem state_Apply.k1.step {eIndex : Int} {eTerm : Int} {eCmdOp : Int} {eCmdClient : Int} {eCmdSeq : Int} {eCmdKey : ByteArray} {eCmdValue : ByteArray} {eCmdOld : ByteArray} {b : Nat} {H5 : Hp} {x1 : Bool} {Q : Value → Hp → Prop} (h : state_Apply.k1.body J0 eIndex eTerm eCmdOp eCmdClient eCmdSeq eCmdKey eCmdValue eCmdOld b H5 x1 Q) : state_Apply.k1 J0 eIndex eTerm eCmdOp eCmdClient eCmdSeq eCmdKey eCmdValue eCmdOld b H5 x1 Q := step_of (vSeg Try.prog state_Apply.cf J0 state_Apply.fn [1, 0, 0, 1, 1, 1] [0, 3, 3, 3] Q) (state_Apply.k1.st eIndex eTerm eCmdOp eCmdClient eCmdSeq eCmdKey eCmdValue eCmdOld b H5 x1) (state_Apply.k1.eq J0 eIndex eTerm eCmdOp eCmdClient eCmdSeq eCmdKey eCmdValue eCmdOld b H5 x1 Q) (by kernel_rfl) h
noncomputable def state_Apply.k2.body (J : Jn) (eIndex : Int) (eTerm : Int) (eCmdOp : Int) (eCmdClient : Int) (eCmdSeq : Int) (eCmdKey : ByteArray) (eCmdValue : ByteArray) (eCmdOld : ByteArray) (b : Nat) (H10 : Hp) (Q : Value → Hp → Prop) : Prop :=
 
 Br (eCmdOp == 0) (∃ Index3 : Int, ∃ Term3 : Int, ∃ Pairs2 : Sl, ∃ Sessions2 : Sl, RowAt H10 (Addr.mk b 0 none) [.int .i64 Index3, .int .i64 Term3, .slice Pairs2.a Pairs2.len Pairs2.cap, .slice Sessions2.a Sessions2.len Sessions2.cap] ∧ Q (.tuple #[.agg #[.int .i64 Index3, .int .i64 Term3, .slice Pairs2.a Pairs2.len Pairs2.cap, .slice Sessions2.a Sessions2.len Sessions2.cap], .agg #[.int .i64 0, .string (ByteArray.mk #[])]]) H10)
 (∃ Index4 : Int, ∃ Term4 : Int, ∃ Pairs3 : Sl, ∃ Sessions3 : Sl, RowAt H10 (Addr.mk b 0 none) [.int .i64 Index4, .int .i64 Term4, .slice Pairs3.a Pairs3.len Pairs3.cap, .slice Sessions3.a Sessions3.len Sessions3.cap] ∧ 
 SCalls Try.prog state_sessions.id [.agg #[.int .i64 Index4, .int .i64 Term4, .slice Pairs3.a Pairs3.len Pairs3.cap, .slice Sessions3.a Sessions3.len Sessions3.cap]] H10 (fun r1 H11 => ∃ x2 : Option Addr, r1 = .pointer x2 ∧ 
 SCalls Try.prog sorted_Map_int_api_Session_Get.id [.pointer x2, .int .i64 eCmdClient] H11 (fun r2 H12 => ∃ Client : Int, ∃ Seq : Int, ∃ ReplyErr : Int, ∃ ReplyValue : ByteArray, ∃ x3 : Bool, r2 = .tuple #[.agg #[.int .i64 Client, .int .i64 Seq, .int .i64 ReplyErr, .string ReplyValue], .bool x3] ∧ ∀ H13 : Hp, H13 = (holes H12 1) → 
 Br x3 (
 state_Apply.k3 J eIndex eTerm eCmdOp eCmdClient eCmdSeq eCmdKey eCmdValue eCmdOld b x2 Client Seq ReplyErr ReplyValue H13 (decide (Seq ≥ eCmdSeq)) Q)
 (
 state_Apply.k3 J eIndex eTerm eCmdOp eCmdClient eCmdSeq eCmdKey eCmdValue eCmdOld b x2 Client Seq ReplyErr ReplyValue H13 false Q))))
theorem state_Apply.k2.eq (J : Jn) (eIndex : Int) (eTerm : Int) (eCmdOp : Int) (eCmdClient : Int) (eCmdSeq : Int) (eCmdKey : ByteArray) (eCmdValue : ByteArray) (eCmdOld : ByteArray) (b : Nat) (H10 : Hp) (Q : Value → Hp → Prop) : vSeg Try.prog state_Apply.cf J state_Apply.fn [1, 1, 1] [0, 3, 3] Q (state_Apply.k2.st eIndex eTerm eCmdOp eCmdClient eCmdSeq eCmdKey eCmdValue eCmdOld b H10) = state_Apply.k2.body J eIndex eTerm eCmdOp eCmdClient eCmdSeq eCmdKey eCmdValue eCmdOld b H10 Q := by kernel_rfl
theorem state_Apply.k2.step {eIndex : Int} {eTerm : Int} {eCmdOp : Int} {eCmdClient : Int} {eCmdSeq : Int} {eCmdKey : ByteArray} {eCmdValue : ByteArray} {eCmdOld : ByteArray} {b : Nat} {H10 : Hp} {Q : Value → Hp → Prop} (h : state_Apply.k2.body J0 eIndex eTerm eCmdOp eCmdClient eCmdSeq eCmdKey eCmdValue eCmdOld b H10 Q) : state_Apply.k2 J0 eIndex eTerm eCmdOp eCmdClient eCmdSeq eCmdKey eCmdValue eCmdOld b H10 Q := step_of (vSeg Try.prog state_Apply.cf J0 state_Apply.fn [1, 1, 1] [0, 3, 3] Q) (state_Apply.k2.st eIndex eTerm eCmdOp eCmdClient eCmdSeq eCmdKey eCmdValue eCmdOld b H10) (state_Apply.k2.eq J0 eIndex eTerm eCmdOp eCmdClient eCmdSeq eCmdKey eCmdValue eCmdOld b H10 Q) (by kernel_rfl) h
noncomputable def state_Apply.k3.body (J : Jn) (eIndex : Int) (eTerm : Int) (eCmdOp : Int) (eCmdClient : Int) (eCmdSeq : Int) (eCmdKey : ByteArray) (eCmdValue : ByteArray) (eCmdOld : ByteArray) (b : Nat) (x2 : Option Addr) (Client : Int) (Seq : Int) (ReplyErr : Int) (ReplyValue : ByteArray) (H13 : Hp) (x4 : Bool) (Q : Value → Hp → Prop) : Prop :=
 
 Br x4 (
 Br (Seq == eCmdSeq) (∃ Index5 : Int, ∃ Term5 : Int, ∃ Pairs4 : Sl, ∃ Sessions4 : Sl, RowAt H13 (Addr.mk b 0 none) [.int .i64 Index5, .int .i64 Term5, .slice Pairs4.a Pairs4.len Pairs4.cap, .slice Sessions4.a Sessions4.len Sessions4.cap] ∧ 
  (Q (.tuple #[.agg #[.int .i64 Index5, .int .i64 Term5, .slice Pairs4.a Pairs4.len Pairs4.cap, .slice Sessions4.a Sessions4.len Sessions4.cap], .agg #[.int .i64 ReplyErr, .string ReplyValue]]) H13) ∧ 
  (Q (.tuple #[.agg #[.int .i64 Index5, .int .i64 Term5, .slice Pairs4.a Pairs4.len Pairs4.cap, .slice Sessions4.a Sessions4.len Sessions4.cap], .agg #[.int .i64 ReplyErr, .string ReplyValue]]) H13))
 (∃ Index6 : Int, ∃ Term6 : Int, ∃ Pairs5 : Sl, ∃ Sessions5 : Sl, RowAt H13 (Addr.mk b 0 none) [.int .i64 Index6, .int .i64 Term6, .slice Pairs5.a Pairs5.len Pairs5.cap, .slice Sessions5.a Sessions5.len Sessions5.cap] ∧ Q (.tuple #[.agg #[.int .i64 Index6, .int .i64 Term6, .slice Pairs5.a Pairs5.len Pairs5.cap, .slice Sessions5.a Sessions5.len Sessions5.cap], .agg #[.int .i64 12, .string (ByteArray.mk #[])]]) H13))
 (∃ Index7 : Int, ∃ Term7 : Int, ∃ Pairs6 : Sl, ∃ Sessions6 : Sl, RowAt H13 (Addr.mk b 0 none) [.int .i64 Index7, .int .i64 Term7, .slice Pairs6.a Pairs6.len Pairs6.cap, .slice Sessions6.a Sessions6.len Sessions6.cap] ∧ 
 SCalls Try.prog state_pairs.id [.agg #[.int .i64 Index7, .int .i64 Term7, .slice Pairs6.a Pairs6.len Pairs6.cap, .slice Sessions6.a Sessions6.len Sessions6.cap]] H13 (fun r3 H14 => ∃ x5 : Option Addr, r3 = .pointer x5 ∧ 
 SCalls Try.prog state_do.id [.pointer x5, .agg #[.int .i64 eCmdOp, .int .i64 eCmdClient, .int .i64 eCmdSeq, .string eCmdKey, .string eCmdValue, .string eCmdOld]] H14 (fun r4 H15 => ∃ Err : Int, ∃ Valuev : ByteArray, r4 = .agg #[.int .i64 Err, .string Valuev] ∧ ∀ H16 : Hp, H16 = (holes H15 1) → 
 SCalls Try.prog state_rows.id [.pointer x5] H16 (fun r5 H17 => ∃ x6 : Sl, r5 = .slice x6.a x6.len x6.cap ∧ WrAt H17 ((Addr.mk b 0 none).add 2) 1 ∧ ∀ H18 : Hp, H18 = (Hp.setCell H17 ((Addr.mk b 0 none).add 2) (.slice x6.a x6.len x6.cap)) → 
 SCalls Try.prog sorted_Map_int_api_Session_Put.id [.pointer x2, .int .i64 eCmdClient, .agg #[.int .i64 eCmdClient, .int .i64 eCmdSeq, .int .i64 Err, .string Valuev]] H18 (fun r6 H19 => ∃ x7 : Bool, r6 = .bool x7 ∧ WrAt H19 ((Addr.mk b 0 none).add 3) 1 ∧ ∀ H20 : Hp, H20 = (Hp.setCell H19 ((Addr.mk b 0 none).add 3) (.slice none 0 0)) → 
 SCalls Try.prog sorted_Map_int_api_Session_All.id [.pointer x2] H20 (fun r7 H21 => ∃ x8 : Fv, r7 = .func x8.fn x8.fi x8.ca ∧ 
 ∀ fn : FuncId, ∀ tm : Array Value, TmOf (state_Apply.r1.fr b) tm → vRg Try.prog (.func x8.fn x8.fi x8.ca) (Array.size H21 + 1) (Array.push (Array.push H21 hole) (state_Apply.r1.rec fn tm (Array.size H21) .ready none)) (fun H28 => ∃ st : LoopState, ∃ pd : Option Code, H28[(Array.size H21 + 1)]? = some (state_Apply.r1.rec fn tm (Array.size H21) st pd) ∧ st ≠ .busy ∧ ∀ H29 : Hp, H29 = (Array.setIfInBounds H28 (Array.size H21 + 1) (state_Apply.r1.rec fn tm (Array.size H21) .exhausted pd)) → ((pd = none → ∃ Index8 : Int, ∃ Term8 : Int, ∃ Pairs7 : Sl, ∃ Sessions8 : Sl, RowAt H29 (Addr.mk b 0 none) [.int .i64 Index8, .int .i64 Term8, .slice Pairs7.a Pairs7.len Pairs7.cap, .slice Sessions8.a Sessions8.len Sessions8.cap] ∧ 
  (Q (.tuple #[.agg #[.int .i64 Index8, .int .i64 Term8, .slice Pairs7.a Pairs7.len Pairs7.cap, .slice Sessions8.a Sessions8.len Sessions8.cap], .agg #[.int .i64 Err, .string Valuev]]) H29) ∧ 
  (Q (.tuple #[.agg #[.int .i64 Index8, .int .i64 Term8, .slice Pairs7.a Pairs7.len Pairs7.cap, .slice Sessions8.a Sessions8.len Sessions8.cap], .agg #[.int .i64 Err, .string Valuev]]) H29)) ∧ (pd = some .ret → Q (.tuple #[.agg #[.int .i64 0, .int .i64 0, .slice none 0 0, .slice none 0 0], .agg #[.int .i64 0, .string (ByteArray.mk #[])]]) H29) ∧ (True) ∧ (pd = none ∨ pd = some .ret ∨ ∃ i ∈ ([] : List Nat), pd = some (.exit i))))))))))
theorem state_Apply.k3.eq (J : Jn) (eIndex : Int) (eTerm : Int) (eCmdOp : Int) (eCmdClient : Int) (eCmdSeq : Int) (eCmdKey : ByteArray) (eCmdValue : ByteArray) (eCmdOld : ByteArray) (b : Nat) (x2 : Option Addr) (Client : Int) (Seq : Int) (ReplyErr : Int) (ReplyValue : ByteArray) (H13 : Hp) (x4 : Bool) (Q : Value → Hp → Prop) : vSeg Try.prog state_Apply.cf J state_Apply.fn [1, 1, 1, 1, 1, 0, 1, 1] [0, 3, 3, 3, 3, 3, 3, 4] Q (state_Apply.k3.st eIndex eTerm eCmdOp eCmdClient eCmdSeq eCmdKey eCmdValue eCmdOld b x2 Client Seq ReplyErr ReplyValue H13 x4) = state_Apply.k3.body J eIndex eTerm eCmdOp eCmdClient eCmdSeq eCmdKey eCmdValue eCmdOld b x2 Client Seq ReplyErr ReplyValue H13 x4 Q := by kernel_rfl
theorem state_Apply.k3.step {eIndex : Int} {eTerm : Int} {eCmdOp : Int} {eCmdClient : Int} {eCmdSeq : Int} {eCmdKey : ByteArray} {eCmdValue : ByteArray} {eCmdOld : ByteArray} {b : Nat} {x2 : Option Addr} {Client : Int} {Seq : Int} {ReplyErr : Int} {ReplyValue : ByteArray} {H13 : Hp} {x4 : Bool} {Q : Value → Hp → Prop} (h : state_Apply.k3.body J0 eIndex eTerm eCmdOp eCmdClient eCmdSeq eCmdKey eCmdValue eCmdOld b x2 Client Seq ReplyErr ReplyValue H13 x4 Q) : state_Apply.k3 J0 eIndex eTerm eCmdOp eCmdClient eCmdSeq eCmdKey eCmdValue eCmdOld b x2 Client Seq ReplyErr ReplyValue H13 x4 Q := step_of (vSeg Try.prog state_Apply.cf J0 state_Apply.fn [1, 1, 1, 1, 1, 0, 1, 1] [0, 3, 3, 3, 3, 3, 3, 4] Q) (state_Apply.k3.st eIndex eTerm eCmdOp eCmdClient eCmdSeq eCmdKey eCmdValue eCmdOld b x2 Client Seq ReplyErr ReplyValue H13 x4) (state_Apply.k3.eq J0 eIndex eTerm eCmdOp eCmdClient eCmdSeq eCmdKey eCmdValue eCmdOld b x2 Client Seq ReplyErr ReplyValue H13 x4 Q) (by kernel_rfl) h
noncomputable def state_Apply.r1.body (J : Jn) (b : Nat) (l : Nat) (rc : LoopState → Option Code → Obj) (k : Int) (vClient : Int) (vSeq : Int) (vReplyErr : Int) (vReplyValue : ByteArray) (H22 : Hp) (Q : Value → Hp → Prop) : Prop :=
 ∀ H23 : Hp, H23 = (holes H22 1) → H23[l]? = some (rc .ready none) ∧ ∀ H24 : Hp, H24 = (Array.setIfInBounds H23 l (rc .busy none)) → ∃ Sessions7 : Sl, Hp.cell? H24 ((Addr.mk b 0 none).add 3) = some (.slice Sessions7.a Sessions7.len Sessions7.cap) ∧ ∀ b1 : Nat, b1 = Array.size H24 → ∀ H25 : Hp, H25 = (Array.push H24 (.cells #[.int .i64 vClient, .int .i64 vSeq, .int .i64 vReplyErr, .string vReplyValue] T_api_Session)) → 
 vApp Try.prog T_sl_api_Session Sessions7.a Sessions7.len Sessions7.cap (.slice (some (Addr.mk b1 0 none)) 1 1) H25 (fun ap H26 => WrAt H26 ((Addr.mk b 0 none).add 3) 1 ∧ ∀ H27 : Hp, H27 = (Hp.setCell H26 ((Addr.mk b 0 none).add 3) (.slice ap.a ap.len ap.cap)) → 
 ((∃ st : LoopState, ∃ pd : Option Code, H27[l]? = some (rc st pd)) ∧ Q (.bool true) (Array.setIfInBounds H27 l (rc .ready none))))
theorem state_Apply.r1.eq (J : Jn) (b : Nat) (l : Nat) (rc : LoopState → Option Code → Obj) (k : Int) (vClient : Int) (vSeq : Int) (vReplyErr : Int) (vReplyValue : ByteArray) (H22 : Hp) (Q : Value → Hp → Prop) : vRound Try.prog state_Apply.cfr J (rgA state_Apply.r1.code) (rgB state_Apply.r1.code) (setFr (state_Apply.r1.fr b) (rgP state_Apply.r1.code).toList [.int .i64 k, .agg #[.int .i64 vClient, .int .i64 vSeq, .int .i64 vReplyErr, .string vReplyValue]]) l rc H22 Q = state_Apply.r1.body J b l rc k vClient vSeq vReplyErr vReplyValue H22 Q := by kernel_rfl
theorem state_Apply.r1.calls {b : Nat} {l : Nat} {k : Int} {vClient : Int} {vSeq : Int} {vReplyErr : Int} {vReplyValue : ByteArray} {H22 : Hp} {fnA : FuncId} {tmA : Array Value} {dA : Nat} {Q : Value → Hp → Prop} (hl : H22[l]? = some (state_Apply.r1.rec fnA tmA dA .ready none)) (hT : TmOf (state_Apply.r1.fr b) tmA) (h : state_Apply.r1.body J0 b l (state_Apply.r1.rec fnA tmA dA) k vClient vSeq vReplyErr vReplyValue H22 Q) : YCalls Try.prog l [.int .i64 k, .agg #[.int .i64 vClient, .int .i64 vSeq, .int .i64 vReplyErr, .string vReplyValue]] H22 Q := vRound_calls (cf := state_Apply.cfr) (fn := fnA) (tm := tmA) (ps := rgP state_Apply.r1.code) (asg := rgA state_Apply.r1.code) (body := rgB state_Apply.r1.code) (d := dA) (fr := (state_Apply.r1.fr b)) Try.mixed (by kernel_rfl) hl (by kernel_rfl) hT ((state_Apply.r1.eq J0 b l (state_Apply.r1.rec fnA tmA dA) k vClient vSeq vReplyErr vReplyValue H22 Q).mpr h)
attribute [irreducible] state_Apply.r1.rec state_Apply.r1.fr state_Apply.r1.code
noncomputable def state_Apply.vc (J : Jn) (sIndex : Int) (sTerm : Int) (sPairs : Sl) (sSessions : Sl) (eIndex : Int) (eTerm : Int) (eCmdOp : Int) (eCmdClient : Int) (eCmdSeq : Int) (eCmdKey : ByteArray) (eCmdValue : ByteArray) (eCmdOld : ByteArray) (H : Hp) (Q : Value → Hp → Prop) : Prop :=
 ∀ b : Nat, b = Array.size H → ∀ H1 : Hp, H1 = (Array.push H (.cells #[.int .i64 sIndex, .int .i64 sTerm, .slice sPairs.a sPairs.len sPairs.cap, .slice sSessions.a sSessions.len sSessions.cap] T_api_State)) → ∀ H2 : Hp, H2 = (holes H1 1) → ∀ H3 : Hp, H3 = (holes H2 1) → ∀ H4 : Hp, H4 = (holes H3 1) → 
 SCalls Try.prog cmds_Right.id [.agg #[.int .i64 eIndex, .int .i64 eTerm, .int .i64 eCmdOp, .int .i64 eCmdClient, .int .i64 eCmdSeq, .string eCmdKey, .string eCmdValue, .string eCmdOld]] H4 (fun r H5 => ∃ x : Bool, r = .bool x ∧ 
 Br (!x) (∃ Index : Int, ∃ Term : Int, ∃ Pairs : Sl, ∃ Sessions : Sl, RowAt H5 (Addr.mk b 0 none) [.int .i64 Index, .int .i64 Term, .slice Pairs.a Pairs.len Pairs.cap, .slice Sessions.a Sessions.len Sessions.cap] ∧ Q (.tuple #[.agg #[.int .i64 Index, .int .i64 Term, .slice Pairs.a Pairs.len Pairs.cap, .slice Sessions.a Sessions.len Sessions.cap], .agg #[.int .i64 14, .string (ByteArray.mk #[])]]) H5)
 (∃ Index1 : Int, Hp.cell? H5 (Addr.mk b 0 none) = some (.int .i64 Index1) ∧ 
 Br (eIndex != (w64 (Index1 + 1))) (
 state_Apply.k1 J eIndex eTerm eCmdOp eCmdClient eCmdSeq eCmdKey eCmdValue eCmdOld b H5 true Q)
 (∃ Term1 : Int, Hp.cell? H5 ((Addr.mk b 0 none).add 1) = some (.int .i64 Term1) ∧ 
 state_Apply.k1 J eIndex eTerm eCmdOp eCmdClient eCmdSeq eCmdKey eCmdValue eCmdOld b H5 (decide (eTerm < Term1)) Q)))
theorem state_Apply.eq (J : Jn) (sIndex : Int) (sTerm : Int) (sPairs : Sl) (sSessions : Sl) (eIndex : Int) (eTerm : Int) (eCmdOp : Int) (eCmdClient : Int) (eCmdSeq : Int) (eCmdKey : ByteArray) (eCmdValue : ByteArray) (eCmdOld : ByteArray) (H : Hp) (Q : Value → Hp → Prop) : vFn Try.prog state_Apply.cf J state_Apply.fn [.agg #[.int .i64 sIndex, .int .i64 sTerm, .slice sPairs.a sPairs.len sPairs.cap, .slice sSessions.a sSessions.len sSessions.cap], .agg #[.int .i64 eIndex, .int .i64 eTerm, .int .i64 eCmdOp, .int .i64 eCmdClient, .int .i64 eCmdSeq, .string eCmdKey, .string eCmdValue, .string eCmdOld]] H Q = state_Apply.vc J sIndex sTerm sPairs sSessions eIndex eTerm eCmdOp eCmdClient eCmdSeq eCmdKey eCmdValue eCmdOld H Q := by kernel_rfl
theorem state_Apply.calls {sIndex : Int} {sTerm : Int} {sPairs : Sl} {sSessions : Sl} {eIndex : Int} {eTerm : Int} {eCmdOp : Int} {eCmdClient : Int} {eCmdSeq : Int} {eCmdKey : ByteArray} {eCmdValue : ByteArray} {eCmdOld : ByteArray} {H : Hp} {Q : Value → Hp → Prop} (h : state_Apply.vc J0 sIndex sTerm sPairs sSessions eIndex eTerm eCmdOp eCmdClient eCmdSeq eCmdKey eCmdValue eCmdOld H Q) : SCalls Try.prog state_Apply.id [.agg #[.int .i64 sIndex, .int .i64 sTerm, .slice sPairs.a sPairs.len sPairs.cap, .slice sSessions.a sSessions.len sSessions.cap], .agg #[.int .i64 eIndex, .int .i64 eTerm, .int .i64 eCmdOp, .int .i64 eCmdClient, .int .i64 eCmdSeq, .string eCmdKey, .string eCmdValue, .string eCmdOld]] H Q := vFn_of Try.mixed Try.func64 (state_Apply.eq J0 sIndex sTerm sPairs sSessions eIndex eTerm eCmdOp eCmdClient eCmdSeq eCmdKey eCmdValue eCmdOld H Q) h

/-! 67: (*tephra/sorted.Map_string, string_).find -/
noncomputable def sorted_Map_string_string_find.cf : Cfg := ⟨[], [], [], [], true, []⟩
noncomputable def sorted_Map_string_string_find.vc (J : Jn) (m : Addr) (k : ByteArray) (H : Hp) (Q : Value → Hp → Prop) : Prop :=
 ∃ items : Sl, Hp.cell? H m = some (.slice items.a items.len items.cap) ∧ 
 SCalls Try.prog slices_BinarySearchFunc_sl_sorted_item_string_string_sorted_item_string_string_string.id [.slice items.a items.len items.cap, .string k, .func (.func 84) #[] #[]] H (fun r H1 => ∃ x : Int, ∃ x1 : Bool, r = .tuple #[.int .i64 x, .bool x1] ∧ Q (.tuple #[.int .i64 x, .bool x1]) H1)
theorem sorted_Map_string_string_find.eq (J : Jn) (m : Addr) (k : ByteArray) (H : Hp) (Q : Value → Hp → Prop) : vFn Try.prog sorted_Map_string_string_find.cf J sorted_Map_string_string_find.fn [.pointer (some m), .string k] H Q = sorted_Map_string_string_find.vc J m k H Q := by kernel_rfl
theorem sorted_Map_string_string_find.calls {m : Addr} {k : ByteArray} {H : Hp} {Q : Value → Hp → Prop} (h : sorted_Map_string_string_find.vc J0 m k H Q) : SCalls Try.prog sorted_Map_string_string_find.id [.pointer (some m), .string k] H Q := vFn_of Try.mixed Try.func67 (sorted_Map_string_string_find.eq J0 m k H Q) h

/-! 68: slices.Insert___tephra/sorted.item_string, string_,tephra/sorted.item_string, string__ -/
noncomputable def slices_Insert_sl_sorted_item_string_string_sorted_item_string_string.cf : Cfg := ⟨[], [], [], [], true, []⟩
noncomputable def slices_Insert_sl_sorted_item_string_string_sorted_item_string_string.vc (J : Jn) (s : Sl) (i : Int) (v : Sl) (H : Hp) (Q : Value → Hp → Prop) : Prop :=
 ((0 : Int) ≤ i ∧ i ≤ ((s.len : Nat) : Int)) ∧ 
 Br (((v.len : Nat) : Int) == 0) (Q (.slice s.a s.len s.cap) H)
 (
 Br (i == ((s.len : Nat) : Int)) (
 vApp Try.prog T_sl_sorted_item_string_string s.a s.len s.cap (.slice v.a v.len v.cap) H (fun ap H1 => Q (.slice ap.a ap.len ap.cap) H1))
 (
 Br (decide ((w64 (((s.len : Nat) : Int) + ((v.len : Nat) : Int))) > ((s.cap : Nat) : Int))) (((0 : Int) ≤ i ∧ i ≤ ((s.cap : Nat) : Int)) ∧ 
 vAppZ Try.prog T_sl_sorted_item_string_string (cutA s.a s.cap 0 2) ((i : Int).toNat) s.cap (w64 ((w64 (((s.len : Nat) : Int) + ((v.len : Nat) : Int))) - i)) H (fun ap1 H2 => ((0 : Int) ≤ i ∧ i ≤ ((ap1.len : Nat) : Int)) ∧ 
 vCopy Try.prog T_sl_sorted_item_string_string (cutA ap1.a ap1.cap ((i : Int).toNat) 2) (ap1.len - ((i : Int).toNat)) (.slice v.a v.len v.cap) H2 (fun n H3 => ((0 : Int) ≤ (w64 (i + ((v.len : Nat) : Int))) ∧ (w64 (i + ((v.len : Nat) : Int))) ≤ ((ap1.len : Nat) : Int)) ∧ ((0 : Int) ≤ i ∧ i ≤ ((s.len : Nat) : Int)) ∧ 
 vCopy Try.prog T_sl_sorted_item_string_string (cutA ap1.a ap1.cap (((w64 (i + ((v.len : Nat) : Int))) : Int).toNat) 2) (ap1.len - (((w64 (i + ((v.len : Nat) : Int))) : Int).toNat)) (.slice (cutA s.a s.cap ((i : Int).toNat) 2) (s.len - ((i : Int).toNat)) (s.cap - ((i : Int).toNat))) H3 (fun n1 H4 => Q (.slice ap1.a ap1.len ap1.cap) H4))))
 (((0 : Int) ≤ (w64 (((s.len : Nat) : Int) + ((v.len : Nat) : Int))) ∧ (w64 (((s.len : Nat) : Int) + ((v.len : Nat) : Int))) ≤ ((s.cap : Nat) : Int)) ∧ ((0 : Int) ≤ (w64 (i + ((v.len : Nat) : Int))) ∧ (w64 (i + ((v.len : Nat) : Int))) ≤ (((((w64 (((s.len : Nat) : Int) + ((v.len : Nat) : Int))) : Int).toNat) : Nat) : Int)) ∧ 
 ExtC Try.prog 86 [.slice v.a v.len v.cap, .slice (cutA (cutA s.a s.cap 0 2) s.cap (((w64 (i + ((v.len : Nat) : Int))) : Int).toNat) 2) ((((w64 (((s.len : Nat) : Int) + ((v.len : Nat) : Int))) : Int).toNat) - (((w64 (i + ((v.len : Nat) : Int))) : Int).toNat)) (s.cap - (((w64 (i + ((v.len : Nat) : Int))) : Int).toNat))] H (fun r H5 => ∃ x : Bool, r = .bool x ∧ 
 Br (!x) (((0 : Int) ≤ (w64 (i + ((v.len : Nat) : Int))) ∧ (w64 (i + ((v.len : Nat) : Int))) ≤ (((((w64 (((s.len : Nat) : Int) + ((v.len : Nat) : Int))) : Int).toNat) : Nat) : Int)) ∧ ((0 : Int) ≤ i ∧ i ≤ (((((w64 (((s.len : Nat) : Int) + ((v.len : Nat) : Int))) : Int).toNat) : Nat) : Int)) ∧ 
 vCopy Try.prog T_sl_sorted_item_string_string (cutA (cutA s.a s.cap 0 2) s.cap (((w64 (i + ((v.len : Nat) : Int))) : Int).toNat) 2) ((((w64 (((s.len : Nat) : Int) + ((v.len : Nat) : Int))) : Int).toNat) - (((w64 (i + ((v.len : Nat) : Int))) : Int).toNat)) (.slice (cutA (cutA s.a s.cap 0 2) s.cap ((i : Int).toNat) 2) ((((w64 (((s.len : Nat) : Int) + ((v.len : Nat) : Int))) : Int).toNat) - ((i : Int).toNat)) (s.cap - ((i : Int).toNat))) H5 (fun n2 H6 => ((0 : Int) ≤ i ∧ i ≤ (((((w64 (((s.len : Nat) : Int) + ((v.len : Nat) : Int))) : Int).toNat) : Nat) : Int)) ∧ 
 vCopy Try.prog T_sl_sorted_item_string_string (cutA (cutA s.a s.cap 0 2) s.cap ((i : Int).toNat) 2) ((((w64 (((s.len : Nat) : Int) + ((v.len : Nat) : Int))) : Int).toNat) - ((i : Int).toNat)) (.slice v.a v.len v.cap) H6 (fun n3 H7 => Q (.slice (cutA s.a s.cap 0 2) (((w64 (((s.len : Nat) : Int) + ((v.len : Nat) : Int))) : Int).toNat) s.cap) H7)))
 (((0 : Int) ≤ ((s.len : Nat) : Int) ∧ ((s.len : Nat) : Int) ≤ (((((w64 (((s.len : Nat) : Int) + ((v.len : Nat) : Int))) : Int).toNat) : Nat) : Int)) ∧ 
 vCopy Try.prog T_sl_sorted_item_string_string (cutA (cutA s.a s.cap 0 2) s.cap ((((s.len : Nat) : Int) : Int).toNat) 2) ((((w64 (((s.len : Nat) : Int) + ((v.len : Nat) : Int))) : Int).toNat) - ((((s.len : Nat) : Int) : Int).toNat)) (.slice v.a v.len v.cap) H5 (fun n4 H8 => ((0 : Int) ≤ i ∧ i ≤ (((((w64 (((s.len : Nat) : Int) + ((v.len : Nat) : Int))) : Int).toNat) : Nat) : Int)) ∧ 
 SCalls Try.prog slices_rotateRight_sorted_item_string_string.id [.slice (cutA (cutA s.a s.cap 0 2) s.cap ((i : Int).toNat) 2) ((((w64 (((s.len : Nat) : Int) + ((v.len : Nat) : Int))) : Int).toNat) - ((i : Int).toNat)) (s.cap - ((i : Int).toNat)), .int .i64 ((v.len : Nat) : Int)] H8 (fun r1 H9 => r1 = .tuple #[] ∧ Q (.slice (cutA s.a s.cap 0 2) (((w64 (((s.len : Nat) : Int) + ((v.len : Nat) : Int))) : Int).toNat) s.cap) H9)))))))
theorem slices_Insert_sl_sorted_item_string_string_sorted_item_string_string.eq (J : Jn) (s : Sl) (i : Int) (v : Sl) (H : Hp) (Q : Value → Hp → Prop) : vFn Try.prog slices_Insert_sl_sorted_item_string_string_sorted_item_string_string.cf J slices_Insert_sl_sorted_item_string_string_sorted_item_string_string.fn [.slice s.a s.len s.cap, .int .i64 i, .slice v.a v.len v.cap] H Q = slices_Insert_sl_sorted_item_string_string_sorted_item_string_string.vc J s i v H Q := by kernel_rfl
theorem slices_Insert_sl_sorted_item_string_string_sorted_item_string_string.calls {s : Sl} {i : Int} {v : Sl} {H : Hp} {Q : Value → Hp → Prop} (h : slices_Insert_sl_sorted_item_string_string_sorted_item_string_string.vc J0 s i v H Q) : SCalls Try.prog slices_Insert_sl_sorted_item_string_string_sorted_item_string_string.id [.slice s.a s.len s.cap, .int .i64 i, .slice v.a v.len v.cap] H Q := vFn_of Try.mixed Try.func68 (slices_Insert_sl_sorted_item_string_string_sorted_item_string_string.eq J0 s i v H Q) h

/-! 70: (*tephra/sorted.Map_string, string_).All$1 -/
noncomputable def sorted_Map_string_string_All_1.cf : Cfg := ⟨[4], [(1, [0, 8, 9, 10])], [], [], true, []⟩
noncomputable def sorted_Map_string_string_All_1.l1.st (yield : Fv) (items : Sl) (H1 : Hp) (x1 : Int) : VS := ⟨mkFr 22 [(0, .v (.func yield.fn yield.fi yield.ca)), (8, .v (.slice items.a items.len items.cap)), (9, .v (.int .i64 ((items.len : Nat) : Int))), (10, .v (.int .i64 x1))], [], H1⟩
noncomputable def sorted_Map_string_string_All_1.l1 (J : Jn) (yield : Fv) (items : Sl) (H1 : Hp) (x1 : Int) (Q : Value → Hp → Prop) : Prop := vAt Try.prog sorted_Map_string_string_All_1.cf J sorted_Map_string_string_All_1.fn [1, 0] [0] Q (sorted_Map_string_string_All_1.l1.st yield items H1 x1)
attribute [irreducible] sorted_Map_string_string_All_1.l1
noncomputable def sorted_Map_string_string_All_1.l1.body (J : Jn) (yield : Fv) (items : Sl) (H1 : Hp) (x1 : Int) (Q : Value → Hp → Prop) : Prop :=
 
 Br (decide (x1 < ((items.len : Nat) : Int))) (((0 : Int) ≤ x1 ∧ x1 < ((items.len : Nat) : Int)) ∧ vPtr items.a (fun a1 => ∃ key : ByteArray, ∃ value : ByteArray, RowAt H1 (a1.add ((x1 : Int).toNat * 2)) [.string key, .string value] ∧ 
 vInv Try.prog (.func yield.fn yield.fi yield.ca) [.string key, .string value] (holes H1 1) (fun r H2 => ∃ x2 : Bool, r = .bool x2 ∧ 
 Br (!x2) (Q (.tuple #[]) H2)
 (
 sorted_Map_string_string_All_1.l1 J yield items H2 (w64 (x1 + 1)) Q))))
 (Q (.tuple #[]) H1)
theorem sorted_Map_string_string_All_1.l1.eq (J : Jn) (yield : Fv) (items : Sl) (H1 : Hp) (x1 : Int) (Q : Value → Hp → Prop) : vAtBody Try.prog sorted_Map_string_string_All_1.cf J sorted_Map_string_string_All_1.fn [1, 0] [0] Q (sorted_Map_string_string_All_1.l1.st yield items H1 x1) = sorted_Map_string_string_All_1.l1.body J yield items H1 x1 Q := by kernel_rfl
theorem sorted_Map_string_string_All_1.l1.step {yield : Fv} {items : Sl} {H1 : Hp} {x1 : Int} {Q : Value → Hp → Prop} (h : sorted_Map_string_string_All_1.l1.body J0 yield items H1 x1 Q) : sorted_Map_string_string_All_1.l1 J0 yield items H1 x1 Q := vAt_stepC (sorted_Map_string_string_All_1.l1.st yield items H1 x1) (sorted_Map_string_string_All_1.l1.eq J0 yield items H1 x1 Q) (by kernel_rfl) h
noncomputable def sorted_Map_string_string_All_1.vc (J : Jn) (yield : Fv) (cap0 : Addr) (H : Hp) (Q : Value → Hp → Prop) : Prop :=
 ∃ x : Option Addr, Hp.cell? H cap0 = some (.pointer x) ∧ vPtr x (fun a => ∃ items : Sl, Hp.cell? H a = some (.slice items.a items.len items.cap) ∧ 
 sorted_Map_string_string_All_1.l1 J yield items H 0 Q)
theorem sorted_Map_string_string_All_1.eq (J : Jn) (yield : Fv) (cap0 : Addr) (H : Hp) (Q : Value → Hp → Prop) : vFn Try.prog sorted_Map_string_string_All_1.cf J sorted_Map_string_string_All_1.fn [.func yield.fn yield.fi yield.ca, .pointer (some cap0)] H Q = sorted_Map_string_string_All_1.vc J yield cap0 H Q := by kernel_rfl
theorem sorted_Map_string_string_All_1.calls {yield : Fv} {cap0 : Addr} {H : Hp} {Q : Value → Hp → Prop} (h : sorted_Map_string_string_All_1.vc J0 yield cap0 H Q) : SCalls Try.prog sorted_Map_string_string_All_1.id [.func yield.fn yield.fi yield.ca, .pointer (some cap0)] H Q := vFn_of Try.mixed Try.func70 (sorted_Map_string_string_All_1.eq J0 yield cap0 H Q) h

/-! 75: tephra/state.sessions -/
noncomputable def state_sessions.cf : Cfg := ⟨[1, 5, 1000003], [(3, [3, 9, 10, 11])], [], [], true, []⟩
noncomputable def state_sessions.l1.st (sIndex : Int) (sTerm : Int) (sPairs : Sl) (sSessions : Sl) (b : Nat) (H3 : Hp) (x : Int) : VS := ⟨mkFr 22 [(3, .v (.pointer (some (Addr.mk b 0 none)))), (9, .v (.slice sSessions.a sSessions.len sSessions.cap)), (10, .v (.int .i64 ((sSessions.len : Nat) : Int))), (11, .v (.int .i64 x))], [(T_api_State, [.int .i64 sIndex, .int .i64 sTerm, .slice sPairs.a sPairs.len sPairs.cap, .slice sSessions.a sSessions.len sSessions.cap])], H3⟩
noncomputable def state_sessions.l1 (J : Jn) (sIndex : Int) (sTerm : Int) (sPairs : Sl) (sSessions : Sl) (b : Nat) (H3 : Hp) (x : Int) (Q : Value → Hp → Prop) : Prop := vAt Try.prog state_sessions.cf J state_sessions.fn [1, 1, 0, 1, 0] [0, 1, 1, 1] Q (state_sessions.l1.st sIndex sTerm sPairs sSessions b H3 x)
attribute [irreducible] state_sessions.l1
noncomputable def state_sessions.l1.body (J : Jn) (sIndex : Int) (sTerm : Int) (sPairs : Sl) (sSessions : Sl) (b : Nat) (H3 : Hp) (x : Int) (Q : Value → Hp → Prop) : Prop :=
 
 Br (decide (x < ((sSessions.len : Nat) : Int))) (((0 : Int) ≤ x ∧ x < ((sSessions.len : Nat) : Int)) ∧ vPtr sSessions.a (fun a => ∃ Client : Int, ∃ Seq : Int, ∃ ReplyErr : Int, ∃ ReplyValue : ByteArray, RowAt H3 (a.add ((x : Int).toNat * 4)) [.int .i64 Client, .int .i64 Seq, .int .i64 ReplyErr, .string ReplyValue] ∧ ∀ H4 : Hp, H4 = (holes H3 1) → 
 SCalls Try.prog sorted_Map_int_api_Session_Put.id [.pointer (some (Addr.mk b 0 none)), .int .i64 Client, .agg #[.int .i64 Client, .int .i64 Seq, .int .i64 ReplyErr, .string ReplyValue]] H4 (fun r H5 => ∃ x1 : Bool, r = .bool x1 ∧ 
 state_sessions.l1 J sIndex sTerm sPairs sSessions b H5 (w64 (x + 1)) Q)))
 (Q (.pointer (some (Addr.mk b 0 none))) H3)
theorem state_sessions.l1.eq (J : Jn) (sIndex : Int) (sTerm : Int) (sPairs : Sl) (sSessions : Sl) (b : Nat) (H3 : Hp) (x : Int) (Q : Value → Hp → Prop) : vAtBody Try.prog state_sessions.cf J state_sessions.fn [1, 1, 0, 1, 0] [0, 1, 1, 1] Q (state_sessions.l1.st sIndex sTerm sPairs sSessions b H3 x) = state_sessions.l1.body J sIndex sTerm sPairs sSessions b H3 x Q := by kernel_rfl
theorem state_sessions.l1.step {sIndex : Int} {sTerm : Int} {sPairs : Sl} {sSessions : Sl} {b : Nat} {H3 : Hp} {x : Int} {Q : Value → Hp → Prop} (h : state_sessions.l1.body J0 sIndex sTerm sPairs sSessions b H3 x Q) : state_sessions.l1 J0 sIndex sTerm sPairs sSessions b H3 x Q := vAt_stepC (state_sessions.l1.st sIndex sTerm sPairs sSessions b H3 x) (state_sessions.l1.eq J0 sIndex sTerm sPairs sSessions b H3 x Q) (by kernel_rfl) h
noncomputable def state_sessions.vc (J : Jn) (sIndex : Int) (sTerm : Int) (sPairs : Sl) (sSessions : Sl) (H : Hp) (Q : Value → Hp → Prop) : Prop :=
 ∀ H1 : Hp, H1 = (holes H 1) → ∀ b : Nat, b = Array.size H1 → ∀ H2 : Hp, H2 = (Array.push H1 (.cells #[.slice none 0 0] T_sorted_Map_int_api_Session)) → 
 state_sessions.l1 J sIndex sTerm sPairs sSessions b H2 0 Q
theorem state_sessions.eq (J : Jn) (sIndex : Int) (sTerm : Int) (sPairs : Sl) (sSessions : Sl) (H : Hp) (Q : Value → Hp → Prop) : vFn Try.prog state_sessions.cf J state_sessions.fn [.agg #[.int .i64 sIndex, .int .i64 sTerm, .slice sPairs.a sPairs.len sPairs.cap, .slice sSessions.a sSessions.len sSessions.cap]] H Q = state_sessions.vc J sIndex sTerm sPairs sSessions H Q := by kernel_rfl
theorem state_sessions.calls {sIndex : Int} {sTerm : Int} {sPairs : Sl} {sSessions : Sl} {H : Hp} {Q : Value → Hp → Prop} (h : state_sessions.vc J0 sIndex sTerm sPairs sSessions H Q) : SCalls Try.prog state_sessions.id [.agg #[.int .i64 sIndex, .int .i64 sTerm, .slice sPairs.a sPairs.len sPairs.cap, .slice sSessions.a sSessions.len sSessions.cap]] H Q := vFn_of Try.mixed Try.func75 (state_sessions.eq J0 sIndex sTerm sPairs sSessions H Q) h

/-! 76: (*tephra/sorted.Map_int, tephra/api.Session_).Get -/
noncomputable def sorted_Map_int_api_Session_Get.cf : Cfg := ⟨[4, 8], [], [], [], true, []⟩
noncomputable def sorted_Map_int_api_Session_Get.vc (J : Jn) (m : Addr) (k : Int) (H : Hp) (Q : Value → Hp → Prop) : Prop :=
 
 SCalls Try.prog sorted_Map_int_api_Session_find.id [.pointer (some m), .int .i64 k] (holes H 1) (fun r H1 => ∃ x : Int, ∃ x1 : Bool, r = .tuple #[.int .i64 x, .bool x1] ∧ 
 Br x1 (∃ items : Sl, Hp.cell? H1 m = some (.slice items.a items.len items.cap) ∧ ((0 : Int) ≤ x ∧ x < ((items.len : Nat) : Int)) ∧ vPtr items.a (fun a => ∃ Client : Int, ∃ Seq : Int, ∃ ReplyErr : Int, ∃ ReplyValue : ByteArray, RowAt H1 ((a.add ((x : Int).toNat * 5)).add 1) [.int .i64 Client, .int .i64 Seq, .int .i64 ReplyErr, .string ReplyValue] ∧ Q (.tuple #[.agg #[.int .i64 Client, .int .i64 Seq, .int .i64 ReplyErr, .string ReplyValue], .bool true]) H1))
 (Q (.tuple #[.agg #[.int .i64 0, .int .i64 0, .int .i64 0, .string (ByteArray.mk #[])], .bool false]) (holes H1 1)))
theorem sorted_Map_int_api_Session_Get.eq (J : Jn) (m : Addr) (k : Int) (H : Hp) (Q : Value → Hp → Prop) : vFn Try.prog sorted_Map_int_api_Session_Get.cf J sorted_Map_int_api_Session_Get.fn [.pointer (some m), .int .i64 k] H Q = sorted_Map_int_api_Session_Get.vc J m k H Q := by kernel_rfl
theorem sorted_Map_int_api_Session_Get.calls {m : Addr} {k : Int} {H : Hp} {Q : Value → Hp → Prop} (h : sorted_Map_int_api_Session_Get.vc J0 m k H Q) : SCalls Try.prog sorted_Map_int_api_Session_Get.id [.pointer (some m), .int .i64 k] H Q := vFn_of Try.mixed Try.func76 (sorted_Map_int_api_Session_Get.eq J0 m k H Q) h

/-! 77: tephra/state.pairs -/
noncomputable def state_pairs.cf : Cfg := ⟨[1, 5, 1000003], [(3, [3, 9, 10, 11])], [], [], true, []⟩
noncomputable def state_pairs.l1.st (sIndex : Int) (sTerm : Int) (sPairs : Sl) (sSessions : Sl) (b : Nat) (H3 : Hp) (x : Int) : VS := ⟨mkFr 23 [(3, .v (.pointer (some (Addr.mk b 0 none)))), (9, .v (.slice sPairs.a sPairs.len sPairs.cap)), (10, .v (.int .i64 ((sPairs.len : Nat) : Int))), (11, .v (.int .i64 x))], [(T_api_State, [.int .i64 sIndex, .int .i64 sTerm, .slice sPairs.a sPairs.len sPairs.cap, .slice sSessions.a sSessions.len sSessions.cap])], H3⟩
noncomputable def state_pairs.l1 (J : Jn) (sIndex : Int) (sTerm : Int) (sPairs : Sl) (sSessions : Sl) (b : Nat) (H3 : Hp) (x : Int) (Q : Value → Hp → Prop) : Prop := vAt Try.prog state_pairs.cf J state_pairs.fn [1, 1, 0, 1, 0] [0, 1, 1, 1] Q (state_pairs.l1.st sIndex sTerm sPairs sSessions b H3 x)
attribute [irreducible] state_pairs.l1
noncomputable def state_pairs.l1.body (J : Jn) (sIndex : Int) (sTerm : Int) (sPairs : Sl) (sSessions : Sl) (b : Nat) (H3 : Hp) (x : Int) (Q : Value → Hp → Prop) : Prop :=
 
 Br (decide (x < ((sPairs.len : Nat) : Int))) (((0 : Int) ≤ x ∧ x < ((sPairs.len : Nat) : Int)) ∧ vPtr sPairs.a (fun a => ∃ Key : ByteArray, ∃ Valuev : ByteArray, ∃ Gone : Bool, RowAt H3 (a.add ((x : Int).toNat * 3)) [.string Key, .string Valuev, .bool Gone] ∧ ∀ H4 : Hp, H4 = (holes H3 1) → 
 SCalls Try.prog sorted_Map_string_string_Put.id [.pointer (some (Addr.mk b 0 none)), .string Key, .string Valuev] H4 (fun r H5 => ∃ x1 : Bool, r = .bool x1 ∧ 
 state_pairs.l1 J sIndex sTerm sPairs sSessions b H5 (w64 (x + 1)) Q)))
 (Q (.pointer (some (Addr.mk b 0 none))) H3)
theorem state_pairs.l1.eq (J : Jn) (sIndex : Int) (sTerm : Int) (sPairs : Sl) (sSessions : Sl) (b : Nat) (H3 : Hp) (x : Int) (Q : Value → Hp → Prop) : vAtBody Try.prog state_pairs.cf J state_pairs.fn [1, 1, 0, 1, 0] [0, 1, 1, 1] Q (state_pairs.l1.st sIndex sTerm sPairs sSessions b H3 x) = state_pairs.l1.body J sIndex sTerm sPairs sSessions b H3 x Q := by kernel_rfl
theorem state_pairs.l1.step {sIndex : Int} {sTerm : Int} {sPairs : Sl} {sSessions : Sl} {b : Nat} {H3 : Hp} {x : Int} {Q : Value → Hp → Prop} (h : state_pairs.l1.body J0 sIndex sTerm sPairs sSessions b H3 x Q) : state_pairs.l1 J0 sIndex sTerm sPairs sSessions b H3 x Q := vAt_stepC (state_pairs.l1.st sIndex sTerm sPairs sSessions b H3 x) (state_pairs.l1.eq J0 sIndex sTerm sPairs sSessions b H3 x Q) (by kernel_rfl) h
noncomputable def state_pairs.vc (J : Jn) (sIndex : Int) (sTerm : Int) (sPairs : Sl) (sSessions : Sl) (H : Hp) (Q : Value → Hp → Prop) : Prop :=
 ∀ H1 : Hp, H1 = (holes H 1) → ∀ b : Nat, b = Array.size H1 → ∀ H2 : Hp, H2 = (Array.push H1 (.cells #[.slice none 0 0] T_sorted_Map_string_string)) → 
 state_pairs.l1 J sIndex sTerm sPairs sSessions b H2 0 Q
theorem state_pairs.eq (J : Jn) (sIndex : Int) (sTerm : Int) (sPairs : Sl) (sSessions : Sl) (H : Hp) (Q : Value → Hp → Prop) : vFn Try.prog state_pairs.cf J state_pairs.fn [.agg #[.int .i64 sIndex, .int .i64 sTerm, .slice sPairs.a sPairs.len sPairs.cap, .slice sSessions.a sSessions.len sSessions.cap]] H Q = state_pairs.vc J sIndex sTerm sPairs sSessions H Q := by kernel_rfl
theorem state_pairs.calls {sIndex : Int} {sTerm : Int} {sPairs : Sl} {sSessions : Sl} {H : Hp} {Q : Value → Hp → Prop} (h : state_pairs.vc J0 sIndex sTerm sPairs sSessions H Q) : SCalls Try.prog state_pairs.id [.agg #[.int .i64 sIndex, .int .i64 sTerm, .slice sPairs.a sPairs.len sPairs.cap, .slice sSessions.a sSessions.len sSessions.cap]] H Q := vFn_of Try.mixed Try.func77 (state_pairs.eq J0 sIndex sTerm sPairs sSessions H Q) h

/-! 78: tephra/state.do -/
noncomputable def state_do.cf : Cfg := ⟨[3, 4, 1000003], [], [(4, [0, 3, 4, 5, 6, 20], true), (6, [0, 3, 4, 5, 34], true), (8, [0, 3, 4, 5, 43], true)], [(27, [0, 3, 4, 5, 6, 27])], true, []⟩
noncomputable def state_do.k1.st (m : Addr) (cOp : Int) (cClient : Int) (cSeq : Int) (cKey : ByteArray) (cValue : ByteArray) (cOld : ByteArray) (H3 : Hp) (x : ByteArray) (x1 : Bool) (x2 : Bool) : VS := ⟨mkFr 65 [(0, .v (.pointer (some m))), (3, .loc 0 0), (4, .loc 1 0), (5, .v (.string x)), (6, .v (.bool x1)), (27, .v (.bool x2))], [(T_api_Cmd, [.int .i64 cOp, .int .i64 cClient, .int .i64 cSeq, .string cKey, .string cValue, .string cOld]), (T_api_Reply, [.int .i64 0, .string (ByteArray.mk #[])])], H3⟩
noncomputable def state_do.k1 (J : Jn) (m : Addr) (cOp : Int) (cClient : Int) (cSeq : Int) (cKey : ByteArray) (cValue : ByteArray) (cOld : ByteArray) (H3 : Hp) (x : ByteArray) (x1 : Bool) (x2 : Bool) (Q : Value → Hp → Prop) : Prop := J (vMid Try.prog state_do.cf J state_do.fn [1, 1, 0, 0, 0] [0, 2, 2, 2] 7 Q) (state_do.k1.st m cOp cClient cSeq cKey cValue cOld H3 x x1 x2)
noncomputable def state_do.k2.st (m : Addr) (cOp : Int) (cClient : Int) (cSeq : Int) (cKey : ByteArray) (cValue : ByteArray) (cOld : ByteArray) (x : ByteArray) (x1 : Bool) (x4 : Bool) (H5 : Hp) : VS := ⟨mkFr 65 [(0, .v (.pointer (some m))), (3, .loc 0 0), (4, .loc 1 0), (5, .v (.string x)), (6, .v (.bool x1)), (20, .v (.bool x4))], [(T_api_Cmd, [.int .i64 cOp, .int .i64 cClient, .int .i64 cSeq, .string cKey, .string cValue, .string cOld]), (T_api_Reply, [.int .i64 0, .string (ByteArray.mk #[])])], H5⟩
noncomputable def state_do.k2 (J : Jn) (m : Addr) (cOp : Int) (cClient : Int) (cSeq : Int) (cKey : ByteArray) (cValue : ByteArray) (cOld : ByteArray) (x : ByteArray) (x1 : Bool) (x4 : Bool) (H5 : Hp) (Q : Value → Hp → Prop) : Prop := J (vSeg Try.prog state_do.cf J state_do.fn [1, 1, 0, 0, 1] [0, 2, 2, 2] Q) (state_do.k2.st m cOp cClient cSeq cKey cValue cOld x x1 x4 H5)
noncomputable def state_do.k3.st (m : Addr) (cOp : Int) (cClient : Int) (cSeq : Int) (cKey : ByteArray) (cValue : ByteArray) (cOld : ByteArray) (x : ByteArray) (H5 : Hp) (x5 : Bool) : VS := ⟨mkFr 65 [(0, .v (.pointer (some m))), (3, .loc 0 0), (4, .loc 1 0), (5, .v (.string x)), (34, .v (.bool x5))], [(T_api_Cmd, [.int .i64 cOp, .int .i64 cClient, .int .i64 cSeq, .string cKey, .string cValue, .string cOld]), (T_api_Reply, [.int .i64 0, .string (ByteArray.mk #[])])], H5⟩
noncomputable def state_do.k3 (J : Jn) (m : Addr) (cOp : Int) (cClient : Int) (cSeq : Int) (cKey : ByteArray) (cValue : ByteArray) (cOld : ByteArray) (x : ByteArray) (H5 : Hp) (x5 : Bool) (Q : Value → Hp → Prop) : Prop := J (vSeg Try.prog state_do.cf J state_do.fn [1, 1, 0, 0, 1, 1, 1] [0, 2, 2, 2, 2] Q) (state_do.k3.st m cOp cClient cSeq cKey cValue cOld x H5 x5)
noncomputable def state_do.k4.st (m : Addr) (cOp : Int) (cClient : Int) (cSeq : Int) (cKey : ByteArray) (cValue : ByteArray) (cOld : ByteArray) (x : ByteArray) (H5 : Hp) (x6 : Bool) : VS := ⟨mkFr 65 [(0, .v (.pointer (some m))), (3, .loc 0 0), (4, .loc 1 0), (5, .v (.string x)), (43, .v (.bool x6))], [(T_api_Cmd, [.int .i64 cOp, .int .i64 cClient, .int .i64 cSeq, .string cKey, .string cValue, .string cOld]), (T_api_Reply, [.int .i64 0, .string (ByteArray.mk #[])])], H5⟩
noncomputable def state_do.k4 (J : Jn) (m : Addr) (cOp : Int) (cClient : Int) (cSeq : Int) (cKey : ByteArray) (cValue : ByteArray) (cOld : ByteArray) (x : ByteArray) (H5 : Hp) (x6 : Bool) (Q : Value → Hp → Prop) : Prop := J (vSeg Try.prog state_do.cf J state_do.fn [1, 1, 0, 0, 1, 1, 1, 1, 1] [0, 2, 2, 2, 2, 2] Q) (state_do.k4.st m cOp cClient cSeq cKey cValue cOld x H5 x6)
attribute [irreducible] state_do.k1 state_do.k2 state_do.k3 state_do.k4
noncomputable def state_do.k1.body (J : Jn) (m : Addr) (cOp : Int) (cClient : Int) (cSeq : Int) (cKey : ByteArray) (cValue : ByteArray) (cOld : ByteArray) (H3 : Hp) (x : ByteArray) (x1 : Bool) (x2 : Bool) (Q : Value → Hp → Prop) : Prop :=
 
 Br x2 (
 SCalls Try.prog sorted_Map_string_string_Len.id [.pointer (some m)] H3 (fun r1 H4 => ∃ x3 : Int, r1 = .int .i64 x3 ∧ 
 state_do.k2 J m cOp cClient cSeq cKey cValue cOld x x1 (decide (x3 ≥ 64)) H4 Q))
 (
 state_do.k2 J m cOp cClient cSeq cKey cValue cOld x x1 false H3 Q)
theorem state_do.k1.eq (J : Jn) (m : Addr) (cOp : Int) (cClient : Int) (cSeq : Int) (cKey : ByteArray) (cValue : ByteArray) (cOld : ByteArray) (H3 : Hp) (x : ByteArray) (x1 : Bool) (x2 : Bool) (Q : Value → Hp → Prop) : vMid Try.prog state_do.cf J state_do.fn [1, 1, 0, 0, 0] [0, 2, 2, 2] 7 Q (state_do.k1.st m cOp cClient cSeq cKey cValue cOld H3 x x1 x2) = state_do.k1.body J m cOp cClient cSeq cKey cValue cOld H3 x x1 x2 Q := by kernel_rfl
theorem state_do.k1.step {m : Addr} {cOp : Int} {cClient : Int} {cSeq : Int} {cKey : ByteArray} {cValue : ByteArray} {cOld : ByteArray} {H3 : Hp} {x : ByteArray} {x1 : Bool} {x2 : Bool} {Q : Value → Hp → Prop} (h : state_do.k1.body J0 m cOp cClient cSeq cKey cValue cOld H3 x x1 x2 Q) : state_do.k1 J0 m cOp cClient cSeq cKey cValue cOld H3 x x1 x2 Q := step_of (vMid Try.prog state_do.cf J0 state_do.fn [1, 1, 0, 0, 0] [0, 2, 2, 2] 7 Q) (state_do.k1.st m cOp cClient cSeq cKey cValue cOld H3 x x1 x2) (state_do.k1.eq J0 m cOp cClient cSeq cKey cValue cOld H3 x x1 x2 Q) (by kernel_rfl) h
noncomputable def state_do.k2.body (J : Jn) (m : Addr) (cOp : Int) (cClient : Int) (cSeq : Int) (cKey : ByteArray) (cValue : ByteArray) (cOld : ByteArray) (x : ByteArray) (x1 : Bool) (x4 : Bool) (H5 : Hp) (Q : Value → Hp → Prop) : Prop :=
 
 Br x4 (Q (.agg #[.int .i64 4, .string (ByteArray.mk #[])]) H5)
 (
 Br (cOp != 1) (
 state_do.k3 J m cOp cClient cSeq cKey cValue cOld x H5 (!x1) Q)
 (
 state_do.k3 J m cOp cClient cSeq cKey cValue cOld x H5 false Q))
theorem state_do.k2.eq (J : Jn) (m : Addr) (cOp : Int) (cClient : Int) (cSeq : Int) (cKey : ByteArray) (cValue : ByteArray) (cOld : ByteArray) (x : ByteArray) (x1 : Bool) (x4 : Bool) (H5 : Hp) (Q : Value → Hp → Prop) : vSeg Try.prog state_do.cf J state_do.fn [1, 1, 0, 0, 1] [0, 2, 2, 2] Q (state_do.k2.st m cOp cClient cSeq cKey cValue cOld x x1 x4 H5) = state_do.k2.body J m cOp cClient cSeq cKey cValue cOld x x1 x4 H5 Q := by kernel_rfl
theorem state_do.k2.step {m : Addr} {cOp : Int} {cClient : Int} {cSeq : Int} {cKey : ByteArray} {cValue : ByteArray} {cOld : ByteArray} {x : ByteArray} {x1 : Bool} {x4 : Bool} {H5 : Hp} {Q : Value → Hp → Prop} (h : state_do.k2.body J0 m cOp cClient cSeq cKey cValue cOld x x1 x4 H5 Q) : state_do.k2 J0 m cOp cClient cSeq cKey cValue cOld x x1 x4 H5 Q := step_of (vSeg Try.prog state_do.cf J0 state_do.fn [1, 1, 0, 0, 1] [0, 2, 2, 2] Q) (state_do.k2.st m cOp cClient cSeq cKey cValue cOld x x1 x4 H5) (state_do.k2.eq J0 m cOp cClient cSeq cKey cValue cOld x x1 x4 H5 Q) (by kernel_rfl) h
noncomputable def state_do.k3.body (J : Jn) (m : Addr) (cOp : Int) (cClient : Int) (cSeq : Int) (cKey : ByteArray) (cValue : ByteArray) (cOld : ByteArray) (x : ByteArray) (H5 : Hp) (x5 : Bool) (Q : Value → Hp → Prop) : Prop :=
 
 Br x5 (Q (.agg #[.int .i64 6, .string (ByteArray.mk #[])]) H5)
 (
 Br (cOp == 3) (
 state_do.k4 J m cOp cClient cSeq cKey cValue cOld x H5 (!(x.toList == cOld.toList)) Q)
 (
 state_do.k4 J m cOp cClient cSeq cKey cValue cOld x H5 false Q))
theorem state_do.k3.eq (J : Jn) (m : Addr) (cOp : Int) (cClient : Int) (cSeq : Int) (cKey : ByteArray) (cValue : ByteArray) (cOld : ByteArray) (x : ByteArray) (H5 : Hp) (x5 : Bool) (Q : Value → Hp → Prop) : vSeg Try.prog state_do.cf J state_do.fn [1, 1, 0, 0, 1, 1, 1] [0, 2, 2, 2, 2] Q (state_do.k3.st m cOp cClient cSeq cKey cValue cOld x H5 x5) = state_do.k3.body J m cOp cClient cSeq cKey cValue cOld x H5 x5 Q := by kernel_rfl
theorem state_do.k3.step {m : Addr} {cOp : Int} {cClient : Int} {cSeq : Int} {cKey : ByteArray} {cValue : ByteArray} {cOld : ByteArray} {x : ByteArray} {H5 : Hp} {x5 : Bool} {Q : Value → Hp → Prop} (h : state_do.k3.body J0 m cOp cClient cSeq cKey cValue cOld x H5 x5 Q) : state_do.k3 J0 m cOp cClient cSeq cKey cValue cOld x H5 x5 Q := step_of (vSeg Try.prog state_do.cf J0 state_do.fn [1, 1, 0, 0, 1, 1, 1] [0, 2, 2, 2, 2] Q) (state_do.k3.st m cOp cClient cSeq cKey cValue cOld x H5 x5) (state_do.k3.eq J0 m cOp cClient cSeq cKey cValue cOld x H5 x5 Q) (by kernel_rfl) h
noncomputable def state_do.k4.body (J : Jn) (m : Addr) (cOp : Int) (cClient : Int) (cSeq : Int) (cKey : ByteArray) (cValue : ByteArray) (cOld : ByteArray) (x : ByteArray) (H5 : Hp) (x6 : Bool) (Q : Value → Hp → Prop) : Prop :=
 
 Br x6 (Q (.agg #[.int .i64 11, .string x]) H5)
 (
 Br (cOp == 2) (
 SCalls Try.prog sorted_Map_string_string_Del.id [.pointer (some m), .string cKey] H5 (fun r2 H6 => ∃ x7 : Bool, r2 = .bool x7 ∧ Q (.agg #[.int .i64 0, .string x]) H6))
 (
 SCalls Try.prog sorted_Map_string_string_Put.id [.pointer (some m), .string cKey, .string cValue] H5 (fun r3 H7 => ∃ x8 : Bool, r3 = .bool x8 ∧ Q (.agg #[.int .i64 0, .string x]) H7)))
theorem state_do.k4.eq (J : Jn) (m : Addr) (cOp : Int) (cClient : Int) (cSeq : Int) (cKey : ByteArray) (cValue : ByteArray) (cOld : ByteArray) (x : ByteArray) (H5 : Hp) (x6 : Bool) (Q : Value → Hp → Prop) : vSeg Try.prog state_do.cf J state_do.fn [1, 1, 0, 0, 1, 1, 1, 1, 1] [0, 2, 2, 2, 2, 2] Q (state_do.k4.st m cOp cClient cSeq cKey cValue cOld x H5 x6) = state_do.k4.body J m cOp cClient cSeq cKey cValue cOld x H5 x6 Q := by kernel_rfl
theorem state_do.k4.step {m : Addr} {cOp : Int} {cClient : Int} {cSeq : Int} {cKey : ByteArray} {cValue : ByteArray} {cOld : ByteArray} {x : ByteArray} {H5 : Hp} {x6 : Bool} {Q : Value → Hp → Prop} (h : state_do.k4.body J0 m cOp cClient cSeq cKey cValue cOld x H5 x6 Q) : state_do.k4 J0 m cOp cClient cSeq cKey cValue cOld x H5 x6 Q := step_of (vSeg Try.prog state_do.cf J0 state_do.fn [1, 1, 0, 0, 1, 1, 1, 1, 1] [0, 2, 2, 2, 2, 2] Q) (state_do.k4.st m cOp cClient cSeq cKey cValue cOld x H5 x6) (state_do.k4.eq J0 m cOp cClient cSeq cKey cValue cOld x H5 x6 Q) (by kernel_rfl) h
noncomputable def state_do.vc (J : Jn) (m : Addr) (cOp : Int) (cClient : Int) (cSeq : Int) (cKey : ByteArray) (cValue : ByteArray) (cOld : ByteArray) (H : Hp) (Q : Value → Hp → Prop) : Prop :=
 ∀ H1 : Hp, H1 = (holes H 1) → ∀ H2 : Hp, H2 = (holes H1 1) → 
 SCalls Try.prog sorted_Map_string_string_Get.id [.pointer (some m), .string cKey] H2 (fun r H3 => ∃ x : ByteArray, ∃ x1 : Bool, r = .tuple #[.string x, .bool x1] ∧ 
 Br (cOp == 1) (
 state_do.k1 J m cOp cClient cSeq cKey cValue cOld H3 x x1 (!x1) Q)
 (
 state_do.k1 J m cOp cClient cSeq cKey cValue cOld H3 x x1 false Q))
theorem state_do.eq (J : Jn) (m : Addr) (cOp : Int) (cClient : Int) (cSeq : Int) (cKey : ByteArray) (cValue : ByteArray) (cOld : ByteArray) (H : Hp) (Q : Value → Hp → Prop) : vFn Try.prog state_do.cf J state_do.fn [.pointer (some m), .agg #[.int .i64 cOp, .int .i64 cClient, .int .i64 cSeq, .string cKey, .string cValue, .string cOld]] H Q = state_do.vc J m cOp cClient cSeq cKey cValue cOld H Q := by kernel_rfl
theorem state_do.calls {m : Addr} {cOp : Int} {cClient : Int} {cSeq : Int} {cKey : ByteArray} {cValue : ByteArray} {cOld : ByteArray} {H : Hp} {Q : Value → Hp → Prop} (h : state_do.vc J0 m cOp cClient cSeq cKey cValue cOld H Q) : SCalls Try.prog state_do.id [.pointer (some m), .agg #[.int .i64 cOp, .int .i64 cClient, .int .i64 cSeq, .string cKey, .string cValue, .string cOld]] H Q := vFn_of Try.mixed Try.func78 (state_do.eq J0 m cOp cClient cSeq cKey cValue cOld H Q) h

/-! 79: tephra/state.rows -/
noncomputable def state_rows.cf : Cfg := ⟨[1000003], [(1000005, [3])], [], [], true, []⟩
noncomputable def state_rows.cfr : Cfg := { state_rows.cf with rf := false }
noncomputable def state_rows.r1.fr (b : Nat) : List AV := mkFr 17 [(3, .v (.pointer (some (Addr.mk b 0 none))))]
noncomputable def state_rows.r1.code : Code := sub (bodyOf state_rows.fn) [1, 1, 0, 1, 0]
noncomputable def state_rows.r1.rec (fn : FuncId) (tm : Array Value) (d : Nat) (st : LoopState) (pd : Option Code) : Obj := recO fn tm (rgP state_rows.r1.code) (rgA state_rows.r1.code) (rgB state_rows.r1.code) d st pd
noncomputable def state_rows.r1.body (J : Jn) (b : Nat) (l : Nat) (rc : LoopState → Option Code → Obj) (k : ByteArray) (v : ByteArray) (H3 : Hp) (Q : Value → Hp → Prop) : Prop :=
 H3[l]? = some (rc .ready none) ∧ ∀ H4 : Hp, H4 = (Array.setIfInBounds H3 l (rc .busy none)) → ∃ x1 : Sl, Hp.cell? H4 (Addr.mk b 0 none) = some (.slice x1.a x1.len x1.cap) ∧ ∀ b1 : Nat, b1 = Array.size H4 → ∀ H5 : Hp, H5 = (Array.push H4 (.cells #[.string k, .string v, .bool false] T_api_Pair)) → 
 vApp Try.prog T_sl_api_Pair x1.a x1.len x1.cap (.slice (some (Addr.mk b1 0 none)) 1 1) H5 (fun ap H6 => WrAt H6 (Addr.mk b 0 none) 1 ∧ ∀ H7 : Hp, H7 = (Hp.setCell H6 (Addr.mk b 0 none) (.slice ap.a ap.len ap.cap)) → 
 ((∃ st : LoopState, ∃ pd : Option Code, H7[l]? = some (rc st pd)) ∧ Q (.bool true) (Array.setIfInBounds H7 l (rc .ready none))))
theorem state_rows.r1.eq (J : Jn) (b : Nat) (l : Nat) (rc : LoopState → Option Code → Obj) (k : ByteArray) (v : ByteArray) (H3 : Hp) (Q : Value → Hp → Prop) : vRound Try.prog state_rows.cfr J (rgA state_rows.r1.code) (rgB state_rows.r1.code) (setFr (state_rows.r1.fr b) (rgP state_rows.r1.code).toList [.string k, .string v]) l rc H3 Q = state_rows.r1.body J b l rc k v H3 Q := by kernel_rfl
theorem state_rows.r1.calls {b : Nat} {l : Nat} {k : ByteArray} {v : ByteArray} {H3 : Hp} {fnA : FuncId} {tmA : Array Value} {dA : Nat} {Q : Value → Hp → Prop} (hl : H3[l]? = some (state_rows.r1.rec fnA tmA dA .ready none)) (hT : TmOf (state_rows.r1.fr b) tmA) (h : state_rows.r1.body J0 b l (state_rows.r1.rec fnA tmA dA) k v H3 Q) : YCalls Try.prog l [.string k, .string v] H3 Q := vRound_calls (cf := state_rows.cfr) (fn := fnA) (tm := tmA) (ps := rgP state_rows.r1.code) (asg := rgA state_rows.r1.code) (body := rgB state_rows.r1.code) (d := dA) (fr := (state_rows.r1.fr b)) Try.mixed (by kernel_rfl) hl (by kernel_rfl) hT ((state_rows.r1.eq J0 b l (state_rows.r1.rec fnA tmA dA) k v H3 Q).mpr h)
attribute [irreducible] state_rows.r1.rec state_rows.r1.fr state_rows.r1.code
noncomputable def state_rows.vc (J : Jn) (m : Addr) (H : Hp) (Q : Value → Hp → Prop) : Prop :=
 ∀ b : Nat, b = Array.size H → ∀ H1 : Hp, H1 = (Array.push H (.cells #[.slice none 0 0] T_sl_api_Pair)) → 
 SCalls Try.prog sorted_Map_string_string_All.id [.pointer (some m)] H1 (fun r H2 => ∃ x : Fv, r = .func x.fn x.fi x.ca ∧ 
 ∀ fn : FuncId, ∀ tm : Array Value, TmOf (state_rows.r1.fr b) tm → vRg Try.prog (.func x.fn x.fi x.ca) (Array.size H2 + 1) (Array.push (Array.push H2 hole) (state_rows.r1.rec fn tm (Array.size H2) .ready none)) (fun H8 => ∃ st : LoopState, ∃ pd : Option Code, H8[(Array.size H2 + 1)]? = some (state_rows.r1.rec fn tm (Array.size H2) st pd) ∧ st ≠ .busy ∧ ∀ H9 : Hp, H9 = (Array.setIfInBounds H8 (Array.size H2 + 1) (state_rows.r1.rec fn tm (Array.size H2) .exhausted pd)) → ((pd = none → ∃ x2 : Sl, Hp.cell? H9 (Addr.mk b 0 none) = some (.slice x2.a x2.len x2.cap) ∧ Q (.slice x2.a x2.len x2.cap) H9) ∧ (pd = some .ret → Q (.slice none 0 0) H9) ∧ (True) ∧ (pd = none ∨ pd = some .ret ∨ ∃ i ∈ ([] : List Nat), pd = some (.exit i)))))
theorem state_rows.eq (J : Jn) (m : Addr) (H : Hp) (Q : Value → Hp → Prop) : vFn Try.prog state_rows.cf J state_rows.fn [.pointer (some m)] H Q = state_rows.vc J m H Q := by kernel_rfl
theorem state_rows.calls {m : Addr} {H : Hp} {Q : Value → Hp → Prop} (h : state_rows.vc J0 m H Q) : SCalls Try.prog state_rows.id [.pointer (some m)] H Q := vFn_of Try.mixed Try.func79 (state_rows.eq J0 m H Q) h

/-! 80: (*tephra/sorted.Map_int, tephra/api.Session_).Put -/
noncomputable def sorted_Map_int_api_Session_Put.cf : Cfg := ⟨[5], [], [], [], true, []⟩
noncomputable def sorted_Map_int_api_Session_Put.vc (J : Jn) (m : Addr) (k : Int) (vClient : Int) (vSeq : Int) (vReplyErr : Int) (vReplyValue : ByteArray) (H : Hp) (Q : Value → Hp → Prop) : Prop :=
 
 SCalls Try.prog sorted_Map_int_api_Session_find.id [.pointer (some m), .int .i64 k] (holes H 1) (fun r H1 => ∃ x : Int, ∃ x1 : Bool, r = .tuple #[.int .i64 x, .bool x1] ∧ 
 Br x1 (∃ items : Sl, Hp.cell? H1 m = some (.slice items.a items.len items.cap) ∧ ((0 : Int) ≤ x ∧ x < ((items.len : Nat) : Int)) ∧ vPtr items.a (fun a => WrAt H1 ((a.add ((x : Int).toNat * 5)).add 1) 4 ∧ Q (.bool false) (Hp.setCells H1 ((a.add ((x : Int).toNat * 5)).add 1) [.int .i64 vClient, .int .i64 vSeq, .int .i64 vReplyErr, .string vReplyValue] 0)))
 (∃ items1 : Sl, Hp.cell? H1 m = some (.slice items1.a items1.len items1.cap) ∧ 
 SCalls Try.prog slices_Insert_sl_sorted_item_int_api_Session_sorted_item_int_api_Session.id [.slice items1.a items1.len items1.cap, .int .i64 x, .slice (some (Addr.mk (Array.size H1) 0 none)) 1 1] (Array.push H1 (.cells #[.int .i64 k, .int .i64 vClient, .int .i64 vSeq, .int .i64 vReplyErr, .string vReplyValue] T_sorted_item_int_api_Session)) (fun r1 H2 => ∃ x2 : Sl, r1 = .slice x2.a x2.len x2.cap ∧ WrAt H2 m 1 ∧ Q (.bool true) (Hp.setCell H2 m (.slice x2.a x2.len x2.cap)))))
theorem sorted_Map_int_api_Session_Put.eq (J : Jn) (m : Addr) (k : Int) (vClient : Int) (vSeq : Int) (vReplyErr : Int) (vReplyValue : ByteArray) (H : Hp) (Q : Value → Hp → Prop) : vFn Try.prog sorted_Map_int_api_Session_Put.cf J sorted_Map_int_api_Session_Put.fn [.pointer (some m), .int .i64 k, .agg #[.int .i64 vClient, .int .i64 vSeq, .int .i64 vReplyErr, .string vReplyValue]] H Q = sorted_Map_int_api_Session_Put.vc J m k vClient vSeq vReplyErr vReplyValue H Q := by kernel_rfl
theorem sorted_Map_int_api_Session_Put.calls {m : Addr} {k : Int} {vClient : Int} {vSeq : Int} {vReplyErr : Int} {vReplyValue : ByteArray} {H : Hp} {Q : Value → Hp → Prop} (h : sorted_Map_int_api_Session_Put.vc J0 m k vClient vSeq vReplyErr vReplyValue H Q) : SCalls Try.prog sorted_Map_int_api_Session_Put.id [.pointer (some m), .int .i64 k, .agg #[.int .i64 vClient, .int .i64 vSeq, .int .i64 vReplyErr, .string vReplyValue]] H Q := vFn_of Try.mixed Try.func80 (sorted_Map_int_api_Session_Put.eq J0 m k vClient vSeq vReplyErr vReplyValue H Q) h

/-! 81: (*tephra/sorted.Map_int, tephra/api.Session_).All -/
noncomputable def sorted_Map_int_api_Session_All.cf : Cfg := ⟨[], [], [], [], true, []⟩
noncomputable def sorted_Map_int_api_Session_All.vc (J : Jn) (m : Addr) (H : Hp) (Q : Value → Hp → Prop) : Prop :=
 Q (.func (.func 94) #[] #[.pointer (some (Addr.mk (Array.size H) 0 none))]) (Array.push H (.cells #[.pointer (some m)] T_p_sorted_Map_int_api_Session))
theorem sorted_Map_int_api_Session_All.eq (J : Jn) (m : Addr) (H : Hp) (Q : Value → Hp → Prop) : vFn Try.prog sorted_Map_int_api_Session_All.cf J sorted_Map_int_api_Session_All.fn [.pointer (some m)] H Q = sorted_Map_int_api_Session_All.vc J m H Q := by kernel_rfl
theorem sorted_Map_int_api_Session_All.calls {m : Addr} {H : Hp} {Q : Value → Hp → Prop} (h : sorted_Map_int_api_Session_All.vc J0 m H Q) : SCalls Try.prog sorted_Map_int_api_Session_All.id [.pointer (some m)] H Q := vFn_of Try.mixed Try.func81 (sorted_Map_int_api_Session_All.eq J0 m H Q) h

/-! 83: slices.BinarySearchFunc___tephra/sorted.item_string, string_,tephra/sorted.item_string, string_,string_ -/
noncomputable def slices_BinarySearchFunc_sl_sorted_item_string_string_sorted_item_string_string_string.cf : Cfg := ⟨[], [(3, [0, 1, 2, 8, 9, 10])], [], [], true, []⟩
noncomputable def slices_BinarySearchFunc_sl_sorted_item_string_string_sorted_item_string_string_string.l1.st (x : Sl) (target : ByteArray) (cmp : Fv) (H1 : Hp) (i : Int) (j : Int) : VS := ⟨mkFr 49 [(0, .v (.slice x.a x.len x.cap)), (1, .v (.string target)), (2, .v (.func cmp.fn cmp.fi cmp.ca)), (8, .v (.int .i64 ((x.len : Nat) : Int))), (9, .v (.int .i64 i)), (10, .v (.int .i64 j))], [], H1⟩
noncomputable def slices_BinarySearchFunc_sl_sorted_item_string_string_sorted_item_string_string_string.l1 (J : Jn) (x : Sl) (target : ByteArray) (cmp : Fv) (H1 : Hp) (i : Int) (j : Int) (Q : Value → Hp → Prop) : Prop := vAt Try.prog slices_BinarySearchFunc_sl_sorted_item_string_string_sorted_item_string_string_string.cf J slices_BinarySearchFunc_sl_sorted_item_string_string_sorted_item_string_string_string.fn [1, 1, 1, 0, 0] [0, 0, 0, 0] Q (slices_BinarySearchFunc_sl_sorted_item_string_string_sorted_item_string_string_string.l1.st x target cmp H1 i j)
attribute [irreducible] slices_BinarySearchFunc_sl_sorted_item_string_string_sorted_item_string_string_string.l1
noncomputable def slices_BinarySearchFunc_sl_sorted_item_string_string_sorted_item_string_string_string.l1.body (J : Jn) (x : Sl) (target : ByteArray) (cmp : Fv) (H1 : Hp) (i : Int) (j : Int) (Q : Value → Hp → Prop) : Prop :=
 
 Br (decide (i < j)) ((0 : Int) ≤ 1 ∧ ((0 : Int) ≤ (w64 ((Int.fdiv (IntKind.u64.wrap ((w64 (i + j)))) (2 ^ 1)))) ∧ (w64 ((Int.fdiv (IntKind.u64.wrap ((w64 (i + j)))) (2 ^ 1)))) < ((x.len : Nat) : Int)) ∧ vPtr x.a (fun a => ∃ key : ByteArray, ∃ value : ByteArray, RowAt H1 (a.add (((w64 ((Int.fdiv (IntKind.u64.wrap ((w64 (i + j)))) (2 ^ 1)))) : Int).toNat * 2)) [.string key, .string value] ∧ 
 vInv Try.prog (.func cmp.fn cmp.fi cmp.ca) [.agg #[.string key, .string value], .string target] H1 (fun r H2 => ∃ x1 : Int, r = .int .i64 x1 ∧ 
 Br (decide (x1 < 0)) (
 slices_BinarySearchFunc_sl_sorted_item_string_string_sorted_item_string_string_string.l1 J x target cmp H2 (w64 ((w64 ((Int.fdiv (IntKind.u64.wrap ((w64 (i + j)))) (2 ^ 1)))) + 1)) j Q)
 (
 slices_BinarySearchFunc_sl_sorted_item_string_string_sorted_item_string_string_string.l1 J x target cmp H2 i (w64 ((Int.fdiv (IntKind.u64.wrap ((w64 (i + j)))) (2 ^ 1)))) Q))))
 (
 Br (decide (i < ((x.len : Nat) : Int))) (((0 : Int) ≤ i ∧ i < ((x.len : Nat) : Int)) ∧ vPtr x.a (fun a1 => ∃ key1 : ByteArray, ∃ value1 : ByteArray, RowAt H1 (a1.add ((i : Int).toNat * 2)) [.string key1, .string value1] ∧ 
 vInv Try.prog (.func cmp.fn cmp.fi cmp.ca) [.agg #[.string key1, .string value1], .string target] H1 (fun r1 H3 => ∃ x2 : Int, r1 = .int .i64 x2 ∧ Q (.tuple #[.int .i64 i, .bool (x2 == 0)]) H3)))
 (Q (.tuple #[.int .i64 i, .bool false]) H1))
theorem slices_BinarySearchFunc_sl_sorted_item_string_string_sorted_item_string_string_string.l1.eq (J : Jn) (x : Sl) (target : ByteArray) (cmp : Fv) (H1 : Hp) (i : Int) (j : Int) (Q : Value → Hp → Prop) : vAtBody Try.prog slices_BinarySearchFunc_sl_sorted_item_string_string_sorted_item_string_string_string.cf J slices_BinarySearchFunc_sl_sorted_item_string_string_sorted_item_string_string_string.fn [1, 1, 1, 0, 0] [0, 0, 0, 0] Q (slices_BinarySearchFunc_sl_sorted_item_string_string_sorted_item_string_string_string.l1.st x target cmp H1 i j) = slices_BinarySearchFunc_sl_sorted_item_string_string_sorted_item_string_string_string.l1.body J x target cmp H1 i j Q := by kernel_rfl
theorem slices_BinarySearchFunc_sl_sorted_item_string_string_sorted_item_string_string_string.l1.step {x : Sl} {target : ByteArray} {cmp : Fv} {H1 : Hp} {i : Int} {j : Int} {Q : Value → Hp → Prop} (h : slices_BinarySearchFunc_sl_sorted_item_string_string_sorted_item_string_string_string.l1.body J0 x target cmp H1 i j Q) : slices_BinarySearchFunc_sl_sorted_item_string_string_sorted_item_string_string_string.l1 J0 x target cmp H1 i j Q := vAt_stepC (slices_BinarySearchFunc_sl_sorted_item_string_string_sorted_item_string_string_string.l1.st x target cmp H1 i j) (slices_BinarySearchFunc_sl_sorted_item_string_string_sorted_item_string_string_string.l1.eq J0 x target cmp H1 i j Q) (by kernel_rfl) h
noncomputable def slices_BinarySearchFunc_sl_sorted_item_string_string_sorted_item_string_string_string.vc (J : Jn) (x : Sl) (target : ByteArray) (cmp : Fv) (H : Hp) (Q : Value → Hp → Prop) : Prop :=
 
 slices_BinarySearchFunc_sl_sorted_item_string_string_sorted_item_string_string_string.l1 J x target cmp H 0 ((x.len : Nat) : Int) Q
theorem slices_BinarySearchFunc_sl_sorted_item_string_string_sorted_item_string_string_string.eq (J : Jn) (x : Sl) (target : ByteArray) (cmp : Fv) (H : Hp) (Q : Value → Hp → Prop) : vFn Try.prog slices_BinarySearchFunc_sl_sorted_item_string_string_sorted_item_string_string_string.cf J slices_BinarySearchFunc_sl_sorted_item_string_string_sorted_item_string_string_string.fn [.slice x.a x.len x.cap, .string target, .func cmp.fn cmp.fi cmp.ca] H Q = slices_BinarySearchFunc_sl_sorted_item_string_string_sorted_item_string_string_string.vc J x target cmp H Q := by kernel_rfl
theorem slices_BinarySearchFunc_sl_sorted_item_string_string_sorted_item_string_string_string.calls {x : Sl} {target : ByteArray} {cmp : Fv} {H : Hp} {Q : Value → Hp → Prop} (h : slices_BinarySearchFunc_sl_sorted_item_string_string_sorted_item_string_string_string.vc J0 x target cmp H Q) : SCalls Try.prog slices_BinarySearchFunc_sl_sorted_item_string_string_sorted_item_string_string_string.id [.slice x.a x.len x.cap, .string target, .func cmp.fn cmp.fi cmp.ca] H Q := vFn_of Try.mixed Try.func83 (slices_BinarySearchFunc_sl_sorted_item_string_string_sorted_item_string_string_string.eq J0 x target cmp H Q) h

/-! 84: (*tephra/sorted.Map_string, string_).find$1 -/
noncomputable def sorted_Map_string_string_find_1.cf : Cfg := ⟨[2], [], [], [], true, []⟩
noncomputable def sorted_Map_string_string_find_1.vc (J : Jn) (xkey : ByteArray) (xvalue : ByteArray) (k : ByteArray) (H : Hp) (Q : Value → Hp → Prop) : Prop :=
 
 SCalls Try.prog cmp_Compare_string.id [.string xkey, .string k] (holes H 1) (fun r H1 => ∃ x : Int, r = .int .i64 x ∧ Q (.int .i64 x) H1)
theorem sorted_Map_string_string_find_1.eq (J : Jn) (xkey : ByteArray) (xvalue : ByteArray) (k : ByteArray) (H : Hp) (Q : Value → Hp → Prop) : vFn Try.prog sorted_Map_string_string_find_1.cf J sorted_Map_string_string_find_1.fn [.agg #[.string xkey, .string xvalue], .string k] H Q = sorted_Map_string_string_find_1.vc J xkey xvalue k H Q := by kernel_rfl
theorem sorted_Map_string_string_find_1.calls {xkey : ByteArray} {xvalue : ByteArray} {k : ByteArray} {H : Hp} {Q : Value → Hp → Prop} (h : sorted_Map_string_string_find_1.vc J0 xkey xvalue k H Q) : SCalls Try.prog sorted_Map_string_string_find_1.id [.agg #[.string xkey, .string xvalue], .string k] H Q := vFn_of Try.mixed Try.func84 (sorted_Map_string_string_find_1.eq J0 xkey xvalue k H Q) h

/-! 85: cmp.Compare_string_ -/
noncomputable def cmp_Compare_string.cf : Cfg := ⟨[], [], [], [], true, []⟩
noncomputable def cmp_Compare_string.vc (J : Jn) (x : ByteArray) (y : ByteArray) (H : Hp) (Q : Value → Hp → Prop) : Prop :=
 
 SCalls Try.prog cmp_isNaN_string.id [.string x] H (fun r H1 => ∃ x1 : Bool, r = .bool x1 ∧ 
 SCalls Try.prog cmp_isNaN_string.id [.string y] H1 (fun r1 H2 => ∃ x2 : Bool, r1 = .bool x2 ∧ 
 Br x1 (
 Br x2 (Q (.int .i64 0) H2)
 (Q (.int .i64 (-1)) H2))
 (
 Br x2 (Q (.int .i64 1) H2)
 (
 Br (Op.bytesLess x.toList y.toList) (Q (.int .i64 (-1)) H2)
 (
 Br (!((Op.bytesLess x.toList y.toList) || (x.toList == y.toList))) (Q (.int .i64 1) H2)
 (Q (.int .i64 0) H2))))))
theorem cmp_Compare_string.eq (J : Jn) (x : ByteArray) (y : ByteArray) (H : Hp) (Q : Value → Hp → Prop) : vFn Try.prog cmp_Compare_string.cf J cmp_Compare_string.fn [.string x, .string y] H Q = cmp_Compare_string.vc J x y H Q := by kernel_rfl
theorem cmp_Compare_string.calls {x : ByteArray} {y : ByteArray} {H : Hp} {Q : Value → Hp → Prop} (h : cmp_Compare_string.vc J0 x y H Q) : SCalls Try.prog cmp_Compare_string.id [.string x, .string y] H Q := vFn_of Try.mixed Try.func85 (cmp_Compare_string.eq J0 x y H Q) h

/-! 87: slices.rotateRight_tephra/sorted.item_string, string__ -/
noncomputable def slices_rotateRight_sorted_item_string_string.cf : Cfg := ⟨[], [], [], [], true, []⟩
noncomputable def slices_rotateRight_sorted_item_string_string.vc (J : Jn) (s : Sl) (r : Int) (H : Hp) (Q : Value → Hp → Prop) : Prop :=
 
 SCalls Try.prog slices_rotateLeft_sorted_item_string_string.id [.slice s.a s.len s.cap, .int .i64 (w64 (((s.len : Nat) : Int) - r))] H (fun r1 H1 => r1 = .tuple #[] ∧ Q (.tuple #[]) H1)
theorem slices_rotateRight_sorted_item_string_string.eq (J : Jn) (s : Sl) (r : Int) (H : Hp) (Q : Value → Hp → Prop) : vFn Try.prog slices_rotateRight_sorted_item_string_string.cf J slices_rotateRight_sorted_item_string_string.fn [.slice s.a s.len s.cap, .int .i64 r] H Q = slices_rotateRight_sorted_item_string_string.vc J s r H Q := by kernel_rfl
theorem slices_rotateRight_sorted_item_string_string.calls {s : Sl} {r : Int} {H : Hp} {Q : Value → Hp → Prop} (h : slices_rotateRight_sorted_item_string_string.vc J0 s r H Q) : SCalls Try.prog slices_rotateRight_sorted_item_string_string.id [.slice s.a s.len s.cap, .int .i64 r] H Q := vFn_of Try.mixed Try.func87 (slices_rotateRight_sorted_item_string_string.eq J0 s r H Q) h

/-! 90: (*tephra/sorted.Map_int, tephra/api.Session_).find -/
noncomputable def sorted_Map_int_api_Session_find.cf : Cfg := ⟨[], [], [], [], true, []⟩
noncomputable def sorted_Map_int_api_Session_find.vc (J : Jn) (m : Addr) (k : Int) (H : Hp) (Q : Value → Hp → Prop) : Prop :=
 ∃ items : Sl, Hp.cell? H m = some (.slice items.a items.len items.cap) ∧ 
 SCalls Try.prog slices_BinarySearchFunc_sl_sorted_item_int_api_Session_sorted_item_int_api_Session_int.id [.slice items.a items.len items.cap, .int .i64 k, .func (.func 98) #[] #[]] H (fun r H1 => ∃ x : Int, ∃ x1 : Bool, r = .tuple #[.int .i64 x, .bool x1] ∧ Q (.tuple #[.int .i64 x, .bool x1]) H1)
theorem sorted_Map_int_api_Session_find.eq (J : Jn) (m : Addr) (k : Int) (H : Hp) (Q : Value → Hp → Prop) : vFn Try.prog sorted_Map_int_api_Session_find.cf J sorted_Map_int_api_Session_find.fn [.pointer (some m), .int .i64 k] H Q = sorted_Map_int_api_Session_find.vc J m k H Q := by kernel_rfl
theorem sorted_Map_int_api_Session_find.calls {m : Addr} {k : Int} {H : Hp} {Q : Value → Hp → Prop} (h : sorted_Map_int_api_Session_find.vc J0 m k H Q) : SCalls Try.prog sorted_Map_int_api_Session_find.id [.pointer (some m), .int .i64 k] H Q := vFn_of Try.mixed Try.func90 (sorted_Map_int_api_Session_find.eq J0 m k H Q) h

/-! 91: (*tephra/sorted.Map_string, string_).Len -/
noncomputable def sorted_Map_string_string_Len.cf : Cfg := ⟨[], [], [], [], true, []⟩
noncomputable def sorted_Map_string_string_Len.vc (J : Jn) (m : Addr) (H : Hp) (Q : Value → Hp → Prop) : Prop :=
 ∃ items : Sl, Hp.cell? H m = some (.slice items.a items.len items.cap) ∧ Q (.int .i64 ((items.len : Nat) : Int)) H
theorem sorted_Map_string_string_Len.eq (J : Jn) (m : Addr) (H : Hp) (Q : Value → Hp → Prop) : vFn Try.prog sorted_Map_string_string_Len.cf J sorted_Map_string_string_Len.fn [.pointer (some m)] H Q = sorted_Map_string_string_Len.vc J m H Q := by kernel_rfl
theorem sorted_Map_string_string_Len.calls {m : Addr} {H : Hp} {Q : Value → Hp → Prop} (h : sorted_Map_string_string_Len.vc J0 m H Q) : SCalls Try.prog sorted_Map_string_string_Len.id [.pointer (some m)] H Q := vFn_of Try.mixed Try.func91 (sorted_Map_string_string_Len.eq J0 m H Q) h

/-! 92: (*tephra/sorted.Map_string, string_).Del -/
noncomputable def sorted_Map_string_string_Del.cf : Cfg := ⟨[], [], [], [], true, []⟩
noncomputable def sorted_Map_string_string_Del.vc (J : Jn) (m : Addr) (k : ByteArray) (H : Hp) (Q : Value → Hp → Prop) : Prop :=
 
 SCalls Try.prog sorted_Map_string_string_find.id [.pointer (some m), .string k] H (fun r H1 => ∃ x : Int, ∃ x1 : Bool, r = .tuple #[.int .i64 x, .bool x1] ∧ 
 Br x1 (∃ items : Sl, Hp.cell? H1 m = some (.slice items.a items.len items.cap) ∧ 
 SCalls Try.prog slices_Delete_sl_sorted_item_string_string_sorted_item_string_string.id [.slice items.a items.len items.cap, .int .i64 x, .int .i64 (w64 (x + 1))] H1 (fun r1 H2 => ∃ x2 : Sl, r1 = .slice x2.a x2.len x2.cap ∧ WrAt H2 m 1 ∧ Q (.bool x1) (Hp.setCell H2 m (.slice x2.a x2.len x2.cap))))
 (Q (.bool x1) H1))
theorem sorted_Map_string_string_Del.eq (J : Jn) (m : Addr) (k : ByteArray) (H : Hp) (Q : Value → Hp → Prop) : vFn Try.prog sorted_Map_string_string_Del.cf J sorted_Map_string_string_Del.fn [.pointer (some m), .string k] H Q = sorted_Map_string_string_Del.vc J m k H Q := by kernel_rfl
theorem sorted_Map_string_string_Del.calls {m : Addr} {k : ByteArray} {H : Hp} {Q : Value → Hp → Prop} (h : sorted_Map_string_string_Del.vc J0 m k H Q) : SCalls Try.prog sorted_Map_string_string_Del.id [.pointer (some m), .string k] H Q := vFn_of Try.mixed Try.func92 (sorted_Map_string_string_Del.eq J0 m k H Q) h

/-! 93: slices.Insert___tephra/sorted.item_int, tephra/api.Session_,tephra/sorted.item_int, tephra/api.Session__ -/
noncomputable def slices_Insert_sl_sorted_item_int_api_Session_sorted_item_int_api_Session.cf : Cfg := ⟨[], [], [], [], true, []⟩
noncomputable def slices_Insert_sl_sorted_item_int_api_Session_sorted_item_int_api_Session.vc (J : Jn) (s : Sl) (i : Int) (v : Sl) (H : Hp) (Q : Value → Hp → Prop) : Prop :=
 ((0 : Int) ≤ i ∧ i ≤ ((s.len : Nat) : Int)) ∧ 
 Br (((v.len : Nat) : Int) == 0) (Q (.slice s.a s.len s.cap) H)
 (
 Br (i == ((s.len : Nat) : Int)) (
 vApp Try.prog T_sl_sorted_item_int_api_Session s.a s.len s.cap (.slice v.a v.len v.cap) H (fun ap H1 => Q (.slice ap.a ap.len ap.cap) H1))
 (
 Br (decide ((w64 (((s.len : Nat) : Int) + ((v.len : Nat) : Int))) > ((s.cap : Nat) : Int))) (((0 : Int) ≤ i ∧ i ≤ ((s.cap : Nat) : Int)) ∧ 
 vAppZ Try.prog T_sl_sorted_item_int_api_Session (cutA s.a s.cap 0 5) ((i : Int).toNat) s.cap (w64 ((w64 (((s.len : Nat) : Int) + ((v.len : Nat) : Int))) - i)) H (fun ap1 H2 => ((0 : Int) ≤ i ∧ i ≤ ((ap1.len : Nat) : Int)) ∧ 
 vCopy Try.prog T_sl_sorted_item_int_api_Session (cutA ap1.a ap1.cap ((i : Int).toNat) 5) (ap1.len - ((i : Int).toNat)) (.slice v.a v.len v.cap) H2 (fun n H3 => ((0 : Int) ≤ (w64 (i + ((v.len : Nat) : Int))) ∧ (w64 (i + ((v.len : Nat) : Int))) ≤ ((ap1.len : Nat) : Int)) ∧ ((0 : Int) ≤ i ∧ i ≤ ((s.len : Nat) : Int)) ∧ 
 vCopy Try.prog T_sl_sorted_item_int_api_Session (cutA ap1.a ap1.cap (((w64 (i + ((v.len : Nat) : Int))) : Int).toNat) 5) (ap1.len - (((w64 (i + ((v.len : Nat) : Int))) : Int).toNat)) (.slice (cutA s.a s.cap ((i : Int).toNat) 5) (s.len - ((i : Int).toNat)) (s.cap - ((i : Int).toNat))) H3 (fun n1 H4 => Q (.slice ap1.a ap1.len ap1.cap) H4))))
 (((0 : Int) ≤ (w64 (((s.len : Nat) : Int) + ((v.len : Nat) : Int))) ∧ (w64 (((s.len : Nat) : Int) + ((v.len : Nat) : Int))) ≤ ((s.cap : Nat) : Int)) ∧ ((0 : Int) ≤ (w64 (i + ((v.len : Nat) : Int))) ∧ (w64 (i + ((v.len : Nat) : Int))) ≤ (((((w64 (((s.len : Nat) : Int) + ((v.len : Nat) : Int))) : Int).toNat) : Nat) : Int)) ∧ 
 ExtC Try.prog 101 [.slice v.a v.len v.cap, .slice (cutA (cutA s.a s.cap 0 5) s.cap (((w64 (i + ((v.len : Nat) : Int))) : Int).toNat) 5) ((((w64 (((s.len : Nat) : Int) + ((v.len : Nat) : Int))) : Int).toNat) - (((w64 (i + ((v.len : Nat) : Int))) : Int).toNat)) (s.cap - (((w64 (i + ((v.len : Nat) : Int))) : Int).toNat))] H (fun r H5 => ∃ x : Bool, r = .bool x ∧ 
 Br (!x) (((0 : Int) ≤ (w64 (i + ((v.len : Nat) : Int))) ∧ (w64 (i + ((v.len : Nat) : Int))) ≤ (((((w64 (((s.len : Nat) : Int) + ((v.len : Nat) : Int))) : Int).toNat) : Nat) : Int)) ∧ ((0 : Int) ≤ i ∧ i ≤ (((((w64 (((s.len : Nat) : Int) + ((v.len : Nat) : Int))) : Int).toNat) : Nat) : Int)) ∧ 
 vCopy Try.prog T_sl_sorted_item_int_api_Session (cutA (cutA s.a s.cap 0 5) s.cap (((w64 (i + ((v.len : Nat) : Int))) : Int).toNat) 5) ((((w64 (((s.len : Nat) : Int) + ((v.len : Nat) : Int))) : Int).toNat) - (((w64 (i + ((v.len : Nat) : Int))) : Int).toNat)) (.slice (cutA (cutA s.a s.cap 0 5) s.cap ((i : Int).toNat) 5) ((((w64 (((s.len : Nat) : Int) + ((v.len : Nat) : Int))) : Int).toNat) - ((i : Int).toNat)) (s.cap - ((i : Int).toNat))) H5 (fun n2 H6 => ((0 : Int) ≤ i ∧ i ≤ (((((w64 (((s.len : Nat) : Int) + ((v.len : Nat) : Int))) : Int).toNat) : Nat) : Int)) ∧ 
 vCopy Try.prog T_sl_sorted_item_int_api_Session (cutA (cutA s.a s.cap 0 5) s.cap ((i : Int).toNat) 5) ((((w64 (((s.len : Nat) : Int) + ((v.len : Nat) : Int))) : Int).toNat) - ((i : Int).toNat)) (.slice v.a v.len v.cap) H6 (fun n3 H7 => Q (.slice (cutA s.a s.cap 0 5) (((w64 (((s.len : Nat) : Int) + ((v.len : Nat) : Int))) : Int).toNat) s.cap) H7)))
 (((0 : Int) ≤ ((s.len : Nat) : Int) ∧ ((s.len : Nat) : Int) ≤ (((((w64 (((s.len : Nat) : Int) + ((v.len : Nat) : Int))) : Int).toNat) : Nat) : Int)) ∧ 
 vCopy Try.prog T_sl_sorted_item_int_api_Session (cutA (cutA s.a s.cap 0 5) s.cap ((((s.len : Nat) : Int) : Int).toNat) 5) ((((w64 (((s.len : Nat) : Int) + ((v.len : Nat) : Int))) : Int).toNat) - ((((s.len : Nat) : Int) : Int).toNat)) (.slice v.a v.len v.cap) H5 (fun n4 H8 => ((0 : Int) ≤ i ∧ i ≤ (((((w64 (((s.len : Nat) : Int) + ((v.len : Nat) : Int))) : Int).toNat) : Nat) : Int)) ∧ 
 SCalls Try.prog slices_rotateRight_sorted_item_int_api_Session.id [.slice (cutA (cutA s.a s.cap 0 5) s.cap ((i : Int).toNat) 5) ((((w64 (((s.len : Nat) : Int) + ((v.len : Nat) : Int))) : Int).toNat) - ((i : Int).toNat)) (s.cap - ((i : Int).toNat)), .int .i64 ((v.len : Nat) : Int)] H8 (fun r1 H9 => r1 = .tuple #[] ∧ Q (.slice (cutA s.a s.cap 0 5) (((w64 (((s.len : Nat) : Int) + ((v.len : Nat) : Int))) : Int).toNat) s.cap) H9)))))))
theorem slices_Insert_sl_sorted_item_int_api_Session_sorted_item_int_api_Session.eq (J : Jn) (s : Sl) (i : Int) (v : Sl) (H : Hp) (Q : Value → Hp → Prop) : vFn Try.prog slices_Insert_sl_sorted_item_int_api_Session_sorted_item_int_api_Session.cf J slices_Insert_sl_sorted_item_int_api_Session_sorted_item_int_api_Session.fn [.slice s.a s.len s.cap, .int .i64 i, .slice v.a v.len v.cap] H Q = slices_Insert_sl_sorted_item_int_api_Session_sorted_item_int_api_Session.vc J s i v H Q := by kernel_rfl
theorem slices_Insert_sl_sorted_item_int_api_Session_sorted_item_int_api_Session.calls {s : Sl} {i : Int} {v : Sl} {H : Hp} {Q : Value → Hp → Prop} (h : slices_Insert_sl_sorted_item_int_api_Session_sorted_item_int_api_Session.vc J0 s i v H Q) : SCalls Try.prog slices_Insert_sl_sorted_item_int_api_Session_sorted_item_int_api_Session.id [.slice s.a s.len s.cap, .int .i64 i, .slice v.a v.len v.cap] H Q := vFn_of Try.mixed Try.func93 (slices_Insert_sl_sorted_item_int_api_Session_sorted_item_int_api_Session.eq J0 s i v H Q) h

/-! 94: (*tephra/sorted.Map_int, tephra/api.Session_).All$1 -/
noncomputable def sorted_Map_int_api_Session_All_1.cf : Cfg := ⟨[4], [(1, [0, 8, 9, 10])], [], [], true, []⟩
noncomputable def sorted_Map_int_api_Session_All_1.l1.st (yield : Fv) (items : Sl) (H1 : Hp) (x1 : Int) : VS := ⟨mkFr 22 [(0, .v (.func yield.fn yield.fi yield.ca)), (8, .v (.slice items.a items.len items.cap)), (9, .v (.int .i64 ((items.len : Nat) : Int))), (10, .v (.int .i64 x1))], [], H1⟩
noncomputable def sorted_Map_int_api_Session_All_1.l1 (J : Jn) (yield : Fv) (items : Sl) (H1 : Hp) (x1 : Int) (Q : Value → Hp → Prop) : Prop := vAt Try.prog sorted_Map_int_api_Session_All_1.cf J sorted_Map_int_api_Session_All_1.fn [1, 0] [0] Q (sorted_Map_int_api_Session_All_1.l1.st yield items H1 x1)
attribute [irreducible] sorted_Map_int_api_Session_All_1.l1
noncomputable def sorted_Map_int_api_Session_All_1.l1.body (J : Jn) (yield : Fv) (items : Sl) (H1 : Hp) (x1 : Int) (Q : Value → Hp → Prop) : Prop :=
 
 Br (decide (x1 < ((items.len : Nat) : Int))) (((0 : Int) ≤ x1 ∧ x1 < ((items.len : Nat) : Int)) ∧ vPtr items.a (fun a1 => ∃ key : Int, ∃ valueClient : Int, ∃ valueSeq : Int, ∃ valueReplyErr : Int, ∃ valueReplyValue : ByteArray, RowAt H1 (a1.add ((x1 : Int).toNat * 5)) [.int .i64 key, .int .i64 valueClient, .int .i64 valueSeq, .int .i64 valueReplyErr, .string valueReplyValue] ∧ 
 vInv Try.prog (.func yield.fn yield.fi yield.ca) [.int .i64 key, .agg #[.int .i64 valueClient, .int .i64 valueSeq, .int .i64 valueReplyErr, .string valueReplyValue]] (holes H1 1) (fun r H2 => ∃ x2 : Bool, r = .bool x2 ∧ 
 Br (!x2) (Q (.tuple #[]) H2)
 (
 sorted_Map_int_api_Session_All_1.l1 J yield items H2 (w64 (x1 + 1)) Q))))
 (Q (.tuple #[]) H1)
theorem sorted_Map_int_api_Session_All_1.l1.eq (J : Jn) (yield : Fv) (items : Sl) (H1 : Hp) (x1 : Int) (Q : Value → Hp → Prop) : vAtBody Try.prog sorted_Map_int_api_Session_All_1.cf J sorted_Map_int_api_Session_All_1.fn [1, 0] [0] Q (sorted_Map_int_api_Session_All_1.l1.st yield items H1 x1) = sorted_Map_int_api_Session_All_1.l1.body J yield items H1 x1 Q := by kernel_rfl
theorem sorted_Map_int_api_Session_All_1.l1.step {yield : Fv} {items : Sl} {H1 : Hp} {x1 : Int} {Q : Value → Hp → Prop} (h : sorted_Map_int_api_Session_All_1.l1.body J0 yield items H1 x1 Q) : sorted_Map_int_api_Session_All_1.l1 J0 yield items H1 x1 Q := vAt_stepC (sorted_Map_int_api_Session_All_1.l1.st yield items H1 x1) (sorted_Map_int_api_Session_All_1.l1.eq J0 yield items H1 x1 Q) (by kernel_rfl) h
noncomputable def sorted_Map_int_api_Session_All_1.vc (J : Jn) (yield : Fv) (cap0 : Addr) (H : Hp) (Q : Value → Hp → Prop) : Prop :=
 ∃ x : Option Addr, Hp.cell? H cap0 = some (.pointer x) ∧ vPtr x (fun a => ∃ items : Sl, Hp.cell? H a = some (.slice items.a items.len items.cap) ∧ 
 sorted_Map_int_api_Session_All_1.l1 J yield items H 0 Q)
theorem sorted_Map_int_api_Session_All_1.eq (J : Jn) (yield : Fv) (cap0 : Addr) (H : Hp) (Q : Value → Hp → Prop) : vFn Try.prog sorted_Map_int_api_Session_All_1.cf J sorted_Map_int_api_Session_All_1.fn [.func yield.fn yield.fi yield.ca, .pointer (some cap0)] H Q = sorted_Map_int_api_Session_All_1.vc J yield cap0 H Q := by kernel_rfl
theorem sorted_Map_int_api_Session_All_1.calls {yield : Fv} {cap0 : Addr} {H : Hp} {Q : Value → Hp → Prop} (h : sorted_Map_int_api_Session_All_1.vc J0 yield cap0 H Q) : SCalls Try.prog sorted_Map_int_api_Session_All_1.id [.func yield.fn yield.fi yield.ca, .pointer (some cap0)] H Q := vFn_of Try.mixed Try.func94 (sorted_Map_int_api_Session_All_1.eq J0 yield cap0 H Q) h

/-! 95: cmp.isNaN_string_ -/
noncomputable def cmp_isNaN_string.cf : Cfg := ⟨[], [], [], [], true, []⟩
noncomputable def cmp_isNaN_string.vc (J : Jn) (x : ByteArray) (H : Hp) (Q : Value → Hp → Prop) : Prop :=
 Q (.bool (!(x.toList == x.toList))) H
theorem cmp_isNaN_string.eq (J : Jn) (x : ByteArray) (H : Hp) (Q : Value → Hp → Prop) : vFn Try.prog cmp_isNaN_string.cf J cmp_isNaN_string.fn [.string x] H Q = cmp_isNaN_string.vc J x H Q := by kernel_rfl
theorem cmp_isNaN_string.calls {x : ByteArray} {H : Hp} {Q : Value → Hp → Prop} (h : cmp_isNaN_string.vc J0 x H Q) : SCalls Try.prog cmp_isNaN_string.id [.string x] H Q := vFn_of Try.mixed Try.func95 (cmp_isNaN_string.eq J0 x H Q) h

/-! 96: slices.rotateLeft_tephra/sorted.item_string, string__ -/
noncomputable def slices_rotateLeft_sorted_item_string_string.cf : Cfg := ⟨[], [], [], [], true, []⟩
noncomputable def slices_rotateLeft_sorted_item_string_string.vc (J : Jn) (s : Sl) (r : Int) (H : Hp) (Q : Value → Hp → Prop) : Prop :=
 ((0 : Int) ≤ r ∧ r ≤ ((s.cap : Nat) : Int)) ∧ 
 SCalls Try.prog slices_Reverse_sl_sorted_item_string_string_sorted_item_string_string.id [.slice (cutA s.a s.cap 0 2) ((r : Int).toNat) s.cap] H (fun r1 H1 => r1 = .tuple #[] ∧ ((0 : Int) ≤ r ∧ r ≤ ((s.len : Nat) : Int)) ∧ 
 SCalls Try.prog slices_Reverse_sl_sorted_item_string_string_sorted_item_string_string.id [.slice (cutA s.a s.cap ((r : Int).toNat) 2) (s.len - ((r : Int).toNat)) (s.cap - ((r : Int).toNat))] H1 (fun r2 H2 => r2 = .tuple #[] ∧ 
 SCalls Try.prog slices_Reverse_sl_sorted_item_string_string_sorted_item_string_string.id [.slice s.a s.len s.cap] H2 (fun r3 H3 => r3 = .tuple #[] ∧ Q (.tuple #[]) H3)))
theorem slices_rotateLeft_sorted_item_string_string.eq (J : Jn) (s : Sl) (r : Int) (H : Hp) (Q : Value → Hp → Prop) : vFn Try.prog slices_rotateLeft_sorted_item_string_string.cf J slices_rotateLeft_sorted_item_string_string.fn [.slice s.a s.len s.cap, .int .i64 r] H Q = slices_rotateLeft_sorted_item_string_string.vc J s r H Q := by kernel_rfl
theorem slices_rotateLeft_sorted_item_string_string.calls {s : Sl} {r : Int} {H : Hp} {Q : Value → Hp → Prop} (h : slices_rotateLeft_sorted_item_string_string.vc J0 s r H Q) : SCalls Try.prog slices_rotateLeft_sorted_item_string_string.id [.slice s.a s.len s.cap, .int .i64 r] H Q := vFn_of Try.mixed Try.func96 (slices_rotateLeft_sorted_item_string_string.eq J0 s r H Q) h

/-! 97: slices.BinarySearchFunc___tephra/sorted.item_int, tephra/api.Session_,tephra/sorted.item_int, tephra/api.Session_,int_ -/
noncomputable def slices_BinarySearchFunc_sl_sorted_item_int_api_Session_sorted_item_int_api_Session_int.cf : Cfg := ⟨[], [(3, [0, 1, 2, 8, 9, 10])], [], [], true, []⟩
noncomputable def slices_BinarySearchFunc_sl_sorted_item_int_api_Session_sorted_item_int_api_Session_int.l1.st (x : Sl) (target : Int) (cmp : Fv) (H1 : Hp) (i : Int) (j : Int) : VS := ⟨mkFr 49 [(0, .v (.slice x.a x.len x.cap)), (1, .v (.int .i64 target)), (2, .v (.func cmp.fn cmp.fi cmp.ca)), (8, .v (.int .i64 ((x.len : Nat) : Int))), (9, .v (.int .i64 i)), (10, .v (.int .i64 j))], [], H1⟩
noncomputable def slices_BinarySearchFunc_sl_sorted_item_int_api_Session_sorted_item_int_api_Session_int.l1 (J : Jn) (x : Sl) (target : Int) (cmp : Fv) (H1 : Hp) (i : Int) (j : Int) (Q : Value → Hp → Prop) : Prop := vAt Try.prog slices_BinarySearchFunc_sl_sorted_item_int_api_Session_sorted_item_int_api_Session_int.cf J slices_BinarySearchFunc_sl_sorted_item_int_api_Session_sorted_item_int_api_Session_int.fn [1, 1, 1, 0, 0] [0, 0, 0, 0] Q (slices_BinarySearchFunc_sl_sorted_item_int_api_Session_sorted_item_int_api_Session_int.l1.st x target cmp H1 i j)
attribute [irreducible] slices_BinarySearchFunc_sl_sorted_item_int_api_Session_sorted_item_int_api_Session_int.l1
noncomputable def slices_BinarySearchFunc_sl_sorted_item_int_api_Session_sorted_item_int_api_Session_int.l1.body (J : Jn) (x : Sl) (target : Int) (cmp : Fv) (H1 : Hp) (i : Int) (j : Int) (Q : Value → Hp → Prop) : Prop :=
 
 Br (decide (i < j)) ((0 : Int) ≤ 1 ∧ ((0 : Int) ≤ (w64 ((Int.fdiv (IntKind.u64.wrap ((w64 (i + j)))) (2 ^ 1)))) ∧ (w64 ((Int.fdiv (IntKind.u64.wrap ((w64 (i + j)))) (2 ^ 1)))) < ((x.len : Nat) : Int)) ∧ vPtr x.a (fun a => ∃ key : Int, ∃ valueClient : Int, ∃ valueSeq : Int, ∃ valueReplyErr : Int, ∃ valueReplyValue : ByteArray, RowAt H1 (a.add (((w64 ((Int.fdiv (IntKind.u64.wrap ((w64 (i + j)))) (2 ^ 1)))) : Int).toNat * 5)) [.int .i64 key, .int .i64 valueClient, .int .i64 valueSeq, .int .i64 valueReplyErr, .string valueReplyValue] ∧ 
 vInv Try.prog (.func cmp.fn cmp.fi cmp.ca) [.agg #[.int .i64 key, .int .i64 valueClient, .int .i64 valueSeq, .int .i64 valueReplyErr, .string valueReplyValue], .int .i64 target] H1 (fun r H2 => ∃ x1 : Int, r = .int .i64 x1 ∧ 
 Br (decide (x1 < 0)) (
 slices_BinarySearchFunc_sl_sorted_item_int_api_Session_sorted_item_int_api_Session_int.l1 J x target cmp H2 (w64 ((w64 ((Int.fdiv (IntKind.u64.wrap ((w64 (i + j)))) (2 ^ 1)))) + 1)) j Q)
 (
 slices_BinarySearchFunc_sl_sorted_item_int_api_Session_sorted_item_int_api_Session_int.l1 J x target cmp H2 i (w64 ((Int.fdiv (IntKind.u64.wrap ((w64 (i + j)))) (2 ^ 1)))) Q))))
 (
 Br (decide (i < ((x.len : Nat) : Int))) (((0 : Int) ≤ i ∧ i < ((x.len : Nat) : Int)) ∧ vPtr x.a (fun a1 => ∃ key1 : Int, ∃ valueClient1 : Int, ∃ valueSeq1 : Int, ∃ valueReplyErr1 : Int, ∃ valueReplyValue1 : ByteArray, RowAt H1 (a1.add ((i : Int).toNat * 5)) [.int .i64 key1, .int .i64 valueClient1, .int .i64 valueSeq1, .int .i64 valueReplyErr1, .string valueReplyValue1] ∧ 
 vInv Try.prog (.func cmp.fn cmp.fi cmp.ca) [.agg #[.int .i64 key1, .int .i64 valueClient1, .int .i64 valueSeq1, .int .i64 valueReplyErr1, .string valueReplyValue1], .int .i64 target] H1 (fun r1 H3 => ∃ x2 : Int, r1 = .int .i64 x2 ∧ Q (.tuple #[.int .i64 i, .bool (x2 == 0)]) H3)))
 (Q (.tuple #[.int .i64 i, .bool false]) H1))
theorem slices_BinarySearchFunc_sl_sorted_item_int_api_Session_sorted_item_int_api_Session_int.l1.eq (J : Jn) (x : Sl) (target : Int) (cmp : Fv) (H1 : Hp) (i : Int) (j : Int) (Q : Value → Hp → Prop) : vAtBody Try.prog slices_BinarySearchFunc_sl_sorted_item_int_api_Session_sorted_item_int_api_Session_int.cf J slices_BinarySearchFunc_sl_sorted_item_int_api_Session_sorted_item_int_api_Session_int.fn [1, 1, 1, 0, 0] [0, 0, 0, 0] Q (slices_BinarySearchFunc_sl_sorted_item_int_api_Session_sorted_item_int_api_Session_int.l1.st x target cmp H1 i j) = slices_BinarySearchFunc_sl_sorted_item_int_api_Session_sorted_item_int_api_Session_int.l1.body J x target cmp H1 i j Q := by kernel_rfl
theorem slices_BinarySearchFunc_sl_sorted_item_int_api_Session_sorted_item_int_api_Session_int.l1.step {x : Sl} {target : Int} {cmp : Fv} {H1 : Hp} {i : Int} {j : Int} {Q : Value → Hp → Prop} (h : slices_BinarySearchFunc_sl_sorted_item_int_api_Session_sorted_item_int_api_Session_int.l1.body J0 x target cmp H1 i j Q) : slices_BinarySearchFunc_sl_sorted_item_int_api_Session_sorted_item_int_api_Session_int.l1 J0 x target cmp H1 i j Q := vAt_stepC (slices_BinarySearchFunc_sl_sorted_item_int_api_Session_sorted_item_int_api_Session_int.l1.st x target cmp H1 i j) (slices_BinarySearchFunc_sl_sorted_item_int_api_Session_sorted_item_int_api_Session_int.l1.eq J0 x target cmp H1 i j Q) (by kernel_rfl) h
noncomputable def slices_BinarySearchFunc_sl_sorted_item_int_api_Session_sorted_item_int_api_Session_int.vc (J : Jn) (x : Sl) (target : Int) (cmp : Fv) (H : Hp) (Q : Value → Hp → Prop) : Prop :=
 
 slices_BinarySearchFunc_sl_sorted_item_int_api_Session_sorted_item_int_api_Session_int.l1 J x target cmp H 0 ((x.len : Nat) : Int) Q
theorem slices_BinarySearchFunc_sl_sorted_item_int_api_Session_sorted_item_int_api_Session_int.eq (J : Jn) (x : Sl) (target : Int) (cmp : Fv) (H : Hp) (Q : Value → Hp → Prop) : vFn Try.prog slices_BinarySearchFunc_sl_sorted_item_int_api_Session_sorted_item_int_api_Session_int.cf J slices_BinarySearchFunc_sl_sorted_item_int_api_Session_sorted_item_int_api_Session_int.fn [.slice x.a x.len x.cap, .int .i64 target, .func cmp.fn cmp.fi cmp.ca] H Q = slices_BinarySearchFunc_sl_sorted_item_int_api_Session_sorted_item_int_api_Session_int.vc J x target cmp H Q := by kernel_rfl
theorem slices_BinarySearchFunc_sl_sorted_item_int_api_Session_sorted_item_int_api_Session_int.calls {x : Sl} {target : Int} {cmp : Fv} {H : Hp} {Q : Value → Hp → Prop} (h : slices_BinarySearchFunc_sl_sorted_item_int_api_Session_sorted_item_int_api_Session_int.vc J0 x target cmp H Q) : SCalls Try.prog slices_BinarySearchFunc_sl_sorted_item_int_api_Session_sorted_item_int_api_Session_int.id [.slice x.a x.len x.cap, .int .i64 target, .func cmp.fn cmp.fi cmp.ca] H Q := vFn_of Try.mixed Try.func97 (slices_BinarySearchFunc_sl_sorted_item_int_api_Session_sorted_item_int_api_Session_int.eq J0 x target cmp H Q) h

/-! 98: (*tephra/sorted.Map_int, tephra/api.Session_).find$1 -/
noncomputable def sorted_Map_int_api_Session_find_1.cf : Cfg := ⟨[2], [], [], [], true, []⟩
noncomputable def sorted_Map_int_api_Session_find_1.vc (J : Jn) (xkey : Int) (xvalueClient : Int) (xvalueSeq : Int) (xvalueReplyErr : Int) (xvalueReplyValue : ByteArray) (k : Int) (H : Hp) (Q : Value → Hp → Prop) : Prop :=
 
 SCalls Try.prog cmp_Compare_int.id [.int .i64 xkey, .int .i64 k] (holes H 1) (fun r H1 => ∃ x : Int, r = .int .i64 x ∧ Q (.int .i64 x) H1)
theorem sorted_Map_int_api_Session_find_1.eq (J : Jn) (xkey : Int) (xvalueClient : Int) (xvalueSeq : Int) (xvalueReplyErr : Int) (xvalueReplyValue : ByteArray) (k : Int) (H : Hp) (Q : Value → Hp → Prop) : vFn Try.prog sorted_Map_int_api_Session_find_1.cf J sorted_Map_int_api_Session_find_1.fn [.agg #[.int .i64 xkey, .int .i64 xvalueClient, .int .i64 xvalueSeq, .int .i64 xvalueReplyErr, .string xvalueReplyValue], .int .i64 k] H Q = sorted_Map_int_api_Session_find_1.vc J xkey xvalueClient xvalueSeq xvalueReplyErr xvalueReplyValue k H Q := by kernel_rfl
theorem sorted_Map_int_api_Session_find_1.calls {xkey : Int} {xvalueClient : Int} {xvalueSeq : Int} {xvalueReplyErr : Int} {xvalueReplyValue : ByteArray} {k : Int} {H : Hp} {Q : Value → Hp → Prop} (h : sorted_Map_int_api_Session_find_1.vc J0 xkey xvalueClient xvalueSeq xvalueReplyErr xvalueReplyValue k H Q) : SCalls Try.prog sorted_Map_int_api_Session_find_1.id [.agg #[.int .i64 xkey, .int .i64 xvalueClient, .int .i64 xvalueSeq, .int .i64 xvalueReplyErr, .string xvalueReplyValue], .int .i64 k] H Q := vFn_of Try.mixed Try.func98 (sorted_Map_int_api_Session_find_1.eq J0 xkey xvalueClient xvalueSeq xvalueReplyErr xvalueReplyValue k H Q) h

/-! 99: cmp.Compare_int_ -/
noncomputable def cmp_Compare_int.cf : Cfg := ⟨[], [], [], [], true, []⟩
noncomputable def cmp_Compare_int.vc (J : Jn) (x : Int) (y : Int) (H : Hp) (Q : Value → Hp → Prop) : Prop :=
 
 SCalls Try.prog cmp_isNaN_int.id [.int .i64 x] H (fun r H1 => ∃ x1 : Bool, r = .bool x1 ∧ 
 SCalls Try.prog cmp_isNaN_int.id [.int .i64 y] H1 (fun r1 H2 => ∃ x2 : Bool, r1 = .bool x2 ∧ 
 Br x1 (
 Br x2 (Q (.int .i64 0) H2)
 (Q (.int .i64 (-1)) H2))
 (
 Br x2 (Q (.int .i64 1) H2)
 (
 Br (decide (x < y)) (Q (.int .i64 (-1)) H2)
 (
 Br (decide (x > y)) (Q (.int .i64 1) H2)
 (Q (.int .i64 0) H2))))))
theorem cmp_Compare_int.eq (J : Jn) (x : Int) (y : Int) (H : Hp) (Q : Value → Hp → Prop) : vFn Try.prog cmp_Compare_int.cf J cmp_Compare_int.fn [.int .i64 x, .int .i64 y] H Q = cmp_Compare_int.vc J x y H Q := by kernel_rfl
theorem cmp_Compare_int.calls {x : Int} {y : Int} {H : Hp} {Q : Value → Hp → Prop} (h : cmp_Compare_int.vc J0 x y H Q) : SCalls Try.prog cmp_Compare_int.id [.int .i64 x, .int .i64 y] H Q := vFn_of Try.mixed Try.func99 (cmp_Compare_int.eq J0 x y H Q) h

/-! 100: slices.Delete___tephra/sorted.item_string, string_,tephra/sorted.item_string, string__ -/
noncomputable def slices_Delete_sl_sorted_item_string_string_sorted_item_string_string.cf : Cfg := ⟨[], [], [], [], true, []⟩
noncomputable def slices_Delete_sl_sorted_item_string_string_sorted_item_string_string.vc (J : Jn) (s : Sl) (i : Int) (j : Int) (H : Hp) (Q : Value → Hp → Prop) : Prop :=
 ((0 : Int) ≤ ((s.len : Nat) : Int) ∧ ((s.len : Nat) : Int) ≤ ((s.cap : Nat) : Int)) ∧ ((0 : Int) ≤ j ∧ j ≤ ((((((s.len : Nat) : Int) : Int).toNat) : Nat) : Int)) ∧ ((0 : Int) ≤ i ∧ i ≤ ((((j : Int).toNat) : Nat) : Int)) ∧ 
 Br (i == j) (Q (.slice s.a s.len s.cap) H)
 (((0 : Int) ≤ i ∧ i ≤ ((s.cap : Nat) : Int)) ∧ ((0 : Int) ≤ j ∧ j ≤ ((s.len : Nat) : Int)) ∧ 
 vApp Try.prog T_sl_sorted_item_string_string (cutA s.a s.cap 0 2) ((i : Int).toNat) s.cap (.slice (cutA s.a s.cap ((j : Int).toNat) 2) (s.len - ((j : Int).toNat)) (s.cap - ((j : Int).toNat))) H (fun ap H1 => ((0 : Int) ≤ ((s.len : Nat) : Int) ∧ ((s.len : Nat) : Int) ≤ ((ap.cap : Nat) : Int)) ∧ ((0 : Int) ≤ ((ap.len : Nat) : Int) ∧ ((ap.len : Nat) : Int) ≤ ((((((s.len : Nat) : Int) : Int).toNat) : Nat) : Int)) ∧ 
 vClear Try.prog T_sl_sorted_item_string_string (cutA ap.a ap.cap ((((ap.len : Nat) : Int) : Int).toNat) 2) (((((s.len : Nat) : Int) : Int).toNat) - ((((ap.len : Nat) : Int) : Int).toNat)) H1 (fun H2 => Q (.slice ap.a ap.len ap.cap) H2)))
theorem slices_Delete_sl_sorted_item_string_string_sorted_item_string_string.eq (J : Jn) (s : Sl) (i : Int) (j : Int) (H : Hp) (Q : Value → Hp → Prop) : vFn Try.prog slices_Delete_sl_sorted_item_string_string_sorted_item_string_string.cf J slices_Delete_sl_sorted_item_string_string_sorted_item_string_string.fn [.slice s.a s.len s.cap, .int .i64 i, .int .i64 j] H Q = slices_Delete_sl_sorted_item_string_string_sorted_item_string_string.vc J s i j H Q := by kernel_rfl
theorem slices_Delete_sl_sorted_item_string_string_sorted_item_string_string.calls {s : Sl} {i : Int} {j : Int} {H : Hp} {Q : Value → Hp → Prop} (h : slices_Delete_sl_sorted_item_string_string_sorted_item_string_string.vc J0 s i j H Q) : SCalls Try.prog slices_Delete_sl_sorted_item_string_string_sorted_item_string_string.id [.slice s.a s.len s.cap, .int .i64 i, .int .i64 j] H Q := vFn_of Try.mixed Try.func100 (slices_Delete_sl_sorted_item_string_string_sorted_item_string_string.eq J0 s i j H Q) h

/-! 102: slices.rotateRight_tephra/sorted.item_int, tephra/api.Session__ -/
noncomputable def slices_rotateRight_sorted_item_int_api_Session.cf : Cfg := ⟨[], [], [], [], true, []⟩
noncomputable def slices_rotateRight_sorted_item_int_api_Session.vc (J : Jn) (s : Sl) (r : Int) (H : Hp) (Q : Value → Hp → Prop) : Prop :=
 
 SCalls Try.prog slices_rotateLeft_sorted_item_int_api_Session.id [.slice s.a s.len s.cap, .int .i64 (w64 (((s.len : Nat) : Int) - r))] H (fun r1 H1 => r1 = .tuple #[] ∧ Q (.tuple #[]) H1)
theorem slices_rotateRight_sorted_item_int_api_Session.eq (J : Jn) (s : Sl) (r : Int) (H : Hp) (Q : Value → Hp → Prop) : vFn Try.prog slices_rotateRight_sorted_item_int_api_Session.cf J slices_rotateRight_sorted_item_int_api_Session.fn [.slice s.a s.len s.cap, .int .i64 r] H Q = slices_rotateRight_sorted_item_int_api_Session.vc J s r H Q := by kernel_rfl
theorem slices_rotateRight_sorted_item_int_api_Session.calls {s : Sl} {r : Int} {H : Hp} {Q : Value → Hp → Prop} (h : slices_rotateRight_sorted_item_int_api_Session.vc J0 s r H Q) : SCalls Try.prog slices_rotateRight_sorted_item_int_api_Session.id [.slice s.a s.len s.cap, .int .i64 r] H Q := vFn_of Try.mixed Try.func102 (slices_rotateRight_sorted_item_int_api_Session.eq J0 s r H Q) h

/-! 103: slices.Reverse___tephra/sorted.item_string, string_,tephra/sorted.item_string, string__ -/
noncomputable def slices_Reverse_sl_sorted_item_string_string_sorted_item_string_string.cf : Cfg := ⟨[], [(1, [0, 2, 3])], [], [], true, []⟩
noncomputable def slices_Reverse_sl_sorted_item_string_string_sorted_item_string_string.l1.st (s : Sl) (H1 : Hp) (i : Int) (j : Int) : VS := ⟨mkFr 28 [(0, .v (.slice s.a s.len s.cap)), (2, .v (.int .i64 i)), (3, .v (.int .i64 j))], [], H1⟩
noncomputable def slices_Reverse_sl_sorted_item_string_string_sorted_item_string_string.l1 (J : Jn) (s : Sl) (H1 : Hp) (i : Int) (j : Int) (Q : Value → Hp → Prop) : Prop := vAt Try.prog slices_Reverse_sl_sorted_item_string_string_sorted_item_string_string.cf J slices_Reverse_sl_sorted_item_string_string_sorted_item_string_string.fn [1, 0] [0] Q (slices_Reverse_sl_sorted_item_string_string_sorted_item_string_string.l1.st s H1 i j)
attribute [irreducible] slices_Reverse_sl_sorted_item_string_string_sorted_item_string_string.l1
noncomputable def slices_Reverse_sl_sorted_item_string_string_sorted_item_string_string.l1.body (J : Jn) (s : Sl) (H1 : Hp) (i : Int) (j : Int) (Q : Value → Hp → Prop) : Prop :=
 
 Br (decide (i < j)) (((0 : Int) ≤ j ∧ j < ((s.len : Nat) : Int)) ∧ vPtr s.a (fun a => ∃ key : ByteArray, ∃ value : ByteArray, RowAt H1 (a.add ((j : Int).toNat * 2)) [.string key, .string value] ∧ ((0 : Int) ≤ i ∧ i < ((s.len : Nat) : Int)) ∧ vPtr s.a (fun a1 => ∃ key1 : ByteArray, ∃ value1 : ByteArray, RowAt H1 (a1.add ((i : Int).toNat * 2)) [.string key1, .string value1] ∧ ((0 : Int) ≤ i ∧ i < ((s.len : Nat) : Int)) ∧ vPtr s.a (fun a2 => WrAt H1 (a2.add ((i : Int).toNat * 2)) 2 ∧ ((0 : Int) ≤ j ∧ j < ((s.len : Nat) : Int)) ∧ vPtr s.a (fun a3 => WrAt (Hp.setCells H1 (a2.add ((i : Int).toNat * 2)) [.string key, .string value] 0) (a3.add ((j : Int).toNat * 2)) 2 ∧ 
 slices_Reverse_sl_sorted_item_string_string_sorted_item_string_string.l1 J s (Hp.setCells (Hp.setCells H1 (a2.add ((i : Int).toNat * 2)) [.string key, .string value] 0) (a3.add ((j : Int).toNat * 2)) [.string key1, .string value1] 0) (w64 (i + 1)) (w64 (j - 1)) Q)))))
 (Q (.tuple #[]) H1)
theorem slices_Reverse_sl_sorted_item_string_string_sorted_item_string_string.l1.eq (J : Jn) (s : Sl) (H1 : Hp) (i : Int) (j : Int) (Q : Value → Hp → Prop) : vAtBody Try.prog slices_Reverse_sl_sorted_item_string_string_sorted_item_string_string.cf J slices_Reverse_sl_sorted_item_string_string_sorted_item_string_string.fn [1, 0] [0] Q (slices_Reverse_sl_sorted_item_string_string_sorted_item_string_string.l1.st s H1 i j) = slices_Reverse_sl_sorted_item_string_string_sorted_item_string_string.l1.body J s H1 i j Q := by kernel_rfl
theorem slices_Reverse_sl_sorted_item_string_string_sorted_item_string_string.l1.step {s : Sl} {H1 : Hp} {i : Int} {j : Int} {Q : Value → Hp → Prop} (h : slices_Reverse_sl_sorted_item_string_string_sorted_item_string_string.l1.body J0 s H1 i j Q) : slices_Reverse_sl_sorted_item_string_string_sorted_item_string_string.l1 J0 s H1 i j Q := vAt_stepC (slices_Reverse_sl_sorted_item_string_string_sorted_item_string_string.l1.st s H1 i j) (slices_Reverse_sl_sorted_item_string_string_sorted_item_string_string.l1.eq J0 s H1 i j Q) (by kernel_rfl) h
noncomputable def slices_Reverse_sl_sorted_item_string_string_sorted_item_string_string.vc (J : Jn) (s : Sl) (H : Hp) (Q : Value → Hp → Prop) : Prop :=
 
 slices_Reverse_sl_sorted_item_string_string_sorted_item_string_string.l1 J s H 0 (w64 (((s.len : Nat) : Int) - 1)) Q
theorem slices_Reverse_sl_sorted_item_string_string_sorted_item_string_string.eq (J : Jn) (s : Sl) (H : Hp) (Q : Value → Hp → Prop) : vFn Try.prog slices_Reverse_sl_sorted_item_string_string_sorted_item_string_string.cf J slices_Reverse_sl_sorted_item_string_string_sorted_item_string_string.fn [.slice s.a s.len s.cap] H Q = slices_Reverse_sl_sorted_item_string_string_sorted_item_string_string.vc J s H Q := by kernel_rfl
theorem slices_Reverse_sl_sorted_item_string_string_sorted_item_string_string.calls {s : Sl} {H : Hp} {Q : Value → Hp → Prop} (h : slices_Reverse_sl_sorted_item_string_string_sorted_item_string_string.vc J0 s H Q) : SCalls Try.prog slices_Reverse_sl_sorted_item_string_string_sorted_item_string_string.id [.slice s.a s.len s.cap] H Q := vFn_of Try.mixed Try.func103 (slices_Reverse_sl_sorted_item_string_string_sorted_item_string_string.eq J0 s H Q) h

/-! 104: cmp.isNaN_int_ -/
noncomputable def cmp_isNaN_int.cf : Cfg := ⟨[], [], [], [], true, []⟩
noncomputable def cmp_isNaN_int.vc (J : Jn) (x : Int) (H : Hp) (Q : Value → Hp → Prop) : Prop :=
 Q (.bool (x != x)) H
theorem cmp_isNaN_int.eq (J : Jn) (x : Int) (H : Hp) (Q : Value → Hp → Prop) : vFn Try.prog cmp_isNaN_int.cf J cmp_isNaN_int.fn [.int .i64 x] H Q = cmp_isNaN_int.vc J x H Q := by kernel_rfl
theorem cmp_isNaN_int.calls {x : Int} {H : Hp} {Q : Value → Hp → Prop} (h : cmp_isNaN_int.vc J0 x H Q) : SCalls Try.prog cmp_isNaN_int.id [.int .i64 x] H Q := vFn_of Try.mixed Try.func104 (cmp_isNaN_int.eq J0 x H Q) h

/-! 105: slices.rotateLeft_tephra/sorted.item_int, tephra/api.Session__ -/
noncomputable def slices_rotateLeft_sorted_item_int_api_Session.cf : Cfg := ⟨[], [], [], [], true, []⟩
noncomputable def slices_rotateLeft_sorted_item_int_api_Session.vc (J : Jn) (s : Sl) (r : Int) (H : Hp) (Q : Value → Hp → Prop) : Prop :=
 ((0 : Int) ≤ r ∧ r ≤ ((s.cap : Nat) : Int)) ∧ 
 SCalls Try.prog slices_Reverse_sl_sorted_item_int_api_Session_sorted_item_int_api_Session.id [.slice (cutA s.a s.cap 0 5) ((r : Int).toNat) s.cap] H (fun r1 H1 => r1 = .tuple #[] ∧ ((0 : Int) ≤ r ∧ r ≤ ((s.len : Nat) : Int)) ∧ 
 SCalls Try.prog slices_Reverse_sl_sorted_item_int_api_Session_sorted_item_int_api_Session.id [.slice (cutA s.a s.cap ((r : Int).toNat) 5) (s.len - ((r : Int).toNat)) (s.cap - ((r : Int).toNat))] H1 (fun r2 H2 => r2 = .tuple #[] ∧ 
 SCalls Try.prog slices_Reverse_sl_sorted_item_int_api_Session_sorted_item_int_api_Session.id [.slice s.a s.len s.cap] H2 (fun r3 H3 => r3 = .tuple #[] ∧ Q (.tuple #[]) H3)))
theorem slices_rotateLeft_sorted_item_int_api_Session.eq (J : Jn) (s : Sl) (r : Int) (H : Hp) (Q : Value → Hp → Prop) : vFn Try.prog slices_rotateLeft_sorted_item_int_api_Session.cf J slices_rotateLeft_sorted_item_int_api_Session.fn [.slice s.a s.len s.cap, .int .i64 r] H Q = slices_rotateLeft_sorted_item_int_api_Session.vc J s r H Q := by kernel_rfl
theorem slices_rotateLeft_sorted_item_int_api_Session.calls {s : Sl} {r : Int} {H : Hp} {Q : Value → Hp → Prop} (h : slices_rotateLeft_sorted_item_int_api_Session.vc J0 s r H Q) : SCalls Try.prog slices_rotateLeft_sorted_item_int_api_Session.id [.slice s.a s.len s.cap, .int .i64 r] H Q := vFn_of Try.mixed Try.func105 (slices_rotateLeft_sorted_item_int_api_Session.eq J0 s r H Q) h

/-! 106: slices.Reverse___tephra/sorted.item_int, tephra/api.Session_,tephra/sorted.item_int, tephra/api.Session__ -/
noncomputable def slices_Reverse_sl_sorted_item_int_api_Session_sorted_item_int_api_Session.cf : Cfg := ⟨[], [(1, [0, 2, 3])], [], [], true, []⟩
noncomputable def slices_Reverse_sl_sorted_item_int_api_Session_sorted_item_int_api_Session.l1.st (s : Sl) (H1 : Hp) (i : Int) (j : Int) : VS := ⟨mkFr 28 [(0, .v (.slice s.a s.len s.cap)), (2, .v (.int .i64 i)), (3, .v (.int .i64 j))], [], H1⟩
noncomputable def slices_Reverse_sl_sorted_item_int_api_Session_sorted_item_int_api_Session.l1 (J : Jn) (s : Sl) (H1 : Hp) (i : Int) (j : Int) (Q : Value → Hp → Prop) : Prop := vAt Try.prog slices_Reverse_sl_sorted_item_int_api_Session_sorted_item_int_api_Session.cf J slices_Reverse_sl_sorted_item_int_api_Session_sorted_item_int_api_Session.fn [1, 0] [0] Q (slices_Reverse_sl_sorted_item_int_api_Session_sorted_item_int_api_Session.l1.st s H1 i j)
attribute [irreducible] slices_Reverse_sl_sorted_item_int_api_Session_sorted_item_int_api_Session.l1
noncomputable def slices_Reverse_sl_sorted_item_int_api_Session_sorted_item_int_api_Session.l1.body (J : Jn) (s : Sl) (H1 : Hp) (i : Int) (j : Int) (Q : Value → Hp → Prop) : Prop :=
 
 Br (decide (i < j)) (((0 : Int) ≤ j ∧ j < ((s.len : Nat) : Int)) ∧ vPtr s.a (fun a => ∃ key : Int, ∃ valueClient : Int, ∃ valueSeq : Int, ∃ valueReplyErr : Int, ∃ valueReplyValue : ByteArray, RowAt H1 (a.add ((j : Int).toNat * 5)) [.int .i64 key, .int .i64 valueClient, .int .i64 valueSeq, .int .i64 valueReplyErr, .string valueReplyValue] ∧ ((0 : Int) ≤ i ∧ i < ((s.len : Nat) : Int)) ∧ vPtr s.a (fun a1 => ∃ key1 : Int, ∃ valueClient1 : Int, ∃ valueSeq1 : Int, ∃ valueReplyErr1 : Int, ∃ valueReplyValue1 : ByteArray, RowAt H1 (a1.add ((i : Int).toNat * 5)) [.int .i64 key1, .int .i64 valueClient1, .int .i64 valueSeq1, .int .i64 valueReplyErr1, .string valueReplyValue1] ∧ ((0 : Int) ≤ i ∧ i < ((s.len : Nat) : Int)) ∧ vPtr s.a (fun a2 => WrAt H1 (a2.add ((i : Int).toNat * 5)) 5 ∧ ((0 : Int) ≤ j ∧ j < ((s.len : Nat) : Int)) ∧ vPtr s.a (fun a3 => WrAt (Hp.setCells H1 (a2.add ((i : Int).toNat * 5)) [.int .i64 key, .int .i64 valueClient, .int .i64 valueSeq, .int .i64 valueReplyErr, .string valueReplyValue] 0) (a3.add ((j : Int).toNat * 5)) 5 ∧ 
 slices_Reverse_sl_sorted_item_int_api_Session_sorted_item_int_api_Session.l1 J s (Hp.setCells (Hp.setCells H1 (a2.add ((i : Int).toNat * 5)) [.int .i64 key, .int .i64 valueClient, .int .i64 valueSeq, .int .i64 valueReplyErr, .string valueReplyValue] 0) (a3.add ((j : Int).toNat * 5)) [.int .i64 key1, .int .i64 valueClient1, .int .i64 valueSeq1, .int .i64 valueReplyErr1, .string valueReplyValue1] 0) (w64 (i + 1)) (w64 (j - 1)) Q)))))
 (Q (.tuple #[]) H1)
theorem slices_Reverse_sl_sorted_item_int_api_Session_sorted_item_int_api_Session.l1.eq (J : Jn) (s : Sl) (H1 : Hp) (i : Int) (j : Int) (Q : Value → Hp → Prop) : vAtBody Try.prog slices_Reverse_sl_sorted_item_int_api_Session_sorted_item_int_api_Session.cf J slices_Reverse_sl_sorted_item_int_api_Session_sorted_item_int_api_Session.fn [1, 0] [0] Q (slices_Reverse_sl_sorted_item_int_api_Session_sorted_item_int_api_Session.l1.st s H1 i j) = slices_Reverse_sl_sorted_item_int_api_Session_sorted_item_int_api_Session.l1.body J s H1 i j Q := by kernel_rfl
theorem slices_Reverse_sl_sorted_item_int_api_Session_sorted_item_int_api_Session.l1.step {s : Sl} {H1 : Hp} {i : Int} {j : Int} {Q : Value → Hp → Prop} (h : slices_Reverse_sl_sorted_item_int_api_Session_sorted_item_int_api_Session.l1.body J0 s H1 i j Q) : slices_Reverse_sl_sorted_item_int_api_Session_sorted_item_int_api_Session.l1 J0 s H1 i j Q := vAt_stepC (slices_Reverse_sl_sorted_item_int_api_Session_sorted_item_int_api_Session.l1.st s H1 i j) (slices_Reverse_sl_sorted_item_int_api_Session_sorted_item_int_api_Session.l1.eq J0 s H1 i j Q) (by kernel_rfl) h
noncomputable def slices_Reverse_sl_sorted_item_int_api_Session_sorted_item_int_api_Session.vc (J : Jn) (s : Sl) (H : Hp) (Q : Value → Hp → Prop) : Prop :=
 
 slices_Reverse_sl_sorted_item_int_api_Session_sorted_item_int_api_Session.l1 J s H 0 (w64 (((s.len : Nat) : Int) - 1)) Q
theorem slices_Reverse_sl_sorted_item_int_api_Session_sorted_item_int_api_Session.eq (J : Jn) (s : Sl) (H : Hp) (Q : Value → Hp → Prop) : vFn Try.prog slices_Reverse_sl_sorted_item_int_api_Session_sorted_item_int_api_Session.cf J slices_Reverse_sl_sorted_item_int_api_Session_sorted_item_int_api_Session.fn [.slice s.a s.len s.cap] H Q = slices_Reverse_sl_sorted_item_int_api_Session_sorted_item_int_api_Session.vc J s H Q := by kernel_rfl
theorem slices_Reverse_sl_sorted_item_int_api_Session_sorted_item_int_api_Session.calls {s : Sl} {H : Hp} {Q : Value → Hp → Prop} (h : slices_Reverse_sl_sorted_item_int_api_Session_sorted_item_int_api_Session.vc J0 s H Q) : SCalls Try.prog slices_Reverse_sl_sorted_item_int_api_Session_sorted_item_int_api_Session.id [.slice s.a s.len s.cap] H Q := vFn_of Try.mixed Try.func106 (slices_Reverse_sl_sorted_item_int_api_Session_sorted_item_int_api_Session.eq J0 s H Q) h

end Go.Proofs
