/- PROVED: 'tephralaw14.NodeSteps' returns true for every input, and each argument reads behind the call as it read before. -/
import Derived.Test.YtbodlapndgnkgaaRows
import Derived.Test.YtbodlapndgnkgaaKno18
import Derived.Test.YtbodlapndgnkgaaKl2
import Derived.WalkKit
import Derived.ProofKit
import Derived.OpenShut
set_option linter.all false
set_option linter.constructorNameAsVariable false
namespace Go.Proofs.Ytbodlapndgnkgaa.nodeSteps
open Go.ChangeShapes Go.WideShapes Go.ChangeAt Go.RowKit Go.KC
set_option linter.unusedVariables false

theorem own : ownKnob Try.prog.godebug = none := by kernel_rfl
theorem lo : laidOutB Try.prog = true := by kernel_rfl
theorem mr : mapsRowed Try.prog = true := by kernel_rfl
def sizesB (P : Program) : Bool := (List.range P.types.size).all fun t => match P.underlying t with
  | some (.slice e) => decide (0 < P.cellsOf e)
  | _ => true
theorem sizes : sizesB Try.prog = true := by kernel_rfl
theorem sz {t e : TypeId} (ht : t < Try.prog.types.size) (hu : Try.prog.underlying t = some (.slice e)) : 0 < Try.prog.cellsOf e := by
  have h := List.all_eq_true.1 sizes t (List.mem_range.2 ht)
  rw [hu] at h
  exact of_decide_eq_true h
theorem pars : Try.f6.params = #[T_sl_tephralaw14_Act, T_node_Msg, T_uint8] := by kernel_rfl
theorem ress : Try.f6.resultTypes = #[T_bool] := by kernel_rfl
theorem uBool : Try.prog.underlying T_bool = some .bool := by kernel_rfl
theorem u_T_sl_tephralaw14_Act : Try.prog.underlying T_sl_tephralaw14_Act = some (.slice T_tephralaw14_Act) := by kernel_rfl
theorem fl_T_tephralaw14_Act : flat Try.prog 4 T_tephralaw14_Act = some [.it .u8, .it .u8, .it .u8, .it .u8, .it .u8, .it .u8, .it .u8, .it .u8, .it .u8, .it .i64, .it .i64, .it .i64, .it .i64, .it .i64, .it .i64, .bo, .it .i64, .sl, .pt, .it .u8] := by kernel_rfl
theorem ce_T_tephralaw14_Act : Try.prog.cellsOf T_tephralaw14_Act = 20 := by kernel_rfl
theorem us_T_node_Msg : ∃ fs, Try.prog.underlying T_node_Msg = some (.struct fs) := structB_of (by kernel_rfl)
theorem u_T_uint8 : Try.prog.underlying T_uint8 = some (.int .u8) := by kernel_rfl
theorem inTypes : ∀ t ∈ Try.f6.params.toList, t < Try.prog.types.size := fun t ht => of_decide_eq_true (List.all_eq_true.1 (show (Try.f6.params.toList.all fun t => decide (t < Try.prog.types.size)) = true by kernel_rfl) t ht)
theorem bulk {H : Type} : BulkOf (fun _ : DataW H => maxLen) := ⟨fun _ h => h, fun _ _ _ => Nat.le_refl _, fun _ _ _ _ => Nat.le_refl _⟩

set_option maxRecDepth 100000 in
theorem contract (H : Type) (enc : TypeId × Value → H) (W : World) (base : Nat) (args : Array Value) (ds gs : List (DataW H)) (before : List MemPlace)
    (hval : ∀ (j : Nat) t v, Try.f6.params[j]? = some t → args[j]? = some v → Value.okWide Try.prog W .any base t v)
    (hW : DataW.Whole enc Try.prog Try.f6.params.toList Rows.nodeStepsSpec.vars false W args.toList ds gs before) :
    Calls Try.prog 6 args W fun e W' => ∃ v, e = .returned v ∧ Rows.nodeStepsSpec.post enc Try.prog Try.f6 false true false false W args v W' := by
  have hW' := hW
  obtain ⟨p, q, hA0, hV, rfl, hfz, hnd⟩ := hW
  have hA : DataW.TrodAll enc Try.prog W 0 (fun _ => true) true Try.f6.params.toList args.toList ds p := hA0
  rw [pars] at hA hval
  obtain ⟨v0, vs0, d0, ds0, p0, q0, hargs, rfl, rfl, h0, r0⟩ := trodAll_cons hA
  obtain ⟨v1, vs1, d1, ds1, p1, q1, rfl, rfl, rfl, h1, r1⟩ := trodAll_cons r0
  obtain ⟨v2, vs2, d2, ds2, p2, q2, rfl, rfl, rfl, h2, r2⟩ := trodAll_cons r1
  obtain ⟨rfl, rfl, rfl⟩ := trodAll_nil r2
  obtain rfl : args = #[v0, v1, v2] := by cases args; simp_all
  obtain ⟨rfl, rfl⟩ := trodVars_none hV
  obtain ⟨a0, len0, cap0, rfl⟩ := okWide_slice u_T_sl_tephralaw14_Act (hval 0 T_sl_tephralaw14_Act v0 rfl rfl)
  obtain ⟨rows0, rl0, cm0, hr0, fr0⟩ := openSlice (B := fun _ => maxLen) bulk u_T_sl_tephralaw14_Act fl_T_tephralaw14_Act ce_T_tephralaw14_Act (by decide) h0
  have lt0 : ∀ g ∈ Sl.blk ⟨a0, len0, cap0⟩, g < W.heap.size := fun g hg => by
    cases a0 with
    | none => simp [Sl.blk] at hg
    | some a => simp [Sl.blk] at hg; subst hg; exact sliceLt u_T_sl_tephralaw14_Act (hval 0 T_sl_tephralaw14_Act _ rfl rfl)
  obtain ⟨cs1, rfl, _⟩ := okWide_struct us_T_node_Msg.choose_spec (hval 1 T_node_Msg v1 rfl rfl)
  obtain ⟨mg1, mx1, pt1, rfl, mok1⟩ := openMsg (B := fun _ => maxLen) bulk (hval 1 T_node_Msg _ rfl rfl) h1
  obtain ⟨n2, rfl, rfl, rfl, w2⟩ := open_int u_T_uint8 (hval 2 T_uint8 v2 rfl rfl) h2
  obtain ⟨c2, rfl⟩ := u8_of w2
  obtain ⟨ds, rfl⟩ := acsOf fr0
  have spec := NodeSteps_spec (who := c2) hr0 (by simpa using rl0) mok1
  refine (calls_of spec).mono fun e W' ⟨he, hk'⟩ => ?_
  exact ⟨_, he, law_post lo mr sz inTypes rfl hW' hk' rfl ress uBool⟩

set_option maxRecDepth 100000 in
theorem lifted (os : Os) (started : os.Started) (H : Type) (enc : TypeId × Value → H) :
    ReturnsInHanded {} Try.checked os 6 .any (Rows.nodeStepsSpec.pre6 enc Try.prog Try.f6 Rows.nodeStepsRow.domain false) (Rows.nodeStepsSpec.post enc Try.prog Try.f6 false true false false) := by
  refine returnsInHanded_of_change (C := Try.checked) own started (by kernel_rfl) Try.func6
    (ChangeSpec.witness6 (enc := enc) (C := Try.checked) false ⟨#[], #[.slice none 0 0, .agg #[.int .i64 0, .int .i64 0, .int .i64 0, .int .i64 0, .int .i64 0, .int .i64 0, .bool false, .int .i64 0, .slice none 0 0, .pointer none], .int .u8 0], []⟩ 8 (by kernel_rfl) (by kernel_rfl) (by kernel_rfl) (by kernel_rfl)) ?_
  intro W base args ds gs before hval hW _ _
  exact contract H enc W base args ds gs before hval hW

theorem over : Rows.nodeStepsRow.holds Try.pinned (OpenSpec.ofChange Rows.nodeStepsSpec) :=
  OpenClaim.holds_of_wide 6 Try.f6 rfl rfl rfl rfl rfl rfl rfl ⟨rfl, rfl, rfl, rfl, rfl⟩ rfl rfl rfl rfl rfl (by kernel_rfl) Try.func6 (by kernel_rfl)
    (of_decide_eq_true (by kernel_rfl)) (by unfold Func.isWrapper; first | (rw [if_pos (by decide +kernel)]; kernel_rfl) | (rw [if_neg (by decide +kernel)]; exact ⟨rfl, rfl⟩))
    (fun os started H enc _ => lifted os started H enc)

theorem proved : Rows.NodeStepsSaid := over
end Go.Proofs.Ytbodlapndgnkgaa.nodeSteps
