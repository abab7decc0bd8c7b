/- PROVED: 'tephralaw14.NodeAgree' returns true for every input, and each argument reads behind the call as it read before. -/
import Derived.Test.YtbodlapndgnkgaaRows
import Derived.Test.YtbodlapndgnkgaaKno33
import Derived.Test.YtbodlapndgnkgaaKl2
import Derived.WalkKit
import Derived.ProofKit
import Derived.OpenShut
set_option linter.all false
set_option linter.constructorNameAsVariable false
namespace Go.Proofs.Ytbodlapndgnkgaa.nodeAgree
open Go.ChangeShapes Go.WideShapes Go.ChangeAt Go.RowKit Go.KC
set_option linter.unusedVariables false

theorem own : ownKnob Try.prog.godebug = none := by kernel_rfl
theorem lo : laidOutB Try.prog = true := by kernel_rfl
theorem mr : mapsRowed Try.prog = true := by kernel_rfl
def sizesB (P : Program) : Bool := (List.range P.types.size).all fun t => match P.underlying t with
  | some (.slice e) => decide (0 < P.cellsOf e)
  | _ => true
theorem sizes : sizesB Try.prog = true := by kernel_rfl
theorem sz {t e : TypeId} (ht : t < Try.prog.types.size) (hu : Try.prog.underlying t = some (.slice e)) : 0 < Try.prog.cellsOf e := by
  have h := List.all_eq_true.1 sizes t (List.mem_range.2 ht)
  rw [hu] at h
  exact of_decide_eq_true h
theorem pars : Try.f5.params = #[T_sl_tephralaw14_Act] := by kernel_rfl
theorem ress : Try.f5.resultTypes = #[T_bool] := by kernel_rfl
theorem uBool : Try.prog.underlying T_bool = some .bool := by kernel_rfl
theorem u_T_sl_tephralaw14_Act : Try.prog.underlying T_sl_tephralaw14_Act = some (.slice T_tephralaw14_Act) := by kernel_rfl
theorem fl_T_tephralaw14_Act : flat Try.prog 4 T_tephralaw14_Act = some [.it .u8, .it .u8, .it .u8, .it .u8, .it .u8, .it .u8, .it .u8, .it .u8, .it .u8, .it .i64, .it .i64, .it .i64, .it .i64, .it .i64, .it .i64, .bo, .it .i64, .sl, .pt, .it .u8] := by kernel_rfl
theorem ce_T_tephralaw14_Act : Try.prog.cellsOf T_tephralaw14_Act = 20 := by kernel_rfl
theorem inTypes : ∀ t ∈ Try.f5.params.toList, t < Try.prog.types.size := fun t ht => of_decide_eq_true (List.all_eq_true.1 (show (Try.f5.params.toList.all fun t => decide (t < Try.prog.types.size)) = true by kernel_rfl) t ht)
theorem bulk {H : Type} : BulkOf (fun _ : DataW H => maxLen) := ⟨fun _ h => h, fun _ _ _ => Nat.le_refl _, fun _ _ _ _ => Nat.le_refl _⟩

set_option maxRecDepth 100000 in
theorem contract (H : Type) (enc : TypeId × Value → H) (W : World) (base : Nat) (args : Array Value) (ds gs : List (DataW H)) (before : List MemPlace)
    (hval : ∀ (j : Nat) t v, Try.f5.params[j]? = some t → args[j]? = some v → Value.okWide Try.prog W .any base t v)
    (hW : DataW.Whole enc Try.prog Try.f5.params.toList Rows.nodeAgreeSpec.vars false W args.toList ds gs before) :
    Calls Try.prog 5 args W fun e W' => ∃ v, e = .returned v ∧ Rows.nodeAgreeSpec.post enc Try.prog Try.f5 false true false false W args v W' := by
  have hW' := hW
  obtain ⟨p, q, hA0, hV, rfl, hfz, hnd⟩ := hW
  have hA : DataW.TrodAll enc Try.prog W 0 (fun _ => true) true Try.f5.params.toList args.toList ds p := hA0
  rw [pars] at hA hval
  obtain ⟨v0, vs0, d0, ds0, p0, q0, hargs, rfl, rfl, h0, r0⟩ := trodAll_cons hA
  obtain ⟨rfl, rfl, rfl⟩ := trodAll_nil r0
  obtain rfl : args = #[v0] := by cases args; simp_all
  obtain ⟨rfl, rfl⟩ := trodVars_none hV
  obtain ⟨a0, len0, cap0, rfl⟩ := okWide_slice u_T_sl_tephralaw14_Act (hval 0 T_sl_tephralaw14_Act v0 rfl rfl)
  obtain ⟨rows0, rl0, cm0, hr0, fr0⟩ := openSlice (B := fun _ => maxLen) bulk u_T_sl_tephralaw14_Act fl_T_tephralaw14_Act ce_T_tephralaw14_Act (by decide) h0
  have lt0 : ∀ g ∈ Sl.blk ⟨a0, len0, cap0⟩, g < W.heap.size := fun g hg => by
    cases a0 with
    | none => simp [Sl.blk] at hg
    | some a => simp [Sl.blk] at hg; subst hg; exact sliceLt u_T_sl_tephralaw14_Act (hval 0 T_sl_tephralaw14_Act _ rfl rfl)
  obtain ⟨ds, rfl⟩ := acsOf fr0
  have spec := NodeAgree_spec hr0 (by simpa using rl0)
  refine (calls_of spec).mono fun e W' ⟨he, hk'⟩ => ?_
  exact ⟨_, he, law_post lo mr sz inTypes rfl hW' hk' rfl ress uBool⟩

set_option maxRecDepth 100000 in
theorem lifted (os : Os) (started : os.Started) (H : Type) (enc : TypeId × Value → H) :
    ReturnsInHanded {} Try.checked os 5 .any (Rows.nodeAgreeSpec.pre6 enc Try.prog Try.f5 Rows.nodeAgreeRow.domain false) (Rows.nodeAgreeSpec.post enc Try.prog Try.f5 false true false false) := by
  refine returnsInHanded_of_change (C := Try.checked) own started (by kernel_rfl) Try.func5
    (ChangeSpec.witness6 (enc := enc) (C := Try.checked) false ⟨#[], #[.slice none 0 0], []⟩ 8 (by kernel_rfl) (by kernel_rfl) (by kernel_rfl) (by kernel_rfl)) ?_
  intro W base args ds gs before hval hW _ _
  exact contract H enc W base args ds gs before hval hW

theorem over : Rows.nodeAgreeRow.holds Try.pinned (OpenSpec.ofChange Rows.nodeAgreeSpec) :=
  OpenClaim.holds_of_wide 5 Try.f5 rfl rfl rfl rfl rfl rfl rfl ⟨rfl, rfl, rfl, rfl, rfl⟩ rfl rfl rfl rfl rfl (by kernel_rfl) Try.func5 (by kernel_rfl)
    (of_decide_eq_true (by kernel_rfl)) (by unfold Func.isWrapper; first | (rw [if_pos (by decide +kernel)]; kernel_rfl) | (rw [if_neg (by decide +kernel)]; exact ⟨rfl, rfl⟩))
    (fun os started H enc _ => lifted os started H enc)

theorem proved : Rows.NodeAgreeSaid := over
end Go.Proofs.Ytbodlapndgnkgaa.nodeAgree
