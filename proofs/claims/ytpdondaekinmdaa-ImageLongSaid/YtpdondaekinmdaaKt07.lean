/- PROVED: 'tephralaw09.ImageLong' returns true for every input, and each argument reads behind the call as it read before. -/
import Derived.Test.YtpdondaekinmdaaRows
import Derived.Test.YtpdondaekinmdaaKb21
import Derived.Test.YtpdondaekinmdaaKq7
import Derived.Test.YtpdondaekinmdaaKl2
import Derived.WalkKit
import Derived.ProofKit
import Derived.OpenShut
set_option linter.all false
set_option linter.constructorNameAsVariable false
namespace Go.Proofs.Ytpdondaekinmdaa.imageLong
open Go.ChangeShapes Go.WideShapes Go.ChangeAt Go.RowKit Go.KC
set_option linter.unusedVariables false

theorem own : ownKnob Try.prog.godebug = none := by kernel_rfl
theorem lo : laidOutB Try.prog = true := by kernel_rfl
theorem mr : mapsRowed Try.prog = true := by kernel_rfl
def sizesB (P : Program) : Bool := (List.range P.types.size).all fun t => match P.underlying t with
  | some (.slice e) => decide (0 < P.cellsOf e)
  | _ => true
theorem sizes : sizesB Try.prog = true := by kernel_rfl
theorem sz {t e : TypeId} (ht : t < Try.prog.types.size) (hu : Try.prog.underlying t = some (.slice e)) : 0 < Try.prog.cellsOf e := by
  have h := List.all_eq_true.1 sizes t (List.mem_range.2 ht)
  rw [hu] at h
  exact of_decide_eq_true h
theorem pars : Try.f7.params = #[T_uint8, T_sl_tephralaw06_Say] := by kernel_rfl
theorem ress : Try.f7.resultTypes = #[T_bool] := by kernel_rfl
theorem uBool : Try.prog.underlying T_bool = some .bool := by kernel_rfl
theorem u_T_uint8 : Try.prog.underlying T_uint8 = some (.int .u8) := by kernel_rfl
theorem u_T_sl_tephralaw06_Say : Try.prog.underlying T_sl_tephralaw06_Say = some (.slice T_tephralaw06_Say) := by kernel_rfl
theorem fl_T_tephralaw06_Say : flat Try.prog 3 T_tephralaw06_Say = some [.it .u8, .it .u8, .it .u8, .it .u8, .it .u8, .it .u8] := by kernel_rfl
theorem ce_T_tephralaw06_Say : Try.prog.cellsOf T_tephralaw06_Say = 6 := by kernel_rfl
theorem inTypes : ∀ t ∈ Try.f7.params.toList, t < Try.prog.types.size := fun t ht => of_decide_eq_true (List.all_eq_true.1 (show (Try.f7.params.toList.all fun t => decide (t < Try.prog.types.size)) = true by kernel_rfl) t ht)
theorem bulk {H : Type} : BulkOf (fun _ : DataW H => maxLen) := ⟨fun _ h => h, fun _ _ _ => Nat.le_refl _, fun _ _ _ _ => Nat.le_refl _⟩

set_option maxRecDepth 100000 in
theorem contract (H : Type) (enc : TypeId × Value → H) (W : World) (base : Nat) (args : Array Value) (ds gs : List (DataW H)) (before : List MemPlace)
    (hval : ∀ (j : Nat) t v, Try.f7.params[j]? = some t → args[j]? = some v → Value.okWide Try.prog W .any base t v)
    (hW : DataW.Whole enc Try.prog Try.f7.params.toList Rows.imageLongSpec.vars false W args.toList ds gs before) :
    Calls Try.prog 7 args W fun e W' => ∃ v, e = .returned v ∧ Rows.imageLongSpec.post enc Try.prog Try.f7 false true false false W args v W' := by
  have hW' := hW
  obtain ⟨p, q, hA0, hV, rfl, hfz, hnd⟩ := hW
  have hA : DataW.TrodAll enc Try.prog W 0 (fun _ => true) true Try.f7.params.toList args.toList ds p := hA0
  rw [pars] at hA hval
  obtain ⟨v0, vs0, d0, ds0, p0, q0, hargs, rfl, rfl, h0, r0⟩ := trodAll_cons hA
  obtain ⟨v1, vs1, d1, ds1, p1, q1, rfl, rfl, rfl, h1, r1⟩ := trodAll_cons r0
  obtain ⟨rfl, rfl, rfl⟩ := trodAll_nil r1
  obtain rfl : args = #[v0, v1] := by cases args; simp_all
  obtain ⟨rfl, rfl⟩ := trodVars_none hV
  obtain ⟨n0, rfl, rfl, rfl, w0⟩ := open_int u_T_uint8 (hval 0 T_uint8 v0 rfl rfl) h0
  obtain ⟨c0, rfl⟩ := u8_of w0
  obtain ⟨a1, len1, cap1, rfl⟩ := okWide_slice u_T_sl_tephralaw06_Say (hval 1 T_sl_tephralaw06_Say v1 rfl rfl)
  obtain ⟨rows1, rl1, cm1, hr1, fr1⟩ := openSlice (B := fun _ => maxLen) bulk u_T_sl_tephralaw06_Say fl_T_tephralaw06_Say ce_T_tephralaw06_Say (by decide) h1
  have lt1 : ∀ g ∈ Sl.blk ⟨a1, len1, cap1⟩, g < W.heap.size := fun g hg => by
    cases a1 with
    | none => simp [Sl.blk] at hg
    | some a => simp [Sl.blk] at hg; subst hg; exact sliceLt u_T_sl_tephralaw06_Say (hval 1 T_sl_tephralaw06_Say _ rfl rfl)
  obtain ⟨ss, rfl⟩ := saysOf fr1
  have spec := ImageLong_spec (n := c0) hr1 (by simpa using rl1)
  refine (calls_of spec).mono fun e W' ⟨he, hk'⟩ => ?_
  exact ⟨_, he, law_post lo mr sz inTypes rfl hW' hk' rfl ress uBool⟩

set_option maxRecDepth 100000 in
theorem lifted (os : Os) (started : os.Started) (H : Type) (enc : TypeId × Value → H) :
    ReturnsInHanded {} Try.checked os 7 .any (Rows.imageLongSpec.pre6 enc Try.prog Try.f7 Rows.imageLongRow.domain false) (Rows.imageLongSpec.post enc Try.prog Try.f7 false true false false) := by
  refine returnsInHanded_of_change (C := Try.checked) own started (by kernel_rfl) Try.func7
    (ChangeSpec.witness6 (enc := enc) (C := Try.checked) false ⟨#[], #[.int .u8 0, .slice none 0 0], []⟩ 8 (by kernel_rfl) (by kernel_rfl) (by kernel_rfl) (by kernel_rfl)) ?_
  intro W base args ds gs before hval hW _ _
  exact contract H enc W base args ds gs before hval hW

theorem over : Rows.imageLongRow.holds Try.pinned (OpenSpec.ofChange Rows.imageLongSpec) :=
  OpenClaim.holds_of_wide 7 Try.f7 rfl rfl rfl rfl rfl rfl rfl ⟨rfl, rfl, rfl, rfl, rfl⟩ rfl rfl rfl rfl rfl (by kernel_rfl) Try.func7 (by kernel_rfl)
    (of_decide_eq_true (by kernel_rfl)) (by unfold Func.isWrapper; first | (rw [if_pos (by decide +kernel)]; kernel_rfl) | (rw [if_neg (by decide +kernel)]; exact ⟨rfl, rfl⟩))
    (fun os started H enc _ => lifted os started H enc)

theorem proved : Rows.ImageLongSaid := over
end Go.Proofs.Ytpdondaekinmdaa.imageLong
