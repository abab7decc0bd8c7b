/- PROVED: 'tephralaw13.RlogRight' returns true for every input, and each argument reads behind the call as it read before. -/
import Derived.Test.YtdfakiaehkfhnaaRows
import Derived.Test.YtdfakiaehkfhnaaKr10
import Derived.Test.YtdfakiaehkfhnaaKr11
import Derived.Test.YtdfakiaehkfhnaaKl2
import Derived.WalkKit
import Derived.ProofKit
import Derived.OpenShut
set_option linter.all false
set_option linter.constructorNameAsVariable false
namespace Go.Proofs.Ytdfakiaehkfhnaa.rlogRight
open Go.ChangeShapes Go.WideShapes Go.ChangeAt Go.RowKit Go.KC
set_option linter.unusedVariables false

theorem own : ownKnob Try.prog.godebug = none := by kernel_rfl
theorem lo : laidOutB Try.prog = true := by kernel_rfl
theorem mr : mapsRowed Try.prog = true := by kernel_rfl
def sizesB (P : Program) : Bool := (List.range P.types.size).all fun t => match P.underlying t with
  | some (.slice e) => decide (0 < P.cellsOf e)
  | _ => true
theorem sizes : sizesB Try.prog = true := by kernel_rfl
theorem sz {t e : TypeId} (ht : t < Try.prog.types.size) (hu : Try.prog.underlying t = some (.slice e)) : 0 < Try.prog.cellsOf e := by
  have h := List.all_eq_true.1 sizes t (List.mem_range.2 ht)
  rw [hu] at h
  exact of_decide_eq_true h
theorem pars : Try.f5.params = #[T_rlog_Log, T_sl_tephralaw06_Say, T_uint8, T_uint8, T_uint8, T_api_Entry] := by kernel_rfl
theorem ress : Try.f5.resultTypes = #[T_bool] := by kernel_rfl
theorem uBool : Try.prog.underlying T_bool = some .bool := by kernel_rfl
theorem u_T_int : Try.prog.underlying T_int = some (.int .i64) := by kernel_rfl
theorem u_T_sl_api_Entry : Try.prog.underlying T_sl_api_Entry = some (.slice T_api_Entry) := by kernel_rfl
theorem fl_T_api_Entry : flat Try.prog 3 T_api_Entry = some [.it .i64, .it .i64, .it .i64, .it .i64, .it .i64, .st, .st, .st] := by kernel_rfl
theorem ce_T_api_Entry : Try.prog.cellsOf T_api_Entry = 8 := by kernel_rfl
theorem cl_T_rlog_Log : Try.prog.cellsOf T_rlog_Log = 3 := by kernel_rfl
theorem cl_T_int : Try.prog.cellsOf T_int = 1 := by kernel_rfl
theorem cl_T_sl_api_Entry : Try.prog.cellsOf T_sl_api_Entry = 1 := by kernel_rfl
theorem pt_T_rlog_Log : partsAt (Try.prog.underlying T_rlog_Log) = [(T_int, 0), (T_int, 1), (T_sl_api_Entry, 2)] := by kernel_rfl
theorem us_T_rlog_Log : ∃ fs, Try.prog.underlying T_rlog_Log = some (.struct fs) := structB_of (by kernel_rfl)
theorem u_T_sl_tephralaw06_Say : Try.prog.underlying T_sl_tephralaw06_Say = some (.slice T_tephralaw06_Say) := by kernel_rfl
theorem fl_T_tephralaw06_Say : flat Try.prog 3 T_tephralaw06_Say = some [.it .u8, .it .u8, .it .u8, .it .u8, .it .u8, .it .u8] := by kernel_rfl
theorem ce_T_tephralaw06_Say : Try.prog.cellsOf T_tephralaw06_Say = 6 := by kernel_rfl
theorem u_T_uint8 : Try.prog.underlying T_uint8 = some (.int .u8) := by kernel_rfl
theorem us_T_api_Entry : ∃ fs, Try.prog.underlying T_api_Entry = some (.struct fs) := structB_of (by kernel_rfl)
theorem inTypes : ∀ t ∈ Try.f5.params.toList, t < Try.prog.types.size := fun t ht => of_decide_eq_true (List.all_eq_true.1 (show (Try.f5.params.toList.all fun t => decide (t < Try.prog.types.size)) = true by kernel_rfl) t ht)
theorem bulk {H : Type} : BulkOf (fun _ : DataW H => maxLen) := ⟨fun _ h => h, fun _ _ _ => Nat.le_refl _, fun _ _ _ _ => Nat.le_refl _⟩

set_option maxRecDepth 100000 in
theorem contract (H : Type) (enc : TypeId × Value → H) (W : World) (base : Nat) (args : Array Value) (ds gs : List (DataW H)) (before : List MemPlace)
    (hval : ∀ (j : Nat) t v, Try.f5.params[j]? = some t → args[j]? = some v → Value.okWide Try.prog W .any base t v)
    (hW : DataW.Whole enc Try.prog Try.f5.params.toList Rows.rlogRightSpec.vars false W args.toList ds gs before) :
    Calls Try.prog 5 args W fun e W' => ∃ v, e = .returned v ∧ Rows.rlogRightSpec.post enc Try.prog Try.f5 false true false false W args v W' := by
  have hW' := hW
  obtain ⟨p, q, hA0, hV, rfl, hfz, hnd⟩ := hW
  have hA : DataW.TrodAll enc Try.prog W 0 (fun _ => true) true Try.f5.params.toList args.toList ds p := hA0
  rw [pars] at hA hval
  obtain ⟨v0, vs0, d0, ds0, p0, q0, hargs, rfl, rfl, h0, r0⟩ := trodAll_cons hA
  obtain ⟨v1, vs1, d1, ds1, p1, q1, rfl, rfl, rfl, h1, r1⟩ := trodAll_cons r0
  obtain ⟨v2, vs2, d2, ds2, p2, q2, rfl, rfl, rfl, h2, r2⟩ := trodAll_cons r1
  obtain ⟨v3, vs3, d3, ds3, p3, q3, rfl, rfl, rfl, h3, r3⟩ := trodAll_cons r2
  obtain ⟨v4, vs4, d4, ds4, p4, q4, rfl, rfl, rfl, h4, r4⟩ := trodAll_cons r3
  obtain ⟨v5, vs5, d5, ds5, p5, q5, rfl, rfl, rfl, h5, r5⟩ := trodAll_cons r4
  obtain ⟨rfl, rfl, rfl⟩ := trodAll_nil r5
  obtain rfl : args = #[v0, v1, v2, v3, v4, v5] := by cases args; simp_all
  obtain ⟨rfl, rfl⟩ := trodVars_none hV
  obtain ⟨cs0, rfl, _⟩ := okWide_struct us_T_rlog_Log.choose_spec (hval 0 T_rlog_Log v0 rfl rfl)
  obtain ⟨lb0, lt0, a0, len0, cap0, rows0, rfl, rl0, cm0, hr0, fr0⟩ := openLog (B := fun _ => maxLen) bulk pt_T_rlog_Log cl_T_rlog_Log cl_T_int cl_T_sl_api_Entry u_T_int u_T_sl_api_Entry fl_T_api_Entry ce_T_api_Entry h0
  obtain ⟨a1, len1, cap1, rfl⟩ := okWide_slice u_T_sl_tephralaw06_Say (hval 1 T_sl_tephralaw06_Say v1 rfl rfl)
  obtain ⟨rows1, rl1, cm1, hr1, fr1⟩ := openSlice (B := fun _ => maxLen) bulk u_T_sl_tephralaw06_Say fl_T_tephralaw06_Say ce_T_tephralaw06_Say (by decide) h1
  have lt1 : ∀ g ∈ Sl.blk ⟨a1, len1, cap1⟩, g < W.heap.size := fun g hg => by
    cases a1 with
    | none => simp [Sl.blk] at hg
    | some a => simp [Sl.blk] at hg; subst hg; exact sliceLt u_T_sl_tephralaw06_Say (hval 1 T_sl_tephralaw06_Say _ rfl rfl)
  obtain ⟨n2, rfl, rfl, rfl, w2⟩ := open_int u_T_uint8 (hval 2 T_uint8 v2 rfl rfl) h2
  obtain ⟨c2, rfl⟩ := u8_of w2
  obtain ⟨n3, rfl, rfl, rfl, w3⟩ := open_int u_T_uint8 (hval 3 T_uint8 v3 rfl rfl) h3
  obtain ⟨c3, rfl⟩ := u8_of w3
  obtain ⟨n4, rfl, rfl, rfl, w4⟩ := open_int u_T_uint8 (hval 4 T_uint8 v4 rfl rfl) h4
  obtain ⟨c4, rfl⟩ := u8_of w4
  obtain ⟨cs5, rfl, _⟩ := okWide_struct us_T_api_Entry.choose_spec (hval 5 T_api_Entry v5 rfl rfl)
  have f5 := openFlat (B := fun _ => maxLen) bulk fl_T_api_Entry h5
  obtain ⟨rs, rfl, _⟩ := entsOf fr0
  obtain ⟨ss, rfl⟩ := saysOf fr1
  obtain ⟨tn, rfl, _⟩ := enOf f5
  have hraw : Lr W.heap ⟨a0, len0, cap0⟩ rs := hr0
  have spec := RlogRight_spec (rb := lb0) (rt := lt0) (u := c2) (v := c3) (c := c4) (tn := tn) hraw (by have h1 := hraw.len; have h2 := hraw.2.1; have hm : maxLen = 9223372036854775807 := rfl; simp only at h1 h2; omega) hr1 (by simpa using rl1)
  refine (calls_of spec).mono fun e W' ⟨he, hk'⟩ => ?_
  exact ⟨_, he, law_post lo mr sz inTypes rfl hW' hk' rfl ress uBool⟩

set_option maxRecDepth 100000 in
theorem lifted (os : Os) (started : os.Started) (H : Type) (enc : TypeId × Value → H) :
    ReturnsInHanded {} Try.checked os 5 .any (Rows.rlogRightSpec.pre6 enc Try.prog Try.f5 Rows.rlogRightRow.domain false) (Rows.rlogRightSpec.post enc Try.prog Try.f5 false true false false) := by
  refine returnsInHanded_of_change (C := Try.checked) own started (by kernel_rfl) Try.func5
    (ChangeSpec.witness6 (enc := enc) (C := Try.checked) false ⟨#[], #[.agg #[.int .i64 0, .int .i64 0, .slice none 0 0], .slice none 0 0, .int .u8 0, .int .u8 0, .int .u8 0, .agg #[.int .i64 0, .int .i64 0, .int .i64 0, .int .i64 0, .int .i64 0, .string .empty, .string .empty, .string .empty]], []⟩ 8 (by kernel_rfl) (by kernel_rfl) (by kernel_rfl) (by kernel_rfl)) ?_
  intro W base args ds gs before hval hW _ _
  exact contract H enc W base args ds gs before hval hW

theorem over : Rows.rlogRightRow.holds Try.pinned (OpenSpec.ofChange Rows.rlogRightSpec) :=
  OpenClaim.holds_of_wide 5 Try.f5 rfl rfl rfl rfl rfl rfl rfl ⟨rfl, rfl, rfl, rfl, rfl⟩ rfl rfl rfl rfl rfl (by kernel_rfl) Try.func5 (by kernel_rfl)
    (of_decide_eq_true (by kernel_rfl)) (by unfold Func.isWrapper; first | (rw [if_pos (by decide +kernel)]; kernel_rfl) | (rw [if_neg (by decide +kernel)]; exact ⟨rfl, rfl⟩))
    (fun os started H enc _ => lifted os started H enc)

theorem proved : Rows.RlogRightSaid := over
end Go.Proofs.Ytdfakiaehkfhnaa.rlogRight
