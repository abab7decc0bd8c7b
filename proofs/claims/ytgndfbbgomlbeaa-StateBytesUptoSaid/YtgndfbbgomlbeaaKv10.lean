/- PROVED: 'tephralaw07.StateBytes' returns true for every input of bulk at most 1048576 (the form Upto), and each argument reads behind the call as it read before. -/
import Derived.Test.YtgndfbbgomlbeaaRows
import Derived.Test.YtgndfbbgomlbeaaKu16
import Derived.Test.YtgndfbbgomlbeaaKu18
import Derived.Test.YtgndfbbgomlbeaaKl2
import Derived.WalkKit
import Derived.ProofKit
import Derived.OpenShut
import Derived.JoinedCond
set_option linter.all false
set_option linter.constructorNameAsVariable false
namespace Go.Proofs.Ytgndfbbgomlbeaa.stateBytes
open Go.ChangeShapes Go.WideShapes Go.ChangeAt Go.RowKit Go.KC
set_option linter.unusedVariables false

theorem own : ownKnob Try.prog.godebug = none := by kernel_rfl
theorem lo : laidOutB Try.prog = true := by kernel_rfl
theorem mr : mapsRowed Try.prog = true := by kernel_rfl
def sizesB (P : Program) : Bool := (List.range P.types.size).all fun t => match P.underlying t with
  | some (.slice e) => decide (0 < P.cellsOf e)
  | _ => true
theorem sizes : sizesB Try.prog = true := by kernel_rfl
theorem sz {t e : TypeId} (ht : t < Try.prog.types.size) (hu : Try.prog.underlying t = some (.slice e)) : 0 < Try.prog.cellsOf e := by
  have h := List.all_eq_true.1 sizes t (List.mem_range.2 ht)
  rw [hu] at h
  exact of_decide_eq_true h
theorem pars : Try.f10.params = #[T_sl_tephralaw06_Say, T_api_State] := by kernel_rfl
theorem ress : Try.f10.resultTypes = #[T_bool] := by kernel_rfl
theorem uBool : Try.prog.underlying T_bool = some .bool := by kernel_rfl
theorem u_T_sl_tephralaw06_Say : Try.prog.underlying T_sl_tephralaw06_Say = some (.slice T_tephralaw06_Say) := by kernel_rfl
theorem fl_T_tephralaw06_Say : flat Try.prog 3 T_tephralaw06_Say = some [.it .u8, .it .u8, .it .u8, .it .u8, .it .u8, .it .u8] := by kernel_rfl
theorem ce_T_tephralaw06_Say : Try.prog.cellsOf T_tephralaw06_Say = 6 := by kernel_rfl
theorem u_T_int : Try.prog.underlying T_int = some (.int .i64) := by kernel_rfl
theorem u_T_sl_api_Pair : Try.prog.underlying T_sl_api_Pair = some (.slice T_api_Pair) := by kernel_rfl
theorem u_T_sl_api_Session : Try.prog.underlying T_sl_api_Session = some (.slice T_api_Session) := by kernel_rfl
theorem fl_T_api_Pair : flat Try.prog 3 T_api_Pair = some [.st, .st, .bo] := by kernel_rfl
theorem ce_T_api_Pair : Try.prog.cellsOf T_api_Pair = 3 := by kernel_rfl
theorem fl_T_api_Session : flat Try.prog 3 T_api_Session = some [.it .i64, .it .i64, .it .i64, .st] := by kernel_rfl
theorem ce_T_api_Session : Try.prog.cellsOf T_api_Session = 4 := by kernel_rfl
theorem cl_T_api_State : Try.prog.cellsOf T_api_State = 4 := by kernel_rfl
theorem cl_T_int : Try.prog.cellsOf T_int = 1 := by kernel_rfl
theorem cl_T_sl_api_Pair : Try.prog.cellsOf T_sl_api_Pair = 1 := by kernel_rfl
theorem cl_T_sl_api_Session : Try.prog.cellsOf T_sl_api_Session = 1 := by kernel_rfl
theorem pt_T_api_State : partsAt (Try.prog.underlying T_api_State) = [(T_int, 0), (T_int, 1), (T_sl_api_Pair, 2), (T_sl_api_Session, 3)] := by kernel_rfl
theorem us_T_api_State : ∃ fs, Try.prog.underlying T_api_State = some (.struct fs) := structB_of (by kernel_rfl)
theorem inTypes : ∀ t ∈ Try.f10.params.toList, t < Try.prog.types.size := fun t ht => of_decide_eq_true (List.all_eq_true.1 (show (Try.f10.params.toList.all fun t => decide (t < Try.prog.types.size)) = true by kernel_rfl) t ht)
theorem part_le {H : Type} {d : DataW H} {l : List (DataW H)} (h : d ∈ l) : Rows.uptoBulk d ≤ Rows.uptoBulkAll l := by
  induction l with
  | nil => cases h
  | cons x r ih =>
    simp only [Rows.uptoBulkAll]
    cases List.mem_cons.1 h with
    | inl e => subst e; omega
    | inr e => have := ih e; omega
theorem bulk {H : Type} : BulkOf (Rows.uptoBulk (H := H)) :=
  ⟨fun bs _ => by simp [Rows.uptoBulk], fun ps d h => by have := part_le h; simp only [Rows.uptoBulk]; omega, fun es sp d h => by have := part_le h; simp only [Rows.uptoBulk]; omega⟩
theorem one_le {H : Type} (d : DataW H) : 1 ≤ Rows.uptoBulk d := by
  cases d with
  | lit l => cases l <;> simp [Rows.uptoBulk]
  | _ => simp [Rows.uptoBulk]
theorem all_le {H : Type} : ∀ l : List (DataW H), l.length ≤ Rows.uptoBulkAll l
  | [] => Nat.le_refl _
  | d :: l => by have := one_le d; have := all_le l; simp only [Rows.uptoBulkAll, List.length_cons]; omega
theorem bulk2 {H : Type} (es sp : List (DataW H)) : es.length ≤ Rows.uptoBulk (.slice es sp) := by have := all_le es; simp only [Rows.uptoBulk]; omega
theorem small {H : Type} {l : List (DataW H)} (hk : Rows.uptoSmall H l = true) {d : DataW H} (hd : d ∈ l) : Rows.uptoBulk d ≤ 1048576 := by
  have h1 : Rows.uptoBulkAll l ≤ 1048576 := of_decide_eq_true hk
  exact Nat.le_trans (part_le hd) h1

set_option maxRecDepth 100000 in
theorem contract (H : Type) (enc : TypeId × Value → H) (W : World) (base : Nat) (args : Array Value) (ds gs : List (DataW H)) (before : List MemPlace)
    (hval : ∀ (j : Nat) t v, Try.f10.params[j]? = some t → args[j]? = some v → Value.okWide Try.prog W .any base t v)
    (hW : DataW.Whole enc Try.prog Try.f10.params.toList Rows.stateBytesSpec.vars false W args.toList ds gs before) (hk : Rows.uptoSmall H (ds ++ gs) = true) :
    Calls Try.prog 10 args W fun e W' => ∃ v, e = .returned v ∧ Rows.stateBytesSpec.post enc Try.prog Try.f10 false true false false W args v W' := by
  have hW' := hW
  obtain ⟨p, q, hA0, hV, rfl, hfz, hnd⟩ := hW
  have hA : DataW.TrodAll enc Try.prog W 0 (fun _ => true) true Try.f10.params.toList args.toList ds p := hA0
  rw [pars] at hA hval
  obtain ⟨v0, vs0, d0, ds0, p0, q0, hargs, rfl, rfl, h0, r0⟩ := trodAll_cons hA
  obtain ⟨v1, vs1, d1, ds1, p1, q1, rfl, rfl, rfl, h1, r1⟩ := trodAll_cons r0
  obtain ⟨rfl, rfl, rfl⟩ := trodAll_nil r1
  obtain rfl : args = #[v0, v1] := by cases args; simp_all
  obtain ⟨rfl, rfl⟩ := trodVars_none hV
  have bd0 : Rows.uptoBulk d0 ≤ 1048576 := small hk (by simp)
  have bd1 : Rows.uptoBulk d1 ≤ 1048576 := small hk (by simp)
  obtain ⟨a0, len0, cap0, rfl⟩ := okWide_slice u_T_sl_tephralaw06_Say (hval 0 T_sl_tephralaw06_Say v0 rfl rfl)
  obtain ⟨rows0, rl0, cm0, hr0, fr0⟩ := openSlice (B := Rows.uptoBulk) bulk u_T_sl_tephralaw06_Say fl_T_tephralaw06_Say ce_T_tephralaw06_Say (by decide) h0
  have lt0 : ∀ g ∈ Sl.blk ⟨a0, len0, cap0⟩, g < W.heap.size := fun g hg => by
    cases a0 with
    | none => simp [Sl.blk] at hg
    | some a => simp [Sl.blk] at hg; subst hg; exact sliceLt u_T_sl_tephralaw06_Say (hval 0 T_sl_tephralaw06_Say _ rfl rfl)
  have bl0 : len0 ≤ 1048576 := Nat.le_trans (sliceLen (B := Rows.uptoBulk) bulk2 u_T_sl_tephralaw06_Say h0) bd0
  obtain ⟨cs1, rfl, _⟩ := okWide_struct us_T_api_State.choose_spec (hval 1 T_api_State v1 rfl rfl)
  obtain ⟨i1, u1, a1, len1, cap1, rows1, a1', len1', cap1', rows1', rfl, bi1, bu1, hr1, fr1, hr1', fr1'⟩ := openState (B := Rows.uptoBulk) bulk pt_T_api_State cl_T_api_State cl_T_int cl_T_sl_api_Pair cl_T_sl_api_Session u_T_int u_T_sl_api_Pair u_T_sl_api_Session fl_T_api_Pair ce_T_api_Pair fl_T_api_Session ce_T_api_Session h1
  obtain ⟨ss, rfl⟩ := saysOf fr0
  obtain ⟨ps, rfl, sp⟩ := prsOf bd1 fr1
  obtain ⟨xs, rfl, sx⟩ := sesOf bd1 fr1'
  have spec := StateBytes_spec hr0 (by simpa using rl0) hr1 hr1' sp sx bi1 bu1
  refine (calls_of spec).mono fun e W' ⟨he, hk'⟩ => ?_
  exact ⟨_, he, law_post lo mr sz inTypes rfl hW' hk' rfl ress uBool⟩

set_option maxRecDepth 100000 in
theorem lifted (os : Os) (started : os.Started) (H : Type) (enc : TypeId × Value → H) (F : Stop.Interp) :
    ReturnsInHanded {} Try.checked os 10 .any ((Rows.OpenSpec.upto Rows.stateBytesSpec).pre6 enc Try.prog Try.f10 Rows.stateBytesUptoRow.domain false) (((Rows.OpenSpec.upto Rows.stateBytesSpec).at F).post enc Try.prog Try.f10 false true false false) := by
  refine returnsInHanded_of_cond (C := Try.checked) (s := Rows.OpenSpec.upto Rows.stateBytesSpec) (k := Rows.uptoSmall) rfl own started (by kernel_rfl) Try.func10
    (OpenSpec.witness (enc := enc) (C := Try.checked) (s := Rows.OpenSpec.upto Rows.stateBytesSpec) (k := Rows.uptoSmall) rfl false ⟨#[], #[.slice none 0 0, .agg #[.int .i64 0, .int .i64 0, .slice none 0 0, .slice none 0 0]], []⟩ 8 (by kernel_rfl) (by kernel_rfl) (by kernel_rfl)
      (x := ([.nil, .agg [.lit (.int .i64 0), .lit (.int .i64 0), .nil, .nil]], [], [])) (by kernel_rfl) rfl (by kernel_rfl)) ?_
  intro W base args ds gs before hval hW _ hk _
  exact contract H enc W base args ds gs before hval hW hk

theorem proved : Rows.StateBytesUptoSaid :=
  OpenClaim.holds_of_cond 10 Try.f10 rfl rfl rfl rfl rfl rfl rfl ⟨rfl, rfl, rfl, rfl, rfl⟩ rfl rfl rfl rfl rfl (by kernel_rfl) Try.func10 (by kernel_rfl)
    (of_decide_eq_true (by kernel_rfl)) (by unfold Func.isWrapper; first | (rw [if_pos (by decide +kernel)]; kernel_rfl) | (rw [if_neg (by decide +kernel)]; exact ⟨rfl, rfl⟩))
    (fun os started H enc _ F => lifted os started H enc F)
end Go.Proofs.Ytgndfbbgomlbeaa.stateBytes
