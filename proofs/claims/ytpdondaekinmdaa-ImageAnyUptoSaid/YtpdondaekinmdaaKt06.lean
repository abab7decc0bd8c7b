/- PROVED: 'tephralaw09.ImageAny' returns true for every input of bulk at most 1048576 (the form Upto), and each argument reads behind the call as it read before. -/
import Derived.Test.YtpdondaekinmdaaRows
import Derived.Test.YtpdondaekinmdaaKb20
import Derived.Test.YtpdondaekinmdaaKus1
import Derived.Test.YtpdondaekinmdaaKl2
import Derived.WalkKit
import Derived.ProofKit
import Derived.OpenShut
import Derived.JoinedCond
set_option linter.all false
set_option linter.constructorNameAsVariable false
namespace Go.Proofs.Ytpdondaekinmdaa.imageAny
open Go.ChangeShapes Go.WideShapes Go.ChangeAt Go.RowKit Go.KC
set_option linter.unusedVariables false

theorem own : ownKnob Try.prog.godebug = none := by kernel_rfl
theorem lo : laidOutB Try.prog = true := by kernel_rfl
theorem mr : mapsRowed Try.prog = true := by kernel_rfl
def sizesB (P : Program) : Bool := (List.range P.types.size).all fun t => match P.underlying t with
  | some (.slice e) => decide (0 < P.cellsOf e)
  | _ => true
theorem sizes : sizesB Try.prog = true := by kernel_rfl
theorem sz {t e : TypeId} (ht : t < Try.prog.types.size) (hu : Try.prog.underlying t = some (.slice e)) : 0 < Try.prog.cellsOf e := by
  have h := List.all_eq_true.1 sizes t (List.mem_range.2 ht)
  rw [hu] at h
  exact of_decide_eq_true h
theorem pars : Try.f6.params = #[T_sl_uint8, T_sl_tephralaw06_Say, T_uint16, T_uint8, T_uint8] := by kernel_rfl
theorem ress : Try.f6.resultTypes = #[T_bool] := by kernel_rfl
theorem uBool : Try.prog.underlying T_bool = some .bool := by kernel_rfl
theorem u_T_sl_uint8 : Try.prog.underlying T_sl_uint8 = some (.slice T_uint8) := by kernel_rfl
theorem fl_T_uint8 : flat Try.prog 1 T_uint8 = some [.it .u8] := by kernel_rfl
theorem ce_T_uint8 : Try.prog.cellsOf T_uint8 = 1 := by kernel_rfl
theorem u_T_sl_tephralaw06_Say : Try.prog.underlying T_sl_tephralaw06_Say = some (.slice T_tephralaw06_Say) := by kernel_rfl
theorem fl_T_tephralaw06_Say : flat Try.prog 3 T_tephralaw06_Say = some [.it .u8, .it .u8, .it .u8, .it .u8, .it .u8, .it .u8] := by kernel_rfl
theorem ce_T_tephralaw06_Say : Try.prog.cellsOf T_tephralaw06_Say = 6 := by kernel_rfl
theorem u_T_uint16 : Try.prog.underlying T_uint16 = some (.int .u16) := by kernel_rfl
theorem u_T_uint8 : Try.prog.underlying T_uint8 = some (.int .u8) := by kernel_rfl
theorem inTypes : ∀ t ∈ Try.f6.params.toList, t < Try.prog.types.size := fun t ht => of_decide_eq_true (List.all_eq_true.1 (show (Try.f6.params.toList.all fun t => decide (t < Try.prog.types.size)) = true by kernel_rfl) t ht)
theorem part_le {H : Type} {d : DataW H} {l : List (DataW H)} (h : d ∈ l) : Rows.uptoBulk d ≤ Rows.uptoBulkAll l := by
  induction l with
  | nil => cases h
  | cons x r ih =>
    simp only [Rows.uptoBulkAll]
    cases List.mem_cons.1 h with
    | inl e => subst e; omega
    | inr e => have := ih e; omega
theorem bulk {H : Type} : BulkOf (Rows.uptoBulk (H := H)) :=
  ⟨fun bs _ => by simp [Rows.uptoBulk], fun ps d h => by have := part_le h; simp only [Rows.uptoBulk]; omega, fun es sp d h => by have := part_le h; simp only [Rows.uptoBulk]; omega⟩
theorem one_le {H : Type} (d : DataW H) : 1 ≤ Rows.uptoBulk d := by
  cases d with
  | lit l => cases l <;> simp [Rows.uptoBulk]
  | _ => simp [Rows.uptoBulk]
theorem all_le {H : Type} : ∀ l : List (DataW H), l.length ≤ Rows.uptoBulkAll l
  | [] => Nat.le_refl _
  | d :: l => by have := one_le d; have := all_le l; simp only [Rows.uptoBulkAll, List.length_cons]; omega
theorem bulk2 {H : Type} (es sp : List (DataW H)) : es.length ≤ Rows.uptoBulk (.slice es sp) := by have := all_le es; simp only [Rows.uptoBulk]; omega
theorem small {H : Type} {l : List (DataW H)} (hk : Rows.uptoSmall H l = true) {d : DataW H} (hd : d ∈ l) : Rows.uptoBulk d ≤ 1048576 := by
  have h1 : Rows.uptoBulkAll l ≤ 1048576 := of_decide_eq_true hk
  exact Nat.le_trans (part_le hd) h1

set_option maxRecDepth 100000 in
theorem contract (H : Type) (enc : TypeId × Value → H) (W : World) (base : Nat) (args : Array Value) (ds gs : List (DataW H)) (before : List MemPlace)
    (hval : ∀ (j : Nat) t v, Try.f6.params[j]? = some t → args[j]? = some v → Value.okWide Try.prog W .any base t v)
    (hW : DataW.Whole enc Try.prog Try.f6.params.toList Rows.imageAnySpec.vars false W args.toList ds gs before) (hk : Rows.uptoSmall H (ds ++ gs) = true) :
    Calls Try.prog 6 args W fun e W' => ∃ v, e = .returned v ∧ Rows.imageAnySpec.post enc Try.prog Try.f6 false true false false W args v W' := by
  have hW' := hW
  obtain ⟨p, q, hA0, hV, rfl, hfz, hnd⟩ := hW
  have hA : DataW.TrodAll enc Try.prog W 0 (fun _ => true) true Try.f6.params.toList args.toList ds p := hA0
  rw [pars] at hA hval
  obtain ⟨v0, vs0, d0, ds0, p0, q0, hargs, rfl, rfl, h0, r0⟩ := trodAll_cons hA
  obtain ⟨v1, vs1, d1, ds1, p1, q1, rfl, rfl, rfl, h1, r1⟩ := trodAll_cons r0
  obtain ⟨v2, vs2, d2, ds2, p2, q2, rfl, rfl, rfl, h2, r2⟩ := trodAll_cons r1
  obtain ⟨v3, vs3, d3, ds3, p3, q3, rfl, rfl, rfl, h3, r3⟩ := trodAll_cons r2
  obtain ⟨v4, vs4, d4, ds4, p4, q4, rfl, rfl, rfl, h4, r4⟩ := trodAll_cons r3
  obtain ⟨rfl, rfl, rfl⟩ := trodAll_nil r4
  obtain rfl : args = #[v0, v1, v2, v3, v4] := by cases args; simp_all
  obtain ⟨rfl, rfl⟩ := trodVars_none hV
  have bd0 : Rows.uptoBulk d0 ≤ 1048576 := small hk (by simp)
  have bd1 : Rows.uptoBulk d1 ≤ 1048576 := small hk (by simp)
  have bd2 : Rows.uptoBulk d2 ≤ 1048576 := small hk (by simp)
  have bd3 : Rows.uptoBulk d3 ≤ 1048576 := small hk (by simp)
  have bd4 : Rows.uptoBulk d4 ≤ 1048576 := small hk (by simp)
  obtain ⟨a0, len0, cap0, rfl⟩ := okWide_slice u_T_sl_uint8 (hval 0 T_sl_uint8 v0 rfl rfl)
  obtain ⟨rows0, rl0, cm0, hr0, fr0⟩ := openSlice (B := Rows.uptoBulk) bulk u_T_sl_uint8 fl_T_uint8 ce_T_uint8 (by decide) h0
  have lt0 : ∀ g ∈ Sl.blk ⟨a0, len0, cap0⟩, g < W.heap.size := fun g hg => by
    cases a0 with
    | none => simp [Sl.blk] at hg
    | some a => simp [Sl.blk] at hg; subst hg; exact sliceLt u_T_sl_uint8 (hval 0 T_sl_uint8 _ rfl rfl)
  have bl0 : len0 ≤ 1048576 := Nat.le_trans (sliceLen (B := Rows.uptoBulk) bulk2 u_T_sl_uint8 h0) bd0
  obtain ⟨a1, len1, cap1, rfl⟩ := okWide_slice u_T_sl_tephralaw06_Say (hval 1 T_sl_tephralaw06_Say v1 rfl rfl)
  obtain ⟨rows1, rl1, cm1, hr1, fr1⟩ := openSlice (B := Rows.uptoBulk) bulk u_T_sl_tephralaw06_Say fl_T_tephralaw06_Say ce_T_tephralaw06_Say (by decide) h1
  have lt1 : ∀ g ∈ Sl.blk ⟨a1, len1, cap1⟩, g < W.heap.size := fun g hg => by
    cases a1 with
    | none => simp [Sl.blk] at hg
    | some a => simp [Sl.blk] at hg; subst hg; exact sliceLt u_T_sl_tephralaw06_Say (hval 1 T_sl_tephralaw06_Say _ rfl rfl)
  have bl1 : len1 ≤ 1048576 := Nat.le_trans (sliceLen (B := Rows.uptoBulk) bulk2 u_T_sl_tephralaw06_Say h1) bd1
  obtain ⟨n2, rfl, rfl, rfl, w2⟩ := open_int u_T_uint16 (hval 2 T_uint16 v2 rfl rfl) h2
  obtain ⟨n3, rfl, rfl, rfl, w3⟩ := open_int u_T_uint8 (hval 3 T_uint8 v3 rfl rfl) h3
  obtain ⟨c3, rfl⟩ := u8_of w3
  obtain ⟨n4, rfl, rfl, rfl, w4⟩ := open_int u_T_uint8 (hval 4 T_uint8 v4 rfl rfl) h4
  obtain ⟨c4, rfl⟩ := u8_of w4
  obtain ⟨bs, e0⟩ := bytesOf fr0
  rw [e0] at hr0
  have bsl : bs.length = len0 := by have := hr0.1; simpa using this
  obtain ⟨ss, rfl⟩ := saysOf fr1
  obtain ⟨c, rfl⟩ := u16_of w2
  have spec := ImageAny_spec (at' := c) (by' := c3) (fv := c4) hr0 lt0 (by omega) hr1 (by simpa using rl1)
  refine (calls_of spec).mono fun e W' ⟨he, hk'⟩ => ?_
  exact ⟨_, he, law_post lo mr sz inTypes rfl hW' hk' rfl ress uBool⟩

set_option maxRecDepth 100000 in
theorem lifted (os : Os) (started : os.Started) (H : Type) (enc : TypeId × Value → H) (F : Stop.Interp) :
    ReturnsInHanded {} Try.checked os 6 .any ((Rows.OpenSpec.upto Rows.imageAnySpec).pre6 enc Try.prog Try.f6 Rows.imageAnyUptoRow.domain false) (((Rows.OpenSpec.upto Rows.imageAnySpec).at F).post enc Try.prog Try.f6 false true false false) := by
  refine returnsInHanded_of_cond (C := Try.checked) (s := Rows.OpenSpec.upto Rows.imageAnySpec) (k := Rows.uptoSmall) rfl own started (by kernel_rfl) Try.func6
    (OpenSpec.witness (enc := enc) (C := Try.checked) (s := Rows.OpenSpec.upto Rows.imageAnySpec) (k := Rows.uptoSmall) rfl false ⟨#[], #[.slice none 0 0, .slice none 0 0, .int .u16 0, .int .u8 0, .int .u8 0], []⟩ 8 (by kernel_rfl) (by kernel_rfl) (by kernel_rfl)
      (x := ([.nil, .nil, .lit (.int .u16 0), .lit (.int .u8 0), .lit (.int .u8 0)], [], [])) (by kernel_rfl) rfl (by kernel_rfl)) ?_
  intro W base args ds gs before hval hW _ hk _
  exact contract H enc W base args ds gs before hval hW hk

theorem proved : Rows.ImageAnyUptoSaid :=
  OpenClaim.holds_of_cond 6 Try.f6 rfl rfl rfl rfl rfl rfl rfl ⟨rfl, rfl, rfl, rfl, rfl⟩ rfl rfl rfl rfl rfl (by kernel_rfl) Try.func6 (by kernel_rfl)
    (of_decide_eq_true (by kernel_rfl)) (by unfold Func.isWrapper; first | (rw [if_pos (by decide +kernel)]; kernel_rfl) | (rw [if_neg (by decide +kernel)]; exact ⟨rfl, rfl⟩))
    (fun os started H enc _ F => lifted os started H enc F)
end Go.Proofs.Ytpdondaekinmdaa.imageAny
