/- PROVED: 'tephralaw01.PackMany' returns true for every input, and each argument reads behind the call as it read before. -/
import Derived.Test.YtllkdgnagjciiaaRows
import Derived.Test.YtllkdgnagjciiaaKp8
import Derived.Test.YtllkdgnagjciiaaKl1
import Derived.WalkKit
import Derived.ProofKit
import Derived.OpenShut
set_option linter.all false
set_option linter.constructorNameAsVariable false
namespace Go.Proofs.Ytllkdgnagjciiaa.packMany
open Go.ChangeShapes Go.WideShapes Go.ChangeAt Go.RowKit Go.KC
set_option linter.unusedVariables false

theorem own : ownKnob Try.prog.godebug = none := by kernel_rfl
theorem lo : laidOutB Try.prog = true := by kernel_rfl
theorem mr : mapsRowed Try.prog = true := by kernel_rfl
def sizesB (P : Program) : Bool := (List.range P.types.size).all fun t => match P.underlying t with
  | some (.slice e) => decide (0 < P.cellsOf e)
  | _ => true
theorem sizes : sizesB Try.prog = true := by kernel_rfl
theorem sz {t e : TypeId} (ht : t < Try.prog.types.size) (hu : Try.prog.underlying t = some (.slice e)) : 0 < Try.prog.cellsOf e := by
  have h := List.all_eq_true.1 sizes t (List.mem_range.2 ht)
  rw [hu] at h
  exact of_decide_eq_true h
theorem pars : Try.f5.params = #[T_sl_int] := by kernel_rfl
theorem ress : Try.f5.resultTypes = #[T_bool] := by kernel_rfl
theorem uSl : Try.prog.underlying T_sl_int = some (.slice T_int) := by kernel_rfl
theorem uInt : Try.prog.underlying T_int = some (.int .i64) := by kernel_rfl
theorem uBool : Try.prog.underlying T_bool = some .bool := by kernel_rfl
theorem cInt : Try.prog.cellsOf T_int = 1 := by kernel_rfl
theorem inTypes : ∀ t ∈ Try.f5.params.toList, t < Try.prog.types.size := by
  rw [pars]; intro t ht; simp at ht; subst ht; exact of_decide_eq_true (by kernel_rfl)

/-- A slice of ints, opened. -/
theorem openInts {W : World} {H : Type} {enc : TypeId × Value → H} {a0 : Option Addr} {len cap : Nat} {d : DataW H} {p : List MemPlace} (h : DataW.Trod enc Try.prog W 0 (fun _ => true) true T_sl_int (.slice a0 len cap) d p) :
    ∃ cs : List Int, Rows W.heap ⟨a0, len, cap⟩ 1 (cs.map iv) ∧ ∀ n ∈ cs, -9223372036854775808 ≤ n ∧ n ≤ 9223372036854775807 := by
  obtain ⟨n, hf⟩ := h
  rcases open_ints uSl uInt cInt hf with ⟨hcs, hx⟩ | ⟨a, len', cap', zs, hcs, _, hl, hm, hz, hx, hcell, hwz⟩
  · have e : Value.slice a0 len cap = .slice none 0 0 := by simpa [Value.cells] using hcs
    cases e
    refine ⟨[], ⟨rfl, Nat.le_refl _, (fun a ha => nomatch ha), (fun _ => rfl)⟩, (fun n hn => nomatch hn)⟩
  · have e : Value.slice a0 len cap = .slice (some a) len' cap' := by simpa [Value.cells] using hcs
    cases e
    simp only [if_true] at hz
    have hget : ∀ i, i < zs.length → Hp.cell? W.heap (a.add i) = some (.int .i64 (zs.getD i 0)) := hcell
    refine ⟨zs.take len, ⟨by simp; omega, hl, fun a1 ha1 j v hj => ?_, fun e => nomatch e⟩, fun n hn => ?_⟩
    · cases ha1
      have hj1 := (List.getElem?_eq_some_iff.1 hj).1
      simp at hj1
      rw [hget j (by omega)]
      rw [List.getElem?_map, List.getElem?_take, if_pos (by omega), List.getElem?_eq_getElem (by omega)] at hj
      simp at hj
      rw [← hj]
      simp [List.getD, iv, List.getElem?_eq_getElem (show j < zs.length by omega)]
    · have h1 : (decide (-9223372036854775808 ≤ n) && decide (n ≤ 9223372036854775807)) = true := hwz n (List.mem_of_mem_take hn)
      simpa using h1

set_option maxRecDepth 100000 in
theorem lifted (os : Os) (started : os.Started) (H : Type) (enc : TypeId × Value → H) :
    ReturnsInHanded {} Try.checked os 5 .any (Rows.packManySpec.pre6 enc Try.prog Try.f5 Rows.packManyRow.domain false) (Rows.packManySpec.post enc Try.prog Try.f5 false true false false) := by
  refine returnsInHanded_of_change (C := Try.checked) own started (by kernel_rfl) Try.func5
    (ChangeSpec.witness6 (enc := enc) (C := Try.checked) false ⟨#[], #[.slice none 0 0], []⟩ 8 (by kernel_rfl) (by kernel_rfl) (by kernel_rfl) (by kernel_rfl)) ?_
  intro W base args ds gs before hval0 hW hcnd _
  have hval : ∀ (j : Nat) t v, Try.f5.params[j]? = some t → args[j]? = some v → Value.okWide Try.prog W .any base t v := hval0
  have hW' : DataW.Whole enc Try.prog Try.f5.params.toList Rows.packManySpec.vars false W args.toList ds gs before := hW
  obtain ⟨p, q, hA0, hV, rfl, hfz, hnd⟩ := hW
  have hA : DataW.TrodAll enc Try.prog W 0 (fun _ => true) true Try.f5.params.toList args.toList ds p := hA0
  rw [pars] at hA hval
  obtain ⟨v0, vs0, d0, ds0, p0, q0, hargs, rfl, rfl, h0, r0⟩ := trodAll_cons hA
  obtain ⟨rfl, rfl, rfl⟩ := trodAll_nil r0
  obtain rfl : args = #[v0] := by cases args; simp_all
  obtain ⟨rfl, rfl⟩ := trodVars_none hV
  obtain ⟨a0, len, cap, rfl⟩ := okWide_slice uSl (hval 0 T_sl_int v0 rfl rfl)
  obtain ⟨cs, hr, hcs⟩ := openInts h0
  refine (calls_of (PackMany_spec hr hcs)).mono fun e W' ⟨he, hk⟩ => ?_
  exact ⟨_, he, law_post lo mr sz inTypes rfl hW' hk rfl ress uBool⟩

theorem over : Rows.packManyRow.holds Try.pinned (OpenSpec.ofChange Rows.packManySpec) :=
  OpenClaim.holds_of_wide 5 Try.f5 rfl rfl rfl rfl rfl rfl rfl ⟨rfl, rfl, rfl, rfl, rfl⟩ rfl rfl rfl rfl rfl (by kernel_rfl) Try.func5 (by kernel_rfl)
    (of_decide_eq_true (by kernel_rfl)) (by unfold Func.isWrapper; first | (rw [if_pos (by decide +kernel)]; kernel_rfl) | (rw [if_neg (by decide +kernel)]; exact ⟨rfl, rfl⟩))
    (fun os started H enc _ => lifted os started H enc)

theorem proved : Rows.PackManySaid := over
end Go.Proofs.Ytllkdgnagjciiaa.packMany
