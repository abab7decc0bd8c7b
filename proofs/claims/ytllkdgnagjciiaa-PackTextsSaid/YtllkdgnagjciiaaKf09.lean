/- PROVED: 'tephralaw01.PackTexts' returns true for every input, and each argument reads behind the call as it read before. -/
import Derived.Test.YtllkdgnagjciiaaRows
import Derived.Test.YtllkdgnagjciiaaKp9
import Derived.Test.YtllkdgnagjciiaaKl1
import Derived.WalkKit
import Derived.ProofKit
import Derived.OpenShut
set_option linter.all false
set_option linter.constructorNameAsVariable false
namespace Go.Proofs.Ytllkdgnagjciiaa.packTexts
open Go.ChangeShapes Go.WideShapes Go.ChangeAt Go.RowKit Go.KC
set_option linter.unusedVariables false

theorem own : ownKnob Try.prog.godebug = none := by kernel_rfl
theorem lo : laidOutB Try.prog = true := by kernel_rfl
theorem mr : mapsRowed Try.prog = true := by kernel_rfl
def sizesB (P : Program) : Bool := (List.range P.types.size).all fun t => match P.underlying t with
  | some (.slice e) => decide (0 < P.cellsOf e)
  | _ => true
theorem sizes : sizesB Try.prog = true := by kernel_rfl
theorem sz {t e : TypeId} (ht : t < Try.prog.types.size) (hu : Try.prog.underlying t = some (.slice e)) : 0 < Try.prog.cellsOf e := by
  have h := List.all_eq_true.1 sizes t (List.mem_range.2 ht)
  rw [hu] at h
  exact of_decide_eq_true h
theorem pars : Try.f9.params = #[T_sl_string, T_uint8] := by kernel_rfl
theorem ress : Try.f9.resultTypes = #[T_bool] := by kernel_rfl
theorem uSl : Try.prog.underlying T_sl_string = some (.slice T_string) := by kernel_rfl
theorem uStr : Try.prog.underlying T_string = some .string := by kernel_rfl
theorem uU8 : Try.prog.underlying T_uint8 = some (.int .u8) := by kernel_rfl
theorem uBool : Try.prog.underlying T_bool = some .bool := by kernel_rfl
theorem cStr : Try.prog.cellsOf T_string = 1 := by kernel_rfl
theorem inTypes : ∀ t ∈ Try.f9.params.toList, t < Try.prog.types.size := by
  rw [pars]; intro t ht; simp at ht; rcases ht with rfl | rfl
  · exact of_decide_eq_true (by kernel_rfl)
  · exact of_decide_eq_true (by kernel_rfl)

/-- A slice of texts, opened. -/
theorem openTexts {W : World} {H : Type} {enc : TypeId × Value → H} {a0 : Option Addr} {len cap : Nat} {d : DataW H} {p : List MemPlace} (h : DataW.Trod enc Try.prog W 0 (fun _ => true) true T_sl_string (.slice a0 len cap) d p) :
    ∃ cs : List ByteArray, Rows W.heap ⟨a0, len, cap⟩ 1 (cs.map sv) := by
  obtain ⟨n, hf⟩ := h
  rcases open_strings uSl uStr cStr hf with ⟨hcs, hx⟩ | ⟨a, len', cap', zs, hcs, _, hl, hm, hz, hx, hcell, hwz⟩
  · have e : Value.slice a0 len cap = .slice none 0 0 := by simpa [Value.cells] using hcs
    cases e
    exact ⟨[], ⟨rfl, Nat.le_refl _, (fun a ha => nomatch ha), (fun _ => rfl)⟩⟩
  · have e : Value.slice a0 len cap = .slice (some a) len' cap' := by simpa [Value.cells] using hcs
    cases e
    simp only [if_true] at hz
    have hget : ∀ i, i < zs.length → Hp.cell? W.heap (a.add i) = some (.string (zs.getD i ByteArray.empty)) := hcell
    refine ⟨zs.take len, ⟨by simp; omega, hl, fun a1 ha1 j v hj => ?_, fun e => nomatch e⟩⟩
    cases ha1
    have hj1 := (List.getElem?_eq_some_iff.1 hj).1
    simp at hj1
    rw [hget j (by omega)]
    rw [List.getElem?_map, List.getElem?_take, if_pos (by omega), List.getElem?_eq_getElem (by omega)] at hj
    simp at hj
    rw [← hj]
    simp [List.getD, sv, List.getElem?_eq_getElem (show j < zs.length by omega)]
theorem u8_of {n : Int} (h : (Lit.int .u8 n).wf = true) : ∃ c : UInt8, n = (c.toNat : Int) := by
  have h1 : (decide (0 ≤ n) && decide (n ≤ 255)) = true := h
  simp at h1
  refine ⟨UInt8.ofNat n.toNat, ?_⟩
  have h2 : n.toNat < UInt8.size := by show n.toNat < 256; omega
  rw [UInt8.toNat_ofNat_of_lt' h2]
  omega

set_option maxRecDepth 100000 in
theorem lifted (os : Os) (started : os.Started) (H : Type) (enc : TypeId × Value → H) :
    ReturnsInHanded {} Try.checked os 9 .any (Rows.packTextsSpec.pre6 enc Try.prog Try.f9 Rows.packTextsRow.domain false) (Rows.packTextsSpec.post enc Try.prog Try.f9 false true false false) := by
  refine returnsInHanded_of_change (C := Try.checked) own started (by kernel_rfl) Try.func9
    (ChangeSpec.witness6 (enc := enc) (C := Try.checked) false ⟨#[], #[.slice none 0 0, .int .u8 0], []⟩ 8 (by kernel_rfl) (by kernel_rfl) (by kernel_rfl) (by kernel_rfl)) ?_
  intro W base args ds gs before hval0 hW hcnd _
  have hval : ∀ (j : Nat) t v, Try.f9.params[j]? = some t → args[j]? = some v → Value.okWide Try.prog W .any base t v := hval0
  have hW' : DataW.Whole enc Try.prog Try.f9.params.toList Rows.packTextsSpec.vars false W args.toList ds gs before := hW
  obtain ⟨p, q, hA0, hV, rfl, hfz, hnd⟩ := hW
  have hA : DataW.TrodAll enc Try.prog W 0 (fun _ => true) true Try.f9.params.toList args.toList ds p := hA0
  rw [pars] at hA hval
  obtain ⟨v0, vs0, d0, ds0, p0, q0, hargs, rfl, rfl, h0, r0⟩ := trodAll_cons hA
  obtain ⟨v1, vs1, d1, ds1, p1, q1, rfl, rfl, rfl, h1, r1⟩ := trodAll_cons r0
  obtain ⟨rfl, rfl, rfl⟩ := trodAll_nil r1
  obtain rfl : args = #[v0, v1] := by cases args; simp_all
  obtain ⟨rfl, rfl⟩ := trodVars_none hV
  obtain ⟨a0, len, cap, rfl⟩ := okWide_slice uSl (hval 0 T_sl_string v0 rfl rfl)
  obtain ⟨cs, hr⟩ := openTexts h0
  obtain ⟨n1, rfl, rfl, rfl, w1⟩ := open_int uU8 (hval 1 T_uint8 v1 rfl rfl) h1
  obtain ⟨c, rfl⟩ := u8_of w1
  refine (calls_of (PackTexts_spec (c := c) hr)).mono fun e W' ⟨he, hk⟩ => ?_
  exact ⟨_, he, law_post lo mr sz inTypes rfl hW' hk rfl ress uBool⟩

theorem over : Rows.packTextsRow.holds Try.pinned (OpenSpec.ofChange Rows.packTextsSpec) :=
  OpenClaim.holds_of_wide 9 Try.f9 rfl rfl rfl rfl rfl rfl rfl ⟨rfl, rfl, rfl, rfl, rfl⟩ rfl rfl rfl rfl rfl (by kernel_rfl) Try.func9 (by kernel_rfl)
    (of_decide_eq_true (by kernel_rfl)) (by unfold Func.isWrapper; first | (rw [if_pos (by decide +kernel)]; kernel_rfl) | (rw [if_neg (by decide +kernel)]; exact ⟨rfl, rfl⟩))
    (fun os started H enc _ => lifted os started H enc)

theorem proved : Rows.PackTextsSaid := over
end Go.Proofs.Ytllkdgnagjciiaa.packTexts
