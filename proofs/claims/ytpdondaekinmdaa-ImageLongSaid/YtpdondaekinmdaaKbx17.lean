/- LAYER 09: steps. -/
import Derived.Test.YtpdondaekinmdaaKbx13
set_option linter.all false
set_option linter.constructorNameAsVariable false
namespace Go.Proofs
open Go Go.KC
section
variable {H : Hp}
theorem head_step {H0 H1 : Hp} {k f t : Int} {K : ByteArray → Hp → Prop} (m : Mod (fun _ => False) H0 H1) (hK : ∀ H', Mod (fun _ => False) H1 H' → K ⟨(frB (hdB k f t)).toArray⟩ H') :
    SCalls Try.prog tephralaw09_head.id [.int .i64 k, .int .i64 f, .int .i64 t] H1 fun r H' => ∃ x : ByteArray, r = .string x ∧ K x H' := by
  refine law_head_spec.mono ?_
  rintro r H2 ⟨rfl, m2⟩
  exact ⟨_, rfl, hK H2 m2⟩
theorem stB_step {H1 : Hp} {i t : Int} {p s : Sl} {ps : List Pr} {xs : List Se} {K : Sl → Hp → Prop} (hr : RR H1 p s ps xs) (hl : (stB i t ps xs).length ≤ 140737488355328) (hK : ∀ (x : Sl) H', Rows H' x 1 ((stB i t ps xs).map bv) → Mod (fun _ => False) H1 H' → K x H') :
    SCalls Try.prog state_Bytes.id [.agg #[.int .i64 i, .int .i64 t, .slice p.a p.len p.cap, .slice s.a s.len s.cap]] H1 fun r H' => ∃ x : Sl, r = .slice x.a x.len x.cap ∧ K x H' := by
  refine (Bytes_spec hr hl).mono ?_
  rintro r H2 ⟨x, rfl, o, m, -⟩
  exact ⟨x, rfl, hK x H2 (Own.rows o) m⟩
theorem form_step {H1 : Hp} {x : Sl} {xs : List UInt8} {K : ByteArray → Hp → Prop} (hx : Rows H1 x 1 (xs.map bv)) (hs : xs.length ≤ 16384) (hK : ∀ H', Mod (fun _ => False) H1 H' → K ⟨(frB xs).toArray⟩ H') :
    SCalls Try.prog tephralaw09_form.id [.slice x.a x.len x.cap] H1 fun r H' => ∃ y : ByteArray, r = .string y ∧ K y H' := by
  refine (form_spec hx).mono ?_
  rintro r H2 ⟨rfl, m2⟩
  have : frS xs = frB xs := if_pos hs
  rw [this]
  exact ⟨_, rfl, hK H2 m2⟩
theorem str_step {H1 : Hp} {x : Sl} {xs : List UInt8} {K : ByteArray → Prop} (hx : Rows H1 x 1 (xs.map bv)) (hK : K ⟨xs.toArray⟩) : vB2S H1 x.a x.len K := by
  refine b2s_imp (b2s_rows hx rfl) ?_
  rintro s rfl
  exact hK

end
end Go.Proofs
