/- LAYER 09: the law's awake; ImagePart, ImageOrder. -/
import Derived.Test.YtpdondaekinmdaaKbx12
set_option linter.all false
set_option linter.constructorNameAsVariable false
namespace Go.Proofs
open Go Go.KC

def e5 : En := ⟨5, 0, .zero⟩
theorem e5_right : e5.Right := by decide
theorem e5_rows : RowsOf [e5] 5 := fun j hj => by
  have : j = 0 := by simpa using hj
  subst this
  exact ⟨e5_right, rfl, fun h => absurd h (by omega)⟩
theorem r3 : RightM 3 0 [] [] := by decide

theorem awake_spec : AwakeT := fun H => by
  apply tephralaw09_awake.calls
  unfold tephralaw09_awake.vc
  have rr0 : RR H ⟨none, 0, 0⟩ ⟨none, 0, 0⟩ [] [] := ⟨⟨rfl, Nat.le_refl _, fun a ha => (by cases ha), fun _ => rfl⟩, ⟨rfl, Nat.le_refl _, fun a ha => (by cases ha), fun _ => rfl⟩⟩
  have l0 : (stB 3 0 [] []).length = 32 := rfl
  refine (Full_spec (i := 3) (t := 0) rr0 (by omega)).mono ?_
  have small : Small [hdB 0 3 3, stB 3 0 [] []] := fun y hy => by
    simp only [List.mem_cons, List.not_mem_nil, or_false] at hy
    rcases hy with rfl | rfl
    · rw [hdB_len]; omega
    · omega
  rintro r H1 (⟨-, x, rfl, o1, m1, f1⟩ | ⟨h, -⟩)
  rotate_left
  · exact absurd small h
  refine ⟨x, 0, rfl, ?_⟩
  have hfr := frames_flat small
  have hlen : (flatF [hdB 0 3 3, stB 3 0 [] []]).length = 67 := by
    simp only [flatF_cons, List.length_append, frB_len, hdB_len, l0]; rfl
  refine (ReadFull_spec (Own.rows o1) (by omega)).mono ?_
  rintro r H2 ⟨m2, hp⟩
  have told : ∃ (i t : Int) (p s : Sl), i = 3 ∧ r = .tuple #[.agg #[.int .i64 i, .int .i64 t, .slice p.a p.len p.cap, .slice s.a s.len s.cap], .int .i64 0] := by
    rcases hp with ⟨i, t, ps, xs, p, s, hp, rfl, -⟩ | ⟨hno, -⟩
    · refine ⟨i, t, p, s, ?_, rfl⟩
      have h1 := hp.2
      rw [hfr] at h1
      have h1 : hdB 0 3 3 = hdB 0 i i := (List.cons.inj (Prod.mk.inj h1).1).1
      obtain ⟨_, hi0, hi1, _⟩ := hp.1
      exact (hdB_inj (by omega) (by omega) (by omega) (by omega) (by omega) (by omega) h1).2.1.symm
    · exact absurd ⟨r3, hfr⟩ (hno 3 0 [] [])
  obtain ⟨i, t, p, s, rfl, rfl⟩ := told
  refine ⟨_, _, _, _, _, rfl, ?_⟩
  intro H3 h3
  obtain ⟨m3, s3⟩ := hole_facts h3
  refine Part_spec.mono ?_
  rintro r H4 ⟨y, rfl, o4, m4, f4⟩
  refine ⟨y, rfl, (Entry_spec (e := e5) e5_right.2.2.2.2.small (by rw [En.bytes_length]; decide)).mono ?_⟩
  rintro r H5 ⟨z, rfl, o5, m5, f5⟩
  have hzl : (frB e5.bytes).length = z.len := by have := o5.1; simpa using this
  have hz66 : (frB e5.bytes).length = 66 := by rw [frB_len, En.bytes_length]; rfl
  refine ⟨z, rfl, app_bytes9 (o4.keep m5 fun _ _ e => e) (src := .slice z.a z.len z.cap) (ys := frB e5.bytes) (rows_src (Own.rows o5)) hzl (by rw [hd26]; omega) fun ap H6 o6 m6 b6 => ?_⟩
  have ep : frB (hdB 2 4 4) ++ frB e5.bytes = ptB 4 [e5] := by simp [ptB, flatF]
  rw [ep] at o6
  have hpl : (ptB 4 [e5]).length = ap.len := by have := o6.1; simpa using this
  have hp92 : (ptB 4 [e5]).length = 92 := by rw [← ep, List.length_append, hd26, hz66]
  have mm : Mod (fun _ => False) H H6 := ((((m1.trans m2).trans m3).trans m4).trans m5).trans' m6 fun q hq h => by
    have := f4 q h
    have z1 := m1.size
    have z2 := m2.size
    omega
  refine (ReadPart_spec (fv := 4) (by omega) (Own.rows o6) (by omega)).mono ?_
  rintro r H7 ⟨m7, hp⟩
  have hfin : Fine [e5] := e5_rows.fine
  have hok : PtOK (ptB 4 [e5]) 4 [e5] (ptB 4 [e5]).length := ⟨frames_flat hfin.smallHd, e5_rows⟩
  rcases hp with ⟨es', n', out, hp, rfl, o7, l7, -⟩ | ⟨hno, -⟩
  rotate_left
  · exact absurd hok (hno _ _)
  obtain ⟨rfl, rfl⟩ := hp.uniq hok
  refine ⟨out, _, 0, rfl, Br.yes rfl ?_⟩
  apply tephralaw09_awake.k1.step
  refine Br.yes rfl ?_
  apply tephralaw09_awake.k2.step
  refine Br.yes rfl ?_
  apply tephralaw09_awake.k3.step
  refine Br.yes rfl ?_
  apply tephralaw09_awake.k4.step
  have h1 : out.len = 1 := l7.symm
  refine Br.yes (by rw [h1]; rfl) ⟨?_, mm.trans m7⟩
  rw [hpl]
  simp
end Go.Proofs
