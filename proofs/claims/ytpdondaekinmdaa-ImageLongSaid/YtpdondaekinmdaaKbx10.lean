/- LAYER 09: ImagePart (its awake asked). -/
import Derived.Test.YtpdondaekinmdaaKb9
import Derived.Test.YtpdondaekinmdaaKe2
set_option linter.all false
set_option linter.constructorNameAsVariable false
namespace Go.Proofs
open Go Go.KC

def AwakeT : Prop := ∀ H : Hp, SCalls Try.prog tephralaw09_awake.id [] H (trueQ H)

theorem May.sizes {c : Cm} (h : c.May) : c.key.size ≤ 8 ∧ c.value.size ≤ 16 ∧ c.old.size ≤ 16 := by
  obtain ⟨_, _, h1, h2, h3⟩ := h
  exact ⟨h3.elim (fun h => by omega) fun h => h.2.2.2.2.2.2, h1, h2⟩
theorem RowsOf.fine {es : List En} {n : Int} (h : RowsOf es n) : Fine es := fun e he => by
  have hr := h.right e he
  have hm := hr.2.2.2.2
  have := May.sizes hm
  exact ⟨hm.small, by rw [En.bytes_length]; omega⟩
theorem Fine.smallHd {fv : Int} {es : List En} (h : Fine es) : Small (hdB 2 fv fv :: es.map En.bytes) := h.bytes
theorem PtOK.uniq {xs : List UInt8} {fv : Int} {es es' : List En} {n n' : Nat} (h : PtOK xs fv es n) (h' : PtOK xs fv es' n') : es = es' ∧ n = n' := by
  have h1 := h.1
  rw [h'.1] at h1
  injection h1 with h1 h2
  injection h1 with h1 h3
  exact ⟨by rw [← (map_rd h.2.right).1, ← h3, (map_rd h'.2.right).1], h2.symm⟩
theorem hd26 (k f t : Int) : (frB (hdB k f t)).length = 26 := by rw [frB_len, hdB_len]

theorem flat_len106 : ∀ {l : List (List UInt8)}, (∀ y ∈ l, y.length ≤ 500) → (flatF l).length ≤ l.length * 509
  | [], _ => Nat.le_refl _
  | y :: l, h => by
    have ih := flat_len106 fun z hz => h z (List.mem_cons_of_mem _ hz)
    have := h y (List.mem_cons_self)
    rw [flatF_cons, List.length_append, frB_len, List.length_cons]; omega
theorem ptB_len500 {fv : Int} {es : List En} (h : ∀ e ∈ es, e.bytes.length ≤ 500) : (ptB fv es).length ≤ (es.length + 1) * 509 := by
  have := flat_len106 (l := hdB 2 fv fv :: es.map En.bytes) fun y hy => by
    rw [List.mem_cons, List.mem_map] at hy
    rcases hy with rfl | ⟨e, he, rfl⟩
    · rw [hdB_len]; omega
    · exact h e he
  rw [List.length_cons, List.length_map] at this
  exact this
theorem RowsOf.len500 {es : List En} {n : Int} (h : RowsOf es n) : ∀ e ∈ es, e.bytes.length ≤ 500 := fun e he => by
  have := May.sizes (h.right e he).2.2.2.2
  rw [En.bytes_length]; omega
theorem take_flat {rows : List (List UInt8)} {m n : Nat} (h : (flatF (rows.take m)).length ≤ n) : (flatF rows).take (flatF (rows.take m)).length = flatF (rows.take m) := by
  conv => lhs; arg 2; rw [← List.take_append_drop m rows, flatF_append]
  exact List.take_left

end Go.Proofs
