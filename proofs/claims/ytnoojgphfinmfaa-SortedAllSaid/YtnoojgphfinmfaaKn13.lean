/- LAYER 05: acts, opened. -/
import Derived.Test.YtnoojgphfinmfaaKn12
set_option linter.all false
set_option linter.constructorNameAsVariable false
namespace Go.Proofs
open Go Go.KC

theorem fits3 {m : Nat} {k1 k2 k3 : CK} : ∀ {r : List Value}, Fits m [k1, k2, k3] r → ∃ a b c, r = [a, b, c] ∧ k1.has m a ∧ k2.has m b ∧ k3.has m c
  | [a, b, c], ⟨h1, h2, h3, _⟩ => ⟨a, b, c, rfl, h1, h2, h3⟩
theorem fits1 {m : Nat} {k1 : CK} : ∀ {r : List Value}, Fits m [k1] r → ∃ a, r = [a] ∧ k1.has m a
  | [a], ⟨h1, _⟩ => ⟨a, rfl, h1⟩
theorem u8_bd {n : Int} (h : (Lit.int .u8 n).wf = true) : 0 ≤ n ∧ n ≤ 255 := by
  have h1 : (decide (0 ≤ n) && decide (n ≤ 255)) = true := h
  simpa using h1
theorem i8_bd {n : Int} (h : (Lit.int .i8 n).wf = true) : -128 ≤ n ∧ n ≤ 127 := by
  have h1 : (decide (-128 ≤ n) && decide (n ≤ 127)) = true := h
  simpa using h1
theorem u16_bd {n : Int} (h : (Lit.int .u16 n).wf = true) : 0 ≤ n ∧ n ≤ 65535 := by
  have h1 : (decide (0 ≤ n) && decide (n ≤ 65535)) = true := h
  simpa using h1
theorem acsOf {m : Nat} {rows : List (List Value)} (h : ∀ r ∈ rows, Fits m [.it .u8, .it .i8, .it .u16] r) : ∃ xs : List Ac, rows = xs.map Ac.cells ∧ ∀ a ∈ xs, a.ok :=
  rows_list (f := Ac.cells) (p := Ac.ok) (rows := rows) fun r hr => by
    obtain ⟨a, b, c, rfl, ⟨n1, e1, w1⟩, ⟨n2, e2, w2⟩, ⟨n3, e3, w3⟩⟩ := fits3 (h r hr)
    subst e1; subst e2; subst e3
    exact ⟨⟨n1, n2, n3⟩, rfl, u8_bd w1, i8_bd w2, u16_bd w3⟩
theorem gonesOf {m : Nat} {rows : List (List Value)} (h : ∀ r ∈ rows, Fits m [.it .i8] r) : ∃ cs : List Int, rows.flatten = cs.map (fun n => Value.int .i8 n) ∧ ∀ n ∈ cs, -128 ≤ n ∧ n ≤ 127 := by
  obtain ⟨cs, rfl, hc⟩ := rows_list (f := fun n : Int => [Value.int .i8 n]) (p := fun n => -128 ≤ n ∧ n ≤ 127) (rows := rows) fun r hr => by
    obtain ⟨a, rfl, ⟨n1, e1, w1⟩⟩ := fits1 (h r hr)
    subst e1
    exact ⟨n1, rfl, i8_bd w1⟩
  exact ⟨cs, flatten_one _ cs, hc⟩
end Go.Proofs
