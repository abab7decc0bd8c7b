/- LAYER 06: arguments opened: commands, entries, says. -/
import Derived.Test.YtbodlapndgnkgaaKe1
import Derived.Test.YtbodlapndgnkgaaKl2
set_option linter.all false
set_option linter.constructorNameAsVariable false
namespace Go.Proofs
open Go Go.KC

theorem u16_of {n : Int} (h : (Lit.int .u16 n).wf = true) : ∃ c : UInt16, n = (c.toNat : Int) := by
  have h1 : (decide (0 ≤ n) && decide (n ≤ 65535)) = true := h
  simp at h1
  refine ⟨UInt16.ofNat n.toNat, ?_⟩
  have h2 : n.toNat < UInt16.size := by show n.toNat < 65536; omega
  rw [UInt16.toNat_ofNat_of_lt' h2]
  omega
abbrev kCm : List CK := [.it .i64, .it .i64, .it .i64, .st, .st, .st]
abbrev kEn : List CK := [.it .i64, .it .i64, .it .i64, .it .i64, .it .i64, .st, .st, .st]
abbrev kSy : List CK := [.it .u8, .it .u8, .it .u8, .it .u8, .it .u8, .it .u8]
/-- Its numbers are numbers, its texts are of m bytes at most. -/
def Cm.fit (m : Nat) (c : Cm) : Prop := (-9223372036854775808 ≤ c.op ∧ c.op ≤ 9223372036854775807) ∧ (-9223372036854775808 ≤ c.client ∧ c.client ≤ 9223372036854775807) ∧ (-9223372036854775808 ≤ c.seq ∧ c.seq ≤ 9223372036854775807) ∧ c.key.size ≤ m ∧ c.value.size ≤ m ∧ c.old.size ≤ m
def En.fit (m : Nat) (e : En) : Prop := (-9223372036854775808 ≤ e.index ∧ e.index ≤ 9223372036854775807) ∧ (-9223372036854775808 ≤ e.term ∧ e.term ≤ 9223372036854775807) ∧ e.cmd.fit m

theorem fits6 {m : Nat} {k1 k2 k3 k4 k5 k6 : CK} : ∀ {r : List Value}, Fits m [k1, k2, k3, k4, k5, k6] r → ∃ a b c d e f, r = [a, b, c, d, e, f] ∧ k1.has m a ∧ k2.has m b ∧ k3.has m c ∧ k4.has m d ∧ k5.has m e ∧ k6.has m f
  | [a, b, c, d, e, f], ⟨h1, h2, h3, h4, h5, h6, _⟩ => ⟨a, b, c, d, e, f, rfl, h1, h2, h3, h4, h5, h6⟩
theorem fits8 {m : Nat} {k1 k2 k3 k4 k5 k6 k7 k8 : CK} : ∀ {r : List Value}, Fits m [k1, k2, k3, k4, k5, k6, k7, k8] r → ∃ a b c d e f g h, r = [a, b, c, d, e, f, g, h] ∧ k1.has m a ∧ k2.has m b ∧ k3.has m c ∧ k4.has m d ∧ k5.has m e ∧ k6.has m f ∧ k7.has m g ∧ k8.has m h
  | [a, b, c, d, e, f, g, h], ⟨h1, h2, h3, h4, h5, h6, h7, h8, _⟩ => ⟨a, b, c, d, e, f, g, h, rfl, h1, h2, h3, h4, h5, h6, h7, h8⟩
theorem cmOf' {m : Nat} {r : List Value} (h : Fits m kCm r) : ∃ c : Cm, r = c.cells ∧ c.fit m := by
  obtain ⟨a, b, c, d, e, f, rfl, ⟨n1, e1, w1⟩, ⟨n2, e2, w2⟩, ⟨n3, e3, w3⟩, ⟨s1, e4, _, h1⟩, ⟨s2, e5, _, h2⟩, ⟨s3, e6, _, h3⟩⟩ := fits6 h
  subst e1; subst e2; subst e3; subst e4; subst e5; subst e6
  exact ⟨⟨n1, n2, n3, s1, s2, s3⟩, rfl, i64_of w1, i64_of w2, i64_of w3, h1, h2, h3⟩
theorem enOf' {m : Nat} {r : List Value} (h : Fits m kEn r) : ∃ e : En, r = e.cells ∧ e.fit m := by
  obtain ⟨a, b, c, d, e, f, g, i, rfl, ⟨n1, e1, w1⟩, ⟨n2, e2, w2⟩, ⟨n3, e3, w3⟩, ⟨n4, e4, w4⟩, ⟨n5, e5, w5⟩, ⟨s1, e6, _, h1⟩, ⟨s2, e7, _, h2⟩, ⟨s3, e8, _, h3⟩⟩ := fits8 h
  subst e1; subst e2; subst e3; subst e4; subst e5; subst e6; subst e7; subst e8
  exact ⟨⟨n1, n2, ⟨n3, n4, n5, s1, s2, s3⟩⟩, rfl, i64_of w1, i64_of w2, i64_of w3, i64_of w4, i64_of w5, h1, h2, h3⟩
theorem syOf' {m : Nat} : ∀ {r : List Value}, Fits m kSy r → ∃ s : Sy, r = s.cells
  | [a, b, c, d, e, f], ⟨⟨n1, e1, w1⟩, ⟨n2, e2, w2⟩, ⟨n3, e3, w3⟩, ⟨n4, e4, w4⟩, ⟨n5, e5, w5⟩, ⟨n6, e6, w6⟩, _⟩ => by
    obtain ⟨c1, rfl⟩ := u8_of w1
    obtain ⟨c2, rfl⟩ := u8_of w2
    obtain ⟨c3, rfl⟩ := u8_of w3
    obtain ⟨c4, rfl⟩ := u8_of w4
    obtain ⟨c5, rfl⟩ := u8_of w5
    obtain ⟨c6, rfl⟩ := u8_of w6
    subst e1; subst e2; subst e3; subst e4; subst e5; subst e6
    exact ⟨⟨c1, c2, c3, c4, c5, c6⟩, rfl⟩
theorem arr_of {cs : Array Value} {l : List Value} (h : (Value.agg cs).cells.toList = l) : cs = l.toArray := by
  have h' : cs.toList = l := h
  rw [← h', Array.toArray_toList]
theorem cmOf {m : Nat} {cs : Array Value} (h : Fits m kCm (Value.agg cs).cells.toList) : ∃ c : Cm, cs = c.cells.toArray ∧ c.fit m := by
  obtain ⟨c, hc, hf⟩ := cmOf' h
  exact ⟨c, arr_of hc, hf⟩
theorem enOf {m : Nat} {cs : Array Value} (h : Fits m kEn (Value.agg cs).cells.toList) : ∃ c : En, cs = c.cells.toArray ∧ c.fit m := by
  obtain ⟨c, hc, hf⟩ := enOf' h
  exact ⟨c, arr_of hc, hf⟩
theorem syOf {m : Nat} {cs : Array Value} (h : Fits m kSy (Value.agg cs).cells.toList) : ∃ c : Sy, cs = c.cells.toArray := by
  obtain ⟨c, hc⟩ := syOf' h
  exact ⟨c, arr_of hc⟩
theorem saysOf {m : Nat} {rows : List (List Value)} (h : ∀ r ∈ rows, Fits m kSy r) : ∃ ss : List Sy, rows = ss.map Sy.cells := by
  obtain ⟨ss, h1, _⟩ := rows_list (f := Sy.cells) (p := fun _ => True) (rows := rows) fun r hr => by
    obtain ⟨s, hs⟩ := syOf' (h r hr)
    exact ⟨s, hs, trivial⟩
  exact ⟨ss, h1⟩
theorem entsOf {m : Nat} {rows : List (List Value)} (h : ∀ r ∈ rows, Fits m kEn r) : ∃ es : List En, rows = es.map En.cells ∧ ∀ e ∈ es, e.fit m :=
  rows_list (f := En.cells) (p := En.fit m) (rows := rows) fun r hr => enOf' (h r hr)
end Go.Proofs
