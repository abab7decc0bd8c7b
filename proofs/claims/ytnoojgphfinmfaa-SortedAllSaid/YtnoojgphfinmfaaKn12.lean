/- LAYER 05: acts; Of; (as in Kn2, without SortedOrder). -/
import Derived.Test.YtnoojgphfinmfaaKn1
import Derived.Test.YtnoojgphfinmfaaKn11
set_option linter.all false
set_option linter.constructorNameAsVariable false
namespace Go.Proofs
open Go Go.KC

/-- An act. -/
structure Ac where
  op : Int
  key : Int
  value : Int
def Ac.cells (a : Ac) : List Value := [.int .u8 a.op, .int .i8 a.key, .int .u16 a.value]
def Ac.ok (a : Ac) : Prop := (0 ≤ a.op ∧ a.op ≤ 255) ∧ (-128 ≤ a.key ∧ a.key ≤ 127) ∧ (0 ≤ a.value ∧ a.value ≤ 65535)
theorem Ac.len (a : Ac) : a.cells.length = 3 := rfl


/-- The map behind some acts. -/
def ofA (xs : List Ac) : List (Int × Int) := xs.foldl (fun l a => putL l a.key a.value) []
theorem ofA_snoc (xs : List Ac) (a : Ac) : ofA (xs ++ [a]) = putL (ofA xs) a.key a.value := by unfold ofA; rw [List.foldl_append]; rfl

section
variable {H : Hp}
theorem acts_get {x : Sl} {xs : List Ac} (h : Rows H x 3 (xs.map Ac.cells).flatten) {j : Nat} (hj : j < xs.length) : ∃ a, x.a = some a ∧ RowAt H (a.add (j * 3)) xs[j].cells := row_get' (by omega) Ac.len h hj
theorem acts_len {x : Sl} {xs : List Ac} (h : Rows H x 3 (xs.map Ac.cells).flatten) : xs.length = x.len := rows_len' (by omega) Ac.len h

theorem Of_spec {acts : Sl} {xs : List Ac} (hr : Rows H acts 3 (xs.map Ac.cells).flatten) (ok : ∀ a ∈ xs, a.ok) :
    SCalls Try.prog tephralaw05_Of.id [.slice acts.a acts.len acts.cap] H fun r H' => r = .pointer (some ⟨H.size, 0, none⟩) ∧ Mod (fun b => H.size ≤ b) H H' ∧ ∃ F, MI.Mp H' H.size 0 F (ofA (xs.take 60)) ∧ ∀ b ∈ F, H.size < b := by
  apply tephralaw05_Of.calls
  have hl := acts_len hr
  have hcap := hr.2.1
  have e : (if (60 : Int) < ((acts.len : Nat) : Int) then (60 : Int) else ((acts.len : Nat) : Int)).toNat = min 60 acts.len := min_toNat 60 acts.len
  refine ⟨⟨by split <;> omega, by split <;> omega⟩, ?_⟩
  have et : xs.take (min 60 acts.len) = xs.take 60 := by
    by_cases h : 60 ≤ acts.len
    · rw [Nat.min_eq_left h]
    · rw [Nat.min_eq_right (by omega), List.take_of_length_le (by omega), List.take_of_length_le (by omega)]
  have loop : ∀ (d j : Nat) (H1 : Hp) (F : List Nat), j + d = min 60 acts.len → Mod (fun b => H.size ≤ b) H H1 → MI.Mp H1 H.size 0 F (ofA (xs.take j)) → (∀ b ∈ F, H.size < b) → (ofA (xs.take j)).length ≤ j →
      tephralaw05_Of.l1 J0 acts H H1 (j : Int) fun r H' => r = .pointer (some ⟨H.size, 0, none⟩) ∧ Mod (fun b => H.size ≤ b) H H' ∧ ∃ F, MI.Mp H' H.size 0 F (ofA (xs.take 60)) ∧ ∀ b ∈ F, H.size < b := by
    intro d
    induction d with
    | zero =>
      intro j H1 F hj m h hF _
      apply tephralaw05_Of.l1.step; unfold tephralaw05_Of.l1.body
      rw [e]
      obtain rfl : j = min 60 acts.len := by omega
      rw [et] at h
      exact Br.no (by simp) ⟨rfl, m, F, h, hF⟩
    | succ d ih =>
      intro j H1 F hj m h hF hlen
      apply tephralaw05_Of.l1.step; unfold tephralaw05_Of.l1.body
      rw [e]
      have hjl : j < xs.length := by omega
      have hok := ok xs[j] (List.getElem_mem hjl)
      obtain ⟨a, ha, hrow⟩ := acts_get (Fresh.rows m hr) hjl
      have mh : Mod (fun _ => False) H1 (holes H1 1) := Mod.holes _ _ _
      have h' := h.mod mh
      have hs := m.size
      refine Br.yes (by simp; omega) ⟨⟨by omega, by omega⟩, vPtr.mk a (by rw [cutA_zero]; exact ha) ⟨_, _, _, by simpa [Ac.cells] using hrow, ?_⟩⟩
      rw [w64_id (x := xs[j].key) (by have := hok.2.1; omega) (by have := hok.2.1; omega), w64_id (x := xs[j].value) (by have := hok.2.2; omega) (by have := hok.2.2; omega)]
      refine MI.put_step (Bl := fun b => b < H.size) h' (fun b hb => ⟨by have := h'.lt.1; omega, by omega, fun hbF => by have := hF b hbF; omega⟩) (by omega) fun i H2 F2 sp M2 k2 d2 f2 => ?_
      rw [w64_id (x := (j : Int) + 1) (by omega) (by omega)]
      have hss : ofA (xs.take (j + 1)) = putAt (ofA (xs.take j)) xs[j].key xs[j].value i := by
        rw [List.take_succ_eq_append_getElem hjl, ofA_snoc, spotOf_eq sp]; rfl
      have := ih (j + 1) H2 F2 (by omega) ((m.trans (mh.mono fun _ _ e => e.elim)).trans' k2 fun b hb hn => by omega) (by rw [hss]; exact M2) (fun b hb => by
        rcases f2 b hb with h | h
        · exact hF b h
        · have := (h'.lt).1; omega) (by rw [hss, putAt_length sp.le]; split <;> omega)
      simpa using this
  exact loop (min 60 acts.len) 0 _ [] (by omega) (Mod.push _ _ _) (MI.Mp.new H _) (by simp) (by simp [ofA])
end
end Go.Proofs
