/- LAYER 09, plain: what frames there are of frames that are laid, whole or cut. -/
import Derived.Test.YtpdondaekinmdaaKb4
set_option linter.all false
set_option linter.constructorNameAsVariable false
namespace Go.Proofs
open Go Go.KC

/-- Frames of rows, one behind the other. -/
def flatF (rows : List (List UInt8)) : List UInt8 := (rows.map frB).flatten
theorem flatF_cons (x : List UInt8) (r : List (List UInt8)) : flatF (x :: r) = frB x ++ flatF r := rfl
theorem flatF_append (a b : List (List UInt8)) : flatF (a ++ b) = flatF a ++ flatF b := by unfold flatF; rw [List.map_append, List.flatten_append]
def Small (rows : List (List UInt8)) : Prop := ∀ x ∈ rows, x.length ≤ 16384

theorem frB_num (xs r : List UInt8) (h : xs.length ≤ 16384) : num4 (frB xs ++ r) = xs.length := by
  unfold frB
  rw [List.append_assoc, List.append_assoc, List.append_assoc]
  exact num_be _ ⟨by omega, by omega⟩ _
theorem oneM_frB {xs : List UInt8} (h : xs.length ≤ 16384) (r : List UInt8) : oneM (frB xs ++ r) = (xs, 9 + (xs.length : Int), 0) := by
  have hl : (frB xs ++ r).length = xs.length + 9 + r.length := by rw [List.length_append, frB_len]
  have hn := frB_num xs r h
  have hc := crc_range xs
  have e8 : (frB xs ++ r).drop 8 = xs ++ [229] ++ r := by
    unfold frB
    rw [List.append_assoc (be _ 4 ++ be _ 4), List.append_assoc (be _ 4 ++ be _ 4), List.drop_left' (by simp [be_length])]
  have e4 : (frB xs ++ r).drop 4 = be (crc xs) 4 ++ (xs ++ [229] ++ r) := by
    unfold frB
    rw [List.append_assoc, List.append_assoc, List.append_assoc, List.drop_left' (by simp [be_length])]
    simp only [List.append_assoc]
  have eg : (frB xs ++ r).getD (8 + xs.length) 0 = 229 := by
    have : (frB xs ++ r)[8 + xs.length]? = ((frB xs ++ r).drop 8)[xs.length]? := by rw [List.getElem?_drop]
    rw [List.getD_eq_getElem?_getD, this, e8, List.append_assoc, List.getElem?_append_right (Nat.le_refl _), Nat.sub_self]; rfl
  unfold oneM
  rw [hn, if_neg (by omega), if_neg (by omega), if_neg (by omega), Int.toNat_natCast, eg, if_neg (by simp), e4, num_be _ ⟨hc.1, hc.2⟩, e8, List.append_assoc, List.take_left, if_neg (by simp)]
  refine Prod.ext rfl (Prod.ext ?_ rfl)
  show 8 + (xs.length : Int) + 1 = 9 + (xs.length : Int); omega
theorem oneM_torn {xs : List UInt8} (h : xs.length ≤ 16384) (r : List UInt8) {n : Nat} (hn : n < (frB xs).length) : (oneM ((frB xs ++ r).take n)).2.2 = 3 := by
  have hfl := frB_len xs
  have hl : ((frB xs ++ r).take n).length = n := by rw [List.length_take, List.length_append]; omega
  unfold oneM
  by_cases h8 : n < 8
  · rw [if_pos (by rw [hl]; exact h8)]
  · rw [if_neg (by rw [hl]; exact h8)]
    have e : num4 ((frB xs ++ r).take n) = xs.length := by
      have : ∃ t, (frB xs ++ r).take n = be (xs.length : Int) 4 ++ t := by
        refine ⟨((be (crc xs) 4 ++ xs ++ [229]) ++ r).take (n - 4), ?_⟩
        unfold frB
        rw [List.append_assoc (be (xs.length : Int) 4), List.append_assoc (be (xs.length : Int) 4), List.append_assoc (be (xs.length : Int) 4), List.take_append, be_length, List.take_of_length_le (by rw [be_length]; omega)]
      obtain ⟨t, ht⟩ := this
      rw [ht]
      exact num_be _ ⟨by omega, by omega⟩ _
    rw [e, if_neg (by omega), if_pos (by rw [hl]; omega)]

theorem frGo_more : ∀ (f g : Nat) (xs : List UInt8), xs.length < f → xs.length < g → frGo f xs = frGo g xs
  | 0, _, _, h, _ => by omega
  | _, 0, _, _, h => by omega
  | f + 1, g + 1, xs, hf, hg => by
    unfold frGo
    by_cases h : (oneM xs).2.2 = 0
    · rw [if_pos h, if_pos h]
      have hok := oneM_ok h
      rw [frGo_more f g (xs.drop (oneM xs).2.1.toNat) (by rw [List.length_drop]; omega) (by rw [List.length_drop]; omega)]
    · rw [if_neg h, if_neg h]
theorem frames_step {xs : List UInt8} (h : xs.length ≤ 16384) (r : List UInt8) : frames (frB xs ++ r) = (xs :: (frames r).1, (frB xs).length + (frames r).2) := by
  have ho := oneM_frB h r
  unfold frames
  show (if (oneM (frB xs ++ r)).2.2 = 0 then _ else _) = _
  rw [ho, if_pos rfl]
  have e : (9 + (xs.length : Int)).toNat = (frB xs).length := by rw [frB_len]; omega
  dsimp only
  rw [e, List.drop_left, frGo_more _ (r.length + 1) r (by rw [List.length_append, frB_len]; omega) (by omega)]
theorem frames_none {xs : List UInt8} (h : (oneM xs).2.2 ≠ 0) : frames xs = ([], 0) := by
  unfold frames
  show (if (oneM xs).2.2 = 0 then _ else _) = _
  rw [if_neg h]
theorem frames_nil : frames [] = ([], 0) := frames_none (by decide)
theorem frames_app : ∀ {rows : List (List UInt8)}, Small rows → ∀ t, frames (flatF rows ++ t) = (rows ++ (frames t).1, (flatF rows).length + (frames t).2)
  | [], _, t => by simp [flatF]
  | x :: r, h, t => by
    rw [flatF_cons, List.append_assoc, frames_step (h x (by simp)), frames_app (fun y hy => h y (List.mem_cons_of_mem _ hy)) t]
    simp [List.length_append, Nat.add_assoc]
theorem frames_flat {rows : List (List UInt8)} (h : Small rows) : frames (flatF rows) = (rows, (flatF rows).length) := by
  have := frames_app h []
  rw [List.append_nil, frames_nil] at this
  simpa using this
/-- Frames that are cut. -/
theorem frames_cut : ∀ {rows : List (List UInt8)}, Small rows → ∀ n, ∃ m, m ≤ rows.length ∧ (flatF (rows.take m)).length ≤ n ∧ (m < rows.length → n < (flatF (rows.take (m + 1))).length) ∧ frames ((flatF rows).take n) = (rows.take m, (flatF (rows.take m)).length)
  | [], _, n => ⟨0, by simp, by simp [flatF], by simp, by simp [flatF, frames_nil]⟩
  | x :: r, h, n => by
    have hx := h x (by simp)
    by_cases hn : n < (frB x).length
    · refine ⟨0, by simp, by simp [flatF], fun _ => by simpa [flatF] using hn, ?_⟩
      rw [flatF_cons, frames_none (by rw [oneM_torn hx _ hn]; simp)]
      simp [flatF]
    · obtain ⟨m, h1, h2, h3, h4⟩ := frames_cut (rows := r) (fun y hy => h y (List.mem_cons_of_mem _ hy)) (n - (frB x).length)
      refine ⟨m + 1, by simp; omega, ?_, fun hm => ?_, ?_⟩
      · rw [List.take_succ_cons, flatF_cons, List.length_append]; omega
      · have := h3 (by simpa using hm)
        rw [List.take_succ_cons, flatF_cons, List.length_append]; omega
      · rw [flatF_cons, List.take_append, List.take_of_length_le (by omega), frames_step hx, h4, List.take_succ_cons, flatF_cons, List.length_append]
end Go.Proofs
