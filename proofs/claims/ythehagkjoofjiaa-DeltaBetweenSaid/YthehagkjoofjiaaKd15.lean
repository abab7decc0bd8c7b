/- DELTAS: the map that the law makes of pairs. -/
import Derived.Test.YthehagkjoofjiaaKd9
import Derived.Test.YthehagkjoofjiaaKgm2
set_option linter.all false
set_option linter.constructorNameAsVariable false
namespace Go.Proofs
open Go Go.KC
variable {H : Hp}

def vRow (ps : List Pr) : List (ByteArray × Value) := ps.map fun p => (p.key, .agg p.row.toArray)
abbrev VM (H : Hp) (r : Nat) (ps : List Pr) : Prop := MR (fun k : ByteArray => Value.string k) H r (vRow ps)
theorem keyD_pairs : keyD Try.prog T_map_string_api_Pair = some (.string, T_api_Pair) := by kernel_rfl
theorem zero_pair : ∃ ti, Try.prog.info? T_api_Pair = some ti ∧ ti.zero = some (.agg #[.string noText, .string noText, .bool false]) := by
  have h : (Try.prog.info? T_api_Pair).bind (·.zero) = some (.agg #[.string noText, .string noText, .bool false]) := by kernel_rfl
  exact Option.bind_eq_some_iff.1 h

def findP : List Pr → ByteArray → Option Pr
  | [], _ => none
  | p :: r, k => if k = p.key then some p else findP r k
theorem getL_vRow (k : ByteArray) : ∀ (ps : List Pr), getL (vRow ps) k = (findP ps k).map fun p => .agg p.row.toArray
  | [] => rfl
  | p :: r => by
    show (if k = p.key then _ else getL (vRow r) k) = _
    unfold findP
    split
    · rfl
    · exact getL_vRow k r
theorem findP_none {k : ByteArray} : ∀ {ps : List Pr}, findP ps k = none ↔ ∀ p ∈ ps, p.key ≠ k
  | [] => by simp [findP]
  | p :: r => by
    unfold findP
    split
    · rename_i h; simp [h]
    · rename_i h
      rw [findP_none, List.forall_mem_cons]
      exact ⟨fun g => ⟨fun e => h e.symm, g⟩, fun g => g.2⟩

theorem values_spec {x : Sl} {ps : List Pr} (hr : Rows H x 3 (ps.map Pr.row).flatten) (hl : ps.length ≤ 9223372036854775806) (hn : (ps.map Pr.key).Nodup) :
    SCalls Try.prog tephralaw08_values.id [.slice x.a x.len x.cap] H fun r H' => ∃ m, r = .map (some m) ∧ VM H' m ps ∧ Mod (fun _ => False) H H' := by
  apply tephralaw08_values.calls
  rintro b rfl H1 h1
  obtain ⟨q1, m1, s1⟩ := push_facts h1
  have hxl := rows_len' (by omega) Pr.row_len hr
  have loop : ∀ (d i : Nat) (H' : Hp), i + d = ps.length → VM H' H.size (ps.take i) → Mod (fun _ => False) H H' →
      tephralaw08_values.l1 J0 x H.size H' (i : Int) fun r H' => ∃ m, r = .map (some m) ∧ VM H' m ps ∧ Mod (fun _ => False) H H' := by
    intro d
    induction d with
    | zero =>
      intro i H' hi hm m
      apply tephralaw08_values.l1.step; unfold tephralaw08_values.l1.body
      obtain rfl : i = ps.length := by omega
      rw [List.take_length] at hm
      exact Br.no (by simp; omega) ⟨_, rfl, hm, m⟩
    | succ d ih =>
      intro i H' hi hm m
      apply tephralaw08_values.l1.step; unfold tephralaw08_values.l1.body
      have hil : i < ps.length := by omega
      obtain ⟨a, ha, hrow⟩ := row_get' (by omega) Pr.row_len (hr.keep m fun _ _ e => e) hil
      refine Br.yes (by simp; omega) ⟨⟨by omega, by omega⟩, vPtr.mk a ha ⟨ps[i].key, ps[i].value, ps[i].gone, by simpa [Pr.row] using hrow, fun H3 h3 => ?_⟩⟩
      obtain ⟨m3, _⟩ := hole_facts h3
      have hnk : getL (vRow (ps.take i)) ps[i].key = none := by
        rw [getL_none]
        intro p hp
        unfold vRow at hp
        rw [List.mem_map] at hp
        obtain ⟨q, hq, rfl⟩ := hp
        obtain ⟨j, hj⟩ := List.mem_iff_getElem?.1 hq
        rw [List.getElem?_take] at hj
        split at hj
        · rename_i hji
          obtain ⟨hj1, rfl⟩ := List.getElem?_eq_some_iff.1 hj
          intro e
          have := List.pairwise_iff_getElem.1 hn j i (by simpa using hj1) (by simpa using hil) hji
          simp at this
          exact this e
        · cases hj
      refine (hm.mod m3).put keyStr keyD_pairs ps[i].key (.agg #[.string ps[i].key, .string ps[i].value, .bool ps[i].gone]) hnk fun H4 hm4 m4 => ?_
      rw [w64_id (x := (i : Int) + 1) (by omega) (by omega)]
      have := ih (i + 1) H4 (by omega) (by
        have e : vRow (ps.take (i + 1)) = vRow (ps.take i) ++ [(ps[i].key, .agg #[.string ps[i].key, .string ps[i].value, .bool ps[i].gone])] := by
          rw [List.take_succ_eq_append_getElem hil]; unfold vRow; rw [List.map_append]; rfl
        unfold VM; rw [e]; exact hm4) ((m.trans m3).trans' m4 fun b hb e => by omega)
      simpa using this
  exact loop ps.length 0 H1 (by omega) (by rw [h1]; exact MR.new H) m1
def zP : Pr := ⟨noText, noText, false⟩
theorem VM.look {m : Nat} {ps : List Pr} (h : VM H m ps) (k : ByteArray) : LookIs Try.prog T_map_string_api_Pair H (some m) (.string k) (.agg #[.string ((findP ps k).getD zP).key, .string ((findP ps k).getD zP).value, .bool ((findP ps k).getD zP).gone]) (findP ps k).isSome := by
  have := MR.look keyStr h keyD_pairs zero_pair k
  rw [getL_vRow] at this
  cases hf : findP ps k <;> rw [hf] at this <;> simpa [Pr.row, zP] using this
theorem vRow_get {ps : List Pr} {i : Nat} {k : ByteArray} {v : Value} (h : (vRow ps)[i]? = some (k, v)) : ∃ p, ps[i]? = some p ∧ k = p.key ∧ v = .agg #[.string p.key, .string p.value, .bool p.gone] := by
  unfold vRow at h
  rw [List.getElem?_map] at h
  obtain ⟨p, hp, e⟩ := Option.map_eq_some_iff.1 h
  cases e
  exact ⟨p, hp, rfl, rfl⟩
theorem vRow_len (ps : List Pr) : (vRow ps).length = ps.length := List.length_map _
theorem findP_some : ∀ {ps : List Pr}, (ps.map Pr.key).Nodup → ∀ {p : Pr}, p ∈ ps → findP ps p.key = some p
  | [], _, _, h => by simp at h
  | q :: r, hn, p, h => by
    rw [List.map_cons, List.nodup_cons] at hn
    unfold findP
    rcases List.mem_cons.1 h with rfl | h
    · rw [if_pos rfl]
    · rw [if_neg]
      · exact findP_some hn.2 h
      · intro e
        exact hn.1 (by rw [← e]; exact List.mem_map_of_mem h)
end Go.Proofs
