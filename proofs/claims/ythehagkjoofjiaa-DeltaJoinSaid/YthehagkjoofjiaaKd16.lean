/- DELTAS: the map that the law makes of pairs; rows that may be; how many keys changed. -/
import Derived.Test.YthehagkjoofjiaaKd9
import Derived.Test.YthehagkjoofjiaaKgm2
import Derived.Test.YthehagkjoofjiaaKx5
set_option linter.all false
set_option linter.constructorNameAsVariable false
namespace Go.Proofs
open Go Go.KC
section
variable {H : Hp}

def vRow (ps : List Pr) : List (ByteArray × Value) := ps.map fun p => (p.key, .agg p.row.toArray)
abbrev VM (H : Hp) (r : Nat) (ps : List Pr) : Prop := MR (fun k : ByteArray => Value.string k) H r (vRow ps)
theorem keyD_pairs : keyD Try.prog T_map_string_api_Pair = some (.string, T_api_Pair) := by kernel_rfl
theorem zero_pair : ∃ ti, Try.prog.info? T_api_Pair = some ti ∧ ti.zero = some (.agg #[.string noText, .string noText, .bool false]) := by
  have h : (Try.prog.info? T_api_Pair).bind (·.zero) = some (.agg #[.string noText, .string noText, .bool false]) := by kernel_rfl
  exact Option.bind_eq_some_iff.1 h

def findP : List Pr → ByteArray → Option Pr
  | [], _ => none
  | p :: r, k => if k = p.key then some p else findP r k
theorem getL_vRow (k : ByteArray) : ∀ (ps : List Pr), getL (vRow ps) k = (findP ps k).map fun p => .agg p.row.toArray
  | [] => rfl
  | p :: r => by
    show (if k = p.key then _ else getL (vRow r) k) = _
    unfold findP
    split
    · rfl
    · exact getL_vRow k r
theorem findP_none {k : ByteArray} : ∀ {ps : List Pr}, findP ps k = none ↔ ∀ p ∈ ps, p.key ≠ k
  | [] => by simp [findP]
  | p :: r => by
    unfold findP
    split
    · rename_i h; simp [h]
    · rename_i h
      rw [findP_none, List.forall_mem_cons]
      exact ⟨fun g => ⟨fun e => h e.symm, g⟩, fun g => g.2⟩

theorem values_spec {x : Sl} {ps : List Pr} (hr : Rows H x 3 (ps.map Pr.row).flatten) (hl : ps.length ≤ 9223372036854775806) (hn : (ps.map Pr.key).Nodup) :
    SCalls Try.prog tephralaw08_values.id [.slice x.a x.len x.cap] H fun r H' => ∃ m, r = .map (some m) ∧ VM H' m ps ∧ Mod (fun _ => False) H H' := by
  apply tephralaw08_values.calls
  rintro b rfl H1 h1
  obtain ⟨q1, m1, s1⟩ := push_facts h1
  have hxl := rows_len' (by omega) Pr.row_len hr
  have loop : ∀ (d i : Nat) (H' : Hp), i + d = ps.length → VM H' H.size (ps.take i) → Mod (fun _ => False) H H' →
      tephralaw08_values.l1 J0 x H.size H' (i : Int) fun r H' => ∃ m, r = .map (some m) ∧ VM H' m ps ∧ Mod (fun _ => False) H H' := by
    intro d
    induction d with
    | zero =>
      intro i H' hi hm m
      apply tephralaw08_values.l1.step; unfold tephralaw08_values.l1.body
      obtain rfl : i = ps.length := by omega
      rw [List.take_length] at hm
      exact Br.no (by simp; omega) ⟨_, rfl, hm, m⟩
    | succ d ih =>
      intro i H' hi hm m
      apply tephralaw08_values.l1.step; unfold tephralaw08_values.l1.body
      have hil : i < ps.length := by omega
      obtain ⟨a, ha, hrow⟩ := row_get' (by omega) Pr.row_len (hr.keep m fun _ _ e => e) hil
      refine Br.yes (by simp; omega) ⟨⟨by omega, by omega⟩, vPtr.mk a ha ⟨ps[i].key, ps[i].value, ps[i].gone, by simpa [Pr.row] using hrow, fun H3 h3 => ?_⟩⟩
      obtain ⟨m3, _⟩ := hole_facts h3
      have hnk : getL (vRow (ps.take i)) ps[i].key = none := by
        rw [getL_none]
        intro p hp
        unfold vRow at hp
        rw [List.mem_map] at hp
        obtain ⟨q, hq, rfl⟩ := hp
        obtain ⟨j, hj⟩ := List.mem_iff_getElem?.1 hq
        rw [List.getElem?_take] at hj
        split at hj
        · rename_i hji
          obtain ⟨hj1, rfl⟩ := List.getElem?_eq_some_iff.1 hj
          intro e
          have := List.pairwise_iff_getElem.1 hn j i (by simpa using hj1) (by simpa using hil) hji
          simp at this
          exact this e
        · cases hj
      refine (hm.mod m3).put keyStr keyD_pairs ps[i].key (.agg #[.string ps[i].key, .string ps[i].value, .bool ps[i].gone]) hnk fun H4 hm4 m4 => ?_
      rw [w64_id (x := (i : Int) + 1) (by omega) (by omega)]
      have := ih (i + 1) H4 (by omega) (by
        have e : vRow (ps.take (i + 1)) = vRow (ps.take i) ++ [(ps[i].key, .agg #[.string ps[i].key, .string ps[i].value, .bool ps[i].gone])] := by
          rw [List.take_succ_eq_append_getElem hil]; unfold vRow; rw [List.map_append]; rfl
        unfold VM; rw [e]; exact hm4) ((m.trans m3).trans' m4 fun b hb e => by omega)
      simpa using this
  exact loop ps.length 0 H1 (by omega) (by rw [h1]; exact MR.new H) m1
def zP : Pr := ⟨noText, noText, false⟩
theorem VM.look {m : Nat} {ps : List Pr} (h : VM H m ps) (k : ByteArray) : LookIs Try.prog T_map_string_api_Pair H (some m) (.string k) (.agg #[.string ((findP ps k).getD zP).key, .string ((findP ps k).getD zP).value, .bool ((findP ps k).getD zP).gone]) (findP ps k).isSome := by
  have := MR.look keyStr h keyD_pairs zero_pair k
  rw [getL_vRow] at this
  cases hf : findP ps k <;> rw [hf] at this <;> simpa [Pr.row, zP] using this
theorem vRow_get {ps : List Pr} {i : Nat} {k : ByteArray} {v : Value} (h : (vRow ps)[i]? = some (k, v)) : ∃ p, ps[i]? = some p ∧ k = p.key ∧ v = .agg #[.string p.key, .string p.value, .bool p.gone] := by
  unfold vRow at h
  rw [List.getElem?_map] at h
  obtain ⟨p, hp, e⟩ := Option.map_eq_some_iff.1 h
  cases e
  exact ⟨p, hp, rfl, rfl⟩
theorem vRow_len (ps : List Pr) : (vRow ps).length = ps.length := List.length_map _
theorem findP_some : ∀ {ps : List Pr}, (ps.map Pr.key).Nodup → ∀ {p : Pr}, p ∈ ps → findP ps p.key = some p
  | [], _, _, h => by simp at h
  | q :: r, hn, p, h => by
    rw [List.map_cons, List.nodup_cons] at hn
    unfold findP
    rcases List.mem_cons.1 h with rfl | h
    · rw [if_pos rfl]
    · rw [if_neg]
      · exact findP_some hn.2 h
      · intro e
        exact hn.1 (by rw [← e]; exact List.mem_map_of_mem h)
end


theorem Rise.keys_nodup {κ α : Type} [KO κ] {l : List (κ × α)} (h : Rise l) : (l.map (·.1)).Nodup := by
  refine List.pairwise_iff_getElem.2 fun i j hi hj hij => ?_
  rw [List.length_map] at hi hj
  intro e
  rw [List.getElem_map, List.getElem_map] at e
  have := h i j hi hj hij
  rw [e] at this
  exact KO.irr _ this
theorem nodup_of_keys {κ α : Type} : ∀ {l : List (κ × α)}, (l.map (·.1)).Nodup → l.Nodup
  | [], _ => List.nodup_nil
  | p :: r, h => by
    rw [List.map_cons, List.nodup_cons] at h
    exact List.nodup_cons.2 ⟨fun e => h.1 (List.mem_map_of_mem e), nodup_of_keys h.2⟩
theorem keys_prs (ps : List Pr) : (PP.byKey ps).map (·.1) = ps.map Pr.key := by unfold PP.byKey; rw [List.map_map]; rfl
theorem nodup_byKey {ps : List Pr} (h : Rise (PP.byKey ps)) : (ps.map Pr.key).Nodup := by rw [← keys_prs]; exact h.keys_nodup

theorem rowsOk_of {ps : List Pr} {s : Stt} {most : Int} (hr : Rise (PP.byKey ps)) (ho : ∀ p ∈ ps, p.Ok) (hs : s.Ok) (hl : (ps.length : Int) ≤ most) : RowsOk ps s.sess most := by
  refine ⟨fun i hi _ => ⟨ho _ (List.getElem_mem hi), fun h0 => ?_⟩, fun i hi _ => ?_, hl⟩
  · have := hr (i - 1) i (by rw [PP.byKey_len]; omega) (by rw [PP.byKey_len]; omega) (by omega)
    simpa [PP.byKey] using this
  · have hi' : i < s.ss.length := by simpa [Stt.sess] using hi
    have e : ∀ n (hn : n < s.sess.length), s.sess[n] = (s.ss[n]'(by simpa [Stt.sess] using hn)).2 := fun n hn => List.getElem_map _
    have b := hs.sb _ (List.getElem_mem hi')
    refine ⟨?_, fun h0 => ?_⟩
    · rw [e i hi]
      exact ⟨by omega, by omega, b.2.2.2.1, b.2.2.2.2.1, b.2.2.2.2.2.1, b.2.2.2.2.2.2.1, b.2.2.2.2.2.2.2⟩
    · rw [e i hi, e (i - 1) (by omega)]
      have h2 : (s.ss[i - 1]'(by omega)).1 < (s.ss[i]).1 := hs.rs (i - 1) i (by omega) hi' (by omega)
      have b2 := hs.sb _ (List.getElem_mem (show i - 1 < s.ss.length by omega))
      rw [b.1, b2.1]; exact h2

theorem btw_ok {s t : Stt} (os : s.Ok) (ot : t.Ok) : ∀ p ∈ btw s.kv t.kv, p.Ok := by
  intro p hp
  have := (mem_btw os.rk ot.rk (k := p.key) (p := p)).1 (mem_byKey.2 ⟨hp, rfl⟩)
  generalize p.key = k at this
  rcases this with ⟨_, ⟨v, hv⟩, rfl⟩ | ⟨v, hv, _, rfl⟩
  · have := os.kb _ ((valL_mem os.rk).1 hv)
    exact ⟨this.1, this.2.1, (show noText.size ≤ 16 by decide), fun _ => rfl⟩
  · have := ot.kb _ ((valL_mem ot.rk).1 hv)
    exact ⟨this.1, this.2.1, this.2.2, fun e => by cases e⟩

theorem btw_count {old now : List (ByteArray × ByteArray)} (ho : Rise old) (hn : Rise now) :
    (btw old now).length = now.countP (fun p => decide (valL old p.1 ≠ some p.2)) + old.countP (fun p => decide (valL now p.1 = none)) := by
  let A := (now.filter fun p => decide (valL old p.1 ≠ some p.2)).map fun p => (p.1, (⟨p.1, p.2, false⟩ : Pr))
  let B := (old.filter fun p => decide (valL now p.1 = none)).map fun p => (p.1, (⟨p.1, noText, true⟩ : Pr))
  have perm : (PP.byKey (btw old now)).Perm (A ++ B) := by
    refine (List.perm_ext_iff_of_nodup (nodup_of_keys (rise_btw ho hn).keys_nodup) ?_).2 fun q => ?_
    · rw [List.nodup_append]
      refine ⟨nodup_of_keys ?_, nodup_of_keys ?_, ?_⟩
      · show ((_ : List _).map _).map _ |>.Nodup
        rw [List.map_map]; exact (hn.filter _).keys_nodup
      · show ((_ : List _).map _).map _ |>.Nodup
        rw [List.map_map]; exact (ho.filter _).keys_nodup
      · intro a ha b hb e
        obtain ⟨p, _, rfl⟩ := List.mem_map.1 ha
        obtain ⟨q, _, rfl⟩ := List.mem_map.1 hb
        have := congrArg (fun x : ByteArray × Pr => x.2.gone) e
        simp at this
    · obtain ⟨k, p⟩ := q
      rw [mem_btw ho hn, List.mem_append]
      constructor
      · rintro (⟨h1, ⟨v, hv⟩, rfl⟩ | ⟨v, hv, h2, rfl⟩)
        · exact Or.inr (List.mem_map.2 ⟨(k, v), List.mem_filter.2 ⟨(valL_mem ho).1 hv, decide_eq_true h1⟩, rfl⟩)
        · exact Or.inl (List.mem_map.2 ⟨(k, v), List.mem_filter.2 ⟨(valL_mem hn).1 hv, decide_eq_true h2⟩, rfl⟩)
      · rintro (h | h)
        · obtain ⟨⟨a, v⟩, hf, e⟩ := List.mem_map.1 h
          cases e
          obtain ⟨h1, h2⟩ := List.mem_filter.1 hf
          exact Or.inr ⟨v, (valL_mem hn).2 h1, of_decide_eq_true h2, rfl⟩
        · obtain ⟨⟨a, v⟩, hf, e⟩ := List.mem_map.1 h
          cases e
          obtain ⟨h1, h2⟩ := List.mem_filter.1 hf
          exact Or.inl ⟨of_decide_eq_true h2, ⟨v, (valL_mem ho).2 h1⟩, rfl⟩
  have := perm.length_eq
  rw [PP.byKey_len, List.length_append, List.length_map, List.length_map, ← List.countP_eq_length_filter, ← List.countP_eq_length_filter] at this
  exact this

theorem findP_prs {l : List (ByteArray × ByteArray)} (hl : Rise l) (k : ByteArray) : findP (prsOfL l) k = (valL l k).map fun v => ⟨k, v, false⟩ := by
  cases hv : valL l k with
  | none =>
    rw [Option.map_none, findP_none]
    intro p hp e
    obtain ⟨q, hq, rfl⟩ := List.mem_map.1 hp
    exact (valL_none hl).1 hv q.2 (by rw [← e]; exact hq)
  | some v =>
    have hp : (⟨k, v, false⟩ : Pr) ∈ prsOfL l := List.mem_map.2 ⟨(k, v), (valL_mem hl).1 hv, rfl⟩
    exact findP_some (nodup_byKey (rise_prs hl)) hp
theorem findP_btw {old now : List (ByteArray × ByteArray)} (ho : Rise old) (hn : Rise now) {p : Pr} (hp : p ∈ btw old now) :
    valL now p.key = none ∧ (∃ v, valL old p.key = some v) ∧ p = ⟨p.key, noText, true⟩ ∨ ∃ v, valL now p.key = some v ∧ valL old p.key ≠ some v ∧ p = ⟨p.key, v, false⟩ :=
  (mem_btw ho hn).1 (mem_byKey.2 ⟨hp, rfl⟩)
end Go.Proofs
