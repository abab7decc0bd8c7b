/- SORTED MAPS: slices.Insert, slices.Delete, on a slice that one holds alone, generic over the program. -/
import Derived.Test.YtihadekhodlacaaKl2
import Derived.Lib.Overlaps
set_option linter.all false
set_option linter.constructorNameAsVariable false
namespace Go.Proofs
open Go Go.KC

def Blk (H : Hp) (g : Nat) (e : TypeId) (l : List Value) : Prop := H[g]? = some (.cells l.toArray e (0, 0))
def splice (off : Nat) (new l : List Value) : List Value := l.take off ++ new ++ l.drop (off + new.length)
theorem splice_length {off : Nat} {new l : List Value} (h : off + new.length ≤ l.length) : (splice off new l).length = l.length := by
  unfold splice; simp; omega
theorem Blk.write {H : Hp} {g off : Nat} {e : TypeId} {new l : List Value} (h : Blk H g e l) (hl : off + new.length ≤ l.length) : Blk (Hp.setCells H ⟨g, off, none⟩ new 0) g e (splice off new l) := by
  have := get_setCells new off 0 H l.toArray h (by simpa using hl)
  simpa [Blk, splice] using this
theorem Blk.wr {H : Hp} {g off n : Nat} {e : TypeId} {l : List Value} (h : Blk H g e l) (hl : off + n ≤ l.length) : WrAt H ⟨g, off, none⟩ n := fun j hj => by
  rw [Addr.add_loc, cell_of h, frozen_of h]
  exact ⟨by simp; omega, rfl⟩
theorem Blk.row {H : Hp} {g off : Nat} {e : TypeId} {l cs : List Value} (h : Blk H g e l) (hc : ∀ j v, cs[j]? = some v → l[off + j]? = some v) : RowAt H ⟨g, off, none⟩ cs := fun j v hj => by
  rw [Addr.add_loc, cell_of h]
  simpa using hc j v hj
theorem Blk.keep {m : Nat → Prop} {H H' : Hp} {g : Nat} {e : TypeId} {l : List Value} (h : Blk H g e l) (hm : Mod m H H') (hg : ¬ m g) : Blk H' g e l := hm.get h hg
theorem cutA_some {g n k cap : Nat} (h : n < cap) : cutA (some ⟨g, 0, none⟩) cap n k = some ⟨g, n * k, none⟩ := by
  unfold cutA; rw [if_neg (by omega)]; simp [Addr.add_loc]

/-- What of a program a slice's elements ask. -/
structure El (P : Program) (T e : TypeId) (k : Nat) : Prop where
  und : P.underlying T = some (.slice e)
  inf : ∃ ti z, P.info? e = some ti ∧ ti.zero = some z ∧ ti.size = k ∧ 0 < ti.bytes ∧ ti.bytes ≤ 1000 ∧ z.cells.size = k ∧ allOne z.cells.toList = true
  pos : 0 < k

theorem allOne_append {a b : List Value} : allOne (a ++ b) = (allOne a && allOne b) := by
  induction a with
  | nil => rfl
  | cons v r ih => simp [allOne, ih, Bool.and_assoc]
theorem allOne_iff {l : List Value} : allOne l = true ↔ ∀ v ∈ l, v.oneCell' = true := by
  induction l with
  | nil => simp [allOne]
  | cons v r ih => simp [allOne, ih]
theorem allOne_zero {z : Array Value} (h : allOne z.toList = true) (hz : 0 < z.size) (n : Nat) : allOne (Builtin.zeroCells z n).toList = true := by
  rw [allOne_iff] at h ⊢
  intro v hv
  unfold Builtin.zeroCells at hv
  simp only [Array.toList_map, List.mem_map] at hv
  obtain ⟨i, _, rfl⟩ := hv
  refine h _ ?_
  have hi : i % z.size < z.size := Nat.mod_lt _ hz
  rw [getElem!_pos z _ hi]
  exact Array.getElem_mem_toList hi
theorem zero_length (z : Array Value) (n : Nat) : (Builtin.zeroCells z n).toList.length = n * z.size := by simp [Builtin.zeroCells]

/-- The cells of an element that was laid by itself, as a slice of one. -/
theorem src_one {H : Hp} {g : Nat} {e : TypeId} {p : List Value} {k : Nat} (h : Blk H g e p) (hp : p.length = k) : SrcAt H k 1 (.slice (some ⟨g, 0, none⟩) 1 1) p :=
  ⟨by rw [hp]; simp, h.row fun j v hj => by simpa using hj⟩

def insVC (P : Program) (T : TypeId) (k : Nat) (ov rot : FuncId) (s : Sl) (i : Int) (v : Sl) (H : Hp) (Q : Value → Hp → Prop) : Prop :=
 ((0 : Int) ≤ i ∧ i ≤ ((s.len : Nat) : Int)) ∧ 
 Br (((v.len : Nat) : Int) == 0) (Q (.slice s.a s.len s.cap) H)
 (
 Br (i == ((s.len : Nat) : Int)) (
 vApp P T s.a s.len s.cap (.slice v.a v.len v.cap) H (fun ap H1 => Q (.slice ap.a ap.len ap.cap) H1))
 (
 Br (decide ((w64 (((s.len : Nat) : Int) + ((v.len : Nat) : Int))) > ((s.cap : Nat) : Int))) (((0 : Int) ≤ i ∧ i ≤ ((s.cap : Nat) : Int)) ∧ 
 vAppZ P T (cutA s.a s.cap 0 k) ((i : Int).toNat) s.cap (w64 ((w64 (((s.len : Nat) : Int) + ((v.len : Nat) : Int))) - i)) H (fun ap1 H2 => ((0 : Int) ≤ i ∧ i ≤ ((ap1.len : Nat) : Int)) ∧ 
 vCopy P T (cutA ap1.a ap1.cap ((i : Int).toNat) k) (ap1.len - ((i : Int).toNat)) (.slice v.a v.len v.cap) H2 (fun n H3 => ((0 : Int) ≤ (w64 (i + ((v.len : Nat) : Int))) ∧ (w64 (i + ((v.len : Nat) : Int))) ≤ ((ap1.len : Nat) : Int)) ∧ ((0 : Int) ≤ i ∧ i ≤ ((s.len : Nat) : Int)) ∧ 
 vCopy P T (cutA ap1.a ap1.cap (((w64 (i + ((v.len : Nat) : Int))) : Int).toNat) k) (ap1.len - (((w64 (i + ((v.len : Nat) : Int))) : Int).toNat)) (.slice (cutA s.a s.cap ((i : Int).toNat) k) (s.len - ((i : Int).toNat)) (s.cap - ((i : Int).toNat))) H3 (fun n1 H4 => Q (.slice ap1.a ap1.len ap1.cap) H4))))
 (((0 : Int) ≤ (w64 (((s.len : Nat) : Int) + ((v.len : Nat) : Int))) ∧ (w64 (((s.len : Nat) : Int) + ((v.len : Nat) : Int))) ≤ ((s.cap : Nat) : Int)) ∧ ((0 : Int) ≤ (w64 (i + ((v.len : Nat) : Int))) ∧ (w64 (i + ((v.len : Nat) : Int))) ≤ (((((w64 (((s.len : Nat) : Int) + ((v.len : Nat) : Int))) : Int).toNat) : Nat) : Int)) ∧ 
 ExtC P ov [.slice v.a v.len v.cap, .slice (cutA (cutA s.a s.cap 0 k) s.cap (((w64 (i + ((v.len : Nat) : Int))) : Int).toNat) k) ((((w64 (((s.len : Nat) : Int) + ((v.len : Nat) : Int))) : Int).toNat) - (((w64 (i + ((v.len : Nat) : Int))) : Int).toNat)) (s.cap - (((w64 (i + ((v.len : Nat) : Int))) : Int).toNat))] H (fun r H5 => ∃ x : Bool, r = .bool x ∧ 
 Br (!x) (((0 : Int) ≤ (w64 (i + ((v.len : Nat) : Int))) ∧ (w64 (i + ((v.len : Nat) : Int))) ≤ (((((w64 (((s.len : Nat) : Int) + ((v.len : Nat) : Int))) : Int).toNat) : Nat) : Int)) ∧ ((0 : Int) ≤ i ∧ i ≤ (((((w64 (((s.len : Nat) : Int) + ((v.len : Nat) : Int))) : Int).toNat) : Nat) : Int)) ∧ 
 vCopy P T (cutA (cutA s.a s.cap 0 k) s.cap (((w64 (i + ((v.len : Nat) : Int))) : Int).toNat) k) ((((w64 (((s.len : Nat) : Int) + ((v.len : Nat) : Int))) : Int).toNat) - (((w64 (i + ((v.len : Nat) : Int))) : Int).toNat)) (.slice (cutA (cutA s.a s.cap 0 k) s.cap ((i : Int).toNat) k) ((((w64 (((s.len : Nat) : Int) + ((v.len : Nat) : Int))) : Int).toNat) - ((i : Int).toNat)) (s.cap - ((i : Int).toNat))) H5 (fun n2 H6 => ((0 : Int) ≤ i ∧ i ≤ (((((w64 (((s.len : Nat) : Int) + ((v.len : Nat) : Int))) : Int).toNat) : Nat) : Int)) ∧ 
 vCopy P T (cutA (cutA s.a s.cap 0 k) s.cap ((i : Int).toNat) k) ((((w64 (((s.len : Nat) : Int) + ((v.len : Nat) : Int))) : Int).toNat) - ((i : Int).toNat)) (.slice v.a v.len v.cap) H6 (fun n3 H7 => Q (.slice (cutA s.a s.cap 0 k) (((w64 (((s.len : Nat) : Int) + ((v.len : Nat) : Int))) : Int).toNat) s.cap) H7)))
 (((0 : Int) ≤ ((s.len : Nat) : Int) ∧ ((s.len : Nat) : Int) ≤ (((((w64 (((s.len : Nat) : Int) + ((v.len : Nat) : Int))) : Int).toNat) : Nat) : Int)) ∧ 
 vCopy P T (cutA (cutA s.a s.cap 0 k) s.cap ((((s.len : Nat) : Int) : Int).toNat) k) ((((w64 (((s.len : Nat) : Int) + ((v.len : Nat) : Int))) : Int).toNat) - ((((s.len : Nat) : Int) : Int).toNat)) (.slice v.a v.len v.cap) H5 (fun n4 H8 => ((0 : Int) ≤ i ∧ i ≤ (((((w64 (((s.len : Nat) : Int) + ((v.len : Nat) : Int))) : Int).toNat) : Nat) : Int)) ∧ 
 SCalls P rot [.slice (cutA (cutA s.a s.cap 0 k) s.cap ((i : Int).toNat) k) ((((w64 (((s.len : Nat) : Int) + ((v.len : Nat) : Int))) : Int).toNat) - ((i : Int).toNat)) (s.cap - ((i : Int).toNat)), .int .i64 ((v.len : Nat) : Int)] H8 (fun r1 H9 => r1 = .tuple #[] ∧ Q (.slice (cutA s.a s.cap 0 k) (((w64 (((s.len : Nat) : Int) + ((v.len : Nat) : Int))) : Int).toNat) s.cap) H9)))))))

def delVC (P : Program) (T : TypeId) (k : Nat) (s : Sl) (i : Int) (j : Int) (H : Hp) (Q : Value → Hp → Prop) : Prop :=
 ((0 : Int) ≤ ((s.len : Nat) : Int) ∧ ((s.len : Nat) : Int) ≤ ((s.cap : Nat) : Int)) ∧ ((0 : Int) ≤ j ∧ j ≤ ((((((s.len : Nat) : Int) : Int).toNat) : Nat) : Int)) ∧ ((0 : Int) ≤ i ∧ i ≤ ((((j : Int).toNat) : Nat) : Int)) ∧ 
 Br (i == j) (Q (.slice s.a s.len s.cap) H)
 (((0 : Int) ≤ i ∧ i ≤ ((s.cap : Nat) : Int)) ∧ ((0 : Int) ≤ j ∧ j ≤ ((s.len : Nat) : Int)) ∧ 
 vApp P T (cutA s.a s.cap 0 k) ((i : Int).toNat) s.cap (.slice (cutA s.a s.cap ((j : Int).toNat) k) (s.len - ((j : Int).toNat)) (s.cap - ((j : Int).toNat))) H (fun ap H1 => ((0 : Int) ≤ ((s.len : Nat) : Int) ∧ ((s.len : Nat) : Int) ≤ ((ap.cap : Nat) : Int)) ∧ ((0 : Int) ≤ ((ap.len : Nat) : Int) ∧ ((ap.len : Nat) : Int) ≤ ((((((s.len : Nat) : Int) : Int).toNat) : Nat) : Int)) ∧ 
 vClear P T (cutA ap.a ap.cap ((((ap.len : Nat) : Int) : Int).toNat) k) (((((s.len : Nat) : Int) : Int).toNat) - ((((ap.len : Nat) : Int) : Int).toNat)) H1 (fun H2 => Q (.slice ap.a ap.len ap.cap) H2)))


theorem ins_spec {P : Program} {T e : TypeId} {k : Nat} {ov rot : FuncId} {s : Sl} {n gv : Nat} {ev : TypeId} {p cs : List Value} {H : Hp} {Q : Value → Hp → Prop} (hE : El P T e k) (ho : Own H s e k cs) (hn : n ≤ s.len) (hl : s.len ≤ 1000000)
    (hp : p.length = k) (hp1 : allOne p = true) (hc1 : allOne cs = true) (hv : Blk H gv ev p) (hgv : gv ∉ s.blk)
    (hov : ∀ (b : Addr) (lb cb : Nat), b.block ≠ gv → (∃ c, H[b.block]? = some (.cells c e (0, 0)) ∧ c.size ≠ 0) → ExtTells P ov [.slice (some ⟨gv, 0, none⟩) 1 1, .slice (some b) lb cb] H (.bool false))
    (hQ : ∀ (y : Sl) H', Own H' y e k (cs.take (n * k) ++ p ++ cs.drop (n * k)) → Mod (· ∈ s.blk) H H' → (∀ b ∈ y.blk, b ∈ s.blk ∨ b = H.size) → Q (.slice y.a y.len y.cap) H') :
    insVC P T k ov rot s (n : Int) ⟨some ⟨gv, 0, none⟩, 1, 1⟩ H Q := by
  obtain ⟨hu, ⟨ti, z, hi, hz, hsz, hby, hby2, hzs, hz1⟩, hkp⟩ := hE
  have hcap := ho.2.1
  have hlen := ho.1
  have hb : ∀ m : Nat, m ≤ 2000000 → m * ti.bytes ≤ 140737488355328 := fun m hm => by
    have := Nat.mul_le_mul hm hby2; omega
  unfold insVC
  rw [show ((n : Int)).toNat = n from Int.toNat_natCast n]
  refine ⟨⟨by omega, by omega⟩, Br.no (by simp) ?_⟩
  by_cases h1 : n = s.len
  · -- at the end
    refine Br.yes (by simp [h1]) ?_
    refine Own.app (e := e) (ti := ti) (z := z) (cs := cs) (news := p) (by rw [hsz]; exact ho) hu hi hz (by rw [hzs, hsz]) hby (by rw [hsz]; exact src_one hv hp) (by rw [hsz, hp]; simp [srcLen]) hp1 (hb _ (by simp [srcLen]; omega)) ?_
    intro y H' hy hyl hm hyb _
    rw [hsz] at hy
    refine hQ y H' ?_ hm hyb
    have e1 : cs.take (n * k) = cs := List.take_of_length_le (by rw [hlen, h1]; exact Nat.le_refl _)
    have e2 : cs.drop (n * k) = [] := List.drop_eq_nil_of_le (by rw [hlen, h1]; exact Nat.le_refl _)
    rw [e1, e2, List.append_nil]; exact hy
  refine Br.no (by simp; omega) ?_
  have hnl : n < s.len := by omega
  have w1 : w64 ((s.len : Int) + ((1 : Nat) : Int)) = ((s.len + 1 : Nat) : Int) := by rw [w64_id (by omega) (by omega)]; omega
  have w2 : w64 ((n : Int) + ((1 : Nat) : Int)) = ((n + 1 : Nat) : Int) := by rw [w64_id (by omega) (by omega)]; omega
  have w3 : w64 (((s.len + 1 : Nat) : Int) - (n : Int)) = ((s.len + 1 - n : Nat) : Int) := by rw [w64_id (by omega) (by omega)]; omega
  dsimp only
  simp only [w1, w2, w3, Int.toNat_natCast]
  obtain ⟨g, cur, ha, hg, hcs, ht⟩ : ∃ g cur, s.a = some ⟨g, 0, none⟩ ∧ H[g]? = some (.cells cur e (0, 0)) ∧ cur.size = s.cap * k ∧ cur.toList.take cs.length = cs := by
    rcases ho.2.2 with h | h
    · omega
    · exact h
  have hB : Blk H g e cur.toList := by unfold Blk; rw [Array.toArray_toList]; exact hg
  have hcl : cur.toList.length = s.cap * k := by simpa using hcs
  have hgb : g ∈ s.blk := by simp [Sl.blk, ha]
  have hgg : gv ≠ g := fun e => hgv (e ▸ hgb)
  have hnk : n * k + k ≤ s.len * k := by rw [← Nat.succ_mul]; exact Nat.mul_le_mul_right _ hnl
  have hck : s.len * k ≤ s.cap * k := Nat.mul_le_mul_right _ hcap
  have hrow : ∀ j v, (cs.drop (n * k))[j]? = some v → cur.toList[n * k + j]? = some v := fun j v hj => by
    rw [List.getElem?_drop, ← ht, List.getElem?_take] at hj
    split at hj
    · exact hj
    · cases hj
  have hdl : (cs.drop (n * k)).length = (s.len - n) * k := by rw [List.length_drop, hlen, ← Nat.sub_mul]
  have hd1 : allOne (cs.drop (n * k)) = true := by
    rw [allOne_iff] at hc1 ⊢
    exact fun v hv => hc1 v (List.mem_of_mem_drop hv)
  have hsub : (s.len - n) * k = s.len * k - n * k := Nat.sub_mul _ _ _
  by_cases h2 : s.len + 1 > s.cap
  · -- a new block
    have hcapl : s.cap = s.len := by omega
    refine Br.yes (by simp; omega) ⟨⟨by omega, by omega⟩, ?_⟩
    rw [cutA_zero]
    refine ⟨e, ti, z, hu, hi, hz, hby, by omega, by omega, by omega, ?_, allOne_zero hz1 (by omega) _, fun hc => ?_, fun _ => ⟨cs.take (n * k), ?_, fun c' hc1' hc2' => ?_⟩⟩
    · rw [Int.toNat_natCast]; exact hb _ (by omega)
    · rw [Int.toNat_natCast] at hc; omega
    · rw [ha, hsz]
      refine ⟨by rw [List.length_take, hlen]; omega, fun j v hj => ?_⟩
      rw [List.getElem?_take] at hj
      split at hj
      · exact (ho.row ha) j v hj
      · cases hj
    rw [Int.toNat_natCast] at hc1' ⊢
    have hn1 : n + (s.len + 1 - n) = s.len + 1 := by omega
    rw [hn1] at hc1' ⊢
    dsimp only
    -- the block as it is laid
    have hL0 : ∃ L0, L0 = cs.take (n * k) ++ (Builtin.zeroCells z.cells (s.len + 1 - n)).toList ++ (Builtin.zeroCells z.cells (c' - (s.len + 1))).toList := ⟨_, rfl⟩
    obtain ⟨L0, hL0⟩ := hL0
    rw [← hL0]
    have hLl : L0.length = c' * k := by
      rw [hL0, List.length_append, List.length_append, List.length_take, zero_length, zero_length, hzs, hlen]
      have e1 : (s.len + 1 - n) * k = (s.len + 1) * k - n * k := Nat.sub_mul _ _ _
      have e2 : (c' - (s.len + 1)) * k = c' * k - (s.len + 1) * k := Nat.sub_mul _ _ _
      have e3 : (s.len + 1) * k = s.len * k + k := Nat.succ_mul _ _
      have e4 : (s.len + 1) * k ≤ c' * k := Nat.mul_le_mul_right _ hc1'
      omega
    have hLt : L0.take (n * k) = cs.take (n * k) := by
      rw [hL0, List.append_assoc, List.take_append_of_le_length (by rw [List.length_take, hlen]; omega), List.take_take, Nat.min_self]
    have m1 : Mod (fun _ => False) H (Array.push H (.cells L0.toArray e)) := Mod.push _ _ _
    have B1 : Blk (Array.push H (.cells L0.toArray e)) H.size e L0 := get_push_new _ _
    have ltg := lt_of_get hg
    have ltv := lt_of_get hv
    generalize Array.push H (.cells L0.toArray e) = H2 at m1 B1
    have e3 : (s.len + 1) * k = s.len * k + k := Nat.succ_mul _ _
    have e4 : (s.len + 1) * k ≤ c' * k := Nat.mul_le_mul_right _ hc1'
    have e5 : (n + 1) * k = n * k + k := Nat.succ_mul _ _
    refine ⟨⟨by omega, by omega⟩, ?_⟩
    rw [cutA_some (by omega : n < c')]
    refine ⟨e, ti, p, hu, hi, ?_, hp1, ?_⟩
    · have hm1 : Nat.min (srcLen (.slice (some ⟨gv, 0, none⟩) 1 1)) (s.len + 1 - n) = 1 := (Nat.min_eq_left (by omega) : min 1 (s.len + 1 - n) = 1)
      rw [hm1, hsz]; exact src_one (hv.keep m1 fun h => h) hp
    refine ⟨B1.wr (by omega), ?_⟩
    have B2 := B1.write (new := p) (off := n * k) (by omega)
    have m2 : Mod (· = H.size) H2 (Hp.setCells H2 ⟨H.size, n * k, none⟩ p 0) := ⟨by rw [size_setCells]; exact Nat.le_refl _, fun b _ hn => get_setCells_ne (fun e => hn e) _ _ _⟩
    generalize Hp.setCells H2 ⟨H.size, n * k, none⟩ p 0 = H3 at B2 m2
    refine ⟨⟨by omega, by omega⟩, ⟨by omega, by omega⟩, ?_⟩
    have hBo : Blk H3 g e cur.toList := (hB.keep m1 fun h => h).keep m2 (fun (h : g = H.size) => by omega)
    rw [cutA_some (by omega : n + 1 < c'), ha, cutA_some (by omega : n < s.cap)]
    refine ⟨e, ti, cs.drop (n * k), hu, hi, ?_, hd1, ?_⟩
    · have hm1 : Nat.min (srcLen (.slice (some ⟨g, n * k, none⟩) (s.len - n) (s.cap - n))) (s.len + 1 - (n + 1)) = s.len - n := by simp [srcLen]
      rw [hm1, hsz]; exact ⟨hdl, hBo.row hrow⟩
    have hs2 : (splice (n * k) p L0).length = L0.length := splice_length (by omega)
    refine ⟨B2.wr (by omega), ?_⟩
    have B3 := B2.write (new := cs.drop (n * k)) (off := (n + 1) * k) (by rw [hs2]; omega)
    have m3 : Mod (· = H.size) H3 (Hp.setCells H3 ⟨H.size, (n + 1) * k, none⟩ (cs.drop (n * k)) 0) := ⟨by rw [size_setCells]; exact Nat.le_refl _, fun b _ hn => get_setCells_ne (fun e => hn e) _ _ _⟩
    refine hQ ⟨some ⟨H.size, 0, none⟩, s.len + 1, c'⟩ _ ⟨?_, hc1', Or.inr ⟨H.size, _, rfl, B3, ?_, ?_⟩⟩ ?_ (fun b hb => Or.inr (by simpa [Sl.blk] using hb))
    · simp only [List.length_append, List.length_take, hdl, hp, hlen]; omega
    · simp only [List.size_toArray]; rw [splice_length (by rw [hs2]; omega), hs2]; exact hLl
    · have hfl : (cs.take (n * k) ++ p ++ cs.drop (n * k)).length = (s.len + 1) * k := by simp only [List.length_append, List.length_take, hdl, hp, hlen]; omega
      have hs1 : splice (n * k) p L0 = cs.take (n * k) ++ p ++ L0.drop (n * k + k) := by unfold splice; rw [hLt, hp]
      show (splice ((n + 1) * k) (cs.drop (n * k)) (splice (n * k) p L0)).take _ = _
      unfold splice at hs1 ⊢
      rw [hs1]
      have ht1 : (cs.take (n * k) ++ p ++ L0.drop (n * k + k)).take ((n + 1) * k) = cs.take (n * k) ++ p := by
        rw [List.take_append_of_le_length (by simp only [List.length_append, List.length_take, hlen, hp]; omega), List.take_of_length_le (by simp only [List.length_append, List.length_take, hlen, hp]; omega)]
      rw [ht1, List.take_append_of_le_length (by simp only [List.length_append, List.length_take, hdl, hp, hlen]; omega), List.take_of_length_le (by simp only [List.length_append, List.length_take, hdl, hp, hlen]; omega)]
    · refine (m1.mono fun _ _ h => h.elim).trans' (m2.trans m3) fun b hb hb2 => ?_
      have hb2' : b = H.size := hb2
      omega
  · -- in place
    have hc2 : s.len + 1 ≤ s.cap := by omega
    refine Br.no (by simp; omega) ⟨⟨by omega, by omega⟩, ⟨by omega, by omega⟩, ?_⟩
    rw [ha, cutA_zero, cutA_some (by omega : n < s.cap)]
    have e3 : (s.len + 1) * k = s.len * k + k := Nat.succ_mul _ _
    have e4 : (s.len + 1) * k ≤ s.cap * k := Nat.mul_le_mul_right _ hc2
    have e5 : (n + 1) * k = n * k + k := Nat.succ_mul _ _
    have hov' : ∃ b : Addr, b.block = g ∧ cutA (some ⟨g, 0, none⟩) s.cap (n + 1) k = some b := by
      by_cases hx : n + 1 < s.cap
      · exact ⟨_, rfl, cutA_some hx⟩
      · refine ⟨⟨g, 0, none⟩, rfl, ?_⟩
        unfold cutA; rw [if_pos (by omega)]
    obtain ⟨b0, hb0, hb1⟩ := hov'
    rw [hb1]
    refine ⟨.bool false, hov b0 _ _ (by rw [hb0]; exact Ne.symm hgg) ⟨cur, by rw [hb0]; exact hg, by rw [hcs]; omega⟩, false, rfl, Br.yes rfl ⟨⟨by omega, by omega⟩, ⟨by omega, by omega⟩, ?_⟩⟩
    have hn1c : n + 1 < s.cap := by omega
    rw [cutA_some hn1c] at hb1
    cases hb1
    have hm1 : Nat.min (srcLen (.slice (some ⟨g, n * k, none⟩) (s.len + 1 - n) (s.cap - n))) (s.len + 1 - (n + 1)) = s.len - n := (Nat.min_eq_right (by omega) : min (s.len + 1 - n) (s.len + 1 - (n + 1)) = _).trans (by omega)
    have hm2 : Nat.min (srcLen (.slice (some ⟨gv, 0, none⟩) 1 1)) (s.len + 1 - n) = 1 := (Nat.min_eq_left (by omega) : min 1 (s.len + 1 - n) = 1)
    refine ⟨e, ti, cs.drop (n * k), hu, hi, ?_, hd1, hB.wr (by omega), ?_⟩
    · rw [hm1, hsz]; exact ⟨hdl, hB.row hrow⟩
    have B2 := hB.write (new := cs.drop (n * k)) (off := (n + 1) * k) (by omega)
    have m2 : Mod (· = g) H (Hp.setCells H ⟨g, (n + 1) * k, none⟩ (cs.drop (n * k)) 0) := ⟨by rw [size_setCells]; exact Nat.le_refl _, fun b _ hn => get_setCells_ne (fun e => hn e) _ _ _⟩
    generalize Hp.setCells H ⟨g, (n + 1) * k, none⟩ (cs.drop (n * k)) 0 = H3 at B2 m2
    refine ⟨⟨by omega, by omega⟩, ?_⟩
    have hs2 : (splice ((n + 1) * k) (cs.drop (n * k)) cur.toList).length = cur.toList.length := splice_length (by omega)
    refine ⟨e, ti, p, hu, hi, ?_, hp1, B2.wr (by omega), ?_⟩
    · rw [hm2, hsz]; exact src_one (hv.keep m2 hgg) hp
    have B3 := B2.write (new := p) (off := n * k) (by omega)
    have m3 : Mod (· = g) H3 (Hp.setCells H3 ⟨g, n * k, none⟩ p 0) := ⟨by rw [size_setCells]; exact Nat.le_refl _, fun b _ hn => get_setCells_ne (fun e => hn e) _ _ _⟩
    refine hQ ⟨some ⟨g, 0, none⟩, s.len + 1, s.cap⟩ _ ⟨?_, hc2, Or.inr ⟨g, _, rfl, B3, ?_, ?_⟩⟩ ((m2.trans m3).mono fun b _ hb => by rw [hb]; exact hgb) (fun b hb => Or.inl (by simp [Sl.blk] at hb; rw [hb]; exact hgb))
    · simp only [List.length_append, List.length_take, hdl, hp, hlen]; omega
    · simp only [List.size_toArray]; rw [splice_length (by omega), hs2]; exact hcl
    · have hct : cur.toList.take (n * k) = cs.take (n * k) := by rw [← ht, List.take_take]; congr 1; omega
      have hfl : (cs.take (n * k) ++ p ++ cs.drop (n * k)).length = (s.len + 1) * k := by simp only [List.length_append, List.length_take, hdl, hp, hlen]; omega
      show (splice (n * k) p (splice ((n + 1) * k) (cs.drop (n * k)) cur.toList)).take _ = _
      unfold splice
      have q1 : (cur.toList.take ((n + 1) * k)).length = (n + 1) * k := by rw [List.length_take]; omega
      have q2 : (List.take ((n + 1) * k) cur.toList ++ cs.drop (n * k) ++ cur.toList.drop ((n + 1) * k + (cs.drop (n * k)).length)).take (n * k) = cs.take (n * k) := by
        rw [List.append_assoc, List.take_append_of_le_length (by omega), List.take_take, Nat.min_eq_left (by omega), hct]
      have q3 : (List.take ((n + 1) * k) cur.toList ++ cs.drop (n * k) ++ cur.toList.drop ((n + 1) * k + (cs.drop (n * k)).length)).drop (n * k + p.length) = cs.drop (n * k) ++ cur.toList.drop ((n + 1) * k + (cs.drop (n * k)).length) := by
        rw [List.append_assoc, hp, ← e5, List.drop_append_of_le_length (by omega), List.drop_eq_nil_of_le (by omega), List.nil_append]
      rw [q2, q3, ← List.append_assoc, List.take_append_of_le_length (by omega), List.take_of_length_le (by omega)]

theorem del_spec {P : Program} {T e : TypeId} {k : Nat} {s : Sl} {n : Nat} {cs : List Value} {H : Hp} {Q : Value → Hp → Prop} (hE : El P T e k) (ho : Own H s e k cs) (hn : n < s.len) (hl : s.len ≤ 1000000) (hc1 : allOne cs = true)
    (hQ : ∀ (y : Sl) H', Own H' y e k (cs.take (n * k) ++ cs.drop ((n + 1) * k)) → Mod (· ∈ s.blk) H H' → (∀ b ∈ y.blk, b ∈ s.blk) → Q (.slice y.a y.len y.cap) H') :
    delVC P T k s (n : Int) ((n + 1 : Nat) : Int) H Q := by
  obtain ⟨hu, ⟨ti, z, hi, hz, hsz, hby, hby2, hzs, hz1⟩, hkp⟩ := hE
  have hcap := ho.2.1
  have hlen := ho.1
  obtain ⟨g, cur, ha, hg, hcs, ht⟩ : ∃ g cur, s.a = some ⟨g, 0, none⟩ ∧ H[g]? = some (.cells cur e (0, 0)) ∧ cur.size = s.cap * k ∧ cur.toList.take cs.length = cs := by
    rcases ho.2.2 with h | h
    · omega
    · exact h
  have hB : Blk H g e cur.toList := by unfold Blk; rw [Array.toArray_toList]; exact hg
  have hcl : cur.toList.length = s.cap * k := by simpa using hcs
  have hgb : g ∈ s.blk := by simp [Sl.blk, ha]
  have hnk : (n + 1) * k ≤ s.len * k := Nat.mul_le_mul_right _ hn
  have hck : s.len * k ≤ s.cap * k := Nat.mul_le_mul_right _ hcap
  have e5 : (n + 1) * k = n * k + k := Nat.succ_mul _ _
  have hsub : (s.len - (n + 1)) * k = s.len * k - (n + 1) * k := Nat.sub_mul _ _ _
  have hdl : (cs.drop ((n + 1) * k)).length = (s.len - (n + 1)) * k := by rw [List.length_drop, hlen, ← Nat.sub_mul]
  have hrow : ∀ j v, (cs.drop ((n + 1) * k))[j]? = some v → cur.toList[(n + 1) * k + j]? = some v := fun j v hj => by
    rw [List.getElem?_drop, ← ht, List.getElem?_take] at hj
    split at hj
    · exact hj
    · cases hj
  have hd1 : allOne (cs.drop ((n + 1) * k)) = true := by
    rw [allOne_iff] at hc1 ⊢
    exact fun v hv => hc1 v (List.mem_of_mem_drop hv)
  unfold delVC
  simp only [Int.toNat_natCast]
  refine ⟨⟨by omega, by omega⟩, ⟨by omega, by omega⟩, ⟨by omega, by omega⟩, Br.no (by simp; omega) ⟨⟨by omega, by omega⟩, ⟨by omega, by omega⟩, ?_⟩⟩
  rw [cutA_zero]
  -- the source
  have hsrc : SrcAt H k (s.len - (n + 1)) (.slice (cutA s.a s.cap (n + 1) k) (s.len - (n + 1)) (s.cap - (n + 1))) (cs.drop ((n + 1) * k)) := by
    by_cases hx : n + 1 < s.cap
    · rw [ha, cutA_some hx]; exact ⟨hdl, hB.row hrow⟩
    · have : cutA s.a s.cap (n + 1) k = some ⟨g, 0, none⟩ := by unfold cutA; rw [if_pos (by omega), ha]
      rw [this]
      have h0 : cs.drop ((n + 1) * k) = [] := List.eq_nil_of_length_eq_zero (by rw [hdl, show s.len - (n + 1) = 0 by omega]; simp)
      rw [h0]
      exact ⟨by rw [show s.len - (n + 1) = 0 by omega]; simp, fun j v hj => by simp at hj⟩
  refine ⟨e, ti, z, cs.drop ((n + 1) * k), hu, hi, hz, hby, by rw [hsz]; exact hsrc, hd1, fun _ => ?_, fun hc => ?_⟩
  · have hs1 : n + srcLen (.slice (cutA s.a s.cap (n + 1) k) (s.len - (n + 1)) (s.cap - (n + 1))) = s.len - 1 := by simp only [srcLen]; omega
    rw [hs1, ha, hsz]
    simp only [Addr.add_loc, Nat.zero_add]
    refine ⟨hB.wr (by omega), ⟨by omega, by omega⟩, ⟨by omega, by omega⟩, ?_⟩
    have B2 := hB.write (new := cs.drop ((n + 1) * k)) (off := n * k) (by omega)
    have m2 : Mod (· = g) H (Hp.setCells H ⟨g, n * k, none⟩ (cs.drop ((n + 1) * k)) 0) := ⟨by rw [size_setCells]; exact Nat.le_refl _, fun b _ hn => get_setCells_ne (fun e => hn e) _ _ _⟩
    generalize Hp.setCells H ⟨g, n * k, none⟩ (cs.drop ((n + 1) * k)) 0 = H2 at B2 m2
    have hs2 : (splice (n * k) (cs.drop ((n + 1) * k)) cur.toList).length = cur.toList.length := splice_length (by omega)
    rw [show s.len - (s.len - 1) = 1 by omega, cutA_some (by omega : s.len - 1 < s.cap)]
    have e6 : (s.len - 1) * k = s.len * k - k := by rw [Nat.sub_mul, Nat.one_mul]
    have zl : (Builtin.zeroCells z.cells 1).toList.length = k := by rw [zero_length, hzs, Nat.one_mul]
    refine ⟨e, ti, z, hu, hi, hz, allOne_zero hz1 (by omega) _, fun h => by omega, fun _ => ⟨B2.wr (by rw [zl, hs2]; omega), ?_⟩⟩
    have B3 := B2.write (new := (Builtin.zeroCells z.cells 1).toList) (off := (s.len - 1) * k) (by rw [zl, hs2]; omega)
    have m3 : Mod (· = g) H2 (Hp.setCells H2 ⟨g, (s.len - 1) * k, none⟩ (Builtin.zeroCells z.cells 1).toList 0) := ⟨by rw [size_setCells]; exact Nat.le_refl _, fun b _ hn => get_setCells_ne (fun e => hn e) _ _ _⟩
    refine hQ ⟨some ⟨g, 0, none⟩, s.len - 1, s.cap⟩ _ ⟨?_, by simp only; omega, Or.inr ⟨g, _, rfl, B3, ?_, ?_⟩⟩ ((m2.trans m3).mono fun b _ hb => by rw [hb]; exact hgb) (fun b hb => by simp [Sl.blk] at hb; rw [hb]; exact hgb)
    · simp only [List.length_append, List.length_take, hdl, hlen]; omega
    · simp only [List.size_toArray]; rw [splice_length (by rw [zl, hs2]; omega), hs2]; exact hcl
    · have hct : cur.toList.take (n * k) = cs.take (n * k) := by rw [← ht, List.take_take]; congr 1; omega
      have hfl : (cs.take (n * k) ++ cs.drop ((n + 1) * k)).length = (s.len - 1) * k := by simp only [List.length_append, List.length_take, hdl, hlen]; omega
      show (splice ((s.len - 1) * k) _ (splice (n * k) (cs.drop ((n + 1) * k)) cur.toList)).take _ = _
      rw [hfl]
      have q1 : (splice (n * k) (cs.drop ((n + 1) * k)) cur.toList).take ((s.len - 1) * k) = cs.take (n * k) ++ cs.drop ((n + 1) * k) := by
        unfold splice
        rw [hct, List.take_append_of_le_length (by omega), List.take_of_length_le (by omega)]
      have q2 : ∀ L : List Value, L.length = s.cap * k → (splice ((s.len - 1) * k) (Builtin.zeroCells z.cells 1).toList L).take ((s.len - 1) * k) = L.take ((s.len - 1) * k) := fun L hL => by
        unfold splice
        rw [List.append_assoc, List.take_append_of_le_length (by rw [List.length_take]; omega), List.take_take, Nat.min_self]
      rw [q2 _ (by rw [hs2]; exact hcl), q1]
  · simp only [srcLen] at hc; omega
end Go.Proofs
