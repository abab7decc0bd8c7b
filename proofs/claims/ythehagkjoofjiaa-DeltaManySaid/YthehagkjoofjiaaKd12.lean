/- DELTAS: rows of made keys (plain). -/
import Derived.Test.YthehagkjoofjiaaKd9
set_option linter.all false
set_option linter.constructorNameAsVariable false
namespace Go.Proofs
open Go Go.KC

theorem ba_list (l : List UInt8) : (ByteArray.mk l.toArray).toList = l := by
  rw [ByteArray.toList_eq]
def mkP (bs : List UInt8) : Pr := ⟨ByteArray.mk bs.toArray, noText, false⟩
theorem mkP_rise {f : Nat → List UInt8} {n : Nat} (hf : ∀ i j, i < j → j < n → Op.bytesLess (f i) (f j) = true) : Rise (PP.byKey ((List.range n).map fun k => mkP (f k))) := by
  intro i j hi hj hij
  have hj' : j < n := by simpa [PP.byKey] using hj
  have e : ∀ k (hk : k < (PP.byKey ((List.range n).map fun k => mkP (f k))).length), ((PP.byKey ((List.range n).map fun k => mkP (f k)))[k]).1 = ByteArray.mk (f k).toArray := by
    intro k hk; simp [PP.byKey, mkP]
  rw [e, e]
  show Op.bytesLess _ _ = true
  rw [ba_list, ba_list]
  exact hf i j hij hj'
theorem mrg_apart {a b : List Pr} (ha : Rise (PP.byKey a)) (hb : Rise (PP.byKey b)) (h : ∀ p ∈ a, ∀ q ∈ b, KO.lt p.key q.key) : mrg a b = a ++ b := by
  have h' : ∀ p ∈ PP.byKey a, ∀ q ∈ PP.byKey b, KO.lt p.1 q.1 := by
    rintro ⟨k, p⟩ hp ⟨k', q⟩ hq
    obtain ⟨h1, rfl⟩ := mem_byKey.1 hp
    obtain ⟨h2, rfl⟩ := mem_byKey.1 hq
    exact h p h1 q h2
  obtain ⟨r, m⟩ := mergeL_spec _ _ ha hb
  have r2 := Rise.append ha hb h'
  have e : mergeL (PP.byKey a) (PP.byKey b) = PP.byKey a ++ PP.byKey b := by
    refine Rise.ext r r2 ?_
    rintro ⟨k, p⟩
    rw [m, List.mem_append]
    constructor
    · rintro (h | ⟨h, _⟩)
      · exact Or.inr h
      · exact Or.inl h
    · rintro (g | g)
      · exact Or.inr ⟨g, fun w hw => KO.irr _ (h' _ g (k, w) hw)⟩
      · exact Or.inl g
  unfold mrg
  rw [e, ← byKey_append]
  unfold PP.byKey
  rw [List.map_map]
  exact (List.map_congr_left fun p _ => rfl).trans (List.map_id _)
theorem stay_all {l : List Pr} (h : ∀ p ∈ l, p.gone = false) : stay l = l := by
  unfold stay
  rw [List.filter_eq_self]
  intro p hp; rw [h p hp]; rfl
theorem ltB {c d : UInt8} {x y : List UInt8} (h : c < d ∨ (c = d ∧ Op.bytesLess x y = true)) : Op.bytesLess (c :: x) (d :: y) = true := by
  simp only [Op.bytesLess, Bool.or_eq_true, decide_eq_true_eq, Bool.and_eq_true, beq_iff_eq]
  exact h
theorem u8_lt {i j : Nat} (h : i < j) (hj : j < 256) : UInt8.ofNat i < UInt8.ofNat j := by
  rw [UInt8.lt_iff_toNat_lt, UInt8.toNat_ofNat', UInt8.toNat_ofNat']
  omega
theorem bv_of {i : Nat} (h : i < 256) : bv (UInt8.ofNat i) = .int .u8 (i : Int) := by
  unfold bv
  rw [UInt8.toNat_ofNat', Nat.mod_eq_of_lt (by omega)]

section
variable {H : Hp}
/-- A row of a made key is put behind. -/
theorem made {bs : List UInt8} {cells : Array Value} {n : Nat} (hc : cells = (bs.map bv).toArray) (hn : bs.length = n) {xs : Sl} {cs : List Value} {K : Sl → Hp → Prop} (o : Own H xs T_api_Pair 3 cs) (hl : xs.len ≤ 100000)
    (hK : ∀ (ys : Sl) (H' : Hp), Own H' ys T_api_Pair 3 (cs ++ (mkP bs).row) → (∀ q ∈ ys.blk, q ∈ xs.blk ∨ H.size ≤ q) → Mod (· ∈ xs.blk) H H' → K ys H') :
    ∀ b : Nat, b = Array.size H → ∀ H4 : Hp, H4 = (Array.push H (.cells cells T_uint8)) → vB2S H4 (some (Addr.mk b 0 none)) n (fun s => ∀ b1 : Nat, b1 = Array.size H4 → ∀ H5 : Hp, H5 = (Array.push H4 (.cells #[.string s, .string (ByteArray.mk #[]), .bool false] T_api_Pair)) →
      vApp Try.prog T_sl_api_Pair xs.a xs.len xs.cap (.slice (some (Addr.mk b1 0 none)) 1 1) H5 K) := by
  rintro b rfl H4 e4
  obtain ⟨v4, m4, s4⟩ := push_facts e4
  have R : Rows H4 ⟨some (Addr.mk H.size 0 none), n, n⟩ 1 (bs.map bv) := by
    rw [e4, hc]
    exact ⟨by simp [hn], Nat.le_refl _, fun a ha => by cases ha; exact (cells_src (bs.map bv) n (by simp [hn])).2, fun e => nomatch e⟩
  refine b2s_imp (b2s_rows R rfl) ?_
  rintro _ rfl
  refine addEl elPair (o.keep m4 fun _ _ e => e) (p := (mkP bs).row) rfl rfl hl fun ys H' o' hb m => ?_
  exact hK ys H' o' (fun q hq => (hb q hq).imp id fun h => by omega) ((m4.mono fun _ _ e => e.elim).trans m)
end
end Go.Proofs
