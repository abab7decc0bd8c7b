/- DELTAS: DeltaFull. -/
import Derived.Test.YthehagkjoofjiaaKd12
set_option linter.all false
set_option linter.constructorNameAsVariable false
namespace Go.Proofs
open Go Go.KC

def Lf (f : Nat → List UInt8) (n : Nat) : List Pr := (List.range n).map fun k => mkP (f k)
theorem Lf_len (f : Nat → List UInt8) (n : Nat) : (Lf f n).length = n := by simp [Lf]
theorem Lf_succ (f : Nat → List UInt8) (n : Nat) : ((Lf f (n + 1)).map Pr.row).flatten = ((Lf f n).map Pr.row).flatten ++ (mkP (f n)).row := by
  simp [Lf, List.range_succ]
theorem Lf_mem {f : Nat → List UInt8} {n : Nat} {p : Pr} (h : p ∈ Lf f n) : ∃ k, k < n ∧ p = mkP (f k) := by
  obtain ⟨k, hk, rfl⟩ := List.mem_map.1 h
  exact ⟨k, List.mem_range.1 hk, rfl⟩
theorem mrg_Lf {f g : Nat → List UInt8} {n m : Nat} (hf : ∀ i j, i < j → j < n → Op.bytesLess (f i) (f j) = true) (hg : ∀ i j, i < j → j < m → Op.bytesLess (g i) (g j) = true) (h : ∀ i j, Op.bytesLess (f i) (g j) = true) :
    mrg (Lf f n) (Lf g m) = Lf f n ++ Lf g m ∧ stay (Lf f n ++ Lf g m) = Lf f n ++ Lf g m := by
  refine ⟨mrg_apart (mkP_rise hf) (mkP_rise hg) ?_, stay_all ?_⟩
  · intro p hp q hq
    obtain ⟨i, _, rfl⟩ := Lf_mem hp
    obtain ⟨j, _, rfl⟩ := Lf_mem hq
    show Op.bytesLess (ByteArray.mk (f i).toArray).toList (ByteArray.mk (g j).toArray).toList = true
    rw [ba_list, ba_list]
    exact h i j
  · intro p hp
    rcases List.mem_append.1 hp with h | h
    · obtain ⟨i, _, rfl⟩ := Lf_mem h; rfl
    · obtain ⟨i, _, rfl⟩ := Lf_mem h; rfl
def fA (k : Nat) : List UInt8 := [97, UInt8.ofNat (k + 1)]
def fB (k : Nat) : List UInt8 := [98, UInt8.ofNat (k + 1)]
theorem fA_up {n : Nat} (hn : n ≤ 64) : ∀ i j, i < j → j < n → Op.bytesLess (fA i) (fA j) = true := fun i j h hj => ltB (Or.inr ⟨rfl, ltB (Or.inl (u8_lt (by omega) (by omega)))⟩)
theorem fB_up {n : Nat} (hn : n ≤ 64) : ∀ i j, i < j → j < n → Op.bytesLess (fB i) (fB j) = true := fun i j h hj => ltB (Or.inr ⟨rfl, ltB (Or.inl (u8_lt (by omega) (by omega)))⟩)
theorem fAB (i j : Nat) : Op.bytesLess (fA i) (fB j) = true := ltB (Or.inl (by decide))
theorem cellsAB {c : UInt8} {k : Nat} (hk : k < 64) : (#[.int .u8 (c.toNat : Int), .int .u8 (IntKind.u8.wrap (w64 ((k : Int) + 1)))] : Array Value) = (([c, UInt8.ofNat (k + 1)] : List UInt8).map bv).toArray := by
  have e : IntKind.u8.wrap (w64 ((k : Int) + 1)) = ((k + 1 : Nat) : Int) := by rw [w64_id (by omega) (by omega), wrapu8]; omega
  rw [e, List.map_cons, List.map_cons, bv_of (by omega)]
  rfl

/-- A row of made keys stands. -/
def Md (H H' : Hp) (y : Sl) (f : Nat → List UInt8) (n : Nat) : Prop := Own H' y T_api_Pair 3 ((Lf f n).map Pr.row).flatten ∧ (∀ q ∈ y.blk, H.size ≤ q) ∧ Mod (fun _ => False) H H'
theorem Md.nil {H H' : Hp} {f : Nat → List UInt8} (m : Mod (fun _ => False) H H') : Md H H' ⟨none, 0, 0⟩ f 0 := ⟨Own.nil _ _ _, fun q hq => (by simp [Sl.blk] at hq), m⟩
theorem Md.len {H H' : Hp} {y : Sl} {f : Nat → List UInt8} {n : Nat} (h : Md H H' y f n) : y.len = n := by
  have h1 := (Own.rows h.1).1
  have : ∀ l : List Pr, (l.map Pr.row).flatten.length = l.length * 3 := by
    intro l
    induction l with
    | nil => rfl
    | cons p l ih => rw [List.map_cons, List.flatten_cons, List.length_append, ih, List.length_cons]; show 3 + _ = _; omega
  rw [this, Lf_len] at h1
  omega
theorem Md.step {H H' : Hp} {xs : Sl} {f : Nat → List UInt8} {k : Nat} (h : Md H H' xs f k) (hk : k ≤ 1000) {cells : Array Value} {n : Nat} (hc : cells = ((f k).map bv).toArray) (hn : (f k).length = n) {K : Sl → Hp → Prop}
    (hK : ∀ ys H'', Md H H'' ys f (k + 1) → K ys H'') :
    ∀ b : Nat, b = Array.size H' → ∀ H4 : Hp, H4 = (Array.push H' (.cells cells T_uint8)) → vB2S H4 (some (Addr.mk b 0 none)) n (fun s => ∀ b1 : Nat, b1 = Array.size H4 → ∀ H5 : Hp, H5 = (Array.push H4 (.cells #[.string s, .string (ByteArray.mk #[]), .bool false] T_api_Pair)) →
      vApp Try.prog T_sl_api_Pair xs.a xs.len xs.cap (.slice (some (Addr.mk b1 0 none)) 1 1) H5 K) := by
  have hl := h.len
  refine made hc hn h.1 (by omega) fun ys H'' o hb m => hK ys H'' ⟨?_, fun q hq => ?_, ?_⟩
  · rw [Lf_succ]; exact o
  · rcases hb q hq with g | g
    · exact h.2.1 q g
    · exact Nat.le_trans h.2.2.size g
  · exact Mod.fresh ((h.2.2.mono fun _ _ e => e.elim).trans m) h.2.1
section
variable {H : Hp}
theorem DeltaFull_spec {many more : UInt8} :
    SCalls Try.prog tephralaw08_DeltaFull.id [.int .u8 (many.toNat : Int), .int .u8 (more.toNat : Int)] H (trueQ H) := by
  apply tephralaw08_DeltaFull.calls
  unfold tephralaw08_DeltaFull.vc
  refine bool_step (H0 := H) awake08_spec (Mod.refl _ _) fun H1 m1 => Br.no rfl ⟨by omega, by omega, fun H2 h2 => ?_⟩
  obtain ⟨m2, _⟩ := hole_facts h2
  have m12 := m1.trans m2
  have ta : Int.tmod (many.toNat : Int) 64 = ((many.toNat % 64 : Nat) : Int) := tmodN many 64
  have tb : Int.tmod (more.toNat : Int) 64 = ((more.toNat % 64 : Nat) : Int) := tmodN more 64
  have ha : many.toNat % 64 < 64 := Nat.mod_lt _ (by omega)
  have hb : more.toNat % 64 < 64 := Nat.mod_lt _ (by omega)
  generalize many.toNat % 64 = a0 at ta ha
  generalize more.toNat % 64 = b0 at tb hb
  have eA : w64 ((1 : Int) + w64 (Int.tmod (many.toNat : Int) 64)) = ((a0 + 1 : Nat) : Int) := by rw [ta, w64_id (x := (a0 : Int)) (by omega) (by omega), w64_id (by omega) (by omega)]; omega
  have eB : w64 (Int.tmod (more.toNat : Int) 64) = (b0 : Int) := by rw [tb, w64_id (by omega) (by omega)]
  have eS : w64 (((a0 + 1 : Nat) : Int) + (b0 : Int)) = ((a0 + 1 + b0 : Nat) : Int) := by rw [w64_id (by omega) (by omega)]; omega
  have M := mrg_Lf (n := a0 + 1) (m := b0) (fA_up (by omega)) (fB_up (by omega)) fAB
  have len : (Lf fA (a0 + 1) ++ Lf fB b0).length = a0 + 1 + b0 := by rw [List.length_append, Lf_len, Lf_len]
  have loop2 : ∀ (d k : Nat) (H7 H8 : Hp) (y y1 : Sl), k + d = b0 → Mod (fun _ => False) H H7 → Rows H7 y 3 ((Lf fA (a0 + 1)).map Pr.row).flatten → Md H7 H8 y1 fB k →
      tephralaw08_DeltaFull.l2 J0 (many.toNat : Int) (more.toNat : Int) y H8 (k : Int) y1 (trueQ H) := by
    intro d
    induction d with
    | zero =>
      intro k H7 H8 y y1 hk m7 R D
      have hk : k = b0 := by omega
      subst hk
      apply tephralaw08_DeltaFull.l2.step; unfold tephralaw08_DeltaFull.l2.body
      rw [eA, eB, eS]
      refine Br.no (by simp) ?_
      have r1 : RR H8 y ⟨none, 0, 0⟩ (Lf fA (a0 + 1)) [] := ⟨R.keep D.2.2 fun _ _ e => e, ⟨rfl, Nat.le_refl _, fun a ha => (by cases ha), fun _ => rfl⟩⟩
      have r2 : RR H8 y1 ⟨none, 0, 0⟩ (Lf fB k) [] := ⟨Own.rows D.1, ⟨rfl, Nat.le_refl _, fun a ha => (by cases ha), fun _ => rfl⟩⟩
      by_cases hf : 64 < a0 + 1 + k
      · have e : doD ⟨0, 0, Lf fA (a0 + 1), []⟩ ⟨0, 1, 0, Lf fB k, []⟩ = (.zero, 4) := by
          unfold doD
          dsimp only
          rw [if_neg (by simp), M.1, M.2, if_pos (by omega)]
        refine do_step (s := ⟨0, 0, Lf fA (a0 + 1), []⟩) (d := ⟨0, 1, 0, Lf fB k, []⟩) r1 r2 ⟨by rw [Lf_len]; omega, by rw [Lf_len]; omega, by simp⟩ e fun p' x' H12 rr m => ?_
        intro H13 h13
        obtain ⟨m13, _⟩ := hole_facts h13
        have l0 : p'.len = 0 := (rr.lens).1.symm
        exact Br.yes (by simp; omega) (Br.yes rfl ⟨by rw [l0]; rfl, m7.trans (D.2.2.trans (m.trans m13))⟩)
      · have e : doD ⟨0, 0, Lf fA (a0 + 1), []⟩ ⟨0, 1, 0, Lf fB k, []⟩ = (⟨1, 0, Lf fA (a0 + 1) ++ Lf fB k, []⟩, 0) := by
          unfold doD
          dsimp only
          rw [if_neg (by simp), M.1, M.2, if_neg (by omega)]
        refine do_step (s := ⟨0, 0, Lf fA (a0 + 1), []⟩) (d := ⟨0, 1, 0, Lf fB k, []⟩) r1 r2 ⟨by rw [Lf_len]; omega, by rw [Lf_len]; omega, by simp⟩ e fun p' x' H12 rr m => ?_
        intro H13 h13
        obtain ⟨m13, _⟩ := hole_facts h13
        have l0 : p'.len = a0 + 1 + k := by have := (rr.lens).1; dsimp only at this; omega
        refine Br.no (by simp; omega) (Br.yes rfl ?_)
        apply tephralaw08_DeltaFull.k1.step; unfold tephralaw08_DeltaFull.k1.body
        exact Br.yes (by rw [l0]; simp) ⟨rfl, m7.trans (D.2.2.trans (m.trans m13))⟩
    | succ d ih =>
      intro k H7 H8 y y1 hk m7 R D
      apply tephralaw08_DeltaFull.l2.step; unfold tephralaw08_DeltaFull.l2.body
      rw [eB]
      refine Br.yes (by simp; omega) ?_
      refine D.step (by omega) (cellsAB (c := 98) (by omega)) rfl fun ys H'' D' => ?_
      rw [show w64 ((k : Int) + 1) = ((k + 1 : Nat) : Int) from by rw [w64_id (by omega) (by omega)]; omega]
      exact ih (k + 1) H7 H'' y ys (by omega) m7 R D'
  have loop1 : ∀ (d k : Nat) (H3 : Hp) (y : Sl), k + d = a0 + 1 → Md H H3 y fA k → tephralaw08_DeltaFull.l1 J0 (many.toNat : Int) (more.toNat : Int) H3 (k : Int) y (trueQ H) := by
    intro d
    induction d with
    | zero =>
      intro k H3 y hk D
      have hk : k = a0 + 1 := by omega
      subst hk
      apply tephralaw08_DeltaFull.l1.step; unfold tephralaw08_DeltaFull.l1.body
      rw [eA]
      refine Br.no (by simp) fun H7 h7 => ?_
      obtain ⟨m7, _⟩ := hole_facts h7
      exact loop2 b0 0 H7 H7 y ⟨none, 0, 0⟩ (by omega) (D.2.2.trans m7) ((Own.rows D.1).keep m7 fun _ _ e => e) (Md.nil (Mod.refl _ _))
    | succ d ih =>
      intro k H3 y hk D
      apply tephralaw08_DeltaFull.l1.step; unfold tephralaw08_DeltaFull.l1.body
      rw [eA]
      refine Br.yes (by simp; omega) ?_
      refine D.step (by omega) (cellsAB (c := 97) (by omega)) rfl fun ys H'' D' => ?_
      rw [show w64 ((k : Int) + 1) = ((k + 1 : Nat) : Int) from by rw [w64_id (by omega) (by omega)]; omega]
      exact ih (k + 1) H'' ys (by omega) D'
  exact loop1 (a0 + 1) 0 H2 ⟨none, 0, 0⟩ (by omega) (Md.nil m12)
end
end Go.Proofs
