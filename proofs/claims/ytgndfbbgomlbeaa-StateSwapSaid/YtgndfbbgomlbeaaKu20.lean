/- STATES: StateSwap, the walk. -/
import Derived.Test.YtgndfbbgomlbeaaKu19
set_option linter.all false
set_option linter.constructorNameAsVariable false
namespace Go.Proofs
open Go Go.KC
section
variable {H : Hp}
theorem sw_num (c : UInt8) (n : Nat) (hn : 0 < n) (h2 : n ≤ 100) : Int.tmod (c.toNat : Int) (n : Int) = ((c.toNat % n : Nat) : Int) ∧ IntKind.u8.wrap (((c.toNat % n : Nat) : Int) + 1) = ((c.toNat % n + 1 : Nat) : Int) ∧ c.toNat % n < n := by
  have h := Nat.mod_lt c.toNat hn
  exact ⟨tmodN c n, by rw [wrapu8]; omega, h⟩
theorem ext_le (b : ByteArray) (i j : Nat) : (b.extract i j).size ≤ b.size := by rw [ByteArray.size_extract]; omega
theorem letters_eq : ByteArray.mk #[97, 98, 99, 100, 101, 102, 103, 104] = letters := rfl
theorem digits_eq : ByteArray.mk #[48, 49, 50, 51, 52, 53, 54, 55, 56, 57] = digits := rfl
theorem letters_size : letters.size = 8 := rfl
theorem digits_size : digits.size = 10 := rfl
theorem one_size (c : UInt8) : (ByteArray.mk #[c]).size = 1 := rfl

theorem StateSwap_spec {says : Sl} {ss : List Sy} {key v w : UInt8} (hr : Rows H says 6 (ss.map Sy.cells).flatten) (hl : ss.length = says.len) :
    SCalls Try.prog tephralaw07_StateSwap.id [.slice says.a says.len says.cap, .int .u8 (key.toNat : Int), .int .u8 (v.toNat : Int), .int .u8 (w.toNat : Int)] H (trueQ H) := by
  apply tephralaw07_StateSwap.calls
  unfold tephralaw07_StateSwap.vc
  obtain ⟨ek, wk, hk⟩ := sw_num key 8 (by omega) (by omega)
  obtain ⟨ev, wv, hv⟩ := sw_num v 10 (by omega) (by omega)
  obtain ⟨ew, ww, hw⟩ := sw_num w 10 (by omega) (by omega)
  simp only [show ((8 : Nat) : Int) = 8 from rfl, show ((10 : Nat) : Int) = 10 from rfl] at ek ev ew
  have lk := fun i j => ext_le letters i j
  have lv := fun i j => ext_le digits i j
  rw [letters_size] at lk
  rw [digits_size] at lv
  refine bool_step (H0 := H) awake07_spec (Mod.refl _ _) fun H1 m1 => Br.no rfl ?_
  refine some_step (hr.keep m1 fun _ _ e => e) hl fun p s H2 sr m2 => ?_
  have hindex := someM_index ss
  have hseq := someM_seq39 ss
  have hk8 := someM_k8 ss
  have ok := someM_ok ss
  generalize someM ss = st at sr hindex hseq hk8 ok
  intro H3 e3
  obtain ⟨m3, _⟩ := hole_facts e3
  have m03 := m1.trans (m2.trans m3)
  have sr3 := sr.mod m3
  simp only [ek, ev, wk, wv, letters_eq, digits_eq, Int.toNat_natCast, one_size, letters_size, digits_size]
  generalize hK : key.toNat % 8 = K at *
  generalize hV : v.toNat % 10 = V at *
  generalize hW : w.toNat % 10 = W at *
  obtain ⟨st1, o1, e1⟩ : ∃ st1 o1, applyM st ⟨w64 (st.index + 1), st.term, sw1 K V⟩ = (st1, o1) := ⟨_, _, rfl⟩
  obtain ⟨st2, o2, e2⟩ : ∃ st2 o2, applyM st1 ⟨w64 (st1.index + 1), st1.term, sw2 K W⟩ = (st2, o2) := ⟨_, _, rfl⟩
  obtain ⟨ok1, ok2, law⟩ := swap_law ok hindex hseq hk8 hk hv hw e1 e2
  have l1 := lk K (K + 1)
  have l2 := lv V (V + 1)
  have l3 := lv W (W + 1)
  -- the end
  have get : ∀ (H5 : Hp) (p s : Sl), SR H5 p s st2 → Mod (fun _ => False) H H5 → ∀ x : ByteArray, valL st2.kv (k8 K) = some x → SCalls Try.prog state_Get.id [stV st2 p s, .string (k8 K)] H5 (fun r12 H36 => ∃ Err10 : Int, ∃ Valuev10 : ByteArray, r12 = .agg #[.int .i64 Err10, .string Valuev10] ∧ trueQ H (.bool (Valuev10.toList == x.toList)) H36) := by
    intro H5 p s sr m x hx
    refine (Get_spec (key := k8 K) sr (by have := ok2.kl; omega) ok2.rk).mono ?_
    rintro r H6 ⟨rfl, m6⟩
    rw [hx]
    exact ⟨_, _, rfl, by rw [beq_self_eq_true], m.trans m6⟩
  have fin : ∀ (H5 : Hp) (p s : Sl), SR H5 p s st2 → Mod (fun _ => False) H H5 →
      Br (((V : Nat) : Int) == ((W : Nat) : Int))
        (Br ((o2.err == (0 : Int)) && ((o2.value == xd V) && true)) (SCalls Try.prog state_Get.id [stV st2 p s, .string (k8 K)] H5 (fun r12 H36 => ∃ Err10 : Int, ∃ Valuev10 : ByteArray, r12 = .agg #[.int .i64 Err10, .string Valuev10] ∧ trueQ H (.bool (Valuev10.toList == newB.toList)) H36)) (trueQ H (.bool false) H5))
        (Br ((o2.err == (11 : Int)) && ((o2.value == xd V) && true)) (SCalls Try.prog state_Get.id [stV st2 p s, .string (k8 K)] H5 (fun r12 H36 => ∃ Err10 : Int, ∃ Valuev10 : ByteArray, r12 = .agg #[.int .i64 Err10, .string Valuev10] ∧ trueQ H (.bool (Valuev10.toList == (xd V).toList)) H36)) (trueQ H (.bool false) H5)) := by
    intro H5 p s sr m
    by_cases hVW : V = W
    · rw [if_pos hVW] at law
      exact Br.yes (by simp [hVW]) (Br.yes (by rw [law.1]; simp [beq_ba]) (get H5 p s sr m _ law.2))
    · rw [if_neg hVW] at law
      exact Br.no (by simp; omega) (Br.yes (by rw [law.1]; simp [beq_ba]) (get H5 p s sr m _ law.2))
  have K2 : ∀ (H5 : Hp) (p s p' s' p'' s'' : Sl), SR H5 p'' s'' st2 → Mod (fun _ => False) H H5 →
      tephralaw07_StateSwap.k2 J0 (key.toNat : Int) (v.toNat : Int) (w.toNat : Int) st.index st.term p s st1.index st1.term p' s' o1.err o1.value st2.index st2.term p'' s'' o2.err o2.value H5 (trueQ H) := by
    intro H5 p s p' s' p'' s'' sr m
    apply tephralaw07_StateSwap.k2.step; unfold tephralaw07_StateSwap.k2.body
    simp only [ek, ev, ew, wk, wv, hK, hV, hW, letters_eq, digits_eq, Int.toNat_natCast, one_size, letters_size, digits_size]
    exact ⟨by omega, by omega, ⟨by omega, by omega⟩, ⟨by omega, by omega⟩, by omega, by omega, by omega, fin H5 p'' s'' sr m⟩
  have K3 : ∀ (H5 : Hp) (p s p' s' p'' s'' : Sl), SR H5 p'' s'' st2 → Mod (fun _ => False) H H5 →
      tephralaw07_StateSwap.k3 J0 (key.toNat : Int) (v.toNat : Int) (w.toNat : Int) st.index st.term p s st1.index st1.term p' s' o1.err o1.value o2.err o2.value st2.index st2.term p'' s'' H5 (trueQ H) := by
    intro H5 p s p' s' p'' s'' sr m
    apply tephralaw07_StateSwap.k3.step; unfold tephralaw07_StateSwap.k3.body
    simp only [ek, ev, ew, wk, wv, hK, hV, hW, letters_eq, digits_eq, Int.toNat_natCast, one_size, letters_size, digits_size]
    exact ⟨by omega, by omega, ⟨by omega, by omega⟩, ⟨by omega, by omega⟩, by omega, by omega, by omega, fin H5 p'' s'' sr m⟩
  have K5 : ∀ (H5 : Hp) (p s p' s' p'' s'' : Sl), SR H5 p'' s'' st2 → Mod (fun _ => False) H H5 →
      tephralaw07_StateSwap.k5 J0 (key.toNat : Int) (v.toNat : Int) (w.toNat : Int) st.index st.term p s o1.err o1.value st1.index st1.term p' s' st2.index st2.term p'' s'' o2.err o2.value H5 (trueQ H) := by
    intro H5 p s p' s' p'' s'' sr m
    apply tephralaw07_StateSwap.k5.step; unfold tephralaw07_StateSwap.k5.body
    simp only [ek, ev, ew, wk, wv, hK, hV, hW, letters_eq, digits_eq, Int.toNat_natCast, one_size, letters_size, digits_size]
    exact ⟨by omega, by omega, ⟨by omega, by omega⟩, ⟨by omega, by omega⟩, by omega, by omega, by omega, fin H5 p'' s'' sr m⟩
  have K6 : ∀ (H5 : Hp) (p s p' s' p'' s'' : Sl), SR H5 p'' s'' st2 → Mod (fun _ => False) H H5 →
      tephralaw07_StateSwap.k6 J0 (key.toNat : Int) (v.toNat : Int) (w.toNat : Int) st.index st.term p s o1.err o1.value st1.index st1.term p' s' o2.err o2.value st2.index st2.term p'' s'' H5 (trueQ H) := by
    intro H5 p s p' s' p'' s'' sr m
    apply tephralaw07_StateSwap.k6.step; unfold tephralaw07_StateSwap.k6.body
    simp only [ek, ev, ew, wk, wv, hK, hV, hW, letters_eq, digits_eq, Int.toNat_natCast, one_size, letters_size, digits_size]
    exact ⟨by omega, by omega, ⟨by omega, by omega⟩, ⟨by omega, by omega⟩, by omega, by omega, by omega, fin H5 p'' s'' sr m⟩
  have step2 : ∀ {H5 : Hp} {p' s' : Sl} {Kk : Int → Int → Sl → Sl → Int → ByteArray → Hp → Prop}, SR H5 p' s' st1 → (∀ p'' s'' H', SR H' p'' s'' st2 → Mod (fun _ => False) H5 H' → Kk st2.index st2.term p'' s'' o2.err o2.value H') →
      SCalls Try.prog state_Apply.id [stV st1 p' s', .agg #[.int .i64 (w64 (st1.index + 1)), .int .i64 st1.term, .int .i64 3, .int .i64 1, .int .i64 501, .string (k8 K), .string newB, .string (xd W)]] H5 (fun r H1 => ∃ Index : Int, ∃ Term : Int, ∃ Pairs : Sl, ∃ Sessions : Sl, ∃ Err : Int, ∃ Valuev : ByteArray, r = .tuple #[.agg #[.int .i64 Index, .int .i64 Term, .slice Pairs.a Pairs.len Pairs.cap, .slice Sessions.a Sessions.len Sessions.cap], .agg #[.int .i64 Err, .string Valuev]] ∧ Kk Index Term Pairs Sessions Err Valuev H1) := by
    intro H5 p' s' Kk sr hK
    refine apply_step (e := ⟨w64 (st1.index + 1), st1.term, sw2 K W⟩) sr ok1 fun p'' s'' H' sr' m' => ?_
    rw [e2] at sr' ⊢
    exact hK p'' s'' H' sr' m'
  have step1 : ∀ {H5 : Hp} {Kk : Int → Int → Sl → Sl → Int → ByteArray → Hp → Prop}, Mod (fun _ => False) H3 H5 → (∀ p'' s'' H', SR H' p'' s'' st1 → Mod (fun _ => False) H5 H' → Kk st1.index st1.term p'' s'' o1.err o1.value H') →
      SCalls Try.prog state_Apply.id [stV st p s, .agg #[.int .i64 (w64 (st.index + 1)), .int .i64 st.term, .int .i64 1, .int .i64 1, .int .i64 500, .string (k8 K), .string (xd V), .string noText]] H5 (fun r H1 => ∃ Index : Int, ∃ Term : Int, ∃ Pairs : Sl, ∃ Sessions : Sl, ∃ Err : Int, ∃ Valuev : ByteArray, r = .tuple #[.agg #[.int .i64 Index, .int .i64 Term, .slice Pairs.a Pairs.len Pairs.cap, .slice Sessions.a Sessions.len Sessions.cap], .agg #[.int .i64 Err, .string Valuev]] ∧ Kk Index Term Pairs Sessions Err Valuev H1) := by
    intro H5 Kk m hK
    refine apply_step (e := ⟨w64 (st.index + 1), st.term, sw1 K V⟩) (sr3.mod m) ok fun p'' s'' H' sr' m' => ?_
    rw [e1] at sr' ⊢
    exact hK p'' s'' H' sr' m'
  have K1 : ∀ (H19 : Hp) (p' s' : Sl), SR H19 p' s' st1 → Mod (fun _ => False) H H19 → tephralaw07_StateSwap.k1 J0 (key.toNat : Int) (v.toNat : Int) (w.toNat : Int) st.index st.term p s st1.index st1.term p' s' o1.err o1.value H19 (trueQ H) := by
    intro H19 p' s' sr m
    apply tephralaw07_StateSwap.k1.step; unfold tephralaw07_StateSwap.k1.body
    simp only [ek, ev, ew, wk, wv, ww, hK, hV, hW, letters_eq, digits_eq, Int.toNat_natCast, one_size, letters_size, digits_size]
    refine ⟨by omega, by omega, ⟨by omega, by omega⟩, ⟨by omega, by omega⟩, by omega, ?_, fun H25 e25 => ⟨?_, fun H28 e28 => ?_⟩, fun H30 e30 => ⟨?_, fun H33 e33 => ?_⟩⟩
    · refine step2 sr fun p'' s'' H' sr' m' => ⟨fun Ha ea Hb eb => ?_, fun Ha ea Hb eb => ?_⟩
      · obtain ⟨ma, _⟩ := hole_facts ea
        obtain ⟨mb, _⟩ := hole_facts eb
        exact K2 Hb p s p' s' p'' s'' ((sr'.mod ma).mod mb) (m.trans (m'.trans (ma.trans mb)))
      · obtain ⟨ma, _⟩ := hole_facts ea
        obtain ⟨mb, _⟩ := hole_facts eb
        exact K3 Hb p s p' s' p'' s'' ((sr'.mod ma).mod mb) (m.trans (m'.trans (ma.trans mb)))
    · obtain ⟨mc, _⟩ := hole_facts e25
      refine step2 (sr.mod mc) fun p'' s'' H' sr' m' => fun Ha ea => ?_
      obtain ⟨ma, _⟩ := hole_facts ea
      exact K2 Ha p s p' s' p'' s'' (sr'.mod ma) (m.trans (mc.trans (m'.trans ma)))
    · obtain ⟨mc, _⟩ := hole_facts e25
      obtain ⟨md, _⟩ := hole_facts e28
      refine step2 ((sr.mod mc).mod md) fun p'' s'' H' sr' m' => ?_
      exact K2 H' p s p' s' p'' s'' sr' (m.trans (mc.trans (md.trans m')))
    · obtain ⟨mc, _⟩ := hole_facts e30
      refine step2 (sr.mod mc) fun p'' s'' H' sr' m' => fun Ha ea => ?_
      obtain ⟨ma, _⟩ := hole_facts ea
      exact K3 Ha p s p' s' p'' s'' (sr'.mod ma) (m.trans (mc.trans (m'.trans ma)))
    · obtain ⟨mc, _⟩ := hole_facts e30
      obtain ⟨md, _⟩ := hole_facts e33
      refine step2 ((sr.mod mc).mod md) fun p'' s'' H' sr' m' => ?_
      exact K3 H' p s p' s' p'' s'' sr' (m.trans (mc.trans (md.trans m')))
  have K4 : ∀ (H19 : Hp) (p' s' : Sl), SR H19 p' s' st1 → Mod (fun _ => False) H H19 → tephralaw07_StateSwap.k4 J0 (key.toNat : Int) (v.toNat : Int) (w.toNat : Int) st.index st.term p s o1.err o1.value st1.index st1.term p' s' H19 (trueQ H) := by
    intro H19 p' s' sr m
    apply tephralaw07_StateSwap.k4.step; unfold tephralaw07_StateSwap.k4.body
    simp only [ek, ev, ew, wk, wv, ww, hK, hV, hW, letters_eq, digits_eq, Int.toNat_natCast, one_size, letters_size, digits_size]
    refine ⟨by omega, by omega, ⟨by omega, by omega⟩, ⟨by omega, by omega⟩, by omega, ?_, fun H25 e25 => ⟨?_, fun H28 e28 => ?_⟩, fun H30 e30 => ⟨?_, fun H33 e33 => ?_⟩⟩
    · refine step2 sr fun p'' s'' H' sr' m' => ⟨fun Ha ea Hb eb => ?_, fun Ha ea Hb eb => ?_⟩
      · obtain ⟨ma, _⟩ := hole_facts ea
        obtain ⟨mb, _⟩ := hole_facts eb
        exact K5 Hb p s p' s' p'' s'' ((sr'.mod ma).mod mb) (m.trans (m'.trans (ma.trans mb)))
      · obtain ⟨ma, _⟩ := hole_facts ea
        obtain ⟨mb, _⟩ := hole_facts eb
        exact K6 Hb p s p' s' p'' s'' ((sr'.mod ma).mod mb) (m.trans (m'.trans (ma.trans mb)))
    · obtain ⟨mc, _⟩ := hole_facts e25
      refine step2 (sr.mod mc) fun p'' s'' H' sr' m' => fun Ha ea => ?_
      obtain ⟨ma, _⟩ := hole_facts ea
      exact K5 Ha p s p' s' p'' s'' (sr'.mod ma) (m.trans (mc.trans (m'.trans ma)))
    · obtain ⟨mc, _⟩ := hole_facts e25
      obtain ⟨md, _⟩ := hole_facts e28
      refine step2 ((sr.mod mc).mod md) fun p'' s'' H' sr' m' => ?_
      exact K5 H' p s p' s' p'' s'' sr' (m.trans (mc.trans (md.trans m')))
    · obtain ⟨mc, _⟩ := hole_facts e30
      refine step2 (sr.mod mc) fun p'' s'' H' sr' m' => fun Ha ea => ?_
      obtain ⟨ma, _⟩ := hole_facts ea
      exact K6 Ha p s p' s' p'' s'' (sr'.mod ma) (m.trans (mc.trans (m'.trans ma)))
    · obtain ⟨mc, _⟩ := hole_facts e30
      obtain ⟨md, _⟩ := hole_facts e33
      refine step2 ((sr.mod mc).mod md) fun p'' s'' H' sr' m' => ?_
      exact K6 H' p s p' s' p'' s'' sr' (m.trans (mc.trans (md.trans m')))
  refine ⟨by omega, by omega, ⟨by omega, by omega⟩, ⟨by omega, by omega⟩, by omega, by omega, by omega, ⟨by omega, by omega⟩, ⟨by omega, by omega⟩, by omega, ?_, fun H9 e9 => ⟨?_, fun H12 e12 => ?_⟩, fun H14 e14 => ⟨?_, fun H17 e17 => ?_⟩⟩
  · refine step1 (Mod.refl _ _) fun p'' s'' H' sr' m' => ⟨fun Ha ea Hb eb => ?_, fun Ha ea Hb eb => ?_⟩
    · obtain ⟨ma, _⟩ := hole_facts ea
      obtain ⟨mb, _⟩ := hole_facts eb
      exact K1 Hb p'' s'' ((sr'.mod ma).mod mb) (m03.trans (m'.trans (ma.trans mb)))
    · obtain ⟨ma, _⟩ := hole_facts ea
      obtain ⟨mb, _⟩ := hole_facts eb
      exact K4 Hb p'' s'' ((sr'.mod ma).mod mb) (m03.trans (m'.trans (ma.trans mb)))
  · obtain ⟨mc, _⟩ := hole_facts e9
    refine step1 mc fun p'' s'' H' sr' m' => fun Ha ea => ?_
    obtain ⟨ma, _⟩ := hole_facts ea
    exact K1 Ha p'' s'' (sr'.mod ma) (m03.trans (mc.trans (m'.trans ma)))
  · obtain ⟨mc, _⟩ := hole_facts e9
    obtain ⟨md, _⟩ := hole_facts e12
    refine step1 (mc.trans md) fun p'' s'' H' sr' m' => ?_
    exact K1 H' p'' s'' sr' (m03.trans (mc.trans (md.trans m')))
  · obtain ⟨mc, _⟩ := hole_facts e14
    refine step1 mc fun p'' s'' H' sr' m' => fun Ha ea => ?_
    obtain ⟨ma, _⟩ := hole_facts ea
    exact K4 Ha p'' s'' (sr'.mod ma) (m03.trans (mc.trans (m'.trans ma)))
  · obtain ⟨mc, _⟩ := hole_facts e14
    obtain ⟨md, _⟩ := hole_facts e17
    refine step1 (mc.trans md) fun p'' s'' H' sr' m' => ?_
    exact K4 H' p'' s'' sr' (m03.trans (mc.trans (md.trans m')))
end
end Go.Proofs
