/- LAYER 09: ImageFull. -/
import Derived.Test.YtpdondaekinmdaaKb15
import Derived.Test.YtpdondaekinmdaaKb13
import Derived.Test.YtpdondaekinmdaaKub4
import Derived.Test.YtpdondaekinmdaaKx4
set_option linter.all false
set_option linter.constructorNameAsVariable false
namespace Go.Proofs
open Go Go.KC

theorem Stt.Ok.right {st : Stt} (ok : st.Ok) : RightM st.index st.term st.pairs st.sess := by
  have lk : st.pairs.length = st.kv.length := List.length_map _
  have ls : st.sess.length = st.ss.length := List.length_map _
  refine ⟨fun p hp => ?_, ok.i0.1, ok.i0.2, ok.t0.1, ok.t0.2, fun i hi _ => ⟨?_, fun h0 => ?_⟩, fun i hi _ => ⟨?_, fun h0 => ?_⟩, ?_⟩
  · obtain ⟨q, _, rfl⟩ := List.mem_map.1 hp; rfl
  · have := ok.kb _ (List.getElem_mem (show i < st.kv.length by omega))
    have e : st.pairs[i] = ⟨(st.kv[i]'(by omega)).1, (st.kv[i]'(by omega)).2, false⟩ := List.getElem_map _
    rw [e]; exact ⟨this.1, this.2.1, this.2.2, fun h => by cases h⟩
  · have e : st.pairs[i] = ⟨(st.kv[i]'(by omega)).1, (st.kv[i]'(by omega)).2, false⟩ := List.getElem_map _
    have e' : st.pairs[i - 1] = ⟨(st.kv[i - 1]'(by omega)).1, (st.kv[i - 1]'(by omega)).2, false⟩ := List.getElem_map _
    rw [e, e']; exact ok.rk (i - 1) i (by omega) (by omega) (by omega)
  · have := ok.sb _ (List.getElem_mem (show i < st.ss.length by omega))
    have e : st.sess[i] = (st.ss[i]'(by omega)).2 := List.getElem_map _
    rw [e]; obtain ⟨a1, a2, a3, a4, a5, a6, a7, a8⟩ := this; exact ⟨by omega, by omega, a4, a5, a6, a7, a8⟩
  · have e : st.sess[i] = (st.ss[i]'(by omega)).2 := List.getElem_map _
    have e' : st.sess[i - 1] = (st.ss[i - 1]'(by omega)).2 := List.getElem_map _
    have h1 := (ok.sb _ (List.getElem_mem (show i < st.ss.length by omega))).1
    have h2 := (ok.sb _ (List.getElem_mem (show i - 1 < st.ss.length by omega))).1
    have h3 : (st.ss[i - 1]'(by omega)).1 < (st.ss[i]'(by omega)).1 := ok.rs (i - 1) i (by omega) (by omega) (by omega)
    rw [e, e', h1, h2]; exact h3
  · rw [lk]; have := ok.kl; omega


theorem Stt.bytes_small {st : Stt} (ok : st.Ok) : (stB st.index st.term st.pairs st.sess).length ≤ 4000 := by
  have h := ok.right.len
  have h2 : st.sess.length = st.ss.length := List.length_map _
  have := ok.sl
  omega
theorem stt_small {st : Stt} (ok : st.Ok) : Small [hdB 0 st.index st.index, stB st.index st.term st.pairs st.sess] := fun y hy => by
  simp only [List.mem_cons, List.not_mem_nil, or_false] at hy
  rcases hy with rfl | rfl
  · rw [hdB_len]; omega
  · have := Stt.bytes_small ok; omega
/-- The bytes of a state's file. -/
def Stt.file (st : Stt) : List UInt8 := flatF [hdB 0 st.index st.index, stB st.index st.term st.pairs st.sess]
theorem Stt.file_eq (st : Stt) : st.file = frB (hdB 0 st.index st.index) ++ (frB (stB st.index st.term st.pairs st.sess) ++ []) := by simp [Stt.file, flatF]
theorem Stt.file_len (st : Stt) : st.file.length = 35 + (stB st.index st.term st.pairs st.sess).length := by
  rw [Stt.file_eq, List.append_nil, List.length_append, hd26, frB_len]; omega
theorem Stt.file_ok {st : Stt} (ok : st.Ok) : FlOK st.file st.index st.term st.pairs st.sess := ⟨ok.right, frames_flat (stt_small ok)⟩
theorem FlOK.uniq {bs : List UInt8} {i t i' t' : Int} {ps ps' : List Pr} {xs xs' : List Se} (h : FlOK bs i t ps xs) (h' : FlOK bs i' t' ps' xs') : i = i' ∧ t = t' ∧ ps = ps' ∧ xs = xs' := by
  have hl := frames_le bs
  have e := h.2
  rw [h'.2] at hl e
  have e1 : stB i' t' ps' xs' = stB i t ps xs := (List.cons.inj (List.cons.inj (Prod.mk.inj e).1).2).1
  have hl' := hl (stB i' t' ps' xs') (by simp)
  have r1 := rdSt_right h'.1 hl'
  rw [e1] at r1 hl'
  rw [rdSt_right h.1 hl'] at r1
  injection r1 with a b c d
  exact ⟨a, b, c, d⟩
/-- A file of which a byte is other is none. -/
theorem file_turned {st : Stt} (ok : st.Ok) {k : Nat} {c : UInt8} (hk : 4 ≤ k ∧ k < 26 ∨ 30 ≤ k ∧ k < st.file.length) (hc : st.file[k]? ≠ some c) : ∀ i t ps xs, ¬ FlOK (st.file.set k c) i t ps xs := fun i t ps xs hp => by
  have hs := stt_small ok
  have hlen := Stt.file_len st
  have hf := hp.2
  have he := Stt.file_eq st
  rw [he] at hf hc
  rcases hk with ⟨h4, h26⟩ | ⟨h30, hl⟩
  · rw [List.set_append_left _ _ (by rw [hd26]; exact h26)] at hf
    rw [List.getElem?_append_left (by rw [hd26]; exact h26)] at hc
    have := frame_turned (r := frB (stB st.index st.term st.pairs st.sess) ++ []) (by rw [hdB_len]; omega) h4 (by rw [hd26]; exact h26) hc
    rw [frames_none this] at hf
    exact absurd (Prod.mk.inj hf).1 (by simp)
  · rw [List.set_append_right _ _ (by rw [hd26]; omega), hd26] at hf
    rw [List.getElem?_append_right (by rw [hd26]; omega), hd26] at hc
    have hfl := frB_len (stB st.index st.term st.pairs st.sess)
    rw [List.set_append_left _ _ (by omega)] at hf
    rw [List.getElem?_append_left (by omega)] at hc
    have := frame_turned (r := []) (by have := Stt.bytes_small ok; omega) (by omega) (by omega) hc
    rw [frames_step (by rw [hdB_len]; omega), frames_none this] at hf
    have := (List.cons.inj (Prod.mk.inj hf).1).2
    exact absurd this (by simp)

section
variable {H : Hp}
theorem Full_k2 {H17 : Hp} (m0 : Mod (fun _ => False) H H17) {st : Stt} (ok : st.Ok) {x : Sl} {e : TypeId} (o : Own H17 x e 1 (st.file.map bv)) (hb : ∀ q ∈ x.blk, H.size ≤ q) {by' : UInt8} {k : Nat} (hk : 4 ≤ k ∧ k < 26 ∨ 30 ≤ k ∧ k < st.file.length) {i1 i2 i3 i4 : Int} {p1 p2 p3 p4 : Sl} :
    tephralaw09_ImageFull.k2 J0 (by'.toNat : Int) i1 i2 p1 p2 x i3 i4 p3 p4 H17 (k : Int) (trueQ H) := by
  have hxl : st.file.length = x.len := by have := o.1; simpa using this
  have hlen := Stt.file_len st
  have hkl : k < st.file.length := by rcases hk with h | h <;> omega
  have hbs := Stt.bytes_small ok
  apply tephralaw09_ImageFull.k2.step
  unfold tephralaw09_ImageFull.k2.body
  obtain ⟨a, ha, hcell⟩ := (Own.rows o).at (j := k) (c := st.file[k]) (List.getElem?_eq_getElem hkl)
  generalize hc0 : st.file[k] = c0 at hcell
  have hc1 := c0.toNat_lt
  have hc2 := by'.toNat_lt
  obtain ⟨v, hvd⟩ : ∃ v : UInt8, v = c0 ^^^ by' := ⟨_, rfl⟩
  have hv : bxor .u8 (c0.toNat : Int) (by'.toNat : Int) = (v.toNat : Int) := by rw [bxor8_nat (by omega) (by omega), hvd, UInt8.toNat_xor]
  obtain ⟨a', ha', hw, hput, mput⟩ := own_put (new := [bv v]) o (show k < x.len by omega) rfl (by omega)
  rw [ha] at ha'
  cases ha'
  have hset : (st.file.map bv).take (k * 1) ++ [bv v] ++ (st.file.map bv).drop (k * 1 + 1) = (st.file.set k v).map bv := by
    rw [Nat.mul_one, ← List.map_take, ← List.map_drop, List.set_eq_take_append_cons_drop, if_pos hkl]
    simp
  rw [hset] at hput
  have e5 : Hp.setCells H17 (a.add (k * 1)) [bv v] 0 = Hp.setCell H17 (a.add (k * 1)) (.int .u8 (v.toNat : Int)) := by
    show Hp.setCell H17 ((a.add (k * 1)).add 0) _ = _
    rw [add_zero_of]; rfl
  rw [e5] at hput mput
  simp only [Int.toNat_natCast]
  refine ⟨⟨by omega, by omega⟩, vPtr.mk a ha ⟨_, by rw [Nat.mul_one]; exact hcell, ⟨by omega, by omega⟩, vPtr.mk a ha ⟨hw, fun H18 e18 => ?_⟩⟩⟩
  rw [hv] at e18
  rw [← e18] at hput mput
  clear e5 e18
  have m18 := m0.trans' mput fun q hq h => by have := hb q h; omega
  refine (ReadFull_spec (Own.rows hput) (by rw [List.length_set]; omega)).mono ?_
  rintro r H19 ⟨m19, hp⟩
  have told : ∃ (i t : Int) (p s : Sl) (g : Int), r = .tuple #[.agg #[.int .i64 i, .int .i64 t, .slice p.a p.len p.cap, .slice s.a s.len s.cap], .int .i64 g] ∧ (by' ≠ 0 → g = 10 ∧ i = 0 ∧ p.len = 0) := by
    rcases hp with ⟨i, t, ps, xs, p, s, hp, rfl, -⟩ | ⟨-, rfl⟩
    · refine ⟨i, t, p, s, 0, rfl, fun hby => absurd hp (file_turned ok hk (fun h => hby ?_) i t ps xs)⟩
      rw [List.getElem?_eq_getElem hkl, hc0, hvd] at h
      have h1 : c0.toNat = c0.toNat ^^^ by'.toNat := by
        have := congrArg UInt8.toNat (Option.some.inj h)
        rwa [UInt8.toNat_xor] at this
      have h2 := congrArg (fun z => c0.toNat ^^^ z) h1
      simp only [← Nat.xor_assoc, Nat.xor_self, Nat.zero_xor] at h2
      exact UInt8.toNat_inj.1 h2.symm
    · exact ⟨0, 0, ⟨none, 0, 0⟩, ⟨none, 0, 0⟩, 10, rfl, fun _ => ⟨rfl, rfl, rfl⟩⟩
  obtain ⟨i, t, p, s, g, rfl, hg⟩ := told
  refine ⟨_, _, _, _, _, rfl, fun H20 e20 => ?_⟩
  obtain ⟨m20, s20⟩ := hole_facts e20
  have fin : trueQ H (.bool true) H20 := ⟨rfl, (m18.trans m19).trans m20⟩
  refine Br.mk (fun h => ?_) fun h => ?_
  · apply tephralaw09_ImageFull.k3.step
    exact fin
  · have hby : by' ≠ 0 := fun e => by subst e; exact Bool.noConfusion h
    obtain ⟨rfl, rfl, hl⟩ := hg hby
    refine Br.yes rfl ?_
    apply tephralaw09_ImageFull.k4.step
    refine Br.yes rfl ?_
    rw [hl]
    exact fin
theorem Full_k1 {H17 : Hp} (m0 : Mod (fun _ => False) H H17) {st : Stt} (ok : st.Ok) {x : Sl} {e : TypeId} (o : Own H17 x e 1 (st.file.map bv)) (hb : ∀ q ∈ x.blk, H.size ≤ q) {by' : UInt8} {at' : UInt16} {i1 i2 i3 i4 : Int} {p1 p2 p3 p4 : Sl} :
    tephralaw09_ImageFull.k1 J0 (at'.toNat : Int) (by'.toNat : Int) i1 i2 p1 p2 x i3 i4 p3 p4 false H17 (trueQ H) := by
  have hxl : st.file.length = x.len := by have := o.1; simpa using this
  have hlen := Stt.file_len st
  have hat := at'.toNat_lt
  have hbs := Stt.bytes_small ok
  apply tephralaw09_ImageFull.k1.step
  unfold tephralaw09_ImageFull.k1.body
  rw [w64_id (x := (at'.toNat : Int)) (by omega) (by omega), w64_id (x := ((x.len : Nat) : Int) - 30) (by omega) (by omega)]
  have t22 : Int.tmod (at'.toNat : Int) 22 = ((at'.toNat % 22 : Nat) : Int) := by rw [Int.tmod_eq_emod_of_nonneg (by omega)]; omega
  have hm : at'.toNat % (x.len - 30) < x.len - 30 := Nat.mod_lt _ (by omega)
  have tl : Int.tmod (at'.toNat : Int) (((x.len : Nat) : Int) - 30) = ((at'.toNat % (x.len - 30) : Nat) : Int) := by
    rw [Int.tmod_eq_emod_of_nonneg (by omega), Int.natCast_emod, Int.natCast_sub (by omega)]; rfl
  rw [t22, tl]
  refine Br.no rfl ⟨by omega, by omega, Br.mk (fun _ => ⟨by omega, ?_⟩) fun _ => ?_⟩
  · have e : w64 ((30 : Int) + ((at'.toNat % (x.len - 30) : Nat) : Int)) = ((30 + at'.toNat % (x.len - 30) : Nat) : Int) := by rw [w64_id (by omega) (by omega)]; rfl
    rw [e]
    exact Full_k2 m0 ok o hb (Or.inr ⟨by omega, by omega⟩)
  · have e : w64 ((4 : Int) + ((at'.toNat % 22 : Nat) : Int)) = ((4 + at'.toNat % 22 : Nat) : Int) := by rw [w64_id (by omega) (by omega)]; rfl
    rw [e]
    exact Full_k2 m0 ok o hb (Or.inl ⟨by omega, by omega⟩)
end
end Go.Proofs
