/- LAYER 09: a state's file. -/
import Derived.Test.YtpdondaekinmdaaKbx17
import Derived.Test.YtpdondaekinmdaaKub4
import Derived.Test.YtpdondaekinmdaaKx4
set_option linter.all false
set_option linter.constructorNameAsVariable false
namespace Go.Proofs
open Go Go.KC
theorem bxor8_nat {a b : Nat} (ha : a < 2 ^ 8) (hb : b < 2 ^ 8) : bxor .u8 (a : Int) (b : Int) = ((a ^^^ b : Nat) : Int) := by
  have hab : a ^^^ b < 2 ^ 8 := Nat.xor_lt_two_pow ha hb
  have h1 : (BitVec.ofInt 8 (a : Int)).toNat = a := by rw [BitVec.toNat_ofInt]; omega
  have h2 : (BitVec.ofInt 8 (b : Int)).toNat = b := by rw [BitVec.toNat_ofInt]; omega
  show IntKind.u8.wrap ((BitVec.ofInt 8 (a : Int) ^^^ BitVec.ofInt 8 (b : Int)).toNat : Int) = _
  rw [BitVec.toNat_xor, h1, h2, wrapu8]
  omega

theorem Stt.Ok.right {st : Stt} (ok : st.Ok) : RightM st.index st.term st.pairs st.sess := by
  have lk : st.pairs.length = st.kv.length := List.length_map _
  have ls : st.sess.length = st.ss.length := List.length_map _
  refine ⟨fun p hp => ?_, ok.i0.1, ok.i0.2, ok.t0.1, ok.t0.2, fun i hi _ => ⟨?_, fun h0 => ?_⟩, fun i hi _ => ⟨?_, fun h0 => ?_⟩, ?_⟩
  · obtain ⟨q, _, rfl⟩ := List.mem_map.1 hp; rfl
  · have := ok.kb _ (List.getElem_mem (show i < st.kv.length by omega))
    have e : st.pairs[i] = ⟨(st.kv[i]'(by omega)).1, (st.kv[i]'(by omega)).2, false⟩ := List.getElem_map _
    rw [e]; exact ⟨this.1, this.2.1, this.2.2, fun h => by cases h⟩
  · have e : st.pairs[i] = ⟨(st.kv[i]'(by omega)).1, (st.kv[i]'(by omega)).2, false⟩ := List.getElem_map _
    have e' : st.pairs[i - 1] = ⟨(st.kv[i - 1]'(by omega)).1, (st.kv[i - 1]'(by omega)).2, false⟩ := List.getElem_map _
    rw [e, e']; exact ok.rk (i - 1) i (by omega) (by omega) (by omega)
  · have := ok.sb _ (List.getElem_mem (show i < st.ss.length by omega))
    have e : st.sess[i] = (st.ss[i]'(by omega)).2 := List.getElem_map _
    rw [e]; obtain ⟨a1, a2, a3, a4, a5, a6, a7, a8⟩ := this; exact ⟨by omega, by omega, a4, a5, a6, a7, a8⟩
  · have e : st.sess[i] = (st.ss[i]'(by omega)).2 := List.getElem_map _
    have e' : st.sess[i - 1] = (st.ss[i - 1]'(by omega)).2 := List.getElem_map _
    have h1 := (ok.sb _ (List.getElem_mem (show i < st.ss.length by omega))).1
    have h2 := (ok.sb _ (List.getElem_mem (show i - 1 < st.ss.length by omega))).1
    have h3 : (st.ss[i - 1]'(by omega)).1 < (st.ss[i]'(by omega)).1 := ok.rs (i - 1) i (by omega) (by omega) (by omega)
    rw [e, e', h1, h2]; exact h3
  · rw [lk]; have := ok.kl; omega


theorem Stt.bytes_small {st : Stt} (ok : st.Ok) : (stB st.index st.term st.pairs st.sess).length ≤ 4000 := by
  have h := ok.right.len
  have h2 : st.sess.length = st.ss.length := List.length_map _
  have := ok.sl
  omega
theorem stt_small {st : Stt} (ok : st.Ok) : Small [hdB 0 st.index st.index, stB st.index st.term st.pairs st.sess] := fun y hy => by
  simp only [List.mem_cons, List.not_mem_nil, or_false] at hy
  rcases hy with rfl | rfl
  · rw [hdB_len]; omega
  · have := Stt.bytes_small ok; omega
/-- The bytes of a state's file. -/
def Stt.file (st : Stt) : List UInt8 := flatF [hdB 0 st.index st.index, stB st.index st.term st.pairs st.sess]
theorem Stt.file_eq (st : Stt) : st.file = frB (hdB 0 st.index st.index) ++ (frB (stB st.index st.term st.pairs st.sess) ++ []) := by simp [Stt.file, flatF]
theorem Stt.file_len (st : Stt) : st.file.length = 35 + (stB st.index st.term st.pairs st.sess).length := by
  rw [Stt.file_eq, List.append_nil, List.length_append, hd26, frB_len]; omega
theorem Stt.file_ok {st : Stt} (ok : st.Ok) : FlOK st.file st.index st.term st.pairs st.sess := ⟨ok.right, frames_flat (stt_small ok)⟩
end Go.Proofs
