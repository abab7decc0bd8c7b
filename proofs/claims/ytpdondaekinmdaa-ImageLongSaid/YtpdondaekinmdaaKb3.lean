/- LAYER 09: the sum of bytes: the walks of Of, Table.Sum, Sum. (Printed by tools/kb1.py.) -/
import Derived.Test.YtpdondaekinmdaaT09
import Derived.Test.YtpdondaekinmdaaKm4
import Derived.Test.YtpdondaekinmdaaKp6
set_option linter.all false
set_option linter.constructorNameAsVariable false
set_option maxRecDepth 100000
namespace Go.Proofs
open Go Go.KC

/-- One bit's step, and eight of them. -/
def st1 (poly n : Int) : Int := if (band .u32 n 1 == 1) = true then bxor .u32 (Int.fdiv n (2 ^ 1)) poly else Int.fdiv n (2 ^ 1)
def itr (poly : Int) : Nat → Int → Int
  | 0, n => n
  | j + 1, n => itr poly j (st1 poly n)
def ent (poly : Int) (k : Nat) : Int := itr poly 8 (IntKind.u32.wrap (k : Int))
def tabC (poly : Int) : List Value := (List.range 256).map fun k => .int .u32 (ent poly k)
/-- The table when k entries are laid. -/
def tabK (poly : Int) (k : Nat) : List Value := (List.range 256).map fun j => .int .u32 (if j < k then ent poly j else 0)
theorem tab_lit (poly : Int) : tabC poly = [.int .u32 (ent poly 0), .int .u32 (ent poly 1), .int .u32 (ent poly 2), .int .u32 (ent poly 3), .int .u32 (ent poly 4), .int .u32 (ent poly 5), .int .u32 (ent poly 6), .int .u32 (ent poly 7), .int .u32 (ent poly 8), .int .u32 (ent poly 9), .int .u32 (ent poly 10), .int .u32 (ent poly 11), .int .u32 (ent poly 12), .int .u32 (ent poly 13), .int .u32 (ent poly 14), .int .u32 (ent poly 15), .int .u32 (ent poly 16), .int .u32 (ent poly 17), .int .u32 (ent poly 18), .int .u32 (ent poly 19), .int .u32 (ent poly 20), .int .u32 (ent poly 21), .int .u32 (ent poly 22), .int .u32 (ent poly 23), .int .u32 (ent poly 24), .int .u32 (ent poly 25), .int .u32 (ent poly 26), .int .u32 (ent poly 27), .int .u32 (ent poly 28), .int .u32 (ent poly 29), .int .u32 (ent poly 30), .int .u32 (ent poly 31), .int .u32 (ent poly 32), .int .u32 (ent poly 33), .int .u32 (ent poly 34), .int .u32 (ent poly 35), .int .u32 (ent poly 36), .int .u32 (ent poly 37), .int .u32 (ent poly 38), .int .u32 (ent poly 39), .int .u32 (ent poly 40), .int .u32 (ent poly 41), .int .u32 (ent poly 42), .int .u32 (ent poly 43), .int .u32 (ent poly 44), .int .u32 (ent poly 45), .int .u32 (ent poly 46), .int .u32 (ent poly 47), .int .u32 (ent poly 48), .int .u32 (ent poly 49), .int .u32 (ent poly 50), .int .u32 (ent poly 51), .int .u32 (ent poly 52), .int .u32 (ent poly 53), .int .u32 (ent poly 54), .int .u32 (ent poly 55), .int .u32 (ent poly 56), .int .u32 (ent poly 57), .int .u32 (ent poly 58), .int .u32 (ent poly 59), .int .u32 (ent poly 60), .int .u32 (ent poly 61), .int .u32 (ent poly 62), .int .u32 (ent poly 63), .int .u32 (ent poly 64), .int .u32 (ent poly 65), .int .u32 (ent poly 66), .int .u32 (ent poly 67), .int .u32 (ent poly 68), .int .u32 (ent poly 69), .int .u32 (ent poly 70), .int .u32 (ent poly 71), .int .u32 (ent poly 72), .int .u32 (ent poly 73), .int .u32 (ent poly 74), .int .u32 (ent poly 75), .int .u32 (ent poly 76), .int .u32 (ent poly 77), .int .u32 (ent poly 78), .int .u32 (ent poly 79), .int .u32 (ent poly 80), .int .u32 (ent poly 81), .int .u32 (ent poly 82), .int .u32 (ent poly 83), .int .u32 (ent poly 84), .int .u32 (ent poly 85), .int .u32 (ent poly 86), .int .u32 (ent poly 87), .int .u32 (ent poly 88), .int .u32 (ent poly 89), .int .u32 (ent poly 90), .int .u32 (ent poly 91), .int .u32 (ent poly 92), .int .u32 (ent poly 93), .int .u32 (ent poly 94), .int .u32 (ent poly 95), .int .u32 (ent poly 96), .int .u32 (ent poly 97), .int .u32 (ent poly 98), .int .u32 (ent poly 99), .int .u32 (ent poly 100), .int .u32 (ent poly 101), .int .u32 (ent poly 102), .int .u32 (ent poly 103), .int .u32 (ent poly 104), .int .u32 (ent poly 105), .int .u32 (ent poly 106), .int .u32 (ent poly 107), .int .u32 (ent poly 108), .int .u32 (ent poly 109), .int .u32 (ent poly 110), .int .u32 (ent poly 111), .int .u32 (ent poly 112), .int .u32 (ent poly 113), .int .u32 (ent poly 114), .int .u32 (ent poly 115), .int .u32 (ent poly 116), .int .u32 (ent poly 117), .int .u32 (ent poly 118), .int .u32 (ent poly 119), .int .u32 (ent poly 120), .int .u32 (ent poly 121), .int .u32 (ent poly 122), .int .u32 (ent poly 123), .int .u32 (ent poly 124), .int .u32 (ent poly 125), .int .u32 (ent poly 126), .int .u32 (ent poly 127), .int .u32 (ent poly 128), .int .u32 (ent poly 129), .int .u32 (ent poly 130), .int .u32 (ent poly 131), .int .u32 (ent poly 132), .int .u32 (ent poly 133), .int .u32 (ent poly 134), .int .u32 (ent poly 135), .int .u32 (ent poly 136), .int .u32 (ent poly 137), .int .u32 (ent poly 138), .int .u32 (ent poly 139), .int .u32 (ent poly 140), .int .u32 (ent poly 141), .int .u32 (ent poly 142), .int .u32 (ent poly 143), .int .u32 (ent poly 144), .int .u32 (ent poly 145), .int .u32 (ent poly 146), .int .u32 (ent poly 147), .int .u32 (ent poly 148), .int .u32 (ent poly 149), .int .u32 (ent poly 150), .int .u32 (ent poly 151), .int .u32 (ent poly 152), .int .u32 (ent poly 153), .int .u32 (ent poly 154), .int .u32 (ent poly 155), .int .u32 (ent poly 156), .int .u32 (ent poly 157), .int .u32 (ent poly 158), .int .u32 (ent poly 159), .int .u32 (ent poly 160), .int .u32 (ent poly 161), .int .u32 (ent poly 162), .int .u32 (ent poly 163), .int .u32 (ent poly 164), .int .u32 (ent poly 165), .int .u32 (ent poly 166), .int .u32 (ent poly 167), .int .u32 (ent poly 168), .int .u32 (ent poly 169), .int .u32 (ent poly 170), .int .u32 (ent poly 171), .int .u32 (ent poly 172), .int .u32 (ent poly 173), .int .u32 (ent poly 174), .int .u32 (ent poly 175), .int .u32 (ent poly 176), .int .u32 (ent poly 177), .int .u32 (ent poly 178), .int .u32 (ent poly 179), .int .u32 (ent poly 180), .int .u32 (ent poly 181), .int .u32 (ent poly 182), .int .u32 (ent poly 183), .int .u32 (ent poly 184), .int .u32 (ent poly 185), .int .u32 (ent poly 186), .int .u32 (ent poly 187), .int .u32 (ent poly 188), .int .u32 (ent poly 189), .int .u32 (ent poly 190), .int .u32 (ent poly 191), .int .u32 (ent poly 192), .int .u32 (ent poly 193), .int .u32 (ent poly 194), .int .u32 (ent poly 195), .int .u32 (ent poly 196), .int .u32 (ent poly 197), .int .u32 (ent poly 198), .int .u32 (ent poly 199), .int .u32 (ent poly 200), .int .u32 (ent poly 201), .int .u32 (ent poly 202), .int .u32 (ent poly 203), .int .u32 (ent poly 204), .int .u32 (ent poly 205), .int .u32 (ent poly 206), .int .u32 (ent poly 207), .int .u32 (ent poly 208), .int .u32 (ent poly 209), .int .u32 (ent poly 210), .int .u32 (ent poly 211), .int .u32 (ent poly 212), .int .u32 (ent poly 213), .int .u32 (ent poly 214), .int .u32 (ent poly 215), .int .u32 (ent poly 216), .int .u32 (ent poly 217), .int .u32 (ent poly 218), .int .u32 (ent poly 219), .int .u32 (ent poly 220), .int .u32 (ent poly 221), .int .u32 (ent poly 222), .int .u32 (ent poly 223), .int .u32 (ent poly 224), .int .u32 (ent poly 225), .int .u32 (ent poly 226), .int .u32 (ent poly 227), .int .u32 (ent poly 228), .int .u32 (ent poly 229), .int .u32 (ent poly 230), .int .u32 (ent poly 231), .int .u32 (ent poly 232), .int .u32 (ent poly 233), .int .u32 (ent poly 234), .int .u32 (ent poly 235), .int .u32 (ent poly 236), .int .u32 (ent poly 237), .int .u32 (ent poly 238), .int .u32 (ent poly 239), .int .u32 (ent poly 240), .int .u32 (ent poly 241), .int .u32 (ent poly 242), .int .u32 (ent poly 243), .int .u32 (ent poly 244), .int .u32 (ent poly 245), .int .u32 (ent poly 246), .int .u32 (ent poly 247), .int .u32 (ent poly 248), .int .u32 (ent poly 249), .int .u32 (ent poly 250), .int .u32 (ent poly 251), .int .u32 (ent poly 252), .int .u32 (ent poly 253), .int .u32 (ent poly 254), .int .u32 (ent poly 255)] := by kernel_rfl
theorem tab_zero (poly : Int) : tabK poly 0 = [.int .u32 0, .int .u32 0, .int .u32 0, .int .u32 0, .int .u32 0, .int .u32 0, .int .u32 0, .int .u32 0, .int .u32 0, .int .u32 0, .int .u32 0, .int .u32 0, .int .u32 0, .int .u32 0, .int .u32 0, .int .u32 0, .int .u32 0, .int .u32 0, .int .u32 0, .int .u32 0, .int .u32 0, .int .u32 0, .int .u32 0, .int .u32 0, .int .u32 0, .int .u32 0, .int .u32 0, .int .u32 0, .int .u32 0, .int .u32 0, .int .u32 0, .int .u32 0, .int .u32 0, .int .u32 0, .int .u32 0, .int .u32 0, .int .u32 0, .int .u32 0, .int .u32 0, .int .u32 0, .int .u32 0, .int .u32 0, .int .u32 0, .int .u32 0, .int .u32 0, .int .u32 0, .int .u32 0, .int .u32 0, .int .u32 0, .int .u32 0, .int .u32 0, .int .u32 0, .int .u32 0, .int .u32 0, .int .u32 0, .int .u32 0, .int .u32 0, .int .u32 0, .int .u32 0, .int .u32 0, .int .u32 0, .int .u32 0, .int .u32 0, .int .u32 0, .int .u32 0, .int .u32 0, .int .u32 0, .int .u32 0, .int .u32 0, .int .u32 0, .int .u32 0, .int .u32 0, .int .u32 0, .int .u32 0, .int .u32 0, .int .u32 0, .int .u32 0, .int .u32 0, .int .u32 0, .int .u32 0, .int .u32 0, .int .u32 0, .int .u32 0, .int .u32 0, .int .u32 0, .int .u32 0, .int .u32 0, .int .u32 0, .int .u32 0, .int .u32 0, .int .u32 0, .int .u32 0, .int .u32 0, .int .u32 0, .int .u32 0, .int .u32 0, .int .u32 0, .int .u32 0, .int .u32 0, .int .u32 0, .int .u32 0, .int .u32 0, .int .u32 0, .int .u32 0, .int .u32 0, .int .u32 0, .int .u32 0, .int .u32 0, .int .u32 0, .int .u32 0, .int .u32 0, .int .u32 0, .int .u32 0, .int .u32 0, .int .u32 0, .int .u32 0, .int .u32 0, .int .u32 0, .int .u32 0, .int .u32 0, .int .u32 0, .int .u32 0, .int .u32 0, .int .u32 0, .int .u32 0, .int .u32 0, .int .u32 0, .int .u32 0, .int .u32 0, .int .u32 0, .int .u32 0, .int .u32 0, .int .u32 0, .int .u32 0, .int .u32 0, .int .u32 0, .int .u32 0, .int .u32 0, .int .u32 0, .int .u32 0, .int .u32 0, .int .u32 0, .int .u32 0, .int .u32 0, .int .u32 0, .int .u32 0, .int .u32 0, .int .u32 0, .int .u32 0, .int .u32 0, .int .u32 0, .int .u32 0, .int .u32 0, .int .u32 0, .int .u32 0, .int .u32 0, .int .u32 0, .int .u32 0, .int .u32 0, .int .u32 0, .int .u32 0, .int .u32 0, .int .u32 0, .int .u32 0, .int .u32 0, .int .u32 0, .int .u32 0, .int .u32 0, .int .u32 0, .int .u32 0, .int .u32 0, .int .u32 0, .int .u32 0, .int .u32 0, .int .u32 0, .int .u32 0, .int .u32 0, .int .u32 0, .int .u32 0, .int .u32 0, .int .u32 0, .int .u32 0, .int .u32 0, .int .u32 0, .int .u32 0, .int .u32 0, .int .u32 0, .int .u32 0, .int .u32 0, .int .u32 0, .int .u32 0, .int .u32 0, .int .u32 0, .int .u32 0, .int .u32 0, .int .u32 0, .int .u32 0, .int .u32 0, .int .u32 0, .int .u32 0, .int .u32 0, .int .u32 0, .int .u32 0, .int .u32 0, .int .u32 0, .int .u32 0, .int .u32 0, .int .u32 0, .int .u32 0, .int .u32 0, .int .u32 0, .int .u32 0, .int .u32 0, .int .u32 0, .int .u32 0, .int .u32 0, .int .u32 0, .int .u32 0, .int .u32 0, .int .u32 0, .int .u32 0, .int .u32 0, .int .u32 0, .int .u32 0, .int .u32 0, .int .u32 0, .int .u32 0, .int .u32 0, .int .u32 0, .int .u32 0, .int .u32 0, .int .u32 0, .int .u32 0, .int .u32 0, .int .u32 0, .int .u32 0, .int .u32 0, .int .u32 0, .int .u32 0, .int .u32 0, .int .u32 0, .int .u32 0, .int .u32 0, .int .u32 0, .int .u32 0, .int .u32 0, .int .u32 0, .int .u32 0, .int .u32 0, .int .u32 0, .int .u32 0, .int .u32 0, .int .u32 0, .int .u32 0, .int .u32 0, .int .u32 0] := by kernel_rfl
theorem tab_len (poly : Int) : (tabC poly).length = 256 := by unfold tabC; simp
theorem tabK_len (poly : Int) (k : Nat) : (tabK poly k).length = 256 := by unfold tabK; simp
theorem tab_full (poly : Int) : tabK poly 256 = tabC poly := by
  unfold tabK tabC
  refine List.map_congr_left fun j hj => ?_
  rw [if_pos (List.mem_range.1 hj)]
theorem tabC_get (poly : Int) {k : Nat} (hk : k < 256) : (tabC poly)[k]? = some (.int .u32 (ent poly k)) := by
  unfold tabC; rw [List.getElem?_map, List.getElem?_range hk]; rfl
theorem tabK_set (poly : Int) {k : Nat} (hk : k < 256) : (tabK poly k).toArray.setIfInBounds k (.int .u32 (ent poly k)) = (tabK poly (k + 1)).toArray := by
  apply Array.ext_getElem?
  intro j
  rw [Array.getElem?_setIfInBounds, List.getElem?_toArray, List.getElem?_toArray, List.size_toArray, tabK_len]
  unfold tabK
  rw [List.getElem?_map, List.getElem?_map]
  by_cases hj : j < 256
  · rw [List.getElem?_range hj]
    by_cases e : k = j
    · subst e; rw [if_pos rfl, if_pos hk]; simp
    · rw [if_neg e]
      have : (j < k + 1) = (j < k) := by rw [eq_iff_iff]; omega
      simp only [Option.map_some, this]
  · rw [if_neg (by omega), List.getElem?_eq_none (by simp; omega)]
    rfl
def crcStep (poly n : Int) (c : UInt8) : Int := bxor .u32 (ent poly (bxor .u8 (IntKind.u8.wrap n) (c.toNat : Int)).toNat) (Int.fdiv n (2 ^ 8))
def crcN (poly : Int) (xs : List UInt8) (n : Int) : Int := xs.foldl (crcStep poly) n
/-- The sum of bytes. -/
def crc (xs : List UInt8) : Int := bxor .u32 4294967295 (crcN 3988292384 xs 4294967295)
theorem bxor_u32 (a b : Int) : 0 ≤ bxor .u32 a b ∧ bxor .u32 a b < 4294967296 := by
  have h : ∀ x : Int, IntKind.u32.wrap x = x % 4294967296 := fun x => by
    unfold IntKind.wrap
    simp [IntKind.bits, IntKind.signed]
  unfold bxor
  rw [h]
  exact ⟨Int.emod_nonneg _ (by omega), Int.emod_lt_of_pos _ (by omega)⟩
theorem bxor_b (a b : Int) : 0 ≤ bxor .u8 a b ∧ bxor .u8 a b < 256 := by
  unfold bxor
  rw [wrapu8]
  exact ⟨Int.emod_nonneg _ (by omega), Int.emod_lt_of_pos _ (by omega)⟩
theorem crc_range (xs : List UInt8) : 0 ≤ crc xs ∧ crc xs < 4294967296 := bxor_u32 _ _

section
variable {H : Hp}
theorem chkOf_spec {poly : Int} : SCalls Try.prog check_Of.id [.int .u32 poly] H fun r H' => r = .agg (tabC poly).toArray ∧ Mod (fun _ => False) H H' := by
  apply check_Of.calls
  intro H1 h1
  obtain ⟨m1, s1⟩ := hole_facts h1
  rintro b rfl H2 h2
  obtain ⟨g2, m2, s2⟩ := push_facts h2
  have loop : ∀ (d k : Nat) (H3 : Hp), k + d = 256 → H3[H1.size]? = some (.cells (tabK poly k).toArray T_check_Table (0, 0)) → Mod (fun _ => False) H H3 →
      check_Of.l1 J0 poly H1.size H3 (k : Int) fun r H' => r = .agg (tabC poly).toArray ∧ Mod (fun _ => False) H H' := by
    intro d
    induction d with
    | zero =>
      intro k H3 hk hg m
      apply check_Of.l1.step; unfold check_Of.l1.body
      obtain rfl : k = 256 := by omega
      refine Br.no (by simp) ?_
      rw [tab_full] at hg
      have row : RowAt H3 (Addr.mk H1.size 0 none) (tabC poly) := fun j v hj => by
        rw [Addr.add_loc, cell_of hg, Nat.zero_add]
        simpa using hj
      rw [tab_lit] at row
      have fin : (Value.agg #[.int .u32 (ent poly 0), .int .u32 (ent poly 1), .int .u32 (ent poly 2), .int .u32 (ent poly 3), .int .u32 (ent poly 4), .int .u32 (ent poly 5), .int .u32 (ent poly 6), .int .u32 (ent poly 7), .int .u32 (ent poly 8), .int .u32 (ent poly 9), .int .u32 (ent poly 10), .int .u32 (ent poly 11), .int .u32 (ent poly 12), .int .u32 (ent poly 13), .int .u32 (ent poly 14), .int .u32 (ent poly 15), .int .u32 (ent poly 16), .int .u32 (ent poly 17), .int .u32 (ent poly 18), .int .u32 (ent poly 19), .int .u32 (ent poly 20), .int .u32 (ent poly 21), .int .u32 (ent poly 22), .int .u32 (ent poly 23), .int .u32 (ent poly 24), .int .u32 (ent poly 25), .int .u32 (ent poly 26), .int .u32 (ent poly 27), .int .u32 (ent poly 28), .int .u32 (ent poly 29), .int .u32 (ent poly 30), .int .u32 (ent poly 31), .int .u32 (ent poly 32), .int .u32 (ent poly 33), .int .u32 (ent poly 34), .int .u32 (ent poly 35), .int .u32 (ent poly 36), .int .u32 (ent poly 37), .int .u32 (ent poly 38), .int .u32 (ent poly 39), .int .u32 (ent poly 40), .int .u32 (ent poly 41), .int .u32 (ent poly 42), .int .u32 (ent poly 43), .int .u32 (ent poly 44), .int .u32 (ent poly 45), .int .u32 (ent poly 46), .int .u32 (ent poly 47), .int .u32 (ent poly 48), .int .u32 (ent poly 49), .int .u32 (ent poly 50), .int .u32 (ent poly 51), .int .u32 (ent poly 52), .int .u32 (ent poly 53), .int .u32 (ent poly 54), .int .u32 (ent poly 55), .int .u32 (ent poly 56), .int .u32 (ent poly 57), .int .u32 (ent poly 58), .int .u32 (ent poly 59), .int .u32 (ent poly 60), .int .u32 (ent poly 61), .int .u32 (ent poly 62), .int .u32 (ent poly 63), .int .u32 (ent poly 64), .int .u32 (ent poly 65), .int .u32 (ent poly 66), .int .u32 (ent poly 67), .int .u32 (ent poly 68), .int .u32 (ent poly 69), .int .u32 (ent poly 70), .int .u32 (ent poly 71), .int .u32 (ent poly 72), .int .u32 (ent poly 73), .int .u32 (ent poly 74), .int .u32 (ent poly 75), .int .u32 (ent poly 76), .int .u32 (ent poly 77), .int .u32 (ent poly 78), .int .u32 (ent poly 79), .int .u32 (ent poly 80), .int .u32 (ent poly 81), .int .u32 (ent poly 82), .int .u32 (ent poly 83), .int .u32 (ent poly 84), .int .u32 (ent poly 85), .int .u32 (ent poly 86), .int .u32 (ent poly 87), .int .u32 (ent poly 88), .int .u32 (ent poly 89), .int .u32 (ent poly 90), .int .u32 (ent poly 91), .int .u32 (ent poly 92), .int .u32 (ent poly 93), .int .u32 (ent poly 94), .int .u32 (ent poly 95), .int .u32 (ent poly 96), .int .u32 (ent poly 97), .int .u32 (ent poly 98), .int .u32 (ent poly 99), .int .u32 (ent poly 100), .int .u32 (ent poly 101), .int .u32 (ent poly 102), .int .u32 (ent poly 103), .int .u32 (ent poly 104), .int .u32 (ent poly 105), .int .u32 (ent poly 106), .int .u32 (ent poly 107), .int .u32 (ent poly 108), .int .u32 (ent poly 109), .int .u32 (ent poly 110), .int .u32 (ent poly 111), .int .u32 (ent poly 112), .int .u32 (ent poly 113), .int .u32 (ent poly 114), .int .u32 (ent poly 115), .int .u32 (ent poly 116), .int .u32 (ent poly 117), .int .u32 (ent poly 118), .int .u32 (ent poly 119), .int .u32 (ent poly 120), .int .u32 (ent poly 121), .int .u32 (ent poly 122), .int .u32 (ent poly 123), .int .u32 (ent poly 124), .int .u32 (ent poly 125), .int .u32 (ent poly 126), .int .u32 (ent poly 127), .int .u32 (ent poly 128), .int .u32 (ent poly 129), .int .u32 (ent poly 130), .int .u32 (ent poly 131), .int .u32 (ent poly 132), .int .u32 (ent poly 133), .int .u32 (ent poly 134), .int .u32 (ent poly 135), .int .u32 (ent poly 136), .int .u32 (ent poly 137), .int .u32 (ent poly 138), .int .u32 (ent poly 139), .int .u32 (ent poly 140), .int .u32 (ent poly 141), .int .u32 (ent poly 142), .int .u32 (ent poly 143), .int .u32 (ent poly 144), .int .u32 (ent poly 145), .int .u32 (ent poly 146), .int .u32 (ent poly 147), .int .u32 (ent poly 148), .int .u32 (ent poly 149), .int .u32 (ent poly 150), .int .u32 (ent poly 151), .int .u32 (ent poly 152), .int .u32 (ent poly 153), .int .u32 (ent poly 154), .int .u32 (ent poly 155), .int .u32 (ent poly 156), .int .u32 (ent poly 157), .int .u32 (ent poly 158), .int .u32 (ent poly 159), .int .u32 (ent poly 160), .int .u32 (ent poly 161), .int .u32 (ent poly 162), .int .u32 (ent poly 163), .int .u32 (ent poly 164), .int .u32 (ent poly 165), .int .u32 (ent poly 166), .int .u32 (ent poly 167), .int .u32 (ent poly 168), .int .u32 (ent poly 169), .int .u32 (ent poly 170), .int .u32 (ent poly 171), .int .u32 (ent poly 172), .int .u32 (ent poly 173), .int .u32 (ent poly 174), .int .u32 (ent poly 175), .int .u32 (ent poly 176), .int .u32 (ent poly 177), .int .u32 (ent poly 178), .int .u32 (ent poly 179), .int .u32 (ent poly 180), .int .u32 (ent poly 181), .int .u32 (ent poly 182), .int .u32 (ent poly 183), .int .u32 (ent poly 184), .int .u32 (ent poly 185), .int .u32 (ent poly 186), .int .u32 (ent poly 187), .int .u32 (ent poly 188), .int .u32 (ent poly 189), .int .u32 (ent poly 190), .int .u32 (ent poly 191), .int .u32 (ent poly 192), .int .u32 (ent poly 193), .int .u32 (ent poly 194), .int .u32 (ent poly 195), .int .u32 (ent poly 196), .int .u32 (ent poly 197), .int .u32 (ent poly 198), .int .u32 (ent poly 199), .int .u32 (ent poly 200), .int .u32 (ent poly 201), .int .u32 (ent poly 202), .int .u32 (ent poly 203), .int .u32 (ent poly 204), .int .u32 (ent poly 205), .int .u32 (ent poly 206), .int .u32 (ent poly 207), .int .u32 (ent poly 208), .int .u32 (ent poly 209), .int .u32 (ent poly 210), .int .u32 (ent poly 211), .int .u32 (ent poly 212), .int .u32 (ent poly 213), .int .u32 (ent poly 214), .int .u32 (ent poly 215), .int .u32 (ent poly 216), .int .u32 (ent poly 217), .int .u32 (ent poly 218), .int .u32 (ent poly 219), .int .u32 (ent poly 220), .int .u32 (ent poly 221), .int .u32 (ent poly 222), .int .u32 (ent poly 223), .int .u32 (ent poly 224), .int .u32 (ent poly 225), .int .u32 (ent poly 226), .int .u32 (ent poly 227), .int .u32 (ent poly 228), .int .u32 (ent poly 229), .int .u32 (ent poly 230), .int .u32 (ent poly 231), .int .u32 (ent poly 232), .int .u32 (ent poly 233), .int .u32 (ent poly 234), .int .u32 (ent poly 235), .int .u32 (ent poly 236), .int .u32 (ent poly 237), .int .u32 (ent poly 238), .int .u32 (ent poly 239), .int .u32 (ent poly 240), .int .u32 (ent poly 241), .int .u32 (ent poly 242), .int .u32 (ent poly 243), .int .u32 (ent poly 244), .int .u32 (ent poly 245), .int .u32 (ent poly 246), .int .u32 (ent poly 247), .int .u32 (ent poly 248), .int .u32 (ent poly 249), .int .u32 (ent poly 250), .int .u32 (ent poly 251), .int .u32 (ent poly 252), .int .u32 (ent poly 253), .int .u32 (ent poly 254), .int .u32 (ent poly 255)]) = .agg (tabC poly).toArray ∧ Mod (fun _ => False) H H3 := ⟨by rw [tab_lit], m⟩
      exact ⟨ent poly 0, ent poly 1, ent poly 2, ent poly 3, ent poly 4, ent poly 5, ent poly 6, ent poly 7, ent poly 8, ent poly 9, ent poly 10, ent poly 11, ent poly 12, ent poly 13, ent poly 14, ent poly 15, ent poly 16, ent poly 17, ent poly 18, ent poly 19, ent poly 20, ent poly 21, ent poly 22, ent poly 23, ent poly 24, ent poly 25, ent poly 26, ent poly 27, ent poly 28, ent poly 29, ent poly 30, ent poly 31, ent poly 32, ent poly 33, ent poly 34, ent poly 35, ent poly 36, ent poly 37, ent poly 38, ent poly 39, ent poly 40, ent poly 41, ent poly 42, ent poly 43, ent poly 44, ent poly 45, ent poly 46, ent poly 47, ent poly 48, ent poly 49, ent poly 50, ent poly 51, ent poly 52, ent poly 53, ent poly 54, ent poly 55, ent poly 56, ent poly 57, ent poly 58, ent poly 59, ent poly 60, ent poly 61, ent poly 62, ent poly 63, ent poly 64, ent poly 65, ent poly 66, ent poly 67, ent poly 68, ent poly 69, ent poly 70, ent poly 71, ent poly 72, ent poly 73, ent poly 74, ent poly 75, ent poly 76, ent poly 77, ent poly 78, ent poly 79, ent poly 80, ent poly 81, ent poly 82, ent poly 83, ent poly 84, ent poly 85, ent poly 86, ent poly 87, ent poly 88, ent poly 89, ent poly 90, ent poly 91, ent poly 92, ent poly 93, ent poly 94, ent poly 95, ent poly 96, ent poly 97, ent poly 98, ent poly 99, ent poly 100, ent poly 101, ent poly 102, ent poly 103, ent poly 104, ent poly 105, ent poly 106, ent poly 107, ent poly 108, ent poly 109, ent poly 110, ent poly 111, ent poly 112, ent poly 113, ent poly 114, ent poly 115, ent poly 116, ent poly 117, ent poly 118, ent poly 119, ent poly 120, ent poly 121, ent poly 122, ent poly 123, ent poly 124, ent poly 125, ent poly 126, ent poly 127, ent poly 128, ent poly 129, ent poly 130, ent poly 131, ent poly 132, ent poly 133, ent poly 134, ent poly 135, ent poly 136, ent poly 137, ent poly 138, ent poly 139, ent poly 140, ent poly 141, ent poly 142, ent poly 143, ent poly 144, ent poly 145, ent poly 146, ent poly 147, ent poly 148, ent poly 149, ent poly 150, ent poly 151, ent poly 152, ent poly 153, ent poly 154, ent poly 155, ent poly 156, ent poly 157, ent poly 158, ent poly 159, ent poly 160, ent poly 161, ent poly 162, ent poly 163, ent poly 164, ent poly 165, ent poly 166, ent poly 167, ent poly 168, ent poly 169, ent poly 170, ent poly 171, ent poly 172, ent poly 173, ent poly 174, ent poly 175, ent poly 176, ent poly 177, ent poly 178, ent poly 179, ent poly 180, ent poly 181, ent poly 182, ent poly 183, ent poly 184, ent poly 185, ent poly 186, ent poly 187, ent poly 188, ent poly 189, ent poly 190, ent poly 191, ent poly 192, ent poly 193, ent poly 194, ent poly 195, ent poly 196, ent poly 197, ent poly 198, ent poly 199, ent poly 200, ent poly 201, ent poly 202, ent poly 203, ent poly 204, ent poly 205, ent poly 206, ent poly 207, ent poly 208, ent poly 209, ent poly 210, ent poly 211, ent poly 212, ent poly 213, ent poly 214, ent poly 215, ent poly 216, ent poly 217, ent poly 218, ent poly 219, ent poly 220, ent poly 221, ent poly 222, ent poly 223, ent poly 224, ent poly 225, ent poly 226, ent poly 227, ent poly 228, ent poly 229, ent poly 230, ent poly 231, ent poly 232, ent poly 233, ent poly 234, ent poly 235, ent poly 236, ent poly 237, ent poly 238, ent poly 239, ent poly 240, ent poly 241, ent poly 242, ent poly 243, ent poly 244, ent poly 245, ent poly 246, ent poly 247, ent poly 248, ent poly 249, ent poly 250, ent poly 251, ent poly 252, ent poly 253, ent poly 254, ent poly 255, row, fin⟩
    | succ d ih =>
      intro k H3 hk hg m
      apply check_Of.l1.step; unfold check_Of.l1.body
      refine Br.yes (decide_eq_true (by omega)) ?_
      have inner : ∀ (j : Nat) (n : Int), j ≤ 8 → itr poly (8 - j) n = ent poly k → check_Of.l2 J0 poly H1.size (k : Int) H3 n (j : Int) fun r H' => r = .agg (tabC poly).toArray ∧ Mod (fun _ => False) H H' := by
        intro j
        induction hj : 8 - j generalizing j with
        | zero =>
          intro n hj8 hn
          apply check_Of.l2.step; unfold check_Of.l2.body
          obtain rfl : j = 8 := by omega
          refine Br.no (by simp) ⟨⟨by omega, by omega⟩, ?_⟩
          have hn' : n = ent poly k := by simpa [itr] using hn
          rw [Addr.add_loc, Nat.zero_add, Nat.mul_one, Int.toNat_natCast]
          refine ⟨wr_one hg (by simp [tabK_len]; omega), fun H5 h5 => ?_⟩
          rw [w64_id (x := (k : Int) + 1) (by omega) (by omega)]
          have g5 := get_setCell (o := k) (.int .u32 n) hg
          rw [hn', tabK_set poly (by omega)] at g5
          have := ih (k + 1) H5 (by omega) (by rw [h5, hn']; exact g5) (m.trans' (by rw [h5]; exact Mod.setCell (m := (· = H1.size)) H3 _ _ rfl) fun q hq e => by omega)
          simpa using this
        | succ i ih2 =>
          intro n hj8 hn
          apply check_Of.l2.step; unfold check_Of.l2.body
          refine Br.yes (decide_eq_true (by omega)) ⟨by omega, ?_⟩
          have hi : itr poly i (st1 poly n) = ent poly k := hn
          have next : ∀ n', itr poly i n' = ent poly k → check_Of.k1 J0 poly H1.size (k : Int) H3 (j : Int) n' fun r H' => r = .agg (tabC poly).toArray ∧ Mod (fun _ => False) H H' := fun n' h' => by
            apply check_Of.k1.step; unfold check_Of.k1.body
            rw [w64_id (x := (j : Int) + 1) (by omega) (by omega)]
            have e1 : 8 - (j + 1) = i := by omega
            have := ih2 (j + 1) e1 n' (by omega) h'
            simpa using this
          refine Br.mk (fun h => next _ ?_) (fun h => next _ ?_)
          · unfold st1 at hi; rw [if_pos h] at hi; exact hi
          · unfold st1 at hi; rw [if_neg (by rw [h]; simp)] at hi; exact hi
      exact inner 0 _ (by omega) rfl
  refine loop 256 0 H2 (by omega) ?_ (m1.trans m2)
  rw [tab_zero]
  exact g2

theorem TSum_spec {poly : Int} {t : Addr} {x : Sl} {xs : List UInt8} (ht : RowAt H t (tabC poly)) (hx : Rows H x 1 (xs.map bv)) (hl : xs.length ≤ 9223372036854775806) :
    SCalls Try.prog check_Table_Sum.id [.pointer (some t), .slice x.a x.len x.cap] H (TellPost H (.int .u32 (bxor .u32 4294967295 (crcN poly xs 4294967295)))) := by
  apply check_Table_Sum.calls
  unfold check_Table_Sum.vc
  have hxl : xs.length = x.len := by have := hx.1; simpa using this
  have hs : t.spot = none := spot_of_cell (ht 0 _ (tabC_get poly (by omega)))
  have loop : ∀ (d j : Nat) (n : Int), j + d = xs.length → crcN poly (xs.drop j) n = crcN poly xs 4294967295 → check_Table_Sum.l1 J0 t x H n (j : Int) (TellPost H (.int .u32 (bxor .u32 4294967295 (crcN poly xs 4294967295)))) := by
    intro d
    induction d with
    | zero =>
      intro j n hj hn
      apply check_Table_Sum.l1.step; unfold check_Table_Sum.l1.body
      obtain rfl : j = xs.length := by omega
      rw [List.drop_length] at hn
      refine Br.no (by simp; omega) ⟨?_, Mod.refl _ _⟩
      rw [← hn]; rfl
    | succ d ih =>
      intro j n hj hn
      apply check_Table_Sum.l1.step; unfold check_Table_Sum.l1.body
      have hjl : j < xs.length := by omega
      obtain ⟨a, ha, hc⟩ := Rows.at hx (List.getElem?_eq_getElem hjl)
      have bb := bxor_b (IntKind.u8.wrap n) ((xs[j]).toNat : Int)
      have ib : (bxor .u8 (IntKind.u8.wrap n) ((xs[j]).toNat : Int)).toNat < 256 := by omega
      refine Br.yes (by simp; omega) ⟨⟨by omega, by omega⟩, vPtr.mk a ha ⟨((xs[j]).toNat : Int), by simpa using hc, ⟨bb.1, bb.2⟩, ent poly (bxor .u8 (IntKind.u8.wrap n) ((xs[j]).toNat : Int)).toNat, ?_, by omega, ?_⟩⟩
      · rw [Nat.mul_one]; exact ht _ _ (tabC_get poly ib)
      · rw [w64_id (x := (j : Int) + 1) (by omega) (by omega)]
        have := ih (j + 1) (crcStep poly n xs[j]) (by omega) (by rw [← hn, List.drop_eq_getElem_cons hjl]; rfl)
        simpa [crcStep] using this
  exact loop xs.length 0 _ (by omega) rfl

/-- THE SUM OF BYTES. -/
theorem Sum_spec {x : Sl} {xs : List UInt8} (hx : Rows H x 1 (xs.map bv)) (hl : xs.length ≤ 9223372036854775806) :
    SCalls Try.prog check_Sum.id [.slice x.a x.len x.cap] H (TellPost H (.int .u32 (crc xs))) := by
  apply check_Sum.calls
  unfold check_Sum.vc
  refine chkOf_spec.mono ?_
  rintro r H1 ⟨rfl, m1⟩
  rw [tab_lit]
  refine ⟨ent 3988292384 0, ent 3988292384 1, ent 3988292384 2, ent 3988292384 3, ent 3988292384 4, ent 3988292384 5, ent 3988292384 6, ent 3988292384 7, ent 3988292384 8, ent 3988292384 9, ent 3988292384 10, ent 3988292384 11, ent 3988292384 12, ent 3988292384 13, ent 3988292384 14, ent 3988292384 15, ent 3988292384 16, ent 3988292384 17, ent 3988292384 18, ent 3988292384 19, ent 3988292384 20, ent 3988292384 21, ent 3988292384 22, ent 3988292384 23, ent 3988292384 24, ent 3988292384 25, ent 3988292384 26, ent 3988292384 27, ent 3988292384 28, ent 3988292384 29, ent 3988292384 30, ent 3988292384 31, ent 3988292384 32, ent 3988292384 33, ent 3988292384 34, ent 3988292384 35, ent 3988292384 36, ent 3988292384 37, ent 3988292384 38, ent 3988292384 39, ent 3988292384 40, ent 3988292384 41, ent 3988292384 42, ent 3988292384 43, ent 3988292384 44, ent 3988292384 45, ent 3988292384 46, ent 3988292384 47, ent 3988292384 48, ent 3988292384 49, ent 3988292384 50, ent 3988292384 51, ent 3988292384 52, ent 3988292384 53, ent 3988292384 54, ent 3988292384 55, ent 3988292384 56, ent 3988292384 57, ent 3988292384 58, ent 3988292384 59, ent 3988292384 60, ent 3988292384 61, ent 3988292384 62, ent 3988292384 63, ent 3988292384 64, ent 3988292384 65, ent 3988292384 66, ent 3988292384 67, ent 3988292384 68, ent 3988292384 69, ent 3988292384 70, ent 3988292384 71, ent 3988292384 72, ent 3988292384 73, ent 3988292384 74, ent 3988292384 75, ent 3988292384 76, ent 3988292384 77, ent 3988292384 78, ent 3988292384 79, ent 3988292384 80, ent 3988292384 81, ent 3988292384 82, ent 3988292384 83, ent 3988292384 84, ent 3988292384 85, ent 3988292384 86, ent 3988292384 87, ent 3988292384 88, ent 3988292384 89, ent 3988292384 90, ent 3988292384 91, ent 3988292384 92, ent 3988292384 93, ent 3988292384 94, ent 3988292384 95, ent 3988292384 96, ent 3988292384 97, ent 3988292384 98, ent 3988292384 99, ent 3988292384 100, ent 3988292384 101, ent 3988292384 102, ent 3988292384 103, ent 3988292384 104, ent 3988292384 105, ent 3988292384 106, ent 3988292384 107, ent 3988292384 108, ent 3988292384 109, ent 3988292384 110, ent 3988292384 111, ent 3988292384 112, ent 3988292384 113, ent 3988292384 114, ent 3988292384 115, ent 3988292384 116, ent 3988292384 117, ent 3988292384 118, ent 3988292384 119, ent 3988292384 120, ent 3988292384 121, ent 3988292384 122, ent 3988292384 123, ent 3988292384 124, ent 3988292384 125, ent 3988292384 126, ent 3988292384 127, ent 3988292384 128, ent 3988292384 129, ent 3988292384 130, ent 3988292384 131, ent 3988292384 132, ent 3988292384 133, ent 3988292384 134, ent 3988292384 135, ent 3988292384 136, ent 3988292384 137, ent 3988292384 138, ent 3988292384 139, ent 3988292384 140, ent 3988292384 141, ent 3988292384 142, ent 3988292384 143, ent 3988292384 144, ent 3988292384 145, ent 3988292384 146, ent 3988292384 147, ent 3988292384 148, ent 3988292384 149, ent 3988292384 150, ent 3988292384 151, ent 3988292384 152, ent 3988292384 153, ent 3988292384 154, ent 3988292384 155, ent 3988292384 156, ent 3988292384 157, ent 3988292384 158, ent 3988292384 159, ent 3988292384 160, ent 3988292384 161, ent 3988292384 162, ent 3988292384 163, ent 3988292384 164, ent 3988292384 165, ent 3988292384 166, ent 3988292384 167, ent 3988292384 168, ent 3988292384 169, ent 3988292384 170, ent 3988292384 171, ent 3988292384 172, ent 3988292384 173, ent 3988292384 174, ent 3988292384 175, ent 3988292384 176, ent 3988292384 177, ent 3988292384 178, ent 3988292384 179, ent 3988292384 180, ent 3988292384 181, ent 3988292384 182, ent 3988292384 183, ent 3988292384 184, ent 3988292384 185, ent 3988292384 186, ent 3988292384 187, ent 3988292384 188, ent 3988292384 189, ent 3988292384 190, ent 3988292384 191, ent 3988292384 192, ent 3988292384 193, ent 3988292384 194, ent 3988292384 195, ent 3988292384 196, ent 3988292384 197, ent 3988292384 198, ent 3988292384 199, ent 3988292384 200, ent 3988292384 201, ent 3988292384 202, ent 3988292384 203, ent 3988292384 204, ent 3988292384 205, ent 3988292384 206, ent 3988292384 207, ent 3988292384 208, ent 3988292384 209, ent 3988292384 210, ent 3988292384 211, ent 3988292384 212, ent 3988292384 213, ent 3988292384 214, ent 3988292384 215, ent 3988292384 216, ent 3988292384 217, ent 3988292384 218, ent 3988292384 219, ent 3988292384 220, ent 3988292384 221, ent 3988292384 222, ent 3988292384 223, ent 3988292384 224, ent 3988292384 225, ent 3988292384 226, ent 3988292384 227, ent 3988292384 228, ent 3988292384 229, ent 3988292384 230, ent 3988292384 231, ent 3988292384 232, ent 3988292384 233, ent 3988292384 234, ent 3988292384 235, ent 3988292384 236, ent 3988292384 237, ent 3988292384 238, ent 3988292384 239, ent 3988292384 240, ent 3988292384 241, ent 3988292384 242, ent 3988292384 243, ent 3988292384 244, ent 3988292384 245, ent 3988292384 246, ent 3988292384 247, ent 3988292384 248, ent 3988292384 249, ent 3988292384 250, ent 3988292384 251, ent 3988292384 252, ent 3988292384 253, ent 3988292384 254, ent 3988292384 255, rfl, ?_⟩
  rintro b rfl H2 h2
  obtain ⟨g2, m2, s2⟩ := push_facts h2
  have e0 := tab_zero 3988292384
  have g2' : H2[H1.size]? = some (.cells (tabK 3988292384 0).toArray T_check_Table (0, 0)) := by rw [e0]; exact g2
  refine ⟨fun j hj => ?_, fun H3 h3 => ?_⟩
  · rw [Addr.add_loc, cell_of g2', frozen_of g2', Nat.zero_add]
    refine ⟨?_, rfl⟩
    simp [tabK_len]
    omega
  · have h3' : H3 = Hp.setCells H2 (Addr.mk H1.size 0 none) (tabC 3988292384) 0 := by rw [tab_lit]; exact h3
    have g3 := get_setCells (tabC 3988292384) 0 0 H2 _ g2' (by simp [tabK_len, tab_len])
    rw [← h3'] at g3
    have m3 : Mod (· = H1.size) H2 H3 := by
      rw [h3']; exact ⟨Nat.le_of_eq (size_setCells _ _ _).symm, fun q hq hb => get_setCells_ne (fun e => hb e) _ _ _⟩
    have mm : Mod (fun _ => False) H H3 := (m1.trans m2).trans' m3 fun q hq e => by have := m1.size; omega
    have row : RowAt H3 (Addr.mk H1.size 0 none) (tabC 3988292384) := fun j v hj => by
      rw [Addr.add_loc, cell_of g3, Nat.zero_add]
      have hj' : j < (tabC 3988292384).length := (List.getElem?_eq_some_iff.1 hj).1
      simp only [Nat.add_zero, Nat.zero_add, List.take_zero, List.nil_append, List.getElem?_toArray]
      rw [List.getElem?_append_left hj']; exact hj
    refine (TSum_spec row (hx.keep mm fun _ _ e => e) hl).mono ?_
    rintro r H4 ⟨rfl, m4⟩
    exact ⟨_, rfl, rfl, mm.trans m4⟩
end
end Go.Proofs

/- LAYER 09: frames: Make, One: the walks. -/
set_option linter.all false
set_option linter.constructorNameAsVariable false
namespace Go.Proofs
open Go Go.KC

/-- The number of the first four bytes. -/
def num4 : List UInt8 → Int
  | a :: b :: c :: d :: _ => (a.toNat : Int) * 16777216 + (b.toNat : Int) * 65536 + (c.toNat : Int) * 256 + (d.toNat : Int)
  | _ => 0
theorem num4_range (xs : List UInt8) : 0 ≤ num4 xs ∧ num4 xs < 4294967296 := by
  unfold num4
  split
  · rename_i a b c d _
    have := a.toNat_lt; have := b.toNat_lt; have := c.toNat_lt; have := d.toNat_lt
    omega
  · omega
/-- A frame of bytes. -/
def frB (xs : List UInt8) : List UInt8 := be (xs.length : Int) 4 ++ be (crc xs) 4 ++ xs ++ [229]
theorem frB_len (xs : List UInt8) : (frB xs).length = xs.length + 9 := by unfold frB; simp only [List.length_append, be_length, List.length_singleton]; omega
/-- The first frame that bytes begin with: its bytes, how long it is, what is wrong. -/
def oneM (xs : List UInt8) : List UInt8 × Int × Int :=
  if xs.length < 8 then ([], 0, 3)
  else if num4 xs > 16384 then ([], 0, 1)
  else if (xs.length : Int) < 8 + num4 xs + 1 then ([], 0, 3)
  else if xs.getD (8 + (num4 xs).toNat) 0 ≠ 229 then ([], 0, 1)
  else if crc ((xs.drop 8).take (num4 xs).toNat) ≠ num4 (xs.drop 4) then ([], 0, 2)
  else ((xs.drop 8).take (num4 xs).toNat, 8 + num4 xs + 1, 0)

theorem num_be (n : Int) (h : 0 ≤ n ∧ n < 4294967296) (r : List UInt8) : num4 (be n 4 ++ r) = n := by
  show ((byteAt n 3).toNat : Int) * 16777216 + ((byteAt n 2).toNat : Int) * 65536 + ((byteAt n 1).toNat : Int) * 256 + ((byteAt n 0).toNat : Int) = n
  rw [byteAt_toNat, byteAt_toNat, byteAt_toNat, byteAt_toNat]
  rw [Int.fdiv_eq_ediv_of_nonneg _ (by omega), Int.fdiv_eq_ediv_of_nonneg _ (by omega), Int.fdiv_eq_ediv_of_nonneg _ (by omega), Int.fdiv_eq_ediv_of_nonneg _ (by omega)]
  simp only [Nat.reduceMul, Int.reducePow]
  omega

theorem bor_nat {a b : Nat} (ha : a < 2 ^ 62) (hb : b < 2 ^ 62) : bor .i64 (a : Int) (b : Int) = ((a ||| b : Nat) : Int) := by
  have hab : a ||| b < 2 ^ 62 := Nat.or_lt_two_pow ha hb
  have h1 : (BitVec.ofInt 64 (a : Int)).toNat = a := by rw [BitVec.toNat_ofInt]; omega
  have h2 : (BitVec.ofInt 64 (b : Int)).toNat = b := by rw [BitVec.toNat_ofInt]; omega
  show IntKind.i64.wrap ((BitVec.ofInt 64 (a : Int) ||| BitVec.ofInt 64 (b : Int)).toNat : Int) = _
  rw [BitVec.toNat_or, h1, h2]
  exact w64_id (by omega) (by omega)
theorem four_bytes (a b c d : UInt8) : bor .i64 (bor .i64 (bor .i64 (w64 ((w64 (a.toNat : Int)) * 2 ^ 24)) (w64 ((w64 (b.toNat : Int)) * 2 ^ 16))) (w64 ((w64 (c.toNat : Int)) * 2 ^ 8))) (w64 (d.toNat : Int)) =
    (a.toNat : Int) * 16777216 + (b.toNat : Int) * 65536 + (c.toNat : Int) * 256 + (d.toNat : Int) := by
  have ha := a.toNat_lt; have hb := b.toNat_lt; have hc := c.toNat_lt; have hd := d.toNat_lt
  generalize a.toNat = a at *; generalize b.toNat = b at *; generalize c.toNat = c at *; generalize d.toNat = d at *
  have e1 : w64 ((w64 (a : Int)) * 2 ^ 24) = ((2 ^ 24 * a : Nat) : Int) := by rw [w64_id (x := (a : Int)) (by omega) (by omega), w64_id (by omega) (by omega)]; omega
  have e2 : w64 ((w64 (b : Int)) * 2 ^ 16) = ((2 ^ 16 * b : Nat) : Int) := by rw [w64_id (x := (b : Int)) (by omega) (by omega), w64_id (by omega) (by omega)]; omega
  have e3 : w64 ((w64 (c : Int)) * 2 ^ 8) = ((2 ^ 8 * c : Nat) : Int) := by rw [w64_id (x := (c : Int)) (by omega) (by omega), w64_id (by omega) (by omega)]; omega
  have e4 : w64 (d : Int) = ((d : Nat) : Int) := w64_id (by omega) (by omega)
  rw [e1, e2, e3, e4]
  rw [bor_nat (by omega) (by omega)]
  have o1 := Nat.two_pow_add_eq_or_of_lt (i := 24) (b := 2 ^ 16 * b) (by omega) a
  rw [← o1, bor_nat (by omega) (by omega)]
  have o2 := Nat.two_pow_add_eq_or_of_lt (i := 16) (b := 2 ^ 8 * c) (by omega) (2 ^ 8 * a + b)
  rw [show 2 ^ 24 * a + 2 ^ 16 * b = 2 ^ 16 * (2 ^ 8 * a + b) by omega, ← o2, bor_nat (by omega) (by omega)]
  have o3 := Nat.two_pow_add_eq_or_of_lt (i := 8) (b := d) (by omega) (2 ^ 8 * (2 ^ 8 * a + b) + c)
  rw [show 2 ^ 16 * (2 ^ 8 * a + b) + 2 ^ 8 * c = 2 ^ 8 * (2 ^ 8 * (2 ^ 8 * a + b) + c) by omega, ← o3]
  omega

theorem app_bytes9 {H : Hp} {x : Sl} {xs ys : List UInt8} {src : Value} {K : Sl → Hp → Prop} (h : Own H x T_uint8 1 (xs.map bv)) (hs : SrcAt H 1 (srcLen src) src (ys.map bv)) (hl : ys.length = srcLen src) (hb : xs.length + ys.length ≤ 140737488355328)
    (hK : ∀ x' H', Own H' x' T_uint8 1 ((xs ++ ys).map bv) → Mod (· ∈ x.blk) H H' → (∀ b ∈ x'.blk, b ∈ x.blk ∨ b = H.size) → K x' H') :
    vApp Try.prog T_sl_uint8 x.a x.len x.cap src H K := by
  obtain ⟨ti, hi, hz, hsz, hby⟩ := u8_info
  have hlen : xs.length = x.len := by have := h.1; simpa using this
  refine Own.app (e := T_uint8) (ti := ti) (z := .int .u8 0) (cs := xs.map bv) (news := ys.map bv) (by rw [hsz]; exact h) und_bytes hi hz (by rw [hsz]; rfl) (by omega) (by rw [hsz]; exact hs) (by simp [hsz, hl]) (allOne_bv ys) (by rw [hby]; omega) ?_
  intro x' H2 ho hxl hmod hblk _
  rw [hsz, ← List.map_append] at ho
  exact hK x' H2 ho hmod hblk
theorem rows_src {H : Hp} {x : Sl} {xs : List UInt8} (h : Rows H x 1 (xs.map bv)) : SrcAt H 1 x.len (.slice x.a x.len x.cap) (xs.map bv) := by
  cases ha : x.a with
  | none =>
    have h1 := h.2.2.2 ha
    have h2 := h.2.1
    have h3 := h.1
    have : (xs.map bv).length = 0 := by omega
    exact List.length_eq_zero_iff.1 this
  | some a => exact ⟨h.1, h.2.2.1 a ha⟩

section
variable {H : Hp} {x : Sl} {xs : List UInt8}
theorem number_spec (hx : Rows H x 1 (xs.map bv)) (h4 : 4 ≤ xs.length) : SCalls Try.prog frame_number.id [.slice x.a x.len x.cap] H (TellPost H (.int .i64 (num4 xs))) := by
  apply frame_number.calls
  unfold frame_number.vc
  have hxl : xs.length = x.len := by have := hx.1; simpa using this
  match xs, h4 with
  | a :: b :: c :: d :: r, _ =>
    obtain ⟨p, hp, h0⟩ := Rows.at hx (j := 0) (c := a) rfl
    obtain ⟨p1, hp1, h1⟩ := Rows.at hx (j := 1) (c := b) rfl
    obtain ⟨p2, hp2, h2⟩ := Rows.at hx (j := 2) (c := c) rfl
    obtain ⟨p3, hp3, h3⟩ := Rows.at hx (j := 3) (c := d) rfl
    rw [add_zero_of] at h0
    simp only [List.length_cons] at hxl
    refine ⟨by omega, vPtr.mk p hp ⟨_, h0, by omega, by omega, vPtr.mk p1 hp1 ⟨_, h1, by omega, by omega, vPtr.mk p2 hp2 ⟨_, h2, by omega, by omega, vPtr.mk p3 hp3 ⟨_, h3, ?_, Mod.refl _ _⟩⟩⟩⟩⟩
    rw [four_bytes]; rfl

/-- What Make answers. -/
def MkPost (H : Hp) (xs : List UInt8) (r : Value) (H' : Hp) : Prop :=
  (xs.length ≤ 16384 ∧ ∃ y : Sl, r = .tuple #[.slice y.a y.len y.cap, .int .i64 0] ∧ Own H' y T_uint8 1 ((frB xs).map bv) ∧ Mod (fun _ => False) H H' ∧ ∀ q ∈ y.blk, H.size ≤ q) ∨
  (16384 < xs.length ∧ r = .tuple #[.slice none 0 0, .int .i64 4] ∧ Mod (fun _ => False) H H')
theorem Make_spec (hx : Rows H x 1 (xs.map bv)) : SCalls Try.prog frame_Make.id [.slice x.a x.len x.cap] H (MkPost H xs) := by
  apply frame_Make.calls
  unfold frame_Make.vc
  have hxl : xs.length = x.len := by have := hx.1; simpa using this
  refine Br.mk (fun h => ?_) (fun h => ?_)
  · have := of_decide_eq_true h
    exact Or.inr ⟨by omega, rfl, Mod.refl _ _⟩
  have hle := of_decide_eq_false h
  refine (Sum_spec hx (by omega)).mono ?_
  rintro r H1 ⟨rfl, m1⟩
  refine ⟨_, rfl, by omega, by omega, by omega, by omega, by omega, by omega, ?_⟩
  rintro b rfl H2 h2
  obtain ⟨g2, m2, s2⟩ := push_facts h2
  have hc := crc_range xs
  have e8 : (#[.int .u8 (IntKind.u8.wrap ((Int.fdiv ((x.len : Nat) : Int) (2 ^ 24)))), .int .u8 (IntKind.u8.wrap ((Int.fdiv ((x.len : Nat) : Int) (2 ^ 16)))), .int .u8 (IntKind.u8.wrap ((Int.fdiv ((x.len : Nat) : Int) (2 ^ 8)))), .int .u8 (IntKind.u8.wrap (((x.len : Nat) : Int))), .int .u8 (IntKind.u8.wrap ((Int.fdiv (crc xs) (2 ^ 24)))), .int .u8 (IntKind.u8.wrap ((Int.fdiv (crc xs) (2 ^ 16)))), .int .u8 (IntKind.u8.wrap ((Int.fdiv (crc xs) (2 ^ 8)))), .int .u8 (IntKind.u8.wrap (crc xs))] : Array Value) =
      ((be (xs.length : Int) 4 ++ be (crc xs) 4).map bv).toArray := by
    have e : ∀ (n : Int) (k : Nat), bv (byteAt n k) = .int .u8 (IntKind.u8.wrap (Int.fdiv n (2 ^ (8 * k)))) := fun n k => by unfold bv; rw [byteAt_toNat, wrapu8]
    have e0 : ∀ n : Int, bv (byteAt n 0) = .int .u8 (IntKind.u8.wrap n) := fun n => by rw [e]; simp [Int.fdiv_one]
    rw [← hxl]
    show _ = (#[bv (byteAt _ 3), bv (byteAt _ 2), bv (byteAt _ 1), bv (byteAt _ 0), bv (byteAt _ 3), bv (byteAt _ 2), bv (byteAt _ 1), bv (byteAt _ 0)] : Array Value)
    rw [e, e, e, e0, e, e, e, e0]
  rw [e8] at g2
  have m12 := m1.trans m2
  have own2 : Own H2 ⟨some (Addr.mk H1.size 0 none), 8, 8⟩ T_uint8 1 ((be (xs.length : Int) 4 ++ be (crc xs) 4).map bv) := by
    refine ⟨by simp [be_length], Nat.le_refl _, Or.inr ⟨H1.size, _, rfl, g2, by simp [be_length], ?_⟩⟩
    exact List.take_length
  refine app_bytes9 own2 (src := .slice x.a x.len x.cap) (ys := xs) (rows_src (hx.keep m12 fun _ _ e => e)) hxl (by simp [be_length]; omega) fun ap H3 o3 m3 b3 => ?_
  rintro b2 rfl H4 h4
  obtain ⟨g4, m4, s4⟩ := push_facts h4
  have src : SrcAt H4 1 1 (.slice (some (Addr.mk H3.size 0 none)) 1 1) ([(229 : UInt8)].map bv) := by
    refine ⟨rfl, fun j v hj => ?_⟩
    rw [Addr.add_loc, cell_of g4, Nat.zero_add]
    simpa [bv] using hj
  refine app_bytes9 (o3.keep m4 fun _ _ e => e) (src := .slice (some (Addr.mk H3.size 0 none)) 1 1) (ys := [229]) src rfl (by simp [be_length]; omega) fun y H5 o5 m5 b5 => ?_
  have sz1 := m1.size
  have hb3 : ∀ q ∈ ap.blk, H.size ≤ q := fun q hq => by
    rcases b3 q hq with h | h
    · have : q = H1.size := by simpa [Sl.blk] using h
      omega
    · omega
  have m3' : Mod (fun _ => False) H H3 := m12.trans' m3 fun q hq h => by
    have : q = H1.size := by simpa [Sl.blk] using h
    omega
  have sz3 := m3'.size
  refine Or.inl ⟨by omega, y, rfl, ?_, (m3'.trans m4).trans' m5 fun q hq h => by have := hb3 q h; omega, fun q hq => ?_⟩
  · unfold frB; exact o5
  · rcases b5 q hq with h | h
    · exact hb3 q h
    · omega

/-- What One answers. -/
def OnPost (H : Hp) (xs : List UInt8) (r : Value) (H' : Hp) : Prop :=
  ∃ y : Sl, r = .tuple #[.slice y.a y.len y.cap, .int .i64 (oneM xs).2.1, .int .i64 (oneM xs).2.2] ∧ Own H' y T_uint8 1 ((oneM xs).1.map bv) ∧ Mod (fun _ => False) H H' ∧ ∀ q ∈ y.blk, H.size ≤ q
theorem One_spec (hx : Rows H x 1 (xs.map bv)) (hl : xs.length ≤ 1000000000) : SCalls Try.prog frame_One.id [.slice x.a x.len x.cap] H (OnPost H xs) := by
  apply frame_One.calls
  unfold frame_One.vc
  have hxl : xs.length = x.len := by have := hx.1; simpa using this
  have hcap := hx.2.1
  have bad : ∀ {H' : Hp} {e : Int}, oneM xs = ([], 0, e) → Mod (fun _ => False) H H' → OnPost H xs (.tuple #[.slice none 0 0, .int .i64 0, .int .i64 e]) H' := fun {H' e} he m => by
    refine ⟨⟨none, 0, 0⟩, by rw [he], ?_, m, fun q hq => by simp [Sl.blk] at hq⟩
    rw [he]; exact Own.nil _ _ _
  by_cases h8 : xs.length < 8
  · exact Br.yes (decide_eq_true (by omega)) (bad (by unfold oneM; rw [if_pos h8]) (Mod.refl _ _))
  refine Br.no (decide_eq_false (by omega)) ?_
  refine (number_spec hx (by omega)).mono ?_
  rintro r H1 ⟨rfl, m1⟩
  have hn := num4_range xs
  refine ⟨_, rfl, ?_⟩
  by_cases hbig : num4 xs > 16384
  · exact Br.yes (decide_eq_true hbig) (bad (by unfold oneM; rw [if_neg h8, if_pos hbig]) m1)
  refine Br.no (decide_eq_false hbig) ?_
  obtain ⟨n, hnn⟩ : ∃ n : Nat, num4 xs = (n : Int) := ⟨(num4 xs).toNat, by omega⟩
  have hn' : n ≤ 16384 := by omega
  have w1 : w64 ((8 : Int) + (n : Int)) = 8 + (n : Int) := w64_id (by omega) (by omega)
  have w2 : w64 (8 + (n : Int) + 1) = 8 + (n : Int) + 1 := w64_id (by omega) (by omega)
  rw [hnn, w1, w2]
  by_cases htorn : (xs.length : Int) < 8 + (n : Int) + 1
  · exact Br.yes (decide_eq_true (by omega)) (bad (by unfold oneM; rw [if_neg h8, if_neg hbig, hnn, if_pos htorn]) m1)
  refine Br.no (decide_eq_false (by omega)) ?_
  have hon : oneM xs = if xs.getD (8 + n) 0 ≠ 229 then ([], 0, 1) else if crc ((xs.drop 8).take n) ≠ num4 (xs.drop 4) then ([], 0, 2) else ((xs.drop 8).take n, 8 + (n : Int) + 1, 0) := by
    unfold oneM
    rw [if_neg h8, if_neg hbig, hnn, if_neg htorn, Int.toNat_natCast]
  have hj : 8 + n < xs.length := by omega
  obtain ⟨a, ha, hc⟩ := Rows.at (hx.keep m1 fun _ _ e => e) (List.getElem?_eq_getElem hj)
  have t1 : ((8 : Int) + (n : Int)).toNat = 8 + n := by omega
  rw [t1]
  refine ⟨⟨by omega, by omega⟩, vPtr.mk a ha ⟨((xs[8 + n]).toNat : Int), by rw [Nat.mul_one]; exact hc, ?_⟩⟩
  have hg : xs.getD (8 + n) 0 = xs[8 + n] := by rw [List.getD_eq_getElem?_getD, List.getElem?_eq_getElem hj]; rfl
  by_cases hend : xs[8 + n] = 229
  · refine Br.no (by rw [hend]; rfl) ⟨⟨by omega, by omega⟩, ⟨by omega, by omega⟩, ⟨by omega, by omega⟩, ?_⟩
    rw [hg, if_neg (by rw [hend]; simp)] at hon
    have mid : Rows H1 ⟨cutA x.a x.cap 8 1, 8 + n - 8, x.cap - 8⟩ 1 (((xs.drop 8).take n).map bv) := by
      have h1 := Rows.take (hx.keep m1 fun _ _ e => e) (show 8 + n ≤ x.len by omega)
      rw [cutA_zero] at h1
      have h2 := Rows.drop h1 (show 8 ≤ 8 + n by omega)
      have e : ((xs.map bv).take ((8 + n) * 1)).drop (8 * 1) = ((xs.drop 8).take n).map bv := by
        rw [Nat.mul_one, ← List.map_take, ← List.map_drop, List.drop_take]
        congr 2; omega
      rw [e] at h2
      exact h2
    refine (Sum_spec mid (by simp; omega)).mono ?_
    rintro r H2 ⟨rfl, m2⟩
    refine ⟨_, rfl, ?_⟩
    have four := Rows.drop (hx.keep (m1.trans m2) fun _ _ e => e) (show 4 ≤ x.len by omega)
    rw [← List.map_drop] at four
    refine (number_spec (xs := xs.drop (4 * 1)) four (by simp; omega)).mono ?_
    rintro r H3 ⟨rfl, m3⟩
    refine ⟨_, rfl, ?_⟩
    have hcr := crc_range ((xs.drop 8).take n)
    apply frame_One.k1.step; unfold frame_One.k1.body
    rw [w64_id (x := crc ((xs.drop 8).take n)) (by omega) (by omega)]
    have m123 := m1.trans (m2.trans m3)
    by_cases hs : crc ((xs.drop 8).take n) = num4 (xs.drop 4)
    · rw [if_neg (by simpa using hs)] at hon
      refine Br.no (by simpa using hs) ?_
      rw [w1, w2, t1]
      refine ⟨⟨by omega, by omega⟩, ⟨by omega, by omega⟩, ?_⟩
      have mid3 := mid.keep (m2.trans m3) fun _ _ e => e
      have hml : ((xs.drop 8).take n).length = 8 + n - 8 := by rw [List.length_take, List.length_drop]; omega
      refine app_bytes9 (x := ⟨none, 0, 0⟩) (xs := []) (ys := (xs.drop 8).take n) (Own.nil _ _ _) (rows_src mid3) hml (by rw [hml]; simp; omega) fun y H4 o4 m4 b4 => ?_
      rw [List.nil_append] at o4
      have m4' : Mod (fun _ => False) H3 H4 := m4.trans' (Mod.refl (fun _ => False) _) (fun _ _ e => e.elim) |>.mono fun q _ h => by simp [Sl.blk] at h
      have sz := m123.size
      exact ⟨y, by rw [hon], by rw [hon]; exact o4, m123.trans m4', fun q hq => by
        rcases b4 q hq with h | h
        · simp [Sl.blk] at h
        · omega⟩
    · rw [if_pos hs] at hon
      exact Br.yes (by simpa using hs) (bad hon m123)
  · have hne : ((xs[8 + n]).toNat : Int) ≠ 229 := fun e => hend (by
      apply UInt8.toNat_inj.1
      show (xs[8 + n]).toNat = 229
      omega)
    refine Br.yes (by simpa using hne) (bad ?_ m1)
    rw [hon, hg, if_pos hend]
end
end Go.Proofs

/- LAYER 09: frames, one behind the other: All. -/
set_option linter.all false
set_option linter.constructorNameAsVariable false
namespace Go.Proofs
open Go Go.KC

/-- The frames that bytes begin with, and where the last one ends. -/
def frGo : Nat → List UInt8 → List (List UInt8) × Nat
  | 0, _ => ([], 0)
  | f + 1, xs => if (oneM xs).2.2 = 0 then ((oneM xs).1 :: (frGo f (xs.drop (oneM xs).2.1.toNat)).1, (oneM xs).2.1.toNat + (frGo f (xs.drop (oneM xs).2.1.toNat)).2) else ([], 0)
theorem oneM_ok {xs : List UInt8} (h : (oneM xs).2.2 = 0) : (oneM xs).2.1 = 9 + num4 xs ∧ 0 ≤ num4 xs ∧ num4 xs ≤ 16384 ∧ 9 + num4 xs ≤ xs.length ∧ (oneM xs).1 = (xs.drop 8).take (num4 xs).toNat := by
  have hn := num4_range xs
  unfold oneM at *
  split at h
  · simp at h
  · rename_i h1
    rw [if_neg h1]
    split at h
    · simp at h
    · rename_i h2
      rw [if_neg h2]
      split at h
      · simp at h
      · rename_i h3
        rw [if_neg h3]
        split at h
        · simp at h
        · rename_i h4
          rw [if_neg h4]
          split at h
          · simp at h
          · rename_i h5
            rw [if_neg h5]
            exact ⟨by show 8 + num4 xs + 1 = _; omega, hn.1, by omega, by omega, rfl⟩
theorem oneM_bad {xs : List UInt8} (h : (oneM xs).2.2 ≠ 0) : (oneM xs).2.1 = 0 ∧ (oneM xs).1 = [] := by
  unfold oneM at *
  split
  · exact ⟨rfl, rfl⟩
  · rename_i h1
    rw [if_neg h1] at h
    split
    · exact ⟨rfl, rfl⟩
    · rename_i h2
      rw [if_neg h2] at h
      split
      · exact ⟨rfl, rfl⟩
      · rename_i h3
        rw [if_neg h3] at h
        split
        · exact ⟨rfl, rfl⟩
        · rename_i h4
          rw [if_neg h4] at h
          split
          · exact ⟨rfl, rfl⟩
          · rename_i h5
            rw [if_neg h5] at h
            exact absurd rfl h

section
variable {H : Hp}
/-- What goes over frames; J: what is so when so many bytes are behind. -/
theorem All1_spec {y : Fv} {b : Addr} {x : Sl} {xs : List UInt8} {Q : Value → Hp → Prop} (hl : xs.length ≤ 1000000000) (J : Nat → Hp → Prop) (h0 : J 0 H)
    (hr : ∀ a H', J a H' → a ≤ xs.length ∧ Rows H' x 1 (xs.map bv) ∧ Hp.cell? H' b = some (.slice x.a x.len x.cap))
    (hs : ∀ a H' H'' (z : Sl), J a H' → Mod (fun _ => False) H' H'' → (oneM (xs.drop a)).2.2 = 0 → Own H'' z T_uint8 1 ((oneM (xs.drop a)).1.map bv) → (∀ q ∈ z.blk, H'.size ≤ q) →
      vInv Try.prog (.func y.fn y.fi y.ca) [.int .i64 ((a + (oneM (xs.drop a)).2.1.toNat : Nat) : Int), .slice z.a z.len z.cap] H'' fun r H3 => r = .bool true ∧ J (a + (oneM (xs.drop a)).2.1.toNat) H3)
    (he : ∀ a H' H'', J a H' → Mod (fun _ => False) H' H'' → (oneM (xs.drop a)).2.2 ≠ 0 → Q (.tuple #[]) H'') :
    SCalls Try.prog frame_All_1.id [.func y.fn y.fi y.ca, .pointer (some b)] H Q := by
  apply frame_All_1.calls
  unfold frame_All_1.vc
  have loop : ∀ (d a : Nat) (H' : Hp), xs.length - a ≤ d → J a H' → frame_All_1.l1 J0 y b H' (a : Int) Q := by
    intro d
    induction d with
    | zero =>
      intro a H' hd hj
      apply frame_All_1.l1.step; unfold frame_All_1.l1.body
      obtain ⟨h1, h2, h3⟩ := hr a H' hj
      have hxl : xs.length = x.len := by have := h2.1; simpa using this
      refine ⟨x, h3, ⟨by omega, by omega⟩, ?_⟩
      rw [Int.toNat_natCast]
      have hcut := Rows.drop h2 (show a ≤ x.len by omega)
      rw [Nat.mul_one, ← List.map_drop] at hcut
      refine (One_spec hcut (by simp; omega)).mono ?_
      rintro r H2 ⟨z, rfl, oz, m2, hz⟩
      refine ⟨z, _, _, rfl, ?_⟩
      have hne : (oneM (xs.drop a)).2.2 ≠ 0 := fun e => by
        have := oneM_ok e
        rw [List.length_drop] at this
        omega
      exact Br.yes (by simpa using hne) (he a H' H2 hj m2 hne)
    | succ d ih =>
      intro a H' hd hj
      apply frame_All_1.l1.step; unfold frame_All_1.l1.body
      obtain ⟨h1, h2, h3⟩ := hr a H' hj
      have hxl : xs.length = x.len := by have := h2.1; simpa using this
      refine ⟨x, h3, ⟨by omega, by omega⟩, ?_⟩
      rw [Int.toNat_natCast]
      have hcut := Rows.drop h2 (show a ≤ x.len by omega)
      rw [Nat.mul_one, ← List.map_drop] at hcut
      refine (One_spec hcut (by simp; omega)).mono ?_
      rintro r H2 ⟨z, rfl, oz, m2, hz⟩
      refine ⟨z, _, _, rfl, ?_⟩
      by_cases hne : (oneM (xs.drop a)).2.2 = 0
      · refine Br.no (by rw [hne]; rfl) ?_
        have hok := oneM_ok hne
        rw [List.length_drop] at hok
        have e : w64 ((a : Int) + (oneM (xs.drop a)).2.1) = ((a + (oneM (xs.drop a)).2.1.toNat : Nat) : Int) := by rw [w64_id (by omega) (by omega)]; omega
        rw [e]
        refine vInv.imp (hs a H' H2 z hj m2 hne oz hz) ?_
        rintro r H3 ⟨rfl, hj3⟩
        exact ⟨true, rfl, Br.no rfl (ih _ H3 (by omega) hj3)⟩
      · exact Br.yes (by simpa using hne) (he a H' H2 hj m2 hne)
  exact loop xs.length 0 H (by omega) h0
end
end Go.Proofs
