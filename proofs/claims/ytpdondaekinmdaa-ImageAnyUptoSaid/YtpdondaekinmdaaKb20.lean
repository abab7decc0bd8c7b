/- LAYER 09: ImageAny. -/
import Derived.Test.YtpdondaekinmdaaKb19
import Derived.Test.YtpdondaekinmdaaKx4
import Derived.Test.YtpdondaekinmdaaKbx16
set_option linter.all false
set_option linter.constructorNameAsVariable false
set_option maxRecDepth 100000
namespace Go.Proofs
open Go Go.KC
section
variable {H : Hp} {bs : List UInt8} {x : Sl} {fv : UInt8} {b : Nat} {k : Int} {Q : Value → Hp → Prop}
theorem any_k1 {i t : Int} {ps : List Pr} {xs : List Se} {g6 : Int} {p1 p2 p3 p4 : Sl} {d : Dl} {g7 : Int} {H0 H13 : Hp} {out : Sl} {es : List En} {n : Nat} {g : Int} (hx : Rows H0 x 1 (bs.map bv)) (hl : bs.length ≤ 8000000) (m : Mod (fun _ => False) H0 H13)
    (rs : RR H13 p1 p2 ps xs) (hs : g6 = 0 ∧ FlOK bs i t ps xs ∨ g6 = 10) (hsl : (stB i t ps xs).length ≤ 16384)
    (rd : RR H13 p3 p4 d.ps d.xs) (hd : g7 = 0 ∧ DfOK bs d ∨ g7 = 10) (hdl : (dlB d).length ≤ 16384)
    (ho : Rows H13 out 8 (es.map En.cells).flatten) (hol : es.length = out.len) (hg : g = 0 ∧ PtOK bs (fv.toNat : Int) es n ∨ g = 10) (hn : ∀ H', Mod (fun _ => False) H0 H' → tephralaw09_ImageAny.l1 J0 (fv.toNat : Int) b H' (w64 (k + 1)) Q) :
    tephralaw09_ImageAny.k1 J0 (fv.toNat : Int) b k x i t p1 p2 g6 d.from d.to d.term p3 p4 g7 H13 out (n : Int) g false Q := by
  have k5 := any_k5 (b := b) (k := k) (Q := Q) hx hl m rs hs hsl rd hd hdl ho hol hg hn
  have k4 : tephralaw09_ImageAny.k4 J0 (fv.toNat : Int) b k x i t p1 p2 g6 d.from d.to d.term p3 p4 g7 H13 out (n : Int) g false Q := by
    apply tephralaw09_ImageAny.k4.step
    unfold tephralaw09_ImageAny.k4.body
    rcases hg with ⟨rfl, -⟩ | rfl
    · exact Br.no rfl (Br.no rfl k5)
    · exact Br.no rfl (Br.yes rfl k5)
  have k3 : tephralaw09_ImageAny.k3 J0 (fv.toNat : Int) b k x i t p1 p2 g6 d.from d.to d.term p3 p4 g7 H13 out (n : Int) g false Q := by
    apply tephralaw09_ImageAny.k3.step
    unfold tephralaw09_ImageAny.k3.body
    exact k4
  apply tephralaw09_ImageAny.k1.step
  unfold tephralaw09_ImageAny.k1.body
  rcases hd with ⟨rfl, -⟩ | rfl
  · exact Br.no rfl (Br.no rfl k3)
  · exact Br.no rfl (Br.yes rfl k3)

theorem any_round {H8 : Hp} (hk : 0 ≤ k ∧ k < 3) (hc : Hp.cell? H8 ((Addr.mk b 0 none).add (k.toNat * 1)) = some (slV x)) (hx : Rows H8 x 1 (bs.map bv)) (hl : bs.length ≤ 8000000) (hn : ∀ H', Mod (fun _ => False) H8 H' → tephralaw09_ImageAny.l1 J0 (fv.toNat : Int) b H' (w64 (k + 1)) Q) :
    tephralaw09_ImageAny.l1 J0 (fv.toNat : Int) b H8 k Q := by
  have hf8 := fv.toNat_lt
  apply tephralaw09_ImageAny.l1.step
  unfold tephralaw09_ImageAny.l1.body
  refine Br.yes (decide_eq_true (by omega)) ⟨⟨by omega, by omega⟩, x, hc, ?_⟩
  refine full_told hx hl fun i t ps xs p s g6 H9 rs m9 hsl hs => ?_
  intro H10 h10
  obtain ⟨m10, _⟩ := hole_facts h10
  have m810 := m9.trans m10
  refine delta_told (hx.keep m810 fun _ _ e => e) hl fun d p' s' g7 H11 rd m11 hdl hd => ?_
  intro H12 h12
  obtain ⟨m12, _⟩ := hole_facts h12
  have m812 := m810.trans (m11.trans m12)
  rw [w64_id (x := (fv.toNat : Int)) (by omega) (by omega)]
  refine part_told (by omega) (hx.keep m812 fun _ _ e => e) hl fun es n out g H13 ho hol m13 hg => ?_
  have k1 := any_k1 (b := b) (k := k) (Q := Q) hx hl (m812.trans m13) (rs.mod (m10.trans (m11.trans (m12.trans m13)))) hs hsl (rd.mod (m12.trans m13)) hd hdl ho hol hg hn
  rcases hs with ⟨rfl, -⟩ | rfl
  · exact Br.no rfl k1
  · exact Br.yes rfl k1

theorem app_any {H : Hp} {x : Sl} {xs ys : List UInt8} {y : Sl} {K : Sl → Hp → Prop} (h : Own H x T_uint8 1 (xs.map bv)) (hs : Rows H y 1 (ys.map bv)) (hb : xs.length + ys.length ≤ 140737488355328)
    (hK : ∀ x' H', Own H' x' T_uint8 1 ((xs ++ ys).map bv) → Mod (· ∈ x.blk) H H' → (∀ b ∈ x'.blk, b ∈ x.blk ∨ b = H.size) → K x' H') :
    vApp Try.prog T_sl_uint8 x.a x.len x.cap (.slice y.a y.len y.cap) H K := by
  have hyl : ys.length = y.len := by have := hs.1; simpa using this
  refine app_bytes9 h (ys := ys) ?_ hyl hb fun x' H' a b c => hK x' H' a b c
  cases hx : y.a with
  | none =>
    have h0 := hs.2.2.2 hx
    have h2 := hs.2.1
    have : y.len = 0 := by omega
    have : ys = [] := List.eq_nil_of_length_eq_zero (by omega)
    rw [this]
    simp only [srcLen]
    rw [‹y.len = 0›]; exact rfl
  | some a => exact ⟨hs.1, hs.2.2.1 a hx⟩

theorem ImageAny_spec {raw says : Sl} {ss : List Sy} {rs : List UInt8} {at' : UInt16} {by' fv : UInt8} (hraw : Rows H raw 1 (rs.map bv)) (hrlt : ∀ g ∈ raw.blk, g < H.size) (hsm : rs.length ≤ 7000000)
    (hr : Rows H says 6 (ss.map Sy.cells).flatten) (hl : ss.length = says.len) :
    SCalls Try.prog tephralaw09_ImageAny.id [.slice raw.a raw.len raw.cap, .slice says.a says.len says.cap, .int .u16 (at'.toNat : Int), .int .u8 (by'.toNat : Int), .int .u8 (fv.toNat : Int)] H (trueQ H) := by
  have ha8 := at'.toNat_lt
  apply tephralaw09_ImageAny.calls
  unfold tephralaw09_ImageAny.vc
  refine (awake_spec H).mono ?_
  rintro r H1 ⟨rfl, m1⟩
  refine ⟨true, rfl, Br.no rfl ((Some_spec (hr.keep m1 fun _ _ e => e) hl).mono ?_)⟩
  rintro r H2 ⟨p, s, rfl, sr, m2⟩
  have ok := someM_ok ss
  generalize someM ss = st at ok sr ⊢
  refine ⟨_, _, p, s, rfl, ?_⟩
  have hbs := Stt.bytes_small ok
  have hsmall := stt_small ok
  refine (Full_spec (i := st.index) (t := st.term) sr.rr (by omega)).mono ?_
  rintro r H3 (⟨-, x, rfl, o3, m3, f3⟩ | ⟨h, -⟩)
  rotate_left
  · exact absurd hsmall h
  have o3 : Own H3 x T_uint8 1 (st.file.map bv) := o3
  have hlen := Stt.file_len st
  have hxl : st.file.length = x.len := by have := o3.1; simpa using this
  have m12 := m1.trans m2
  have z12 := m12.size
  have m03 := m12.trans m3
  refine ⟨x, 0, rfl, Br.no (by simp; omega) ?_⟩
  obtain ⟨j, hj⟩ : ∃ j : Nat, j = at'.toNat % x.len := ⟨_, rfl⟩
  have hjl : j < x.len := by rw [hj]; exact Nat.mod_lt _ (by omega)
  have ej : Int.tmod (w64 (at'.toNat : Int)) ((x.len : Nat) : Int) = (j : Int) := by
    rw [w64_id (by omega) (by omega), hj]; exact (Int.ofNat_tmod _ _).symm
  rw [ej]
  have hkl : j < st.file.length := by omega
  obtain ⟨a, ha, hcell⟩ := (Own.rows o3).at (j := j) (c := st.file[j]) (List.getElem?_eq_getElem hkl)
  generalize hc0 : st.file[j] = c0 at hcell
  have hc1 := c0.toNat_lt
  have hc2 := by'.toNat_lt
  obtain ⟨v, hvd⟩ : ∃ v : UInt8, v = c0 ^^^ by' := ⟨_, rfl⟩
  have hv : bxor .u8 (c0.toNat : Int) (by'.toNat : Int) = (v.toNat : Int) := by rw [bxor8_nat (by omega) (by omega), hvd, UInt8.toNat_xor]
  obtain ⟨a', ha', hw, hput, mput⟩ := own_put (new := [bv v]) o3 (show j < x.len by omega) rfl (by omega)
  rw [ha] at ha'
  cases ha'
  have hset : (st.file.map bv).take (j * 1) ++ [bv v] ++ (st.file.map bv).drop (j * 1 + 1) = (st.file.set j v).map bv := by
    rw [Nat.mul_one, ← List.map_take, ← List.map_drop, List.set_eq_take_append_cons_drop, if_pos hkl]
    simp
  rw [hset] at hput
  have e5 : Hp.setCells H3 (a.add (j * 1)) [bv v] 0 = Hp.setCell H3 (a.add (j * 1)) (.int .u8 (v.toNat : Int)) := by
    show Hp.setCell H3 ((a.add (j * 1)).add 0) _ = _
    rw [add_zero_of]; rfl
  rw [e5] at hput mput
  simp only [Int.toNat_natCast]
  refine ⟨by omega, ⟨by omega, by omega⟩, vPtr.mk a ha ⟨_, by rw [Nat.mul_one]; exact hcell, ⟨by omega, by omega⟩, vPtr.mk a ha ⟨hw, fun H4 e4 => ?_⟩⟩⟩
  rw [hv] at e4
  rw [← e4] at hput mput
  clear e5 e4
  have m04 : Mod (fun _ => False) H H4 := m03.trans' mput fun q hq h => by have := f3 q h; omega
  have hbl : (st.file.set j v).length = 35 + (stB st.index st.term st.pairs st.sess).length := by rw [List.length_set]; exact hlen
  generalize st.file.set j v = fs at hput hbl
  have raw4 := hraw.keep m04 fun _ _ e => e
  have hrl : rs.length = raw.len := by have := hraw.1; simpa using this
  refine app_any (xs := []) (by simpa using Own.nil H4 T_uint8 1) raw4 (by simp; omega) fun y H5 o5 m5 b5 => ?_
  have m5 : Mod (fun _ => False) H4 H5 := m5.mono fun q _ h => by simp [Sl.blk] at h
  rw [List.nil_append] at o5
  have z4 := m04.size
  have x5 := hput.keep m5 fun _ _ e => e
  refine app_any o5 (Own.rows x5) (by omega) fun z H6 o6 m6 b6 => ?_
  have hy : ∀ q ∈ y.blk, q = H4.size := fun q hq => (b5 q hq).elim (fun h => by simp [Sl.blk] at h) id
  have x4l := Own.lt hput
  have x6 := x5.keep m6 fun q hq h => by have := hy q h; have := x4l q hq; omega
  have m06 : Mod (fun _ => False) H H6 := (m04.trans m5).trans' m6 fun q hq h => by have := hy q h; omega
  rintro b rfl H7 h7
  obtain ⟨g7, m7, s7⟩ := push_facts h7
  have m07 := m06.trans m7
  have x7 := x6.keep m7 fun _ _ e => e
  have o7 := o6.keep m7 fun _ _ e => e
  have raw7 := hraw.keep m07 fun _ _ e => e
  have cell : ∀ (H' : Hp) (j : Nat) (w : Value), Mod (fun _ => False) H7 H' → ([slV raw, slV x, slV z] : List Value)[j]? = some w → Hp.cell? H' ((Addr.mk H6.size 0 none).add (j * 1)) = some w := fun H' j w m' hj => by
    have g := m'.get g7 fun e => e
    rw [Addr.add_loc, cell_of g, Nat.zero_add, Nat.mul_one]
    simpa [slV] using hj
  have l3 : ∀ H', Mod (fun _ => False) H7 H' → tephralaw09_ImageAny.l1 J0 (fv.toNat : Int) H6.size H' 3 (trueQ H) := fun H' m' => by
    apply tephralaw09_ImageAny.l1.step
    unfold tephralaw09_ImageAny.l1.body
    exact Br.no rfl ⟨rfl, m07.trans m'⟩
  have l2 : ∀ H', Mod (fun _ => False) H7 H' → tephralaw09_ImageAny.l1 J0 (fv.toNat : Int) H6.size H' 2 (trueQ H) := fun H' m' =>
    any_round (k := 2) (by omega) (cell H' 2 _ m' rfl) ((Own.rows o7).keep m' fun _ _ e => e) (by rw [List.length_append]; omega) fun H'' m'' => l3 H'' (m'.trans m'')
  have l1 : ∀ H', Mod (fun _ => False) H7 H' → tephralaw09_ImageAny.l1 J0 (fv.toNat : Int) H6.size H' 1 (trueQ H) := fun H' m' =>
    any_round (k := 1) (by omega) (cell H' 1 _ m' rfl) ((Own.rows x7).keep m' fun _ _ e => e) (by omega) fun H'' m'' => l2 H'' (m'.trans m'')
  exact any_round (k := 0) (by omega) (cell H7 0 _ (Mod.refl _ _) rfl) raw7 (by omega) fun H'' m'' => l1 H'' m''
end
end Go.Proofs
