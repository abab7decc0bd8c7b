/- LAYER 09: a file's first frame; frames of rows; Part, Entry. -/
import Derived.Test.YtpdondaekinmdaaKb5
import Derived.Test.YtpdondaekinmdaaKq4
set_option linter.all false
set_option linter.constructorNameAsVariable false
namespace Go.Proofs
open Go Go.KC

/-- A file's head. -/
def hdB (k f t : Int) : List UInt8 := [byteAt k 0] ++ be f 8 ++ be t 8
theorem hdB_len (k f t : Int) : (hdB k f t).length = 17 := by simp [hdB, be_length]

theorem NewBytes.of {H H1 H' : Hp} {xs : List UInt8} {r : Value} (m : Mod (fun _ => False) H H1) (h : NewBytes H1 xs r H') : NewBytes H xs r H' := by
  obtain ⟨x, rfl, o, k, f⟩ := h
  exact ⟨x, rfl, o, m.trans k, fun g hg => Nat.le_trans m.size (f g hg)⟩

section
variable {H : Hp} {k fv t : Int}
theorem hd_walk {K : Value → Hp → Prop} (hK : ∀ r H5, NewBytes H (hdB k fv t) r H5 → K r H5) : SCalls Try.prog pack_Writer_Byte.id [.pointer (some (Addr.mk H.size 0 none)), .int .u8 (IntKind.u8.wrap (k))] (Array.push H (.cells #[.slice none 0 0] T_pack_Writer)) (fun r H2 => ∃ x : Option Addr, r = .pointer x ∧ 
 SCalls Try.prog pack_Writer_Num.id [.pointer x, .int .i64 fv] H2 (fun r1 H3 => ∃ x1 : Option Addr, r1 = .pointer x1 ∧ 
 SCalls Try.prog pack_Writer_Num.id [.pointer x1, .int .i64 t] H3 (fun r2 H4 => ∃ x2 : Option Addr, r2 = .pointer x2 ∧ 
 SCalls Try.prog pack_Writer_Bytes.id [.pointer x2] H4 K))) := by
  have w0 := Wr.new H
  have q0 : Fresh H (Array.push H (.cells #[.slice none 0 0] T_pack_Writer)) := Mod.push _ _ _
  rw [byteAt_zero]
  refine (Writer_Byte_spec w0 (by simp)).mono fun r H1 h1 => ⟨_, h1.1, ?_⟩
  obtain ⟨-, F1, w1, k1, f1⟩ := h1
  refine (Writer_Num_spec w1 (by simp [be_length])).mono fun r H2 h2 => ⟨_, h2.1, ?_⟩
  have h2' := WrPost.trans k1 f1 h2
  obtain ⟨-, F2, w2, k2, f2⟩ := h2'
  refine (Writer_Num_spec w2 (by simp [be_length])).mono fun r H3 h3 => ⟨_, h3.1, ?_⟩
  have h3' := WrPost.trans k2 f2 h3
  obtain ⟨-, F3, w3, k3, f3⟩ := h3'
  have q3 := q0.step k3 fun g hg => by simp at hg; omega
  have e3 : [] ++ [byteAt k 0] ++ be fv 8 ++ be t 8 = hdB k fv t := by simp [hdB]
  rw [e3] at w3
  refine (Writer_Bytes_spec w3 (by rw [hdB_len]; omega)).mono ?_
  rintro r H4 ⟨x, rfl, ho, m4, hx⟩
  refine hK _ _ ⟨x, rfl, ho, (q3.step m4 fun _ h => h.elim).mod, fun g hg => ?_⟩
  have := hx g hg
  have := q3.size
  omega
theorem head_spec : SCalls Try.prog image_head.id [.int .i64 k, .int .i64 fv, .int .i64 t] H (NewBytes H (hdB k fv t)) := by
  apply image_head.calls
  unfold image_head.vc
  rintro b rfl H1 rfl
  refine hd_walk fun r H5 h => ?_
  have h' := h
  obtain ⟨x, rfl, -⟩ := h'
  exact ⟨x, rfl, h⟩
theorem law_head_spec : SCalls Try.prog tephralaw09_head.id [.int .i64 k, .int .i64 fv, .int .i64 t] H (TellPost H (.string ⟨(frB (hdB k fv t)).toArray⟩)) := by
  apply tephralaw09_head.calls
  unfold tephralaw09_head.vc
  rintro b rfl H1 rfl
  refine hd_walk fun r H5 h => ?_
  obtain ⟨x, rfl, o, m, -⟩ := h
  refine ⟨x, rfl, (Make_spec (Own.rows o)).mono ?_⟩
  rintro r H6 (⟨-, y, rfl, o2, m2, -⟩ | ⟨h, -⟩)
  · refine ⟨y, 0, rfl, b2s_imp (b2s_rows (Own.rows o2) rfl) ?_⟩
    rintro s rfl
    exact ⟨rfl, m.trans m2⟩
  · rw [hdB_len] at h; omega
end

section
variable {H : Hp} {x : Sl} {xs : List UInt8}
/-- What form tells of bytes: their frame, if they are not too many. -/
def frS (xs : List UInt8) : List UInt8 := if xs.length ≤ 16384 then frB xs else []
theorem form_spec (hx : Rows H x 1 (xs.map bv)) : SCalls Try.prog tephralaw09_form.id [.slice x.a x.len x.cap] H (TellPost H (.string ⟨(frS xs).toArray⟩)) := by
  apply tephralaw09_form.calls
  unfold tephralaw09_form.vc
  refine (Make_spec hx).mono ?_
  rintro r H6 (⟨h, y, rfl, o2, m2, -⟩ | ⟨h, rfl, m2⟩)
  · refine ⟨y, 0, rfl, b2s_imp (b2s_rows (Own.rows o2) rfl) ?_⟩
    rintro s rfl
    exact ⟨by unfold frS; rw [if_pos h], m2⟩
  · refine ⟨⟨none, 0, 0⟩, 4, rfl, b2s_imp (b2s_rows (ys := []) (x := ⟨none, 0, 0⟩) (Own.rows (Own.nil _ T_uint8 1)) rfl) ?_⟩
    rintro s rfl
    exact ⟨by unfold frS; rw [if_neg (by omega)], m2⟩

/-- What frames answers. -/
def FrPost (H : Hp) (l : List (List UInt8)) (r : Value) (H' : Hp) : Prop :=
  (Small l ∧ ∃ y : Sl, r = .tuple #[.slice y.a y.len y.cap, .int .i64 0] ∧ Own H' y T_uint8 1 ((flatF l).map bv) ∧ Mod (fun _ => False) H H' ∧ ∀ q ∈ y.blk, H.size ≤ q) ∨
  (¬ Small l ∧ r = .tuple #[.slice none 0 0, .int .i64 4] ∧ Mod (fun _ => False) H H')

theorem flatF_take_succ {l : List (List UInt8)} {j : Nat} {y : List UInt8} (hy : l[j]? = some y) : flatF (l.take (j + 1)) = flatF (l.take j) ++ frB y := by
  rw [List.take_add_one, flatF_append, hy]; simp [flatF]

theorem frames_loop {rows : Sl} {l : List (List UInt8)} {zs : List Sl} {H0 : Hp} (hr : Rows H0 rows 1 (zs.map slV)) (hn : zs.length = l.length)
    (hz : ∀ (i : Nat) (z : Sl) (y : List UInt8), zs[i]? = some z → l[i]? = some y → Rows H0 z 1 (y.map bv)) (hlen : l.length ≤ 100) :
    ∀ (d j : Nat) (H1 : Hp) (out : Sl), j + d = l.length → (∀ y ∈ l.take j, y.length ≤ 16384) → Own H1 out T_uint8 1 ((flatF (l.take j)).map bv) → Mod (fun _ => False) H0 H1 → (∀ q ∈ out.blk, H0.size ≤ q) → (flatF (l.take j)).length ≤ j * 20000 →
      image_frames.l1 J0 rows H1 out (j : Int) (FrPost H0 l) := by
  intro d
  have hrl : zs.length = rows.len := by have := hr.1; simpa using this
  induction d with
  | zero =>
    intro j H1 out hj hs ho m hf hb
    have hjl : l.take j = l := List.take_of_length_le (by omega)
    apply image_frames.l1.step
    unfold image_frames.l1.body
    refine Br.mk (fun h => ?_) fun _ => ?_
    · have := of_decide_eq_true h; omega
    · rw [hjl] at ho hs
      exact Or.inl ⟨hs, out, rfl, ho, m, hf⟩
  | succ d ih =>
    intro j H1 out hj hs ho m hf hb
    have hjl : j < l.length := by omega
    obtain ⟨y, hy⟩ : ∃ y, l[j]? = some y := ⟨_, List.getElem?_eq_getElem hjl⟩
    obtain ⟨z, hzj⟩ : ∃ z, zs[j]? = some z := ⟨_, List.getElem?_eq_getElem (by omega)⟩
    apply image_frames.l1.step
    unfold image_frames.l1.body
    refine Br.mk (fun h => ?_) fun h => ?_
    rotate_left
    · have := of_decide_eq_false h; omega
    have hrj := Rows.get (keepF hr m) (j := j) (v := slV z) (by rw [List.getElem?_map, hzj]; rfl)
    obtain ⟨a, ha, hc⟩ := hrj
    refine ⟨⟨by omega, of_decide_eq_true h⟩, vPtr.mk a ha ⟨z, by rw [Int.toNat_natCast, Nat.mul_one]; exact hc, ?_⟩⟩
    refine (Make_spec (keepF (hz j z y hzj hy) m)).mono ?_
    rintro r H2 (⟨h3, w, rfl, o2, m2, f2⟩ | ⟨h3, rfl, m2⟩)
    · refine ⟨w, 0, rfl, Br.mk (fun h => by simp at h) fun _ => ?_⟩
      have hwl : (frB y).length = w.len := by have := o2.1; simpa using this
      have lo := Own.lt ho
      have fl := frB_len y
      refine app_bytes9 (ho.keep m2 fun _ _ e => e) (src := .slice w.a w.len w.cap) (ys := frB y) (rows_src (Own.rows o2)) hwl (by omega) fun ap H3 o3 m3 b3 => ?_
      have e1 : w64 ((j : Int) + 1) = ((j + 1 : Nat) : Int) := by rw [w64_id (by omega) (by omega)]; rfl
      rw [e1]
      have m23 := (m.trans m2).trans' m3 (m := fun _ => False) fun q hq h => by have := hf q h; omega
      have z2 := m2.size
      have z1 := m.size
      have ef := flatF_take_succ hy
      refine ih (j + 1) H3 ap (by omega) (fun y' hy' => ?_) (by rw [ef]; exact o3) m23 (fun q hq => ?_) (by rw [ef, List.length_append]; omega)
      · rw [List.take_add_one, hy] at hy'
        simp at hy'
        rcases hy' with hy' | rfl
        · exact hs y' hy'
        · exact h3
      · rcases b3 q hq with h | h
        · exact hf q h
        · omega
    · refine ⟨⟨none, 0, 0⟩, 4, rfl, Br.mk (fun _ => ?_) fun h => by simp at h⟩
      exact Or.inr ⟨fun hS => by have := hS y (List.mem_of_getElem? hy); omega, rfl, m.trans m2⟩

theorem frames_spec {rows : Sl} {l : List (List UInt8)} {zs : List Sl} (hr : Rows H rows 1 (zs.map slV)) (hn : zs.length = l.length)
    (hz : ∀ (i : Nat) (z : Sl) (y : List UInt8), zs[i]? = some z → l[i]? = some y → Rows H z 1 (y.map bv)) (hlen : l.length ≤ 100) :
    SCalls Try.prog image_frames.id [.slice rows.a rows.len rows.cap] H (FrPost H l) := by
  apply image_frames.calls
  unfold image_frames.vc
  exact frames_loop hr hn hz hlen l.length 0 H ⟨none, 0, 0⟩ (by omega) (by simp) (Own.nil _ _ _) (Mod.refl _ _) (by simp [Sl.blk]) (by simp [flatF])

theorem rows_one {e : TypeId} (z : Sl) : Rows (Array.push H (.cells #[slV z] e)) ⟨some (Addr.mk H.size 0 none), 1, 1⟩ 1 ([z].map slV) := rows_new [slV z] 1 rfl

theorem one_frame {e : TypeId} {z : Sl} {y : List UInt8} {H2 : Hp} (hz : Rows H z 1 (y.map bv)) (h2 : H2 = Array.push H (.cells #[.slice z.a z.len z.cap] e)) : SCalls Try.prog image_frames.id [.slice (some (Addr.mk H.size 0 none)) 1 1] H2 (FrPost H2 [y]) := by
  subst h2
  refine frames_spec (rows := ⟨some (Addr.mk H.size 0 none), 1, 1⟩) (zs := [z]) (rows_one z) rfl (fun i z' y' h1 h2 => ?_) (by simp)
  match i, h1, h2 with
  | 0, h1, h2 =>
    simp at h1 h2
    subst h1 h2
    exact keepF hz (Mod.push _ _ _)
theorem flatF_one (y : List UInt8) : flatF [y] = frB y := by simp [flatF]
theorem Part_spec {fv : Int} : SCalls Try.prog image_Part.id [.int .i64 fv] H (NewBytes H (frB (hdB 2 fv fv))) := by
  apply image_Part.calls
  unfold image_Part.vc
  refine head_spec.mono ?_
  rintro r H1 ⟨x, rfl, o1, m1, f1⟩
  refine ⟨x, rfl, ?_⟩
  rintro b rfl H2 h2
  obtain ⟨g2, m2, s2⟩ := push_facts h2
  refine (one_frame (Own.rows o1) h2).mono ?_
  rintro r H3 (⟨-, y, rfl, o3, m3, f3⟩ | ⟨h, -⟩)
  · refine ⟨y, 0, rfl, y, rfl, by rw [← flatF_one]; exact o3, (m1.trans m2).trans m3, fun q hq => ?_⟩
    have := f3 q hq
    have := m1.size
    omega
  · exact absurd (fun y hy => by simp at hy; subst hy; rw [hdB_len]; omega) h
theorem Entry_spec {e : En} (hc : e.cmd.small) (hl : e.bytes.length ≤ 16384) : SCalls Try.prog image_Entry.id [e.val] H (NewBytes H (frB e.bytes)) := by
  apply image_Entry.calls
  unfold image_Entry.vc
  rintro H1 rfl
  have m0 : Mod (fun _ => False) H (holes H 1) := Mod.holes _ _ _
  refine (cmBytes_spec (e := e) hc).mono ?_
  rintro r H1 ⟨x, rfl, o1, m1, f1⟩
  refine ⟨x, rfl, ?_⟩
  rintro b rfl H2 h2
  obtain ⟨g2, m2, s2⟩ := push_facts h2
  refine (one_frame (Own.rows o1) h2).mono ?_
  rintro r H3 (⟨-, y, rfl, o3, m3, f3⟩ | ⟨h, -⟩)
  · refine ⟨y, 0, rfl, y, rfl, by rw [← flatF_one]; exact o3, ((m0.trans m1).trans m2).trans m3, fun q hq => ?_⟩
    have := f3 q hq
    have := m1.size
    have := m0.size
    omega
  · exact absurd (fun y hy => by simp at hy; subst hy; exact hl) h
end
end Go.Proofs
