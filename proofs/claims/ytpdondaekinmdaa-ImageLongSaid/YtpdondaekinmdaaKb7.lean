/- LAYER 09, plain: what frames there are of frames that are laid, whole or cut. -/
import Derived.Test.YtpdondaekinmdaaKb4
import Derived.Test.YtpdondaekinmdaaKq4
import Derived.Test.YtpdondaekinmdaaKe5
set_option linter.all false
set_option linter.constructorNameAsVariable false
namespace Go.Proofs
open Go Go.KC

/-- Frames of rows, one behind the other. -/
def flatF (rows : List (List UInt8)) : List UInt8 := (rows.map frB).flatten
theorem flatF_cons (x : List UInt8) (r : List (List UInt8)) : flatF (x :: r) = frB x ++ flatF r := rfl
theorem flatF_append (a b : List (List UInt8)) : flatF (a ++ b) = flatF a ++ flatF b := by unfold flatF; rw [List.map_append, List.flatten_append]
def Small (rows : List (List UInt8)) : Prop := ∀ x ∈ rows, x.length ≤ 16384

theorem frB_num (xs r : List UInt8) (h : xs.length ≤ 16384) : num4 (frB xs ++ r) = xs.length := by
  unfold frB
  rw [List.append_assoc, List.append_assoc, List.append_assoc]
  exact num_be _ ⟨by omega, by omega⟩ _
theorem oneM_frB {xs : List UInt8} (h : xs.length ≤ 16384) (r : List UInt8) : oneM (frB xs ++ r) = (xs, 9 + (xs.length : Int), 0) := by
  have hl : (frB xs ++ r).length = xs.length + 9 + r.length := by rw [List.length_append, frB_len]
  have hn := frB_num xs r h
  have hc := crc_range xs
  have e8 : (frB xs ++ r).drop 8 = xs ++ [229] ++ r := by
    unfold frB
    rw [List.append_assoc (be _ 4 ++ be _ 4), List.append_assoc (be _ 4 ++ be _ 4), List.drop_left' (by simp [be_length])]
  have e4 : (frB xs ++ r).drop 4 = be (crc xs) 4 ++ (xs ++ [229] ++ r) := by
    unfold frB
    rw [List.append_assoc, List.append_assoc, List.append_assoc, List.drop_left' (by simp [be_length])]
    simp only [List.append_assoc]
  have eg : (frB xs ++ r).getD (8 + xs.length) 0 = 229 := by
    have : (frB xs ++ r)[8 + xs.length]? = ((frB xs ++ r).drop 8)[xs.length]? := by rw [List.getElem?_drop]
    rw [List.getD_eq_getElem?_getD, this, e8, List.append_assoc, List.getElem?_append_right (Nat.le_refl _), Nat.sub_self]; rfl
  unfold oneM
  rw [hn, if_neg (by omega), if_neg (by omega), if_neg (by omega), Int.toNat_natCast, eg, if_neg (by simp), e4, num_be _ ⟨hc.1, hc.2⟩, e8, List.append_assoc, List.take_left, if_neg (by simp)]
  refine Prod.ext rfl (Prod.ext ?_ rfl)
  show 8 + (xs.length : Int) + 1 = 9 + (xs.length : Int); omega
theorem oneM_torn {xs : List UInt8} (h : xs.length ≤ 16384) (r : List UInt8) {n : Nat} (hn : n < (frB xs).length) : (oneM ((frB xs ++ r).take n)).2.2 = 3 := by
  have hfl := frB_len xs
  have hl : ((frB xs ++ r).take n).length = n := by rw [List.length_take, List.length_append]; omega
  unfold oneM
  by_cases h8 : n < 8
  · rw [if_pos (by rw [hl]; exact h8)]
  · rw [if_neg (by rw [hl]; exact h8)]
    have e : num4 ((frB xs ++ r).take n) = xs.length := by
      have : ∃ t, (frB xs ++ r).take n = be (xs.length : Int) 4 ++ t := by
        refine ⟨((be (crc xs) 4 ++ xs ++ [229]) ++ r).take (n - 4), ?_⟩
        unfold frB
        rw [List.append_assoc (be (xs.length : Int) 4), List.append_assoc (be (xs.length : Int) 4), List.append_assoc (be (xs.length : Int) 4), List.take_append, be_length, List.take_of_length_le (by rw [be_length]; omega)]
      obtain ⟨t, ht⟩ := this
      rw [ht]
      exact num_be _ ⟨by omega, by omega⟩ _
    rw [e, if_neg (by omega), if_pos (by rw [hl]; omega)]

theorem frGo_more : ∀ (f g : Nat) (xs : List UInt8), xs.length < f → xs.length < g → frGo f xs = frGo g xs
  | 0, _, _, h, _ => by omega
  | _, 0, _, _, h => by omega
  | f + 1, g + 1, xs, hf, hg => by
    unfold frGo
    by_cases h : (oneM xs).2.2 = 0
    · rw [if_pos h, if_pos h]
      have hok := oneM_ok h
      rw [frGo_more f g (xs.drop (oneM xs).2.1.toNat) (by rw [List.length_drop]; omega) (by rw [List.length_drop]; omega)]
    · rw [if_neg h, if_neg h]
theorem frames_step {xs : List UInt8} (h : xs.length ≤ 16384) (r : List UInt8) : frames (frB xs ++ r) = (xs :: (frames r).1, (frB xs).length + (frames r).2) := by
  have ho := oneM_frB h r
  unfold frames
  show (if (oneM (frB xs ++ r)).2.2 = 0 then _ else _) = _
  rw [ho, if_pos rfl]
  have e : (9 + (xs.length : Int)).toNat = (frB xs).length := by rw [frB_len]; omega
  dsimp only
  rw [e, List.drop_left, frGo_more _ (r.length + 1) r (by rw [List.length_append, frB_len]; omega) (by omega)]
theorem frames_none {xs : List UInt8} (h : (oneM xs).2.2 ≠ 0) : frames xs = ([], 0) := by
  unfold frames
  show (if (oneM xs).2.2 = 0 then _ else _) = _
  rw [if_neg h]
theorem frames_nil : frames [] = ([], 0) := frames_none (by decide)
theorem frames_app : ∀ {rows : List (List UInt8)}, Small rows → ∀ t, frames (flatF rows ++ t) = (rows ++ (frames t).1, (flatF rows).length + (frames t).2)
  | [], _, t => by simp [flatF]
  | x :: r, h, t => by
    rw [flatF_cons, List.append_assoc, frames_step (h x (by simp)), frames_app (fun y hy => h y (List.mem_cons_of_mem _ hy)) t]
    simp [List.length_append, Nat.add_assoc]
theorem frames_flat {rows : List (List UInt8)} (h : Small rows) : frames (flatF rows) = (rows, (flatF rows).length) := by
  have := frames_app h []
  rw [List.append_nil, frames_nil] at this
  simpa using this
/-- Frames that are cut. -/
theorem frames_cut : ∀ {rows : List (List UInt8)}, Small rows → ∀ n, ∃ m, m ≤ rows.length ∧ (flatF (rows.take m)).length ≤ n ∧ (m < rows.length → n < (flatF (rows.take (m + 1))).length) ∧ frames ((flatF rows).take n) = (rows.take m, (flatF (rows.take m)).length)
  | [], _, n => ⟨0, by simp, by simp [flatF], by simp, by simp [flatF, frames_nil]⟩
  | x :: r, h, n => by
    have hx := h x (by simp)
    by_cases hn : n < (frB x).length
    · refine ⟨0, by simp, by simp [flatF], fun _ => by simpa [flatF] using hn, ?_⟩
      rw [flatF_cons, frames_none (by rw [oneM_torn hx _ hn]; simp)]
      simp [flatF]
    · obtain ⟨m, h1, h2, h3, h4⟩ := frames_cut (rows := r) (fun y hy => h y (List.mem_cons_of_mem _ hy)) (n - (frB x).length)
      refine ⟨m + 1, by simp; omega, ?_, fun hm => ?_, ?_⟩
      · rw [List.take_succ_cons, flatF_cons, List.length_append]; omega
      · have := h3 (by simpa using hm)
        rw [List.take_succ_cons, flatF_cons, List.length_append]; omega
      · rw [flatF_cons, List.take_append, List.take_of_length_le (by omega), frames_step hx, h4, List.take_succ_cons, flatF_cons, List.length_append]
end Go.Proofs

/- LAYER 09: a file's first frame; frames of rows; Part, Entry. -/
set_option linter.all false
set_option linter.constructorNameAsVariable false
namespace Go.Proofs
open Go Go.KC

/-- A file's head. -/
def hdB (k f t : Int) : List UInt8 := [byteAt k 0] ++ be f 8 ++ be t 8
theorem hdB_len (k f t : Int) : (hdB k f t).length = 17 := by simp [hdB, be_length]

theorem NewBytes.of {H H1 H' : Hp} {xs : List UInt8} {r : Value} (m : Mod (fun _ => False) H H1) (h : NewBytes H1 xs r H') : NewBytes H xs r H' := by
  obtain ⟨x, rfl, o, k, f⟩ := h
  exact ⟨x, rfl, o, m.trans k, fun g hg => Nat.le_trans m.size (f g hg)⟩

section
variable {H : Hp} {k fv t : Int}
theorem hd_walk {K : Value → Hp → Prop} (hK : ∀ r H5, NewBytes H (hdB k fv t) r H5 → K r H5) : SCalls Try.prog pack_Writer_Byte.id [.pointer (some (Addr.mk H.size 0 none)), .int .u8 (IntKind.u8.wrap (k))] (Array.push H (.cells #[.slice none 0 0] T_pack_Writer)) (fun r H2 => ∃ x : Option Addr, r = .pointer x ∧ 
 SCalls Try.prog pack_Writer_Num.id [.pointer x, .int .i64 fv] H2 (fun r1 H3 => ∃ x1 : Option Addr, r1 = .pointer x1 ∧ 
 SCalls Try.prog pack_Writer_Num.id [.pointer x1, .int .i64 t] H3 (fun r2 H4 => ∃ x2 : Option Addr, r2 = .pointer x2 ∧ 
 SCalls Try.prog pack_Writer_Bytes.id [.pointer x2] H4 K))) := by
  have w0 := Wr.new H
  have q0 : Fresh H (Array.push H (.cells #[.slice none 0 0] T_pack_Writer)) := Mod.push _ _ _
  rw [byteAt_zero]
  refine (Writer_Byte_spec w0 (by simp)).mono fun r H1 h1 => ⟨_, h1.1, ?_⟩
  obtain ⟨-, F1, w1, k1, f1⟩ := h1
  refine (Writer_Num_spec w1 (by simp [be_length])).mono fun r H2 h2 => ⟨_, h2.1, ?_⟩
  have h2' := WrPost.trans k1 f1 h2
  obtain ⟨-, F2, w2, k2, f2⟩ := h2'
  refine (Writer_Num_spec w2 (by simp [be_length])).mono fun r H3 h3 => ⟨_, h3.1, ?_⟩
  have h3' := WrPost.trans k2 f2 h3
  obtain ⟨-, F3, w3, k3, f3⟩ := h3'
  have q3 := q0.step k3 fun g hg => by simp at hg; omega
  have e3 : [] ++ [byteAt k 0] ++ be fv 8 ++ be t 8 = hdB k fv t := by simp [hdB]
  rw [e3] at w3
  refine (Writer_Bytes_spec w3 (by rw [hdB_len]; omega)).mono ?_
  rintro r H4 ⟨x, rfl, ho, m4, hx⟩
  refine hK _ _ ⟨x, rfl, ho, (q3.step m4 fun _ h => h.elim).mod, fun g hg => ?_⟩
  have := hx g hg
  have := q3.size
  omega
theorem head_spec : SCalls Try.prog image_head.id [.int .i64 k, .int .i64 fv, .int .i64 t] H (NewBytes H (hdB k fv t)) := by
  apply image_head.calls
  unfold image_head.vc
  rintro b rfl H1 rfl
  refine hd_walk fun r H5 h => ?_
  have h' := h
  obtain ⟨x, rfl, -⟩ := h'
  exact ⟨x, rfl, h⟩
theorem law_head_spec : SCalls Try.prog tephralaw09_head.id [.int .i64 k, .int .i64 fv, .int .i64 t] H (TellPost H (.string ⟨(frB (hdB k fv t)).toArray⟩)) := by
  apply tephralaw09_head.calls
  unfold tephralaw09_head.vc
  rintro b rfl H1 rfl
  refine hd_walk fun r H5 h => ?_
  obtain ⟨x, rfl, o, m, -⟩ := h
  refine ⟨x, rfl, (Make_spec (Own.rows o)).mono ?_⟩
  rintro r H6 (⟨-, y, rfl, o2, m2, -⟩ | ⟨h, -⟩)
  · refine ⟨y, 0, rfl, b2s_imp (b2s_rows (Own.rows o2) rfl) ?_⟩
    rintro s rfl
    exact ⟨rfl, m.trans m2⟩
  · rw [hdB_len] at h; omega
end

section
variable {H : Hp} {x : Sl} {xs : List UInt8}
/-- What form tells of bytes: their frame, if they are not too many. -/
def frS (xs : List UInt8) : List UInt8 := if xs.length ≤ 16384 then frB xs else []
theorem form_spec (hx : Rows H x 1 (xs.map bv)) : SCalls Try.prog tephralaw09_form.id [.slice x.a x.len x.cap] H (TellPost H (.string ⟨(frS xs).toArray⟩)) := by
  apply tephralaw09_form.calls
  unfold tephralaw09_form.vc
  refine (Make_spec hx).mono ?_
  rintro r H6 (⟨h, y, rfl, o2, m2, -⟩ | ⟨h, rfl, m2⟩)
  · refine ⟨y, 0, rfl, b2s_imp (b2s_rows (Own.rows o2) rfl) ?_⟩
    rintro s rfl
    exact ⟨by unfold frS; rw [if_pos h], m2⟩
  · refine ⟨⟨none, 0, 0⟩, 4, rfl, b2s_imp (b2s_rows (ys := []) (x := ⟨none, 0, 0⟩) (Own.rows (Own.nil _ T_uint8 1)) rfl) ?_⟩
    rintro s rfl
    exact ⟨by unfold frS; rw [if_neg (by omega)], m2⟩

/-- What frames answers. -/
def FrPost (H : Hp) (l : List (List UInt8)) (r : Value) (H' : Hp) : Prop :=
  (Small l ∧ ∃ y : Sl, r = .tuple #[.slice y.a y.len y.cap, .int .i64 0] ∧ Own H' y T_uint8 1 ((flatF l).map bv) ∧ Mod (fun _ => False) H H' ∧ ∀ q ∈ y.blk, H.size ≤ q) ∨
  (¬ Small l ∧ r = .tuple #[.slice none 0 0, .int .i64 4] ∧ Mod (fun _ => False) H H')

theorem flatF_take_succ {l : List (List UInt8)} {j : Nat} {y : List UInt8} (hy : l[j]? = some y) : flatF (l.take (j + 1)) = flatF (l.take j) ++ frB y := by
  rw [List.take_add_one, flatF_append, hy]; simp [flatF]

theorem frames_loop {rows : Sl} {l : List (List UInt8)} {zs : List Sl} {H0 : Hp} (hr : Rows H0 rows 1 (zs.map slV)) (hn : zs.length = l.length)
    (hz : ∀ (i : Nat) (z : Sl) (y : List UInt8), zs[i]? = some z → l[i]? = some y → Rows H0 z 1 (y.map bv)) (hlen : l.length ≤ 100) :
    ∀ (d j : Nat) (H1 : Hp) (out : Sl), j + d = l.length → (∀ y ∈ l.take j, y.length ≤ 16384) → Own H1 out T_uint8 1 ((flatF (l.take j)).map bv) → Mod (fun _ => False) H0 H1 → (∀ q ∈ out.blk, H0.size ≤ q) → (flatF (l.take j)).length ≤ j * 20000 →
      image_frames.l1 J0 rows H1 out (j : Int) (FrPost H0 l) := by
  intro d
  have hrl : zs.length = rows.len := by have := hr.1; simpa using this
  induction d with
  | zero =>
    intro j H1 out hj hs ho m hf hb
    have hjl : l.take j = l := List.take_of_length_le (by omega)
    apply image_frames.l1.step
    unfold image_frames.l1.body
    refine Br.mk (fun h => ?_) fun _ => ?_
    · have := of_decide_eq_true h; omega
    · rw [hjl] at ho hs
      exact Or.inl ⟨hs, out, rfl, ho, m, hf⟩
  | succ d ih =>
    intro j H1 out hj hs ho m hf hb
    have hjl : j < l.length := by omega
    obtain ⟨y, hy⟩ : ∃ y, l[j]? = some y := ⟨_, List.getElem?_eq_getElem hjl⟩
    obtain ⟨z, hzj⟩ : ∃ z, zs[j]? = some z := ⟨_, List.getElem?_eq_getElem (by omega)⟩
    apply image_frames.l1.step
    unfold image_frames.l1.body
    refine Br.mk (fun h => ?_) fun h => ?_
    rotate_left
    · have := of_decide_eq_false h; omega
    have hrj := Rows.get (keepF hr m) (j := j) (v := slV z) (by rw [List.getElem?_map, hzj]; rfl)
    obtain ⟨a, ha, hc⟩ := hrj
    refine ⟨⟨by omega, of_decide_eq_true h⟩, vPtr.mk a ha ⟨z, by rw [Int.toNat_natCast, Nat.mul_one]; exact hc, ?_⟩⟩
    refine (Make_spec (keepF (hz j z y hzj hy) m)).mono ?_
    rintro r H2 (⟨h3, w, rfl, o2, m2, f2⟩ | ⟨h3, rfl, m2⟩)
    · refine ⟨w, 0, rfl, Br.mk (fun h => by simp at h) fun _ => ?_⟩
      have hwl : (frB y).length = w.len := by have := o2.1; simpa using this
      have lo := Own.lt ho
      have fl := frB_len y
      refine app_bytes9 (ho.keep m2 fun _ _ e => e) (src := .slice w.a w.len w.cap) (ys := frB y) (rows_src (Own.rows o2)) hwl (by omega) fun ap H3 o3 m3 b3 => ?_
      have e1 : w64 ((j : Int) + 1) = ((j + 1 : Nat) : Int) := by rw [w64_id (by omega) (by omega)]; rfl
      rw [e1]
      have m23 := (m.trans m2).trans' m3 (m := fun _ => False) fun q hq h => by have := hf q h; omega
      have z2 := m2.size
      have z1 := m.size
      have ef := flatF_take_succ hy
      refine ih (j + 1) H3 ap (by omega) (fun y' hy' => ?_) (by rw [ef]; exact o3) m23 (fun q hq => ?_) (by rw [ef, List.length_append]; omega)
      · rw [List.take_add_one, hy] at hy'
        simp at hy'
        rcases hy' with hy' | rfl
        · exact hs y' hy'
        · exact h3
      · rcases b3 q hq with h | h
        · exact hf q h
        · omega
    · refine ⟨⟨none, 0, 0⟩, 4, rfl, Br.mk (fun _ => ?_) fun h => by simp at h⟩
      exact Or.inr ⟨fun hS => by have := hS y (List.mem_of_getElem? hy); omega, rfl, m.trans m2⟩

theorem frames_spec {rows : Sl} {l : List (List UInt8)} {zs : List Sl} (hr : Rows H rows 1 (zs.map slV)) (hn : zs.length = l.length)
    (hz : ∀ (i : Nat) (z : Sl) (y : List UInt8), zs[i]? = some z → l[i]? = some y → Rows H z 1 (y.map bv)) (hlen : l.length ≤ 100) :
    SCalls Try.prog image_frames.id [.slice rows.a rows.len rows.cap] H (FrPost H l) := by
  apply image_frames.calls
  unfold image_frames.vc
  exact frames_loop hr hn hz hlen l.length 0 H ⟨none, 0, 0⟩ (by omega) (by simp) (Own.nil _ _ _) (Mod.refl _ _) (by simp [Sl.blk]) (by simp [flatF])

theorem rows_one {e : TypeId} (z : Sl) : Rows (Array.push H (.cells #[slV z] e)) ⟨some (Addr.mk H.size 0 none), 1, 1⟩ 1 ([z].map slV) := rows_new [slV z] 1 rfl

theorem one_frame {e : TypeId} {z : Sl} {y : List UInt8} {H2 : Hp} (hz : Rows H z 1 (y.map bv)) (h2 : H2 = Array.push H (.cells #[.slice z.a z.len z.cap] e)) : SCalls Try.prog image_frames.id [.slice (some (Addr.mk H.size 0 none)) 1 1] H2 (FrPost H2 [y]) := by
  subst h2
  refine frames_spec (rows := ⟨some (Addr.mk H.size 0 none), 1, 1⟩) (zs := [z]) (rows_one z) rfl (fun i z' y' h1 h2 => ?_) (by simp)
  match i, h1, h2 with
  | 0, h1, h2 =>
    simp at h1 h2
    subst h1 h2
    exact keepF hz (Mod.push _ _ _)
theorem flatF_one (y : List UInt8) : flatF [y] = frB y := by simp [flatF]
theorem Part_spec {fv : Int} : SCalls Try.prog image_Part.id [.int .i64 fv] H (NewBytes H (frB (hdB 2 fv fv))) := by
  apply image_Part.calls
  unfold image_Part.vc
  refine head_spec.mono ?_
  rintro r H1 ⟨x, rfl, o1, m1, f1⟩
  refine ⟨x, rfl, ?_⟩
  rintro b rfl H2 h2
  obtain ⟨g2, m2, s2⟩ := push_facts h2
  refine (one_frame (Own.rows o1) h2).mono ?_
  rintro r H3 (⟨-, y, rfl, o3, m3, f3⟩ | ⟨h, -⟩)
  · refine ⟨y, 0, rfl, y, rfl, by rw [← flatF_one]; exact o3, (m1.trans m2).trans m3, fun q hq => ?_⟩
    have := f3 q hq
    have := m1.size
    omega
  · exact absurd (fun y hy => by simp at hy; subst hy; rw [hdB_len]; omega) h
theorem Entry_spec {e : En} (hc : e.cmd.small) (hl : e.bytes.length ≤ 16384) : SCalls Try.prog image_Entry.id [e.val] H (NewBytes H (frB e.bytes)) := by
  apply image_Entry.calls
  unfold image_Entry.vc
  rintro H1 rfl
  have m0 : Mod (fun _ => False) H (holes H 1) := Mod.holes _ _ _
  refine (cmBytes_spec (e := e) hc).mono ?_
  rintro r H1 ⟨x, rfl, o1, m1, f1⟩
  refine ⟨x, rfl, ?_⟩
  rintro b rfl H2 h2
  obtain ⟨g2, m2, s2⟩ := push_facts h2
  refine (one_frame (Own.rows o1) h2).mono ?_
  rintro r H3 (⟨-, y, rfl, o3, m3, f3⟩ | ⟨h, -⟩)
  · refine ⟨y, 0, rfl, y, rfl, by rw [← flatF_one]; exact o3, ((m0.trans m1).trans m2).trans m3, fun q hq => ?_⟩
    have := f3 q hq
    have := m1.size
    have := m0.size
    omega
  · exact absurd (fun y hy => by simp at hy; subst hy; exact hl) h
end
end Go.Proofs

/- LAYER 09: a file's rows; entries of a file: ReadPart. -/
set_option linter.all false
set_option linter.constructorNameAsVariable false
namespace Go.Proofs
open Go Go.KC

theorem frGo_len : ∀ (f : Nat) (xs : List UInt8), 9 * (frGo f xs).1.length ≤ (frGo f xs).2 ∧ (frGo f xs).2 ≤ xs.length
  | 0, xs => ⟨Nat.le_refl _, Nat.zero_le _⟩
  | f + 1, xs => by
    by_cases h : (oneM xs).2.2 = 0
    · have hok := oneM_ok h
      have ih := frGo_len f (xs.drop (oneM xs).2.1.toNat)
      rw [List.length_drop] at ih
      have e : frGo (f + 1) xs = ((oneM xs).1 :: (frGo f (xs.drop (oneM xs).2.1.toNat)).1, (oneM xs).2.1.toNat + (frGo f (xs.drop (oneM xs).2.1.toNat)).2) := by
        show (if _ then _ else _) = _; rw [if_pos h]
      rw [e, List.length_cons]
      show _ ≤ (oneM xs).2.1.toNat + _ ∧ (oneM xs).2.1.toNat + _ ≤ _
      omega
    · have e : frGo (f + 1) xs = ([], 0) := by show (if _ then _ else _) = _; rw [if_neg h]
      rw [e]; exact ⟨Nat.le_refl _, Nat.zero_le _⟩
theorem frames_len (xs : List UInt8) : 9 * (frames xs).1.length ≤ (frames xs).2 ∧ (frames xs).2 ≤ xs.length := frGo_len _ _

/-- What a first row says: whether it is read whole, and its kind. -/
def hdRd (y : List UInt8) : Int × Bool × List UInt8 :=
  ((rdByte false y).1, (rdNum (rdNum (rdByte false y).2.1 (rdByte false y).2.2).2.1 (rdNum (rdByte false y).2.1 (rdByte false y).2.2).2.2).2)
def hdOK (k : Int) (y : List UInt8) : Prop := (hdRd y).2.1 = false ∧ (hdRd y).2.2 = [] ∧ (hdRd y).1 = k
instance (k : Int) (y : List UInt8) : Decidable (hdOK k y) := by unfold hdOK; exact inferInstance
theorem hdOK_inv {k : Int} {y : List UInt8} (h : hdOK k y) : ∃ f t, y = hdB k f t ∧ (-9223372036854775808 ≤ f ∧ f ≤ 9223372036854775807) ∧ (-9223372036854775808 ≤ t ∧ t ≤ 9223372036854775807) := by
  obtain ⟨h1, h2, h3⟩ := h
  unfold hdRd at h1 h2 h3
  dsimp only at h1 h2 h3
  obtain ⟨i1, i2, i3⟩ := rdNum_inv h1
  obtain ⟨j1, j2, j3⟩ := rdNum_inv i1
  obtain ⟨-, c, k2, k3⟩ := rdByte_inv j1
  rw [h2, List.append_nil] at i2
  refine ⟨_, _, ?_, j3, i3⟩
  have ec : byteAt k 0 = c := by
    have : (byteAt k 0).toNat = c.toNat := by
      have := byteAt_toNat k 0
      have hk : k = (c.toNat : Int) := by rw [← h3]; exact k2
      have hc := c.toNat_lt
      rw [hk] at this
      simp [Int.fdiv_one] at this
      rw [hk]; omega
    exact UInt8.toNat_inj.1 this
  unfold hdB
  rw [ec, List.append_assoc, ← i2, ← j2]
  exact k3
theorem hdOK_hdB {k f t : Int} (hk : 0 ≤ k ∧ k ≤ 255) (hf : -9223372036854775808 ≤ f ∧ f ≤ 9223372036854775807) (ht : -9223372036854775808 ≤ t ∧ t ≤ 9223372036854775807) : hdOK k (hdB k f t) := by
  have e1 : rdByte false (hdB k f t) = (k, false, be f 8 ++ be t 8) := by
    unfold hdB
    rw [List.append_assoc, List.singleton_append, rdByte_one]
    have := byteAt_toNat k 0
    simp [Int.fdiv_one] at this
    rw [this, Int.emod_eq_of_lt hk.1 (by omega)]
  have e2 : rdNum false (be f 8 ++ be t 8) = (f, false, be t 8) := rdNum_be hf.1 hf.2 _
  have e3 : rdNum false (be t 8) = (t, false, []) := by have := rdNum_be ht.1 ht.2 []; rwa [List.append_nil] at this
  have e : hdRd (hdB k f t) = (k, false, []) := by
    unfold hdRd; rw [e1]; dsimp only; rw [e2]; dsimp only; rw [e3]
  unfold hdOK; rw [e]; exact ⟨rfl, rfl, rfl⟩
theorem hdB_inj {k f t k' f' t' : Int} (hk : 0 ≤ k ∧ k ≤ 255) (hf : -9223372036854775808 ≤ f ∧ f ≤ 9223372036854775807) (ht : -9223372036854775808 ≤ t ∧ t ≤ 9223372036854775807)
    (hk' : 0 ≤ k' ∧ k' ≤ 255) (hf' : -9223372036854775808 ≤ f' ∧ f' ≤ 9223372036854775807) (ht' : -9223372036854775808 ≤ t' ∧ t' ≤ 9223372036854775807) (h : hdB k f t = hdB k' f' t') : k = k' ∧ f = f' ∧ t = t' := by
  unfold hdB at h
  rw [List.append_assoc, List.append_assoc, List.singleton_append, List.singleton_append, List.cons.injEq] at h
  obtain ⟨h1, h2⟩ := h
  obtain ⟨h3, h4⟩ := List.append_inj h2 (by rw [be_length, be_length])
  refine ⟨?_, by rw [← numOf_be8 hf.1 hf.2, h3, numOf_be8 hf'.1 hf'.2], by rw [← numOf_be8 ht.1 ht.2, h4, numOf_be8 ht'.1 ht'.2]⟩
  have a := byteAt_toNat k 0
  have b := byteAt_toNat k' 0
  rw [h1, b] at a
  simp [Int.fdiv_one] at a
  omega

section
variable {H : Hp} {x : Sl} {xs : List UInt8}
/-- Rows of bytes as they lie. -/
def RlAt (H : Hp) (out : Sl) (zs : List Sl) (l : List (List UInt8)) : Prop :=
  Rows H out 1 (zs.map slV) ∧ zs.length = l.length ∧ (∀ (i : Nat) (z : Sl) (y : List UInt8), zs[i]? = some z → l[i]? = some y → Rows H z 1 (y.map bv)) ∧ ∀ z ∈ zs, ∀ q ∈ z.blk, q < H.size
theorem RlAt.keep {H H' : Hp} {out : Sl} {zs : List Sl} {l : List (List UInt8)} (h : RlAt H out zs l) (m : Mod (fun _ => False) H H') : RlAt H' out zs l :=
  ⟨keepF h.1 m, h.2.1, fun i z y hz hy => keepF (h.2.2.1 i z y hz hy) m, fun z hz q hq => Nat.lt_of_lt_of_le (h.2.2.2 z hz q hq) m.size⟩
def rowsBad (xs : List UInt8) (k : Int) (many : Int) : Prop :=
  (frames xs).1 = [] ∨ (0 < many ∧ (rowsErr xs ≠ 0 ∨ ((frames xs).1.length : Int) ≠ many)) ∨ ¬ hdOK k ((frames xs).1.headD [])
def RsPost (H : Hp) (xs : List UInt8) (k many : Int) (r : Value) (H' : Hp) : Prop :=
  (rowsBad xs k many ∧ r = .tuple #[.slice none 0 0, .int .i64 0, .int .i64 10] ∧ Mod (fun _ => False) H H') ∨
  (¬ rowsBad xs k many ∧ ∃ (out : Sl) (zs : List Sl), r = .tuple #[.slice out.a out.len out.cap, .int .i64 ((frames xs).2 : Int), .int .i64 0] ∧ RlAt H' out zs (frames xs).1 ∧ Mod (fun _ => False) H H')

theorem imgRows_spec {k many : Int} (hx : Rows H x 1 (xs.map bv)) (hl : xs.length ≤ 8000000) : SCalls Try.prog image_rows.id [.slice x.a x.len x.cap, .int .i64 k, .int .i64 many] H (RsPost H xs k many) := by
  apply image_rows.calls
  unfold image_rows.vc
  refine (frRows_spec hx hl).mono ?_
  rintro r H1 ⟨out, zs, rfl, o1, n1, z1, b1, m1⟩
  refine ⟨out, _, _, rfl, ?_⟩
  have hol : zs.length = out.len := by have := (Own.rows o1).1; simpa using this
  have bad : rowsBad xs k many → image_rows.k1 J0 k H1 out ((frames xs).2 : Int) true (RsPost H xs k many) := fun hb => by
    apply image_rows.k1.step
    unfold image_rows.k1.body
    exact Br.yes rfl (Or.inl ⟨hb, rfl, m1⟩)
  have good : (frames xs).1 ≠ [] → ¬ (0 < many ∧ (rowsErr xs ≠ 0 ∨ ((frames xs).1.length : Int) ≠ many)) → image_rows.k1 J0 k H1 out ((frames xs).2 : Int) false (RsPost H xs k many) := fun h1 h2 => by
    apply image_rows.k1.step
    unfold image_rows.k1.body
    refine Br.no rfl ?_
    obtain ⟨y, hy⟩ : ∃ y, (frames xs).1[0]? = some y := ⟨_, List.getElem?_eq_getElem (List.length_pos_iff.2 h1)⟩
    have hpos := List.length_pos_iff.2 h1
    obtain ⟨z, hz⟩ : ∃ z, zs[0]? = some z := ⟨_, List.getElem?_eq_getElem (by omega)⟩
    have hyd : (frames xs).1.headD [] = y := by
      cases hf : (frames xs).1 with
      | nil => exact absurd hf h1
      | cons a b => rw [hf] at hy; simpa using hy
    obtain ⟨a, ha, hc⟩ := Rows.get (Own.rows o1) (j := 0) (v := slV z) (by rw [List.getElem?_map, hz]; rfl)
    rw [add_zero_of] at hc
    refine ⟨by omega, vPtr.mk a ha ⟨z, hc, ?_⟩⟩
    refine (Of_spec (D := z.blk) (z1 0 z y hz hy) (fun _ h => h) (b1 z (List.mem_of_getElem? hz))).mono ?_
    rintro r H2 ⟨rfl, m2, d2⟩
    have f2 : Fresh H1 H2 := Mod.mono m2 fun _ _ h => h.elim
    refine ⟨_, rfl, (Reader_Byte_spec d2).mono ?_⟩
    rintro r H3 ⟨rfl, m3, d3⟩
    have f3 := f2.step m3 fun g hg => by omega
    refine ⟨_, rfl, (Reader_Num_spec d3).mono ?_⟩
    rintro r H4 ⟨rfl, m4, d4⟩
    have f4 := f3.step m4 fun g hg => by omega
    refine ⟨_, rfl, (Reader_Num_spec d4).mono ?_⟩
    rintro r H5 ⟨rfl, m5, d5⟩
    have f5 := f4.step m5 fun g hg => by omega
    refine ⟨_, rfl, (Reader_Done_spec d5).mono ?_⟩
    rintro r H6 ⟨rfl, rfl⟩
    refine ⟨_, rfl, ?_⟩
    have m6 := m1.trans f5.mod
    have rl : RlAt H6 out zs (frames xs).1 := RlAt.keep ⟨Own.rows o1, n1, z1, b1⟩ f5.mod
    have hw := rdByte_range false y
    have hdef : hdOK k y ↔ (rdNum (rdNum (rdByte false y).2.1 (rdByte false y).2.2).2.1 (rdNum (rdByte false y).2.1 (rdByte false y).2.2).2.2).2.1 = false ∧ (rdNum (rdNum (rdByte false y).2.1 (rdByte false y).2.2).2.1 (rdNum (rdByte false y).2.1 (rdByte false y).2.2).2.2).2.2 = [] ∧ (rdByte false y).1 = k := Iff.rfl
    have hb : rowsBad xs k many ↔ ¬ hdOK k y := by
      unfold rowsBad; rw [hyd]
      exact ⟨fun h => (h.resolve_left h1).resolve_left h2, fun h => Or.inr (Or.inr h)⟩
    rw [w64_id (x := (rdByte false y).1) (by omega) (by omega)]
    generalize hc0 : (rdByte false y).1 = c at *
    generalize (rdNum (rdNum (rdByte false y).2.1 (rdByte false y).2.2).2.1 (rdNum (rdByte false y).2.1 (rdByte false y).2.2).2.2).2 = p at *
    obtain ⟨p1, p2⟩ := p
    dsimp only at hdef ⊢
    have fin : ∀ b : Bool, (b = true ↔ ¬ hdOK k y) → image_rows.k2 J0 out ((frames xs).2 : Int) H6 b (RsPost H xs k many) := fun b hbb => by
      apply image_rows.k2.step
      unfold image_rows.k2.body
      cases b with
      | true => exact Br.yes rfl (Or.inl ⟨hb.2 (hbb.1 rfl), rfl, m6⟩)
      | false => exact Br.no rfl (Or.inr ⟨fun h => by have := hbb.2 (hb.1 h); exact Bool.noConfusion this, out, zs, rfl, rl, m6⟩)
    refine Br.mk (fun h => fin true ?_) fun h => fin _ ?_
    · refine ⟨fun _ hh => ?_, fun _ => rfl⟩
      rw [hdef] at hh
      rw [hh.1, hh.2.1] at h
      exact Bool.noConfusion h
    · have hp : p1 = false ∧ p2 = [] := by
        cases p1 <;> cases p2 <;> simp_all
      rw [hdef, bne_iff_ne]
      simp [hp.1, hp.2]
  refine Br.mk (fun h => bad (Or.inl ?_)) fun h => ?_
  · exact List.length_eq_zero_iff.1 (by simp at h; omega)
  have hne : (frames xs).1 ≠ [] := fun hh => by rw [hh] at n1; simp at n1; subst n1; simp at hol; simp [← hol] at h
  refine Br.mk (fun h2 => ?_) fun h2 => good hne fun hh => by simp at h2; omega
  have h2' : 0 < many := of_decide_eq_true h2
  refine Br.mk (fun h3 => bad (Or.inr (Or.inl ⟨h2', Or.inl (by simpa using h3)⟩))) fun h3 => ?_
  have h3' : rowsErr xs = 0 := by simpa using h3
  by_cases h4 : ((frames xs).1.length : Int) ≠ many
  · have : (((out.len : Nat) : Int) != many) = true := by rw [bne_iff_ne, ← hol, n1]; exact h4
    rw [this]
    exact bad (Or.inr (Or.inl ⟨h2', Or.inr h4⟩))
  · have : (((out.len : Nat) : Int) != many) = false := by rw [← hol, n1]; simpa using h4
    rw [this]
    exact good hne fun hh => hh.2.elim (fun h => h h3') h4
end
end Go.Proofs
