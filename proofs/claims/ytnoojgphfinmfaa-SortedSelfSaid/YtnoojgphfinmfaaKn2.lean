/- LAYER 05: acts; Of; SortedOrder. -/
import Derived.Test.YtnoojgphfinmfaaKn1
set_option linter.all false
set_option linter.constructorNameAsVariable false
namespace Go.Proofs
open Go Go.KC

/-- An act. -/
structure Ac where
  op : Int
  key : Int
  value : Int
def Ac.cells (a : Ac) : List Value := [.int .u8 a.op, .int .i8 a.key, .int .u16 a.value]
def Ac.ok (a : Ac) : Prop := (0 ≤ a.op ∧ a.op ≤ 255) ∧ (-128 ≤ a.key ∧ a.key ≤ 127) ∧ (0 ≤ a.value ∧ a.value ≤ 65535)
theorem Ac.len (a : Ac) : a.cells.length = 3 := rfl

section
variable {κ α : Type} [KO κ] [DecidableEq κ]
def spotOf (l : List (κ × α)) (k : κ) : Nat := (l.takeWhile fun p => decide (KO.lt p.1 k)).length
omit [DecidableEq κ] in
theorem spotOf_eq : ∀ {l : List (κ × α)} {k : κ} {i : Nat}, Spot l k i → i = spotOf l k
  | [], k, i, h => by have := h.le; simp at this; subst this; rfl
  | p :: l, k, i, h => by
    unfold spotOf
    by_cases c : KO.lt p.1 k
    · rw [List.takeWhile_cons_of_pos (by simpa using c)]
      cases i with
      | zero => exact (h.hi 0 (by simp) (Nat.le_refl _) c).elim
      | succ j =>
        have := spotOf_eq (l := l) (k := k) (i := j) ⟨by have := h.le; simp at this; omega, fun a ha hj => h.lo (a + 1) (by simp; omega) (by omega), fun a ha hj => h.hi (a + 1) (by simp; omega) (by omega)⟩
        simp [this, spotOf]
    · rw [List.takeWhile_cons_of_neg (by simpa using c)]
      cases i with
      | zero => rfl
      | succ j => exact (c (h.lo 0 (by simp) (by omega))).elim
/-- The list behind a Put. -/
def putL (l : List (κ × α)) (k : κ) (v : α) : List (κ × α) := putAt l k v (spotOf l k)
def delL (l : List (κ × α)) (k : κ) : List (κ × α) := delAt l k (spotOf l k)
end

/-- The map behind some acts. -/
def ofL (xs : List Ac) : List (Int × Int) := xs.foldl (fun l a => putL l a.key a.value) []
theorem ofL_snoc (xs : List Ac) (a : Ac) : ofL (xs ++ [a]) = putL (ofL xs) a.key a.value := by unfold ofL; rw [List.foldl_append]; rfl

section
variable {H : Hp}
theorem acts_get {x : Sl} {xs : List Ac} (h : Rows H x 3 (xs.map Ac.cells).flatten) {j : Nat} (hj : j < xs.length) : ∃ a, x.a = some a ∧ RowAt H (a.add (j * 3)) xs[j].cells := row_get' (by omega) Ac.len h hj
theorem acts_len {x : Sl} {xs : List Ac} (h : Rows H x 3 (xs.map Ac.cells).flatten) : xs.length = x.len := rows_len' (by omega) Ac.len h

theorem Of_spec {acts : Sl} {xs : List Ac} (hr : Rows H acts 3 (xs.map Ac.cells).flatten) (ok : ∀ a ∈ xs, a.ok) :
    SCalls Try.prog tephralaw05_Of.id [.slice acts.a acts.len acts.cap] H fun r H' => r = .pointer (some ⟨H.size, 0, none⟩) ∧ Mod (fun b => H.size ≤ b) H H' ∧ ∃ F, MI.Mp H' H.size 0 F (ofL (xs.take 60)) ∧ ∀ b ∈ F, H.size < b := by
  apply tephralaw05_Of.calls
  have hl := acts_len hr
  have hcap := hr.2.1
  have e : (if (60 : Int) < ((acts.len : Nat) : Int) then (60 : Int) else ((acts.len : Nat) : Int)).toNat = min 60 acts.len := min_toNat 60 acts.len
  refine ⟨⟨by split <;> omega, by split <;> omega⟩, ?_⟩
  have et : xs.take (min 60 acts.len) = xs.take 60 := by
    by_cases h : 60 ≤ acts.len
    · rw [Nat.min_eq_left h]
    · rw [Nat.min_eq_right (by omega), List.take_of_length_le (by omega), List.take_of_length_le (by omega)]
  have loop : ∀ (d j : Nat) (H1 : Hp) (F : List Nat), j + d = min 60 acts.len → Mod (fun b => H.size ≤ b) H H1 → MI.Mp H1 H.size 0 F (ofL (xs.take j)) → (∀ b ∈ F, H.size < b) → (ofL (xs.take j)).length ≤ j →
      tephralaw05_Of.l1 J0 acts H H1 (j : Int) fun r H' => r = .pointer (some ⟨H.size, 0, none⟩) ∧ Mod (fun b => H.size ≤ b) H H' ∧ ∃ F, MI.Mp H' H.size 0 F (ofL (xs.take 60)) ∧ ∀ b ∈ F, H.size < b := by
    intro d
    induction d with
    | zero =>
      intro j H1 F hj m h hF _
      apply tephralaw05_Of.l1.step; unfold tephralaw05_Of.l1.body
      rw [e]
      obtain rfl : j = min 60 acts.len := by omega
      rw [et] at h
      exact Br.no (by simp) ⟨rfl, m, F, h, hF⟩
    | succ d ih =>
      intro j H1 F hj m h hF hlen
      apply tephralaw05_Of.l1.step; unfold tephralaw05_Of.l1.body
      rw [e]
      have hjl : j < xs.length := by omega
      have hok := ok xs[j] (List.getElem_mem hjl)
      obtain ⟨a, ha, hrow⟩ := acts_get (Fresh.rows m hr) hjl
      have mh : Mod (fun _ => False) H1 (holes H1 1) := Mod.holes _ _ _
      have h' := h.mod mh
      have hs := m.size
      refine Br.yes (by simp; omega) ⟨⟨by omega, by omega⟩, vPtr.mk a (by rw [cutA_zero]; exact ha) ⟨_, _, _, by simpa [Ac.cells] using hrow, ?_⟩⟩
      rw [w64_id (x := xs[j].key) (by have := hok.2.1; omega) (by have := hok.2.1; omega), w64_id (x := xs[j].value) (by have := hok.2.2; omega) (by have := hok.2.2; omega)]
      refine MI.put_step (Bl := fun b => b < H.size) h' (fun b hb => ⟨by have := h'.lt.1; omega, by omega, fun hbF => by have := hF b hbF; omega⟩) (by omega) fun i H2 F2 sp M2 k2 d2 f2 => ?_
      rw [w64_id (x := (j : Int) + 1) (by omega) (by omega)]
      have hss : ofL (xs.take (j + 1)) = putAt (ofL (xs.take j)) xs[j].key xs[j].value i := by
        rw [List.take_succ_eq_append_getElem hjl, ofL_snoc, spotOf_eq sp]; rfl
      have := ih (j + 1) H2 F2 (by omega) ((m.trans (mh.mono fun _ _ e => e.elim)).trans' k2 fun b hb hn => by omega) (by rw [hss]; exact M2) (fun b hb => by
        rcases f2 b hb with h | h
        · exact hF b h
        · have := (h'.lt).1; omega) (by rw [hss, putAt_length sp.le]; split <;> omega)
      simpa using this
  exact loop (min 60 acts.len) 0 _ [] (by omega) (Mod.push _ _ _) (MI.Mp.new H _) (by simp) (by simp [ofL])

/-- What SortedOrder's maps have. -/
def OP (l : List (Int × Int)) (S : List Int) : Prop := Rise l ∧ ∀ k v, (k, v) ∈ l ↔ v = k * 2 ∧ k ∈ S
theorem OP.put {l : List (Int × Int)} {S S' : List Int} {k : Int} {i : Nat} (h : OP l S) (sp : Spot l k i) (hS : ∀ j, j ∈ S' ↔ j = k ∨ j ∈ S) : OP (putAt l k (k * 2) i) S' := by
  refine ⟨putAt_rise h.1 sp, fun j w => ?_⟩
  rw [putAt_mem h.1 sp, hS]
  by_cases c : j = k
  · subst c; rw [if_pos rfl]; simp
  · rw [if_neg c, h.2]; simp [c]

theorem SortedOrder_spec {acts : Sl} {xs : List Ac} (hr : Rows H acts 3 (xs.map Ac.cells).flatten) (ok : ∀ a ∈ xs, a.ok) :
    SCalls Try.prog tephralaw05_SortedOrder.id [.slice acts.a acts.len acts.cap] H fun r H' => r = .bool true ∧ Mod (fun _ => False) H H' := by
  apply tephralaw05_SortedOrder.calls
  have hl := acts_len hr
  have hcap := hr.2.1
  have e : (if (60 : Int) < ((acts.len : Nat) : Int) then (60 : Int) else ((acts.len : Nat) : Int)).toNat = min 60 acts.len := min_toNat 60 acts.len
  have r0 : (Array.push H (.cells #[.bool false] T_bool))[H.size]? = some (.cells #[.bool false] T_bool (0, 0)) := get_push_new _ _
  have m0 : Mod (fun b => H.size ≤ b) H (Array.push H (.cells #[.bool false] T_bool)) := Mod.push _ _ _
  refine awake05_spec.mono ?_
  rintro r H1 ⟨rfl, ma⟩
  refine ⟨_, rfl, Br.no rfl ⟨⟨by split <;> omega, by split <;> omega⟩, ?_⟩⟩
  have r1 := ma.get r0 fun e => e
  have m1 : Mod (fun b => H.size ≤ b) H H1 := m0.trans (ma.mono fun _ _ e => e.elim)
  have hs1 : H.size < H1.size := lt_of_get r1
  -- the two maps, and the variable
  have X0 := MI.Mp.new H1 T_sorted_Map_int_int
  have p1 : Mod (fun _ => False) H1 (Array.push H1 (.cells #[.slice none 0 0] T_sorted_Map_int_int)) := Mod.push _ _ _
  have s1 : (Array.push H1 (.cells #[.slice none 0 0] T_sorted_Map_int_int)).size = H1.size + 1 := spush
  generalize Array.push H1 (.cells #[.slice none 0 0] T_sorted_Map_int_int) = Ha at *
  have Y0 := MI.Mp.new Ha T_sorted_Map_int_int
  have p2 : Mod (fun _ => False) Ha (Array.push Ha (.cells #[.slice none 0 0] T_sorted_Map_int_int)) := Mod.push _ _ _
  have s2 : (Array.push Ha (.cells #[.slice none 0 0] T_sorted_Map_int_int)).size = H1.size + 2 := by rw [spush, s1]
  generalize Array.push Ha (.cells #[.slice none 0 0] T_sorted_Map_int_int) = Hb at *
  have b0 : (Array.push Hb (.cells #[.pointer none] T_p_sorted_Map_int_int))[Hb.size]? = some (.cells #[.pointer none] T_p_sorted_Map_int_int (0, 0)) := get_push_new _ _
  have p3 : Mod (fun _ => False) Hb (Array.push Hb (.cells #[.pointer none] T_p_sorted_Map_int_int)) := Mod.push _ _ _
  refine ⟨wr_at b0, ?_⟩
  have b1 := set_at (w := .pointer (some ⟨Ha.size, 0, none⟩)) b0
  have mb := mod_at (Array.push Hb (.cells #[.pointer none] T_p_sorted_Map_int_int)) Hb.size (.pointer (some ⟨Ha.size, 0, none⟩))
  have p4 : Mod (fun _ => False) Hb (Hp.setCell (Array.push Hb (.cells #[.pointer none] T_p_sorted_Map_int_int)) ⟨Hb.size, 0, none⟩ (.pointer (some ⟨Ha.size, 0, none⟩))) := p3.trans' mb fun b hb e => by omega
  generalize Hp.setCell (Array.push Hb (.cells #[.pointer none] T_p_sorted_Map_int_int)) ⟨Hb.size, 0, none⟩ (.pointer (some ⟨Ha.size, 0, none⟩)) = Hc at *
  rw [s1] at Y0 b1
  rw [s2] at b1
  have X1 := (X0.mod p2).mod p4
  have Y1 := Y0.mod p4
  have mc : Mod (fun b => H.size ≤ b) H Hc := (m1.trans (p1.mono fun _ _ e => e.elim)).trans ((p2.mono fun _ _ e => e.elim).trans (p4.mono fun _ _ e => e.elim))
  have rc : Hc[H.size]? = some (.cells #[.bool false] T_bool (0, 0)) := p4.get (p2.get (p1.get r1 fun e => e) fun e => e) fun e => e
  have loop : ∀ (d j : Nat) (H2 : Hp) (Fx Fy : List Nat) (lx ly : List (Int × Int)), j + d = min 60 acts.len → Mod (fun b => H.size ≤ b) H H2 → MI.Mp H2 H1.size 0 Fx lx → MI.Mp H2 (H1.size + 1) 0 Fy ly →
      H2[H1.size + 2]? = some (.cells #[.pointer (some ⟨H1.size + 1, 0, none⟩)] T_p_sorted_Map_int_int (0, 0)) → H2[H.size]? = some (.cells #[.bool false] T_bool (0, 0)) →
      (∀ b ∈ Fx, H1.size + 3 ≤ b ∧ b ∉ Fy) → (∀ b ∈ Fy, H1.size + 3 ≤ b) → lx.length ≤ j → ly.length ≤ j → OP lx ((xs.take j).map (·.key)) → OP ly (((xs.take (min 60 acts.len)).drop (min 60 acts.len - j)).map (·.key)) →
      tephralaw05_SortedOrder.l1 J0 acts H H1 H2 (j : Int) fun r H' => r = .bool true ∧ Mod (fun _ => False) H H' := by
    intro d
    induction d with
    | zero =>
      intro j H2 Fx Fy lx ly hj m X Y hb hr0 hFx hFy hlx hly ox oy
      apply tephralaw05_SortedOrder.l1.step; unfold tephralaw05_SortedOrder.l1.body
      rw [e]
      obtain rfl : j = min 60 acts.len := by omega
      rw [Nat.sub_self, List.drop_zero] at oy
      have hxy : lx = ly := ox.1.ext oy.1 fun p => by rw [ox.2 p.1 p.2, oy.2 p.1 p.2]
      subst hxy
      have lX := X.lt
      have lY := Y.lt
      -- a round
      have bod : ∀ (rc : LoopState → Option Code → Obj) (L : Nat) (H12 : Hp) (k v : Int) (Q : Value → Hp → Prop), Mod (fun b => H2.size ≤ b) H2 H12 → H2.size ≤ L → H12[L]? = some (rc .ready none) → (k, v) ∈ lx →
          (∀ H'', Mod (· = L) H12 H'' → H''[L]? = some (rc .ready none) → Q (.bool true) H'') → tephralaw05_SortedOrder.r1.body J0 H H1 L rc k v H12 Q := by
        intro rc L H12 k v Q mq hLs hl hkv hQ
        refine ⟨hl, ?_⟩
        rintro H13 rfl
        obtain ⟨q1, q2⟩ := rec_set (rc .busy none) hl
        have m13 : Mod (fun b => H2.size ≤ b) H2 (Array.setIfInBounds H12 L (rc .busy none)) := mq.trans' q2 fun b hb e => by omega
        generalize Array.setIfInBounds H12 L (rc .busy none) = H13 at *
        have Y13 := Y.same (Mod.same m13 fun b hb => by
          rcases List.mem_cons.1 hb with rfl | hb
          · exact ⟨lY.1, by have := lY.1; omega⟩
          · have := lY.2 b hb; exact ⟨this, by omega⟩)
        have b13 := m13.get hb (by have := lt_of_get hb; omega)
        refine ⟨_, cell_at (by rw [spush, spush]; exact b13), MI.get_step Y13 fun H14 m14 => ?_⟩
        rw [MI.get_mem Y.rise hkv]
        obtain ⟨t1, t2⟩ := rec_set (rc .ready none) (m14.get q1 fun e => e)
        exact Br.no rfl (Br.no (by simp) ⟨⟨_, _, m14.get q1 fun e => e⟩, hQ _ (q2.trans ((m14.mono fun _ _ e => e.elim).trans t2)) t1⟩)
      -- the range, whichever way Len was asked
      have rng : ∀ (H8 : Hp) (rec : FuncId → Array Value → Nat → LoopState → Option Code → Obj) (T : TypeId) (fn : FuncId) (tm : Array Value) (H11 : Hp), Mod (fun _ => False) H2 H8 → H11 = Array.push H8 (.cells #[.pointer (some ⟨H1.size, 0, none⟩)] T) →
          (∀ (H' : Hp) (p : Int × Int) (Q : Value → Hp → Prop), p ∈ lx → Mod (· = H11.size + 1) H11 H' → H'[H11.size + 1]? = some (rec fn tm H11.size .ready none) →
            (∀ H'', Mod (· = H11.size + 1) H11 H'' → H''[H11.size + 1]? = some (rec fn tm H11.size .ready none) → Q (.bool true) H'') → YCalls Try.prog (H11.size + 1) [.int .i64 p.1, .int .i64 p.2] H' Q) →
          vRg Try.prog (.func (.func 30) #[] #[.pointer (some ⟨H8.size, 0, none⟩)]) (H11.size + 1) (Array.push (Array.push H11 hole) (rec fn tm H11.size .ready none)) fun H' => ∃ st : LoopState, ∃ pd : Option Code, H'[H11.size + 1]? = some (rec fn tm H11.size st pd) ∧ st ≠ .busy ∧ ∀ H16 : Hp, H16 = H'.setIfInBounds (H11.size + 1) (rec fn tm H11.size .exhausted pd) →
            ((pd = none → WrAt H16 ⟨H.size, 0, none⟩ 1 ∧ ∃ x22 : Bool, Hp.cell? (Hp.setCell H16 ⟨H.size, 0, none⟩ (.bool true)) ⟨H.size, 0, none⟩ = some (.bool x22) ∧ (Value.bool x22 = .bool true ∧ Mod (fun _ => False) H (Hp.setCell H16 ⟨H.size, 0, none⟩ (.bool true)))) ∧
              (pd = some .ret → ∃ x21 : Bool, Hp.cell? H16 ⟨H.size, 0, none⟩ = some (.bool x21) ∧ (Value.bool x21 = .bool true ∧ Mod (fun _ => False) H H16)) ∧ True ∧ (pd = none ∨ pd = some .ret ∨ ∃ i ∈ ([] : List Nat), pd = some (.exit i))) := by
        rintro H8 rec T fn tm H11 m8 rfl hbody
        have b11 : (Array.push H8 (.cells #[.pointer (some ⟨H1.size, 0, none⟩)] T))[H8.size]? = some (.cells #[.pointer (some ⟨H1.size, 0, none⟩)] T (0, 0)) := get_push_new _ _
        have m11 : Mod (fun _ => False) H2 (Array.push H8 (.cells #[.pointer (some ⟨H1.size, 0, none⟩)] T)) := m8.trans (Mod.push _ _ _)
        have X11 := X.mod m11
        have r11 := m11.get hr0 fun e => e
        have hs11 := m11.size
        generalize Array.push H8 (.cells #[.pointer (some ⟨H1.size, 0, none⟩)] T) = H11 at *
        refine MI.range_use (b := H8.size) (rec := rec fn tm H11.size) (fun i H' => Mod (· = H11.size + 1) H11 H') (fun _ _ => False) X11 (cell_at b11) (Mod.refl _ _) (fun i H' h => Mod.same h fun b hb => ?_) (fun i H' H'' h m => h.trans m) (fun _ _ _ h _ => h) (fun i hi H' h hl => ?_) (fun H' h => ?_) (fun _ _ h => h.elim)
        · rcases List.mem_cons.1 hb with rfl | hb
          · exact ⟨by omega, by omega⟩
          · have := lX.2 b hb; exact ⟨by omega, by omega⟩
        · exact hbody H' lx[i] _ (List.getElem_mem hi) h hl fun H'' h1 h2 => Or.inl ⟨rfl, h1, h2⟩
        · refine jump_none ?_
          have r16 := h.get r11 (by have := lt_of_get hr0; omega)
          refine ⟨wr_at r16, true, cell_at (set_at r16), rfl, ?_⟩
          have : Mod (fun b => H.size ≤ b) H H' := (m.trans (m11.mono fun _ _ e => e.elim)).trans' h fun b hb e => by have := lt_of_get hr0; omega
          exact Mod.fresh (this.trans' (mod_at H' H.size _) fun b hb e => by omega) fun _ h => h
      have go : ∀ (H8 H11 H' : Hp) (T : TypeId) (p : Int × Int), Mod (fun _ => False) H2 H8 → H11 = Array.push H8 (.cells #[.pointer (some ⟨H1.size, 0, none⟩)] T) → Mod (· = H11.size + 1) H11 H' → Mod (fun b => H2.size ≤ b) H2 H' ∧ H2.size ≤ H11.size + 1 := by
        rintro H8 H11 H' T p m8 rfl m
        have mp : Mod (fun _ => False) H8 (Array.push H8 (.cells #[.pointer (some ⟨H1.size, 0, none⟩)] T)) := Mod.push _ _ _
        have z1 := m8.size
        have z2 := mp.size
        exact ⟨((m8.trans mp).mono fun _ _ e => e.elim : Mod (fun b => H2.size ≤ b) H2 _).trans' m fun b hb e => by omega, by omega⟩
      have sp2 : ∀ {o o' : Obj}, (Array.push (Array.push H1 o) o').size = H1.size + 2 := fun {o o'} => by rw [spush, spush]
      refine Br.no (by simp) ⟨MI.len_step X fun H7 m7 => ⟨_, cell_at (by rw [sp2]; exact m7.get hb fun e => e), MI.len_step (Y.mod m7) fun H8 m8 => Br.no (by simp) (MI.all_step fun T fn tm hT => ?_)⟩, _, cell_at (by rw [sp2]; exact hb), MI.len_step X fun H7 m7 => MI.len_step (Y.mod m7) fun H8 m8 => Br.no (by simp) (MI.all_step fun T fn tm hT => ?_)⟩
      · refine rng H8 (fun fn tm d => tephralaw05_SortedOrder.r1.rec fn tm d) T fn tm _ (m7.trans m8) rfl fun H' p Q hp hm hl hQ => ?_
        obtain ⟨g1, g2⟩ := go H8 _ H' T p (m7.trans m8) rfl hm
        exact tephralaw05_SortedOrder.r1.calls hl hT (bod _ _ H' p.1 p.2 Q g1 g2 hl hp fun H'' h1 h2 => hQ H'' (hm.trans h1) h2)
      · refine rng H8 (fun fn tm d => tephralaw05_SortedOrder.r2.rec fn tm d) T fn tm _ (m7.trans m8) rfl fun H' p Q hp hm hl hQ => ?_
        obtain ⟨g1, g2⟩ := go H8 _ H' T p (m7.trans m8) rfl hm
        exact tephralaw05_SortedOrder.r2.calls hl hT (bod _ _ H' p.1 p.2 Q g1 g2 hl hp fun H'' h1 h2 => hQ H'' (hm.trans h1) h2)
    | succ d ih =>
      intro j H2 Fx Fy lx ly hj m X Y hb hr0 hFx hFy hlx hly ox oy
      apply tephralaw05_SortedOrder.l1.step; unfold tephralaw05_SortedOrder.l1.body
      rw [e]
      have hn : min 60 acts.len ≤ xs.length := by omega
      have hn60 : min 60 acts.len ≤ 60 := by omega
      generalize min 60 acts.len = n at *
      have hjl : j < xs.length := by omega
      have hjl2 : n - 1 - j < xs.length := by omega
      have hok := ok xs[j] (List.getElem_mem hjl)
      have hok2 := ok xs[n - 1 - j] (List.getElem_mem hjl2)
      obtain ⟨a, ha, hrow⟩ := acts_get (Fresh.rows m hr) hjl
      have lX := X.lt
      have lY := Y.lt
      have hlb := lt_of_get hb
      have sp2 : ∀ {o o' : Obj}, (Array.push (Array.push H1 o) o').size = H1.size + 2 := fun {o o'} => by rw [spush, spush]
      have wk : w64 xs[j].key = xs[j].key := w64_id (by have := hok.2.1; omega) (by have := hok.2.1; omega)
      have wk2 : w64 (xs[j].key * 2) = xs[j].key * 2 := w64_id (by have := hok.2.1; omega) (by have := hok.2.1; omega)
      have vk : w64 xs[n - 1 - j].key = xs[n - 1 - j].key := w64_id (by have := hok2.2.1; omega) (by have := hok2.2.1; omega)
      have vk2 : w64 (xs[n - 1 - j].key * 2) = xs[n - 1 - j].key * 2 := w64_id (by have := hok2.2.1; omega) (by have := hok2.2.1; omega)
      have wn : w64 (w64 ((n : Int) - 1) - (j : Int)) = ((n - 1 - j : Nat) : Int) := by rw [w64_id (x := (n : Int) - 1) (by omega) (by omega), w64_id (by omega) (by omega)]; omega
      have kc : Hp.cell? H2 ((a.add (j * 3)).add 1) = some (.int .i8 xs[j].key) := hrow 1 _ rfl
      refine Br.yes (by simp; omega) ⟨⟨by omega, by omega⟩, vPtr.mk a (by rw [cutA_zero]; exact ha) ⟨_, by simpa using kc, ⟨by omega, by omega⟩, vPtr.mk a (by rw [cutA_zero]; exact ha) ⟨_, by simpa using kc, ?_⟩⟩⟩
      all_goals
        rw [wk, wk2, wn]
        refine MI.put_step (Bl := fun b => b < H1.size + 3 ∧ b ≠ H1.size ∨ b ∈ Fy) X (fun b hB => ?_) (by omega) fun i H3 F3 sp X3 k3 d3 f3 => ?_
        · rcases hB with hB | hB
          · exact ⟨by omega, hB.2, fun h => by have := (hFx b h).1; omega⟩
          · exact ⟨lY.2 b hB, by have := hFy b hB; omega, fun h => (hFx b h).2 hB⟩
        have hs2 := m.size
        have Y3 : MI.Mp H3 (H1.size + 1) 0 Fy ly := Y.same (Mod.same k3 fun b hb' => by
          rcases List.mem_cons.1 hb' with rfl | hb'
          · exact ⟨lY.1, fun h => h (Or.inl ⟨by omega, by omega⟩)⟩
          · exact ⟨lY.2 b hb', fun h => h (Or.inr hb')⟩)
        have b3 := k3.get hb fun h => h (Or.inl ⟨by omega, by omega⟩)
        have r3 := k3.get hr0 fun h => h (Or.inl ⟨by omega, by omega⟩)
        have m3 : Mod (fun b => H.size ≤ b) H H3 := m.trans' k3 fun b hb' h => Decidable.byContradiction fun hn => h (Or.inl ⟨by omega, by omega⟩)
        have hF3 : ∀ b ∈ F3, H1.size + 3 ≤ b ∧ b ∉ Fy := fun b hb' => by
          refine ⟨?_, fun hy => (d3 b (Or.inr hy)).2.2 hb'⟩
          rcases f3 b hb' with h | h
          · exact (hFx b h).1
          · omega
        obtain ⟨a2, ha2, hrow2⟩ := acts_get (Fresh.rows m3 hr) hjl2
        have mh : Mod (fun _ => False) H3 (holes H3 1) := Mod.holes _ _ _
        refine ⟨⟨by omega, by omega⟩, vPtr.mk a2 (by rw [cutA_zero]; exact ha2) ⟨_, _, _, by simpa [Ac.cells] using hrow2, _, cell_at (by rw [sp2]; exact mh.get b3 fun e => e), ?_⟩⟩
        rw [vk, vk2]
        have X3' := X3.mod mh
        have Y3' := Y3.mod mh
        have lX3 := X3'.lt
        have lY3 := Y3'.lt
        have z3 := k3.size
        have zh := mh.size
        refine MI.put_step (Bl := fun b => b < H1.size + 3 ∧ b ≠ H1.size + 1 ∨ b ∈ F3) Y3' (fun b hB => ?_) (by omega) fun i5 H5 F5 sp5 Y5 k5 d5 f5 => ?_
        · rcases hB with hB | hB
          · exact ⟨by omega, hB.2, fun h => by have := hFy b h; omega⟩
          · exact ⟨lX3.2 b hB, by have := (hF3 b hB).1; omega, fun h => (hF3 b hB).2 h⟩
        have X5 : MI.Mp H5 H1.size 0 F3 _ := X3'.same (Mod.same k5 fun b hb' => by
          rcases List.mem_cons.1 hb' with rfl | hb'
          · exact ⟨lX3.1, fun h => h (Or.inl ⟨by omega, by omega⟩)⟩
          · exact ⟨lX3.2 b hb', fun h => h (Or.inr hb')⟩)
        have hs3 := mh.size
        have b5 := k5.get (mh.get b3 fun e => e) fun h => h (Or.inl ⟨by omega, by omega⟩)
        have r5 := k5.get (mh.get r3 fun e => e) fun h => h (Or.inl ⟨by omega, by omega⟩)
        have m5 : Mod (fun b => H.size ≤ b) H H5 := (m3.trans (mh.mono fun _ _ e => e.elim)).trans' k5 fun b hb' h => Decidable.byContradiction fun hn => h (Or.inl ⟨by omega, by omega⟩)
        rw [w64_id (x := (j : Int) + 1) (by omega) (by omega)]
        have ox' : OP (putAt lx xs[j].key (xs[j].key * 2) i) ((xs.take (j + 1)).map (·.key)) := ox.put sp fun q => by
          rw [List.take_succ_eq_append_getElem hjl]; simp only [List.map_append, List.mem_append, List.map_cons, List.map_nil, List.mem_singleton]; exact Or.comm
        have oy' : OP (putAt ly xs[n - 1 - j].key (xs[n - 1 - j].key * 2) i5) (((xs.take n).drop (n - (j + 1))).map (·.key)) := oy.put sp5 fun q => by
          have hd : (xs.take n).drop (n - (j + 1)) = xs[n - 1 - j] :: (xs.take n).drop (n - j) := by
            rw [show n - (j + 1) = n - 1 - j by omega, List.drop_eq_getElem_cons (by simp; omega), List.getElem_take, show n - 1 - j + 1 = n - j by omega]
          rw [hd]; simp only [List.map_cons, List.mem_cons]
        have := ih (j + 1) H5 F3 F5 _ _ (by omega) m5 X5 Y5 b5 r5 (fun b hb' => ⟨(hF3 b hb').1, fun h5 => (d5 b (Or.inr hb')).2.2 h5⟩) (fun b hb' => by
          rcases f5 b hb' with h | h
          · exact hFy b h
          · omega) (by rw [putAt_length sp.le]; split <;> omega) (by rw [putAt_length sp5.le]; split <;> omega) ox' oy'
        simpa using this
  exact loop (min 60 acts.len) 0 Hc [] [] [] [] (by omega) mc X1 Y1 b1 rc (by simp) (by simp) (by simp) (by simp) ⟨Rise.nil, by simp⟩ ⟨Rise.nil, by
    rw [Nat.sub_zero, List.drop_eq_nil_of_le (by rw [List.length_take]; omega)]; simp⟩
end
end Go.Proofs
