/- GHOST: what was committed, and who led: over the sorted map's own text. -/
import Derived.Test.YtihadekhodlacaaKm5
import Derived.Test.YtihadekhodlacaaKu4
import Derived.Test.YtihadekhodlacaaKe4
set_option linter.all false
set_option linter.constructorNameAsVariable false
namespace Go.Proofs
open Go Go.KC

/-- The ghost in block g: its log, who led, whether something did not agree; F are the blocks that are its own. -/
def Gh (H : Hp) (g : Nat) (F : List Nat) (log : List En) (ld : List (Int × Int)) (wrong : Bool) : Prop :=
  ∃ x y : Sl, H[g]? = some (.cells #[.slice x.a x.len x.cap, .slice y.a y.len y.cap, .bool wrong] T_ghost_Ghost (0, 0)) ∧ Own H x T_api_Entry 8 (log.map En.cells).flatten ∧ Own H y T_sorted_item_int_int 2 (MI.items ld) ∧ (Rise ld ∧ ld.length ≤ 100000) ∧
    F = g :: (x.blk ++ y.blk) ∧ g ∉ x.blk ∧ g ∉ y.blk ∧ ∀ b ∈ x.blk, b ∉ y.blk
theorem Gh.keep {m : Nat → Prop} {H H' : Hp} {g : Nat} {F : List Nat} {log : List En} {ld : List (Int × Int)} {w : Bool} (h : Gh H g F log ld w) (hm : Mod m H H') (hF : ∀ b ∈ F, ¬ m b) : Gh H' g F log ld w := by
  obtain ⟨x, y, h1, h2, h3, h4, rfl, h5, h6, h7⟩ := h
  exact ⟨x, y, hm.get h1 (hF g (by simp)), h2.keep hm (fun b hb => hF b (by simp [hb])), h3.keep hm (fun b hb => hF b (by simp [hb])), h4, rfl, h5, h6, h7⟩
theorem Gh.mod {H H' : Hp} {g : Nat} {F : List Nat} {log : List En} {ld : List (Int × Int)} {w : Bool} (h : Gh H g F log ld w) (hm : Mod (fun _ => False) H H') : Gh H' g F log ld w := h.keep hm fun _ _ e => e
theorem Gh.lt {H : Hp} {g : Nat} {F : List Nat} {log : List En} {ld : List (Int × Int)} {w : Bool} (h : Gh H g F log ld w) : ∀ b ∈ F, b < H.size := by
  obtain ⟨x, y, h1, h2, h3, _, rfl, _⟩ := h
  intro b hb
  rcases List.mem_cons.1 hb with rfl | hb
  · exact lt_of_get h1
  · rcases List.mem_append.1 hb with hb | hb
    · exact h2.lt b hb
    · exact h3.lt b hb
theorem Gh.new (H : Hp) : Gh (Array.push H (.cells #[.slice none 0 0, .slice none 0 0, .bool false] T_ghost_Ghost)) H.size [H.size] [] [] false :=
  ⟨⟨none, 0, 0⟩, ⟨none, 0, 0⟩, get_push_new _ _, Own.nil _ _ _, Own.nil _ _ _, ⟨Rise.nil, by simp⟩, rfl, by simp [Sl.blk], by simp [Sl.blk], fun b hb => by simp [Sl.blk] at hb⟩

/-- What a method does. -/
def GPost (H : Hp) (g : Nat) (F : List Nat) (log : List En) (ld : List (Int × Int)) (w : Bool) (v : Value) (r : Value) (H' : Hp) : Prop :=
  r = v ∧ ∃ F', Gh H' g F' log ld w ∧ Mod (· ∈ F) H H' ∧ ∀ b ∈ F', b ∈ F ∨ H.size ≤ b
theorem GPost.of {H0 H H' : Hp} {g : Nat} {F : List Nat} {log : List En} {ld : List (Int × Int)} {w : Bool} {v r : Value} (m : Mod (fun _ => False) H0 H) (h : GPost H g F log ld w v r H') : GPost H0 g F log ld w v r H' := by
  obtain ⟨rfl, F', h1, h2, h3⟩ := h
  exact ⟨rfl, F', h1, (m.mono fun _ _ e => e.elim).trans h2, fun b hb => (h3 b hb).imp id fun e => Nat.le_trans m.size e⟩

/-- The sign that something did not agree is set. -/
theorem Gh.setWrong {H : Hp} {g : Nat} {F : List Nat} {log : List En} {ld : List (Int × Int)} {w : Bool} (h : Gh H g F log ld w) (v : Bool) :
    WrAt H ((Addr.mk g 0 none).add 2) 1 ∧ Gh (Hp.setCell H ((Addr.mk g 0 none).add 2) (.bool v)) g F log ld v ∧ Mod (· ∈ F) H (Hp.setCell H ((Addr.mk g 0 none).add 2) (.bool v)) := by
  obtain ⟨x, y, h1, h2, h3, h4, rfl, h5, h6, h7⟩ := h
  rw [Addr.add_loc, Nat.zero_add]
  have mg : Mod (· = g) H (Hp.setCell H ⟨g, 2, none⟩ (.bool v)) := Mod.setCell H _ _ rfl
  refine ⟨wr_one h1 (by simp), ⟨x, y, ?_, h2.keep mg (fun b hb e => h5 (e ▸ hb)), h3.keep mg (fun b hb e => h6 (e ▸ hb)), h4, rfl, h5, h6, h7⟩, mg.mono fun b _ e => by rw [e]; simp⟩
  have := get_setCell (o := 2) (.bool v) h1
  simpa using this
theorem Gh.cells {H : Hp} {g : Nat} {F : List Nat} {log : List En} {ld : List (Int × Int)} {w : Bool} (h : Gh H g F log ld w) :
    ∃ x y : Sl, Hp.cell? H ⟨g, 0, none⟩ = some (.slice x.a x.len x.cap) ∧ Hp.cell? H ((Addr.mk g 0 none).add 1) = some (.slice y.a y.len y.cap) ∧ Hp.cell? H ((Addr.mk g 0 none).add 2) = some (.bool w) ∧ Lr H x log ∧ MI.Mp H g 1 y.blk ld := by
  obtain ⟨x, y, h1, h2, h3, h4, rfl, h5, h6, h7⟩ := h
  refine ⟨x, y, by rw [cell_of h1]; rfl, by rw [Addr.add_loc, cell_of h1]; rfl, by rw [Addr.add_loc, cell_of h1]; rfl, Own.rows h2, y, _, _, h1, rfl, h3, rfl, h6, h4.1, h4.2⟩

section
variable {H : Hp} {g : Nat} {F : List Nat} {log : List En} {ld : List (Int × Int)} {w : Bool}

theorem Leader_spec {t : Int} (h : Gh H g F log ld w) : SCalls Try.prog ghost_Ghost_Leader.id [.pointer (some ⟨g, 0, none⟩), .int .i64 t] H (TellPost H (.tuple #[.int .i64 (MI.get ld t).1, .bool (MI.get ld t).2])) := by
  apply ghost_Ghost_Leader.calls
  obtain ⟨x, y, _, _, _, _, hr⟩ := h.cells
  refine (MI.Get_spec hr).mono ?_
  rintro r H1 ⟨rfl, m⟩
  exact ⟨_, _, rfl, rfl, m⟩
theorem Wrong_spec (h : Gh H g F log ld w) : SCalls Try.prog ghost_Ghost_Wrong.id [.pointer (some ⟨g, 0, none⟩)] H (TellPost H (.bool w)) := by
  apply ghost_Ghost_Wrong.calls
  obtain ⟨x, y, _, _, hc, _, _⟩ := h.cells
  exact ⟨w, hc, rfl, Mod.refl _ _⟩
theorem Len_spec (h : Gh H g F log ld w) : SCalls Try.prog ghost_Ghost_Len.id [.pointer (some ⟨g, 0, none⟩)] H (TellPost H (.int .i64 (log.length : Int))) := by
  apply ghost_Ghost_Len.calls
  obtain ⟨x, y, hc, _, _, hx, _⟩ := h.cells
  have := hx.len
  exact ⟨x, hc, by rw [this], Mod.refl _ _⟩
theorem Log_spec (h : Gh H g F log ld w) (hl : log.length ≤ 1000000) : SCalls Try.prog ghost_Ghost_Log.id [.pointer (some ⟨g, 0, none⟩)] H fun r H' => ∃ y : Sl, r = .slice y.a y.len y.cap ∧ Eo H H' y log := by
  apply ghost_Ghost_Log.calls
  obtain ⟨x, y, hc, _, _, hx, _⟩ := h.cells
  have := hx.len
  refine ⟨x, hc, (slices_Clone_spec hx (by omega)).mono ?_⟩
  rintro r H1 ⟨z, rfl, hz⟩
  exact ⟨z, rfl, z, rfl, hz⟩

theorem Put_gh {k v : Int} (h : Gh H g F log ld w) (hl : ld.length < 100000) :
    SCalls Try.prog sorted_Map_int_int_Put.id [.pointer (some ((Addr.mk g 0 none).add 1)), .int .i64 k, .int .i64 v] H fun r H' => ∃ b : Bool, GPost H g F log (putL ld k v) w (.bool b) r H' := by
  obtain ⟨x, y, h1, h2, h3, h4, rfl, h5, h6, h7⟩ := h
  have hm : MI.Mp H g 1 y.blk ld := ⟨y, _, _, h1, rfl, h3, rfl, h6, h4.1, h4.2⟩
  rw [Addr.add_loc, Nat.zero_add]
  refine (MI.Put_spec (k := k) (v := v) hm hl).mono ?_
  rintro r H' ⟨i, sp, rfl, F', ⟨y', c', e', k1, k2, k3, rfl, k5, k6, k7⟩, mm, hn, hc⟩
  obtain ⟨u, hu⟩ := hc _ _ h1
  rw [hu] at k1
  cases k1
  have hu' : u = .slice y'.a y'.len y'.cap := by simpa using k2
  subst hu'
  have e : putAt ld k v i = putL ld k v := by unfold putL; rw [spotOf_eq sp]
  rw [e] at k3 k6 k7
  refine ⟨_, rfl, g :: (x.blk ++ y'.blk), ⟨x, y', by simpa using hu, h2.keep mm fun b hb e => e.elim (fun e => h5 (e ▸ hb)) (h7 b hb), k3, ⟨k6, k7⟩, rfl, h5, k5, fun b hb hby => ?_⟩, mm.mono fun b _ hb => ?_, fun b hb => ?_⟩
  · rcases hn b hby with h | h
    · exact h7 b hb h
    · have := Own.lt h2 b hb; omega
  · rcases hb with h | h
    · rw [h]; simp
    · simp [h]
  · rcases List.mem_cons.1 hb with rfl | hb
    · exact Or.inl (by simp)
    · rcases List.mem_append.1 hb with hb | hb
      · exact Or.inl (by simp [hb])
      · rcases hn b hb with h | h
        · exact Or.inl (by simp [h])
        · exact Or.inr h

/-- A replica that leads: the first one of its term, or the one that did, or another one. -/
def leadM (ld : List (Int × Int)) (t id : Int) : List (Int × Int) × Bool := if (MI.get ld t).2 then (ld, (MI.get ld t).1 == id) else (putL ld t id, true)
theorem Lead_spec {t id : Int} (h : Gh H g F log ld w) (hl : ld.length < 100000) :
    SCalls Try.prog ghost_Ghost_Lead.id [.pointer (some ⟨g, 0, none⟩), .int .i64 t, .int .i64 id] H (GPost H g F log (leadM ld t id).1 (w || !(leadM ld t id).2) (.bool (leadM ld t id).2)) := by
  apply ghost_Ghost_Lead.calls
  obtain ⟨x, y, _, _, _, _, hr⟩ := h.cells
  refine (MI.Get_spec (k := t) hr).mono ?_
  rintro r H1 ⟨rfl, m⟩
  have h1 := h.mod m
  refine ⟨_, _, rfl, ?_⟩
  have k2 : ∀ (H2 : Hp) (F2 : List Nat) (ld2 : List (Int × Int)) (ok : Bool), Gh H2 g F2 log ld2 w → Mod (· ∈ F) H H2 → (∀ b ∈ F2, b ∈ F ∨ H.size ≤ b) →
      ghost_Ghost_Lead.k2 J0 ⟨g, 0, none⟩ ok H2 (GPost H g F log ld2 (w || !ok) (.bool ok)) := by
    intro H2 F2 ld2 ok h2 m2 hF2
    obtain ⟨_, _, _, _, hw, _, _⟩ := h2.cells
    apply ghost_Ghost_Lead.k2.step; unfold ghost_Ghost_Lead.k2.body
    have k3 : ∀ v : Bool, v = (w || !ok) → ghost_Ghost_Lead.k3 J0 ⟨g, 0, none⟩ ok H2 v (GPost H g F log ld2 (w || !ok) (.bool ok)) := by
      rintro v rfl
      apply ghost_Ghost_Lead.k3.step; unfold ghost_Ghost_Lead.k3.body
      obtain ⟨s1, s2, s3⟩ := h2.setWrong (w || !ok)
      exact ⟨s1, rfl, F2, s2, m2.trans' s3 fun b hb hb2 => (hF2 b hb2).elim (fun h => h) fun h => absurd h (by omega), hF2⟩
    refine ⟨w, hw, ?_⟩
    cases w with
    | true => exact Br.yes rfl (k3 true rfl)
    | false => exact Br.no rfl (k3 _ rfl)
  have mF : Mod (· ∈ F) H H1 := m.mono fun _ _ e => e.elim
  cases hg : (MI.get ld t).2 with
  | false =>
    have e : leadM ld t id = (putL ld t id, true) := by unfold leadM; rw [hg]; rfl
    rw [e]
    refine Br.yes rfl ?_
    apply ghost_Ghost_Lead.k1.step; unfold ghost_Ghost_Lead.k1.body
    refine Br.yes rfl ((Put_gh h1 hl).mono ?_)
    rintro r H2 ⟨b, rfl, F2, h2, m2, hF2⟩
    refine ⟨_, rfl, k2 H2 F2 _ true h2 (mF.trans m2) fun b hb => (hF2 b hb).imp (fun h => h) fun h => Nat.le_trans m.size h⟩
  | true =>
    have e : leadM ld t id = (ld, (MI.get ld t).1 == id) := by unfold leadM; rw [hg]; rfl
    rw [e]
    refine Br.no rfl ?_
    apply ghost_Ghost_Lead.k1.step; unfold ghost_Ghost_Lead.k1.body
    exact Br.no rfl (k2 H1 F ld _ h1 mF fun b hb => Or.inl hb)

/-- An entry that is committed. -/
def commitM (log : List En) (e : En) : List En × Bool :=
  if 1 ≤ e.index ∧ e.index ≤ log.length then (log, decide (log.getD (e.index - 1).toNat En.zero = e)) else if e.index = log.length + 1 then (log ++ [e], true) else (log, false)
theorem Commit_spec {e : En} (h : Gh H g F log ld w) (hl : log.length ≤ 100000) :
    SCalls Try.prog ghost_Ghost_Commit.id [.pointer (some ⟨g, 0, none⟩), e.val] H (GPost H g F (commitM log e).1 ld (w || !(commitM log e).2) (.bool (commitM log e).2)) := by
  apply ghost_Ghost_Commit.calls
  have m0 : Mod (fun _ => False) H (holes H 1) := Mod.holes _ _ _
  have h0 := h.mod m0
  obtain ⟨x, y, hc0, _, hc2, hx, _⟩ := h0.cells
  have hxl := hx.len
  have bad : ¬ (1 ≤ e.index ∧ e.index ≤ (log.length : Int) + 1) → ∀ v : Bool, v = false → ghost_Ghost_Commit.k1 J0 ⟨g, 0, none⟩ e.index e.term e.cmd.op e.cmd.client e.cmd.seq e.cmd.key e.cmd.value e.cmd.old H v (GPost H g F (commitM log e).1 ld (w || !(commitM log e).2) (.bool (commitM log e).2)) := by
    rintro hb v rfl
    have em : commitM log e = (log, false) := by unfold commitM; rw [if_neg (by omega), if_neg (by omega)]
    rw [em]
    apply ghost_Ghost_Commit.k1.step; unfold ghost_Ghost_Commit.k1.body
    refine Br.no rfl ?_
    apply ghost_Ghost_Commit.k2.step; unfold ghost_Ghost_Commit.k2.body
    refine Br.no rfl (Br.no rfl ⟨w, hc2, ?_⟩)
    have k5 : ∀ v : Bool, v = (w || !false) → ghost_Ghost_Commit.k5 J0 ⟨g, 0, none⟩ e.index e.term e.cmd.op e.cmd.client e.cmd.seq e.cmd.key e.cmd.value e.cmd.old H false v (GPost H g F log ld (w || !false) (.bool false)) := by
      rintro v rfl
      apply ghost_Ghost_Commit.k5.step; unfold ghost_Ghost_Commit.k5.body
      obtain ⟨s1, s2, s3⟩ := h0.setWrong (w || !false)
      exact ⟨s1, GPost.of m0 ⟨rfl, F, s2, s3, fun b hb => Or.inl hb⟩⟩
    cases w with
    | true => exact Br.yes rfl (k5 true rfl)
    | false => exact Br.no rfl (k5 _ rfl)
  by_cases h1 : e.index ≥ 1
  · refine Br.yes (decide_eq_true h1) ⟨x, hc0, ?_⟩
    rw [w64_id (x := (x.len : Int) + 1) (by omega) (by omega)]
    by_cases h2 : e.index ≤ (x.len : Int) + 1
    · rw [decide_eq_true h2]
      apply ghost_Ghost_Commit.k1.step; unfold ghost_Ghost_Commit.k1.body
      refine Br.yes rfl ⟨x, hc0, ?_⟩
      by_cases h3 : e.index ≤ (x.len : Int)
      · rw [decide_eq_true h3]
        apply ghost_Ghost_Commit.k2.step; unfold ghost_Ghost_Commit.k2.body
        rw [w64_id (x := e.index - 1) (by omega) (by omega)]
        have hj : (e.index - 1).toNat < log.length := by omega
        obtain ⟨a, ha, hrow⟩ := hx.get hj
        have em : commitM log e = (log, decide (log[(e.index - 1).toNat] = e)) := by
          unfold commitM; rw [if_pos (by omega)]
          simp only [List.getD_eq_getElem?_getD, List.getElem?_eq_getElem hj, Option.getD_some]
        rw [em]
        generalize (e.index - 1).toNat = j at *
        have he := en_beq log[j] e
        refine Br.yes rfl ⟨x, hc0, ⟨by omega, by omega⟩, vPtr.mk a ha ⟨_, _, _, _, _, _, _, _, by simpa [En.cells] using hrow, w, hc2, ?_⟩⟩
        have k3 : ∀ v : Bool, v = (w || !(decide (log[j] = e))) → ghost_Ghost_Commit.k3 J0 ⟨g, 0, none⟩ e.index e.term e.cmd.op e.cmd.client e.cmd.seq e.cmd.key e.cmd.value e.cmd.old H log[j].index log[j].term log[j].cmd.op log[j].cmd.client log[j].cmd.seq log[j].cmd.key log[j].cmd.value log[j].cmd.old v
            (GPost H g F log ld (w || !(decide (log[j] = e))) (.bool (decide (log[j] = e)))) := by
          rintro v rfl
          apply ghost_Ghost_Commit.k3.step; unfold ghost_Ghost_Commit.k3.body
          obtain ⟨s1, s2, s3⟩ := h0.setWrong (w || !(decide (log[j] = e)))
          exact ⟨s1, GPost.of m0 ⟨congrArg Value.bool he, F, s2, s3, fun b hb => Or.inl hb⟩⟩
        cases w with
        | true => exact Br.yes rfl (k3 true rfl)
        | false => exact Br.no rfl (k3 _ (by rw [← he]; rfl))
      · rw [decide_eq_false h3]
        apply ghost_Ghost_Commit.k2.step; unfold ghost_Ghost_Commit.k2.body
        have em : commitM log e = (log ++ [e], true) := by unfold commitM; rw [if_neg (by omega), if_pos (by omega)]
        rw [em]
        obtain ⟨x', y', g1, g2, g3, g4, rfl, g5, g6, g7⟩ := h0
        have hcc : Hp.cell? (holes H 1) ⟨g, 0, none⟩ = some (.slice x'.a x'.len x'.cap) := by rw [cell_of g1]; rfl
        have hxl' := (show Lr (holes H 1) x' log from Own.rows g2).len
        refine Br.no rfl (Br.yes rfl ⟨x', hcc, ents_app (e := e) g2 (Mod.refl _ _) (by omega) ?_⟩)
        intro z H1 hz hzl mz hb
        have q1 := mz.get g1 g5
        have hgz : g ∉ z.blk := fun hgz => by
          rcases hb g hgz with h | h
          · exact g5 h
          · have := lt_of_get g1; omega
        have ms : Mod (· = g) H1 (Hp.setCell H1 ⟨g, 0, none⟩ (.slice z.a z.len z.cap)) := Mod.setCell H1 _ _ rfl
        have hnew : Gh (Hp.setCell H1 ⟨g, 0, none⟩ (.slice z.a z.len z.cap)) g (g :: (z.blk ++ y'.blk)) (log ++ [e]) ld w := by
          refine ⟨z, y', ?_, hz.keep ms fun b hb e => hgz (e ▸ hb), (g3.keep mz fun b hb hbx => g7 b hbx hb).keep ms fun b hb e => g6 (e ▸ hb), g4, rfl, hgz, g6, fun b hb' hby => ?_⟩
          · have := get_setCell (o := 0) (.slice z.a z.len z.cap) q1
            simpa using this
          · rcases hb b hb' with h | h
            · exact g7 b h hby
            · have := Own.lt g3 b hby; omega
        obtain ⟨_, _, _, _, hw, _, _⟩ := hnew.cells
        have mAll : Mod (· ∈ g :: (x'.blk ++ y'.blk)) (holes H 1) (Hp.setCell H1 ⟨g, 0, none⟩ (.slice z.a z.len z.cap)) :=
          (mz.mono fun b _ hb => by simp [hb]).trans (ms.mono fun b _ hb => by rw [hb]; simp)
        have hFF : ∀ b ∈ g :: (z.blk ++ y'.blk), b ∈ g :: (x'.blk ++ y'.blk) ∨ (holes H 1).size ≤ b := by
          intro b hbF
          rcases List.mem_cons.1 hbF with rfl | hbF
          · exact Or.inl (by simp)
          · rcases List.mem_append.1 hbF with hbF | hbF
            · exact (hb b hbF).imp (fun h => by simp [h]) id
            · exact Or.inl (by simp [hbF])
        refine ⟨wr_one q1 (by simp), w, hw, ?_⟩
        have k4 : ∀ v : Bool, v = (w || !true) → ghost_Ghost_Commit.k4 J0 ⟨g, 0, none⟩ e.index e.term e.cmd.op e.cmd.client e.cmd.seq e.cmd.key e.cmd.value e.cmd.old true z H1 v (GPost H g (g :: (x'.blk ++ y'.blk)) (log ++ [e]) ld (w || !true) (.bool true)) := by
          rintro v rfl
          apply ghost_Ghost_Commit.k4.step; unfold ghost_Ghost_Commit.k4.body
          obtain ⟨s1, s2, s3⟩ := hnew.setWrong (w || !true)
          exact ⟨s1, GPost.of m0 ⟨rfl, _, s2, mAll.trans' s3 fun b hb hb2 => (hFF b hb2).elim id fun h => absurd h (by omega), hFF⟩⟩
        cases w with
        | true => exact Br.yes rfl (k4 true rfl)
        | false => exact Br.no rfl (k4 _ rfl)
    · rw [decide_eq_false h2]; exact bad (by omega) false rfl
  · exact Br.no (decide_eq_false h1) (bad (by omega) false rfl)
end
end Go.Proofs
