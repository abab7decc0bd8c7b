/- LAYER 05: SortedSelf. -/
import Derived.Test.YtnoojgphfinmfaaKn2
import Derived.Test.YtnoojgphfinmfaaKm10
set_option linter.all false
set_option linter.constructorNameAsVariable false
namespace Go.Proofs
open Go Go.KC

section
variable {H : Hp}
theorem OP_len (xs : List Ac) : (ofL xs).length ≤ xs.length := by
  have : ∀ (xs : List Ac) (l : List (Int × Int)), (xs.foldl (fun l a => putL l a.key a.value) l).length ≤ l.length + xs.length := by
    intro xs
    induction xs with
    | nil => intro l; simp
    | cons a xs ih =>
      intro l
      rw [List.foldl_cons]
      refine Nat.le_trans (ih _) ?_
      have : (putL l a.key a.value).length ≤ l.length + 1 := by
        unfold putL putAt
        split
        · simp
        · simp; omega
      simp only [List.length_cons]; omega
  simpa [ofL] using this xs []
theorem Of_st {acts : Sl} {xs : List Ac} {K : Option Addr → Hp → Prop} (hr : Rows H acts 3 (xs.map Ac.cells).flatten) (ok : ∀ a ∈ xs, a.ok)
    (hK : ∀ H' F, MI.Mp H' H.size 0 F (ofL (xs.take 60)) → (∀ b ∈ F, H.size < b) → Mod (fun _ => False) H H' → (ofL (xs.take 60)).length ≤ 60 → K (some ⟨H.size, 0, none⟩) H') :
    SCalls Try.prog tephralaw05_Of.id [.slice acts.a acts.len acts.cap] H fun r H' => ∃ x : Option Addr, r = .pointer x ∧ K x H' := by
  refine (Of_spec hr ok).mono ?_
  rintro r H' ⟨rfl, m, F, h1, h2⟩
  have := OP_len (xs.take 60)
  rw [List.length_take] at this
  exact ⟨_, rfl, hK H' F h1 h2 (Mod.fresh m fun _ h => h) (by omega)⟩

theorem apA {a g g' : Nat} {F F' : List Nat} : ∀ q ∈ (a :: g :: F), q = a ∨ q = g ∨ q ∈ F ∨ q = g' ∨ q ∈ F' := fun q hq => by
  simp only [List.mem_cons] at hq
  rcases hq with h | h | h
  · exact Or.inl h
  · exact Or.inr (Or.inl h)
  · exact Or.inr (Or.inr (Or.inl h))
theorem apB {a g g' : Nat} {F F' : List Nat} : ∀ q ∈ (a :: g' :: F'), q = a ∨ q = g ∨ q ∈ F ∨ q = g' ∨ q ∈ F' := fun q hq => by
  simp only [List.mem_cons] at hq
  rcases hq with h | h | h
  · exact Or.inl h
  · exact Or.inr (Or.inr (Or.inr (Or.inl h)))
  · exact Or.inr (Or.inr (Or.inr (Or.inr h)))
structure SS (b b1 b2 gm gn : Nat) (Fm Fn : List Nat) (lm : List (Int × Int)) (H0 : Hp) (n : Int) (H : Hp) : Prop where
  rb : H[b]? = some (.cells #[.bool false] T_bool (0, 0))
  r1 : H[b1]? = some (.cells #[.pointer (some ⟨gm, 0, none⟩)] T_p_sorted_Map_int_int (0, 0))
  r2 : H[b2]? = some (.cells #[.int .i64 n] T_int (0, 0))
  mm : MI.Mp H gm 0 Fm lm
  mn : MI.Mp H gn 0 Fn []
  fr : Mod (fun q => b ≤ q) H0 H
structure SSb (b b1 b2 gm gn : Nat) (Fm Fn : List Nat) (H0 : Hp) : Prop where
  hb : b = H0.size
  o1 : b < b1 ∧ b1 < b2
  o2 : b < gm ∧ gm < b1 ∧ b < gn ∧ gn < b1
  o3 : (∀ q ∈ Fm, b < q ∧ q < b1) ∧ (∀ q ∈ Fn, b < q ∧ q < b1)
section
variable {b b1 b2 gm gn : Nat} {Fm Fn : List Nat} {lm : List (Int × Int)} {H0 : Hp} {n : Int}
theorem SS.keep {μ : Nat → Prop} {H' : Hp} (s : SS b b1 b2 gm gn Fm Fn lm H0 n H) (t : SSb b b1 b2 gm gn Fm Fn H0) (m : Mod μ H H') (h : ∀ q, q ≤ b2 → ¬ μ q) : SS b b1 b2 gm gn Fm Fn lm H0 n H' := by
  obtain ⟨t1, t2, t3, t4⟩ := t
  exact ⟨m.get s.rb (h _ (by omega)), m.get s.r1 (h _ (by omega)), m.get s.r2 (h _ (by omega)), s.mm.keep m (h _ (by omega)) fun q hq => h _ (by have := t4.1 q hq; omega),
    s.mn.keep m (h _ (by omega)) fun q hq => h _ (by have := t4.2 q hq; omega), s.fr.trans (m.mono fun q _ hq => Decidable.byContradiction fun hn => h q (by omega) hq)⟩
theorem SS.mod {H' : Hp} (s : SS b b1 b2 gm gn Fm Fn lm H0 n H) (t : SSb b b1 b2 gm gn Fm Fn H0) (m : Mod (fun _ => False) H H') : SS b b1 b2 gm gn Fm Fn lm H0 n H' := s.keep t m fun _ _ e => e
theorem SS.inc {H' : Hp} {n' : Int} (s : SS b b1 b2 gm gn Fm Fn lm H0 n H) (t : SSb b b1 b2 gm gn Fm Fn H0) (e : H' = Hp.setCell H ⟨b2, 0, none⟩ (.int .i64 n')) : SS b b1 b2 gm gn Fm Fn lm H0 n' H' ∧ Mod (· = b2) H H' := by
  obtain ⟨t1, t2, t3, t4⟩ := t
  obtain ⟨q, m⟩ := set_facts s.r2 e
  exact ⟨⟨m.get s.rb (by omega), m.get s.r1 (by omega), q, s.mm.keep m (by omega) fun q hq => by have := t4.1 q hq; omega,
    s.mn.keep m (by omega) fun q hq => by have := t4.2 q hq; omega, s.fr.trans (m.mono fun q _ hq => by have hq : q = b2 := hq; omega)⟩, m⟩
theorem SS.lt (s : SS b b1 b2 gm gn Fm Fn lm H0 n H) : b2 < H.size := lt_of_get s.r2
theorem SS.ret {v : Bool} {Q : Value → Hp → Prop} (s : SS b b1 b2 gm gn Fm Fn lm H0 n H) (t : SSb b b1 b2 gm gn Fm Fn H0) (hv : v = true) (hQ : ∀ H', Mod (fun _ => False) H0 H' → Q (.bool true) H') :
    WrAt H (Addr.mk b 0 none) 1 ∧ ∀ H57 : Hp, H57 = (Hp.setCell H (Addr.mk b 0 none) (.bool v)) → ∃ x46 : Bool, Hp.cell? H57 (Addr.mk b 0 none) = some (.bool x46) ∧ Q (.bool x46) H57 := by
  subst hv
  refine ⟨wr_at s.rb, fun H' e => ?_⟩
  obtain ⟨q, m⟩ := set_facts s.rb e
  refine ⟨true, cell_at q, hQ H' (Mod.fresh (s.fr.trans (m.mono fun q _ hq => by have hq : q = b := hq; omega)) fun q hq => by rw [← t.hb]; exact hq)⟩
end

theorem SortedSelf_spec {acts : Sl} {xs : List Ac} (hr : Rows H acts 3 (xs.map Ac.cells).flatten) (ok : ∀ a ∈ xs, a.ok) :
    SCalls Try.prog tephralaw05_SortedSelf.id [.slice acts.a acts.len acts.cap] H fun r H' => r = .bool true ∧ Mod (fun _ => False) H H' := by
  apply tephralaw05_SortedSelf.calls
  intro b hb H1 e1
  obtain ⟨rb, m1, s1⟩ := push_facts e1
  rw [← hb] at rb
  refine awake05_spec.mono ?_
  rintro r H2 ⟨rfl, m2⟩
  refine ⟨true, rfl, Br.no rfl ?_⟩
  have hr2 : Rows H2 acts 3 (xs.map Ac.cells).flatten := Fresh.rows ((m1.trans m2).mono fun _ _ e => e.elim) hr
  refine Of_st hr2 ok fun H4 Fm Mm hFm m4 hlen => ?_
  refine Of_st (acts := ⟨none, 0, 0⟩) (xs := []) ⟨rfl, Nat.le_refl _, fun a ha => (by cases ha), fun _ => rfl⟩ (fun a ha => (by cases ha)) fun H5 Fn Mn hFn m5 _ => ?_
  generalize ofL (xs.take 60) = lm at *
  rw [show ofL ([].take 60) = [] from rfl] at Mn
  intro b1 hb1 H6 e6
  obtain ⟨r1, m6, s6⟩ := push_facts e6
  rw [← hb1] at r1
  refine ⟨wr_at r1, fun H7 e7 => ?_⟩
  obtain ⟨r17, m7⟩ := set_facts r1 e7
  intro b2 hb2 H8 e8
  obtain ⟨r2, m8, s8⟩ := push_facts e8
  rw [← hb2] at r2
  refine ⟨wr_at r2, fun H9 e9 => ?_⟩
  obtain ⟨r29, m9⟩ := set_facts r2 e9
  have z2 := m2.size
  have z4 := m4.size
  have z5 := m5.size
  have z6 := m6.size
  have z7 := m7.size
  have lm4 := Mm.lt
  have ln5 := Mn.lt
  have T : SSb b b1 b2 H2.size H4.size Fm Fn H := ⟨hb, ⟨by omega, by omega⟩, ⟨by omega, by omega, by omega, by omega⟩, fun q hq => ⟨by have := hFm q hq; omega, by have := lm4.2 q hq; omega⟩, fun q hq => ⟨by have := hFn q hq; omega, by have := ln5.2 q hq; omega⟩⟩
  have m59 : Mod (fun q => q = b1 ∨ q = b2) H5 H9 := (m6.mono fun _ _ e => e.elim).trans ((m7.mono fun _ _ e => Or.inl e).trans ((m8.mono fun _ _ e => e.elim).trans (m9.mono fun _ _ e => Or.inr e)))
  have S0 : SS b b1 b2 H2.size H4.size Fm Fn lm H 0 H9 := ⟨m59.get (m5.get (m4.get (m2.get rb fun e => e) fun e => e) fun e => e) (by omega), m9.get (m8.get r17 fun e => e) (by omega), r29,
    (Mm.mod m5).keep m59 (by omega) fun q hq => by have := lm4.2 q hq; omega, Mn.keep m59 (by omega) fun q hq => by have := ln5.2 q hq; omega,
    ((m1.trans (m2.trans (m4.trans m5))).mono fun _ _ e => e.elim).trans' m59 fun q _ hq => by omega⟩
  clear rb r1 r17 r2 r29 m59 m9 m8 m7 m6 e1 e6 e7 e8 e9 Mm Mn
  have hrise := S0.mm.rise
  -- what the ranges leave alone
  have apart : ∀ {Ha Hb : Hp} {ba bb : List Nat}, b2 < Ha.size → b2 < Hb.size → (∀ q ∈ ba, q = Ha.size ∨ q = H2.size ∨ q ∈ Fm ∨ q = H4.size ∨ q ∈ Fn) → (∀ q ∈ bb, q = Hb.size ∨ q = H2.size ∨ q ∈ Fm ∨ q = H4.size ∨ q ∈ Fn) →
      ∀ {Hc : Hp}, b2 < Hc.size → b2 ∉ (Hc.size :: (Hc.size + 1) :: (ba ++ bb)) ∧ b ∉ (Hc.size :: (Hc.size + 1) :: (ba ++ bb)) := by
    intro Ha Hb ba bb h1 h2 h3 h4 Hc h5
    obtain ⟨t1, t2, t3, t4⟩ := T
    have key : ∀ q ∈ (Hc.size :: (Hc.size + 1) :: (ba ++ bb)), q ≠ b2 ∧ q ≠ b := fun q hq => by
      simp only [List.mem_cons, List.mem_append] at hq
      rcases hq with hq | hq | hq | hq
      · omega
      · omega
      · rcases h3 q hq with h | h | h | h | h
        · omega
        · omega
        · have := t4.1 q h; omega
        · omega
        · have := t4.2 q h; omega
      · rcases h4 q hq with h | h | h | h | h
        · omega
        · omega
        · have := t4.1 q h; omega
        · omega
        · have := t4.2 q h; omega
    exact ⟨fun h => (key _ h).1 rfl, fun h => (key _ h).2 rfl⟩
  -- the third range
  have k2 : ∀ (fv : Fv) (H' : Hp) (bs : List Nat), SS b b1 b2 H2.size H4.size Fm Fn lm H (2 * lm.length : Nat) H' → Goes Try.prog MI.args fv lm bs H' → b2 ∉ bs →
      tephralaw05_SortedSelf.k2 J0 b b1 b2 fv H' fun r H' => r = .bool true ∧ Mod (fun _ => False) H H' := by
    intro fv H' bs s g hbs
    apply tephralaw05_SortedSelf.k2.step; unfold tephralaw05_SortedSelf.k2.body
    intro fn tm hT
    have hlt := s.lt
    refine g.range' (rec := tephralaw05_SortedSelf.r3.rec fn tm H'.size) [b2] (fun i H1 => SS b b1 b2 H2.size H4.size Fm Fn lm H ((2 * lm.length + i : Nat) : Int) H1) (fun _ _ => False)
      (fun q hq => by simp at hq; subst hq; exact ⟨hlt, hbs⟩) (fun i Ha Hb s m => s.keep T m fun q hq => by omega) (fun _ _ _ h _ => h) (by simpa using s) (fun i hi Ha m s hl => ?_) (fun Ha m s => ?_) (fun _ _ _ h => h.elim)
    · refine tephralaw05_SortedSelf.r3.calls hl hT ⟨hl, fun H11 e11 => ?_⟩
      obtain ⟨l11, m11⟩ := rec_facts hl e11
      have s11 := s.keep T m11 fun q hq => by omega
      refine ⟨_, cell_at s11.r2, wr_at s11.r2, fun H12 e12 => ?_⟩
      rw [w64_id (x := ((2 * lm.length + i : Nat) : Int) + 1) (by omega) (by omega)] at e12
      obtain ⟨s12, m12⟩ := s11.inc T e12
      have l12 := m12.get l11 (by omega)
      obtain ⟨l13, m13⟩ := rec_facts (o' := tephralaw05_SortedSelf.r3.rec fn tm H'.size .ready none) l12 rfl
      have s13 := s12.keep T m13 fun q hq => by omega
      exact ⟨⟨_, _, l12⟩, (m11.mono fun q _ h => Or.inr h).trans ((m12.mono fun q _ h => Or.inl (by simpa using h)).trans (m13.mono fun q _ h => Or.inr h)), Or.inl ⟨rfl, by simpa [Int.natCast_add, Nat.add_assoc, Int.add_assoc] using s13, l13⟩⟩
    · refine jump_none ⟨_, cell_at s.r1, ⟨_, cell_at s.r2, MI.len_step s.mm fun Hb mb => ?_⟩, MI.len_step s.mm fun Hb mb => ⟨_, cell_at (s.mod T mb).r2, ?_⟩⟩
      all_goals
        have hv : (((2 * lm.length + lm.length : Nat) : Int) == w64 ((3 : Int) * (lm.length : Int))) = true := by
          rw [w64_id (x := (3 : Int) * (lm.length : Int)) (by omega) (by omega), beq_iff_eq]; omega
        rw [hv]
        exact SS.ret (Q := fun r H' => r = .bool true ∧ Mod (fun _ => False) H H') (s.mod T mb) T rfl fun Hc mc => ⟨rfl, mc⟩
  -- the first and the second one
  have k1 : ∀ (fv : Fv) (H' : Hp) (bs : List Nat), SS b b1 b2 H2.size H4.size Fm Fn lm H 0 H' → Goes Try.prog MI.args fv lm bs H' → b2 ∉ bs → b ∉ bs →
      tephralaw05_SortedSelf.k1 J0 b (some ⟨H4.size, 0, none⟩) b1 b2 fv H' fun r H' => r = .bool true ∧ Mod (fun _ => False) H H' := by
    intro fv H' bs s g hbs hbs'
    apply tephralaw05_SortedSelf.k1.step; unfold tephralaw05_SortedSelf.k1.body
    intro fn tm hT
    have hlt := s.lt
    refine g.range' (rec := tephralaw05_SortedSelf.r1.rec fn tm H'.size) [b2, b] (fun i H1 => SS b b1 b2 H2.size H4.size Fm Fn lm H (i : Int) H1) (fun _ _ => False)
      (fun q hq => by
        simp at hq
        rcases hq with rfl | rfl
        · exact ⟨hlt, hbs⟩
        · exact ⟨lt_of_get s.rb, hbs'⟩) (fun i Ha Hb s m => s.keep T m fun q hq => by omega) (fun _ _ _ h _ => h) s (fun i hi Ha m s hl => ?_) (fun Ha m s => ?_) (fun _ _ _ h => h.elim)
    · refine tephralaw05_SortedSelf.r1.calls hl hT ⟨hl, fun H11 e11 => ?_⟩
      obtain ⟨l11, m11⟩ := rec_facts hl e11
      have s11 := s.keep T m11 fun q hq => by omega
      refine ⟨_, cell_at s11.r1, MI.get_step s11.mm fun H19 m19 => ?_⟩
      rw [MI.get_mem hrise (k := lm[i].1) (v := lm[i].2) (List.getElem_mem hi)]
      have s19 := s11.mod T m19
      have l19 := m19.get l11 fun e => e
      refine Br.no rfl (Br.no (by simp) ⟨_, cell_at s19.r2, wr_at s19.r2, fun H12 e12 => ?_⟩)
      rw [w64_id (x := (i : Int) + 1) (by omega) (by omega)] at e12
      obtain ⟨s12, m12⟩ := s19.inc T e12
      have l12 := m12.get l19 (by omega)
      obtain ⟨l13, m13⟩ := rec_facts (o' := tephralaw05_SortedSelf.r1.rec fn tm H'.size .ready none) l12 rfl
      have s13 := s12.keep T m13 fun q hq => by omega
      exact ⟨⟨_, _, l12⟩, (m11.mono fun q _ h => Or.inr h).trans ((m19.mono fun _ _ e => e.elim).trans ((m12.mono fun q _ h => Or.inl (by have h : q = b2 := h; simp [h])).trans (m13.mono fun q _ h => Or.inr h))), Or.inl ⟨rfl, by simpa using s13, l13⟩⟩
    · refine jump_none ⟨_, cell_at s.r1, MI.all_st s.mm fun fa Hb ga mb => ?_⟩
      have sb := s.mod T mb
      refine MI.all_st sb.mn fun fb Hc gb mc => ?_
      have sc := sb.mod T mc
      refine MI.merge_st (ga.mod mc fun _ _ e => e) gb (by simp) fun f2 Hd gd md => ?_
      have sd := sc.mod T md
      rw [mergeL_none] at gd
      intro fn1 tm1 hT1
      have hltd := sd.lt
      have ltc := sc.lt
      have lta := s.lt
      have ltb := sb.lt
      have ap := (apart (Ha := Ha) (Hb := Hb) (ba := Ha.size :: H2.size :: Fm) (bb := Hb.size :: H4.size :: Fn) lta ltb apA apB (Hc := Hc) ltc).1
      refine gd.range' (rec := tephralaw05_SortedSelf.r2.rec fn1 tm1 Hd.size) [b2] (fun i H1 => SS b b1 b2 H2.size H4.size Fm Fn lm H ((lm.length + i : Nat) : Int) H1) (fun _ _ => False)
        (fun q hq => by simp at hq; subst hq; exact ⟨hltd, ap⟩) (fun i Ha Hb s m => s.keep T m fun q hq => by omega) (fun _ _ _ h _ => h) (by simpa using sd) (fun i hi Ha m s hl => ?_) (fun Ha m s => ?_) (fun _ _ _ h => h.elim)
      · refine tephralaw05_SortedSelf.r2.calls hl hT1 ⟨hl, fun H11 e11 => ?_⟩
        obtain ⟨l11, m11⟩ := rec_facts hl e11
        have s11 := s.keep T m11 fun q hq => by omega
        refine ⟨_, cell_at s11.r2, wr_at s11.r2, fun H12 e12 => ?_⟩
        rw [w64_id (x := ((lm.length + i : Nat) : Int) + 1) (by omega) (by omega)] at e12
        obtain ⟨s12, m12⟩ := s11.inc T e12
        have l12 := m12.get l11 (by omega)
        obtain ⟨l13, m13⟩ := rec_facts (o' := tephralaw05_SortedSelf.r2.rec fn1 tm1 Hd.size .ready none) l12 rfl
        have s13 := s12.keep T m13 fun q hq => by omega
        exact ⟨⟨_, _, l12⟩, (m11.mono fun q _ h => Or.inr h).trans ((m12.mono fun q _ h => Or.inl (by simpa using h)).trans (m13.mono fun q _ h => Or.inr h)), Or.inl ⟨rfl, by simpa [Int.natCast_add, Nat.add_assoc, Int.add_assoc] using s13, l13⟩⟩
      · have s' : SS b b1 b2 H2.size H4.size Fm Fn lm H (2 * lm.length : Nat) Ha := by rw [show 2 * lm.length = lm.length + lm.length by omega]; exact s
        refine jump_none ⟨MI.all_st s'.mn fun fa He ga me => ?_, _, cell_at s'.r1, MI.all_st s'.mn fun fa He ga me => ?_⟩
        · have se := s'.mod T me
          refine ⟨_, cell_at se.r1, MI.all_st se.mm fun fb Hf gb mf => ?_⟩
          have sf := se.mod T mf
          refine MI.merge_st (ga.mod mf fun _ _ e => e) gb (by omega) fun f3 Hg gg mg => ?_
          rw [mergeL_nil] at gg
          exact k2 f3 Hg _ (sf.mod T mg) gg (apart (Ha := Ha) (Hb := He) s'.lt se.lt apB apA sf.lt).1
        · have se := s'.mod T me
          refine MI.all_st se.mm fun fb Hf gb mf => ?_
          have sf := se.mod T mf
          refine MI.merge_st (ga.mod mf fun _ _ e => e) gb (by omega) fun f3 Hg gg mg => ?_
          rw [mergeL_nil] at gg
          exact k2 f3 Hg _ (sf.mod T mg) gg (apart (Ha := Ha) (Hb := He) s'.lt se.lt apB apA sf.lt).1
  refine ⟨_, cell_at S0.r1, MI.all_st S0.mm fun fa Ha ga ma => ?_, _, cell_at S0.r1, MI.all_st S0.mm fun fa Ha ga ma => ?_⟩
  · have sa := S0.mod T ma
    refine ⟨_, cell_at sa.r1, MI.all_st sa.mm fun fb Hb gb mb => ?_⟩
    have sb := sa.mod T mb
    refine MI.merge_st (ga.mod mb fun _ _ e => e) gb (by omega) fun fc Hc gc mc => ?_
    rw [mergeL_self hrise] at gc
    have ap := apart (Ha := H9) (Hb := Ha) (ba := H9.size :: H2.size :: Fm) (bb := Ha.size :: H2.size :: Fm) S0.lt sa.lt apA apA (Hc := Hb) sb.lt
    exact k1 fc Hc _ (sb.mod T mc) gc ap.1 ap.2
  · have sa := S0.mod T ma
    refine MI.all_st sa.mm fun fb Hb gb mb => ?_
    have sb := sa.mod T mb
    refine MI.merge_st (ga.mod mb fun _ _ e => e) gb (by omega) fun fc Hc gc mc => ?_
    rw [mergeL_self hrise] at gc
    have ap := apart (Ha := H9) (Hb := Ha) (ba := H9.size :: H2.size :: Fm) (bb := Ha.size :: H2.size :: Fm) S0.lt sa.lt apA apA (Hc := Hb) sb.lt
    exact k1 fc Hc _ (sb.mod T mc) gc ap.1 ap.2
end
end Go.Proofs
