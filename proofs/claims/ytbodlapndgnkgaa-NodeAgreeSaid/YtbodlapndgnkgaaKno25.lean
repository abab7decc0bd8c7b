/- LAYER 14: plain: what all replicas agree on (the invariant), and that a replica's deed keeps it. -/
import Derived.Test.YtbodlapndgnkgaaKno24
set_option linter.all false
set_option linter.constructorNameAsVariable false
namespace Go.Proofs
open Go Go.KC
/-- v has told the leader of t that it has the first k; or it is that leader. -/
def AK (s : List Mg) (L : Int → List En) (v t : Int) (k : Nat) : Prop :=
  (∃ m ∈ s, m.kind = 3 ∧ m.ok = true ∧ m.frm = v ∧ m.term = t ∧ (k : Int) ≤ m.index) ∨ (Ld s t v ∧ L t ≠ [] ∧ k ≤ (L t).length)
def ent (g : List En) (k : Nat) (t : Int) : Prop := ∃ j e, k = j + 1 ∧ g[j]? = some e ∧ e.term = t
/-- The first k of term t may be committed, now or later. -/
def Ch (s : List Mg) (L : Int → List En) (tv : Int → Int) (t : Int) (k : Nat) : Prop :=
  ent (L t) k t ∧ ∃ v v', in3 v ∧ in3 v' ∧ v ≠ v' ∧ (AK s L v t k ∨ tv v ≤ t) ∧ (AK s L v' t k ∨ tv v' ≤ t)
def Cmt (s : List Mg) (L : Int → List En) (t : Int) (k : Nat) : Prop :=
  ent (L t) k t ∧ ∃ v v', in3 v ∧ in3 v' ∧ v ≠ v' ∧ AK s L v t k ∧ AK s L v' t k
def CmP (s : List Mg) (L : Int → List En) (g : List En) (T c : Int) : Prop :=
  c ≤ 0 ∨ ∃ t k, Cmt s L t k ∧ c ≤ ((k : Nat) : Int) ∧ t ≤ T ∧ Sam g (L t) c.toNat
def SndOk (s : List Mg) (L : Int → List En) (m : Mg) : Prop :=
  L m.term ≠ [] ∧ (∃ p n : Nat, m.index = (p : Int) ∧ m.es = ((L m.term).drop p).take n ∧ p + n ≤ (L m.term).length ∧ m.lt = tmAt (L m.term) p) ∧ CmP s L (L m.term) m.term m.com
def InsOk (s : List Mg) (L : Int → List En) (m : Mg) : Prop :=
  ∀ i t, m.st = some (i, t) → L m.term ≠ [] ∧ 0 ≤ i ∧ i ≤ ((L m.term).length : Int) ∧ t = tmAt (L m.term) i.toNat ∧ CmP s L (L m.term) m.term i
def Wd.tv (w : Wd) (v : Int) : Int := (w.nd v).term
structure Ag (w : Wd) (G L : Int → List En) : Prop where
  nd : ∀ v, in3 v → Of (G v) (w.nd v).base (w.nd v).bt (w.nd v).es
  bc : ∀ v, in3 v → (w.nd v).base ≤ (w.nd v).com ∧ (w.nd v).com ≤ ((G v).length : Int)
  ch : ∀ v, in3 v → Chn L (G v)
  lch : ∀ t, Chn L (L t)
  tms : ∀ v, in3 v → ∀ e ∈ G v, e.term ≤ (w.nd v).term
  ltm : ∀ t, ∀ e ∈ L t, e.term ≤ t
  lrt : ∀ t (k : Nat) (e : En), (L t)[k]? = some e → e.index = (k : Int) + 1 ∧ e.Right
  ld : ∀ t, L t ≠ [] → ∃ c, in3 c ∧ Ld w.sent t c
  lc : ∀ t c, in3 c → L t ≠ [] → Ld w.sent t c → t ≤ (w.nd c).term ∧ (t = (w.nd c).term → (w.nd c).role ≠ 1)
  rl : ∀ v, in3 v → (w.nd v).role = 2 → G v = L (w.nd v).term ∧ G v ≠ []
  akb : ∀ v t k, in3 v → AK w.sent L v t k → k ≤ (L t).length
  nn : ∀ v t k, in3 v → AK w.sent L v t k → Ch w.sent L w.tv t k → Sam (G v) (L t) k
  cand : ∀ c v t k, in3 c → in3 v → (w.nd c).role = 1 → gr w.sent v c (w.nd c).term → t < (w.nd c).term → AK w.sent L v t k → Ch w.sent L w.tv t k → Sam (G c) (L t) k
  pp : ∀ T t k, L T ≠ [] → t < T → Ch w.sent L w.tv t k → Sam (L T) (L t) k
  cm : ∀ v, in3 v → CmP w.sent L (G v) (w.nd v).term (w.nd v).com
  ask : ∀ m ∈ w.sent, m.kind = 0 → (w.nd m.frm).role = 1 → (w.nd m.frm).term = m.term → m.index = ((G m.frm).length : Int) ∧ m.lt = tmAt (G m.frm) (G m.frm).length
  snd : ∀ m ∈ w.sent, m.kind = 2 → SndOk w.sent L m
  ins : ∀ m ∈ w.sent, m.kind = 4 → InsOk w.sent L m
  mtm : ∀ m ∈ w.sent, in3 m.frm ∧ m.term ≤ (w.nd m.frm).term
  vtm : ∀ m ∈ w.sent, m.kind = 1 → m.ok = true → in3 m.to ∧ m.term ≤ (w.nd m.to).term
  mt : ∀ v, in3 v → (w.nd v).role = 2 → ∀ j, in3 j → ∀ k : Nat, 1 ≤ k → (k : Int) ≤ (w.nd v).mt j → AK w.sent L j (w.nd v).term k
/-- What a replica's deed must keep. -/
structure Pt (w : Wd) (G L L' : Int → List En) (i : Int) (n' : Nd) (ms : List Mg) (g' : List En) : Prop where
  tm : (w.nd i).term ≤ n'.term
  r1 : n'.role = 1 → g' = G i ∧ ((w.nd i).role = 1 ∧ n'.term = (w.nd i).term ∨ (w.nd i).term < n'.term)
  hL : ∀ t, L' t = L t ∨ (t = n'.term ∧ n'.role = 2 ∧ L' t = g' ∧ L t <+: g' ∧ (L t = [] → (w.nd i).role = 1 ∧ (w.nd i).term = n'.term ∧ G i <+: g'))
  rl : n'.role = 2 → g' = L' n'.term ∧ g' ≠ []
  nd : Of g' n'.base n'.bt n'.es
  bc : n'.base ≤ n'.com ∧ n'.com ≤ (g'.length : Int)
  ch : Chn L' g'
  tms : ∀ e ∈ g', e.term ≤ n'.term
  rt : ∀ (k : Nat) (e : En), g'[k]? = some e → e.index = (k : Int) + 1 ∧ e.Right
  kp : ∀ t k, Sam (G i) (L t) k → (t = n'.term ∨ (L n'.term ≠ [] → Sam (L n'.term) (L t) k)) → Sam g' (L t) k
  cm : CmP (w.sent ++ ms) L' g' n'.term n'.com
  mt : n'.role = 2 → ∀ j, in3 j → ∀ k : Nat, 1 ≤ k → (k : Int) ≤ n'.mt j → AK (w.sent ++ ms) L' j n'.term k
  mf : ∀ m ∈ ms, m.frm = i ∧ m.term ≤ n'.term
  m0 : ∀ m ∈ ms, m.kind = 0 → n'.role = 1 ∧ (w.nd i).term < n'.term ∧ m.index = (g'.length : Int) ∧ m.lt = tmAt g' g'.length
  m1 : ∀ m ∈ ms, m.kind = 1 → m.ok = true → in3 m.to ∧ m.to ≠ i ∧ m.term ≤ (w.nd m.to).term ∧ ((w.nd m.to).role = 1 → (w.nd m.to).term = m.term →
    tmAt (G i) (G i).length < tmAt (G m.to) (G m.to).length ∨ tmAt (G i) (G i).length = tmAt (G m.to) (G m.to).length ∧ (G i).length ≤ (G m.to).length)
  m3 : ∀ m ∈ ms, m.kind = 3 → m.ok = true → m.term = n'.term ∧ ∀ k : Nat, (k : Int) ≤ m.index → Sam g' (L' n'.term) k
  m2 : ∀ m ∈ ms, m.kind = 2 → SndOk (w.sent ++ ms) L' m
  m4 : ∀ m ∈ ms, m.kind = 4 → InsOk (w.sent ++ ms) L' m

theorem pre_ne {g g' : List En} (h : g <+: g') (hn : g ≠ []) : g' ≠ [] := fun e => hn (by subst e; exact List.prefix_nil.1 h)
theorem AK.mono {s ms : List Mg} {L L' : Int → List En} {v t : Int} {k : Nat} (h : AK s L v t k) (hp : ∀ t, L t <+: L' t) : AK (s ++ ms) L' v t k := by
  rcases h with ⟨m, hm, h⟩ | ⟨a, b, c⟩
  · exact Or.inl ⟨m, List.mem_append_left _ hm, h⟩
  · exact Or.inr ⟨a.left, pre_ne (hp t) b, Nat.le_trans c (hp t).length_le⟩
theorem ent.le {g : List En} {k : Nat} {t : Int} (h : ent g k t) : k ≤ g.length := by
  obtain ⟨j, e, rfl, h, _⟩ := h; exact (List.getElem?_eq_some_iff.1 h).1
theorem ent.pre {g g' : List En} {k : Nat} {t : Int} (h : ent g k t) (hp : g <+: g') : ent g' k t := by
  have hl := h.le
  obtain ⟨j, e, rfl, h, h2⟩ := h
  exact ⟨j, e, rfl, by rw [← (Sam.pre hp hl).get (Nat.lt_succ_self j)]; exact h, h2⟩
theorem ent.old {g g' : List En} {k : Nat} {t : Int} (h : ent g' k t) (hp : g <+: g') (hl : k ≤ g.length) : ent g k t := by
  obtain ⟨j, e, rfl, h, h2⟩ := h
  exact ⟨j, e, rfl, by rw [(Sam.pre hp hl).get (Nat.lt_succ_self j)]; exact h, h2⟩
theorem Cmt.mono {s ms : List Mg} {L L' : Int → List En} {t : Int} {k : Nat} (h : Cmt s L t k) (hp : ∀ t, L t <+: L' t) : Cmt (s ++ ms) L' t k := by
  obtain ⟨a, v, v', b, c, d, e, f⟩ := h
  exact ⟨a.pre (hp t), v, v', b, c, d, e.mono hp, f.mono hp⟩
theorem Cmt.ch {s : List Mg} {L : Int → List En} {t : Int} {k : Nat} (h : Cmt s L t k) (tv : Int → Int) : Ch s L tv t k := by
  obtain ⟨a, v, v', b, c, d, e, f⟩ := h
  exact ⟨a, v, v', b, c, d, Or.inl e, Or.inl f⟩
theorem Sam.ext {g h h' : List En} {k : Nat} (a : Sam g h k) (hp : h <+: h') : Sam g h' k := a.trans (Sam.pre hp a.2.1)
theorem Sam.ext' {g g' h : List En} {k : Nat} (a : Sam g h k) (hp : g <+: g') : Sam g' h k := (a.symm.ext hp).symm
theorem CmP.mono {s ms : List Mg} {L L' : Int → List En} {g g' : List En} {T T' c : Int} (h : CmP s L g T c) (hp : ∀ t, L t <+: L' t) (hg : g <+: g') (hT : T ≤ T') : CmP (s ++ ms) L' g' T' c := by
  rcases h with h | ⟨t, k, a, b, d, e⟩
  · exact Or.inl h
  · exact Or.inr ⟨t, k, a.mono hp, b, Int.le_trans d hT, (e.ext (hp t)).ext' hg⟩
theorem SndOk.mono {s ms : List Mg} {L L' : Int → List En} {m : Mg} (h : SndOk s L m) (hp : ∀ t, L t <+: L' t) : SndOk (s ++ ms) L' m := by
  obtain ⟨a, ⟨p, n, b, c, d, e⟩, f⟩ := h
  refine ⟨pre_ne (hp _) a, ⟨p, n, b, ?_, Nat.le_trans d (hp _).length_le, ?_⟩, f.mono hp (hp _) (Int.le_refl _)⟩
  · rw [c]
    obtain ⟨r, hr⟩ := hp m.term
    rw [← hr, List.drop_append_of_le_length (by omega), List.take_append_of_le_length (by rw [List.length_drop]; omega)]
  · rw [e]; exact (Sam.pre (hp _) (by omega)).tm
theorem InsOk.mono {s ms : List Mg} {L L' : Int → List En} {m : Mg} (h : InsOk s L m) (hp : ∀ t, L t <+: L' t) : InsOk (s ++ ms) L' m := fun i t e => by
  obtain ⟨a, b, c, d, f⟩ := h i t e
  have := (hp m.term).length_le
  refine ⟨pre_ne (hp _) a, b, by omega, ?_, f.mono hp (hp _) (Int.le_refl _)⟩
  rw [d]; exact (Sam.pre (hp _) (by omega)).tm
/-- Two majorities meet. -/
theorem meet3 {a b c d : Int} (ha : in3 a) (hb : in3 b) (hc : in3 c) (hd : in3 d) (h1 : a ≠ b) (h2 : c ≠ d) : (a = c ∨ a = d) ∨ (b = c ∨ b = d) := by
  unfold in3 at *; omega
theorem last_get {g : List En} (h : 0 < g.length) : ∃ e, g[g.length - 1]? = some e ∧ tmAt g g.length = e.term := by
  obtain ⟨n, hn⟩ : ∃ n, g.length = n + 1 := ⟨g.length - 1, by omega⟩
  have hl : n < g.length := by omega
  refine ⟨g[n], by rw [hn]; exact List.getElem?_eq_getElem hl, by rw [hn]; exact tmAt_get (List.getElem?_eq_getElem hl)⟩
/-- Who is newer than one that has what may be committed has it too. -/
theorem newer_sam {s : List Mg} {L : Int → List En} {tv : Int → Int} {gi gc : List En} {t : Int} {k : Nat} (hi : Chn L gi) (hc : Chn L gc) (ltm : ∀ t, ∀ e ∈ L t, e.term ≤ t)
    (lrt : ∀ t (k : Nat) (e : En), (L t)[k]? = some e → e.index = (k : Int) + 1 ∧ e.Right) (pp : ∀ T t k, L T ≠ [] → t < T → Ch s L tv t k → Sam (L T) (L t) k) (h : Ch s L tv t k) (a : Sam gi (L t) k)
    (hn : tmAt gi gi.length < tmAt gc gc.length ∨ tmAt gi gi.length = tmAt gc gc.length ∧ gi.length ≤ gc.length) : Sam gc (L t) k := by
  obtain ⟨j, e, rfl, he, het⟩ := h.1
  have hji := a.1
  obtain ⟨f, hf, hft⟩ := last_get (g := gi) (by omega)
  have sf := hi _ _ hf
  have ei : gi.length - 1 + 1 = gi.length := by omega
  rw [ei] at sf
  have hef : (L f.term)[j]? = some e := by rw [← sf.get (by omega), a.get (by omega)]; exact he
  have htf : t ≤ f.term := by rw [← het]; exact ltm _ e (List.mem_of_getElem? hef)
  have hff : (L f.term)[gi.length - 1]? = some f := by rw [← sf.get (by omega)]; exact hf
  have f0 := (lrt _ _ _ hff).2.2.2.1
  have hcl : 0 < gc.length := by
    by_cases c : 0 < gc.length
    · exact c
    · have e0 : gc.length = 0 := by omega
      rw [e0] at hn
      have : tmAt gc 0 = 0 := rfl
      omega
  obtain ⟨x, hx, hxt⟩ := last_get hcl
  have sx := hc _ _ hx
  have ec : gc.length - 1 + 1 = gc.length := by omega
  rw [ec] at sx
  rw [hft, hxt] at hn
  rcases hn with hn | ⟨hn, hlen⟩
  · have hxx : (L x.term)[gc.length - 1]? = some x := by rw [← sx.get (by omega)]; exact hx
    have p := pp x.term t (j + 1) (fun e => by rw [e] at hxx; simp at hxx) (by omega) h
    by_cases c : j + 1 ≤ gc.length
    · exact (sx.le c).trans p
    · exfalso
      rw [p.get (by omega)] at hxx
      have := ltm _ x (List.mem_of_getElem? hxx)
      omega
  · rw [← hn] at sx
    exact ((sx.le (by omega)).trans (sf.le hji).symm).trans a
end Go.Proofs
