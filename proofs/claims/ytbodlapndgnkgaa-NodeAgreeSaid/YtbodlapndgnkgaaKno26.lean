/- LAYER 14: plain: a replica's deed keeps what all agree on. -/
import Derived.Test.YtbodlapndgnkgaaKno25
set_option linter.all false
set_option linter.constructorNameAsVariable false
namespace Go.Proofs
open Go Go.KC
section
variable {w : Wd} {G L L' : Int → List En} {i : Int} {n' : Nd} {ms : List Mg} {g' : List En}
theorem Pt.pre (P : Pt w G L L' i n' ms g') (t : Int) : L t <+: L' t := by
  rcases P.hL t with e | ⟨_, _, e, h, _⟩
  · rw [e]; exact List.prefix_refl _
  · rw [e]; exact h
theorem Pt.gms (P : Pt w G L L' i n' ms g') {v c T : Int} (h : gr ms v c T) : v = i ∧ ((c = i ∧ n'.role = 1 ∧ (w.nd i).term < n'.term) ∨ (c ≠ i ∧ ∃ m ∈ ms, m.kind = 1 ∧ m.ok = true ∧ m.to = c ∧ m.term = T)) := by
  rcases h with ⟨rfl, m, hm, k, h1, h2⟩ | ⟨e, m, hm, k, ok, h1, h2, h3⟩
  · have a := (P.mf m hm).1
    have b := P.m0 m hm k
    exact ⟨by rw [← h1]; exact a, Or.inl ⟨by rw [← h1]; exact a, b.1, b.2.1⟩⟩
  · have a := (P.mf m hm).1
    have ev : v = i := by rw [← h1]; exact a
    exact ⟨ev, Or.inr ⟨fun e2 => e (by rw [ev, e2]), m, hm, k, ok, h2, h3⟩⟩
theorem put_Ag (A : Ag w G L) (E : El w) (E' : El (w.put i n' ms)) (hi : in3 i) (P : Pt w G L L' i n' ms g') : Ag (w.put i n' ms) (fun v => if v = i then g' else G v) L' := by
  have es : (w.put i n' ms).sent = w.sent ++ ms := rfl
  have ni : (w.put i n' ms).nd i = n' := by rw [put_nd hi hi, if_pos rfl]
  have nn : ∀ v, in3 v → v ≠ i → (w.put i n' ms).nd v = w.nd v := fun v hv e => by rw [put_nd hi hv, if_neg e]
  have hp := P.pre
  have tmo : ∀ v, in3 v → (w.nd v).term ≤ ((w.put i n' ms).nd v).term := fun v hv => by
    by_cases e : v = i
    · rw [e, ni]; exact P.tm
    · rw [nn v hv e]; exact Int.le_refl _
  have akn : ∀ v t k, AK (w.sent ++ ms) L' v t k → AK w.sent L v t k ∨ (v = i ∧ t = n'.term ∧ Sam g' (L' t) k) := by
    intro v t k h
    rcases h with ⟨m, hm, k3, ok, h1, h2, h3⟩ | ⟨a, b, c⟩
    · rcases List.mem_append.1 hm with hm | hm
      · exact Or.inl (Or.inl ⟨m, hm, k3, ok, h1, h2, h3⟩)
      · have q := P.m3 m hm k3 ok
        have f := (P.mf m hm).1
        refine Or.inr ⟨by rw [← h1]; exact f, by rw [← h2]; exact q.1, ?_⟩
        have := q.2 k h3
        rwa [← h2, q.1]
    · rcases P.hL t with e | ⟨e1, e2, e3, _, _⟩
      · rw [e] at b c
        obtain ⟨c0, _, h0⟩ := A.ld t b
        have : c0 = v := E'.one (t := t) (by rw [es]; exact h0.left) (by rw [es]; exact a)
        subst this
        exact Or.inl (Or.inr ⟨h0, b, c⟩)
      · have g4 := E'.g4 i hi (by rw [ni]; exact e2)
        rw [ni, ← e1] at g4
        have : v = i := E'.one (t := t) (by rw [es]; exact a) g4
        refine Or.inr ⟨this, e1, ?_⟩
        rw [e3] at c ⊢
        exact Sam.refl c
  have chn : ∀ t k, Ch (w.sent ++ ms) L' (w.put i n' ms).tv t k → k ≤ (L t).length → Ch w.sent L w.tv t k := by
    rintro t k ⟨a, v, v', hv, hv', ne, b, c⟩ hk
    have one : ∀ u, in3 u → (AK (w.sent ++ ms) L' u t k ∨ (w.put i n' ms).tv u ≤ t) → (AK w.sent L u t k ∨ w.tv u ≤ t) := by
      intro u hu h
      rcases h with h | h
      · rcases akn _ _ _ h with h | ⟨rfl, e, _⟩
        · exact Or.inl h
        · exact Or.inr (by rw [e]; exact P.tm)
      · exact Or.inr (Int.le_trans (tmo u hu) h)
    exact ⟨a.old (hp t) hk, v, v', hv, hv', ne, one v hv b, one v' hv' c⟩
  have gtm : ∀ v c t, in3 v → gr w.sent v c t → t ≤ (w.nd c).term := by
    intro v c t _ h
    rcases h with ⟨rfl, m, hm, _, h1, h2⟩ | ⟨e, m, hm, k, ok, h1, h2, h3⟩
    · have := (A.mtm m hm).2; rw [h1, h2] at this; exact this
    · have := (A.vtm m hm k ok).2; rw [h2, h3] at this; exact this
  have akt : ∀ v t k, in3 v → AK w.sent L v t k → t ≤ (w.nd v).term := by
    intro v t k hv h
    rcases h with ⟨m, hm, _, _, h1, h2, _⟩ | ⟨a, b, _⟩
    · have := (A.mtm m hm).2; rw [h1, h2] at this; exact this
    · exact (A.lc t v hv b a).1
  have cand : ∀ c v t k, in3 c → in3 v → ((w.put i n' ms).nd c).role = 1 → gr (w.sent ++ ms) v c ((w.put i n' ms).nd c).term → t < ((w.put i n' ms).nd c).term → AK (w.sent ++ ms) L' v t k → Ch (w.sent ++ ms) L' (w.put i n' ms).tv t k →
      Sam (if c = i then g' else G c) (L t) k := by
    intro c v t k hc hv hr hg ht hak hch
    have g1 := (E'.g1 v c _ hv (by rw [es]; exact hg)).1
    have hak : AK w.sent L v t k := by
      rcases akn _ _ _ hak with h | ⟨e, e2, _⟩
      · exact h
      · rw [e, ni] at g1; omega
    have hc2 := chn t k hch (A.akb v t k hv hak)
    clear hch
    by_cases e : c = i
    · subst e
      rw [if_pos rfl]
      rw [ni] at hr hg ht g1
      obtain ⟨eg, h⟩ := P.r1 hr
      rw [eg]
      rcases h with ⟨h1, h2⟩ | h
      · rcases hg.split with hg | hg
        · rw [h2] at hg ht
          exact A.cand c v t k hc hv h1 hg ht hak hc2
        · obtain ⟨ev, h | h⟩ := P.gms hg
          · omega
          · exact absurd rfl h.1
      · rcases hg.split with hg | hg
        · have := gtm v c _ hv hg; omega
        · obtain ⟨ev, _⟩ := P.gms hg
          subst ev
          exact A.nn v t k hv hak hc2
    · rw [if_neg e]
      rw [nn c hc e] at hr hg ht
      rcases hg.split with hg | hg
      · exact A.cand c v t k hc hv hr hg ht hak hc2
      · obtain ⟨ev, h | ⟨_, m, hm, k1, ok, h2, h3⟩⟩ := P.gms hg
        · exact absurd h.1 e
        · subst ev
          have q := (P.m1 m hm k1 ok).2.2.2
          rw [h2, h3] at q
          exact newer_sam (A.ch v hv) (A.ch c hc) A.ltm A.lrt A.pp hc2 (A.nn v t k hv hak hc2) (q hr rfl)
  have pp : ∀ T t k, L' T ≠ [] → t < T → Ch (w.sent ++ ms) L' (w.put i n' ms).tv t k → Sam (L' T) (L t) k := by
    intro T t k hT htT hch
    have key : ∀ c v1 v2, in3 v1 → in3 v2 → v1 ≠ v2 → gr w.sent v1 c T → gr w.sent v2 c T → ∃ u, in3 u ∧ gr w.sent u c T ∧ AK w.sent L u t k := by
      intro c v1 v2 h1 h2 hne g1 g2
      obtain ⟨_, u1, u2, k1, k2, kne, q1, q2⟩ := hch
      have one : ∀ u, in3 u → gr w.sent u c T → (AK (w.sent ++ ms) L' u t k ∨ (w.put i n' ms).tv u ≤ t) → AK w.sent L u t k := by
        intro u hu hg h
        have a := (E.g1 u c T hu hg).1
        have b := tmo u hu
        rcases h with h | h
        · rcases akn _ _ _ h with h | ⟨e, e2, _⟩
          · exact h
          · subst e; have := P.tm; omega
        · unfold Wd.tv at h; omega
      rcases meet3 h1 h2 k1 k2 hne kne with (rfl | rfl) | (rfl | rfl)
      · exact ⟨_, h1, g1, one _ h1 g1 q1⟩
      · exact ⟨_, h1, g1, one _ h1 g1 q2⟩
      · exact ⟨_, h2, g2, one _ h2 g2 q1⟩
      · exact ⟨_, h2, g2, one _ h2 g2 q2⟩
    by_cases c0 : L T = []
    · rcases P.hL T with e | ⟨e1, e2, e3, _, e5⟩
      · rw [e] at hT; exact absurd c0 hT
      · obtain ⟨r1, t1, pg⟩ := e5 c0
        have g4 := E'.g4 i hi (by rw [ni]; exact e2)
        rw [ni, ← e1] at g4
        obtain ⟨v1, v2, h1, h2, hne, g1, g2⟩ := g4
        have old : ∀ v, gr (w.sent ++ ms) v i T → gr w.sent v i T := fun v h => by
          rcases h.split with h | h
          · exact h
          · obtain ⟨_, h | h⟩ := P.gms h
            · omega
            · exact absurd rfl h.1
        obtain ⟨u, hu, gu, ku⟩ := key i v1 v2 h1 h2 hne (old _ g1) (old _ g2)
        have hc := chn t k hch (A.akb u t k hu ku)
        have := A.cand i u t k hi hu r1 (by rw [t1, ← e1]; exact gu) (by omega) ku hc
        rw [e3]
        exact this.ext' pg
    · obtain ⟨c, _, v1, v2, h1, h2, hne, g1, g2⟩ := A.ld T c0
      obtain ⟨u, hu, gu, ku⟩ := key c v1 v2 h1 h2 hne g1 g2
      have hc := chn t k hch (A.akb u t k hu ku)
      exact (A.pp T t k c0 htT hc).ext' (hp T)
  refine ⟨?_, ?_, ?_, ?_, ?_, ?_, ?_, ?_, ?_, ?_, ?_, ?_, ?_, ?_, ?_, ?_, ?_, ?_, ?_, ?_, ?_⟩
  · intro v hv
    by_cases e : v = i
    · rw [if_pos e, e, ni]; exact P.nd
    · rw [if_neg e, nn v hv e]; exact A.nd v hv
  · intro v hv
    by_cases e : v = i
    · rw [if_pos e, e, ni]; exact P.bc
    · rw [if_neg e, nn v hv e]; exact A.bc v hv
  · intro v hv
    by_cases e : v = i
    · rw [if_pos e]; exact P.ch
    · rw [if_neg e]; exact (A.ch v hv).mono hp
  · intro t
    rcases P.hL t with e | ⟨_, _, e, _⟩
    · rw [e]; exact (A.lch t).mono hp
    · rw [e]; exact P.ch
  · intro v hv
    by_cases e : v = i
    · rw [if_pos e, e, ni]; exact P.tms
    · rw [if_neg e, nn v hv e]; exact A.tms v hv
  · intro t
    rcases P.hL t with e | ⟨e1, _, e, _⟩
    · rw [e]; exact A.ltm t
    · rw [e, e1]; exact P.tms
  · intro t
    rcases P.hL t with e | ⟨_, _, e, _⟩
    · rw [e]; exact A.lrt t
    · rw [e]; exact P.rt
  · intro t ht
    rcases P.hL t with e | ⟨e1, e2, _, _⟩
    · rw [e] at ht
      obtain ⟨c, hc, h⟩ := A.ld t ht
      exact ⟨c, hc, h.left⟩
    · have g4 := E'.g4 i hi (by rw [ni]; exact e2)
      rw [ni, ← e1] at g4
      exact ⟨i, hi, g4⟩
  · intro t c hc ht hl
    by_cases c0 : L t = []
    · rcases P.hL t with e | ⟨e1, e2, _, _⟩
      · rw [e] at ht; exact absurd c0 ht
      · have g4 := E'.g4 i hi (by rw [ni]; exact e2)
        rw [ni, ← e1] at g4
        have : c = i := E'.one hl g4
        rw [this, ni, e1]
        exact ⟨Int.le_refl _, fun _ => by omega⟩
    · obtain ⟨d, hd, h⟩ := A.ld t c0
      have : c = d := E'.one hl (by rw [es]; exact h.left)
      subst this
      have q := A.lc t c hc c0 h
      refine ⟨Int.le_trans q.1 (tmo c hc), fun et => ?_⟩
      by_cases e : c = i
      · subst e
        rw [ni] at et ⊢
        intro r
        have := P.tm
        rcases (P.r1 r).2 with ⟨h1, h2⟩ | h1
        · exact q.2 (by omega) h1
        · omega
      · rw [nn c hc e] at et ⊢; exact q.2 et
  · intro v hv hr
    by_cases e : v = i
    · rw [if_pos e]; rw [e, ni] at hr ⊢; exact P.rl hr
    · rw [if_neg e]
      rw [nn v hv e] at hr ⊢
      have q := A.rl v hv hr
      rcases P.hL (w.nd v).term with e4 | ⟨e1, e2, _, _⟩
      · rw [e4]; exact q
      · have g4 := E'.g4 i hi (by rw [ni]; exact e2)
        have g5 := E'.g4 v hv (by rw [nn v hv e]; exact hr)
        rw [ni, ← e1] at g4
        rw [nn v hv e] at g5
        exact absurd (E'.one g5 g4) e
  · intro v t k hv h
    rcases akn _ _ _ h with h | ⟨_, _, h⟩
    · exact Nat.le_trans (A.akb v t k hv h) (hp t).length_le
    · exact h.2.1
  · intro v t k hv h hch
    rcases akn _ _ _ h with h0 | ⟨e, _, h⟩
    · have hc := chn t k hch (A.akb v t k hv h0)
      have s := A.nn v t k hv h0 hc
      have h1 := akt v t k hv h0
      by_cases e : v = i
      · rw [if_pos e]
        subst e
        refine (P.kp t k s ?_).ext (hp t)
        have := P.tm
        by_cases e2 : t = n'.term
        · exact Or.inl e2
        · exact Or.inr fun hne => A.pp _ t k hne (by omega) hc
      · rw [if_neg e]; exact s.ext (hp t)
    · rw [if_pos e]; exact h
  · intro c v t k hc hv hr hg ht hak hch
    exact (cand c v t k hc hv hr hg ht hak hch).ext (hp t)
  · intro T t k hT ht hch
    exact (pp T t k hT ht hch).ext (hp t)
  · intro v hv
    by_cases e : v = i
    · rw [if_pos e, e, ni]; exact P.cm
    · rw [if_neg e, nn v hv e]; exact (A.cm v hv).mono hp (List.prefix_refl _) (Int.le_refl _)
  · intro m hm k hr ht
    rcases List.mem_append.1 hm with hm | hm
    · have hf := (A.mtm m hm)
      by_cases e : m.frm = i
      · rw [if_pos e]
        rw [e] at hf
        rw [e, ni] at hr ht
        obtain ⟨eg, ⟨h1, h2⟩ | h⟩ := P.r1 hr
        · rw [eg, ← e]
          exact A.ask m hm k (by rw [e]; exact h1) (by rw [e, ← h2]; exact ht)
        · omega
      · rw [if_neg e]
        rw [nn _ hf.1 e] at hr ht
        exact A.ask m hm k hr ht
    · have := P.m0 m hm k
      rw [if_pos (P.mf m hm).1]
      exact this.2.2
  · intro m hm k
    rcases List.mem_append.1 hm with hm | hm
    · exact (A.snd m hm k).mono hp
    · exact P.m2 m hm k
  · intro m hm k
    rcases List.mem_append.1 hm with hm | hm
    · exact (A.ins m hm k).mono hp
    · exact P.m4 m hm k
  · intro m hm
    rcases List.mem_append.1 hm with hm | hm
    · have := A.mtm m hm
      exact ⟨this.1, Int.le_trans this.2 (tmo _ this.1)⟩
    · have := P.mf m hm
      rw [this.1, ni]
      exact ⟨hi, this.2⟩
  · intro m hm k ok
    rcases List.mem_append.1 hm with hm | hm
    · have := A.vtm m hm k ok
      exact ⟨this.1, Int.le_trans this.2 (tmo _ this.1)⟩
    · have := P.m1 m hm k ok
      rw [nn _ this.1 this.2.1]
      exact ⟨this.1, this.2.2.1⟩
  · intro v hv hr j hj k hk hkm
    by_cases e : v = i
    · rw [e, ni] at hr hkm ⊢; exact P.mt hr j hj k hk hkm
    · rw [nn v hv e] at hr hkm ⊢; exact (A.mt v hv hr j hj k hk hkm).mono hp
end
end Go.Proofs
