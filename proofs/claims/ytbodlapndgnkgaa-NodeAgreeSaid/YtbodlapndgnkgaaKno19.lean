/- LAYER 14: plain: no term has two leaders. -/
import Derived.Test.YtbodlapndgnkgaaKno16
set_option linter.all false
set_option linter.constructorNameAsVariable false
namespace Go.Proofs
open Go Go.KC
def in3 (i : Int) : Prop := 0 ≤ i ∧ i < 3
/-- v granted its vote to c, in a term: as the messages tell. -/
def gr (s : List Mg) (v c t : Int) : Prop := (v = c ∧ ∃ m ∈ s, m.kind = 0 ∧ m.frm = c ∧ m.term = t) ∨ (v ≠ c ∧ ∃ m ∈ s, m.kind = 1 ∧ m.ok = true ∧ m.frm = v ∧ m.to = c ∧ m.term = t)
theorem gr.mono {s s' : List Mg} {v c t : Int} (h : gr s v c t) (hs : ∀ m ∈ s, m ∈ s') : gr s' v c t := by
  rcases h with ⟨e, m, hm, h⟩ | ⟨e, m, hm, h⟩
  · exact Or.inl ⟨e, m, hs m hm, h⟩
  · exact Or.inr ⟨e, m, hs m hm, h⟩
theorem gr.left {s ms : List Mg} {v c t : Int} (h : gr s v c t) : gr (s ++ ms) v c t := h.mono fun m hm => List.mem_append_left _ hm
theorem gr.split {s ms : List Mg} {v c t : Int} (h : gr (s ++ ms) v c t) : gr s v c t ∨ gr ms v c t := by
  rcases h with ⟨e, m, hm, h⟩ | ⟨e, m, hm, h⟩
  · rcases List.mem_append.1 hm with hm | hm
    · exact Or.inl (Or.inl ⟨e, m, hm, h⟩)
    · exact Or.inr (Or.inl ⟨e, m, hm, h⟩)
  · rcases List.mem_append.1 hm with hm | hm
    · exact Or.inl (Or.inr ⟨e, m, hm, h⟩)
    · exact Or.inr (Or.inr ⟨e, m, hm, h⟩)
theorem gr.bd {s : List Mg} {v c t k : Int} (h : gr s v c t) (B : ∀ m ∈ s, m.Bd k) : in3 v ∧ in3 c := by
  rcases h with ⟨rfl, m, hm, _, h1, _⟩ | ⟨e, m, hm, _, _, h1, h2, _⟩
  · have := (B m hm).frm; rw [h1] at this; exact ⟨this, this⟩
  · have a := (B m hm).frm; have b := (B m hm).to; rw [h1] at a; rw [h2] at b; exact ⟨a, b⟩
/-- More than half granted it. -/
def Ld (s : List Mg) (t c : Int) : Prop := ∃ v v', in3 v ∧ in3 v' ∧ v ≠ v' ∧ gr s v c t ∧ gr s v' c t
theorem Ld.left {s ms : List Mg} {t c : Int} (h : Ld s t c) : Ld (s ++ ms) t c := by
  obtain ⟨v, v', a, b, c, d, e⟩ := h
  exact ⟨v, v', a, b, c, d.left, e.left⟩
structure El (w : Wd) : Prop where
  g1 : ∀ v c t, in3 v → gr w.sent v c t → t ≤ (w.nd v).term ∧ (t = (w.nd v).term → (w.nd v).vote = c)
  g2 : ∀ v c c' t, gr w.sent v c t → gr w.sent v c' t → c = c'
  g3 : ∀ c, in3 c → (w.nd c).role = 1 → ∀ v, in3 v → (w.nd c).flag v = true → gr w.sent v c (w.nd c).term
  g4 : ∀ c, in3 c → (w.nd c).role = 2 → Ld w.sent (w.nd c).term c
theorem El.one {w : Wd} (E : El w) {t c c' : Int} (h : Ld w.sent t c) (h' : Ld w.sent t c') : c = c' := by
  obtain ⟨v1, v2, a1, a2, a3, a4, a5⟩ := h
  obtain ⟨u1, u2, b1, b2, b3, b4, b5⟩ := h'
  unfold in3 at *
  have : v1 = u1 ∨ v1 = u2 ∨ v2 = u1 ∨ v2 = u2 := by omega
  rcases this with rfl | rfl | rfl | rfl
  · exact E.g2 _ _ _ _ a4 b4
  · exact E.g2 _ _ _ _ a4 b5
  · exact E.g2 _ _ _ _ a5 b4
  · exact E.g2 _ _ _ _ a5 b5
/-- What a deed of one replica must keep. -/
structure Turn (s : List Mg) (i : Int) (n n' : Nd) (ms : List Mg) : Prop where
  tm : n.term ≤ n'.term
  vt : n'.term = n.term → 0 ≤ n.vote → n'.vote = n.vote
  ak : ∀ m ∈ ms, m.kind = 0 → m.frm = i ∧ m.term = n'.term ∧ n'.vote = i ∧ n.term < n'.term
  vo : ∀ m ∈ ms, m.kind = 1 → m.ok = true → m.frm = i ∧ m.term = n'.term ∧ n'.vote = m.to ∧ (n.term < n'.term ∨ n.vote < 0 ∨ n.vote = m.to)
  r1 : n'.role = 1 → ∀ v, in3 v → n'.flag v = true → gr (s ++ ms) v i n'.term
  r2 : n'.role = 2 → Ld (s ++ ms) n'.term i
theorem Turn.new {s : List Mg} {i : Int} {n n' : Nd} {ms : List Mg} (T : Turn s i n n' ms) {v c t : Int} (h : gr ms v c t) : v = i ∧ t = n'.term ∧ n'.vote = c ∧ (n.term < n'.term ∨ n.vote < 0 ∨ n.vote = c) := by
  rcases h with ⟨rfl, m, hm, k, h1, h2⟩ | ⟨e, m, hm, k, ok, h1, h2, h3⟩
  · obtain ⟨a, b, c, d⟩ := T.ak m hm k
    exact ⟨by omega, by omega, by omega, Or.inl d⟩
  · obtain ⟨a, b, c, d⟩ := T.vo m hm k ok
    exact ⟨by omega, by omega, by omega, by omega⟩
theorem put_El {w : Wd} {k i : Int} {n' : Nd} {ms : List Mg} (E : El w) (B : w.Bd k) (hi : in3 i) (T : Turn w.sent i (w.nd i) n' ms) : El (w.put i n' ms) := by
  have es : (w.put i n' ms).sent = w.sent ++ ms := rfl
  have nd : ∀ j, in3 j → (w.put i n' ms).nd j = if j = i then n' else w.nd j := fun j hj => put_nd hi hj
  refine ⟨fun v c t hv h => ?_, fun v c c' t h h' => ?_, fun c hc hr v hv hf => ?_, fun c hc hr => ?_⟩
  · rw [nd v hv]
    rw [es] at h
    by_cases e : v = i
    · rw [if_pos e]
      rcases h.split with h | h
      · have := E.g1 v c t hv h
        rw [e] at this
        have := T.tm
        refine ⟨by omega, fun ht => ?_⟩
        have hc := (h.bd B.ms).2
        have h1 := this
        have h2 : t = (w.nd i).term := by omega
        have h3 := (E.g1 v c t hv h).2 (by rw [e]; exact h2)
        rw [e] at h3
        rw [T.vt (by omega) (by rw [h3]; exact hc.1), h3]
      · obtain ⟨a, b, c, d⟩ := T.new h
        exact ⟨by omega, fun _ => c⟩
    · rw [if_neg e]
      rcases h.split with h | h
      · exact E.g1 v c t hv h
      · exact absurd (T.new h).1 e
  · rw [es] at h h'
    have mix : ∀ {c c' : Int}, gr w.sent v c t → gr ms v c' t → c = c' := fun {c c'} h h' => by
      obtain ⟨a, b, e, d⟩ := T.new h'
      have hb := h.bd B.ms
      have := E.g1 v c t hb.1 h
      rw [a] at this
      have tm := T.tm
      have h2 : t = (w.nd i).term := by omega
      have h3 := this.2 h2
      have := hb.2
      unfold in3 at this
      rcases d with d | d | d
      · omega
      · omega
      · omega
    rcases h.split with h | h <;> rcases h'.split with h' | h'
    · exact E.g2 v c c' t h h'
    · exact mix h h'
    · exact (mix h' h).symm
    · have a := (T.new h).2.2.1
      have b := (T.new h').2.2.1
      omega
  · rw [nd c hc] at hr hf ⊢
    by_cases e : c = i
    · rw [if_pos e] at hr hf ⊢
      rw [e]; exact T.r1 hr v hv hf
    · rw [if_neg e] at hr hf ⊢
      exact (E.g3 c hc hr v hv hf).left
  · rw [nd c hc] at hr ⊢
    by_cases e : c = i
    · rw [if_pos e] at hr ⊢
      rw [e]; exact T.r2 hr
    · rw [if_neg e] at hr ⊢
      exact (E.g4 c hc hr).left
/-- Where neither term, vote, role nor flags are turned, and nothing is granted. -/
theorem Turn.same {w : Wd} (E : El w) {i : Int} (hi : in3 i) {n' : Nd} {ms : List Mg} (ht : n'.term = (w.nd i).term) (hv : n'.vote = (w.nd i).vote) (hr : n'.role = (w.nd i).role ∨ n'.role = 0) (hf : ∀ v, n'.flag v = (w.nd i).flag v ∨ n'.role = 0) (hm : ∀ m ∈ ms, m.kind ≠ 0 ∧ (m.kind = 1 → m.ok = false)) : Turn w.sent i (w.nd i) n' ms := by
  refine ⟨by omega, fun _ _ => hv, fun m h k => absurd k (hm m h).1, fun m h k o => (by rw [(hm m h).2 k] at o; cases o), fun h v hv' hfl => ?_, fun h => ?_⟩
  · have hr' : (w.nd i).role = 1 := by omega
    rcases hf v with e | e
    · rw [e] at hfl; rw [ht]; exact (E.g3 i hi hr' v hv' hfl).left
    · omega
  · have hr' : (w.nd i).role = 2 := by omega
    rw [ht]; exact (E.g4 i hi hr').left
theorem camp_turn {w : Wd} {k i : Int} (E : El w) (B : w.Bd k) (hi : in3 i) : Turn w.sent i (w.nd i) (w.nd i).camp.1 (w.nd i).camp.2 := by
  have hid := (B.nd i hi).id
  unfold Nd.camp
  split
  · exact Turn.same E hi rfl rfl (Or.inl rfl) (fun v => Or.inl rfl) (fun m hm => by cases hm)
  · generalize w.nd i = n at hid
    refine ⟨by dsimp only; omega, fun h => by dsimp only at h; omega, fun m hm hk => ?_, fun m hm hk => ?_, fun _ v hv hf => ?_, fun h => by dsimp only at h; omega⟩
    · obtain ⟨j, hj, rfl⟩ := List.mem_map.1 hm
      exact ⟨hid, rfl, hid, by dsimp only; omega⟩
    · obtain ⟨j, hj, rfl⟩ := List.mem_map.1 hm
      exact absurd hk (show (0 : Int) ≠ 1 by decide)
    · have e : v = i := by
        unfold Nd.flag at hf
        unfold in3 at hv
        have : v = 0 ∨ v = 1 ∨ v = 2 := by omega
        rcases this with rfl | rfl | rfl <;> simp at hf <;> omega
      refine Or.inl ⟨e, ?_⟩
      have h3 : n.id = 0 ∨ n.id = 1 ∨ n.id = 2 := by unfold in3 at hi; omega
      obtain ⟨j, hj⟩ : ∃ j, j ∈ ids.filter (· ≠ n.id) := by
        rcases h3 with h | h | h <;> rw [h]
        · exact ⟨1, by decide⟩
        · exact ⟨0, by decide⟩
        · exact ⟨0, by decide⟩
      exact ⟨_, List.mem_append_right _ (List.mem_map.2 ⟨j, hj, rfl⟩), rfl, hid, rfl⟩
theorem flag_of {n n' : Nd} (h0 : n'.v0 = n.v0) (h1 : n'.v1 = n.v1) (h2 : n'.v2 = n.v2) (v : Int) : n'.flag v = n.flag v := by unfold Nd.flag; rw [h0, h1, h2]
theorem seen_vote {n : Nd} {m : Mg} : (n.seen m = n ∧ m.term ≤ n.term) ∨ (n.term < m.term ∧ (n.seen m).term = m.term ∧ (n.seen m).vote = -1 ∧ (n.seen m).role = 0) := by
  unfold Nd.seen Nd.follow
  split
  · exact Or.inr ⟨by omega, rfl, rfl, rfl⟩
  · exact Or.inl ⟨rfl, by omega⟩
theorem quo_split {n : Nd} (h : quo n.v0 n.v1 n.v2 = true) : ∃ v v', in3 v ∧ in3 v' ∧ v ≠ v' ∧ n.flag v = true ∧ n.flag v' = true := by
  have c : (n.v1 = true ∧ n.v2 = true) ∨ (n.v0 = true ∧ n.v2 = true) ∨ (n.v0 = true ∧ n.v1 = true) := by
    revert h; unfold quo; cases n.v0 <;> cases n.v1 <;> cases n.v2 <;> simp
  unfold in3 Nd.flag
  rcases c with ⟨a, b⟩ | ⟨a, b⟩ | ⟨a, b⟩
  · exact ⟨1, 2, by omega, by omega, by omega, by simpa using a, by simpa using b⟩
  · exact ⟨0, 2, by omega, by omega, by omega, by simpa using a, by simpa using b⟩
  · exact ⟨0, 1, by omega, by omega, by omega, by simpa using a, by simpa using b⟩
theorem setV_at {n : Nd} {j v : Int} (hj : in3 j) (hv : in3 v) (h : (n.setV j).flag v = true) : v = j ∨ n.flag v = true := by
  unfold in3 at *
  have a : j = 0 ∨ j = 1 ∨ j = 2 := by omega
  have b : v = 0 ∨ v = 1 ∨ v = 2 := by omega
  unfold Nd.flag Nd.setV at h
  unfold Nd.flag
  rcases a with rfl | rfl | rfl <;> rcases b with rfl | rfl | rfl <;> simp_all
theorem step_turn {w : Wd} {k : Int} (E : El w) (B : w.Bd k) {m : Mg} (hm : m ∈ w.sent) : Turn w.sent m.to (w.nd m.to) ((w.nd m.to).step m).1 ((w.nd m.to).step m).2.1 := by
  have mb := B.ms m hm
  have hi : in3 m.to := mb.to
  have hid := (B.nd m.to hi).id
  unfold Nd.step
  split
  · exact Turn.same E hi rfl rfl (Or.inl rfl) (fun v => Or.inl rfl) (fun m hm => by cases hm)
  rename_i hbad
  have hb : m.to = (w.nd m.to).id ∧ in3 m.frm ∧ m.frm ≠ (w.nd m.to).id := by unfold Mg.bad at hbad; unfold in3; omega
  have sv := @seen_vote (w.nd m.to) m
  have sk := @seen_keep (w.nd m.to) m
  -- what holds of the replica once the term is seen
  have s1 : ((w.nd m.to).seen m).role = 1 → (w.nd m.to).seen m = w.nd m.to := fun h => by rcases sv with h' | h'; exact h'.1; omega
  have s2 : ((w.nd m.to).seen m).role = 2 → (w.nd m.to).seen m = w.nd m.to := fun h => by rcases sv with h' | h'; exact h'.1; omega
  have tm : (w.nd m.to).term ≤ ((w.nd m.to).seen m).term := by rcases sv with h' | h'; rw [h'.1]; exact Int.le_refl _; omega
  have vt : ((w.nd m.to).seen m).term = (w.nd m.to).term → ((w.nd m.to).seen m).vote = (w.nd m.to).vote := fun h => by rcases sv with h' | h'; rw [h'.1]; omega
  -- a turn that grants nothing and keeps term and vote
  have plain : ∀ (n' : Nd) (ms : List Mg), n'.term = ((w.nd m.to).seen m).term → n'.vote = ((w.nd m.to).seen m).vote → (n'.role = ((w.nd m.to).seen m).role ∧ (∀ v, n'.flag v = ((w.nd m.to).seen m).flag v) ∨ n'.role = 0) → (∀ a ∈ ms, a.kind ≠ 0 ∧ (a.kind = 1 → a.ok = false)) → Turn w.sent m.to (w.nd m.to) n' ms := by
    intro n' ms ht hv hr hms
    refine ⟨by omega, fun h _ => by rw [hv]; exact vt (by omega), fun a h k => absurd k (hms a h).1, fun a h k o => (by rw [(hms a h).2 k] at o; cases o), fun h v hv' hfl => ?_, fun h => ?_⟩
    · rcases hr with ⟨hr, hf⟩ | hr
      · have e := s1 (by omega)
        rw [hf, e] at hfl
        rw [ht, e]
        exact (E.g3 _ hi (by rw [← e, ← hr]; exact h) v hv' hfl).left
      · omega
    · rcases hr with ⟨hr, hf⟩ | hr
      · have e := s2 (by omega)
        rw [ht, e]
        exact (E.g4 _ hi (by rw [← e, ← hr]; exact h)).left
      · omega
  unfold Nd.turn
  split
  · -- a question for a vote
    dsimp only
    cases hask : ((w.nd m.to).seen m).asked m with
    | false =>
      rw [if_neg (by simp)]
      exact plain _ _ rfl rfl (Or.inl ⟨rfl, fun v => rfl⟩) fun a ha => by obtain rfl := List.mem_singleton.1 ha; exact ⟨show (1 : Int) ≠ 0 by decide, fun _ => rfl⟩
    | true =>
      rw [if_pos rfl]
      have ha := hask
      unfold Nd.asked at ha
      simp only [Bool.and_eq_true, Bool.or_eq_true, decide_eq_true_eq] at ha
      obtain ⟨⟨ha1, ha2⟩, _⟩ := ha
      have hid2 : ((w.nd m.to).seen m).id = m.to := by rw [sk.1]; exact hid
      refine ⟨tm, fun h h0 => ?_, fun a h k => ?_, fun a h k o => ?_, fun h v hv' hfl => ?_, fun h => ?_⟩
      · dsimp only at h ⊢
        have := vt h
        omega
      · obtain rfl := List.mem_singleton.1 h
        exact absurd k (show (1 : Int) ≠ 0 by decide)
      · obtain rfl := List.mem_singleton.1 h
        refine ⟨hid2, rfl, rfl, ?_⟩
        show (w.nd m.to).term < ((w.nd m.to).seen m).term ∨ (w.nd m.to).vote < 0 ∨ (w.nd m.to).vote = m.frm
        by_cases c : ((w.nd m.to).seen m).term = (w.nd m.to).term
        · have := vt c; omega
        · omega
      · have e := s1 h
        have hfl' : (w.nd m.to).flag v = true := by rw [← e]; exact hfl
        show gr _ v m.to ((w.nd m.to).seen m).term
        rw [e]
        exact (E.g3 _ hi (by rw [← e]; exact h) v hv' hfl').left
      · have e := s2 h
        show Ld _ ((w.nd m.to).seen m).term m.to
        rw [e]
        exact (E.g4 _ hi (by rw [← e]; exact h)).left
  split
  · -- a vote
    rename_i hk0 hk1
    dsimp only
    split
    · rename_i hc
      have e := s1 hc.2.1
      have tw : m.term = (w.nd m.to).term := by have := hc.1; rw [e] at this; exact this
      have sv2 := @setV_keep ((w.nd m.to).seen m) m.frm
      have grs : ∀ v, in3 v → (((w.nd m.to).seen m).setV m.frm).flag v = true → gr w.sent v m.to (w.nd m.to).term := fun v hv hf => by
        rcases setV_at hb.2.1 hv hf with h | h
        · subst h
          exact Or.inr ⟨by rw [hid] at hb; exact hb.2.2, m, hm, hk1, hc.2.2, rfl, rfl, tw⟩
        · rw [e] at h
          exact E.g3 _ hi (by rw [← e]; exact hc.2.1) v hv h
      split
      · rename_i hq
        obtain ⟨v, v', h1, h2, h3, h4, h5⟩ := quo_split hq
        have lt := lead_term (((w.nd m.to).seen m).setV m.frm)
        have lv : (((w.nd m.to).seen m).setV m.frm).lead.vote = (((w.nd m.to).seen m).setV m.frm).vote := by unfold Nd.lead; rw [setM_keep.2.2.2.2.2.2.2]
        refine ⟨by rw [lt, sv2.2.2.2.2.2.1]; exact tm, fun _ _ => by rw [lv, sv2.2.2.2.2.2.2.2, e], fun a h => (by cases h), fun a h => (by cases h), fun h => by rw [lead_role] at h; omega, fun _ => ?_⟩
        rw [lt, sv2.2.2.2.2.2.1, e]
        exact Ld.left ⟨v, v', h1, h2, h3, grs v h1 h4, grs v' h2 h5⟩
      · refine ⟨by rw [sv2.2.2.2.2.2.1]; exact tm, fun _ _ => by rw [sv2.2.2.2.2.2.2.2, e], fun a h => (by cases h), fun a h => (by cases h), fun _ v hv hf => ?_, fun h => ?_⟩
        · rw [sv2.2.2.2.2.2.1, e]
          exact (grs v hv hf).left
        · rw [sv2.2.2.2.2.2.2.1] at h; omega
    · exact plain _ _ rfl rfl (Or.inl ⟨rfl, fun v => rfl⟩) fun a ha => by cases ha
  split
  · obtain ⟨a, b, c, d, e, f, g⟩ := got_same ((w.nd m.to).seen m) m
    exact plain _ _ c g (Or.inl ⟨b, flag_of d e f⟩) fun a ha => by cases ha
  split
  · split
    · obtain ⟨a, b, c, d⟩ := take_same ({ (w.nd m.to).seen m with role := 0, quiet := 0 } : Nd) m
      exact plain _ _ c d (Or.inr b) fun a ha => by obtain rfl := List.mem_singleton.1 ha; exact ⟨show (3 : Int) ≠ 0 by decide, fun h => absurd h (show (3 : Int) ≠ 1 by decide)⟩
    · exact plain _ _ rfl rfl (Or.inl ⟨rfl, fun v => rfl⟩) fun a ha => by obtain rfl := List.mem_singleton.1 ha; exact ⟨show (3 : Int) ≠ 0 by decide, fun h => absurd h (show (3 : Int) ≠ 1 by decide)⟩
  · exact plain _ _ rfl rfl (Or.inl ⟨rfl, fun v => rfl⟩) fun a ha => by cases ha
/-- The replica that a deed turns, and what it sends. -/
theorem act_turn {w : Wd} {k : Int} (E : El w) (B : w.Bd k) (a : Ac) : w.act a = w ∨ ∃ i n' ms, in3 i ∧ w.act a = w.put i n' ms ∧ Turn w.sent i (w.nd i) n' ms := by
  have hi : in3 a.id := a.id_in
  have no : ∀ m ∈ ([] : List Mg), m.kind ≠ 0 ∧ (m.kind = 1 → m.ok = false) := fun m hm => by cases hm
  unfold Wd.act
  split
  · exact Or.inr ⟨_, _, _, hi, rfl, camp_turn E B hi⟩
  split
  · refine Or.inr ⟨_, _, _, hi, rfl, ?_⟩
    unfold Nd.submit; split
    · exact Turn.same E hi rfl rfl (Or.inl rfl) (fun v => Or.inl rfl) no
    · have sk := @setM_keep { (w.nd a.id) with es := (w.nd a.id).es ++ [⟨(w.nd a.id).last + 1, (w.nd a.id).term, a.say.cmd⟩] } (w.nd a.id).id ((w.nd a.id).last + 1)
      have sv := @setM_v { (w.nd a.id) with es := (w.nd a.id).es ++ [⟨(w.nd a.id).last + 1, (w.nd a.id).term, a.say.cmd⟩] } (w.nd a.id).id ((w.nd a.id).last + 1)
      exact Turn.same E hi sk.2.2.2.2.2.1 sk.2.2.2.2.2.2.2 (Or.inl sk.2.2.2.2.2.2.1) (fun v => Or.inl (flag_of sv.1 sv.2.1 sv.2.2 v)) no
  split
  · refine Or.inr ⟨_, _, _, hi, rfl, Turn.same E hi rfl rfl (Or.inl rfl) (fun v => Or.inl rfl) fun m hm => ?_⟩
    unfold Nd.beat at hm; split at hm
    · obtain ⟨j, _, rfl⟩ := List.mem_map.1 hm
      unfold Nd.sendM; split
      · exact ⟨show (2 : Int) ≠ 0 by decide, fun h => absurd h (show (2 : Int) ≠ 1 by decide)⟩
      · exact ⟨show (4 : Int) ≠ 0 by decide, fun h => absurd h (show (4 : Int) ≠ 1 by decide)⟩
    · cases hm
  split
  · refine Or.inr ⟨_, _, _, hi, rfl, ?_⟩
    unfold Nd.compact; split
    · exact Turn.same E hi rfl rfl (Or.inl rfl) (fun v => Or.inl rfl) no
    · exact Turn.same E hi rfl rfl (Or.inl rfl) (fun v => Or.inl rfl) no
  split
  · refine Or.inr ⟨_, _, _, hi, rfl, ?_⟩
    split
    · exact Turn.same E hi rfl rfl (Or.inr rfl) (fun v => Or.inr rfl) no
    · exact Turn.same E hi rfl rfl (Or.inl rfl) (fun v => Or.inl rfl) no
  split
  · exact Or.inl rfl
  · rename_i m hm
    have hmem := List.mem_of_getElem? hm
    exact Or.inr ⟨_, _, _, (B.ms m hmem).to, rfl, step_turn E B hmem⟩
theorem act_El {w : Wd} {k : Int} {a : Ac} (E : El w) (B : w.Bd k) : El (w.act a) := by
  rcases act_turn E B a with h | ⟨i, n', ms, hi, h, T⟩
  · rw [h]; exact E
  · rw [h]; exact put_El E B hi T
theorem w0_El : El w0 := by
  have nd : ∀ i, in3 i → w0.nd i = nd0 i := fun i hi => by
    unfold in3 at hi
    have : i = 0 ∨ i = 1 ∨ i = 2 := by omega
    rcases this with rfl | rfl | rfl <;> rfl
  refine ⟨fun v c t _ h => ?_, fun v c c' t h => ?_, fun c hc hr => ?_, fun c hc hr => ?_⟩
  · rcases h with ⟨_, m, hm, _⟩ | ⟨_, m, hm, _⟩ <;> cases hm
  · rcases h with ⟨_, m, hm, _⟩ | ⟨_, m, hm, _⟩ <;> cases hm
  · rw [nd c hc] at hr; exact absurd hr (show (0 : Int) ≠ 1 by decide)
  · rw [nd c hc] at hr; exact absurd hr (show (0 : Int) ≠ 2 by decide)
/-- What a deed keeps of each replica: terms do not fall, nobody votes twice. -/
theorem act_terms {w : Wd} {k : Int} {a : Ac} (E : El w) (B : w.Bd k) {i : Int} (hi : in3 i) : (w.nd i).term ≤ ((w.act a).nd i).term ∧ (((w.act a).nd i).term = (w.nd i).term → 0 ≤ (w.nd i).vote → ((w.act a).nd i).vote = (w.nd i).vote) := by
  rcases act_turn E B a with h | ⟨j, n', ms, hj, h, T⟩
  · rw [h]; exact ⟨Int.le_refl _, fun _ _ => rfl⟩
  · rw [h, put_nd hj hi]
    by_cases e : i = j
    · subst e; rw [if_pos rfl]; exact ⟨T.tm, T.vt⟩
    · rw [if_neg e]; exact ⟨Int.le_refl _, fun _ _ => rfl⟩
theorem act_sent (w : Wd) (a : Ac) : ∃ ms, (w.act a).sent = w.sent ++ ms := by
  unfold Wd.act
  split
  · exact ⟨_, rfl⟩
  split
  · exact ⟨_, rfl⟩
  split
  · exact ⟨_, rfl⟩
  split
  · exact ⟨_, rfl⟩
  split
  · exact ⟨_, rfl⟩
  split
  · exact ⟨[], by simp⟩
  · exact ⟨_, rfl⟩
end Go.Proofs
