/- ENTRIES, part 3: Say.Cmd, Entries: the walks. -/
import Derived.Test.YtpdondaekinmdaaT09
import Derived.Test.YtpdondaekinmdaaKe1
set_option linter.all false
set_option linter.constructorNameAsVariable false
namespace Go.Proofs
open Go Go.KC

section
variable {H : Hp}
theorem Say_Cmd_spec {s : Sy} : SCalls Try.prog tephralaw06_Say_Cmd.id [s.val] H (TellPost H s.cmd.val) := by
  apply tephralaw06_Say_Cmd.calls
  have m0 : Mod (fun _ => False) H (holes H 3) := Mod.holes _ _ _
  have t4 := tmodN s.op 4
  have tc := tmodN s.client 4
  have ts := tmodN s.seq 40
  have tk := tmodN s.key 8
  have tv := tmodN s.value 10
  have tv2 := tmodN s.value 2
  have to := tmodN s.old 10
  have to2 := tmodN s.old 2
  have w : ∀ n : Nat, n < 100 → IntKind.u8.wrap ((n : Int) + 1) = ((n + 1 : Nat) : Int) := fun n h => by rw [wrapu8]; omega
  have w6 : ∀ n : Nat, n < 100 → w64 ((n : Nat) : Int) = (n : Int) := fun n h => w64_id (by omega) (by omega)
  have e8 : letters.size = 8 := rfl
  have e10 : digits.size = 10 := rfl
  have e1 : (ByteArray.mk #[107]).size = 1 := rfl
  have e2 : (ByteArray.mk #[118]).size = 1 := rfl
  have hk1 := keyOf_size s.key
  have hv1 := txt_size s.value
  have ho1 := txt_size s.old
  unfold keyOf at hk1
  unfold txt at hv1 ho1
  rw [ByteArray.size_append] at hk1 hv1 ho1
  unfold tephralaw06_Say_Cmd.vc
  simp only [show (4 : Int) = ((4 : Nat) : Int) from rfl, show (40 : Int) = ((40 : Nat) : Int) from rfl, show (8 : Int) = ((8 : Nat) : Int) from rfl, show (10 : Int) = ((10 : Nat) : Int) from rfl, show (2 : Int) = ((2 : Nat) : Int) from rfl]
  rw [t4, tk, tv, tv2]
  rw [w (s.key.toNat % 8) (by omega), w (s.value.toNat % 10) (by omega), w6 (s.op.toNat % 4) (by omega)]
  refine ⟨by omega, by omega, by omega, by omega, by omega, ⟨by omega, ?_⟩, ⟨by omega, by omega⟩, ?_, by omega, ⟨by omega, ?_⟩, by omega, by omega, ⟨by omega, ?_⟩, ⟨by omega, by omega⟩, ?_, ?_⟩
  · show _ ≤ ((letters.size : Nat) : Int); omega
  · show (ByteArray.mk #[107]).size + (letters.extract _ _).size ≤ _; simp only [Int.toNat_natCast]; omega
  · rw [e2]; omega
  · show _ ≤ ((digits.size : Nat) : Int); omega
  · show _ + (digits.extract _ _).size ≤ _; simp only [Int.toNat_natCast]; omega
  · have k1 : ∀ y : ByteArray, (y = if s.op.toNat % 4 = 2 then ByteArray.mk #[] else txt s.value) → s.op.toNat % 4 ≠ 0 →
        tephralaw06_Say_Cmd.k1 J0 (s.op.toNat : Int) (s.client.toNat : Int) (s.seq.toNat : Int) (s.key.toNat : Int) (s.value.toNat : Int) (s.old.toNat : Int) H y (TellPost H s.cmd.val) := by
      intro y hy h0
      apply tephralaw06_Say_Cmd.k1.step; unfold tephralaw06_Say_Cmd.k1.body
      simp only [show (4 : Int) = ((4 : Nat) : Int) from rfl, show (40 : Int) = ((40 : Nat) : Int) from rfl, show (8 : Int) = ((8 : Nat) : Int) from rfl, show (10 : Int) = ((10 : Nat) : Int) from rfl, show (2 : Int) = ((2 : Nat) : Int) from rfl]
      rw [t4, tc, ts, tk, to, to2]
      rw [w (s.key.toNat % 8) (by omega), w (s.old.toNat % 10) (by omega), w6 (s.op.toNat % 4) (by omega), w6 (s.client.toNat % 4) (by omega), w6 (s.seq.toNat % 40) (by omega)]
      simp only [Int.toNat_natCast]
      refine Br.mk (fun h => ⟨by omega, ⟨by omega, by rw [e2]; omega⟩, by omega, by omega, ⟨by omega, by show _ ≤ ((digits.size : Nat) : Int); omega⟩, ⟨by omega, by omega⟩, by show _ + (digits.extract _ _).size ≤ _; omega, ?_⟩) (fun h => ?_)
      · have h3 : s.op.toNat % 4 = 3 := by have := beq_iff_eq.1 h; omega
        refine ⟨?_, m0⟩
        rw [hy]
        unfold Sy.cmd
        rw [if_neg h0, if_pos h3]
        rfl
      · have h3 : s.op.toNat % 4 ≠ 3 := fun e => by have := beq_eq_false_iff_ne.1 h; omega
        refine ⟨?_, m0⟩
        rw [hy]
        unfold Sy.cmd
        rw [if_neg h0, if_neg h3]
        rfl
    refine Br.mk (fun h => ?_) (fun h => ?_)
    · have h0 : s.op.toNat % 4 = 0 := by have := beq_iff_eq.1 h; omega
      refine ⟨?_, m0⟩
      unfold Sy.cmd
      rw [if_pos h0]
      rfl
    · have h0 : s.op.toNat % 4 ≠ 0 := fun e => by have := beq_eq_false_iff_ne.1 h; omega
      refine Br.mk (fun h => ?_) (fun h => ?_)
      · have h2 : s.op.toNat % 4 = 2 := by have := beq_iff_eq.1 h; omega
        exact k1 _ (by rw [if_pos h2]) h0
      · have h2 : s.op.toNat % 4 ≠ 2 := fun e => by have := beq_eq_false_iff_ne.1 h; omega
        refine k1 _ ?_ h0
        rw [if_neg h2]
        simp only [Int.toNat_natCast]
        rfl

theorem und_ents : Try.prog.underlying T_sl_api_Entry = some (.slice T_api_Entry) := by kernel_rfl

theorem inf_en : (Try.prog.info? T_api_Entry).map (fun i => (i.zero, i.size, i.bytes)) = some (some En.zero.val, 8, 88) := by kernel_rfl

theorem en_info : ∃ ti, Try.prog.info? T_api_Entry = some ti ∧ ti.zero = some En.zero.val ∧ ti.size = 8 ∧ ti.bytes = 88 := by
  have h := inf_en
  cases hi : Try.prog.info? T_api_Entry with
  | none => rw [hi] at h; simp at h
  | some ti => rw [hi] at h; simp at h; exact ⟨ti, rfl, h.1, h.2.1, h.2.2⟩

/-- An entry is laid behind entries. -/
theorem ents_app {H H1 : Hp} {x : Sl} {es : List En} {e : En} {K : Sl → Hp → Prop} (h : Own H x T_api_Entry 8 (es.map En.cells).flatten) (hm : Mod (fun _ => False) H H1) (hl : x.len ≤ 1000000)
    (hK : ∀ x' H', Own H' x' T_api_Entry 8 ((es ++ [e]).map En.cells).flatten → x'.len = x.len + 1 → Mod (· ∈ x.blk) H H' → (∀ b ∈ x'.blk, b ∈ x.blk ∨ H.size ≤ b) → K x' H') :
    vApp Try.prog T_sl_api_Entry x.a x.len x.cap (.slice (some (Addr.mk (Array.size H1) 0 none)) 1 1) (Array.push H1 (.cells e.cells.toArray T_api_Entry)) K := by
  obtain ⟨ti, hi, hz, hsz, hby⟩ := en_info
  have m1 : Mod (fun _ => False) H (Array.push H1 (.cells e.cells.toArray T_api_Entry)) := hm.trans (Mod.push _ _ _)
  have h' := h.keep m1 (fun _ _ e => e)
  refine Own.app (e := T_api_Entry) (ti := ti) (z := En.zero.val) (cs := (es.map En.cells).flatten) (news := e.cells) (by rw [hsz]; exact h') und_ents hi hz (by rw [hsz]; rfl) (by omega) (by rw [hsz]; exact cells_src _ 8 rfl) (by rw [hsz]; rfl) (by have := allOne_ents [e]; simpa using this) (by simp only [srcLen]; rw [hby]; omega) ?_
  intro x' H2 ho hxl hmod hblk _
  rw [hsz] at ho
  refine hK x' H2 (by rw [List.map_append, List.flatten_append]; simpa using ho) hxl ((m1.mono fun _ _ e => e.elim).trans hmod) fun b hb => (hblk b hb).imp id fun h => by have := m1.size; omega

theorem Entries_loop {H0 : Hp} {says : Sl} {ss : List Sy} {n : Int} (hr : Rows H0 says 6 (ss.map Sy.cells).flatten) (hl : ss.length = says.len) {Q : Value → Hp → Prop} {L : List En}
    (hQ : ∀ (x : Sl) H', Own H' x T_api_Entry 8 (L.map En.cells).flatten → x.len = L.length → Fresh H0 H' → (∀ g ∈ x.blk, H0.size ≤ g) → Q (.slice x.a x.len x.cap) H') :
    ∀ (d j : Nat) (H : Hp) (t : Int) (out : Sl) (pre : List En), j + d = min 80 says.len → Fresh H0 H → Own H out T_api_Entry 8 (pre.map En.cells).flatten → out.len = pre.length → pre.length = j → (∀ g ∈ out.blk, H0.size ≤ g) →
      pre ++ entsGo n ((ss.take (min 80 says.len)).drop j) j t = L → tephralaw06_Entries.l1 J0 says n H t out (j : Int) Q := by
  have e : (if (80 : Int) < ((says.len : Nat) : Int) then (80 : Int) else ((says.len : Nat) : Int)).toNat = min 80 says.len := min_toNat 80 says.len
  intro d
  induction d with
  | zero =>
    intro j H t out pre hj hf ho hol hpl hb hL
    apply tephralaw06_Entries.l1.step
    unfold tephralaw06_Entries.l1.body
    rw [e]
    rw [List.drop_eq_nil_of_le (by simp; omega)] at hL
    rw [show entsGo n [] j t = [] from rfl, List.append_nil] at hL
    subst hL
    exact Br.no (by simp; omega) (hQ out H ho hol hf hb)
  | succ d ih =>
    intro j H t out pre hj hf ho hol hpl hb hL
    apply tephralaw06_Entries.l1.step
    unfold tephralaw06_Entries.l1.body
    rw [e]
    have hjl : j < ss.length := by omega
    obtain ⟨a, ha, hrow⟩ := row_get (k := 6) (f := Sy.cells) (by omega) (fun _ => rfl) (hf.rows hr) hjl
    have hdrop : (ss.take (min 80 says.len)).drop j = ss[j] :: (ss.take (min 80 says.len)).drop (j + 1) := by
      rw [List.drop_eq_getElem_cons (by simp; omega)]; simp
    rw [hdrop] at hL
    have hL' : pre ++ (⟨w64 (n + (j : Int)), upT ss[j] t, ss[j].cmd⟩ :: entsGo n ((ss.take (min 80 says.len)).drop (j + 1)) (j + 1) (upT ss[j] t)) = L := hL
    have k1 : tephralaw06_Entries.k1 J0 says n H out (j : Int) (ss[j].op.toNat : Int) (ss[j].client.toNat : Int) (ss[j].seq.toNat : Int) (ss[j].key.toNat : Int) (ss[j].value.toNat : Int) (ss[j].old.toNat : Int) (upT ss[j] t) Q := by
      apply tephralaw06_Entries.k1.step
      unfold tephralaw06_Entries.k1.body
      refine (Say_Cmd_spec (s := ss[j])).mono ?_
      rintro r H2 ⟨rfl, m2⟩
      refine ⟨_, _, _, _, _, _, rfl, ?_⟩
      have m2' : Mod (fun _ => False) H H2 := (Mod.holes _ _ _).trans m2
      refine ents_app (e := ⟨w64 (n + (j : Int)), upT ss[j] t, ss[j].cmd⟩) ho m2' (by omega) ?_
      intro x' H3 ho' hxl hm hblk
      rw [w64_id (x := (j : Int) + 1) (by omega) (by omega)]
      have := ih (j + 1) H3 (upT ss[j] t) x' (pre ++ [⟨w64 (n + (j : Int)), upT ss[j] t, ss[j].cmd⟩]) (by omega) (hf.step hm fun g hg => hb g hg) ho' (by simp; omega) (by simp; omega)
        (fun g hg => (hblk g hg).elim (hb g) fun h => Nat.le_trans hf.size h) (by rw [List.append_assoc]; exact hL')
      simpa using this
    refine Br.yes (by simp; omega) ⟨⟨by omega, by omega⟩, vPtr.mk a (by rw [cutA_zero]; exact ha) ⟨_, _, _, _, _, _, by simpa [Sy.cells] using hrow, Br.mk (fun h => ?_) (fun h => ?_)⟩⟩
    · have h' := of_decide_eq_true h
      have eu : upT ss[j] t = w64 (t + 1) := by unfold upT; rw [if_pos (by omega)]
      rw [← eu]; exact k1
    · have h' := of_decide_eq_false h
      have eu : upT ss[j] t = t := by unfold upT; rw [if_neg (by omega)]
      rw [eu] at k1; exact k1

theorem Entries_spec {says : Sl} {ss : List Sy} {n t : Int} (hr : Rows H says 6 (ss.map Sy.cells).flatten) (hl : ss.length = says.len) :
    SCalls Try.prog tephralaw06_Entries.id [.slice says.a says.len says.cap, .int .i64 n, .int .i64 t] H fun r H' => ∃ x : Sl, r = .slice x.a x.len x.cap ∧ Own H' x T_api_Entry 8 ((ents (ss.take 80) n t).map En.cells).flatten ∧ x.len = (ents (ss.take 80) n t).length ∧ Fresh H H' ∧ ∀ g ∈ x.blk, H.size ≤ g := by
  apply tephralaw06_Entries.calls
  have hx := hr.2.1
  refine ⟨⟨by split <;> omega, by split <;> omega⟩, ?_⟩
  have e80 : ss.take (min 80 says.len) = ss.take 80 := by
    by_cases h : 80 ≤ says.len
    · rw [Nat.min_eq_left h]
    · rw [Nat.min_eq_right (by omega), List.take_of_length_le (by omega), List.take_of_length_le (by omega)]
  refine Entries_loop hr hl (L := ents (ss.take 80) n t) (fun x H' h1 h2 h3 h4 => ⟨x, rfl, h1, h2, h3, h4⟩) (min 80 says.len) 0 H t ⟨none, 0, 0⟩ [] (by omega) (Mod.refl _ _) (Own.nil _ _ _) rfl rfl (fun g hg => by simp [Sl.blk] at hg) ?_
  rw [e80]; rfl

theorem say_step {H0 : Hp} {s : Sy} {K : Int → Int → Int → ByteArray → ByteArray → ByteArray → Hp → Prop} (hf : Mod (fun _ => False) H0 H) (hK : ∀ H', Mod (fun _ => False) H0 H' → K s.cmd.op s.cmd.client s.cmd.seq s.cmd.key s.cmd.value s.cmd.old H') :
    SCalls Try.prog tephralaw06_Say_Cmd.id [s.val] H fun r H' => ∃ a : Int, ∃ b : Int, ∃ c : Int, ∃ d : ByteArray, ∃ e : ByteArray, ∃ f : ByteArray, r = .agg #[.int .i64 a, .int .i64 b, .int .i64 c, .string d, .string e, .string f] ∧ K a b c d e f H' := by
  refine Say_Cmd_spec.mono ?_
  rintro r H1 ⟨rfl, m1⟩
  exact ⟨_, _, _, _, _, _, rfl, hK H1 (hf.trans m1)⟩

theorem bool_step {H0 : Hp} {f : FuncId} {args : List Value} {b : Bool} {K : Bool → Hp → Prop} (h : SCalls Try.prog f args H (TellPost H (.bool b))) (hf : Mod (fun _ => False) H0 H) (hK : ∀ H', Mod (fun _ => False) H0 H' → K b H') :
    SCalls Try.prog f args H fun r H' => ∃ x : Bool, r = .bool x ∧ K x H' := by
  refine h.mono ?_
  rintro r H1 ⟨rfl, m1⟩
  exact ⟨b, rfl, hK H1 (hf.trans m1)⟩
end

end Go.Proofs
