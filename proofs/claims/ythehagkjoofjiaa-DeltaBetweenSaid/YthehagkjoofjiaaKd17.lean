/- DELTAS: DeltaBetween: the walk. -/
import Derived.Test.YthehagkjoofjiaaKd16
import Derived.Test.YthehagkjoofjiaaKd19
set_option linter.all false
set_option linter.constructorNameAsVariable false
namespace Go.Proofs
open Go Go.KC

theorem RgS.ne {κ : Type} {ek : κ → Value} {H : Hp} {b r m : Nat} {l l' : List (κ × Value)} {S : Array Nat} (h : RgS ek H b r l S) (hm : MR ek H m l') : m ≠ b := by
  intro e
  have h1 := h.it
  unfold MR at hm
  rw [e, h1] at hm
  cases hm

section
variable {x0Index x0Term : Int} {x0Pairs x0Sessions : Sl} {x1Index x1Term : Int} {x1Pairs x1Sessions : Sl} {x2Index x2Term : Int} {x2Pairs x2Sessions : Sl} {From To Term : Int} {Pairs Sessions : Sl} {From1 To1 Term1 : Int} {Pairs1 Sessions1 : Sl}
  {H0 : Hp} {m1 m2 m3 : Nat} {old now : List (ByteArray × ByteArray)}
abbrev RgP (H : Hp) (b r : Nat) (ps : List Pr) (S : Array Nat) : Prop := RgS (fun k : ByteArray => Value.string k) H b r (vRow ps) S
theorem VM.keepB {H H' : Hp} {b r m : Nat} {ps qs : List Pr} {S : Array Nat} (h : VM H m qs) (g : RgP H b r ps S) (hm : Mod (· = b) H H') : VM H' m qs := MR.keep h hm (RgS.ne g h)
theorem prs_get {l : List (ByteArray × ByteArray)} {i : Nat} {p : Pr} (h : (prsOfL l)[i]? = some p) : ∃ q, l[i]? = some q ∧ p = ⟨q.1, q.2, false⟩ := by
  unfold prsOfL at h
  rw [List.getElem?_map] at h
  obtain ⟨q, hq, e⟩ := Option.map_eq_some_iff.1 h
  exact ⟨q, hq, e.symm⟩
theorem prs_len (l : List (ByteArray × ByteArray)) : (prsOfL l).length = l.length := List.length_map _
def c3 (old now : List (ByteArray × ByteArray)) (i : Nat) : Bool := ((old[i]?).map fun p => decide (valL now p.1 = none)).getD false
def c2 (old now : List (ByteArray × ByteArray)) (i : Nat) : Bool := ((now[i]?).map fun p => decide (valL old p.1 ≠ some p.2)).getD false

theorem between_l3 (hn : Rise now) (hlen : old.length ≤ 1000) {N : Nat} (hN : N ≤ 1000) (hl : Pairs.len = N + old.countP (fun p => decide (valL now p.1 = none))) (hs : Sessions.len = x1Sessions.len) {b : Nat} (hb : H0.size ≤ b) :
    ∀ (d : Nat) (S : Array Nat) (H : Hp), S.size + d = old.length → RgP H b m1 (prsOfL old) S → VM H m2 (prsOfL now) → Mod (fun _ => False) H0 H →
      tephralaw08_DeltaBetween.l3 J0 x0Index x0Term x0Pairs x0Sessions x1Index x1Term x1Pairs x1Sessions x2Index x2Term x2Pairs x2Sessions From To Term Pairs Sessions From1 To1 Term1 Pairs1 Sessions1 (some m2) b H ((N + cntS (c3 old now) S : Nat) : Int) (trueQ H0) := by
  intro d
  induction d using Nat.strongRecOn with
  | _ d ih =>
    intro S H hd rg vm m
    have hcl := cntS_le (c3 old now) rg
    rw [vRow_len, prs_len] at hcl
    apply tephralaw08_DeltaBetween.l3.step; unfold tephralaw08_DeltaBetween.l3.body
    refine rg.step (fun i k v hi hiS H1 rg1 mm e1 hk hv => ?_) (fun hall => ?_)
    · obtain ⟨p, hp, rfl, rfl⟩ := vRow_get hi
      obtain ⟨q, hq, rfl⟩ := prs_get hp
      have hsz := rg1.size
      rw [vRow_len, prs_len, Array.size_push] at hsz
      have vm1 := VM.keepB vm rg mm
      refine ⟨q.1, hk, _, _, _, _, VM.look vm1 q.1, fun H2 h2 => ?_⟩
      obtain ⟨m2', _⟩ := hole_facts h2
      have mH : Mod (fun _ => False) H0 H2 := (m.trans' mm fun c hc e => by omega).trans m2'
      have next := ih (d - 1) (by omega) (S.push i) H2 (by rw [Array.size_push]; omega) (rg1.keep m2' (fun e => e) (fun e => e)) (vm1.mod m2') mH
      rw [cntS_push] at next
      have hc : c3 old now i = decide (valL now q.1 = none) := by unfold c3; rw [hq]; rfl
      rw [findP_prs hn]
      by_cases c : valL now q.1 = none
      · rw [hc, decide_eq_true c, if_pos rfl] at next
        rw [c]
        refine Br.yes rfl ?_
        rw [w64_id (by omega) (by omega), show ((N + cntS (c3 old now) S : Nat) : Int) + 1 = ((N + (cntS (c3 old now) S + 1) : Nat) : Int) by omega]
        exact next
      · rw [hc, decide_eq_false c, if_neg (by simp), Nat.add_zero] at next
        obtain ⟨v, hv'⟩ := Option.ne_none_iff_exists'.1 c
        rw [hv']
        exact Br.no rfl next
    · rw [cntS_all _ rg hall, vRow_len, prs_len]
      unfold c3
      rw [countP_range]
      exact Br.yes (by rw [hl]; simp) ⟨⟨by omega, by omega⟩, by rw [hs]; simp, m⟩

theorem between_l2 (ho : Rise old) (hn : Rise now) (hlo : old.length ≤ 1000) (hlen : now.length ≤ 1000) (hl : Pairs.len = now.countP (fun p => decide (valL old p.1 ≠ some p.2)) + old.countP (fun p => decide (valL now p.1 = none))) (hs : Sessions.len = x1Sessions.len) {b : Nat} (hb : H0.size ≤ b) :
    ∀ (d : Nat) (S : Array Nat) (H : Hp), S.size + d = now.length → RgP H b m2 (prsOfL now) S → VM H m1 (prsOfL old) → Mod (fun _ => False) H0 H →
      tephralaw08_DeltaBetween.l2 J0 x0Index x0Term x0Pairs x0Sessions x1Index x1Term x1Pairs x1Sessions x2Index x2Term x2Pairs x2Sessions From To Term Pairs Sessions From1 To1 Term1 Pairs1 Sessions1 (some m1) (some m2) b H ((cntS (c2 old now) S : Nat) : Int) (trueQ H0) := by
  intro d
  induction d using Nat.strongRecOn with
  | _ d ih =>
    intro S H hd rg vm m
    have hcl := cntS_le (c2 old now) rg
    rw [vRow_len, prs_len] at hcl
    apply tephralaw08_DeltaBetween.l2.step; unfold tephralaw08_DeltaBetween.l2.body
    refine rg.step (fun i k v hi hiS H1 rg1 mm e1 hk hv => ?_) (fun hall => ?_)
    · obtain ⟨p, hp, rfl, rfl⟩ := vRow_get hi
      obtain ⟨q, hq, rfl⟩ := prs_get hp
      have hsz := rg1.size
      rw [vRow_len, prs_len, Array.size_push] at hsz
      have vm1 := VM.keepB vm rg mm
      refine ⟨q.1, hk, q.1, q.2, false, hv, fun H2 h2 => ?_⟩
      obtain ⟨m2', _⟩ := hole_facts h2
      refine ⟨_, _, _, _, VM.look (vm1.mod m2') q.1, fun H3 h3 => ?_⟩
      obtain ⟨m3', _⟩ := hole_facts h3
      have m23 := m2'.trans m3'
      have mH : Mod (fun _ => False) H0 H3 := (m.trans' mm fun c hc e => by omega).trans m23
      have next := ih (d - 1) (by omega) (S.push i) H3 (by rw [Array.size_push]; omega) (rg1.keep m23 (fun e => e) (fun e => e)) (vm1.mod m23) mH
      rw [cntS_push] at next
      have hc : c2 old now i = decide (valL old q.1 ≠ some q.2) := by unfold c2; rw [hq]; rfl
      rw [findP_prs ho]
      have yes : valL old q.1 ≠ some q.2 → ∀ {K2 V2 : ByteArray} {G2 : Bool}, tephralaw08_DeltaBetween.k19 J0 x0Index x0Term x0Pairs x0Sessions x1Index x1Term x1Pairs x1Sessions x2Index x2Term x2Pairs x2Sessions From To Term Pairs Sessions From1 To1 Term1 Pairs1 Sessions1 (some m1) (some m2) b ((cntS (c2 old now) S : Nat) : Int) q.1 q.2 false K2 V2 G2 H3 true (trueQ H0) := fun c K2 V2 G2 => by
        rw [hc, decide_eq_true c, if_pos rfl] at next
        apply tephralaw08_DeltaBetween.k19.step; unfold tephralaw08_DeltaBetween.k19.body
        refine Br.yes rfl ?_
        rw [w64_id (by omega) (by omega), show ((cntS (c2 old now) S : Nat) : Int) + 1 = ((cntS (c2 old now) S + 1 : Nat) : Int) by omega]
        exact next
      cases hv' : valL old q.1 with
      | none => exact Br.yes rfl (yes (by rw [hv']; simp))
      | some v =>
        refine Br.no rfl ?_
        show tephralaw08_DeltaBetween.k19 J0 x0Index x0Term x0Pairs x0Sessions x1Index x1Term x1Pairs x1Sessions x2Index x2Term x2Pairs x2Sessions From To Term Pairs Sessions From1 To1 Term1 Pairs1 Sessions1 _ _ _ _ _ _ _ q.1 v false H3 (!((q.1 == q.1) && ((v == q.2) && ((false == false) && true)))) _
        rw [Go.Proofs.beq_ba q.1 q.1, Go.Proofs.beq_ba v q.2, decide_eq_true rfl]
        by_cases e : v = q.2
        · rw [decide_eq_true e]
          rw [hc, decide_eq_false (by rw [hv', e]; simp), if_neg (by simp), Nat.add_zero] at next
          apply tephralaw08_DeltaBetween.k19.step; unfold tephralaw08_DeltaBetween.k19.body
          exact Br.no rfl next
        · rw [decide_eq_false e]
          exact yes (by rw [hv']; simpa using e)
    · have hN := cntS_all (c2 old now) rg hall
      rw [vRow_len, prs_len] at hN
      unfold c2 at hN
      rw [countP_range] at hN
      refine ⟨m1, _, _, rfl, vm, ?_⟩
      rintro b2 rfl H3 h3
      obtain ⟨_, mp, _⟩ := push_facts h3
      have rg3 : RgP H3 H.size m1 (prsOfL old) #[] := by rw [h3]; exact RgS.new vm
      have := between_l3 (x0Index := x0Index) (x0Term := x0Term) (x0Pairs := x0Pairs) (x0Sessions := x0Sessions) (x1Index := x1Index) (x1Term := x1Term) (x1Pairs := x1Pairs) (x1Sessions := x1Sessions) (x2Index := x2Index) (x2Term := x2Term) (x2Pairs := x2Pairs) (x2Sessions := x2Sessions) (From := From) (To := To) (Term := Term) (Pairs := Pairs) (Sessions := Sessions) (From1 := From1) (To1 := To1) (Term1 := Term1) (Pairs1 := Pairs1) (Sessions1 := Sessions1)
        hn hlo (N := cntS (c2 old now) S) (by omega) (by show _ = cntS _ S + _; unfold c2; rw [hN]; exact hl) hs (b := H.size) m.size old.length #[] H3 (by simp) rg3 (MR.mod rg.map mp) (m.trans mp)
      simpa [cntS] using this

theorem between_l1 (ho : Rise old) (hn : Rise now) (hlo : old.length ≤ 1000) (hlen : now.length ≤ 1000) (hl : Pairs.len = (btw old now).length) (hs : Sessions.len = x1Sessions.len) {b : Nat} (hb : H0.size ≤ b) :
    ∀ (d : Nat) (S : Array Nat) (H : Hp), S.size + d = (btw old now).length → RgP H b m3 (btw old now) S → VM H m1 (prsOfL old) → VM H m2 (prsOfL now) → Mod (fun _ => False) H0 H →
      tephralaw08_DeltaBetween.l1 J0 x0Index x0Term x0Pairs x0Sessions x1Index x1Term x1Pairs x1Sessions x2Index x2Term x2Pairs x2Sessions From To Term Pairs Sessions From1 To1 Term1 Pairs1 Sessions1 (some m1) (some m2) b H (trueQ H0) := by
  intro d
  induction d using Nat.strongRecOn with
  | _ d ih =>
    intro S H hd rg vo vn m
    apply tephralaw08_DeltaBetween.l1.step; unfold tephralaw08_DeltaBetween.l1.body
    refine rg.step (fun i k v hi hiS H1 rg1 mm e1 hk hv => ?_) (fun hall => ?_)
    · obtain ⟨p, hp, rfl, rfl⟩ := vRow_get hi
      have hsz := rg1.size
      rw [vRow_len, Array.size_push] at hsz
      have vo1 := VM.keepB vo rg mm
      have vn1 := VM.keepB vn rg mm
      refine ⟨p.key, hk, p.key, p.value, p.gone, hv, fun H2 h2 => ?_⟩
      obtain ⟨m2', _⟩ := hole_facts h2
      refine ⟨_, _, _, _, VM.look (vn1.mod m2') p.key, fun H3 h3 => ?_⟩
      obtain ⟨m3', _⟩ := hole_facts h3
      have m23 := m2'.trans m3'
      refine ⟨_, _, _, _, VM.look (vo1.mod m23) p.key, fun H4 h4 => ?_⟩
      obtain ⟨m4', _⟩ := hole_facts h4
      have m24 := m23.trans m4'
      have mH : Mod (fun _ => False) H0 H4 := (m.trans' mm fun c hc e => by omega).trans m24
      have next := ih (d - 1) (by omega) (S.push i) H4 (by rw [Array.size_push]; omega) (rg1.keep m24 (fun e => e) (fun e => e)) (vo1.mod m24) (vn1.mod m24) mH
      rw [findP_prs ho, findP_prs hn]
      obtain ⟨key, value, gone⟩ := p
      dsimp only
      rcases findP_btw ho hn (List.mem_of_getElem? hp) with ⟨g1, ⟨w, g2⟩, g3⟩ | ⟨w, g1, g2, g3⟩
      · dsimp only at g1 g2 g3
        cases g3
        rw [g1, g2]
        refine Br.no rfl (Br.no rfl ?_)
        apply tephralaw08_DeltaBetween.k11.step; unfold tephralaw08_DeltaBetween.k11.body
        apply tephralaw08_DeltaBetween.k12.step; unfold tephralaw08_DeltaBetween.k12.body
        refine Br.no rfl (Br.yes rfl ?_)
        apply tephralaw08_DeltaBetween.k14.step; unfold tephralaw08_DeltaBetween.k14.body
        apply tephralaw08_DeltaBetween.k15.step; unfold tephralaw08_DeltaBetween.k15.body
        refine Br.no rfl (Br.no rfl ?_)
        apply tephralaw08_DeltaBetween.k17.step; unfold tephralaw08_DeltaBetween.k17.body
        refine Br.no rfl ?_
        apply tephralaw08_DeltaBetween.k18.step; unfold tephralaw08_DeltaBetween.k18.body
        exact Br.no rfl next
      · dsimp only at g1 g2 g3
        cases g3
        rw [g1]
        refine Br.no rfl (Br.yes rfl ?_)
        apply tephralaw08_DeltaBetween.k11.step; unfold tephralaw08_DeltaBetween.k11.body
        apply tephralaw08_DeltaBetween.k12.step; unfold tephralaw08_DeltaBetween.k12.body
        refine Br.no (by show (!((key == key) && ((value == value) && ((false == false) && true)))) = false; rw [Go.Proofs.beq_ba, Go.Proofs.beq_ba, decide_eq_true rfl, decide_eq_true rfl]; rfl) (Br.no rfl ?_)
        apply tephralaw08_DeltaBetween.k14.step; unfold tephralaw08_DeltaBetween.k14.body
        apply tephralaw08_DeltaBetween.k15.step; unfold tephralaw08_DeltaBetween.k15.body
        refine Br.no rfl (Br.yes rfl ?_)
        apply tephralaw08_DeltaBetween.k17.step; unfold tephralaw08_DeltaBetween.k17.body
        cases hw : valL old key with
        | none =>
          refine Br.no rfl ?_
          apply tephralaw08_DeltaBetween.k18.step; unfold tephralaw08_DeltaBetween.k18.body
          exact Br.no rfl next
        | some u =>
          refine Br.yes rfl ?_
          apply tephralaw08_DeltaBetween.k18.step; unfold tephralaw08_DeltaBetween.k18.body
          refine Br.no ?_ next
          show ((key == key) && ((value == u) && ((false == false) && true))) = false
          rw [Go.Proofs.beq_ba, Go.Proofs.beq_ba, decide_eq_false (p := value = u) (by rintro rfl; exact g2 hw)]
          simp
    · refine ⟨m2, _, _, rfl, vn, ?_⟩
      rintro b2 rfl H3 h3
      obtain ⟨_, mp, _⟩ := push_facts h3
      have rg3 : RgP H3 H.size m2 (prsOfL now) #[] := by rw [h3]; exact RgS.new vn
      have := between_l2 (x0Index := x0Index) (x0Term := x0Term) (x0Pairs := x0Pairs) (x0Sessions := x0Sessions) (x1Index := x1Index) (x1Term := x1Term) (x1Pairs := x1Pairs) (x1Sessions := x1Sessions) (x2Index := x2Index) (x2Term := x2Term) (x2Pairs := x2Pairs) (x2Sessions := x2Sessions) (From := From) (To := To) (Term := Term) (Pairs := Pairs) (Sessions := Sessions) (From1 := From1) (To1 := To1) (Term1 := Term1) (Pairs1 := Pairs1) (Sessions1 := Sessions1)
        ho hn hlo hlen (by rw [hl]; exact btw_count ho hn) hs (b := H.size) m.size now.length #[] H3 (by simp) rg3 (MR.mod vo mp) (m.trans mp)
      simpa [cntS] using this
end
end Go.Proofs
