/- LAYER 01: PackAny, the loops. -/
import Derived.Test.YtllkdgnagjciiaaKp10
set_option linter.all false
set_option linter.constructorNameAsVariable false
namespace Go.Proofs
open Go Go.KC

section
variable {b kinds : Sl} {rb : Nat} {x2 x3 : Int} {bs : List UInt8} {H : Hp} {Q : Value → Hp → Prop}

/-- The number that stands there. -/
theorem PA_l2 {x1 : Option Addr} {bad1 : Bool} {at' lg : Nat} (hr : Rows H b 1 (bs.map bv)) (hbl : b.len ≤ 9223372036854775807) (hat : at' + lg ≤ bs.length)
    (hQ : tephralaw01_PackAny.k3 J0 b kinds x1 x2 x3 bad1 ((at' + lg : Nat) : Int) (numOf 0 ((bs.drop at').take lg)) H Q) :
    ∀ (d j : Nat) (n : Int), j + d = lg → numOf n (((bs.drop at').take lg).drop j) = numOf 0 ((bs.drop at').take lg) → tephralaw01_PackAny.l2 J0 b kinds x1 (at' : Int) x2 x3 (lg : Int) bad1 H n (j : Int) Q := by
  have hl : bs.length = b.len := by have := hr.1; simpa using this
  have hc := hr.2.1
  have e1 : w64 ((at' : Int) + (lg : Int)) = ((at' + lg : Nat) : Int) := by rw [w64_id (by omega) (by omega)]; omega
  intro d
  induction d with
  | zero =>
    intro j n hj hn
    apply tephralaw01_PackAny.l2.step
    unfold tephralaw01_PackAny.l2.body
    rw [e1]
    rw [List.drop_eq_nil_of_le (by simp; omega)] at hn
    refine Br.no (by simp; omega) ?_
    rw [show n = numOf 0 ((bs.drop at').take lg) from hn]
    exact hQ
  | succ d ih =>
    intro j n hj hn
    apply tephralaw01_PackAny.l2.step
    unfold tephralaw01_PackAny.l2.body
    rw [e1]
    have hd := hr.drop (n := at') (by omega)
    rw [Nat.mul_one, ← List.map_drop] at hd
    have hjb : at' + j < bs.length := by omega
    obtain ⟨a, ha, hcell⟩ := hd.at (j := j) (c := bs[at' + j]) (by rw [List.getElem?_drop, List.getElem?_eq_getElem hjb])
    refine Br.yes (by simp; omega) ⟨⟨by omega, by omega⟩, vPtr.mk a (by simpa using ha) ⟨_, by simpa using hcell, ?_⟩⟩
    have hjl : j < ((bs.drop at').take lg).length := by simp; omega
    have hget : ((bs.drop at').take lg)[j] = bs[at' + j] := by simp
    rw [List.drop_eq_getElem_cons hjl, hget] at hn
    have e2 : w64 (w64 (n * 256) + w64 ((bs[at' + j].toNat : Nat) : Int)) = w64 (n * 256 + ((bs[at' + j].toNat : Nat) : Int)) := by
      have h256 : bs[at' + j].toNat < 256 := UInt8.toNat_lt _
      rw [w64_id (x := ((bs[at' + j].toNat : Nat) : Int)) (by omega) (by omega), w64_mod, w64_mod, w64_mod]; omega
    rw [e2, w64_id (x := (j : Int) + 1) (by omega) (by omega)]
    have := ih (j + 1) (w64 (n * 256 + ((bs[at' + j].toNat : Nat) : Int))) (by omega) hn
    simpa using this

theorem PA_k1 {x1 : Option Addr} {bad : Bool} {at' lg : Nat} (hr : Rows H b 1 (bs.map bv)) (hbl : b.len ≤ 9223372036854775807) (hat : at' ≤ bs.length)
    (h1 : tkok bad lg (bs.drop at').length = false → tephralaw01_PackAny.k3 J0 b kinds x1 x2 x3 true (at' : Int) 0 H Q)
    (h0 : tkok bad lg (bs.drop at').length = true → tephralaw01_PackAny.k3 J0 b kinds x1 x2 x3 false ((at' + lg : Nat) : Int) (numOf 0 ((bs.drop at').take lg)) H Q) :
    tephralaw01_PackAny.k1 J0 b kinds x1 H (at' : Int) bad x2 x3 (lg : Int) Q := by
  have hl : bs.length = b.len := by have := hr.1; simpa using this
  have hc := hr.2.1
  have k2 : ∀ z : Bool, z = (!tkok bad lg (bs.drop at').length) → tephralaw01_PackAny.k2 J0 b kinds x1 H (at' : Int) x2 x3 (lg : Int) z Q := by
    intro z hz
    apply tephralaw01_PackAny.k2.step
    unfold tephralaw01_PackAny.k2.body
    cases z with
    | true =>
      refine Br.no rfl (h1 ?_)
      revert hz; cases tkok bad lg (bs.drop at').length
      · exact fun _ => rfl
      · exact fun h => nomatch h
    | false =>
      have ht : tkok bad lg (bs.drop at').length = true := by
        revert hz; cases tkok bad lg (bs.drop at').length
        · exact fun h => nomatch h
        · exact fun _ => rfl
      have hle : at' + lg ≤ bs.length := by simp [tkok] at ht; omega
      have e1 : w64 ((at' : Int) + (lg : Int)) = ((at' + lg : Nat) : Int) := by rw [w64_id (by omega) (by omega)]; omega
      rw [e1]
      exact Br.yes rfl ⟨⟨by omega, by omega⟩, ⟨by omega, by omega⟩, PA_l2 hr hbl hle (h0 ht) lg 0 0 (by omega) rfl⟩
  apply tephralaw01_PackAny.k1.step
  unfold tephralaw01_PackAny.k1.body
  rw [w64_id (by omega) (by omega)]
  cases bad with
  | true => exact Br.yes rfl (k2 true (by simp [tkok]))
  | false =>
    refine Br.no rfl (k2 _ ?_)
    by_cases hc : (b.len : Int) - at' < lg
    · rw [decide_eq_true hc]; unfold tkok
      rw [show decide ((lg : Int) ≤ ((bs.drop at').length : Nat)) = false from decide_eq_false (by rw [List.length_drop]; omega)]
      simp
    · rw [decide_eq_false hc]; unfold tkok
      rw [show decide ((lg : Int) ≤ ((bs.drop at').length : Nat)) = true from decide_eq_true (by rw [List.length_drop]; omega), show decide ((0 : Int) ≤ (lg : Int)) = true from decide_eq_true (by omega)]
      rfl
end

section
variable {b kinds : Sl} {rb : Nat} {D : List Nat} {bs ks : List UInt8} {H0 : Hp}

theorem numOf_one (c : UInt8) : numOf 0 [c] = (c.toNat : Int) := by
  have h256 : c.toNat < 256 := UInt8.toNat_lt _
  show w64 (0 * 256 + _) = _
  rw [w64_id (by omega) (by omega)]; omega

theorem PA_l1 (hr : Rows H0 b 1 (bs.map bv)) (hk : Rows H0 kinds 1 (ks.map bv)) (hbl : b.len ≤ 9223372036854775807) (hrb : H0.size ≤ rb) :
    ∀ (d j : Nat) (H : Hp) (at' : Nat) (bad : Bool), j + d = min 100 kinds.len → at' ≤ bs.length → Fresh H0 H → Rd H rb D bad (bs.drop at') →
      tephralaw01_PackAny.l1 J0 b kinds (some ⟨rb, 0, none⟩) H (at' : Int) bad (j : Int) fun r H' => r = .bool true ∧ Mod (fun _ => False) H0 H' := by
  have hl : bs.length = b.len := by have := hr.1; simpa using this
  have hkl : ks.length = kinds.len := by have := hk.1; simpa using this
  have e : (if (100 : Int) < ((kinds.len : Nat) : Int) then (100 : Int) else ((kinds.len : Nat) : Int)).toNat = min 100 kinds.len := min_toNat 100 kinds.len
  intro d
  induction d with
  | zero =>
    intro j H at' bad hj hat hf hd
    apply tephralaw01_PackAny.l1.step
    unfold tephralaw01_PackAny.l1.body
    rw [e]
    refine Br.no (by simp; omega) ((Reader_Done_spec hd).mono ?_)
    rintro r H1 ⟨rfl, rfl⟩
    refine ⟨_, rfl, ?_⟩
    have hemp : (bs.drop at').isEmpty = ((at' : Int) == ((b.len : Nat) : Int)) := by
      by_cases hc : at' = bs.length
      · rw [List.drop_eq_nil_of_le (by omega), hc, hl]; simp
      · have : bs.drop at' ≠ [] := by intro h; have := congrArg List.length h; simp at this; omega
        cases hx : bs.drop at' with
        | nil => exact absurd hx this
        | cons c t => simp; omega
    cases bad with
    | true => exact Br.no rfl ⟨rfl, hf.mod⟩
    | false => exact Br.yes rfl ⟨by rw [← hemp]; simp, hf.mod⟩
  | succ d ih =>
    intro j H at' bad hj hat hf hd
    apply tephralaw01_PackAny.l1.step
    unfold tephralaw01_PackAny.l1.body
    rw [e]
    have hrH : Rows H b 1 (bs.map bv) := hf.rows hr
    have hjk : j < ks.length := by omega
    obtain ⟨a, ha, hcell⟩ := (hf.rows hk).at (j := j) (c := ks[j]) (by rw [List.getElem?_eq_getElem hjk])
    refine Br.yes (by simp; omega) ⟨⟨by omega, by omega⟩, vPtr.mk a (by rw [cutA_zero]; exact ha) ⟨_, by simpa using hcell, by omega, ?_⟩⟩
    have next : ∀ (at2 : Nat) (bad2 : Bool), at2 ≤ bs.length → ∀ H', Mod (· = rb) H H' → Rd H' rb D bad2 (bs.drop at2) →
        tephralaw01_PackAny.l1 J0 b kinds (some ⟨rb, 0, none⟩) H' (at2 : Int) bad2 (w64 ((j : Int) + 1)) fun r H' => r = .bool true ∧ Mod (fun _ => False) H0 H' := by
      intro at2 bad2 hat2 H' m1 hd1
      rw [w64_id (x := (j : Int) + 1) (by omega) (by omega)]
      have := ih (j + 1) H' at2 bad2 (by omega) hat2 (hf.step m1 fun g hg => by omega) hd1
      simpa using this
    generalize ks[j] = kc
    rcases (by omega : kc.toNat % 3 = 0 ∨ kc.toNat % 3 = 1 ∨ kc.toNat % 3 = 2) with h3 | h3 | h3
    · have ht := tmod3 h3
      refine Br.no (by rw [ht]; rfl) (PA_k1 (lg := 8) hrH hbl hat (fun hk => ?_) (fun hk => ?_))
      · have hrd : rdNum bad (bs.drop at') = (0, true, bs.drop at') := by unfold rdNum; rw [show ((8 : Nat) : Int) = 8 from rfl] at hk; rw [hk]
        apply tephralaw01_PackAny.k3.step
        unfold tephralaw01_PackAny.k3.body
        refine ⟨by omega, Br.no (by rw [ht]; rfl) (PA_num ht hd (by rw [hrd]) (by rw [hrd]) fun H' m1 h1 => ?_)⟩
        rw [hrd] at h1
        exact next at' true hat H' m1 h1
      · have hrd : rdNum bad (bs.drop at') = (numOf 0 ((bs.drop at').take 8), false, bs.drop (at' + 8)) := by unfold rdNum; rw [show ((8 : Nat) : Int) = 8 from rfl] at hk; rw [hk, List.drop_drop]
        have hle : at' + 8 ≤ bs.length := by simp [tkok] at hk; omega
        apply tephralaw01_PackAny.k3.step
        unfold tephralaw01_PackAny.k3.body
        refine ⟨by omega, Br.no (by rw [ht]; rfl) (PA_num ht hd (by rw [hrd]) (by rw [hrd]) fun H' m1 h1 => ?_)⟩
        rw [hrd] at h1
        exact next (at' + 8) false hle H' m1 h1
    · have ht := tmod3 h3
      refine Br.yes (by rw [ht]; rfl) (PA_k1 (lg := 1) hrH hbl hat (fun hk => ?_) (fun hk => ?_))
      · have hrd : rdByte bad (bs.drop at') = (0, true, bs.drop at') := by unfold rdByte; rw [show ((1 : Nat) : Int) = 1 from rfl] at hk; rw [hk]
        apply tephralaw01_PackAny.k3.step
        unfold tephralaw01_PackAny.k3.body
        refine ⟨by omega, Br.no (by rw [ht]; rfl) (PA_byte ht hd (by rw [hrd]; rfl) (by rw [hrd]) fun H' m1 h1 => ?_)⟩
        rw [hrd] at h1
        exact next at' true hat H' m1 h1
      · have hle : at' + 1 ≤ bs.length := by simp [tkok] at hk; omega
        have hdr : bs.drop at' = bs[at'] :: bs.drop (at' + 1) := List.drop_eq_getElem_cons (by omega)
        have hrd : rdByte bad (bs.drop at') = ((bs[at'].toNat : Int), false, bs.drop (at' + 1)) := by unfold rdByte; rw [show ((1 : Nat) : Int) = 1 from rfl] at hk; rw [hk, hdr]; rfl
        apply tephralaw01_PackAny.k3.step
        unfold tephralaw01_PackAny.k3.body
        have h256 : bs[at'].toNat < 256 := UInt8.toNat_lt _
        refine ⟨by omega, Br.no (by rw [ht]; rfl) (PA_byte ht hd (by rw [hrd, hdr]; show w64 _ = numOf 0 [bs[at']]; rw [numOf_one, w64_id (by omega) (by omega)]) (by rw [hrd]) fun H' m1 h1 => ?_)⟩
        rw [hrd] at h1
        exact next (at' + 1) false hle H' m1 h1
    · have ht := tmod3 h3
      refine Br.no (by rw [ht]; rfl) (PA_k1 (lg := 8) hrH hbl hat (fun hk => ?_) (fun hk => ?_))
      · have hrd : rdNum bad (bs.drop at') = (0, true, bs.drop at') := by unfold rdNum; rw [show ((8 : Nat) : Int) = 8 from rfl] at hk; rw [hk]
        have hrt : rdText bad (bs.drop at') = ([], true, bs.drop at') := by unfold rdText; rw [hrd]; rfl
        apply tephralaw01_PackAny.k3.step
        unfold tephralaw01_PackAny.k3.body
        refine ⟨by omega, Br.yes (by rw [ht]; rfl) (PA_text0 ht hd (by rw [hrt]) (by rw [hrt]) fun H' m1 h1 => ?_)⟩
        rw [hrt] at h1
        exact next at' true hat H' m1 h1
      · have hrd : rdNum bad (bs.drop at') = (numOf 0 ((bs.drop at').take 8), false, bs.drop (at' + 8)) := by unfold rdNum; rw [show ((8 : Nat) : Int) = 8 from rfl] at hk; rw [hk, List.drop_drop]
        have hle : at' + 8 ≤ bs.length := by simp [tkok] at hk; omega
        have hnr := numOf_range ((bs.drop at').take 8) 0 (by omega) (by omega)
        apply tephralaw01_PackAny.k3.step
        unfold tephralaw01_PackAny.k3.body
        refine ⟨by omega, Br.yes (by rw [ht]; rfl) ?_⟩
        generalize numOf 0 ((bs.drop at').take 8) = n at *
        have bad5 : (n < 0 ∨ n > (bs.length : Int) - (at' + 8 : Nat)) → tephralaw01_PackAny.k5 J0 b kinds (some ⟨rb, 0, none⟩) (j : Int) (kc.toNat : Int) ((at' + 8 : Nat) : Int) n H true fun r H' => r = .bool true ∧ Mod (fun _ => False) H0 H' := by
          intro hn
          have hrt : rdText bad (bs.drop at') = ([], true, bs.drop (at' + 8)) := by
            unfold rdText; rw [hrd]
            have : tkok false n (bs.drop (at' + 8)).length = false := by
              simp [tkok]; omega
            simp only [this]
          refine PA_text1 ht hd (by rw [hrt]) (by rw [hrt]) fun H' m1 h1 => ?_
          rw [hrt] at h1
          exact next (at' + 8) true hle H' m1 h1
        apply tephralaw01_PackAny.k4.step
        unfold tephralaw01_PackAny.k4.body
        refine Br.yes rfl ?_
        by_cases hn0 : n < 0
        · exact Br.yes (by simp [hn0]) (bad5 (Or.inl hn0))
        refine Br.no (by simp; omega) ?_
        rw [w64_id (by omega) (by omega)]
        by_cases hn1 : n > ((b.len : Nat) : Int) - ((at' + 8 : Nat) : Int)
        · rw [decide_eq_true hn1]
          exact bad5 (Or.inr (by rw [hl]; exact hn1))
        rw [decide_eq_false hn1]
        have hrt : rdText bad (bs.drop at') = ((bs.drop (at' + 8)).take n.toNat, false, bs.drop (at' + 8 + n.toNat)) := by
          unfold rdText; rw [hrd]
          have : tkok false n (bs.drop (at' + 8)).length = true := by
            simp [tkok]; omega
          simp only [this, List.drop_drop]
        have e9 : ((at' + 8 : Nat) : Int) + n = ((at' + 8 + n.toNat : Nat) : Int) := by omega
        refine PA_text2 (D0 := bs) (ys := (bs.drop (at' + 8)).take n.toNat) ht hd (by rw [hrt]) (by rw [hrt]) hrH (by omega) (by omega) (w64_id (by omega) (by omega)) (by omega) rfl fun H' m1 h1 => ?_
        rw [hrt] at h1
        rw [e9]
        exact next (at' + 8 + n.toNat) false (by omega) H' m1 h1

theorem PackAny_spec (hr : Rows H0 b 1 (bs.map bv)) (hk : Rows H0 kinds 1 (ks.map bv)) (hbl : b.len ≤ 9223372036854775807) (hlt : ∀ g ∈ b.blk, g < H0.size) :
    SCalls Try.prog tephralaw01_PackAny.id [.slice b.a b.len b.cap, .slice kinds.a kinds.len kinds.cap] H0 fun r H' => r = .bool true ∧ Mod (fun _ => False) H0 H' := by
  apply tephralaw01_PackAny.calls
  have hx := hk.2.1
  refine awake_spec.mono ?_
  rintro r H1 ⟨rfl, m1⟩
  have f0 : Fresh H0 H0 := Mod.refl _ _
  have f1 := f0.step m1 fun _ h => h.elim
  refine ⟨_, rfl, Br.no rfl ((Of_spec (f1.rows hr) (fun _ h => h) fun g hg => Nat.lt_of_lt_of_le (hlt g hg) m1.size).mono ?_)⟩
  rintro r H2 ⟨rfl, m2, h2⟩
  refine ⟨_, rfl, ⟨by split <;> omega, by split <;> omega⟩, ?_⟩
  exact PA_l1 hr hk hbl m1.size (min 100 kinds.len) 0 H2 0 false (by omega) (by omega) (f1.step m2 fun _ h => h.elim) h2
end

end Go.Proofs
