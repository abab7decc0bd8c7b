/- STATES: rows and states read of bytes: plain, and ReadRows, Read: the walks. -/
import Derived.Test.YtgndfbbgomlbeaaKu8
import Derived.Test.YtgndfbbgomlbeaaKpb1
set_option linter.all false
set_option linter.constructorNameAsVariable false
namespace Go.Proofs
open Go Go.KC

theorem rdNum_good {bad : Bool} {xs : List UInt8} (h : (rdNum bad xs).2.1 = false) : bad = false ∧ (rdNum bad xs).2.2.length + 8 = xs.length := by
  unfold rdNum at h ⊢
  cases ht : tkok bad 8 xs.length with
  | true =>
    have := ht
    simp [tkok] at this
    exact ⟨this.1, by simp; omega⟩
  | false => rw [ht] at h; cases h
theorem rdByte_good {bad : Bool} {xs : List UInt8} (h : (rdByte bad xs).2.1 = false) : bad = false ∧ (rdByte bad xs).2.2.length + 1 = xs.length := by
  unfold rdByte at h ⊢
  cases ht : tkok bad 1 xs.length with
  | true =>
    have := ht
    simp [tkok] at this
    exact ⟨this.1, by simp; omega⟩
  | false => rw [ht] at h; cases h
theorem rdText_good {bad : Bool} {xs : List UInt8} (h : (rdText bad xs).2.1 = false) : bad = false ∧ (rdText bad xs).2.2.length + 8 ≤ xs.length := by
  unfold rdText at h ⊢
  dsimp only at h ⊢
  cases ht : tkok (rdNum bad xs).2.1 (rdNum bad xs).1 (rdNum bad xs).2.2.length with
  | true =>
    have := ht
    simp [tkok] at this
    have hn := rdNum_good this.1.1
    exact ⟨hn.1, by simp; omega⟩
  | false => rw [ht] at h; cases h

theorem rdNum_le (bad : Bool) (xs : List UInt8) : (rdNum bad xs).2.2.length ≤ xs.length := by
  unfold rdNum; cases tkok bad 8 xs.length <;> simp
theorem rdByte_le (bad : Bool) (xs : List UInt8) : (rdByte bad xs).2.2.length ≤ xs.length := by
  unfold rdByte; cases tkok bad 1 xs.length <;> simp
theorem rdText_le (bad : Bool) (xs : List UInt8) : (rdText bad xs).2.2.length ≤ xs.length := by
  unfold rdText; dsimp only
  have := rdNum_le bad xs
  cases tkok (rdNum bad xs).2.1 (rdNum bad xs).1 (rdNum bad xs).2.2.length <;> simp <;> omega
theorem rdNum_bd (bad : Bool) (xs : List UInt8) : -9223372036854775808 ≤ (rdNum bad xs).1 ∧ (rdNum bad xs).1 ≤ 9223372036854775807 := by
  unfold rdNum; cases tkok bad 8 xs.length
  · simp
  · exact numOf_range _ _ (by omega) (by omega)

def rdPr (xs : List UInt8) : Pr × Bool × List UInt8 :=
  let k := rdText false xs
  let v := rdText k.2.1 k.2.2
  let c := rdByte v.2.1 v.2.2
  (⟨if c.1 > 1 then ByteArray.mk #[] else ⟨k.1.toArray⟩, ⟨v.1.toArray⟩, c.1 == 1⟩, c.2.1, c.2.2)
def rdSe (xs : List UInt8) : Se × Bool × List UInt8 :=
  let a := rdNum false xs
  let b := rdNum a.2.1 a.2.2
  let c := rdNum b.2.1 b.2.2
  let v := rdText c.2.1 c.2.2
  (⟨a.1, b.1, c.1, ⟨v.1.toArray⟩⟩, v.2.1, v.2.2)
theorem rdPr_good {xs : List UInt8} (h : (rdPr xs).2.1 = false) : (rdPr xs).2.2.length + 17 ≤ xs.length := by
  have h1 := rdByte_good h
  have h2 := rdText_good h1.1
  have h3 := rdText_good h2.1
  have e : (rdPr xs).2.2 = (rdByte (rdText (rdText false xs).2.1 (rdText false xs).2.2).2.1 (rdText (rdText false xs).2.1 (rdText false xs).2.2).2.2).2.2 := rfl
  rw [e]; omega
theorem rdSe_good {xs : List UInt8} (h : (rdSe xs).2.1 = false) : (rdSe xs).2.2.length + 32 ≤ xs.length := by
  have h1 := rdText_good h
  have h2 := rdNum_good h1.1
  have h3 := rdNum_good h2.1
  have h4 := rdNum_good h3.1
  have e : (rdSe xs).2.2 = (rdText (rdNum (rdNum (rdNum false xs).2.1 (rdNum false xs).2.2).2.1 (rdNum (rdNum false xs).2.1 (rdNum false xs).2.2).2.2).2.1 (rdNum (rdNum (rdNum false xs).2.1 (rdNum false xs).2.2).2.1 (rdNum (rdNum false xs).2.1 (rdNum false xs).2.2).2.2).2.2).2.2 := rfl
  rw [e]; omega
theorem rdPr_le (xs : List UInt8) : (rdPr xs).2.2.length ≤ xs.length := by
  have h1 := rdText_le false xs
  have h2 := rdText_le (rdText false xs).2.1 (rdText false xs).2.2
  have h3 := rdByte_le (rdText (rdText false xs).2.1 (rdText false xs).2.2).2.1 (rdText (rdText false xs).2.1 (rdText false xs).2.2).2.2
  have e : (rdPr xs).2.2 = (rdByte (rdText (rdText false xs).2.1 (rdText false xs).2.2).2.1 (rdText (rdText false xs).2.1 (rdText false xs).2.2).2.2).2.2 := rfl
  rw [e]; omega
theorem rdText_of (s : ByteArray) (t : List UInt8) (hs : s.size ≤ 9223372036854775807) : rdText false (textB s ++ t) = (s.data.toList, false, t) := by
  unfold textB
  rw [List.append_assoc]
  have := rdText_text s.data.toList t (by rw [ba_len]; exact hs)
  rwa [ba_len] at this
theorem rdPr_of (p : Pr) (t : List UInt8) (hk : p.key.size ≤ 9223372036854775807) (hv : p.value.size ≤ 9223372036854775807) : rdPr (p.bytes ++ t) = (p, false, t) := by
  unfold rdPr Pr.bytes
  simp only [List.append_assoc]
  rw [rdText_of _ _ hk]
  dsimp only
  rw [rdText_of _ _ hv]
  dsimp only
  rw [List.singleton_append, rdByte_one]
  obtain ⟨k, v, g⟩ := p
  have e1 : (⟨k.data.toList.toArray⟩ : ByteArray) = k := ba_mk k
  have e2 : (⟨v.data.toList.toArray⟩ : ByteArray) = v := ba_mk v
  cases g <;> simp [goneB, e1, e2]
def Se.fits (x : Se) : Prop := (-9223372036854775808 ≤ x.client ∧ x.client ≤ 9223372036854775807) ∧ (-9223372036854775808 ≤ x.seq ∧ x.seq ≤ 9223372036854775807) ∧ (-9223372036854775808 ≤ x.err ∧ x.err ≤ 9223372036854775807) ∧ x.value.size ≤ 9223372036854775807
def Pr.fits (p : Pr) : Prop := p.key.size ≤ 9223372036854775807 ∧ p.value.size ≤ 9223372036854775807
theorem rdSe_of (x : Se) (t : List UInt8) (h : x.fits) : rdSe (x.bytes ++ t) = (x, false, t) := by
  obtain ⟨h1, h2, h3, h4⟩ := h
  unfold rdSe Se.bytes
  simp only [List.append_assoc]
  rw [rdNum_be h1.1 h1.2]
  dsimp only
  rw [rdNum_be h2.1 h2.2]
  dsimp only
  rw [rdNum_be h3.1 h3.2]
  dsimp only
  rw [rdText_of _ _ h4]

def rdPrs : Nat → Int → Bool → List UInt8 → List Pr × Bool × List UInt8
  | 0, _, bad, xs => ([], bad, xs)
  | f + 1, n, bad, xs => if n > 0 ∧ bad = false then ((rdPr xs).1 :: (rdPrs f (n - 1) (rdPr xs).2.1 (rdPr xs).2.2).1, (rdPrs f (n - 1) (rdPr xs).2.1 (rdPr xs).2.2).2) else ([], bad, xs)
def rdSes : Nat → Int → Bool → List UInt8 → List Se × Bool × List UInt8
  | 0, _, bad, xs => ([], bad, xs)
  | f + 1, n, bad, xs => if n > 0 ∧ bad = false then ((rdSe xs).1 :: (rdSes f (n - 1) (rdSe xs).2.1 (rdSe xs).2.2).1, (rdSes f (n - 1) (rdSe xs).2.1 (rdSe xs).2.2).2) else ([], bad, xs)
theorem rdPrs_le : ∀ (f : Nat) (n : Int) (bad : Bool) (xs : List UInt8), (rdPrs f n bad xs).2.2.length ≤ xs.length
  | 0, _, _, _ => Nat.le_refl _
  | f + 1, n, bad, xs => by
    rw [rdPrs]
    split
    · exact Nat.le_trans (rdPrs_le f _ _ _) (rdPr_le xs)
    · exact Nat.le_refl _
theorem rdPrs_cnt : ∀ (f : Nat) (n : Int) (bad : Bool) (xs : List UInt8), (rdPrs f n bad xs).1.length * 17 ≤ xs.length + 17
  | 0, _, _, _ => by simp [rdPrs]
  | f + 1, n, bad, xs => by
    rw [rdPrs]
    split
    · rename_i h
      simp only [List.length_cons]
      cases hb : (rdPr xs).2.1 with
      | true => have : (rdPrs f (n - 1) true (rdPr xs).2.2).1 = [] := by cases f <;> simp [rdPrs]
                rw [this]; simp
      | false =>
        have := rdPrs_cnt f (n - 1) false (rdPr xs).2.2
        have := rdPr_good hb
        omega
    · simp
theorem rdSes_cnt : ∀ (f : Nat) (n : Int) (bad : Bool) (xs : List UInt8), (rdSes f n bad xs).1.length * 32 ≤ xs.length + 32
  | 0, _, _, _ => by simp [rdSes]
  | f + 1, n, bad, xs => by
    rw [rdSes]
    split
    · rename_i h
      simp only [List.length_cons]
      cases hb : (rdSe xs).2.1 with
      | true => have : (rdSes f (n - 1) true (rdSe xs).2.2).1 = [] := by cases f <;> simp [rdSes]
                rw [this]; simp
      | false =>
        have := rdSes_cnt f (n - 1) false (rdSe xs).2.2
        have := rdSe_good hb
        omega
    · simp
theorem rdPrs_of : ∀ (ps : List Pr) (f : Nat) (t : List UInt8), ps.length ≤ f → (∀ p ∈ ps, p.fits) → rdPrs f ps.length false (prsB ps ++ t) = (ps, false, t)
  | [], 0, t, _, _ => rfl
  | [], f + 1, t, _, _ => by unfold rdPrs; rw [if_neg (by simp)]; rfl
  | p :: ps, 0, t, h, _ => by simp at h
  | p :: ps, f + 1, t, h, hf => by
    have e : prsB (p :: ps) ++ t = p.bytes ++ (prsB ps ++ t) := by unfold prsB; simp only [List.map_cons, List.flatten_cons, List.append_assoc]
    have h1 := hf p (by simp)
    unfold rdPrs
    rw [e, rdPr_of p _ h1.1 h1.2, if_pos ⟨by simp only [List.length_cons]; omega, rfl⟩]
    have e2 : ((p :: ps).length : Int) - 1 = (ps.length : Int) := by simp
    dsimp only
    rw [e2, rdPrs_of ps f t (by simpa using h) fun q hq => hf q (List.mem_cons_of_mem _ hq)]
theorem rdSes_of : ∀ (ps : List Se) (f : Nat) (t : List UInt8), ps.length ≤ f → (∀ p ∈ ps, p.fits) → rdSes f ps.length false (sesB ps ++ t) = (ps, false, t)
  | [], 0, t, _, _ => rfl
  | [], f + 1, t, _, _ => by unfold rdSes; rw [if_neg (by simp)]; rfl
  | p :: ps, 0, t, h, _ => by simp at h
  | p :: ps, f + 1, t, h, hf => by
    have e : sesB (p :: ps) ++ t = p.bytes ++ (sesB ps ++ t) := by unfold sesB; simp only [List.map_cons, List.flatten_cons, List.append_assoc]
    have h1 := hf p (by simp)
    unfold rdSes
    rw [e, rdSe_of p _ h1, if_pos ⟨by simp only [List.length_cons]; omega, rfl⟩]
    have e2 : ((p :: ps).length : Int) - 1 = (ps.length : Int) := by simp
    dsimp only
    rw [e2, rdSes_of ps f t (by simpa using h) fun q hq => hf q (List.mem_cons_of_mem _ hq)]
def rdRowsP (bad : Bool) (bs : List UInt8) : List Pr × Bool × List UInt8 := rdPrs (bs.length + 1) (rdNum bad bs).1 (rdNum bad bs).2.1 (rdNum bad bs).2.2
def rdRowsS (N : Nat) (bad : Bool) (bs : List UInt8) : List Se × Bool × List UInt8 := rdSes N (rdNum bad bs).1 (rdNum bad bs).2.1 (rdNum bad bs).2.2
def rdRows (bad : Bool) (bs : List UInt8) : List Pr × List Se × Bool × List UInt8 :=
  ((rdRowsP bad bs).1, rdRowsS (bs.length + 1) (rdRowsP bad bs).2.1 (rdRowsP bad bs).2.2)
theorem prsB_ge (ps : List Pr) : 17 * ps.length ≤ (prsB ps).length := by
  unfold prsB
  induction ps with
  | nil => simp
  | cons q l ih => simp only [List.map_cons, List.flatten_cons, List.length_append, List.length_cons, Pr.bytes_len]; omega
theorem sesB_ge (ps : List Se) : 32 * ps.length ≤ (sesB ps).length := by
  unfold sesB
  induction ps with
  | nil => simp
  | cons q l ih => simp only [List.map_cons, List.flatten_cons, List.length_append, List.length_cons, Se.bytes_len]; omega
theorem rdRows_of {ps : List Pr} {xs : List Se} (hp : ∀ p ∈ ps, p.fits) (hs : ∀ p ∈ xs, p.fits) (hl : ps.length ≤ 1000000 ∧ xs.length ≤ 1000000) (t : List UInt8) : rdRows false (rowsB ps xs ++ t) = (ps, xs, false, t) := by
  have g1 := prsB_ge ps
  have g2 := sesB_ge xs
  have hlen : (rowsB ps xs ++ t).length = 16 + (prsB ps).length + (sesB xs).length + t.length := by rw [List.length_append, rowsB_len]
  have e : rowsB ps xs ++ t = be (ps.length : Int) 8 ++ (prsB ps ++ (be (xs.length : Int) 8 ++ (sesB xs ++ t))) := by unfold rowsB; simp only [List.append_assoc]
  have e1 : rdRowsP false (rowsB ps xs ++ t) = (ps, false, be (xs.length : Int) 8 ++ (sesB xs ++ t)) := by
    unfold rdRowsP
    rw [hlen, e, rdNum_be (by omega) (by omega)]
    exact rdPrs_of ps _ _ (by omega) hp
  unfold rdRows
  rw [e1]
  dsimp only
  unfold rdRowsS
  rw [rdNum_be (by omega) (by omega)]
  dsimp only
  rw [rdSes_of xs _ _ (by omega) hs]

def rdCnt (bs : List UInt8) : Prop :=
  let a := rdNum false bs
  let b := rdNum a.2.1 a.2.2
  (rdRows b.2.1 b.2.2).1.length ≤ 90000 ∧ (rdRows b.2.1 b.2.2).2.1.length ≤ 90000
theorem rdCnt_small {bs : List UInt8} (h : bs.length ≤ 1500000) : rdCnt bs := by
  have h1 := rdNum_le false bs
  have h2 := rdNum_le (rdNum false bs).2.1 (rdNum false bs).2.2
  unfold rdCnt
  dsimp only
  generalize rdNum (rdNum false bs).2.1 (rdNum false bs).2.2 = b at h2
  have h3 := rdNum_le b.2.1 b.2.2
  have h4 := rdPrs_cnt (b.2.2.length + 1) (rdNum b.2.1 b.2.2).1 (rdNum b.2.1 b.2.2).2.1 (rdNum b.2.1 b.2.2).2.2
  have h5 := rdPrs_le (b.2.2.length + 1) (rdNum b.2.1 b.2.2).1 (rdNum b.2.1 b.2.2).2.1 (rdNum b.2.1 b.2.2).2.2
  unfold rdRows rdRowsP rdRowsS
  dsimp only
  generalize rdPrs (b.2.2.length + 1) (rdNum b.2.1 b.2.2).1 (rdNum b.2.1 b.2.2).2.1 (rdNum b.2.1 b.2.2).2.2 = q at h4 h5
  have h6 := rdNum_le q.2.1 q.2.2
  have h7 := rdSes_cnt (b.2.2.length + 1) (rdNum q.2.1 q.2.2).1 (rdNum q.2.1 q.2.2).2.1 (rdNum q.2.1 q.2.2).2.2
  exact ⟨by omega, by omega⟩
theorem rdCnt_of {i t : Int} {ps : List Pr} {xs : List Se} (hi : -9223372036854775808 ≤ i ∧ i ≤ 9223372036854775807) (ht : -9223372036854775808 ≤ t ∧ t ≤ 9223372036854775807) (hp : ∀ p ∈ ps, p.fits) (hs : ∀ p ∈ xs, p.fits) (hl : ps.length ≤ 90000 ∧ xs.length ≤ 90000) : rdCnt (stB i t ps xs) := by
  have e := rdRows_of hp hs (by omega) []
  rw [List.append_nil] at e
  have h1 : rdNum false (stB i t ps xs) = (i, false, be t 8 ++ rowsB ps xs) := rdNum_be hi.1 hi.2 _
  unfold rdCnt
  rw [h1]
  dsimp only
  rw [rdNum_be ht.1 ht.2]
  dsimp only
  rw [e]
  exact hl
theorem RightM.len {i t : Int} {ps : List Pr} {xs : List Se} (h : RightM i t ps xs) : (stB i t ps xs).length ≤ 3000 + 48 * xs.length := by
  obtain ⟨_, _, _, _, _, hp, hs, hl⟩ := h
  have h1 : (prsB ps).length ≤ ps.length * 41 := flat_le Pr.bytes 41 _ fun x hx => by
    obtain ⟨j, hj, rfl⟩ := List.getElem_of_mem hx
    have := (hp j hj hj).1
    rw [Pr.bytes_len]; unfold Pr.Ok at this; omega
  have h2 : (sesB xs).length ≤ xs.length * 48 := flat_le Se.bytes 48 _ fun x hx => by
    obtain ⟨j, hj, rfl⟩ := List.getElem_of_mem hx
    have := (hs j hj hj).1
    rw [Se.bytes_len]; unfold Se.Ok at this; omega
  unfold stB
  simp only [List.length_append, be_length, rowsB_len]
  omega

section
variable {H : Hp}
/-- The reader, while rows are read. -/
theorem rd_num {b : Nat} {D : List Nat} {bad : Bool} {xs : List UInt8} (h : Rd H b D bad xs) {K : Int → Hp → Prop} (hK : ∀ H', Mod (· = b) H H' → Rd H' b D (rdNum bad xs).2.1 (rdNum bad xs).2.2 → K (rdNum bad xs).1 H') :
    SCalls Try.prog pack_Reader_Num.id [.pointer (some ⟨b, 0, none⟩)] H (fun r H' => ∃ x : Int, r = .int .i64 x ∧ K x H') := by
  refine (Reader_Num_spec h).mono ?_
  rintro r H' ⟨rfl, m, h'⟩
  exact ⟨_, rfl, hK H' m h'⟩
theorem rd_text {b : Nat} {D : List Nat} {bad : Bool} {xs : List UInt8} (h : Rd H b D bad xs) {K : ByteArray → Hp → Prop} (hK : ∀ H', Mod (· = b) H H' → Rd H' b D (rdText bad xs).2.1 (rdText bad xs).2.2 → K ⟨(rdText bad xs).1.toArray⟩ H') :
    SCalls Try.prog pack_Reader_Text.id [.pointer (some ⟨b, 0, none⟩)] H (fun r H' => ∃ x : ByteArray, r = .string x ∧ K x H') := by
  refine (Reader_Text_spec h).mono ?_
  rintro r H' ⟨rfl, m, h'⟩
  exact ⟨_, rfl, hK H' m h'⟩
theorem rd_byte {b : Nat} {D : List Nat} {bad : Bool} {xs : List UInt8} (h : Rd H b D bad xs) {K : Int → Hp → Prop} (hK : ∀ H', Mod (· = b) H H' → Rd H' b D (rdByte bad xs).2.1 (rdByte bad xs).2.2 → K (rdByte bad xs).1 H') :
    SCalls Try.prog pack_Reader_Byte.id [.pointer (some ⟨b, 0, none⟩)] H (fun r H' => ∃ x : Int, r = .int .u8 x ∧ K x H') := by
  refine (Reader_Byte_spec h).mono ?_
  rintro r H' ⟨rfl, m, h'⟩
  exact ⟨_, rfl, hK H' m h'⟩
theorem rd_bad {b : Nat} {D : List Nat} {bad : Bool} {xs : List UInt8} (h : Rd H b D bad xs) {K : Bool → Hp → Prop} (hK : K bad H) :
    SCalls Try.prog pack_Reader_Bad.id [.pointer (some ⟨b, 0, none⟩)] H (fun r H' => ∃ x : Bool, r = .bool x ∧ K x H') := by
  refine (Reader_Bad_spec h).mono ?_
  rintro r H' ⟨rfl, rfl⟩
  exact ⟨_, rfl, hK⟩

theorem ReadRows_spec {b : Nat} {D : List Nat} {bad : Bool} {bs : List UInt8} (h : Rd H b D bad bs) (hD : ∀ g ∈ D, g < H.size) (hl : (rdRows bad bs).1.length ≤ 90000 ∧ (rdRows bad bs).2.1.length ≤ 90000) :
    SCalls Try.prog state_ReadRows.id [.pointer (some ⟨b, 0, none⟩)] H fun r H' => ∃ p s : Sl, r = .tuple #[.slice p.a p.len p.cap, .slice s.a s.len s.cap] ∧ RR H' p s (rdRows bad bs).1 (rdRows bad bs).2.1 ∧ Rd H' b D (rdRows bad bs).2.2.1 (rdRows bad bs).2.2.2 ∧ Mod (· = b) H H' := by
  have hb : b < H.size := by obtain ⟨x, h1, _⟩ := h; exact lt_of_get h1
  have hbD : b ∉ D := by obtain ⟨_, _, _, _, h⟩ := h; exact h
  apply state_ReadRows.calls
  have loop2 : ∀ (p : Sl) (ps : List Pr) (n0 : Nat), (∀ q ∈ p.blk, H.size ≤ q ∧ q < n0) → H.size ≤ n0 →
      ∀ (f : Nat) (H2 : Hp) (s : Sl) (n : Int) (bad' : Bool) (xs : List UInt8) (pre : List Se), n0 ≤ H2.size → (bad' = true ∨ xs.length < f) → pre.length + (rdSes f n bad' xs).1.length ≤ 90000 → n ≤ 9223372036854775807 →
      Rd H2 b D bad' xs → Own H2 p T_api_Pair 3 (ps.map Pr.row).flatten → Own H2 s T_api_Session 4 (pre.map Se.row).flatten → (∀ q ∈ s.blk, n0 ≤ q) → Mod (fun q => q = b ∨ H.size ≤ q) H H2 →
      ∀ Q : Value → Hp → Prop, (∀ H' (s' : Sl), RR H' p s' ps (pre ++ (rdSes f n bad' xs).1) → Rd H' b D (rdSes f n bad' xs).2.1 (rdSes f n bad' xs).2.2 → Mod (fun q => q = b ∨ H.size ≤ q) H H' → Q (.tuple #[.slice p.a p.len p.cap, .slice s'.a s'.len s'.cap]) H') →
      state_ReadRows.l2 J0 ⟨b, 0, none⟩ p H2 s n Q := by
    intro p ps n0 hp hn0 f
    induction f with
    | zero =>
      intro H2 s n bad' xs pre hz hbf hc hn rd oP oS hs m Q hQ
      have hbt : bad' = true := hbf.elim id fun h => by omega
      subst hbt
      apply state_ReadRows.l2.step; unfold state_ReadRows.l2.body
      have fin := hQ H2 s ⟨Own.rows oP, by simpa [rdSes] using Own.rows oS⟩ rd m
      refine Br.mk (fun _ => rd_bad rd (Br.no rfl fin)) fun _ => fin
    | succ f ih =>
      intro H2 s n bad' xs pre hz hbf hc hn rd oP oS hs m Q hQ
      apply state_ReadRows.l2.step; unfold state_ReadRows.l2.body
      by_cases hgo : n > 0 ∧ bad' = false
      rotate_left
      · have e : rdSes (f + 1) n bad' xs = ([], bad', xs) := by unfold rdSes; rw [if_neg hgo]
        rw [e] at hQ
        have fin := hQ H2 s ⟨Own.rows oP, by simpa using Own.rows oS⟩ rd m
        refine Br.mk (fun hp => rd_bad rd (Br.no ?_ fin)) fun _ => fin
        have : n > 0 := of_decide_eq_true hp
        cases bad' with
        | true => rfl
        | false => exact (hgo ⟨this, rfl⟩).elim
      obtain ⟨hpos, rfl⟩ := hgo
      have e : rdSes (f + 1) n false xs = ((rdSe xs).1 :: (rdSes f (n - 1) (rdSe xs).2.1 (rdSe xs).2.2).1, (rdSes f (n - 1) (rdSe xs).2.1 (rdSe xs).2.2).2) := by rw [rdSes]; rw [if_pos ⟨hpos, rfl⟩]
      rw [e] at hQ hc
      rw [List.length_cons] at hc
      refine Br.yes (decide_eq_true hpos) (rd_bad rd (Br.yes rfl ?_))
      apply state_ReadRows.k4.step; unfold state_ReadRows.k4.body
      have mb : ∀ {H3 H4 : Hp}, Mod (· = b) H3 H4 → Mod (fun q => q = b ∨ H.size ≤ q) H3 H4 := fun m => m.mono fun _ _ h => Or.inl h
      refine rd_num rd fun H3 m3 rd3 => fun H4 e4 => ?_
      obtain ⟨m4, _⟩ := hole_facts e4
      refine rd_num (rd3.keep m4 (fun e => e) fun _ _ e => e) fun H5 m5 rd5 => ?_
      refine rd_num rd5 fun H6 m6 rd6 => ?_
      refine rd_text rd6 fun H7 m7 rd7 => ?_
      have m27 : Mod (· = b) H2 H7 := m3.trans ((m4.mono fun _ _ e => e.elim).trans (m5.trans (m6.trans m7)))
      have oS7 := oS.keep m27 fun q hq e => by have := hs q hq; have e : q = b := e; omega
      have oP7 := oP.keep m27 fun q hq e => by have := (hp q hq).1; have e : q = b := e; omega
      have z27 := m27.size
      have hsl := rows_len' (by omega) Se.row_len (Own.rows oS)
      refine addEl (p := (rdSe xs).1.row) elSess oS7 rfl rfl (by omega) fun ys H8 o8 b8 m8 => ?_
      have hw : w64 (n - 1) = n - 1 := w64_id (by omega) (by omega)
      rw [hw]
      have good : (rdSe xs).2.1 = false → (rdSe xs).2.2.length + 32 ≤ xs.length := rdSe_good
      refine ih H8 ys (n - 1) (rdSe xs).2.1 (rdSe xs).2.2 (pre ++ [(rdSe xs).1]) (by have := m8.size; omega) ?_ (by rw [List.length_append, List.length_singleton]; omega) (by omega) (rd7.keep m8 (fun hq => by have := hs b hq; omega) fun g hg hq => by have := hD g hg; have := hs g hq; omega)
        (oP7.keep m8 fun q hq h => by have := hp q hq; have := hs q h; omega) (by rw [List.map_append, List.flatten_append]; simpa using o8) (fun q hq => (b8 q hq).elim (hs q) fun h => by omega)
        (m.trans ((mb m27).trans (m8.mono fun q _ h => Or.inr (by have := hs q h; omega)))) Q fun H' s' rr rd' m' => hQ H' s' (by simpa [List.append_assoc] using rr) rd' m'
      · cases hb' : (rdSe xs).2.1 with
        | true => exact Or.inl rfl
        | false => have := good hb'; exact Or.inr (by rcases hbf with h | h; cases h; omega)
  have loop1 : ∀ (f : Nat) (H2 : Hp) (p : Sl) (n : Int) (bad' : Bool) (xs : List UInt8) (pre : List Pr), (bad' = true ∨ xs.length < f) → pre.length + (rdPrs f n bad' xs).1.length ≤ 90000 → n ≤ 9223372036854775807 →
      Rd H2 b D bad' xs → Own H2 p T_api_Pair 3 (pre.map Pr.row).flatten → (∀ q ∈ p.blk, H.size ≤ q) → Mod (fun q => q = b ∨ H.size ≤ q) H H2 →
      ∀ Q : Value → Hp → Prop, (∀ H' (p' : Sl), Own H' p' T_api_Pair 3 ((pre ++ (rdPrs f n bad' xs).1).map Pr.row).flatten → (∀ q ∈ p'.blk, H.size ≤ q) → Rd H' b D (rdPrs f n bad' xs).2.1 (rdPrs f n bad' xs).2.2 → Mod (fun q => q = b ∨ H.size ≤ q) H H' → state_ReadRows.k3 J0 ⟨b, 0, none⟩ p' H' Q) →
      state_ReadRows.l1 J0 ⟨b, 0, none⟩ H2 p n Q := by
    intro f
    induction f with
    | zero =>
      intro H2 p n bad' xs pre hbf hc hn rd oP hp m Q hQ
      have hbt : bad' = true := hbf.elim id fun h => by omega
      subst hbt
      apply state_ReadRows.l1.step; unfold state_ReadRows.l1.body
      have fin := hQ H2 p (by simpa [rdPrs] using oP) hp rd m
      exact Br.mk (fun _ => rd_bad rd (Br.no rfl fin)) fun _ => fin
    | succ f ih =>
      intro H2 p n bad' xs pre hbf hc hn rd oP hp m Q hQ
      apply state_ReadRows.l1.step; unfold state_ReadRows.l1.body
      by_cases hgo : n > 0 ∧ bad' = false
      rotate_left
      · have e : rdPrs (f + 1) n bad' xs = ([], bad', xs) := by unfold rdPrs; rw [if_neg hgo]
        rw [e] at hQ
        have fin := hQ H2 p (by simpa using oP) hp rd m
        refine Br.mk (fun hp => rd_bad rd (Br.no ?_ fin)) fun _ => fin
        have : n > 0 := of_decide_eq_true hp
        cases bad' with
        | true => rfl
        | false => exact (hgo ⟨this, rfl⟩).elim
      obtain ⟨hpos, rfl⟩ := hgo
      have e : rdPrs (f + 1) n false xs = ((rdPr xs).1 :: (rdPrs f (n - 1) (rdPr xs).2.1 (rdPr xs).2.2).1, (rdPrs f (n - 1) (rdPr xs).2.1 (rdPr xs).2.2).2) := by rw [rdPrs]; rw [if_pos ⟨hpos, rfl⟩]
      rw [e] at hQ hc
      rw [List.length_cons] at hc
      refine Br.yes (decide_eq_true hpos) (rd_bad rd (Br.yes rfl ?_))
      apply state_ReadRows.k1.step; unfold state_ReadRows.k1.body
      have mb : ∀ {H3 H4 : Hp}, Mod (· = b) H3 H4 → Mod (fun q => q = b ∨ H.size ≤ q) H3 H4 := fun m => m.mono fun _ _ h => Or.inl h
      refine rd_text rd fun H3 m3 rd3 => fun H4 e4 => ?_
      obtain ⟨m4, _⟩ := hole_facts e4
      refine rd_text (rd3.keep m4 (fun e => e) fun _ _ e => e) fun H5 m5 rd5 => ?_
      refine rd_byte rd5 fun H6 m6 rd6 => ?_
      have m26 : Mod (· = b) H2 H6 := m3.trans ((m4.mono fun _ _ e => e.elim).trans (m5.trans m6))
      have oP6 := oP.keep m26 fun q hq e => by have := hp q hq; have e : q = b := e; omega
      have z26 := m26.size
      have zm := m.size
      have hpl := rows_len' (by omega) Pr.row_len (Own.rows oP)
      have good : (rdPr xs).2.1 = false → (rdPr xs).2.2.length + 17 ≤ xs.length := rdPr_good
      have k2 : state_ReadRows.k2 J0 ⟨b, 0, none⟩ p n (rdPr xs).1.value H6 (rdByte (rdText (rdText false xs).2.1 (rdText false xs).2.2).2.1 (rdText (rdText false xs).2.1 (rdText false xs).2.2).2.2).1 (rdPr xs).1.key Q := by
        apply state_ReadRows.k2.step; unfold state_ReadRows.k2.body
        refine addEl (p := (rdPr xs).1.row) elPair oP6 rfl rfl (by omega) fun ys H8 o8 b8 m8 => ?_
        have hw : w64 (n - 1) = n - 1 := w64_id (by omega) (by omega)
        rw [hw]
        refine ih H8 ys (n - 1) (rdPr xs).2.1 (rdPr xs).2.2 (pre ++ [(rdPr xs).1]) ?_ (by rw [List.length_append, List.length_singleton]; omega) (by omega) (rd6.keep m8 (fun hq => by have := hp b hq; omega) fun g hg hq => by have := hD g hg; have := hp g hq; omega)
          (by rw [List.map_append, List.flatten_append]; simpa using o8) (fun q hq => (b8 q hq).elim (hp q) fun h => by omega)
          (m.trans ((mb m26).trans (m8.mono fun q _ h => Or.inr (hp q h)))) Q fun H' p' oP' hp' rd' m' => hQ H' p' (by simpa [List.append_assoc] using oP') hp' rd' m'
        · cases hb' : (rdPr xs).2.1 with
          | true => exact Or.inl rfl
          | false => have := good hb'; exact Or.inr (by rcases hbf with h | h; cases h; omega)
      refine Br.mk (fun hc1 => ?_) (fun hc1 => ?_)
      · have e : (rdPr xs).1.key = ByteArray.mk #[] := by show (if _ then _ else _) = _; rw [if_pos (of_decide_eq_true hc1)]
        rw [e] at k2; exact k2
      · have e : (rdPr xs).1.key = ⟨(rdText false xs).1.toArray⟩ := by show (if _ then _ else _) = _; rw [if_neg (of_decide_eq_false hc1)]
        rw [e] at k2; exact k2
  refine rd_num h fun H1 m1 rd1 => ?_
  have b1 := rdNum_bd bad bs
  have l1 := rdNum_le bad bs
  refine loop1 (bs.length + 1) H1 ⟨none, 0, 0⟩ (rdNum bad bs).1 (rdNum bad bs).2.1 (rdNum bad bs).2.2 [] (Or.inr (by omega)) (by simpa [rdRows, rdRowsP] using hl.1) b1.2 rd1 (by simpa using Own.nil H1 T_api_Pair 3) (by simp [Sl.blk]) (m1.mono fun _ _ h => Or.inl h) _ fun H2 p' oP hp rd2 m2 => ?_
  rw [List.nil_append] at oP
  apply state_ReadRows.k3.step; unfold state_ReadRows.k3.body
  refine rd_num rd2 fun H3 m3 rd3 => ?_
  have oP3 := oP.keep m3 fun q hq e => by have := hp q hq; have e : q = b := e; omega
  have b3 := rdNum_bd (rdPrs (bs.length + 1) (rdNum bad bs).1 (rdNum bad bs).2.1 (rdNum bad bs).2.2).2.1 (rdPrs (bs.length + 1) (rdNum bad bs).1 (rdNum bad bs).2.1 (rdNum bad bs).2.2).2.2
  have l3 := rdNum_le (rdPrs (bs.length + 1) (rdNum bad bs).1 (rdNum bad bs).2.1 (rdNum bad bs).2.2).2.1 (rdPrs (bs.length + 1) (rdNum bad bs).1 (rdNum bad bs).2.1 (rdNum bad bs).2.2).2.2
  have l2 : (rdPrs (bs.length + 1) (rdNum bad bs).1 (rdNum bad bs).2.1 (rdNum bad bs).2.2).2.2.length ≤ bs.length := Nat.le_trans (rdPrs_le _ _ _ _) l1
  have lP := oP3.lt
  refine loop2 p' (rdPrs (bs.length + 1) (rdNum bad bs).1 (rdNum bad bs).2.1 (rdNum bad bs).2.2).1 H3.size (fun q hq => ⟨hp q hq, lP q hq⟩) (Nat.le_trans m2.size m3.size) (bs.length + 1) H3 ⟨none, 0, 0⟩ _ _ _ [] (Nat.le_refl _) (Or.inr (by omega)) (by simpa [rdRows, rdRowsP, rdRowsS] using hl.2) b3.2 rd3 oP3
    (by simpa using Own.nil H3 T_api_Session 4) (by simp [Sl.blk]) (m2.trans (m3.mono fun _ _ h => Or.inl h)) _ (fun H' s' rr rd' m' => ?_)
  exact ⟨p', s', rfl, by rw [List.nil_append] at rr; exact rr, rd', m'.mono fun q hq h => h.elim id fun h => by omega⟩

/-- What is read of bytes. -/
structure RdSt where
  i : Int
  t : Int
  ps : List Pr
  xs : List Se
  ok : Bool
def rdSt (bs : List UInt8) : RdSt :=
  let a := rdNum false bs
  let b := rdNum a.2.1 a.2.2
  let q := rdRows b.2.1 b.2.2
  if !(!q.2.2.1 && q.2.2.2.isEmpty) then ⟨0, 0, [], [], false⟩
  else if ¬ RightM a.1 b.1 q.1 q.2.1 then ⟨0, 0, [], [], false⟩
  else if stB a.1 b.1 q.1 q.2.1 ≠ bs then ⟨0, 0, [], [], false⟩
  else ⟨a.1, b.1, q.1, q.2.1, true⟩
theorem rdSt_ok {bs : List UInt8} (h : (rdSt bs).ok = true) : RightM (rdSt bs).i (rdSt bs).t (rdSt bs).ps (rdSt bs).xs ∧ stB (rdSt bs).i (rdSt bs).t (rdSt bs).ps (rdSt bs).xs = bs := by
  unfold rdSt at h ⊢
  dsimp only at h ⊢
  split at h
  · cases h
  · split at h
    · cases h
    · split at h
      · cases h
      · rename_i h1 h2 h3
        rw [if_neg h1, if_neg h2, if_neg h3]
        exact ⟨Decidable.not_not.1 h2, Decidable.not_not.1 h3⟩
theorem rdSt_no {bs : List UInt8} (h : (rdSt bs).ok = false) : (rdSt bs).i = 0 ∧ (rdSt bs).t = 0 ∧ (rdSt bs).ps = [] ∧ (rdSt bs).xs = [] := by
  unfold rdSt at h ⊢
  dsimp only at h ⊢
  split at h
  · rename_i h1; rw [if_pos h1]; exact ⟨rfl, rfl, rfl, rfl⟩
  · split at h
    · rename_i h1 h2; rw [if_neg h1, if_pos h2]; exact ⟨rfl, rfl, rfl, rfl⟩
    · split at h
      · rename_i h1 h2 h3; rw [if_neg h1, if_neg h2, if_pos h3]; exact ⟨rfl, rfl, rfl, rfl⟩
      · cases h
theorem rdSt_of {i t : Int} {ps : List Pr} {xs : List Se} (hi : -9223372036854775808 ≤ i ∧ i ≤ 9223372036854775807) (ht : -9223372036854775808 ≤ t ∧ t ≤ 9223372036854775807) (hp : ∀ p ∈ ps, p.fits) (hs : ∀ p ∈ xs, p.fits) (hl : ps.length ≤ 1000000 ∧ xs.length ≤ 1000000) :
    rdSt (stB i t ps xs) = if RightM i t ps xs then ⟨i, t, ps, xs, true⟩ else ⟨0, 0, [], [], false⟩ := by
  have e := rdRows_of hp hs hl []
  rw [List.append_nil] at e
  have h1 : rdNum false (stB i t ps xs) = (i, false, be t 8 ++ rowsB ps xs) := rdNum_be hi.1 hi.2 _
  unfold rdSt
  rw [h1]
  dsimp only
  rw [rdNum_be ht.1 ht.2]
  dsimp only
  rw [e]
  by_cases hR : RightM i t ps xs
  · simp [hR]
  · simp [hR]

theorem Read_spec {x : Sl} {bs : List UInt8} (hr : Rows H x 1 (bs.map bv)) (hl : rdCnt bs) (hx : ∀ g ∈ x.blk, g < H.size) :
    SCalls Try.prog state_Read.id [.slice x.a x.len x.cap] H fun r H' => ∃ p s : Sl, r = .tuple #[.agg #[.int .i64 (rdSt bs).i, .int .i64 (rdSt bs).t, .slice p.a p.len p.cap, .slice s.a s.len s.cap], .bool (rdSt bs).ok] ∧ RR H' p s (rdSt bs).ps (rdSt bs).xs ∧ Mod (fun _ => False) H H' := by
  apply state_Read.calls
  intro H1 e1
  obtain ⟨m1, s1⟩ := hole_facts e1
  refine (Of_spec (D := x.blk) (hr.keep m1 fun _ _ e => e) (fun _ h => h) fun g hg => by have := hx g hg; omega).mono ?_
  rintro r H2 ⟨rfl, m2, rd2⟩
  have z2 := m2.size
  refine ⟨_, rfl, rd_num rd2 fun H3 m3 rd3 => fun H4 e4 => ?_⟩
  obtain ⟨m4, s4⟩ := hole_facts e4
  refine rd_num (rd3.keep m4 (fun e => e) fun _ _ e => e) fun H5 m5 rd5 => ?_
  have z3 := m3.size
  have z5 := m5.size
  have l1 := rdNum_le false bs
  have l2 := rdNum_le (rdNum false bs).2.1 (rdNum false bs).2.2
  refine (ReadRows_spec rd5 (fun g hg => by have := hx g hg; omega) hl).mono ?_
  rintro r H6 ⟨p, s, rfl, rr6, rd6, m6⟩
  refine ⟨p, s, rfl, (Reader_Done_spec rd6).mono ?_⟩
  rintro r H7 ⟨rfl, rfl⟩
  have mF : Mod (fun _ => False) H H7 := Mod.fresh (((m1.trans m2).mono fun _ _ e => e.elim).trans (m3.trans ((m4.mono fun _ _ e => e.elim).trans (m5.trans m6)))) fun g hg => by have hg : g = H1.size := hg; omega
  refine ⟨_, rfl, ?_⟩
  generalize ha : rdNum false bs = a at *
  generalize hb : rdNum a.2.1 a.2.2 = b at *
  generalize hq : rdRows b.2.1 b.2.2 = q at *
  have nil : ∀ H', RR H' ⟨none, 0, 0⟩ ⟨none, 0, 0⟩ [] [] := fun H' => ⟨⟨rfl, Nat.le_refl _, fun a ha => (by cases ha), fun _ => rfl⟩, ⟨rfl, Nat.le_refl _, fun a ha => (by cases ha), fun _ => rfl⟩⟩
  have none' : ∀ H' : Hp, rdSt bs = ⟨0, 0, [], [], false⟩ → Mod (fun _ => False) H H' → ∃ p s : Sl, (.tuple #[.agg #[.int .i64 0, .int .i64 0, .slice none 0 0, .slice none 0 0], .bool false] : Value) = .tuple #[.agg #[.int .i64 (rdSt bs).i, .int .i64 (rdSt bs).t, .slice p.a p.len p.cap, .slice s.a s.len s.cap], .bool (rdSt bs).ok] ∧ RR H' p s (rdSt bs).ps (rdSt bs).xs ∧ Mod (fun _ => False) H H' := by
    intro H' e m
    rw [e]
    exact ⟨⟨none, 0, 0⟩, ⟨none, 0, 0⟩, rfl, nil H', m⟩
  have eR : rdSt bs = if !(!q.2.2.1 && q.2.2.2.isEmpty) then ⟨0, 0, [], [], false⟩ else if ¬ RightM a.1 b.1 q.1 q.2.1 then ⟨0, 0, [], [], false⟩ else if stB a.1 b.1 q.1 q.2.1 ≠ bs then ⟨0, 0, [], [], false⟩ else ⟨a.1, b.1, q.1, q.2.1, true⟩ := by
    unfold rdSt; simp only [ha, hb, hq]
  refine Br.mk (fun h => ?_) (fun h => ?_)
  · rw [if_pos h] at eR
    exact ⟨⟨none' _ eR mF, none' _ eR mF⟩, none' _ eR mF⟩
  rw [if_neg (by rw [h]; simp)] at eR
  have lens := rr6.lens
  have cnt : q.1.length ≤ 90000 ∧ q.2.1.length ≤ 90000 := by have := hl; unfold rdCnt at this; simp only [ha, hb, hq] at this; exact this
  have hbl : p.len ≤ 9223372036854775807 ∧ s.len ≤ 9223372036854775807 := by omega
  refine bool_step (Right_spec (i := a.1) (t := b.1) rr6 hbl.1 hbl.2) (Mod.refl _ _) fun H8 m78 => ?_
  have m8 := mF.trans m78
  by_cases hR : RightM a.1 b.1 q.1 q.2.1
  rotate_left
  · rw [if_pos hR] at eR
    rw [decide_eq_false hR]
    exact Br.yes rfl ⟨⟨none' _ eR m8, none' _ eR m8⟩, none' _ eR m8⟩
  rw [if_neg (by simpa using hR)] at eR
  rw [decide_eq_true hR]
  have hlen := hR.len
  have hB : (stB a.1 b.1 q.1 q.2.1).length ≤ 140737488355328 := by omega
  have fin : ∀ H' : Hp, Mod (fun _ => False) H H' → RR H' p s q.1 q.2.1 → ∀ u v : List UInt8, u = stB a.1 b.1 q.1 q.2.1 → v = bs → Br (!((ByteArray.mk u.toArray).toList == (ByteArray.mk v.toArray).toList))
      (∃ p s : Sl, (.tuple #[.agg #[.int .i64 0, .int .i64 0, .slice none 0 0, .slice none 0 0], .bool false] : Value) = .tuple #[.agg #[.int .i64 (rdSt bs).i, .int .i64 (rdSt bs).t, .slice p.a p.len p.cap, .slice s.a s.len s.cap], .bool (rdSt bs).ok] ∧ RR H' p s (rdSt bs).ps (rdSt bs).xs ∧ Mod (fun _ => False) H H')
      (∃ p' s' : Sl, (.tuple #[.agg #[.int .i64 a.1, .int .i64 b.1, .slice p.a p.len p.cap, .slice s.a s.len s.cap], .bool true] : Value) = .tuple #[.agg #[.int .i64 (rdSt bs).i, .int .i64 (rdSt bs).t, .slice p'.a p'.len p'.cap, .slice s'.a s'.len s'.cap], .bool (rdSt bs).ok] ∧ RR H' p' s' (rdSt bs).ps (rdSt bs).xs ∧ Mod (fun _ => False) H H') := by
    intro H' m rr u v hu hv
    subst hu
    rw [hv, same_bytes]
    refine Br.mk (fun h => ?_) (fun h => ?_)
    · have hne : stB a.1 b.1 q.1 q.2.1 ≠ bs := by simpa using h
      rw [if_pos hne] at eR
      exact none' _ eR m
    · have he : stB a.1 b.1 q.1 q.2.1 = bs := by simpa using h
      rw [if_neg (by simpa using he)] at eR
      rw [eR]
      exact ⟨p, s, rfl, rr, m⟩
  have rr8 : RR H8 p s q.1 q.2.1 := rr6.mod m78
  have hr8 := hr.keep m8 fun _ _ e => e
  refine Br.no rfl ⟨(Bytes_spec rr8 hB).mono ?_, b2s_imp (b2s_rows hr8 rfl) ?_⟩
  · rintro r H9 ⟨x7, rfl, o9, m9, _⟩
    have rr9 := rr8.mod m9
    have m09 := m8.trans m9
    refine ⟨x7, rfl, b2s_imp (bytes_str o9) ?_, b2s_imp (b2s_rows (hr.keep m09 fun _ _ e => e) rfl) ?_⟩
    · rintro _ rfl
      refine b2s_imp (b2s_rows (hr.keep m09 fun _ _ e => e) rfl) ?_
      rintro _ rfl
      exact fin H9 m09 rr9 _ _ rfl rfl
    · rintro _ rfl
      refine b2s_imp (bytes_str o9) ?_
      rintro _ rfl
      exact fin H9 m09 rr9 _ _ rfl rfl
  · rintro _ rfl
    refine (Bytes_spec rr8 hB).mono ?_
    rintro r H9 ⟨x7, rfl, o9, m9, _⟩
    refine ⟨x7, rfl, b2s_imp (bytes_str o9) ?_⟩
    rintro _ rfl
    exact fin H9 (m8.trans m9) (rr8.mod m9) _ _ rfl rfl
end
end Go.Proofs
