/- STATES: StateRead. -/
import Derived.Test.YtgndfbbgomlbeaaKu14
import Derived.Test.YtgndfbbgomlbeaaKu9
set_option linter.all false
set_option linter.constructorNameAsVariable false
namespace Go.Proofs
open Go Go.KC

theorem tmodNat (n k : Nat) : Int.tmod (n : Int) (k : Int) = ((n % k : Nat) : Int) := rfl
theorem app_bytes {H : Hp} {x : Sl} {xs ys : List UInt8} {src : Value} {K : Sl → Hp → Prop} (h : Own H x T_uint8 1 (xs.map bv)) (hs : SrcAt H 1 (srcLen src) src (ys.map bv)) (hl : ys.length = srcLen src) (hb : xs.length + ys.length ≤ 140737488355328)
    (hK : ∀ x' H', Own H' x' T_uint8 1 ((xs ++ ys).map bv) → Mod (· ∈ x.blk) H H' → (∀ b ∈ x'.blk, b ∈ x.blk ∨ b = H.size) → K x' H') :
    vApp Try.prog T_sl_uint8 x.a x.len x.cap src H K := by
  obtain ⟨ti, hi, hz, hsz, hby⟩ := u8_info
  have hlen : xs.length = x.len := by have := h.1; simpa using this
  refine Own.app (e := T_uint8) (ti := ti) (z := .int .u8 0) (cs := xs.map bv) (news := ys.map bv) (by rw [hsz]; exact h) und_bytes hi hz (by rw [hsz]; rfl) (by omega) (by rw [hsz]; exact hs) (by simp [hsz, hl]) (allOne_bv ys) (by rw [hby]; omega) ?_
  intro x' H2 ho hxl hmod hblk _
  rw [hsz, ← List.map_append] at ho
  exact hK x' H2 ho hmod hblk

theorem src_keep {m : Nat → Prop} {H H' : Hp} {k n : Nat} {a : Addr} {l c : Nat} {cs : List Value} (h : SrcAt H k n (.slice (some a) l c) cs) (hm : Mod m H H') (ha : ¬ m a.block) : SrcAt H' k n (.slice (some a) l c) cs :=
  ⟨h.1, rowAt_keep h.2 hm ha⟩

theorem bxor_u8 (a b : Int) : ∃ c : UInt8, bxor .u8 a b = (c.toNat : Int) := by
  have h : ∃ z : Int, bxor .u8 a b = IntKind.u8.wrap z := ⟨_, rfl⟩
  obtain ⟨z, hz⟩ := h
  refine ⟨UInt8.ofNat (z % 256).toNat, ?_⟩
  have h1 : 0 ≤ z % 256 := Int.emod_nonneg _ (by omega)
  have h2 : z % 256 < 256 := Int.emod_lt_of_pos _ (by omega)
  have h3 : (z % 256).toNat < UInt8.size := by show _ < 256; omega
  rw [hz, wrapu8, UInt8.toNat_ofNat_of_lt' h3]
  omega

theorem cell_keep {H7 H : Hp} {a : Addr} {v : Value} (h : Hp.cell? H7 a = some v) (hm : Mod (fun _ => False) H7 H) : Hp.cell? H a = some v := by
  unfold Hp.cell? at h ⊢
  cases hg : H7[a.block]? with
  | none => rw [hg] at h; cases h
  | some o => rw [hm.get hg fun e => e]; rw [hg] at h; exact h

section
variable {b : Nat} {Q : Value → Hp → Prop} {sl : Nat → Sl} {L : Nat → List UInt8} {H7 : Hp}
theorem SD_l1 (hc : ∀ i, i < 4 → Hp.cell? H7 ⟨b, i, none⟩ = some (.slice (sl i).a (sl i).len (sl i).cap)) (hr : ∀ i, i < 4 → Rows H7 (sl i) 1 ((L i).map bv) ∧ (∀ g ∈ (sl i).blk, g < H7.size) ∧ (L i).length ≤ 1500000)
    (hQ : ∀ H', Mod (fun _ => False) H7 H' → Q (.bool true) H') :
    ∀ (d j : Nat) (H : Hp), j + d = 4 → Mod (fun _ => False) H7 H → tephralaw07_StateRead.l1 J0 ⟨some ⟨b, 0, none⟩, 4, 4⟩ H (j : Int) Q := by
  intro d
  induction d with
  | zero =>
    intro j H hj hm
    apply tephralaw07_StateRead.l1.step; unfold tephralaw07_StateRead.l1.body
    exact Br.no (by simp; omega) (hQ H hm)
  | succ d ih =>
    intro j H hj hm
    apply tephralaw07_StateRead.l1.step; unfold tephralaw07_StateRead.l1.body
    obtain ⟨h1, h2, h3⟩ := hr j (by omega)
    have hn : ∀ H', Mod (fun _ => False) H7 H' → tephralaw07_StateRead.l1 J0 ⟨some ⟨b, 0, none⟩, 4, 4⟩ H' (w64 ((j : Int) + 1)) Q := by
      intro H' m'
      rw [w64_id (x := (j : Int) + 1) (by omega) (by omega)]
      have := ih (j + 1) H' (by omega) m'
      simpa using this
    refine Br.yes (by simp; omega) ⟨⟨by omega, by simp; omega⟩, vPtr.mk _ rfl ⟨sl j, ?_, (Read_spec (h1.keep hm fun _ _ e => e) (rdCnt_small h3) fun g hg => Nat.lt_of_lt_of_le (h2 g hg) hm.size).mono ?_⟩⟩
    · have e : (j : Int).toNat * 1 = j := by omega
      rw [e, Addr.add_loc, Nat.zero_add]
      exact cell_keep (hc j (by omega)) hm
    rintro r H1 ⟨p, s, rfl, rr, m1⟩
    have m1' := hm.trans m1
    have hok := rdSt_ok (bs := L j)
    have hno := rdSt_no (bs := L j)
    generalize rdSt (L j) = q at hok hno rr
    refine ⟨_, _, p, s, _, rfl, fun H2 e2 => ?_⟩
    obtain ⟨m2, _⟩ := hole_facts e2
    have m2' := m1'.trans m2
    have rr2 := rr.mod m2
    have lens := rr2.lens
    cases hp : q.ok with
    | true =>
      obtain ⟨g1, g2⟩ := hok hp
      have hlen : (stB q.i q.t q.ps q.xs).length ≤ 1500000 := by rw [g2]; exact h3
      have hcnt : p.len ≤ 1500000 ∧ s.len ≤ 1500000 := by
        have c1 := prsB_ge q.ps
        have c2 := sesB_ge q.xs
        unfold stB at hlen
        simp only [List.length_append, be_length, rowsB_len] at hlen
        omega
      refine Br.yes rfl (bool_step (law_Right_spec (i := q.i) (t := q.t) rr2 (by omega) (by omega)) (Mod.refl _ _) fun H3 m3 => ?_)
      rw [decide_eq_true g1]
      have m3' := m2'.trans m3
      have rr3 := rr2.mod m3
      refine Br.no rfl ⟨?_, ?_⟩
      · refine (lawbytes_spec rr3 (by omega)).mono ?_
        rintro r H4 ⟨rfl, m4⟩
        refine ⟨_, rfl, b2s_imp (b2s_rows (h1.keep (m3'.trans m4) fun _ _ e => e) rfl) ?_⟩
        rintro _ rfl
        rw [g2]
        exact Br.no (by rw [beq_self_eq_true]; rfl) (Br.no rfl (hn H4 (m3'.trans m4)))
      · refine b2s_imp (b2s_rows (h1.keep m3' fun _ _ e => e) rfl) ?_
        rintro _ rfl
        refine (lawbytes_spec rr3 (by omega)).mono ?_
        rintro r H4 ⟨rfl, m4⟩
        refine ⟨_, rfl, ?_⟩
        rw [g2]
        exact Br.no (by rw [beq_self_eq_true]; rfl) (Br.no rfl (hn H4 (m3'.trans m4)))
    | false =>
      obtain ⟨z1, z2, z3, z4⟩ := hno hp
      rw [z3, z4] at lens
      have l1 : p.len = 0 := lens.1.symm
      have l2 : s.len = 0 := lens.2.symm
      rw [z1, l1, l2]
      exact Br.no rfl ⟨Br.yes rfl (Br.no rfl (Br.no rfl (Br.no rfl (hn _ m2')))), Br.yes rfl (Br.no rfl (Br.no rfl (Br.no rfl (hn _ m2'))))⟩
end

section
variable {H : Hp}
theorem StateRead_spec {says raw : Sl} {ss : List Sy} {rs : List UInt8} {c : UInt16} {b : UInt8} (hsr : Rows H says 6 (ss.map Sy.cells).flatten) (hsl : ss.length = says.len) (hraw : Rows H raw 1 (rs.map bv)) (hrlt : ∀ g ∈ raw.blk, g < H.size) (hsm : rs.length ≤ 1048576) :
    SCalls Try.prog tephralaw07_StateRead.id [.slice says.a says.len says.cap, .int .u16 (c.toNat : Int), .int .u8 (b.toNat : Int), .slice raw.a raw.len raw.cap] H (trueQ H) := by
  apply tephralaw07_StateRead.calls
  unfold tephralaw07_StateRead.vc
  have hc : c.toNat < 65536 := UInt16.toNat_lt _
  have wc : w64 (c.toNat : Int) = (c.toNat : Int) := w64_id (by omega) (by omega)
  rw [wc]
  refine bool_step (H0 := H) awake07_spec (Mod.refl _ _) fun H1 m1 => Br.no rfl ?_
  refine some_step (hsr.keep m1 fun _ _ e => e) hsl fun p s H2 sr m2 => ?_
  have ok := someM_ok ss
  generalize someM ss = st at sr ok
  have hxs := Stt.bytes_le ok
  have hxs32 : 32 ≤ st.bytes.length := by unfold Stt.bytes stB; simp only [List.length_append, be_length, rowsB_len]; omega
  have hsb : stB st.index st.term st.pairs st.sess = st.bytes := rfl
  refine (Bytes_spec (i := st.index) (t := st.term) sr.rr (by rw [hsb]; omega)).mono ?_
  rw [hsb]
  generalize st.bytes = xs at hxs hxs32
  rintro r H3 ⟨x, rfl, ho, m3, hx⟩
  have hxl : xs.length = x.len := by have := ho.1; simpa using this
  refine ⟨x, rfl, ?_⟩
  have F2 : Fresh H H2 := (show Fresh H H from Mod.refl _ _).step (m1.trans m2) fun _ h => h.elim
  have F3 : Fresh H H3 := F2.step m3 fun _ h => h.elim
  have s2 := F2.size
  have s3 := F3.size
  have hxH : ∀ g ∈ x.blk, H.size ≤ g := fun g hg => Nat.le_trans s2 (hx g hg)
  have hxlt := Own.lt ho
  refine app_bytes (x := ⟨none, 0, 0⟩) (xs := []) (ys := xs) (Own.nil _ _ _) (Own.src ho) (by simp [srcLen, hxl]) (by simp; omega) ?_
  intro ap H4 hap hmap hapb
  rw [List.nil_append] at hap
  have m4 : Mod (fun _ => False) H3 H4 := hmap.mono fun g _ hg => by simp [Sl.blk] at hg
  have hapn : ∀ g ∈ ap.blk, g = H3.size := fun g hg => (hapb g hg).elim (fun h => by simp [Sl.blk] at h) id
  have F4 : Fresh H H4 := F3.step m4 fun _ h => h.elim
  have hapl : ap.len = x.len := by have := hap.1; simp at this; omega
  have hapc := hap.2.1
  have ho4 := Own.keep ho m4 (fun _ _ e => e)
  have hxc := ho.2.1
  have hk : c.toNat % x.len < x.len := Nat.mod_lt _ (by omega)
  rw [hapl, tmodNat]
  simp only [Int.toNat_natCast]
  generalize c.toNat % x.len = k at hk ⊢
  have hkx : k < xs.length := by omega
  obtain ⟨a, ha, hcell⟩ := (Own.rows hap).at (j := k) (c := xs[k]) (List.getElem?_eq_getElem hkx)
  obtain ⟨v, hv⟩ := bxor_u8 (xs[k].toNat : Int) (b.toNat : Int)
  obtain ⟨a', ha', hw, hput, mput⟩ := own_put (new := [bv v]) hap (show k < ap.len by omega) rfl (by omega)
  rw [ha] at ha'
  cases ha'
  have hset : (xs.map bv).take (k * 1) ++ [bv v] ++ (xs.map bv).drop (k * 1 + 1) = (xs.set k v).map bv := by
    rw [Nat.mul_one, ← List.map_take, ← List.map_drop, List.set_eq_take_append_cons_drop, if_pos hkx]
    simp
  rw [hset] at hput
  have F5 := F4.step mput fun g hg => by have := hapn g hg; omega
  have ho5 := Own.keep ho4 mput fun g hg e => by have := hapn g e; have := hxlt g hg; omega
  have e5 : Hp.setCells H4 (a.add (k * 1)) [bv v] 0 = Hp.setCell H4 (a.add (k * 1)) (.int .u8 (v.toNat : Int)) := by
    show Hp.setCell H4 ((a.add (k * 1)).add 0) _ = _
    rw [add_zero_of]; rfl
  rw [e5] at F5 ho5 hput
  refine ⟨by omega, ⟨by omega, by omega⟩, vPtr.mk a ha ⟨_, by rw [Nat.mul_one]; exact hcell, ⟨by omega, by omega⟩, vPtr.mk a ha ⟨hw, fun H5 e5' => ⟨by omega, ⟨by omega, by omega⟩, ?_⟩⟩⟩⟩
  rw [hv] at e5'
  rw [← e5'] at F5 ho5 hput
  clear e5 e5'
  have s5 := F5.size
  have hcut : ∀ (H' : Hp), Mod (fun _ => False) H5 H' → Rows H' ⟨cutA x.a x.cap 0 1, k, x.cap⟩ 1 ((xs.take k).map bv) := by
    intro H' m'
    have := ((Own.rows ho5).keep m' fun _ _ e => e).take (n := k) (by omega)
    rw [Nat.mul_one, ← List.map_take] at this
    exact this
  have hput2 : Own H5 ⟨ap.a, x.len, ap.cap⟩ T_uint8 1 ((xs.set k v).map bv) := by rw [← hapl]; exact hput
  have hlx : ∀ g ∈ x.blk, g < H5.size := Own.lt ho5
  have hla : ∀ g ∈ ap.blk, g < H5.size := Own.lt hput
  have hlr : ∀ g ∈ raw.blk, g < H5.size := fun g hg => Nat.lt_of_lt_of_le (hrlt g hg) s5
  -- the four, and what is so of each
  have all : ∀ (H7 H8 : Hp) (b1 : Nat) (a2 : Sl), Mod (fun _ => False) H5 H7 → Own H7 a2 T_uint8 1 ((xs ++ [b]).map bv) → b1 = Array.size H7 → H8 = (Array.push H7 (.cells #[.slice raw.a raw.len raw.cap, .slice ap.a x.len ap.cap, .slice (cutA x.a x.cap 0 1) k x.cap, .slice a2.a a2.len a2.cap] T_sl_uint8)) →
      tephralaw07_StateRead.k1 J0 ⟨some ⟨b1, 0, none⟩, 4, 4⟩ H8 (trueQ H) := by
    rintro H7 H8 b1 a2 m57 hoa2 rfl e8
    apply tephralaw07_StateRead.k1.step; unfold tephralaw07_StateRead.k1.body
    obtain ⟨q8, m8, _⟩ := push_facts e8
    have m58 := m57.trans m8
    have s8 := m58.size
    have F8 := F5.step m58 fun _ h => h.elim
    refine SD_l1 (Q := trueQ H) (sl := fun i => match i with | 0 => raw | 1 => ⟨ap.a, x.len, ap.cap⟩ | 2 => ⟨cutA x.a x.cap 0 1, k, x.cap⟩ | _ => a2) (L := fun i => match i with | 0 => rs | 1 => xs.set k v | 2 => xs.take k | _ => xs ++ [b]) (fun i hi => ?_) (fun i hi => ?_) (fun H' m' => ⟨rfl, (F8.step m' fun _ h => h.elim).mod⟩) 4 0 _ (by omega) (Mod.refl _ _)
    · rw [cell_of q8]
      rcases (by omega : i = 0 ∨ i = 1 ∨ i = 2 ∨ i = 3) with rfl | rfl | rfl | rfl <;> rfl
    · rcases (by omega : i = 0 ∨ i = 1 ∨ i = 2 ∨ i = 3) with rfl | rfl | rfl | rfl
      · exact ⟨F8.rows hraw, fun g hg => Nat.lt_of_lt_of_le (hlr g hg) s8, by show rs.length ≤ _; omega⟩
      · exact ⟨(Own.rows hput2).keep m58 fun _ _ e => e, fun g hg => Nat.lt_of_lt_of_le (hla g hg) s8, by show (xs.set k v).length ≤ _; rw [List.length_set]; omega⟩
      · exact ⟨hcut _ m58, fun g hg => Nat.lt_of_lt_of_le (hlx g (cutA_blk x _ _ _ _ _ g hg)) s8, by show (xs.take k).length ≤ _; rw [List.length_take]; omega⟩
      · exact ⟨(Own.rows hoa2).keep m8 fun _ _ e => e, fun g hg => Nat.lt_of_lt_of_le (Own.lt hoa2 g hg) m8.size, by show (xs ++ [b]).length ≤ _; rw [List.length_append]; simp; omega⟩
  refine ⟨?_, fun b2 hb2 H10 e10 => ?_⟩
  · refine app_bytes (x := ⟨none, 0, 0⟩) (xs := []) (ys := xs) (Own.nil _ _ _) (Own.src ho5) (by simp [srcLen, hxl]) (by simp; omega) ?_
    intro a1 H6 hoa1 hma1 hb1
    rw [List.nil_append] at hoa1
    have m6 : Mod (fun _ => False) H5 H6 := hma1.mono fun g _ hg => by simp [Sl.blk] at hg
    have hn1 : ∀ g ∈ a1.blk, H5.size ≤ g := fun g hg => (hb1 g hg).elim (fun h => by simp [Sl.blk] at h) fun h => by omega
    rintro b0 rfl H7 rfl
    have mp : Mod (fun _ => False) H6 (Array.push H6 (.cells #[.int .u8 (b.toNat : Int)] T_uint8)) := Mod.push _ _ _
    refine app_bytes (xs := xs) (ys := [b]) (Own.keep hoa1 mp fun _ _ e => e) src_byte rfl (by simp; omega) ?_
    intro a2 H7 hoa2 hma2 _
    have m7 : Mod (· ∈ a1.blk) H6 H7 := (mp.mono fun _ _ e => e.elim).trans hma2
    have m57 : Mod (fun _ => False) H5 H7 := (m6.trans' m7 fun g hg hg1 => by have := hn1 g hg1; omega)
    intro b1 hb1 H9 e9
    exact all H7 H9 b1 a2 m57 hoa2 hb1 e9
  · subst hb2; subst e10
    have mp : Mod (fun _ => False) H5 (Array.push H5 (.cells #[.int .u8 (b.toNat : Int)] T_uint8)) := Mod.push _ _ _
    refine app_bytes (x := ⟨none, 0, 0⟩) (xs := []) (ys := xs) (Own.nil _ _ _) (Own.src (Own.keep ho5 mp fun _ _ e => e)) (by simp [srcLen, hxl]) (by simp; omega) ?_
    intro a1 H6 hoa1 hma1 hb1
    rw [List.nil_append] at hoa1
    have m6' : Mod (fun _ => False) (Array.push H5 (.cells #[.int .u8 (b.toNat : Int)] T_uint8)) H6 := hma1.mono fun g _ hg => by simp [Sl.blk] at hg
    have m6 := mp.trans m6'
    have sp := mp.size
    have hn1 : ∀ g ∈ a1.blk, H5.size ≤ g := fun g hg => (hb1 g hg).elim (fun h => by simp [Sl.blk] at h) fun h => by omega
    refine app_bytes (xs := xs) (ys := [b]) hoa1 (src_keep src_byte m6' fun e => e) rfl (by simp; omega) ?_
    intro a2 H7 hoa2 hma2 _
    have m57 : Mod (fun _ => False) H5 H7 := (m6.trans' hma2 fun g hg hg1 => by have := hn1 g hg1; omega)
    intro b1 hb1 H9 e9
    exact all H7 H9 b1 a2 m57 hoa2 hb1 e9
end
end Go.Proofs
