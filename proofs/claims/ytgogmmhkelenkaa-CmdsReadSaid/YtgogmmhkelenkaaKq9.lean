/- LAYER 06: CmdsRead, the walk. -/
import Derived.Test.YtgogmmhkelenkaaKq8
set_option linter.all false
set_option linter.constructorNameAsVariable false
namespace Go.Proofs
open Go Go.KC

theorem app_bytes {H : Hp} {x : Sl} {xs ys : List UInt8} {src : Value} {K : Sl → Hp → Prop} (h : Own H x T_uint8 1 (xs.map bv)) (hs : SrcAt H 1 (srcLen src) src (ys.map bv)) (hl : ys.length = srcLen src) (hb : xs.length + ys.length ≤ 140737488355328)
    (hK : ∀ x' H', Own H' x' T_uint8 1 ((xs ++ ys).map bv) → Mod (· ∈ x.blk) H H' → (∀ b ∈ x'.blk, b ∈ x.blk ∨ b = H.size) → K x' H') :
    vApp Try.prog T_sl_uint8 x.a x.len x.cap src H K := by
  obtain ⟨ti, hi, hz, hsz, hby⟩ := u8_info
  have hlen : xs.length = x.len := by have := h.1; simpa using this
  refine Own.app (e := T_uint8) (ti := ti) (z := .int .u8 0) (cs := xs.map bv) (news := ys.map bv) (by rw [hsz]; exact h) und_bytes hi hz (by rw [hsz]; rfl) (by omega) (by rw [hsz]; exact hs) (by simp [hsz, hl]) (allOne_bv ys) (by rw [hby]; omega) ?_
  intro x' H2 ho hxl hmod hblk _
  rw [hsz, ← List.map_append] at ho
  exact hK x' H2 ho hmod hblk

theorem src_keep {m : Nat → Prop} {H H' : Hp} {k n : Nat} {a : Addr} {l c : Nat} {cs : List Value} (h : SrcAt H k n (.slice (some a) l c) cs) (hm : Mod m H H') (ha : ¬ m a.block) : SrcAt H' k n (.slice (some a) l c) cs :=
  ⟨h.1, rowAt_keep h.2 hm ha⟩

theorem bxor_u8 (a b : Int) : ∃ c : UInt8, bxor .u8 a b = (c.toNat : Int) := by
  have h : ∃ z : Int, bxor .u8 a b = IntKind.u8.wrap z := ⟨_, rfl⟩
  obtain ⟨z, hz⟩ := h
  refine ⟨UInt8.ofNat (z % 256).toNat, ?_⟩
  have h1 : 0 ≤ z % 256 := Int.emod_nonneg _ (by omega)
  have h2 : z % 256 < 256 := Int.emod_lt_of_pos _ (by omega)
  have h3 : (z % 256).toNat < UInt8.size := by show _ < 256; omega
  rw [hz, wrapu8, UInt8.toNat_ofNat_of_lt' h3]
  omega

section
variable {s : Sy} {H6 : Hp} {Q : Value → Hp → Prop} {sl : Nat → Sl} {L : Nat → List UInt8} {H7 : Hp}

theorem cell_keep {H7 H : Hp} {a : Addr} {v : Value} (h : Hp.cell? H7 a = some v) (hm : Mod (fun _ => False) H7 H) : Hp.cell? H a = some v := by
  unfold Hp.cell? at h ⊢
  cases hg : H7[a.block]? with
  | none => rw [hg] at h; cases h
  | some o => rw [hm.get hg fun e => e]; rw [hg] at h; exact h

theorem CD_l1 (hc : ∀ i, i < 4 → Hp.cell? H7 ⟨H6.size, i, none⟩ = some (.slice (sl i).a (sl i).len (sl i).cap)) (hr : ∀ i, i < 4 → Rows H7 (sl i) 1 ((L i).map bv) ∧ (∀ g ∈ (sl i).blk, g < H7.size))
    (hQ : ∀ H', Mod (fun _ => False) H7 H' → Q (.bool true) H') :
    ∀ (d j : Nat) (H : Hp), j + d = 4 → Mod (fun _ => False) H7 H → tephralaw06_CmdsRead.l1 J0 (s.op.toNat : Int) (s.client.toNat : Int) (s.seq.toNat : Int) (s.key.toNat : Int) (s.value.toNat : Int) (s.old.toNat : Int) H6 H (j : Int) Q := by
  intro d
  induction d with
  | zero =>
    intro j H hj hm
    apply tephralaw06_CmdsRead.l1.step; unfold tephralaw06_CmdsRead.l1.body
    exact Br.no (by simp; omega) (hQ H hm)
  | succ d ih =>
    intro j H hj hm
    apply tephralaw06_CmdsRead.l1.step; unfold tephralaw06_CmdsRead.l1.body
    obtain ⟨h1, h2⟩ := hr j (by omega)
    have hn : ∀ H', Mod (fun _ => False) H7 H' → tephralaw06_CmdsRead.l1 J0 (s.op.toNat : Int) (s.client.toNat : Int) (s.seq.toNat : Int) (s.key.toNat : Int) (s.value.toNat : Int) (s.old.toNat : Int) H6 H' (w64 ((j : Int) + 1)) Q := by
      intro H' m'
      rw [w64_id (x := (j : Int) + 1) (by omega) (by omega)]
      have := ih (j + 1) H' (by omega) m'
      simpa using this
    refine Br.yes (by simp; omega) ⟨⟨by omega, by omega⟩, sl j, ?_, (Read_spec (h1.keep hm fun _ _ e => e) fun g hg => Nat.lt_of_lt_of_le (h2 g hg) hm.size).mono ?_⟩
    · have e : (j : Int).toNat * 1 = j := by omega
      rw [e, Addr.add_loc, Nat.zero_add]
      exact cell_keep (hc j (by omega)) hm
    rintro r H1 ⟨rfl, m1⟩
    have m1' := hm.trans m1
    have hok := rdEn_ok (xs := L j)
    have hno := rdEn_not (xs := L j)
    generalize rdEn (L j) = p at hok hno
    refine ⟨_, _, _, _, _, _, _, _, _, rfl, ?_⟩
    cases hp : p.2 with
    | true =>
      obtain ⟨g1, g2⟩ := hok hp
      refine Br.yes rfl (bool_step (law_right_spec (e := p.1)) (moreHoles m1' 1) fun H2 m2 => ?_)
      rw [decide_eq_true g1]
      have hrH : Rows H2 (sl j) 1 ((L j).map bv) := h1.keep m2 fun _ _ e => e
      have sm := g1.2.2.2.2.small
      refine Br.no rfl ⟨?_, ?_⟩
      · refine (law_bytes_spec (e := p.1) sm).mono ?_
        rintro r H3 ⟨rfl, m3⟩
        refine ⟨_, rfl, b2s_imp (b2s_rows (keepF hrH m3) rfl) ?_⟩
        rintro _ rfl
        rw [g2]
        exact Br.no (by rw [beq_self_eq_true]; rfl) (Br.no rfl (hn H3 (m2.trans m3)))
      · refine b2s_imp (b2s_rows hrH rfl) ?_
        rintro _ rfl
        refine (law_bytes_spec (e := p.1) sm).mono ?_
        rintro r H3 ⟨rfl, m3⟩
        refine ⟨_, rfl, ?_⟩
        rw [g2]
        exact Br.no (by rw [beq_self_eq_true]; rfl) (Br.no rfl (hn H3 (m2.trans m3)))
    | false =>
      have hz := en_beq p.1 En.zero
      rw [decide_eq_true (hno hp)] at hz
      exact Br.no rfl ⟨Br.yes rfl (Br.no (congrArg not hz) (hn _ (moreHoles m1' 1))), Br.yes rfl (Br.no (congrArg not hz) (hn _ (moreHoles m1' 1)))⟩

theorem CD_l2 (hc : ∀ i, i < 4 → Hp.cell? H7 ⟨H6.size, i, none⟩ = some (.slice (sl i).a (sl i).len (sl i).cap)) (hr : ∀ i, i < 4 → Rows H7 (sl i) 1 ((L i).map bv) ∧ (∀ g ∈ (sl i).blk, g < H7.size))
    (hQ : ∀ H', Mod (fun _ => False) H7 H' → Q (.bool true) H') :
    ∀ (d j : Nat) (H : Hp), j + d = 4 → Mod (fun _ => False) H7 H → tephralaw06_CmdsRead.l2 J0 (s.op.toNat : Int) (s.client.toNat : Int) (s.seq.toNat : Int) (s.key.toNat : Int) (s.value.toNat : Int) (s.old.toNat : Int) H6 H (j : Int) Q := by
  intro d
  induction d with
  | zero =>
    intro j H hj hm
    apply tephralaw06_CmdsRead.l2.step; unfold tephralaw06_CmdsRead.l2.body
    exact Br.no (by simp; omega) (hQ H hm)
  | succ d ih =>
    intro j H hj hm
    apply tephralaw06_CmdsRead.l2.step; unfold tephralaw06_CmdsRead.l2.body
    obtain ⟨h1, h2⟩ := hr j (by omega)
    have hn : ∀ H', Mod (fun _ => False) H7 H' → tephralaw06_CmdsRead.l2 J0 (s.op.toNat : Int) (s.client.toNat : Int) (s.seq.toNat : Int) (s.key.toNat : Int) (s.value.toNat : Int) (s.old.toNat : Int) H6 H' (w64 ((j : Int) + 1)) Q := by
      intro H' m'
      rw [w64_id (x := (j : Int) + 1) (by omega) (by omega)]
      have := ih (j + 1) H' (by omega) m'
      simpa using this
    refine Br.yes (by simp; omega) ⟨⟨by omega, by omega⟩, sl j, ?_, (Read_spec (h1.keep hm fun _ _ e => e) fun g hg => Nat.lt_of_lt_of_le (h2 g hg) hm.size).mono ?_⟩
    · have e : (j : Int).toNat * 1 = j := by omega
      rw [e, Addr.add_loc, Nat.zero_add]
      exact cell_keep (hc j (by omega)) hm
    rintro r H1 ⟨rfl, m1⟩
    have m1' := hm.trans m1
    have hok := rdEn_ok (xs := L j)
    have hno := rdEn_not (xs := L j)
    generalize rdEn (L j) = p at hok hno
    refine ⟨_, _, _, _, _, _, _, _, _, rfl, ?_⟩
    cases hp : p.2 with
    | true =>
      obtain ⟨g1, g2⟩ := hok hp
      refine Br.yes rfl (bool_step (law_right_spec (e := p.1)) (moreHoles m1' 1) fun H2 m2 => ?_)
      rw [decide_eq_true g1]
      have hrH : Rows H2 (sl j) 1 ((L j).map bv) := h1.keep m2 fun _ _ e => e
      have sm := g1.2.2.2.2.small
      refine Br.no rfl ⟨?_, ?_⟩
      · refine (law_bytes_spec (e := p.1) sm).mono ?_
        rintro r H3 ⟨rfl, m3⟩
        refine ⟨_, rfl, b2s_imp (b2s_rows (keepF hrH m3) rfl) ?_⟩
        rintro _ rfl
        rw [g2]
        exact Br.no (by rw [beq_self_eq_true]; rfl) (Br.no rfl (hn H3 (m2.trans m3)))
      · refine b2s_imp (b2s_rows hrH rfl) ?_
        rintro _ rfl
        refine (law_bytes_spec (e := p.1) sm).mono ?_
        rintro r H3 ⟨rfl, m3⟩
        refine ⟨_, rfl, ?_⟩
        rw [g2]
        exact Br.no (by rw [beq_self_eq_true]; rfl) (Br.no rfl (hn H3 (m2.trans m3)))
    | false =>
      have hz := en_beq p.1 En.zero
      rw [decide_eq_true (hno hp)] at hz
      exact Br.no rfl ⟨Br.yes rfl (Br.no (congrArg not hz) (hn _ (moreHoles m1' 1))), Br.yes rfl (Br.no (congrArg not hz) (hn _ (moreHoles m1' 1)))⟩


end

section
variable {H : Hp}
theorem CmdsRead_spec {raw : Sl} {rs : List UInt8} {s : Sy} {c b : UInt8} (hraw : Rows H raw 1 (rs.map bv)) (hrlt : ∀ g ∈ raw.blk, g < H.size) :
    SCalls Try.prog tephralaw06_CmdsRead.id [.slice raw.a raw.len raw.cap, s.val, .int .u8 (c.toNat : Int), .int .u8 (b.toNat : Int)] H (trueQ H) := by
  apply tephralaw06_CmdsRead.calls
  unfold tephralaw06_CmdsRead.vc
  have hc : c.toNat < 256 := UInt8.toNat_lt _
  have wc : w64 (c.toNat : Int) = (c.toNat : Int) := w64_id (by omega) (by omega)
  rw [wc]
  have hR : (En.mk 5 2 s.cmd).Right := ⟨by show (1 : Int) ≤ 5; omega, by show (5 : Int) ≤ 1048576; omega, by show (0 : Int) ≤ 2; omega, by show (2 : Int) ≤ 1048576; omega, s.may⟩
  have hsm := hR.2.2.2.2.small
  have hlen := (En.mk 5 2 s.cmd).bytes_length
  have hsm' := hsm
  unfold Cm.small at hsm'
  simp only at hlen hsm'
  refine law_awake (n := 1) fun H1 m1 => say_step (s := s) m1 fun H2 m2 => (Bytes_spec (e := ⟨5, 2, s.cmd⟩) hsm).mono ?_
  generalize (En.mk 5 2 s.cmd).bytes = xs at *
  rintro r H3 ⟨x, rfl, ho, m3, hx⟩
  have hxl : xs.length = x.len := by have := ho.1; simpa using this
  refine ⟨x, rfl, Br.no (by simp; omega) ?_⟩
  have F2 : Fresh H H2 := (show Fresh H H from Mod.refl _ _).step m2 fun _ h => h.elim
  have F3 : Fresh H H3 := F2.step m3 fun _ h => h.elim
  have s2 := F2.size
  have s3 := F3.size
  have hxH : ∀ g ∈ x.blk, H.size ≤ g := fun g hg => Nat.le_trans s2 (hx g hg)
  have hxlt := Own.lt ho
  refine app_bytes (x := ⟨none, 0, 0⟩) (xs := []) (ys := xs) (Own.nil _ _ _) (Own.src ho) (by simp [srcLen, hxl]) (by simp; omega) ?_
  intro ap H4 hap hmap hapb
  rw [List.nil_append] at hap
  have m4 : Mod (fun _ => False) H3 H4 := hmap.mono fun g _ hg => by simp [Sl.blk] at hg
  have hapn : ∀ g ∈ ap.blk, g = H3.size := fun g hg => (hapb g hg).elim (fun h => by simp [Sl.blk] at h) id
  have F4 : Fresh H H4 := F3.step m4 fun _ h => h.elim
  have hapl : ap.len = x.len := by have := hap.1; simp at this; omega
  have hapc := hap.2.1
  have ho4 := Own.keep ho m4 (fun _ _ e => e)
  have hxc := ho.2.1
  have hk : c.toNat % x.len < x.len := Nat.mod_lt _ (by omega)
  rw [hapl, tmodN]
  simp only [Int.toNat_natCast]
  generalize c.toNat % x.len = k at hk ⊢
  have hkx : k < xs.length := by omega
  obtain ⟨a, ha, hcell⟩ := (Own.rows hap).at (j := k) (c := xs[k]) (List.getElem?_eq_getElem hkx)
  obtain ⟨v, hv⟩ := bxor_u8 (xs[k].toNat : Int) (b.toNat : Int)
  obtain ⟨a', ha', hw, hput, mput⟩ := own_put (new := [bv v]) hap (show k < ap.len by omega) rfl (by omega)
  rw [ha] at ha'
  cases ha'
  have hset : (xs.map bv).take (k * 1) ++ [bv v] ++ (xs.map bv).drop (k * 1 + 1) = (xs.set k v).map bv := by
    rw [Nat.mul_one, ← List.map_take, ← List.map_drop, List.set_eq_take_append_cons_drop, if_pos hkx]
    simp
  rw [hset] at hput
  have F5 := F4.step mput fun g hg => by have := hapn g hg; omega
  have ho5 := Own.keep ho4 mput fun g hg e => by have := hapn g e; have := hxlt g hg; omega
  have hput' : Own (Hp.setCell H4 (a.add (k * 1)) (.int .u8 (v.toNat : Int))) ap T_uint8 1 ((xs.set k v).map bv) := by
    have e : Hp.setCells H4 (a.add (k * 1)) [bv v] 0 = Hp.setCell H4 (a.add (k * 1)) (.int .u8 (v.toNat : Int)) := by
      show Hp.setCell H4 ((a.add (k * 1)).add 0) _ = _
      rw [add_zero_of]; rfl
    rw [← e]; exact hput
  have e5 : Hp.setCells H4 (a.add (k * 1)) [bv v] 0 = Hp.setCell H4 (a.add (k * 1)) (.int .u8 (v.toNat : Int)) := by
    show Hp.setCell H4 ((a.add (k * 1)).add 0) _ = _
    rw [add_zero_of]; rfl
  rw [e5] at F5 ho5
  refine ⟨by omega, ⟨by omega, by omega⟩, vPtr.mk a ha ⟨_, by rw [Nat.mul_one]; exact hcell, ⟨by omega, by omega⟩, vPtr.mk a ha ⟨hw, by omega, ⟨by omega, by omega⟩, ?_⟩⟩⟩
  rw [hv]
  generalize Hp.setCell H4 (a.add (k * 1)) (.int .u8 (v.toNat : Int)) = H5 at *
  have s5 := F5.size
  have hcut : ∀ (H' : Hp), Mod (fun _ => False) H5 H' → Rows H' ⟨cutA x.a x.cap 0 1, k, x.cap⟩ 1 ((xs.take k).map bv) := by
    intro H' m'
    have := ((Own.rows ho5).keep m' fun _ _ e => e).take (n := k) (by omega)
    rw [Nat.mul_one, ← List.map_take] at this
    exact this
  have hput2 : Own H5 ⟨ap.a, x.len, ap.cap⟩ T_uint8 1 ((xs.set k v).map bv) := by rw [← hapl]; exact hput'
  have hlx : ∀ g ∈ x.blk, g < H5.size := Own.lt ho5
  have hla : ∀ g ∈ ap.blk, g < H5.size := Own.lt hput'
  have hlr : ∀ g ∈ raw.blk, g < H5.size := fun g hg => Nat.lt_of_lt_of_le (hrlt g hg) s5
  refine ⟨?_, ?_⟩
  · refine app_bytes (x := ⟨none, 0, 0⟩) (xs := []) (ys := xs) (Own.nil _ _ _) (Own.src ho5) (by simp [srcLen, hxl]) (by simp; omega) ?_
    intro a1 H6 hoa1 hma1 hb1
    rw [List.nil_append] at hoa1
    have m6 : Mod (fun _ => False) H5 H6 := hma1.mono fun g _ hg => by simp [Sl.blk] at hg
    have F6 := F5.step m6 fun _ h => h.elim
    have hn1 : ∀ g ∈ a1.blk, H5.size ≤ g := fun g hg => (hb1 g hg).elim (fun h => by simp [Sl.blk] at h) fun h => by omega
    have mp : Mod (fun _ => False) H6 (Array.push H6 (.cells #[.int .u8 (b.toNat : Int)] T_uint8)) := Mod.push _ _ _
    refine app_bytes (xs := xs) (ys := [b]) (Own.keep hoa1 mp fun _ _ e => e) src_one rfl (by simp; omega) ?_
    intro a2 H7 hoa2 hma2 hb2
    have m7 : Mod (· ∈ a1.blk) H6 H7 := (mp.mono fun _ _ e => e.elim).trans hma2
    have m57 : Mod (fun _ => False) H5 H7 := (m6.trans' m7 fun g hg hg1 => by have := hn1 g hg1; omega)
    have F7 := F5.step m57 fun _ h => h.elim
    have mq : Mod (fun _ => False) H7 (Array.push H7 (.cells #[.slice raw.a raw.len raw.cap, .slice ap.a x.len ap.cap, .slice (cutA x.a x.cap 0 1) k x.cap, .slice a2.a a2.len a2.cap] T_sl_uint8)) := Mod.push _ _ _
    have m58 := m57.trans mq
    have s8 := m58.size
    have F8 := F5.step m58 fun _ h => h.elim
    refine CD_l1 (Q := trueQ H) (sl := fun i => match i with | 0 => raw | 1 => ⟨ap.a, x.len, ap.cap⟩ | 2 => ⟨cutA x.a x.cap 0 1, k, x.cap⟩ | _ => a2) (L := fun i => match i with | 0 => rs | 1 => xs.set k v | 2 => xs.take k | _ => xs ++ [b]) (fun i hi => ?_) (fun i hi => ?_) (fun H' m' => ⟨rfl, (F8.step m' fun _ h => h.elim).mod⟩) 4 0 _ (by omega) (Mod.refl _ _)
    · rw [cell_of (get_push_new H7 _)]
      rcases (by omega : i = 0 ∨ i = 1 ∨ i = 2 ∨ i = 3) with rfl | rfl | rfl | rfl <;> rfl
    · rcases (by omega : i = 0 ∨ i = 1 ∨ i = 2 ∨ i = 3) with rfl | rfl | rfl | rfl
      · exact ⟨F8.rows hraw, fun g hg => Nat.lt_of_lt_of_le (hlr g hg) s8⟩
      · exact ⟨(Own.rows hput2).keep m58 fun _ _ e => e, fun g hg => Nat.lt_of_lt_of_le (hla g hg) s8⟩
      · exact ⟨hcut _ m58, fun g hg => Nat.lt_of_lt_of_le (hlx g (cutA_blk x _ _ _ _ _ g hg)) s8⟩
      · exact ⟨(Own.rows hoa2).keep mq fun _ _ e => e, fun g hg => Nat.lt_of_lt_of_le (Own.lt hoa2 g hg) mq.size⟩
  · have mp : Mod (fun _ => False) H5 (Array.push H5 (.cells #[.int .u8 (b.toNat : Int)] T_uint8)) := Mod.push _ _ _
    refine app_bytes (x := ⟨none, 0, 0⟩) (xs := []) (ys := xs) (Own.nil _ _ _) (Own.src (Own.keep ho5 mp fun _ _ e => e)) (by simp [srcLen, hxl]) (by simp; omega) ?_
    intro a1 H6 hoa1 hma1 hb1
    rw [List.nil_append] at hoa1
    have m6' : Mod (fun _ => False) (Array.push H5 (.cells #[.int .u8 (b.toNat : Int)] T_uint8)) H6 := hma1.mono fun g _ hg => by simp [Sl.blk] at hg
    have m6 := mp.trans m6'
    have F6 := F5.step m6 fun _ h => h.elim
    have sp := mp.size
    have hn1 : ∀ g ∈ a1.blk, H5.size ≤ g := fun g hg => (hb1 g hg).elim (fun h => by simp [Sl.blk] at h) fun h => by omega
    refine app_bytes (xs := xs) (ys := [b]) hoa1 (src_keep src_one m6' fun e => e) rfl (by simp; omega) ?_
    intro a2 H7 hoa2 hma2 hb2
    have m57 : Mod (fun _ => False) H5 H7 := (m6.trans' hma2 fun g hg hg1 => by have := hn1 g hg1; omega)
    have F7 := F5.step m57 fun _ h => h.elim
    have mq : Mod (fun _ => False) H7 (Array.push H7 (.cells #[.slice raw.a raw.len raw.cap, .slice ap.a x.len ap.cap, .slice (cutA x.a x.cap 0 1) k x.cap, .slice a2.a a2.len a2.cap] T_sl_uint8)) := Mod.push _ _ _
    have m58 := m57.trans mq
    have s8 := m58.size
    have F8 := F5.step m58 fun _ h => h.elim
    refine CD_l2 (Q := trueQ H) (sl := fun i => match i with | 0 => raw | 1 => ⟨ap.a, x.len, ap.cap⟩ | 2 => ⟨cutA x.a x.cap 0 1, k, x.cap⟩ | _ => a2) (L := fun i => match i with | 0 => rs | 1 => xs.set k v | 2 => xs.take k | _ => xs ++ [b]) (fun i hi => ?_) (fun i hi => ?_) (fun H' m' => ⟨rfl, (F8.step m' fun _ h => h.elim).mod⟩) 4 0 _ (by omega) (Mod.refl _ _)
    · rw [cell_of (get_push_new H7 _)]
      rcases (by omega : i = 0 ∨ i = 1 ∨ i = 2 ∨ i = 3) with rfl | rfl | rfl | rfl <;> rfl
    · rcases (by omega : i = 0 ∨ i = 1 ∨ i = 2 ∨ i = 3) with rfl | rfl | rfl | rfl
      · exact ⟨F8.rows hraw, fun g hg => Nat.lt_of_lt_of_le (hlr g hg) s8⟩
      · exact ⟨(Own.rows hput2).keep m58 fun _ _ e => e, fun g hg => Nat.lt_of_lt_of_le (hla g hg) s8⟩
      · exact ⟨hcut _ m58, fun g hg => Nat.lt_of_lt_of_le (hlx g (cutA_blk x _ _ _ _ _ g hg)) s8⟩
      · exact ⟨(Own.rows hoa2).keep mq fun _ _ e => e, fun g hg => Nat.lt_of_lt_of_le (Own.lt hoa2 g hg) mq.size⟩
end
end Go.Proofs
