/- PACK, part 1: what a Writer holds; its methods. -/
import Derived.Test.YtpdondaekinmdaaT09
import Derived.Test.YtpdondaekinmdaaKh2
set_option linter.all false
set_option linter.constructorNameAsVariable false
namespace Go.Proofs
open Go Go.KC

theorem und_bytes : Try.prog.underlying T_sl_uint8 = some (.slice T_uint8) := by kernel_rfl
theorem inf_u8 : (Try.prog.info? T_uint8).map (fun i => (i.zero, i.size, i.bytes)) = some (some (.int .u8 0), 1, 1) := by kernel_rfl
theorem u8_info : ∃ ti, Try.prog.info? T_uint8 = some ti ∧ ti.zero = some (.int .u8 0) ∧ ti.size = 1 ∧ ti.bytes = 1 := by
  have h := inf_u8
  cases hi : Try.prog.info? T_uint8 with
  | none => rw [hi] at h; simp at h
  | some ti => rw [hi] at h; simp at h; exact ⟨ti, rfl, h.1, h.2.1, h.2.2⟩

/-- The Writer in block b has laid xs. F: the blocks that are its own. -/
def Wr (H : Hp) (b : Nat) (F : List Nat) (xs : List UInt8) : Prop :=
  ∃ x : Sl, H[b]? = some (.cells #[.slice x.a x.len x.cap] T_pack_Writer (0, 0)) ∧ Own H x T_uint8 1 (xs.map bv) ∧ F = b :: x.blk ∧ b ∉ x.blk

theorem Wr.keep {m : Nat → Prop} {H H' : Hp} {b : Nat} {F : List Nat} {xs : List UInt8} (h : Wr H b F xs) (hm : Mod m H H') (hF : ∀ g ∈ F, ¬ m g) : Wr H' b F xs := by
  obtain ⟨x, h1, h2, rfl, h4⟩ := h
  exact ⟨x, hm.get h1 (hF b (by simp)), h2.keep hm (fun g hg => hF g (by simp [hg])), rfl, h4⟩
theorem Wr.lt {H : Hp} {b : Nat} {F : List Nat} {xs : List UInt8} (h : Wr H b F xs) : ∀ g ∈ F, g < H.size := by
  obtain ⟨x, h1, h2, rfl, h4⟩ := h
  intro g hg
  rcases List.mem_cons.1 hg with rfl | hg
  · exact lt_of_get h1
  · exact h2.lt g hg

theorem Wr.app {H H1 : Hp} {b : Nat} {x : Sl} {xs ys : List UInt8} {src : Value} {K : Hp → Prop} (h1 : H[b]? = some (.cells #[.slice x.a x.len x.cap] T_pack_Writer (0, 0))) (h2 : Own H x T_uint8 1 (xs.map bv)) (h4 : b ∉ x.blk)
    (hm : Mod (fun _ => False) H H1) (hs : SrcAt H1 1 (srcLen src) src (ys.map bv)) (hl : ys.length = srcLen src) (hb : xs.length + ys.length ≤ 140737488355328)
    (hK : ∀ H3 F', Wr H3 b F' (xs ++ ys) → Mod (· ∈ b :: x.blk) H H3 → (∀ g ∈ F', g ∈ b :: x.blk ∨ H.size ≤ g) → K H3) :
    vApp Try.prog T_sl_uint8 x.a x.len x.cap src H1 (fun ap H2 => WrAt H2 ⟨b, 0, none⟩ 1 ∧ K (Hp.setCell H2 ⟨b, 0, none⟩ (.slice ap.a ap.len ap.cap))) := by
  obtain ⟨ti, hi, hz, hsz, hby⟩ := u8_info
  have h2' := h2.keep hm (fun _ _ e => e)
  have h1' := hm.get h1 (fun e => e)
  have hlen : xs.length = x.len := by have := h2.1; simpa using this
  refine Own.app (e := T_uint8) (ti := ti) (z := .int .u8 0) (cs := xs.map bv) (news := ys.map bv) (by rw [hsz]; exact h2') und_bytes hi hz (by rw [hsz]; rfl) (by omega) (by rw [hsz]; exact hs) (by simp [hsz, hl]) (allOne_bv ys) (by rw [hby]; omega) ?_
  intro x' H2 ho hxl hmod hblk hne
  rw [hsz] at ho
  have g1 : H2[b]? = some (.cells #[.slice x.a x.len x.cap] T_pack_Writer (0, 0)) := hmod.get h1' (by exact h4)
  have hbx' : b ∉ x'.blk := fun hbx => by
    rcases hblk b hbx with h | h
    · exact h4 h
    · have := lt_of_get h1'; omega
  refine ⟨wr_one g1 (by simp), hK _ (b :: x'.blk) ⟨x', ?_, ?_, rfl, hbx'⟩ ?_ ?_⟩
  · have := get_setCell (o := 0) (.slice x'.a x'.len x'.cap) g1
    simpa using this
  · rw [List.map_append]
    exact ho.keep (Mod.setCell (m := (· = b)) H2 ⟨b, 0, none⟩ _ rfl) (fun g hg e => hbx' (e ▸ hg))
  · have m1 : Mod (· ∈ b :: x.blk) H1 H2 := hmod.mono fun g _ hg => List.mem_cons_of_mem _ hg
    exact (hm.mono (fun _ _ e => e.elim)).trans (m1.trans (Mod.setCell _ _ _ (by simp)))
  · intro g hg
    rcases List.mem_cons.1 hg with rfl | hg
    · exact Or.inl (by simp)
    · rcases hblk g hg with h | h
      · exact Or.inl (List.mem_cons_of_mem _ h)
      · exact Or.inr (by rw [h]; exact hm.size)

/-- What a method of a Writer does: the Writer again, ys behind what there was. -/
def WrPost (H : Hp) (b : Nat) (F : List Nat) (xs : List UInt8) (r : Value) (H' : Hp) : Prop :=
  r = .pointer (some ⟨b, 0, none⟩) ∧ ∃ F', Wr H' b F' xs ∧ Mod (· ∈ F) H H' ∧ ∀ g ∈ F', g ∈ F ∨ H.size ≤ g

theorem WrPost.trans {H H1 H2 : Hp} {b : Nat} {F F1 : List Nat} {xs : List UInt8} {r : Value} (hm : Mod (· ∈ F) H H1) (hF : ∀ g ∈ F1, g ∈ F ∨ H.size ≤ g) (h : WrPost H1 b F1 xs r H2) : WrPost H b F xs r H2 := by
  obtain ⟨hr, F', h1, h2, h3⟩ := h
  refine ⟨hr, F', h1, hm.trans' h2 (fun g hg hg1 => ?_), fun g hg => ?_⟩
  · rcases hF g hg1 with h | h
    · exact h
    · omega
  · rcases h3 g hg with h | h
    · exact hF g h
    · exact Or.inr (Nat.le_trans hm.size h)

theorem src_byte {H : Hp} {c : UInt8} : SrcAt (Array.push H (.cells #[.int .u8 (c.toNat : Int)] T_uint8)) 1 1 (.slice (some (Addr.mk (Array.size H) 0 none)) 1 1) [bv c] := by
  refine ⟨by simp, fun j v hj => ?_⟩
  have : j = 0 := by
    rcases j with _ | j
    · rfl
    · simp at hj
  subst this
  simp at hj
  subst hj
  rw [Addr.add_loc, cell_of (get_push_new H _)]
  rfl

theorem Writer_Byte_spec {H : Hp} {b : Nat} {F : List Nat} {xs : List UInt8} {c : UInt8} (h : Wr H b F xs) (hb : xs.length + 1 ≤ 140737488355328) :
    SCalls Try.prog pack_Writer_Byte.id [.pointer (some ⟨b, 0, none⟩), .int .u8 (c.toNat : Int)] H (WrPost H b F (xs ++ [c])) := by
  apply pack_Writer_Byte.calls
  obtain ⟨x, h1, h2, rfl, h4⟩ := h
  refine ⟨x, cell_of h1, ?_⟩
  refine Wr.app (ys := [c]) h1 h2 h4 (Mod.push _ _ _) src_byte rfl (by simpa using hb) ?_
  intro H3 F' hw hm hF
  exact ⟨rfl, F', hw, hm, hF⟩

theorem Writer_Bytes_spec {H : Hp} {b : Nat} {F : List Nat} {xs : List UInt8} (h : Wr H b F xs) (hb : xs.length ≤ 140737488355328) :
    SCalls Try.prog pack_Writer_Bytes.id [.pointer (some ⟨b, 0, none⟩)] H fun r H' => ∃ x : Sl, r = .slice x.a x.len x.cap ∧ Own H' x T_uint8 1 (xs.map bv) ∧ Mod (fun _ => False) H H' ∧ (∀ g ∈ x.blk, g = H.size) := by
  apply pack_Writer_Bytes.calls
  obtain ⟨x, h1, h2, rfl, h4⟩ := h
  refine ⟨x, cell_of h1, ?_⟩
  obtain ⟨ti, hi, hz, hsz, hby⟩ := u8_info
  have hlen : xs.length = x.len := by have := h2.1; simpa using this
  refine Own.app (x := ⟨none, 0, 0⟩) (e := T_uint8) (ti := ti) (z := .int .u8 0) (cs := []) (news := xs.map bv) (Own.nil _ _ _) und_bytes hi hz (by rw [hsz]; rfl) (by omega) (by rw [hsz]; exact h2.src) (by simp [hsz, hlen, srcLen]) (allOne_bv xs) (by simp only [srcLen]; rw [hby]; omega) ?_
  intro x' H2 ho hxl hmod hblk hne
  rw [hsz] at ho
  refine ⟨x', rfl, by simpa using ho, hmod.mono (fun g _ hg => by simp [Sl.blk] at hg), fun g hg => ?_⟩
  rcases hblk g hg with h | h
  · simp [Sl.blk] at h
  · exact h

end Go.Proofs

/- PACK, part 2: Writer.Num, Writer.Text. -/
set_option linter.all false
set_option linter.constructorNameAsVariable false
namespace Go.Proofs
open Go Go.KC

/-- The byte that stands for the k-th one of a number, from behind. -/
def byteAt (n : Int) (k : Nat) : UInt8 := UInt8.ofNat ((Int.fdiv n (2 ^ (8 * k))) % 256).toNat
theorem byteAt_toNat (n : Int) (k : Nat) : ((byteAt n k).toNat : Int) = (Int.fdiv n (2 ^ (8 * k))) % 256 := by
  unfold byteAt
  have h1 : 0 ≤ (Int.fdiv n (2 ^ (8 * k))) % 256 := Int.emod_nonneg _ (by omega)
  have h2 : (Int.fdiv n (2 ^ (8 * k))) % 256 < 256 := Int.emod_lt_of_pos _ (by omega)
  have h3 : ((Int.fdiv n (2 ^ (8 * k))) % 256).toNat < 256 := by omega
  rw [UInt8.toNat_ofNat_of_lt' h3]
  omega

/-- The last k bytes of a number. -/
def be (n : Int) : Nat → List UInt8
  | 0 => []
  | k + 1 => byteAt n k :: be n k
theorem be_length (n : Int) : ∀ k, (be n k).length = k
  | 0 => rfl
  | k + 1 => by simp [be, be_length n k]

theorem Num_loop {b : Nat} {n : Int} {Q : Value → Hp → Prop} : ∀ (j : Nat) (H : Hp) (F : List Nat) (xs : List UInt8), j ≤ 8 → Wr H b F xs → xs.length + j ≤ 140737488355328 →
    (∀ r H', WrPost H b F (xs ++ be n j) r H' → Q r H') → pack_Writer_Num.l1 J0 ⟨b, 0, none⟩ n H ((j : Int) - 1) Q := by
  intro j
  induction j with
  | zero =>
    intro H F xs _ h _ hQ
    apply pack_Writer_Num.l1.step
    unfold pack_Writer_Num.l1.body
    refine Br.no (by simp) (hQ _ _ ⟨rfl, F, by simpa [be] using h, .refl _ _, fun g hg => Or.inl hg⟩)
  | succ j ih =>
    intro H F xs hj h hb hQ
    apply pack_Writer_Num.l1.step
    unfold pack_Writer_Num.l1.body
    obtain ⟨x, h1, h2, rfl, h4⟩ := h
    have e0 : ((j + 1 : Nat) : Int) - 1 = (j : Int) := by omega
    rw [e0]
    have e1 : w64 ((8 : Int) * (j : Int)) = 8 * (j : Int) := w64_id (by omega) (by omega)
    have e2 : w64 ((j : Int) - 1) = (j : Int) - 1 := w64_id (by omega) (by omega)
    have e3 : min (8 * (j : Int)).toNat 64 = 8 * j := by omega
    rw [e1, e2, e3, wrapu8, ← byteAt_toNat]
    refine Br.yes (by simp) ⟨x, cell_of h1, by omega, ?_⟩
    refine Wr.app (src := .slice (some (Addr.mk (Array.size H) 0 none)) 1 1) (H1 := Array.push H (.cells #[.int .u8 ((byteAt n j).toNat : Int)] T_uint8)) (ys := [byteAt n j]) (K := fun H3 => pack_Writer_Num.l1 J0 ⟨b, 0, none⟩ n H3 ((j : Int) - 1) Q) h1 h2 h4 (Mod.push _ _ _) src_byte (by rfl) (by simp; omega) ?_
    intro H3 F' hw hm hF
    refine ih H3 F' _ (by omega) hw (by simp; omega) fun r H' hp => hQ r H' ?_
    rw [List.append_assoc] at hp
    exact WrPost.trans hm hF hp

theorem Writer_Num_spec {H : Hp} {b : Nat} {F : List Nat} {xs : List UInt8} {n : Int} (h : Wr H b F xs) (hb : xs.length + 8 ≤ 140737488355328) :
    SCalls Try.prog pack_Writer_Num.id [.pointer (some ⟨b, 0, none⟩), .int .i64 n] H (WrPost H b F (xs ++ be n 8)) := by
  apply pack_Writer_Num.calls
  exact Num_loop 8 H F xs (by omega) h hb fun _ _ h => h

theorem Writer_Text_spec {H : Hp} {b : Nat} {F : List Nat} {xs : List UInt8} {s : ByteArray} (h : Wr H b F xs) (hb : xs.length + 8 + s.size ≤ 140737488355328) :
    SCalls Try.prog pack_Writer_Text.id [.pointer (some ⟨b, 0, none⟩), .string s] H (WrPost H b F (xs ++ be (s.size : Int) 8 ++ s.data.toList)) := by
  apply pack_Writer_Text.calls
  refine (Writer_Num_spec h (by omega)).mono ?_
  rintro r H1 ⟨rfl, F', hw, hm, hF⟩
  refine ⟨_, rfl, ?_⟩
  obtain ⟨x, h1, h2, rfl, h4⟩ := hw
  refine ⟨x, cell_of h1, ?_⟩
  refine Wr.app (ys := s.data.toList) h1 h2 h4 (.refl _ _) (src_string H1 s) (by simp [srcLen]) (by simp [be_length]; omega) ?_
  intro H3 F3 hw3 hm3 hF3
  exact WrPost.trans hm hF ⟨rfl, F3, hw3, hm3, hF3⟩

end Go.Proofs

/- PACK, part 3: what a Reader has; take, Num, Byte, Text, Bad, Done. -/
set_option linter.all false
set_option linter.constructorNameAsVariable false
namespace Go.Proofs
open Go Go.KC

/-- The Reader in block b has xs left, in memory of the blocks D. -/
def Rd (H : Hp) (b : Nat) (D : List Nat) (bad : Bool) (xs : List UInt8) : Prop :=
  ∃ x : Sl, H[b]? = some (.cells #[.slice x.a x.len x.cap, .bool bad] T_pack_Reader (0, 0)) ∧ Rows H x 1 (xs.map bv) ∧ (∀ g ∈ x.blk, g ∈ D) ∧ b ∉ D

theorem Rd.keep {m : Nat → Prop} {H H' : Hp} {b : Nat} {D : List Nat} {bad : Bool} {xs : List UInt8} (h : Rd H b D bad xs) (hm : Mod m H H') (hb : ¬ m b) (hD : ∀ g ∈ D, ¬ m g) : Rd H' b D bad xs := by
  obtain ⟨x, h1, h2, h3, h4⟩ := h
  exact ⟨x, hm.get h1 hb, h2.keep hm (fun g hg => hD g (h3 g hg)), h3, h4⟩

def tkok (bad : Bool) (n : Int) (l : Nat) : Bool := !bad && decide (0 ≤ n) && decide (n ≤ l)

theorem take_k3 {H : Hp} {b : Nat} {x : Sl} {n : Int} {bad0 x1 : Bool} {Q : Value → Hp → Prop} (h1 : H[b]? = some (.cells #[.slice x.a x.len x.cap, .bool bad0] T_pack_Reader (0, 0))) (hlen : x.len ≤ x.cap)
    (hx1 : x1 = false → 0 ≤ n ∧ n ≤ x.len)
    (hbad : x1 = true → Q (.slice none 0 0) (Hp.setCell H ⟨b, 1, none⟩ (.bool true)))
    (hgood : x1 = false → Q (.slice (cutA x.a x.cap 0 1) n.toNat x.cap) (Hp.setCell (Hp.setCell H ⟨b, 1, none⟩ (.bool false)) ⟨b, 0, none⟩ (.slice (cutA x.a x.cap n.toNat 1) (x.len - n.toNat) (x.cap - n.toNat)))) :
    pack_Reader_take.k2 J0 ⟨b, 0, none⟩ n H x1 Q := by
  apply pack_Reader_take.k2.step
  unfold pack_Reader_take.k2.body
  rw [Addr.add_loc]
  refine ⟨wr_one h1 (by simp), ?_⟩
  apply pack_Reader_take.k3.step
  unfold pack_Reader_take.k3.body
  rw [Addr.add_loc]
  have h2 : (Hp.setCell H ⟨b, 1, none⟩ (.bool x1))[b]? = some (.cells #[.slice x.a x.len x.cap, .bool x1] T_pack_Reader (0, 0)) := by
    have := get_setCell (o := 1) (.bool x1) h1
    simpa using this
  refine ⟨x1, by rw [cell_of h2]; rfl, ?_⟩
  cases x1 with
  | true => exact hbad rfl
  | false =>
    obtain ⟨q1, q2⟩ := hx1 rfl
    refine ⟨x, by rw [cell_of h2]; rfl, ⟨q1, by omega⟩, x, by rw [cell_of h2]; rfl, ⟨q1, q2⟩, wr_one h2 (by simp), hgood rfl⟩

theorem Reader_take_spec {H : Hp} {b : Nat} {D : List Nat} {bad : Bool} {xs : List UInt8} {n : Int} (h : Rd H b D bad xs) :
    SCalls Try.prog pack_Reader_take.id [.pointer (some ⟨b, 0, none⟩), .int .i64 n] H fun r H' => ∃ y : Sl, r = .slice y.a y.len y.cap ∧ Mod (· = b) H H' ∧
      (match tkok bad n xs.length with
       | true => Rows H' y 1 ((xs.take n.toNat).map bv) ∧ (∀ g ∈ y.blk, g ∈ D) ∧ Rd H' b D false (xs.drop n.toNat)
       | false => y = ⟨none, 0, 0⟩ ∧ Rd H' b D true xs) := by
  obtain ⟨x, h1, h2, h3, h4⟩ := h
  have hlen : xs.length = x.len := by have := h2.1; simpa using this
  have hmod1 : ∀ v, Mod (· = b) H (Hp.setCell H ⟨b, 1, none⟩ v) := fun v => Mod.setCell H _ v rfl
  have hxb : ∀ g ∈ x.blk, ¬ g = b := fun g hg e => h4 (e ▸ h3 g hg)
  have fin : ∀ x1 : Bool, (x1 = !tkok bad n xs.length) → pack_Reader_take.k2 J0 ⟨b, 0, none⟩ n H x1 fun r H' => ∃ y : Sl, r = .slice y.a y.len y.cap ∧ Mod (· = b) H H' ∧
      (match tkok bad n xs.length with
       | true => Rows H' y 1 ((xs.take n.toNat).map bv) ∧ (∀ g ∈ y.blk, g ∈ D) ∧ Rd H' b D false (xs.drop n.toNat)
       | false => y = ⟨none, 0, 0⟩ ∧ Rd H' b D true xs) := by
    intro x1 hx1
    refine take_k3 h1 h2.2.1 (fun e => ?_) (fun e => ?_) (fun e => ?_)
    · rw [e] at hx1
      have : tkok bad n xs.length = true := by cases ht : tkok bad n xs.length <;> simp_all
      simp [tkok] at this
      omega
    · rw [e] at hx1
      have ht : tkok bad n xs.length = false := by cases ht : tkok bad n xs.length <;> simp_all
      rw [ht]
      refine ⟨⟨none, 0, 0⟩, rfl, hmod1 _, rfl, x, ?_, h2.keep (hmod1 _) hxb, h3, h4⟩
      have := get_setCell (o := 1) (.bool true) h1
      simpa using this
    · rw [e] at hx1
      have ht : tkok bad n xs.length = true := by cases ht : tkok bad n xs.length <;> simp_all
      rw [ht]
      have hn : n.toNat ≤ x.len := by simp [tkok] at ht; omega
      have g1 : (Hp.setCell H ⟨b, 1, none⟩ (.bool false))[b]? = some (.cells #[.slice x.a x.len x.cap, .bool false] T_pack_Reader (0, 0)) := by
        have := get_setCell (o := 1) (.bool false) h1
        simpa using this
      have g2 := get_setCell (o := 0) (.slice (cutA x.a x.cap n.toNat 1) (x.len - n.toNat) (x.cap - n.toNat)) g1
      have hm : Mod (· = b) H (Hp.setCell (Hp.setCell H ⟨b, 1, none⟩ (.bool false)) ⟨b, 0, none⟩ (.slice (cutA x.a x.cap n.toNat 1) (x.len - n.toNat) (x.cap - n.toNat))) := (hmod1 _).trans (Mod.setCell _ _ _ rfl)
      have hr := h2.keep hm hxb
      refine ⟨⟨cutA x.a x.cap 0 1, n.toNat, x.cap⟩, rfl, hm, ?_, fun g hg => h3 g (cutA_blk x _ _ _ _ _ g hg), ⟨cutA x.a x.cap n.toNat 1, x.len - n.toNat, x.cap - n.toNat⟩, by simpa using g2, ?_, fun g hg => h3 g (cutA_blk x _ _ _ _ _ g hg), h4⟩
      · have := hr.take hn
        rw [Nat.mul_one, ← List.map_take] at this
        exact this
      · have := hr.drop hn
        rw [Nat.mul_one, ← List.map_drop] at this
        exact this
  apply pack_Reader_take.calls
  refine ⟨bad, by rw [Addr.add_loc, cell_of h1]; rfl, ?_⟩
  have k1 : ∀ z : Bool, (z = (bad || decide (n < 0))) → pack_Reader_take.k1 J0 ⟨b, 0, none⟩ n H z fun r H' => ∃ y : Sl, r = .slice y.a y.len y.cap ∧ Mod (· = b) H H' ∧
      (match tkok bad n xs.length with
       | true => Rows H' y 1 ((xs.take n.toNat).map bv) ∧ (∀ g ∈ y.blk, g ∈ D) ∧ Rd H' b D false (xs.drop n.toNat)
       | false => y = ⟨none, 0, 0⟩ ∧ Rd H' b D true xs) := by
    intro z hz
    apply pack_Reader_take.k1.step
    refine Br.mk (fun hz1 => fin true ?_) (fun hz0 => ⟨x, by rw [cell_of h1]; rfl, fin _ ?_⟩)
    · rw [hz1] at hz
      cases bad
      · simp at hz; simp [tkok, hz]
      · simp [tkok]
    · rw [hz0] at hz
      cases bad
      · simp at hz
        simp only [tkok, hlen]
        by_cases hc : n ≤ x.len
        · simp [hz, hc]
        · simp [hc]; omega
      · simp at hz
  exact Br.mk (fun e => k1 true (by simp [e])) (fun e => k1 _ (by simp [e]))

end Go.Proofs

/- PACK, part 4: a number of eight bytes; Reader.Num, Byte, Text, Bad, Done. -/
set_option linter.all false
set_option linter.constructorNameAsVariable false
namespace Go.Proofs
open Go Go.KC

theorem bor_low (a : Int) (c : UInt8) : bor .i64 (w64 (a * 2 ^ 8)) (w64 (c.toNat : Int)) = w64 (a * 256 + (c.toNat : Int)) := by
  have hc : c.toNat < 256 := c.toNat_lt
  have e2 : w64 (c.toNat : Int) = (c.toNat : Int) := w64_id (by omega) (by omega)
  have e1 : w64 (a * 2 ^ 8) = w64 (a * 256) := rfl
  rw [e2, e1]
  have key : ((BitVec.ofInt 64 (w64 (a * 256)) ||| BitVec.ofInt 64 (c.toNat : Int)).toNat : Int) = (a * 256 + (c.toNat : Int)) % 18446744073709551616 := by
    rw [BitVec.toNat_or]
    have h1 : (BitVec.ofInt 64 (w64 (a * 256))).toNat = 256 * (a % 72057594037927936).toNat := by
      rw [BitVec.toNat_ofInt, w64_mod]
      omega
    have h2 : (BitVec.ofInt 64 (c.toNat : Int)).toNat = c.toNat := by
      rw [BitVec.toNat_ofInt]
      omega
    rw [h1, h2]
    have h3 := Nat.two_pow_add_eq_or_of_lt (i := 8) (b := c.toNat) (by omega) (a % 72057594037927936).toNat
    rw [show (256 : Nat) = 2 ^ 8 from rfl, ← h3]
    omega
  show IntKind.i64.wrap ((BitVec.ofInt 64 (w64 (a * 256)) ||| BitVec.ofInt 64 (c.toNat : Int)).toNat : Int) = _
  rw [key]
  show w64 _ = _
  rw [w64_mod, w64_mod]
  omega

/-- What a Reader makes of bytes. -/
def numOf (n : Int) : List UInt8 → Int
  | [] => n
  | c :: r => numOf (w64 (n * 256 + (c.toNat : Int))) r

theorem RNum_loop {x : Sl} {H : Hp} {Q : Value → Hp → Prop} {xs : List UInt8} (h : Rows H x 1 (xs.map bv)) (hm : x.len ≤ 9223372036854775807) : ∀ (d j : Nat) (n : Int), j + d = x.len →
    Q (.int .i64 (numOf n (xs.drop j))) H → pack_Reader_Num.l1 J0 x H n (j : Int) Q := by
  have hl : xs.length = x.len := by have := h.1; simpa using this
  intro d
  induction d with
  | zero =>
    intro j n hj hQ
    apply pack_Reader_Num.l1.step
    unfold pack_Reader_Num.l1.body
    rw [List.drop_eq_nil_of_le (by omega)] at hQ
    exact Br.no (by simp; omega) hQ
  | succ d ih =>
    intro j n hj hQ
    apply pack_Reader_Num.l1.step
    unfold pack_Reader_Num.l1.body
    have hlt : j < xs.length := by omega
    have hget : xs[j]? = some xs[j] := List.getElem?_eq_getElem hlt
    obtain ⟨a, ha, hc⟩ := h.at hget
    refine Br.yes (by simp; omega) ⟨⟨by omega, by omega⟩, vPtr.mk a ha ⟨_, by simpa using hc, by omega, ?_⟩⟩
    rw [bor_low, w64_id (x := (j : Int) + 1) (by omega) (by omega)]
    have := ih (j + 1) (w64 (n * 256 + (xs[j].toNat : Int))) (by omega) (by rw [List.drop_eq_getElem_cons hlt] at hQ; exact hQ)
    simpa using this

/-- What is read of a number. -/
def rdNum (bad : Bool) (xs : List UInt8) : Int × Bool × List UInt8 :=
  match tkok bad 8 xs.length with
  | true => (numOf 0 (xs.take 8), false, xs.drop 8)
  | false => (0, true, xs)

theorem Reader_Num_spec {H : Hp} {b : Nat} {D : List Nat} {bad : Bool} {xs : List UInt8} (h : Rd H b D bad xs) :
    SCalls Try.prog pack_Reader_Num.id [.pointer (some ⟨b, 0, none⟩)] H fun r H' => r = .int .i64 (rdNum bad xs).1 ∧ Mod (· = b) H H' ∧ Rd H' b D (rdNum bad xs).2.1 (rdNum bad xs).2.2 := by
  apply pack_Reader_Num.calls
  refine (Reader_take_spec h).mono ?_
  rintro r H1 ⟨y, rfl, hm, hy⟩
  refine ⟨y, rfl, ?_⟩
  unfold rdNum
  cases ht : tkok bad 8 xs.length with
  | true =>
    rw [ht] at hy
    obtain ⟨h1, h2, h3⟩ := hy
    have hl : (xs.take 8).length = y.len := by have := h1.1; simpa using this
    have := RNum_loop (Q := fun r H' => r = .int .i64 (numOf 0 (xs.take 8)) ∧ Mod (· = b) H H' ∧ Rd H' b D false (xs.drop 8)) h1 (by rw [← hl]; simp; omega) y.len 0 0 (by omega) ⟨rfl, hm, h3⟩
    simpa using this
  | false =>
    rw [ht] at hy
    obtain ⟨rfl, h3⟩ := hy
    have := RNum_loop (Q := fun r H' => r = .int .i64 0 ∧ Mod (· = b) H H' ∧ Rd H' b D true xs) (H := H1) (x := ⟨none, 0, 0⟩) (xs := []) ⟨rfl, Nat.le_refl _, (fun a ha => nomatch ha), (fun _ => rfl)⟩ (by simp) 0 0 0 rfl ⟨rfl, hm, h3⟩
    simpa using this

end Go.Proofs

/- PACK, part 5: Reader.Byte, Text, Bad, Done; Of; a number comes back. -/
set_option linter.all false
set_option linter.constructorNameAsVariable false
namespace Go.Proofs
open Go Go.KC

def rdByte (bad : Bool) (xs : List UInt8) : Int × Bool × List UInt8 :=
  match tkok bad 1 xs.length with
  | true => ((xs.headD 0).toNat, false, xs.drop 1)
  | false => (0, true, xs)

theorem Reader_Byte_spec {H : Hp} {b : Nat} {D : List Nat} {bad : Bool} {xs : List UInt8} (h : Rd H b D bad xs) :
    SCalls Try.prog pack_Reader_Byte.id [.pointer (some ⟨b, 0, none⟩)] H fun r H' => r = .int .u8 (rdByte bad xs).1 ∧ Mod (· = b) H H' ∧ Rd H' b D (rdByte bad xs).2.1 (rdByte bad xs).2.2 := by
  apply pack_Reader_Byte.calls
  refine (Reader_take_spec h).mono ?_
  rintro r H1 ⟨y, rfl, hm, hy⟩
  refine ⟨y, rfl, ?_⟩
  apply pack_Reader_Byte.l1.step
  unfold pack_Reader_Byte.l1.body rdByte
  cases ht : tkok bad 1 xs.length with
  | true =>
    rw [ht] at hy
    obtain ⟨h1, h2, h3⟩ := hy
    have hpos : 1 ≤ xs.length := by simp [tkok] at ht; omega
    have hl : y.len = 1 := by have := h1.1; simp at this; omega
    cases xs with
    | nil => simp at hpos
    | cons c t =>
      obtain ⟨a, ha, hc⟩ := h1.at (j := 0) (c := c) (by simp)
      rw [add_zero_of] at hc
      refine Br.yes (by simp; omega) ⟨⟨Int.le_refl _, by omega⟩, vPtr.mk a ha ⟨_, hc, rfl, hm, h3⟩⟩
  | false =>
    rw [ht] at hy
    obtain ⟨rfl, h3⟩ := hy
    exact Br.no (by simp) ⟨rfl, hm, h3⟩

def rdText (bad : Bool) (xs : List UInt8) : List UInt8 × Bool × List UInt8 :=
  let q := rdNum bad xs
  match tkok q.2.1 q.1 q.2.2.length with
  | true => (q.2.2.take q.1.toNat, false, q.2.2.drop q.1.toNat)
  | false => ([], true, q.2.2)

theorem Reader_Text_spec {H : Hp} {b : Nat} {D : List Nat} {bad : Bool} {xs : List UInt8} (h : Rd H b D bad xs) :
    SCalls Try.prog pack_Reader_Text.id [.pointer (some ⟨b, 0, none⟩)] H fun r H' => r = .string ⟨(rdText bad xs).1.toArray⟩ ∧ Mod (· = b) H H' ∧ Rd H' b D (rdText bad xs).2.1 (rdText bad xs).2.2 := by
  apply pack_Reader_Text.calls
  refine (Reader_Num_spec h).mono ?_
  rintro r H1 ⟨rfl, hm1, h1⟩
  refine ⟨_, rfl, ?_⟩
  refine (Reader_take_spec h1).mono ?_
  rintro r H2 ⟨y, rfl, hm2, hy⟩
  refine ⟨y, rfl, ?_⟩
  have hm : Mod (· = b) H H2 := hm1.trans hm2
  unfold rdText
  cases ht : tkok (rdNum bad xs).2.1 (rdNum bad xs).1 (rdNum bad xs).2.2.length with
  | true =>
    rw [ht] at hy
    obtain ⟨g1, g2, g3⟩ := hy
    simp only [ht]
    have hl : ((rdNum bad xs).2.2.take (rdNum bad xs).1.toNat).length = y.len := by have := g1.1; simpa using this
    cases hy0 : y.a with
    | none =>
      have e1 := g1.2.2.2 hy0
      have e2 := g1.2.1
      have e0 : (rdNum bad xs).2.2.take (rdNum bad xs).1.toNat = [] := List.eq_nil_of_length_eq_zero (by omega)
      refine ⟨?_, hm, g3⟩
      rw [e0]; rfl
    | some a =>
      refine ⟨⟨((rdNum bad xs).2.2.take (rdNum bad xs).1.toNat).toArray⟩, ⟨by show (List.toArray _).size = _; simpa using hl, ?_⟩, rfl, hm, g3⟩
      exact g1.2.2.1 a hy0
  | false =>
    rw [ht] at hy
    obtain ⟨rfl, g3⟩ := hy
    simp only [ht]
    exact ⟨rfl, hm, g3⟩

theorem Reader_Done_spec {H : Hp} {b : Nat} {D : List Nat} {bad : Bool} {xs : List UInt8} (h : Rd H b D bad xs) :
    SCalls Try.prog pack_Reader_Done.id [.pointer (some ⟨b, 0, none⟩)] H fun r H' => r = .bool (!bad && xs.isEmpty) ∧ H' = H := by
  obtain ⟨x, h1, h2, h3, h4⟩ := h
  have hlen : xs.length = x.len := by have := h2.1; simpa using this
  apply pack_Reader_Done.calls
  refine ⟨bad, by rw [Addr.add_loc, cell_of h1]; rfl, ?_⟩
  cases bad with
  | true => exact Br.no rfl ⟨rfl, rfl⟩
  | false =>
    refine Br.yes rfl ⟨x, by rw [cell_of h1]; rfl, ?_, rfl⟩
    cases xs with
    | nil => simp at hlen; simp [← hlen]
    | cons c t => simp at hlen; simp; omega

theorem Of_spec {H : Hp} {x : Sl} {D : List Nat} {xs : List UInt8} (h : Rows H x 1 (xs.map bv)) (hD : ∀ g ∈ x.blk, g ∈ D) (hlt : ∀ g ∈ D, g < H.size) :
    SCalls Try.prog pack_Of.id [.slice x.a x.len x.cap] H fun r H' => r = .pointer (some ⟨H.size, 0, none⟩) ∧ Mod (fun _ => False) H H' ∧ Rd H' H.size D false xs := by
  apply pack_Of.calls
  refine ⟨rfl, Mod.push _ _ _, x, get_push_new _ _, h.keep (Mod.push (fun _ => False) _ _) (fun _ _ h => h), hD, fun hin => Nat.lt_irrefl _ (hlt _ hin)⟩

end Go.Proofs

/- PACK, part 6: a number laid comes back. -/
set_option linter.all false
set_option linter.constructorNameAsVariable false
namespace Go.Proofs
open Go Go.KC

theorem emod_step (n q : Int) (hq : 0 < q) : n % (q * 256) = (n / q % 256) * q + n % q := by
  have h1 := Int.emod_add_mul_ediv n q
  have h2 := Int.emod_add_mul_ediv n (q * 256)
  have h3 : n / (q * 256) = n / q / 256 := (Int.ediv_ediv_of_nonneg (by omega)).symm
  have h4 : n / q = n / q % 256 + 256 * (n / q / 256) := by omega
  rw [h3] at h2
  generalize n / q / 256 = a' at h2 h4 ⊢
  generalize n / q % 256 = r' at h4 ⊢
  rw [h4, Int.mul_add] at h1
  rw [Int.mul_comm r' q]
  rw [Int.mul_assoc] at h2
  omega

theorem numOf_be (n : Int) : ∀ (k : Nat) (m : Int), w64 (numOf m (be n k)) = w64 (m * 256 ^ k + n % 256 ^ k) := by
  intro k
  induction k with
  | zero => intro m; simp [be, numOf, Int.emod_one]
  | succ k ih =>
    intro m
    have e : be n (k + 1) = byteAt n k :: be n k := rfl
    rw [e]
    show w64 (numOf (w64 (m * 256 + ((byteAt n k).toNat : Int))) (be n k)) = _
    rw [ih, w64_in, byteAt_toNat]
    have hp : (0 : Int) < 256 ^ k := Int.pow_pos (by omega)
    have e2 : (2 : Int) ^ (8 * k) = 256 ^ k := by rw [Int.pow_mul]; rfl
    rw [e2, Int.fdiv_eq_ediv_of_nonneg _ (by omega), Int.pow_succ, emod_step n _ hp, Int.add_mul, Int.mul_comm ((256 : Int) ^ k) 256, ← Int.mul_assoc, Int.add_assoc]

theorem numOf_range : ∀ (xs : List UInt8) (m : Int), -9223372036854775808 ≤ m → m ≤ 9223372036854775807 → -9223372036854775808 ≤ numOf m xs ∧ numOf m xs ≤ 9223372036854775807 := by
  intro xs
  induction xs with
  | nil => intro m h1 h2; exact ⟨h1, h2⟩
  | cons c t ih =>
    intro m _ _
    refine ih _ ?_ ?_
    · rw [w64_mod]; omega
    · rw [w64_mod]; omega

theorem numOf_be8 {n : Int} (h1 : -9223372036854775808 ≤ n) (h2 : n ≤ 9223372036854775807) : numOf 0 (be n 8) = n := by
  have h := numOf_be n 8 0
  have hr := numOf_range (be n 8) 0 (by omega) (by omega)
  rw [w64_id hr.1 hr.2] at h
  rw [h, w64_mod]
  omega

/-- A number laid ahead is what is read. -/
theorem rdNum_be {n : Int} (h1 : -9223372036854775808 ≤ n) (h2 : n ≤ 9223372036854775807) (t : List UInt8) : rdNum false (be n 8 ++ t) = (n, false, t) := by
  unfold rdNum
  have hl := be_length n 8
  have ht : tkok false 8 (be n 8 ++ t).length = true := by simp [tkok, hl]; omega
  rw [ht]
  simp only
  rw [List.take_left' hl, List.drop_left' hl, numOf_be8 h1 h2]

theorem rdByte_one (c : UInt8) (t : List UInt8) : rdByte false (c :: t) = ((c.toNat : Int), false, t) := by
  unfold rdByte
  have ht : tkok false 1 (c :: t).length = true := by simp [tkok]; omega
  rw [ht]; rfl

theorem rdText_text (s t : List UInt8) (hs : s.length ≤ 9223372036854775807) : rdText false (be (s.length : Int) 8 ++ (s ++ t)) = (s, false, t) := by
  unfold rdText
  rw [rdNum_be (by omega) (by omega)]
  have ht : tkok false ((s.length : Nat) : Int) (s ++ t).length = true := by simp [tkok]; omega
  simp only [ht]
  simp

theorem rdNum_true (xs : List UInt8) : rdNum true xs = (0, true, xs) := rfl

theorem rdByte_true (xs : List UInt8) : rdByte true xs = (0, true, xs) := rfl

theorem rdText_true (xs : List UInt8) : rdText true xs = ([], true, xs) := rfl

theorem rdNum_short {xs : List UInt8} (h : xs.length < 8) : rdNum false xs = (0, true, xs) := by
  unfold rdNum
  have : tkok false 8 xs.length = false := by simp [tkok]; omega
  rw [this]

theorem byteAt_zero (n : Int) : IntKind.u8.wrap n = ((byteAt n 0).toNat : Int) := by
  rw [wrapu8, byteAt_toNat]
  simp [Int.fdiv_one]

theorem one_byte {H : Hp} {c : UInt8} : vB2S (Array.push H (.cells #[.int .u8 (c.toNat : Int)] T_uint8)) (some (Addr.mk (Array.size H) 0 none)) 1 fun s => s = ByteArray.mk [c].toArray := by
  refine b2s_rows (x := ⟨some (Addr.mk (Array.size H) 0 none), 1, 1⟩) ⟨by simp, Nat.le_refl _, fun a ha => ?_, fun e => nomatch e⟩ rfl
  cases ha
  exact (src_byte (H := H) (c := c)).2

theorem Wr.new (H : Hp) : Wr (Array.push H (.cells #[.slice none 0 0] T_pack_Writer)) H.size [H.size] [] :=
  ⟨⟨none, 0, 0⟩, get_push_new _ _, Own.nil _ _ _, rfl, by simp [Sl.blk]⟩

end Go.Proofs
