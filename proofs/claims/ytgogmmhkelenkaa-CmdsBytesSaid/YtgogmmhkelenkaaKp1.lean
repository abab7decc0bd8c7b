/- PACK, part 1: what a Writer holds; its methods. -/
import Derived.Test.YtgogmmhkelenkaaT06
import Derived.Test.YtgogmmhkelenkaaKh2
set_option linter.all false
set_option linter.constructorNameAsVariable false
namespace Go.Proofs
open Go Go.KC

theorem und_bytes : Try.prog.underlying T_sl_uint8 = some (.slice T_uint8) := by kernel_rfl
theorem inf_u8 : (Try.prog.info? T_uint8).map (fun i => (i.zero, i.size, i.bytes)) = some (some (.int .u8 0), 1, 1) := by kernel_rfl
theorem u8_info : ∃ ti, Try.prog.info? T_uint8 = some ti ∧ ti.zero = some (.int .u8 0) ∧ ti.size = 1 ∧ ti.bytes = 1 := by
  have h := inf_u8
  cases hi : Try.prog.info? T_uint8 with
  | none => rw [hi] at h; simp at h
  | some ti => rw [hi] at h; simp at h; exact ⟨ti, rfl, h.1, h.2.1, h.2.2⟩

/-- The Writer in block b has laid xs. F: the blocks that are its own. -/
def Wr (H : Hp) (b : Nat) (F : List Nat) (xs : List UInt8) : Prop :=
  ∃ x : Sl, H[b]? = some (.cells #[.slice x.a x.len x.cap] T_pack_Writer (0, 0)) ∧ Own H x T_uint8 1 (xs.map bv) ∧ F = b :: x.blk ∧ b ∉ x.blk

theorem Wr.keep {m : Nat → Prop} {H H' : Hp} {b : Nat} {F : List Nat} {xs : List UInt8} (h : Wr H b F xs) (hm : Mod m H H') (hF : ∀ g ∈ F, ¬ m g) : Wr H' b F xs := by
  obtain ⟨x, h1, h2, rfl, h4⟩ := h
  exact ⟨x, hm.get h1 (hF b (by simp)), h2.keep hm (fun g hg => hF g (by simp [hg])), rfl, h4⟩
theorem Wr.lt {H : Hp} {b : Nat} {F : List Nat} {xs : List UInt8} (h : Wr H b F xs) : ∀ g ∈ F, g < H.size := by
  obtain ⟨x, h1, h2, rfl, h4⟩ := h
  intro g hg
  rcases List.mem_cons.1 hg with rfl | hg
  · exact lt_of_get h1
  · exact h2.lt g hg

theorem Wr.app {H H1 : Hp} {b : Nat} {x : Sl} {xs ys : List UInt8} {src : Value} {K : Hp → Prop} (h1 : H[b]? = some (.cells #[.slice x.a x.len x.cap] T_pack_Writer (0, 0))) (h2 : Own H x T_uint8 1 (xs.map bv)) (h4 : b ∉ x.blk)
    (hm : Mod (fun _ => False) H H1) (hs : SrcAt H1 1 (srcLen src) src (ys.map bv)) (hl : ys.length = srcLen src) (hb : xs.length + ys.length ≤ 140737488355328)
    (hK : ∀ H3 F', Wr H3 b F' (xs ++ ys) → Mod (· ∈ b :: x.blk) H H3 → (∀ g ∈ F', g ∈ b :: x.blk ∨ H.size ≤ g) → K H3) :
    vApp Try.prog T_sl_uint8 x.a x.len x.cap src H1 (fun ap H2 => WrAt H2 ⟨b, 0, none⟩ 1 ∧ K (Hp.setCell H2 ⟨b, 0, none⟩ (.slice ap.a ap.len ap.cap))) := by
  obtain ⟨ti, hi, hz, hsz, hby⟩ := u8_info
  have h2' := h2.keep hm (fun _ _ e => e)
  have h1' := hm.get h1 (fun e => e)
  have hlen : xs.length = x.len := by have := h2.1; simpa using this
  refine Own.app (e := T_uint8) (ti := ti) (z := .int .u8 0) (cs := xs.map bv) (news := ys.map bv) (by rw [hsz]; exact h2') und_bytes hi hz (by rw [hsz]; rfl) (by omega) (by rw [hsz]; exact hs) (by simp [hsz, hl]) (allOne_bv ys) (by rw [hby]; omega) ?_
  intro x' H2 ho hxl hmod hblk hne
  rw [hsz] at ho
  have g1 : H2[b]? = some (.cells #[.slice x.a x.len x.cap] T_pack_Writer (0, 0)) := hmod.get h1' (by exact h4)
  have hbx' : b ∉ x'.blk := fun hbx => by
    rcases hblk b hbx with h | h
    · exact h4 h
    · have := lt_of_get h1'; omega
  refine ⟨wr_one g1 (by simp), hK _ (b :: x'.blk) ⟨x', ?_, ?_, rfl, hbx'⟩ ?_ ?_⟩
  · have := get_setCell (o := 0) (.slice x'.a x'.len x'.cap) g1
    simpa using this
  · rw [List.map_append]
    exact ho.keep (Mod.setCell (m := (· = b)) H2 ⟨b, 0, none⟩ _ rfl) (fun g hg e => hbx' (e ▸ hg))
  · have m1 : Mod (· ∈ b :: x.blk) H1 H2 := hmod.mono fun g _ hg => List.mem_cons_of_mem _ hg
    exact (hm.mono (fun _ _ e => e.elim)).trans (m1.trans (Mod.setCell _ _ _ (by simp)))
  · intro g hg
    rcases List.mem_cons.1 hg with rfl | hg
    · exact Or.inl (by simp)
    · rcases hblk g hg with h | h
      · exact Or.inl (List.mem_cons_of_mem _ h)
      · exact Or.inr (by rw [h]; exact hm.size)

/-- What a method of a Writer does: the Writer again, ys behind what there was. -/
def WrPost (H : Hp) (b : Nat) (F : List Nat) (xs : List UInt8) (r : Value) (H' : Hp) : Prop :=
  r = .pointer (some ⟨b, 0, none⟩) ∧ ∃ F', Wr H' b F' xs ∧ Mod (· ∈ F) H H' ∧ ∀ g ∈ F', g ∈ F ∨ H.size ≤ g

theorem WrPost.trans {H H1 H2 : Hp} {b : Nat} {F F1 : List Nat} {xs : List UInt8} {r : Value} (hm : Mod (· ∈ F) H H1) (hF : ∀ g ∈ F1, g ∈ F ∨ H.size ≤ g) (h : WrPost H1 b F1 xs r H2) : WrPost H b F xs r H2 := by
  obtain ⟨hr, F', h1, h2, h3⟩ := h
  refine ⟨hr, F', h1, hm.trans' h2 (fun g hg hg1 => ?_), fun g hg => ?_⟩
  · rcases hF g hg1 with h | h
    · exact h
    · omega
  · rcases h3 g hg with h | h
    · exact hF g h
    · exact Or.inr (Nat.le_trans hm.size h)

theorem src_byte {H : Hp} {c : UInt8} : SrcAt (Array.push H (.cells #[.int .u8 (c.toNat : Int)] T_uint8)) 1 1 (.slice (some (Addr.mk (Array.size H) 0 none)) 1 1) [bv c] := by
  refine ⟨by simp, fun j v hj => ?_⟩
  have : j = 0 := by
    rcases j with _ | j
    · rfl
    · simp at hj
  subst this
  simp at hj
  subst hj
  rw [Addr.add_loc, cell_of (get_push_new H _)]
  rfl

theorem Writer_Byte_spec {H : Hp} {b : Nat} {F : List Nat} {xs : List UInt8} {c : UInt8} (h : Wr H b F xs) (hb : xs.length + 1 ≤ 140737488355328) :
    SCalls Try.prog pack_Writer_Byte.id [.pointer (some ⟨b, 0, none⟩), .int .u8 (c.toNat : Int)] H (WrPost H b F (xs ++ [c])) := by
  apply pack_Writer_Byte.calls
  obtain ⟨x, h1, h2, rfl, h4⟩ := h
  refine ⟨x, cell_of h1, ?_⟩
  refine Wr.app (ys := [c]) h1 h2 h4 (Mod.push _ _ _) src_byte rfl (by simpa using hb) ?_
  intro H3 F' hw hm hF
  exact ⟨rfl, F', hw, hm, hF⟩

theorem Writer_Bytes_spec {H : Hp} {b : Nat} {F : List Nat} {xs : List UInt8} (h : Wr H b F xs) (hb : xs.length ≤ 140737488355328) :
    SCalls Try.prog pack_Writer_Bytes.id [.pointer (some ⟨b, 0, none⟩)] H fun r H' => ∃ x : Sl, r = .slice x.a x.len x.cap ∧ Own H' x T_uint8 1 (xs.map bv) ∧ Mod (fun _ => False) H H' ∧ (∀ g ∈ x.blk, g = H.size) := by
  apply pack_Writer_Bytes.calls
  obtain ⟨x, h1, h2, rfl, h4⟩ := h
  refine ⟨x, cell_of h1, ?_⟩
  obtain ⟨ti, hi, hz, hsz, hby⟩ := u8_info
  have hlen : xs.length = x.len := by have := h2.1; simpa using this
  refine Own.app (x := ⟨none, 0, 0⟩) (e := T_uint8) (ti := ti) (z := .int .u8 0) (cs := []) (news := xs.map bv) (Own.nil _ _ _) und_bytes hi hz (by rw [hsz]; rfl) (by omega) (by rw [hsz]; exact h2.src) (by simp [hsz, hlen, srcLen]) (allOne_bv xs) (by simp only [srcLen]; rw [hby]; omega) ?_
  intro x' H2 ho hxl hmod hblk hne
  rw [hsz] at ho
  refine ⟨x', rfl, by simpa using ho, hmod.mono (fun g _ hg => by simp [Sl.blk] at hg), fun g hg => ?_⟩
  rcases hblk g hg with h | h
  · simp [Sl.blk] at h
  · exact h

end Go.Proofs
