/- LAYER 09: ImageOrder (its awake asked). -/
import Derived.Test.YtpdondaekinmdaaKb10
set_option linter.all false
set_option linter.constructorNameAsVariable false
namespace Go.Proofs
open Go Go.KC

def Fit5 (l : List En) : Prop := ∀ e ∈ l, e.bytes.length ≤ 500
theorem Fit5.fine {l : List En} (h : Fit5 l) : Fine l := fun e he => by
  have := h e he
  have hb := e.bytes_length
  exact ⟨by unfold Cm.small; omega, by omega⟩
/-- All entries' bytes are an entry's that may be. -/
def allRd (l : List En) : Bool := l.all fun e => (rdEn e.bytes).2
theorem allRd_iff {l : List En} : allRd l = true ↔ ∀ e ∈ l, (rdEn e.bytes).2 = true := by unfold allRd; simp
theorem allRd_succ {l : List En} {j : Nat} {e : En} (he : l[j]? = some e) : allRd (l.take (j + 1)) = (allRd (l.take j) && (rdEn e.bytes).2) := by
  unfold allRd
  rw [List.take_add_one, he, List.all_append]; simp

section
variable {H : Hp}
theorem copy_ents {x : Sl} {es : List En} {K : Sl → Hp → Prop} (h : Rows H x 8 (es.map En.cells).flatten) (hl : es.length = x.len) (hx : x.len ≤ 1000000) (hK : ∀ y H', Own H' y T_api_Entry 8 (es.map En.cells).flatten → y.len = x.len → Mod (fun _ => False) H H' → (∀ q ∈ y.blk, H.size ≤ q) → K y H') :
    vApp Try.prog T_sl_api_Entry none 0 0 (.slice x.a x.len x.cap) H K := by
  obtain ⟨ti, hi, hz, hsz, hby⟩ := en_info
  have hsrc : SrcAt H 8 x.len (.slice x.a x.len x.cap) (es.map En.cells).flatten := by
    cases hx : x.a with
    | none =>
      have h0 := h.2.2.2 hx
      have h2 := h.2.1
      have he : es = [] := List.eq_nil_of_length_eq_zero (by omega)
      rw [he]; exact rfl
    | some a => exact ⟨by rw [flat_length (f := En.cells) (k := 8) (fun _ => rfl)]; omega, h.2.2.1 a hx⟩
  refine Own.app (x := ⟨none, 0, 0⟩) (e := T_api_Entry) (ti := ti) (z := En.zero.val) (cs := []) (news := (es.map En.cells).flatten) (Own.nil _ _ _) und_ents hi hz (by rw [hsz]; rfl) (by omega) (by rw [hsz]; exact hsrc)
    (by rw [hsz, flat_length (f := En.cells) (k := 8) (fun _ => rfl)]; simp only [srcLen]; omega) (allOne_ents es) (by simp only [srcLen]; rw [hby]; omega) ?_
  intro y H2 hy hyl hm hyb _
  rw [hsz, List.nil_append] at hy
  refine hK y H2 hy (by simpa [srcLen] using hyl) (hm.mono fun g _ hg => by simp [Sl.blk] at hg) fun g hg => ?_
  rcases hyb g hg with h | h
  · simp [Sl.blk] at h
  · omega

variable {fv : Int} {i1 i2 i3 i4 i5 : Int} {s1 s2 s3 : ByteArray}
theorem order_k2 {H6 : Hp} (m0 : Mod (fun _ => False) H H6) {x : Sl} {l : List En} (hr : Rows H6 x 8 (l.map En.cells).flatten) (hl : l.length = x.len) (hn : l.length ≤ 80) (hf : Fit5 l) (hfv : 0 ≤ fv ∧ fv < 65536) :
    tephralaw09_ImageOrder.k2 J0 fv i1 i2 i3 i4 i5 s1 s2 s3 x H6 (trueQ H) := by
  apply tephralaw09_ImageOrder.k2.step
  unfold tephralaw09_ImageOrder.k2.body
  rw [w64_id (x := fv) (by omega) (by omega), w64_id (x := fv + 1) (by omega) (by omega)]
  refine (part_spec (fv := fv) hr hl hf.fine (by omega)).mono ?_
  rintro r H7 ⟨b, rfl, o7, m7, -⟩
  have hbl := ptB_len500 (fv := fv) hf
  refine ⟨b, rfl, (ReadPart_spec (fv := fv) (by omega) (Own.rows o7) (by omega)).mono ?_⟩
  rintro r H8 ⟨m8, hp⟩
  have m78 := m7.trans m8
  have hfr : frames (ptB fv l) = (hdB 2 fv fv :: l.map En.bytes, (ptB fv l).length) := frames_flat (Fine.smallHd hf.fine)
  -- what is told
  have told : ∃ (out : Sl) (n c : Int), r = .tuple #[.slice out.a out.len out.cap, .int .i64 n, .int .i64 c] ∧ (RowsOf l (fv + 1) → c = 0 ∧ out.len = x.len) ∧ (allRd l = false → c = 10) ∧ (c = 10 ∨ out.len = x.len) := by
    rcases hp with ⟨es', n, out, hp, rfl, -, h6, -⟩ | ⟨hno, rfl⟩
    · have h1 := hp.1
      rw [hfr] at h1
      injection h1 with h1 h2
      injection h1 with _ h1
      have hlen : out.len = x.len := by
        have := congrArg List.length h1
        simp at this
        omega
      refine ⟨out, _, 0, rfl, fun _ => ⟨rfl, hlen⟩, fun h => ?_, Or.inr hlen⟩
      have : allRd l = true := allRd_iff.2 fun e he => by
        have : e.bytes ∈ es'.map En.bytes := h1 ▸ List.mem_map.2 ⟨e, he, rfl⟩
        exact (map_rd hp.2.right).2 _ this
      rw [this] at h
      exact Bool.noConfusion h
    · refine ⟨⟨none, 0, 0⟩, 0, 10, rfl, fun hR => absurd ⟨hfr, by rw [w64_id (by omega) (by omega)]; exact hR⟩ (hno l _), fun _ => rfl, Or.inl rfl⟩
  obtain ⟨out, n, c, rfl, t1, t2, t3⟩ := told
  refine ⟨out, n, c, rfl, ?_⟩
  have r8 := hr.keep m78 fun _ _ e => e
  refine (Row_spec (n := fv + 1) r8 hl (by omega)).mono ?_
  rintro r H9 ⟨rfl, m9⟩
  refine ⟨_, rfl, ?_⟩
  have r9 := r8.keep m9 fun _ _ e => e
  have m09 := (m0.trans m78).trans m9
  suffices h : ∀ (d j : Nat) (H10 : Hp), j + d = l.length → Mod (fun _ => False) H9 H10 → tephralaw09_ImageOrder.l1 J0 i1 i2 i3 i4 i5 s1 s2 s3 x out c (decide (RowsOf l (fv + 1))) H10 (allRd (l.take j)) (j : Int) (trueQ H) by
    exact h l.length 0 H9 (by omega) (Mod.refl _ _)
  intro d
  induction d with
  | zero =>
    intro j H10 hj m10
    have hjl : l.take j = l := List.take_of_length_le (by omega)
    rw [hjl]
    have fin : trueQ H (.bool true) H10 := ⟨rfl, m09.trans m10⟩
    apply tephralaw09_ImageOrder.l1.step
    unfold tephralaw09_ImageOrder.l1.body
    refine Br.mk (fun h => ?_) fun _ => ?_
    · have := of_decide_eq_true h; omega
    refine Br.mk (fun hR => ?_) fun hR => ?_
    · obtain ⟨rfl, ho⟩ := t1 (of_decide_eq_true hR)
      refine Br.yes rfl ?_
      rw [ho]
      have : (((x.len : Nat) : Int) == ((x.len : Nat) : Int)) = true := by simp
      rw [this]; exact fin
    · have k7 : allRd l = true → tephralaw09_ImageOrder.k4 J0 i1 i2 i3 i4 i5 s1 s2 s3 x out c H10 true false (trueQ H) := fun ha => by
        apply tephralaw09_ImageOrder.k4.step
        unfold tephralaw09_ImageOrder.k4.body
        refine Br.no rfl (Br.yes rfl (Br.mk (fun h => ?_) fun h => ?_))
        · apply tephralaw09_ImageOrder.k6.step
          exact fin
        · apply tephralaw09_ImageOrder.k6.step
          have : out.len = x.len := t3.resolve_left fun h' => by rw [h'] at h; exact Bool.noConfusion h
          unfold tephralaw09_ImageOrder.k6.body
          rw [this]
          have : (((x.len : Nat) : Int) == ((x.len : Nat) : Int)) = true := by simp
          rw [this]; exact fin
      cases ha : allRd l with
      | false =>
        refine Br.yes rfl ?_
        rw [t2 ha]
        apply tephralaw09_ImageOrder.k4.step
        unfold tephralaw09_ImageOrder.k4.body
        refine Br.yes rfl ?_
        apply tephralaw09_ImageOrder.k5.step
        exact fin
      | true => exact Br.no rfl (k7 ha)
  | succ d ih =>
    intro j H10 hj m10
    have hjl : j < l.length := by omega
    obtain ⟨e, he⟩ : ∃ e, l[j]? = some e := ⟨_, List.getElem?_eq_getElem hjl⟩
    have hee : l[j] = e := by rw [List.getElem?_eq_getElem hjl] at he; exact Option.some.inj he
    apply tephralaw09_ImageOrder.l1.step
    unfold tephralaw09_ImageOrder.l1.body
    refine Br.mk (fun h => ?_) fun h => ?_
    rotate_left
    · have := of_decide_eq_false h; omega
    have hc := hf.fine e (List.mem_of_getElem? he)
    obtain ⟨a, ha, hrow⟩ := row_get (f := En.cells) (by omega) (fun _ => rfl) (r9.keep m10 fun _ _ e => e) hjl
    rw [hee] at hrow
    refine ⟨⟨by omega, of_decide_eq_true h⟩, vPtr.mk a ha ⟨_, _, _, _, _, _, _, _, by rw [Int.toNat_natCast]; exact hrow, ?_⟩⟩
    rintro H3 rfl
    refine (cmBytes_spec (e := e) hc.1).mono ?_
    rintro r H4 ⟨w, rfl, o2, m2, f2⟩
    refine ⟨w, rfl, (cmRead_spec (Own.rows o2) (Own.lt o2)).mono ?_⟩
    rintro r H5 ⟨rfl, m5⟩
    refine ⟨_, _, _, _, _, _, _, _, _, rfl, ?_⟩
    rintro H11 rfl
    have mm : Mod (fun _ => False) H9 (holes H5 1) := (((m10.trans (Mod.holes _ _ _)).trans m2).trans m5).trans (Mod.holes _ _ _)
    have e1 : w64 ((j : Int) + 1) = ((j + 1 : Nat) : Int) := by rw [w64_id (by omega) (by omega)]; rfl
    have nx : tephralaw09_ImageOrder.k3 J0 i1 i2 i3 i4 i5 s1 s2 s3 x out c (decide (RowsOf l (fv + 1))) (j : Int) (holes H5 1) (allRd (l.take j) && (rdEn e.bytes).2) (trueQ H) := by
      apply tephralaw09_ImageOrder.k3.step
      unfold tephralaw09_ImageOrder.k3.body
      rw [e1, ← allRd_succ he]
      exact ih (j + 1) _ (by omega) mm
    cases hrd : allRd (l.take j) with
    | true => rw [hrd] at nx; exact Br.yes rfl nx
    | false => rw [hrd] at nx; exact Br.no rfl nx

theorem ImageOrder_spec (hA : AwakeT) {says : Sl} {ss : List Sy} {fr at' : UInt8} {turn : En} (hr : Rows H says 6 (ss.map Sy.cells).flatten) (hl : ss.length = says.len) :
    SCalls Try.prog tephralaw09_ImageOrder.id [.slice says.a says.len says.cap, .int .u8 (fr.toNat : Int), .int .u8 (at'.toNat : Int), turn.val] H (trueQ H) := by
  apply tephralaw09_ImageOrder.calls
  unfold tephralaw09_ImageOrder.vc
  rintro H1 rfl
  have hfr := fr.toNat_lt
  have hat := at'.toNat_lt
  rw [w64_id (x := (fr.toNat : Int)) (by omega) (by omega), w64_id (x := (fr.toNat : Int) + 1) (by omega) (by omega)]
  have m0 : Mod (fun _ => False) H (holes H 1) := Mod.holes _ _ _
  refine (hA _).mono ?_
  rintro r H2 ⟨rfl, m1⟩
  have m2 := m0.trans m1
  refine ⟨true, rfl, Br.no rfl ((Entries_spec (hr.keep m2 fun _ _ e => e) hl).mono ?_)⟩
  rintro r H3 ⟨x, rfl, o3, l3, f3, b3⟩
  generalize hes : ents (ss.take 80) ((fr.toNat : Int) + 1) 1 = es at o3 l3
  have h80 : (ss.take 80).length ≤ 80 := by rw [List.length_take]; omega
  have hes80 : es.length ≤ 80 := by rw [← hes, ents_length]; exact h80
  have hR : RowsOf es ((fr.toNat : Int) + 1) := by rw [← hes]; exact ents_row (by omega) (by omega) (by omega) (by omega)
  have m3 := m2.trans f3.mod
  have hf5 : Fit5 es := hR.len500
  refine ⟨x, rfl, ⟨by split <;> omega, by split <;> omega⟩, ⟨by split <;> omega, by split <;> omega⟩, ⟨by split <;> omega, by split <;> omega⟩, ?_⟩
  apply tephralaw09_ImageOrder.k1.step
  unfold tephralaw09_ImageOrder.k1.body
  refine Br.mk (fun hp => ?_) (fun hp => order_k2 m3 (Own.rows o3) l3.symm hes80 hf5 (by omega))
  have hp' : 0 < x.len := by have := of_decide_eq_true hp; omega
  refine copy_ents (Own.rows o3) l3.symm (by omega) fun ap H4 o4 l4 m4 b4 => ?_
  rw [w64_id (x := (at'.toNat : Int)) (by omega) (by omega)]
  have cut : ∀ s : ByteArray, (s.extract 0 (((if (100 : Int) < ((s.size : Nat) : Int) then 100 else ((s.size : Nat) : Int)) : Int).toNat)).size ≤ 100 := fun s => by
    rw [ByteArray.size_extract]
    split <;> omega
  have c1 := cut turn.cmd.key
  have c2 := cut turn.cmd.value
  have c3 := cut turn.cmd.old
  generalize turn.cmd.key.extract 0 (((if (100 : Int) < ((turn.cmd.key.size : Nat) : Int) then 100 else ((turn.cmd.key.size : Nat) : Int)) : Int).toNat) = k1 at c1 ⊢
  generalize turn.cmd.value.extract 0 (((if (100 : Int) < ((turn.cmd.value.size : Nat) : Int) then 100 else ((turn.cmd.value.size : Nat) : Int)) : Int).toNat) = k2 at c2 ⊢
  generalize turn.cmd.old.extract 0 (((if (100 : Int) < ((turn.cmd.old.size : Nat) : Int) then 100 else ((turn.cmd.old.size : Nat) : Int)) : Int).toNat) = k3 at c3 ⊢
  clear cut
  obtain ⟨tn, htn0⟩ : ∃ tn : En, tn = ⟨turn.index, turn.term, ⟨turn.cmd.op, turn.cmd.client, turn.cmd.seq, k1, k2, k3⟩⟩ := ⟨_, rfl⟩
  have htn : tn.bytes.length ≤ 500 := by
    rw [En.bytes_length, htn0]
    show 57 + k1.size + k2.size + k3.size ≤ 500
    omega
  have hcells : [.int .i64 turn.index, .int .i64 turn.term, .int .i64 turn.cmd.op, .int .i64 turn.cmd.client, .int .i64 turn.cmd.seq, .string k1, .string k2, .string k3] = tn.cells := by rw [htn0]; rfl
  rw [hcells]
  have hm : at'.toNat % ap.len < ap.len := Nat.mod_lt _ (by omega)
  rw [tmodN]
  simp only [Int.toNat_natCast]
  obtain ⟨a, ha, hw, hput, mput⟩ := own_put (new := tn.cells) o4 hm rfl (by omega)
  rw [← flat_set (f := En.cells) (k := 8) (fun _ => rfl) es _ tn (by omega)] at hput
  refine ⟨by omega, ⟨by omega, by omega⟩, vPtr.mk a ha ⟨hw, ?_⟩⟩
  intro H5 h5
  have m5 : Mod (fun _ => False) H H5 := by
    rw [h5]
    exact (m3.trans m4).trans' mput fun q hq h => by
      have := b4 q h
      have := m3.size
      omega
  have hrr : Rows H5 ap 8 ((es.set (at'.toNat % ap.len) tn).map En.cells).flatten := by rw [h5]; exact Own.rows hput
  clear hput mput hw h5
  have hset : Fit5 (es.set (at'.toNat % ap.len) tn) := fun e he => by
    rcases List.mem_or_eq_of_mem_set he with h | rfl
    · exact hf5 e h
    · exact htn
  have hln : (es.set (at'.toNat % ap.len) tn).length = ap.len := by rw [List.length_set]; omega
  exact order_k2 m5 hrr hln (by omega) hset (by omega)
end
end Go.Proofs
