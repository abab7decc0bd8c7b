/- LAYER 09: a file of entries: the law's part. -/
import Derived.Test.YtpdondaekinmdaaKb8
set_option linter.all false
set_option linter.constructorNameAsVariable false
namespace Go.Proofs
open Go Go.KC

/-- The bytes of a file of entries. -/
def ptB (fv : Int) (es : List En) : List UInt8 := flatF (hdB 2 fv fv :: es.map En.bytes)
def Fine (es : List En) : Prop := ∀ e ∈ es, e.cmd.small ∧ e.bytes.length ≤ 16384
theorem flat_small : ∀ {l : List (List UInt8)}, (∀ y ∈ l, y.length ≤ 16384) → (flatF l).length ≤ l.length * 16393
  | [], _ => Nat.le_refl _
  | y :: l, h => by
    have ih := flat_small fun z hz => h z (List.mem_cons_of_mem _ hz)
    have := h y (List.mem_cons_self)
    rw [flatF_cons, List.length_append, frB_len, List.length_cons]; omega
theorem Fine.bytes {fv : Int} {es : List En} (h : Fine es) : ∀ y ∈ hdB 2 fv fv :: es.map En.bytes, y.length ≤ 16384 := fun y hy => by
  rw [List.mem_cons, List.mem_map] at hy
  rcases hy with rfl | ⟨e, he, rfl⟩
  · rw [hdB_len]; omega
  · exact (h e he).2
theorem ptB_len {fv : Int} {es : List En} (h : Fine es) : (ptB fv es).length ≤ (es.length + 1) * 16393 := by
  have := flat_small (Fine.bytes (fv := fv) h)
  unfold ptB
  rw [List.length_cons, List.length_map] at this
  exact this
theorem ptB_take {fv : Int} {es : List En} {j : Nat} {e : En} (he : es[j]? = some e) : ptB fv (es.take (j + 1)) = ptB fv (es.take j) ++ frB e.bytes := by
  unfold ptB
  rw [List.take_add_one, he, List.map_append, ← List.cons_append, flatF_append]
  simp [flatF]

section
variable {H : Hp} {x : Sl} {es : List En} {fv : Int}
theorem part_loop {H0 : Hp} (hr : Rows H0 x 8 (es.map En.cells).flatten) (hl : es.length = x.len) (hf : Fine es) (hn : es.length ≤ 1000000) :
    ∀ (d j : Nat) (H1 : Hp) (b : Sl), j + d = es.length → Own H1 b T_uint8 1 ((ptB fv (es.take j)).map bv) → Mod (fun _ => False) H0 H1 → (∀ q ∈ b.blk, H0.size ≤ q) →
      tephralaw09_part.l1 J0 x H1 b (j : Int) (NewBytes H0 (ptB fv es)) := by
  intro d
  induction d with
  | zero =>
    intro j H1 b hj ho m hq
    have hjl : es.take j = es := List.take_of_length_le (by omega)
    rw [hjl] at ho
    apply tephralaw09_part.l1.step
    unfold tephralaw09_part.l1.body
    refine Br.mk (fun h => ?_) fun _ => ⟨b, rfl, ho, m, hq⟩
    have := of_decide_eq_true h; omega
  | succ d ih =>
    intro j H1 b hj ho m hq
    have hjl : j < es.length := by omega
    obtain ⟨e, he⟩ : ∃ e, es[j]? = some e := ⟨_, List.getElem?_eq_getElem hjl⟩
    have hee : es[j] = e := by rw [List.getElem?_eq_getElem hjl] at he; exact Option.some.inj he
    apply tephralaw09_part.l1.step
    unfold tephralaw09_part.l1.body
    refine Br.mk (fun h => ?_) fun h => ?_
    rotate_left
    · have := of_decide_eq_false h; omega
    have hc := hf e (List.mem_of_getElem? he)
    obtain ⟨a, ha, hrow⟩ := row_get (f := En.cells) (by omega) (fun _ => rfl) (hr.keep m fun _ _ e => e) hjl
    rw [hee] at hrow
    refine ⟨⟨by omega, of_decide_eq_true h⟩, vPtr.mk a ha ⟨_, _, _, _, _, _, _, _, by rw [Int.toNat_natCast]; exact hrow, ?_⟩⟩
    rintro H3 rfl
    refine (Entry_spec (e := e) hc.1 hc.2).mono ?_
    rintro r H4 ⟨w, rfl, o2, m2, f2⟩
    have m02 : Mod (fun _ => False) H1 H4 := (Mod.holes _ _ _).trans m2
    have hwl : (frB e.bytes).length = w.len := by have := o2.1; simpa using this
    have hfl := frB_len e.bytes
    have htake := ptB_len (fv := fv) (es := es.take j) fun e he => hf e (List.mem_of_mem_take he)
    rw [List.length_take] at htake
    refine ⟨w, rfl, app_bytes9 (ho.keep m02 fun _ _ e => e) (src := .slice w.a w.len w.cap) (ys := frB e.bytes) (rows_src (Own.rows o2)) hwl (by omega) fun ap H5 o5 m5 b5 => ?_⟩
    have e1 : w64 ((j : Int) + 1) = ((j + 1 : Nat) : Int) := by rw [w64_id (by omega) (by omega)]; rfl
    rw [e1]
    have s1 := m.size
    have s2 := m02.size
    refine ih (j + 1) H5 ap (by omega) (by rw [ptB_take he]; exact o5) ((m.trans m02).trans' m5 fun q hq' h => by have := hq q h; omega) fun q hq' => ?_
    rcases b5 q hq' with h | h
    · exact hq q h
    · omega
theorem part_spec (hr : Rows H x 8 (es.map En.cells).flatten) (hl : es.length = x.len) (hf : Fine es) (hn : es.length ≤ 1000000) : SCalls Try.prog tephralaw09_part.id [.slice x.a x.len x.cap, .int .i64 fv] H (NewBytes H (ptB fv es)) := by
  apply tephralaw09_part.calls
  unfold tephralaw09_part.vc
  refine Part_spec.mono ?_
  rintro r H1 ⟨w, rfl, o, m, f⟩
  refine ⟨w, rfl, ?_⟩
  exact part_loop (fv := fv) hr hl hf hn es.length 0 H1 w (by omega) (by rw [List.take_zero]; simpa [ptB, flatF] using o) m f
end
end Go.Proofs
