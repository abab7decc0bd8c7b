/- LAYER 06: CmdsBytes. -/
import Derived.Test.YtgogmmhkelenkaaKq5
set_option linter.all false
set_option linter.constructorNameAsVariable false
namespace Go.Proofs
open Go Go.KC

/-- A slice has entries. -/
def Lr (H : Hp) (x : Sl) (es : List En) : Prop := Rows H x 8 (es.map En.cells).flatten
theorem Lr.get {H : Hp} {x : Sl} {es : List En} (h : Lr H x es) {j : Nat} (hj : j < es.length) : ∃ a, x.a = some a ∧ RowAt H (a.add (j * 8)) (es[j]).cells :=
  row_get (k := 8) (f := En.cells) (by omega) (fun _ => rfl) h hj
theorem Lr.mod {H H' : Hp} {x : Sl} {es : List En} (h : Lr H x es) (m : Mod (fun _ => False) H H') : Lr H' x es := Rows.keep h m fun _ _ e => e

/-- An entry that lies in a block is laid behind entries. -/
theorem ents_app' {H : Hp} {x : Sl} {es : List En} {e : En} {q : Nat} {K : Sl → Hp → Prop} (h : Own H x T_api_Entry 8 (es.map En.cells).flatten) (hq : H[q]? = some (.cells e.cells.toArray T_api_Entry (0, 0))) (hl : x.len ≤ 1000000)
    (hK : ∀ x' H', Own H' x' T_api_Entry 8 ((es ++ [e]).map En.cells).flatten → x'.len = x.len + 1 → Mod (· ∈ x.blk) H H' → (∀ b ∈ x'.blk, b ∈ x.blk ∨ H.size ≤ b) → K x' H') :
    vApp Try.prog T_sl_api_Entry x.a x.len x.cap (.slice (some (Addr.mk q 0 none)) 1 1) H K := by
  obtain ⟨ti, hi, hz, hsz, hby⟩ := en_info
  have hsrc : SrcAt H 8 1 (.slice (some (Addr.mk q 0 none)) 1 1) e.cells := by
    refine ⟨by show 8 = 8 * 1; omega, fun j v hj => ?_⟩
    rw [Addr.add_loc, cell_of hq, Nat.zero_add]
    simpa using hj
  refine Own.app (e := T_api_Entry) (ti := ti) (z := En.zero.val) (cs := (es.map En.cells).flatten) (news := e.cells) (by rw [hsz]; exact h) und_ents hi hz (by rw [hsz]; rfl) (by omega) (by rw [hsz]; exact hsrc) (by rw [hsz]; rfl) (by have := allOne_ents [e]; simpa using this) (by simp only [srcLen]; rw [hby]; omega) ?_
  intro x' H2 ho hxl hmod hblk _
  rw [hsz] at ho
  exact hK x' H2 (by rw [List.map_append, List.flatten_append]; simpa using ho) hxl hmod fun b hb => (hblk b hb).imp id fun h => by omega

section
variable {H H0 : Hp}
theorem right_step {e : En} {b : Bool} {K : Bool → Hp → Prop} {H' : Hp} (hb : decide e.Right = b) (hf : Mod (fun _ => False) H0 H') (hK : ∀ H'', Mod (fun _ => False) H0 H'' → K b H'') :
    SCalls Try.prog tephralaw06_right.id [.agg #[.int .i64 e.index, .int .i64 e.term, .int .i64 e.cmd.op, .int .i64 e.cmd.client, .int .i64 e.cmd.seq, .string e.cmd.key, .string e.cmd.value, .string e.cmd.old]] H' fun r H'' => ∃ x : Bool, r = .bool x ∧ K x H'' := by
  refine (law_right_spec (e := e)).mono ?_
  rintro r H1 ⟨rfl, m1⟩
  rw [hb]
  exact ⟨_, rfl, hK H1 (hf.trans m1)⟩
theorem lbytes_step {e : En} {xs : List UInt8} {K : ByteArray → Hp → Prop} {H' : Hp} (hc : e.cmd.small) (he : e.bytes = xs) (hf : Mod (fun _ => False) H0 H') (hK : ∀ H'', Mod (fun _ => False) H0 H'' → K ⟨xs.toArray⟩ H'') :
    SCalls Try.prog tephralaw06_bytes.id [.agg #[.int .i64 e.index, .int .i64 e.term, .int .i64 e.cmd.op, .int .i64 e.cmd.client, .int .i64 e.cmd.seq, .string e.cmd.key, .string e.cmd.value, .string e.cmd.old]] H' fun r H'' => ∃ x : ByteArray, r = .string x ∧ K x H'' := by
  refine (law_bytes_spec (e := e) hc).mono ?_
  rintro r H1 ⟨rfl, m1⟩
  rw [he]
  exact ⟨_, rfl, hK H1 (hf.trans m1)⟩

theorem CmdsBytes_spec {says : Sl} {ss : List Sy} {e : En} (hr : Rows H says 6 (ss.map Sy.cells).flatten) (hl : ss.length = says.len) :
    SCalls Try.prog tephralaw06_CmdsBytes.id [e.val, .slice says.a says.len says.cap] H (trueQ H) := by
  apply tephralaw06_CmdsBytes.calls (eIndex := e.index) (eTerm := e.term) (eCmdOp := e.cmd.op) (eCmdClient := e.cmd.client) (eCmdSeq := e.cmd.seq) (eCmdKey := e.cmd.key) (eCmdValue := e.cmd.value) (eCmdOld := e.cmd.old)
  unfold tephralaw06_CmdsBytes.vc
  refine law_awake (n := 1) fun H1 m1 => ⟨⟨by split <;> omega, by split <;> omega⟩, ⟨by split <;> omega, by split <;> omega⟩, ⟨by split <;> omega, by split <;> omega⟩, ?_⟩
  obtain ⟨e', he'⟩ : ∃ e' : En, e' = ⟨e.index, e.term, ⟨e.cmd.op, e.cmd.client, e.cmd.seq, e.cmd.key.extract 0 ((if (100 : Int) < ((e.cmd.key.size : Nat) : Int) then 100 else ((e.cmd.key.size : Nat) : Int)).toNat), e.cmd.value.extract 0 ((if (100 : Int) < ((e.cmd.value.size : Nat) : Int) then 100 else ((e.cmd.value.size : Nat) : Int)).toNat), e.cmd.old.extract 0 ((if (100 : Int) < ((e.cmd.old.size : Nat) : Int) then 100 else ((e.cmd.old.size : Nat) : Int)).toNat)⟩⟩ := ⟨_, rfl⟩
  have cut : ∀ s : ByteArray, (s.extract 0 ((if (100 : Int) < ((s.size : Nat) : Int) then 100 else ((s.size : Nat) : Int)).toNat)).size ≤ 100 := fun s => by
    rw [ByteArray.size_extract]; split <;> omega
  have hsm' : e'.cmd.small := by
    rw [he']; unfold Cm.small
    have := cut e.cmd.key; have := cut e.cmd.value; have := cut e.cmd.old
    dsimp only; omega
  have hlen : (ents (ss.take 80) 1 0).length ≤ 80 := by rw [ents_length]; simp; omega
  have hR : RowsOf (ents (ss.take 80) 1 0) 1 := ents_row (by omega) (by simp; omega) (by omega) (by simp; omega)
  obtain ⟨es, hes⟩ : ∃ es, es = ents (ss.take 80) 1 0 := ⟨_, rfl⟩
  have hsm : ∀ x ∈ es ++ [e'], x.cmd.small := fun x hx => by
    rcases List.mem_append.1 hx with h | h
    · obtain ⟨j, hj, rfl⟩ := List.getElem_of_mem h
      rw [← hes] at hR
      exact (hR j hj).1.2.2.2.2.small
    · simp at h; rw [h]; exact hsm'
  have k2 : ∀ {H3 : Hp} {ap : Sl}, Own H3 ap T_api_Entry 8 ((es ++ [e']).map En.cells).flatten → ap.len = es.length + 1 → Mod (fun _ => False) H H3 →
      tephralaw06_CmdsBytes.k2 J0 e.index e.term e.cmd.op e.cmd.client e.cmd.seq e.cmd.key e.cmd.value e.cmd.old ap ((ap.len : Nat) : Int) H3 (trueQ H) := by
    intro H3 ap ho hal m3
    apply tephralaw06_CmdsBytes.k2.step; unfold tephralaw06_CmdsBytes.k2.body
    rw [← hes] at hlen
    have lr : Lr H3 ap (es ++ [e']) := Own.rows ho
    generalize hL : es ++ [e'] = L at lr hsm
    have hLl : L.length = ap.len := by rw [← hL]; simp [hal]
    have loop : ∀ (n j : Nat) (H7 : Hp), j + n = L.length → Mod (fun _ => False) H3 H7 → tephralaw06_CmdsBytes.l1 J0 e.index e.term e.cmd.op e.cmd.client e.cmd.seq e.cmd.key e.cmd.value e.cmd.old ap ((ap.len : Nat) : Int) H7 (j : Int) (trueQ H) := by
      intro n
      induction n with
      | zero =>
        intro j H7 hj m
        apply tephralaw06_CmdsBytes.l1.step; unfold tephralaw06_CmdsBytes.l1.body
        exact Br.no (by simp; omega) ⟨rfl, m3.trans m⟩
      | succ n ih =>
        intro j H7 hj m
        apply tephralaw06_CmdsBytes.l1.step; unfold tephralaw06_CmdsBytes.l1.body
        have hjl : j < L.length := by omega
        obtain ⟨a, ha, hrow⟩ := (lr.mod m).get hjl
        have hsx := hsm L[j] (List.getElem_mem hjl)
        generalize L[j] = x at hrow hsx
        refine Br.yes (by simp; omega) ⟨⟨by omega, by omega⟩, vPtr.mk a ha ⟨x.index, x.term, x.cmd.op, x.cmd.client, x.cmd.seq, x.cmd.key, x.cmd.value, x.cmd.old, by simpa [En.cells] using hrow, ?_⟩⟩
        refine (Bytes_spec (e := x) hsx).mono ?_
        rintro r H8 ⟨b, rfl, hob, m8, hb8⟩
        refine ⟨b, rfl, ?_⟩
        refine (Read_spec (Own.rows hob) (Own.lt hob)).mono ?_
        rintro r H9 ⟨rfl, m9⟩
        refine ⟨_, _, _, _, _, _, _, _, _, rfl, ?_⟩
        have m79 : Mod (fun _ => False) H7 H9 := ((Mod.holes _ _ 1).trans m8).trans m9
        have hrow9 : Rows H9 b 1 (x.bytes.map bv) := (Own.rows hob).keep m9 fun _ _ e => e
        have vb : ∀ {H' : Hp} {K : ByteArray → Prop}, Mod (fun _ => False) H9 H' → K ⟨x.bytes.toArray⟩ → vB2S H' b.a b.len K := fun m' hK => by
          refine b2s_imp (b2s_rows (hrow9.keep m' fun _ _ e => e) rfl) ?_
          rintro _ rfl; exact hK
        have next : ∀ {H' : Hp} {i1 t1 o1 c1 s1 : Int} {k1 v1 l1 : ByteArray}, Mod (fun _ => False) H9 H' → tephralaw06_CmdsBytes.k3 J0 e.index e.term e.cmd.op e.cmd.client e.cmd.seq e.cmd.key e.cmd.value e.cmd.old ap ((ap.len : Nat) : Int) (j : Int) x.index x.term x.cmd.op x.cmd.client x.cmd.seq x.cmd.key x.cmd.value x.cmd.old i1 t1 o1 c1 s1 k1 v1 l1 false H' (trueQ H) := fun {H' i1 t1 o1 c1 s1 k1 v1 l1} m' => by
          apply tephralaw06_CmdsBytes.k3.step; unfold tephralaw06_CmdsBytes.k3.body
          refine Br.no rfl ?_
          rw [w64_id (x := (j : Int) + 1) (by omega) (by omega)]
          have := ih (j + 1) H' (by omega) (m.trans (m79.trans m'))
          simpa using this
        have hs : (!((⟨x.bytes.toArray⟩ : ByteArray).toList == (⟨x.bytes.toArray⟩ : ByteArray).toList)) = false := by simp
        by_cases hxR : x.Right
        · have hrd := rdEn_bytes hxR
          rw [hrd]
          have eq : (!((x.index == x.index) && ((x.term == x.term) && (((x.cmd.op == x.cmd.op) && ((x.cmd.client == x.cmd.client) && ((x.cmd.seq == x.cmd.seq) && ((x.cmd.key == x.cmd.key) && ((x.cmd.value == x.cmd.value) && ((x.cmd.old == x.cmd.old) && true)))))) && true)))) = false := by
            rw [en_beq, decide_eq_true rfl]; rfl
          have hd := decide_eq_true hxR
          dsimp only
          repeat' first
            | with_reducible apply And.intro
            | with_reducible refine vb (by first | assumption | exact Mod.refl _ _ | exact Mod.holes _ _ _ | exact Mod.trans (by assumption) (Mod.holes _ _ _)) ?_
            | with_reducible refine lbytes_step (H0 := H9) hsx rfl (by first | assumption | exact Mod.refl _ _ | exact Mod.holes _ _ _ | exact Mod.trans (by assumption) (Mod.holes _ _ _)) fun H' m' => ?_
            | with_reducible refine right_step (H0 := H9) hd (by first | assumption | exact Mod.refl _ _ | exact Mod.holes _ _ _ | exact Mod.trans (by assumption) (Mod.holes _ _ _)) fun H' m' => ?_
            | with_reducible refine Br.no hs ?_
            | with_reducible refine Br.no eq ?_
            | refine Br.yes (rfl : true = true) ?_
            | refine Br.no (rfl : (!true) = false) ?_
            | exact next (by first | assumption | exact Mod.refl _ _ | exact Mod.holes _ _ _ | exact Mod.trans (by assumption) (Mod.holes _ _ _))
        · have hd : decide x.Right = false := decide_eq_false hxR
          cases hok : (rdEn x.bytes).2 with
          | true =>
            obtain ⟨hyR, hyb⟩ := rdEn_ok hok
            have hys := hyR.2.2.2.2.small
            generalize (rdEn x.bytes).1 = y at hyb hys
            repeat' first
              | with_reducible apply And.intro
              | with_reducible refine vb (by first | assumption | exact Mod.refl _ _ | exact Mod.holes _ _ _ | exact Mod.trans (by assumption) (Mod.holes _ _ _)) ?_
              | with_reducible refine lbytes_step (H0 := H9) hsx rfl (by first | assumption | exact Mod.refl _ _ | exact Mod.holes _ _ _ | exact Mod.trans (by assumption) (Mod.holes _ _ _)) fun H' m' => ?_
              | with_reducible refine lbytes_step (H0 := H9) hys hyb (by first | assumption | exact Mod.refl _ _ | exact Mod.holes _ _ _ | exact Mod.trans (by assumption) (Mod.holes _ _ _)) fun H' m' => ?_
              | with_reducible refine right_step (H0 := H9) hd (by first | assumption | exact Mod.refl _ _ | exact Mod.holes _ _ _ | exact Mod.trans (by assumption) (Mod.holes _ _ _)) fun H' m' => ?_
              | with_reducible refine Br.no hs ?_
              | refine Br.no (rfl : false = false) ?_
              | refine Br.yes (rfl : (!false) = true) ?_
              | refine Br.yes (rfl : true = true) ?_
              | refine Br.no (rfl : (!true) = false) ?_
              | exact next (by first | assumption | exact Mod.refl _ _ | exact Mod.holes _ _ _ | exact Mod.trans (by assumption) (Mod.holes _ _ _))
          | false =>
            rw [rdEn_not hok]
            have z : (!((En.zero.index == (0 : Int)) && ((En.zero.term == (0 : Int)) && (((En.zero.cmd.op == (0 : Int)) && ((En.zero.cmd.client == (0 : Int)) && ((En.zero.cmd.seq == (0 : Int)) && ((En.zero.cmd.key == (ByteArray.mk #[])) && ((En.zero.cmd.value == (ByteArray.mk #[])) && ((En.zero.cmd.old == (ByteArray.mk #[])) && true)))))) && true)))) = false := by kernel_rfl
            repeat' first
              | with_reducible apply And.intro
              | with_reducible refine vb (by first | assumption | exact Mod.refl _ _ | exact Mod.holes _ _ _ | exact Mod.trans (by assumption) (Mod.holes _ _ _)) ?_
              | with_reducible refine lbytes_step (H0 := H9) hsx rfl (by first | assumption | exact Mod.refl _ _ | exact Mod.holes _ _ _ | exact Mod.trans (by assumption) (Mod.holes _ _ _)) fun H' m' => ?_
              | with_reducible refine right_step (H0 := H9) hd (by first | assumption | exact Mod.refl _ _ | exact Mod.holes _ _ _ | exact Mod.trans (by assumption) (Mod.holes _ _ _)) fun H' m' => ?_
              | with_reducible refine Br.no hs ?_
              | refine Br.no (rfl : false = false) ?_
              | refine Br.yes (rfl : (!false) = true) ?_
              | (rw [z]; exact next (by first | assumption | exact Mod.refl _ _ | exact Mod.holes _ _ _ | exact Mod.trans (by assumption) (Mod.holes _ _ _)))
              | exact next (by first | assumption | exact Mod.refl _ _ | exact Mod.holes _ _ _ | exact Mod.trans (by assumption) (Mod.holes _ _ _))
    exact loop L.length 0 H3 (by omega) (Mod.refl _ _)
  have hcells : (#[.int .i64 e.index, .int .i64 e.term, .int .i64 e.cmd.op, .int .i64 e.cmd.client, .int .i64 e.cmd.seq, .string (e.cmd.key.extract 0 ((if (100 : Int) < ((e.cmd.key.size : Nat) : Int) then 100 else ((e.cmd.key.size : Nat) : Int)).toNat)), .string (e.cmd.value.extract 0 ((if (100 : Int) < ((e.cmd.value.size : Nat) : Int) then 100 else ((e.cmd.value.size : Nat) : Int)).toNat)), .string (e.cmd.old.extract 0 ((if (100 : Int) < ((e.cmd.old.size : Nat) : Int) then 100 else ((e.cmd.old.size : Nat) : Int)).toNat))] : Array Value) = e'.cells.toArray := by rw [he']; rfl
  apply tephralaw06_CmdsBytes.k1.step; unfold tephralaw06_CmdsBytes.k1.body
  rw [hcells]
  constructor
  · refine (Entries_spec (n := 1) (t := 0) (hr.keep m1 fun _ _ e => e) hl).mono ?_
    rintro r H2 ⟨x, rfl, ho, hxl, f2, hb⟩
    refine ⟨x, rfl, ?_⟩
    rw [← hes] at ho hxl hlen
    have s1 := m1.size
    exact ents_app (e := e') ho (Mod.refl _ _) (by omega) fun x' H3 ho' hxl' m3 hb' => k2 ho' (by omega) (((m1.trans (Mod.fresh f2 fun _ h => h))).trans' m3 fun q hq h => by have := hb q h; omega)
  · have mp : Mod (fun _ => False) H1 (Array.push H1 (.cells e'.cells.toArray T_api_Entry)) := Mod.push _ _ _
    refine (Entries_spec (n := 1) (t := 0) (hr.keep (m1.trans mp) fun _ _ e => e) hl).mono ?_
    rintro r H2 ⟨x, rfl, ho, hxl, f2, hb⟩
    refine ⟨x, rfl, ?_⟩
    rw [← hes] at ho hxl hlen
    have s1 := m1.size
    have s2 := mp.size
    have m12 : Mod (fun _ => False) (Array.push H1 (.cells e'.cells.toArray T_api_Entry)) H2 := Mod.fresh f2 fun _ h => h
    exact ents_app' (e := e') ho (m12.get (get_push_new H1 _) (fun e => e)) (by omega) fun x' H3 ho' hxl' m3 hb' => k2 ho' (by omega) ((m1.trans (mp.trans m12)).trans' m3 fun q hq h => by have := hb q h; omega)
end
end Go.Proofs
