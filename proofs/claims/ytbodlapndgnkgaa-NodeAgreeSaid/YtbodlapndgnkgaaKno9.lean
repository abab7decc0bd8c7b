/- LAYER 14: three replicas and all messages: plain, and in memory; a deed. -/
import Derived.Test.YtbodlapndgnkgaaKno8
set_option linter.all false
set_option linter.constructorNameAsVariable false
namespace Go.Proofs
open Go Go.KC

/-- A deed. -/
structure Ac where
  op : UInt8
  who : UInt8
  at' : UInt8
  say : Sy
  any : Mh
  more : UInt8
def Ac.cells (a : Ac) : List Value := [.int .u8 (a.op.toNat : Int), .int .u8 (a.who.toNat : Int), .int .u8 (a.at'.toNat : Int)] ++ (a.say.cells ++ (a.any.cells ++ [.int .u8 (a.more.toNat : Int)]))
/-- Three replicas, and all messages that were sent. -/
structure Wd where
  a : Nd
  b : Nd
  c : Nd
  sent : List Mg
def Wd.nd (w : Wd) (i : Int) : Nd := if i = 0 then w.a else if i = 1 then w.b else w.c
def Wd.set (w : Wd) (i : Int) (n : Nd) : Wd := if i = 0 then { w with a := n } else if i = 1 then { w with b := n } else { w with c := n }
def Wd.put (w : Wd) (i : Int) (n : Nd) (ms : List Mg) : Wd := { w.set i n with sent := w.sent ++ ms }
def w0 : Wd := ⟨nd0 0, nd0 1, nd0 2, []⟩
def Ac.id (a : Ac) : Int := ((a.who.toNat % 3 : Nat) : Int)
/-- Which message comes. -/
def Ac.pick (a : Ac) (n : Nat) : Nat := if a.more.toNat % 8 = 0 then a.at'.toNat % n else n - 1 - a.at'.toNat % min 12 n
def Wd.act (w : Wd) (a : Ac) : Wd :=
  if a.op.toNat % 16 = 0 then w.put a.id (w.nd a.id).camp.1 (w.nd a.id).camp.2
  else if a.op.toNat % 16 = 1 then w.put a.id ((w.nd a.id).submit a.say.cmd).1 []
  else if a.op.toNat % 16 = 2 ∨ a.op.toNat % 16 = 3 then w.put a.id (w.nd a.id) ((w.nd a.id).beat ((w.nd a.id).com, ((w.nd a.id).at (w.nd a.id).com).1))
  else if a.op.toNat % 16 = 4 then w.put a.id ((w.nd a.id).compact ((w.nd a.id).com - ((a.at'.toNat % 3 : Nat) : Int))) []
  else if a.op.toNat % 16 = 5 then w.put a.id (if a.at'.toNat % 4 = 0 then (w.nd a.id).restart else w.nd a.id) []
  else match w.sent[a.pick w.sent.length]? with
    | none => w
    | some m => w.put m.to ((w.nd m.to).step m).1 ((w.nd m.to).step m).2.1
structure Wd.Bd (w : Wd) (k : Int) : Prop where
  nd : ∀ i, 0 ≤ i ∧ i < 3 → (w.nd i).Bd i k
  ms : ∀ m ∈ w.sent, m.Bd k
theorem Ac.id_in (a : Ac) : 0 ≤ a.id ∧ a.id < 3 := by unfold Ac.id; omega
theorem set_nd {w : Wd} {i j : Int} {n : Nd} (hi : 0 ≤ i ∧ i < 3) (hj : 0 ≤ j ∧ j < 3) : (w.set i n).nd j = if j = i then n else w.nd j := by
  have h1 : i = 0 ∨ i = 1 ∨ i = 2 := by omega
  have h2 : j = 0 ∨ j = 1 ∨ j = 2 := by omega
  rcases h1 with rfl | rfl | rfl <;> rcases h2 with rfl | rfl | rfl <;> rfl
theorem put_nd {w : Wd} {i j : Int} {n : Nd} {ms : List Mg} (hi : 0 ≤ i ∧ i < 3) (hj : 0 ≤ j ∧ j < 3) : (w.put i n ms).nd j = if j = i then n else w.nd j := by
  rw [← set_nd hi hj]; rfl
theorem set_sent {w : Wd} {i : Int} {n : Nd} : (w.set i n).sent = w.sent := by unfold Wd.set; split <;> (try split) <;> rfl
theorem put_bd {w : Wd} {i k : Int} {n : Nd} {ms : List Mg} (h : w.Bd k) (hi : 0 ≤ i ∧ i < 3) (hn : n.Bd i (k + 1)) (hm : ∀ m ∈ ms, m.Bd (k + 1)) : (w.put i n ms).Bd (k + 1) := by
  refine ⟨fun j hj => ?_, fun m hmm => ?_⟩
  · rw [put_nd hi hj]
    by_cases c : j = i
    · rw [if_pos c, c]; exact hn
    · rw [if_neg c]; exact (h.nd j hj).mono (by omega)
  · rcases List.mem_append.1 hmm with hmm | hmm
    · exact (h.ms m hmm).mono (by omega)
    · exact hm m hmm
theorem act_bd {w : Wd} {k : Int} {a : Ac} (h : w.Bd k) (hk : 0 ≤ k ∧ k ≤ 1000000) : (w.act a).Bd (k + 1) := by
  have hi := a.id_in
  have hn := h.nd a.id hi
  have no : ∀ m ∈ ([] : List Mg), m.Bd (k + 1) := fun m hm => by cases hm
  unfold Wd.act
  split
  · exact put_bd h hi (camp_bd hn hi).1 (camp_bd hn hi).2
  split
  · exact put_bd h hi (submit_bd hn) no
  split
  · exact put_bd h hi (hn.mono (by omega)) fun m hm => (beat_bd hn hi hn.com m hm).mono (by omega)
  split
  · exact put_bd h hi ((compact_bd hn).mono (by omega)) no
  split
  · refine put_bd h hi ?_ no
    split
    · exact (restart_bd hn).mono (by omega)
    · exact hn.mono (by omega)
  split
  · exact ⟨fun j hj => (h.nd j hj).mono (by omega), fun m hm => (h.ms m hm).mono (by omega)⟩
  · rename_i m hm
    have hmb := h.ms m (List.mem_of_getElem? hm)
    have hs := step_bd (h.nd m.to hmb.to) hmb.to hmb hk
    exact put_bd h hmb.to hs.1 hs.2
theorem w0_bd : w0.Bd 0 := by
  refine ⟨fun i hi => ?_, fun m hm => by cases hm⟩
  have : i = 0 ∨ i = 1 ∨ i = 2 := by omega
  rcases this with rfl | rfl | rfl
  · exact nd0_bd (by omega)
  · exact nd0_bd (by omega)
  · exact nd0_bd (by omega)

/-- In memory. -/
def wCells (w : Wd) (xa xb xc sy : Sl) : List Value := w.a.cells xa ++ (w.b.cells xb ++ (w.c.cells xc ++ [.slice sy.a sy.len sy.cap]))
structure WA (H0 H : Hp) (b : Nat) (w : Wd) (xa xb xc sy : Sl) (l : List Mh) : Prop where
  blk : H[b]? = some (.cells (wCells w xa xb xc sy).toArray T_tephralaw14_World (0, 0))
  bz : H0.size ≤ b
  mod : Mod (fun _ => False) H0 H
  ra : Lr H xa w.a.es
  rb : Lr H xb w.b.es
  rc : Lr H xc w.c.es
  ba : ∀ q ∈ xa.blk, q < H.size ∧ q ≠ b ∧ q ∉ sy.blk
  bb : ∀ q ∈ xb.blk, q < H.size ∧ q ≠ b ∧ q ∉ sy.blk
  bc : ∀ q ∈ xc.blk, q < H.size ∧ q ≠ b ∧ q ∉ sy.blk
  own : Own H sy T_node_Msg 10 (l.map Mh.cells).flatten
  sb : ∀ q ∈ sy.blk, H0.size ≤ q ∧ q ≠ b
  sent : l.map Mh.m = w.sent
  ms : ∀ h ∈ l, MgH H h ∧ (∀ q ∈ h.x.blk, q < H.size ∧ q ≠ b ∧ q ∉ sy.blk) ∧ ∀ q ∈ ptrBlk h.p, q < H.size ∧ q ≠ b ∧ q ∉ sy.blk
def WH (H0 H : Hp) (b : Nat) (w : Wd) : Prop := ∃ xa xb xc sy l, WA H0 H b w xa xb xc sy l
section
variable {H0 H H' : Hp} {b : Nat} {w : Wd} {xa xb xc sy : Sl} {l : List Mh}
theorem WA.to (o : WA H0 H b w xa xb xc sy l) (m : Mod (fun _ => False) H H') : WA H0 H' b w xa xb xc sy l := by
  have z := m.size
  exact ⟨m.get o.blk fun e => e, o.bz, o.mod.trans m, o.ra.mod m, o.rb.mod m, o.rc.mod m, fun q hq => ⟨Nat.lt_of_lt_of_le (o.ba q hq).1 z, (o.ba q hq).2⟩, fun q hq => ⟨Nat.lt_of_lt_of_le (o.bb q hq).1 z, (o.bb q hq).2⟩, fun q hq => ⟨Nat.lt_of_lt_of_le (o.bc q hq).1 z, (o.bc q hq).2⟩, o.own.keep m fun _ _ e => e, o.sb, o.sent,
    fun h hh => ⟨(o.ms h hh).1.mod m, fun q hq => ⟨Nat.lt_of_lt_of_le ((o.ms h hh).2.1 q hq).1 z, ((o.ms h hh).2.1 q hq).2⟩, fun q hq => ⟨Nat.lt_of_lt_of_le ((o.ms h hh).2.2 q hq).1 z, ((o.ms h hh).2.2 q hq).2⟩⟩⟩
/-- One of the three. -/
theorem WA.one (o : WA H0 H b w xa xb xc sy l) {i : Int} (hi : 0 ≤ i ∧ i < 3) : ∃ x : Sl, RowAt H ((Addr.mk b 0 none).add (i.toNat * 18)) ((w.nd i).cells x) ∧ Lr H x (w.nd i).es ∧ ∀ q ∈ x.blk, q < H.size ∧ q ≠ b ∧ q ∉ sy.blk := by
  have : i = 0 ∨ i = 1 ∨ i = 2 := by omega
  rcases this with rfl | rfl | rfl
  · exact ⟨xa, blk_row o.blk rfl, o.ra, o.ba⟩
  · exact ⟨xb, blk_row o.blk rfl, o.rb, o.bb⟩
  · exact ⟨xc, blk_row o.blk rfl, o.rc, o.bc⟩
theorem WA.sentAt (o : WA H0 H b w xa xb xc sy l) : Hp.cell? H ((Addr.mk b 0 none).add 54) = some (.slice sy.a sy.len sy.cap) := blk_cell o.blk rfl
theorem WA.len (o : WA H0 H b w xa xb xc sy l) : w.sent.length = sy.len := by
  have := (Own.rows o.own).1
  rw [flat_len10] at this
  rw [← o.sent, List.length_map]; omega
/-- One of the three is set. -/
theorem WA.set (o : WA H0 H b w xa xb xc sy l) {i : Int} (hi : 0 ≤ i ∧ i < 3) {n : Nd} {y : Sl} (hy : Lr H y n.es) (by' : ∀ q ∈ y.blk, q < H.size ∧ q ≠ b ∧ q ∉ sy.blk) (e : H' = Hp.setCells H ((Addr.mk b 0 none).add (i.toNat * 18)) (n.cells y) 0) :
    ∃ xa' xb' xc', WA H0 H' b (w.set i n) xa' xb' xc' sy l := by
  have hb := o.bz
  have key : ∀ {w' : Wd} {xa' xb' xc' : Sl}, wCells w' xa' xb' xc' sy = (wCells w xa xb xc sy).take (i.toNat * 18) ++ n.cells y ++ (wCells w xa xb xc sy).drop (i.toNat * 18 + (n.cells y).length) → w'.sent = w.sent →
      (Lr H xa' w'.a.es ∧ ∀ q ∈ xa'.blk, q < H.size ∧ q ≠ b ∧ q ∉ sy.blk) → (Lr H xb' w'.b.es ∧ ∀ q ∈ xb'.blk, q < H.size ∧ q ≠ b ∧ q ∉ sy.blk) → (Lr H xc' w'.c.es ∧ ∀ q ∈ xc'.blk, q < H.size ∧ q ≠ b ∧ q ∉ sy.blk) → WA H0 H' b w' xa' xb' xc' sy l := by
    intro w' xa' xb' xc' hc hs ha hb' hc'
    obtain ⟨g, m⟩ := blk_set (cs' := wCells w' xa' xb' xc' sy) o.blk e (by show i.toNat * 18 + 18 ≤ 55; omega) hc
    have z := m.size
    have kp : ∀ {x : Sl} {es : List En}, Lr H x es → (∀ q ∈ x.blk, q < H.size ∧ q ≠ b ∧ q ∉ sy.blk) → Lr H' x es := fun hr hq => Rows.keep hr m fun q h e => (hq q h).2.1 e
    exact ⟨g, o.bz, o.mod.trans' m fun q hq h => by omega, kp ha.1 ha.2, kp hb'.1 hb'.2, kp hc'.1 hc'.2, fun q hq => ⟨Nat.lt_of_lt_of_le (ha.2 q hq).1 z, (ha.2 q hq).2⟩, fun q hq => ⟨Nat.lt_of_lt_of_le (hb'.2 q hq).1 z, (hb'.2 q hq).2⟩, fun q hq => ⟨Nat.lt_of_lt_of_le (hc'.2 q hq).1 z, (hc'.2 q hq).2⟩, o.own.keep m fun q hq e => (o.sb q hq).2 e, o.sb, by rw [hs]; exact o.sent,
      fun h hh => ⟨(o.ms h hh).1.keep m (fun q hq e => ((o.ms h hh).2.1 q hq).2.1 e) fun q hq e => ((o.ms h hh).2.2 q hq).2.1 e, fun q hq => ⟨Nat.lt_of_lt_of_le ((o.ms h hh).2.1 q hq).1 z, ((o.ms h hh).2.1 q hq).2⟩, fun q hq => ⟨Nat.lt_of_lt_of_le ((o.ms h hh).2.2 q hq).1 z, ((o.ms h hh).2.2 q hq).2⟩⟩⟩
  have : i = 0 ∨ i = 1 ∨ i = 2 := by omega
  rcases this with rfl | rfl | rfl
  · exact ⟨y, xb, xc, key rfl rfl ⟨hy, by'⟩ ⟨o.rb, o.bb⟩ ⟨o.rc, o.bc⟩⟩
  · exact ⟨xa, y, xc, key rfl rfl ⟨o.ra, o.ba⟩ ⟨hy, by'⟩ ⟨o.rc, o.bc⟩⟩
  · exact ⟨xa, xb, y, key rfl rfl ⟨o.ra, o.ba⟩ ⟨o.rb, o.bb⟩ ⟨hy, by'⟩⟩
theorem wr54 (o : WA H0 H b w xa xb xc sy l) : WrAt H ((Addr.mk b 0 none).add 54) 1 := blk_wr o.blk (Nat.le_of_ble_eq_true rfl)

/-- The end of a deed. -/
theorem Do_k4 {id : Int} (o : WA H0 H b w xa xb xc sy l) (hi : 0 ≤ id ∧ id < 3) {n : Nd} {y z : Sl} {ms : List Mg} {H1 H2 : Hp} (m1 : Mod (fun _ => False) H H1) (m2 : Mod (fun _ => False) H1 H2)
    (hy : Lr H2 y n.es) (yb : ∀ q ∈ y.blk, q < H2.size ∧ q ≠ b ∧ q ∉ sy.blk) (hz : MsO H1 H2 z ms ∨ z = ⟨none, 0, 0⟩ ∧ ms = []) (hl : w.sent.length ≤ 500000) (hml : ms.length ≤ 1000) {am aw : Int} {ak1 ak2 ak3 ak4 ak5 ak6 ak7 ak8 ak9 : Int} {akb : Bool} {akx : Sl} {akp : Option Addr} {s1 s2 s3 s4 s5 s6 : Int} {Q : Value → Hp → Prop} (hQ : ∀ H', WH H0 H' b (w.put id n ms) → Mod (fun q => q ∈ sy.blk ∨ q = b) H H' → Q (.tuple #[]) H') :
    tephralaw14_World_Do.k4 J0 ⟨b, 0, none⟩ ak1 ak2 ak3 s1 s2 s3 s4 s5 s6 ak4 ak5 ak6 ak7 ak8 ak9 akb aw akx akp am id z n.id n.term n.vote n.base n.bt y n.role n.com n.v0 n.v1 n.v2 n.m0 n.m1 n.m2 n.n0 n.n1 n.n2 n.quiet H2 Q := by
  apply tephralaw14_World_Do.k4.step; unfold tephralaw14_World_Do.k4.body
  have o2 := o.to (m1.trans m2)
  have hi' : id.toNat * 18 + 18 ≤ 55 := by omega
  refine ⟨hi, blk_wr o2.blk hi', fun H13 h13 => ?_⟩
  obtain ⟨xa', xb', xc', o13⟩ := o2.set hi hy yb h13
  have m13 : Mod (· = b) H2 H13 := (blk_set (cs' := _) o2.blk h13 (by show id.toNat * 18 + 18 ≤ 55; omega) rfl).2
  have z13 := m13.size
  refine ⟨sy, o13.sentAt, ?_⟩
  have slen := o.len
  -- the new messages, as they stand
  obtain ⟨k, hk, hko, hkb, hkm⟩ : ∃ k : List Mh, k.map Mh.m = ms ∧ SrcAt H13 10 (srcLen (.slice z.a z.len z.cap)) (.slice z.a z.len z.cap) (k.map Mh.cells).flatten ∧ k.length = srcLen (.slice z.a z.len z.cap) ∧ ∀ h ∈ k, MgH H13 h ∧ (∀ q ∈ h.x.blk, q < H13.size ∧ q ≠ b ∧ q ∉ sy.blk) ∧ ∀ q ∈ ptrBlk h.p, q < H13.size ∧ q ≠ b ∧ q ∉ sy.blk := by
    rcases hz with hz | ⟨rfl, rfl⟩
    · have zl := hz.len
      obtain ⟨k, ek, ok, bk, mk, gk⟩ := hz
      have hbH1 : b < H1.size := Nat.lt_of_lt_of_le (lt_of_get o.blk) m1.size
      have sH1 : ∀ q ∈ sy.blk, q < H1.size := fun q hq => Nat.lt_of_lt_of_le (Own.lt o.own q hq) m1.size
      have ok13 := ok.keep m13 fun q hq e => by have := bk q hq; omega
      refine ⟨k, ek, ?_, by rw [← List.length_map, ek]; exact zl, fun h hh => ⟨(gk h hh).1.keep m13 (fun q hq e => by have := ((gk h hh).2.1 q hq).1; omega) fun q hq e => by have := ((gk h hh).2.2 q hq).1; omega, fun q hq => ?_, fun q hq => ?_⟩⟩
      · have hr := Own.rows ok13
        cases hza : z.a with
        | none =>
          have h0 := hr.2.2.2 hza
          have h2 := hr.2.1
          have hz0 : z.len = 0 := by omega
          have : k = [] := List.eq_nil_of_length_eq_zero (by rw [← List.length_map, ek, zl]; exact hz0)
          rw [this]
          simp only [srcLen]
          rw [hz0]; exact rfl
        | some ad => exact ⟨hr.1, hr.2.2.1 ad hza⟩
      · have := (gk h hh).2.1 q hq
        exact ⟨by omega, by omega, fun h => by have := sH1 q h; omega⟩
      · have := (gk h hh).2.2 q hq
        exact ⟨by omega, by omega, fun h => by have := sH1 q h; omega⟩
    · exact ⟨[], rfl, rfl, rfl, fun h hh => by cases hh⟩
  have kl : k.length ≤ 1000 := by rw [← List.length_map, hk]; exact hml
  refine msg_app (l := l) (k := k) o13.own hko hkb (by omega) fun ap H14 o14 m14 b14 => ?_
  have mm : Mod (· ∈ sy.blk) H13 H14 := m14
  have z14 := m14.size
  have b14' : b ∉ sy.blk := fun h => (o13.sb b h).2 rfl
  have g14 := mm.get o13.blk b14'
  have apb : ∀ q, q < H13.size → q ∉ sy.blk → q ∉ ap.blk := fun q hq hn h => (b14 q h).elim hn fun h => by omega
  refine ⟨blk_wr g14 (Nat.le_of_ble_eq_true rfl), fun H15 h15 => ?_⟩
  obtain ⟨g15, m15⟩ := blk_set1 (cs' := wCells (w.put id n ms) xa' xb' xc' ap) g14 h15 (Nat.le_of_ble_eq_true rfl) rfl
  have hbz := lt_of_get o13.blk
  have m1315 : Mod (fun q => q ∈ sy.blk ∨ q = b) H13 H15 := (mm.mono fun q _ h => Or.inl h).trans (m15.mono fun q _ h => Or.inr h)
  have z15 := m15.size
  have kp : ∀ {x : Sl} {es : List En}, Lr H13 x es → (∀ q ∈ x.blk, q < H13.size ∧ q ≠ b ∧ q ∉ sy.blk) → Lr H15 x es := fun hr hq => Rows.keep hr m1315 fun q h e => e.elim (hq q h).2.2 (hq q h).2.1
  have bp : ∀ {x : Sl}, (∀ q ∈ x.blk, q < H13.size ∧ q ≠ b ∧ q ∉ sy.blk) → ∀ q ∈ x.blk, q < H15.size ∧ q ≠ b ∧ q ∉ ap.blk := fun hq q h => ⟨by have := (hq q h).1; omega, (hq q h).2.1, apb q (hq q h).1 (hq q h).2.2⟩
  refine hQ H15 ⟨xa', xb', xc', ap, l ++ k, ⟨g15, o.bz, ?_, kp o13.ra o13.ba, kp o13.rb o13.bb, kp o13.rc o13.bc, bp o13.ba, bp o13.bb, bp o13.bc, ?_, ?_, ?_, ?_⟩⟩ ((((m1.trans m2).mono fun _ _ e => e.elim).trans (m13.mono fun q _ h => Or.inr h)).trans m1315)
  · exact o13.mod.trans' m1315 fun q hq h => by
      rcases h with h | h
      · have := (o13.sb q h).1; omega
      · have := o.bz; omega
  · refine o14.keep m15 fun q hq e => ?_
    rcases b14 q hq with h | h
    · exact (o13.sb q h).2 e
    · have e : q = b := e; omega
  · intro q hq
    rcases b14 q hq with h | h
    · exact o13.sb q h
    · exact ⟨by have := o13.mod.size; omega, by omega⟩
  · have e : (w.put id n ms).sent = w.sent ++ ms := rfl
    rw [List.map_append, hk, e, ← o.sent]
  · intro h hh
    have key : MgH H13 h ∧ (∀ q ∈ h.x.blk, q < H13.size ∧ q ≠ b ∧ q ∉ sy.blk) ∧ ∀ q ∈ ptrBlk h.p, q < H13.size ∧ q ≠ b ∧ q ∉ sy.blk := by
      rcases List.mem_append.1 hh with hh | hh
      · exact o13.ms h hh
      · exact hkm h hh
    exact ⟨key.1.keep m1315 (fun q hq e => e.elim (key.2.1 q hq).2.2 (key.2.1 q hq).2.1) fun q hq e => e.elim (key.2.2 q hq).2.2 (key.2.2 q hq).2.1, bp key.2.1, fun q hq => ⟨by have := (key.2.2 q hq).1; omega, (key.2.2 q hq).2.1, apb q (key.2.2 q hq).1 (key.2.2 q hq).2.2⟩⟩
end
end Go.Proofs
