/- LAYER 06: awake; CmdsMay, CmdsRight, CmdsApart, CmdsParts: the walks. -/
import Derived.Test.YtgogmmhkelenkaaKq4
import Derived.Test.YtgogmmhkelenkaaKe5
set_option linter.all false
set_option linter.constructorNameAsVariable false
namespace Go.Proofs
open Go Go.KC

def e0 : En := ⟨3, 1, ⟨1, 1, 2, .mk #[107], .mk #[118], .mk #[]⟩⟩
theorem e0_right : e0.Right := by decide
theorem zero_may : Cm.zero.May := by decide
theorem one_not : ¬ (⟨0, 0, 0, .mk #[107], .mk #[], .mk #[]⟩ : Cm).May := by decide

section
variable {H : Hp}
theorem awake_spec : SCalls Try.prog tephralaw06_awake.id [] H (TellPost H (.bool true)) := by
  apply tephralaw06_awake.calls
  unfold tephralaw06_awake.vc
  have m0 : Mod (fun _ => False) H (holes H 1) := Mod.holes _ _ _
  refine (Bytes_spec (e := e0) e0_right.2.2.2.2.small).mono ?_
  rintro r H1 ⟨x, rfl, ho, m1, hx⟩
  refine ⟨x, rfl, (Read_spec (Own.rows ho) (Own.lt ho)).mono ?_⟩
  rintro r H2 ⟨rfl, m2⟩
  rw [rdEn_bytes e0_right]
  have m2' := m0.trans (m1.trans m2)
  refine ⟨_, _, _, _, _, _, _, _, _, rfl, Br.yes rfl ?_⟩
  have m3 : Mod (fun _ => False) H (holes H2 1) := m2'.trans (Mod.holes _ _ _)
  apply tephralaw06_awake.k1.step; unfold tephralaw06_awake.k1.body
  refine Br.yes (by rfl) ((cmds_May_spec (c := Cm.zero)).mono ?_)
  rintro r H3 ⟨rfl, m4⟩
  rw [decide_eq_true zero_may]
  refine ⟨_, rfl, ?_⟩
  apply tephralaw06_awake.k2.step; unfold tephralaw06_awake.k2.body
  refine Br.yes rfl ((cmds_May_spec (c := ⟨0, 0, 0, .mk #[107], .mk #[], .mk #[]⟩)).mono ?_)
  rintro r H4 ⟨rfl, m5⟩
  rw [decide_eq_false one_not]
  refine ⟨_, rfl, ?_⟩
  apply tephralaw06_awake.k3.step; unfold tephralaw06_awake.k3.body
  refine Br.yes rfl ((Row_spec (x := ⟨some (Addr.mk (Array.size H4) 0 none), 1, 1⟩) (es := [e0]) (n := 3) (rows_new (H := H4) (e := T_api_Entry) e0.cells 8 rfl) rfl (by show 1 ≤ _; omega)).mono ?_)
  rintro r H5 ⟨rfl, m6⟩
  have : RowsOf [e0] 3 := by
    intro j hj
    obtain rfl : j = 0 := by simpa using hj
    exact ⟨e0_right, rfl, fun h => absurd h (by omega)⟩
  rw [decide_eq_true this]
  exact ⟨_, rfl, rfl, m3.trans (m4.trans (m5.trans ((Mod.push _ _ _).trans m6)))⟩

/-- How a law begins. -/
theorem law_awake {n : Nat} {Q : Value → Hp → Prop} {K : Hp → Prop} (hK : ∀ H', Mod (fun _ => False) H H' → K H') :
    SCalls Try.prog tephralaw06_awake.id [] (holes H n) fun r H1 => ∃ x : Bool, r = .bool x ∧ Br (!x) (Q (.bool false) H1) (K H1) := by
  refine awake_spec.mono ?_
  rintro r H1 ⟨rfl, m1⟩
  exact ⟨_, rfl, Br.no rfl (hK H1 ((Mod.holes _ _ n).trans m1))⟩

/-! Steps that begin with what is known. -/
theorem bytes_step {H0 : Hp} {e : En} {K : Sl → Hp → Prop} (hc : e.cmd.small) (hf : Mod (fun _ => False) H0 H) (hK : ∀ x H', Mod (fun _ => False) H H' → Mod (fun _ => False) H0 H' → Rows H' x 1 (e.bytes.map bv) → K x H') :
    SCalls Try.prog cmds_Bytes.id [e.val] H fun r H' => ∃ x : Sl, r = .slice x.a x.len x.cap ∧ K x H' := by
  refine (Bytes_spec hc).mono ?_
  rintro r H1 ⟨x, rfl, ho, m1, hx⟩
  exact ⟨x, rfl, hK x H1 m1 (hf.trans m1) (Own.rows ho)⟩
theorem CmdsMay_spec {c : Cm} {s : Sy} {p : UInt8} {n : Int} {t : ByteArray} :
    SCalls Try.prog tephralaw06_CmdsMay.id [c.val, s.val, .int .u8 (p.toNat : Int), .int .i64 n, .string t] H (trueQ H) := by
  apply tephralaw06_CmdsMay.calls
  have k1 : ∀ (x : Cm) (H' : Hp), Mod (fun _ => False) H H' → tephralaw06_CmdsMay.k1 J0 c.op c.client c.seq c.key c.value c.old (s.op.toNat : Int) (s.client.toNat : Int) (s.seq.toNat : Int) (s.key.toNat : Int) (s.value.toNat : Int) (s.old.toNat : Int) H' x.op x.client x.seq x.key x.value x.old (trueQ H) := by
    intro x H' m
    apply tephralaw06_CmdsMay.k1.step; unfold tephralaw06_CmdsMay.k1.body
    refine bool_step (cmds_May_spec (c := c)) m fun H1 m1 => bool_step (law_may_spec (c := c)) m1 fun H2 m2 => Br.yes (by simp) ?_
    refine bool_step (cmds_May_spec (c := x)) m2 fun H3 m3 => bool_step (law_may_spec (c := x)) m3 fun H4 m4 => ⟨by simp, m4⟩
  refine law_awake fun H1 m1 => say_step (s := s) m1 fun H2 m2 => bool_step (cmds_May_spec (c := s.cmd)) (moreHoles m2 1) fun H3 m3 => ?_
  rw [decide_eq_true s.may]
  refine Br.no rfl ⟨by omega, ?_⟩
  refine Br.mk (fun _ => k1 ⟨n, s.cmd.client, s.cmd.seq, s.cmd.key, s.cmd.value, s.cmd.old⟩ H3 m3) fun _ => ?_
  refine Br.mk (fun _ => k1 ⟨s.cmd.op, n, s.cmd.seq, s.cmd.key, s.cmd.value, s.cmd.old⟩ H3 m3) fun _ => ?_
  refine Br.mk (fun _ => k1 ⟨s.cmd.op, s.cmd.client, n, s.cmd.key, s.cmd.value, s.cmd.old⟩ H3 m3) fun _ => ?_
  refine Br.mk (fun _ => k1 ⟨s.cmd.op, s.cmd.client, s.cmd.seq, t, s.cmd.value, s.cmd.old⟩ H3 m3) fun _ => ?_
  refine Br.mk (fun _ => k1 ⟨s.cmd.op, s.cmd.client, s.cmd.seq, s.cmd.key, t, s.cmd.old⟩ H3 m3) fun _ => ?_
  exact Br.mk (fun _ => k1 ⟨s.cmd.op, s.cmd.client, s.cmd.seq, s.cmd.key, s.cmd.value, t⟩ H3 m3) fun _ => k1 s.cmd H3 m3

theorem CmdsRight_spec {e : En} {s : Sy} {n m : Int} :
    SCalls Try.prog tephralaw06_CmdsRight.id [e.val, s.val, .int .i64 n, .int .i64 m] H (trueQ H) := by
  apply tephralaw06_CmdsRight.calls
  refine law_awake fun H1 m1 => say_step (s := s) m1 fun H2 m2 => bool_step (cmds_Right_spec (e := e)) (moreHoles m2 1) fun H3 m3 => bool_step (law_right_spec (e := e)) m3 fun H4 m4 => Br.yes (by simp) ?_
  exact bool_step (cmds_Right_spec (e := ⟨n, m, s.cmd⟩)) m4 fun H5 m5 => bool_step (law_right_spec (e := ⟨n, m, s.cmd⟩)) m5 fun H6 m6 => ⟨by simp, m6⟩

theorem ba_list_inj {a b : List UInt8} : ByteArray.mk a.toArray = ByteArray.mk b.toArray ↔ a = b := by
  constructor
  · intro h
    have := congrArg (fun x : ByteArray => x.data.toList) h
    simpa using this
  · rintro rfl; rfl

theorem CmdsParts_spec {says : Sl} {ss : List Sy} {c f : UInt8} (hr : Rows H says 6 (ss.map Sy.cells).flatten) (hl : ss.length = says.len) :
    SCalls Try.prog tephralaw06_CmdsParts.id [.slice says.a says.len says.cap, .int .u8 (c.toNat : Int), .int .u8 (f.toNat : Int)] H (trueQ H) := by
  apply tephralaw06_CmdsParts.calls
  unfold tephralaw06_CmdsParts.vc
  have hc : c.toNat < 256 := UInt8.toNat_lt _
  have hf : f.toNat < 256 := UInt8.toNat_lt _
  have wc : w64 (c.toNat : Int) = (c.toNat : Int) := w64_id (by omega) (by omega)
  have wf : w64 (w64 (f.toNat : Int) + 1) = (f.toNat : Int) + 1 := by rw [w64_id (x := (f.toNat : Int)) (by omega) (by omega), w64_id (by omega) (by omega)]
  have wf2 : w64 (w64 (f.toNat : Int) + 2) = (f.toNat : Int) + 2 := by rw [w64_id (x := (f.toNat : Int)) (by omega) (by omega), w64_id (by omega) (by omega)]
  rw [wc, wf]
  refine law_awake (n := 0) fun H1 m1 => (Entries_spec (hr.keep m1 fun _ _ e => e) hl).mono ?_
  rintro r H2 ⟨x, rfl, ho, hxl, f2, hb⟩
  have m2 := m1.trans f2.mod
  have hlen : (ents (ss.take 80) ((f.toNat : Int) + 1) 0).length ≤ 80 := by rw [ents_length]; simp; omega
  have hlen' : (ss.take 80).length ≤ 80 := by simp; omega
  have hR : RowsOf (ents (ss.take 80) ((f.toNat : Int) + 1) 0) ((f.toNat : Int) + 1) := ents_row (by omega) (by omega) (by omega) (by omega)
  have hidx := hR
  generalize hes : ents (ss.take 80) ((f.toNat : Int) + 1) 0 = es at *
  have hrx := Own.rows ho
  have hxc := hrx.2.1
  have wx : w64 (((x.len : Nat) : Int) + 1) = ((x.len + 1 : Nat) : Int) := by rw [w64_id (by omega) (by omega)]; omega
  have hk : c.toNat % (x.len + 1) < x.len + 1 := Nat.mod_lt _ (by omega)
  refine ⟨x, rfl, by rw [wx]; omega, (Row_spec hrx hxl.symm (by omega)).mono ?_⟩
  rintro r H3 ⟨rfl, m3⟩
  rw [decide_eq_true hR, wx, tmodN]
  simp only [Int.toNat_natCast]
  generalize hkk : c.toNat % (x.len + 1) = k at hk ⊢
  refine ⟨_, rfl, Br.no rfl ⟨⟨by omega, by omega⟩, ?_⟩⟩
  have hx3 : Rows H3 x 8 (es.map En.cells).flatten := hrx.keep m3 fun _ _ e => e
  have ht := hx3.take (n := k) (by omega)
  rw [← flat_take (f := En.cells) (k := 8) (fun _ => rfl)] at ht
  refine (Row_spec ht (by simp; omega) (by simp only; omega)).mono ?_
  rintro r H4 ⟨rfl, m4⟩
  rw [decide_eq_true (hR.take k)]
  refine ⟨_, rfl, ?_⟩
  have hx4 : Rows H4 x 8 (es.map En.cells).flatten := hx3.keep m4 fun _ _ e => e
  have hd := hx4.drop (n := k) (by omega)
  rw [← flat_drop (f := En.cells) (k := 8) (fun _ => rfl)] at hd
  have m4' := m2.trans (m3.trans m4)
  have hdl : (es.drop k).length = x.len - k := by rw [List.length_drop]; omega
  have wk : Int.tmod (c.toNat : Int) ((x.len + 1 : Nat) : Int) = (k : Int) := by rw [tmodN, hkk]
  have w1 : w64 ((f.toNat : Int) + 1 + (k : Int)) = (f.toNat : Int) + 1 + (k : Int) := w64_id (by omega) (by omega)
  have w2 : w64 ((f.toNat : Int) + 2 + (k : Int)) = (f.toNat : Int) + 2 + (k : Int) := w64_id (by omega) (by omega)
  apply tephralaw06_CmdsParts.k1.step; unfold tephralaw06_CmdsParts.k1.body
  rw [wc, wx, wk, wf, w1]
  simp only [Int.toNat_natCast]
  refine Br.no rfl ⟨⟨by omega, by omega⟩, (Row_spec hd (by simp only; exact hdl) (by simp only; omega)).mono ?_⟩
  rintro r H5 ⟨rfl, m5⟩
  rw [decide_eq_true (hR.drop k ((f.toNat : Int) + 1 + (k : Int)) fun j => by congr 1; omega)]
  refine ⟨_, rfl, ?_⟩
  apply tephralaw06_CmdsParts.k2.step; unfold tephralaw06_CmdsParts.k2.body
  rw [wc, wx, wk, wf2, w2]
  simp only [Int.toNat_natCast]
  refine Br.no rfl (Br.mk (fun _ => ⟨rfl, m4'.trans m5⟩) fun hne => ⟨⟨by omega, by omega⟩, ?_⟩)
  have hne' : x.len ≠ k := fun e => by rw [e] at hne; simp at hne
  refine (Row_spec (hd.keep m5 fun _ _ e => e) (by simp only; exact hdl) (by simp only; omega)).mono ?_
  rintro r H6 ⟨rfl, m6⟩
  have hno : ¬ RowsOf (es.drop k) ((f.toNat : Int) + 2 + (k : Int)) := by
    intro h
    have h1 := (h 0 (by omega)).2.1
    have h2 := (hR k (by omega)).2.1
    simp only [List.getElem_drop, Nat.add_zero] at h1
    rw [h1] at h2
    rw [w64_id (by omega) (by omega), w64_id (by omega) (by omega)] at h2
    omega
  rw [decide_eq_false hno]
  exact ⟨_, rfl, rfl, m4'.trans (m5.trans m6)⟩
end
end Go.Proofs
