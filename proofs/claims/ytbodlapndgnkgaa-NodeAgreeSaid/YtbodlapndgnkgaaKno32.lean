/- LAYER 14: NodeAgree, walked (printed by agree.py). -/
import Derived.Test.YtbodlapndgnkgaaKno31
set_option linter.all false
set_option linter.constructorNameAsVariable false
set_option maxRecDepth 100000
set_option linter.all false
namespace Go.Proofs
open Go Go.KC
section
variable {H1 : Hp} {acts : Sl} {b0 : Nat} {x2 op who at_ s1 s2 s3 s4 s5 s6 k1 k2 k3 k4 k5 k6 k7 more : Int} {kb : Bool} {kx : Sl} {kp : Option Addr} {w w' : Wd} {xa xb xc : Sl} {Q : Value → Hp → Prop}
theorem agree_k2 {id : Int} {n o : Nd} {x y : Sl} {c : Bool} {H49 : Hp} (hc : c = false) (hn : tephralaw14_NodeAgree.l2 J0 acts (some ⟨b0, 0, none⟩) x2 op who at_ s1 s2 s3 s4 s5 s6 k1 k2 k3 k4 k5 k6 kb k7 kx kp more w.a.id w.a.term w.a.vote w.a.base w.a.bt xa w.a.role w.a.com w.a.v0 w.a.v1 w.a.v2 w.a.m0 w.a.m1 w.a.m2 w.a.n0 w.a.n1 w.a.n2 w.a.quiet w.b.id w.b.term w.b.vote w.b.base w.b.bt xb w.b.role w.b.com w.b.v0 w.b.v1 w.b.v2 w.b.m0 w.b.m1 w.b.m2 w.b.n0 w.b.n1 w.b.n2 w.b.quiet w.c.id w.c.term w.c.vote w.c.base w.c.bt xc w.c.role w.c.com w.c.v0 w.c.v1 w.c.v2 w.c.m0 w.c.m1 w.c.m2 w.c.n0 w.c.n1 w.c.n2 w.c.quiet H49 (w64 (id + 1)) Q) : tephralaw14_NodeAgree.k2 J0 acts (some ⟨b0, 0, none⟩) x2 op who at_ s1 s2 s3 s4 s5 s6 k1 k2 k3 k4 k5 k6 kb k7 kx kp more w.a.id w.a.term w.a.vote w.a.base w.a.bt xa w.a.role w.a.com w.a.v0 w.a.v1 w.a.v2 w.a.m0 w.a.m1 w.a.m2 w.a.n0 w.a.n1 w.a.n2 w.a.quiet w.b.id w.b.term w.b.vote w.b.base w.b.bt xb w.b.role w.b.com w.b.v0 w.b.v1 w.b.v2 w.b.m0 w.b.m1 w.b.m2 w.b.n0 w.b.n1 w.b.n2 w.b.quiet w.c.id w.c.term w.c.vote w.c.base w.c.bt xc w.c.role w.c.com w.c.v0 w.c.v1 w.c.v2 w.c.m0 w.c.m1 w.c.m2 w.c.n0 w.c.n1 w.c.n2 w.c.quiet id n.id n.term n.vote n.base n.bt x n.role n.com n.v0 n.v1 n.v2 n.m0 n.m1 n.m2 n.n0 n.n1 n.n2 n.quiet o.id o.term o.vote o.base o.bt y o.role o.com o.v0 o.v1 o.v2 o.m0 o.m1 o.m2 o.n0 o.n1 o.n2 o.quiet c H49 Q := by
  apply tephralaw14_NodeAgree.k2.step; unfold tephralaw14_NodeAgree.k2.body
  exact Br.no hc hn
theorem agree_k1 {id : Int} {n nx o : Nd} {x y : Sl} {H38 : Hp} (hx : Lr H38 x n.es) (hf : n.Fit) (hR : LRight n.base n.bt n.es) (hcl : n.com ≤ n.last) (hbc : n.base ≤ n.com) (hj : (0 : Int) ≤ Int.tmod (w64 (id + 1)) 3 ∧ Int.tmod (w64 (id + 1)) 3 < ((3 : Nat) : Int))
    (hnx : ∀ H40, Mod (fun _ => False) H38 H40 → ∃ x1 : Sl, RowAt H40 ((Addr.mk b0 0 none).add ((Int.tmod (w64 (id + 1)) 3).toNat * 18)) (nx.cells x1) ∧ Lr H40 x1 nx.es)
    (hA : ∀ H40 x1, Mod (fun _ => False) H38 H40 → Lr H40 x1 nx.es → SCalls Try.prog tephralaw14_agree.id [n.val x, nx.val x1] H40 (TellPost H40 (.bool true)))
    (hB : ∀ H41, Mod (fun _ => False) H38 H41 → SCalls Try.prog tephralaw14_agree.id [n.val x, o.val y] H41 (TellPost H41 (.bool true)))
    (hc : n.com < o.com → Int.tmod op 16 = 5)
    (hn : ∀ H', Mod (fun _ => False) H38 H' → tephralaw14_NodeAgree.l2 J0 acts (some ⟨b0, 0, none⟩) x2 op who at_ s1 s2 s3 s4 s5 s6 k1 k2 k3 k4 k5 k6 kb k7 kx kp more w.a.id w.a.term w.a.vote w.a.base w.a.bt xa w.a.role w.a.com w.a.v0 w.a.v1 w.a.v2 w.a.m0 w.a.m1 w.a.m2 w.a.n0 w.a.n1 w.a.n2 w.a.quiet w.b.id w.b.term w.b.vote w.b.base w.b.bt xb w.b.role w.b.com w.b.v0 w.b.v1 w.b.v2 w.b.m0 w.b.m1 w.b.m2 w.b.n0 w.b.n1 w.b.n2 w.b.quiet w.c.id w.c.term w.c.vote w.c.base w.c.bt xc w.c.role w.c.com w.c.v0 w.c.v1 w.c.v2 w.c.m0 w.c.m1 w.c.m2 w.c.n0 w.c.n1 w.c.n2 w.c.quiet H' (w64 (id + 1)) Q) : tephralaw14_NodeAgree.k1 J0 acts (some ⟨b0, 0, none⟩) x2 op who at_ s1 s2 s3 s4 s5 s6 k1 k2 k3 k4 k5 k6 kb k7 kx kp more w.a.id w.a.term w.a.vote w.a.base w.a.bt xa w.a.role w.a.com w.a.v0 w.a.v1 w.a.v2 w.a.m0 w.a.m1 w.a.m2 w.a.n0 w.a.n1 w.a.n2 w.a.quiet w.b.id w.b.term w.b.vote w.b.base w.b.bt xb w.b.role w.b.com w.b.v0 w.b.v1 w.b.v2 w.b.m0 w.b.m1 w.b.m2 w.b.n0 w.b.n1 w.b.n2 w.b.quiet w.c.id w.c.term w.c.vote w.c.base w.c.bt xc w.c.role w.c.com w.c.v0 w.c.v1 w.c.v2 w.c.m0 w.c.m1 w.c.m2 w.c.n0 w.c.n1 w.c.n2 w.c.quiet id n.id n.term n.vote n.base n.bt x n.role n.com n.v0 n.v1 n.v2 n.m0 n.m1 n.m2 n.n0 n.n1 n.n2 n.quiet o.id o.term o.vote o.base o.bt y o.role o.com o.v0 o.v1 o.v2 o.m0 o.m1 o.m2 o.n0 o.n1 o.n2 o.quiet H38 Q := by
  obtain ⟨_, fb, fl⟩ := hf
  have xl := hx.len
  apply tephralaw14_NodeAgree.k1.step; unfold tephralaw14_NodeAgree.k1.body
  refine (Right_spec (b := n.base) (t := n.bt) (by omega) hx).mono ?_
  rintro r H39 ⟨rfl, m39⟩
  rw [decide_eq_true hR]
  refine ⟨_, rfl, Br.no rfl ((Last_spec (b := n.base) (t := n.bt) (by unfold nice; omega) (by omega)).mono ?_)⟩
  rintro r H40 ⟨rfl, m40⟩
  unfold Nd.last at hcl
  have m38 := m39.trans m40
  obtain ⟨x1, hrow, hlr⟩ := hnx H40 m38
  refine ⟨_, rfl, Br.no (decide_eq_false (by omega)) (Br.no (decide_eq_false (by omega)) ⟨by omega, vPtr.mk _ rfl ⟨hj, _, _, _, _, _, x1, _, _, _, _, _, _, _, _, _, _, _, _, hrow, (hA H40 x1 m38 hlr).mono ?_⟩⟩)⟩
  rintro r H41 ⟨rfl, m41⟩
  refine ⟨_, rfl, Br.no rfl ((hB H41 (m38.trans m41)).mono ?_)⟩
  rintro r H42 ⟨rfl, m42⟩
  have h42 := hn H42 (m38.trans (m41.trans m42))
  refine ⟨_, rfl, Br.no rfl ?_⟩
  by_cases c : n.com < o.com
  · refine Br.yes (decide_eq_true c) ⟨by omega, agree_k2 ?_ h42⟩
    rw [hc c]; rfl
  · exact Br.no (decide_eq_false c) (agree_k2 rfl h42)
theorem agree_k4 {id : Int} {n o : Nd} {x y : Sl} {c : Bool} {H49 : Hp} (hc : c = false) (hn : tephralaw14_NodeAgree.l2 J0 acts (some ⟨b0, 0, none⟩) x2 op who at_ s1 s2 s3 s4 s5 s6 k1 k2 k3 k4 k5 k6 kb k7 kx kp more w.a.id w.a.term w.a.vote w.a.base w.a.bt xa w.a.role w.a.com w.a.v0 w.a.v1 w.a.v2 w.a.m0 w.a.m1 w.a.m2 w.a.n0 w.a.n1 w.a.n2 w.a.quiet w.b.id w.b.term w.b.vote w.b.base w.b.bt xb w.b.role w.b.com w.b.v0 w.b.v1 w.b.v2 w.b.m0 w.b.m1 w.b.m2 w.b.n0 w.b.n1 w.b.n2 w.b.quiet w.c.id w.c.term w.c.vote w.c.base w.c.bt xc w.c.role w.c.com w.c.v0 w.c.v1 w.c.v2 w.c.m0 w.c.m1 w.c.m2 w.c.n0 w.c.n1 w.c.n2 w.c.quiet H49 (w64 (id + 1)) Q) : tephralaw14_NodeAgree.k4 J0 acts (some ⟨b0, 0, none⟩) x2 op who at_ s1 s2 s3 s4 s5 s6 k1 k2 k3 k4 k5 k6 kb k7 kx kp more w.a.id w.a.term w.a.vote w.a.base w.a.bt xa w.a.role w.a.com w.a.v0 w.a.v1 w.a.v2 w.a.m0 w.a.m1 w.a.m2 w.a.n0 w.a.n1 w.a.n2 w.a.quiet w.b.id w.b.term w.b.vote w.b.base w.b.bt xb w.b.role w.b.com w.b.v0 w.b.v1 w.b.v2 w.b.m0 w.b.m1 w.b.m2 w.b.n0 w.b.n1 w.b.n2 w.b.quiet w.c.id w.c.term w.c.vote w.c.base w.c.bt xc w.c.role w.c.com w.c.v0 w.c.v1 w.c.v2 w.c.m0 w.c.m1 w.c.m2 w.c.n0 w.c.n1 w.c.n2 w.c.quiet id n.id n.term n.vote n.base n.bt x n.role n.com n.v0 n.v1 n.v2 n.m0 n.m1 n.m2 n.n0 n.n1 n.n2 n.quiet o.id o.term o.vote o.base o.bt y o.role o.com o.v0 o.v1 o.v2 o.m0 o.m1 o.m2 o.n0 o.n1 o.n2 o.quiet c H49 Q := by
  apply tephralaw14_NodeAgree.k4.step; unfold tephralaw14_NodeAgree.k4.body
  exact Br.no hc hn
theorem agree_k3 {id : Int} {n nx o : Nd} {x y : Sl} {H38 : Hp} (hx : Lr H38 x n.es) (hf : n.Fit) (hR : LRight n.base n.bt n.es) (hcl : n.com ≤ n.last) (hbc : n.base ≤ n.com) (hj : (0 : Int) ≤ Int.tmod (w64 (id + 1)) 3 ∧ Int.tmod (w64 (id + 1)) 3 < ((3 : Nat) : Int))
    (hnx : ∀ H40, Mod (fun _ => False) H38 H40 → ∃ x1 : Sl, RowAt H40 ((Addr.mk b0 0 none).add ((Int.tmod (w64 (id + 1)) 3).toNat * 18)) (nx.cells x1) ∧ Lr H40 x1 nx.es)
    (hA : ∀ H40 x1, Mod (fun _ => False) H38 H40 → Lr H40 x1 nx.es → SCalls Try.prog tephralaw14_agree.id [n.val x, nx.val x1] H40 (TellPost H40 (.bool true)))
    (hB : ∀ H41, Mod (fun _ => False) H38 H41 → SCalls Try.prog tephralaw14_agree.id [n.val x, o.val y] H41 (TellPost H41 (.bool true)))
    (hc : n.com < o.com → Int.tmod op 16 = 5)
    (hn : ∀ H', Mod (fun _ => False) H38 H' → tephralaw14_NodeAgree.l2 J0 acts (some ⟨b0, 0, none⟩) x2 op who at_ s1 s2 s3 s4 s5 s6 k1 k2 k3 k4 k5 k6 kb k7 kx kp more w.a.id w.a.term w.a.vote w.a.base w.a.bt xa w.a.role w.a.com w.a.v0 w.a.v1 w.a.v2 w.a.m0 w.a.m1 w.a.m2 w.a.n0 w.a.n1 w.a.n2 w.a.quiet w.b.id w.b.term w.b.vote w.b.base w.b.bt xb w.b.role w.b.com w.b.v0 w.b.v1 w.b.v2 w.b.m0 w.b.m1 w.b.m2 w.b.n0 w.b.n1 w.b.n2 w.b.quiet w.c.id w.c.term w.c.vote w.c.base w.c.bt xc w.c.role w.c.com w.c.v0 w.c.v1 w.c.v2 w.c.m0 w.c.m1 w.c.m2 w.c.n0 w.c.n1 w.c.n2 w.c.quiet H' (w64 (id + 1)) Q) : tephralaw14_NodeAgree.k3 J0 acts (some ⟨b0, 0, none⟩) x2 op who at_ s1 s2 s3 s4 s5 s6 k1 k2 k3 k4 k5 k6 kb k7 kx kp more w.a.id w.a.term w.a.vote w.a.base w.a.bt xa w.a.role w.a.com w.a.v0 w.a.v1 w.a.v2 w.a.m0 w.a.m1 w.a.m2 w.a.n0 w.a.n1 w.a.n2 w.a.quiet w.b.id w.b.term w.b.vote w.b.base w.b.bt xb w.b.role w.b.com w.b.v0 w.b.v1 w.b.v2 w.b.m0 w.b.m1 w.b.m2 w.b.n0 w.b.n1 w.b.n2 w.b.quiet w.c.id w.c.term w.c.vote w.c.base w.c.bt xc w.c.role w.c.com w.c.v0 w.c.v1 w.c.v2 w.c.m0 w.c.m1 w.c.m2 w.c.n0 w.c.n1 w.c.n2 w.c.quiet id n.id n.term n.vote n.base n.bt x n.role n.com n.v0 n.v1 n.v2 n.m0 n.m1 n.m2 n.n0 n.n1 n.n2 n.quiet o.id o.term o.vote o.base o.bt y o.role o.com o.v0 o.v1 o.v2 o.m0 o.m1 o.m2 o.n0 o.n1 o.n2 o.quiet H38 Q := by
  obtain ⟨_, fb, fl⟩ := hf
  have xl := hx.len
  apply tephralaw14_NodeAgree.k3.step; unfold tephralaw14_NodeAgree.k3.body
  refine (Right_spec (b := n.base) (t := n.bt) (by omega) hx).mono ?_
  rintro r H39 ⟨rfl, m39⟩
  rw [decide_eq_true hR]
  refine ⟨_, rfl, Br.no rfl ((Last_spec (b := n.base) (t := n.bt) (by unfold nice; omega) (by omega)).mono ?_)⟩
  rintro r H40 ⟨rfl, m40⟩
  unfold Nd.last at hcl
  have m38 := m39.trans m40
  obtain ⟨x1, hrow, hlr⟩ := hnx H40 m38
  refine ⟨_, rfl, Br.no (decide_eq_false (by omega)) (Br.no (decide_eq_false (by omega)) ⟨by omega, vPtr.mk _ rfl ⟨hj, _, _, _, _, _, x1, _, _, _, _, _, _, _, _, _, _, _, _, hrow, (hA H40 x1 m38 hlr).mono ?_⟩⟩)⟩
  rintro r H41 ⟨rfl, m41⟩
  refine ⟨_, rfl, Br.no rfl ((hB H41 (m38.trans m41)).mono ?_)⟩
  rintro r H42 ⟨rfl, m42⟩
  have h42 := hn H42 (m38.trans (m41.trans m42))
  refine ⟨_, rfl, Br.no rfl ?_⟩
  by_cases c : n.com < o.com
  · refine Br.yes (decide_eq_true c) ⟨by omega, agree_k4 ?_ h42⟩
    rw [hc c]; rfl
  · exact Br.no (decide_eq_false c) (agree_k4 rfl h42)
theorem wh_to {H0 H H' : Hp} {b : Nat} {w : Wd} (o : WH H0 H b w) (m : Mod (fun _ => False) H H') : WH H0 H' b w := by
  obtain ⟨xa, xb, xc, sy, l, o⟩ := o
  exact ⟨xa, xb, xc, sy, l, o.to m⟩
/-- What a law asks of all three behind a deed. -/
structure Aq (w w' : Wd) (op : Int) (G' Go : Int → List En) : Prop where
  of' : ∀ i, in3 i → Of (G' i) (w'.nd i).base (w'.nd i).bt (w'.nd i).es
  of : ∀ i, in3 i → Of (Go i) (w.nd i).base (w.nd i).bt (w.nd i).es
  fit' : ∀ i, in3 i → (w'.nd i).Fit
  fit : ∀ i, in3 i → (w.nd i).Fit
  rt : ∀ i, in3 i → LRight (w'.nd i).base (w'.nd i).bt (w'.nd i).es
  cl : ∀ i, in3 i → (w'.nd i).com ≤ (w'.nd i).last ∧ (w'.nd i).base ≤ (w'.nd i).com
  two : ∀ i j, in3 i → in3 j → Sam (G' i) (G' j) (min (w'.nd i).com (w'.nd j).com).toNat
  old : ∀ i, in3 i → Sam (G' i) (Go i) (min (w'.nd i).com (w.nd i).com).toNat
  cm : ∀ i, in3 i → (w'.nd i).com < (w.nd i).com → Int.tmod op 16 = 5
theorem agree_l2 {G' Go : Int → List En} {H7 : Hp} (q : Aq w w' op G' Go) (o7 : WH H1 H7 b0 w') (la : Lr H7 xa w.a.es) (lb : Lr H7 xb w.b.es) (lc : Lr H7 xc w.c.es)
    (hl1 : ∀ H9, WH H1 H9 b0 w' → tephralaw14_NodeAgree.l1 J0 acts (some ⟨b0, 0, none⟩) H9 (w64 (x2 + 1)) Q) :
    ∀ (d i : Nat) (H8 : Hp), i + d = 3 → Mod (fun _ => False) H7 H8 →
      tephralaw14_NodeAgree.l2 J0 acts (some ⟨b0, 0, none⟩) x2 op who at_ s1 s2 s3 s4 s5 s6 k1 k2 k3 k4 k5 k6 kb k7 kx kp more w.a.id w.a.term w.a.vote w.a.base w.a.bt xa w.a.role w.a.com w.a.v0 w.a.v1 w.a.v2 w.a.m0 w.a.m1 w.a.m2 w.a.n0 w.a.n1 w.a.n2 w.a.quiet w.b.id w.b.term w.b.vote w.b.base w.b.bt xb w.b.role w.b.com w.b.v0 w.b.v1 w.b.v2 w.b.m0 w.b.m1 w.b.m2 w.b.n0 w.b.n1 w.b.n2 w.b.quiet w.c.id w.c.term w.c.vote w.c.base w.c.bt xc w.c.role w.c.com w.c.v0 w.c.v1 w.c.v2 w.c.m0 w.c.m1 w.c.m2 w.c.n0 w.c.n1 w.c.n2 w.c.quiet H8 (i : Int) Q := by
  intro d
  induction d with
  | zero =>
    intro i H8 hi m8
    apply tephralaw14_NodeAgree.l2.step; unfold tephralaw14_NodeAgree.l2.body
    exact Br.no (decide_eq_false (by omega)) (hl1 H8 (wh_to o7 m8))
  | succ d ih =>
  intro i H8 hi m8
  have hid : in3 (i : Int) := ⟨by omega, by omega⟩
  have hin : (0 : Int) ≤ (i : Int) ∧ (i : Int) < ((3 : Nat) : Int) := ⟨by omega, by omega⟩
  have nx : ∀ H40, Mod (fun _ => False) H8 H40 → tephralaw14_NodeAgree.l2 J0 acts (some ⟨b0, 0, none⟩) x2 op who at_ s1 s2 s3 s4 s5 s6 k1 k2 k3 k4 k5 k6 kb k7 kx kp more w.a.id w.a.term w.a.vote w.a.base w.a.bt xa w.a.role w.a.com w.a.v0 w.a.v1 w.a.v2 w.a.m0 w.a.m1 w.a.m2 w.a.n0 w.a.n1 w.a.n2 w.a.quiet w.b.id w.b.term w.b.vote w.b.base w.b.bt xb w.b.role w.b.com w.b.v0 w.b.v1 w.b.v2 w.b.m0 w.b.m1 w.b.m2 w.b.n0 w.b.n1 w.b.n2 w.b.quiet w.c.id w.c.term w.c.vote w.c.base w.c.bt xc w.c.role w.c.com w.c.v0 w.c.v1 w.c.v2 w.c.m0 w.c.m1 w.c.m2 w.c.n0 w.c.n1 w.c.n2 w.c.quiet H40 (w64 ((i : Int) + 1)) Q := by
    intro H40 m'
    have e : w64 ((i : Int) + 1) = ((i + 1 : Nat) : Int) := by rw [w64_id (by omega) (by omega)]; simp
    rw [e]
    exact ih (i + 1) H40 (by omega) (m8.trans m')
  have ej : Int.tmod (w64 ((i : Int) + 1)) 3 = (((i + 1) % 3 : Nat) : Int) := by
    rw [w64_id (by omega) (by omega)]
    have : i = 0 ∨ i = 1 ∨ i = 2 := by omega
    rcases this with rfl | rfl | rfl <;> rfl
  have hj3 : in3 (Int.tmod (w64 ((i : Int) + 1)) 3) := by rw [ej]; unfold in3; omega
  have hj : (0 : Int) ≤ Int.tmod (w64 ((i : Int) + 1)) 3 ∧ Int.tmod (w64 ((i : Int) + 1)) 3 < ((3 : Nat) : Int) := hj3
  obtain ⟨ya, yb, yc, sy, l, o'⟩ := wh_to o7 m8
  obtain ⟨x, hrow, hx, _⟩ := o'.one hid
  have hnx : ∀ H40, Mod (fun _ => False) H8 H40 → ∃ x1 : Sl, RowAt H40 ((Addr.mk b0 0 none).add ((Int.tmod (w64 ((i : Int) + 1)) 3).toNat * 18)) ((w'.nd (Int.tmod (w64 ((i : Int) + 1)) 3)).cells x1) ∧ Lr H40 x1 (w'.nd (Int.tmod (w64 ((i : Int) + 1)) 3)).es := fun H40 m => by
    obtain ⟨z, h1, h2, _⟩ := (o'.to m).one hj3
    exact ⟨z, h1, h2⟩
  have fn := q.fit' _ hid
  have fo := q.fit _ hid
  have hR := q.rt _ hid
  have hcl := (q.cl _ hid).1
  have hbc := (q.cl _ hid).2
  have hc := q.cm _ hid
  have oo := q.of _ hid
  have so := q.old _ hid
  have hA : ∀ H40 x1, Mod (fun _ => False) H8 H40 → Lr H40 x1 (w'.nd (Int.tmod (w64 ((i : Int) + 1)) 3)).es → SCalls Try.prog tephralaw14_agree.id [(w'.nd (i : Int)).val x, (w'.nd (Int.tmod (w64 ((i : Int) + 1)) 3)).val x1] H40 (TellPost H40 (.bool true)) :=
    fun H40 x1 m h => agree_spec (hx.mod m) h fn (q.fit' _ hj3) (q.of' _ hid) (q.of' _ hj3) (q.two _ _ hid hj3)
  apply tephralaw14_NodeAgree.l2.step; unfold tephralaw14_NodeAgree.l2.body
  refine Br.yes (decide_eq_true (by omega)) (vPtr.mk _ rfl ⟨hin, _, _, _, _, _, x, _, _, _, _, _, _, _, _, _, _, _, _, hrow, hin, vSel3 hin (fun e => ?_) (fun e => ?_) (fun e => ?_)⟩)
  · have e0 : (i : Int) = 0 := by omega
    have en : w.nd (i : Int) = w.a := by rw [e0]; rfl
    rw [en] at hc fo oo so
    have hB : ∀ H41, Mod (fun _ => False) H8 H41 → SCalls Try.prog tephralaw14_agree.id [(w'.nd (i : Int)).val x, w.a.val xa] H41 (TellPost H41 (.bool true)) :=
      fun H41 m => agree_spec (hx.mod m) ((la.mod m8).mod m) fn fo (q.of' _ hid) oo so
    refine ⟨⟨fun H9 e9 H10 e10 => ?_, fun H9 e9 H10 e10 => ?_⟩, fun H9 e9 => ⟨fun H10 e10 => ?_, fun H10 e10 => ⟨?_, ?_⟩⟩, fun H9 e9 => ⟨fun H10 e10 => ?_, fun H10 e10 => ⟨?_, ?_⟩⟩⟩
    all_goals
      have mm := (hole_facts e9).1.trans (hole_facts e10).1
      first
      | exact agree_k1 (hx.mod mm) fn hR hcl hbc hj (fun H' m => hnx H' (mm.trans m)) (fun H' z m hz => hA H' z (mm.trans m) hz) (fun H' m => hB H' (mm.trans m)) hc (fun H' m => nx H' (mm.trans m))
      | exact agree_k3 (hx.mod mm) fn hR hcl hbc hj (fun H' m => hnx H' (mm.trans m)) (fun H' z m hz => hA H' z (mm.trans m) hz) (fun H' m => hB H' (mm.trans m)) hc (fun H' m => nx H' (mm.trans m))
  · have e0 : (i : Int) = 1 := by omega
    have en : w.nd (i : Int) = w.b := by rw [e0]; rfl
    rw [en] at hc fo oo so
    have hB : ∀ H41, Mod (fun _ => False) H8 H41 → SCalls Try.prog tephralaw14_agree.id [(w'.nd (i : Int)).val x, w.b.val xb] H41 (TellPost H41 (.bool true)) :=
      fun H41 m => agree_spec (hx.mod m) ((lb.mod m8).mod m) fn fo (q.of' _ hid) oo so
    refine ⟨⟨fun H9 e9 H10 e10 => ?_, fun H9 e9 H10 e10 => ?_⟩, fun H9 e9 => ⟨fun H10 e10 => ?_, fun H10 e10 => ⟨?_, ?_⟩⟩, fun H9 e9 => ⟨fun H10 e10 => ?_, fun H10 e10 => ⟨?_, ?_⟩⟩⟩
    all_goals
      have mm := (hole_facts e9).1.trans (hole_facts e10).1
      first
      | exact agree_k1 (hx.mod mm) fn hR hcl hbc hj (fun H' m => hnx H' (mm.trans m)) (fun H' z m hz => hA H' z (mm.trans m) hz) (fun H' m => hB H' (mm.trans m)) hc (fun H' m => nx H' (mm.trans m))
      | exact agree_k3 (hx.mod mm) fn hR hcl hbc hj (fun H' m => hnx H' (mm.trans m)) (fun H' z m hz => hA H' z (mm.trans m) hz) (fun H' m => hB H' (mm.trans m)) hc (fun H' m => nx H' (mm.trans m))
  · have e0 : (i : Int) = 2 := by omega
    have en : w.nd (i : Int) = w.c := by rw [e0]; rfl
    rw [en] at hc fo oo so
    have hB : ∀ H41, Mod (fun _ => False) H8 H41 → SCalls Try.prog tephralaw14_agree.id [(w'.nd (i : Int)).val x, w.c.val xc] H41 (TellPost H41 (.bool true)) :=
      fun H41 m => agree_spec (hx.mod m) ((lc.mod m8).mod m) fn fo (q.of' _ hid) oo so
    refine ⟨⟨fun H9 e9 H10 e10 => ?_, fun H9 e9 H10 e10 => ?_⟩, fun H9 e9 => ⟨fun H10 e10 => ?_, fun H10 e10 => ⟨?_, ?_⟩⟩, fun H9 e9 => ⟨fun H10 e10 => ?_, fun H10 e10 => ⟨?_, ?_⟩⟩⟩
    all_goals
      have mm := (hole_facts e9).1.trans (hole_facts e10).1
      first
      | exact agree_k1 (hx.mod mm) fn hR hcl hbc hj (fun H' m => hnx H' (mm.trans m)) (fun H' z m hz => hA H' z (mm.trans m) hz) (fun H' m => hB H' (mm.trans m)) hc (fun H' m => nx H' (mm.trans m))
      | exact agree_k3 (hx.mod mm) fn hR hcl hbc hj (fun H' m => hnx H' (mm.trans m)) (fun H' z m hz => hA H' z (mm.trans m) hz) (fun H' m => hB H' (mm.trans m)) hc (fun H' m => nx H' (mm.trans m))
end
end Go.Proofs
