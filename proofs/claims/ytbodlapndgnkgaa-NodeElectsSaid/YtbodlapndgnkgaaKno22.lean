/- LAYER 14: NodeElects: what is asked of one replica behind a deed (printed by elects.py). -/
import Derived.Test.YtbodlapndgnkgaaKno21
set_option linter.all false
set_option linter.constructorNameAsVariable false
set_option maxRecDepth 100000
set_option linter.all false
namespace Go.Proofs
open Go Go.KC
theorem keyD_ii : keyD Try.prog T_map_int_int = some (.int .i64, T_int) := by kernel_rfl
theorem int_inf : (Try.prog.info? T_int).map (fun i => i.zero) = some (some (.int .i64 0)) := by kernel_rfl
theorem int_zero : ∃ ti, Try.prog.info? T_int = some ti ∧ ti.zero = some (.int .i64 0) := by
  have h := int_inf
  cases hi : Try.prog.info? T_int with
  | none => rw [hi] at h; simp at h
  | some ti => rw [hi] at h; simp at h; exact ⟨ti, rfl, h⟩
section
variable {acts : Sl} {x1 : Option Addr} {b : Nat} {x2 : Int} {Opv : Int} {Who : Int} {At : Int} {SayOp : Int} {SayClient : Int} {SaySeq : Int} {SayKey : Int} {SayValue : Int} {SayOld : Int} {AnyKind : Int} {AnyFrom : Int} {AnyTo : Int} {AnyTerm : Int} {AnyIndex : Int} {AnyLogTerm : Int} {AnyOK : Bool} {AnyCommit : Int} {AnyEntries : Sl} {AnyState : Option Addr} {More : Int} {x0ID : Int} {x0Term : Int} {x0Vote : Int} {x0LogBase : Int} {x0LogTerm : Int} {x0LogEntries : Sl} {x0Role : Int} {x0Commit : Int} {x0Votes0 : Bool} {x0Votes1 : Bool} {x0Votes2 : Bool} {x0Match0 : Int} {x0Match1 : Int} {x0Match2 : Int} {x0Next0 : Int} {x0Next1 : Int} {x0Next2 : Int} {x0Quiet : Int} {x1ID : Int} {x1Term : Int} {x1Vote : Int} {x1LogBase : Int} {x1LogTerm : Int} {x1LogEntries : Sl} {x1Role : Int} {x1Commit : Int} {x1Votes0 : Bool} {x1Votes1 : Bool} {x1Votes2 : Bool} {x1Match0 : Int} {x1Match1 : Int} {x1Match2 : Int} {x1Next0 : Int} {x1Next1 : Int} {x1Next2 : Int} {x1Quiet : Int} {x2ID : Int} {x2Term : Int} {x2Vote : Int} {x2LogBase : Int} {x2LogTerm : Int} {x2LogEntries : Sl} {x2Role : Int} {x2Commit : Int} {x2Votes0 : Bool} {x2Votes1 : Bool} {x2Votes2 : Bool} {x2Match0 : Int} {x2Match1 : Int} {x2Match2 : Int} {x2Next0 : Int} {x2Next1 : Int} {x2Next2 : Int} {x2Quiet : Int} {id : Int} {ID : Int} {Term : Int} {Vote : Int} {LogBase : Int} {LogTerm : Int} {LogEntries : Sl} {Role : Int} {Commit : Int} {Votes0 : Bool} {Votes1 : Bool} {Votes2 : Bool} {Match0 : Int} {Match1 : Int} {Match2 : Int} {Next0 : Int} {Next1 : Int} {Next2 : Int} {Quiet : Int} {y : Int} {y1 : Int} {y2 : Int} {y3 : Int} {y4 : Int} {y5 : Sl} {y6 : Int} {y7 : Int} {y8 : Bool} {y9 : Bool} {y10 : Bool} {y11 : Int} {y12 : Int} {y13 : Int} {y14 : Int} {y15 : Int} {y16 : Int} {y17 : Int} {H39 : Hp} {H8 : Hp} {Q : Value → Hp → Prop} {f : Int → Option Value}
theorem elects_k5 (m : Mod (fun _ => False) H8 H39) (hg : GL H8 b f) (hr : Role = 2)
    (hn : ∀ H40 g, Mod (· = b) H8 H40 → GL H40 b g → (g = f ∨ Role = 2 ∧ g = upd f Term (some (.int .i64 id))) → tephralaw14_NodeElects.l2 J0 acts x1 b x2 Opv Who At SayOp SayClient SaySeq SayKey SayValue SayOld AnyKind AnyFrom AnyTo AnyTerm AnyIndex AnyLogTerm AnyOK AnyCommit AnyEntries AnyState More x0ID x0Term x0Vote x0LogBase x0LogTerm x0LogEntries x0Role x0Commit x0Votes0 x0Votes1 x0Votes2 x0Match0 x0Match1 x0Match2 x0Next0 x0Next1 x0Next2 x0Quiet x1ID x1Term x1Vote x1LogBase x1LogTerm x1LogEntries x1Role x1Commit x1Votes0 x1Votes1 x1Votes2 x1Match0 x1Match1 x1Match2 x1Next0 x1Next1 x1Next2 x1Quiet x2ID x2Term x2Vote x2LogBase x2LogTerm x2LogEntries x2Role x2Commit x2Votes0 x2Votes1 x2Votes2 x2Match0 x2Match1 x2Match2 x2Next0 x2Next1 x2Next2 x2Quiet H40 (w64 (id + 1)) Q) :
    tephralaw14_NodeElects.k5 J0 acts x1 b x2 Opv Who At SayOp SayClient SaySeq SayKey SayValue SayOld AnyKind AnyFrom AnyTo AnyTerm AnyIndex AnyLogTerm AnyOK AnyCommit AnyEntries AnyState More x0ID x0Term x0Vote x0LogBase x0LogTerm x0LogEntries x0Role x0Commit x0Votes0 x0Votes1 x0Votes2 x0Match0 x0Match1 x0Match2 x0Next0 x0Next1 x0Next2 x0Quiet x1ID x1Term x1Vote x1LogBase x1LogTerm x1LogEntries x1Role x1Commit x1Votes0 x1Votes1 x1Votes2 x1Match0 x1Match1 x1Match2 x1Next0 x1Next1 x1Next2 x1Quiet x2ID x2Term x2Vote x2LogBase x2LogTerm x2LogEntries x2Role x2Commit x2Votes0 x2Votes1 x2Votes2 x2Match0 x2Match1 x2Match2 x2Next0 x2Next1 x2Next2 x2Quiet id ID Term Vote LogBase LogTerm LogEntries Role Commit Votes0 Votes1 Votes2 Match0 Match1 Match2 Next0 Next1 Next2 Quiet y y1 y2 y3 y4 y5 y6 y7 y8 y9 y10 y11 y12 y13 y14 y15 y16 y17 H39 false Q := by
  apply tephralaw14_NodeElects.k5.step; unfold tephralaw14_NodeElects.k5.body
  obtain ⟨n, hg⟩ := hg.keep m fun e => e
  exact Br.no rfl (hg.put keInt keyD_ii Term (.int .i64 id) fun H1 g1 m1 => hn H1 _ ((m.mono fun _ _ e => e.elim).trans m1) ⟨_, g1⟩ (Or.inr ⟨hr, rfl⟩))
theorem elects_k4 (m : Mod (fun _ => False) H8 H39) (hg : GL H8 b f) (hf : Role = 2 → ∀ v, f Term = some v → v = .int .i64 id)
    (hn : ∀ H40 g, Mod (· = b) H8 H40 → GL H40 b g → (g = f ∨ Role = 2 ∧ g = upd f Term (some (.int .i64 id))) → tephralaw14_NodeElects.l2 J0 acts x1 b x2 Opv Who At SayOp SayClient SaySeq SayKey SayValue SayOld AnyKind AnyFrom AnyTo AnyTerm AnyIndex AnyLogTerm AnyOK AnyCommit AnyEntries AnyState More x0ID x0Term x0Vote x0LogBase x0LogTerm x0LogEntries x0Role x0Commit x0Votes0 x0Votes1 x0Votes2 x0Match0 x0Match1 x0Match2 x0Next0 x0Next1 x0Next2 x0Quiet x1ID x1Term x1Vote x1LogBase x1LogTerm x1LogEntries x1Role x1Commit x1Votes0 x1Votes1 x1Votes2 x1Match0 x1Match1 x1Match2 x1Next0 x1Next1 x1Next2 x1Quiet x2ID x2Term x2Vote x2LogBase x2LogTerm x2LogEntries x2Role x2Commit x2Votes0 x2Votes1 x2Votes2 x2Match0 x2Match1 x2Match2 x2Next0 x2Next1 x2Next2 x2Quiet H40 (w64 (id + 1)) Q) :
    tephralaw14_NodeElects.k4 J0 acts x1 b x2 Opv Who At SayOp SayClient SaySeq SayKey SayValue SayOld AnyKind AnyFrom AnyTo AnyTerm AnyIndex AnyLogTerm AnyOK AnyCommit AnyEntries AnyState More x0ID x0Term x0Vote x0LogBase x0LogTerm x0LogEntries x0Role x0Commit x0Votes0 x0Votes1 x0Votes2 x0Match0 x0Match1 x0Match2 x0Next0 x0Next1 x0Next2 x0Quiet x1ID x1Term x1Vote x1LogBase x1LogTerm x1LogEntries x1Role x1Commit x1Votes0 x1Votes1 x1Votes2 x1Match0 x1Match1 x1Match2 x1Next0 x1Next1 x1Next2 x1Quiet x2ID x2Term x2Vote x2LogBase x2LogTerm x2LogEntries x2Role x2Commit x2Votes0 x2Votes1 x2Votes2 x2Match0 x2Match1 x2Match2 x2Next0 x2Next1 x2Next2 x2Quiet id ID Term Vote LogBase LogTerm LogEntries Role Commit Votes0 Votes1 Votes2 Match0 Match1 Match2 Next0 Next1 Next2 Quiet y y1 y2 y3 y4 y5 y6 y7 y8 y9 y10 y11 y12 y13 y14 y15 y16 y17 H39 false Q := by
  apply tephralaw14_NodeElects.k4.step; unfold tephralaw14_NodeElects.k4.body
  refine Br.no rfl ?_
  by_cases hr : Role = 2
  · refine Br.yes (beq_iff_eq.2 hr) ?_
    obtain ⟨n, hg'⟩ := hg.keep m fun e => e
    have lk := hg'.look keInt keyD_ii int_zero Term
    cases hv : f Term with
    | none =>
      rw [hv] at lk
      exact ⟨0, false, lk, Br.no rfl (elects_k5 m hg hr hn)⟩
    | some v =>
      have := hf hr v hv
      subst this
      rw [hv] at lk
      refine ⟨id, true, lk, Br.yes rfl ?_⟩
      have e : (id != id) = false := by simp
      rw [e]
      exact elects_k5 m hg hr hn
  · exact Br.no (beq_eq_false_iff_ne.2 hr) (hn _ _ (m.mono fun _ _ e => e.elim) (hg.keep m fun e => e) (Or.inl rfl))
theorem elects_k1 (m : Mod (fun _ => False) H8 H39) (hg : GL H8 b f) (ht : y1 ≤ Term) (hv : Term = y1 → 0 ≤ y2 → Vote = y2) (hf : Role = 2 → ∀ v, f Term = some v → v = .int .i64 id)
    (hn : ∀ H40 g, Mod (· = b) H8 H40 → GL H40 b g → (g = f ∨ Role = 2 ∧ g = upd f Term (some (.int .i64 id))) → tephralaw14_NodeElects.l2 J0 acts x1 b x2 Opv Who At SayOp SayClient SaySeq SayKey SayValue SayOld AnyKind AnyFrom AnyTo AnyTerm AnyIndex AnyLogTerm AnyOK AnyCommit AnyEntries AnyState More x0ID x0Term x0Vote x0LogBase x0LogTerm x0LogEntries x0Role x0Commit x0Votes0 x0Votes1 x0Votes2 x0Match0 x0Match1 x0Match2 x0Next0 x0Next1 x0Next2 x0Quiet x1ID x1Term x1Vote x1LogBase x1LogTerm x1LogEntries x1Role x1Commit x1Votes0 x1Votes1 x1Votes2 x1Match0 x1Match1 x1Match2 x1Next0 x1Next1 x1Next2 x1Quiet x2ID x2Term x2Vote x2LogBase x2LogTerm x2LogEntries x2Role x2Commit x2Votes0 x2Votes1 x2Votes2 x2Match0 x2Match1 x2Match2 x2Next0 x2Next1 x2Next2 x2Quiet H40 (w64 (id + 1)) Q) :
    tephralaw14_NodeElects.k1 J0 acts x1 b x2 Opv Who At SayOp SayClient SaySeq SayKey SayValue SayOld AnyKind AnyFrom AnyTo AnyTerm AnyIndex AnyLogTerm AnyOK AnyCommit AnyEntries AnyState More x0ID x0Term x0Vote x0LogBase x0LogTerm x0LogEntries x0Role x0Commit x0Votes0 x0Votes1 x0Votes2 x0Match0 x0Match1 x0Match2 x0Next0 x0Next1 x0Next2 x0Quiet x1ID x1Term x1Vote x1LogBase x1LogTerm x1LogEntries x1Role x1Commit x1Votes0 x1Votes1 x1Votes2 x1Match0 x1Match1 x1Match2 x1Next0 x1Next1 x1Next2 x1Quiet x2ID x2Term x2Vote x2LogBase x2LogTerm x2LogEntries x2Role x2Commit x2Votes0 x2Votes1 x2Votes2 x2Match0 x2Match1 x2Match2 x2Next0 x2Next1 x2Next2 x2Quiet id ID Term Vote LogBase LogTerm LogEntries Role Commit Votes0 Votes1 Votes2 Match0 Match1 Match2 Next0 Next1 Next2 Quiet y y1 y2 y3 y4 y5 y6 y7 y8 y9 y10 y11 y12 y13 y14 y15 y16 y17 H39 Q := by
  apply tephralaw14_NodeElects.k1.step; unfold tephralaw14_NodeElects.k1.body
  refine Br.no (decide_eq_false (by omega)) ?_
  by_cases c : Term = y1
  · refine Br.yes (beq_iff_eq.2 c) ?_
    apply tephralaw14_NodeElects.k3.step; unfold tephralaw14_NodeElects.k3.body
    by_cases c2 : y2 ≥ 0
    · have e : (Vote != y2) = false := by rw [hv c c2]; simp
      rw [e]
      exact Br.yes (decide_eq_true c2) (elects_k4 m hg hf hn)
    · exact Br.no (decide_eq_false c2) (elects_k4 m hg hf hn)
  · refine Br.no (beq_eq_false_iff_ne.2 c) ?_
    apply tephralaw14_NodeElects.k3.step; unfold tephralaw14_NodeElects.k3.body
    exact Br.no rfl (elects_k4 m hg hf hn)
end
section
variable {acts : Sl} {x1 : Option Addr} {b : Nat} {x2 : Int} {Opv : Int} {Who : Int} {At : Int} {SayOp : Int} {SayClient : Int} {SaySeq : Int} {SayKey : Int} {SayValue : Int} {SayOld : Int} {AnyKind : Int} {AnyFrom : Int} {AnyTo : Int} {AnyTerm : Int} {AnyIndex : Int} {AnyLogTerm : Int} {AnyOK : Bool} {AnyCommit : Int} {AnyEntries : Sl} {AnyState : Option Addr} {More : Int} {x0ID : Int} {x0Term : Int} {x0Vote : Int} {x0LogBase : Int} {x0LogTerm : Int} {x0LogEntries : Sl} {x0Role : Int} {x0Commit : Int} {x0Votes0 : Bool} {x0Votes1 : Bool} {x0Votes2 : Bool} {x0Match0 : Int} {x0Match1 : Int} {x0Match2 : Int} {x0Next0 : Int} {x0Next1 : Int} {x0Next2 : Int} {x0Quiet : Int} {x1ID : Int} {x1Term : Int} {x1Vote : Int} {x1LogBase : Int} {x1LogTerm : Int} {x1LogEntries : Sl} {x1Role : Int} {x1Commit : Int} {x1Votes0 : Bool} {x1Votes1 : Bool} {x1Votes2 : Bool} {x1Match0 : Int} {x1Match1 : Int} {x1Match2 : Int} {x1Next0 : Int} {x1Next1 : Int} {x1Next2 : Int} {x1Quiet : Int} {x2ID : Int} {x2Term : Int} {x2Vote : Int} {x2LogBase : Int} {x2LogTerm : Int} {x2LogEntries : Sl} {x2Role : Int} {x2Commit : Int} {x2Votes0 : Bool} {x2Votes1 : Bool} {x2Votes2 : Bool} {x2Match0 : Int} {x2Match1 : Int} {x2Match2 : Int} {x2Next0 : Int} {x2Next1 : Int} {x2Next2 : Int} {x2Quiet : Int} {id : Int} {ID : Int} {Term : Int} {Vote : Int} {LogBase : Int} {LogTerm : Int} {LogEntries : Sl} {Role : Int} {Commit : Int} {Votes0 : Bool} {Votes1 : Bool} {Votes2 : Bool} {Match0 : Int} {Match1 : Int} {Match2 : Int} {Next0 : Int} {Next1 : Int} {Next2 : Int} {Quiet : Int} {y18 : Int} {y19 : Int} {y20 : Int} {y21 : Int} {y22 : Int} {y23 : Sl} {y24 : Int} {y25 : Int} {y26 : Bool} {y27 : Bool} {y28 : Bool} {y29 : Int} {y30 : Int} {y31 : Int} {y32 : Int} {y33 : Int} {y34 : Int} {y35 : Int} {H41 : Hp} {H8 : Hp} {Q : Value → Hp → Prop} {f : Int → Option Value}
theorem elects_k10 (m : Mod (fun _ => False) H8 H41) (hg : GL H8 b f) (hr : Role = 2)
    (hn : ∀ H40 g, Mod (· = b) H8 H40 → GL H40 b g → (g = f ∨ Role = 2 ∧ g = upd f Term (some (.int .i64 id))) → tephralaw14_NodeElects.l2 J0 acts x1 b x2 Opv Who At SayOp SayClient SaySeq SayKey SayValue SayOld AnyKind AnyFrom AnyTo AnyTerm AnyIndex AnyLogTerm AnyOK AnyCommit AnyEntries AnyState More x0ID x0Term x0Vote x0LogBase x0LogTerm x0LogEntries x0Role x0Commit x0Votes0 x0Votes1 x0Votes2 x0Match0 x0Match1 x0Match2 x0Next0 x0Next1 x0Next2 x0Quiet x1ID x1Term x1Vote x1LogBase x1LogTerm x1LogEntries x1Role x1Commit x1Votes0 x1Votes1 x1Votes2 x1Match0 x1Match1 x1Match2 x1Next0 x1Next1 x1Next2 x1Quiet x2ID x2Term x2Vote x2LogBase x2LogTerm x2LogEntries x2Role x2Commit x2Votes0 x2Votes1 x2Votes2 x2Match0 x2Match1 x2Match2 x2Next0 x2Next1 x2Next2 x2Quiet H40 (w64 (id + 1)) Q) :
    tephralaw14_NodeElects.k10 J0 acts x1 b x2 Opv Who At SayOp SayClient SaySeq SayKey SayValue SayOld AnyKind AnyFrom AnyTo AnyTerm AnyIndex AnyLogTerm AnyOK AnyCommit AnyEntries AnyState More x0ID x0Term x0Vote x0LogBase x0LogTerm x0LogEntries x0Role x0Commit x0Votes0 x0Votes1 x0Votes2 x0Match0 x0Match1 x0Match2 x0Next0 x0Next1 x0Next2 x0Quiet x1ID x1Term x1Vote x1LogBase x1LogTerm x1LogEntries x1Role x1Commit x1Votes0 x1Votes1 x1Votes2 x1Match0 x1Match1 x1Match2 x1Next0 x1Next1 x1Next2 x1Quiet x2ID x2Term x2Vote x2LogBase x2LogTerm x2LogEntries x2Role x2Commit x2Votes0 x2Votes1 x2Votes2 x2Match0 x2Match1 x2Match2 x2Next0 x2Next1 x2Next2 x2Quiet id ID Term Vote LogBase LogTerm LogEntries Role Commit Votes0 Votes1 Votes2 Match0 Match1 Match2 Next0 Next1 Next2 Quiet y18 y19 y20 y21 y22 y23 y24 y25 y26 y27 y28 y29 y30 y31 y32 y33 y34 y35 H41 false Q := by
  apply tephralaw14_NodeElects.k10.step; unfold tephralaw14_NodeElects.k10.body
  obtain ⟨n, hg⟩ := hg.keep m fun e => e
  exact Br.no rfl (hg.put keInt keyD_ii Term (.int .i64 id) fun H1 g1 m1 => hn H1 _ ((m.mono fun _ _ e => e.elim).trans m1) ⟨_, g1⟩ (Or.inr ⟨hr, rfl⟩))
theorem elects_k9 (m : Mod (fun _ => False) H8 H41) (hg : GL H8 b f) (hf : Role = 2 → ∀ v, f Term = some v → v = .int .i64 id)
    (hn : ∀ H40 g, Mod (· = b) H8 H40 → GL H40 b g → (g = f ∨ Role = 2 ∧ g = upd f Term (some (.int .i64 id))) → tephralaw14_NodeElects.l2 J0 acts x1 b x2 Opv Who At SayOp SayClient SaySeq SayKey SayValue SayOld AnyKind AnyFrom AnyTo AnyTerm AnyIndex AnyLogTerm AnyOK AnyCommit AnyEntries AnyState More x0ID x0Term x0Vote x0LogBase x0LogTerm x0LogEntries x0Role x0Commit x0Votes0 x0Votes1 x0Votes2 x0Match0 x0Match1 x0Match2 x0Next0 x0Next1 x0Next2 x0Quiet x1ID x1Term x1Vote x1LogBase x1LogTerm x1LogEntries x1Role x1Commit x1Votes0 x1Votes1 x1Votes2 x1Match0 x1Match1 x1Match2 x1Next0 x1Next1 x1Next2 x1Quiet x2ID x2Term x2Vote x2LogBase x2LogTerm x2LogEntries x2Role x2Commit x2Votes0 x2Votes1 x2Votes2 x2Match0 x2Match1 x2Match2 x2Next0 x2Next1 x2Next2 x2Quiet H40 (w64 (id + 1)) Q) :
    tephralaw14_NodeElects.k9 J0 acts x1 b x2 Opv Who At SayOp SayClient SaySeq SayKey SayValue SayOld AnyKind AnyFrom AnyTo AnyTerm AnyIndex AnyLogTerm AnyOK AnyCommit AnyEntries AnyState More x0ID x0Term x0Vote x0LogBase x0LogTerm x0LogEntries x0Role x0Commit x0Votes0 x0Votes1 x0Votes2 x0Match0 x0Match1 x0Match2 x0Next0 x0Next1 x0Next2 x0Quiet x1ID x1Term x1Vote x1LogBase x1LogTerm x1LogEntries x1Role x1Commit x1Votes0 x1Votes1 x1Votes2 x1Match0 x1Match1 x1Match2 x1Next0 x1Next1 x1Next2 x1Quiet x2ID x2Term x2Vote x2LogBase x2LogTerm x2LogEntries x2Role x2Commit x2Votes0 x2Votes1 x2Votes2 x2Match0 x2Match1 x2Match2 x2Next0 x2Next1 x2Next2 x2Quiet id ID Term Vote LogBase LogTerm LogEntries Role Commit Votes0 Votes1 Votes2 Match0 Match1 Match2 Next0 Next1 Next2 Quiet y18 y19 y20 y21 y22 y23 y24 y25 y26 y27 y28 y29 y30 y31 y32 y33 y34 y35 H41 false Q := by
  apply tephralaw14_NodeElects.k9.step; unfold tephralaw14_NodeElects.k9.body
  refine Br.no rfl ?_
  by_cases hr : Role = 2
  · refine Br.yes (beq_iff_eq.2 hr) ?_
    obtain ⟨n, hg'⟩ := hg.keep m fun e => e
    have lk := hg'.look keInt keyD_ii int_zero Term
    cases hv : f Term with
    | none =>
      rw [hv] at lk
      exact ⟨0, false, lk, Br.no rfl (elects_k10 m hg hr hn)⟩
    | some v =>
      have := hf hr v hv
      subst this
      rw [hv] at lk
      refine ⟨id, true, lk, Br.yes rfl ?_⟩
      have e : (id != id) = false := by simp
      rw [e]
      exact elects_k10 m hg hr hn
  · exact Br.no (beq_eq_false_iff_ne.2 hr) (hn _ _ (m.mono fun _ _ e => e.elim) (hg.keep m fun e => e) (Or.inl rfl))
theorem elects_k6 (m : Mod (fun _ => False) H8 H41) (hg : GL H8 b f) (ht : y19 ≤ Term) (hv : Term = y19 → 0 ≤ y20 → Vote = y20) (hf : Role = 2 → ∀ v, f Term = some v → v = .int .i64 id)
    (hn : ∀ H40 g, Mod (· = b) H8 H40 → GL H40 b g → (g = f ∨ Role = 2 ∧ g = upd f Term (some (.int .i64 id))) → tephralaw14_NodeElects.l2 J0 acts x1 b x2 Opv Who At SayOp SayClient SaySeq SayKey SayValue SayOld AnyKind AnyFrom AnyTo AnyTerm AnyIndex AnyLogTerm AnyOK AnyCommit AnyEntries AnyState More x0ID x0Term x0Vote x0LogBase x0LogTerm x0LogEntries x0Role x0Commit x0Votes0 x0Votes1 x0Votes2 x0Match0 x0Match1 x0Match2 x0Next0 x0Next1 x0Next2 x0Quiet x1ID x1Term x1Vote x1LogBase x1LogTerm x1LogEntries x1Role x1Commit x1Votes0 x1Votes1 x1Votes2 x1Match0 x1Match1 x1Match2 x1Next0 x1Next1 x1Next2 x1Quiet x2ID x2Term x2Vote x2LogBase x2LogTerm x2LogEntries x2Role x2Commit x2Votes0 x2Votes1 x2Votes2 x2Match0 x2Match1 x2Match2 x2Next0 x2Next1 x2Next2 x2Quiet H40 (w64 (id + 1)) Q) :
    tephralaw14_NodeElects.k6 J0 acts x1 b x2 Opv Who At SayOp SayClient SaySeq SayKey SayValue SayOld AnyKind AnyFrom AnyTo AnyTerm AnyIndex AnyLogTerm AnyOK AnyCommit AnyEntries AnyState More x0ID x0Term x0Vote x0LogBase x0LogTerm x0LogEntries x0Role x0Commit x0Votes0 x0Votes1 x0Votes2 x0Match0 x0Match1 x0Match2 x0Next0 x0Next1 x0Next2 x0Quiet x1ID x1Term x1Vote x1LogBase x1LogTerm x1LogEntries x1Role x1Commit x1Votes0 x1Votes1 x1Votes2 x1Match0 x1Match1 x1Match2 x1Next0 x1Next1 x1Next2 x1Quiet x2ID x2Term x2Vote x2LogBase x2LogTerm x2LogEntries x2Role x2Commit x2Votes0 x2Votes1 x2Votes2 x2Match0 x2Match1 x2Match2 x2Next0 x2Next1 x2Next2 x2Quiet id ID Term Vote LogBase LogTerm LogEntries Role Commit Votes0 Votes1 Votes2 Match0 Match1 Match2 Next0 Next1 Next2 Quiet y18 y19 y20 y21 y22 y23 y24 y25 y26 y27 y28 y29 y30 y31 y32 y33 y34 y35 H41 Q := by
  apply tephralaw14_NodeElects.k6.step; unfold tephralaw14_NodeElects.k6.body
  refine Br.no (decide_eq_false (by omega)) ?_
  by_cases c : Term = y19
  · refine Br.yes (beq_iff_eq.2 c) ?_
    apply tephralaw14_NodeElects.k8.step; unfold tephralaw14_NodeElects.k8.body
    by_cases c2 : y20 ≥ 0
    · have e : (Vote != y20) = false := by rw [hv c c2]; simp
      rw [e]
      exact Br.yes (decide_eq_true c2) (elects_k9 m hg hf hn)
    · exact Br.no (decide_eq_false c2) (elects_k9 m hg hf hn)
  · refine Br.no (beq_eq_false_iff_ne.2 c) ?_
    apply tephralaw14_NodeElects.k8.step; unfold tephralaw14_NodeElects.k8.body
    exact Br.no rfl (elects_k9 m hg hf hn)
end
end Go.Proofs
