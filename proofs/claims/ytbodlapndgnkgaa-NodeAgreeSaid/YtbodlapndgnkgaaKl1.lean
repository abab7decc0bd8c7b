/- FROM A WALK TO THE GIVEN FORM: a law that ends with true, and leaves all that stood. Generic. -/
import Derived.Test.YtbodlapndgnkgaaKh2
import Derived.ChangeStays
import Derived.ChangeShapes
import Derived.ChangeOld
import Derived.RowKit
set_option linter.all false
set_option linter.constructorNameAsVariable false
namespace Go.KC
open Go.WideShapes Go.ChangeShapes Go.RowKit

/-- All that stood in W stands in W'. -/
def Kept (W W' : World) : Prop := W'.os = W.os ∧ W'.output = W.output ∧ W.heap.size ≤ W'.heap.size ∧ ∀ b, b < W.heap.size → W'.heap[b]? = W.heap[b]?

theorem calls_of {P : Program} {f : FuncId} {args : List Value} {W : World} (h : SCalls P f args W.heap fun r H' => r = .bool true ∧ Mod (fun _ => False) W.heap H') :
    Calls P f args.toArray W fun e w' => e = .returned (.bool true) ∧ Kept W w' := by
  refine (h (fun _ => False) W (Hides.refl _)).mono ?_
  rintro e w' ⟨r, H', M', rfl, ha, hm, hd, rfl, hk⟩
  refine ⟨rfl, ha.strm.os, ha.strm.output, ha.size, fun b hb => ?_⟩
  rw [← hd.same b (fun hM => (hm b hb).1 hM)]
  exact hk.keep b hb (fun h => h)

theorem Kept.but {W W' : World} (h : Kept W W') (may : MemPlace → Prop) : W.keptBut W' may := by
  refine ⟨h.1, h.2.1, fun i hi => ?_⟩
  rw [h.2.2.2 i hi]
  cases W.heap[i]? with
  | none => trivial
  | some o => cases o <;> simp

theorem Kept.at {W W' : World} (h : Kept W W') {p : MemPlace} (hp : p.block < W.heap.size) : W.sameAt W' p := by
  cases p with
  | cell b off =>
    show W'.cell? ⟨b, off, none⟩ = W.cell? ⟨b, off, none⟩
    unfold World.cell?
    rw [h.2.2.2 b hp]
  | map b => exact h.2.2.2 b hp

variable {H : Type} {enc : TypeId × Value → H} {P : Program}

theorem trodAll_stays (hl : laidOutB P = true) (hm : mapsRowed P = true) (hsz : ∀ {t e : TypeId}, t < P.types.size → P.underlying t = some (.slice e) → 0 < P.cellsOf e) {W W' : World} (hk : Kept W W') :
    ∀ {ts : List TypeId} {vs : List Value} {ds : List (DataW H)} {ps : List MemPlace}, (∀ t ∈ ts, t < P.types.size) → DataW.TrodAll enc P W 0 (fun _ => true) true ts vs ds ps → ∀ sp : Nat → Bool, (∀ p ∈ ps, p.block < W.heap.size ∧ sp p.block = true) →
      DataW.TrodAll enc P W' 0 sp true ts vs ds ps
  | [], [], [], _, _, h, _, _ => h
  | t :: ts, _ :: _, _ :: _, _, ht, ⟨p, q, ⟨n, h⟩, hs, e⟩, sp, hp => by
    subst e
    refine ⟨p, q, ⟨n, DataW.trod_stays (kids_rows hl hm) hsz (fun e => by cases e) (ht t (by simp)) h (fun x hx => hk.at (hp x (by simp [show x ∈ p from hx])).1) (fun x hx => (hp x (by simp [show x ∈ p from hx])).2)⟩, trodAll_stays hl hm hsz hk (fun t ht' => ht t (by simp [ht'])) hs sp (fun x hx => hp x (by simp [hx])), rfl⟩
  | [], [], _ :: _, _, _, h, _, _ => h.elim
  | [], _ :: _, _, _, _, h, _, _ => h.elim
  | _ :: _, [], _, _, _, h, _, _ => h.elim
  | _ :: _, _ :: _, [], _, _, h, _, _ => h.elim

/-- What the form asks behind the call. -/
theorem law_post (hl : laidOutB P = true) (hm : mapsRowed P = true) (hsz : ∀ {t e : TypeId}, t < P.types.size → P.underlying t = some (.slice e) → 0 < P.cellsOf e) {f : Func} {s : ChangeSpec} {apart : Bool} {W W' : World} {args : Array Value} {ds gs : List (DataW H)} {before : List MemPlace} {tb : TypeId}
    (hts : ∀ t ∈ f.params.toList, t < P.types.size) (hv : s.vars = []) (hW : DataW.Whole enc P f.params.toList s.vars apart W args.toList ds gs before) (hk : Kept W W')
    (hs : s.fn H (ds ++ gs) = { results := [.lit (.bool true)], args := ds }) (hr : f.resultTypes = #[tb]) (hb : P.underlying tb = some .bool) :
    s.post enc P f apart true false false W args (.bool true) W' := by
  have hlt := hW.lt
  have hW0 := hW
  obtain ⟨p, q, hA, hV, rfl, hz, hn⟩ := hW0
  refine ⟨ds, gs, p ++ q, [], p, [], hW, ?_, ?_, ?_, hk.but _, fun e => by cases e⟩
  · rw [hs, hr]
    exact trodAll_mk1 (shut_bool hb _)
  · rw [hs]
    exact trodAll_stays hl hm hsz hk hts hA _ fun x hx => by
      have := hlt x (by simp [hx])
      exact ⟨this, by simpa using this⟩
  · rw [hs, hv]
    rfl

end Go.KC
