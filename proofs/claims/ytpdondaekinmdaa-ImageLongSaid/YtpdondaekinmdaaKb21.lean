/- LAYER 09: ImageLong. -/
import Derived.Test.YtpdondaekinmdaaKde4
import Derived.Test.YtpdondaekinmdaaKbx16
set_option linter.all false
set_option linter.constructorNameAsVariable false
set_option maxRecDepth 100000
namespace Go.Proofs
open Go Go.KC

def vL : ByteArray := ByteArray.mk #[48, 49, 50, 51, 52, 53, 54, 55, 56, 57, 97, 98, 99, 100, 101, 102]
def fL (k : Nat) : List UInt8 := [107, UInt8.ofNat (k / 200), UInt8.ofNat (1 + k % 200), 97, 98, 99, 100, 101]
def mkL (k : Nat) : Pr := ⟨ByteArray.mk (fL k).toArray, vL, false⟩
def Ll (n : Nat) : List Pr := (List.range n).map mkL
theorem Ll_len (n : Nat) : (Ll n).length = n := by simp [Ll]
theorem Ll_succ (n : Nat) : ((Ll (n + 1)).map Pr.row).flatten = ((Ll n).map Pr.row).flatten ++ (mkL n).row := by
  simp [Ll, List.range_succ]
theorem ba_list (l : List UInt8) : (ByteArray.mk l.toArray).toList = l := by
  rw [ByteArray.toList_eq]
theorem ltB {c d : UInt8} {x y : List UInt8} (h : c < d ∨ (c = d ∧ Op.bytesLess x y = true)) : Op.bytesLess (c :: x) (d :: y) = true := by
  simp only [Op.bytesLess, Bool.or_eq_true, decide_eq_true_eq, Bool.and_eq_true, beq_iff_eq]
  exact h
theorem u8_lt {i j : Nat} (h : i < j) (hj : j < 256) : UInt8.ofNat i < UInt8.ofNat j := by
  rw [UInt8.lt_iff_toNat_lt, UInt8.toNat_ofNat', UInt8.toNat_ofNat']
  omega
theorem bv_of {i : Nat} (h : i < 256) : bv (UInt8.ofNat i) = .int .u8 (i : Int) := by
  unfold bv
  rw [UInt8.toNat_ofNat', Nat.mod_eq_of_lt (by omega)]
theorem fL_up {i : Nat} (hi : i + 1 < 600) : Op.bytesLess (fL i) (fL (i + 1)) = true := by
  refine ltB (Or.inr ⟨rfl, ?_⟩)
  by_cases h : i / 200 < (i + 1) / 200
  · exact ltB (Or.inl (u8_lt h (by omega)))
  · have e : i / 200 = (i + 1) / 200 := by omega
    refine ltB (Or.inr ⟨by rw [e], ltB (Or.inl (u8_lt (by omega) (by omega)))⟩)
theorem mkL_bytes (k : Nat) : (mkL k).bytes.length = 41 := by
  rw [Pr.bytes_len]; rfl
theorem prsB_Ll : ∀ n, (prsB (Ll n)).length = 41 * n
  | 0 => rfl
  | n + 1 => by
    have e : prsB (Ll (n + 1)) = prsB (Ll n) ++ (mkL n).bytes := by simp [prsB, Ll, List.range_succ]
    rw [e, List.length_append, prsB_Ll n, mkL_bytes]; omega
def dL (n : Nat) : Dl := ⟨0, 1, 0, Ll n, []⟩
theorem dL_len (n : Nat) : (dlB (dL n)).length = 40 + 41 * n := by
  rw [dlB_len]
  show 40 + (prsB (Ll n)).length + (sesB []).length = _
  rw [prsB_Ll]; rfl
theorem dL_right {n : Nat} (hn : n ≤ 512) : DlRight (dL n) := by
  refine ⟨(by decide : (0:Int) ≤ 0), (by decide : (0:Int) ≤ 1), (by decide : (1:Int) ≤ 1048576), (by decide : (0:Int) ≤ 0), (by decide : (0:Int) ≤ 1048576), ?_, ?_, ?_⟩
  · intro i hi _
    have hi' : i < n := by have : (dL n).ps.length = n := Ll_len n; omega
    have e : ∀ j (hj : j < (dL n).ps.length), (dL n).ps[j] = mkL j := fun j hj => by show (Ll n)[j] = _; simp [Ll]
    refine ⟨?_, fun h0 => ?_⟩
    · rw [e]; exact ⟨(by decide : 1 ≤ 8), (by decide : 8 ≤ 8), (by decide : 16 ≤ 16), fun h => nomatch h⟩
    · rw [e i hi, e (i - 1) (by omega)]
      show Op.bytesLess (ByteArray.mk (fL (i - 1)).toArray).toList (ByteArray.mk (fL i).toArray).toList = true
      rw [ba_list, ba_list]
      have := fL_up (i := i - 1) (by omega)
      rwa [show i - 1 + 1 = i by omega] at this
  · intro i hi; exact absurd hi (by show ¬ i < 0; omega)
  · show ((Ll n).length : Int) ≤ 512
    rw [Ll_len]; omega

theorem cellsL {k : Nat} (hk : k < 600) : (#[.int .u8 107, .int .u8 (IntKind.u8.wrap (w64 (Int.tdiv (k : Int) 200))), .int .u8 (IntKind.u8.wrap (w64 ((1 : Int) + Int.tmod (k : Int) 200))), .int .u8 97, .int .u8 98, .int .u8 99, .int .u8 100, .int .u8 101] : Array Value) = ((fL k).map bv).toArray := by
  have e1 : Int.tdiv (k : Int) 200 = ((k / 200 : Nat) : Int) := (Int.ofNat_tdiv k 200).symm
  have e2 : Int.tmod (k : Int) 200 = ((k % 200 : Nat) : Int) := (Int.ofNat_tmod k 200).symm
  rw [e1, e2, w64_id (by omega) (by omega), w64_id (by omega) (by omega), wrapu8, wrapu8]
  unfold fL
  simp only [List.map_cons, List.map_nil]
  rw [bv_of (by omega), bv_of (by omega)]
  have a1 : ((k / 200 : Nat) : Int) % 256 = ((k / 200 : Nat) : Int) := by omega
  have a2 : ((1 : Int) + ((k % 200 : Nat) : Int)) % 256 = ((1 + k % 200 : Nat) : Int) := by omega
  rw [a1, a2]
  rfl

section
variable {H : Hp}
theorem madeL {bs : List UInt8} {cells : Array Value} {n : Nat} (hc : cells = (bs.map bv).toArray) (hn : bs.length = n) {xs : Sl} {cs : List Value} {K : Sl → Hp → Prop} (o : Own H xs T_api_Pair 3 cs) (hl : xs.len ≤ 100000)
    (hK : ∀ (ys : Sl) (H' : Hp), Own H' ys T_api_Pair 3 (cs ++ [.string (ByteArray.mk bs.toArray), .string vL, .bool false]) → (∀ q ∈ ys.blk, q ∈ xs.blk ∨ H.size ≤ q) → Mod (· ∈ xs.blk) H H' → K ys H') :
    ∀ b : Nat, b = Array.size H → ∀ H4 : Hp, H4 = (Array.push H (.cells cells T_uint8)) → vB2S H4 (some (Addr.mk b 0 none)) n (fun s => ∀ b1 : Nat, b1 = Array.size H4 → ∀ H5 : Hp, H5 = (Array.push H4 (.cells #[.string s, .string (ByteArray.mk #[48, 49, 50, 51, 52, 53, 54, 55, 56, 57, 97, 98, 99, 100, 101, 102]), .bool false] T_api_Pair)) →
      vApp Try.prog T_sl_api_Pair xs.a xs.len xs.cap (.slice (some (Addr.mk b1 0 none)) 1 1) H5 K) := by
  rintro b rfl H4 e4
  obtain ⟨v4, m4, s4⟩ := push_facts e4
  have R : Rows H4 ⟨some (Addr.mk H.size 0 none), n, n⟩ 1 (bs.map bv) := by
    rw [e4, hc]
    exact ⟨by simp [hn], Nat.le_refl _, fun a ha => by cases ha; exact (cells_src (bs.map bv) n (by simp [hn])).2, fun e => nomatch e⟩
  refine b2s_imp (b2s_rows R rfl) ?_
  rintro _ rfl
  refine addEl elPair (o.keep m4 fun _ _ e => e) (p := [.string (ByteArray.mk bs.toArray), .string vL, .bool false]) rfl rfl hl fun ys H' o' hb m => ?_
  exact hK ys H' o' (fun q hq => (hb q hq).imp id fun h => by omega) ((m4.mono fun _ _ e => e.elim).trans m)

theorem ImageLong_spec {n : UInt8} {says : Sl} {ss : List Sy} (hr : Rows H says 6 (ss.map Sy.cells).flatten) (hl : ss.length = says.len) :
    SCalls Try.prog tephralaw09_ImageLong.id [.int .u8 (n.toNat : Int), .slice says.a says.len says.cap] H (trueQ H) := by
  apply tephralaw09_ImageLong.calls
  unfold tephralaw09_ImageLong.vc
  refine (awake_spec H).mono ?_
  rintro r H1 ⟨rfl, m1⟩
  refine ⟨true, rfl, Br.no rfl ?_⟩
  intro H2 h2
  obtain ⟨m2, _⟩ := hole_facts h2
  have m02 := m1.trans m2
  have hn8 := n.toNat_lt
  obtain ⟨N, hN⟩ : ∃ N : Nat, N = 390 + n.toNat % 120 := ⟨_, rfl⟩
  have eN : w64 ((390 : Int) + w64 (Int.tmod (n.toNat : Int) 120)) = (N : Int) := by
    have : Int.tmod (n.toNat : Int) 120 = ((n.toNat % 120 : Nat) : Int) := (Int.ofNat_tmod _ 120).symm
    rw [this, w64_id (x := ((n.toNat % 120 : Nat) : Int)) (by omega) (by omega), w64_id (by omega) (by omega)]; omega
  have hNl : 390 ≤ N ∧ N ≤ 509 := by omega
  have loop : ∀ (d k : Nat) (H3 : Hp) (y : Sl), k + d = N → Mod (fun _ => False) H H3 → Own H3 y T_api_Pair 3 ((Ll k).map Pr.row).flatten → (∀ q ∈ y.blk, H.size ≤ q) →
      tephralaw09_ImageLong.l1 J0 (n.toNat : Int) says H3 (k : Int) y (trueQ H) := by
    intro d
    induction d with
    | succ d ih =>
      intro k H3 y hk m o hb
      apply tephralaw09_ImageLong.l1.step
      unfold tephralaw09_ImageLong.l1.body
      rw [eN]
      have hyl : y.len = k := by
        have h1 := (Own.rows o).1
        have : ∀ l : List Pr, (l.map Pr.row).flatten.length = l.length * 3 := by
          intro l
          induction l with
          | nil => rfl
          | cons p l ih => rw [List.map_cons, List.flatten_cons, List.length_append, ih, List.length_cons]; show 3 + _ = _; omega
        rw [this, Ll_len] at h1; omega
      refine ⟨by omega, Br.yes (decide_eq_true (by omega)) ⟨by omega, by omega, ?_⟩⟩
      rw [w64_id (x := (k : Int) + 1) (by omega) (by omega)]
      refine madeL (bs := fL k) (cellsL (by omega)) rfl o (by omega) fun ys H' o' hb' m' => ?_
      have := ih (k + 1) H' ys (by omega) (m.trans' m' fun q hq h => by have := hb q h; omega) (by rw [Ll_succ]; exact o') (fun q hq => (hb' q hq).elim (hb q) fun h => by have := m.size; omega)
      simpa using this
    | zero =>
      intro k H3 y hk m o hb
      obtain rfl : k = N := by omega
      apply tephralaw09_ImageLong.l1.step
      unfold tephralaw09_ImageLong.l1.body
      rw [eN]
      refine ⟨by omega, Br.no (decide_eq_false (by omega)) ?_⟩
      have rr : RR H3 y ⟨none, 0, 0⟩ (dL k).ps (dL k).xs := ⟨Own.rows o, (RR.nil H3).2⟩
      have hlen := dL_len k
      have hR := dL_right (n := k) (by omega)
      refine (Delta_spec (d := dL k) rr (by omega)).mono ?_
      rintro r H7 h7
      have hS : Small [hdB 1 (dL k).from (dL k).to, dlB (dL k)] ↔ (dlB (dL k)).length ≤ 16384 := ⟨fun h => h _ (by simp), dl_small⟩
      by_cases hbig : (dlB (dL k)).length > 16384
      · rcases h7 with ⟨h, -⟩ | ⟨-, rfl, m7⟩
        · exact absurd (hS.1 h) (by omega)
        refine ⟨⟨none, 0, 0⟩, _, rfl, (DBytes_spec (d := dL k) (rr.mod m7) (by omega)).mono ?_⟩
        rintro r H8 ⟨z, rfl, o8, m8, -⟩
        have hzl : (dlB (dL k)).length = z.len := by have := (Own.rows o8).1; simpa using this
        exact ⟨z, rfl, Br.yes (decide_eq_true (by omega)) (Br.yes rfl ⟨rfl, m.trans (m7.trans m8)⟩)⟩
      rcases h7 with ⟨-, x, rfl, o7, m7, -⟩ | ⟨h, -⟩
      rotate_left
      · exact absurd (hS.2 (by omega)) h
      have o7 : Own H7 x T_uint8 1 ((dlF (dL k)).map bv) := o7
      refine ⟨x, 0, rfl, (DBytes_spec (d := dL k) (rr.mod m7) (by omega)).mono ?_⟩
      rintro r H8 ⟨z, rfl, o8, m8, -⟩
      have hzl : (dlB (dL k)).length = z.len := by have := (Own.rows o8).1; simpa using this
      have hok := dlF_ok hR (by omega)
      have hF := dlF_len (dL k)
      refine ⟨z, rfl, Br.no (decide_eq_false (by omega)) ?_⟩
      refine (ReadDelta_spec ((Own.rows o7).keep m8 fun _ _ e => e) (by omega)).mono ?_
      rintro r H9 ⟨m9, hp⟩
      rcases hp with ⟨d', p', s', hp, rfl, r9⟩ | ⟨hno, -⟩
      rotate_left
      · exact absurd hok (hno _)
      obtain rfl := hok.uniq hp
      refine ⟨_, _, _, p', s', _, rfl, ?_⟩
      intro H10 h10
      obtain ⟨m10, _⟩ := hole_facts h10
      have m310 := m7.trans (m8.trans (m9.trans m10))
      have m010 := m.trans m310
      refine (Some_spec (hr.keep m010 fun _ _ e => e) hl).mono ?_
      rintro r H11 ⟨p, s, rfl, sr, m11⟩
      have ok := someM_ok ss
      generalize someM ss = st at ok sr ⊢
      have hbs := Stt.bytes_small ok
      refine ⟨_, _, p, s, rfl, (Full_spec (i := st.index) (t := st.term) sr.rr (by omega)).mono ?_⟩
      rintro r H12 (⟨-, w, rfl, o12, m12, -⟩ | ⟨h, -⟩)
      rotate_left
      · exact absurd (stt_small ok) h
      refine ⟨w, 0, rfl, Br.yes rfl ?_⟩
      apply tephralaw09_ImageLong.k1.step
      unfold tephralaw09_ImageLong.k1.body
      refine Br.yes rfl ?_
      apply tephralaw09_ImageLong.k2.step
      unfold tephralaw09_ImageLong.k2.body
      refine Br.yes rfl ?_
      refine (DSame_spec (d := dL k) (e := dL k) (((r9.mod m10).mod m11).mod m12) (((rr.mod m310).mod m11).mod m12) (by omega) (by omega)).mono ?_
      rintro r H13 ⟨rfl, m13⟩
      exact ⟨_, rfl, by simp, m010.trans (m11.trans (m12.trans m13))⟩
  have := loop N 0 H2 ⟨none, 0, 0⟩ (by omega) m02 (by simpa [Ll] using Own.nil H2 T_api_Pair 3) (by simp [Sl.blk])
  simpa using this
end
end Go.Proofs
