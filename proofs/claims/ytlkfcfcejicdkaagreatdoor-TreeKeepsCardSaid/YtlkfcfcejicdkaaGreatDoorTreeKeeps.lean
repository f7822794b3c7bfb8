/-
  tree: the law TreeKeeps, walked. Printed by gen_treekeeps.py. Own work.
-/
import Derived.Test.YtlkfcfcejicdkaaGreatDoorTreeBox
set_option linter.unusedSimpArgs false
set_option linter.unusedVariables false
namespace Go.Proofs.YtlkfcfcejicdkaaGreatDoor
open Go Go.RowKit

theorem own_addr {w : World} {base n c size : Nat} {A : Option Addr} {e : TypeId} {vs : List Value} (h : w.ownsRow base e size (.slice A n c) n vs) {g : Nat} (hg : (Value.slice A n c).ownBlock = some g) : A = some ⟨g, 0, none⟩ := by
  rcases h.2 with ⟨hv, _⟩ | ⟨g', cap, cur, hv, _⟩
  · rw [hv] at hg; simp [Value.ownBlock] at hg
  · rw [hv] at hg
    injection hv with hv _ _
    obtain rfl : g' = g := by simpa [Value.ownBlock] using hg
    exact hv
/-- A graph that lies between two places. -/
def GIn (L H : Nat) (W : World) (Am : Option Addr) (n cm : Nat) (Al : Option Addr) (q cl : Nat) (ms : List Int) (ls : List Lk) : Prop := GrOwn L W Am n cm Al q cl ms ls ∧ (∀ g, Am = some ⟨g, 0, none⟩ → g < H) ∧ (∀ g, Al = some ⟨g, 0, none⟩ → g < H)
/-- All stays, but for what lies between two places. -/
def Kpt (lo hi : Nat) (W W' : World) : Prop := W.heap.size ≤ W'.heap.size ∧ ∀ k, (k < lo ∨ hi ≤ k) → k < W.heap.size → W'.heap[k]? = W.heap[k]?
section
variable {L H lo hi : Nat} {W0 W W' : World} {Am Al : Option Addr} {n cm q cl : Nat} {ms : List Int} {ls : List Lk}
theorem Kpt.refl (W : World) : Kpt lo hi W W := ⟨Nat.le_refl _, fun _ _ _ => rfl⟩
theorem Kpt.below (h : Kpt lo hi W0 W) (hb : Below W.heap.size W W') : Kpt lo hi W0 W' := ⟨Nat.le_trans h.1 hb.size, fun k hk hl => (hb.block k (Nat.lt_of_lt_of_le hl h.1)).trans (h.2 k hk hl)⟩
theorem Kpt.set {g : Nat} (h : Kpt lo hi W0 W) (h1 : lo ≤ g) (h2 : g < hi) (i : Nat) (v : Value) : Kpt lo hi W0 (W.setCell ⟨g, i, none⟩ v) := by
  refine ⟨?_, fun k hk hl => ?_⟩
  · exact Nat.le_trans h.1 (belowS (Below.refl 0 W) (Nat.zero_le g) (i := i) v).size
  · rw [Below.heap_setCell _ _ _ _ (by show k ≠ g; omega)]; exact h.2 k hk hl
theorem ZB.kept {w1 : World} {b : Nat} {u0 u1 : Value} (h : ZB w1 W b u0 u1) (hk : Kpt lo hi W W') (hb : b < lo ∨ hi ≤ b) : ZB w1 W' b u0 u1 := ⟨(hk.2 b hb (Array.getElem?_eq_some_iff.1 h.1).1).trans h.1, h.2⟩
theorem GIn.of (h : GrOwn L W Am n cm Al q cl ms ls) (hH : W.heap.size ≤ H) : GIn L H W Am n cm Al q cl ms ls :=
  ⟨h, fun g hg => Nat.lt_of_lt_of_le (own_block h.mrow (g := g) (by rw [hg]; rfl)).choose_spec.2.2 hH, fun g hg => Nat.lt_of_lt_of_le (own_block h.lrow (g := g) (by rw [hg]; rfl)).choose_spec.2.2 hH⟩
theorem GIn.below (h : GIn L H W Am n cm Al q cl ms ls) (hb : Below W.heap.size W W') : GIn L H W' Am n cm Al q cl ms ls := ⟨h.1.below hb, h.2⟩
theorem GIn.kept (h : GIn L H W Am n cm Al q cl ms ls) (hk : Kpt lo hi W W') (hd : H ≤ lo ∨ hi ≤ L) : GIn L H W' Am n cm Al q cl ms ls := by
  refine ⟨⟨h.1.mlen, h.1.llen, ownsRow_keep h.1.mrow fun g hg => ?_, ownsRow_keep h.1.lrow fun g hg => ?_⟩, h.2⟩
  · obtain ⟨cur, _, h1, h2⟩ := own_block h.1.mrow hg
    have := h.2.1 g (own_addr h.1.mrow hg)
    exact hk.2 g (by omega) h2
  · obtain ⟨cur, _, h1, h2⟩ := own_block h.1.lrow hg
    have := h.2.2 g (own_addr h.1.lrow hg)
    exact hk.2 g (by omega) h2
theorem GIn.setI {g : Nat} (h : GIn L H W (some ⟨g, 0, none⟩) n cm Al q cl ms ls) (i : Nat) (v : Int) : GIn L H (W.setCell ⟨g, i, none⟩ (.int .i64 v)) (some ⟨g, 0, none⟩) n cm Al q cl (ms.set i v) ls := by
  refine ⟨⟨by rw [List.length_set]; exact h.1.mlen, h.1.llen, ownI_set h.1.mrow i v, ownsRow_keep h.1.lrow fun g' hg => Below.heap_setCell _ _ _ _ fun e => ?_⟩, h.2⟩
  obtain ⟨cur, h1, _⟩ := own_block h.1.mrow (g := g) rfl
  obtain ⟨cur', h2, _⟩ := own_block h.1.lrow hg
  have e' : g' = g := e
  rw [e', h1] at h2
  injection h2 with h2
  injection h2 with _ h2 _
  exact absurd h2 (by decide)
theorem GIn.setL {g : Nat} (h : GIn L H W Am n cm (some ⟨g, 0, none⟩) q cl ms ls) (i : Nat) (v : Lk) : GIn L H ((W.setCell ⟨g, i * 2, none⟩ (.int .i64 v.1)).setCell ⟨g, i * 2 + 1, none⟩ (.int .i64 v.2)) Am n cm (some ⟨g, 0, none⟩) q cl ms (ls.set i v) := by
  have key : ∀ g', (Value.slice Am n cm).ownBlock = some g' → g' ≠ g := fun g' hg e' => by
    obtain ⟨cur, h1, _⟩ := own_block h.1.lrow (g := g) rfl
    obtain ⟨cur', h2, _⟩ := own_block h.1.mrow hg
    rw [e', h1] at h2
    injection h2 with h2
    injection h2 with _ h2 _
    exact absurd h2 (by decide)
  exact ⟨⟨h.1.mlen, by rw [List.length_set]; exact h.1.llen, ownsRow_keep h.1.mrow fun g' hg => (Below.heap_setCell _ _ _ _ (by exact key g' hg)).trans (Below.heap_setCell _ _ _ _ (by exact key g' hg)), ownL_set h.1.lrow i v⟩, h.2⟩
end
set_option maxRecDepth 100000 in
set_option maxHeartbeats 16000000 in
theorem keeps_any (Am : Option Addr) (n cm : Nat) (Al : Option Addr) (q cl : Nat) (ms : List Int) (ls : List Lk) (o1 o2 p1 p2 : Int) (w : World) (hG : GrAt w Am n Al q ms ls) (hE : ErrT w) :
    Calls Tryz.prog 7 #[grV Am n cm Al q cl, .agg #[.int .i64 o1, .int .i64 o2], .agg #[.int .i64 p1, .int .i64 p2]] w fun e w' => e = .returned (.bool true) ∧ Below w.heap.size w w' := by
  obtain ⟨bg, hbg⟩ : ∃ b, b = w.heap.size := ⟨_, rfl⟩
  obtain ⟨b4, hb4⟩ : ∃ b, b = w.heap.size + 1 := ⟨_, rfl⟩
  obtain ⟨b5, hb5⟩ : ∃ b, b = w.heap.size + 1 + 1 := ⟨_, rfl⟩
  obtain ⟨w1, hw1⟩ : ∃ w1, w1 = ((w.alloc (.cells #[.slice Am n cm, .slice Al q cl] 25)).alloc (.cells #[.int .i64 o1, .int .i64 o2] 35)).alloc (.cells #[.int .i64 p1, .int .i64 p2] 35) := ⟨_, rfl⟩
  have HA := Lib.hid (alloc3 w (.cells #[.slice Am n cm, .slice Al q cl] 25) (.cells #[.int .i64 o1, .int .i64 o2] 35) (.cells #[.int .i64 p1, .int .i64 p2] 35))
  rw [← hw1, ← hb5, ← hb4, ← hbg] at HA
  have HB : Hid (w1.heap[bg]? = some (.cells #[.slice Am n cm, .slice Al q cl] 25 (0, 0)) ∧ w1.heap[b4]? = some (.cells #[.int .i64 o1, .int .i64 o2] 35 (0, 0)) ∧ w1.heap[b5]? = some (.cells #[.int .i64 p1, .int .i64 p2] 35 (0, 0)) ∧ bg < w1.heap.size ∧ b4 < w1.heap.size ∧ b5 < w1.heap.size ∧ Bl w w1) := ⟨HA.out.1, HA.out.2.1, HA.out.2.2.1, by have := HA.out.2.2.2.1; omega, by have := HA.out.2.2.2.1; omega, by have := HA.out.2.2.2.1; omega, by have := HA.out.2.2.2.2; rw [hbg] at this; exact this⟩
  clear HA
  have HE : Hid (∀ W, Bl w1 W → ErrT W) := fun W hW => hE.below (bchain HB.out.2.2.2.2.2.2 hW)
  have HG : Hid (∀ W, Bl w1 W → GrAt W Am n Al q ms ls) := fun W hW => hG.below (bchain HB.out.2.2.2.2.2.2 hW)
  have HC : Hid (∀ W, Bl w1 W → W.cell? ⟨bg, 0, none⟩ = some (.slice Am n cm) ∧ W.cell? ⟨bg, 1, none⟩ = some (.slice Al q cl) ∧ W.cell? ⟨b4, 0, none⟩ = some (.int .i64 o1) ∧ W.cell? ⟨b4, 1, none⟩ = some (.int .i64 o2) ∧ W.cell? ⟨b5, 0, none⟩ = some (.int .i64 p1) ∧ W.cell? ⟨b5, 1, none⟩ = some (.int .i64 p2)) := fun W hW => by
    obtain ⟨g1, g2, g3, g4, g5, g6, _⟩ := HB.out
    obtain ⟨h1, h2, _⟩ := cell2 ((Below.block hW bg g4).trans g1)
    obtain ⟨h3, h4, _⟩ := cell2 ((Below.block hW b4 g5).trans g2)
    obtain ⟨h5, h6, _⟩ := cell2 ((Below.block hW b5 g6).trans g3)
    exact ⟨h1, h2, h3, h4, h5, h6⟩
  clear hG hE
  go_enter Tryz.func7, Tryz.ntmps7
  go_wp2_with fail
  rw [← hw1, ← hb5, ← hb4, ← hbg]
  clear hw1 hbg hb4 hb5
  refine (awake_any w1 (HE.out w1 (Bl.refl _))).mono ?_
  rintro e w2 ⟨rfl, hb2⟩
  have HB2 : Hid (Bl w1 w2) := hb2
  clear hb2
  obtain ⟨f0, f1, f2, f3, f4, f5⟩ := HC.out w2 HB2.out
  by_cases hs : n ≤ 50 ∧ q ≤ 50
  case neg =>
    have HSM : Hid (Calls Tryz.prog 10 #[grV Am n cm Al q cl] w2 fun e w' => e = .returned (.bool false) ∧ Below w2.heap.size w2 w') := by
      have := small_any Am n cm Al q cl w2
      rw [show (decide (n ≤ 50) && decide (q ≤ 50)) = false by
        rw [Bool.and_eq_false_iff, decide_eq_false_iff_not, decide_eq_false_iff_not]; omega] at this
      exact this
    clear hs
    go_wp2_with fail
    refine HSM.out.mono ?_
    rintro e w3 ⟨rfl, hb3⟩
    go_wp2
    go_ret
    exact ⟨rfl, bchain HB.out.2.2.2.2.2.2 (bchain HB2.out hb3)⟩
  case pos =>
  have HSM : Hid (Calls Tryz.prog 10 #[grV Am n cm Al q cl] w2 fun e w' => e = .returned (.bool true) ∧ Below w2.heap.size w2 w') := by
    have := small_any Am n cm Al q cl w2
    rw [decide_eq_true hs.1, decide_eq_true hs.2] at this
    exact this
  have HN : Hid (n ≤ 1000 ∧ q ≤ 1000) := ⟨by omega, by omega⟩
  have HTW : Hid (∀ W, Bl w1 W → Calls Tryz.prog 12 #[grV Am n cm Al q cl] W fun e w' => ∃ (Am' : Option Addr) (cm' : Nat) (Al' : Option Addr) (cl' : Nat), e = .returned (grV Am' n cm' Al' q cl') ∧ Bl w1 w' ∧ Hid (GrOwn w1.heap.size w' Am' n cm' Al' q cl' ms ls) ∧ Below W.heap.size W w') := fun W hW => by
    refine (twin_any Am n cm Al q cl ms ls W (HG.out W hW) HN.out.1 HN.out.2).mono ?_
    rintro e w' ⟨Am', cm', Al', cl', rfl, h⟩
    exact ⟨Am', cm', Al', cl', rfl, bchain hW h.out.2, h.out.1.mono (Below.size hW), h.out.2⟩
  clear hs
  go_wp2_with fail
  refine HSM.out.mono ?_
  rintro e w3 ⟨rfl, hb3⟩
  have HB3 : Hid (Bl w1 w3) := bchain HB2.out hb3
  clear hb3 HSM f0 f1 f2 f3 f4 f5 HB2
  obtain ⟨f0, f1, f2, f3, f4, f5⟩ := HC.out w3 HB3.out
  clear HTW
  go_wp2_with fail
  refine (twin_any Am n cm Al q cl ms ls w3 (HG.out w3 HB3.out) HN.out.1 HN.out.2).mono ?_
  rintro e w4 ⟨At, ct, Bt, dt, rfl, H4⟩
  clear f0 f1 f2 f3 f4 f5
  go_upto_region 6 with fail
  obtain ⟨b7, hb7⟩ : ∃ b, b = w4.heap.size := ⟨_, rfl⟩
  obtain ⟨w5, hw5⟩ : ∃ x, x = w4.alloc (.cells #[.slice At n ct, .slice Bt q dt] 25) := ⟨_, rfl⟩
  have H5 : Hid (Bl w1 w5 ∧ ZB w1 w5 b7 (.slice At n ct) (.slice Bt q dt) ∧ GIn w3.heap.size b7 w5 At n ct Bt q dt ms ls ∧ b7 < w5.heap.size ∧ w1.heap.size ≤ b7) := by
    have h1 := bchain HB3.out H4.out.2
    have h2 : Below w4.heap.size w4 w5 := by rw [hw5]; exact (Below.refl _ _).alloc (Nat.le_refl _) _
    have hz : ZB w1 w5 b7 (.slice At n ct) (.slice Bt q dt) := by rw [hw5]; exact ZB.new h1 hb7
    exact ⟨bchain h1 h2, hz, (GIn.of H4.out.1 (by rw [hb7]; exact Nat.le_refl _)).below h2, by rw [hb7, hw5]; simp, by rw [hb7]; exact h1.size⟩
  rw [← hw5, ← hb7]
  clear hw5 hb7 H4
  obtain ⟨f0, f1, f2, f3, f4, f5⟩ := HC.out w5 H5.out.1
  obtain ⟨z0, z1, zf, zl⟩ := cell2 H5.out.2.1.1
  go_wp2_with fail
  refine (swap_any At n ct Bt q dt ms ls o1 o2 p1 p2 w5 H5.out.2.2.1.1.at_ HN.out.1 HN.out.2).mono ?_
  rintro e w6 ⟨Aa, na, ca, Ba, qa, da, va, rfl, Ha⟩
  clear f0 f1 f2 f3 f4 f5 z0 z1 zf zl
  go_upto_region 7 with fail
  obtain ⟨b8, hbn⟩ : ∃ b, b = w6.heap.size := ⟨_, rfl⟩
  obtain ⟨w7, hwn⟩ : ∃ x, x = w6.alloc (.cells #[.slice Aa na ca, .slice Ba qa da] 25) := ⟨_, rfl⟩
  have HLa : Hid (na ≤ 1000 ∧ qa ≤ 1000) := by
    have h1 := Ha.out.2.1.mlen
    have h2 := Ha.out.2.1.llen
    have := swapP_len ms ls (o1, o2) (p1, p2)
    exact ⟨by rw [← h1]; omega, by rw [← h2]; omega⟩
  have Fa : Hid (w5.heap.size ≤ b8 ∧ b8 < w7.heap.size ∧ ZB w1 w7 b8 (.slice Aa na ca) (.slice Ba qa da) ∧ GIn w5.heap.size b8 w7 Aa na ca Ba qa da (swapP ms ls (o1, o2) (p1, p2)).2.1 (swapP ms ls (o1, o2) (p1, p2)).2.2 ∧ Below w5.heap.size w5 w7) := by
    have h1 := bchain H5.out.1 Ha.out.2.2
    have h2 : Below w6.heap.size w6 w7 := by rw [hwn]; exact (Below.refl _ _).alloc (Nat.le_refl _) _
    have hz : ZB w1 w7 b8 (.slice Aa na ca) (.slice Ba qa da) := by rw [hwn]; exact ZB.new h1 hbn
    exact ⟨by rw [hbn]; exact Ha.out.2.2.size, by rw [hbn, hwn]; simp, hz, (GIn.of Ha.out.2.1 (by rw [hbn]; exact Nat.le_refl _)).below h2, bchain Ha.out.2.2 h2⟩
  rw [← hwn, ← hbn]
  clear hwn hbn Ha
  have H7 : Hid (Bl w1 w7 ∧ ZB w1 w7 b7 (.slice At n ct) (.slice Bt q dt) ∧ GIn w3.heap.size b7 w7 At n ct Bt q dt ms ls) := ⟨bchain H5.out.1 Fa.out.2.2.2.2, H5.out.2.1.step Fa.out.2.2.2.2, H5.out.2.2.1.below Fa.out.2.2.2.2⟩
  obtain ⟨f0, f1, f2, f3, f4, f5⟩ := HC.out w7 H7.out.1
  obtain ⟨z0, z1, zf, zl⟩ := cell2 H7.out.2.1.1
  go_wp2_with fail
  refine (swap_any At n ct Bt q dt ms ls o1 o2 p1 p2 w7 H7.out.2.2.1.at_ HN.out.1 HN.out.2).mono ?_
  rintro e w8 ⟨Ab, nb, cb, Bb, qb, db, vb, rfl, Hb⟩
  clear f0 f1 f2 f3 f4 f5 z0 z1 zf zl
  go_upto_region 8 with fail
  obtain ⟨b10, hbn⟩ : ∃ b, b = w8.heap.size := ⟨_, rfl⟩
  obtain ⟨w9, hwn⟩ : ∃ x, x = w8.alloc (.cells #[.slice Ab nb cb, .slice Bb qb db] 25) := ⟨_, rfl⟩
  have HLb : Hid (nb ≤ 1000 ∧ qb ≤ 1000) := by
    have h1 := Hb.out.2.1.mlen
    have h2 := Hb.out.2.1.llen
    have := swapP_len ms ls (o1, o2) (p1, p2)
    exact ⟨by rw [← h1]; omega, by rw [← h2]; omega⟩
  have Fb : Hid (w7.heap.size ≤ b10 ∧ b10 < w9.heap.size ∧ ZB w1 w9 b10 (.slice Ab nb cb) (.slice Bb qb db) ∧ GIn w7.heap.size b10 w9 Ab nb cb Bb qb db (swapP ms ls (o1, o2) (p1, p2)).2.1 (swapP ms ls (o1, o2) (p1, p2)).2.2 ∧ Below w7.heap.size w7 w9) := by
    have h1 := bchain H7.out.1 Hb.out.2.2
    have h2 : Below w8.heap.size w8 w9 := by rw [hwn]; exact (Below.refl _ _).alloc (Nat.le_refl _) _
    have hz : ZB w1 w9 b10 (.slice Ab nb cb) (.slice Bb qb db) := by rw [hwn]; exact ZB.new h1 hbn
    exact ⟨by rw [hbn]; exact Hb.out.2.2.size, by rw [hbn, hwn]; simp, hz, (GIn.of Hb.out.2.1 (by rw [hbn]; exact Nat.le_refl _)).below h2, bchain Hb.out.2.2 h2⟩
  rw [← hwn, ← hbn]
  clear hwn hbn Hb
  have H9 : Hid (Bl w1 w9 ∧ ZB w1 w9 b7 (.slice At n ct) (.slice Bt q dt) ∧ GIn w3.heap.size b7 w9 At n ct Bt q dt ms ls) := ⟨bchain H7.out.1 Fb.out.2.2.2.2, H7.out.2.1.step Fb.out.2.2.2.2, H7.out.2.2.below Fb.out.2.2.2.2⟩
  obtain ⟨f0, f1, f2, f3, f4, f5⟩ := HC.out w9 H9.out.1
  obtain ⟨z0, z1, zf, zl⟩ := cell2 H9.out.2.1.1
  go_wp2_with fail
  refine (join_any At n ct Bt q dt ms ls o1 o2 w9 H9.out.2.2.1.at_ HN.out.1 HN.out.2).mono ?_
  rintro e w10 ⟨Ac, nc, cc, Bc, qc, dc, vc, rfl, Hc⟩
  clear f0 f1 f2 f3 f4 f5 z0 z1 zf zl
  go_upto_region 9 with fail
  obtain ⟨b12, hbn⟩ : ∃ b, b = w10.heap.size := ⟨_, rfl⟩
  obtain ⟨w11, hwn⟩ : ∃ x, x = w10.alloc (.cells #[.slice Ac nc cc, .slice Bc qc dc] 25) := ⟨_, rfl⟩
  have HLc : Hid (nc ≤ 1000 ∧ qc ≤ 1000) := by
    have h1 := Hc.out.2.1.mlen
    have h2 := Hc.out.2.1.llen
    have := joinP_len ms ls o1 o2
    exact ⟨by rw [← h1]; omega, by rw [← h2]; omega⟩
  have Fc : Hid (w9.heap.size ≤ b12 ∧ b12 < w11.heap.size ∧ ZB w1 w11 b12 (.slice Ac nc cc) (.slice Bc qc dc) ∧ GIn w9.heap.size b12 w11 Ac nc cc Bc qc dc (joinP ms ls o1 o2).2.1 (joinP ms ls o1 o2).2.2 ∧ Below w9.heap.size w9 w11) := by
    have h1 := bchain H9.out.1 Hc.out.2.2
    have h2 : Below w10.heap.size w10 w11 := by rw [hwn]; exact (Below.refl _ _).alloc (Nat.le_refl _) _
    have hz : ZB w1 w11 b12 (.slice Ac nc cc) (.slice Bc qc dc) := by rw [hwn]; exact ZB.new h1 hbn
    exact ⟨by rw [hbn]; exact Hc.out.2.2.size, by rw [hbn, hwn]; simp, hz, (GIn.of Hc.out.2.1 (by rw [hbn]; exact Nat.le_refl _)).below h2, bchain Hc.out.2.2 h2⟩
  rw [← hwn, ← hbn]
  clear hwn hbn Hc
  have H11 : Hid (Bl w1 w11 ∧ ZB w1 w11 b7 (.slice At n ct) (.slice Bt q dt) ∧ GIn w3.heap.size b7 w11 At n ct Bt q dt ms ls) := ⟨bchain H9.out.1 Fc.out.2.2.2.2, H9.out.2.1.step Fc.out.2.2.2.2, H9.out.2.2.below Fc.out.2.2.2.2⟩
  obtain ⟨f0, f1, f2, f3, f4, f5⟩ := HC.out w11 H11.out.1
  go_wp2_with fail
  refine (rswap_any Am n cm Al q cl ms ls o1 o2 p1 p2 w11 (HG.out w11 H11.out.1) HN.out.1 HN.out.2).mono ?_
  rintro e w12 ⟨Aw, nw, cw, Bw, qw, dw, bbw, Aew, mew, cew, iew, rfl, Hw⟩
  clear f0 f1 f2 f3 f4 f5
  go_upto_region 10 with fail
  obtain ⟨b14, hb14⟩ : ∃ b, b = w12.heap.size := ⟨_, rfl⟩
  obtain ⟨w13, hw13⟩ : ∃ x, x = (w12.alloc (.cells #[.slice Aw nw cw, .slice Bw qw dw] 25)).alloc (.cells #[.bool bbw, .slice Aew mew cew, .int .i64 iew] 43) := ⟨_, rfl⟩
  obtain rfl : nb = nw := Fb.out.2.2.2.1.1.mlen.symm.trans Hw.out.2.1.mlen
  obtain rfl : qb = qw := Fb.out.2.2.2.1.1.llen.symm.trans Hw.out.2.1.llen
  have Fw : Hid (w11.heap.size ≤ b14 ∧ b14 < w13.heap.size ∧ ZB w1 w13 b14 (.slice Aw nb cw) (.slice Bw qb dw) ∧ GIn w11.heap.size b14 w13 Aw nb cw Bw qb dw (swapP ms ls (o1, o2) (p1, p2)).2.1 (swapP ms ls (o1, o2) (p1, p2)).2.2 ∧ Below w11.heap.size w11 w13) := by
    have h1 := bchain H11.out.1 Hw.out.2.2
    have h2 : Below w12.heap.size w12 w13 := by rw [hw13]; exact ((Below.refl _ _).alloc (Nat.le_refl _) _).alloc (by simp) _
    have hz : ZB w1 w13 b14 (.slice Aw nb cw) (.slice Bw qb dw) := by rw [hw13]; exact (ZB.new h1 hb14).al _
    exact ⟨by rw [hb14]; exact Hw.out.2.2.size, (Array.getElem?_eq_some_iff.1 hz.1).1, hz, (GIn.of Hw.out.2.1 (by rw [hb14]; exact Nat.le_refl _)).below h2, bchain Hw.out.2.2 h2⟩
  rw [← hw13]
  try rw [← hb14]
  clear hw13 hb14 Hw
  obtain ⟨gm, hgm⟩ : ∃ x, Hid ((swapP ms ls (o1, o2) (p1, p2)).2.1 = x) := ⟨_, rfl⟩
  obtain ⟨gl, hgl⟩ : ∃ x, Hid ((swapP ms ls (o1, o2) (p1, p2)).2.2 = x) := ⟨_, rfl⟩
  rw [hgm.out, hgl.out] at Fa Fb Fw
  clear hgm hgl
  obtain ⟨z0, z1, zf, zl⟩ := cell2 (((Fa.out.2.2.1.step Fb.out.2.2.2.2).step Fc.out.2.2.2.2).step Fw.out.2.2.2.2).1
  obtain ⟨y0, y1, yf, yl⟩ := cell2 (Fc.out.2.2.1.step Fw.out.2.2.2.2).1
  go_wp2_with fail
  obtain ⟨bs, hbs⟩ : ∃ b, b = w13.heap.size := ⟨_, rfl⟩
  obtain ⟨w14, hw14⟩ : ∃ x, x = w13.alloc (.cells #[.slice Aa na ca, .slice Ba qa da, .slice Ac nc cc, .slice Bc qc dc] 25) := ⟨_, rfl⟩
  obtain ⟨s3, s5, s7, s9, s11, HNUM, HI0⟩ : ∃ (s3 s5 s7 s9 s11 : Nat), Hid (b7 < s5 ∧ s5 ≤ b8 ∧ b8 < s7 ∧ s7 ≤ b10 ∧ b10 < s9 ∧ s9 ≤ b12 ∧ b12 < s11 ∧ s11 ≤ b14 ∧ b14 < bs ∧ w1.heap.size ≤ b7) ∧ Hid (Bl w1 w14 ∧ w14.heap[bs]? = some (.cells #[.slice Aa na ca, .slice Ba qa da, .slice Ac nc cc, .slice Bc qc dc] 25 (0, 0)) ∧ ZB w1 w14 b7 (.slice At n ct) (.slice Bt q dt) ∧ ZB w1 w14 b10 (.slice Ab nb cb) (.slice Bb qb db) ∧ ZB w1 w14 b14 (.slice Aw nb cw) (.slice Bw qb dw) ∧ GIn s3 b7 w14 At n ct Bt q dt ms ls ∧ GIn s7 b10 w14 Ab nb cb Bb qb db gm gl ∧ GIn s11 b14 w14 Aw nb cw Bw qb dw gm gl ∧ (∃ m l, GIn s5 b8 w14 Aa na ca Ba qa da m l) ∧ (∃ m l, GIn s9 b12 w14 Ac nc cc Bc qc dc m l)) := by
    refine ⟨w3.heap.size, w5.heap.size, w7.heap.size, w9.heap.size, w11.heap.size, ⟨H5.out.2.2.2.1, Fa.out.1, Fa.out.2.1, Fb.out.1, Fb.out.2.1, Fc.out.1, Fc.out.2.1, Fw.out.1, by rw [hbs]; exact Fw.out.2.1, H5.out.2.2.2.2⟩, ?_⟩
    have h1 : Below w13.heap.size w13 w14 := by rw [hw14]; exact (Below.refl _ _).alloc (Nat.le_refl _) _
    have h2 := bchain Fw.out.2.2.2.2 h1
    have h3 := bchain Fc.out.2.2.2.2 h2
    have h4 := bchain Fb.out.2.2.2.2 h3
    exact ⟨bchain H11.out.1 h2, by rw [hw14, hbs]; exact heap_alloc_new _ _, H11.out.2.1.step h2, Fb.out.2.2.1.step h3, Fw.out.2.2.1.step h1, H11.out.2.2.below h2, Fb.out.2.2.2.1.below h3, Fw.out.2.2.2.1.below h1, ⟨_, _, Fa.out.2.2.2.1.below h4⟩, ⟨_, _, Fc.out.2.2.2.1.below h2⟩⟩
  rw [← hw14]
  try rw [← hbs]
  clear hw14 hbs z0 z1 zf zl y0 y1 yf yl H5 H7 H9 H11 Fa Fb Fc Fw HB3 HC
  obtain ⟨Inv, hInv⟩ : ∃ P : World → Prop, Hid (P = fun W => Bl w1 W ∧ W.heap[bs]? = some (.cells #[.slice Aa na ca, .slice Ba qa da, .slice Ac nc cc, .slice Bc qc dc] 25 (0, 0)) ∧ ZB w1 W b7 (.slice At n ct) (.slice Bt q dt) ∧ ZB w1 W b10 (.slice Ab nb cb) (.slice Bb qb db) ∧ ZB w1 W b14 (.slice Aw nb cw) (.slice Bw qb dw) ∧ GIn s3 b7 W At n ct Bt q dt ms ls ∧ GIn s7 b10 W Ab nb cb Bb qb db gm gl ∧ GIn s11 b14 W Aw nb cw Bw qb dw gm gl ∧ (∃ m l, GIn s5 b8 W Aa na ca Ba qa da m l) ∧ (∃ m l, GIn s9 b12 W Ac nc cc Bc qc dc m l)) := ⟨_, rfl⟩
  have HI : Hid (Inv w14) := by rw [Hid, hInv.out]; exact HI0.out
  have HST : Hid (∀ (j : Nat) (wr : World), j < 2 → Inv wr → ∃ (Ay : Option Addr) (ny cy : Nat) (By : Option Addr) (qy dy lo hi : Nat), wr.cell? ⟨bs, j * 2, none⟩ = some (.slice Ay ny cy) ∧ wr.cell? ⟨bs, j * 2 + 1, none⟩ = some (.slice By qy dy) ∧ Hid (Bl w1 wr ∧ w1.heap.size ≤ lo ∧ hi ≤ wr.heap.size ∧ (∃ m l, GIn lo hi wr Ay ny cy By qy dy m l) ∧ ny ≤ 1000 ∧ qy ≤ 1000 ∧ ∀ W', Kpt lo hi wr W' → Bl w1 W' → (∃ m l, GIn lo hi W' Ay ny cy By qy dy m l) → Inv W')) := fun j wr hj hI => by
    rw [hInv.out] at hI ⊢
    obtain ⟨i1, i2, i3, i4, i5, i6, i7, i8, i9, i10⟩ := hI
    obtain ⟨m1, m2, m3, m4, m5, m6, m7, m8, m9, m10⟩ := HNUM.out
    have hbl : bs < wr.heap.size := (Array.getElem?_eq_some_iff.1 i2).1
    have hj : j = 0 ∨ j = 1 := by omega
    rcases hj with rfl | rfl
    · refine ⟨Aa, na, ca, Ba, qa, da, s5, b8, by simp [World.cell?, i2], by simp [World.cell?, i2], i1, by omega, by omega, i9, HLa.out.1, HLa.out.2, fun W' hk hb hg => ?_⟩
      obtain ⟨m, l, i10⟩ := i10
      exact ⟨hb, (hk.2 bs (by omega) hbl).trans i2, i3.kept hk (by omega), i4.kept hk (by omega), i5.kept hk (by omega), i6.kept hk (by omega), i7.kept hk (by omega), i8.kept hk (by omega), hg, m, l, i10.kept hk (by omega)⟩
    · refine ⟨Ac, nc, cc, Bc, qc, dc, s9, b12, by simp [World.cell?, i2], by simp [World.cell?, i2], i1, by omega, by omega, i10, HLc.out.1, HLc.out.2, fun W' hk hb hg => ?_⟩
      obtain ⟨m, l, i9⟩ := i9
      exact ⟨hb, (hk.2 bs (by omega) hbl).trans i2, i3.kept hk (by omega), i4.kept hk (by omega), i5.kept hk (by omega), i6.kept hk (by omega), i7.kept hk (by omega), i8.kept hk (by omega), ⟨m, l, i9.kept hk (by omega)⟩, hg⟩
  have HEND : Hid (∀ W, Inv W → Bl w1 W ∧ ZB w1 W b7 (.slice At n ct) (.slice Bt q dt) ∧ ZB w1 W b10 (.slice Ab nb cb) (.slice Bb qb db) ∧ ZB w1 W b14 (.slice Aw nb cw) (.slice Bw qb dw) ∧ GrAt W At n Bt q ms ls ∧ GrAt W Ab nb Bb qb gm gl ∧ GrAt W Aw nb Bw qb gm gl) := fun W hI => by
    rw [hInv.out] at hI
    obtain ⟨i1, i2, i3, i4, i5, i6, i7, i8, i9, i10⟩ := hI
    exact ⟨i1, i3, i4, i5, i6.1.at_, i7.1.at_, i8.1.at_⟩
  have HBG : Hid (∀ W, Bl w1 W → W.cell? ⟨bg, 0, none⟩ = some (.slice Am n cm) ∧ W.cell? ⟨bg, 1, none⟩ = some (.slice Al q cl)) := fun W hW => by
    obtain ⟨g1, _, _, g4, _⟩ := HB.out
    obtain ⟨h1, h2, _⟩ := cell2 ((Below.block hW bg g4).trans g1)
    exact ⟨h1, h2⟩
  clear HI0 hInv HNUM HLa HLc
  go_loopw [61] (fun i wr => ∃ (j : Nat), j ≤ 2 ∧ i = .int .i64 j ∧ Hid (Inv wr)) (fun i _ => 2 - (intOf i).toNat)
  case atStart => exact ⟨0, by decide, rfl, HI.out⟩
  case round =>
    clear HI
    obtain ⟨wo, rfl⟩ : ∃ x, x = wr := ⟨_, rfl⟩
    obtain ⟨j, hj, rfl, HS⟩ := hrel
    by_cases hlt : j < 2
    · obtain ⟨Ay, ny, cy, By, qy, dy, lo, hi, d0, d1, HY⟩ := HST.out j wo hlt HS.out
      have hj0 : ((0 : Int) ≤ j) := by omega
      have hj1 : ((j : Nat) : Int) < 2 := by omega
      have hw1 : IntKind.i64.wrap ((j : Int) + 1) = ((j + 1 : Nat) : Int) := by rw [IntKind.wrap_i64]; omega
      have HJ : Hid (j < 2) := hlt
      clear HS HST HEND HBG HE HG HB HN hlt
      go_wp2_with fail
      obtain ⟨bt, hbt⟩ : ∃ b, b = wo.heap.size := ⟨_, rfl⟩
      obtain ⟨wa, hwa⟩ : ∃ x, x = wo.alloc (.cells #[.slice Ay ny cy, .slice By qy dy] 25) := ⟨_, rfl⟩
      have HA : Hid (hi ≤ bt ∧ Bl w1 wa ∧ ZB w1 wa bt (.slice Ay ny cy) (.slice By qy dy) ∧ (∃ m l, GIn lo hi wa Ay ny cy By qy dy m l) ∧ Kpt lo hi wo wa) := by
        have h1 : Below wo.heap.size wo wa := by rw [hwa]; exact (Below.refl _ _).alloc (Nat.le_refl _) _
        obtain ⟨m, l, h2⟩ := HY.out.2.2.2.1
        exact ⟨by rw [hbt]; exact HY.out.2.2.1, bchain HY.out.1 h1, by rw [hwa]; exact ZB.new HY.out.1 hbt, ⟨m, l, h2.below h1⟩, (Kpt.refl wo).below h1⟩
      rw [← hwa]
      try rw [← hbt]
      have HBT : Hid (hi ≤ bt) := HA.out.1
      clear hwa hbt d0 d1
      go_loopw [68] (fun i wi => ∃ (k : Nat), k ≤ ny ∧ i = .int .i64 k ∧ Hid (Bl w1 wi ∧ ZB w1 wi bt (.slice Ay ny cy) (.slice By qy dy) ∧ (∃ m l, GIn lo hi wi Ay ny cy By qy dy m l) ∧ Kpt lo hi wo wi)) (fun i _ => ny - (intOf i).toNat)
      case atStart => exact ⟨0, Nat.zero_le _, rfl, HA.out.2⟩
      case round =>
        obtain ⟨k, hk, rfl, HR⟩ := hrel
        obtain ⟨t0, t1, tf, tl⟩ := cell2 HR.out.2.1.1
        by_cases hlt2 : k < ny
        · obtain ⟨m, l, hgi⟩ := HR.out.2.2.1
          obtain ⟨x, hx⟩ : ∃ x, m[k]? = some x := ⟨_, List.getElem?_eq_getElem (by have := hgi.1.mlen; omega)⟩
          obtain ⟨g, rfl⟩ : ∃ g, Ay = some ⟨g, 0, none⟩ := by
            rcases hgi.1.mrow.2 with ⟨hv, h0⟩ | ⟨g, cap, cur, hv, hb, _⟩
            · omega
            · injection hv with hA _ _
              exact ⟨g, hA⟩
          obtain ⟨g', off', he, c0, _⟩ := (RowAt.of_own hgi.1.mrow).int hx
          cases he
          rw [Nat.zero_add] at c0
          have cf : ∀ o, wr.frozen? ⟨g, o, none⟩ = false := fun o => by
            obtain ⟨cur, hh, _⟩ := own_block hgi.1.mrow (g := g) rfl
            simp [World.frozen?, hh]
          have HX : Hid (Bl w1 (wr.setCell ⟨g, k, none⟩ (.int .i64 99)) ∧ ZB w1 (wr.setCell ⟨g, k, none⟩ (.int .i64 99)) bt (.slice (some ⟨g, 0, none⟩) ny cy) (.slice By qy dy) ∧ (∃ m l, GIn lo hi (wr.setCell ⟨g, k, none⟩ (.int .i64 99)) (some ⟨g, 0, none⟩) ny cy By qy dy m l) ∧ Kpt lo hi wo (wr.setCell ⟨g, k, none⟩ (.int .i64 99))) := by
            obtain ⟨cur, hh, hgl, _⟩ := own_block hgi.1.mrow (g := g) rfl
            have hgh := hgi.2.1 g rfl
            exact ⟨belowS HR.out.1 (Nat.le_trans HY.out.2.1 hgl) _, ⟨(Below.heap_setCell _ _ _ _ (by have := HBT.out; show bt ≠ g; omega)).trans HR.out.2.1.1, HR.out.2.1.2⟩, ⟨_, _, hgi.setI k 99⟩, HR.out.2.2.2.set hgl hgh _ _⟩
          have hk0 : ((0 : Int) ≤ k) := by omega
          have hk1 : ((k : Nat) : Int) < ny := by omega
          have hw2 : IntKind.i64.wrap ((k : Int) + 1) = ((k + 1 : Nat) : Int) := by have := HY.out.2.2.2.2.1; rw [IntKind.wrap_i64]; omega
          clear hgi hx
          go_wp2
          exact ⟨⟨k + 1, hlt2, by go_num, HX.out⟩, by simp [intOf]; omega⟩
        · have hkn : ny = k := by omega
          subst hkn
          obtain ⟨wb, rfl⟩ : ∃ x, x = wr := ⟨_, rfl⟩
          clear HA
          go_wp2_with fail
          clear t0 t1 tf tl hlt2
          go_loopw [79] (fun i wi => ∃ (k : Nat), k ≤ qy ∧ i = .int .i64 k ∧ Hid (Bl w1 wi ∧ ZB w1 wi bt (.slice Ay ny cy) (.slice By qy dy) ∧ (∃ m l, GIn lo hi wi Ay ny cy By qy dy m l) ∧ Kpt lo hi wo wi)) (fun i _ => qy - (intOf i).toNat)
          case atStart => exact ⟨0, Nat.zero_le _, rfl, HR.out⟩
          case round =>
            clear HR
            obtain ⟨k, hk, rfl, HR⟩ := hrel
            obtain ⟨t0, t1, tf, tl⟩ := cell2 HR.out.2.1.1
            by_cases hlt2 : k < qy
            · obtain ⟨m, l, hgi⟩ := HR.out.2.2.1
              obtain ⟨x, hx⟩ : ∃ x, l[k]? = some x := ⟨_, List.getElem?_eq_getElem (by have := hgi.1.llen; omega)⟩
              obtain ⟨g, rfl⟩ : ∃ g, By = some ⟨g, 0, none⟩ := by
                rcases hgi.1.lrow.2 with ⟨hv, h0⟩ | ⟨g, cap, cur, hv, hb, _⟩
                · omega
                · injection hv with hA _ _
                  exact ⟨g, hA⟩
              obtain ⟨g', off', he, c0, c1, _⟩ := (RowAt.of_own hgi.1.lrow).lk hx
              cases he
              rw [Nat.zero_add] at c0 c1
              have cf : ∀ o, wr.frozen? ⟨g, o, none⟩ = false := fun o => by
                obtain ⟨cur, hh, _⟩ := own_block hgi.1.lrow (g := g) rfl
                simp [World.frozen?, hh]
              obtain ⟨wz, hwz⟩ : ∃ x, x = (wr.setCell ⟨g, k * 2, none⟩ (.int .i64 0)).setCell ⟨g, k * 2 + 1, none⟩ (.int .i64 0) := ⟨_, rfl⟩
              have HX : Hid (Bl w1 wz ∧ ZB w1 wz bt (.slice Ay ny cy) (.slice (some ⟨g, 0, none⟩) qy dy) ∧ (∃ m l, GIn lo hi wz Ay ny cy (some ⟨g, 0, none⟩) qy dy m l) ∧ Kpt lo hi wo wz) := by
                obtain ⟨cur, hh, hgl, _⟩ := own_block hgi.1.lrow (g := g) rfl
                have hgh := hgi.2.2 g rfl
                have hne : bt ≠ g := by have := HBT.out; omega
                have hw := Nat.le_trans HY.out.2.1 hgl
                rw [hwz]
                exact ⟨belowS (belowS HR.out.1 hw _) hw _, ⟨((Below.heap_setCell _ _ _ _ (by exact hne)).trans (Below.heap_setCell _ _ _ _ (by exact hne))).trans HR.out.2.1.1, HR.out.2.1.2⟩, ⟨_, _, hgi.setL k (0, 0)⟩, (HR.out.2.2.2.set hgl hgh _ _).set hgl hgh _ _⟩
              have hk0 : ((0 : Int) ≤ k) := by omega
              have hk1 : ((k : Nat) : Int) < qy := by omega
              have hw2 : IntKind.i64.wrap ((k : Int) + 1) = ((k + 1 : Nat) : Int) := by have := HY.out.2.2.2.2.2.1; rw [IntKind.wrap_i64]; omega
              clear hgi hx
              go_wp2
              rw [← hwz]
              exact ⟨⟨k + 1, hlt2, by go_num, HX.out⟩, by simp [intOf]; omega⟩
            · have hkn : qy = k := by omega
              subst hkn
              have HF : Hid (Inv wr) := HY.out.2.2.2.2.2.2 wr HR.out.2.2.2 HR.out.1 HR.out.2.2.1
              clear HY HR
              go_wp2_with fail
              exact ⟨⟨j + 1, HJ.out, by go_num, HF.out⟩, by have := HJ.out; simp [intOf]; omega⟩
    · have hj2 : j = 2 := by omega
      subst hj2
      have HI := Lib.hid (HEND.out wo HS.out)
      obtain ⟨x0, x1, xf, xl⟩ := cell2 HI.out.2.1.1
      obtain ⟨g0, g1⟩ := HBG.out wo HI.out.1
      go_wp2_with fail
      refine (same_any At Am n ct cm Bt Al q dt cl ms ls wo HI.out.2.2.2.2.1 (HG.out wo HI.out.1) (Nat.le_trans HN.out.1 (by decide)) (Nat.le_trans HN.out.2 (by decide))).mono ?_
      rintro e wc ⟨rfl, hbc⟩
      have HC2 : Hid (Below wo.heap.size wo wc) := hbc
      clear hbc x0 x1 xf xl g0 g1
      obtain ⟨x0, x1, xf, xl⟩ := cell2 (HI.out.2.2.1.step HC2.out).1
      obtain ⟨g0, g1, gf, gl0⟩ := cell2 (HI.out.2.2.2.1.step HC2.out).1
      go_wp2_with fail
      refine (same_any Ab Aw nb cb cw Bb Bw qb db dw gm gl wc (HI.out.2.2.2.2.2.1.below HC2.out) (HI.out.2.2.2.2.2.2.below HC2.out) (Nat.le_trans HLb.out.1 (by decide)) (Nat.le_trans HLb.out.2 (by decide))).mono ?_
      rintro e wd ⟨rfl, hbd⟩
      have HD2 : Hid (Bl w1 wd) := bchain (bchain HI.out.1 HC2.out) hbd
      clear hbd x0 x1 xf xl g0 g1 gf gl0
      go_wp2
      go_ret
      exact ⟨rfl, bchain HB.out.2.2.2.2.2.2 HD2.out⟩
end Go.Proofs.YtlkfcfcejicdkaaGreatDoor
