/-
  tree: the law TreeChanges, walked. Printed by gen_treechanges.py. Own work.
-/
import Derived.Test.YtlkfcfcejicdkaaGreatDoorTreeBox
set_option linter.unusedSimpArgs false
set_option linter.unusedVariables false
namespace Go.Proofs.YtlkfcfcejicdkaaGreatDoor
open Go Go.RowKit

set_option maxRecDepth 100000 in
set_option maxHeartbeats 16000000 in
theorem changes_any (Am : Option Addr) (n cm : Nat) (Al : Option Addr) (q cl : Nat) (ms : List Int) (ls : List Lk) (o1 o2 p1 p2 : Int) (w : World) (hG : GrAt w Am n Al q ms ls) (hE : ErrT w) :
    Calls Tryz.prog 5 #[grV Am n cm Al q cl, .agg #[.int .i64 o1, .int .i64 o2], .agg #[.int .i64 p1, .int .i64 p2]] w fun e w' => e = .returned (.bool true) ∧ Below w.heap.size w w' := by
  obtain ⟨bg, hbg⟩ : ∃ b, b = w.heap.size := ⟨_, rfl⟩
  obtain ⟨b4, hb4⟩ : ∃ b, b = w.heap.size + 1 := ⟨_, rfl⟩
  obtain ⟨b5, hb5⟩ : ∃ b, b = w.heap.size + 1 + 1 := ⟨_, rfl⟩
  obtain ⟨w1, hw1⟩ : ∃ w1, w1 = ((w.alloc (.cells #[.slice Am n cm, .slice Al q cl] 25)).alloc (.cells #[.int .i64 o1, .int .i64 o2] 35)).alloc (.cells #[.int .i64 p1, .int .i64 p2] 35) := ⟨_, rfl⟩
  have HA := Lib.hid (alloc3 w (.cells #[.slice Am n cm, .slice Al q cl] 25) (.cells #[.int .i64 o1, .int .i64 o2] 35) (.cells #[.int .i64 p1, .int .i64 p2] 35))
  rw [← hw1, ← hb5, ← hb4, ← hbg] at HA
  have HB : Hid (w1.heap[bg]? = some (.cells #[.slice Am n cm, .slice Al q cl] 25 (0, 0)) ∧ w1.heap[b4]? = some (.cells #[.int .i64 o1, .int .i64 o2] 35 (0, 0)) ∧ w1.heap[b5]? = some (.cells #[.int .i64 p1, .int .i64 p2] 35 (0, 0)) ∧ bg < w1.heap.size ∧ b4 < w1.heap.size ∧ b5 < w1.heap.size ∧ Bl w w1) := ⟨HA.out.1, HA.out.2.1, HA.out.2.2.1, by have := HA.out.2.2.2.1; omega, by have := HA.out.2.2.2.1; omega, by have := HA.out.2.2.2.1; omega, by have := HA.out.2.2.2.2; rw [hbg] at this; exact this⟩
  clear HA
  have HE : Hid (∀ W, Bl w1 W → ErrT W) := fun W hW => hE.below (bchain HB.out.2.2.2.2.2.2 hW)
  have HG : Hid (∀ W, Bl w1 W → GrAt W Am n Al q ms ls) := fun W hW => hG.below (bchain HB.out.2.2.2.2.2.2 hW)
  have HC : Hid (∀ W, Bl w1 W → W.cell? ⟨bg, 0, none⟩ = some (.slice Am n cm) ∧ W.cell? ⟨bg, 1, none⟩ = some (.slice Al q cl) ∧ W.cell? ⟨b4, 0, none⟩ = some (.int .i64 o1) ∧ W.cell? ⟨b4, 1, none⟩ = some (.int .i64 o2) ∧ W.cell? ⟨b5, 0, none⟩ = some (.int .i64 p1) ∧ W.cell? ⟨b5, 1, none⟩ = some (.int .i64 p2)) := fun W hW => by
    obtain ⟨g1, g2, g3, g4, g5, g6, _⟩ := HB.out
    obtain ⟨h1, h2, _⟩ := cell2 ((Below.block hW bg g4).trans g1)
    obtain ⟨h3, h4, _⟩ := cell2 ((Below.block hW b4 g5).trans g2)
    obtain ⟨h5, h6, _⟩ := cell2 ((Below.block hW b5 g6).trans g3)
    exact ⟨h1, h2, h3, h4, h5, h6⟩
  clear hG hE
  go_enter Tryz.func5, Tryz.ntmps5
  go_wp2_with fail
  rw [← hw1, ← hb5, ← hb4, ← hbg]
  clear hw1 hbg hb4 hb5
  refine (awake_any w1 (HE.out w1 (Bl.refl _))).mono ?_
  rintro e w2 ⟨rfl, hb2⟩
  have HB2 : Hid (Bl w1 w2) := hb2
  clear hb2
  obtain ⟨f0, f1, f2, f3, f4, f5⟩ := HC.out w2 HB2.out
  by_cases hs : n ≤ 50 ∧ q ≤ 50
  case neg =>
    have HSM : Hid (Calls Tryz.prog 10 #[grV Am n cm Al q cl] w2 fun e w' => e = .returned (.bool false) ∧ Below w2.heap.size w2 w') := by
      have := small_any Am n cm Al q cl w2
      rw [show (decide (n ≤ 50) && decide (q ≤ 50)) = false by
        rw [Bool.and_eq_false_iff, decide_eq_false_iff_not, decide_eq_false_iff_not]; omega] at this
      exact this
    clear hs
    go_wp2_with fail
    refine HSM.out.mono ?_
    rintro e w3 ⟨rfl, hb3⟩
    go_wp2
    go_ret
    exact ⟨rfl, bchain HB.out.2.2.2.2.2.2 (bchain HB2.out hb3)⟩
  case pos =>
  have HSM : Hid (Calls Tryz.prog 10 #[grV Am n cm Al q cl] w2 fun e w' => e = .returned (.bool true) ∧ Below w2.heap.size w2 w') := by
    have := small_any Am n cm Al q cl w2
    rw [decide_eq_true hs.1, decide_eq_true hs.2] at this
    exact this
  have HN : Hid (n ≤ 1000 ∧ q ≤ 1000) := ⟨by omega, by omega⟩
  have HTW : Hid (∀ W, Bl w1 W → Calls Tryz.prog 12 #[grV Am n cm Al q cl] W fun e w' => ∃ (Am' : Option Addr) (cm' : Nat) (Al' : Option Addr) (cl' : Nat), e = .returned (grV Am' n cm' Al' q cl') ∧ Bl w1 w' ∧ Hid (GrOwn w1.heap.size w' Am' n cm' Al' q cl' ms ls) ∧ Below W.heap.size W w') := fun W hW => by
    refine (twin_any Am n cm Al q cl ms ls W (HG.out W hW) HN.out.1 HN.out.2).mono ?_
    rintro e w' ⟨Am', cm', Al', cl', rfl, h⟩
    exact ⟨Am', cm', Al', cl', rfl, bchain hW h.out.2, h.out.1.mono (Below.size hW), h.out.2⟩
  clear hs
  go_wp2_with fail
  refine HSM.out.mono ?_
  rintro e w3 ⟨rfl, hb3⟩
  have HB3 : Hid (Bl w1 w3) := bchain HB2.out hb3
  clear hb3 HSM f0 f1 f2 f3 f4 f5 HB2
  obtain ⟨f0, f1, f2, f3, f4, f5⟩ := HC.out w3 HB3.out
  have HSW : Hid (∀ (Am' : Option Addr) (cm' : Nat) (Al' : Option Addr) (cl' : Nat) W, Bl w1 W → Hid (GrOwn w1.heap.size W Am' n cm' Al' q cl' ms ls) → Calls Tryz.prog 23 #[grV Am' n cm' Al' q cl', .agg #[.int .i64 o1, .int .i64 o2], .agg #[.int .i64 p1, .int .i64 p2]] W fun e w' => ∃ (A5 : Option Addr) (n5 c5 : Nat) (B5 : Option Addr) (q5 d5 : Nat) (v5 : Value), e = .returned (.tuple #[grV A5 n5 c5 B5 q5 d5, v5]) ∧ Bl w1 w' ∧ Hid (ErrIs w' v5 (swapP ms ls (o1, o2) (p1, p2)).1 ∧ GrOwn w1.heap.size w' A5 n5 c5 B5 q5 d5 (swapP ms ls (o1, o2) (p1, p2)).2.1 (swapP ms ls (o1, o2) (p1, p2)).2.2) ∧ Below W.heap.size W w') := fun Am' cm' Al' cl' W hW hO => by
    refine (swap_any Am' n cm' Al' q cl' ms ls o1 o2 p1 p2 W hO.out.at_ HN.out.1 HN.out.2).mono ?_
    rintro e w' ⟨A5, n5, c5, B5, q5, d5, v5, rfl, h⟩
    exact ⟨A5, n5, c5, B5, q5, d5, v5, rfl, bchain hW h.out.2.2, ⟨h.out.1, h.out.2.1.mono (Below.size hW)⟩, h.out.2.2⟩
  have hbl3 : Bl w1 w3 := HB3.out
  go_upto_region 5 with fail
  go_cut [7, 8] from 11 (fun s7 s8 wx => ∃ (b7 : Nat) (A5 : Option Addr) (n5 c5 : Nat) (B5 : Option Addr) (q5 d5 : Nat), s7 = .pointer (some ⟨b7, 0, none⟩) ∧ Hid (Bl w1 wx ∧ ZB w1 wx b7 (.slice A5 n5 c5) (.slice B5 q5 d5) ∧ ErrIs wx s8 (swapP ms ls (o1, o2) (p1, p2)).1 ∧ GrOwn w1.heap.size wx A5 n5 c5 B5 q5 d5 (swapP ms ls (o1, o2) (p1, p2)).2.1 (swapP ms ls (o1, o2) (p1, p2)).2.2))
  case first =>
    (go_region_held_law (fun W => W.cell? ⟨bg, 0, none⟩ = some (.slice Am n cm) ∧ W.cell? ⟨bg, 1, none⟩ = some (.slice Al q cl) ∧ W.cell? ⟨b4, 0, none⟩ = some (.int .i64 o1) ∧ W.cell? ⟨b4, 1, none⟩ = some (.int .i64 o2) ∧ W.cell? ⟨b5, 0, none⟩ = some (.int .i64 p1) ∧ W.cell? ⟨b5, 1, none⟩ = some (.int .i64 p2))
      (first | (refine HC.out _ ?_; (first | (with_reducible refine Bl.dr ?_; (first | with_reducible assumption | (with_reducible refine Bl.al ?_ _; first | with_reducible assumption | (with_reducible refine Bl.al ?_ _; first | with_reducible assumption | (with_reducible refine Bl.al ?_ _; with_reducible assumption))))) | (first | with_reducible assumption | (with_reducible refine Bl.al ?_ _; first | with_reducible assumption | (with_reducible refine Bl.al ?_ _; first | with_reducible assumption | (with_reducible refine Bl.al ?_ _; with_reducible assumption))))); done) | (refine HC.out _ ?_; with_reducible refine Bl.st ?_ z5n _ _; with_reducible refine Bl.st ?_ z5n _ _; with_reducible assumption) | fail)
      (first
        | (go_at_call 12; refine (HTW.out _ (by (first | (with_reducible refine Bl.dr ?_; (first | with_reducible assumption | (with_reducible refine Bl.al ?_ _; first | with_reducible assumption | (with_reducible refine Bl.al ?_ _; first | with_reducible assumption | (with_reducible refine Bl.al ?_ _; with_reducible assumption))))) | (first | with_reducible assumption | (with_reducible refine Bl.al ?_ _; first | with_reducible assumption | (with_reducible refine Bl.al ?_ _; first | with_reducible assumption | (with_reducible refine Bl.al ?_ _; with_reducible assumption))))))).mono ?_; rintro e w4 ⟨Am4, cm4, Al4, cl4, rfl, hbl4, H4, hbw4⟩; try (have z4 : ZB w1 w4 w3.heap.size (.slice none 0 0) (.slice none 0 0) := ZB.step (ZB.dr (ZB.new hbl3 rfl)) hbw4))
        | (go_at_call 23; refine (HSW.out _ _ _ _ _ (by (first | (with_reducible refine Bl.dr ?_; (first | with_reducible assumption | (with_reducible refine Bl.al ?_ _; first | with_reducible assumption | (with_reducible refine Bl.al ?_ _; first | with_reducible assumption | (with_reducible refine Bl.al ?_ _; with_reducible assumption))))) | (first | with_reducible assumption | (with_reducible refine Bl.al ?_ _; first | with_reducible assumption | (with_reducible refine Bl.al ?_ _; first | with_reducible assumption | (with_reducible refine Bl.al ?_ _; with_reducible assumption)))))) (by first | exact H4 | exact Lib.hid (H4.out.below ((Below.refl _ _).alloc (Nat.le_refl _) _)))).mono ?_; rintro e w5 ⟨A5, n5, c5, B5, q5, d5, v5, rfl, hbl5, H5, hbw5⟩; first | (have z5 := ZB.step z4 hbw5; obtain ⟨z0, z1, zf, zl⟩ := cell2 z5.1; have z5n := z5.2) | (have z5 : ZB w1 w5 w4.heap.size (.slice none 0 0) (.slice none 0 0) := ZB.step (ZB.new hbl4 rfl) hbw5; obtain ⟨z0, z1, zf, zl⟩ := cell2 z5.1; have z5n := z5.2) | skip)
        | fail))
    all_goals
      go_wp2_with fail
      go_meet
      first
      | exact ⟨_, A5, n5, c5, B5, q5, d5, rfl, (hbl5.st z5.2 _ _).st z5.2 _ _, z5.set _ _, H5.out.1.set z5.1 _ _, GrOwn.set H5.out.2 z5.1 _ _⟩
      | exact ⟨_, A5, n5, c5, B5, q5, d5, rfl, hbl5.al _, ZB.new hbl5 rfl, H5.out.1.below ((Below.refl _ _).alloc (Nat.le_refl _) _), H5.out.2.below ((Below.refl _ _).alloc (Nat.le_refl _) _)⟩
  case rest =>
    obtain ⟨b7, A5, n5, c5, B5, q5, d5, rfl, H7⟩ := hcut
    clear f0 f1 f2 f3 f4 f5 hbl3 HB3 HSW
    obtain ⟨f0, f1, f2, f3, f4, f5⟩ := HC.out wc H7.out.1
    go_wp2_with fail
    refine (rswap_any Am n cm Al q cl ms ls o1 o2 p1 p2 wc (HG.out wc H7.out.1) HN.out.1 HN.out.2).mono ?_
    rintro e w8 ⟨A8, n8, c8, B8, q8, d8, bb, Ae, me, ce, ie, rfl, H8⟩
    obtain rfl : n5 = n8 := H7.out.2.2.2.mlen.symm.trans H8.out.2.1.mlen
    obtain rfl : q5 = q8 := H7.out.2.2.2.llen.symm.trans H8.out.2.1.llen
    obtain ⟨er, her⟩ : ∃ x, Hid ((swapP ms ls (o1, o2) (p1, p2)).1 = x) := ⟨_, rfl⟩
    obtain ⟨gm, hgm⟩ : ∃ x, Hid ((swapP ms ls (o1, o2) (p1, p2)).2.1 = x) := ⟨_, rfl⟩
    obtain ⟨gl, hgl⟩ : ∃ x, Hid ((swapP ms ls (o1, o2) (p1, p2)).2.2 = x) := ⟨_, rfl⟩
    have hlen := swapP_len ms ls (o1, o2) (p1, p2)
    rw [her.out, hgm.out, hgl.out] at H7 H8
    rw [hgm.out, hgl.out] at hlen
    have HLN : Hid (n5 ≤ 1000 ∧ q5 ≤ 1000) := ⟨by rw [← H7.out.2.2.2.mlen]; omega, by rw [← H7.out.2.2.2.llen]; omega⟩
    clear hlen her hgm hgl f0 f1 f2 f3 f4 f5
    go_upto_region 7 with fail
    obtain ⟨b9, hb9⟩ : ∃ b, b = w8.heap.size := ⟨_, rfl⟩
    obtain ⟨b10, hb10⟩ : ∃ b, b = w8.heap.size + 1 := ⟨_, rfl⟩
    obtain ⟨w9, hw9⟩ : ∃ x, x = (w8.alloc (.cells #[.slice A8 n5 c8, .slice B8 q5 d8] 25)).alloc (.cells #[.bool bb, .slice Ae me ce, .int .i64 ie] 43) := ⟨_, rfl⟩
    have HB8 : Hid (Bl w1 w8 ∧ Bl w8 w9) := ⟨bchain H7.out.1 H8.out.2.2, by rw [hw9]; exact ((Bl.refl _).al _).al _⟩
    have F9 : Hid (Bl w1 w9 ∧ ZB w1 w9 b7 (.slice A5 n5 c5) (.slice B5 q5 d5) ∧ ZB w1 w9 b9 (.slice A8 n5 c8) (.slice B8 q5 d8) ∧ KE w1 w9 b10 (.bool bb) (.slice Ae me ce) (.int .i64 ie) ∧ b9 ≠ b7 ∧ b10 ≠ b7 ∧ b10 ≠ b9) := by
      have hl7 := (Array.getElem?_eq_some_iff.1 (H7.out.2.1.step H8.out.2.2).1).1
      have hne : b9 ≠ b7 ∧ b10 ≠ b7 ∧ b10 ≠ b9 := ⟨by omega, by omega, by omega⟩
      refine ⟨bchain HB8.out.1 HB8.out.2, (H7.out.2.1.step H8.out.2.2).step HB8.out.2, ?_, ?_, hne⟩
      · rw [hw9]; exact (ZB.new HB8.out.1 hb9).al _
      · rw [hw9]; exact KE.fresh (HB8.out.1.al _) (by rw [hb10]; simp)
    have R9 : Hid (GrAt w9 A5 n5 B5 q5 gm gl ∧ GrAt w9 A8 n5 B8 q5 gm gl ∧ ErrIs w9 u8 er ∧ EIs w9 (eVal bb Ae me ce ie) er) := ⟨(H7.out.2.2.2.at_.below H8.out.2.2).below HB8.out.2, H8.out.2.1.at_.below HB8.out.2, (H7.out.2.2.1.below H8.out.2.2).below HB8.out.2, H8.out.1.below HB8.out.2⟩
    have HC9 : Hid (∀ W, Bl w9 W → W.cell? ⟨b7, 0, none⟩ = some (.slice A5 n5 c5) ∧ W.cell? ⟨b7, 1, none⟩ = some (.slice B5 q5 d5) ∧ W.cell? ⟨b9, 0, none⟩ = some (.slice A8 n5 c8) ∧ W.cell? ⟨b9, 1, none⟩ = some (.slice B8 q5 d8) ∧ W.cell? ⟨b10, 0, none⟩ = some (.bool bb) ∧ W.cell? ⟨b10, 1, none⟩ = some (.slice Ae me ce) ∧ W.cell? ⟨b10, 2, none⟩ = some (.int .i64 ie) ∧ W.cell? ⟨bg, 0, none⟩ = some (.slice Am n cm) ∧ W.cell? ⟨bg, 1, none⟩ = some (.slice Al q cl)) := fun W hW => by
      obtain ⟨h1, h2, _⟩ := cell2 (F9.out.2.1.step hW).1
      obtain ⟨h3, h4, _⟩ := cell2 (F9.out.2.2.1.step hW).1
      obtain ⟨h5, h6, h7, _⟩ := cell3 (F9.out.2.2.2.1.step hW).e8
      obtain ⟨h8, h9, _⟩ := HC.out W (bchain F9.out.1 hW)
      exact ⟨h1, h2, h3, h4, h5, h6, h7, h8, h9⟩
    have HSA : Hid (∀ W, Bl w9 W → Calls Tryz.prog 25 #[grV A5 n5 c5 B5 q5 d5, grV A8 n5 c8 B8 q5 d8] W fun e w' => e = .returned (.bool true) ∧ Bl w9 w') := fun W hW => (same_any A5 A8 n5 c5 c8 B5 B8 q5 d5 d8 gm gl W (R9.out.1.below hW) (R9.out.2.1.below hW) (by have := HLN.out; omega) (by have := HLN.out; omega)).mono fun e w' h => ⟨h.1, bchain hW h.2⟩
    have HF1 : Hid (∀ W, Bl w9 W → Calls Tryz.prog 20 #[u8, eVal bb Ae me ce ie] W fun e w' => e = .returned (.bool true) ∧ Bl w9 w') := fun W hW => (fails_any W (HE.out W (bchain F9.out.1 hW)) (R9.out.2.2.1.below hW) (R9.out.2.2.2.of.below hW)).mono fun e w' h => ⟨h.1, bchain hW h.2⟩
    have HK1 : Hid (∀ W, Bl w9 W → Calls Tryz.prog 26 #[grV Am n cm Al q cl] W fun e w' => ∃ v, e = .returned v ∧ Bl w9 w' ∧ Hid (ErrIs w' v (chk ms ls))) := fun W hW => by
      refine (check_any Am n cm Al q cl ms ls W (HG.out W (bchain F9.out.1 hW)) HN.out.1 HN.out.2).mono ?_
      rintro e w' ⟨v, rfl, h⟩
      exact ⟨v, rfl, bchain hW h.out.2, h.out.1⟩
    have HK2 : Hid (∀ vx W, Bl w9 W → Hid (ErrIs W vx (chk ms ls)) → Calls Tryz.prog 27 #[grV Am n cm Al q cl] W fun e w' => ∃ v, e = .returned v ∧ Bl w9 w' ∧ Hid (ErrIs w' vx (chk ms ls) ∧ EIs w' v (chk ms ls))) := fun vx W hW hx => by
      refine (rcheck_any Am n cm Al q cl ms ls W (HG.out W (bchain F9.out.1 hW)) (Nat.le_trans HN.out.1 (by decide)) (Nat.le_trans HN.out.2 (by decide))).mono ?_
      rintro e w' ⟨v, rfl, h⟩
      exact ⟨v, rfl, bchain hW h.out.2, hx.out.below h.out.2, h.out.1⟩
    have HF2 : Hid (∀ vx v W, Bl w9 W → Hid (ErrIs W vx (chk ms ls) ∧ EIs W v (chk ms ls)) → Calls Tryz.prog 20 #[vx, v] W fun e w' => e = .returned (.bool true) ∧ Bl w9 w') := fun vx v W hW h => (fails_any W (HE.out W (bchain F9.out.1 hW)) h.out.1 h.out.2.of).mono fun e w' h => ⟨h.1, bchain hW h.2⟩
    have hbl9 : Bl w9 w9 := Bl.refl _
    obtain ⟨y0, y1, y2, y3', y4, y5, y6, y7, y8⟩ := HC9.out w9 hbl9
    rw [← hw9, ← hb10, ← hb9]
    clear hw9 hb10 hb9 H7 H8 HB8
    go_cut [48] from 11 (fun s48 wx => s48 = .bool false ∧ Bl w9 wx)
    case first =>
      (go_region_held_law (fun W => W.cell? ⟨b7, 0, none⟩ = some (.slice A5 n5 c5) ∧ W.cell? ⟨b7, 1, none⟩ = some (.slice B5 q5 d5) ∧ W.cell? ⟨b9, 0, none⟩ = some (.slice A8 n5 c8) ∧ W.cell? ⟨b9, 1, none⟩ = some (.slice B8 q5 d8) ∧ W.cell? ⟨b10, 0, none⟩ = some (.bool bb) ∧ W.cell? ⟨b10, 1, none⟩ = some (.slice Ae me ce) ∧ W.cell? ⟨b10, 2, none⟩ = some (.int .i64 ie) ∧ W.cell? ⟨bg, 0, none⟩ = some (.slice Am n cm) ∧ W.cell? ⟨bg, 1, none⟩ = some (.slice Al q cl))
        (first | (refine HC9.out _ ?_; (first | (with_reducible refine Bl.dr ?_; with_reducible assumption) | with_reducible assumption); done) | fail)
        (first
          | (go_at_call 25; refine (HSA.out _ (by (first | (with_reducible refine Bl.dr ?_; with_reducible assumption) | with_reducible assumption))).mono ?_; rintro e wa ⟨rfl, hbla⟩)
          | (go_at_call 20; refine (HF1.out _ (by (first | (with_reducible refine Bl.dr ?_; with_reducible assumption) | with_reducible assumption))).mono ?_; rintro e wb ⟨rfl, hblb⟩)
          | (go_at_call 26; refine (HK1.out _ (by (first | (with_reducible refine Bl.dr ?_; with_reducible assumption) | with_reducible assumption))).mono ?_; rintro e wd ⟨v1, rfl, hbld, Hd⟩)
          | (go_at_call 27; refine (HK2.out _ _ (by (first | (with_reducible refine Bl.dr ?_; with_reducible assumption) | with_reducible assumption)) Hd).mono ?_; rintro e we ⟨v2, rfl, hble, He⟩)
          | (go_at_call 20; refine (HF2.out _ _ _ (by (first | (with_reducible refine Bl.dr ?_; with_reducible assumption) | with_reducible assumption)) He).mono ?_; rintro e wf ⟨rfl, hblf⟩)
          | fail))
      all_goals
        go_wp2_with fail
        go_meet
        exact ⟨rfl, hblf⟩
    case rest =>
    obtain ⟨rfl, hwc⟩ := hcut
    have hbl3 : Bl w1 wc := bchain F9.out.1 hwc
    have z3 := F9.out.2.1.step hwc
    have y3 := F9.out.2.2.1.step hwc
    have k3 := F9.out.2.2.2.1.step hwc
    have HNE : Hid (b9 ≠ b7 ∧ b10 ≠ b7 ∧ b10 ≠ b9) := F9.out.2.2.2.2
    clear hwc F9 R9 HC9 HSA HF1 HK1 HK2 HF2 hbl9 y0 y1 y2 y3' y4 y5 y6 y7 y8
    have HPRj : Hid (∀ (Am' : Option Addr) (cm' : Nat) (Al' : Option Addr) (cl' : Nat) W, Bl w1 W → Hid (GrOwn w1.heap.size W Am' n cm' Al' q cl' ms ls) → Calls Tryz.prog 28 #[grV Am' n cm' Al' q cl', .int .i64 o1, .int .i64 p1] W fun e w' => ∃ (Ax : Option Addr) (nx cx : Nat) (Bx : Option Addr) (qx dx : Nat) (vx : Value), e = .returned (.tuple #[grV Ax nx cx Bx qx dx, vx]) ∧ Bl w1 w' ∧ Hid (ErrIs w' vx (joinP ms ls o1 p1).1 ∧ GrOwn w1.heap.size w' Ax nx cx Bx qx dx (joinP ms ls o1 p1).2.1 (joinP ms ls o1 p1).2.2) ∧ Below W.heap.size W w') := fun Am' cm' Al' cl' W hW hO => by
      refine (join_any Am' n cm' Al' q cl' ms ls o1 p1 W hO.out.at_ HN.out.1 HN.out.2).mono ?_
      rintro e w' ⟨Ax, nx, cx, Bx, qx, dx, vx, rfl, h⟩
      exact ⟨Ax, nx, cx, Bx, qx, dx, vx, rfl, bchain hW h.out.2.2, ⟨h.out.1, h.out.2.1.mono (Below.size hW)⟩, h.out.2.2⟩
    obtain ⟨f0, f1, f2, f3, f4, f5⟩ := HC.out _ hbl3
    go_upto_region 9 with fail
    go_cut [8] from 11 (fun s8 wx => ∃ (Ax : Option Addr) (nx cx : Nat) (Bx : Option Addr) (qx dx : Nat), Hid (Bl w1 wx ∧ ZB w1 wx b7 (.slice Ax nx cx) (.slice Bx qx dx) ∧ ZB w1 wx b9 (.slice A8 n5 c8) (.slice B8 q5 d8) ∧ KE w1 wx b10 (.bool bb) (.slice Ae me ce) (.int .i64 ie) ∧ ErrIs wx s8 (joinP ms ls o1 p1).1 ∧ GrOwn w1.heap.size wx Ax nx cx Bx qx dx (joinP ms ls o1 p1).2.1 (joinP ms ls o1 p1).2.2))
    case first =>
      (go_region_held_law (fun W => W.cell? ⟨bg, 0, none⟩ = some (.slice Am n cm) ∧ W.cell? ⟨bg, 1, none⟩ = some (.slice Al q cl) ∧ W.cell? ⟨b4, 0, none⟩ = some (.int .i64 o1) ∧ W.cell? ⟨b4, 1, none⟩ = some (.int .i64 o2) ∧ W.cell? ⟨b5, 0, none⟩ = some (.int .i64 p1) ∧ W.cell? ⟨b5, 1, none⟩ = some (.int .i64 p2))
        (first | (refine HC.out _ ?_; (first | (with_reducible refine Bl.dr ?_; (first | with_reducible assumption | (with_reducible refine Bl.al ?_ _; first | with_reducible assumption | (with_reducible refine Bl.al ?_ _; first | with_reducible assumption | (with_reducible refine Bl.al ?_ _; with_reducible assumption))))) | (first | with_reducible assumption | (with_reducible refine Bl.al ?_ _; first | with_reducible assumption | (with_reducible refine Bl.al ?_ _; first | with_reducible assumption | (with_reducible refine Bl.al ?_ _; with_reducible assumption))))); done) | (refine HC.out _ ?_; with_reducible refine Bl.st ?_ z5n _ _; with_reducible refine Bl.st ?_ z5n _ _; with_reducible assumption) | fail)
        (first
          | (go_at_call 12; refine (HTW.out _ (by (first | (with_reducible refine Bl.dr ?_; (first | with_reducible assumption | (with_reducible refine Bl.al ?_ _; first | with_reducible assumption | (with_reducible refine Bl.al ?_ _; first | with_reducible assumption | (with_reducible refine Bl.al ?_ _; with_reducible assumption))))) | (first | with_reducible assumption | (with_reducible refine Bl.al ?_ _; first | with_reducible assumption | (with_reducible refine Bl.al ?_ _; first | with_reducible assumption | (with_reducible refine Bl.al ?_ _; with_reducible assumption))))))).mono ?_; rintro e w4 ⟨Am4, cm4, Al4, cl4, rfl, hbl4, H4, hbw4⟩; have z4 := ZB.step (ZB.dr z3) hbw4; have y4 := ZB.step (ZB.dr y3) hbw4; have k4 := KE.step (KE.dr k3) hbw4)
          | (go_at_call 28; refine (HPRj.out _ _ _ _ _ (by (first | (with_reducible refine Bl.dr ?_; (first | with_reducible assumption | (with_reducible refine Bl.al ?_ _; first | with_reducible assumption | (with_reducible refine Bl.al ?_ _; first | with_reducible assumption | (with_reducible refine Bl.al ?_ _; with_reducible assumption))))) | (first | with_reducible assumption | (with_reducible refine Bl.al ?_ _; first | with_reducible assumption | (with_reducible refine Bl.al ?_ _; first | with_reducible assumption | (with_reducible refine Bl.al ?_ _; with_reducible assumption)))))) (by exact H4)).mono ?_; rintro e w5 ⟨Ax, nx, cx, Bx, qx, dx, vx, rfl, hbl5, H5, hbw5⟩; have z5 := ZB.step z4 hbw5; have y5 := ZB.step y4 hbw5; have k5 := KE.step k4 hbw5; obtain ⟨z0, z1, zf, zl⟩ := cell2 z5.1; have z5n := z5.2)
          | fail))
      all_goals
        go_wp2_with fail
        go_meet
        exact ⟨Ax, nx, cx, Bx, qx, dx, (hbl5.st z5.2 _ _).st z5.2 _ _, z5.set _ _, y5.setne HNE.out.1 _ _, k5.setne HNE.out.2.1 z5.2 _ _, H5.out.1.set z5.1 _ _, GrOwn.set H5.out.2 z5.1 _ _⟩
    case rest =>
    obtain ⟨A5j, n5j, c5j, B5j, q5j, d5j, H7j⟩ := hcut
    clear f0 f1 f2 f3 f4 f5 hbl3 HPRj z3 y3 k3
    obtain ⟨f0, f1, f2, f3, f4, f5⟩ := HC.out _ H7j.out.1
    go_wp2_with fail
    refine (rjoin_any Am n cm Al q cl ms ls o1 p1 _ (HG.out _ H7j.out.1) HN.out.1 HN.out.2).mono ?_
    rintro e w8j ⟨A8j, n8j, c8j, B8j, q8j, d8j, bbj, Aej, mej, cej, iej, rfl, H8j⟩
    obtain rfl : n5j = n8j := H7j.out.2.2.2.2.2.mlen.symm.trans H8j.out.2.1.mlen
    obtain rfl : q5j = q8j := H7j.out.2.2.2.2.2.llen.symm.trans H8j.out.2.1.llen
    obtain ⟨erj, her⟩ : ∃ x, Hid ((joinP ms ls o1 p1).1 = x) := ⟨_, rfl⟩
    obtain ⟨gmj, hgm⟩ : ∃ x, Hid ((joinP ms ls o1 p1).2.1 = x) := ⟨_, rfl⟩
    obtain ⟨glj, hgl⟩ : ∃ x, Hid ((joinP ms ls o1 p1).2.2 = x) := ⟨_, rfl⟩
    have hlen := joinP_len ms ls o1 p1
    rw [her.out, hgm.out, hgl.out] at H7j H8j
    rw [hgm.out, hgl.out] at hlen
    have HLNj : Hid (n5j ≤ 1000 ∧ q5j ≤ 1000) := ⟨by rw [← H7j.out.2.2.2.2.2.mlen]; omega, by rw [← H7j.out.2.2.2.2.2.llen]; omega⟩
    clear hlen her hgm hgl f0 f1 f2 f3 f4 f5
    have HB8j : Hid (Bl w1 w8j ∧ ZB w1 w8j b7 (.slice A5j n5j c5j) (.slice B5j q5j d5j) ∧ ZB w1 w8j b9 (.slice A8 n5 c8) (.slice B8 q5 d8) ∧ KE w1 w8j b10 (.bool bb) (.slice Ae me ce) (.int .i64 ie)) := ⟨bchain H7j.out.1 H8j.out.2.2, H7j.out.2.1.step H8j.out.2.2, H7j.out.2.2.1.step H8j.out.2.2, H7j.out.2.2.2.1.step H8j.out.2.2⟩
    obtain ⟨s0, s1, sf, sl⟩ := cell2 HB8j.out.2.1.1
    obtain ⟨r0, r1, rf, rl⟩ := cell2 HB8j.out.2.2.1.1
    obtain ⟨k0, k1, k2, kf, kl⟩ := cell3 HB8j.out.2.2.2.e8
    have m1 : ¬ (b7 = b9) := fun e => HNE.out.1 e.symm
    have m2 : ¬ (b7 = b10) := fun e => HNE.out.2.1 e.symm
    have m3 : ¬ (b9 = b10) := fun e => HNE.out.2.2 e.symm
    have m4 : ¬ (b9 = b7) := HNE.out.1
    have m5 : ¬ (b10 = b7) := HNE.out.2.1
    have m6 : ¬ (b10 = b9) := HNE.out.2.2
    go_wp2_with fail
    obtain ⟨w9j, hw9⟩ : ∃ x, x = ((((w8j.setCell ⟨b9, 0, none⟩ (.slice A8j n5j c8j)).setCell ⟨b9, 1, none⟩ (.slice B8j q5j d8j)).setCell ⟨b10, 0, none⟩ (.bool bbj)).setCell ⟨b10, 1, none⟩ (.slice Aej mej cej)).setCell ⟨b10, 2, none⟩ (.int .i64 iej) := ⟨_, rfl⟩
    have F9j : Hid (Bl w1 w9j ∧ ZB w1 w9j b7 (.slice A5j n5j c5j) (.slice B5j q5j d5j) ∧ ZB w1 w9j b9 (.slice A8j n5j c8j) (.slice B8j q5j d8j) ∧ KE w1 w9j b10 (.bool bbj) (.slice Aej mej cej) (.int .i64 iej)) := by
      rw [hw9]
      have hk := HB8j.out.2.2.2.setne (b7 := b9) m6 HB8j.out.2.2.1.2 (.slice A8j n5j c8j) (.slice B8j q5j d8j)
      have hk2 := hk.set (.bool bbj) (.slice Aej mej cej) (.int .i64 iej)
      exact ⟨hk2.old, (HB8j.out.2.1.setne m1 _ _).setne3 m2 _ _ _, (HB8j.out.2.2.1.set _ _).setne3 m3 _ _ _, hk2⟩
    have R9j : Hid (GrAt w9j A5j n5j B5j q5j gmj glj ∧ GrAt w9j A8j n5j B8j q5j gmj glj ∧ ErrIs w9j u8 erj ∧ EIs w9j (eVal bbj Aej mej cej iej) erj) := by
      rw [hw9]
      have hk := HB8j.out.2.2.2.setne (b7 := b9) m6 HB8j.out.2.2.1.2 (.slice A8j n5j c8j) (.slice B8j q5j d8j)
      exact ⟨((GrOwn.set (H7j.out.2.2.2.2.2.below H8j.out.2.2) HB8j.out.2.2.1.1 _ _).set3E hk.e8 _ _ _).at_, ((GrOwn.set H8j.out.2.1 HB8j.out.2.2.1.1 _ _).set3E hk.e8 _ _ _).at_, ErrIs.set3 (ErrIs.set (ErrIs.below H7j.out.2.2.2.2.1 H8j.out.2.2) HB8j.out.2.2.1.1 _ _) hk.e8 _ _ _, ((H8j.out.1.setG HB8j.out.2.2.1.1 _ _).fin hk.e8 hk.n hk.old).out.1⟩
    rw [← hw9]
    clear hw9 s0 s1 sf sl r0 r1 rf rl k0 k1 k2 kf kl H7j H8j HB8j m1 m2 m3 m4 m5 m6
    refine (same_any A5j A8j n5j c5j c8j B5j B8j q5j d5j d8j gmj glj w9j R9j.out.1 R9j.out.2.1 (by have := HLNj.out; omega) (by have := HLNj.out; omega)).mono ?_
    rintro e waj ⟨rfl, hba⟩
    have Haj : Hid (Bl w9j waj) := hba
    clear hba
    obtain ⟨k0, k1, k2, kf, kl⟩ := cell3 (F9j.out.2.2.2.step Haj.out).e8
    go_wp2_with fail
    refine (fails_any waj (HE.out _ (bchain F9j.out.1 Haj.out)) (R9j.out.2.2.1.below Haj.out) (R9j.out.2.2.2.of.below Haj.out)).mono ?_
    rintro e wbj ⟨rfl, hbb⟩
    have Hbj : Hid (Bl w9j wbj) := bchain Haj.out hbb
    clear hbb k0 k1 k2 kf kl Haj
    have hbl3 : Bl w1 wbj := bchain F9j.out.1 Hbj.out
    have z3 := F9j.out.2.1.step Hbj.out
    have y3 := F9j.out.2.2.1.step Hbj.out
    have k3 := F9j.out.2.2.2.step Hbj.out
    clear F9j R9j Hbj
    have HPRl : Hid (∀ (Am' : Option Addr) (cm' : Nat) (Al' : Option Addr) (cl' : Nat) W, Bl w1 W → Hid (GrOwn w1.heap.size W Am' n cm' Al' q cl' ms ls) → Calls Tryz.prog 30 #[grV Am' n cm' Al' q cl', .int .i64 o2] W fun e w' => ∃ (Ax : Option Addr) (nx cx : Nat) (Bx : Option Addr) (qx dx : Nat) (vx : Value), e = .returned (.tuple #[grV Ax nx cx Bx qx dx, vx]) ∧ Bl w1 w' ∧ Hid (ErrIs w' vx (leaveP ms ls o2).1 ∧ GrOwn w1.heap.size w' Ax nx cx Bx qx dx (leaveP ms ls o2).2.1 (leaveP ms ls o2).2.2) ∧ Below W.heap.size W w') := fun Am' cm' Al' cl' W hW hO => by
      refine (leave_any Am' n cm' Al' q cl' ms ls o2 W hO.out.at_ HN.out.1 HN.out.2).mono ?_
      rintro e w' ⟨Ax, nx, cx, Bx, qx, dx, vx, rfl, h⟩
      exact ⟨Ax, nx, cx, Bx, qx, dx, vx, rfl, bchain hW h.out.2.2, ⟨h.out.1, h.out.2.1.mono (Below.size hW)⟩, h.out.2.2⟩
    obtain ⟨f0, f1, f2, f3, f4, f5⟩ := HC.out _ hbl3
    go_upto_region 13 with fail
    go_cut [8] from 11 (fun s8 wx => ∃ (Ax : Option Addr) (nx cx : Nat) (Bx : Option Addr) (qx dx : Nat), Hid (Bl w1 wx ∧ ZB w1 wx b7 (.slice Ax nx cx) (.slice Bx qx dx) ∧ ZB w1 wx b9 (.slice A8j n5j c8j) (.slice B8j q5j d8j) ∧ KE w1 wx b10 (.bool bbj) (.slice Aej mej cej) (.int .i64 iej) ∧ ErrIs wx s8 (leaveP ms ls o2).1 ∧ GrOwn w1.heap.size wx Ax nx cx Bx qx dx (leaveP ms ls o2).2.1 (leaveP ms ls o2).2.2))
    case first =>
      (go_region_held_law (fun W => W.cell? ⟨bg, 0, none⟩ = some (.slice Am n cm) ∧ W.cell? ⟨bg, 1, none⟩ = some (.slice Al q cl) ∧ W.cell? ⟨b4, 0, none⟩ = some (.int .i64 o1) ∧ W.cell? ⟨b4, 1, none⟩ = some (.int .i64 o2) ∧ W.cell? ⟨b5, 0, none⟩ = some (.int .i64 p1) ∧ W.cell? ⟨b5, 1, none⟩ = some (.int .i64 p2))
        (first | (refine HC.out _ ?_; (first | (with_reducible refine Bl.dr ?_; (first | with_reducible assumption | (with_reducible refine Bl.al ?_ _; first | with_reducible assumption | (with_reducible refine Bl.al ?_ _; first | with_reducible assumption | (with_reducible refine Bl.al ?_ _; with_reducible assumption))))) | (first | with_reducible assumption | (with_reducible refine Bl.al ?_ _; first | with_reducible assumption | (with_reducible refine Bl.al ?_ _; first | with_reducible assumption | (with_reducible refine Bl.al ?_ _; with_reducible assumption))))); done) | (refine HC.out _ ?_; with_reducible refine Bl.st ?_ z5n _ _; with_reducible refine Bl.st ?_ z5n _ _; with_reducible assumption) | fail)
        (first
          | (go_at_call 12; refine (HTW.out _ (by (first | (with_reducible refine Bl.dr ?_; (first | with_reducible assumption | (with_reducible refine Bl.al ?_ _; first | with_reducible assumption | (with_reducible refine Bl.al ?_ _; first | with_reducible assumption | (with_reducible refine Bl.al ?_ _; with_reducible assumption))))) | (first | with_reducible assumption | (with_reducible refine Bl.al ?_ _; first | with_reducible assumption | (with_reducible refine Bl.al ?_ _; first | with_reducible assumption | (with_reducible refine Bl.al ?_ _; with_reducible assumption))))))).mono ?_; rintro e w4 ⟨Am4, cm4, Al4, cl4, rfl, hbl4, H4, hbw4⟩; have z4 := ZB.step (ZB.dr z3) hbw4; have y4 := ZB.step (ZB.dr y3) hbw4; have k4 := KE.step (KE.dr k3) hbw4)
          | (go_at_call 30; refine (HPRl.out _ _ _ _ _ (by (first | (with_reducible refine Bl.dr ?_; (first | with_reducible assumption | (with_reducible refine Bl.al ?_ _; first | with_reducible assumption | (with_reducible refine Bl.al ?_ _; first | with_reducible assumption | (with_reducible refine Bl.al ?_ _; with_reducible assumption))))) | (first | with_reducible assumption | (with_reducible refine Bl.al ?_ _; first | with_reducible assumption | (with_reducible refine Bl.al ?_ _; first | with_reducible assumption | (with_reducible refine Bl.al ?_ _; with_reducible assumption)))))) (by exact H4)).mono ?_; rintro e w5 ⟨Ax, nx, cx, Bx, qx, dx, vx, rfl, hbl5, H5, hbw5⟩; have z5 := ZB.step z4 hbw5; have y5 := ZB.step y4 hbw5; have k5 := KE.step k4 hbw5; obtain ⟨z0, z1, zf, zl⟩ := cell2 z5.1; have z5n := z5.2)
          | fail))
      all_goals
        go_wp2_with fail
        go_meet
        exact ⟨Ax, nx, cx, Bx, qx, dx, (hbl5.st z5.2 _ _).st z5.2 _ _, z5.set _ _, y5.setne HNE.out.1 _ _, k5.setne HNE.out.2.1 z5.2 _ _, H5.out.1.set z5.1 _ _, GrOwn.set H5.out.2 z5.1 _ _⟩
    case rest =>
    obtain ⟨A5l, n5l, c5l, B5l, q5l, d5l, H7l⟩ := hcut
    clear f0 f1 f2 f3 f4 f5 hbl3 HPRl z3 y3 k3
    obtain ⟨f0, f1, f2, f3, f4, f5⟩ := HC.out _ H7l.out.1
    go_wp2_with fail
    refine (rleave_any Am n cm Al q cl ms ls o2 _ (HG.out _ H7l.out.1) HN.out.1 HN.out.2).mono ?_
    rintro e w8l ⟨A8l, n8l, c8l, B8l, q8l, d8l, bbl, Ael, mel, cel, iel, rfl, H8l⟩
    obtain rfl : n5l = n8l := H7l.out.2.2.2.2.2.mlen.symm.trans H8l.out.2.1.mlen
    obtain rfl : q5l = q8l := H7l.out.2.2.2.2.2.llen.symm.trans H8l.out.2.1.llen
    obtain ⟨erl, her⟩ : ∃ x, Hid ((leaveP ms ls o2).1 = x) := ⟨_, rfl⟩
    obtain ⟨gml, hgm⟩ : ∃ x, Hid ((leaveP ms ls o2).2.1 = x) := ⟨_, rfl⟩
    obtain ⟨gll, hgl⟩ : ∃ x, Hid ((leaveP ms ls o2).2.2 = x) := ⟨_, rfl⟩
    have hlen := leaveP_len ms ls o2
    rw [her.out, hgm.out, hgl.out] at H7l H8l
    rw [hgm.out, hgl.out] at hlen
    have HLNl : Hid (n5l ≤ 1000 ∧ q5l ≤ 1000) := ⟨by rw [← H7l.out.2.2.2.2.2.mlen]; omega, by rw [← H7l.out.2.2.2.2.2.llen]; omega⟩
    clear hlen her hgm hgl f0 f1 f2 f3 f4 f5
    have HB8l : Hid (Bl w1 w8l ∧ ZB w1 w8l b7 (.slice A5l n5l c5l) (.slice B5l q5l d5l) ∧ ZB w1 w8l b9 (.slice A8j n5j c8j) (.slice B8j q5j d8j) ∧ KE w1 w8l b10 (.bool bbj) (.slice Aej mej cej) (.int .i64 iej)) := ⟨bchain H7l.out.1 H8l.out.2.2, H7l.out.2.1.step H8l.out.2.2, H7l.out.2.2.1.step H8l.out.2.2, H7l.out.2.2.2.1.step H8l.out.2.2⟩
    obtain ⟨s0, s1, sf, sl⟩ := cell2 HB8l.out.2.1.1
    obtain ⟨r0, r1, rf, rl⟩ := cell2 HB8l.out.2.2.1.1
    obtain ⟨k0, k1, k2, kf, kl⟩ := cell3 HB8l.out.2.2.2.e8
    have m1 : ¬ (b7 = b9) := fun e => HNE.out.1 e.symm
    have m2 : ¬ (b7 = b10) := fun e => HNE.out.2.1 e.symm
    have m3 : ¬ (b9 = b10) := fun e => HNE.out.2.2 e.symm
    have m4 : ¬ (b9 = b7) := HNE.out.1
    have m5 : ¬ (b10 = b7) := HNE.out.2.1
    have m6 : ¬ (b10 = b9) := HNE.out.2.2
    go_wp2_with fail
    obtain ⟨w9l, hw9⟩ : ∃ x, x = ((((w8l.setCell ⟨b9, 0, none⟩ (.slice A8l n5l c8l)).setCell ⟨b9, 1, none⟩ (.slice B8l q5l d8l)).setCell ⟨b10, 0, none⟩ (.bool bbl)).setCell ⟨b10, 1, none⟩ (.slice Ael mel cel)).setCell ⟨b10, 2, none⟩ (.int .i64 iel) := ⟨_, rfl⟩
    have F9l : Hid (Bl w1 w9l ∧ ZB w1 w9l b7 (.slice A5l n5l c5l) (.slice B5l q5l d5l) ∧ ZB w1 w9l b9 (.slice A8l n5l c8l) (.slice B8l q5l d8l) ∧ KE w1 w9l b10 (.bool bbl) (.slice Ael mel cel) (.int .i64 iel)) := by
      rw [hw9]
      have hk := HB8l.out.2.2.2.setne (b7 := b9) m6 HB8l.out.2.2.1.2 (.slice A8l n5l c8l) (.slice B8l q5l d8l)
      have hk2 := hk.set (.bool bbl) (.slice Ael mel cel) (.int .i64 iel)
      exact ⟨hk2.old, (HB8l.out.2.1.setne m1 _ _).setne3 m2 _ _ _, (HB8l.out.2.2.1.set _ _).setne3 m3 _ _ _, hk2⟩
    have R9l : Hid (GrAt w9l A5l n5l B5l q5l gml gll ∧ GrAt w9l A8l n5l B8l q5l gml gll ∧ ErrIs w9l u8 erl ∧ EIs w9l (eVal bbl Ael mel cel iel) erl) := by
      rw [hw9]
      have hk := HB8l.out.2.2.2.setne (b7 := b9) m6 HB8l.out.2.2.1.2 (.slice A8l n5l c8l) (.slice B8l q5l d8l)
      exact ⟨((GrOwn.set (H7l.out.2.2.2.2.2.below H8l.out.2.2) HB8l.out.2.2.1.1 _ _).set3E hk.e8 _ _ _).at_, ((GrOwn.set H8l.out.2.1 HB8l.out.2.2.1.1 _ _).set3E hk.e8 _ _ _).at_, ErrIs.set3 (ErrIs.set (ErrIs.below H7l.out.2.2.2.2.1 H8l.out.2.2) HB8l.out.2.2.1.1 _ _) hk.e8 _ _ _, ((H8l.out.1.setG HB8l.out.2.2.1.1 _ _).fin hk.e8 hk.n hk.old).out.1⟩
    rw [← hw9]
    clear hw9 s0 s1 sf sl r0 r1 rf rl k0 k1 k2 kf kl H7l H8l HB8l m1 m2 m3 m4 m5 m6
    refine (same_any A5l A8l n5l c5l c8l B5l B8l q5l d5l d8l gml gll w9l R9l.out.1 R9l.out.2.1 (by have := HLNl.out; omega) (by have := HLNl.out; omega)).mono ?_
    rintro e wal ⟨rfl, hba⟩
    have Hal : Hid (Bl w9l wal) := hba
    clear hba
    obtain ⟨k0, k1, k2, kf, kl⟩ := cell3 (F9l.out.2.2.2.step Hal.out).e8
    go_wp2_with fail
    refine (fails_any wal (HE.out _ (bchain F9l.out.1 Hal.out)) (R9l.out.2.2.1.below Hal.out) (R9l.out.2.2.2.of.below Hal.out)).mono ?_
    rintro e wbl ⟨rfl, hbb⟩
    have Hbl : Hid (Bl w9l wbl) := bchain Hal.out hbb
    clear hbb k0 k1 k2 kf kl Hal
    go_wp2
    go_ret
    exact ⟨rfl, bchain HB.out.2.2.2.2.2.2 (bchain F9l.out.1 Hbl.out)⟩
end Go.Proofs.YtlkfcfcejicdkaaGreatDoor
