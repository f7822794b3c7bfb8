/-
  tree: the law TreeBack, walked. Printed by gen_treeback.py. Own work.
-/
import Derived.Test.YtlkfcfcejicdkaaGreatDoorTreeBox
set_option linter.unusedSimpArgs false
set_option linter.unusedVariables false
namespace Go.Proofs.YtlkfcfcejicdkaaGreatDoor
open Go Go.RowKit

set_option maxRecDepth 100000 in
set_option maxHeartbeats 16000000 in
theorem back_any (Am : Option Addr) (n cm : Nat) (Al : Option Addr) (q cl : Nat) (ms : List Int) (ls : List Lk) (o1 o2 p1 p2 : Int) (w : World) (hG : GrAt w Am n Al q ms ls) (hE : ErrT w) :
    Calls Tryz.prog 6 #[grV Am n cm Al q cl, .agg #[.int .i64 o1, .int .i64 o2], .agg #[.int .i64 p1, .int .i64 p2]] w fun e w' => e = .returned (.bool true) ∧ Below w.heap.size w w' := by
  obtain ⟨bg, hbg⟩ : ∃ b, b = w.heap.size := ⟨_, rfl⟩
  obtain ⟨b4, hb4⟩ : ∃ b, b = w.heap.size + 1 := ⟨_, rfl⟩
  obtain ⟨b5, hb5⟩ : ∃ b, b = w.heap.size + 1 + 1 := ⟨_, rfl⟩
  obtain ⟨w1, hw1⟩ : ∃ w1, w1 = ((w.alloc (.cells #[.slice Am n cm, .slice Al q cl] 25)).alloc (.cells #[.int .i64 o1, .int .i64 o2] 35)).alloc (.cells #[.int .i64 p1, .int .i64 p2] 35) := ⟨_, rfl⟩
  have HA := Lib.hid (alloc3 w (.cells #[.slice Am n cm, .slice Al q cl] 25) (.cells #[.int .i64 o1, .int .i64 o2] 35) (.cells #[.int .i64 p1, .int .i64 p2] 35))
  rw [← hw1, ← hb5, ← hb4, ← hbg] at HA
  have HB : Hid (w1.heap[bg]? = some (.cells #[.slice Am n cm, .slice Al q cl] 25 (0, 0)) ∧ w1.heap[b4]? = some (.cells #[.int .i64 o1, .int .i64 o2] 35 (0, 0)) ∧ w1.heap[b5]? = some (.cells #[.int .i64 p1, .int .i64 p2] 35 (0, 0)) ∧ bg < w1.heap.size ∧ b4 < w1.heap.size ∧ b5 < w1.heap.size ∧ Bl w w1) := ⟨HA.out.1, HA.out.2.1, HA.out.2.2.1, by have := HA.out.2.2.2.1; omega, by have := HA.out.2.2.2.1; omega, by have := HA.out.2.2.2.1; omega, by have := HA.out.2.2.2.2; rw [hbg] at this; exact this⟩
  clear HA
  have HE : Hid (∀ W, Bl w1 W → ErrT W) := fun W hW => hE.below (bchain HB.out.2.2.2.2.2.2 hW)
  have HG : Hid (∀ W, Bl w1 W → GrAt W Am n Al q ms ls) := fun W hW => hG.below (bchain HB.out.2.2.2.2.2.2 hW)
  have HC : Hid (∀ W, Bl w1 W → W.cell? ⟨bg, 0, none⟩ = some (.slice Am n cm) ∧ W.cell? ⟨bg, 1, none⟩ = some (.slice Al q cl) ∧ W.cell? ⟨b4, 0, none⟩ = some (.int .i64 o1) ∧ W.cell? ⟨b4, 1, none⟩ = some (.int .i64 o2) ∧ W.cell? ⟨b5, 0, none⟩ = some (.int .i64 p1) ∧ W.cell? ⟨b5, 1, none⟩ = some (.int .i64 p2)) := fun W hW => by
    obtain ⟨g1, g2, g3, g4, g5, g6, _⟩ := HB.out
    obtain ⟨h1, h2, _⟩ := cell2 ((Below.block hW bg g4).trans g1)
    obtain ⟨h3, h4, _⟩ := cell2 ((Below.block hW b4 g5).trans g2)
    obtain ⟨h5, h6, _⟩ := cell2 ((Below.block hW b5 g6).trans g3)
    exact ⟨h1, h2, h3, h4, h5, h6⟩
  clear hG hE
  go_enter Tryz.func6, Tryz.ntmps6
  go_wp2_with fail
  rw [← hw1, ← hb5, ← hb4, ← hbg]
  clear hw1 hbg hb4 hb5
  refine (awake_any w1 (HE.out w1 (Bl.refl _))).mono ?_
  rintro e w2 ⟨rfl, hb2⟩
  have HB2 : Hid (Bl w1 w2) := hb2
  clear hb2
  obtain ⟨f0, f1, f2, f3, f4, f5⟩ := HC.out w2 HB2.out
  by_cases hs : n ≤ 50 ∧ q ≤ 50
  case neg =>
    have HSM : Hid (Calls Tryz.prog 10 #[grV Am n cm Al q cl] w2 fun e w' => e = .returned (.bool false) ∧ Below w2.heap.size w2 w') := by
      have := small_any Am n cm Al q cl w2
      rw [show (decide (n ≤ 50) && decide (q ≤ 50)) = false by
        rw [Bool.and_eq_false_iff, decide_eq_false_iff_not, decide_eq_false_iff_not]; omega] at this
      exact this
    clear hs
    go_wp2_with fail
    refine HSM.out.mono ?_
    rintro e w3 ⟨rfl, hb3⟩
    go_wp2
    go_ret
    exact ⟨rfl, bchain HB.out.2.2.2.2.2.2 (bchain HB2.out hb3)⟩
  case pos =>
  have HSM : Hid (Calls Tryz.prog 10 #[grV Am n cm Al q cl] w2 fun e w' => e = .returned (.bool true) ∧ Below w2.heap.size w2 w') := by
    have := small_any Am n cm Al q cl w2
    rw [decide_eq_true hs.1, decide_eq_true hs.2] at this
    exact this
  have HN : Hid (n ≤ 1000 ∧ q ≤ 1000) := ⟨by omega, by omega⟩
  have HTW : Hid (∀ W, Bl w1 W → Calls Tryz.prog 12 #[grV Am n cm Al q cl] W fun e w' => ∃ (Am' : Option Addr) (cm' : Nat) (Al' : Option Addr) (cl' : Nat), e = .returned (grV Am' n cm' Al' q cl') ∧ Bl w1 w' ∧ Hid (GrOwn w1.heap.size w' Am' n cm' Al' q cl' ms ls) ∧ Below W.heap.size W w') := fun W hW => by
    refine (twin_any Am n cm Al q cl ms ls W (HG.out W hW) HN.out.1 HN.out.2).mono ?_
    rintro e w' ⟨Am', cm', Al', cl', rfl, h⟩
    exact ⟨Am', cm', Al', cl', rfl, bchain hW h.out.2, h.out.1.mono (Below.size hW), h.out.2⟩
  clear hs
  go_wp2_with fail
  refine HSM.out.mono ?_
  rintro e w3 ⟨rfl, hb3⟩
  have HB3 : Hid (Bl w1 w3) := bchain HB2.out hb3
  clear hb3 HSM f0 f1 f2 f3 f4 f5 HB2
  obtain ⟨f0, f1, f2, f3, f4, f5⟩ := HC.out w3 HB3.out
  have HPRa : Hid (∀ (Am' : Option Addr) (cm' : Nat) (Al' : Option Addr) (cl' : Nat) W, Bl w1 W → Hid (GrOwn w1.heap.size W Am' n cm' Al' q cl' ms ls) → Calls Tryz.prog 23 #[grV Am' n cm' Al' q cl', .agg #[.int .i64 o1, .int .i64 o2], .agg #[.int .i64 p1, .int .i64 p2]] W fun e w' => ∃ (Ax : Option Addr) (nx cx : Nat) (Bx : Option Addr) (qx dx : Nat) (vx : Value), e = .returned (.tuple #[grV Ax nx cx Bx qx dx, vx]) ∧ Bl w1 w' ∧ Hid (ErrIs w' vx (swapP ms ls (o1, o2) (p1, p2)).1 ∧ GrOwn w1.heap.size w' Ax nx cx Bx qx dx (swapP ms ls (o1, o2) (p1, p2)).2.1 (swapP ms ls (o1, o2) (p1, p2)).2.2) ∧ Below W.heap.size W w') := fun Am' cm' Al' cl' W hW hO => by
    refine (swap_any Am' n cm' Al' q cl' ms ls o1 o2 p1 p2 W hO.out.at_ HN.out.1 HN.out.2).mono ?_
    rintro e w' ⟨Ax, nx, cx, Bx, qx, dx, vx, rfl, h⟩
    exact ⟨Ax, nx, cx, Bx, qx, dx, vx, rfl, bchain hW h.out.2.2, ⟨h.out.1, h.out.2.1.mono (Below.size hW)⟩, h.out.2.2⟩
  have HPRb : Hid (∀ (Am' : Option Addr) (cm' : Nat) (Al' : Option Addr) (cl' : Nat) W, Bl w1 W → Hid (GrOwn w1.heap.size W Am' n cm' Al' q cl' ms ls) → Calls Tryz.prog 28 #[grV Am' n cm' Al' q cl', .int .i64 o1, .int .i64 o2] W fun e w' => ∃ (Ax : Option Addr) (nx cx : Nat) (Bx : Option Addr) (qx dx : Nat) (vx : Value), e = .returned (.tuple #[grV Ax nx cx Bx qx dx, vx]) ∧ Bl w1 w' ∧ Hid (ErrIs w' vx (joinP ms ls o1 o2).1 ∧ GrOwn w1.heap.size w' Ax nx cx Bx qx dx (joinP ms ls o1 o2).2.1 (joinP ms ls o1 o2).2.2) ∧ Below W.heap.size W w') := fun Am' cm' Al' cl' W hW hO => by
    refine (join_any Am' n cm' Al' q cl' ms ls o1 o2 W hO.out.at_ HN.out.1 HN.out.2).mono ?_
    rintro e w' ⟨Ax, nx, cx, Bx, qx, dx, vx, rfl, h⟩
    exact ⟨Ax, nx, cx, Bx, qx, dx, vx, rfl, bchain hW h.out.2.2, ⟨h.out.1, h.out.2.1.mono (Below.size hW)⟩, h.out.2.2⟩
  have hbl3 : Bl w1 w3 := HB3.out
  go_upto_region 5 with fail
  go_cut [7, 8] from 15 (fun sa sb wx => ∃ (bx : Nat) (Ax : Option Addr) (nx cx : Nat) (Bx : Option Addr) (qx dx : Nat), sa = .pointer (some ⟨bx, 0, none⟩) ∧ Hid (Bl w1 wx ∧ ZB w1 wx bx (.slice Ax nx cx) (.slice Bx qx dx) ∧ ErrIs wx sb (swapP ms ls (o1, o2) (p1, p2)).1 ∧ GrOwn w1.heap.size wx Ax nx cx Bx qx dx (swapP ms ls (o1, o2) (p1, p2)).2.1 (swapP ms ls (o1, o2) (p1, p2)).2.2))
  case first =>
    (go_region_held_law (fun W => W.cell? ⟨bg, 0, none⟩ = some (.slice Am n cm) ∧ W.cell? ⟨bg, 1, none⟩ = some (.slice Al q cl) ∧ W.cell? ⟨b4, 0, none⟩ = some (.int .i64 o1) ∧ W.cell? ⟨b4, 1, none⟩ = some (.int .i64 o2) ∧ W.cell? ⟨b5, 0, none⟩ = some (.int .i64 p1) ∧ W.cell? ⟨b5, 1, none⟩ = some (.int .i64 p2))
      (first | (refine HC.out _ ?_; (first | (with_reducible refine Bl.dr ?_; (first | with_reducible assumption | (with_reducible refine Bl.al ?_ _; first | with_reducible assumption | (with_reducible refine Bl.al ?_ _; first | with_reducible assumption | (with_reducible refine Bl.al ?_ _; with_reducible assumption))))) | (first | with_reducible assumption | (with_reducible refine Bl.al ?_ _; first | with_reducible assumption | (with_reducible refine Bl.al ?_ _; first | with_reducible assumption | (with_reducible refine Bl.al ?_ _; with_reducible assumption))))); done) | (refine HC.out _ ?_; with_reducible refine Bl.st ?_ z5n _ _; with_reducible refine Bl.st ?_ z5n _ _; with_reducible assumption) | fail)
      (first
        | (go_at_call 12; refine (HTW.out _ (by (first | (with_reducible refine Bl.dr ?_; (first | with_reducible assumption | (with_reducible refine Bl.al ?_ _; first | with_reducible assumption | (with_reducible refine Bl.al ?_ _; first | with_reducible assumption | (with_reducible refine Bl.al ?_ _; with_reducible assumption))))) | (first | with_reducible assumption | (with_reducible refine Bl.al ?_ _; first | with_reducible assumption | (with_reducible refine Bl.al ?_ _; first | with_reducible assumption | (with_reducible refine Bl.al ?_ _; with_reducible assumption))))))).mono ?_; rintro e w4 ⟨Am4, cm4, Al4, cl4, rfl, hbl4, H4, hbw4⟩; try (have z4 : ZB w1 w4 w3.heap.size (.slice none 0 0) (.slice none 0 0) := ZB.step (ZB.dr (ZB.new hbl3 rfl)) hbw4))
        | (go_at_call 23; refine (HPRa.out _ _ _ _ _ (by (first | (with_reducible refine Bl.dr ?_; (first | with_reducible assumption | (with_reducible refine Bl.al ?_ _; first | with_reducible assumption | (with_reducible refine Bl.al ?_ _; first | with_reducible assumption | (with_reducible refine Bl.al ?_ _; with_reducible assumption))))) | (first | with_reducible assumption | (with_reducible refine Bl.al ?_ _; first | with_reducible assumption | (with_reducible refine Bl.al ?_ _; first | with_reducible assumption | (with_reducible refine Bl.al ?_ _; with_reducible assumption)))))) (by first | exact H4 | exact Lib.hid (H4.out.below ((Below.refl _ _).alloc (Nat.le_refl _) _)))).mono ?_; rintro e w5 ⟨Ax, nx, cx, Bx, qx, dx, vx, rfl, hbl5, H5, hbw5⟩; first | (have z5 := ZB.step z4 hbw5; obtain ⟨z0, z1, zf, zl⟩ := cell2 z5.1; have z5n := z5.2) | (have z5 : ZB w1 w5 w4.heap.size (.slice none 0 0) (.slice none 0 0) := ZB.step (ZB.new hbl4 rfl) hbw5; obtain ⟨z0, z1, zf, zl⟩ := cell2 z5.1; have z5n := z5.2) | skip)
        | fail))
    all_goals
      go_wp2_with fail
      go_meet
      first
      | exact ⟨_, Ax, nx, cx, Bx, qx, dx, rfl, (hbl5.st z5.2 _ _).st z5.2 _ _, z5.set _ _, H5.out.1.set z5.1 _ _, GrOwn.set H5.out.2 z5.1 _ _⟩
      | exact ⟨_, Ax, nx, cx, Bx, qx, dx, rfl, hbl5.al _, ZB.new hbl5 rfl, H5.out.1.below ((Below.refl _ _).alloc (Nat.le_refl _) _), H5.out.2.below ((Below.refl _ _).alloc (Nat.le_refl _) _)⟩
  case rest =>
  obtain ⟨bxa, Axa, nxa, cxa, Bxa, qxa, dxa, rfl, H7a⟩ := hcut
  clear f0 f1 f2 f3 f4 f5 hbl3 HB3 HPRa
  obtain ⟨f0, f1, f2, f3, f4, f5⟩ := HC.out wc H7a.out.1
  obtain ⟨era, hera⟩ : ∃ x, Hid ((swapP ms ls (o1, o2) (p1, p2)).1 = x) := ⟨_, rfl⟩
  obtain ⟨gma, hgma⟩ : ∃ x, Hid ((swapP ms ls (o1, o2) (p1, p2)).2.1 = x) := ⟨_, rfl⟩
  obtain ⟨gla, hgla⟩ : ∃ x, Hid ((swapP ms ls (o1, o2) (p1, p2)).2.2 = x) := ⟨_, rfl⟩
  have hPa : swapP ms ls (o1, o2) (p1, p2) = (era, gma, gla) := by rw [← hera.out, ← hgma.out, ← hgla.out]
  rw [hera.out, hgma.out, hgla.out] at H7a
  rcases (show ErrIs wc u8 era from H7a.out.2.2.1).cases with ⟨rfl, rfl⟩ | ⟨hne, t, x, rfl⟩
  case inl =>
    have hbk : swapP gma gla (p1, p2) (o1, o2) = (none, ms, ls) := by have := swap_back hPa; exact this
    have hg2 := (by have h := swap_good hPa; obtain ⟨_, h2, h3, _⟩ := h; injection h3 with h3 h4; rw [h3, h4]; exact h2 : Good gma gla)
    have HS9 : Hid (nxa ≤ 1000 ∧ qxa ≤ 1000 ∧ Good gma gla) := ⟨by rw [← H7a.out.2.2.2.mlen]; have := hg2.small; omega, by rw [← H7a.out.2.2.2.llen]; have := hg2.small; omega, hg2⟩
    have hsw := swap_any Axa nxa cxa Bxa qxa dxa gma gla p1 p2 o1 o2 wc (H7a.out.2.2.2.at_) HS9.out.1 HS9.out.2.1
    rw [hbk] at hsw
    have HSW9 := Lib.hid hsw
    obtain ⟨y0, y1, yf, yl⟩ := cell2 H7a.out.2.1.1
    clear hbk hg2 hsw
    go_wp2_with fail
    refine HSW9.out.mono ?_
    rintro e w9a ⟨A9a, n9a, c9a, B9a, q9a, d9a, v9a, rfl, H9a⟩
    obtain rfl : v9a = .nilIface := H9a.out.1
    obtain rfl : n = n9a := (HG.out _ H7a.out.1).mlen.symm.trans H9a.out.2.1.mlen
    obtain rfl : q = q9a := (HG.out _ H7a.out.1).llen.symm.trans H9a.out.2.1.llen
    have HB9 : Hid (Bl w1 w9a ∧ Below wc.heap.size wc w9a) := ⟨bchain H7a.out.1 H9a.out.2.2, H9a.out.2.2⟩
    have z9 := H7a.out.2.1.step HB9.out.2
    clear HSW9 y0 y1 yf yl f0 f1 f2 f3 f4 f5
    obtain ⟨f0, f1, f2, f3, f4, f5⟩ := HC.out _ HB9.out.1
    obtain ⟨y0, y1, yf, yl⟩ := cell2 z9.1
    have lg : bg < w9a.heap.size := Nat.lt_of_lt_of_le HB.out.2.2.2.1 (Below.size HB9.out.1)
    have mg : ¬ (bg = w9a.heap.size) := by omega
    have mg' : ¬ (w9a.heap.size = bg) := by omega
    have mx : ¬ (bxa = w9a.heap.size) := by omega
    have mx' : ¬ (w9a.heap.size = bxa) := by omega
    go_wp2_with fail
    obtain ⟨w10a, hw10⟩ : ∃ x, x = w9a.alloc (.cells #[.slice A9a n c9a, .slice B9a q d9a] 25) := ⟨_, rfl⟩
    have H10 : Hid (Bl w1 w10a ∧ ZB w1 w10a bxa (.slice Axa nxa cxa) (.slice Bxa qxa dxa) ∧ GrAt w10a A9a n B9a q ms ls ∧ GrAt w10a Axa nxa Bxa qxa gma gla) := by
      have hb : Bl w9a w10a := by rw [hw10]; exact (Bl.refl _).al _
      exact ⟨bchain HB9.out.1 hb, z9.step hb, H9a.out.2.1.at_.below hb, (H7a.out.2.2.2.at_.below HB9.out.2).below hb⟩
    rw [← hw10]
    clear hw10 z9 HB9 H9a H7a lg mg mg' mx mx' y0 y1 yf yl f0 f1 f2 f3 f4 f5
    refine (same_any A9a Am n c9a cm B9a Al q d9a cl ms ls w10a H10.out.2.2.1 (HG.out _ H10.out.1) (Nat.le_trans HN.out.1 (by decide)) (Nat.le_trans HN.out.2 (by decide))).mono ?_
    rintro e w11a ⟨rfl, hb11⟩
    obtain ⟨y0, y1, yf, yl⟩ := cell2 (H10.out.2.1.step hb11).1
    have H11 : Hid (Bl w1 w11a ∧ GrAt w11a Axa nxa Bxa qxa gma gla) := ⟨bchain H10.out.1 hb11, H10.out.2.2.2.below hb11⟩
    clear H10 hb11
    go_wp2_with fail
    have hck := check_any Axa nxa cxa Bxa qxa dxa gma gla w11a H11.out.2 HS9.out.1 HS9.out.2.1
    rw [good_chk HS9.out.2.2] at hck
    refine hck.mono ?_
    rintro e w12a ⟨v, rfl, H12⟩
    obtain rfl : v = .nilIface := H12.out.1
    have HBLa : Hid (Bl w1 w12a) := bchain H11.out.1 H12.out.2
    clear hck H11 H12 HS9 y0 y1 yf yl
    have hbl3 : Bl w1 w12a := HBLa.out
    obtain ⟨f0, f1, f2, f3, f4, f5⟩ := HC.out _ hbl3
    obtain ⟨wd, hwd⟩ : ∃ x, x = w12a := ⟨_, rfl⟩
    go_upto_region 10 with fail
    go_cut [11, 12] from 15 (fun sa sb wx => ∃ (bx : Nat) (Ax : Option Addr) (nx cx : Nat) (Bx : Option Addr) (qx dx : Nat), sa = .pointer (some ⟨bx, 0, none⟩) ∧ Hid (Bl w1 wx ∧ ZB w1 wx bx (.slice Ax nx cx) (.slice Bx qx dx) ∧ ErrIs wx sb (joinP ms ls o1 o2).1 ∧ GrOwn w1.heap.size wx Ax nx cx Bx qx dx (joinP ms ls o1 o2).2.1 (joinP ms ls o1 o2).2.2))
    case first =>
      (go_region_held_law (fun W => W.cell? ⟨bg, 0, none⟩ = some (.slice Am n cm) ∧ W.cell? ⟨bg, 1, none⟩ = some (.slice Al q cl) ∧ W.cell? ⟨b4, 0, none⟩ = some (.int .i64 o1) ∧ W.cell? ⟨b4, 1, none⟩ = some (.int .i64 o2) ∧ W.cell? ⟨b5, 0, none⟩ = some (.int .i64 p1) ∧ W.cell? ⟨b5, 1, none⟩ = some (.int .i64 p2))
        (first | (refine HC.out _ ?_; (first | (with_reducible refine Bl.dr ?_; (first | with_reducible assumption | (with_reducible refine Bl.al ?_ _; first | with_reducible assumption | (with_reducible refine Bl.al ?_ _; first | with_reducible assumption | (with_reducible refine Bl.al ?_ _; with_reducible assumption))))) | (first | with_reducible assumption | (with_reducible refine Bl.al ?_ _; first | with_reducible assumption | (with_reducible refine Bl.al ?_ _; first | with_reducible assumption | (with_reducible refine Bl.al ?_ _; with_reducible assumption))))); done) | (refine HC.out _ ?_; with_reducible refine Bl.st ?_ z5n _ _; with_reducible refine Bl.st ?_ z5n _ _; with_reducible assumption) | fail)
        (first
          | (go_at_call 12; refine (HTW.out _ (by (first | (with_reducible refine Bl.dr ?_; (first | with_reducible assumption | (with_reducible refine Bl.al ?_ _; first | with_reducible assumption | (with_reducible refine Bl.al ?_ _; first | with_reducible assumption | (with_reducible refine Bl.al ?_ _; with_reducible assumption))))) | (first | with_reducible assumption | (with_reducible refine Bl.al ?_ _; first | with_reducible assumption | (with_reducible refine Bl.al ?_ _; first | with_reducible assumption | (with_reducible refine Bl.al ?_ _; with_reducible assumption))))))).mono ?_; rintro e w4 ⟨Am4, cm4, Al4, cl4, rfl, hbl4, H4, hbw4⟩; try (have z4 : ZB w1 w4 w12a.heap.size (.slice none 0 0) (.slice none 0 0) := ZB.step (ZB.dr (ZB.new hbl3 rfl)) hbw4))
          | (go_at_call 28; refine (HPRb.out _ _ _ _ _ (by (first | (with_reducible refine Bl.dr ?_; (first | with_reducible assumption | (with_reducible refine Bl.al ?_ _; first | with_reducible assumption | (with_reducible refine Bl.al ?_ _; first | with_reducible assumption | (with_reducible refine Bl.al ?_ _; with_reducible assumption))))) | (first | with_reducible assumption | (with_reducible refine Bl.al ?_ _; first | with_reducible assumption | (with_reducible refine Bl.al ?_ _; first | with_reducible assumption | (with_reducible refine Bl.al ?_ _; with_reducible assumption)))))) (by first | exact H4 | exact Lib.hid (H4.out.below ((Below.refl _ _).alloc (Nat.le_refl _) _)))).mono ?_; rintro e w5 ⟨Ax, nx, cx, Bx, qx, dx, vx, rfl, hbl5, H5, hbw5⟩; first | (have z5 := ZB.step z4 hbw5; obtain ⟨z0, z1, zf, zl⟩ := cell2 z5.1; have z5n := z5.2) | (have z5 : ZB w1 w5 w4.heap.size (.slice none 0 0) (.slice none 0 0) := ZB.step (ZB.new hbl4 rfl) hbw5; obtain ⟨z0, z1, zf, zl⟩ := cell2 z5.1; have z5n := z5.2) | skip)
          | fail))
      all_goals
        go_wp2_with fail
        go_meet
        first
        | exact ⟨_, Ax, nx, cx, Bx, qx, dx, rfl, (hbl5.st z5.2 _ _).st z5.2 _ _, z5.set _ _, H5.out.1.set z5.1 _ _, GrOwn.set H5.out.2 z5.1 _ _⟩
        | exact ⟨_, Ax, nx, cx, Bx, qx, dx, rfl, hbl5.al _, ZB.new hbl5 rfl, H5.out.1.below ((Below.refl _ _).alloc (Nat.le_refl _) _), H5.out.2.below ((Below.refl _ _).alloc (Nat.le_refl _) _)⟩
    case rest =>
    obtain ⟨bxb, Axb, nxb, cxb, Bxb, qxb, dxb, rfl, H7b⟩ := hcut
    clear f0 f1 f2 f3 f4 f5 hbl3 HPRb hwd wd
    obtain ⟨f0, f1, f2, f3, f4, f5⟩ := HC.out wc H7b.out.1
    obtain ⟨erb, herb⟩ : ∃ x, Hid ((joinP ms ls o1 o2).1 = x) := ⟨_, rfl⟩
    obtain ⟨gmb, hgmb⟩ : ∃ x, Hid ((joinP ms ls o1 o2).2.1 = x) := ⟨_, rfl⟩
    obtain ⟨glb, hglb⟩ : ∃ x, Hid ((joinP ms ls o1 o2).2.2 = x) := ⟨_, rfl⟩
    have hPb : joinP ms ls o1 o2 = (erb, gmb, glb) := by rw [← herb.out, ← hgmb.out, ← hglb.out]
    rw [herb.out, hgmb.out, hglb.out] at H7b
    rcases (show ErrIs wc u12 erb from H7b.out.2.2.1).cases with ⟨rfl, rfl⟩ | ⟨hne, t, x, rfl⟩
    case inl =>
      have hbk : leaveP gmb glb o1 = (none, ms, ls) := by have := join_back hPb; exact this
      have hg2 := (by have h := join_good hPb; obtain ⟨_, h2, h3, _⟩ := h; injection h3 with h3 h4; rw [h3, h4]; exact h2 : Good gmb glb)
      have HS9 : Hid (nxb ≤ 1000 ∧ qxb ≤ 1000 ∧ Good gmb glb) := ⟨by rw [← H7b.out.2.2.2.mlen]; have := hg2.small; omega, by rw [← H7b.out.2.2.2.llen]; have := hg2.small; omega, hg2⟩
      have hsw := leave_any Axb nxb cxb Bxb qxb dxb gmb glb o1 wc (H7b.out.2.2.2.at_) HS9.out.1 HS9.out.2.1
      rw [hbk] at hsw
      have HSW9 := Lib.hid hsw
      obtain ⟨y0, y1, yf, yl⟩ := cell2 H7b.out.2.1.1
      clear hbk hg2 hsw
      go_wp2_with fail
      refine HSW9.out.mono ?_
      rintro e w9b ⟨A9b, n9b, c9b, B9b, q9b, d9b, v9b, rfl, H9b⟩
      obtain rfl : v9b = .nilIface := H9b.out.1
      obtain rfl : n = n9b := (HG.out _ H7b.out.1).mlen.symm.trans H9b.out.2.1.mlen
      obtain rfl : q = q9b := (HG.out _ H7b.out.1).llen.symm.trans H9b.out.2.1.llen
      have HB9 : Hid (Bl w1 w9b ∧ Below wc.heap.size wc w9b) := ⟨bchain H7b.out.1 H9b.out.2.2, H9b.out.2.2⟩
      have z9 := H7b.out.2.1.step HB9.out.2
      clear HSW9 y0 y1 yf yl f0 f1 f2 f3 f4 f5
      obtain ⟨f0, f1, f2, f3, f4, f5⟩ := HC.out _ HB9.out.1
      obtain ⟨y0, y1, yf, yl⟩ := cell2 z9.1
      have lg : bg < w9b.heap.size := Nat.lt_of_lt_of_le HB.out.2.2.2.1 (Below.size HB9.out.1)
      have mg : ¬ (bg = w9b.heap.size) := by omega
      have mg' : ¬ (w9b.heap.size = bg) := by omega
      have mx : ¬ (bxb = w9b.heap.size) := by omega
      have mx' : ¬ (w9b.heap.size = bxb) := by omega
      go_wp2_with fail
      obtain ⟨w10b, hw10⟩ : ∃ x, x = w9b.alloc (.cells #[.slice A9b n c9b, .slice B9b q d9b] 25) := ⟨_, rfl⟩
      have H10 : Hid (Bl w1 w10b ∧ ZB w1 w10b bxb (.slice Axb nxb cxb) (.slice Bxb qxb dxb) ∧ GrAt w10b A9b n B9b q ms ls ∧ GrAt w10b Axb nxb Bxb qxb gmb glb) := by
        have hb : Bl w9b w10b := by rw [hw10]; exact (Bl.refl _).al _
        exact ⟨bchain HB9.out.1 hb, z9.step hb, H9b.out.2.1.at_.below hb, (H7b.out.2.2.2.at_.below HB9.out.2).below hb⟩
      rw [← hw10]
      clear hw10 z9 HB9 H9b H7b lg mg mg' mx mx' y0 y1 yf yl f0 f1 f2 f3 f4 f5
      refine (same_any A9b Am n c9b cm B9b Al q d9b cl ms ls w10b H10.out.2.2.1 (HG.out _ H10.out.1) (Nat.le_trans HN.out.1 (by decide)) (Nat.le_trans HN.out.2 (by decide))).mono ?_
      rintro e w11b ⟨rfl, hb11⟩
      obtain ⟨y0, y1, yf, yl⟩ := cell2 (H10.out.2.1.step hb11).1
      have H11 : Hid (Bl w1 w11b ∧ GrAt w11b Axb nxb Bxb qxb gmb glb) := ⟨bchain H10.out.1 hb11, H10.out.2.2.2.below hb11⟩
      clear H10 hb11
      go_wp2_with fail
      have hck := check_any Axb nxb cxb Bxb qxb dxb gmb glb w11b H11.out.2 HS9.out.1 HS9.out.2.1
      rw [good_chk HS9.out.2.2] at hck
      refine hck.mono ?_
      rintro e w12b ⟨v, rfl, H12⟩
      obtain rfl : v = .nilIface := H12.out.1
      have HBLb : Hid (Bl w1 w12b) := bchain H11.out.1 H12.out.2
      clear hck H11 H12 HS9 y0 y1 yf yl
      go_wp2
      go_ret
      exact ⟨rfl, bchain HB.out.2.2.2.2.2.2 HBLb.out⟩
    case inr =>
      go_wp2
      go_ret
      exact ⟨rfl, bchain HB.out.2.2.2.2.2.2 H7b.out.1⟩
  case inr =>
    clear f0 f1 f2 f3 f4 f5
    have hbl3 : Bl w1 wc := H7a.out.1
    obtain ⟨f0, f1, f2, f3, f4, f5⟩ := HC.out _ hbl3
    obtain ⟨wd, hwd⟩ : ∃ x, x = wc := ⟨_, rfl⟩
    go_upto_region 10 with fail
    go_cut [11, 12] from 15 (fun sa sb wx => ∃ (bx : Nat) (Ax : Option Addr) (nx cx : Nat) (Bx : Option Addr) (qx dx : Nat), sa = .pointer (some ⟨bx, 0, none⟩) ∧ Hid (Bl w1 wx ∧ ZB w1 wx bx (.slice Ax nx cx) (.slice Bx qx dx) ∧ ErrIs wx sb (joinP ms ls o1 o2).1 ∧ GrOwn w1.heap.size wx Ax nx cx Bx qx dx (joinP ms ls o1 o2).2.1 (joinP ms ls o1 o2).2.2))
    case first =>
      (go_region_held_law (fun W => W.cell? ⟨bg, 0, none⟩ = some (.slice Am n cm) ∧ W.cell? ⟨bg, 1, none⟩ = some (.slice Al q cl) ∧ W.cell? ⟨b4, 0, none⟩ = some (.int .i64 o1) ∧ W.cell? ⟨b4, 1, none⟩ = some (.int .i64 o2) ∧ W.cell? ⟨b5, 0, none⟩ = some (.int .i64 p1) ∧ W.cell? ⟨b5, 1, none⟩ = some (.int .i64 p2))
        (first | (refine HC.out _ ?_; (first | (with_reducible refine Bl.dr ?_; (first | with_reducible assumption | (with_reducible refine Bl.al ?_ _; first | with_reducible assumption | (with_reducible refine Bl.al ?_ _; first | with_reducible assumption | (with_reducible refine Bl.al ?_ _; with_reducible assumption))))) | (first | with_reducible assumption | (with_reducible refine Bl.al ?_ _; first | with_reducible assumption | (with_reducible refine Bl.al ?_ _; first | with_reducible assumption | (with_reducible refine Bl.al ?_ _; with_reducible assumption))))); done) | (refine HC.out _ ?_; with_reducible refine Bl.st ?_ z5n _ _; with_reducible refine Bl.st ?_ z5n _ _; with_reducible assumption) | fail)
        (first
          | (go_at_call 12; refine (HTW.out _ (by (first | (with_reducible refine Bl.dr ?_; (first | with_reducible assumption | (with_reducible refine Bl.al ?_ _; first | with_reducible assumption | (with_reducible refine Bl.al ?_ _; first | with_reducible assumption | (with_reducible refine Bl.al ?_ _; with_reducible assumption))))) | (first | with_reducible assumption | (with_reducible refine Bl.al ?_ _; first | with_reducible assumption | (with_reducible refine Bl.al ?_ _; first | with_reducible assumption | (with_reducible refine Bl.al ?_ _; with_reducible assumption))))))).mono ?_; rintro e w4 ⟨Am4, cm4, Al4, cl4, rfl, hbl4, H4, hbw4⟩; try (have z4 : ZB w1 w4 wc.heap.size (.slice none 0 0) (.slice none 0 0) := ZB.step (ZB.dr (ZB.new hbl3 rfl)) hbw4))
          | (go_at_call 28; refine (HPRb.out _ _ _ _ _ (by (first | (with_reducible refine Bl.dr ?_; (first | with_reducible assumption | (with_reducible refine Bl.al ?_ _; first | with_reducible assumption | (with_reducible refine Bl.al ?_ _; first | with_reducible assumption | (with_reducible refine Bl.al ?_ _; with_reducible assumption))))) | (first | with_reducible assumption | (with_reducible refine Bl.al ?_ _; first | with_reducible assumption | (with_reducible refine Bl.al ?_ _; first | with_reducible assumption | (with_reducible refine Bl.al ?_ _; with_reducible assumption)))))) (by first | exact H4 | exact Lib.hid (H4.out.below ((Below.refl _ _).alloc (Nat.le_refl _) _)))).mono ?_; rintro e w5 ⟨Ax, nx, cx, Bx, qx, dx, vx, rfl, hbl5, H5, hbw5⟩; first | (have z5 := ZB.step z4 hbw5; obtain ⟨z0, z1, zf, zl⟩ := cell2 z5.1; have z5n := z5.2) | (have z5 : ZB w1 w5 w4.heap.size (.slice none 0 0) (.slice none 0 0) := ZB.step (ZB.new hbl4 rfl) hbw5; obtain ⟨z0, z1, zf, zl⟩ := cell2 z5.1; have z5n := z5.2) | skip)
          | fail))
      all_goals
        go_wp2_with fail
        go_meet
        first
        | exact ⟨_, Ax, nx, cx, Bx, qx, dx, rfl, (hbl5.st z5.2 _ _).st z5.2 _ _, z5.set _ _, H5.out.1.set z5.1 _ _, GrOwn.set H5.out.2 z5.1 _ _⟩
        | exact ⟨_, Ax, nx, cx, Bx, qx, dx, rfl, hbl5.al _, ZB.new hbl5 rfl, H5.out.1.below ((Below.refl _ _).alloc (Nat.le_refl _) _), H5.out.2.below ((Below.refl _ _).alloc (Nat.le_refl _) _)⟩
    case rest =>
    obtain ⟨bxb, Axb, nxb, cxb, Bxb, qxb, dxb, rfl, H7b⟩ := hcut
    clear f0 f1 f2 f3 f4 f5 hbl3 HPRb hwd wd
    obtain ⟨f0, f1, f2, f3, f4, f5⟩ := HC.out wc H7b.out.1
    obtain ⟨erb, herb⟩ : ∃ x, Hid ((joinP ms ls o1 o2).1 = x) := ⟨_, rfl⟩
    obtain ⟨gmb, hgmb⟩ : ∃ x, Hid ((joinP ms ls o1 o2).2.1 = x) := ⟨_, rfl⟩
    obtain ⟨glb, hglb⟩ : ∃ x, Hid ((joinP ms ls o1 o2).2.2 = x) := ⟨_, rfl⟩
    have hPb : joinP ms ls o1 o2 = (erb, gmb, glb) := by rw [← herb.out, ← hgmb.out, ← hglb.out]
    rw [herb.out, hgmb.out, hglb.out] at H7b
    rcases (show ErrIs wc u12 erb from H7b.out.2.2.1).cases with ⟨rfl, rfl⟩ | ⟨hne, t, x, rfl⟩
    case inl =>
      have hbk : leaveP gmb glb o1 = (none, ms, ls) := by have := join_back hPb; exact this
      have hg2 := (by have h := join_good hPb; obtain ⟨_, h2, h3, _⟩ := h; injection h3 with h3 h4; rw [h3, h4]; exact h2 : Good gmb glb)
      have HS9 : Hid (nxb ≤ 1000 ∧ qxb ≤ 1000 ∧ Good gmb glb) := ⟨by rw [← H7b.out.2.2.2.mlen]; have := hg2.small; omega, by rw [← H7b.out.2.2.2.llen]; have := hg2.small; omega, hg2⟩
      have hsw := leave_any Axb nxb cxb Bxb qxb dxb gmb glb o1 wc (H7b.out.2.2.2.at_) HS9.out.1 HS9.out.2.1
      rw [hbk] at hsw
      have HSW9 := Lib.hid hsw
      obtain ⟨y0, y1, yf, yl⟩ := cell2 H7b.out.2.1.1
      clear hbk hg2 hsw
      go_wp2_with fail
      refine HSW9.out.mono ?_
      rintro e w9b ⟨A9b, n9b, c9b, B9b, q9b, d9b, v9b, rfl, H9b⟩
      obtain rfl : v9b = .nilIface := H9b.out.1
      obtain rfl : n = n9b := (HG.out _ H7b.out.1).mlen.symm.trans H9b.out.2.1.mlen
      obtain rfl : q = q9b := (HG.out _ H7b.out.1).llen.symm.trans H9b.out.2.1.llen
      have HB9 : Hid (Bl w1 w9b ∧ Below wc.heap.size wc w9b) := ⟨bchain H7b.out.1 H9b.out.2.2, H9b.out.2.2⟩
      have z9 := H7b.out.2.1.step HB9.out.2
      clear HSW9 y0 y1 yf yl f0 f1 f2 f3 f4 f5
      obtain ⟨f0, f1, f2, f3, f4, f5⟩ := HC.out _ HB9.out.1
      obtain ⟨y0, y1, yf, yl⟩ := cell2 z9.1
      have lg : bg < w9b.heap.size := Nat.lt_of_lt_of_le HB.out.2.2.2.1 (Below.size HB9.out.1)
      have mg : ¬ (bg = w9b.heap.size) := by omega
      have mg' : ¬ (w9b.heap.size = bg) := by omega
      have mx : ¬ (bxb = w9b.heap.size) := by omega
      have mx' : ¬ (w9b.heap.size = bxb) := by omega
      go_wp2_with fail
      obtain ⟨w10b, hw10⟩ : ∃ x, x = w9b.alloc (.cells #[.slice A9b n c9b, .slice B9b q d9b] 25) := ⟨_, rfl⟩
      have H10 : Hid (Bl w1 w10b ∧ ZB w1 w10b bxb (.slice Axb nxb cxb) (.slice Bxb qxb dxb) ∧ GrAt w10b A9b n B9b q ms ls ∧ GrAt w10b Axb nxb Bxb qxb gmb glb) := by
        have hb : Bl w9b w10b := by rw [hw10]; exact (Bl.refl _).al _
        exact ⟨bchain HB9.out.1 hb, z9.step hb, H9b.out.2.1.at_.below hb, (H7b.out.2.2.2.at_.below HB9.out.2).below hb⟩
      rw [← hw10]
      clear hw10 z9 HB9 H9b H7b lg mg mg' mx mx' y0 y1 yf yl f0 f1 f2 f3 f4 f5
      refine (same_any A9b Am n c9b cm B9b Al q d9b cl ms ls w10b H10.out.2.2.1 (HG.out _ H10.out.1) (Nat.le_trans HN.out.1 (by decide)) (Nat.le_trans HN.out.2 (by decide))).mono ?_
      rintro e w11b ⟨rfl, hb11⟩
      obtain ⟨y0, y1, yf, yl⟩ := cell2 (H10.out.2.1.step hb11).1
      have H11 : Hid (Bl w1 w11b ∧ GrAt w11b Axb nxb Bxb qxb gmb glb) := ⟨bchain H10.out.1 hb11, H10.out.2.2.2.below hb11⟩
      clear H10 hb11
      go_wp2_with fail
      have hck := check_any Axb nxb cxb Bxb qxb dxb gmb glb w11b H11.out.2 HS9.out.1 HS9.out.2.1
      rw [good_chk HS9.out.2.2] at hck
      refine hck.mono ?_
      rintro e w12b ⟨v, rfl, H12⟩
      obtain rfl : v = .nilIface := H12.out.1
      have HBLb : Hid (Bl w1 w12b) := bchain H11.out.1 H12.out.2
      clear hck H11 H12 HS9 y0 y1 yf yl
      go_wp2
      go_ret
      exact ⟨rfl, bchain HB.out.2.2.2.2.2.2 HBLb.out⟩
    case inr =>
      go_wp2
      go_ret
      exact ⟨rfl, bchain HB.out.2.2.2.2.2.2 H7b.out.1⟩
end Go.Proofs.YtlkfcfcejicdkaaGreatDoor
