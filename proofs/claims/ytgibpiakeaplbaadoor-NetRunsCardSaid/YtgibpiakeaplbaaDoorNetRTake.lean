/-
  The reference's Take, walked. Own work.
-/
import Derived.Test.YtgibpiakeaplbaaDoorNetRSend2
set_option linter.unusedSimpArgs false
set_option linter.unusedVariables false
namespace Go.Proofs.YtgibpiakeaplbaaDoor
open Go Go.RowKit

theorem zeroBox (w : World) : Hid (∀ W, Below (w.alloc (.cells #[.bool false, .slice none 0 0, .int .i64 0] 41)).heap.size (w.alloc (.cells #[.bool false, .slice none 0 0, .int .i64 0] 41)) W → EBox W w.heap.size none ∧ Below w.heap.size w W) := fun W hW =>
  ⟨EBox.below (show EBox (w.alloc (.cells #[.bool false, .slice none 0 0, .int .i64 0] 41)) w.heap.size none from heap_alloc_new w _) hW, ((Below.refl _ _).alloc (Nat.le_refl _) _).trans (hW.mono (by simp))⟩

set_option maxHeartbeats 2000000 in
theorem takeref_way (A : Option Addr) (n c : Nat) (k : Int × Int) (i : Int) (w : World) (hk : wayE k = some 12) :
    Calls Tryd.prog 23 #[.slice A n c, .int .i64 k.1, .int .i64 k.2, .int .i64 i] w fun e w' => e = .returned (.tuple #[.slice none 0 0, .slice A n c, eV (some 12)]) ∧ Hid (Below w.heap.size w w') := by
  have HC := fun W => check_ref (.slice A n c) k.1 k.2 W
  rw [hk] at HC
  clear hk
  have HZ := zeroBox w
  go_enter Tryd.func23, Tryd.ntmps23
  go_wp2_with fail
  refine (HC _).mono ?_
  rintro e w1 ⟨rfl, hb⟩
  clear HC
  have H1 := Lib.hid (HZ.out _ hb)
  clear hb HZ
  simp only [eV]
  go_wp2_with fail
  obtain ⟨w2, hw2⟩ : ∃ w2, w2 = w1.alloc (.cells #[.bool true, .slice none 0 0, .int .i64 12] 41) := ⟨_, rfl⟩
  obtain ⟨G, hG⟩ : ∃ G, G = w1.heap.size := ⟨_, rfl⟩
  have H2 : Hid (EBox w2 w.heap.size none ∧ EBox w2 G (some 12) ∧ Below w.heap.size w w2 ∧ w.heap.size < G) := by
    have hb : Below w1.heap.size w1 w2 := by rw [hw2]; exact (Below.refl _ _).alloc (Nat.le_refl _) _
    have hlt : w.heap.size < w1.heap.size := (Array.getElem?_eq_some_iff.1 H1.out.1).1
    exact ⟨H1.out.1.below hb, by rw [hw2, hG]; exact heap_alloc_new w1 _, H1.out.2.trans (hb.mono (Nat.le_of_lt hlt)), by rw [hG]; exact hlt⟩
  rw [← hG, ← hw2]
  clear hw2 hG H1
  have hE := H2.out.1
  have r0 : w2.cell? ⟨w.heap.size, 0, none⟩ = some (.bool false) := hE.c0
  have r1 : w2.cell? ⟨w.heap.size, 1, none⟩ = some (.slice none 0 0) := hE.c1
  have r2 : w2.cell? ⟨w.heap.size, 2, none⟩ = some (.int .i64 0) := hE.c2
  have rf := hE.free
  have hK0 : KX w.heap.size G 12 w2.drew := KX.mk (H2.out.2.1.below (Below.refl _ _).drew)
  have hbG : ¬ (w.heap.size = G) := by have := H2.out; omega
  have hGb : ¬ (G = w.heap.size) := fun e => hbG e.symm
  have hS1 := KX.st (n := 12) hbG hGb
  clear hE
  go_region_held_law (fun W => W.cell? ⟨G, 0, none⟩ = some (.bool true) ∧ W.cell? ⟨G, 1, none⟩ = some (.slice none 0 0) ∧ W.cell? ⟨G, 2, none⟩ = some (.int .i64 12))
    (first | assumption | exact hS1 _ (by assumption)) (fail)
  all_goals
    go_wp2
    refine bodyPost_ret (v := .tuple #[.slice none 0 0, .slice A n c, eV (some 12)]) ?_ rfl ?_
    · simp [results, Tryd.results23, go_sem, eV, r0, r1, r2, rf]
    · exact ⟨rfl, st3_below (some 12) (H2.out.2.2.1.trans ((Below.refl _ w2).drew.mono H2.out.2.2.1.size)) (Nat.le_refl _)⟩

set_option maxHeartbeats 2000000 in
theorem takeref_none (A : Option Addr) (n c : Nat) (l : List RP) (k : Int × Int) (i : Int) (w : World) (hL : LstAt w A n c l) (hn : n ≤ 200) (hk : wayE k = none) (hi : i < 0 ∨ ((cnt k l : Nat) : Int) ≤ i) :
    Calls Tryd.prog 23 #[.slice A n c, .int .i64 k.1, .int .i64 k.2, .int .i64 i] w fun e w' => e = .returned (.tuple #[.slice none 0 0, .slice A n c, eV (some 10)]) ∧ Hid (Below w.heap.size w w') := by
  have HC := fun W => check_ref (.slice A n c) k.1 k.2 W
  rw [hk] at HC
  clear hk
  have HL := Lib.hid hL
  have HN : Hid (n ≤ 200) := hn
  obtain ⟨q, hq⟩ : ∃ q, Hid (cnt k l = q) := ⟨_, rfl⟩
  rw [hq.out] at hi
  clear hL hn
  have HZ := zeroBox w
  by_cases h0 : i < 0
  · have d0 : decide (i < 0) = true := by simp [h0]
    clear hi
    go_enter Tryd.func23, Tryd.ntmps23
    go_wp2_with fail
    refine (HC _).mono ?_
    rintro e w1 ⟨rfl, hb⟩
    clear HC
    have H1 := Lib.hid (HZ.out _ hb)
    clear hb HZ
    simp only [eV]
    go_wp2_with fail
    obtain ⟨w2, hw2⟩ : ∃ w2, w2 = w1.alloc (.cells #[.bool false, .slice none 0 0, .int .i64 0] 41) := ⟨_, rfl⟩
    obtain ⟨G, hG⟩ : ∃ G, G = w1.heap.size := ⟨_, rfl⟩
    have H2 : Hid (EBox w2 w.heap.size none ∧ EBox w2 G none ∧ Below w.heap.size w w2 ∧ w.heap.size < G) := by
      have hb : Below w1.heap.size w1 w2 := by rw [hw2]; exact (Below.refl _ _).alloc (Nat.le_refl _) _
      have hlt : w.heap.size < w1.heap.size := (Array.getElem?_eq_some_iff.1 H1.out.1).1
      exact ⟨H1.out.1.below hb, by rw [hw2, hG]; exact heap_alloc_new w1 _, H1.out.2.trans (hb.mono (Nat.le_of_lt hlt)), by rw [hG]; exact hlt⟩
    rw [← hG, ← hw2]
    clear hw2 hG H1
    refine (n_any 10 _).mono ?_
    rintro e w3 ⟨rfl, hb3⟩
    have H3 : Hid (EBox w3 w.heap.size none ∧ EBox w3 G none ∧ Below w.heap.size w w3 ∧ w.heap.size < G) :=
      ⟨H2.out.1.below hb3, H2.out.2.1.below hb3, H2.out.2.2.1.trans (hb3.mono H2.out.2.2.1.size), H2.out.2.2.2⟩
    clear hb3 H2
    have hbG : ¬ (w.heap.size = G) := by have := H3.out; omega
    have hGb : ¬ (G = w.heap.size) := fun e => hbG e.symm
    have hE := H3.out.2.1
    have g0 : w3.cell? ⟨G, 0, none⟩ = some (.bool false) := hE.c0
    have g1 : w3.cell? ⟨G, 1, none⟩ = some (.slice none 0 0) := hE.c1
    have g2 : w3.cell? ⟨G, 2, none⟩ = some (.int .i64 0) := hE.c2
    have gf := hE.free
    clear hE
    go_wp2_with fail
    obtain ⟨w4, hw4⟩ : ∃ w4, w4 = st3 G (some 10) w3 := ⟨_, rfl⟩
    have H4 : Hid (EBox w4 w.heap.size none ∧ EBox w4 G (some 10) ∧ Below w.heap.size w w4) := by
      rw [hw4]
      exact ⟨(st3_block _ _ _ _ hbG).trans H3.out.1, st3_box H3.out.2.1, st3_below _ H3.out.2.2.1 (Nat.le_of_lt H3.out.2.2.2)⟩
    have hw5 : ((w3.setCell ⟨G, 0, none⟩ (.bool true)).setCell ⟨G, 1, none⟩ (.slice none 0 0)).setCell ⟨G, 2, none⟩ (.int .i64 10) = w4 := hw4.symm
    rw [hw5]
    clear hw4 hw5 g0 g1 g2 gf H3
    have hE := H4.out.1
    have r0 : w4.cell? ⟨w.heap.size, 0, none⟩ = some (.bool false) := hE.c0
    have r1 : w4.cell? ⟨w.heap.size, 1, none⟩ = some (.slice none 0 0) := hE.c1
    have r2 : w4.cell? ⟨w.heap.size, 2, none⟩ = some (.int .i64 0) := hE.c2
    have rf := hE.free
    have hK0 : KX w.heap.size G 10 w4.drew := KX.mk (H4.out.2.1.below (Below.refl _ _).drew)
    have hS1 := KX.st (n := 10) hbG hGb
    clear hE
    go_region_held_law (fun W => W.cell? ⟨G, 0, none⟩ = some (.bool true) ∧ W.cell? ⟨G, 1, none⟩ = some (.slice none 0 0) ∧ W.cell? ⟨G, 2, none⟩ = some (.int .i64 10))
      (first | assumption | exact hS1 _ (by assumption)) (fail)
    all_goals
      go_wp2
      refine bodyPost_ret (v := .tuple #[.slice none 0 0, .slice A n c, eV (some 10)]) ?_ rfl ?_
      · simp [results, Tryd.results23, go_sem, eV, r0, r1, r2, rf]
      · exact ⟨rfl, st3_below (some 10) (H4.out.2.2.trans ((Below.refl _ w4).drew.mono H4.out.2.2.size)) (Nat.le_refl _)⟩
  · have d0 : decide (i < 0) = false := by simp [h0]
    have d1 : decide (i ≥ (q : Int)) = true := by simp; omega
    clear hi
    go_enter Tryd.func23, Tryd.ntmps23
    go_wp2_with fail
    refine (HC _).mono ?_
    rintro e w1 ⟨rfl, hb⟩
    clear HC
    have H1 := Lib.hid (HZ.out _ hb)
    clear hb HZ
    simp only [eV]
    go_wp2_with fail
    obtain ⟨w9, hw2⟩ : ∃ w9, w9 = w1.alloc (.cells #[.bool false, .slice none 0 0, .int .i64 0] 41) := ⟨_, rfl⟩
    obtain ⟨G, hG⟩ : ∃ G, G = w1.heap.size := ⟨_, rfl⟩
    have H9 : Hid (EBox w9 w.heap.size none ∧ EBox w9 G none ∧ Below w.heap.size w w9 ∧ w.heap.size < G) := by
      have hb : Below w1.heap.size w1 w9 := by rw [hw2]; exact (Below.refl _ _).alloc (Nat.le_refl _) _
      have hlt : w.heap.size < w1.heap.size := (Array.getElem?_eq_some_iff.1 H1.out.1).1
      exact ⟨H1.out.1.below hb, by rw [hw2, hG]; exact heap_alloc_new w1 _, H1.out.2.trans (hb.mono (Nat.le_of_lt hlt)), by rw [hG]; exact hlt⟩
    rw [← hG, ← hw2]
    clear hw2 hG H1
    refine (count_any A n c l HL.out.len (by have := HN.out; omega) k w9 (HL.out.below H9.out.2.2.1).pack).mono ?_
    rintro e w2 ⟨rfl, hb3⟩
    have H2 : Hid (EBox w2 w.heap.size none ∧ EBox w2 G none ∧ Below w.heap.size w w2 ∧ w.heap.size < G) :=
      ⟨H9.out.1.below hb3, H9.out.2.1.below hb3, H9.out.2.2.1.trans (hb3.mono H9.out.2.2.1.size), H9.out.2.2.2⟩
    clear hb3 H9
    rw [hq.out]
    go_wp2_with fail
    refine (n_any 10 _).mono ?_
    rintro e w3 ⟨rfl, hb3⟩
    have H3 : Hid (EBox w3 w.heap.size none ∧ EBox w3 G none ∧ Below w.heap.size w w3 ∧ w.heap.size < G) :=
      ⟨H2.out.1.below hb3, H2.out.2.1.below hb3, H2.out.2.2.1.trans (hb3.mono H2.out.2.2.1.size), H2.out.2.2.2⟩
    clear hb3 H2
    have hbG : ¬ (w.heap.size = G) := by have := H3.out; omega
    have hGb : ¬ (G = w.heap.size) := fun e => hbG e.symm
    have hE := H3.out.2.1
    have g0 : w3.cell? ⟨G, 0, none⟩ = some (.bool false) := hE.c0
    have g1 : w3.cell? ⟨G, 1, none⟩ = some (.slice none 0 0) := hE.c1
    have g2 : w3.cell? ⟨G, 2, none⟩ = some (.int .i64 0) := hE.c2
    have gf := hE.free
    clear hE
    go_wp2_with fail
    obtain ⟨w4, hw4⟩ : ∃ w4, w4 = st3 G (some 10) w3 := ⟨_, rfl⟩
    have H4 : Hid (EBox w4 w.heap.size none ∧ EBox w4 G (some 10) ∧ Below w.heap.size w w4) := by
      rw [hw4]
      exact ⟨(st3_block _ _ _ _ hbG).trans H3.out.1, st3_box H3.out.2.1, st3_below _ H3.out.2.2.1 (Nat.le_of_lt H3.out.2.2.2)⟩
    have hw5 : ((w3.setCell ⟨G, 0, none⟩ (.bool true)).setCell ⟨G, 1, none⟩ (.slice none 0 0)).setCell ⟨G, 2, none⟩ (.int .i64 10) = w4 := hw4.symm
    rw [hw5]
    clear hw4 hw5 g0 g1 g2 gf H3
    have hE := H4.out.1
    have r0 : w4.cell? ⟨w.heap.size, 0, none⟩ = some (.bool false) := hE.c0
    have r1 : w4.cell? ⟨w.heap.size, 1, none⟩ = some (.slice none 0 0) := hE.c1
    have r2 : w4.cell? ⟨w.heap.size, 2, none⟩ = some (.int .i64 0) := hE.c2
    have rf := hE.free
    have hK0 : KX w.heap.size G 10 w4.drew := KX.mk (H4.out.2.1.below (Below.refl _ _).drew)
    have hS1 := KX.st (n := 10) hbG hGb
    clear hE
    go_region_held_law (fun W => W.cell? ⟨G, 0, none⟩ = some (.bool true) ∧ W.cell? ⟨G, 1, none⟩ = some (.slice none 0 0) ∧ W.cell? ⟨G, 2, none⟩ = some (.int .i64 10))
      (first | assumption | exact hS1 _ (by assumption)) (fail)
    all_goals
      go_wp2
      refine bodyPost_ret (v := .tuple #[.slice none 0 0, .slice A n c, eV (some 10)]) ?_ rfl ?_
      · simp [results, Tryd.results23, go_sem, eV, r0, r1, r2, rf]
      · exact ⟨rfl, st3_below (some 10) (H4.out.2.2.trans ((Below.refl _ w4).drew.mono H4.out.2.2.size)) (Nat.le_refl _)⟩
end Go.Proofs.YtgibpiakeaplbaaDoor
