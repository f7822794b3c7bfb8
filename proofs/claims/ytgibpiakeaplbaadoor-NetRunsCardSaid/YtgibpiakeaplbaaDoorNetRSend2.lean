/-
  The reference's Send where it refuses. Own work.
-/
import Derived.Test.YtgibpiakeaplbaaDoorNetRSend
set_option linter.unusedSimpArgs false
set_option linter.unusedVariables false
namespace Go.Proofs.YtgibpiakeaplbaaDoor
open Go Go.RowKit

/-- The same with an error at hand. -/
abbrev KX (b G : Nat) (n : Int) (W : World) : Prop := W.cell? ⟨G, 0, none⟩ = some (.bool true) ∧ W.cell? ⟨G, 1, none⟩ = some (.slice none 0 0) ∧ W.cell? ⟨G, 2, none⟩ = some (.int .i64 n)
theorem KX.mk {b G : Nat} {n : Int} {W : World} (h2 : EBox W G (some n)) : KX b G n W := ⟨h2.c0, h2.c1, h2.c2⟩
theorem KX.st {b G : Nat} {n : Int} (hbG : ¬ (b = G)) (hGb : ¬ (G = b)) (W : World) (h : KX b G n W) : KX b G n (st3 b (some n) W) := by
  obtain ⟨h1, h2, h3⟩ := h
  unfold st3
  refine ⟨?_, ?_, ?_⟩ <;> simp [go_sem, h1, h2, h3, hbG, hGb]

set_option maxHeartbeats 2000000 in
theorem sendref_way (A : Option Addr) (n c : Nat) (k : Int × Int) (Ap : Option Addr) (np cp : Nat) (w : World) (hk : wayE k = some 12) :
    Calls Tryd.prog 22 #[.slice A n c, .int .i64 k.1, .int .i64 k.2, .slice Ap np cp] w fun e w' => e = .returned (.tuple #[.slice A n c, eV (some 12)]) ∧ Hid (Below w.heap.size w w') := by
  have HC := fun W => check_ref (.slice A n c) k.1 k.2 W
  rw [hk] at HC
  clear hk
  have HZ : Hid (∀ W, Below (w.alloc (.cells #[.bool false, .slice none 0 0, .int .i64 0] 41)).heap.size (w.alloc (.cells #[.bool false, .slice none 0 0, .int .i64 0] 41)) W → EBox W w.heap.size none ∧ Below w.heap.size w W) := fun W hW =>
    ⟨EBox.below (show EBox (w.alloc (.cells #[.bool false, .slice none 0 0, .int .i64 0] 41)) w.heap.size none from heap_alloc_new w _) hW, ((Below.refl _ _).alloc (Nat.le_refl _) _).trans (hW.mono (by simp))⟩
  go_enter Tryd.func22, Tryd.ntmps22
  go_wp2_with fail
  refine (HC _).mono ?_
  rintro e w1 ⟨rfl, hb⟩
  clear HC
  have H1 := Lib.hid (HZ.out _ hb)
  clear hb HZ
  simp only [eV]
  go_wp2_with fail
  obtain ⟨w2, hw2⟩ : ∃ w2, w2 = w1.alloc (.cells #[.bool true, .slice none 0 0, .int .i64 12] 41) := ⟨_, rfl⟩
  obtain ⟨G, hG⟩ : ∃ G, G = w1.heap.size := ⟨_, rfl⟩
  have H2 : Hid (EBox w2 w.heap.size none ∧ EBox w2 G (some 12) ∧ Below w.heap.size w w2 ∧ w.heap.size < G) := by
    have hb : Below w1.heap.size w1 w2 := by rw [hw2]; exact (Below.refl _ _).alloc (Nat.le_refl _) _
    have hlt : w.heap.size < w1.heap.size := (Array.getElem?_eq_some_iff.1 H1.out.1).1
    exact ⟨H1.out.1.below hb, by rw [hw2, hG]; exact heap_alloc_new w1 _, H1.out.2.trans (hb.mono (Nat.le_of_lt hlt)), by rw [hG]; exact hlt⟩
  rw [← hG, ← hw2]
  clear hw2 hG H1
  have hE := H2.out.1
  have r0 : w2.cell? ⟨w.heap.size, 0, none⟩ = some (.bool false) := hE.c0
  have r1 : w2.cell? ⟨w.heap.size, 1, none⟩ = some (.slice none 0 0) := hE.c1
  have r2 : w2.cell? ⟨w.heap.size, 2, none⟩ = some (.int .i64 0) := hE.c2
  have rf := hE.free
  have hK0 : KX w.heap.size G 12 w2.drew := KX.mk (H2.out.2.1.below (Below.refl _ _).drew)
  have hbG : ¬ (w.heap.size = G) := by have := H2.out; omega
  have hGb : ¬ (G = w.heap.size) := fun e => hbG e.symm
  have hS1 := KX.st (n := 12) hbG hGb
  clear hE
  go_region_held_law (fun W => W.cell? ⟨G, 0, none⟩ = some (.bool true) ∧ W.cell? ⟨G, 1, none⟩ = some (.slice none 0 0) ∧ W.cell? ⟨G, 2, none⟩ = some (.int .i64 12))
    (first | assumption | exact hS1 _ (by assumption)) (fail)
  all_goals
    go_wp2
    refine bodyPost_ret (v := .tuple #[.slice A n c, eV (some 12)]) ?_ rfl ?_
    · simp [results, Tryd.results22, go_sem, eV, r0, r1, r2, rf]
    · exact ⟨rfl, st3_below (some 12) (H2.out.2.2.1.trans ((Below.refl _ w2).drew.mono H2.out.2.2.1.size)) (Nat.le_refl _)⟩

set_option maxHeartbeats 2000000 in
theorem sendref_long (A : Option Addr) (n c : Nat) (k : Int × Int) (Ap : Option Addr) (np cp : Nat) (w : World) (hk : wayE k = none) (hp : 1048576 < np) :
    Calls Tryd.prog 22 #[.slice A n c, .int .i64 k.1, .int .i64 k.2, .slice Ap np cp] w fun e w' => e = .returned (.tuple #[.slice A n c, eV (some 2)]) ∧ Hid (Below w.heap.size w w') := by
  have HC := fun W => check_ref (.slice A n c) k.1 k.2 W
  rw [hk] at HC
  have d : decide ((np : Int) > 1048576) = true := by simp; omega
  clear hk
  have HZ : Hid (∀ W, Below (w.alloc (.cells #[.bool false, .slice none 0 0, .int .i64 0] 41)).heap.size (w.alloc (.cells #[.bool false, .slice none 0 0, .int .i64 0] 41)) W → EBox W w.heap.size none ∧ Below w.heap.size w W) := fun W hW =>
    ⟨EBox.below (show EBox (w.alloc (.cells #[.bool false, .slice none 0 0, .int .i64 0] 41)) w.heap.size none from heap_alloc_new w _) hW, ((Below.refl _ _).alloc (Nat.le_refl _) _).trans (hW.mono (by simp))⟩
  go_enter Tryd.func22, Tryd.ntmps22
  go_wp2_with fail
  refine (HC _).mono ?_
  rintro e w1 ⟨rfl, hb⟩
  clear HC
  have H1 := Lib.hid (HZ.out _ hb)
  clear hb HZ
  simp only [eV]
  go_wp2_with fail
  refine (n_any 2 _).mono ?_
  rintro e w2 ⟨rfl, hb⟩
  have H2 : Hid (EBox w2 w.heap.size none ∧ Below w.heap.size w w2) := by
    have hlt : w.heap.size < w1.heap.size := (Array.getElem?_eq_some_iff.1 H1.out.1).1
    have hb9 : Below w1.heap.size w1 w2 := ((Below.refl _ _).alloc (Nat.le_refl _) _).trans (hb.mono (by simp))
    exact ⟨H1.out.1.below hb9, H1.out.2.trans (hb9.mono (Nat.le_of_lt hlt))⟩
  have hE := H2.out.1
  have r0 : w2.cell? ⟨w.heap.size, 0, none⟩ = some (.bool false) := hE.c0
  have r1 : w2.cell? ⟨w.heap.size, 1, none⟩ = some (.slice none 0 0) := hE.c1
  have r2 : w2.cell? ⟨w.heap.size, 2, none⟩ = some (.int .i64 0) := hE.c2
  have rf := hE.free
  clear hE hb H1
  go_wp2
  refine bodyPost_ret (v := .tuple #[.slice A n c, eV (some 2)]) ?_ rfl ?_
  · simp [results, Tryd.results22, go_sem, eV, r0, r1, r2, rf]
  · exact ⟨rfl, st3_below (some 2) H2.out.2 (Nat.le_refl _)⟩
end Go.Proofs.YtgibpiakeaplbaaDoor
