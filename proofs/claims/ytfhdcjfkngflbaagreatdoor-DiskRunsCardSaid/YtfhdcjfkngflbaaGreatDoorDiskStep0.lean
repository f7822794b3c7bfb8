/-
  disk: the law's 'step', walked, one kind each. Own work, printed by gen_step.py.
-/
import Derived.Test.YtfhdcjfkngflbaaGreatDoorP12
import Derived.Deep.RegionWith
set_option linter.unusedSimpArgs false
set_option linter.unusedVariables false
namespace Go.Proofs.YtfhdcjfkngflbaaGreatDoor
open Go Go.RowKit

set_option maxRecDepth 100000 in
set_option maxHeartbeats 16000000 in
theorem step_0 (B : Nat) (A : Option Addr) (n c : Nat) (last last' : Int) (nm : ByteArray) (Ap : Option Addr) (m cp : Nat) (N : Int) (w : World) (ev : Value) (bb : Bool) (mm : Int) (R1 R2 : Option Addr → Nat → Nat → World → Prop) (T : Option Addr → Nat → World → Prop)
    (hs1 : ∀ A' n' c' W W', R1 A' n' c' W → Side w.heap.size (w.heap.size + 4) W W' → R1 A' n' c' W') (hs2 : ∀ A' n' c' W W', R2 A' n' c' W → Side w.heap.size (w.heap.size + 4) W W' → R2 A' n' c' W')
    (h1 : ∀ W, Below w.heap.size w W → w.heap.size + 4 ≤ W.heap.size → Calls Tryz.prog 16 #[.agg #[.slice A n c, .int .i64 last], .string nm, .slice Ap m cp] W fun e w' => ∃ (A' : Option Addr) (n' c' : Nat), e = .returned (.tuple #[.agg #[.slice A' n' c', .int .i64 last'], .agg #[.bool bb, .slice none 0 0, .int .i64 mm]]) ∧ Below W.heap.size W w' ∧ R1 A' n' c' w')
    (ht : ∀ W A' n' c', R1 A' n' c' W → Calls Tryz.prog 17 #[.slice Ap m cp] W fun e w' => ∃ (At : Option Addr) (ct : Nat), e = .returned (.slice At m ct) ∧ Below W.heap.size W w' ∧ T At ct w')
    (h2 : ∀ W A' n' c' At ct, R1 A' n' c' W → T At ct W → w.heap.size + 4 ≤ W.heap.size → Calls Tryz.prog 10 #[.pointer (some ⟨B, 0, none⟩), .string nm, .slice At m ct] W fun e w' => e = .returned ev ∧ R2 A' n' c' w' ∧ (∀ g, w.heap.size ≤ g → g < w.heap.size + 4 → w'.heap[g]? = W.heap[g]?) ∧ W.heap.size ≤ w'.heap.size)
    (h3 : ∀ W A' n' c', R2 A' n' c' W → Calls Tryz.prog 24 #[ev, .agg #[.bool bb, .slice none 0 0, .int .i64 mm]] W fun e w' => e = .returned (.bool true) ∧ Below W.heap.size W w') :
    Calls Tryz.prog 7 #[.pointer (some ⟨B, 0, none⟩), .agg #[.slice A n c, .int .i64 last], .agg #[.int .i64 0, .string nm, .slice Ap m cp, .int .i64 N]] w fun e w' => ∃ (A' : Option Addr) (n' c' : Nat), e = .returned (.tuple #[.agg #[.slice A' n' c', .int .i64 last'], .bool true]) ∧ R2 A' n' c' w' := by
  have HS1 := Lib.hid hs1
  have HS2 := Lib.hid hs2
  have H1 := Lib.hid h1
  have H2 := Lib.hid h2
  have H3 := Lib.hid h3
  have HT := Lib.hid ht
  clear ht hs1 hs2 h1 h2 h3
  obtain ⟨w1, hw1⟩ : ∃ w1, w1 = ((((w.alloc (.cells #[.slice A n c, .int .i64 last] 29)).alloc (.cells #[.int .i64 0, .string nm, .slice Ap m cp, .int .i64 N] 32)).alloc (.cells #[.slice none 0 0, .int .i64 0] 29)).alloc (.cells #[.bool false, .slice none 0 0, .int .i64 0] 53)) := ⟨_, rfl⟩
  obtain ⟨b3, hb3⟩ : ∃ b3, b3 = w.heap.size + 1 + 1 + 1 := ⟨_, rfl⟩
  obtain ⟨b2, hb2⟩ : ∃ b2, b2 = w.heap.size + 1 + 1 := ⟨_, rfl⟩
  obtain ⟨b1, hb1⟩ : ∃ b1, b1 = w.heap.size + 1 := ⟨_, rfl⟩
  obtain ⟨b, hb⟩ : ∃ b, b = w.heap.size := ⟨_, rfl⟩
  have HX1 : Hid (SX w w1 b b1 b2 b3 (.slice A n c) (.int .i64 last) (.int .i64 0) (.string nm) (.slice Ap m cp) (.int .i64 N) (.bool false) (.slice none 0 0) (.int .i64 0) ∧ Below w.heap.size w w1 ∧ w.heap.size + 4 ≤ w1.heap.size) := by
    rw [hw1, hb3, hb2, hb1, hb]
    exact ⟨sx_new w _ _ _ _ _ _, ((((Below.refl _ _).alloc (Nat.le_refl _) _).alloc (by simp) _).alloc (by simp; omega) _).alloc (by simp; omega) _, by simp⟩
  have HNE : Hid (b = w.heap.size ∧ b1 = b + 1 ∧ b2 = b + 2 ∧ b3 = b + 3) := by simp only [Hid]; omega
  have n03 : ¬ (b = b3) ∧ ¬ (b3 = b) ∧ ¬ (b2 = b) ∧ ¬ (b = b2) ∧ ¬ (b2 = b3) ∧ ¬ (b3 = b2) ∧ ¬ (b1 = b) ∧ ¬ (b = b1) ∧ ¬ (b1 = b3) ∧ ¬ (b3 = b1) := by omega
  obtain ⟨n1, n2, n3, n4, n5, n6, n7, n8, n9, n10⟩ := n03
  go_enter Tryz.func7, Tryz.ntmps7
  go_wp2_with fail
  rw [← hw1, ← hb3, ← hb2, ← hb1, ← hb]
  clear hw1 hb3 hb2 hb1 hb
  refine (H1.out w1 HX1.out.2.1 HX1.out.2.2).mono ?_
  rintro e w2 ⟨A', n', c', rfl, hb2, hR1⟩
  have HR1 := Lib.hid hR1
  have HX2 := Lib.hid (HX1.out.1.below hb2)
  clear hR1 hb2
  obtain ⟨d0, d1, o0, o1, o2, o3, r0, r1, x0, x1, x2, fb, fr, fx⟩ := HX2.out.cells
  go_wp2_with fail
  obtain ⟨W3, hW3⟩ : ∃ W3, W3 = ((((w2.setCell ⟨b, 0, none⟩ (.slice A' n' c')).setCell ⟨b, 1, none⟩ (.int .i64 last')).setCell ⟨b3, 0, none⟩ (.bool bb)).setCell ⟨b3, 1, none⟩ (.slice none 0 0)).setCell ⟨b3, 2, none⟩ (.int .i64 mm) := ⟨_, rfl⟩
  have HX3 : Hid (SX w W3 b b1 b2 b3 (.slice A' n' c') (.int .i64 last') (.int .i64 0) (.string nm) (.slice Ap m cp) (.int .i64 N) (.bool bb) (.slice none 0 0) (.int .i64 mm)) := by
    rw [hW3]; exact HX2.out.put _ _ _ _ _
  have HR3 : Hid (∀ W, Side w.heap.size (w.heap.size + 4) W3 W → R1 A' n' c' W) := fun W hW => HS1.out _ _ _ _ _ HR1.out (Side.trans (by rw [hW3]; exact (((((Side.refl _ _ _).set _ _ _ (by have := HNE.out; omega) (by have := HNE.out; omega)).set _ _ _ (by have := HNE.out; omega) (by have := HNE.out; omega)).set _ _ _ (by have := HNE.out; omega) (by have := HNE.out; omega)).set _ _ _ (by have := HNE.out; omega) (by have := HNE.out; omega)).set _ _ _ (by have := HNE.out; omega) (by have := HNE.out; omega)) hW)
  rw [← hW3]
  clear hW3
  have HD3 : Hid (Side w.heap.size (w.heap.size + 4) W3 W3.drew) := (Side.refl _ _ _).below (Below.refl _ _).drew
  have HX3d := Lib.hid (HX3.out.below (Below.refl _ _).drew)
  obtain ⟨d0, d1, o0, o1, o2, o3, r0, r1, x0, x1, x2, fb, fr, fx⟩ := HX3d.out.cells
  go_region_with (first
    | (go_at_call 17; refine (HT.out _ A' n' c' (HR3.out _ HD3.out)).mono ?_; rintro e w3 ⟨At, ct, rfl, hbt, hT⟩; have HD4 := Lib.hid (HD3.out.below hbt); have HX4 := Lib.hid (HX3d.out.below hbt); have HTT := Lib.hid hT; clear hT hbt; obtain ⟨d0, d1, o0, o1, o2, o3, r0, r1, x0, x1, x2, fb, fr, fx⟩ := HX4.out.cells)
    | (go_at_call 10; refine (H2.out _ A' n' c' At ct (HR3.out _ HD4.out) HTT.out (by have := HX4.out.n; omega)).mono ?_; rintro e w4 ⟨rfl, hR2, hk4, hs4⟩)
    | fail)
  all_goals
    have HX4 := Lib.hid (HX4.out.keep hk4 hs4)
    have HR2 := Lib.hid hR2
    clear hR2 hk4 hs4
    obtain ⟨d0, d1, o0, o1, o2, o3, r0, r1, x0, x1, x2, fb, fr, fx⟩ := HX4.out.cells
    have HS4 : Hid (∀ W, Side w.heap.size (w.heap.size + 4) w4 W → R2 A' n' c' W) := fun W hW => HS2.out _ _ _ _ _ HR2.out hW
    have HD : Hid (Side w.heap.size (w.heap.size + 4) w4 w4.drew) := (Side.refl _ _ _).below (Below.refl _ _).drew
    have HX5 := Lib.hid (HX4.out.below (Below.refl _ _).drew)
    go_wp2_with fail
    obtain ⟨d0, d1, o0, o1, o2, o3, r0, r1, x0, x1, x2, fb, fr, fx⟩ := HX5.out.cells
    go_region_with (go_at_call 24; refine (H3.out _ A' n' c' (HS4.out _ HD.out)).mono ?_; rintro e w5 ⟨rfl, hb5⟩; have HD5 := Lib.hid (HD.out.below hb5); have HX6 := Lib.hid (HX5.out.below hb5); obtain ⟨d0, d1, o0, o1, o2, o3, r0, r1, x0, x1, x2, fb, fr, fx⟩ := HX6.out.cells)
    all_goals
      go_wp2
      refine bodyPost_ret (v := .tuple #[.agg #[.slice A' n' c', .int .i64 last'], .bool true]) ?_ rfl ?_
      · simp [results, Tryz.results7, go_sem, r0, r1, fr]
      · exact ⟨A', n', c', rfl, HS4.out _ ((HD5.out.set _ _ _ (by have := HNE.out; omega) (by have := HNE.out; omega)).set _ _ _ (by have := HNE.out; omega) (by have := HNE.out; omega))⟩

end Go.Proofs.YtfhdcjfkngflbaaGreatDoor
