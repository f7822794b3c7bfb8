/-
  disk: the law's 'step', walked, one kind each. Own work, printed by gen_step.py.
  disk: the law's 'step', walked, one kind each. Own work, printed by gen_step.py.
  disk: the law's 'step', walked, one kind each. Own work, printed by gen_step.py.
  disk: the law's 'step', walked, one kind each. Own work, printed by gen_step.py.
  disk: the law's 'step' at any other kind: it asks. Own work.
-/
import Derived.Test.YtfhdcjfkngflbaaGreatDoorP12
import Derived.Deep.RegionWith
set_option linter.unusedSimpArgs false
set_option linter.unusedVariables false
namespace Go.Proofs.YtfhdcjfkngflbaaGreatDoor
open Go Go.RowKit

set_option maxRecDepth 100000 in
set_option maxHeartbeats 16000000 in
theorem step_1 (B : Nat) (A : Option Addr) (n c : Nat) (last last' : Int) (nm : ByteArray) (Ap : Option Addr) (m cp : Nat) (N : Int) (w : World) (ev : Value) (bb : Bool) (mm : Int) (R1 R2 : Option Addr → Nat → Nat → World → Prop)
    (hs1 : ∀ A' n' c' W W', R1 A' n' c' W → Side w.heap.size (w.heap.size + 4) W W' → R1 A' n' c' W') (hs2 : ∀ A' n' c' W W', R2 A' n' c' W → Side w.heap.size (w.heap.size + 4) W W' → R2 A' n' c' W')
    (h1 : ∀ W, Below w.heap.size w W → w.heap.size + 4 ≤ W.heap.size → Calls Tryz.prog 18 #[.agg #[.slice A n c, .int .i64 last], .string nm, .int .i64 N] W fun e w' => ∃ (A' : Option Addr) (n' c' : Nat), e = .returned (.tuple #[.agg #[.slice A' n' c', .int .i64 last'], .agg #[.bool bb, .slice none 0 0, .int .i64 mm]]) ∧ Below W.heap.size W w' ∧ R1 A' n' c' w')
    (h2 : ∀ W A' n' c', R1 A' n' c' W → w.heap.size + 4 ≤ W.heap.size → Calls Tryz.prog 19 #[.pointer (some ⟨B, 0, none⟩), .string nm, .int .i64 N] W fun e w' => e = .returned ev ∧ R2 A' n' c' w' ∧ (∀ g, w.heap.size ≤ g → g < w.heap.size + 4 → w'.heap[g]? = W.heap[g]?) ∧ W.heap.size ≤ w'.heap.size)
    (h3 : ∀ W A' n' c', R2 A' n' c' W → Calls Tryz.prog 24 #[ev, .agg #[.bool bb, .slice none 0 0, .int .i64 mm]] W fun e w' => e = .returned (.bool true) ∧ Below W.heap.size W w') :
    Calls Tryz.prog 7 #[.pointer (some ⟨B, 0, none⟩), .agg #[.slice A n c, .int .i64 last], .agg #[.int .i64 1, .string nm, .slice Ap m cp, .int .i64 N]] w fun e w' => ∃ (A' : Option Addr) (n' c' : Nat), e = .returned (.tuple #[.agg #[.slice A' n' c', .int .i64 last'], .bool true]) ∧ R2 A' n' c' w' := by
  have HS1 := Lib.hid hs1
  have HS2 := Lib.hid hs2
  have H1 := Lib.hid h1
  have H2 := Lib.hid h2
  have H3 := Lib.hid h3
  clear hs1 hs2 h1 h2 h3
  obtain ⟨w1, hw1⟩ : ∃ w1, w1 = ((((w.alloc (.cells #[.slice A n c, .int .i64 last] 29)).alloc (.cells #[.int .i64 1, .string nm, .slice Ap m cp, .int .i64 N] 32)).alloc (.cells #[.slice none 0 0, .int .i64 0] 29)).alloc (.cells #[.bool false, .slice none 0 0, .int .i64 0] 53)) := ⟨_, rfl⟩
  obtain ⟨b3, hb3⟩ : ∃ b3, b3 = w.heap.size + 1 + 1 + 1 := ⟨_, rfl⟩
  obtain ⟨b2, hb2⟩ : ∃ b2, b2 = w.heap.size + 1 + 1 := ⟨_, rfl⟩
  obtain ⟨b1, hb1⟩ : ∃ b1, b1 = w.heap.size + 1 := ⟨_, rfl⟩
  obtain ⟨b, hb⟩ : ∃ b, b = w.heap.size := ⟨_, rfl⟩
  have HX1 : Hid (SX w w1 b b1 b2 b3 (.slice A n c) (.int .i64 last) (.int .i64 1) (.string nm) (.slice Ap m cp) (.int .i64 N) (.bool false) (.slice none 0 0) (.int .i64 0) ∧ Below w.heap.size w w1 ∧ w.heap.size + 4 ≤ w1.heap.size) := by
    rw [hw1, hb3, hb2, hb1, hb]
    exact ⟨sx_new w _ _ _ _ _ _, ((((Below.refl _ _).alloc (Nat.le_refl _) _).alloc (by simp) _).alloc (by simp; omega) _).alloc (by simp; omega) _, by simp⟩
  have HNE : Hid (b = w.heap.size ∧ b1 = b + 1 ∧ b2 = b + 2 ∧ b3 = b + 3) := by simp only [Hid]; omega
  have n03 : ¬ (b = b3) ∧ ¬ (b3 = b) ∧ ¬ (b2 = b) ∧ ¬ (b = b2) ∧ ¬ (b2 = b3) ∧ ¬ (b3 = b2) ∧ ¬ (b1 = b) ∧ ¬ (b = b1) ∧ ¬ (b1 = b3) ∧ ¬ (b3 = b1) := by omega
  obtain ⟨n1, n2, n3, n4, n5, n6, n7, n8, n9, n10⟩ := n03
  go_enter Tryz.func7, Tryz.ntmps7
  go_wp2_with fail
  rw [← hw1, ← hb3, ← hb2, ← hb1, ← hb]
  clear hw1 hb3 hb2 hb1 hb
  refine (H1.out w1 HX1.out.2.1 HX1.out.2.2).mono ?_
  rintro e w2 ⟨A', n', c', rfl, hb2, hR1⟩
  have HR1 := Lib.hid hR1
  have HX2 := Lib.hid (HX1.out.1.below hb2)
  clear hR1 hb2
  obtain ⟨d0, d1, o0, o1, o2, o3, r0, r1, x0, x1, x2, fb, fr, fx⟩ := HX2.out.cells
  go_wp2_with fail
  refine (H2.out _ A' n' c' (HS1.out _ _ _ _ _ HR1.out (((((((Side.refl _ _ _).set _ _ _ (by have := HNE.out; omega) (by have := HNE.out; omega)).set _ _ _ (by have := HNE.out; omega) (by have := HNE.out; omega)).set _ _ _ (by have := HNE.out; omega) (by have := HNE.out; omega)).set _ _ _ (by have := HNE.out; omega) (by have := HNE.out; omega)).set _ _ _ (by have := HNE.out; omega) (by have := HNE.out; omega)))) (by have := HX2.out.n; simp [World.setCell]; omega)).mono ?_
  rintro e w4 ⟨rfl, hR2, hk4, hs4⟩
  have HX4 := Lib.hid ((HX2.out.put (.slice A' n' c') (.int .i64 last') (.bool bb) (.slice none 0 0) (.int .i64 mm)).keep hk4 hs4)
  have HR2 := Lib.hid hR2
  clear hR2 hk4 hs4
  obtain ⟨d0, d1, o0, o1, o2, o3, r0, r1, x0, x1, x2, fb, fr, fx⟩ := HX4.out.cells
  have HS4 : Hid (∀ W, Side w.heap.size (w.heap.size + 4) w4 W → R2 A' n' c' W) := fun W hW => HS2.out _ _ _ _ _ HR2.out hW
  have HD : Hid (Side w.heap.size (w.heap.size + 4) w4 w4.drew) := (Side.refl _ _ _).below (Below.refl _ _).drew
  have HX5 := Lib.hid (HX4.out.below (Below.refl _ _).drew)
  go_wp2_with fail
  obtain ⟨d0, d1, o0, o1, o2, o3, r0, r1, x0, x1, x2, fb, fr, fx⟩ := HX5.out.cells
  go_region_with (go_at_call 24; refine (H3.out _ A' n' c' (HS4.out _ HD.out)).mono ?_; rintro e w5 ⟨rfl, hb5⟩; have HD5 := Lib.hid (HD.out.below hb5); have HX6 := Lib.hid (HX5.out.below hb5); obtain ⟨d0, d1, o0, o1, o2, o3, r0, r1, x0, x1, x2, fb, fr, fx⟩ := HX6.out.cells)
  all_goals
    go_wp2
    refine bodyPost_ret (v := .tuple #[.agg #[.slice A' n' c', .int .i64 last'], .bool true]) ?_ rfl ?_
    · simp [results, Tryz.results7, go_sem, r0, r1, fr]
    · exact ⟨A', n', c', rfl, HS4.out _ ((HD5.out.set _ _ _ (by have := HNE.out; omega) (by have := HNE.out; omega)).set _ _ _ (by have := HNE.out; omega) (by have := HNE.out; omega))⟩

end Go.Proofs.YtfhdcjfkngflbaaGreatDoor
set_option linter.unusedSimpArgs false
set_option linter.unusedVariables false
namespace Go.Proofs.YtfhdcjfkngflbaaGreatDoor
open Go Go.RowKit

set_option maxRecDepth 100000 in
set_option maxHeartbeats 16000000 in
theorem step_2 (B : Nat) (A : Option Addr) (n c : Nat) (last last' : Int) (nm : ByteArray) (Ap : Option Addr) (m cp : Nat) (N : Int) (w : World) (ev : Value) (bb : Bool) (mm : Int) (R1 R2 : Option Addr → Nat → Nat → World → Prop)
    (hs1 : ∀ A' n' c' W W', R1 A' n' c' W → Side w.heap.size (w.heap.size + 4) W W' → R1 A' n' c' W') (hs2 : ∀ A' n' c' W W', R2 A' n' c' W → Side w.heap.size (w.heap.size + 4) W W' → R2 A' n' c' W')
    (h1 : ∀ W, Below w.heap.size w W → w.heap.size + 4 ≤ W.heap.size → Calls Tryz.prog 20 #[.agg #[.slice A n c, .int .i64 last], .string nm] W fun e w' => ∃ (A' : Option Addr) (n' c' : Nat), e = .returned (.tuple #[.agg #[.slice A' n' c', .int .i64 last'], .agg #[.bool bb, .slice none 0 0, .int .i64 mm]]) ∧ Below W.heap.size W w' ∧ R1 A' n' c' w')
    (h2 : ∀ W A' n' c', R1 A' n' c' W → w.heap.size + 4 ≤ W.heap.size → Calls Tryz.prog 21 #[.pointer (some ⟨B, 0, none⟩), .string nm] W fun e w' => e = .returned ev ∧ R2 A' n' c' w' ∧ (∀ g, w.heap.size ≤ g → g < w.heap.size + 4 → w'.heap[g]? = W.heap[g]?) ∧ W.heap.size ≤ w'.heap.size)
    (h3 : ∀ W A' n' c', R2 A' n' c' W → Calls Tryz.prog 24 #[ev, .agg #[.bool bb, .slice none 0 0, .int .i64 mm]] W fun e w' => e = .returned (.bool true) ∧ Below W.heap.size W w') :
    Calls Tryz.prog 7 #[.pointer (some ⟨B, 0, none⟩), .agg #[.slice A n c, .int .i64 last], .agg #[.int .i64 2, .string nm, .slice Ap m cp, .int .i64 N]] w fun e w' => ∃ (A' : Option Addr) (n' c' : Nat), e = .returned (.tuple #[.agg #[.slice A' n' c', .int .i64 last'], .bool true]) ∧ R2 A' n' c' w' := by
  have HS1 := Lib.hid hs1
  have HS2 := Lib.hid hs2
  have H1 := Lib.hid h1
  have H2 := Lib.hid h2
  have H3 := Lib.hid h3
  clear hs1 hs2 h1 h2 h3
  obtain ⟨w1, hw1⟩ : ∃ w1, w1 = ((((w.alloc (.cells #[.slice A n c, .int .i64 last] 29)).alloc (.cells #[.int .i64 2, .string nm, .slice Ap m cp, .int .i64 N] 32)).alloc (.cells #[.slice none 0 0, .int .i64 0] 29)).alloc (.cells #[.bool false, .slice none 0 0, .int .i64 0] 53)) := ⟨_, rfl⟩
  obtain ⟨b3, hb3⟩ : ∃ b3, b3 = w.heap.size + 1 + 1 + 1 := ⟨_, rfl⟩
  obtain ⟨b2, hb2⟩ : ∃ b2, b2 = w.heap.size + 1 + 1 := ⟨_, rfl⟩
  obtain ⟨b1, hb1⟩ : ∃ b1, b1 = w.heap.size + 1 := ⟨_, rfl⟩
  obtain ⟨b, hb⟩ : ∃ b, b = w.heap.size := ⟨_, rfl⟩
  have HX1 : Hid (SX w w1 b b1 b2 b3 (.slice A n c) (.int .i64 last) (.int .i64 2) (.string nm) (.slice Ap m cp) (.int .i64 N) (.bool false) (.slice none 0 0) (.int .i64 0) ∧ Below w.heap.size w w1 ∧ w.heap.size + 4 ≤ w1.heap.size) := by
    rw [hw1, hb3, hb2, hb1, hb]
    exact ⟨sx_new w _ _ _ _ _ _, ((((Below.refl _ _).alloc (Nat.le_refl _) _).alloc (by simp) _).alloc (by simp; omega) _).alloc (by simp; omega) _, by simp⟩
  have HNE : Hid (b = w.heap.size ∧ b1 = b + 1 ∧ b2 = b + 2 ∧ b3 = b + 3) := by simp only [Hid]; omega
  have n03 : ¬ (b = b3) ∧ ¬ (b3 = b) ∧ ¬ (b2 = b) ∧ ¬ (b = b2) ∧ ¬ (b2 = b3) ∧ ¬ (b3 = b2) ∧ ¬ (b1 = b) ∧ ¬ (b = b1) ∧ ¬ (b1 = b3) ∧ ¬ (b3 = b1) := by omega
  obtain ⟨n1, n2, n3, n4, n5, n6, n7, n8, n9, n10⟩ := n03
  go_enter Tryz.func7, Tryz.ntmps7
  go_wp2_with fail
  rw [← hw1, ← hb3, ← hb2, ← hb1, ← hb]
  clear hw1 hb3 hb2 hb1 hb
  refine (H1.out w1 HX1.out.2.1 HX1.out.2.2).mono ?_
  rintro e w2 ⟨A', n', c', rfl, hb2, hR1⟩
  have HR1 := Lib.hid hR1
  have HX2 := Lib.hid (HX1.out.1.below hb2)
  clear hR1 hb2
  obtain ⟨d0, d1, o0, o1, o2, o3, r0, r1, x0, x1, x2, fb, fr, fx⟩ := HX2.out.cells
  go_wp2_with fail
  refine (H2.out _ A' n' c' (HS1.out _ _ _ _ _ HR1.out (((((((Side.refl _ _ _).set _ _ _ (by have := HNE.out; omega) (by have := HNE.out; omega)).set _ _ _ (by have := HNE.out; omega) (by have := HNE.out; omega)).set _ _ _ (by have := HNE.out; omega) (by have := HNE.out; omega)).set _ _ _ (by have := HNE.out; omega) (by have := HNE.out; omega)).set _ _ _ (by have := HNE.out; omega) (by have := HNE.out; omega)))) (by have := HX2.out.n; simp [World.setCell]; omega)).mono ?_
  rintro e w4 ⟨rfl, hR2, hk4, hs4⟩
  have HX4 := Lib.hid ((HX2.out.put (.slice A' n' c') (.int .i64 last') (.bool bb) (.slice none 0 0) (.int .i64 mm)).keep hk4 hs4)
  have HR2 := Lib.hid hR2
  clear hR2 hk4 hs4
  obtain ⟨d0, d1, o0, o1, o2, o3, r0, r1, x0, x1, x2, fb, fr, fx⟩ := HX4.out.cells
  have HS4 : Hid (∀ W, Side w.heap.size (w.heap.size + 4) w4 W → R2 A' n' c' W) := fun W hW => HS2.out _ _ _ _ _ HR2.out hW
  have HD : Hid (Side w.heap.size (w.heap.size + 4) w4 w4.drew) := (Side.refl _ _ _).below (Below.refl _ _).drew
  have HX5 := Lib.hid (HX4.out.below (Below.refl _ _).drew)
  go_wp2_with fail
  obtain ⟨d0, d1, o0, o1, o2, o3, r0, r1, x0, x1, x2, fb, fr, fx⟩ := HX5.out.cells
  go_region_with (go_at_call 24; refine (H3.out _ A' n' c' (HS4.out _ HD.out)).mono ?_; rintro e w5 ⟨rfl, hb5⟩; have HD5 := Lib.hid (HD.out.below hb5); have HX6 := Lib.hid (HX5.out.below hb5); obtain ⟨d0, d1, o0, o1, o2, o3, r0, r1, x0, x1, x2, fb, fr, fx⟩ := HX6.out.cells)
  all_goals
    go_wp2
    refine bodyPost_ret (v := .tuple #[.agg #[.slice A' n' c', .int .i64 last'], .bool true]) ?_ rfl ?_
    · simp [results, Tryz.results7, go_sem, r0, r1, fr]
    · exact ⟨A', n', c', rfl, HS4.out _ ((HD5.out.set _ _ _ (by have := HNE.out; omega) (by have := HNE.out; omega)).set _ _ _ (by have := HNE.out; omega) (by have := HNE.out; omega))⟩

end Go.Proofs.YtfhdcjfkngflbaaGreatDoor
set_option linter.unusedSimpArgs false
set_option linter.unusedVariables false
namespace Go.Proofs.YtfhdcjfkngflbaaGreatDoor
open Go Go.RowKit

set_option maxRecDepth 100000 in
set_option maxHeartbeats 16000000 in
theorem step_3 (B : Nat) (A : Option Addr) (n c : Nat) (last last' : Int) (nm : ByteArray) (Ap : Option Addr) (m cp : Nat) (N : Int) (w : World) (ev : Value) (R1 R2 : Option Addr → Nat → Nat → World → Prop)
    (hs1 : ∀ A' n' c' W W', R1 A' n' c' W → Side w.heap.size (w.heap.size + 4) W W' → R1 A' n' c' W') (hs2 : ∀ A' n' c' W W', R2 A' n' c' W → Side w.heap.size (w.heap.size + 4) W W' → R2 A' n' c' W')
    (h1 : ∀ W, Below w.heap.size w W → w.heap.size + 4 ≤ W.heap.size → Calls Tryz.prog 22 #[.agg #[.slice A n c, .int .i64 last]] W fun e w' => ∃ (A' : Option Addr) (n' c' : Nat), e = .returned (.agg #[.slice A' n' c', .int .i64 last']) ∧ Below W.heap.size W w' ∧ R1 A' n' c' w')
    (h2 : ∀ W A' n' c', R1 A' n' c' W → w.heap.size + 4 ≤ W.heap.size → Calls Tryz.prog 11 #[.pointer (some ⟨B, 0, none⟩)] W fun e w' => e = .returned ev ∧ R2 A' n' c' w' ∧ (∀ g, w.heap.size ≤ g → g < w.heap.size + 4 → w'.heap[g]? = W.heap[g]?) ∧ W.heap.size ≤ w'.heap.size)
    (h3 : ∀ W A' n' c', R2 A' n' c' W → Calls Tryz.prog 24 #[ev, .agg #[.bool false, .slice none 0 0, .int .i64 0]] W fun e w' => e = .returned (.bool true) ∧ Below W.heap.size W w') :
    Calls Tryz.prog 7 #[.pointer (some ⟨B, 0, none⟩), .agg #[.slice A n c, .int .i64 last], .agg #[.int .i64 3, .string nm, .slice Ap m cp, .int .i64 N]] w fun e w' => ∃ (A' : Option Addr) (n' c' : Nat), e = .returned (.tuple #[.agg #[.slice A' n' c', .int .i64 last'], .bool true]) ∧ R2 A' n' c' w' := by
  have HS1 := Lib.hid hs1
  have HS2 := Lib.hid hs2
  have H1 := Lib.hid h1
  have H2 := Lib.hid h2
  have H3 := Lib.hid h3
  clear hs1 hs2 h1 h2 h3
  obtain ⟨w1, hw1⟩ : ∃ w1, w1 = ((((w.alloc (.cells #[.slice A n c, .int .i64 last] 29)).alloc (.cells #[.int .i64 3, .string nm, .slice Ap m cp, .int .i64 N] 32)).alloc (.cells #[.slice none 0 0, .int .i64 0] 29)).alloc (.cells #[.bool false, .slice none 0 0, .int .i64 0] 53)) := ⟨_, rfl⟩
  obtain ⟨b3, hb3⟩ : ∃ b3, b3 = w.heap.size + 1 + 1 + 1 := ⟨_, rfl⟩
  obtain ⟨b2, hb2⟩ : ∃ b2, b2 = w.heap.size + 1 + 1 := ⟨_, rfl⟩
  obtain ⟨b1, hb1⟩ : ∃ b1, b1 = w.heap.size + 1 := ⟨_, rfl⟩
  obtain ⟨b, hb⟩ : ∃ b, b = w.heap.size := ⟨_, rfl⟩
  have HX1 : Hid (SX w w1 b b1 b2 b3 (.slice A n c) (.int .i64 last) (.int .i64 3) (.string nm) (.slice Ap m cp) (.int .i64 N) (.bool false) (.slice none 0 0) (.int .i64 0) ∧ Below w.heap.size w w1 ∧ w.heap.size + 4 ≤ w1.heap.size) := by
    rw [hw1, hb3, hb2, hb1, hb]
    exact ⟨sx_new w _ _ _ _ _ _, ((((Below.refl _ _).alloc (Nat.le_refl _) _).alloc (by simp) _).alloc (by simp; omega) _).alloc (by simp; omega) _, by simp⟩
  have HNE : Hid (b = w.heap.size ∧ b1 = b + 1 ∧ b2 = b + 2 ∧ b3 = b + 3) := by simp only [Hid]; omega
  have n03 : ¬ (b = b3) ∧ ¬ (b3 = b) ∧ ¬ (b2 = b) ∧ ¬ (b = b2) ∧ ¬ (b2 = b3) ∧ ¬ (b3 = b2) ∧ ¬ (b1 = b) ∧ ¬ (b = b1) ∧ ¬ (b1 = b3) ∧ ¬ (b3 = b1) := by omega
  obtain ⟨n1, n2, n3, n4, n5, n6, n7, n8, n9, n10⟩ := n03
  go_enter Tryz.func7, Tryz.ntmps7
  go_wp2_with fail
  rw [← hw1, ← hb3, ← hb2, ← hb1, ← hb]
  clear hw1 hb3 hb2 hb1 hb
  refine (H1.out w1 HX1.out.2.1 HX1.out.2.2).mono ?_
  rintro e w2 ⟨A', n', c', rfl, hb2, hR1⟩
  have HR1 := Lib.hid hR1
  have HX2 := Lib.hid (HX1.out.1.below hb2)
  clear hR1 hb2
  obtain ⟨d0, d1, o0, o1, o2, o3, r0, r1, x0, x1, x2, fb, fr, fx⟩ := HX2.out.cells
  go_wp2_with fail
  refine (H2.out _ A' n' c' (HS1.out _ _ _ _ _ HR1.out (((Side.refl _ _ _).set _ _ _ (by have := HNE.out; omega) (by have := HNE.out; omega)).set _ _ _ (by have := HNE.out; omega) (by have := HNE.out; omega))) (by have := HX2.out.n; simp [World.setCell]; omega)).mono ?_
  rintro e w4 ⟨rfl, hR2, hk4, hs4⟩
  have HX4 := Lib.hid ((HX2.out.put2 (.slice A' n' c') (.int .i64 last')).keep hk4 hs4)
  have HR2 := Lib.hid hR2
  clear hR2 hk4 hs4
  obtain ⟨d0, d1, o0, o1, o2, o3, r0, r1, x0, x1, x2, fb, fr, fx⟩ := HX4.out.cells
  have HS4 : Hid (∀ W, Side w.heap.size (w.heap.size + 4) w4 W → R2 A' n' c' W) := fun W hW => HS2.out _ _ _ _ _ HR2.out hW
  have HD : Hid (Side w.heap.size (w.heap.size + 4) w4 w4.drew) := (Side.refl _ _ _).below (Below.refl _ _).drew
  have HX5 := Lib.hid (HX4.out.below (Below.refl _ _).drew)
  go_wp2_with fail
  obtain ⟨d0, d1, o0, o1, o2, o3, r0, r1, x0, x1, x2, fb, fr, fx⟩ := HX5.out.cells
  go_region_with (go_at_call 24; refine (H3.out _ A' n' c' (HS4.out _ HD.out)).mono ?_; rintro e w5 ⟨rfl, hb5⟩; have HD5 := Lib.hid (HD.out.below hb5); have HX6 := Lib.hid (HX5.out.below hb5); obtain ⟨d0, d1, o0, o1, o2, o3, r0, r1, x0, x1, x2, fb, fr, fx⟩ := HX6.out.cells)
  all_goals
    go_wp2
    refine bodyPost_ret (v := .tuple #[.agg #[.slice A' n' c', .int .i64 last'], .bool true]) ?_ rfl ?_
    · simp [results, Tryz.results7, go_sem, r0, r1, fr]
    · exact ⟨A', n', c', rfl, HS4.out _ ((HD5.out.set _ _ _ (by have := HNE.out; omega) (by have := HNE.out; omega)).set _ _ _ (by have := HNE.out; omega) (by have := HNE.out; omega))⟩

end Go.Proofs.YtfhdcjfkngflbaaGreatDoor
set_option linter.unusedSimpArgs false
set_option linter.unusedVariables false
namespace Go.Proofs.YtfhdcjfkngflbaaGreatDoor
open Go Go.RowKit

set_option maxRecDepth 100000 in
set_option maxHeartbeats 16000000 in
theorem step_4 (B : Nat) (A : Option Addr) (n c : Nat) (last last' : Int) (nm : ByteArray) (Ap : Option Addr) (m cp : Nat) (N : Int) (w : World) (ev : Value) (bb : Bool) (mm : Int) (R1 R2 : Option Addr → Nat → Nat → World → Prop)
    (hs1 : ∀ A' n' c' W W', R1 A' n' c' W → Side w.heap.size (w.heap.size + 4) W W' → R1 A' n' c' W') (hs2 : ∀ A' n' c' W W', R2 A' n' c' W → Side w.heap.size (w.heap.size + 4) W W' → R2 A' n' c' W')
    (h1 : ∀ W, Below w.heap.size w W → w.heap.size + 4 ≤ W.heap.size → Calls Tryz.prog 23 #[.agg #[.slice A n c, .int .i64 last], .int .i64 N] W fun e w' => ∃ (A' : Option Addr) (n' c' : Nat), e = .returned (.tuple #[.agg #[.slice A' n' c', .int .i64 last'], .agg #[.bool bb, .slice none 0 0, .int .i64 mm]]) ∧ Below W.heap.size W w' ∧ R1 A' n' c' w')
    (h2 : ∀ W A' n' c', R1 A' n' c' W → w.heap.size + 4 ≤ W.heap.size → Calls Tryz.prog 13 #[.pointer (some ⟨B, 0, none⟩), .int .i64 N] W fun e w' => e = .returned ev ∧ R2 A' n' c' w' ∧ (∀ g, w.heap.size ≤ g → g < w.heap.size + 4 → w'.heap[g]? = W.heap[g]?) ∧ W.heap.size ≤ w'.heap.size)
    (h3 : ∀ W A' n' c', R2 A' n' c' W → Calls Tryz.prog 24 #[ev, .agg #[.bool bb, .slice none 0 0, .int .i64 mm]] W fun e w' => e = .returned (.bool true) ∧ Below W.heap.size W w') :
    Calls Tryz.prog 7 #[.pointer (some ⟨B, 0, none⟩), .agg #[.slice A n c, .int .i64 last], .agg #[.int .i64 4, .string nm, .slice Ap m cp, .int .i64 N]] w fun e w' => ∃ (A' : Option Addr) (n' c' : Nat), e = .returned (.tuple #[.agg #[.slice A' n' c', .int .i64 last'], .bool true]) ∧ R2 A' n' c' w' := by
  have HS1 := Lib.hid hs1
  have HS2 := Lib.hid hs2
  have H1 := Lib.hid h1
  have H2 := Lib.hid h2
  have H3 := Lib.hid h3
  clear hs1 hs2 h1 h2 h3
  obtain ⟨w1, hw1⟩ : ∃ w1, w1 = ((((w.alloc (.cells #[.slice A n c, .int .i64 last] 29)).alloc (.cells #[.int .i64 4, .string nm, .slice Ap m cp, .int .i64 N] 32)).alloc (.cells #[.slice none 0 0, .int .i64 0] 29)).alloc (.cells #[.bool false, .slice none 0 0, .int .i64 0] 53)) := ⟨_, rfl⟩
  obtain ⟨b3, hb3⟩ : ∃ b3, b3 = w.heap.size + 1 + 1 + 1 := ⟨_, rfl⟩
  obtain ⟨b2, hb2⟩ : ∃ b2, b2 = w.heap.size + 1 + 1 := ⟨_, rfl⟩
  obtain ⟨b1, hb1⟩ : ∃ b1, b1 = w.heap.size + 1 := ⟨_, rfl⟩
  obtain ⟨b, hb⟩ : ∃ b, b = w.heap.size := ⟨_, rfl⟩
  have HX1 : Hid (SX w w1 b b1 b2 b3 (.slice A n c) (.int .i64 last) (.int .i64 4) (.string nm) (.slice Ap m cp) (.int .i64 N) (.bool false) (.slice none 0 0) (.int .i64 0) ∧ Below w.heap.size w w1 ∧ w.heap.size + 4 ≤ w1.heap.size) := by
    rw [hw1, hb3, hb2, hb1, hb]
    exact ⟨sx_new w _ _ _ _ _ _, ((((Below.refl _ _).alloc (Nat.le_refl _) _).alloc (by simp) _).alloc (by simp; omega) _).alloc (by simp; omega) _, by simp⟩
  have HNE : Hid (b = w.heap.size ∧ b1 = b + 1 ∧ b2 = b + 2 ∧ b3 = b + 3) := by simp only [Hid]; omega
  have n03 : ¬ (b = b3) ∧ ¬ (b3 = b) ∧ ¬ (b2 = b) ∧ ¬ (b = b2) ∧ ¬ (b2 = b3) ∧ ¬ (b3 = b2) ∧ ¬ (b1 = b) ∧ ¬ (b = b1) ∧ ¬ (b1 = b3) ∧ ¬ (b3 = b1) := by omega
  obtain ⟨n1, n2, n3, n4, n5, n6, n7, n8, n9, n10⟩ := n03
  go_enter Tryz.func7, Tryz.ntmps7
  go_wp2_with fail
  rw [← hw1, ← hb3, ← hb2, ← hb1, ← hb]
  clear hw1 hb3 hb2 hb1 hb
  refine (H1.out w1 HX1.out.2.1 HX1.out.2.2).mono ?_
  rintro e w2 ⟨A', n', c', rfl, hb2, hR1⟩
  have HR1 := Lib.hid hR1
  have HX2 := Lib.hid (HX1.out.1.below hb2)
  clear hR1 hb2
  obtain ⟨d0, d1, o0, o1, o2, o3, r0, r1, x0, x1, x2, fb, fr, fx⟩ := HX2.out.cells
  go_wp2_with fail
  refine (H2.out _ A' n' c' (HS1.out _ _ _ _ _ HR1.out (((((((Side.refl _ _ _).set _ _ _ (by have := HNE.out; omega) (by have := HNE.out; omega)).set _ _ _ (by have := HNE.out; omega) (by have := HNE.out; omega)).set _ _ _ (by have := HNE.out; omega) (by have := HNE.out; omega)).set _ _ _ (by have := HNE.out; omega) (by have := HNE.out; omega)).set _ _ _ (by have := HNE.out; omega) (by have := HNE.out; omega)))) (by have := HX2.out.n; simp [World.setCell]; omega)).mono ?_
  rintro e w4 ⟨rfl, hR2, hk4, hs4⟩
  have HX4 := Lib.hid ((HX2.out.put (.slice A' n' c') (.int .i64 last') (.bool bb) (.slice none 0 0) (.int .i64 mm)).keep hk4 hs4)
  have HR2 := Lib.hid hR2
  clear hR2 hk4 hs4
  obtain ⟨d0, d1, o0, o1, o2, o3, r0, r1, x0, x1, x2, fb, fr, fx⟩ := HX4.out.cells
  have HS4 : Hid (∀ W, Side w.heap.size (w.heap.size + 4) w4 W → R2 A' n' c' W) := fun W hW => HS2.out _ _ _ _ _ HR2.out hW
  have HD : Hid (Side w.heap.size (w.heap.size + 4) w4 w4.drew) := (Side.refl _ _ _).below (Below.refl _ _).drew
  have HX5 := Lib.hid (HX4.out.below (Below.refl _ _).drew)
  go_wp2_with fail
  obtain ⟨d0, d1, o0, o1, o2, o3, r0, r1, x0, x1, x2, fb, fr, fx⟩ := HX5.out.cells
  go_region_with (go_at_call 24; refine (H3.out _ A' n' c' (HS4.out _ HD.out)).mono ?_; rintro e w5 ⟨rfl, hb5⟩; have HD5 := Lib.hid (HD.out.below hb5); have HX6 := Lib.hid (HX5.out.below hb5); obtain ⟨d0, d1, o0, o1, o2, o3, r0, r1, x0, x1, x2, fb, fr, fx⟩ := HX6.out.cells)
  all_goals
    go_wp2
    refine bodyPost_ret (v := .tuple #[.agg #[.slice A' n' c', .int .i64 last'], .bool true]) ?_ rfl ?_
    · simp [results, Tryz.results7, go_sem, r0, r1, fr]
    · exact ⟨A', n', c', rfl, HS4.out _ ((HD5.out.set _ _ _ (by have := HNE.out; omega) (by have := HNE.out; omega)).set _ _ _ (by have := HNE.out; omega) (by have := HNE.out; omega))⟩

end Go.Proofs.YtfhdcjfkngflbaaGreatDoor
set_option linter.unusedSimpArgs false
set_option linter.unusedVariables false
namespace Go.Proofs.YtfhdcjfkngflbaaGreatDoor
open Go Go.RowKit

set_option maxRecDepth 100000 in
set_option maxHeartbeats 16000000 in
theorem step_ask (B : Nat) (A : Option Addr) (n c : Nat) (last : Int) (K : Int) (nm : ByteArray) (Ap : Option Addr) (m cp : Nat) (N : Int) (w : World) (hK : K ≠ 0 ∧ K ≠ 1 ∧ K ≠ 2 ∧ K ≠ 3 ∧ K ≠ 4)
    (h1 : ∀ W, Below w.heap.size w W → Calls Tryz.prog 9 #[.pointer (some ⟨B, 0, none⟩), .agg #[.slice A n c, .int .i64 last], .string nm] W fun e w' => e = .returned (.bool true) ∧ Below W.heap.size W w') :
    Calls Tryz.prog 7 #[.pointer (some ⟨B, 0, none⟩), .agg #[.slice A n c, .int .i64 last], .agg #[.int .i64 K, .string nm, .slice Ap m cp, .int .i64 N]] w fun e w' => e = .returned (.tuple #[.agg #[.slice A n c, .int .i64 last], .bool true]) ∧ Below w.heap.size w w' := by
  have H1 := Lib.hid h1
  have k0 : (K == 0) = false := by simpa using hK.1
  have k1 : (K == 1) = false := by simpa using hK.2.1
  have k2 : (K == 2) = false := by simpa using hK.2.2.1
  have k3 : (K == 3) = false := by simpa using hK.2.2.2.1
  have k4 : (K == 4) = false := by simpa using hK.2.2.2.2
  clear h1 hK
  obtain ⟨w1, hw1⟩ : ∃ w1, w1 = ((((w.alloc (.cells #[.slice A n c, .int .i64 last] 29)).alloc (.cells #[.int .i64 K, .string nm, .slice Ap m cp, .int .i64 N] 32)).alloc (.cells #[.slice none 0 0, .int .i64 0] 29)).alloc (.cells #[.bool false, .slice none 0 0, .int .i64 0] 53)) := ⟨_, rfl⟩
  obtain ⟨b3, hb3⟩ : ∃ b3, b3 = w.heap.size + 1 + 1 + 1 := ⟨_, rfl⟩
  obtain ⟨b2, hb2⟩ : ∃ b2, b2 = w.heap.size + 1 + 1 := ⟨_, rfl⟩
  obtain ⟨b1, hb1⟩ : ∃ b1, b1 = w.heap.size + 1 := ⟨_, rfl⟩
  obtain ⟨b, hb⟩ : ∃ b, b = w.heap.size := ⟨_, rfl⟩
  have HX1 : Hid (SX w w1 b b1 b2 b3 (.slice A n c) (.int .i64 last) (.int .i64 K) (.string nm) (.slice Ap m cp) (.int .i64 N) (.bool false) (.slice none 0 0) (.int .i64 0) ∧ Below w.heap.size w w1) := by
    rw [hw1, hb3, hb2, hb1, hb]
    exact ⟨sx_new w _ _ _ _ _ _, ((((Below.refl _ _).alloc (Nat.le_refl _) _).alloc (by simp) _).alloc (by simp; omega) _).alloc (by simp; omega) _⟩
  have HNE : Hid (b = w.heap.size ∧ b1 = b + 1 ∧ b2 = b + 2 ∧ b3 = b + 3) := by simp only [Hid]; omega
  have HX5 := Lib.hid (HX1.out.1.below (Below.refl _ _).drew)
  have HB5 : Hid (Below w.heap.size w w1.drew) := HX1.out.2.drew
  go_enter Tryz.func7, Tryz.ntmps7
  go_wp2_with fail
  rw [← hw1, ← hb3, ← hb2, ← hb1, ← hb]
  clear hw1 hb3 hb2 hb1 hb
  obtain ⟨d0, d1, o0, o1, o2, o3, r0, r1, x0, x1, x2, fb, fr, fx⟩ := HX5.out.cells
  go_region_with (go_at_call 9; refine (H1.out _ HB5.out).mono ?_; rintro e w5 ⟨rfl, hb5⟩; have HB6 := Lib.hid (HB5.out.trans (hb5.mono HB5.out.size)); have HX6 := Lib.hid (HX5.out.below hb5); obtain ⟨d0, d1, o0, o1, o2, o3, r0, r1, x0, x1, x2, fb, fr, fx⟩ := HX6.out.cells)
  all_goals
    go_wp2
    refine bodyPost_ret (v := .tuple #[.agg #[.slice A n c, .int .i64 last], .bool true]) ?_ rfl ?_
    · simp [results, Tryz.results7, go_sem, r0, r1, fr]
    · exact ⟨rfl, belowS (belowS HB6.out (by have := HNE.out; omega) _) (by have := HNE.out; omega) _⟩
end Go.Proofs.YtfhdcjfkngflbaaGreatDoor
