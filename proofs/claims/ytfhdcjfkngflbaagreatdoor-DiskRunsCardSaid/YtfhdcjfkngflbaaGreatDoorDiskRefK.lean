/-
  disk: the document's Append, Cut, Delete, where they refuse. Own work.
-/
import Derived.Test.YtfhdcjfkngflbaaGreatDoorP7
import Derived.Deep.RegionHeldLaw
set_option linter.unusedSimpArgs false
set_option linter.unusedVariables false
namespace Go.Proofs.YtfhdcjfkngflbaaGreatDoor
open Go Go.RowKit

/-- An answer's error as the document tells it. -/
def eV (o : Option Int) : Value := match o with
  | none => .agg #[.bool false, .slice none 0 0, .int .i64 0]
  | some n => .agg #[.bool true, .slice none 0 0, .int .i64 n]
theorem eV_some (k : Int) : eV (some k) = .agg #[.bool true, .slice none 0 0, .int .i64 k] := rfl
/-- The three boxes of a call: the disk that came in, the two results. -/
structure Bx3 (w0 W : World) (b0 b1 b2 : Nat) (v0 v1 : Value) : Prop where
  d : W.heap[b0]? = some (.cells #[v0, v1] 29 (0, 0))
  r : W.heap[b1]? = some (.cells #[.slice none 0 0, .int .i64 0] 29 (0, 0))
  e : W.heap[b2]? = some (.cells #[.bool false, .slice none 0 0, .int .i64 0] 53 (0, 0))
  n1 : w0.heap.size ≤ b0 ∧ b0 < b1 ∧ b1 < b2
  old : Below w0.heap.size w0 W
section
variable {w0 W W' : World} {b0 b1 b2 : Nat} {v0 v1 : Value}
theorem Bx3.below (h : Bx3 w0 W b0 b1 b2 v0 v1) (hb : Below W.heap.size W W') : Bx3 w0 W' b0 b1 b2 v0 v1 :=
  ⟨(hb.block _ (Array.getElem?_eq_some_iff.1 h.d).1).trans h.d, (hb.block _ (Array.getElem?_eq_some_iff.1 h.r).1).trans h.r, (hb.block _ (Array.getElem?_eq_some_iff.1 h.e).1).trans h.e, h.n1, h.old.trans (hb.mono h.old.size)⟩
theorem bx3_new (w : World) (v0 v1 : Value) : Bx3 w (((w.alloc (.cells #[v0, v1] 29)).alloc (.cells #[.slice none 0 0, .int .i64 0] 29)).alloc (.cells #[.bool false, .slice none 0 0, .int .i64 0] 53)) w.heap.size (w.heap.size + 1) (w.heap.size + 1 + 1) v0 v1 := by
  refine ⟨?_, ?_, ?_, by omega, (((Below.refl _ _).alloc (Nat.le_refl _) _).alloc (by simp) _).alloc (by simp; omega) _⟩
  · rw [Below.heap_alloc _ _ _ (by simp; omega), Below.heap_alloc _ _ _ (by simp), heap_alloc_new]
  · rw [Below.heap_alloc _ _ _ (by simp)]
    have := heap_alloc_new (w.alloc (.cells #[v0, v1] 29)) (.cells #[.slice none 0 0, .int .i64 0] 29)
    simpa using this
  · have := heap_alloc_new ((w.alloc (.cells #[v0, v1] 29)).alloc (.cells #[.slice none 0 0, .int .i64 0] 29)) (.cells #[.bool false, .slice none 0 0, .int .i64 0] 53)
    simpa using this
theorem Bx3.cells (h : Bx3 w0 W b0 b1 b2 v0 v1) : W.cell? ⟨b0, 0, none⟩ = some v0 ∧ W.cell? ⟨b0, 1, none⟩ = some v1 ∧ W.cell? ⟨b1, 0, none⟩ = some (.slice none 0 0) ∧ W.cell? ⟨b1, 1, none⟩ = some (.int .i64 0) ∧ W.cell? ⟨b2, 0, none⟩ = some (.bool false) ∧ W.cell? ⟨b2, 1, none⟩ = some (.slice none 0 0) ∧ W.cell? ⟨b2, 2, none⟩ = some (.int .i64 0) ∧ (∀ i, W.frozen? ⟨b1, i, none⟩ = false) ∧ (∀ i, W.frozen? ⟨b2, i, none⟩ = false) := by
  refine ⟨?_, ?_, ?_, ?_, ?_, ?_, ?_, fun i => ?_, fun i => ?_⟩ <;> simp [World.cell?, World.frozen?, h.d, h.r, h.e]
theorem Bx3.ne (h : Bx3 w0 W b0 b1 b2 v0 v1) : ¬ (b0 = b1) ∧ ¬ (b0 = b2) ∧ ¬ (b1 = b2) ∧ ¬ (b1 = b0) ∧ ¬ (b2 = b0) ∧ ¬ (b2 = b1) := by have := h.n1; omega
theorem belowS {B b i : Nat} {a w : World} (h : Below B a w) (hb : B ≤ b) (v : Value) : Below B a (w.setCell ⟨b, i, none⟩ v) := h.setCell (p := ⟨b, i, none⟩) hb v
end
theorem place_any (O : Nat → Prop) (A : Option Addr) (n c : Nat) (L : List RF) (last : Int) (name : ByteArray) (w : World) (h : RefD O w A n c L) (hn : n ≤ 64) (hs : Sorted L) :
    Calls Tryz.prog 35 #[.agg #[.slice A n c, .int .i64 last], .string name] w fun e w' => ∃ r : Int, e = .returned (.int .i64 r) ∧ Below w.heap.size w w' := by
  by_cases hx : ∃ f ∈ L, f.name = name
  · obtain ⟨f, hf, rfl⟩ := hx
    obtain ⟨i, hi⟩ := List.mem_iff_getElem?.1 hf
    refine (place_some O A n c L last w h hn hs i f hi).mono ?_
    rintro e w' ⟨rfl, hb⟩
    exact ⟨_, rfl, hb⟩
  · refine (place_none O A n c L last name w h hn fun f hf e => hx ⟨f, hf, e⟩).mono ?_
    rintro e w' ⟨rfl, hb⟩
    exact ⟨_, rfl, hb⟩

-- PRINTED FROM HERE
set_option maxRecDepth 100000 in
set_option maxHeartbeats 2000000 in
theorem refapp_name (O : Nat → Prop) (A : Option Addr) (n c : Nat) (L : List RF) (last : Int) (name : ByteArray) (Ap : Option Addr) (m cp : Nat) (w : World) (h : RefD O w A n c L) (hn : n ≤ 64) (hs : Sorted L) (hks : name.size ≤ 4611686018427387904) (hnm : nmB name = false) :
    Calls Tryz.prog 16 #[.agg #[.slice A n c, .int .i64 last], .string name, .slice Ap m cp] w fun e w' => e = .returned (.tuple #[.agg #[.slice A n c, .int .i64 last], eV (some 1)]) ∧ Hid (Below w.heap.size w w') := by
  obtain ⟨w1, hw1⟩ : ∃ w1, w1 = ((w.alloc (.cells #[.slice A n c, .int .i64 last] 29)).alloc (.cells #[.slice none 0 0, .int .i64 0] 29)).alloc (.cells #[.bool false, .slice none 0 0, .int .i64 0] 53) := ⟨_, rfl⟩
  obtain ⟨b2, hb2⟩ : ∃ b2, b2 = w.heap.size + 1 + 1 := ⟨_, rfl⟩
  obtain ⟨b1, hb1⟩ : ∃ b1, b1 = w.heap.size + 1 := ⟨_, rfl⟩
  obtain ⟨b0, hb0⟩ : ∃ b0, b0 = w.heap.size := ⟨_, rfl⟩
  have H1 : Hid (Bx3 w w1 b0 b1 b2 (.slice A n c) (.int .i64 last)) := by
    rw [hw1, hb2, hb1, hb0]; exact bx3_new w _ _
  have HE : Hid (∀ W, Below w1.heap.size w1 W → Bx3 w W b0 b1 b2 (.slice A n c) (.int .i64 last)) := fun W hW => H1.out.below hW
  have HPL : Hid (Calls Tryz.prog 35 #[.agg #[.slice A n c, .int .i64 last], .string name] w1 fun e w' => ∃ r : Int, e = .returned (.int .i64 r) ∧ Below w1.heap.size w1 w') := place_any O A n c L last name w1 (h.below H1.out.old) hn hs
  have HNM : Hid (∀ W, Calls Tryz.prog 36 #[.string name] W fun e w' => e = .returned (.bool false) ∧ W = w') := fun W => by
    have := refname_any name W hks; rw [hnm] at this; exact this
  clear h hn hs hks hnm
  go_enter Tryz.func16, Tryz.ntmps16
  go_wp2_with fail
  rw [← hw1, ← hb2, ← hb1, ← hb0]
  have HSZ : Hid (w.heap.size ≤ b1 ∧ w.heap.size ≤ b2) := by simp only [Hid]; omega
  clear hw1 hb2 hb1 hb0
  refine HPL.out.mono ?_
  rintro e w2 ⟨r, rfl, hb⟩
  have H2 := Lib.hid hb
  clear hb
  go_wp2_with fail
  refine (HNM.out _).mono ?_
  rintro e w3 ⟨rfl, rfl⟩
  have H3 := Lib.hid (HE.out w2 H2.out)
  clear HPL H1
  obtain ⟨d0, d1, r0, r1, e0, e1, e2, fr, fe⟩ := H3.out.cells
  obtain ⟨n01, n02, n12, n10, n20, n21⟩ := H3.out.ne
  go_wp2
  go_region_with (go_at_call 37; refine (n_any 1 _).mono ?_; rintro e w4 ⟨rfl, hb4⟩; have H4 := Lib.hid (H3.out.below ((Below.refl _ _).drew.trans (by exact hb4))); obtain ⟨d0, d1, r0, r1, e0, e1, e2, fr, fe⟩ := H4.out.cells)
  all_goals
    go_wp2
    refine bodyPost_ret (v := .tuple #[.agg #[.slice A n c, .int .i64 last], eV (some 1)]) ?_ rfl ?_
    · simp [results, Tryz.results16, go_sem, eV, d0, d1, r0, r1, e0, e1, e2, fr, fe, n01, n02, n12, n10, n20, n21]
    · exact ⟨rfl, belowS (belowS (belowS (belowS (belowS H4.out.old HSZ.out.1 _) HSZ.out.1 _) HSZ.out.2 _) HSZ.out.2 _) HSZ.out.2 _⟩

set_option maxRecDepth 100000 in
set_option maxHeartbeats 2000000 in
theorem refapp_full (O : Nat → Prop) (A : Option Addr) (n c : Nat) (L : List RF) (last : Int) (name : ByteArray) (Ap : Option Addr) (m cp : Nat) (w : World) (h : RefD O w A n c L) (hn : n ≤ 64) (hs : Sorted L) (hks : name.size ≤ 4611686018427387904) (hnm : nmB name = true) (hk : ∀ f ∈ L, f.name ≠ name) (h64 : 64 ≤ n) :
    Calls Tryz.prog 16 #[.agg #[.slice A n c, .int .i64 last], .string name, .slice Ap m cp] w fun e w' => e = .returned (.tuple #[.agg #[.slice A n c, .int .i64 last], eV (some 11)]) ∧ Hid (Below w.heap.size w w') := by
  obtain ⟨w1, hw1⟩ : ∃ w1, w1 = ((w.alloc (.cells #[.slice A n c, .int .i64 last] 29)).alloc (.cells #[.slice none 0 0, .int .i64 0] 29)).alloc (.cells #[.bool false, .slice none 0 0, .int .i64 0] 53) := ⟨_, rfl⟩
  obtain ⟨b2, hb2⟩ : ∃ b2, b2 = w.heap.size + 1 + 1 := ⟨_, rfl⟩
  obtain ⟨b1, hb1⟩ : ∃ b1, b1 = w.heap.size + 1 := ⟨_, rfl⟩
  obtain ⟨b0, hb0⟩ : ∃ b0, b0 = w.heap.size := ⟨_, rfl⟩
  have H1 : Hid (Bx3 w w1 b0 b1 b2 (.slice A n c) (.int .i64 last)) := by
    rw [hw1, hb2, hb1, hb0]; exact bx3_new w _ _
  have HE : Hid (∀ W, Below w1.heap.size w1 W → Bx3 w W b0 b1 b2 (.slice A n c) (.int .i64 last)) := fun W hW => H1.out.below hW
  have HPL : Hid (Calls Tryz.prog 35 #[.agg #[.slice A n c, .int .i64 last], .string name] w1 fun e w' => e = .returned (.int .i64 (-1)) ∧ Below w1.heap.size w1 w') := place_none O A n c L last name w1 (h.below H1.out.old) hn hk
  have HNM : Hid (∀ W, Calls Tryz.prog 36 #[.string name] W fun e w' => e = .returned (.bool true) ∧ W = w') := fun W => by
    have := refname_any name W hks; rw [hnm] at this; exact this
  have dn : decide ((n : Int) ≥ 64) = true := by rw [decide_eq_true_iff]; omega
  clear h hn hs hks hnm hk h64
  go_enter Tryz.func16, Tryz.ntmps16
  go_wp2_with fail
  rw [← hw1, ← hb2, ← hb1, ← hb0]
  have HSZ : Hid (w.heap.size ≤ b1 ∧ w.heap.size ≤ b2) := by simp only [Hid]; omega
  clear hw1 hb2 hb1 hb0
  refine HPL.out.mono ?_
  rintro e w2 ⟨rfl, hb⟩
  have H2 := Lib.hid hb
  clear hb
  go_wp2_with fail
  refine (HNM.out _).mono ?_
  rintro e w3 ⟨rfl, rfl⟩
  have H3 := Lib.hid (HE.out w2 H2.out)
  clear HPL H1
  obtain ⟨d0, d1, r0, r1, e0, e1, e2, fr, fe⟩ := H3.out.cells
  obtain ⟨n01, n02, n12, n10, n20, n21⟩ := H3.out.ne
  go_wp2
  go_region_with (go_at_call 37; refine (n_any 11 _).mono ?_; rintro e w4 ⟨rfl, hb4⟩; have H4 := Lib.hid (H3.out.below ((Below.refl _ _).drew.trans (by exact hb4))); obtain ⟨d0, d1, r0, r1, e0, e1, e2, fr, fe⟩ := H4.out.cells)
  all_goals
    go_wp2
    refine bodyPost_ret (v := .tuple #[.agg #[.slice A n c, .int .i64 last], eV (some 11)]) ?_ rfl ?_
    · simp [results, Tryz.results16, go_sem, eV, d0, d1, r0, r1, e0, e1, e2, fr, fe, n01, n02, n12, n10, n20, n21]
    · exact ⟨rfl, belowS (belowS (belowS (belowS (belowS H4.out.old HSZ.out.1 _) HSZ.out.1 _) HSZ.out.2 _) HSZ.out.2 _) HSZ.out.2 _⟩

set_option maxRecDepth 100000 in
set_option maxHeartbeats 2000000 in
theorem refcut_none (O : Nat → Prop) (A : Option Addr) (n c : Nat) (L : List RF) (last : Int) (name : ByteArray) (k : Int) (w : World) (h : RefD O w A n c L) (hn : n ≤ 64) (hs : Sorted L) (hk : ∀ f ∈ L, f.name ≠ name) :
    Calls Tryz.prog 18 #[.agg #[.slice A n c, .int .i64 last], .string name, .int .i64 k] w fun e w' => e = .returned (.tuple #[.agg #[.slice A n c, .int .i64 last], eV (some 10)]) ∧ Hid (Below w.heap.size w w') := by
  obtain ⟨w1, hw1⟩ : ∃ w1, w1 = ((w.alloc (.cells #[.slice A n c, .int .i64 last] 29)).alloc (.cells #[.slice none 0 0, .int .i64 0] 29)).alloc (.cells #[.bool false, .slice none 0 0, .int .i64 0] 53) := ⟨_, rfl⟩
  obtain ⟨b2, hb2⟩ : ∃ b2, b2 = w.heap.size + 1 + 1 := ⟨_, rfl⟩
  obtain ⟨b1, hb1⟩ : ∃ b1, b1 = w.heap.size + 1 := ⟨_, rfl⟩
  obtain ⟨b0, hb0⟩ : ∃ b0, b0 = w.heap.size := ⟨_, rfl⟩
  have H1 : Hid (Bx3 w w1 b0 b1 b2 (.slice A n c) (.int .i64 last)) := by
    rw [hw1, hb2, hb1, hb0]; exact bx3_new w _ _
  have HE : Hid (∀ W, Below w1.heap.size w1 W → Bx3 w W b0 b1 b2 (.slice A n c) (.int .i64 last)) := fun W hW => H1.out.below hW
  have HPL : Hid (Calls Tryz.prog 35 #[.agg #[.slice A n c, .int .i64 last], .string name] w1 fun e w' => e = .returned (.int .i64 (-1)) ∧ Below w1.heap.size w1 w') := place_none O A n c L last name w1 (h.below H1.out.old) hn hk
  clear h hn hs hk
  go_enter Tryz.func18, Tryz.ntmps18
  go_wp2_with fail
  rw [← hw1, ← hb2, ← hb1, ← hb0]
  have HSZ : Hid (w.heap.size ≤ b1 ∧ w.heap.size ≤ b2) := by simp only [Hid]; omega
  clear hw1 hb2 hb1 hb0
  refine HPL.out.mono ?_
  rintro e w2 ⟨rfl, hb⟩
  have H2 := Lib.hid hb
  clear hb
  have H3 := Lib.hid (HE.out w2 H2.out)
  clear HPL H1
  obtain ⟨d0, d1, r0, r1, e0, e1, e2, fr, fe⟩ := H3.out.cells
  obtain ⟨n01, n02, n12, n10, n20, n21⟩ := H3.out.ne
  go_wp2
  go_region_with (go_at_call 37; refine (n_any 10 _).mono ?_; rintro e w4 ⟨rfl, hb4⟩; have H4 := Lib.hid (H3.out.below ((Below.refl _ _).drew.trans (by exact hb4))); obtain ⟨d0, d1, r0, r1, e0, e1, e2, fr, fe⟩ := H4.out.cells)
  all_goals
    go_wp2
    refine bodyPost_ret (v := .tuple #[.agg #[.slice A n c, .int .i64 last], eV (some 10)]) ?_ rfl ?_
    · simp [results, Tryz.results18, go_sem, eV, d0, d1, r0, r1, e0, e1, e2, fr, fe, n01, n02, n12, n10, n20, n21]
    · exact ⟨rfl, belowS (belowS (belowS (belowS (belowS H4.out.old HSZ.out.1 _) HSZ.out.1 _) HSZ.out.2 _) HSZ.out.2 _) HSZ.out.2 _⟩

set_option maxRecDepth 100000 in
set_option maxHeartbeats 2000000 in
theorem refcut_neg (O : Nat → Prop) (A : Option Addr) (n c : Nat) (L : List RF) (last : Int) (name : ByteArray) (k : Int) (w : World) (h : RefD O w A n c L) (hn : n ≤ 64) (hs : Sorted L) (i : Nat) (f0 : RF) (hi : L[i]? = some f0) (hf0 : f0.name = name) (hneg : k < 0) :
    Calls Tryz.prog 18 #[.agg #[.slice A n c, .int .i64 last], .string name, .int .i64 k] w fun e w' => e = .returned (.tuple #[.agg #[.slice A n c, .int .i64 last], eV (some 1)]) ∧ Hid (Below w.heap.size w w') := by
  obtain ⟨w1, hw1⟩ : ∃ w1, w1 = ((w.alloc (.cells #[.slice A n c, .int .i64 last] 29)).alloc (.cells #[.slice none 0 0, .int .i64 0] 29)).alloc (.cells #[.bool false, .slice none 0 0, .int .i64 0] 53) := ⟨_, rfl⟩
  obtain ⟨b2, hb2⟩ : ∃ b2, b2 = w.heap.size + 1 + 1 := ⟨_, rfl⟩
  obtain ⟨b1, hb1⟩ : ∃ b1, b1 = w.heap.size + 1 := ⟨_, rfl⟩
  obtain ⟨b0, hb0⟩ : ∃ b0, b0 = w.heap.size := ⟨_, rfl⟩
  have H1 : Hid (Bx3 w w1 b0 b1 b2 (.slice A n c) (.int .i64 last)) := by
    rw [hw1, hb2, hb1, hb0]; exact bx3_new w _ _
  have HE : Hid (∀ W, Below w1.heap.size w1 W → Bx3 w W b0 b1 b2 (.slice A n c) (.int .i64 last)) := fun W hW => H1.out.below hW
  have HPL : Hid (Calls Tryz.prog 35 #[.agg #[.slice A n c, .int .i64 last], .string name] w1 fun e w' => e = .returned (.int .i64 i) ∧ Below w1.heap.size w1 w') := by
    have := place_some O A n c L last w1 (h.below H1.out.old) hn hs i f0 hi
    rw [hf0] at this; exact this
  have dn : decide (k < 0) = true := by simpa using hneg
  have hi0 : ((0 : Int) ≤ i) := by omega
  clear h hn hs hi hf0 hneg
  go_enter Tryz.func18, Tryz.ntmps18
  go_wp2_with fail
  rw [← hw1, ← hb2, ← hb1, ← hb0]
  have HSZ : Hid (w.heap.size ≤ b1 ∧ w.heap.size ≤ b2) := by simp only [Hid]; omega
  clear hw1 hb2 hb1 hb0
  refine HPL.out.mono ?_
  rintro e w2 ⟨rfl, hb⟩
  have H2 := Lib.hid hb
  clear hb
  have H3 := Lib.hid (HE.out w2 H2.out)
  clear HPL H1
  obtain ⟨d0, d1, r0, r1, e0, e1, e2, fr, fe⟩ := H3.out.cells
  obtain ⟨n01, n02, n12, n10, n20, n21⟩ := H3.out.ne
  go_wp2
  go_region_with (go_at_call 37; refine (n_any 1 _).mono ?_; rintro e w4 ⟨rfl, hb4⟩; have H4 := Lib.hid (H3.out.below ((Below.refl _ _).drew.trans (by exact hb4))); obtain ⟨d0, d1, r0, r1, e0, e1, e2, fr, fe⟩ := H4.out.cells)
  all_goals
    go_wp2
    refine bodyPost_ret (v := .tuple #[.agg #[.slice A n c, .int .i64 last], eV (some 1)]) ?_ rfl ?_
    · simp [results, Tryz.results18, go_sem, eV, d0, d1, r0, r1, e0, e1, e2, fr, fe, n01, n02, n12, n10, n20, n21]
    · exact ⟨rfl, belowS (belowS (belowS (belowS (belowS H4.out.old HSZ.out.1 _) HSZ.out.1 _) HSZ.out.2 _) HSZ.out.2 _) HSZ.out.2 _⟩

set_option maxRecDepth 100000 in
set_option maxHeartbeats 2000000 in
theorem refcut_far (O : Nat → Prop) (A : Option Addr) (n c : Nat) (L : List RF) (last : Int) (name : ByteArray) (k : Int) (w : World) (h : RefD O w A n c L) (hn : n ≤ 64) (hs : Sorted L) (i : Nat) (f0 : RF) (hi : L[i]? = some f0) (hf0 : f0.name = name) (hneg : ¬ k < 0) (dl : Nat) (hdl : f0.data.length = dl) (hfar : (dl : Int) < k) :
    Calls Tryz.prog 18 #[.agg #[.slice A n c, .int .i64 last], .string name, .int .i64 k] w fun e w' => e = .returned (.tuple #[.agg #[.slice A n c, .int .i64 last], eV (some 1)]) ∧ Hid (Below w.heap.size w w') := by
  obtain ⟨w1, hw1⟩ : ∃ w1, w1 = ((w.alloc (.cells #[.slice A n c, .int .i64 last] 29)).alloc (.cells #[.slice none 0 0, .int .i64 0] 29)).alloc (.cells #[.bool false, .slice none 0 0, .int .i64 0] 53) := ⟨_, rfl⟩
  obtain ⟨b2, hb2⟩ : ∃ b2, b2 = w.heap.size + 1 + 1 := ⟨_, rfl⟩
  obtain ⟨b1, hb1⟩ : ∃ b1, b1 = w.heap.size + 1 := ⟨_, rfl⟩
  obtain ⟨b0, hb0⟩ : ∃ b0, b0 = w.heap.size := ⟨_, rfl⟩
  have H1 : Hid (Bx3 w w1 b0 b1 b2 (.slice A n c) (.int .i64 last)) := by
    rw [hw1, hb2, hb1, hb0]; exact bx3_new w _ _
  have HE : Hid (∀ W, Below w1.heap.size w1 W → Bx3 w W b0 b1 b2 (.slice A n c) (.int .i64 last)) := fun W hW => H1.out.below hW
  have HPL : Hid (Calls Tryz.prog 35 #[.agg #[.slice A n c, .int .i64 last], .string name] w1 fun e w' => e = .returned (.int .i64 i) ∧ Below w1.heap.size w1 w') := by
    have := place_some O A n c L last w1 (h.below H1.out.old) hn hs i f0 hi
    rw [hf0] at this; exact this
  have dn : decide (k < 0) = false := by simpa using hneg
  have dn2 : decide (k > (dl : Int)) = true := by simpa using hfar
  have hil : i < n := by have := (List.getElem?_eq_some_iff.1 hi).1; have := h.len; omega
  have hi0 : ((0 : Int) ≤ i) := by omega
  have hi1 : ((i : Nat) : Int) < n := by omega
  have HR := Lib.hid (h.below H1.out.old)
  have HI : Hid (L[i]? = some f0 ∧ f0.data.length = dl) := ⟨hi, hdl⟩
  clear h hn hs hi hf0 hneg hdl hfar
  go_enter Tryz.func18, Tryz.ntmps18
  go_wp2_with fail
  rw [← hw1, ← hb2, ← hb1, ← hb0]
  have HSZ : Hid (w.heap.size ≤ b1 ∧ w.heap.size ≤ b2) := by simp only [Hid]; omega
  clear hw1 hb2 hb1 hb0
  refine HPL.out.mono ?_
  rintro e w2 ⟨rfl, hb⟩
  have H2 := Lib.hid hb
  clear hb
  obtain ⟨g, rfl, q0, q1, q2, _⟩ := (HR.out.below H2.out).at_ HI.out.1
  rw [HI.out.2] at q1
  have H3 := Lib.hid (HE.out w2 H2.out)
  clear HPL H1
  obtain ⟨d0, d1, r0, r1, e0, e1, e2, fr, fe⟩ := H3.out.cells
  obtain ⟨n01, n02, n12, n10, n20, n21⟩ := H3.out.ne
  go_wp2
  go_region_with (go_at_call 37; refine (n_any 1 _).mono ?_; rintro e w4 ⟨rfl, hb4⟩; have H4 := Lib.hid (H3.out.below ((Below.refl _ _).drew.trans (by exact hb4))); obtain ⟨d0, d1, r0, r1, e0, e1, e2, fr, fe⟩ := H4.out.cells)
  all_goals
    go_wp2
    refine bodyPost_ret (v := .tuple #[.agg #[.slice (some ⟨g, 0, none⟩) n c, .int .i64 last], eV (some 1)]) ?_ rfl ?_
    · simp [results, Tryz.results18, go_sem, eV, d0, d1, r0, r1, e0, e1, e2, fr, fe, n01, n02, n12, n10, n20, n21]
    · exact ⟨rfl, belowS (belowS (belowS (belowS (belowS H4.out.old HSZ.out.1 _) HSZ.out.1 _) HSZ.out.2 _) HSZ.out.2 _) HSZ.out.2 _⟩

set_option maxRecDepth 100000 in
set_option maxHeartbeats 2000000 in
theorem refdel_none (O : Nat → Prop) (A : Option Addr) (n c : Nat) (L : List RF) (last : Int) (name : ByteArray) (w : World) (h : RefD O w A n c L) (hn : n ≤ 64) (hs : Sorted L) (hk : ∀ f ∈ L, f.name ≠ name) :
    Calls Tryz.prog 20 #[.agg #[.slice A n c, .int .i64 last], .string name] w fun e w' => e = .returned (.tuple #[.agg #[.slice A n c, .int .i64 last], eV (some 10)]) ∧ Hid (Below w.heap.size w w') := by
  obtain ⟨w1, hw1⟩ : ∃ w1, w1 = ((w.alloc (.cells #[.slice A n c, .int .i64 last] 29)).alloc (.cells #[.slice none 0 0, .int .i64 0] 29)).alloc (.cells #[.bool false, .slice none 0 0, .int .i64 0] 53) := ⟨_, rfl⟩
  obtain ⟨b2, hb2⟩ : ∃ b2, b2 = w.heap.size + 1 + 1 := ⟨_, rfl⟩
  obtain ⟨b1, hb1⟩ : ∃ b1, b1 = w.heap.size + 1 := ⟨_, rfl⟩
  obtain ⟨b0, hb0⟩ : ∃ b0, b0 = w.heap.size := ⟨_, rfl⟩
  have H1 : Hid (Bx3 w w1 b0 b1 b2 (.slice A n c) (.int .i64 last)) := by
    rw [hw1, hb2, hb1, hb0]; exact bx3_new w _ _
  have HE : Hid (∀ W, Below w1.heap.size w1 W → Bx3 w W b0 b1 b2 (.slice A n c) (.int .i64 last)) := fun W hW => H1.out.below hW
  have HPL : Hid (Calls Tryz.prog 35 #[.agg #[.slice A n c, .int .i64 last], .string name] w1 fun e w' => e = .returned (.int .i64 (-1)) ∧ Below w1.heap.size w1 w') := place_none O A n c L last name w1 (h.below H1.out.old) hn hk
  clear h hn hs hk
  go_enter Tryz.func20, Tryz.ntmps20
  go_wp2_with fail
  rw [← hw1, ← hb2, ← hb1, ← hb0]
  have HSZ : Hid (w.heap.size ≤ b1 ∧ w.heap.size ≤ b2) := by simp only [Hid]; omega
  clear hw1 hb2 hb1 hb0
  refine HPL.out.mono ?_
  rintro e w2 ⟨rfl, hb⟩
  have H2 := Lib.hid hb
  clear hb
  have H3 := Lib.hid (HE.out w2 H2.out)
  clear HPL H1
  obtain ⟨d0, d1, r0, r1, e0, e1, e2, fr, fe⟩ := H3.out.cells
  obtain ⟨n01, n02, n12, n10, n20, n21⟩ := H3.out.ne
  go_wp2
  go_region_with (go_at_call 37; refine (n_any 10 _).mono ?_; rintro e w4 ⟨rfl, hb4⟩; have H4 := Lib.hid (H3.out.below ((Below.refl _ _).drew.trans (by exact hb4))); obtain ⟨d0, d1, r0, r1, e0, e1, e2, fr, fe⟩ := H4.out.cells)
  all_goals
    go_wp2
    refine bodyPost_ret (v := .tuple #[.agg #[.slice A n c, .int .i64 last], eV (some 10)]) ?_ rfl ?_
    · simp [results, Tryz.results20, go_sem, eV, d0, d1, r0, r1, e0, e1, e2, fr, fe, n01, n02, n12, n10, n20, n21]
    · exact ⟨rfl, belowS (belowS (belowS (belowS (belowS H4.out.old HSZ.out.1 _) HSZ.out.1 _) HSZ.out.2 _) HSZ.out.2 _) HSZ.out.2 _⟩

end Go.Proofs.YtfhdcjfkngflbaaGreatDoor
