/-
  tree: errors with places, as the program and as the document have them; fault.At; has. Own work.
-/
import Derived.Test.YtlkfcfcejicdkaaGreatDoorTreeSide2
import Derived.Test.YtlkfcfcejicdkaaGreatDoorTreeSort
set_option linter.unusedSimpArgs false
set_option linter.unusedVariables false
namespace Go.Proofs.YtlkfcfcejicdkaaGreatDoor
open Go Go.RowKit

/-- The program's error value. -/
def ErrIs (w : World) (v : Value) : Er → Prop
  | none => v = .nilIface
  | some ([], c) => v = .iface 41 (.int .i64 c)
  | some ([p], c) => ∃ g, v = .iface 92 (.pointer (some ⟨g, 0, none⟩)) ∧ w.heap[g]? = some (.cells #[.int .i64 p.1, .int .i64 p.2, .iface 41 (.int .i64 c)] 96 (0, 0))
  | some (_ :: _ :: _, _) => False
theorem ErrIs.below {w w' : World} {v : Value} {e : Er} (h : ErrIs w v e) (hb : Below w.heap.size w w') : ErrIs w' v e := by
  match e, h with
  | none, h => exact h
  | some ([], c), h => exact h
  | some ([p], c), h =>
    obtain ⟨g, h1, h2⟩ := h
    exact ⟨g, h1, (hb.block g (Array.getElem?_eq_some_iff.1 h2).1).trans h2⟩
  | some (_ :: _ :: _, _), h => exact h
theorem ErrIs.nil {w : World} {v : Value} {e : Er} (h : ErrIs w v e) : (v = .nilIface ↔ e = none) := by
  match e, h with
  | none, h => exact ⟨fun _ => rfl, fun _ => h⟩
  | some ([], c), h => exact ⟨fun e => (by rw [h] at e; cases e), fun e => (by cases e)⟩
  | some ([p], c), h =>
    obtain ⟨g, h1, _⟩ := h
    exact ⟨fun e => (by rw [h1] at e; cases e), fun e => (by cases e)⟩
  | some (_ :: _ :: _, _), h => exact h.elim
theorem at_any (k i c : Int) (w : World) : Calls Tryz.prog 55 #[.int .i64 k, .int .i64 i, .iface 41 (.int .i64 c)] w fun e w' => ∃ v, e = .returned v ∧ ErrIs w' v (some ([(k, i)], c)) ∧ Below w.heap.size w w' := by
  go_enter Tryz.func55, Tryz.ntmps55
  go_wp2
  go_ret
  exact ⟨_, rfl, ⟨_, rfl, heap_alloc_new _ _⟩, (Below.refl _ _).alloc (Nat.le_refl _) _⟩
theorem has_any (Am : Option Addr) (n cm : Nat) (Al : Option Addr) (q cl : Nat) (ms : List Int) (x : Int) (w : World) (hl : ms.length = n) (hA : RowAt w Am (intVs ms)) (hn : n ≤ 4611686018427387904) :
    Calls Tryz.prog 48 #[grV Am n cm Al q cl, .int .i64 x] w fun e w' => e = .returned (.bool (decide (x ∈ ms))) ∧ Below w.heap.size w w' := by
  have HB : Hid (∀ o, Below w.heap.size w (w.alloc o)) := fun o => (Below.refl _ _).alloc (Nat.le_refl _) _
  have HC : Hid (∀ W, Below w.heap.size w W → Calls Tryz.prog 65 #[.slice Am n cm, .int .i64 x] W fun e w' => e = .returned (.bool (decide (x ∈ ms))) ∧ w' = W) := fun W hW => contains_any Am n cm ms x W hl (hA.below hW) hn
  clear hl hA hn
  go_enter Tryz.func48, Tryz.ntmps48
  go_wp2_with fail
  refine (HC.out _ (HB.out _)).mono ?_
  rintro e w' ⟨rfl, rfl⟩
  go_wp2
  go_ret
  exact ⟨rfl, HB.out _⟩
theorem compare_below (a1 a2 b1 b2 : Int) (h : ∀ x ∈ [a1, a2, b1, b2], 0 ≤ x ∧ x < 8) (w : World) : Calls Tryz.prog 56 #[.agg #[.int .i64 a1, .int .i64 a2], .agg #[.int .i64 b1, .int .i64 b2]] w fun e w' => e = .returned (.int .i64 (if a1 = b1 then a2 - b2 else a1 - b1)) ∧ Below w.heap.size w w' := by
  refine (compare_any a1 a2 b1 b2 h w).mono ?_
  rintro e w' ⟨rfl, q, os, rfl⟩
  refine ⟨rfl, ⟨rfl, rfl, rfl, by simp [Sort.grow], fun k hk => ?_⟩⟩
  rw [Sort.heap_grow_old _ os (by exact hk)]; rfl
theorem compare_sign {a b : Lk} : decide ((if a.1 = b.1 then a.2 - b.2 else a.1 - b.1) ≥ 0) = !decide (lkLt a b) := by
  rw [← decide_not, decide_eq_decide]
  unfold lkLt
  split <;> omega
end Go.Proofs.YtlkfcfcejicdkaaGreatDoor
