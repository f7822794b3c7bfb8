/-
  slices.Clone at links. Own work.
-/
import Derived.Test.YtlkfcfcejicdkaaGreatDoorProg
import Derived.Test.YtlkfcfcejicdkaaGreatDoorMapLib
import Derived.WalkSpells
import Derived.KernelRfl
set_option linter.unusedSimpArgs false
set_option linter.unusedVariables false
namespace Go.Proofs.YtlkfcfcejicdkaaGreatDoor
open Go Go.RowKit

theorem cloneL_info : (Tryz.prog.info? 35).map (fun i => (i.zero, i.size, i.bytes)) = some (some (.agg #[.int .i64 0, .int .i64 0]), 2, 16) := by kernel_rfl
/-- slices.Clone: nil stays nil; else a row of the call's own with the same cells. -/
theorem cloneL_any (A : Option Addr) (n c : Nat) (xs : List Value) (w : World) (hl : xs.length = n * 2) (hn : n ≤ maxLen) (hb : n * 16 ≤ 140737488355328)
    (h0 : A = none → n = 0) (hx : ∀ ad, A = some ad → ∀ j u, xs[j]? = some u → w.cell? (ad.add j) = some u) (h1 : ∀ u ∈ xs, u.oneCell' = true) :
    Calls Tryz.prog 67 #[.slice A n c] w fun e w' => ∃ v, e = .returned v ∧ w'.ownsRow w.heap.size 35 2 v n xs ∧ Below w.heap.size w w' ∧ (v = .slice none 0 0 ↔ A = none) := by
  have heq := fun (w : World) (a : Option Addr) (n c n' c' : Nat) => @Lib.run_eql_slice_nil Tryz.prog w 23 35 a n c n' c' Tryz.underlying23
  rcases A with _ | ad
  · have hn0 := h0 rfl
    subst hn0
    have hxs : xs = [] := List.eq_nil_of_length_eq_zero (by simpa using hl)
    subst hxs
    go_enter Tryz.func67, Tryz.ntmps67
    go_wp2
    go_ret
    exact ⟨_, rfl, World.ownsRow_nil _ _ _ _, Below.refl _ _, by simp⟩
  · obtain ⟨i0, hi, hz0, hz1, hz2⟩ := info_parts cloneL_info
    have hx' := hx ad rfl
    have hown0 : (w.alloc (.cells #[] 35)).ownsRow w.heap.size 35 2 (.slice (some ⟨w.heap.size, 0, none⟩) 0 0) 0 [] := World.ownsRow_made w #[] 0 (Nat.le_refl _) (by simp) (by simp)
    have hx2 : Hid (∀ j u, xs[j]? = some u → (w.alloc (.cells #[] 35)).cell? (ad.add j) = some u) := fun j u hu => by
      have := hx' j u hu
      rw [World.cell?_alloc_lt _ _ _ (World.block_lt_of_cell? w _ this)]; exact this
    have h1' : Hid (∀ u ∈ xs, u.oneCell' = true) := h1
    have hl' : Hid (xs.length = n * 2) := hl
    have hn' : Hid (0 + n ≤ maxLen) := by simpa [Hid] using hn
    have hb' : Hid ((0 + n) * 16 ≤ 140737488355328) := by simpa [Hid] using hb
    have hs' : Hid (w.heap.size ≤ (w.alloc (.cells #[] 35)).heap.size) := by simp [Hid]
    clear hx hx' h1 h0 hl hn hb
    go_enter Tryz.func67, Tryz.ntmps67
    go_wp2_with (at_builtin; refine wpList_append_own _ rfl _ _ 23 rfl w.heap.size 35 i0 (.agg #[.int .i64 0, .int .i64 0]) 2 16 Tryz.underlying23 hi hz0 hz1 hz2 rfl (by decide) _ 0 [] rfl hown0 ad n c xs rfl hl'.out hx2.out h1'.out hn'.out hb'.out hs'.out ?_; intro v' w1 hown1 hgrow hnil)
    have hg : (w.alloc (.cells #[] 35)).grownBy w1 (some w.heap.size) := hgrow
    have hn2 : v' = .slice none 0 0 ↔ (Value.slice (some ⟨w.heap.size, 0, none⟩) 0 0) = .slice none 0 0 ∧ n = 0 := hnil
    clear hgrow hnil
    have hfin : Hid (w1.ownsRow w.heap.size 35 2 v' n xs ∧ Below w.heap.size w w1 ∧ ¬ v' = .slice none 0 0) :=
      ⟨by simpa using hown1, ((Below.refl _ _).alloc (Nat.le_refl _) _).grown hg (by simp) (fun k h => by cases h; exact Nat.le_refl _), fun h => by have := (hn2.1 h).1; cases this⟩
    clear hn2 hg hown1 hown0
    go_ret
    exact ⟨v', rfl, hfin.out.1, hfin.out.2.1, fun h => absurd h hfin.out.2.2, fun h => by cases h⟩

end Go.Proofs.YtlkfcfcejicdkaaGreatDoor
