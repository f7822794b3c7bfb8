/-
  net: the order of the ways: cmp.Compare, cmp.Or, the closure of Ways. Own work.
-/
import Derived.Test.YtgibpiakeaplbaaDoorProg
import Derived.Deep.QuietTactic
import Derived.Deep.DeepFit
import Derived.BigQuiet
import Derived.KernelRfl
import Derived.WalkKit
import Derived.Below
import Derived.Deep.RegionLaw
import Derived.Sort.Grow
set_option linter.unusedSimpArgs false
set_option linter.unusedVariables false
namespace Go.Proofs.YtgibpiakeaplbaaDoor
open Go Go.RowKit

def cmpI (x y : Int) : Int := if x < y then -1 else if y < x then 1 else 0
def cmpW (x y : Int × Int) : Int := if cmpI x.1 y.1 ≠ 0 then cmpI x.1 y.1 else cmpI x.2 y.2

theorem nan_any (x : Int) (w : World) : Calls Tryd.prog 44 #[.int .i64 x] w fun e w' => e = .returned (.bool false) ∧ w' = w := by
  go_enter Tryd.func44, Tryd.ntmps44
  go_wp2
  go_ret
  simp

theorem compare_any (x y : Int) (w : World) : Calls Tryd.prog 36 #[.int .i64 x, .int .i64 y] w fun e w' => e = .returned (.int .i64 (cmpI x y)) ∧ w' = w := by
  by_cases h1 : x < y
  · have e : cmpI x y = -1 := by simp [cmpI, h1]
    rw [e]
    go_enter Tryd.func36, Tryd.ntmps36
    go_wp2_with (go_at_call 44; refine (nan_any _ _).mono ?_; rintro e w' ⟨rfl, rfl⟩)
    go_ret
    exact ⟨rfl, rfl⟩
  · by_cases h2 : y < x
    · have e : cmpI x y = 1 := by simp [cmpI, h1, h2]
      rw [e]
      go_enter Tryd.func36, Tryd.ntmps36
      go_wp2_with (go_at_call 44; refine (nan_any _ _).mono ?_; rintro e w' ⟨rfl, rfl⟩)
      go_ret
      exact ⟨rfl, rfl⟩
    · have e : cmpI x y = 0 := by simp [cmpI, h1, h2]
      rw [e]
      go_enter Tryd.func36, Tryd.ntmps36
      go_wp2_with (go_at_call 44; refine (nan_any _ _).mono ?_; rintro e w' ⟨rfl, rfl⟩)
      go_ret
      exact ⟨rfl, rfl⟩

theorem or_any (B : Nat) (x y : Int) (w : World) (h0 : w.cell? ⟨B, 0, none⟩ = some (.int .i64 x)) (h1 : w.cell? ⟨B, 1, none⟩ = some (.int .i64 y)) :
    Calls Tryd.prog 35 #[.slice (some ⟨B, 0, none⟩) 2 2] w fun e w' => e = .returned (.int .i64 (if x ≠ 0 then x else y)) ∧ w' = w := by
  by_cases hx : x = 0
  · subst hx
    by_cases hy : y = 0
    · subst hy
      go_enter Tryd.func35, Tryd.ntmps35
      go_wp2
      refine wp_loop_rounds 3 ?_
      rw [rounds_succ]; go_wp2
      rw [rounds_succ]; go_wp2
      rw [rounds_succ]; go_wp2
      go_ret
      exact ⟨rfl, rfl⟩
    · rw [if_neg (by simp)]
      go_enter Tryd.func35, Tryd.ntmps35
      go_wp2
      refine wp_loop_rounds 3 ?_
      rw [rounds_succ]; go_wp2
      rw [rounds_succ]; go_wp2
      go_ret
      exact ⟨rfl, rfl⟩
  · rw [if_pos hx]
    go_enter Tryd.func35, Tryd.ntmps35
    go_wp2
    refine wp_loop_rounds 3 ?_
    rw [rounds_succ]; go_wp2
    go_ret
    exact ⟨rfl, rfl⟩
theorem new2 {W : World} {B : Nat} (hB : B = W.heap.size) (a b : Value) (t : TypeId) : (W.alloc (.cells #[a, b] t)).cell? ⟨B, 0, none⟩ = some a ∧ (W.alloc (.cells #[a, b] t)).cell? ⟨B, 1, none⟩ = some b := by
  subst hB
  have h := heap_alloc_new W (.cells #[a, b] t)
  constructor <;> simp only [World.cell?, h] <;> rfl
theorem new2d {W : World} {B : Nat} (hB : B = W.heap.size) (a b : Value) (t : TypeId) : (W.alloc (.cells #[a, b] t)).drew.cell? ⟨B, 0, none⟩ = some a ∧ (W.alloc (.cells #[a, b] t)).drew.cell? ⟨B, 1, none⟩ = some b := new2 hB a b t
set_option maxHeartbeats 1000000 in
theorem closure_any (x y : Int × Int) (w : World) : Calls Tryd.prog 34 #[.agg #[.int .i64 x.1, .int .i64 x.2], .agg #[.int .i64 y.1, .int .i64 y.2]] w fun e w' => e = .returned (.int .i64 (cmpW x y)) ∧ ∃ q os', w' = Go.Sort.grow (w.drewN q) os' := by
  have e0 : cmpW x y = if cmpI x.1 y.1 ≠ 0 then cmpI x.1 y.1 else cmpI x.2 y.2 := rfl
  rw [e0]
  go_enter Tryd.func34, Tryd.ntmps34
  go_wp2
  go_region_law (first | (go_simp; go_at_call 36; refine (compare_any _ _ _).mono ?_; rintro e w' ⟨rfl, rfl⟩) | (go_simp; go_at_call 35; refine (or_any _ (cmpI x.1 y.1) (cmpI x.2 y.2) _ (by exact (new2d (by simp) _ _ _).1) (by exact (new2d (by simp) _ _ _).2)).mono ?_; rintro e w' ⟨rfl, rfl⟩))
  all_goals go_wp2
  all_goals go_ret
  all_goals exact ⟨rfl, 1, _, by rw [Sort.alloc_eq_grow, Sort.alloc_eq_grow, Sort.alloc_eq_grow, Sort.grow_grow, Sort.grow_grow, Sort.drew_grow]; rfl⟩

end Go.Proofs.YtgibpiakeaplbaaDoor
