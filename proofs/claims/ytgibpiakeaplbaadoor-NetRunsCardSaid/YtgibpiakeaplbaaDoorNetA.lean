/-
  net: node, check, New. Own work.
-/
import Derived.Test.YtgibpiakeaplbaaDoorProg
import Derived.Test.YtgibpiakeaplbaaDoorMapIter
import Derived.Deep.QuietTactic
import Derived.BigQuiet
import Derived.Deep.DeepFit
import Derived.KernelRfl
import Derived.Lib.Hide
set_option linter.unusedSimpArgs false
set_option linter.unusedVariables false
namespace Go.Proofs.YtgibpiakeaplbaaDoor
open Go Go.RowKit

def errV : Option Int → Value
  | none => .nilIface
  | some c => .iface 39 (.int .i64 c)

def nodeB (x : Int) : Bool := decide (-1 ≤ x) && decide (x < 8)
def wayB (k : Int × Int) : Bool := nodeB k.1 && nodeB k.2 && decide (k.1 ≠ k.2)
def wayE (k : Int × Int) : Option Int := if wayB k then none else some 12

theorem node_any (x : Int) (w : World) : Calls Tryd.prog 39 #[.int .i64 x] w fun e w' => e = .returned (.bool (nodeB x)) ∧ w' = w := by
  by_cases h1 : -1 ≤ x
  · by_cases h2 : x < 8
    · have e : nodeB x = true := by simp [nodeB, h1, h2]
      rw [e]
      have d1 : decide (x ≥ -1) = true := by simp; omega
      go_enter Tryd.func39, Tryd.ntmps39
      go_wp2
      go_ret
      exact ⟨rfl, rfl⟩
    · have e : nodeB x = false := by simp [nodeB, h1, h2]
      rw [e]
      have d1 : decide (x ≥ -1) = true := by simp; omega
      go_enter Tryd.func39, Tryd.ntmps39
      go_wp2
      go_ret
      exact ⟨rfl, rfl⟩
  · have e : nodeB x = false := by simp [nodeB, h1]
    rw [e]
    have d1 : decide (x ≥ -1) = false := by simp; omega
    go_enter Tryd.func39, Tryd.ntmps39
    go_wp2
    go_ret
    exact ⟨rfl, rfl⟩

theorem check_nil (k : Int × Int) (w : World) : Calls Tryd.prog 26 #[.pointer none, .agg #[.int .i64 k.1, .int .i64 k.2]] w fun e w' => e = .returned (errV (some 19)) ∧ Below w.heap.size w w' := by
  go_enter Tryd.func26, Tryd.ntmps26
  go_wp2
  go_ret
  exact ⟨rfl, (Below.refl _ _).alloc (Nat.le_refl _) _⟩

theorem check_any (B : Nat) (k : Int × Int) (w : World) : Calls Tryd.prog 26 #[.pointer (some ⟨B, 0, none⟩), .agg #[.int .i64 k.1, .int .i64 k.2]] w fun e w' => e = .returned (errV (wayE k)) ∧ Below w.heap.size w w' := by
  have hn := node_any
  obtain ⟨k1, k2⟩ := k
  rcases h1 : nodeB k1 with _ | _
  · have e : wayE (k1, k2) = some 12 := by simp [wayE, wayB, h1]
    rw [e]
    have hn1 := fun W => (h1 ▸ node_any k1 W : Calls Tryd.prog 39 #[.int .i64 k1] W fun e w' => e = .returned (.bool false) ∧ w' = W)
    clear hn
    go_enter Tryd.func26, Tryd.ntmps26
    go_wp2_with (go_at_call 39; refine (hn1 _).mono ?_; rintro e w' ⟨rfl, rfl⟩)
    go_ret
    exact ⟨rfl, (Below.refl _ _).alloc (Nat.le_refl _) _⟩
  · have hn1 := fun W => (h1 ▸ node_any k1 W : Calls Tryd.prog 39 #[.int .i64 k1] W fun e w' => e = .returned (.bool true) ∧ w' = W)
    rcases h2 : nodeB k2 with _ | _
    · have e : wayE (k1, k2) = some 12 := by simp [wayE, wayB, h2]
      rw [e]
      have hn2 := fun W => (h2 ▸ node_any k2 W : Calls Tryd.prog 39 #[.int .i64 k2] W fun e w' => e = .returned (.bool false) ∧ w' = W)
      clear hn
      go_enter Tryd.func26, Tryd.ntmps26
      go_wp2_with (first | (go_at_call 39; refine (hn1 _).mono ?_; clear hn1; rintro e w' ⟨rfl, rfl⟩) | (go_at_call 39; refine (hn2 _).mono ?_; rintro e w' ⟨rfl, rfl⟩))
      go_ret
      exact ⟨rfl, (Below.refl _ _).alloc (Nat.le_refl _) _⟩
    · have hn2 := fun W => (h2 ▸ node_any k2 W : Calls Tryd.prog 39 #[.int .i64 k2] W fun e w' => e = .returned (.bool true) ∧ w' = W)
      by_cases h3 : k1 = k2
      · have e : wayE (k1, k2) = some 12 := by simp [wayE, wayB, h3]
        rw [e]
        subst h3
        clear hn hn2
        go_enter Tryd.func26, Tryd.ntmps26
        go_wp2_with (go_at_call 39; refine (hn1 _).mono ?_; rintro e w' ⟨rfl, rfl⟩)
        go_ret
        exact ⟨rfl, (Below.refl _ _).alloc (Nat.le_refl _) _⟩
      · have e : wayE (k1, k2) = none := by simp [wayE, wayB, h1, h2, h3]
        rw [e]
        clear hn
        go_enter Tryd.func26, Tryd.ntmps26
        go_wp2_with (first | (go_at_call 39; refine (hn1 _).mono ?_; clear hn1; rintro e w' ⟨rfl, rfl⟩) | (go_at_call 39; refine (hn2 _).mono ?_; rintro e w' ⟨rfl, rfl⟩))
        go_ret
        exact ⟨rfl, (Below.refl _ _).alloc (Nat.le_refl _) _⟩

theorem way_check (e : Bool) (x : Int × Int) (w : World) : (Instr.checkKey e 10000 70 (pairV x)).run Tryd.prog w = .ok () w := by kernel_rfl
theorem way_equal (x y : Int × Int) (w : World) : (Op.equal 70 (pairV x) (pairV y)).run Tryd.prog w = .ok (decide (x = y)) w := by
  have hp : Tryd.prog.stoodInHeld 70 = false := by kernel_rfl
  have hq : decide (x = y) = (x.1 == y.1 && x.2 == y.2) := by
    obtain ⟨a, b⟩ := x; obtain ⟨c, d⟩ := y
    rw [Bool.eq_iff_iff]; simp
  rw [hq]
  simp [Op.equal, Op.maxDepth, pairV, go_sem, hp]
  by_cases h : x.1 = y.1 <;> by_cases h2 : x.2 = y.2 <;> simp [h, h2]
theorem way_keys : KeyOps Tryd.prog 70 pairV := pair_keyOps Tryd.underlying70 way_check way_equal
theorem rows_zero (w : World) : (zeroValue 56).run Tryd.prog w = .ok (.slice none 0 0) w := by kernel_rfl

theorem newNet_any (w : World) : Calls Tryd.prog 8 #[] w fun e w' => e = .returned (.pointer (some ⟨w.heap.size + 1, 0, none⟩)) ∧
    w' = (w.alloc (.map #[] 0)).alloc (.cells #[.map (some w.heap.size)] 62) := by
  have hmm := @run_makeMap Tryd.prog
  go_enter Tryd.func8, Tryd.ntmps8
  go_wp2
  go_ret
  exact ⟨rfl, rfl⟩
end Go.Proofs.YtgibpiakeaplbaaDoor
