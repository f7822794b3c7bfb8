/-
  The box's small readers: New, First, Next, Full, there. Own work.
-/
import Derived.Test.YthapeellcbeecaaDoorProg
import Derived.Test.YthapeellcbeecaaDoorMapLib
import Derived.Deep.QuietTactic
import Derived.BigQuiet
import Derived.Deep.DeepFit
import Derived.KernelRfl
set_option linter.unusedSimpArgs false
set_option linter.unusedVariables false
namespace Go.Proofs.YthapeellcbeecaaDoor
open Go Go.RowKit

theorem first_any (B : Nat) (f : Int) (w : World) (h1 : w.cell? ⟨B, 1, none⟩ = some (.int .i64 f)) :
    Calls Tryd.prog 9 #[.pointer (some ⟨B, 0, none⟩)] w fun e w' => e = .returned (.int .i64 f) ∧ w = w' := by
  go_enter Tryd.func9, Tryd.ntmps9
  go_wp2
  go_ret
  exact ⟨rfl, rfl⟩

theorem next_any (B n c : Nat) (a : Option Addr) (f : Int) (w : World) (h1 : w.cell? ⟨B, 1, none⟩ = some (.int .i64 f)) (h2 : w.cell? ⟨B, 2, none⟩ = some (.slice a n c))
    (hf0 : 0 ≤ f) (hf : f ≤ 1000000) (hn : n ≤ 1000000) :
    Calls Tryd.prog 7 #[.pointer (some ⟨B, 0, none⟩)] w fun e w' => e = .returned (.int .i64 (f + n)) ∧ ∃ k, w' = w.drewN k := by
  have hw : IntKind.i64.wrap (f + (n : Int)) = f + n := by rw [IntKind.wrap_i64]; omega
  go_enter Tryd.func7, Tryd.ntmps7
  go_wp2
  go_quiet (fail)
  go_wp2
  go_ret
  exact ⟨rfl, _, rfl⟩

theorem full_any (B n c : Nat) (a : Option Addr) (m : Int) (w : World) (h0 : w.cell? ⟨B, 0, none⟩ = some (.int .i64 m)) (h2 : w.cell? ⟨B, 2, none⟩ = some (.slice a n c)) :
    Calls Tryd.prog 8 #[.pointer (some ⟨B, 0, none⟩)] w fun e w' => e = .returned (.bool (decide (m ≤ n))) ∧ ∃ k, w' = w.drewN k := by
  go_enter Tryd.func8, Tryd.ntmps8
  go_wp2
  go_quiet (fail)
  go_wp2
  go_ret
  exact ⟨rfl, _, rfl⟩

theorem new_no (m : Int) (w : World) (h : m < 1 ∨ 4096 < m) :
    Calls Tryd.prog 5 #[.int .i64 m] w fun e w' => e = .returned (.tuple #[.pointer none, .iface 42 (.int .i64 1)]) ∧ w = w' := by
  rcases h with h | h
  · go_enter Tryd.func5, Tryd.ntmps5
    go_wp2
    go_ret2
    exact ⟨rfl, rfl⟩
  · have h' : ¬ m < 1 := by omega
    go_enter Tryd.func5, Tryd.ntmps5
    go_wp2
    go_ret2
    exact ⟨rfl, rfl⟩

theorem new_yes (m : Int) (w : World) (h1 : 1 ≤ m) (h2 : m ≤ 4096) :
    Calls Tryd.prog 5 #[.int .i64 m] w fun e w' => e = .returned (.tuple #[.pointer (some ⟨w.heap.size + 1, 0, none⟩), .nilIface]) ∧
      w' = (w.alloc (.map #[] 0)).alloc (.cells #[.int .i64 m, .int .i64 0, .slice none 0 0, .map (some w.heap.size)] 50) := by
  have hmm := @run_makeMap Tryd.prog
  go_enter Tryd.func5, Tryd.ntmps5
  go_wp2
  go_ret2
  exact ⟨rfl, rfl⟩

end Go.Proofs.YthapeellcbeecaaDoor
