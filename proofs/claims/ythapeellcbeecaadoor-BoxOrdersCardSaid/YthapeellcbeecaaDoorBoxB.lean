/-
  The box: there; slices.Clone at the box's two element types. Own work.
-/
import Derived.Test.YthapeellcbeecaaDoorBoxA
set_option linter.unusedSimpArgs false
set_option linter.unusedVariables false
namespace Go.Proofs.YthapeellcbeecaaDoor
open Go Go.RowKit

theorem there_ok (B n c : Nat) (a : Option Addr) (f k : Int) (w : World) (h1 : w.cell? ⟨B, 1, none⟩ = some (.int .i64 f)) (h2 : w.cell? ⟨B, 2, none⟩ = some (.slice a n c))
    (hf0 : 0 ≤ f) (hf : f ≤ 1000000) (hn : n ≤ 1000000) (hk1 : f ≤ k) (hk2 : k ≤ f + n) :
    Calls Tryd.prog 16 #[.pointer (some ⟨B, 0, none⟩), .int .i64 k] w fun e w' => e = .returned .nilIface ∧ ∃ k, w' = w.drewN k := by
  have d1 : ¬ k < f := by omega
  go_enter Tryd.func16, Tryd.ntmps16
  go_wp2_with (go_at_call 7; refine (next_any B n c a f _ h1 h2 hf0 hf hn).mono ?_; rintro e w' ⟨rfl, k', rfl⟩)
  go_ret
  exact ⟨rfl, _, rfl⟩

theorem there_no (B n c : Nat) (a : Option Addr) (f k : Int) (w : World) (h1 : w.cell? ⟨B, 1, none⟩ = some (.int .i64 f)) (h2 : w.cell? ⟨B, 2, none⟩ = some (.slice a n c))
    (hf0 : 0 ≤ f) (hf : f ≤ 1000000) (hn : n ≤ 1000000) (hk : k < f ∨ f + n < k) :
    Calls Tryd.prog 16 #[.pointer (some ⟨B, 0, none⟩), .int .i64 k] w fun e w' => e = .returned (.iface 42 (.int .i64 1)) ∧ ∃ k, w' = w.drewN k := by
  rcases hk with hk | hk
  · go_enter Tryd.func16, Tryd.ntmps16
    go_wp2_with (go_at_call 7; refine (next_any B n c a f _ h1 h2 hf0 hf hn).mono ?_; rintro e w' ⟨rfl, k', rfl⟩)
    go_ret
    exact ⟨rfl, 0, rfl⟩
  · have d1 : ¬ k < f := by omega
    go_enter Tryd.func16, Tryd.ntmps16
    go_wp2_with (go_at_call 7; refine (next_any B n c a f _ h1 h2 hf0 hf hn).mono ?_; rintro e w' ⟨rfl, k', rfl⟩)
    go_ret
    exact ⟨rfl, _, rfl⟩

end Go.Proofs.YthapeellcbeecaaDoor
