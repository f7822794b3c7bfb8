/-
  value.Check, fault.At, event.Check: they return, and write nothing that was there. Own work.
-/
import Derived.Test.YthapeellcbeecaaDoorEvName
import Derived.Below
import Derived.WalkLawsBesides
set_option linter.unusedSimpArgs false
set_option linter.unusedVariables false
namespace Go.Proofs.YthapeellcbeecaaDoor
open Go Go.RowKit

/-- An error or none. -/
def ErrV (r : Value) : Prop := r = .nilIface ∨ ∃ t v, r = .iface t v

def VChk (w : World) (e : Ending) (w' : World) : Prop := ∃ r, e = .returned r ∧ ErrV r ∧ Below w.heap.size w w'

theorem vchk_nil {w w' : World} (h : Below w.heap.size w w') : VChk w (.returned .nilIface) w' := ⟨_, rfl, .inl rfl, h⟩
theorem vchk_err {w w' : World} {t : TypeId} {v : Value} (h : Below w.heap.size w w') : VChk w (.returned (.iface t v)) w' := ⟨_, rfl, .inr ⟨_, _, rfl⟩, h⟩

set_option maxHeartbeats 1000000 in
theorem vcheck_any (k i : Int) (s : ByteArray) (b : Bool) (w : World) :
    Calls Tryd.prog 22 #[.agg #[.int .i64 k, .int .i64 i, .string s, .bool b]] w (VChk w) := by
  by_cases h1 : k = 1
  · subst h1
    go_enter Tryd.func22, Tryd.ntmps22
    go_wp2
    all_goals (go_ret; first | exact vchk_nil (((Below.refl _ _).alloc (Nat.le_refl _) _).alloc (by simp) _) | exact vchk_err (((Below.refl _ _).alloc (Nat.le_refl _) _).alloc (by simp) _))
  · have g1 : (k == 1) = false := by simp [h1]
    by_cases h2 : k = 2
    · subst h2
      clear h1
      go_enter Tryd.func22, Tryd.ntmps22
      go_wp2
      all_goals (go_ret; first | exact vchk_nil (((Below.refl _ _).alloc (Nat.le_refl _) _).alloc (by simp) _) | exact vchk_err (((Below.refl _ _).alloc (Nat.le_refl _) _).alloc (by simp) _))
    · have g2 : (k == 2) = false := by simp [h2]
      by_cases h3 : k = 3
      · subst h3
        clear h1 h2
        go_enter Tryd.func22, Tryd.ntmps22
        go_wp2
        all_goals (go_ret; first | exact vchk_nil (((Below.refl _ _).alloc (Nat.le_refl _) _).alloc (by simp) _) | exact vchk_err (((Below.refl _ _).alloc (Nat.le_refl _) _).alloc (by simp) _))
      · have g3 : (k == 3) = false := by simp [h3]
        clear h1 h2 h3
        go_enter Tryd.func22, Tryd.ntmps22
        go_wp2
        all_goals (go_ret; first | exact vchk_nil (((Below.refl _ _).alloc (Nat.le_refl _) _).alloc (by simp) _) | exact vchk_err (((Below.refl _ _).alloc (Nat.le_refl _) _).alloc (by simp) _))

theorem at_nil (k i : Int) (w : World) : Calls Tryd.prog 21 #[.int .i64 k, .int .i64 i, .nilIface] w fun e w' => e = .returned .nilIface ∧ w = w' := by
  go_enter Tryd.func21, Tryd.ntmps21
  go_wp2
  go_ret
  exact ⟨rfl, rfl⟩

theorem at_err (k i : Int) (t : TypeId) (v : Value) (w : World) : Calls Tryd.prog 21 #[.int .i64 k, .int .i64 i, .iface t v] w fun e w' =>
    e = .returned (.iface 68 (.pointer (some ⟨w.heap.size, 0, none⟩))) ∧ w' = w.alloc (.cells #[.int .i64 k, .int .i64 i, .iface t v] 72) := by
  go_enter Tryd.func21, Tryd.ntmps21
  go_wp2
  go_ret
  exact ⟨rfl, rfl⟩

end Go.Proofs.YthapeellcbeecaaDoor
