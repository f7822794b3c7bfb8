/-
  The box's map: its key type (two ints) bears the map laws. Own work.
-/
import Derived.Test.YthapeellcbeecaaDoorProg
import Derived.Test.YthapeellcbeecaaDoorMapLib
import Derived.KernelRfl
set_option linter.unusedSimpArgs false
set_option linter.unusedVariables false
namespace Go.Proofs.YthapeellcbeecaaDoor
open Go Go.RowKit

theorem from_check (e : Bool) (x : Int × Int) (w : World) : (Instr.checkKey e 10000 54 (pairV x)).run Tryd.prog w = .ok () w := by kernel_rfl
theorem from_equal (x y : Int × Int) (w : World) : (Op.equal 54 (pairV x) (pairV y)).run Tryd.prog w = .ok (decide (x = y)) w := by
  have hp : Tryd.prog.stoodInHeld 54 = false := by kernel_rfl
  have hq : decide (x = y) = (x.1 == y.1 && x.2 == y.2) := by
    obtain ⟨a, b⟩ := x; obtain ⟨c, d⟩ := y
    rw [Bool.eq_iff_iff]; simp
  rw [hq]
  simp [Op.equal, Op.maxDepth, pairV, go_sem, hp]

  by_cases h : x.1 = y.1 <;> by_cases h2 : x.2 = y.2 <;> simp [h, h2]

theorem from_keys : KeyOps Tryd.prog 54 pairV := pair_keyOps Tryd.underlying54 from_check from_equal
theorem from_zero (w : World) : (zeroValue 3).run Tryd.prog w = .ok (.int .i64 0) w := by kernel_rfl
end Go.Proofs.YthapeellcbeecaaDoor
