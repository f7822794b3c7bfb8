/-
  Maps whose keys are strings. Own work.
-/
import Derived.Test.YtfhdcjfkngflbaaDoorProg
import Derived.Test.YtfhdcjfkngflbaaDoorMapLib
import Derived.Test.YtfhdcjfkngflbaaDoorMapIter
import Derived.KernelRfl
set_option linter.unusedSimpArgs false
set_option linter.unusedVariables false
namespace Go.Proofs.YtfhdcjfkngflbaaDoor
open Go Go.RowKit

theorem bytes_beq (a b : ByteArray) : (a == b) = decide (a = b) := by
  obtain ⟨a⟩ := a
  obtain ⟨b⟩ := b
  have h : ((⟨a⟩ : ByteArray) == ⟨b⟩) = (a == b) := rfl
  rw [h, Bool.eq_iff_iff]
  simp
theorem str_check (e : Bool) (x : ByteArray) (w : World) : (Instr.checkKey e 10000 9 (.string x)).run Tryd.prog w = .ok () w := by kernel_rfl
theorem str_find (k : ByteArray) (L : List (MEnt ByteArray)) (w : World) : (Instr.findKey 9 (.string k) (L.map (MEnt.ent Value.string))).run Tryd.prog w = .ok (lkE k L 0) w := by
  have h : ∀ (L : List (MEnt ByteArray)) i, Instr.findNow .string (.string k) (L.map (MEnt.ent Value.string)) i = some (lkE k L i) := by
    intro L
    induction L with
    | nil => intro i; rfl
    | cons e L ih =>
      intro i
      simp only [List.map_cons, Instr.findNow, MEnt.ent, Instr.sameNow, lkE]
      by_cases h : k = e.k
      · simp [h, bytes_beq]
      · have h2 : (k == e.k) = false := by rw [bytes_beq]; simpa using h
        rw [h2]
        simp only [if_neg h]
        exact ih (i + 1)
  simp only [Instr.findKey, Sem.run_bind, run_underlying Tryd.underlying9, Result.andThen_ok, h]
  rfl
theorem str_stays (k : ByteArray) (w : World) : (Instr.keyThatStays (.string k) (.string k)).run Tryd.prog w = .ok (.string k) w := by
  have : Instr.sameBits 10000 (.string k) (.string k) = true := by simp [Instr.sameBits, bytes_beq]
  simp [Instr.keyThatStays, this]
theorem str_keys : KeyOps Tryd.prog 9 Value.string := ⟨str_check, str_find, str_stays⟩
end Go.Proofs.YtfhdcjfkngflbaaDoor
