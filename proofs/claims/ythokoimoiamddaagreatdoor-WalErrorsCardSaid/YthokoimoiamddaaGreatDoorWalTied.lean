/-
  wal: what the rows' lists of laid variables give; a world for the witness. Own work.
-/
import Derived.Test.YthokoimoiamddaaGreatDoorCards
import Derived.Test.YthokoimoiamddaaGreatDoorTie
import Derived.Test.YthokoimoiamddaaGreatDoorB11
import Derived.Test.YthokoimoiamddaaGreatDoorB7
import Derived.ProofKit
import Derived.OpenShut
import Derived.Carry
import Derived.Deep.DeepHandedRow
import Derived.Lib.LaidTab
import Derived.LaidHandle
import Derived.SevenTiedAt
import Derived.Lay
import Derived.Stop.LaidErr
set_option linter.unusedSimpArgs false
set_option linter.unusedVariables false
namespace Go.Proofs.YthokoimoiamddaaGreatDoor
open Go Go.ChangeShapes Go.WideShapes Go.ChangeAt Go.RowKit

theorem pf_own : ownKnob Tryz.prog.godebug = none := by kernel_rfl
theorem pf_et : Tryz.prog.globalNamed "errors.errorType" = some 0 := by kernel_rfl
theorem pf_es : Tryz.prog.globalNamed "strconv.ErrSyntax" = some 1 := by kernel_rfl
theorem pf_rt : (Tryz.prog.cutTypes.find? (·.1 == "internal/reflectlite.rtype")).map (·.2) = some 162 := by kernel_rfl
theorem pf_oneRow : ((List.range 257).filter fun t => Tryz.prog.rowNamed t [101, 114, 114, 111, 114]) = [31] := by kernel_rfl
theorem pf_size : Tryz.prog.types.size = 257 := by kernel_rfl

/-- The data of the list, without the handle. -/
def dataL : List (String × DataW Unit) := [("math/bits.deBruijn32tab", Rows.laid_math_bits_deBruijn32tab), ("math/bits.deBruijn64tab", Rows.laid_math_bits_deBruijn64tab), ("internal/strconv.uint64pow10", Rows.laid_internal_strconv_uint64pow10), ("strconv.ErrRange", Rows.laid_strconv_ErrRange), ("strconv.ErrSyntax", Rows.laid_strconv_ErrSyntax)]
/-- The list, with the handle. -/
def fullL : List (String × DataW Unit) := [("math/bits.deBruijn32tab", Rows.laid_math_bits_deBruijn32tab), ("math/bits.deBruijn64tab", Rows.laid_math_bits_deBruijn64tab), ("internal/strconv.uint64pow10", Rows.laid_internal_strconv_uint64pow10), ("errors.errorType", Rows.laid_errors_errorType), ("strconv.ErrRange", Rows.laid_strconv_ErrRange), ("strconv.ErrSyntax", Rows.laid_strconv_ErrSyntax)]
theorem full_parts {W : World} (h : laidMetH Tryz.prog fullL W) : laidMet Tryz.prog dataL W ∧ handlesMet Tryz.prog [("errors.errorType", Rows.laid_errors_errorType)] W := h
theorem data_parts {W : World} (h : laidMetH Tryz.prog dataL W) : laidMet Tryz.prog dataL W := h
/-- strconv.ErrSyntax holds an error. -/
theorem errS_of_data {W : World} (h : laidMet Tryz.prog dataL W) : ErrS W := by
  have h' := h.tail.tail.tail.tail
  obtain ⟨ps, ⟨g0, t0, cs0, f0, p0, q0, hg0, ht0, hv0, hd0, _, e0⟩, _, hrows⟩ := h'
  obtain rfl := Option.some.inj (pf_es.symm.trans hg0)
  have ht : (Tryz.prog.globals[1]?).map (·.type) = some 31 := by kernel_rfl
  obtain rfl := Option.some.inj (ht.symm.trans ht0)
  obtain ⟨ms, hi⟩ : ∃ ms, Tryz.prog.underlying 31 = some (.interface ms) := ⟨_, Tryz.underlying31⟩
  obtain ⟨l0⟩ := cs0
  obtain ⟨f1, u, v, e1, hn, h1⟩ := iface_of_trod hi hd0
  have e2 : l0 = [.iface u v] := e1
  subst e2
  exact ⟨u, v, by simpa using World.var?_cell pf_es hv0 0⟩
/-- errors.errorType's one cell. -/
theorem errT_of_handles {W : World} (h : handlesMet Tryz.prog [("errors.errorType", Rows.laid_errors_errorType)] W) : ErrT W := by
  obtain ⟨name, u, ty, e1, e2, e3, e4, e5⟩ := h _ (List.mem_singleton.2 rfl)
  have en : name = [101, 114, 114, 111, 114] := (Option.some.inj e1).symm
  subst en
  obtain rfl := Option.some.inj (pf_rt.symm.trans e2)
  have hm : ty ∈ (List.range 257).filter fun t => Tryz.prog.rowNamed t [101, 114, 114, 111, 114] := List.mem_filter.2 ⟨List.mem_range.2 (by rw [← pf_size]; exact e3), e4⟩
  rw [pf_oneRow] at hm
  obtain rfl := List.mem_singleton.1 hm
  have hh : typeHandle Tryz.prog 31 = .pointer (some ⟨7, 31, none⟩) := by kernel_rfl
  rw [hh] at e5
  have := World.var?_cell pf_et e5 0
  unfold ErrT
  simpa using this
/-- A world for the witness: the settled one, the handle's cell set, the data laid. -/
noncomputable def laidWorld0 (os : Os) : World :=
  let w0 := World.holding Tryz.prog os ⟨#[], #[], []⟩
  { w0 with heap := w0.heap.modify 0 fun
      | .cells _ t frozen => .cells #[.iface 162 (hnd 31)] t frozen
      | o => o }
noncomputable def laidWorld (os : Os) : World := (laidWorld0 os).layVars Tryz.prog dataL
theorem laid_data (os : Os) (args : Array Value) : laidMet Tryz.prog dataL ((laidWorld os).forCall (fun _ _ => 0) ⟨#[], args, []⟩).memory := by
  have e1 : (dataL.filter fun x => (dataL.map (·.1)).contains x.1) = dataL := List.filter_eq_self.2 fun x hx => List.contains_iff_mem.2 (List.mem_map.2 ⟨x, hx, rfl⟩)
  have e2 : (dataL.filter fun x => !(dataL.map (·.1)).contains x.1) = [] := List.filter_eq_nil_iff.2 fun x hx => by rw [List.contains_iff_mem.2 (List.mem_map.2 ⟨x, hx, rfl⟩)]; simp
  have h : laidMet Tryz.prog dataL (laidWorld os) := laidMet_layVars (w0 := laidWorld0 os) (dataL.map (·.1)) [] (by rw [e1]; rfl) (by rw [e1]; kernel_rfl) (by rw [e1]; kernel_rfl) (by rw [e2]; exact LaidIn.none)
  exact h.of_heap (by simp [World.memory, World.forCall, Input.heap])
theorem laid_full (os : Os) (args : Array Value) : laidMetH Tryz.prog fullL ((laidWorld os).forCall (fun _ _ => 0) ⟨#[], args, []⟩).memory :=
  laidMetH_of_parts (laid_data os args) (by kernel_rfl)
theorem laid_datas (os : Os) (args : Array Value) : laidMetH Tryz.prog dataL ((laidWorld os).forCall (fun _ _ => 0) ⟨#[], args, []⟩).memory := laid_data os args
end Go.Proofs.YthokoimoiamddaaGreatDoor
