/-
  Proved: for every two numbers and every packet NetFull returns true and leaves its arguments as they were (the tied card: errors.errorType is laid by the program's text).
-/
import Derived.Test.YtgibpiakeaplbaaDoorCards
import Derived.Test.YtgibpiakeaplbaaDoorTie
import Derived.Test.YtgibpiakeaplbaaDoorNetRead
import Derived.Test.YtgibpiakeaplbaaDoorNetFull
import Derived.ProofKit
import Derived.OpenShut
import Derived.Carry
import Derived.Deep.DeepHandedRow
import Derived.Lib.LaidTab
import Derived.LaidHandle
import Derived.SevenTiedAt
set_option linter.unusedSimpArgs false
set_option linter.unusedVariables false
namespace Go.Proofs.YtgibpiakeaplbaaDoor
open Go Go.ChangeShapes Go.WideShapes Go.ChangeAt Go.RowKit

theorem pf_own : ownKnob Tryd.prog.godebug = none := by kernel_rfl
theorem pf_et : Tryd.prog.globalNamed "errors.errorType" = some 0 := by kernel_rfl
theorem pf_rt : (Tryd.prog.cutTypes.find? (·.1 == "internal/reflectlite.rtype")).map (·.2) = some 115 := by kernel_rfl
theorem pf_oneRow : ((List.range 178).filter fun t => Tryd.prog.rowNamed t [101, 114, 114, 111, 114]) = [36] := by kernel_rfl
theorem pf_size : Tryd.prog.types.size = 178 := by kernel_rfl

/-- What the row's list gives the walk: errors.errorType's one cell. -/
theorem errT_of_laid {W : World} (h : laidMetH Tryd.prog [("errors.errorType", Rows.laid_errors_errorType)] W) : ErrT W := by
  have h' : laidMet Tryd.prog [] W ∧ handlesMet Tryd.prog [("errors.errorType", Rows.laid_errors_errorType)] W := h
  obtain ⟨name, u, ty, e1, e2, e3, e4, e5⟩ := h'.2 _ (List.mem_singleton.2 rfl)
  have en : name = [101, 114, 114, 111, 114] := (Option.some.inj e1).symm
  subst en
  obtain rfl := Option.some.inj (pf_rt.symm.trans e2)
  have hm : ty ∈ (List.range 178).filter fun t => Tryd.prog.rowNamed t [101, 114, 114, 111, 114] := List.mem_filter.2 ⟨List.mem_range.2 (by rw [← pf_size]; exact e3), e4⟩
  rw [pf_oneRow] at hm
  obtain rfl := List.mem_singleton.1 hm
  have hh : typeHandle Tryd.prog 36 = .pointer (some ⟨1, 36, none⟩) := by kernel_rfl
  rw [hh] at e5
  have := World.var?_cell pf_et e5 0
  unfold ErrT
  simpa using this

/-- A world for the witness: the settled one, the variable's cell laid. -/
noncomputable def laidWorld (os : Os) : World :=
  let w0 := World.holding Tryd.prog os ⟨#[], #[], []⟩
  { w0 with heap := w0.heap.modify 0 fun
      | .cells _ t frozen => .cells #[.iface 115 (hnd 36)] t frozen
      | o => o }

theorem nf_laid (os : Os) (args : Array Value) : laidMetH Tryd.prog Rows.netFullRow.laid ((laidWorld os).forCall (fun _ _ => 0) ⟨#[], args, []⟩).memory :=
  laidMetH_of_parts (laidMet_nil _ _) (by kernel_rfl)

set_option maxRecDepth 100000 in
theorem nf_contract (H : Type) (enc : TypeId × Value → H) (W : World) (base : Nat) (args : Array Value) (ds gs : List (DataW H)) (before : List MemPlace)
    (hval : ∀ (j : Nat) t v, Tryd.f4.params[j]? = some t → args[j]? = some v → Value.okWide Tryd.prog W .any base t v)
    (hW : DataW.Whole enc Tryd.prog Tryd.f4.params.toList Rows.netFullSpec.vars false W args.toList ds gs before) (hL : laidMetH Tryd.prog Rows.netFullRow.laid W) :
    Calls Tryd.prog 4 args W fun e W' => ∃ v, e = .returned v ∧ Rows.netFullSpec.post enc Tryd.prog Tryd.f4 false true false false W args v W' := by
  have hW' := hW
  have hlt := hW.lt
  obtain ⟨p, q, hA0, hV, rfl, hfz, hnd⟩ := hW
  have hA : DataW.TrodAll enc Tryd.prog W 0 (fun _ => true) true Tryd.f4.params.toList args.toList ds p := hA0
  rw [Tryd.params4] at hA hval
  obtain ⟨v0, vs0, d0, ds0, p0, q0, hargs, rfl, rfl, h0, r0⟩ := trodAll_cons hA
  obtain ⟨v1, vs1, d1, ds1, p1, q1, rfl, rfl, rfl, h1, r1⟩ := trodAll_cons r0
  obtain ⟨v2, vs2, d2, ds2, p2, q2, rfl, rfl, rfl, h2, r2⟩ := trodAll_cons r1
  obtain ⟨rfl, rfl, rfl⟩ := trodAll_nil r2
  obtain rfl : args = #[v0, v1, v2] := by cases args; simp_all
  obtain ⟨rfl, rfl⟩ := trodVars_none hV
  have h0' := h0
  have h1' := h1
  have h2' := h2
  obtain ⟨n0, rfl, rfl, rfl, hwn0⟩ := open_int Tryd.underlying3 (hval 0 3 v0 rfl rfl) h0
  obtain ⟨n1, rfl, rfl, rfl, hwn1⟩ := open_int Tryd.underlying3 (hval 1 3 v1 rfl rfl) h1
  obtain ⟨a, len, cap, rfl⟩ := okWide_slice Tryd.underlying27 (hval 2 27 v2 rfl rfl)
  obtain ⟨fuel, hf⟩ := h2
  obtain ⟨A, c, l, hv, hrows⟩ := read_bytes (v := .slice a len cap) hf
  rw [hv]
  rw [hv] at hW' h2'
  clear hA0
  refine (fullLaw_any A c l n0 n1 W hrows (errT_of_laid hL)).mono fun e W' ⟨he, hb⟩ => ?_
  subst he
  refine ⟨_, rfl, _, _, _, [], _, [], hW', trodAll_cons_mk (shut_bool Tryd.underlying4 true) trodAll_mk0, trodAll_cons_mk (Below.trod (by kernel_rfl) (by kernel_rfl) (of_decide_eq_true (by kernel_rfl)) h0' hb ?_) (trodAll_cons_mk (Below.trod (by kernel_rfl) (by kernel_rfl) (of_decide_eq_true (by kernel_rfl)) h1' hb ?_) (trodAll_cons_mk (Below.trod (by kernel_rfl) (by kernel_rfl) (of_decide_eq_true (by kernel_rfl)) h2' hb ?_) trodAll_mk0)), rfl, hb.frame _, fun h => by cases h⟩
  · intro x hx; cases hx
  · intro x hx; cases hx
  · intro x hx; exact hlt x (by simp [hx])

theorem nf_reads (os : Os) {H : Type} (enc : TypeId × Value → H) : ∃ places, DataW.whole enc Tryd.prog ((laidWorld os).forCall (fun _ _ => 0) ⟨#[], #[.int .i64 0, .int .i64 0, .slice none 0 0], []⟩).memory Tryd.f4.params.toList Rows.netFullSpec.vars false #[Value.int .i64 0, .int .i64 0, .slice none 0 0].toList 8 = some ([.lit (.int .i64 0), .lit (.int .i64 0), .nil], [], places) :=
  ⟨[], by kernel_rfl⟩

set_option maxRecDepth 100000 in
theorem nf_lifted (os : Os) (started : os.Started) (H : Type) (enc : TypeId × Value → H) (F : Stop.Interp) :
    ReturnsInHanded {} Tryd.checked os 4 .any ((OpenSpec.ofChange Rows.netFullSpec).preRow enc Tryd.prog Tryd.f4 Rows.netFullRow.domain false Rows.netFullRow.laid) (((OpenSpec.ofChange Rows.netFullSpec).at F).post enc Tryd.prog Tryd.f4 false true false false) := by
  obtain ⟨places, hx⟩ := nf_reads os enc
  refine returnsInHanded_of_row (C := Tryd.checked) (s := OpenSpec.ofChange Rows.netFullSpec) pf_own started (by kernel_rfl) Tryd.func4
    (witness_row_at (enc := enc) (C := Tryd.checked) false (laidWorld os) #[.int .i64 0, .int .i64 0, .slice none 0 0] rfl (by kernel_rfl) (by kernel_rfl) (by kernel_rfl)
      (OpenSpec.preRow_of_cond 8 hx (by kernel_rfl) (fun k hk => by cases hk) (by kernel_rfl) (nf_laid os _))) ?_
  intro W base args ds gs before hval hW _ _ _ hL _ _
  exact nf_contract H enc W base args ds gs before hval hW hL

theorem nf_said : Rows.NetFullSaid :=
  OpenClaim.holds_of_cond 4 Tryd.f4 rfl rfl rfl rfl rfl rfl rfl ⟨rfl, rfl, rfl, rfl, rfl⟩ rfl rfl rfl rfl rfl (by kernel_rfl) Tryd.func4 (by kernel_rfl)
    (of_decide_eq_true (by kernel_rfl)) (by unfold Func.isWrapper; first | (rw [if_pos (by decide +kernel)]; kernel_rfl) | (rw [if_neg (by decide +kernel)]; exact ⟨rfl, rfl⟩))
    (fun os started H enc _ F => by rw [OpenClaim.pre_eq_preRow]; exact nf_lifted os started H enc F)

theorem nf_plain (f : FuncId) (fn : Func) (hf : Tryd.pinned.checked.prog.funcNamed "aviary/aviarylaw13.NetFull" = some f) (hfn : Tryd.pinned.checked.prog.funcs[f]? = some fn) :
    true = Tryd.pinned.checked.prog.looks [] ∧ ∀ (j : Nat) t, fn.params[j]? = some t → Tryd.pinned.checked.prog.wantsStandIn t = false := by
  obtain rfl : f = 4 := Option.some.inj ((show Tryd.prog.funcNamed "aviary/aviarylaw13.NetFull" = some 4 by kernel_rfl).symm.trans hf) |>.symm
  obtain rfl : fn = Tryd.f4 := (Option.some.inj (Tryd.func4.symm.trans hfn)).symm
  refine ⟨by kernel_rfl, fun j t ht => ?_⟩
  rw [Tryd.params4] at ht
  have hm := Array.mem_of_getElem? ht
  simp at hm
  rcases hm with rfl | rfl
  · exact (show Tryd.prog.wantsStandIn 3 = false by kernel_rfl)
  · exact (show Tryd.prog.wantsStandIn 27 = false by kernel_rfl)

theorem netFull_holds : Rows.NetFullCardSaid :=
  Claim7.holds_tied_plain_at .later [] _ _ _ _ nf_said (fun _ h => by cases h) (by kernel_rfl) (fun _ h => by cases h) netFull_row_tie rfl ⟨rfl, rfl⟩ (by kernel_rfl) rfl nf_plain (by kernel_rfl)
#print axioms netFull_holds
end Go.Proofs.YtgibpiakeaplbaaDoor
