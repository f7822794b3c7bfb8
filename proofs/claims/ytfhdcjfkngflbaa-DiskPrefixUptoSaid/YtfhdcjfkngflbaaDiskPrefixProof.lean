/-
  Proved: for every list of calls and every number DiskPrefix returns true and leaves its arguments as they were, where what it reads is of bulk at most 1048576 (the second form).
-/
import Derived.Test.YtfhdcjfkngflbaaRows
import Derived.Test.YtfhdcjfkngflbaaDiskRead
import Derived.Test.YtfhdcjfkngflbaaDiskPrefixLaw
import Derived.ProofKit
import Derived.OpenShut
import Derived.Carry
import Derived.Deep.DeepHandedRow
import Derived.Lib.LaidTab
import Derived.LaidHandle
set_option linter.unusedSimpArgs false
set_option linter.unusedVariables false
namespace Go.Proofs.Ytfhdcjfkngflbaa
open Go Go.ChangeShapes Go.WideShapes Go.ChangeAt Go.RowKit

theorem pf_own : ownKnob Try.prog.godebug = none := by kernel_rfl

/-- A world for the witness: the settled one. -/
noncomputable def laidWorld (os : Os) : World := World.holding Try.prog os ⟨#[], #[], []⟩

theorem dp_laid (os : Os) (args : Array Value) : laidMetH Try.prog Rows.diskPrefixRow.laid ((laidWorld os).forCall (fun _ _ => 0) ⟨#[], args, []⟩).memory :=
  laidMet_nil _ _

set_option maxRecDepth 100000 in
theorem dp_contract (H : Type) (enc : TypeId × Value → H) (W : World) (base : Nat) (args : Array Value) (ds gs : List (DataW H)) (before : List MemPlace)
    (hval : ∀ (j : Nat) t v, Try.f3.params[j]? = some t → args[j]? = some v → Value.okWide Try.prog W .any base t v)
    (hW : DataW.Whole enc Try.prog Try.f3.params.toList Rows.diskPrefixSpec.vars false W args.toList ds gs before) (hWt : (DataW.weightsEach Try.prog (Try.f3.params.toList ++ (OpenSpec.ofChange Rows.diskPrefixSpec).bare.plain.varTypes Try.prog) (ds ++ gs)).all (· ≤ reachBytes) = true) :
    Calls Try.prog 3 args W fun e W' => ∃ v, e = .returned v ∧ Rows.diskPrefixSpec.post enc Try.prog Try.f3 false true false false W args v W' := by
  have hW' := hW
  have hlt := hW.lt
  obtain ⟨p, q, hA0, hV, rfl, hfz, hnd⟩ := hW
  have hA : DataW.TrodAll enc Try.prog W 0 (fun _ => true) true Try.f3.params.toList args.toList ds p := hA0
  rw [Try.params3] at hA hval
  obtain ⟨v0, vs0, d0, ds0, p0, q0, hargs, rfl, rfl, h0, r0⟩ := trodAll_cons hA
  obtain ⟨v1, vs1, d1, ds1, p1, q1, rfl, rfl, rfl, h1, r1⟩ := trodAll_cons r0
  obtain ⟨rfl, rfl, rfl⟩ := trodAll_nil r1
  obtain rfl : args = #[v0, v1] := by cases args; simp_all
  obtain ⟨rfl, rfl⟩ := trodVars_none hV
  have h0' := h0
  have h1' := h1
  obtain ⟨a, len, cap, rfl⟩ := okWide_slice Try.underlying22 (hval 0 22 v0 rfl rfl)
  have hwt : ∀ q ∈ d0.weights Try.prog 22, q ≤ reachBytes := fun q hq => by
    have := List.all_eq_true.1 hWt q (by simp [DataW.weightsEach, hq])
    simpa using this
  obtain ⟨fuel, hf⟩ := h0
  obtain ⟨k1, rfl, rfl, rfl, hk1⟩ := open_int Try.underlying3 (hval 1 3 v1 rfl rfl) h1
  have hk : k1 ≤ 9223372036854775807 := by
    simp [Lit.wf, IntKind.min, IntKind.max, IntKind.signed, IntKind.bits] at hk1
    omega
  obtain ⟨A, c, l, hv, hops, hl⟩ := read_dops (v := .slice a len cap) hf hwt
  rw [hv]
  rw [hv] at hW' h0'
  clear hA0
  refine (prefix_any A c l k1 W hops hl hk).mono fun e W' ⟨he, hb⟩ => ?_
  subst he
  refine ⟨_, rfl, _, _, _, [], _, [], hW', trodAll_cons_mk (shut_bool Try.underlying4 true) trodAll_mk0, trodAll_cons_mk (Below.trod (by kernel_rfl) (by kernel_rfl) (of_decide_eq_true (by kernel_rfl)) h0' hb ?_) (trodAll_cons_mk (Below.trod (by kernel_rfl) (by kernel_rfl) (of_decide_eq_true (by kernel_rfl)) h1' hb ?_) trodAll_mk0), rfl, hb.frame _, fun h => by cases h⟩
  · intro x hx; exact hlt x (by simp [hx])
  · intro x hx; cases hx

theorem dp_reads (os : Os) {H : Type} (enc : TypeId × Value → H) : ∃ places, DataW.whole enc Try.prog ((laidWorld os).forCall (fun _ _ => 0) ⟨#[], #[.slice none 0 0, .int .i64 0], []⟩).memory Try.f3.params.toList Rows.diskPrefixSpec.vars false #[Value.slice none 0 0, .int .i64 0].toList 8 = some ([.nil, .lit (.int .i64 0)], [], places) :=
  ⟨[], by kernel_rfl⟩

set_option maxRecDepth 100000 in
theorem dp_lifted (os : Os) (started : os.Started) (H : Type) (enc : TypeId × Value → H) (F : Stop.Interp) :
    ReturnsInHanded {} Try.checked os 3 .any ((Rows.OpenSpec.upto Rows.diskPrefixSpec).preRow enc Try.prog Try.f3 Rows.diskPrefixUptoRow.domain false Rows.diskPrefixUptoRow.laid) (((Rows.OpenSpec.upto Rows.diskPrefixSpec).at F).post enc Try.prog Try.f3 false true false false) := by
  obtain ⟨places, hx⟩ := dp_reads os enc
  refine returnsInHanded_of_row (C := Try.checked) (s := Rows.OpenSpec.upto Rows.diskPrefixSpec) pf_own started (by kernel_rfl) Try.func3
    (witness_row_at (enc := enc) (C := Try.checked) false (laidWorld os) #[.slice none 0 0, .int .i64 0] rfl (by kernel_rfl) (by kernel_rfl) (by kernel_rfl)
      (OpenSpec.preRow_of_cond 8 hx (by kernel_rfl) (fun k hk => by cases hk; kernel_rfl) (by kernel_rfl) (dp_laid os _))) ?_
  intro W base args ds gs before hval hW _ _ hWt hL _ _
  exact dp_contract H enc W base args ds gs before hval hW hWt

theorem diskPrefixUpto_holds : Rows.DiskPrefixUptoSaid :=
  OpenClaim.holds_of_cond 3 Try.f3 rfl rfl rfl rfl rfl rfl rfl ⟨rfl, rfl, rfl, rfl, rfl⟩ rfl rfl rfl rfl rfl (by kernel_rfl) Try.func3 (by kernel_rfl)
    (of_decide_eq_true (by kernel_rfl)) (by unfold Func.isWrapper; first | (rw [if_pos (by decide +kernel)]; kernel_rfl) | (rw [if_neg (by decide +kernel)]; exact ⟨rfl, rfl⟩))
    (fun os started H enc _ F => by rw [OpenClaim.pre_eq_preRow]; exact dp_lifted os started H enc F)
#print axioms diskPrefixUpto_holds
end Go.Proofs.Ytfhdcjfkngflbaa
