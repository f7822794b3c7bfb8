/-
  A region that draws its order, whose callees lay memory, walked once: Derived/Deep/Quiet.lean's theorem at a class of worlds of one's own. Own work.
-/
import Derived.BigQuiet
import Derived.Below
set_option linter.unusedSimpArgs false
set_option linter.unusedVariables false
namespace Go.Proofs.YtlkfcfcejicdkaaGreatDoor
open Go

/-- The worlds that meet S. -/
structure QW (S : World → Prop) where
  val : World
  ok : S val
theorem calls_in {P : Program} {f : FuncId} {args : Array Value} {S : World → Prop} {x : QW S} {v : Value} (h : Calls P f args x.val fun e w' => e = .returned v ∧ S w') : Calls P f args x.val fun e w'' => e = .returned v ∧ ∃ y : QW S, w'' = y.val :=
  h.mono fun _ w' ⟨he, hs⟩ => ⟨he, ⟨w', hs⟩, rfl⟩
theorem region_in {P : Program} (S : World → Prop) {id : Nat} {Q : Exit → Act → World → Prop} {a : Act} {w : World} {l : List Oper} (hm : P.follows .mixedOrders = true) (hB : Region.lexB .any l.toArray = true) (hC : S w.drew)
    (h : wpQuiet P l.toArray (fun w' => ∃ x : QW S, w' = x.val) (fun a' => ∀ w', S w' → Q .normal a' w') l a) : (Code.region id l.toArray true).wp P Q a w := by
  have e : (fun a' => ∀ w', (∃ x : QW S, w' = x.val) → Q .normal a' w') = fun a' => ∀ w', S w' → Q .normal a' w' := by
    funext a'
    exact propext ⟨fun h w' hw => h w' ⟨⟨w', hw⟩, rfl⟩, fun h w' ⟨x, hx⟩ => hx ▸ h _ x.ok⟩
  exact wp_region_quiet (C := fun w' => ∃ x : QW S, w' = x.val) hm hB ⟨⟨_, hC⟩, rfl⟩ (by rw [e]; simpa using h)
end Go.Proofs.YtlkfcfcejicdkaaGreatDoor
