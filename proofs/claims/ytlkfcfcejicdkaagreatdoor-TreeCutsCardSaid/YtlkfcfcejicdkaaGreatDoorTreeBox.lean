/-
  tree: boxes of graphs made on the way of a law. Printed by gen_treechanges.py. Own work.
-/
import Derived.Test.YtlkfcfcejicdkaaGreatDoorTreeLate
import Derived.Deep.Cut
set_option linter.unusedSimpArgs false
set_option linter.unusedVariables false
namespace Go.Proofs.YtlkfcfcejicdkaaGreatDoor
open Go Go.RowKit

/-- A box of a graph, made on the way. -/
def ZB (w1 W : World) (b : Nat) (u0 u1 : Value) : Prop := W.heap[b]? = some (.cells #[u0, u1] 25 (0, 0)) ∧ w1.heap.size ≤ b
section
variable {w1 W W' : World} {b : Nat} {u0 u1 : Value}
theorem ZB.new (h : Bl w1 W) (hb : b = W.heap.size) : ZB w1 (W.alloc (.cells #[u0, u1] 25)) b u0 u1 := by
  subst hb
  exact ⟨heap_alloc_new _ _, Below.size h⟩
theorem ZB.al (h : ZB w1 W b u0 u1) (o : Obj) : ZB w1 (W.alloc o) b u0 u1 := ⟨(Below.heap_alloc _ _ _ (Array.getElem?_eq_some_iff.1 h.1).1).trans h.1, h.2⟩
theorem ZB.dr (h : ZB w1 W b u0 u1) : ZB w1 W.drew b u0 u1 := h
theorem ZB.step (h : ZB w1 W b u0 u1) (hb : Below W.heap.size W W') : ZB w1 W' b u0 u1 := ⟨(hb.block _ (Array.getElem?_eq_some_iff.1 h.1).1).trans h.1, h.2⟩
theorem ZB.set (h : ZB w1 W b u0 u1) (x y : Value) : ZB w1 ((W.setCell ⟨b, 0, none⟩ x).setCell ⟨b, 1, none⟩ y) b x y := ⟨set_row (set_row h.1 0 x) 1 y, h.2⟩
theorem ZB.setne {b7 : Nat} (h : ZB w1 W b u0 u1) (hne : b ≠ b7) (x y : Value) : ZB w1 ((W.setCell ⟨b7, 0, none⟩ x).setCell ⟨b7, 1, none⟩ y) b u0 u1 := ⟨((Below.heap_setCell _ _ _ _ hne).trans (Below.heap_setCell _ _ _ _ hne)).trans h.1, h.2⟩
theorem ZB.setne3 {b7 : Nat} (h : ZB w1 W b u0 u1) (hne : b ≠ b7) (x y z : Value) : ZB w1 (((W.setCell ⟨b7, 0, none⟩ x).setCell ⟨b7, 1, none⟩ y).setCell ⟨b7, 2, none⟩ z) b u0 u1 := ⟨((Below.heap_setCell _ _ _ _ hne).trans ((Below.heap_setCell _ _ _ _ hne).trans (Below.heap_setCell _ _ _ _ hne))).trans h.1, h.2⟩
theorem KE.dr {b8 : Nat} {a b c : Value} (h : KE w1 W b8 a b c) : KE w1 W.drew b8 a b c := ⟨h.old.dr, h.e8, h.n⟩
theorem KE.setne {b8 b7 : Nat} {a b c : Value} (h : KE w1 W b8 a b c) (hne : b8 ≠ b7) (h7 : w1.heap.size ≤ b7) (x y : Value) : KE w1 ((W.setCell ⟨b7, 0, none⟩ x).setCell ⟨b7, 1, none⟩ y) b8 a b c :=
  ⟨belowS (belowS h.old h7 _) h7 _, ((Below.heap_setCell _ _ _ _ hne).trans (Below.heap_setCell _ _ _ _ hne)).trans h.e8, h.n⟩
theorem GrOwn.set3E {base R : Nat} {Am : Option Addr} {n cm : Nat} {Al : Option Addr} {q cl : Nat} {ms : List Int} {ls : List Lk} {a b c : Value} (h : GrOwn base W Am n cm Al q cl ms ls) (hR : W.heap[R]? = some (.cells #[a, b, c] 43 (0, 0))) (x y z : Value) : GrOwn base (((W.setCell ⟨R, 0, none⟩ x).setCell ⟨R, 1, none⟩ y).setCell ⟨R, 2, none⟩ z) Am n cm Al q cl ms ls := by
  have key : ∀ (g : Nat) (t : TypeId) (cur : Array Value), W.heap[g]? = some (Obj.cells cur t (0, 0)) → t ≠ 43 → (((W.setCell ⟨R, 0, none⟩ x).setCell ⟨R, 1, none⟩ y).setCell ⟨R, 2, none⟩ z).heap[g]? = W.heap[g]? := fun g t cur hg ht => by
    have hne : g ≠ R := fun e => by
      rw [e, hR] at hg
      injection hg with hg
      injection hg with _ hg _
      exact ht hg.symm
    rw [Below.heap_setCell _ _ _ _ (by exact hne), Below.heap_setCell _ _ _ _ (by exact hne), Below.heap_setCell _ _ _ _ (by exact hne)]
  refine ⟨h.mlen, h.llen, ownsRow_keep h.mrow fun g hg => ?_, ownsRow_keep h.lrow fun g hg => ?_⟩
  · obtain ⟨cur, hh, _⟩ := own_block h.mrow hg
    exact key g _ cur hh (by decide)
  · obtain ⟨cur, hh, _⟩ := own_block h.lrow hg
    exact key g _ cur hh (by decide)
theorem EIs.setG {R : Nat} {v : Value} {e : Er} {x y : Value} (h : EIs W v e) (hR : W.heap[R]? = some (.cells #[x, y] 25 (0, 0))) (a b : Value) : EIs ((W.setCell ⟨R, 0, none⟩ a).setCell ⟨R, 1, none⟩ b) v e :=
  (h.set hR (by decide) a).set (set_row hR 0 a) (by decide) b
theorem Bl.st (h : Bl w1 W) (hb : w1.heap.size ≤ b) (i : Nat) (v : Value) : Bl w1 (W.setCell ⟨b, i, none⟩ v) := belowS h hb v
end
/-- The program's error behind stores into the box of an error of the document's. -/
theorem ErrIs.set3 {w : World} {v : Value} {e : Er} {R : Nat} {x y z : Value} (h : ErrIs w v e) (hR : w.heap[R]? = some (.cells #[x, y, z] 43 (0, 0))) (a b c : Value) : ErrIs (((w.setCell ⟨R, 0, none⟩ a).setCell ⟨R, 1, none⟩ b).setCell ⟨R, 2, none⟩ c) v e :=
  ErrIs.keep h fun g t u hz ht => by
    have hg : g ≠ R := fun e => by
      subst e
      rw [hR] at hz
      injection hz with hz
      injection hz with _ hz _
      rw [← hz] at ht
      exact absurd ht (by decide)
    rw [Below.heap_setCell _ _ _ _ (by exact hg), Below.heap_setCell _ _ _ _ (by exact hg), Below.heap_setCell _ _ _ _ (by exact hg)]
theorem swapP_len (ms : List Int) (ls : List Lk) (o p : Lk) : (swapP ms ls o p).2.1.length ≤ 8 ∧ (swapP ms ls o p).2.2.length ≤ 8 := by
  cases h : swapP ms ls o p with
  | mk e g =>
    by_cases he : e = none
    · subst he
      obtain ⟨_, hg, rfl, _⟩ := swap_good h
      exact hg.small
    · rw [swap_empty h he]; simp
theorem joinP_len (ms : List Int) (ls : List Lk) (x a : Int) : (joinP ms ls x a).2.1.length ≤ 8 ∧ (joinP ms ls x a).2.2.length ≤ 8 := by
  cases h : joinP ms ls x a with
  | mk e g =>
    by_cases he : e = none
    · subst he
      obtain ⟨_, hg, rfl, _⟩ := join_good h
      exact hg.small
    · rw [join_empty h he]; simp
theorem leaveP_len (ms : List Int) (ls : List Lk) (x : Int) : (leaveP ms ls x).2.1.length ≤ 8 ∧ (leaveP ms ls x).2.2.length ≤ 8 := by
  cases h : leaveP ms ls x with
  | mk e g =>
    by_cases he : e = none
    · subst he
      obtain ⟨_, hg, rfl, _⟩ := leave_good h
      exact hg.small
    · rw [leave_empty h he]; simp
end Go.Proofs.YtlkfcfcejicdkaaGreatDoor
