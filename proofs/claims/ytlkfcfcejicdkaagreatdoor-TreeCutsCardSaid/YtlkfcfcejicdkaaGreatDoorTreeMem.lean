/-
  tree: lists of numbers and of links as they lie in memory. Own work.
-/
import Derived.Test.YtlkfcfcejicdkaaGreatDoorTreeSides
import Derived.Test.YtlkfcfcejicdkaaGreatDoorMapLib
set_option linter.unusedSimpArgs false
set_option linter.unusedVariables false
namespace Go.Proofs.YtlkfcfcejicdkaaGreatDoor
open Go Go.RowKit

def intVs (l : List Int) : List Value := l.map (.int .i64)
def lkCells (l : List Lk) : List Value := l.flatMap fun k => [.int .i64 k.1, .int .i64 k.2]
theorem intVs_len (l : List Int) : (intVs l).length = l.length := by simp [intVs]
theorem intVs_append (l m : List Int) : intVs (l ++ m) = intVs l ++ intVs m := by simp [intVs]
theorem intVs_take (l : List Int) (i : Nat) : intVs (l.take i) = (intVs l).take i := by simp [intVs, List.map_take]
theorem intVs_drop (l : List Int) (i : Nat) : intVs (l.drop i) = (intVs l).drop i := by simp [intVs, List.map_drop]
theorem intVs_one (l : List Int) : ∀ u ∈ intVs l, u.oneCell' = true := fun u hu => by
  obtain ⟨x, _, rfl⟩ := List.mem_map.1 hu
  rfl
theorem lkCells_cons (x : Lk) (l : List Lk) : lkCells (x :: l) = [.int .i64 x.1, .int .i64 x.2] ++ lkCells l := rfl
theorem lkCells_append (l m : List Lk) : lkCells (l ++ m) = lkCells l ++ lkCells m := by simp [lkCells]
theorem lkCells_len (l : List Lk) : (lkCells l).length = l.length * 2 := by
  induction l with
  | nil => rfl
  | cons x l ih => rw [lkCells_cons, List.length_append, ih]; simp; omega
theorem lkCells_one (l : List Lk) : ∀ u ∈ lkCells l, u.oneCell' = true := fun u hu => by
  simp only [lkCells, List.mem_flatMap] at hu
  obtain ⟨p, _, h⟩ := hu
  simp at h
  rcases h with rfl | rfl <;> rfl
theorem lkCells_at (x : Lk) : ∀ (l : List Lk) (i : Nat), l[i]? = some x → (lkCells l)[i * 2]? = some (.int .i64 x.1) ∧ (lkCells l)[i * 2 + 1]? = some (.int .i64 x.2) := by
  intro l
  induction l with
  | nil => intro i h; simp at h
  | cons y l ih =>
    intro i h
    rw [lkCells_cons]
    cases i with
    | zero => simp at h; subst h; simp
    | succ i =>
      have := ih i (by simpa using h)
      have e1 : (i + 1) * 2 = i * 2 + 2 := by omega
      rw [e1, List.getElem?_append_right (by simp), List.getElem?_append_right (by simp)]
      simpa using this
theorem lkCells_take (l : List Lk) (i : Nat) : lkCells (l.take i) = (lkCells l).take (i * 2) := by
  induction l generalizing i with
  | nil => simp [lkCells]
  | cons x l ih =>
    cases i with
    | zero => simp [lkCells]
    | succ i =>
      rw [List.take_succ_cons, lkCells_cons, lkCells_cons, ih, show (i + 1) * 2 = i * 2 + 2 by omega, List.take_append]
      simp
theorem lkCells_drop (l : List Lk) (i : Nat) : lkCells (l.drop i) = (lkCells l).drop (i * 2) := by
  induction l generalizing i with
  | nil => simp [lkCells]
  | cons x l ih =>
    cases i with
    | zero => simp
    | succ i =>
      rw [List.drop_succ_cons, lkCells_cons, ih, show (i + 1) * 2 = i * 2 + 2 by omega, List.drop_append]
      simp

/-- Cells in a row, wherever they lie. -/
def RowAt (w : World) (A : Option Addr) (vs : List Value) : Prop := vs = [] ∨ ∃ g off, A = some ⟨g, off, none⟩ ∧ ∀ (j : Nat) (u : Value), vs[j]? = some u → w.cell? ⟨g, off + j, none⟩ = some u
section
variable {w w' : World} {A : Option Addr} {vs : List Value}
theorem RowAt.keep (h : RowAt w A vs) (hb : ∀ g off, A = some ⟨g, off, none⟩ → g < w.heap.size → w'.heap[g]? = w.heap[g]?) : RowAt w' A vs := by
  rcases h with h | ⟨g, off, e, h⟩
  · exact .inl h
  · refine .inr ⟨g, off, e, fun j u hu => ?_⟩
    have h1 := h j u hu
    have hlt := World.block_lt_of_cell? w _ h1
    exact (World.cell?_of_block (w := w) (a := ⟨g, off + j, none⟩) (hb g off e hlt)).trans h1
theorem RowAt.below (h : RowAt w A vs) (hb : Below w.heap.size w w') : RowAt w' A vs := h.keep fun g _ _ hg => hb.block g hg
theorem RowAt.nil : RowAt w A [] := .inl rfl
theorem RowAt.of_own {base n c size : Nat} {e : TypeId} (h : w.ownsRow base e size (.slice A n c) n vs) : RowAt w A vs := by
  rcases h.2 with ⟨hv, hn⟩ | ⟨g, cap, cur, hv, _, hg, h1, h2, h3, h4⟩
  · exact .inl (List.eq_nil_of_length_eq_zero (by rw [h.1, hn]; simp))
  · injection hv with hA _ _
    subst hA
    refine .inr ⟨g, 0, rfl, fun j u hu => ?_⟩
    have := h.cells (g := g) rfl j u hu
    rwa [Addr.add_lit] at this
/-- A number of a list. -/
theorem RowAt.int {l : List Int} (h : RowAt w A (intVs l)) {i : Nat} {x : Int} (hi : l[i]? = some x) : ∃ g off, A = some ⟨g, off, none⟩ ∧ w.cell? ⟨g, off + i, none⟩ = some (.int .i64 x) ∧ g < w.heap.size := by
  have hu : (intVs l)[i]? = some (.int .i64 x) := by unfold intVs; rw [List.getElem?_map, hi]; rfl
  rcases h with h | ⟨g, off, e, h⟩
  · rw [h] at hu; simp at hu
  · exact ⟨g, off, e, h i _ hu, World.block_lt_of_cell? w _ (h i _ hu)⟩
/-- A link of a list. -/
theorem RowAt.lk {l : List Lk} (h : RowAt w A (lkCells l)) {i : Nat} {x : Lk} (hi : l[i]? = some x) : ∃ g off, A = some ⟨g, off, none⟩ ∧ w.cell? ⟨g, off + i * 2, none⟩ = some (.int .i64 x.1) ∧ w.cell? ⟨g, off + i * 2 + 1, none⟩ = some (.int .i64 x.2) ∧ g < w.heap.size := by
  obtain ⟨h1, h2⟩ := lkCells_at x l i hi
  rcases h with h | ⟨g, off, e, h⟩
  · rw [h] at h1; simp at h1
  · exact ⟨g, off, e, h _ _ h1, h _ _ h2, World.block_lt_of_cell? w _ (h _ _ h1)⟩
end
theorem bdrewN {B : Nat} {a w : World} (h : Below B a w) (n : Nat) : Below B a (w.drewN n) := ⟨h.os, h.tape, h.output, h.size, h.block⟩
theorem bdrew {B : Nat} {a w : World} (h : Below B a w) : Below B a w.drew := bdrewN h 1
/-- A graph's two lists. -/
structure GrAt (w : World) (Am : Option Addr) (n : Nat) (Al : Option Addr) (q : Nat) (ms : List Int) (ls : List Lk) : Prop where
  mlen : ms.length = n
  llen : ls.length = q
  mrow : RowAt w Am (intVs ms)
  lrow : RowAt w Al (lkCells ls)
theorem GrAt.below {w w' : World} {Am Al : Option Addr} {n q : Nat} {ms : List Int} {ls : List Lk} (h : GrAt w Am n Al q ms ls) (hb : Below w.heap.size w w') : GrAt w' Am n Al q ms ls := ⟨h.mlen, h.llen, h.mrow.below hb, h.lrow.below hb⟩
/-- A graph as a value. -/
abbrev grV (Am : Option Addr) (n cm : Nat) (Al : Option Addr) (q cl : Nat) : Value := .agg #[.slice Am n cm, .slice Al q cl]
end Go.Proofs.YtlkfcfcejicdkaaGreatDoor
