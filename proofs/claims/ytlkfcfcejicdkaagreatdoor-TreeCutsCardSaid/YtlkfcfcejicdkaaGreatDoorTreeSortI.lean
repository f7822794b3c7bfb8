/-
  tree: numbers sorted (slices.Sort). Own work.
-/
import Derived.Shelf.SortM.Plain
import Derived.Shelf.SortM.SortNone
import Derived.Test.YtlkfcfcejicdkaaGreatDoorSort
import Derived.Test.YtlkfcfcejicdkaaGreatDoorTreeMem
import Derived.Sort.Grow
set_option linter.unusedSimpArgs false
set_option linter.unusedVariables false
namespace Go.Proofs.YtlkfcfcejicdkaaGreatDoor
open Go Go.RowKit Go.Sort

theorem holdsI_of_row {w : World} {base g c : Nat} {l : List Int} (h : w.ownsRow base 3 1 (.slice (some ⟨g, 0, none⟩) l.length c) l.length (intVs l)) : Holds (Value.int .i64) w g 0 l.toArray := by
  rcases h.2 with ⟨h2, _⟩ | ⟨g', cap, cur, hv, hg, hh, h3, h4, h5, h6⟩
  · cases h2
  · injection hv with hv _ _
    injection hv with hv
    injection hv with hv _ _
    subst hv
    intro j hj
    have hj' : j < l.length := by simpa using hj
    have hcur : cur[j]? = (intVs l)[j]? := by
      rw [← h6, List.getElem?_take, if_pos (by omega)]; simp
    refine ⟨?_, by simp [World.frozen?, hh]⟩
    have hc : w.cell? ⟨g, 0 + j, none⟩ = cur[j]? := by simp [World.cell?, hh]
    rw [hc, hcur]
    unfold intVs
    rw [List.getElem?_map, List.getElem?_eq_getElem hj']
    simp [hj']
theorem row_of_holds {w : World} {g : Nat} {l : List Int} (h : Holds (Value.int .i64) w g 0 l.toArray) : RowAt w (some ⟨g, 0, none⟩) (intVs l) := by
  refine .inr ⟨g, 0, rfl, fun j u hu => ?_⟩
  have hj : j < l.length := by have := (List.getElem?_eq_some_iff.1 hu).1; rw [intVs_len] at this; exact this
  have h1 := (h j (by simpa using hj)).1
  rw [h1, ← hu]
  unfold intVs
  rw [List.getElem?_map, List.getElem?_eq_getElem hj]
  simp [hj]
theorem below_sortI {w : World} {base g off n : Nat} {d : Array Int} {os : Array Obj} (hb : base ≤ g) (hs : base ≤ w.heap.size) : RowKit.Below base w (grow (putRow (Value.int .i64) (Sort.ahead w n) g off d) os) := by
  refine ⟨rfl, rfl, rfl, ?_, fun k hk => ?_⟩
  · simp [Sort.grow]
  · have h1 : k < (putRow (Value.int .i64) (Sort.ahead w n) g off d).heap.size := by simp; omega
    rw [Sort.heap_grow_old _ os h1]
    show (w.heap.modify g _)[k]? = _
    rw [Array.getElem?_modify, if_neg (by omega)]
/-- Numbers sorted: in the same slice. -/
theorem sortI_any (base : Nat) (A : Option Addr) (n c : Nat) (l : List Int) (hn : l.length = n) (w : World) (hrow : w.ownsRow base 3 1 (.slice A n c) n (intVs l)) (hbase : base ≤ w.heap.size) (hlen : n ≤ 1000000) :
    Calls Tryz.prog 60 #[.slice A n c] w fun e w' => e = .returned (.tuple #[]) ∧ ∃ l' : List Int, l'.Perm l ∧ l'.Pairwise (· ≤ ·) ∧ RowAt w' A (intVs l') ∧ RowKit.Below base w w' := by
  subst hn
  by_cases hs : l = []
  · subst hs
    refine (AnyM.slices_Sort_int_none (ρ := Tryz.sortInts_ren) Tryz.sortInts A c w).mono ?_
    rintro e w' ⟨rfl, rfl⟩
    exact ⟨rfl, [], List.Perm.refl _, List.Pairwise.nil, .inl rfl, RowKit.Below.refl _ _⟩
  · obtain ⟨g, hAg, hg, hgl⟩ : ∃ g, A = some ⟨g, 0, none⟩ ∧ base ≤ g ∧ g < w.heap.size := by
      rcases hrow.2 with ⟨h2, h3⟩ | ⟨g', cap, cur, hv, hg, hh, _⟩
      · exact absurd (List.eq_nil_of_length_eq_zero h3) hs
      · injection hv with hA _ _
        exact ⟨g', hA, hg, (Array.getElem?_eq_some_iff.1 hh).1⟩
    subst hAg
    have hH := holdsI_of_row hrow
    have hc := AnyM.slices_Sort_int (ρ := Tryz.sortInts_ren) Tryz.sortInts g 0 c l w hH hgl (by omega)
    change Calls Tryz.prog 60 _ _ _ at hc
    refine hc.mono ?_
    rintro e w' ⟨rfl, n, os, rfl⟩
    have hp : (l.mergeSort fun x y => decide (x ≤ y)).Perm l := List.mergeSort_perm _ _
    refine ⟨rfl, l.mergeSort fun x y => decide (x ≤ y), hp, ?_, row_of_holds ?_, below_sortI hg hbase⟩
    · have := List.pairwise_mergeSort (le := fun (x y : Int) => decide (x ≤ y)) (fun a b c h1 h2 => by simp at *; omega) (fun a b => by simp; omega) l
      exact this.imp fun h => by simpa using h
    · refine holds_grow _ _ os g 0 _ (by simpa using hgl) ?_
      exact holds_putRow _ (Sort.ahead w n) g 0 l.toArray _ (holds_ahead _ w n g 0 l.toArray hH) (by simp)
end Go.Proofs.YtlkfcfcejicdkaaGreatDoor
