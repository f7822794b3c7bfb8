/-
  tree: is a number in a list (slices.Contains; the document's Has); are two lists alike. Own work.
-/
import Derived.Test.YtlkfcfcejicdkaaGreatDoorTreeMem
import Derived.Test.YtlkfcfcejicdkaaGreatDoorProg
import Derived.WalkSpells
import Derived.KernelRfl
import Derived.Lib.Hide
set_option linter.unusedSimpArgs false
set_option linter.unusedVariables false
namespace Go.Proofs.YtlkfcfcejicdkaaGreatDoor
open Go Go.RowKit

theorem mem_take_succ {α : Type} {l : List α} {j : Nat} {x y : α} (hy : l[j]? = some y) (h : x ∉ l.take j) (hne : x ≠ y) : x ∉ l.take (j + 1) := fun hm => by
  obtain ⟨h7, h8⟩ := List.getElem?_eq_some_iff.1 hy
  rw [← List.take_append_getElem h7, h8] at hm
  rcases List.mem_append.1 hm with hm | hm
  · exact h hm
  · have e : x = y := by simpa using hm
    exact hne e
section
variable (A : Option Addr) (n c : Nat) (l : List Int) (x : Int) (w : World)
theorem index_any (hl : l.length = n) (hA : RowAt w A (intVs l)) (hn : n ≤ 4611686018427387904) :
    Calls Tryz.prog 74 #[.slice A n c, .int .i64 x] w fun e w' => ∃ r : Int, e = .returned (.int .i64 r) ∧ w' = w ∧ decide (r ≥ 0) = decide (x ∈ l) := by
  have HA := Lib.hid hA
  have HN : Hid (n ≤ 4611686018427387904 ∧ l.length = n) := ⟨hn, hl⟩
  clear hA hn hl
  go_enter Tryz.func74, Tryz.ntmps74
  go_wp2
  go_loopw [8] (fun i wr => ∃ (j : Nat), j ≤ n ∧ i = .int .i64 j ∧ wr = w ∧ Hid (x ∉ l.take j)) (fun i _ => n - (intOf i).toNat)
  case atStart => exact ⟨0, Nat.zero_le _, rfl, rfl, Lib.hid (by simp)⟩
  case round =>
    obtain ⟨j, hj, rfl, rfl, HS⟩ := hrel
    by_cases hlt : j < n
    · obtain ⟨y, hy⟩ : ∃ y, Hid (l[j]? = some y) := ⟨_, List.getElem?_eq_getElem (by have := HN.out; omega)⟩
      obtain ⟨g, off, rfl, d0, hg⟩ := HA.out.int hy.out
      have hw1 : IntKind.i64.wrap ((j : Int) + 1) = ((j + 1 : Nat) : Int) := by have := HN.out; rw [IntKind.wrap_i64]; omega
      have hj0 : ((0 : Int) ≤ j) := by omega
      have hj1 : ((j : Nat) : Int) < n := by omega
      by_cases hxy : x = y
      · subst hxy
        go_wp2
        go_ret
        exact ⟨_, rfl, rfl, by rw [decide_eq_true (by omega), decide_eq_true (List.mem_of_getElem? hy.out)]⟩
      · have hb : (x == y) = false := by simpa using hxy
        have HX : Hid (x ≠ y) := hxy
        clear hxy
        go_wp2
        exact ⟨⟨j + 1, hlt, by go_num, by first | rfl | trivial, Lib.hid (mem_take_succ hy.out HS.out HX.out)⟩, by simp [intOf]; omega⟩
    · have hjn : j = n := by omega
      subst hjn
      go_wp2
      go_ret
      exact ⟨_, rfl, rfl, by rw [decide_eq_false (by omega), decide_eq_false (fun h => HS.out (by rw [List.take_of_length_le (by have := HN.out; omega)]; exact h))]⟩
theorem contains_any (hl : l.length = n) (hA : RowAt w A (intVs l)) (hn : n ≤ 4611686018427387904) :
    Calls Tryz.prog 65 #[.slice A n c, .int .i64 x] w fun e w' => e = .returned (.bool (decide (x ∈ l))) ∧ w' = w := by
  have HI := Lib.hid (index_any A n c l x w hl hA hn)
  clear hl hA hn
  obtain ⟨d, hd⟩ : ∃ d, Hid (decide (x ∈ l) = d) := ⟨_, rfl⟩
  rw [hd.out]
  go_enter Tryz.func65, Tryz.ntmps65
  go_wp2_with fail
  refine HI.out.mono ?_
  rintro e w' ⟨r, rfl, rfl, hr⟩
  rw [hd.out] at hr
  go_wp2
  go_ret
  exact ⟨rfl, rfl⟩
theorem rhas_any (hl : l.length = n) (hA : RowAt w A (intVs l)) (hn : n ≤ 4611686018427387904) :
    Calls Tryz.prog 16 #[.slice A n c, .int .i64 x] w fun e w' => e = .returned (.bool (decide (x ∈ l))) ∧ w' = w := by
  have HA := Lib.hid hA
  have HN : Hid (n ≤ 4611686018427387904 ∧ l.length = n) := ⟨hn, hl⟩
  clear hA hn hl
  go_enter Tryz.func16, Tryz.ntmps16
  go_wp2
  go_loopw [9] (fun i wr => ∃ (j : Nat), j ≤ n ∧ i = .int .i64 j ∧ wr = w ∧ Hid (x ∉ l.take j)) (fun i _ => n - (intOf i).toNat)
  case atStart => exact ⟨0, Nat.zero_le _, rfl, rfl, Lib.hid (by simp)⟩
  case round =>
    obtain ⟨j, hj, rfl, rfl, HS⟩ := hrel
    by_cases hlt : j < n
    · obtain ⟨y, hy⟩ : ∃ y, Hid (l[j]? = some y) := ⟨_, List.getElem?_eq_getElem (by have := HN.out; omega)⟩
      obtain ⟨g, off, rfl, d0, hg⟩ := HA.out.int hy.out
      have hw1 : IntKind.i64.wrap ((j : Int) + 1) = ((j + 1 : Nat) : Int) := by have := HN.out; rw [IntKind.wrap_i64]; omega
      have hj0 : ((0 : Int) ≤ j) := by omega
      have hj1 : ((j : Nat) : Int) < n := by omega
      by_cases hxy : y = x
      · subst hxy
        go_wp2
        go_ret
        exact ⟨by rw [decide_eq_true (List.mem_of_getElem? hy.out)]; rfl, rfl⟩
      · have hb : (y == x) = false := by simpa using hxy
        have HX : Hid (x ≠ y) := fun e => hxy e.symm
        clear hxy
        go_wp2
        exact ⟨⟨j + 1, hlt, by go_num, by first | rfl | trivial, Lib.hid (mem_take_succ hy.out HS.out HX.out)⟩, by simp [intOf]; omega⟩
    · have hjn : j = n := by omega
      subst hjn
      go_wp2
      go_ret
      exact ⟨by rw [decide_eq_false (fun h => HS.out (by rw [List.take_of_length_le (by have := HN.out; omega)]; exact h))]; rfl, rfl⟩
end
/-- The same list twice. -/
theorem ints_same (A B : Option Addr) (n c d : Nat) (l : List Int) (w : World) (hl : l.length = n) (hA : RowAt w A (intVs l)) (hB : RowAt w B (intVs l)) (hn : n ≤ 4611686018427387904) :
    Calls Tryz.prog 19 #[.slice A n c, .slice B n d] w fun e w' => e = .returned (.bool true) ∧ Below w.heap.size w w' := by
  have HA := Lib.hid hA
  have HB := Lib.hid hB
  have HN : Hid (n ≤ 4611686018427387904 ∧ l.length = n) := ⟨hn, hl⟩
  clear hA hB hn hl
  go_enter Tryz.func19, Tryz.ntmps19
  go_wp2
  go_loopw [13] (fun i wr => ∃ (j : Nat), j ≤ n ∧ i = .int .i64 j ∧ Hid (Below w.heap.size w wr)) (fun i _ => n - (intOf i).toNat)
  case atStart => exact ⟨0, Nat.zero_le _, rfl, Lib.hid (Below.refl _ _)⟩
  case round =>
    obtain ⟨j, hj, rfl, HS⟩ := hrel
    by_cases hlt : j < n
    · obtain ⟨y, hy⟩ : ∃ y, Hid (l[j]? = some y) := ⟨_, List.getElem?_eq_getElem (by have := HN.out; omega)⟩
      obtain ⟨g, off, rfl, d0, hg⟩ := (HA.out.below HS.out).int hy.out
      obtain ⟨g2, off2, rfl, d2, hg2⟩ := (HB.out.below HS.out).int hy.out
      have hw1 : IntKind.i64.wrap ((j : Int) + 1) = ((j + 1 : Nat) : Int) := by have := HN.out; rw [IntKind.wrap_i64]; omega
      have hj0 : ((0 : Int) ≤ j) := by omega
      have hj1 : ((j : Nat) : Int) < n := by omega
      have hbd : Hid (∀ q, Below w.heap.size w (wr.drewN q)) := fun q => bdrewN HS.out q
      go_wp2
      go_region
      all_goals
        go_wp2
        exact ⟨⟨j + 1, hlt, by go_num, by first | exact HS.out | exact HS.out.drew | exact hbd.out _⟩, by simp [intOf]; omega⟩
    · have hjn : j = n := by omega
      subst hjn
      go_wp2
      go_ret
      exact ⟨rfl, HS.out⟩
end Go.Proofs.YtlkfcfcejicdkaaGreatDoor
