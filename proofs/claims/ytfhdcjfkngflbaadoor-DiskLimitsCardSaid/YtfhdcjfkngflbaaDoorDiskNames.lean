/-
  disk: Names. Own work (the last lines after the kit's lay-iter).
-/
import Derived.Test.YtfhdcjfkngflbaaDoorDiskView
import Derived.Test.YtfhdcjfkngflbaaDoorNames
set_option linter.unusedSimpArgs false
set_option linter.unusedVariables false
namespace Go.Proofs.YtfhdcjfkngflbaaDoor
open Go Go.RowKit Go.Sort Go.Shelf

theorem cell_new0 (w : World) (v : Value) (t : TypeId) : (w.alloc (.cells #[v] t)).cell? ⟨w.heap.size, 0, none⟩ = some v := by
  have hh := heap_alloc_new w (.cells #[v] t)
  unfold World.cell?
  simp only
  rw [hh]; rfl
theorem names_sorts (m : Nat) : AnyZ.SortsIn Tryd.prog Tryd.namesSorted_ren Fence.wide m :=
  ⟨fun blk off cap ss W hH hblk hsz => callsIn_wide.2 (AnyM.slices_Sort_string Tryd.namesSort blk off cap ss W hH hblk hsz),
   fun p cap W => callsIn_wide.2 (AnyM.slices_Sort_string_none Tryd.namesSort p cap W)⟩

set_option maxHeartbeats 1000000 in
theorem dkeys_any (mb : Option Nat) (w : World) :
    CallsIn Fence.wide 5 Tryd.prog 23 #[.map mb] w fun e w' => e = .returned (.func (.func 33) #[] #[.pointer (some ⟨w.heap.size, 0, none⟩)]) ∧ w' = w.alloc (.cells #[.map mb] 48) := by
  refine callsIn_of_wp Tryd.func23 rfl trivial ?_ rfl
  simp only [Tryd.ntmps23, List.size_toArray, List.length_cons, List.length_nil, Nat.reduceAdd, Nat.reduceSub, Array.replicate_succ, Array.replicate_zero, List.push_toArray, List.append_toArray, List.nil_append, List.cons_append]
  gi_wp2
  go_ret
  exact ⟨rfl, rfl⟩

set_option maxHeartbeats 1000000 in
theorem sorted_keys (b c : Nat) (L : List (MEnt ByteArray)) (w : World) (hat : MapAt Value.string w b L c) (hwf : MWf L c) (hl : L.length ≤ 1000000) :
    CallsIn Fence.wide 5 Tryd.prog 22 #[.func (.func 33) #[] #[.pointer (some ⟨w.heap.size, 0, none⟩)]] (w.alloc (.cells #[.map (some b)] 48)) fun e w' => ∃ (v : Value) (ss : List (List UInt8)), e = .returned v ∧ ss.Perm (L.map keyB) ∧
      w'.ownsRow (w.alloc (.cells #[.map (some b)] 48)).heap.size 9 1 v ss.length ((ss.mergeSort (fun x y => decide (x ≤ y))).map encStr) ∧ (v = .slice none 0 0 ↔ ss = []) ∧ Below (w.alloc (.cells #[.map (some b)] 48)).heap.size (w.alloc (.cells #[.map (some b)] 48)) w' := by
  have hseq : SeqGives Fence.wide 2 Tryd.prog 33 #[.pointer (some ⟨w.heap.size, 0, none⟩)] encStr (fun ss => ss.Perm (L.map keyB)) L.length (w.alloc (.cells #[.map (some b)] 48)) :=
    dkeys_gives Fence.wide 2 trivial rfl (by omega) w.heap.size b c L _ (by simp) (cell_new0 w _ _) (hat.alloc _) hwf
  exact AnyZ.sorted_in Tryd.namesSorted Fence.wide 5 trivial trivial trivial trivial rfl (by omega) (names_sorts _) (enters_of Tryd.func32 (by kernel_rfl) rfl) 33 #[.pointer (some ⟨w.heap.size, 0, none⟩)] trivial (enters_of Tryd.func33 (by kernel_rfl) rfl) _ _ (Nat.le_trans hl (by decide)) (by omega) _ hseq

theorem names_nil (w : World) : Calls Tryd.prog 10 #[.pointer none] w fun e w' => e = .returned (.slice none 0 0) ∧ w = w' := by
  go_enter Tryd.func10, Tryd.ntmps10
  go_wp2
  go_ret
  exact ⟨rfl, rfl⟩

set_option maxHeartbeats 1000000 in
theorem names_any (base : Nat) (s : St) (w : World) (h : DiskAt base w s) : Calls Tryd.prog 10 #[.pointer (some ⟨s.B, 0, none⟩)] w fun e w' => ∃ (v : Value) (ss : List (List UInt8)), e = .returned v ∧ ss.Perm (s.L.map keyB) ∧
      w'.ownsRow w.heap.size 9 1 v ss.length ((ss.mergeSort (fun x y => decide (x ≤ y))).map encStr) ∧ Below w.heap.size w w' := by
  obtain ⟨c0, _, _⟩ := h.cells
  have HM := Lib.hid h.map
  have HW := Lib.hid h.wf
  have HL : Hid (s.L.length ≤ 1000000) := Nat.le_trans h.few (by decide)
  clear h
  refine (callsIn_wide (n := 6)).1 ?_
  have hfK : Fence.wide.fn 23 := trivial
  have hfS : Fence.wide.fn 22 := trivial
  refine callsIn_of_wp Tryd.func10 rfl trivial ?_ rfl
  simp only [Tryd.ntmps10, List.size_toArray, List.length_cons, List.length_nil, Nat.reduceAdd, Nat.reduceSub, Array.replicate_succ, Array.replicate_zero, List.push_toArray, List.append_toArray, List.nil_append, List.cons_append]
  gi_wp2_with (first
    | (gi_at_call 23; refine (dkeys_any _ _).mono ?_; rintro e w' ⟨rfl, rfl⟩)
    | (gi_at_call 22; refine (sorted_keys s.M s.c s.L w HM.out HW.out HL.out).mono ?_; rintro e w' ⟨v, ss, rfl, hS, hrow, hnil, hb⟩))
  go_ret
  exact ⟨v, ss, rfl, hS, ownsRow_base_a hrow (by simp), ((Below.refl _ w).alloc (Nat.le_refl _) _).trans (hb.mono (by simp))⟩
end Go.Proofs.YtfhdcjfkngflbaaDoor
