/-
  tree: side, walked. Own work.
-/
import Derived.Test.YtlkfcfcejicdkaaGreatDoorTreeSide
import Derived.Laws.EntriesVeiled
set_option linter.unusedSimpArgs false
set_option linter.unusedVariables false
namespace Go.Proofs.YtlkfcfcejicdkaaGreatDoor
open Go Go.RowKit

set_option maxRecDepth 100000 in
set_option maxHeartbeats 4000000 in
theorem side_any (Am : Option Addr) (nm cm : Nat) (Al : Option Addr) (q cl : Nat) (ls : List Lk) (n fr : Int) (w : World) (hl : ls.length = q) (hA : RowAt w Al (lkCells ls)) (hq : q ≤ 1000) (hn : ls.Nodup) (hk : ∀ k ∈ ls, k.1 < k.2 ∧ k.1 ∈ ALL ∧ k.2 ∈ ALL) (hnA : n ∈ ALL) :
    Calls Tryz.prog 40 #[grV Am nm cm Al q cl, .int .i64 n, .int .i64 fr] w fun e w' => ∃ (A : Option Addr) (c : Nat), e = .returned (.slice A (visitF ls 9 [] n fr).length c) ∧ Hid (RowAt w' A (intVs (inOrder (visitF ls 9 [] n fr))) ∧ Below w.heap.size w w') := by
  have hvk := visit_keep ls 9 [] n fr List.nodup_nil (fun x h => by cases h) hnA
  obtain ⟨r, hr⟩ : ∃ r, Hid (visitF ls 9 [] n fr = r) := ⟨_, rfl⟩
  have HV : Hid (∀ (w0 : World) (bg bl bv base : Nat) (W : World), Below w.heap.size w w0 → VSt w0 W bg bl bv base Am nm cm Al q cl none 0 0 [] →
      Calls Tryz.prog 64 #[.int .i64 n, .int .i64 fr, .pointer (some ⟨bl, 0, none⟩), .pointer (some ⟨bg, 0, none⟩), .pointer (some ⟨bv, 0, none⟩)] W fun e w' => e = .returned (.tuple #[]) ∧ Hid (VEnd w0 W w' bg bl bv base Am nm cm Al q cl none r)) := fun w0 bg bl bv base W hw hS => by
    have := visit_any w0 bg bl bv base Am nm cm Al q cl ls hl (hA.below hw) hq hn hk 9 n fr none 0 0 [] W hnA List.nodup_nil (fun x h => by cases h) rfl (by omega) hS
    rw [hr.out] at this; exact this
  rw [hr.out] at hvk ⊢
  have HVK := Lib.hid hvk
  have HLE : Hid (r.length ≤ 8) := nodup_le hvk.1 (m := ALL) hvk.2.1
  clear hA hq hl hn hk hnA hvk hr
  obtain ⟨w1, hw1⟩ : ∃ w1, w1 = ((w.alloc (.cells #[.slice Am nm cm, .slice Al q cl] 25)).alloc (.cells #[.slice none 0 0] 22)).alloc (.cells #[.func (.func 64) #[] #[.pointer (some ⟨w.heap.size + 1, 0, none⟩), .pointer (some ⟨w.heap.size, 0, none⟩), .pointer (some ⟨w.heap.size + 1 + 1, 0, none⟩)]] 89) := ⟨_, rfl⟩
  have HS : Hid (VSt w w1 w.heap.size (w.heap.size + 1) (w.heap.size + 1 + 1) (w.heap.size + 3) Am nm cm Al q cl none 0 0 []) := by
    refine ⟨?_, ?_, ?_, by simpa [intVs] using World.ownsRow_nil _ _ _ _, ?_, by rw [hw1]; simp⟩
    · rw [hw1, Below.heap_alloc _ _ _ (by simp; omega), Below.heap_alloc _ _ _ (by simp)]; exact heap_alloc_new _ _
    · rw [hw1, Below.heap_alloc _ _ _ (by simp)]
      have := heap_alloc_new (w.alloc (.cells #[.slice Am nm cm, .slice Al q cl] 25)) (.cells #[.slice none 0 0] 22)
      simpa using this
    · rw [hw1]
      have := heap_alloc_new ((w.alloc (.cells #[.slice Am nm cm, .slice Al q cl] 25)).alloc (.cells #[.slice none 0 0] 22)) (.cells #[.func (.func 64) #[] #[.pointer (some ⟨w.heap.size + 1, 0, none⟩), .pointer (some ⟨w.heap.size, 0, none⟩), .pointer (some ⟨w.heap.size + 1 + 1, 0, none⟩)]] 89)
      simpa using this
    · rw [hw1]; exact (((Below.refl _ _).alloc (Nat.le_refl _) _).alloc (by simp) _).alloc (by simp; omega) _
  go_enter Tryz.func40, Tryz.ntmps40
  go_wp2_with fail
  rw [← hw1]
  clear hw1
  refine (HV.out w _ _ _ _ w1 (Below.refl _ _) HS.out).mono ?_
  rintro e w5 ⟨rfl, H5⟩
  obtain ⟨A6, m6, c6, hm6, hS6, hF6⟩ := H5.out
  obtain ⟨l0, lf, ll⟩ := cell1 hS6.l
  have HM : Hid (r.length = m6) := hm6
  have H6 := Lib.hid hS6
  have HSI := Lib.hid (sortI_any (w.heap.size + 3) A6 m6 c6 r hm6 w5 hS6.own hS6.low.2.2.2.2 (by have := HLE.out; omega))
  clear hm6 hS6 hF6 H5 HV HS
  go_wp2_with fail
  refine HSI.out.mono ?_
  rintro e w7 ⟨rfl, l', hp, hs, hr, hb⟩
  have e2 : l' = inOrder r := sorted_inOrder hp hs HVK.out.1 HVK.out.2.1
  subst e2
  have HF : Hid (RowAt w7 A6 (intVs (inOrder r)) ∧ Below w.heap.size w w7) := ⟨hr, H6.out.old.trans (hb.mono (by omega))⟩
  have hl7 : w7.heap[w.heap.size + 1]? = some (.cells #[.slice A6 m6 c6] 22 (0, 0)) := (hb.block _ (by omega)).trans H6.out.l
  clear l0 lf ll hr hb hp hs HSI
  obtain ⟨l0, lf, ll⟩ := cell1 hl7
  clear hl7
  go_wp2
  go_ret
  exact ⟨A6, c6, by rw [HM.out]; rfl, HF.out⟩
end Go.Proofs.YtlkfcfcejicdkaaGreatDoor
