/-
  tree: the document's with. Own work.
-/
import Derived.Test.YtlkfcfcejicdkaaGreatDoorTreeRef3
set_option linter.unusedSimpArgs false
set_option linter.unusedVariables false
namespace Go.Proofs.YtlkfcfcejicdkaaGreatDoor
open Go Go.RowKit

section
variable (A : Option Addr) (n c : Nat) (ls : List Lk) (w : World)
set_option maxRecDepth 100000 in
set_option maxHeartbeats 4000000 in
theorem rwith_any (k1 k2 : Int) (hl : ls.length = n) (hA : RowAt w A (lkCells ls)) (hn : n ≤ 1000) :
    Calls Tryz.prog 53 #[.slice A n c, .agg #[.int .i64 k1, .int .i64 k2]] w fun e w' => ∃ (A' : Option Addr) (m c' : Nat), e = .returned (.slice A' m c') ∧ Hid ((withL ls (k1, k2)).length = m ∧ w'.ownsRow w.heap.size 35 2 (.slice A' m c') m (lkCells (withL ls (k1, k2))) ∧ Below w.heap.size w w') := by
  have HA := Lib.hid hA
  have HN : Hid (n ≤ 1000 ∧ ls.length = n) := ⟨hn, hl⟩
  clear hA hn hl
  obtain ⟨i0, hi, hz0, hz1, hz2⟩ := info_parts link_info
  obtain ⟨K, hK⟩ : ∃ K, K = w.heap.size := ⟨_, rfl⟩
  obtain ⟨W1, hW1⟩ : ∃ W1, W1 = w.alloc (.cells #[.int .i64 k1, .int .i64 k2] 35) := ⟨_, rfl⟩
  have HB : Hid (W1.heap[K]? = some (.cells #[.int .i64 k1, .int .i64 k2] 35 (0, 0)) ∧ Below w.heap.size w W1 ∧ K < W1.heap.size ∧ w.heap.size ≤ W1.heap.size) := by
    rw [hW1, hK]; exact ⟨heap_alloc_new _ _, (Below.refl _ _).alloc (Nat.le_refl _) _, by simp, by simp⟩
  go_enter Tryz.func53, Tryz.ntmps53
  go_wp2
  rw [← hW1, ← hK]
  clear hW1 hK
  go_loopw [5, 6, 11] (fun s b i wr => ∃ (j m : Nat) (A5 : Option Addr) (c5 : Nat) (put : Bool) (acc : List Lk), j ≤ n ∧ i = .int .i64 j ∧ s = .slice A5 m c5 ∧ b = .bool put ∧ Hid (acc.length = m ∧ WAcc ls (k1, k2) j put acc ∧ wr.ownsRow W1.heap.size 35 2 (.slice A5 m c5) m (lkCells acc) ∧ Below W1.heap.size W1 wr)) (fun _ _ i _ => n - (intOf i).toNat)
  case atStart => exact ⟨0, 0, none, 0, false, [], Nat.zero_le _, rfl, rfl, rfl, rfl, ⟨fun _ => ⟨by simp, by simp⟩, fun e => (by cases e), by simp⟩, by simpa [lkCells] using World.ownsRow_nil _ _ _ _, Below.refl _ _⟩
  case round =>
    obtain ⟨j, m, A5, c5, put, acc, hj, rfl, rfl, rfl, HL⟩ := hrel
    obtain ⟨x0, x1, _, xl⟩ := cell2 ((HL.out.2.2.2.block K HB.out.2.2.1).trans HB.out.1)
    have HM9 : Hid (m ≤ 1002) := by have := HL.out.2.1.2.2; have := HL.out.1; have := HN.out; simp only [Hid]; omega
    have hm1 : Hid (m + 1 ≤ maxLen) := Nat.le_trans (show m + 1 ≤ 1003 by have := HM9.out; omega) (by decide)
    have hb1 : Hid ((m + 1) * 16 ≤ 140737488355328) := by have := HM9.out; simp only [Hid]; omega
    have hm2 : Hid (m + 1 + 1 ≤ maxLen) := Nat.le_trans (show m + 1 + 1 ≤ 1004 by have := HM9.out; omega) (by decide)
    have hb2 : Hid ((m + 1 + 1) * 16 ≤ 140737488355328) := by have := HM9.out; simp only [Hid]; omega
    by_cases hlt : j < n
    · obtain ⟨y, hy⟩ : ∃ y, Hid (ls[j]? = some y) := ⟨_, List.getElem?_eq_getElem (by have := HN.out; omega)⟩
      obtain ⟨g, off, rfl, d0, d1, hg⟩ := (HA.out.below (HB.out.2.1.trans (HL.out.2.2.2.mono HB.out.2.1.size))).lk hy.out
      obtain ⟨y1, hy1⟩ : ∃ x, Hid (y.1 = x) := ⟨_, rfl⟩
      obtain ⟨y2, hy2⟩ : ∃ x, Hid (y.2 = x) := ⟨_, rfl⟩
      have hy12 : Hid (y = (y1, y2)) := Prod.ext hy1.out hy2.out
      rw [hy1.out] at d0
      rw [hy2.out] at d1
      have hyy : Hid (ls[j]? = some (y1, y2)) := by rw [Hid, hy.out, hy12.out]
      clear hy hy1 hy2 hy12
      have hw1 : IntKind.i64.wrap ((j : Int) + 1) = ((j + 1 : Nat) : Int) := by have := HN.out; rw [IntKind.wrap_i64]; omega
      have hj0 : ((0 : Int) ≤ j) := by omega
      have hj1 : ((j : Nat) : Int) < n := by omega
      have hKne : ¬ (K = wr.heap.size) := by omega
      have HY : Hid (∀ w5, Below (wr.alloc (.cells #[.int .i64 y1, .int .i64 y2] 35)).heap.size (wr.alloc (.cells #[.int .i64 y1, .int .i64 y2] 35)) w5 → w5.heap[K]? = some (.cells #[.int .i64 k1, .int .i64 k2] 35 (0, 0)) ∧ w5.heap[wr.heap.size]? = some (.cells #[.int .i64 y1, .int .i64 y2] 35 (0, 0)) ∧ Below W1.heap.size W1 w5 ∧ w5.ownsRow W1.heap.size 35 2 (.slice A5 m c5) m (lkCells acc) ∧ wr.heap.size < w5.heap.size) := fun w5 hb => by
        have h1 := (HL.out.2.2.2.block K HB.out.2.2.1).trans HB.out.1
        have h2 := heap_alloc_new wr (.cells #[.int .i64 y1, .int .i64 y2] 35)
        refine ⟨(hb.block K (by simp; omega)).trans ((Below.heap_alloc _ _ _ xl).trans h1), (hb.block _ (by simp)).trans h2, ?_, ownsRow_below (HL.out.2.2.1.alloc _) hb, by have := hb.size; simp at this; omega⟩
        exact (HL.out.2.2.2.alloc HL.out.2.2.2.size _).trans (hb.mono (Nat.le_trans HL.out.2.2.2.size (by simp)))
      have hne : some wr.heap.size ≠ (Value.slice A5 m c5).ownBlock := own_far HL.out.2.2.1 (.inr (Nat.le_refl _))
      have HNE := Lib.hid hne
      clear hne
      have HST : Hid (∀ (o : Obj) (w5 w6 : World) (g8 c8 : Nat), (w5.heap[K]? = some (.cells #[.int .i64 k1, .int .i64 k2] 35 (0, 0)) ∧ w5.heap[wr.heap.size]? = some (.cells #[.int .i64 y1, .int .i64 y2] 35 (0, 0)) ∧ Below W1.heap.size W1 w5 ∧ w5.ownsRow W1.heap.size 35 2 (.slice A5 m c5) m (lkCells acc) ∧ wr.heap.size < w5.heap.size) → (w5.alloc o).grownBy w6 (Value.slice A5 m c5).ownBlock → w6.heap[wr.heap.size]? = some (.cells #[.int .i64 y1, .int .i64 y2] 35 (0, 0)) ∧ Below W1.heap.size W1 w6) := fun o w5 w6 g8 c8 h hg => by
        obtain ⟨h1, h2, h3, h4, h5⟩ := h
        refine ⟨?_, below_push (h3.alloc h3.size o) (h4.alloc o) (Nat.le_trans h3.size (by simp)) hg⟩
        rw [hg.block wr.heap.size (by simp; omega) HNE.out, Below.heap_alloc _ _ _ h5]; exact h2
      have HSZ : Hid (∀ (w5 : World) o, Below W1.heap.size W1 w5 → W1.heap.size ≤ (w5.alloc o).heap.size) := fun w5 o h => Nat.le_trans h.size (by simp)
      have hc1 : Hid (∀ u ∈ [Value.int .i64 k1, Value.int .i64 k2], u.oneCell' = true) := by
        intro u hu
        simp at hu
        rcases hu with rfl | rfl <;> rfl
      have hc2 : Hid (∀ u ∈ [Value.int .i64 y1, Value.int .i64 y2], u.oneCell' = true) := by
        intro u hu
        simp at hu
        rcases hu with rfl | rfl <;> rfl
      have H0 := Lib.hid (HY.out _ (Below.refl _ _))
      cases put with
      | true =>
        go_wp2_with (at_builtin; refine wpList_append_own _ rfl _ _ 23 rfl W1.heap.size 35 i0 (.agg #[.int .i64 0, .int .i64 0]) 2 16 Tryz.underlying23 hi hz0 hz1 hz2 rfl (by decide) (.slice A5 m c5) m _ rfl (H0.out.2.2.2.1.alloc _) ⟨wr.heap.size + 1, 0, none⟩ 1 1 [.int .i64 y1, .int .i64 y2] rfl rfl (new2 _ _ _ _ _ (by simp)) hc2.out hm1.out hb1.out (HSZ.out _ _ H0.out.2.2.1) ?_; intro v' w5 hown5 hgrow5 hnil5)
        obtain ⟨A8, c8, rfl⟩ := own_slice hown5
        exact ⟨⟨j + 1, m + 1, A8, c8, true, acc ++ [(y1, y2)], hlt, by go_num, rfl, rfl, by rw [List.length_append, HL.out.1]; rfl, HL.out.2.1.go hyy.out, by rw [lkCells_append]; exact hown5, below_push (H0.out.2.2.1.alloc H0.out.2.2.1.size _) (H0.out.2.2.2.1.alloc _) (HSZ.out _ _ H0.out.2.2.1) hgrow5⟩, by simp [intOf]; omega⟩
      | false =>
        have HAH := Lib.hid (ahead_any k1 k2 y1 y2 (wr.alloc (.cells #[.int .i64 y1, .int .i64 y2] 35)))
        by_cases hk : lkLt (k1, k2) (y1, y2)
        · rw [decide_eq_true hk] at HAH
          have HK := Lib.hid hk
          clear hk
          go_wp2_with (first
            | (at_builtin; refine wpList_append_own _ rfl _ _ 23 rfl W1.heap.size 35 i0 (.agg #[.int .i64 0, .int .i64 0]) 2 16 Tryz.underlying23 hi hz0 hz1 hz2 rfl (by decide) (.slice (some ⟨g8, 0, none⟩) (m + 1) c8) (m + 1) _ rfl (hown6.alloc _) ⟨w6.heap.size, 0, none⟩ 1 1 [.int .i64 y1, .int .i64 y2] rfl rfl (new2 _ _ _ _ _ rfl) hc2.out hm2.out hb2.out (HSZ.out _ _ H6.2) ?_; intro v' w7 hown7 hgrow7 hnil7)
            | (at_builtin; refine wpList_append_lies _ rfl _ _ 23 rfl W1.heap.size 35 i0 (.agg #[.int .i64 0, .int .i64 0]) 2 16 Tryz.underlying23 hi hz0 hz1 hz2 rfl (by decide) (.slice A5 m c5) m _ rfl (H5.2.2.2.1.alloc _) ⟨w5.heap.size, 0, none⟩ 1 1 [.int .i64 k1, .int .i64 k2] rfl rfl (new2 _ _ _ _ _ rfl) hc1.out (by decide) hm1.out hb1.out (HSZ.out _ _ H5.2.2.1) _ rfl ?_; intro g8 c8 w6 hown6 hgrow6 hat6 hlt6; have H6 := HST.out _ _ _ g8 c8 H5 hgrow6; obtain ⟨z0, z1, _, _⟩ := cell2 H6.1)
            | (go_at_call 58; refine HAH.out.mono ?_; rintro e w5 ⟨rfl, hb5⟩; have H5 := HY.out _ hb5; obtain ⟨q0, q1, _, _⟩ := cell2 H5.1; obtain ⟨z0, z1, _, _⟩ := cell2 H5.2.1))
          obtain ⟨A9, c9, rfl⟩ := own_slice hown7
          exact ⟨⟨j + 1, m + 1 + 1, A9, c9, true, acc ++ [(k1, k2)] ++ [(y1, y2)], hlt, by go_num, rfl, rfl, by rw [List.length_append, List.length_append, HL.out.1]; rfl, HL.out.2.1.new hyy.out HK.out, by rw [lkCells_append, lkCells_append]; exact hown7, below_push (H6.2.alloc H6.2.size _) (hown6.alloc _) (HSZ.out _ _ H6.2) hgrow7⟩, by simp [intOf]; omega⟩
        · rw [decide_eq_false hk] at HAH
          have HK := Lib.hid hk
          clear hk
          go_wp2_with (first
            | (at_builtin; refine wpList_append_own _ rfl _ _ 23 rfl W1.heap.size 35 i0 (.agg #[.int .i64 0, .int .i64 0]) 2 16 Tryz.underlying23 hi hz0 hz1 hz2 rfl (by decide) (.slice A5 m c5) m _ rfl (H5.2.2.2.1.alloc _) ⟨w5.heap.size, 0, none⟩ 1 1 [.int .i64 y1, .int .i64 y2] rfl rfl (new2 _ _ _ _ _ rfl) hc2.out hm1.out hb1.out (HSZ.out _ _ H5.2.2.1) ?_; intro v' w6 hown6 hgrow6 hnil6)
            | (go_at_call 58; refine HAH.out.mono ?_; rintro e w5 ⟨rfl, hb5⟩; have H5 := HY.out _ hb5; obtain ⟨q0, q1, _, _⟩ := cell2 H5.1; obtain ⟨z0, z1, _, _⟩ := cell2 H5.2.1))
          obtain ⟨A9, c9, rfl⟩ := own_slice hown6
          exact ⟨⟨j + 1, m + 1, A9, c9, false, acc ++ [(y1, y2)], hlt, by go_num, rfl, rfl, by rw [List.length_append, HL.out.1]; rfl, HL.out.2.1.old hyy.out HK.out, by rw [lkCells_append]; exact hown6, below_push (H5.2.2.1.alloc H5.2.2.1.size _) (H5.2.2.2.1.alloc _) (HSZ.out _ _ H5.2.2.1) hgrow6⟩, by simp [intOf]; omega⟩
    · have hjn : j = n := by omega
      subst hjn
      have HWA : Hid ((if put = true then acc else acc ++ [(k1, k2)]) = withL ls (k1, k2)) := by
        have := HL.out.2.1
        rw [← HN.out.2] at this
        exact this.fin
      have hzz : Hid (∀ o, W1.heap.size ≤ (wr.alloc o).heap.size) := fun o => Nat.le_trans HL.out.2.2.2.size (by simp)
      have HO1 : Hid (∀ o, (wr.alloc o).ownsRow W1.heap.size 35 2 (.slice A5 m c5) m (lkCells acc)) := fun o => HL.out.2.2.1.alloc o
      have HA1 : Hid (∀ o, Below W1.heap.size W1 (wr.alloc o)) := fun o => HL.out.2.2.2.alloc HL.out.2.2.2.size o
      have hc1 : Hid (∀ u ∈ [Value.int .i64 k1, Value.int .i64 k2], u.oneCell' = true) := by
        intro u hu
        simp at hu
        rcases hu with rfl | rfl <;> rfl
      cases put with
      | true =>
        have HE : Hid (acc = withL ls (k1, k2)) := by have := HWA.out; rw [if_pos rfl] at this; exact this
        go_wp2
        go_ret
        exact ⟨A5, m, c5, rfl, by rw [← HE.out]; exact HL.out.1, by rw [← HE.out]; exact ownsRow_mono HL.out.2.2.1 HB.out.2.2.2, HB.out.2.1.trans (HL.out.2.2.2.mono HB.out.2.1.size)⟩
      | false =>
        have HE : Hid (acc ++ [(k1, k2)] = withL ls (k1, k2)) := by have := HWA.out; rw [if_neg (by simp)] at this; exact this
        go_wp2_with (at_builtin; refine wpList_append_own _ rfl _ _ 23 rfl W1.heap.size 35 i0 (.agg #[.int .i64 0, .int .i64 0]) 2 16 Tryz.underlying23 hi hz0 hz1 hz2 rfl (by decide) (.slice A5 m c5) m _ rfl (HO1.out _) ⟨wr.heap.size, 0, none⟩ 1 1 [.int .i64 k1, .int .i64 k2] rfl rfl (new2 _ _ _ _ _ rfl) hc1.out hm1.out hb1.out (hzz.out _) ?_; intro v' w6 hown6 hgrow6 hnil6)
        obtain ⟨A9, c9, rfl⟩ := own_slice hown6
        have HF : Hid (w6.ownsRow w.heap.size 35 2 (.slice A9 (m + 1) c9) (m + 1) (lkCells (withL ls (k1, k2))) ∧ Below W1.heap.size W1 w6) := ⟨by rw [← HE.out, lkCells_append]; exact ownsRow_mono hown6 HB.out.2.2.2, below_push (HA1.out _) (HO1.out _) (hzz.out _) hgrow6⟩
        go_ret
        exact ⟨A9, m + 1, c9, rfl, by rw [← HE.out, List.length_append, HL.out.1]; rfl, HF.out.1, HB.out.2.1.trans (HF.out.2.mono HB.out.2.1.size)⟩
end
end Go.Proofs.YtlkfcfcejicdkaaGreatDoor
