/-
  tree: with, walked. Own work.
-/
import Derived.Test.YtlkfcfcejicdkaaGreatDoorTreeWith
set_option linter.unusedSimpArgs false
set_option linter.unusedVariables false
namespace Go.Proofs.YtlkfcfcejicdkaaGreatDoor
open Go Go.RowKit

set_option maxRecDepth 100000 in
set_option maxHeartbeats 4000000 in
theorem with_any (A : Option Addr) (n c : Nat) (ls : List Lk) (k1 k2 : Int) (w : World) (hl : ls.length = n) (hA : RowAt w A (lkCells ls)) (hn : n ≤ 1000) (hs : ls.Pairwise lkLt) (hnew : (k1, k2) ∉ ls) (hall : ∀ p ∈ ls, p.1 ∈ ALL ∧ p.2 ∈ ALL) (hk : k1 ∈ ALL ∧ k2 ∈ ALL) :
    Calls Tryz.prog 50 #[.slice A n c, .agg #[.int .i64 k1, .int .i64 k2]] w fun e w' => ∃ (A' : Option Addr) (c' : Nat), e = .returned (.slice A' (n + 1) c') ∧ Hid (RowAt w' A' (lkCells (withL ls (k1, k2))) ∧ Below w.heap.size w w') := by
  obtain ⟨i0, hi, hz0, hz1, hz2⟩ := info_parts link_info
  obtain ⟨K, hK⟩ : ∃ K, K = w.heap.size := ⟨_, rfl⟩
  obtain ⟨W1, hW1⟩ : ∃ W1, W1 = w.alloc (.cells #[.int .i64 k1, .int .i64 k2] 35) := ⟨_, rfl⟩
  have HB : Hid (W1.heap[K]? = some (.cells #[.int .i64 k1, .int .i64 k2] 35 (0, 0)) ∧ Below w.heap.size w W1 ∧ K < W1.heap.size) := by
    rw [hW1, hK]; exact ⟨heap_alloc_new _ _, (Below.refl _ _).alloc (Nat.le_refl _) _, by simp⟩
  have HC : Hid (∀ W, Below w.heap.size w W → Calls Tryz.prog 67 #[.slice A n c] W fun e w' => ∃ (A' : Option Addr) (c' : Nat), e = .returned (.slice A' n c') ∧ w'.ownsRow w.heap.size 35 2 (.slice A' n c') n (lkCells ls) ∧ Below W.heap.size W w' ∧ Below w.heap.size w w') := fun W hW => by
    refine (cloneL_at A n c ls W hl hn (hA.below hW)).mono ?_
    rintro e w' ⟨A', c', rfl, h1, h2⟩
    exact ⟨A', c', rfl, ownsRow_mono h1 hW.size, h2, hW.trans (h2.mono hW.size)⟩
  have HS : Hid (∀ (A' : Option Addr) (c' : Nat) (W : World), W.ownsRow w.heap.size 35 2 (.slice A' (n + 1) c') (n + 1) (lkCells (ls ++ [(k1, k2)])) → Below w.heap.size w W → Calls Tryz.prog 68 #[.slice A' (n + 1) c', .func (.func 56) #[] #[]] W fun e w' => e = .returned (.tuple #[]) ∧ Hid (RowAt w' A' (lkCells (withL ls (k1, k2))) ∧ Below w.heap.size w w')) := fun A' c' W h1 h2 => by
    have e : (ls ++ [(k1, k2)]).length = n + 1 := by rw [List.length_append, hl]; rfl
    have h3 := sortL_any w.heap.size A' c' (ls ++ [(k1, k2)]) W (by rw [e]; exact h1) h2.size (fun p hp => by
      rcases List.mem_append.1 hp with h | h
      · exact hall p h
      · have e2 : p = (k1, k2) := by simpa using h
        rw [e2]; exact hk) (by rw [e]; omega)
    rw [e] at h3
    refine h3.mono ?_
    rintro e w' ⟨rfl, l', hp, hso, hr, hb⟩
    rw [with_of_sort hs hnew hp hso] at hr
    exact ⟨rfl, hr, h2.trans hb⟩
  have hm1 : Hid (n + 1 ≤ maxLen) := Nat.le_trans (show n + 1 ≤ 1001 by omega) (by decide)
  have hb1 : Hid ((n + 1) * 16 ≤ 140737488355328) := by simp only [Hid]; omega
  have HAPP : Hid (lkCells (ls ++ [(k1, k2)]) = lkCells ls ++ [.int .i64 k1, .int .i64 k2]) := by rw [Hid, lkCells_append]; rfl
  have h1c : Hid (∀ u ∈ [Value.int .i64 k1, Value.int .i64 k2], u.oneCell' = true) := by
    intro u hu
    simp at hu
    rcases hu with rfl | rfl <;> rfl
  have HKB : Hid (W1.drew.heap[K]? = some (.cells #[.int .i64 k1, .int .i64 k2] 35 (0, 0)) ∧ ∀ o, (W1.alloc o).drew.heap[K]? = some (.cells #[.int .i64 k1, .int .i64 k2] 35 (0, 0))) := ⟨HB.out.1, fun o => (Below.heap_alloc W1 o K HB.out.2.2).trans HB.out.1⟩
  have HBD : Hid (Below w.heap.size w W1.drew ∧ (∀ o, Below w.heap.size w (W1.drew.alloc o)) ∧ (∀ o, Below w.heap.size w (W1.alloc o).drew)) := ⟨HB.out.2.1.drew, fun o => HB.out.2.1.drew.alloc HB.out.2.1.size o, fun o => (HB.out.2.1.alloc HB.out.2.1.size o).drew⟩
  have HNB : Hid (∀ o, (W1.alloc o).drew.heap[W1.heap.size]? = some o) := fun o => heap_alloc_new W1 o
  have HP : Hid (∀ (w5 w5' w6 : World) (v u : Value), Below w.heap.size w w5 → w5.ownsRow w.heap.size 35 2 v n (lkCells ls) → (w5' = w5 ∨ ∃ o, w5' = w5.alloc o) → w5'.grownBy w6 v.ownBlock → w6.ownsRow w.heap.size 35 2 u (n + 1) (lkCells ls ++ [.int .i64 k1, .int .i64 k2]) → w6.ownsRow w.heap.size 35 2 u (n + 1) (lkCells (ls ++ [(k1, k2)])) ∧ Below w.heap.size w w6) := fun w5 w5' w6 v u h05 hr ho hg h6 => by
    refine ⟨by rw [HAPP.out]; exact h6, ?_⟩
    rcases ho with rfl | ⟨o, rfl⟩
    · exact below_push h05 hr h05.size hg
    · exact below_push (h05.alloc h05.size o) (hr.alloc o) (by have := h05.size; simp; omega) hg
  have HSZ : Hid (∀ (w5 : World), Below w.heap.size w w5 → w.heap.size ≤ w5.heap.size ∧ ∀ o, w.heap.size ≤ (w5.alloc o).heap.size) := fun w5 h5 => ⟨h5.size, fun o => by have := h5.size; simp; omega⟩
  clear hl hA hn hs hnew hall hk
  go_enter Tryz.func50, Tryz.ntmps50
  go_wp2_with fail
  rw [← hW1, ← hK]
  clear hW1 hK
  obtain ⟨x0, x1, xf, xl⟩ := cell2 HB.out.1
  go_region_law (first
    | (refine step_append_lies _ (by rfl) _ _ _ (by rfl) w.heap.size 35 i0 (.agg #[.int .i64 0, .int .i64 0]) 2 16 Tryz.underlying23 hi hz0 hz1 hz2 rfl (by decide) (.slice A5 n c5) n (lkCells ls) (by rfl) (hown5.alloc _) ⟨w5.heap.size, 0, none⟩ 1 1 [.int .i64 k1, .int .i64 k2] (by rfl) (by rfl) (new2 _ _ _ _ _ rfl) h1c.out (by decide) hm1.out hb1.out ((HSZ.out _ hW5).2 _) _ rfl ?_; intro g cap w6 hown6 hgrow6 hat6 hlt6; obtain ⟨hr6, hb6⟩ := HP.out _ _ _ _ _ hW5 hown5 (.inr ⟨_, rfl⟩) hgrow6 hown6; clear hown6 hgrow6 hat6 hlt6)
    | (refine step_append_lies _ (by rfl) _ _ _ (by rfl) w.heap.size 35 i0 (.agg #[.int .i64 0, .int .i64 0]) 2 16 Tryz.underlying23 hi hz0 hz1 hz2 rfl (by decide) (.slice A5 n c5) n (lkCells ls) (by rfl) hown5 ⟨W1.heap.size, 0, none⟩ 1 1 [.int .i64 k1, .int .i64 k2] (by rfl) (by rfl) (World.news_of_block (cs := #[.int .i64 k1, .int .i64 k2]) (t := 35) (fr := (0, 0)) ((hb5.block _ (Array.getElem?_eq_some_iff.1 (HNB.out _)).1).trans (HNB.out _))) h1c.out (by decide) hm1.out hb1.out (HSZ.out _ hW5).1 _ rfl ?_; intro g cap w6 hown6 hgrow6 hat6 hlt6; obtain ⟨hr6, hb6⟩ := HP.out _ _ _ _ _ hW5 hown5 (.inl rfl) hgrow6 hown6; clear hown6 hgrow6 hat6 hlt6)
    | (go_simp; go_at_call 67; refine (HC.out _ (by first | exact HBD.out.1 | exact HBD.out.2.1 _ | exact HBD.out.2.2 _)).mono ?_; rintro e w5 ⟨A5, c5, rfl, hown5, hb5, hW5⟩; obtain ⟨x0, x1, xf, xl⟩ := cell2 (by first | exact (hb5.block K HB.out.2.2).trans HKB.out.1 | exact (hb5.block K (Array.getElem?_eq_some_iff.1 (HKB.out.2 _)).1).trans (HKB.out.2 _) : w5.heap[K]? = some (.cells #[.int .i64 k1, .int .i64 k2] 35 (0, 0))))
    | fail)
  all_goals
    clear hown5 hW5 hb5
    go_wp2_with fail
    refine (HS.out _ _ _ hr6 hb6).mono ?_
    rintro e w7 ⟨rfl, H7⟩
    go_wp2
    go_ret
    exact ⟨_, _, rfl, H7⟩
end Go.Proofs.YtlkfcfcejicdkaaGreatDoor
