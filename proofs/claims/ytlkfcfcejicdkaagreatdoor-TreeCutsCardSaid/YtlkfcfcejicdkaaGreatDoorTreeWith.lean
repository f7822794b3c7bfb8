/-
  tree: Of, without, with; slices.Contains at links: walked. Own work.
-/
import Derived.Test.YtlkfcfcejicdkaaGreatDoorTreeCopied
import Derived.Deep.RegionLaw
set_option linter.unusedSimpArgs false
set_option linter.unusedVariables false
namespace Go.Proofs.YtlkfcfcejicdkaaGreatDoor
open Go Go.RowKit

theorem of_any (a b : Int) (w : World) : Calls Tryz.prog 39 #[.int .i64 a, .int .i64 b] w fun e w' => e = .returned (.agg #[.int .i64 (min a b), .int .i64 (max a b)]) ∧ Below w.heap.size w w' := by
  go_enter Tryz.func39, Tryz.ntmps39
  go_wp2
  refine bodyPost_ret (v := .agg #[.int .i64 (min a b), .int .i64 (max a b)]) ?_ rfl ?_
  · simp [results, Tryz.results39, go_sem]
  · exact ⟨rfl, by first | exact (Below.refl _ _).alloc (Nat.le_refl _) _ | exact belowS (belowS ((Below.refl _ _).alloc (Nat.le_refl _) _) (Nat.le_refl _) _) (Nat.le_refl _) _⟩
theorem rof_any (a b : Int) (w : World) : Calls Tryz.prog 14 #[.int .i64 a, .int .i64 b] w fun e w' => e = .returned (.agg #[.int .i64 (min a b), .int .i64 (max a b)]) ∧ Below w.heap.size w w' := by
  go_enter Tryz.func14, Tryz.ntmps14
  go_wp2
  refine bodyPost_ret (v := .agg #[.int .i64 (min a b), .int .i64 (max a b)]) ?_ rfl ?_
  · simp [results, Tryz.results14, go_sem]
  · exact ⟨rfl, by first | exact (Below.refl _ _).alloc (Nat.le_refl _) _ | exact belowS (belowS ((Below.refl _ _).alloc (Nat.le_refl _) _) (Nat.le_refl _) _) (Nat.le_refl _) _⟩
section
variable (A : Option Addr) (n c : Nat) (ls : List Lk) (k : Lk) (w : World)
set_option maxHeartbeats 1000000 in
theorem idxL_any (k1 k2 : Int) (hk : k = (k1, k2)) (hl : ls.length = n) (hA : RowAt w A (lkCells ls)) (hn : n ≤ 4611686018427387904) :
    Calls Tryz.prog 63 #[.slice A n c, .agg #[.int .i64 k1, .int .i64 k2]] w fun e w' => ∃ r : Int, e = .returned (.int .i64 r) ∧ Below w.heap.size w w' ∧ decide (r ≥ 0) = decide (k ∈ ls) := by
  subst hk
  have HA := Lib.hid hA
  have HN : Hid (n ≤ 4611686018427387904 ∧ ls.length = n) := ⟨hn, hl⟩
  clear hA hn hl
  obtain ⟨K, hK⟩ : ∃ K, K = w.heap.size := ⟨_, rfl⟩
  obtain ⟨W1, hW1⟩ : ∃ W1, W1 = w.alloc (.cells #[.int .i64 k1, .int .i64 k2] 35) := ⟨_, rfl⟩
  have HB : Hid (W1.heap[K]? = some (.cells #[.int .i64 k1, .int .i64 k2] 35 (0, 0)) ∧ Below w.heap.size w W1) := by
    rw [hW1, hK]; exact ⟨heap_alloc_new _ _, (Below.refl _ _).alloc (Nat.le_refl _) _⟩
  go_enter Tryz.func63, Tryz.ntmps63
  go_wp2
  rw [← hW1, ← hK]
  clear hW1 hK
  go_loopw [8] (fun i wr => ∃ (j : Nat), j ≤ n ∧ i = .int .i64 j ∧ Hid ((k1, k2) ∉ ls.take j ∧ Below W1.heap.size W1 wr)) (fun i _ => n - (intOf i).toNat)
  case atStart => exact ⟨0, Nat.zero_le _, rfl, by simp, Below.refl _ _⟩
  case round =>
    obtain ⟨j, hj, rfl, HS⟩ := hrel
    by_cases hlt : j < n
    · obtain ⟨y, hy⟩ : ∃ y, Hid (ls[j]? = some y) := ⟨_, List.getElem?_eq_getElem (by have := HN.out; omega)⟩
      obtain ⟨g, off, rfl, d0, d1, hg⟩ := (HA.out.below (HB.out.2.trans (HS.out.2.mono HB.out.2.size))).lk hy.out
      obtain ⟨x0, x1, _, _⟩ := cell2 ((HS.out.2.block K (Array.getElem?_eq_some_iff.1 HB.out.1).1).trans HB.out.1)
      have hdec := lk_dec k1 k2 y
      obtain ⟨y1, hy1⟩ : ∃ x, Hid (y.1 = x) := ⟨_, rfl⟩
      obtain ⟨y2, hy2⟩ : ∃ x, Hid (y.2 = x) := ⟨_, rfl⟩
      rw [hy1.out] at d0 hdec
      rw [hy2.out] at d1 hdec
      have hw1 : IntKind.i64.wrap ((j : Int) + 1) = ((j + 1 : Nat) : Int) := by have := HN.out; rw [IntKind.wrap_i64]; omega
      have hj0 : ((0 : Int) ≤ j) := by omega
      have hj1 : ((j : Nat) : Int) < n := by omega
      by_cases hxy : (k1, k2) = y
      · have heq2 : ∀ w, (Op.equalIn 10000 35 (.agg #[.int .i64 k1, .int .i64 k2]) (.agg #[.int .i64 y1, .int .i64 y2])).run Tryz.prog w = .ok true w := fun w => by rw [lk_equal, ← hdec, decide_eq_true hxy]
        have HX : Hid ((k1, k2) ∈ ls) := by rw [hxy]; exact List.mem_of_getElem? hy.out
        clear hxy hdec
        go_wp2_with fail
        go_quiet (fail)
        go_wp2
        go_ret
        exact ⟨_, rfl, bdrewN (HB.out.2.trans (HS.out.2.mono HB.out.2.size)) _, by rw [decide_eq_true (by omega), decide_eq_true HX.out]⟩
      · have heq2 : ∀ w, (Op.equalIn 10000 35 (.agg #[.int .i64 k1, .int .i64 k2]) (.agg #[.int .i64 y1, .int .i64 y2])).run Tryz.prog w = .ok false w := fun w => by rw [lk_equal, ← hdec, decide_eq_false hxy]
        have HX : Hid ((k1, k2) ≠ y) := hxy
        clear hxy hdec
        go_wp2_with fail
        go_quiet (fail)
        go_wp2
        exact ⟨⟨j + 1, hlt, by go_num, mem_take_succ hy.out HS.out.1 HX.out, bdrewN HS.out.2 _⟩, by simp [intOf]; omega⟩
    · have hjn : j = n := by omega
      subst hjn
      go_wp2
      go_ret
      exact ⟨_, rfl, HB.out.2.trans (HS.out.2.mono HB.out.2.size), by rw [decide_eq_false (by omega), decide_eq_false (fun h => HS.out.1 (by rw [List.take_of_length_le (by have := HN.out; omega)]; exact h))]⟩
theorem containsL_any (k1 k2 : Int) (hk : k = (k1, k2)) (hl : ls.length = n) (hA : RowAt w A (lkCells ls)) (hn : n ≤ 4611686018427387904) :
    Calls Tryz.prog 38 #[.slice A n c, .agg #[.int .i64 k1, .int .i64 k2]] w fun e w' => e = .returned (.bool (decide (k ∈ ls))) ∧ Below w.heap.size w w' := by
  have HI : Hid (∀ W, Below w.heap.size w W → Calls Tryz.prog 63 #[.slice A n c, .agg #[.int .i64 k1, .int .i64 k2]] W fun e w' => ∃ r : Int, e = .returned (.int .i64 r) ∧ Below W.heap.size W w' ∧ decide (r ≥ 0) = decide (k ∈ ls)) := fun W hW => idxL_any A n c ls k W k1 k2 hk hl (hA.below hW) hn
  have HB : Hid (∀ o, Below w.heap.size w (w.alloc o)) := fun o => (Below.refl _ _).alloc (Nat.le_refl _) _
  clear hl hA hn hk
  obtain ⟨d, hd⟩ : ∃ d, Hid (decide (k ∈ ls) = d) := ⟨_, rfl⟩
  rw [hd.out]
  go_enter Tryz.func38, Tryz.ntmps38
  go_wp2_with fail
  refine (HI.out _ (HB.out _)).mono ?_
  rintro e w' ⟨r, rfl, hb, hr⟩
  rw [hd.out] at hr
  go_wp2
  go_ret
  exact ⟨rfl, (HB.out _).trans (hb.mono (HB.out _).size)⟩
/-- without. -/
theorem without_any (k1 k2 : Int) (hk : k = (k1, k2)) (hl : ls.length = n) (hA : RowAt w A (lkCells ls)) (hn : n ≤ 1000) :
    Calls Tryz.prog 51 #[.slice A n c, .agg #[.int .i64 k1, .int .i64 k2]] w fun e w' => ∃ (A' : Option Addr) (m c' : Nat), e = .returned (.slice A' m c') ∧ Hid ((but ls k).length = m ∧ w'.ownsRow w.heap.size 35 2 (.slice A' m c') m (lkCells (but ls k)) ∧ Below w.heap.size w w') := by
  obtain ⟨K, hK⟩ : ∃ K, K = w.heap.size := ⟨_, rfl⟩
  obtain ⟨W1, hW1⟩ : ∃ W1, W1 = w.alloc (.cells #[.int .i64 k1, .int .i64 k2] 35) := ⟨_, rfl⟩
  have HB : Hid (W1.heap[K]? = some (.cells #[.int .i64 k1, .int .i64 k2] 35 (0, 0)) ∧ Below w.heap.size w W1 ∧ K < W1.heap.size) := by
    rw [hW1, hK]; exact ⟨heap_alloc_new _ _, (Below.refl _ _).alloc (Nat.le_refl _) _, by simp⟩
  have HC := Lib.hid (cloneL_at A n c ls W1 hl hn (hA.below HB.out.2.1))
  have HD : Hid (∀ (A' : Option Addr) (c' : Nat) (W : World), W.ownsRow W1.heap.size 35 2 (.slice A' n c') n (lkCells ls) → Below W1.heap.size W1 W → Calls Tryz.prog 69 #[.slice A' n c', wfn K] W fun e w' => ∃ m : Nat, e = .returned (.slice A' m c') ∧ Hid ((but ls k).length = m ∧ w'.ownsRow W1.heap.size 35 2 (.slice A' m c') m (lkCells (but ls k)) ∧ Below W1.heap.size W w')) := fun A' c' W h1 h2 =>
    deleteL_any A' n c' ls k K W1.heap.size W hl h1 h2.size hn HB.out.2.2 (by rw [hk]; exact (h2.block K HB.out.2.2).trans HB.out.1)
  clear hl hA hn hk
  go_enter Tryz.func51, Tryz.ntmps51
  go_wp2_with fail
  rw [← hW1, ← hK]
  clear hW1 hK
  refine HC.out.mono ?_
  rintro e w2 ⟨A2, c2, rfl, hown, hb⟩
  have H2 : Hid (w2.ownsRow W1.heap.size 35 2 (.slice A2 n c2) n (lkCells ls) ∧ Below W1.heap.size W1 w2) := ⟨hown, hb⟩
  clear hown hb
  go_wp2_with fail
  refine (HD.out A2 c2 w2 H2.out.1 H2.out.2).mono ?_
  rintro e w3 ⟨m, rfl, H3⟩
  have HF : Hid ((but ls k).length = m ∧ w3.ownsRow w.heap.size 35 2 (.slice A2 m c2) m (lkCells (but ls k)) ∧ Below w.heap.size w w3) := ⟨H3.out.1, ownsRow_mono H3.out.2.1 HB.out.2.1.size, (HB.out.2.1.trans (H2.out.2.mono HB.out.2.1.size)).trans (H3.out.2.2.mono HB.out.2.1.size)⟩
  clear H3 H2
  go_wp2
  go_ret
  exact ⟨A2, m, c2, rfl, HF.out⟩
end
end Go.Proofs.YtlkfcfcejicdkaaGreatDoor
