/-
  tree: the document's Sorted, near. Own work.
-/
import Derived.Test.YtlkfcfcejicdkaaGreatDoorTreeRef1
set_option linter.unusedSimpArgs false
set_option linter.unusedVariables false
namespace Go.Proofs.YtlkfcfcejicdkaaGreatDoor
open Go Go.RowKit

/-- The numbers up to one that are in a list. -/
def sortTo (l : List Int) (i : Nat) : List Int := ((List.range i).map fun k : Nat => (k : Int) - 1).filter fun x => decide (x ∈ l)
theorem sortTo_succ (l : List Int) (i : Nat) : sortTo l (i + 1) = sortTo l i ++ (if (i : Int) - 1 ∈ l then [(i : Int) - 1] else []) := by
  unfold sortTo
  rw [List.range_succ, List.map_append, List.filter_append]
  by_cases h : (i : Int) - 1 ∈ l <;> simp [h]
theorem sortTo_len (l : List Int) (i : Nat) : (sortTo l i).length ≤ i := by
  unfold sortTo
  exact Nat.le_trans (List.length_filter_le _ _) (by simp)
theorem sortTo_all {l : List Int} (h : ∀ x ∈ l, x ∈ ALL) : sortTo l 10 = inOrder l := by
  have e : ((List.range 10).map fun k : Nat => (k : Int) - 1) = [-1] ++ ALL ++ [8] := by decide
  unfold sortTo inOrder
  rw [e, List.filter_append, List.filter_append]
  have h1 : (-1 : Int) ∉ l := fun hx => by have := all_iff.1 (h _ hx); omega
  have h2 : (8 : Int) ∉ l := fun hx => by have := all_iff.1 (h _ hx); omega
  simp [h1, h2]
section
set_option maxRecDepth 100000 in
set_option maxHeartbeats 2000000 in
theorem sorted_any (A : Option Addr) (n c : Nat) (l : List Int) (w : World) (hl : l.length = n) (hA : RowAt w A (intVs l)) (hn : n ≤ 1000000) (hall : ∀ x ∈ l, x ∈ ALL) :
    Calls Tryz.prog 46 #[.slice A n c] w fun e w' => ∃ (A' : Option Addr) (c' : Nat), e = .returned (.slice A' (inOrder l).length c') ∧ Hid (w'.ownsRow w.heap.size 3 1 (.slice A' (inOrder l).length c') (inOrder l).length (intVs (inOrder l)) ∧ Below w.heap.size w w') := by
  have HH : Hid (∀ x W, Below w.heap.size w W → Calls Tryz.prog 16 #[.slice A n c, .int .i64 x] W fun e w' => e = .returned (.bool (decide (x ∈ l))) ∧ w' = W) := fun x W hW => rhas_any A n c l x W hl (hA.below hW) (by omega)
  have HALL := Lib.hid (sortTo_all hall)
  clear hl hA hn hall
  obtain ⟨i0, hi, hz0, hz1, hz2⟩ := info_parts int_info
  go_enter Tryz.func46, Tryz.ntmps46
  go_wp2
  go_loopw [3, 4] (fun s i wr => ∃ (j m : Nat) (A5 : Option Addr) (c5 : Nat), j ≤ 10 ∧ i = .int .i64 ((j : Int) - 1) ∧ s = .slice A5 m c5 ∧ Hid (m ≤ j ∧ (sortTo l j).length = m ∧ wr.ownsRow w.heap.size 3 1 (.slice A5 m c5) m (intVs (sortTo l j)) ∧ Below w.heap.size w wr)) (fun _ i _ => 10 - (intOf i + 1).toNat)
  case atStart => exact ⟨0, 0, none, 0, Nat.zero_le _, rfl, rfl, Nat.le_refl _, by simp [sortTo], by simpa [sortTo, intVs] using World.ownsRow_nil _ _ _ _, Below.refl _ _⟩
  case round =>
    obtain ⟨j, m, A5, c5, hj, rfl, rfl, HL⟩ := hrel
    by_cases hlt : j < 10
    · have hsn := Lib.hid (sortTo_succ l j)
      have HC : Hid (Calls Tryz.prog 16 #[.slice A n c, .int .i64 ((j : Int) - 1)] wr fun e w' => e = .returned (.bool (decide ((j : Int) - 1 ∈ l))) ∧ wr = w') := (HH.out ((j : Int) - 1) wr HL.out.2.2.2).mono fun _ _ h => ⟨h.1, h.2.symm⟩
      obtain ⟨x, hx⟩ : ∃ x, Hid (x = (j : Int) - 1) := ⟨_, rfl⟩
      obtain ⟨y, hy⟩ : ∃ y, Hid (y = ((j + 1 : Nat) : Int) - 1) := ⟨_, rfl⟩
      have hw1 : IntKind.i64.wrap (x + 1) = y := by rw [IntKind.wrap_i64, hx.out, hy.out]; omega
      have hj1 : x ≤ 8 := by rw [hx.out]; omega
      have hm1 : Hid (m + 1 ≤ maxLen) := Nat.le_trans (show m + 1 ≤ 1002 by have := HL.out.1; clear hw1 hj1; omega) (by decide)
      have hb1 : Hid ((m + 1) * 8 ≤ 140737488355328) := by have := HL.out.1; clear hw1 hj1; simp only [Hid]; omega
      have hzz : Hid (∀ o1, w.heap.size ≤ (wr.alloc o1).heap.size) := fun o1 => Nat.le_trans HL.out.2.2.2.size (by simp)
      have HA1 : Hid (∀ o, Below w.heap.size w (wr.alloc o)) := fun o => HL.out.2.2.2.alloc HL.out.2.2.2.size o
      have HO1 : Hid (∀ o1, (wr.alloc o1).ownsRow w.heap.size 3 1 (.slice A5 m c5) m (intVs (sortTo l j))) := fun o1 => HL.out.2.2.1.alloc o1
      by_cases e1 : (j : Int) - 1 ∈ l
      · have HE : Hid (sortTo l (j + 1) = sortTo l j ++ [(j : Int) - 1]) := by rw [Hid, hsn.out, if_pos e1]
        rw [decide_eq_true e1] at HC
        clear e1 hsn
        rw [← hx.out] at HC HE ⊢
        go_wp2_with (first
          | (at_builtin; refine wpList_append_own _ rfl _ _ 22 rfl w.heap.size 3 i0 (.int .i64 0) 1 8 Tryz.underlying22 hi hz0 hz1 hz2 rfl (by decide) (.slice A5 m c5) m _ rfl (HO1.out _) ⟨wr.heap.size, 0, none⟩ 1 1 [.int .i64 x] rfl rfl (new1 _ _ _ _ (by simp)) (by simp [Value.oneCell']) hm1.out hb1.out (hzz.out _) ?_; intro v' w5 hown5 hgrow5 hnil5)
          | (go_at_call 16; refine HC.out.mono ?_; rintro e w' ⟨rfl, rfl⟩))
        obtain ⟨A8, c8, rfl⟩ := own_slice hown5
        exact ⟨⟨j + 1, m + 1, A8, c8, hlt, by rw [← hy.out], rfl, by have := HL.out.1; omega, by rw [HE.out, List.length_append, HL.out.2.1]; rfl, by rw [HE.out, intVs_append]; exact hown5, below_push (HA1.out _) (HO1.out _) (hzz.out _) hgrow5⟩, by have h1 := hx.out; have h2 := hy.out; simp [intOf]; omega⟩
      · have HE : Hid (sortTo l (j + 1) = sortTo l j) := by rw [Hid, hsn.out, if_neg e1, List.append_nil]
        rw [decide_eq_false e1] at HC
        clear e1 hsn
        rw [← hx.out] at HC ⊢
        go_wp2_with (go_at_call 16; refine HC.out.mono ?_; rintro e w' ⟨rfl, rfl⟩)
        exact ⟨⟨j + 1, m, A5, c5, hlt, by rw [← hy.out], rfl, by have := HL.out.1; omega, by rw [HE.out]; exact HL.out.2.1, by rw [HE.out]; exact HL.out.2.2.1, HL.out.2.2.2⟩, by have h1 := hx.out; have h2 := hy.out; simp [intOf]; omega⟩
    · have hjn : j = 10 := by omega
      subst hjn
      rw [HALL.out] at HL
      have hj1 : ¬ (((10 : Nat) : Int) - 1 ≤ 8) := by omega
      go_wp2
      go_ret
      exact ⟨A5, c5, by rw [HL.out.2.1]; rfl, by rw [HL.out.2.1]; exact HL.out.2.2.1, HL.out.2.2.2⟩
set_option maxRecDepth 100000 in
set_option maxHeartbeats 2000000 in
theorem rnear_any (Am : Option Addr) (nm cm : Nat) (Al : Option Addr) (q cl : Nat) (ls : List Lk) (n : Int) (w : World) (hl : ls.length = q) (hA : RowAt w Al (lkCells ls)) (hq : q ≤ 1000) (hk : ∀ k ∈ ls, k.1 < k.2 ∧ k.1 ∈ ALL ∧ k.2 ∈ ALL) :
    Calls Tryz.prog 42 #[grV Am nm cm Al q cl, .int .i64 n] w fun e w' => ∃ (A : Option Addr) (c : Nat), e = .returned (.slice A (nears ls n).length c) ∧ Hid (RowAt w' A (intVs (nears ls n)) ∧ Below w.heap.size w w') := by
  have HA := Lib.hid hA
  have HN : Hid (q ≤ 1000 ∧ ls.length = q) := ⟨hq, hl⟩
  have HK : Hid (∀ k ∈ ls, k.1 < k.2 ∧ k.1 ∈ ALL ∧ k.2 ∈ ALL) := hk
  clear hA hq hl hk
  obtain ⟨i0, hi, hz0, hz1, hz2⟩ := info_parts int_info
  obtain ⟨G, hG⟩ : ∃ G, G = w.heap.size := ⟨_, rfl⟩
  obtain ⟨W1, hW1⟩ : ∃ W1, W1 = w.alloc (.cells #[.slice Am nm cm, .slice Al q cl] 25) := ⟨_, rfl⟩
  have HB : Hid (W1.heap[G]? = some (.cells #[.slice Am nm cm, .slice Al q cl] 25 (0, 0)) ∧ Below w.heap.size w W1) := by
    rw [hW1, hG]; exact ⟨heap_alloc_new _ _, (Below.refl _ _).alloc (Nat.le_refl _) _⟩
  obtain ⟨v0, v1, _, _⟩ := cell2 HB.out.1
  go_enter Tryz.func42, Tryz.ntmps42
  go_wp2
  rw [← hW1, ← hG]
  clear hW1 hG
  go_loopw [5, 11] (fun l i wr => ∃ (j m : Nat) (A5 : Option Addr) (c5 : Nat), j ≤ q ∧ i = .int .i64 j ∧ l = .slice A5 m c5 ∧ Hid (m ≤ j ∧ (nbrF (ls.take j) n).length = m ∧ wr.ownsRow w.heap.size 3 1 (.slice A5 m c5) m (intVs (nbrF (ls.take j) n)) ∧ Below w.heap.size w wr)) (fun _ i _ => q - (intOf i).toNat)
  case atStart => exact ⟨0, 0, none, 0, Nat.zero_le _, rfl, rfl, Nat.le_refl _, by simp [nbrF], by simpa [nbrF, intVs] using World.ownsRow_nil _ _ _ _, HB.out.2⟩
  case round =>
    obtain ⟨j, m, A5, c5, hj, rfl, rfl, HL⟩ := hrel
    by_cases hlt : j < q
    · obtain ⟨k, hk⟩ : ∃ k, Hid (ls[j]? = some k) := ⟨_, List.getElem?_eq_getElem (by have := HN.out; omega)⟩
      obtain ⟨g, off, rfl, x0, x1, hg⟩ := (HA.out.below HL.out.2.2.2).lk hk.out
      have hsn := Lib.hid (nbrF_snoc n hk.out)
      have hkk := HK.out k (List.mem_of_getElem? hk.out)
      obtain ⟨k1, hk1⟩ : ∃ k1, Hid (k.1 = k1) := ⟨_, rfl⟩
      obtain ⟨k2, hk2⟩ : ∃ k2, Hid (k.2 = k2) := ⟨_, rfl⟩
      rw [hk1.out] at x0
      rw [hk2.out] at x1
      have hlt12 : Hid (k1 < k2) := by rw [← hk1.out, ← hk2.out]; exact hkk.1
      clear hkk
      have hw1 : IntKind.i64.wrap ((j : Int) + 1) = ((j + 1 : Nat) : Int) := by have := HN.out; rw [IntKind.wrap_i64]; omega
      have hj0 : ((0 : Int) ≤ j) := by omega
      have hj1 : ((j : Nat) : Int) < q := by omega
      have hm1 : Hid (m + 1 ≤ maxLen) := Nat.le_trans (show m + 1 ≤ 1002 by have := HN.out; have := HL.out.1; clear hw1; omega) (by decide)
      have hb1 : Hid ((m + 1) * 8 ≤ 140737488355328) := by have := HN.out; have := HL.out.1; clear hw1; simp only [Hid]; omega
      have hzz : Hid (∀ o1 o2, w.heap.size ≤ ((wr.alloc o1).alloc o2).heap.size) := fun o1 o2 => Nat.le_trans HL.out.2.2.2.size (by simp; omega)
      have HA1 : Hid (∀ o, Below w.heap.size w (wr.alloc o)) := fun o => HL.out.2.2.2.alloc HL.out.2.2.2.size o
      have HA2 : Hid (∀ o1 o2, Below w.heap.size w ((wr.alloc o1).alloc o2)) := fun o1 o2 => (HL.out.2.2.2.alloc HL.out.2.2.2.size o1).alloc (Nat.le_trans HL.out.2.2.2.size (by simp)) o2
      have HO2 : Hid (∀ o1 o2, ((wr.alloc o1).alloc o2).ownsRow w.heap.size 3 1 (.slice A5 m c5) m (intVs (nbrF (ls.take j) n))) := fun o1 o2 => (HL.out.2.2.1.alloc o1).alloc o2
      have HGC : Hid (∀ w5 o2, ((wr.alloc (.cells #[.int .i64 k1, .int .i64 k2] 35)).alloc o2).grownBy w5 (Value.slice A5 m c5).ownBlock → w5.heap[wr.heap.size]? = some (.cells #[.int .i64 k1, .int .i64 k2] 35 (0, 0))) := fun w5 o2 h => by
        rw [h.block wr.heap.size (by simp; omega) (fun e => by
          obtain ⟨_, _, _, h2⟩ := own_block HL.out.2.2.1 e.symm
          omega), Below.heap_alloc _ _ _ (by simp)]
        exact heap_alloc_new _ _
      by_cases e1 : k1 = n
      · subst e1
        have hne : (k2 == k1) = false := by have := hlt12.out; simp; omega
        have HE : Hid (nbr1 k k1 = [k2]) := by unfold nbr1; rw [if_pos hk1.out.symm, hk2.out]; rfl
        go_wp2_with (at_builtin; refine wpList_append_own _ rfl _ _ 22 rfl w.heap.size 3 i0 (.int .i64 0) 1 8 Tryz.underlying22 hi hz0 hz1 hz2 rfl (by decide) (.slice A5 m c5) m _ rfl (HO2.out _ _) ⟨wr.heap.size + 1, 0, none⟩ 1 1 [.int .i64 k2] rfl rfl (new1 _ _ _ _ (by simp)) (by simp [Value.oneCell']) hm1.out hb1.out (hzz.out _ _) ?_; intro v' w5 hown5 hgrow5 hnil5; obtain ⟨z0, z1, zf, zl⟩ := cell2 (HGC.out _ _ hgrow5))
        obtain ⟨A8, c8, rfl⟩ := own_slice hown5
        refine ⟨⟨j + 1, m + 1, A8, c8, hlt, by go_num, rfl, by have := HL.out.1; omega, by rw [hsn.out, HE.out, List.length_append, HL.out.2.1]; rfl, by rw [hsn.out, HE.out, intVs_append]; exact hown5, below_push (HA2.out _ _) (HO2.out _ _) (hzz.out _ _) hgrow5⟩, by simp [intOf]; omega⟩
      · have hne1 : (k1 == n) = false := by simpa using e1
        by_cases e2 : k2 = n
        · subst e2
          have HE : Hid (nbr1 k k2 = [k1]) := by unfold nbr1; rw [if_neg (by rw [hk1.out]; exact fun e => e1 e.symm), if_pos hk2.out.symm, hk1.out]; rfl
          clear e1
          go_wp2_with (at_builtin; refine wpList_append_own _ rfl _ _ 22 rfl w.heap.size 3 i0 (.int .i64 0) 1 8 Tryz.underlying22 hi hz0 hz1 hz2 rfl (by decide) (.slice A5 m c5) m _ rfl (HO2.out _ _) ⟨wr.heap.size + 1, 0, none⟩ 1 1 [.int .i64 k1] rfl rfl (new1 _ _ _ _ (by simp)) (by simp [Value.oneCell']) hm1.out hb1.out (hzz.out _ _) ?_; intro v' w5 hown5 hgrow5 hnil5)
          obtain ⟨A8, c8, rfl⟩ := own_slice hown5
          refine ⟨⟨j + 1, m + 1, A8, c8, hlt, by go_num, rfl, by have := HL.out.1; omega, by rw [hsn.out, HE.out, List.length_append, HL.out.2.1]; rfl, by rw [hsn.out, HE.out, intVs_append]; exact hown5, below_push (HA2.out _ _) (HO2.out _ _) (hzz.out _ _) hgrow5⟩, by simp [intOf]; omega⟩
        · have hne2 : (k2 == n) = false := by simpa using e2
          have HE : Hid (nbr1 k n = []) := by unfold nbr1; rw [if_neg (by rw [hk1.out]; exact fun e => e1 e.symm), if_neg (by rw [hk2.out]; exact fun e => e2 e.symm)]; rfl
          clear e1 e2
          go_wp2
          exact ⟨⟨j + 1, m, A5, c5, hlt, by go_num, rfl, by have := HL.out.1; omega, by rw [hsn.out, HE.out, List.append_nil]; exact HL.out.2.1, by rw [hsn.out, HE.out, List.append_nil]; exact HL.out.2.2.1.alloc _, HA1.out _⟩, by simp [intOf]; omega⟩
    · have hjn : j = q := by omega
      subst hjn
      have hall : ls.take j = ls := by rw [← HN.out.2]; exact List.take_length
      rw [hall] at HL
      obtain ⟨h1, h2⟩ := nears_nbr (n := n) HK.out
      have HS := Lib.hid (sorted_any A5 m c5 (nbrF ls n) wr HL.out.2.1 (RowAt.of_own HL.out.2.2.1) (by have := HN.out; have := HL.out.1; omega) h1)
      rw [h2] at HS
      clear h1 h2
      go_wp2_with fail
      refine HS.out.mono ?_
      rintro e w5 ⟨A9, c9, rfl, h9⟩
      go_wp2
      go_ret
      exact ⟨A9, c9, rfl, RowAt.of_own h9.out.1, HL.out.2.2.2.trans (h9.out.2.mono HL.out.2.2.2.size)⟩
end
end Go.Proofs.YtlkfcfcejicdkaaGreatDoor
