/-
  tree: near, walked: the neighbours. Own work.
-/
import Derived.Test.YtlkfcfcejicdkaaGreatDoorTreeHelp
import Derived.Test.YtlkfcfcejicdkaaGreatDoorTreeSortI
set_option linter.unusedSimpArgs false
set_option linter.unusedVariables false
namespace Go.Proofs.YtlkfcfcejicdkaaGreatDoor
open Go Go.RowKit

set_option maxHeartbeats 2000000 in
theorem near_any (Am : Option Addr) (nm cm : Nat) (Al : Option Addr) (q cl : Nat) (ls : List Lk) (n : Int) (w : World) (hl : ls.length = q) (hA : RowAt w Al (lkCells ls)) (hq : q ≤ 1000) (hn : ls.Nodup) (hk : ∀ k ∈ ls, k.1 < k.2 ∧ k.1 ∈ ALL ∧ k.2 ∈ ALL) :
    Calls Tryz.prog 37 #[grV Am nm cm Al q cl, .int .i64 n] w fun e w' => ∃ (A : Option Addr) (c : Nat), e = .returned (.slice A (nears ls n).length c) ∧ Hid (RowAt w' A (intVs (nears ls n)) ∧ Below w.heap.size w w' ∧ ∀ g, (Value.slice A (nears ls n).length c).ownBlock = some g → w.heap.size ≤ g ∧ g < w'.heap.size) := by
  have HA := Lib.hid hA
  have HN : Hid (q ≤ 1000 ∧ ls.length = q) := ⟨hq, hl⟩
  have HK : Hid (ls.Nodup ∧ ∀ k ∈ ls, k.1 < k.2 ∧ k.1 ∈ ALL ∧ k.2 ∈ ALL) := ⟨hn, hk⟩
  clear hA hq hl hn hk
  obtain ⟨i0, hi, hz0, hz1, hz2⟩ := info_parts int_info
  have HB : Hid (∀ o, Below w.heap.size w (w.alloc o)) := fun o => (Below.refl _ _).alloc (Nat.le_refl _) _
  go_enter Tryz.func37, Tryz.ntmps37
  go_wp2
  go_loopw [5, 11] (fun l i wr => ∃ (j m : Nat) (A5 : Option Addr) (c5 : Nat), j ≤ q ∧ i = .int .i64 j ∧ l = .slice A5 m c5 ∧ Hid (m ≤ j ∧ (nbrF (ls.take j) n).length = m ∧ wr.ownsRow w.heap.size 3 1 (.slice A5 m c5) m (intVs (nbrF (ls.take j) n)) ∧ Below w.heap.size w wr)) (fun _ i _ => q - (intOf i).toNat)
  case atStart => exact ⟨0, 0, none, 0, Nat.zero_le _, rfl, rfl, Nat.le_refl _, by simp [nbrF], by simpa [nbrF, intVs] using World.ownsRow_nil _ _ _ _, HB.out _⟩
  case round =>
    obtain ⟨j, m, A5, c5, hj, rfl, rfl, HL⟩ := hrel
    by_cases hlt : j < q
    · obtain ⟨k, hk⟩ : ∃ k, Hid (ls[j]? = some k) := ⟨_, List.getElem?_eq_getElem (by have := HN.out; omega)⟩
      obtain ⟨g, off, rfl, x0, x1, hg⟩ := (HA.out.below HL.out.2.2.2).lk hk.out
      have hsn := Lib.hid (nbrF_snoc n hk.out)
      obtain ⟨k1, hk1⟩ : ∃ k1, Hid (k.1 = k1) := ⟨_, rfl⟩
      obtain ⟨k2, hk2⟩ : ∃ k2, Hid (k.2 = k2) := ⟨_, rfl⟩
      rw [hk1.out] at x0
      rw [hk2.out] at x1
      have hw1 : IntKind.i64.wrap ((j : Int) + 1) = ((j + 1 : Nat) : Int) := by have := HN.out; rw [IntKind.wrap_i64]; omega
      have hj0 : ((0 : Int) ≤ j) := by omega
      have hj1 : ((j : Nat) : Int) < q := by omega
      have hm1 : Hid (m + 1 ≤ maxLen) := Nat.le_trans (show m + 1 ≤ 1002 by have := HN.out; have := HL.out.1; clear hw1; omega) (by decide)
      have hb1 : Hid ((m + 1) * 8 ≤ 140737488355328) := by have := HN.out; have := HL.out.1; clear hw1; simp only [Hid]; omega
      have hzz : Hid (∀ o1 o2, w.heap.size ≤ ((wr.alloc o1).alloc o2).heap.size) := fun o1 o2 => Nat.le_trans HL.out.2.2.2.size (by simp; omega)
      have HA1 : Hid (∀ o, Below w.heap.size w (wr.alloc o)) := fun o => HL.out.2.2.2.alloc HL.out.2.2.2.size o
      have HA2 : Hid (∀ o1 o2, Below w.heap.size w ((wr.alloc o1).alloc o2)) := fun o1 o2 => (HL.out.2.2.2.alloc HL.out.2.2.2.size o1).alloc (Nat.le_trans HL.out.2.2.2.size (by simp)) o2
      have HO2 : Hid (∀ o1 o2, ((wr.alloc o1).alloc o2).ownsRow w.heap.size 3 1 (.slice A5 m c5) m (intVs (nbrF (ls.take j) n))) := fun o1 o2 => (HL.out.2.2.1.alloc o1).alloc o2
      by_cases e1 : n = k1
      · subst e1
        have HE : Hid (nbr1 k n = [k2]) := by unfold nbr1; rw [if_pos hk1.out.symm, hk2.out]; rfl
        go_wp2_with (at_builtin; refine wpList_append_own _ rfl _ _ 22 rfl w.heap.size 3 i0 (.int .i64 0) 1 8 Tryz.underlying22 hi hz0 hz1 hz2 rfl (by decide) (.slice A5 m c5) m _ rfl (HO2.out _ _) ⟨wr.heap.size + 1, 0, none⟩ 1 1 [.int .i64 k2] rfl rfl (new1 _ _ _ _ (by simp)) (by simp [Value.oneCell']) hm1.out hb1.out (hzz.out _ _) ?_; intro v' w5 hown5 hgrow5 hnil5)
        obtain ⟨A8, c8, rfl⟩ := own_slice hown5
        refine ⟨⟨j + 1, m + 1, A8, c8, hlt, by go_num, rfl, by have := HL.out.1; omega, by rw [hsn.out, HE.out, List.length_append, HL.out.2.1]; rfl, by rw [hsn.out, HE.out, intVs_append]; exact hown5, below_push (HA2.out _ _) (HO2.out _ _) (hzz.out _ _) hgrow5⟩, by simp [intOf]; omega⟩
      · have hne1 : (n == k1) = false := by simpa using e1
        by_cases e2 : n = k2
        · subst e2
          have HE : Hid (nbr1 k n = [k1]) := by unfold nbr1; rw [if_neg (by rw [hk1.out]; exact e1), if_pos hk2.out.symm, hk1.out]; rfl
          clear e1
          go_wp2_with (at_builtin; refine wpList_append_own _ rfl _ _ 22 rfl w.heap.size 3 i0 (.int .i64 0) 1 8 Tryz.underlying22 hi hz0 hz1 hz2 rfl (by decide) (.slice A5 m c5) m _ rfl (HO2.out _ _) ⟨wr.heap.size + 1, 0, none⟩ 1 1 [.int .i64 k1] rfl rfl (new1 _ _ _ _ (by simp)) (by simp [Value.oneCell']) hm1.out hb1.out (hzz.out _ _) ?_; intro v' w5 hown5 hgrow5 hnil5)
          obtain ⟨A8, c8, rfl⟩ := own_slice hown5
          refine ⟨⟨j + 1, m + 1, A8, c8, hlt, by go_num, rfl, by have := HL.out.1; omega, by rw [hsn.out, HE.out, List.length_append, HL.out.2.1]; rfl, by rw [hsn.out, HE.out, intVs_append]; exact hown5, below_push (HA2.out _ _) (HO2.out _ _) (hzz.out _ _) hgrow5⟩, by simp [intOf]; omega⟩
        · have hne2 : (n == k2) = false := by simpa using e2
          have HE : Hid (nbr1 k n = []) := by unfold nbr1; rw [if_neg (by rw [hk1.out]; exact e1), if_neg (by rw [hk2.out]; exact e2)]; rfl
          clear e1 e2
          go_wp2
          exact ⟨⟨j + 1, m, A5, c5, hlt, by go_num, rfl, by have := HL.out.1; omega, by rw [hsn.out, HE.out, List.append_nil]; exact HL.out.2.1, by rw [hsn.out, HE.out, List.append_nil]; exact HL.out.2.2.1.alloc _, HA1.out _⟩, by simp [intOf]; omega⟩
    · have hjn : j = q := by omega
      subst hjn
      have hall : ls.take j = ls := by rw [← HN.out.2]; exact List.take_length
      rw [hall] at HL
      have HS := Lib.hid (sortI_any w.heap.size A5 m c5 (nbrF ls n) HL.out.2.1 wr HL.out.2.2.1 HL.out.2.2.2.size (by have := HN.out; have := HL.out.1; omega))
      go_wp2_with fail
      refine HS.out.mono ?_
      rintro e w5 ⟨rfl, l', hp, hs, hr, hb⟩
      have e2 := nears_sorted HK.out.1 HK.out.2 hp hs
      have hln : l'.length = m := by rw [hp.length_eq]; exact HL.out.2.1
      subst e2
      have HF : Hid (RowAt w5 A5 (intVs (nears ls n)) ∧ Below w.heap.size w w5 ∧ ∀ g, (Value.slice A5 m c5).ownBlock = some g → w.heap.size ≤ g ∧ g < w5.heap.size) := ⟨hr, HL.out.2.2.2.trans hb, fun g hg => by
        obtain ⟨_, _, h1, h2⟩ := own_block HL.out.2.2.1 hg
        exact ⟨h1, Nat.lt_of_lt_of_le h2 hb.size⟩⟩
      have HM : Hid ((nears ls n).length = m) := hln
      clear hr hb hp hs hln HS HL
      go_wp2
      go_ret
      exact ⟨A5, c5, by rw [HM.out]; rfl, by rw [HM.out]; exact HF.out⟩
end Go.Proofs.YtlkfcfcejicdkaaGreatDoor
