/-
  tree: Near, Side, walked. Own work.
-/
import Derived.Test.YtlkfcfcejicdkaaGreatDoorTreeMembers
set_option linter.unusedSimpArgs false
set_option linter.unusedVariables false
namespace Go.Proofs.YtlkfcfcejicdkaaGreatDoor
open Go Go.RowKit

def nearP (ms : List Int) (ls : List Lk) (a : Int) : Er × List Int := match membersE ms ls [a] with
  | some e => (some e, [])
  | none => (none, nears ls a)
def sideP (ms : List Int) (ls : List Lk) (a b : Int) : Er × List Int := match membersE ms ls [a, b] with
  | some e => (some e, [])
  | none => if ofL a b ∈ ls then (none, sideS ls a b) else (plainE 13, [])
theorem members_good {ms : List Int} {ls : List Lk} {l : List Int} (h : membersE ms ls l = none) : Good ms ls ∧ ∀ x ∈ l, x ∈ ms := by
  unfold membersE at h
  cases hc : chk ms ls with
  | some e => rw [hc] at h; cases h
  | none =>
    rw [hc] at h
    simp only at h
    split at h
    · cases h
    rename_i a1
    exact ⟨chk_good hc, fun x hx => Classical.byContradiction fun e => a1 ⟨x, hx, e⟩⟩
section
variable (Am : Option Addr) (n cm : Nat) (Al : Option Addr) (q cl : Nat) (ms : List Int) (ls : List Lk) (a b : Int) (w : World)
set_option maxRecDepth 100000 in
set_option maxHeartbeats 4000000 in
theorem nearM_any (hG : GrAt w Am n Al q ms ls) (hn : n ≤ 1000) (hq : q ≤ 1000) :
    Calls Tryz.prog 17 #[grV Am n cm Al q cl, .int .i64 a] w fun e w' => GivesL w e w' (nearP ms ls a).1 (nearP ms ls a).2 := by
  have HG := Lib.hid hG
  have HN : Hid (n ≤ 1000 ∧ q ≤ 1000) := ⟨hn, hq⟩
  clear hG hn hq
  obtain ⟨b1, hb1⟩ : ∃ b, b = w.heap.size := ⟨_, rfl⟩
  obtain ⟨b2, hb2⟩ : ∃ b, b = w.heap.size + 1 := ⟨_, rfl⟩
  obtain ⟨w1, hw1⟩ : ∃ w1, w1 = (w.alloc (.cells #[.slice Am n cm, .slice Al q cl] 25)).alloc (.cells #[.int .i64 a] 3) := ⟨_, rfl⟩
  have HB : Hid (w1.heap[b1]? = some (.cells #[.slice Am n cm, .slice Al q cl] 25 (0, 0)) ∧ w1.heap[b2]? = some (.cells #[.int .i64 a] 3 (0, 0)) ∧ Below w.heap.size w w1) := by
    rw [hw1, hb1, hb2]
    refine ⟨by rw [Below.heap_alloc _ _ _ (by simp)]; exact heap_alloc_new _ _, ?_, ((Below.refl _ _).alloc (Nat.le_refl _) _).alloc (by simp) _⟩
    have := heap_alloc_new (w.alloc (.cells #[.slice Am n cm, .slice Al q cl] 25)) (.cells #[.int .i64 a] 3)
    simpa using this
  have HCM := Lib.hid (members_any Am n cm Al q cl ms ls (some ⟨b2, 0, none⟩) 1 1 [a] w1 (HG.out.below HB.out.2.2) HN.out.1 HN.out.2 rfl (.inr ⟨b2, 0, rfl, fun j u hu => by
    match j, hu with
    | 0, hu => cases hu; exact (cell1 HB.out.2.1).1⟩) (by decide))
  go_enter Tryz.func17, Tryz.ntmps17
  go_wp2_with fail
  rw [← hw1, ← hb2]
  clear hw1 hb2
  refine HCM.out.mono ?_
  rintro e w2 ⟨v, rfl, HE⟩
  have HB2 : Hid (w2.heap[b1]? = some (.cells #[.slice Am n cm, .slice Al q cl] 25 (0, 0)) ∧ Below w.heap.size w w2) := ⟨(HE.out.2.block b1 (Array.getElem?_eq_some_iff.1 HB.out.1).1).trans HB.out.1, HB.out.2.2.trans (HE.out.2.mono HB.out.2.2.size)⟩
  rcases HE.out.1.cases with ⟨hc, rfl⟩ | ⟨hc, t, y, rfl⟩
  case inr =>
    have HM : Hid (nearP ms ls a = (membersE ms ls [a], [])) := by
      unfold nearP
      cases h : membersE ms ls [a] with
      | none => exact absurd h hc
      | some e => rfl
    clear hc HCM HB
    go_wp2
    refine bodyPost_ret (v := .tuple #[.slice none 0 0, .iface t y]) (by simp [results, Tryz.results17, go_sem]) rfl ?_
    refine ⟨none, 0, _, by rw [HM.out]; rfl, ?_⟩
    rw [HM.out]
    exact ⟨HE.out.1, .nil, HB2.out.2⟩
  case inl =>
  have HM : Hid (nearP ms ls a = (none, nears ls a)) := by
    unfold nearP; rw [hc]; rfl
  have HNR : Hid (Calls Tryz.prog 37 #[grV Am n cm Al q cl, .int .i64 a] w2 fun e w' => ∃ (A : Option Addr) (c : Nat), e = .returned (.slice A (nears ls a).length c) ∧ Hid (RowAt w' A (intVs (nears ls a)) ∧ Below w.heap.size w w')) := by
    have hg := (members_good hc).1
    refine (near_any Am n cm Al q cl ls a w2 HG.out.llen (HG.out.lrow.below HB2.out.2) HN.out.2 hg.ls_.nodup fun k hk => ⟨(hg.ls_.2 k hk).1, hg.ms_.2 _ (hg.ls_.2 k hk).2.1, hg.ms_.2 _ (hg.ls_.2 k hk).2.2⟩).mono ?_
    rintro e w' ⟨A, c, rfl, h⟩
    exact ⟨A, c, rfl, h.out.1, HB2.out.2.trans (h.out.2.1.mono HB2.out.2.size)⟩
  rw [hb1] at HB2
  obtain ⟨x0, x1, _, _⟩ := cell2 HB2.out.1
  clear hc HCM HB HE hb1
  go_wp2_with fail
  refine HNR.out.mono ?_
  rintro e w3 ⟨A3, d3, rfl, h3⟩
  go_wp2
  refine bodyPost_ret (v := .tuple #[.slice A3 (nears ls a).length d3, .nilIface]) (by simp [results, Tryz.results17, go_sem]) rfl ?_
  refine ⟨A3, d3, _, by rw [HM.out], ?_⟩
  rw [HM.out]
  exact ⟨rfl, h3.out⟩
set_option maxRecDepth 100000 in
set_option maxHeartbeats 4000000 in
theorem sideM_any (hG : GrAt w Am n Al q ms ls) (hn : n ≤ 1000) (hq : q ≤ 1000) :
    Calls Tryz.prog 15 #[grV Am n cm Al q cl, .int .i64 a, .int .i64 b] w fun e w' => GivesL w e w' (sideP ms ls a b).1 (sideP ms ls a b).2 := by
  have HG := Lib.hid hG
  have HN : Hid (n ≤ 1000 ∧ q ≤ 1000) := ⟨hn, hq⟩
  clear hG hn hq
  obtain ⟨b1, hb1⟩ : ∃ b, b = w.heap.size := ⟨_, rfl⟩
  obtain ⟨b2, hb2⟩ : ∃ b, b = w.heap.size + 1 := ⟨_, rfl⟩
  obtain ⟨w1, hw1⟩ : ∃ w1, w1 = (w.alloc (.cells #[.slice Am n cm, .slice Al q cl] 25)).alloc (.cells #[.int .i64 a, .int .i64 b] 3) := ⟨_, rfl⟩
  have HB : Hid (w1.heap[b1]? = some (.cells #[.slice Am n cm, .slice Al q cl] 25 (0, 0)) ∧ w1.heap[b2]? = some (.cells #[.int .i64 a, .int .i64 b] 3 (0, 0)) ∧ Below w.heap.size w w1) := by
    rw [hw1, hb1, hb2]
    refine ⟨by rw [Below.heap_alloc _ _ _ (by simp)]; exact heap_alloc_new _ _, ?_, ((Below.refl _ _).alloc (Nat.le_refl _) _).alloc (by simp) _⟩
    have := heap_alloc_new (w.alloc (.cells #[.slice Am n cm, .slice Al q cl] 25)) (.cells #[.int .i64 a, .int .i64 b] 3)
    simpa using this
  have HCM := Lib.hid (members_any Am n cm Al q cl ms ls (some ⟨b2, 0, none⟩) 2 2 [a, b] w1 (HG.out.below HB.out.2.2) HN.out.1 HN.out.2 rfl (.inr ⟨b2, 0, rfl, fun j u hu => by
    match j, hu with
    | 0, hu => cases hu; exact (cell2 HB.out.2.1).1
    | 1, hu => cases hu; exact (cell2 HB.out.2.1).2.1⟩) (by decide))
  go_enter Tryz.func15, Tryz.ntmps15
  go_wp2_with fail
  rw [← hw1, ← hb2, ← hb1]
  clear hw1 hb2 hb1
  refine HCM.out.mono ?_
  rintro e w2 ⟨v, rfl, HE⟩
  have HB2 : Hid (w2.heap[b1]? = some (.cells #[.slice Am n cm, .slice Al q cl] 25 (0, 0)) ∧ Below w.heap.size w w2) := ⟨(HE.out.2.block b1 (Array.getElem?_eq_some_iff.1 HB.out.1).1).trans HB.out.1, HB.out.2.2.trans (HE.out.2.mono HB.out.2.2.size)⟩
  rcases HE.out.1.cases with ⟨hc, rfl⟩ | ⟨hc, t, y, rfl⟩
  case inr =>
    have HM : Hid (sideP ms ls a b = (membersE ms ls [a, b], [])) := by
      unfold sideP
      cases h : membersE ms ls [a, b] with
      | none => exact absurd h hc
      | some e => rfl
    clear hc HCM HB
    go_wp2
    refine bodyPost_ret (v := .tuple #[.slice none 0 0, .iface t y]) (by simp [results, Tryz.results15, go_sem]) rfl ?_
    refine ⟨none, 0, _, by rw [HM.out]; rfl, ?_⟩
    rw [HM.out]
    exact ⟨HE.out.1, .nil, HB2.out.2⟩
  case inl =>
  have HM : Hid (sideP ms ls a b = if ofL a b ∈ ls then (none, sideS ls a b) else (plainE 13, [])) := by
    unfold sideP; rw [hc]; rfl
  have HGD := Lib.hid (members_good hc)
  obtain ⟨k1, hk1⟩ : ∃ k1, Hid (min a b = k1) := ⟨_, rfl⟩
  obtain ⟨k2, hk2⟩ : ∃ k2, Hid (max a b = k2) := ⟨_, rfl⟩
  have h3 : ofL a b = (k1, k2) := by unfold ofL; rw [hk1.out, hk2.out]
  rw [h3] at HM
  obtain ⟨x0, x1, _, _⟩ := cell2 HB2.out.1
  have hKG : KG w2 b1 (.slice Am n cm) (.slice Al q cl) w2 := ⟨x0, x1, Lib.hid (Below.refl _ _)⟩
  have hKGd : KG w2 b1 (.slice Am n cm) (.slice Al q cl) w2.drew := hKG.step (Below.refl _ _).drew
  have HOF : Hid (∀ W, KG w2 b1 (.slice Am n cm) (.slice Al q cl) W → Calls Tryz.prog 39 #[.int .i64 a, .int .i64 b] W fun e w' => e = .returned (.agg #[.int .i64 k1, .int .i64 k2]) ∧ KG w2 b1 (.slice Am n cm) (.slice Al q cl) w') := fun W hW => by
    refine (of_any a b W).mono ?_
    rintro e w' ⟨rfl, hb⟩
    rw [hk1.out, hk2.out]
    exact ⟨rfl, hW.step hb⟩
  have HCO : Hid (∀ W, KG w2 b1 (.slice Am n cm) (.slice Al q cl) W → Calls Tryz.prog 38 #[.slice Al q cl, .agg #[.int .i64 k1, .int .i64 k2]] W fun e w' => e = .returned (.bool (decide ((k1, k2) ∈ ls))) ∧ KG w2 b1 (.slice Am n cm) (.slice Al q cl) w') := fun W hW => by
    refine (containsL_any Al q cl ls (k1, k2) W k1 k2 rfl HG.out.llen (HG.out.lrow.below (HB2.out.2.trans (hW.2.2.out.mono HB2.out.2.size))) (Nat.le_trans HN.out.2 (by decide))).mono ?_
    rintro e w' ⟨rfl, hb⟩
    exact ⟨rfl, hW.step hb⟩
  haveI : Nonempty (QW (KG w2 b1 (.slice Am n cm) (.slice Al q cl))) := ⟨⟨w2, hKG⟩⟩
  have q0 : ∀ x : QW (KG w2 b1 (.slice Am n cm) (.slice Al q cl)), x.val.cell? ⟨b1, 0, none⟩ = some (.slice Am n cm) := fun x => x.ok.1
  have q1 : ∀ x : QW (KG w2 b1 (.slice Am n cm) (.slice Al q cl)), x.val.cell? ⟨b1, 1, none⟩ = some (.slice Al q cl) := fun x => x.ok.2.1
  by_cases m1 : (k1, k2) ∈ ls
  case neg =>
    rw [decide_eq_false m1] at HCO
    rw [if_neg m1] at HM
    clear hc HCM HB HE m1 hKG hk1 hk2 h3
    go_wp2
    refine region_in (KG w2 b1 (.slice Am n cm) (.slice Al q cl)) (by kernel_rfl) (by kernel_rfl) hKGd ?_
    repeat (go_big_quiet_step ((first | (go_at_call 39; refine calls_in (HOF.out _ (QW.ok _))) | (go_at_call 38; refine calls_in (HCO.out _ (QW.ok _))))))
    refine wpQuiet_nil ?_
    intro W5 hK5
    go_wp2
    refine bodyPost_ret (v := .tuple #[.slice none 0 0, .iface 41 (.int .i64 13)]) (by simp [results, Tryz.results15, go_sem]) rfl ?_
    refine ⟨none, 0, _, by rw [HM.out]; rfl, ?_⟩
    rw [HM.out]
    exact ⟨rfl, .nil, HB2.out.2.trans (hK5.2.2.out.mono HB2.out.2.size)⟩
  case pos =>
    rw [decide_eq_true m1] at HCO
    rw [if_pos m1] at HM
    have HSI : Hid (∀ W, KG w2 b1 (.slice Am n cm) (.slice Al q cl) W → Calls Tryz.prog 40 #[grV Am n cm Al q cl, .int .i64 a, .int .i64 b] W fun e w' => ∃ (A : Option Addr) (c : Nat), e = .returned (.slice A (sideS ls a b).length c) ∧ Hid (RowAt w' A (intVs (sideS ls a b)) ∧ Below w.heap.size w w')) := fun W hW => by
      have hg := HGD.out.1
      have hb2 := HB2.out.2.trans (hW.2.2.out.mono HB2.out.2.size)
      have hok := fun k hk => (⟨(hg.ls_.2 k hk).1, hg.ms_.2 _ (hg.ls_.2 k hk).2.1, hg.ms_.2 _ (hg.ls_.2 k hk).2.2⟩ : k.1 < k.2 ∧ k.1 ∈ ALL ∧ k.2 ∈ ALL)
      have hvi := side_visit hg (a := a) (b := b) (by rw [h3]; exact m1) (Nat.le_refl 9)
      have hva := (inOrder_len hvi.2.1 hvi.1).symm
      refine (side_any Am n cm Al q cl ls a b W HG.out.llen (HG.out.lrow.below hb2) HN.out.2 hg.ls_.nodup hok (hg.ms_.2 _ (HGD.out.2 a (by simp)))).mono ?_
      rintro e w' ⟨A, c, rfl, h⟩
      have e1 : (visitF ls 9 [] a b).length = (sideS ls a b).length := hva
      rw [e1]
      exact ⟨A, c, rfl, h.out.1, hb2.trans (h.out.2.mono hb2.size)⟩
    clear hc HCM HB HE m1 hKG hk1 hk2 h3
    go_wp2
    refine region_in (KG w2 b1 (.slice Am n cm) (.slice Al q cl)) (by kernel_rfl) (by kernel_rfl) hKGd ?_
    repeat (go_big_quiet_step ((first | (go_at_call 39; refine calls_in (HOF.out _ (QW.ok _))) | (go_at_call 38; refine calls_in (HCO.out _ (QW.ok _))))))
    refine wpQuiet_nil ?_
    intro W5 hK5
    have y0 := hK5.1
    have y1 := hK5.2.1
    go_wp2_with fail
    refine (HSI.out W5 hK5).mono ?_
    rintro e w6 ⟨A6, d6, rfl, h6⟩
    go_wp2
    refine bodyPost_ret (v := .tuple #[.slice A6 (sideS ls a b).length d6, .nilIface]) (by simp [results, Tryz.results15, go_sem]) rfl ?_
    refine ⟨A6, d6, _, by rw [HM.out], ?_⟩
    rw [HM.out]
    exact ⟨rfl, h6.out⟩
end
end Go.Proofs.YtlkfcfcejicdkaaGreatDoor
