/-
  tree: the document's Swap, walked. Printed by gen_treeref.py. Own work.
-/
import Derived.Test.YtlkfcfcejicdkaaGreatDoorTreeRef7
import Derived.Test.YtlkfcfcejicdkaaGreatDoorTreeFails
set_option linter.unusedSimpArgs false
set_option linter.unusedVariables false
namespace Go.Proofs.YtlkfcfcejicdkaaGreatDoor
open Go Go.RowKit

section
variable (Am : Option Addr) (n cm : Nat) (Al : Option Addr) (q cl : Nat) (ms : List Int) (ls : List Lk) (o1 o2 p1 p2 : Int) (w : World)
set_option maxRecDepth 100000 in
set_option maxHeartbeats 8000000 in
theorem rswap_any (hG : GrAt w Am n Al q ms ls) (hn : n ≤ 1000) (hq : q ≤ 1000) :
    Calls Tryz.prog 24 #[grV Am n cm Al q cl, .agg #[.int .i64 o1, .int .i64 o2], .agg #[.int .i64 p1, .int .i64 p2]] w fun e w' => GivesO w e w' (swapP ms ls (o1, o2) (p1, p2)) := by
  have HG := Lib.hid hG
  have HN : Hid (n ≤ 1000 ∧ q ≤ 1000) := ⟨hn, hq⟩
  clear hG hn hq
  obtain ⟨bg, hbg⟩ : ∃ b, b = w.heap.size := ⟨_, rfl⟩
  obtain ⟨b4, hb4⟩ : ∃ b, b = w.heap.size + 1 := ⟨_, rfl⟩
  obtain ⟨b5, hb5⟩ : ∃ b, b = w.heap.size + 1 + 1 := ⟨_, rfl⟩
  obtain ⟨b6, hb6⟩ : ∃ b, b = w.heap.size + 1 + 1 + 1 := ⟨_, rfl⟩
  obtain ⟨b7, hb7⟩ : ∃ b, b = w.heap.size + 1 + 1 + 1 + 1 := ⟨_, rfl⟩
  obtain ⟨w1, hw1⟩ : ∃ w1, w1 = ((((w.alloc (.cells #[.slice Am n cm, .slice Al q cl] 25)).alloc (.cells #[.int .i64 o1, .int .i64 o2] 35)).alloc (.cells #[.int .i64 p1, .int .i64 p2] 35)).alloc (.cells #[.slice none 0 0, .slice none 0 0] 25)).alloc (.cells #[.bool false, .slice none 0 0, .int .i64 0] 43) := ⟨_, rfl⟩
  have HA := Lib.hid (alloc5 w (.cells #[.slice Am n cm, .slice Al q cl] 25) (.cells #[.int .i64 o1, .int .i64 o2] 35) (.cells #[.int .i64 p1, .int .i64 p2] 35) (.cells #[.slice none 0 0, .slice none 0 0] 25) (.cells #[.bool false, .slice none 0 0, .int .i64 0] 43))
  rw [← hw1, ← hb7, ← hb6, ← hb5, ← hb4, ← hbg] at HA
  have HR : Hid (KR w w1 b6 b7) := ⟨by rw [← hbg]; exact HA.out.2.2.2.2.2.2, HA.out.2.2.2.1, HA.out.2.2.2.2.1, by have := HA.out.2.2.2.2.2.1; omega⟩
  have HBX : Hid (w1.heap[bg]? = some (.cells #[.slice Am n cm, .slice Al q cl] 25 (0, 0)) ∧ w1.heap[b4]? = some (.cells #[.int .i64 o1, .int .i64 o2] 35 (0, 0)) ∧ w1.heap[b5]? = some (.cells #[.int .i64 p1, .int .i64 p2] 35 (0, 0)) ∧ bg < b6 ∧ b4 < b6 ∧ b5 < b6) := ⟨HA.out.1, HA.out.2.1, HA.out.2.2.1, by omega, by omega, by omega⟩
  clear HA
  have HC : Hid (∀ W, Bl w1 W → W.cell? ⟨bg, 0, none⟩ = some (.slice Am n cm) ∧ W.cell? ⟨bg, 1, none⟩ = some (.slice Al q cl) ∧ W.cell? ⟨b4, 0, none⟩ = some (.int .i64 o1) ∧ W.cell? ⟨b4, 1, none⟩ = some (.int .i64 o2) ∧ W.cell? ⟨b5, 0, none⟩ = some (.int .i64 p1) ∧ W.cell? ⟨b5, 1, none⟩ = some (.int .i64 p2)) := fun W hW => by
    have hn := HR.out.n
    obtain ⟨h1, h2, h3, h4, h5, h6⟩ := HBX.out
    obtain ⟨a1, a2, _⟩ := cell2 ((Below.block hW bg (by omega)).trans h1)
    obtain ⟨a3, a4, _⟩ := cell2 ((Below.block hW b4 (by omega)).trans h2)
    obtain ⟨a5, a6, _⟩ := cell2 ((Below.block hW b5 (by omega)).trans h3)
    exact ⟨a1, a2, a3, a4, a5, a6⟩
  have HCK := Lib.hid (rcheck_any Am n cm Al q cl ms ls w1 (HG.out.below HR.out.old) (Nat.le_trans HN.out.1 (by decide)) (Nat.le_trans HN.out.2 (by decide)))
  go_enter Tryz.func24, Tryz.ntmps24
  go_wp2_with fail
  rw [← hw1, ← hb7, ← hb6, ← hb5, ← hb4, ← hbg]
  clear hw1 hbg hb4 hb5 hb6 hb7
  refine HCK.out.mono ?_
  rintro e w2 ⟨v, rfl, HE⟩
  have HB2 : Hid (Bl w1 w2) := HE.out.2
  obtain ⟨b8, hb8⟩ : ∃ b, b = w2.heap.size := ⟨_, rfl⟩
  have HB8 : Hid (w1.heap.size ≤ b8) := by rw [hb8]; exact HB2.out.size
  obtain ⟨n68, n86, n78, n87⟩ : ¬ (b6 = b8) ∧ ¬ (b8 = b6) ∧ ¬ (b7 = b8) ∧ ¬ (b8 = b7) := by
    have := HR.out.n; have := HB8.out
    exact ⟨by omega, by omega, by omega, by omega⟩
  obtain ⟨g0, g1, gf, e0, e1, e2, ef, n12, n21, l6, l7⟩ := HR.out.cells HB2.out
  obtain ⟨c0, c1, c2, c3, c4, c5⟩ := HC.out w2 HB2.out
  have lbg : bg < w2.heap.size := by have := HB2.out.size; have := HBX.out; have := HR.out.n; omega
  have mbg : ¬ (bg = w2.heap.size) := by omega
  have qbg : ¬ (w2.heap.size = bg) := by omega
  have lb4 : b4 < w2.heap.size := by have := HB2.out.size; have := HBX.out; have := HR.out.n; omega
  have mb4 : ¬ (b4 = w2.heap.size) := by omega
  have qb4 : ¬ (w2.heap.size = b4) := by omega
  have lb5 : b5 < w2.heap.size := by have := HB2.out.size; have := HBX.out; have := HR.out.n; omega
  have mb5 : ¬ (b5 = w2.heap.size) := by omega
  have qb5 : ¬ (w2.heap.size = b5) := by omega
  rcases err_form HE.out.1 with ⟨hc, rfl⟩ | ⟨hc, A0, m0, c0_1, i0, rfl⟩
  case inr =>
    have HSW : Hid (swapP ms ls (o1, o2) (p1, p2) = (chk ms ls, [], [])) := swapP_no (by
      unfold swapE
      cases h : chk ms ls with
      | none => exact absurd h hc
      | some e => rfl) hc
    clear hc HCK
    go_wp2_with fail
    rw [← hb8]
    obtain ⟨w5, hw5⟩ : ∃ w5, w5 = w2.alloc (.cells #[.bool true, .slice A0 m0 c0_1, .int .i64 i0] 43) := ⟨_, rfl⟩
    have HK5 : Hid (KE w1 w5 b8 (.bool true) (.slice A0 m0 c0_1) (.int .i64 i0)) := by rw [hw5]; exact KE.fresh HB2.out hb8
    have HE5 : Hid (EIs w5 (.agg #[.bool true, .slice A0 m0 c0_1, .int .i64 i0]) (chk ms ls)) := by rw [hw5]; exact HE.out.1.below ((Below.refl _ _).alloc (Nat.le_refl _) _)
    rw [← hw5]
    try clear hb8
    clear hw5
    obtain ⟨g0, g1, gf, e0, e1, e2, ef, n12, n21, l6, l7⟩ := HR.out.cells HK5.out.old
    obtain ⟨k0, k1, k2, kf, kl⟩ := cell3 HK5.out.e8
    go_region
    all_goals
      go_wp2
      refine bodyPost_ret (v := .tuple #[grV none 0 0 none 0 0, .agg #[.bool true, .slice A0 m0 c0_1, .int .i64 i0]]) ?_ rfl ?_
      · simp [results, Tryz.results24, go_sem, g0, g1, gf, e0, e1, e2, ef, n12, n21, n68, n86, n78, n87, l6, l7, k0, k1, k2, kf, kl]
      · refine ⟨none, 0, 0, none, 0, 0, _, _, _, _, _, rfl, ?_⟩
        rw [HSW.out]
        have key : ∀ W9, FarB w w5 W9 b6 b7 → Hid (EIs W9 (.agg #[.bool true, .slice A0 m0 c0_1, .int .i64 i0]) (chk ms ls) ∧ GrOwn w.heap.size W9 none 0 0 none 0 0 [] [] ∧ Below w.heap.size w W9) := fun W9 h9 => ⟨h9.e HR.out HK5.out.old HE5.out, GrOwn.nil _ _, h9.low⟩
        refine key _ ?_
        repeat (first | with_reducible exact FarB.refl HR.out HK5.out.old | with_reducible refine FarB.set6 HR.out ?_ _ _ | with_reducible refine FarB.set7 HR.out ?_ _ _ | with_reducible refine FarB.al ?_ _ | with_reducible refine FarB.dr ?_)
  case inl =>
  have HSE : Hid (swapE ms ls (o1, o2) (p1, p2) = if o1 ≥ o2 ∨ p1 ≥ p2 then plainE 1 else if p1 ∉ ms ∨ p2 ∉ ms then plainE 12 else if (o1, o2) ∉ ls ∨ (p1, p2) ∈ ls then plainE 13 else none) := by
    unfold swapE; rw [hc]; rfl
  have HGD := Lib.hid (chk_good hc)
  have HHX : Hid (∀ x t, decide (x ∈ ms) = t → ∀ W, KE w1 W b8 (.bool false) (.slice none 0 0) (.int .i64 0) → Calls Tryz.prog 16 #[.slice Am n cm, .int .i64 x] W fun e w' => e = .returned (.bool t) ∧ W = w') := fun x t ht W hW => by
    subst ht
    exact (rhas_any Am n cm ms x W HG.out.mlen (HG.out.mrow.below (HR.out.old.trans (Below.mono hW.old HR.out.old.size))) (Nat.le_trans HN.out.1 (by decide))).mono fun _ _ h => ⟨h.1, h.2.symm⟩
  have HHL : Hid (∀ x y t, decide ((x, y) ∈ ls) = t → ∀ W, KE w1 W b8 (.bool false) (.slice none 0 0) (.int .i64 0) → Calls Tryz.prog 13 #[grV Am n cm Al q cl, .agg #[.int .i64 x, .int .i64 y]] W fun e w' => e = .returned (.bool t) ∧ KE w1 w' b8 (.bool false) (.slice none 0 0) (.int .i64 0)) := fun x y t ht W hW => by
    subst ht
    exact (rHas_any Am n cm Al q cl ls W x y HG.out.llen (HG.out.lrow.below (HR.out.old.trans (Below.mono hW.old HR.out.old.size))) (Nat.le_trans HN.out.2 (by decide))).mono fun _ _ h => ⟨h.1, hW.step h.2⟩
  clear hc HE HCK
  by_cases a1 : o1 ≥ o2
  · have HSW : Hid (swapP ms ls (o1, o2) (p1, p2) = (plainE 1, [], [])) := swapP_no (by rw [HSE.out, if_pos (.inl a1)]) (by simp [plainE])
    have a2 : o2 ≤ o1 := a1
    go_wp2_with fail
    obtain ⟨w3, hw3⟩ : ∃ w3, w3 = w2.alloc (.cells #[.bool false, .slice none 0 0, .int .i64 0] 43) := ⟨_, rfl⟩
    have HKc : Hid (KE w1 w3 b8 (.bool false) (.slice none 0 0) (.int .i64 0)) := by rw [hw3]; exact KE.fresh HB2.out hb8
    rw [← hw3, ← hb8]
    clear hw3 hb8
    obtain ⟨g0, g1, gf, e0, e1, e2, ef, n12, n21, l6, l7⟩ := HR.out.cells HKc.out.old; obtain ⟨k0, k1, k2, kf, kl⟩ := cell3 HKc.out.e8; obtain ⟨c0, c1, c2, c3, c4, c5⟩ := HC.out _ HKc.out.old
    (first
      | (go_at_call 34; refine (rn_any 1 _).mono ?_; rintro e w4 ⟨rfl, hb4⟩; have HK4 := Lib.hid ((HKc.out).step hb4); obtain ⟨g0, g1, gf, e0, e1, e2, ef, n12, n21, l6, l7⟩ := HR.out.cells HK4.out.old; obtain ⟨k0, k1, k2, kf, kl⟩ := cell3 HK4.out.e8)
      | fail)
    go_wp2_with (first
      | (go_at_call 34; refine (rn_any 1 _).mono ?_; rintro e w4 ⟨rfl, hb4⟩; have HK4 := Lib.hid ((HKc.out).step hb4); obtain ⟨g0, g1, gf, e0, e1, e2, ef, n12, n21, l6, l7⟩ := HR.out.cells HK4.out.old; obtain ⟨k0, k1, k2, kf, kl⟩ := cell3 HK4.out.e8)
      | fail)
    obtain ⟨w5, hw5⟩ : ∃ w5, w5 = ((w4.setCell ⟨b8, 0, none⟩ (.bool true)).setCell ⟨b8, 1, none⟩ (.slice none 0 0)).setCell ⟨b8, 2, none⟩ (.int .i64 1) := ⟨_, rfl⟩
    have HK5 : Hid (KE w1 w5 b8 (.bool true) (.slice none 0 0) (.int .i64 1)) := by rw [hw5]; exact HK4.out.set _ _ _
    have HE5 : Hid (EIs w5 (.agg #[.bool true, .slice none 0 0, .int .i64 1]) (plainE 1)) := by exact rfl
    rw [← hw5]
    try clear hb8
    clear hw5
    obtain ⟨g0, g1, gf, e0, e1, e2, ef, n12, n21, l6, l7⟩ := HR.out.cells HK5.out.old
    obtain ⟨k0, k1, k2, kf, kl⟩ := cell3 HK5.out.e8
    go_region
    all_goals
      go_wp2
      refine bodyPost_ret (v := .tuple #[grV none 0 0 none 0 0, .agg #[.bool true, .slice none 0 0, .int .i64 1]]) ?_ rfl ?_
      · simp [results, Tryz.results24, go_sem, g0, g1, gf, e0, e1, e2, ef, n12, n21, n68, n86, n78, n87, l6, l7, k0, k1, k2, kf, kl]
      · refine ⟨none, 0, 0, none, 0, 0, _, _, _, _, _, rfl, ?_⟩
        rw [HSW.out]
        have key : ∀ W9, FarB w w5 W9 b6 b7 → Hid (EIs W9 (.agg #[.bool true, .slice none 0 0, .int .i64 1]) (plainE 1) ∧ GrOwn w.heap.size W9 none 0 0 none 0 0 [] [] ∧ Below w.heap.size w W9) := fun W9 h9 => ⟨h9.e HR.out HK5.out.old HE5.out, GrOwn.nil _ _, h9.low⟩
        refine key _ ?_
        repeat (first | with_reducible exact FarB.refl HR.out HK5.out.old | with_reducible refine FarB.set6 HR.out ?_ _ _ | with_reducible refine FarB.set7 HR.out ?_ _ _ | with_reducible refine FarB.al ?_ _ | with_reducible refine FarB.dr ?_)
  by_cases a2 : p1 ≥ p2
  · have HSW : Hid (swapP ms ls (o1, o2) (p1, p2) = (plainE 1, [], [])) := swapP_no (by rw [HSE.out, if_pos (.inr a2)]) (by simp [plainE])
    have a3 : p2 ≤ p1 := a2
    have a4 : o1 < o2 := by omega
    go_wp2_with fail
    obtain ⟨w3, hw3⟩ : ∃ w3, w3 = w2.alloc (.cells #[.bool false, .slice none 0 0, .int .i64 0] 43) := ⟨_, rfl⟩
    have HKc : Hid (KE w1 w3 b8 (.bool false) (.slice none 0 0) (.int .i64 0)) := by rw [hw3]; exact KE.fresh HB2.out hb8
    rw [← hw3, ← hb8]
    clear hw3 hb8
    obtain ⟨g0, g1, gf, e0, e1, e2, ef, n12, n21, l6, l7⟩ := HR.out.cells HKc.out.old; obtain ⟨k0, k1, k2, kf, kl⟩ := cell3 HKc.out.e8; obtain ⟨c0, c1, c2, c3, c4, c5⟩ := HC.out _ HKc.out.old
    (first
      | (go_at_call 34; refine (rn_any 1 _).mono ?_; rintro e w4 ⟨rfl, hb4⟩; have HK4 := Lib.hid ((HKc.out).step hb4); obtain ⟨g0, g1, gf, e0, e1, e2, ef, n12, n21, l6, l7⟩ := HR.out.cells HK4.out.old; obtain ⟨k0, k1, k2, kf, kl⟩ := cell3 HK4.out.e8)
      | fail)
    go_wp2_with (first
      | (go_at_call 34; refine (rn_any 1 _).mono ?_; rintro e w4 ⟨rfl, hb4⟩; have HK4 := Lib.hid ((HKc.out).step hb4); obtain ⟨g0, g1, gf, e0, e1, e2, ef, n12, n21, l6, l7⟩ := HR.out.cells HK4.out.old; obtain ⟨k0, k1, k2, kf, kl⟩ := cell3 HK4.out.e8)
      | fail)
    obtain ⟨w5, hw5⟩ : ∃ w5, w5 = ((w4.setCell ⟨b8, 0, none⟩ (.bool true)).setCell ⟨b8, 1, none⟩ (.slice none 0 0)).setCell ⟨b8, 2, none⟩ (.int .i64 1) := ⟨_, rfl⟩
    have HK5 : Hid (KE w1 w5 b8 (.bool true) (.slice none 0 0) (.int .i64 1)) := by rw [hw5]; exact HK4.out.set _ _ _
    have HE5 : Hid (EIs w5 (.agg #[.bool true, .slice none 0 0, .int .i64 1]) (plainE 1)) := by exact rfl
    rw [← hw5]
    try clear hb8
    clear hw5
    obtain ⟨g0, g1, gf, e0, e1, e2, ef, n12, n21, l6, l7⟩ := HR.out.cells HK5.out.old
    obtain ⟨k0, k1, k2, kf, kl⟩ := cell3 HK5.out.e8
    go_region
    all_goals
      go_wp2
      refine bodyPost_ret (v := .tuple #[grV none 0 0 none 0 0, .agg #[.bool true, .slice none 0 0, .int .i64 1]]) ?_ rfl ?_
      · simp [results, Tryz.results24, go_sem, g0, g1, gf, e0, e1, e2, ef, n12, n21, n68, n86, n78, n87, l6, l7, k0, k1, k2, kf, kl]
      · refine ⟨none, 0, 0, none, 0, 0, _, _, _, _, _, rfl, ?_⟩
        rw [HSW.out]
        have key : ∀ W9, FarB w w5 W9 b6 b7 → Hid (EIs W9 (.agg #[.bool true, .slice none 0 0, .int .i64 1]) (plainE 1) ∧ GrOwn w.heap.size W9 none 0 0 none 0 0 [] [] ∧ Below w.heap.size w W9) := fun W9 h9 => ⟨h9.e HR.out HK5.out.old HE5.out, GrOwn.nil _ _, h9.low⟩
        refine key _ ?_
        repeat (first | with_reducible exact FarB.refl HR.out HK5.out.old | with_reducible refine FarB.set6 HR.out ?_ _ _ | with_reducible refine FarB.set7 HR.out ?_ _ _ | with_reducible refine FarB.al ?_ _ | with_reducible refine FarB.dr ?_)
  have a3 : o1 < o2 := by omega
  have a4 : p1 < p2 := by omega
  rw [if_neg (by omega)] at HSE
  by_cases m1 : p1 ∈ ms
  case neg =>
    have HSW : Hid (swapP ms ls (o1, o2) (p1, p2) = (plainE 12, [], [])) := swapP_no (by rw [HSE.out, if_pos (.inl m1)]) (by simp [plainE])
    have HDA : Hid (decide (p1 ∈ ms) = false) := decide_eq_false m1
    clear m1 a1 a2 HSE
    go_wp2_with fail
    obtain ⟨w3, hw3⟩ : ∃ w3, w3 = w2.alloc (.cells #[.bool false, .slice none 0 0, .int .i64 0] 43) := ⟨_, rfl⟩
    have HKc : Hid (KE w1 w3 b8 (.bool false) (.slice none 0 0) (.int .i64 0)) := by rw [hw3]; exact KE.fresh HB2.out hb8
    rw [← hw3, ← hb8]
    clear hw3 hb8
    obtain ⟨g0, g1, gf, e0, e1, e2, ef, n12, n21, l6, l7⟩ := HR.out.cells HKc.out.old; obtain ⟨k0, k1, k2, kf, kl⟩ := cell3 HKc.out.e8; obtain ⟨c0, c1, c2, c3, c4, c5⟩ := HC.out _ HKc.out.old
    (first
      | (go_at_call 34; refine (rn_any 12 _).mono ?_; rintro e w4 ⟨rfl, hb4⟩; have HK4 := Lib.hid ((HKc.out).step hb4); obtain ⟨g0, g1, gf, e0, e1, e2, ef, n12, n21, l6, l7⟩ := HR.out.cells HK4.out.old; obtain ⟨k0, k1, k2, kf, kl⟩ := cell3 HK4.out.e8)
      | (go_at_call 16; refine (HHX.out _ _ HDA.out _ HKc.out).mono ?_; rintro e wx ⟨rfl, rfl⟩)
      | fail)
    go_wp2_with (first
      | (go_at_call 34; refine (rn_any 12 _).mono ?_; rintro e w4 ⟨rfl, hb4⟩; have HK4 := Lib.hid ((HKc.out).step hb4); obtain ⟨g0, g1, gf, e0, e1, e2, ef, n12, n21, l6, l7⟩ := HR.out.cells HK4.out.old; obtain ⟨k0, k1, k2, kf, kl⟩ := cell3 HK4.out.e8)
      | (go_at_call 16; refine (HHX.out _ _ HDA.out _ HKc.out).mono ?_; rintro e wx ⟨rfl, rfl⟩)
      | fail)
    obtain ⟨w5, hw5⟩ : ∃ w5, w5 = ((w4.setCell ⟨b8, 0, none⟩ (.bool true)).setCell ⟨b8, 1, none⟩ (.slice none 0 0)).setCell ⟨b8, 2, none⟩ (.int .i64 12) := ⟨_, rfl⟩
    have HK5 : Hid (KE w1 w5 b8 (.bool true) (.slice none 0 0) (.int .i64 12)) := by rw [hw5]; exact HK4.out.set _ _ _
    have HE5 : Hid (EIs w5 (.agg #[.bool true, .slice none 0 0, .int .i64 12]) (plainE 12)) := by exact rfl
    rw [← hw5]
    try clear hb8
    clear hw5
    obtain ⟨g0, g1, gf, e0, e1, e2, ef, n12, n21, l6, l7⟩ := HR.out.cells HK5.out.old
    obtain ⟨k0, k1, k2, kf, kl⟩ := cell3 HK5.out.e8
    go_region
    all_goals
      go_wp2
      refine bodyPost_ret (v := .tuple #[grV none 0 0 none 0 0, .agg #[.bool true, .slice none 0 0, .int .i64 12]]) ?_ rfl ?_
      · simp [results, Tryz.results24, go_sem, g0, g1, gf, e0, e1, e2, ef, n12, n21, n68, n86, n78, n87, l6, l7, k0, k1, k2, kf, kl]
      · refine ⟨none, 0, 0, none, 0, 0, _, _, _, _, _, rfl, ?_⟩
        rw [HSW.out]
        have key : ∀ W9, FarB w w5 W9 b6 b7 → Hid (EIs W9 (.agg #[.bool true, .slice none 0 0, .int .i64 12]) (plainE 12) ∧ GrOwn w.heap.size W9 none 0 0 none 0 0 [] [] ∧ Below w.heap.size w W9) := fun W9 h9 => ⟨h9.e HR.out HK5.out.old HE5.out, GrOwn.nil _ _, h9.low⟩
        refine key _ ?_
        repeat (first | with_reducible exact FarB.refl HR.out HK5.out.old | with_reducible refine FarB.set6 HR.out ?_ _ _ | with_reducible refine FarB.set7 HR.out ?_ _ _ | with_reducible refine FarB.al ?_ _ | with_reducible refine FarB.dr ?_)
  case pos =>
  have HDA : Hid (decide (p1 ∈ ms) = true) := decide_eq_true m1
  by_cases m2 : p2 ∈ ms
  case neg =>
    have HSW : Hid (swapP ms ls (o1, o2) (p1, p2) = (plainE 12, [], [])) := swapP_no (by rw [HSE.out, if_pos (.inr m2)]) (by simp [plainE])
    have HDB : Hid (decide (p2 ∈ ms) = false) := decide_eq_false m2
    clear m1 m2 a1 a2 HSE
    go_wp2_with fail
    obtain ⟨w3, hw3⟩ : ∃ w3, w3 = w2.alloc (.cells #[.bool false, .slice none 0 0, .int .i64 0] 43) := ⟨_, rfl⟩
    have HKc : Hid (KE w1 w3 b8 (.bool false) (.slice none 0 0) (.int .i64 0)) := by rw [hw3]; exact KE.fresh HB2.out hb8
    rw [← hw3, ← hb8]
    clear hw3 hb8
    obtain ⟨g0, g1, gf, e0, e1, e2, ef, n12, n21, l6, l7⟩ := HR.out.cells HKc.out.old; obtain ⟨k0, k1, k2, kf, kl⟩ := cell3 HKc.out.e8; obtain ⟨c0, c1, c2, c3, c4, c5⟩ := HC.out _ HKc.out.old
    (first
      | (go_at_call 34; refine (rn_any 12 _).mono ?_; rintro e w4 ⟨rfl, hb4⟩; have HK4 := Lib.hid ((HKc.out).step hb4); obtain ⟨g0, g1, gf, e0, e1, e2, ef, n12, n21, l6, l7⟩ := HR.out.cells HK4.out.old; obtain ⟨k0, k1, k2, kf, kl⟩ := cell3 HK4.out.e8)
      | (go_at_call 16; refine (HHX.out _ _ (by first | exact HDA.out | exact HDB.out) _ HKc.out).mono ?_; rintro e wx ⟨rfl, rfl⟩)
      | fail)
    go_wp2_with (first
      | (go_at_call 34; refine (rn_any 12 _).mono ?_; rintro e w4 ⟨rfl, hb4⟩; have HK4 := Lib.hid ((HKc.out).step hb4); obtain ⟨g0, g1, gf, e0, e1, e2, ef, n12, n21, l6, l7⟩ := HR.out.cells HK4.out.old; obtain ⟨k0, k1, k2, kf, kl⟩ := cell3 HK4.out.e8)
      | (go_at_call 16; refine (HHX.out _ _ (by first | exact HDA.out | exact HDB.out) _ HKc.out).mono ?_; rintro e wx ⟨rfl, rfl⟩)
      | fail)
    obtain ⟨w5, hw5⟩ : ∃ w5, w5 = ((w4.setCell ⟨b8, 0, none⟩ (.bool true)).setCell ⟨b8, 1, none⟩ (.slice none 0 0)).setCell ⟨b8, 2, none⟩ (.int .i64 12) := ⟨_, rfl⟩
    have HK5 : Hid (KE w1 w5 b8 (.bool true) (.slice none 0 0) (.int .i64 12)) := by rw [hw5]; exact HK4.out.set _ _ _
    have HE5 : Hid (EIs w5 (.agg #[.bool true, .slice none 0 0, .int .i64 12]) (plainE 12)) := by exact rfl
    rw [← hw5]
    try clear hb8
    clear hw5
    obtain ⟨g0, g1, gf, e0, e1, e2, ef, n12, n21, l6, l7⟩ := HR.out.cells HK5.out.old
    obtain ⟨k0, k1, k2, kf, kl⟩ := cell3 HK5.out.e8
    go_region
    all_goals
      go_wp2
      refine bodyPost_ret (v := .tuple #[grV none 0 0 none 0 0, .agg #[.bool true, .slice none 0 0, .int .i64 12]]) ?_ rfl ?_
      · simp [results, Tryz.results24, go_sem, g0, g1, gf, e0, e1, e2, ef, n12, n21, n68, n86, n78, n87, l6, l7, k0, k1, k2, kf, kl]
      · refine ⟨none, 0, 0, none, 0, 0, _, _, _, _, _, rfl, ?_⟩
        rw [HSW.out]
        have key : ∀ W9, FarB w w5 W9 b6 b7 → Hid (EIs W9 (.agg #[.bool true, .slice none 0 0, .int .i64 12]) (plainE 12) ∧ GrOwn w.heap.size W9 none 0 0 none 0 0 [] [] ∧ Below w.heap.size w W9) := fun W9 h9 => ⟨h9.e HR.out HK5.out.old HE5.out, GrOwn.nil _ _, h9.low⟩
        refine key _ ?_
        repeat (first | with_reducible exact FarB.refl HR.out HK5.out.old | with_reducible refine FarB.set6 HR.out ?_ _ _ | with_reducible refine FarB.set7 HR.out ?_ _ _ | with_reducible refine FarB.al ?_ _ | with_reducible refine FarB.dr ?_)
  case pos =>
  have HDB : Hid (decide (p2 ∈ ms) = true) := decide_eq_true m2
  have HSE2 : Hid (swapE ms ls (o1, o2) (p1, p2) = if (o1, o2) ∉ ls ∨ (p1, p2) ∈ ls then plainE 13 else none) := by rw [Hid, HSE.out, if_neg (fun e => e.elim (fun e => e m1) (fun e => e m2))]
  clear m1 m2 a1 a2 HSE
  by_cases m1 : (o1, o2) ∈ ls
  case neg =>
    have HSW : Hid (swapP ms ls (o1, o2) (p1, p2) = (plainE 13, [], [])) := swapP_no (by rw [HSE2.out, if_pos (.inl m1)]) (by simp [plainE])
    have HDC : Hid (decide ((o1, o2) ∈ ls) = false) := decide_eq_false m1
    clear m1 HSE2
    go_wp2_with fail
    obtain ⟨w3, hw3⟩ : ∃ w3, w3 = w2.alloc (.cells #[.bool false, .slice none 0 0, .int .i64 0] 43) := ⟨_, rfl⟩
    have HKc : Hid (KE w1 w3 b8 (.bool false) (.slice none 0 0) (.int .i64 0)) := by rw [hw3]; exact KE.fresh HB2.out hb8
    rw [← hw3, ← hb8]
    clear hw3 hb8
    obtain ⟨g0, g1, gf, e0, e1, e2, ef, n12, n21, l6, l7⟩ := HR.out.cells HKc.out.old; obtain ⟨k0, k1, k2, kf, kl⟩ := cell3 HKc.out.e8; obtain ⟨c0, c1, c2, c3, c4, c5⟩ := HC.out _ HKc.out.old
    (first
      | (go_at_call 34; refine (rn_any 13 _).mono ?_; rintro e w4 ⟨rfl, hb4⟩; have HK4 := Lib.hid ((HKc.out).step hb4); obtain ⟨g0, g1, gf, e0, e1, e2, ef, n12, n21, l6, l7⟩ := HR.out.cells HK4.out.old; obtain ⟨k0, k1, k2, kf, kl⟩ := cell3 HK4.out.e8)
      | (go_at_call 16; refine (HHX.out _ _ (by first | exact HDA.out | exact HDB.out) _ HKc.out).mono ?_; rintro e wx ⟨rfl, rfl⟩)
      | (go_at_call 13; refine (HHL.out _ _ _ HDC.out _ HKc.out).mono ?_; rintro e wx ⟨rfl, hk⟩; have HKc := Lib.hid hk; obtain ⟨g0, g1, gf, e0, e1, e2, ef, n12, n21, l6, l7⟩ := HR.out.cells HKc.out.old; obtain ⟨k0, k1, k2, kf, kl⟩ := cell3 HKc.out.e8; obtain ⟨c0, c1, c2, c3, c4, c5⟩ := HC.out _ HKc.out.old)
      | fail)
    go_wp2_with (first
      | (go_at_call 34; refine (rn_any 13 _).mono ?_; rintro e w4 ⟨rfl, hb4⟩; have HK4 := Lib.hid ((HKc.out).step hb4); obtain ⟨g0, g1, gf, e0, e1, e2, ef, n12, n21, l6, l7⟩ := HR.out.cells HK4.out.old; obtain ⟨k0, k1, k2, kf, kl⟩ := cell3 HK4.out.e8)
      | (go_at_call 16; refine (HHX.out _ _ (by first | exact HDA.out | exact HDB.out) _ HKc.out).mono ?_; rintro e wx ⟨rfl, rfl⟩)
      | (go_at_call 13; refine (HHL.out _ _ _ HDC.out _ HKc.out).mono ?_; rintro e wx ⟨rfl, hk⟩; have HKc := Lib.hid hk; obtain ⟨g0, g1, gf, e0, e1, e2, ef, n12, n21, l6, l7⟩ := HR.out.cells HKc.out.old; obtain ⟨k0, k1, k2, kf, kl⟩ := cell3 HKc.out.e8; obtain ⟨c0, c1, c2, c3, c4, c5⟩ := HC.out _ HKc.out.old)
      | fail)
    obtain ⟨w5, hw5⟩ : ∃ w5, w5 = ((w4.setCell ⟨b8, 0, none⟩ (.bool true)).setCell ⟨b8, 1, none⟩ (.slice none 0 0)).setCell ⟨b8, 2, none⟩ (.int .i64 13) := ⟨_, rfl⟩
    have HK5 : Hid (KE w1 w5 b8 (.bool true) (.slice none 0 0) (.int .i64 13)) := by rw [hw5]; exact HK4.out.set _ _ _
    have HE5 : Hid (EIs w5 (.agg #[.bool true, .slice none 0 0, .int .i64 13]) (plainE 13)) := by exact rfl
    rw [← hw5]
    try clear hb8
    clear hw5
    obtain ⟨g0, g1, gf, e0, e1, e2, ef, n12, n21, l6, l7⟩ := HR.out.cells HK5.out.old
    obtain ⟨k0, k1, k2, kf, kl⟩ := cell3 HK5.out.e8
    go_region
    all_goals
      go_wp2
      refine bodyPost_ret (v := .tuple #[grV none 0 0 none 0 0, .agg #[.bool true, .slice none 0 0, .int .i64 13]]) ?_ rfl ?_
      · simp [results, Tryz.results24, go_sem, g0, g1, gf, e0, e1, e2, ef, n12, n21, n68, n86, n78, n87, l6, l7, k0, k1, k2, kf, kl]
      · refine ⟨none, 0, 0, none, 0, 0, _, _, _, _, _, rfl, ?_⟩
        rw [HSW.out]
        have key : ∀ W9, FarB w w5 W9 b6 b7 → Hid (EIs W9 (.agg #[.bool true, .slice none 0 0, .int .i64 13]) (plainE 13) ∧ GrOwn w.heap.size W9 none 0 0 none 0 0 [] [] ∧ Below w.heap.size w W9) := fun W9 h9 => ⟨h9.e HR.out HK5.out.old HE5.out, GrOwn.nil _ _, h9.low⟩
        refine key _ ?_
        repeat (first | with_reducible exact FarB.refl HR.out HK5.out.old | with_reducible refine FarB.set6 HR.out ?_ _ _ | with_reducible refine FarB.set7 HR.out ?_ _ _ | with_reducible refine FarB.al ?_ _ | with_reducible refine FarB.dr ?_)
  case pos =>
  have HDC : Hid (decide ((o1, o2) ∈ ls) = true) := decide_eq_true m1
  by_cases m2 : (p1, p2) ∈ ls
  case pos =>
    have HSW : Hid (swapP ms ls (o1, o2) (p1, p2) = (plainE 13, [], [])) := swapP_no (by rw [HSE2.out, if_pos (.inr m2)]) (by simp [plainE])
    have HDD : Hid (decide ((p1, p2) ∈ ls) = true) := decide_eq_true m2
    clear m1 m2 HSE2
    go_wp2_with fail
    obtain ⟨w3, hw3⟩ : ∃ w3, w3 = w2.alloc (.cells #[.bool false, .slice none 0 0, .int .i64 0] 43) := ⟨_, rfl⟩
    have HKc : Hid (KE w1 w3 b8 (.bool false) (.slice none 0 0) (.int .i64 0)) := by rw [hw3]; exact KE.fresh HB2.out hb8
    rw [← hw3, ← hb8]
    clear hw3 hb8
    obtain ⟨g0, g1, gf, e0, e1, e2, ef, n12, n21, l6, l7⟩ := HR.out.cells HKc.out.old; obtain ⟨k0, k1, k2, kf, kl⟩ := cell3 HKc.out.e8; obtain ⟨c0, c1, c2, c3, c4, c5⟩ := HC.out _ HKc.out.old
    (first
      | (go_at_call 34; refine (rn_any 13 _).mono ?_; rintro e w4 ⟨rfl, hb4⟩; have HK4 := Lib.hid ((HKc.out).step hb4); obtain ⟨g0, g1, gf, e0, e1, e2, ef, n12, n21, l6, l7⟩ := HR.out.cells HK4.out.old; obtain ⟨k0, k1, k2, kf, kl⟩ := cell3 HK4.out.e8)
      | (go_at_call 16; refine (HHX.out _ _ (by first | exact HDA.out | exact HDB.out) _ HKc.out).mono ?_; rintro e wx ⟨rfl, rfl⟩)
      | (go_at_call 13; refine (HHL.out _ _ _ (by first | exact HDC.out | exact HDD.out) _ HKc.out).mono ?_; rintro e wx ⟨rfl, hk⟩; have HKc := Lib.hid hk; obtain ⟨g0, g1, gf, e0, e1, e2, ef, n12, n21, l6, l7⟩ := HR.out.cells HKc.out.old; obtain ⟨k0, k1, k2, kf, kl⟩ := cell3 HKc.out.e8; obtain ⟨c0, c1, c2, c3, c4, c5⟩ := HC.out _ HKc.out.old)
      | fail)
    go_wp2_with (first
      | (go_at_call 34; refine (rn_any 13 _).mono ?_; rintro e w4 ⟨rfl, hb4⟩; have HK4 := Lib.hid ((HKc.out).step hb4); obtain ⟨g0, g1, gf, e0, e1, e2, ef, n12, n21, l6, l7⟩ := HR.out.cells HK4.out.old; obtain ⟨k0, k1, k2, kf, kl⟩ := cell3 HK4.out.e8)
      | (go_at_call 16; refine (HHX.out _ _ (by first | exact HDA.out | exact HDB.out) _ HKc.out).mono ?_; rintro e wx ⟨rfl, rfl⟩)
      | (go_at_call 13; refine (HHL.out _ _ _ (by first | exact HDC.out | exact HDD.out) _ HKc.out).mono ?_; rintro e wx ⟨rfl, hk⟩; have HKc := Lib.hid hk; obtain ⟨g0, g1, gf, e0, e1, e2, ef, n12, n21, l6, l7⟩ := HR.out.cells HKc.out.old; obtain ⟨k0, k1, k2, kf, kl⟩ := cell3 HKc.out.e8; obtain ⟨c0, c1, c2, c3, c4, c5⟩ := HC.out _ HKc.out.old)
      | fail)
    obtain ⟨w5, hw5⟩ : ∃ w5, w5 = ((w4.setCell ⟨b8, 0, none⟩ (.bool true)).setCell ⟨b8, 1, none⟩ (.slice none 0 0)).setCell ⟨b8, 2, none⟩ (.int .i64 13) := ⟨_, rfl⟩
    have HK5 : Hid (KE w1 w5 b8 (.bool true) (.slice none 0 0) (.int .i64 13)) := by rw [hw5]; exact HK4.out.set _ _ _
    have HE5 : Hid (EIs w5 (.agg #[.bool true, .slice none 0 0, .int .i64 13]) (plainE 13)) := by exact rfl
    rw [← hw5]
    try clear hb8
    clear hw5
    obtain ⟨g0, g1, gf, e0, e1, e2, ef, n12, n21, l6, l7⟩ := HR.out.cells HK5.out.old
    obtain ⟨k0, k1, k2, kf, kl⟩ := cell3 HK5.out.e8
    go_region
    all_goals
      go_wp2
      refine bodyPost_ret (v := .tuple #[grV none 0 0 none 0 0, .agg #[.bool true, .slice none 0 0, .int .i64 13]]) ?_ rfl ?_
      · simp [results, Tryz.results24, go_sem, g0, g1, gf, e0, e1, e2, ef, n12, n21, n68, n86, n78, n87, l6, l7, k0, k1, k2, kf, kl]
      · refine ⟨none, 0, 0, none, 0, 0, _, _, _, _, _, rfl, ?_⟩
        rw [HSW.out]
        have key : ∀ W9, FarB w w5 W9 b6 b7 → Hid (EIs W9 (.agg #[.bool true, .slice none 0 0, .int .i64 13]) (plainE 13) ∧ GrOwn w.heap.size W9 none 0 0 none 0 0 [] [] ∧ Below w.heap.size w W9) := fun W9 h9 => ⟨h9.e HR.out HK5.out.old HE5.out, GrOwn.nil _ _, h9.low⟩
        refine key _ ?_
        repeat (first | with_reducible exact FarB.refl HR.out HK5.out.old | with_reducible refine FarB.set6 HR.out ?_ _ _ | with_reducible refine FarB.set7 HR.out ?_ _ _ | with_reducible refine FarB.al ?_ _ | with_reducible refine FarB.dr ?_)
  case neg =>
  have HDD : Hid (decide ((p1, p2) ∈ ls) = false) := decide_eq_false m2
  have HSW : Hid (swapP ms ls (o1, o2) (p1, p2) = doneP ms (withL (but ls (o1, o2)) (p1, p2))) := swapP_ok (by rw [HSE2.out, if_neg (fun e => e.elim (fun e => e m1) (fun e => m2 e))])
  clear m1 m2 HSE2
  obtain ⟨iI, hI, hI0, hI1, hI2⟩ := info_parts int_info
  have HLM : Hid ((intVs ms).length = n * 1) := by rw [Hid, intVs_len, HG.out.mlen, Nat.mul_one]
  have HM1 : Hid (n ≤ maxLen) := Nat.le_trans (show n ≤ 1000 by have := HN.out; omega) (by decide)
  have HM2 : Hid (n * 8 ≤ 140737488355328) := by have := HN.out; simp only [Hid]; omega
  have HRM : Hid (∀ W, Bl w1 W → RowAt W Am (intVs ms)) := fun W hW => HG.out.mrow.below (HR.out.old.trans (Below.mono hW HR.out.old.size))
  have HWO : Hid (∀ W, Bl w1 W → Calls Tryz.prog 54 #[.slice Al q cl, .agg #[.int .i64 o1, .int .i64 o2]] W fun e w' => ∃ (A' : Option Addr) (m c' : Nat), e = .returned (.slice A' m c') ∧ Bl w1 w' ∧ Hid (RowAt w' A' (lkCells (but ls (o1, o2))) ∧ (but ls (o1, o2)).length = m ∧ m ≤ 8) ∧ ∀ base e s n v xs, W.ownsRow base e s n v xs → w'.ownsRow base e s n v xs) := fun W hW => by
    refine (rwithout_any Al q cl ls W o1 o2 HG.out.llen (HG.out.lrow.below (HR.out.old.trans (Below.mono hW HR.out.old.size))) HN.out.2).mono ?_
    rintro e w' ⟨A', m, c', rfl, h⟩
    refine ⟨A', m, c', rfl, bchain hW h.out.2.2, ⟨RowAt.of_own h.out.2.1, h.out.1, ?_⟩, fun _ _ _ _ _ _ ho => ownsRow_below ho h.out.2.2⟩
    have := HGD.out.small.2
    rw [← h.out.1]
    exact Nat.le_trans (List.length_filter_le _ _) this
  have HWI : Hid (∀ (A : Option Addr) (m c : Nat) W, Bl w1 W → Hid (RowAt W A (lkCells (but ls (o1, o2))) ∧ (but ls (o1, o2)).length = m ∧ m ≤ 8) → Calls Tryz.prog 53 #[.slice A m c, .agg #[.int .i64 p1, .int .i64 p2]] W fun e w' => ∃ (A' : Option Addr) (m' c' : Nat), e = .returned (.slice A' m' c') ∧ Bl w1 w' ∧ Hid (w'.ownsRow w.heap.size 35 2 (.slice A' m' c') m' (lkCells (withL (but ls (o1, o2)) (p1, p2))) ∧ (withL (but ls (o1, o2)) (p1, p2)).length = m' ∧ m' ≤ 1000) ∧ ∀ base e s n v xs, W.ownsRow base e s n v xs → w'.ownsRow base e s n v xs) := fun A m c W hW h => by
    refine (rwith_any A m c (but ls (o1, o2)) W p1 p2 h.out.2.1 h.out.1 (by have := h.out.2.2; omega)).mono ?_
    rintro e w' ⟨A', m', c', rfl, h2⟩
    refine ⟨A', m', c', rfl, bchain hW h2.out.2.2, ⟨ownsRow_mono h2.out.2.1 (Nat.le_trans HR.out.old.size hW.size), h2.out.1, ?_⟩, fun _ _ _ _ _ _ ho => ownsRow_below ho h2.out.2.2⟩
    have := h2.out.1
    rw [with_len, h.out.2.1] at this
    have := h.out.2.2
    omega
  have HDN : Hid (∀ (A1 : Option Addr) (c1 : Nat) (A : Option Addr) (m c : Nat) W, Bl w1 W → W.ownsRow w1.heap.size 3 1 (.slice A1 n c1) n (intVs ms) → Hid (W.ownsRow w.heap.size 35 2 (.slice A m c) m (lkCells (withL (but ls (o1, o2)) (p1, p2))) ∧ (withL (but ls (o1, o2)) (p1, p2)).length = m ∧ m ≤ 1000) → Calls Tryz.prog 52 #[.agg #[.slice A1 n c1, .slice A m c]] W fun e w' => ∃ (Am' : Option Addr) (n' cm' : Nat) (Al' : Option Addr) (q' cl' : Nat) (bb : Bool) (Ae : Option Addr) (me ce : Nat) (ie : Int), e = .returned (.tuple #[grV Am' n' cm' Al' q' cl', eVal bb Ae me ce ie]) ∧ Bl w1 w' ∧ Hid (EIs w' (eVal bb Ae me ce ie) (doneP ms (withL (but ls (o1, o2)) (p1, p2))).1 ∧ GrOwn w.heap.size w' Am' n' cm' Al' q' cl' (doneP ms (withL (but ls (o1, o2)) (p1, p2))).2.1 (doneP ms (withL (but ls (o1, o2)) (p1, p2))).2.2)) := fun A1 c1 A m c W hW h1 h2 => by
    refine (rdone_any A1 n c1 A m c ms (withL (but ls (o1, o2)) (p1, p2)) w.heap.size W ⟨HG.out.mlen, h2.out.2.1, ownsRow_mono h1 HR.out.old.size, h2.out.1⟩ HN.out.1 h2.out.2.2).mono ?_
    rintro e w' ⟨Am', n', cm', Al', q', cl', bb, Ae, me, ce, ie, rfl, h⟩
    exact ⟨Am', n', cm', Al', q', cl', bb, Ae, me, ce, ie, rfl, bchain hW h.out.2.2, h.out.1, h.out.2.1⟩
  have HCS : Hid (∀ W W', Bl w1 W → FarB w W W' b6 b7 → (W'.cell? ⟨bg, 0, none⟩ = some (.slice Am n cm) ∧ W'.cell? ⟨bg, 1, none⟩ = some (.slice Al q cl) ∧ W'.cell? ⟨b4, 0, none⟩ = some (.int .i64 o1) ∧ W'.cell? ⟨b4, 1, none⟩ = some (.int .i64 o2) ∧ W'.cell? ⟨b5, 0, none⟩ = some (.int .i64 p1) ∧ W'.cell? ⟨b5, 1, none⟩ = some (.int .i64 p2))) := fun W W' hW hf => by
    have hn := HR.out.n
    have hs := Below.size hW
    obtain ⟨h1, h2, h3, h4, h5, h6⟩ := HBX.out
    obtain ⟨a1, a2, _⟩ := cell2 ((hf.keep bg (by omega) (by omega) (by omega)).trans ((Below.block hW bg (by omega)).trans h1))
    obtain ⟨a3, a4, _⟩ := cell2 ((hf.keep b4 (by omega) (by omega) (by omega)).trans ((Below.block hW b4 (by omega)).trans h2))
    obtain ⟨a5, a6, _⟩ := cell2 ((hf.keep b5 (by omega) (by omega) (by omega)).trans ((Below.block hW b5 (by omega)).trans h3))
    exact ⟨a1, a2, a3, a4, a5, a6⟩
  go_wp2_with fail
  obtain ⟨w3, hw3⟩ : ∃ w3, w3 = w2.alloc (.cells #[.bool false, .slice none 0 0, .int .i64 0] 43) := ⟨_, rfl⟩
  have HKc : Hid (KE w1 w3 b8 (.bool false) (.slice none 0 0) (.int .i64 0)) := by rw [hw3]; exact KE.fresh HB2.out hb8
  rw [← hw3, ← hb8]
  clear hw3 hb8
  obtain ⟨g0, g1, gf, e0, e1, e2, ef, n12, n21, l6, l7⟩ := HR.out.cells HKc.out.old; obtain ⟨k0, k1, k2, kf, kl⟩ := cell3 HKc.out.e8; obtain ⟨c0, c1, c2, c3, c4, c5⟩ := HC.out _ HKc.out.old
  (go_at_call 16; refine (HHX.out _ _ (by first | exact HDA.out | exact HDB.out) _ HKc.out).mono ?_; rintro e wx ⟨rfl, rfl⟩)
  go_wp2_with (first
    | (go_at_call 16; refine (HHX.out _ _ (by first | exact HDA.out | exact HDB.out) _ HKc.out).mono ?_; rintro e wx ⟨rfl, rfl⟩)
    | (go_at_call 13; refine (HHL.out _ _ _ (by first | exact HDC.out | exact HDD.out) _ HKc.out).mono ?_; rintro e wx ⟨rfl, hk⟩; have HKc := Lib.hid hk; obtain ⟨g0, g1, gf, e0, e1, e2, ef, n12, n21, l6, l7⟩ := HR.out.cells HKc.out.old; obtain ⟨k0, k1, k2, kf, kl⟩ := cell3 HKc.out.e8; obtain ⟨c0, c1, c2, c3, c4, c5⟩ := HC.out _ HKc.out.old)
    | fail)
  have hbl : Bl w1 wx := HKc.out.old
  clear HHX HHL HDA HDB HDC HDD a3 a4
  (go_region_held_law (fun W => W.cell? ⟨bg, 0, none⟩ = some (.slice Am n cm) ∧ W.cell? ⟨bg, 1, none⟩ = some (.slice Al q cl) ∧ W.cell? ⟨b4, 0, none⟩ = some (.int .i64 o1) ∧ W.cell? ⟨b4, 1, none⟩ = some (.int .i64 o2) ∧ W.cell? ⟨b5, 0, none⟩ = some (.int .i64 p1) ∧ W.cell? ⟨b5, 1, none⟩ = some (.int .i64 p2))
    (first | (refine HC.out _ ?_; (first | (with_reducible refine Bl.dr ?_; (first | with_reducible assumption | (with_reducible refine Bl.al ?_ _; first | with_reducible assumption | (with_reducible refine Bl.al ?_ _; first | with_reducible assumption | (with_reducible refine Bl.al ?_ _; with_reducible assumption))))) | (first | with_reducible assumption | (with_reducible refine Bl.al ?_ _; first | with_reducible assumption | (with_reducible refine Bl.al ?_ _; first | with_reducible assumption | (with_reducible refine Bl.al ?_ _; with_reducible assumption))))); done) | (refine HCS.out w9 _ hb9 ?_; (repeat (first | with_reducible exact FarB.refl HR.out hb9 | with_reducible refine FarB.set6 HR.out ?_ _ _ | with_reducible refine FarB.set7 HR.out ?_ _ _ | with_reducible refine FarB.al ?_ _ | with_reducible refine FarB.dr ?_)); done) | fail)
    (first
      | (refine step_lit (W0 := w1) (by rfl) _ _ _ (by rfl) 3 iI (.int .i64 0) 1 8 Tryz.underlying22 hI hI0 hI1 hI2 rfl (by decide) _ (by rfl) _ _ _ (by rfl) (by first | exact (Lit.new (by first | (with_reducible refine Bl.dr ?_; (first | with_reducible assumption | (with_reducible refine Bl.al ?_ _; first | with_reducible assumption | (with_reducible refine Bl.al ?_ _; first | with_reducible assumption | (with_reducible refine Bl.al ?_ _; with_reducible assumption))))) | (first | with_reducible assumption | (with_reducible refine Bl.al ?_ _; first | with_reducible assumption | (with_reducible refine Bl.al ?_ _; first | with_reducible assumption | (with_reducible refine Bl.al ?_ _; with_reducible assumption))))) (by simp)) | exact (Lit.dr (Lit.new (by first | (with_reducible refine Bl.dr ?_; (first | with_reducible assumption | (with_reducible refine Bl.al ?_ _; first | with_reducible assumption | (with_reducible refine Bl.al ?_ _; first | with_reducible assumption | (with_reducible refine Bl.al ?_ _; with_reducible assumption))))) | (first | with_reducible assumption | (with_reducible refine Bl.al ?_ _; first | with_reducible assumption | (with_reducible refine Bl.al ?_ _; first | with_reducible assumption | (with_reducible refine Bl.al ?_ _; with_reducible assumption))))) (by simp))) | exact (Lit.al (Lit.new (by first | (with_reducible refine Bl.dr ?_; (first | with_reducible assumption | (with_reducible refine Bl.al ?_ _; first | with_reducible assumption | (with_reducible refine Bl.al ?_ _; first | with_reducible assumption | (with_reducible refine Bl.al ?_ _; with_reducible assumption))))) | (first | with_reducible assumption | (with_reducible refine Bl.al ?_ _; first | with_reducible assumption | (with_reducible refine Bl.al ?_ _; first | with_reducible assumption | (with_reducible refine Bl.al ?_ _; with_reducible assumption))))) (by simp)) _) | exact (Lit.dr (Lit.al (Lit.new (by first | (with_reducible refine Bl.dr ?_; (first | with_reducible assumption | (with_reducible refine Bl.al ?_ _; first | with_reducible assumption | (with_reducible refine Bl.al ?_ _; first | with_reducible assumption | (with_reducible refine Bl.al ?_ _; with_reducible assumption))))) | (first | with_reducible assumption | (with_reducible refine Bl.al ?_ _; first | with_reducible assumption | (with_reducible refine Bl.al ?_ _; first | with_reducible assumption | (with_reducible refine Bl.al ?_ _; with_reducible assumption))))) (by simp)) _))) (intVs ms) HLM.out (HRM.out _ (by first | (with_reducible refine Bl.dr ?_; (first | with_reducible assumption | (with_reducible refine Bl.al ?_ _; first | with_reducible assumption | (with_reducible refine Bl.al ?_ _; first | with_reducible assumption | (with_reducible refine Bl.al ?_ _; with_reducible assumption))))) | (first | with_reducible assumption | (with_reducible refine Bl.al ?_ _; first | with_reducible assumption | (with_reducible refine Bl.al ?_ _; first | with_reducible assumption | (with_reducible refine Bl.al ?_ _; with_reducible assumption)))))) (intVs_one ms) HM1.out HM2.out (by first | (with_reducible refine Bl.dr ?_; (first | with_reducible assumption | (with_reducible refine Bl.al ?_ _; first | with_reducible assumption | (with_reducible refine Bl.al ?_ _; first | with_reducible assumption | (with_reducible refine Bl.al ?_ _; with_reducible assumption))))) | (first | with_reducible assumption | (with_reducible refine Bl.al ?_ _; first | with_reducible assumption | (with_reducible refine Bl.al ?_ _; first | with_reducible assumption | (with_reducible refine Bl.al ?_ _; with_reducible assumption))))) ?_; intro Am5 cm5 wm hrm hbm hcarM hcrM)
      | (go_at_call 54; refine (HWO.out _ (by first | (with_reducible refine Bl.dr ?_; (first | with_reducible assumption | (with_reducible refine Bl.al ?_ _; first | with_reducible assumption | (with_reducible refine Bl.al ?_ _; first | with_reducible assumption | (with_reducible refine Bl.al ?_ _; with_reducible assumption))))) | (first | with_reducible assumption | (with_reducible refine Bl.al ?_ _; first | with_reducible assumption | (with_reducible refine Bl.al ?_ _; first | with_reducible assumption | (with_reducible refine Bl.al ?_ _; with_reducible assumption)))))).mono ?_; rintro e w7 ⟨A7, m7, d7, rfl, hb7, h7, hc7⟩; have hrm7 := hc7 _ _ _ _ _ _ (by first | exact hrm | exact own_dr hrm))
      | (go_at_call 53; refine (HWI.out _ _ _ _ (by with_reducible assumption) h7).mono ?_; rintro e w8 ⟨A8, m8, d8, rfl, hb8x, h8, hc8⟩; have hrm8 := hc8 _ _ _ _ _ _ hrm7)
      | (go_at_call 52; refine (HDN.out _ _ _ _ _ _ (by with_reducible assumption) hrm8 h8).mono ?_; rintro e w9 ⟨Am9, n9, cm9, Al9, q9, cl9, bb9, Ae9, me9, ce9, ie9, rfl, hb9, h9⟩; obtain ⟨g0, g1, gf, e0, e1, e2, ef, n12, n21, l6, l7⟩ := HR.out.cells hb9)
      | fail))
  all_goals
    go_wp2
    refine bodyPost_ret (v := .tuple #[grV Am9 n9 cm9 Al9 q9 cl9, eVal bb9 Ae9 me9 ce9 ie9]) ?_ rfl ?_
    · simp [results, Tryz.results24, go_sem, g0, g1, gf, e0, e1, e2, ef, n12, n21, l6, l7]
    · refine ⟨Am9, n9, cm9, Al9, q9, cl9, bb9, Ae9, me9, ce9, ie9, rfl, ?_⟩
      rw [HSW.out]
      have key : ∀ W9, FarB w w9 W9 b6 b7 → Hid (EIs W9 (eVal bb9 Ae9 me9 ce9 ie9) (doneP ms (withL (but ls (o1, o2)) (p1, p2))).1 ∧ GrOwn w.heap.size W9 Am9 n9 cm9 Al9 q9 cl9 (doneP ms (withL (but ls (o1, o2)) (p1, p2))).2.1 (doneP ms (withL (but ls (o1, o2)) (p1, p2))).2.2 ∧ Below w.heap.size w W9) := fun W9 hf => ⟨hf.e HR.out hb9 h9.out.1, hf.own HR.out hb9 h9.out.2, hf.low⟩
      refine key _ ?_
      (repeat (first | with_reducible exact FarB.refl HR.out hb9 | with_reducible refine FarB.set6 HR.out ?_ _ _ | with_reducible refine FarB.set7 HR.out ?_ _ _ | with_reducible refine FarB.al ?_ _ | with_reducible refine FarB.dr ?_))
end
end Go.Proofs.YtlkfcfcejicdkaaGreatDoor
