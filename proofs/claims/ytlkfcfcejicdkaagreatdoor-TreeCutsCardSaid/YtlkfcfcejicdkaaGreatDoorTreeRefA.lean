/-
  tree: the document's Leave, walked. Printed by gen_treeref.py. Own work.
-/
import Derived.Test.YtlkfcfcejicdkaaGreatDoorTreeRef9
import Derived.Test.YtlkfcfcejicdkaaGreatDoorTreeFails
set_option linter.unusedSimpArgs false
set_option linter.unusedVariables false
namespace Go.Proofs.YtlkfcfcejicdkaaGreatDoor
open Go Go.RowKit

section
variable (Am : Option Addr) (n cm : Nat) (Al : Option Addr) (q cl : Nat) (ms : List Int) (ls : List Lk) (x : Int) (w : World)
set_option maxRecDepth 100000 in
set_option maxHeartbeats 8000000 in
theorem rleave_any (hG : GrAt w Am n Al q ms ls) (hn : n ≤ 1000) (hq : q ≤ 1000) :
    Calls Tryz.prog 31 #[grV Am n cm Al q cl, .int .i64 x] w fun e w' => GivesO w e w' (leaveP ms ls x) := by
  have HG := Lib.hid hG
  have HN : Hid (n ≤ 1000 ∧ q ≤ 1000) := ⟨hn, hq⟩
  clear hG hn hq
  obtain ⟨bg, hbg⟩ : ∃ b, b = w.heap.size := ⟨_, rfl⟩
  obtain ⟨b6, hb6⟩ : ∃ b, b = w.heap.size + 1 := ⟨_, rfl⟩
  obtain ⟨b7, hb7⟩ : ∃ b, b = w.heap.size + 1 + 1 := ⟨_, rfl⟩
  obtain ⟨w1, hw1⟩ : ∃ w1, w1 = ((w.alloc (.cells #[.slice Am n cm, .slice Al q cl] 25)).alloc (.cells #[.slice none 0 0, .slice none 0 0] 25)).alloc (.cells #[.bool false, .slice none 0 0, .int .i64 0] 43) := ⟨_, rfl⟩
  have HA := Lib.hid (alloc3 w (.cells #[.slice Am n cm, .slice Al q cl] 25) (.cells #[.slice none 0 0, .slice none 0 0] 25) (.cells #[.bool false, .slice none 0 0, .int .i64 0] 43))
  rw [← hw1, ← hb7, ← hb6, ← hbg] at HA
  have HR : Hid (KR w w1 b6 b7) := ⟨by rw [← hbg]; exact HA.out.2.2.2.2, HA.out.2.1, HA.out.2.2.1, by have := HA.out.2.2.2.1; omega⟩
  have HBX : Hid (w1.heap[bg]? = some (.cells #[.slice Am n cm, .slice Al q cl] 25 (0, 0)) ∧ bg < b6) := ⟨HA.out.1, by omega⟩
  clear HA
  have HC : Hid (∀ W, Bl w1 W → W.cell? ⟨bg, 0, none⟩ = some (.slice Am n cm) ∧ W.cell? ⟨bg, 1, none⟩ = some (.slice Al q cl)) := fun W hW => by
    have hn := HR.out.n
    obtain ⟨h1, h2⟩ := HBX.out
    obtain ⟨a1, a2, _⟩ := cell2 ((Below.block hW bg (by omega)).trans h1)
    exact ⟨a1, a2⟩
  have HCK := Lib.hid (rcheck_any Am n cm Al q cl ms ls w1 (HG.out.below HR.out.old) (Nat.le_trans HN.out.1 (by decide)) (Nat.le_trans HN.out.2 (by decide)))
  go_enter Tryz.func31, Tryz.ntmps31
  go_wp2_with fail
  rw [← hw1, ← hb7, ← hb6, ← hbg]
  clear hw1 hbg hb6 hb7
  refine HCK.out.mono ?_
  rintro e w2 ⟨v, rfl, HE⟩
  have HB2 : Hid (Bl w1 w2) := HE.out.2
  obtain ⟨b8, hb8⟩ : ∃ b, b = w2.heap.size := ⟨_, rfl⟩
  have HB8 : Hid (w1.heap.size ≤ b8) := by rw [hb8]; exact HB2.out.size
  obtain ⟨n68, n86, n78, n87⟩ : ¬ (b6 = b8) ∧ ¬ (b8 = b6) ∧ ¬ (b7 = b8) ∧ ¬ (b8 = b7) := by
    have := HR.out.n; have := HB8.out
    exact ⟨by omega, by omega, by omega, by omega⟩
  obtain ⟨g0, g1, gf, e0, e1, e2, ef, n12, n21, l6, l7⟩ := HR.out.cells HB2.out
  obtain ⟨c0, c1⟩ := HC.out w2 HB2.out
  have lbg : bg < w2.heap.size := by have := HB2.out.size; have := HBX.out; have := HR.out.n; omega
  have mbg : ¬ (bg = w2.heap.size) := by omega
  have qbg : ¬ (w2.heap.size = bg) := by omega
  rcases err_form HE.out.1 with ⟨hc, rfl⟩ | ⟨hc, A0, m0, c0_1, i0, rfl⟩
  case inr =>
    have HSW : Hid (leaveP ms ls x = (chk ms ls, [], [])) := leaveP_no (by
      unfold leaveE
      cases h : chk ms ls with
      | none => exact absurd h hc
      | some e => rfl) hc
    clear hc HCK
    go_wp2_with fail
    rw [← hb8]
    obtain ⟨w5, hw5⟩ : ∃ w5, w5 = w2.alloc (.cells #[.bool true, .slice A0 m0 c0_1, .int .i64 i0] 43) := ⟨_, rfl⟩
    have HK5 : Hid (KE w1 w5 b8 (.bool true) (.slice A0 m0 c0_1) (.int .i64 i0)) := by rw [hw5]; exact KE.fresh HB2.out hb8
    have HE5 : Hid (EIs w5 (.agg #[.bool true, .slice A0 m0 c0_1, .int .i64 i0]) (chk ms ls)) := by rw [hw5]; exact HE.out.1.below ((Below.refl _ _).alloc (Nat.le_refl _) _)
    rw [← hw5]
    try clear hb8
    clear hw5
    obtain ⟨g0, g1, gf, e0, e1, e2, ef, n12, n21, l6, l7⟩ := HR.out.cells HK5.out.old
    obtain ⟨k0, k1, k2, kf, kl⟩ := cell3 HK5.out.e8
    go_region
    all_goals
      go_wp2
      refine bodyPost_ret (v := .tuple #[grV none 0 0 none 0 0, .agg #[.bool true, .slice A0 m0 c0_1, .int .i64 i0]]) ?_ rfl ?_
      · simp [results, Tryz.results31, go_sem, g0, g1, gf, e0, e1, e2, ef, n12, n21, n68, n86, n78, n87, l6, l7, k0, k1, k2, kf, kl]
      · refine ⟨none, 0, 0, none, 0, 0, _, _, _, _, _, rfl, ?_⟩
        rw [HSW.out]
        have key : ∀ W9, FarB w w5 W9 b6 b7 → Hid (EIs W9 (.agg #[.bool true, .slice A0 m0 c0_1, .int .i64 i0]) (chk ms ls) ∧ GrOwn w.heap.size W9 none 0 0 none 0 0 [] [] ∧ Below w.heap.size w W9) := fun W9 h9 => ⟨h9.e HR.out HK5.out.old HE5.out, GrOwn.nil _ _, h9.low⟩
        refine key _ ?_
        repeat (first | with_reducible exact FarB.refl HR.out HK5.out.old | with_reducible refine FarB.set6 HR.out ?_ _ _ | with_reducible refine FarB.set7 HR.out ?_ _ _ | with_reducible refine FarB.al ?_ _ | with_reducible refine FarB.dr ?_)
  case inl =>
  have HGD := Lib.hid (chk_good hc)
  have HSE0 : Hid (leaveE ms ls x = if x ∉ ms then plainE 12 else if (nears ls x).length ≠ 1 then plainE 14 else none) := by
    unfold leaveE; rw [hc]; rfl
  obtain ⟨nl, hnl⟩ : ∃ nl, Hid ((nears ls x).length = nl) := ⟨_, rfl⟩
  have HNR : Hid (∀ W, KE w1 W b8 (.bool false) (.slice none 0 0) (.int .i64 0) → Calls Tryz.prog 42 #[grV Am n cm Al q cl, .int .i64 x] W fun e w' => ∃ (A : Option Addr) (c : Nat), e = .returned (.slice A nl c) ∧ KE w1 w' b8 (.bool false) (.slice none 0 0) (.int .i64 0)) := fun W hW => by
    have hg := HGD.out
    refine (rnear_any Am n cm Al q cl ls x W HG.out.llen (HG.out.lrow.below (HR.out.old.trans (Below.mono hW.old HR.out.old.size))) HN.out.2 fun k hk => ⟨(hg.ls_.2 k hk).1, hg.ms_.2 _ (hg.ls_.2 k hk).2.1, hg.ms_.2 _ (hg.ls_.2 k hk).2.2⟩).mono ?_
    rintro e w' ⟨A, c, rfl, h⟩
    exact ⟨A, c, by rw [hnl.out], hW.step h.out.2⟩
  have HHX : Hid (∀ x t, decide (x ∈ ms) = t → ∀ W, KE w1 W b8 (.bool false) (.slice none 0 0) (.int .i64 0) → Calls Tryz.prog 16 #[.slice Am n cm, .int .i64 x] W fun e w' => e = .returned (.bool t) ∧ W = w') := fun x t ht W hW => by
    subst ht
    exact (rhas_any Am n cm ms x W HG.out.mlen (HG.out.mrow.below (HR.out.old.trans (Below.mono hW.old HR.out.old.size))) (Nat.le_trans HN.out.1 (by decide))).mono fun _ _ h => ⟨h.1, h.2.symm⟩
  clear hc HE HCK
  by_cases m1 : x ∈ ms
  case neg =>
    have HSW : Hid (leaveP ms ls x = (plainE 12, [], [])) := leaveP_no (by rw [HSE0.out, if_pos m1]) (by simp [plainE])
    have HDA : Hid (decide (x ∈ ms) = false) := decide_eq_false m1
    clear m1 HSE0
    go_wp2_with fail
    obtain ⟨w3, hw3⟩ : ∃ w3, w3 = w2.alloc (.cells #[.bool false, .slice none 0 0, .int .i64 0] 43) := ⟨_, rfl⟩
    have HKc : Hid (KE w1 w3 b8 (.bool false) (.slice none 0 0) (.int .i64 0)) := by rw [hw3]; exact KE.fresh HB2.out hb8
    rw [← hw3, ← hb8]
    clear hw3 hb8
    obtain ⟨g0, g1, gf, e0, e1, e2, ef, n12, n21, l6, l7⟩ := HR.out.cells HKc.out.old; obtain ⟨k0, k1, k2, kf, kl⟩ := cell3 HKc.out.e8; obtain ⟨c0, c1⟩ := HC.out _ HKc.out.old
    (first
      | (go_at_call 34; refine (rn_any 12 _).mono ?_; rintro e w4 ⟨rfl, hb4⟩; have HK4 := Lib.hid ((HKc.out).step hb4); obtain ⟨g0, g1, gf, e0, e1, e2, ef, n12, n21, l6, l7⟩ := HR.out.cells HK4.out.old; obtain ⟨k0, k1, k2, kf, kl⟩ := cell3 HK4.out.e8)
      | (go_at_call 16; refine (HHX.out _ _ HDA.out _ HKc.out).mono ?_; rintro e wx ⟨rfl, rfl⟩)
      | fail)
    go_wp2_with (first
      | (go_at_call 34; refine (rn_any 12 _).mono ?_; rintro e w4 ⟨rfl, hb4⟩; have HK4 := Lib.hid ((HKc.out).step hb4); obtain ⟨g0, g1, gf, e0, e1, e2, ef, n12, n21, l6, l7⟩ := HR.out.cells HK4.out.old; obtain ⟨k0, k1, k2, kf, kl⟩ := cell3 HK4.out.e8)
      | (go_at_call 16; refine (HHX.out _ _ HDA.out _ HKc.out).mono ?_; rintro e wx ⟨rfl, rfl⟩)
      | fail)
    obtain ⟨w5, hw5⟩ : ∃ w5, w5 = ((w4.setCell ⟨b8, 0, none⟩ (.bool true)).setCell ⟨b8, 1, none⟩ (.slice none 0 0)).setCell ⟨b8, 2, none⟩ (.int .i64 12) := ⟨_, rfl⟩
    have HK5 : Hid (KE w1 w5 b8 (.bool true) (.slice none 0 0) (.int .i64 12)) := by rw [hw5]; exact HK4.out.set _ _ _
    have HE5 : Hid (EIs w5 (.agg #[.bool true, .slice none 0 0, .int .i64 12]) (plainE 12)) := by exact rfl
    rw [← hw5]
    try clear hb8
    clear hw5
    obtain ⟨g0, g1, gf, e0, e1, e2, ef, n12, n21, l6, l7⟩ := HR.out.cells HK5.out.old
    obtain ⟨k0, k1, k2, kf, kl⟩ := cell3 HK5.out.e8
    go_region
    all_goals
      go_wp2
      refine bodyPost_ret (v := .tuple #[grV none 0 0 none 0 0, .agg #[.bool true, .slice none 0 0, .int .i64 12]]) ?_ rfl ?_
      · simp [results, Tryz.results31, go_sem, g0, g1, gf, e0, e1, e2, ef, n12, n21, n68, n86, n78, n87, l6, l7, k0, k1, k2, kf, kl]
      · refine ⟨none, 0, 0, none, 0, 0, _, _, _, _, _, rfl, ?_⟩
        rw [HSW.out]
        have key : ∀ W9, FarB w w5 W9 b6 b7 → Hid (EIs W9 (.agg #[.bool true, .slice none 0 0, .int .i64 12]) (plainE 12) ∧ GrOwn w.heap.size W9 none 0 0 none 0 0 [] [] ∧ Below w.heap.size w W9) := fun W9 h9 => ⟨h9.e HR.out HK5.out.old HE5.out, GrOwn.nil _ _, h9.low⟩
        refine key _ ?_
        repeat (first | with_reducible exact FarB.refl HR.out HK5.out.old | with_reducible refine FarB.set6 HR.out ?_ _ _ | with_reducible refine FarB.set7 HR.out ?_ _ _ | with_reducible refine FarB.al ?_ _ | with_reducible refine FarB.dr ?_)
  case pos =>
  have HDA : Hid (decide (x ∈ ms) = true) := decide_eq_true m1
  have HSE : Hid (leaveE ms ls x = if nl ≠ 1 then plainE 14 else none) := by rw [Hid, HSE0.out, if_neg (fun e => e m1), hnl.out]
  have HTST : Hid ((n = 1 ∨ 1 < nl) ↔ nl ≠ 1) := by have := leave_test HGD.out m1; rw [HG.out.mlen, hnl.out] at this; exact this
  clear m1 HSE0
  by_cases m2 : n = 1
  case pos =>
    have HSW : Hid (leaveP ms ls x = (plainE 14, [], [])) := leaveP_no (by rw [HSE.out, if_pos (HTST.out.1 (.inl m2))]) (by simp [plainE])
    have i1 : ((n : Int) == 1) = true := by simp [m2]
    clear m2 HSE HTST
    go_wp2_with fail
    obtain ⟨w3, hw3⟩ : ∃ w3, w3 = w2.alloc (.cells #[.bool false, .slice none 0 0, .int .i64 0] 43) := ⟨_, rfl⟩
    have HKc : Hid (KE w1 w3 b8 (.bool false) (.slice none 0 0) (.int .i64 0)) := by rw [hw3]; exact KE.fresh HB2.out hb8
    rw [← hw3, ← hb8]
    clear hw3 hb8
    obtain ⟨g0, g1, gf, e0, e1, e2, ef, n12, n21, l6, l7⟩ := HR.out.cells HKc.out.old; obtain ⟨k0, k1, k2, kf, kl⟩ := cell3 HKc.out.e8; obtain ⟨c0, c1⟩ := HC.out _ HKc.out.old
    (first
      | (go_at_call 34; refine (rn_any 14 _).mono ?_; rintro e w4 ⟨rfl, hb4⟩; have HK4 := Lib.hid ((HKc.out).step hb4); obtain ⟨g0, g1, gf, e0, e1, e2, ef, n12, n21, l6, l7⟩ := HR.out.cells HK4.out.old; obtain ⟨k0, k1, k2, kf, kl⟩ := cell3 HK4.out.e8)
      | (go_at_call 16; refine (HHX.out _ _ HDA.out _ HKc.out).mono ?_; rintro e wx ⟨rfl, rfl⟩)
      | fail)
    go_wp2_with (first
      | (go_at_call 34; refine (rn_any 14 _).mono ?_; rintro e w4 ⟨rfl, hb4⟩; have HK4 := Lib.hid ((HKc.out).step hb4); obtain ⟨g0, g1, gf, e0, e1, e2, ef, n12, n21, l6, l7⟩ := HR.out.cells HK4.out.old; obtain ⟨k0, k1, k2, kf, kl⟩ := cell3 HK4.out.e8)
      | (go_at_call 16; refine (HHX.out _ _ HDA.out _ HKc.out).mono ?_; rintro e wx ⟨rfl, rfl⟩)
      | fail)
    obtain ⟨w5, hw5⟩ : ∃ w5, w5 = ((w4.setCell ⟨b8, 0, none⟩ (.bool true)).setCell ⟨b8, 1, none⟩ (.slice none 0 0)).setCell ⟨b8, 2, none⟩ (.int .i64 14) := ⟨_, rfl⟩
    have HK5 : Hid (KE w1 w5 b8 (.bool true) (.slice none 0 0) (.int .i64 14)) := by rw [hw5]; exact HK4.out.set _ _ _
    have HE5 : Hid (EIs w5 (.agg #[.bool true, .slice none 0 0, .int .i64 14]) (plainE 14)) := by exact rfl
    rw [← hw5]
    try clear hb8
    clear hw5
    obtain ⟨g0, g1, gf, e0, e1, e2, ef, n12, n21, l6, l7⟩ := HR.out.cells HK5.out.old
    obtain ⟨k0, k1, k2, kf, kl⟩ := cell3 HK5.out.e8
    go_region
    all_goals
      go_wp2
      refine bodyPost_ret (v := .tuple #[grV none 0 0 none 0 0, .agg #[.bool true, .slice none 0 0, .int .i64 14]]) ?_ rfl ?_
      · simp [results, Tryz.results31, go_sem, g0, g1, gf, e0, e1, e2, ef, n12, n21, n68, n86, n78, n87, l6, l7, k0, k1, k2, kf, kl]
      · refine ⟨none, 0, 0, none, 0, 0, _, _, _, _, _, rfl, ?_⟩
        rw [HSW.out]
        have key : ∀ W9, FarB w w5 W9 b6 b7 → Hid (EIs W9 (.agg #[.bool true, .slice none 0 0, .int .i64 14]) (plainE 14) ∧ GrOwn w.heap.size W9 none 0 0 none 0 0 [] [] ∧ Below w.heap.size w W9) := fun W9 h9 => ⟨h9.e HR.out HK5.out.old HE5.out, GrOwn.nil _ _, h9.low⟩
        refine key _ ?_
        repeat (first | with_reducible exact FarB.refl HR.out HK5.out.old | with_reducible refine FarB.set6 HR.out ?_ _ _ | with_reducible refine FarB.set7 HR.out ?_ _ _ | with_reducible refine FarB.al ?_ _ | with_reducible refine FarB.dr ?_)
  case neg =>
  have i1 : ((n : Int) == 1) = false := by simp; omega
  by_cases m3 : 1 < nl
  case pos =>
    have HSW : Hid (leaveP ms ls x = (plainE 14, [], [])) := leaveP_no (by rw [HSE.out, if_pos (HTST.out.1 (.inr m3))]) (by simp [plainE])
    have i2 : (1 : Int) < (nl : Int) := by omega
    clear m2 HSE HTST
    go_wp2_with fail
    obtain ⟨w3, hw3⟩ : ∃ w3, w3 = w2.alloc (.cells #[.bool false, .slice none 0 0, .int .i64 0] 43) := ⟨_, rfl⟩
    have HKc : Hid (KE w1 w3 b8 (.bool false) (.slice none 0 0) (.int .i64 0)) := by rw [hw3]; exact KE.fresh HB2.out hb8
    rw [← hw3, ← hb8]
    clear hw3 hb8
    obtain ⟨g0, g1, gf, e0, e1, e2, ef, n12, n21, l6, l7⟩ := HR.out.cells HKc.out.old; obtain ⟨k0, k1, k2, kf, kl⟩ := cell3 HKc.out.e8; obtain ⟨c0, c1⟩ := HC.out _ HKc.out.old
    (first
      | (go_at_call 34; refine (rn_any 14 _).mono ?_; rintro e w4 ⟨rfl, hb4⟩; have HK4 := Lib.hid ((HKc.out).step hb4); obtain ⟨g0, g1, gf, e0, e1, e2, ef, n12, n21, l6, l7⟩ := HR.out.cells HK4.out.old; obtain ⟨k0, k1, k2, kf, kl⟩ := cell3 HK4.out.e8)
      | (go_at_call 16; refine (HHX.out _ _ HDA.out _ HKc.out).mono ?_; rintro e wx ⟨rfl, rfl⟩)
      | (go_at_call 42; refine (HNR.out _ HKc.out).mono ?_; rintro e wx ⟨An, cn0, rfl, hk⟩; have HKc := Lib.hid hk; obtain ⟨g0, g1, gf, e0, e1, e2, ef, n12, n21, l6, l7⟩ := HR.out.cells HKc.out.old; obtain ⟨k0, k1, k2, kf, kl⟩ := cell3 HKc.out.e8; obtain ⟨c0, c1⟩ := HC.out _ HKc.out.old)
      | fail)
    go_wp2_with (first
      | (go_at_call 34; refine (rn_any 14 _).mono ?_; rintro e w4 ⟨rfl, hb4⟩; have HK4 := Lib.hid ((HKc.out).step hb4); obtain ⟨g0, g1, gf, e0, e1, e2, ef, n12, n21, l6, l7⟩ := HR.out.cells HK4.out.old; obtain ⟨k0, k1, k2, kf, kl⟩ := cell3 HK4.out.e8)
      | (go_at_call 16; refine (HHX.out _ _ HDA.out _ HKc.out).mono ?_; rintro e wx ⟨rfl, rfl⟩)
      | (go_at_call 42; refine (HNR.out _ HKc.out).mono ?_; rintro e wx ⟨An, cn0, rfl, hk⟩; have HKc := Lib.hid hk; obtain ⟨g0, g1, gf, e0, e1, e2, ef, n12, n21, l6, l7⟩ := HR.out.cells HKc.out.old; obtain ⟨k0, k1, k2, kf, kl⟩ := cell3 HKc.out.e8; obtain ⟨c0, c1⟩ := HC.out _ HKc.out.old)
      | fail)
    obtain ⟨w5, hw5⟩ : ∃ w5, w5 = ((w4.setCell ⟨b8, 0, none⟩ (.bool true)).setCell ⟨b8, 1, none⟩ (.slice none 0 0)).setCell ⟨b8, 2, none⟩ (.int .i64 14) := ⟨_, rfl⟩
    have HK5 : Hid (KE w1 w5 b8 (.bool true) (.slice none 0 0) (.int .i64 14)) := by rw [hw5]; exact HK4.out.set _ _ _
    have HE5 : Hid (EIs w5 (.agg #[.bool true, .slice none 0 0, .int .i64 14]) (plainE 14)) := by exact rfl
    rw [← hw5]
    try clear hb8
    clear hw5
    obtain ⟨g0, g1, gf, e0, e1, e2, ef, n12, n21, l6, l7⟩ := HR.out.cells HK5.out.old
    obtain ⟨k0, k1, k2, kf, kl⟩ := cell3 HK5.out.e8
    go_region
    all_goals
      go_wp2
      refine bodyPost_ret (v := .tuple #[grV none 0 0 none 0 0, .agg #[.bool true, .slice none 0 0, .int .i64 14]]) ?_ rfl ?_
      · simp [results, Tryz.results31, go_sem, g0, g1, gf, e0, e1, e2, ef, n12, n21, n68, n86, n78, n87, l6, l7, k0, k1, k2, kf, kl]
      · refine ⟨none, 0, 0, none, 0, 0, _, _, _, _, _, rfl, ?_⟩
        rw [HSW.out]
        have key : ∀ W9, FarB w w5 W9 b6 b7 → Hid (EIs W9 (.agg #[.bool true, .slice none 0 0, .int .i64 14]) (plainE 14) ∧ GrOwn w.heap.size W9 none 0 0 none 0 0 [] [] ∧ Below w.heap.size w W9) := fun W9 h9 => ⟨h9.e HR.out HK5.out.old HE5.out, GrOwn.nil _ _, h9.low⟩
        refine key _ ?_
        repeat (first | with_reducible exact FarB.refl HR.out HK5.out.old | with_reducible refine FarB.set6 HR.out ?_ _ _ | with_reducible refine FarB.set7 HR.out ?_ _ _ | with_reducible refine FarB.al ?_ _ | with_reducible refine FarB.dr ?_)
  case neg =>
  have i2 : (nl : Int) ≤ 1 := by omega
  have hn1 : nl = 1 := Classical.byContradiction fun e => by
    have := HTST.out.2 e
    omega
  obtain ⟨y, hy⟩ : ∃ y, Hid (nears ls x = [y]) := by
    have h1 := hnl.out
    rw [hn1] at h1
    match hl : nears ls x, h1 with
    | [y], _ => exact ⟨y, rfl⟩
  obtain ⟨z1, hz1⟩ : ∃ k1, Hid (min x y = k1) := ⟨_, rfl⟩
  obtain ⟨z2, hz2⟩ : ∃ k2, Hid (max x y = k2) := ⟨_, rfl⟩
  have HOL : Hid (ofL x y = (z1, z2)) := by unfold ofL; rw [hz1.out, hz2.out]; exact rfl
  have HSW : Hid (leaveP ms ls x = doneP (butI ms x) (but ls (z1, z2))) := by
    rw [Hid, ← HOL.out]
    have := leaveP_ok (ms := ms) (ls := ls) (x := x) (by rw [HSE.out, if_neg (fun e => e hn1)])
    rw [this, hy.out]; rfl
  have HN1 : Hid (nl = 1) := hn1
  clear m2 m3 HSE HTST hn1
  obtain ⟨nb, hnb⟩ : ∃ nb, Hid ((butI ms x).length = nb) := ⟨_, rfl⟩
  have HLEN : Hid ((butI ms x).length = nb ∧ nb ≤ 1000) := ⟨hnb.out, by rw [← hnb.out]; exact Nat.le_trans (List.length_filter_le _ _) (by rw [HG.out.mlen]; exact HN.out.1)⟩
  have HRM : Hid (∀ W, Bl w1 W → RowAt W Am (intVs ms)) := fun W hW => HG.out.mrow.below (HR.out.old.trans (Below.mono hW HR.out.old.size))
  have HNE : Hid (∀ W, Bl w1 W → Calls Tryz.prog 42 #[grV Am n cm Al q cl, .int .i64 x] W fun e w' => ∃ (gy oy c : Nat), e = .returned (.slice (some ⟨gy, oy, none⟩) 1 c) ∧ Bl w1 w' ∧ w'.cell? ⟨gy, oy, none⟩ = some (.int .i64 y) ∧ ∀ base e s n v xs, W.ownsRow base e s n v xs → w'.ownsRow base e s n v xs) := fun W hW => by
    have hg := HGD.out
    refine (rnear_any Am n cm Al q cl ls x W HG.out.llen (HG.out.lrow.below (HR.out.old.trans (Below.mono hW HR.out.old.size))) HN.out.2 fun k hk => ⟨(hg.ls_.2 k hk).1, hg.ms_.2 _ (hg.ls_.2 k hk).2.1, hg.ms_.2 _ (hg.ls_.2 k hk).2.2⟩).mono ?_
    rintro e w' ⟨A, c, rfl, h⟩
    rw [hy.out] at h
    obtain ⟨g, off, rfl, h0, _⟩ := h.out.1.int (i := 0) rfl
    rw [hy.out]
    exact ⟨g, off, c, rfl, bchain hW h.out.2, h0, fun _ _ _ _ _ _ ho => ownsRow_below ho h.out.2⟩
  have HOF : Hid (∀ W, Bl w1 W → Calls Tryz.prog 14 #[.int .i64 x, .int .i64 y] W fun e w' => e = .returned (.agg #[.int .i64 z1, .int .i64 z2]) ∧ Bl w1 w' ∧ ∀ base e s n v xs, W.ownsRow base e s n v xs → w'.ownsRow base e s n v xs) := fun W hW => by
    refine (rof_any x y W).mono ?_
    rintro e w' ⟨rfl, hb⟩
    rw [hz1.out, hz2.out]
    exact ⟨rfl, bchain hW hb, fun _ _ _ _ _ _ ho => ownsRow_below ho hb⟩
  have HWO : Hid (∀ W, Bl w1 W → Calls Tryz.prog 54 #[.slice Al q cl, .agg #[.int .i64 z1, .int .i64 z2]] W fun e w' => ∃ (A' : Option Addr) (m c' : Nat), e = .returned (.slice A' m c') ∧ Bl w1 w' ∧ Hid (w'.ownsRow w.heap.size 35 2 (.slice A' m c') m (lkCells (but ls (z1, z2))) ∧ (but ls (z1, z2)).length = m ∧ m ≤ 1000) ∧ ∀ base e s n v xs, W.ownsRow base e s n v xs → w'.ownsRow base e s n v xs) := fun W hW => by
    refine (rwithout_any Al q cl ls W z1 z2 HG.out.llen (HG.out.lrow.below (HR.out.old.trans (Below.mono hW HR.out.old.size))) HN.out.2).mono ?_
    rintro e w' ⟨A', m, c', rfl, h⟩
    refine ⟨A', m, c', rfl, bchain hW h.out.2.2, ⟨ownsRow_mono h.out.2.1 (Nat.le_trans HR.out.old.size hW.size), h.out.1, ?_⟩, fun _ _ _ _ _ _ ho => ownsRow_below ho h.out.2.2⟩
    rw [← h.out.1]
    exact Nat.le_trans (List.length_filter_le _ _) (by rw [HG.out.llen]; exact HN.out.2)
  have HDN : Hid (∀ (A1 : Option Addr) (c1 : Nat) (A : Option Addr) (m c : Nat) W, Bl w1 W → W.ownsRow w.heap.size 3 1 (.slice A1 (nb) c1) (nb) (intVs (butI ms x)) → Hid (W.ownsRow w.heap.size 35 2 (.slice A m c) m (lkCells (but ls (z1, z2))) ∧ (but ls (z1, z2)).length = m ∧ m ≤ 1000) → Calls Tryz.prog 52 #[.agg #[.slice A1 (nb) c1, .slice A m c]] W fun e w' => ∃ (Am' : Option Addr) (n' cm' : Nat) (Al' : Option Addr) (q' cl' : Nat) (bb : Bool) (Ae : Option Addr) (me ce : Nat) (ie : Int), e = .returned (.tuple #[grV Am' n' cm' Al' q' cl', eVal bb Ae me ce ie]) ∧ Bl w1 w' ∧ Hid (EIs w' (eVal bb Ae me ce ie) (doneP (butI ms x) (but ls (z1, z2))).1 ∧ GrOwn w.heap.size w' Am' n' cm' Al' q' cl' (doneP (butI ms x) (but ls (z1, z2))).2.1 (doneP (butI ms x) (but ls (z1, z2))).2.2)) := fun A1 c1 A m c W hW h1 h2 => by
    refine (rdone_any A1 (nb) c1 A m c (butI ms x) (but ls (z1, z2)) w.heap.size W ⟨HLEN.out.1, h2.out.2.1, h1, h2.out.1⟩ HLEN.out.2 h2.out.2.2).mono ?_
    rintro e w' ⟨Am', n', cm', Al', q', cl', bb, Ae, me, ce, ie, rfl, h⟩
    exact ⟨Am', n', cm', Al', q', cl', bb, Ae, me, ce, ie, rfl, bchain hW h.out.2.2, h.out.1, h.out.2.1⟩
  have HCS : Hid (∀ W W', Bl w1 W → FarB w W W' b6 b7 → (W'.cell? ⟨bg, 0, none⟩ = some (.slice Am n cm) ∧ W'.cell? ⟨bg, 1, none⟩ = some (.slice Al q cl))) := fun W W' hW hf => by
    have hn := HR.out.n
    have hs := Below.size hW
    obtain ⟨h1, h2⟩ := HBX.out
    obtain ⟨a1, a2, _⟩ := cell2 ((hf.keep bg (by omega) (by omega) (by omega)).trans ((Below.block hW bg (by omega)).trans h1))
    exact ⟨a1, a2⟩
  go_wp2_with fail
  obtain ⟨w3, hw3⟩ : ∃ w3, w3 = w2.alloc (.cells #[.bool false, .slice none 0 0, .int .i64 0] 43) := ⟨_, rfl⟩
  have HKc : Hid (KE w1 w3 b8 (.bool false) (.slice none 0 0) (.int .i64 0)) := by rw [hw3]; exact KE.fresh HB2.out hb8
  rw [← hw3, ← hb8]
  clear hw3 hb8
  obtain ⟨g0, g1, gf, e0, e1, e2, ef, n12, n21, l6, l7⟩ := HR.out.cells HKc.out.old; obtain ⟨k0, k1, k2, kf, kl⟩ := cell3 HKc.out.e8; obtain ⟨c0, c1⟩ := HC.out _ HKc.out.old
  (go_at_call 16; refine (HHX.out _ _ HDA.out _ HKc.out).mono ?_; rintro e wx ⟨rfl, rfl⟩)
  go_wp2_with (first
    | (go_at_call 16; refine (HHX.out _ _ HDA.out _ HKc.out).mono ?_; rintro e wx ⟨rfl, rfl⟩)
    | (go_at_call 42; refine (HNR.out _ HKc.out).mono ?_; rintro e wx ⟨An, cn0, rfl, hk⟩; have HKc := Lib.hid hk; obtain ⟨g0, g1, gf, e0, e1, e2, ef, n12, n21, l6, l7⟩ := HR.out.cells HKc.out.old; obtain ⟨k0, k1, k2, kf, kl⟩ := cell3 HKc.out.e8; obtain ⟨c0, c1⟩ := HC.out _ HKc.out.old)
    | fail)
  have hbl0 : Bl w1 wx := HKc.out.old
  obtain ⟨iI, hI, hI0, hI1, hI2⟩ := info_parts int_info
  clear HHX HDA HNR hz1 hz2 i1 i2
  go_loopw [7, 42] (fun s i wr => ∃ (j m : Nat) (A5 : Option Addr) (c5 : Nat), j ≤ n ∧ i = .int .i64 j ∧ s = .slice A5 m c5 ∧ Hid (m ≤ j ∧ (butI (ms.take j) x).length = m ∧ wr.ownsRow w1.heap.size 3 1 (.slice A5 m c5) m (intVs (butI (ms.take j) x)) ∧ Bl w1 wr)) (fun _ i _ => n - (intOf i).toNat)
  case atStart => exact ⟨0, 0, none, 0, Nat.zero_le _, rfl, rfl, Nat.le_refl _, by simp [butI], by simpa [butI, intVs] using World.ownsRow_nil _ _ _ _, hbl0⟩
  case round =>
    obtain ⟨j, m, A5, c5, hj, rfl, rfl, HL⟩ := hrel
    clear g0 g1 gf e0 e1 e2 ef l6 l7 k0 k1 k2 kf kl c0 c1
    by_cases hlt : j < n
    · obtain ⟨u, hu⟩ : ∃ u, Hid (ms[j]? = some u) := ⟨_, List.getElem?_eq_getElem (by have := HG.out.mlen; omega)⟩
      obtain ⟨g, off, rfl, x0, hg⟩ := (HRM.out _ HL.out.2.2.2).int hu.out
      have hsn := Lib.hid (butI_snoc (k := x) hu.out)
      have hw1 : IntKind.i64.wrap ((j : Int) + 1) = ((j + 1 : Nat) : Int) := by have := HN.out; rw [IntKind.wrap_i64]; omega
      have hj0 : ((0 : Int) ≤ j) := by omega
      have hj1 : ((j : Nat) : Int) < n := by omega
      have hm1 : Hid (m + 1 ≤ maxLen) := Nat.le_trans (show m + 1 ≤ 1002 by have := HN.out; have := HL.out.1; clear hw1; omega) (by decide)
      have hb1 : Hid ((m + 1) * 8 ≤ 140737488355328) := by have := HN.out; have := HL.out.1; clear hw1; simp only [Hid]; omega
      have hzz : Hid (∀ o1, w1.heap.size ≤ (wr.alloc o1).heap.size) := fun o1 => Nat.le_trans (Below.size HL.out.2.2.2) (by simp)
      have HA1 : Hid (∀ o, Bl w1 (wr.alloc o)) := fun o => HL.out.2.2.2.al o
      have HO1 : Hid (∀ o1, (wr.alloc o1).ownsRow w1.heap.size 3 1 (.slice A5 m c5) m (intVs (butI (ms.take j) x))) := fun o1 => HL.out.2.2.1.alloc o1
      by_cases e3 : u = x
      · have hne : (u != x) = false := by simp [e3]
        have HE3 : Hid (butI (ms.take (j + 1)) x = butI (ms.take j) x) := by rw [Hid, hsn.out, if_pos e3, List.append_nil]
        clear e3 hsn
        go_wp2
        exact ⟨⟨j + 1, m, A5, c5, hlt, by go_num, rfl, by have := HL.out.1; omega, by rw [HE3.out]; exact HL.out.2.1, by rw [HE3.out]; exact HL.out.2.2.1, HL.out.2.2.2⟩, by simp [intOf]; omega⟩
      · have hne : (u != x) = true := by simp [e3]
        have HE3 : Hid (butI (ms.take (j + 1)) x = butI (ms.take j) x ++ [u]) := by rw [Hid, hsn.out, if_neg e3]
        clear e3 hsn
        go_wp2_with (at_builtin; refine wpList_append_own _ rfl _ _ 22 rfl w1.heap.size 3 iI (.int .i64 0) 1 8 Tryz.underlying22 hI hI0 hI1 hI2 rfl (by decide) (.slice A5 m c5) m _ rfl (HO1.out _) ⟨wr.heap.size, 0, none⟩ 1 1 [.int .i64 u] rfl rfl (new1 _ _ _ _ (by simp)) (by simp [Value.oneCell']) hm1.out hb1.out (hzz.out _) ?_; intro v' w5 hown5 hgrow5 hnil5)
        obtain ⟨A8, c8, rfl⟩ := own_slice hown5
        exact ⟨⟨j + 1, m + 1, A8, c8, hlt, by go_num, rfl, by have := HL.out.1; omega, by rw [HE3.out, List.length_append, HL.out.2.1]; rfl, by rw [HE3.out, intVs_append]; exact hown5, below_push (HA1.out _) (HO1.out _) (hzz.out _) hgrow5⟩, by simp [intOf]; omega⟩
    · have hjn : j = n := by omega
      subst hjn
      have hall : ms.take j = ms := by rw [← HG.out.mlen]; exact List.take_length
      rw [hall] at HL
      obtain rfl : m = nb := by rw [← HL.out.2.1, hnb.out]
      have hbl : Bl w1 wr := HL.out.2.2.2
      have hrm : wr.ownsRow w.heap.size 3 1 (.slice A5 m c5) m (intVs (butI ms x)) := ownsRow_mono HL.out.2.2.1 HR.out.old.size
      obtain ⟨g0, g1, gf, e0, e1, e2, ef, n12, n21, l6, l7⟩ := HR.out.cells hbl
      obtain ⟨c0, c1⟩ := HC.out wr hbl
      clear hall hlt hj
      go_wp2_with fail
      (go_region_with (first
          | (go_at_call 42; refine (HNE.out _ (by first | (with_reducible refine Bl.dr ?_; (first | with_reducible assumption | (with_reducible refine Bl.al ?_ _; first | with_reducible assumption | (with_reducible refine Bl.al ?_ _; first | with_reducible assumption | (with_reducible refine Bl.al ?_ _; with_reducible assumption))))) | (first | with_reducible assumption | (with_reducible refine Bl.al ?_ _; first | with_reducible assumption | (with_reducible refine Bl.al ?_ _; first | with_reducible assumption | (with_reducible refine Bl.al ?_ _; with_reducible assumption)))))).mono ?_; rintro e w6 ⟨gy, oy, cy, rfl, hb6x, hy6, hc6⟩; have hr6 := hc6 _ _ _ _ _ _ (by first | exact hrm | exact own_dr hrm); obtain ⟨c0, c1⟩ := HC.out _ hb6x)
          | (go_at_call 14; refine (HOF.out _ (by with_reducible assumption)).mono ?_; rintro e w7 ⟨rfl, hb7x, hc7⟩; have hr7 := hc7 _ _ _ _ _ _ hr6; obtain ⟨c0, c1⟩ := HC.out _ hb7x)
          | (go_at_call 54; refine (HWO.out _ (by with_reducible assumption)).mono ?_; rintro e w8 ⟨A8, m8, d8, rfl, hb8x, h8, hc8⟩; have hr8 := hc8 _ _ _ _ _ _ hr7; obtain ⟨c0, c1⟩ := HC.out _ hb8x)
          | (go_at_call 52; refine (HDN.out _ _ _ _ _ _ (by with_reducible assumption) hr8 h8).mono ?_; rintro e w9 ⟨Am9, n9, cm9, Al9, q9, cl9, bb9, Ae9, me9, ce9, ie9, rfl, hb9, h9⟩; obtain ⟨g0, g1, gf, e0, e1, e2, ef, n12, n21, l6, l7⟩ := HR.out.cells hb9)
          | fail))
      all_goals
        go_wp2
        refine bodyPost_ret (v := .tuple #[grV Am9 n9 cm9 Al9 q9 cl9, eVal bb9 Ae9 me9 ce9 ie9]) ?_ rfl ?_
        · simp [results, Tryz.results31, go_sem, g0, g1, gf, e0, e1, e2, ef, n12, n21, l6, l7]
        · refine ⟨Am9, n9, cm9, Al9, q9, cl9, bb9, Ae9, me9, ce9, ie9, rfl, ?_⟩
          rw [HSW.out]
          have key : ∀ W9, FarB w w9 W9 b6 b7 → Hid (EIs W9 (eVal bb9 Ae9 me9 ce9 ie9) (doneP (butI ms x) (but ls (z1, z2))).1 ∧ GrOwn w.heap.size W9 Am9 n9 cm9 Al9 q9 cl9 (doneP (butI ms x) (but ls (z1, z2))).2.1 (doneP (butI ms x) (but ls (z1, z2))).2.2 ∧ Below w.heap.size w W9) := fun W9 hf => ⟨hf.e HR.out hb9 h9.out.1, hf.own HR.out hb9 h9.out.2, hf.low⟩
          refine key _ ?_
          (repeat (first | with_reducible exact FarB.refl HR.out hb9 | with_reducible refine FarB.set6 HR.out ?_ _ _ | with_reducible refine FarB.set7 HR.out ?_ _ _ | with_reducible refine FarB.al ?_ _ | with_reducible refine FarB.dr ?_))
end
end Go.Proofs.YtlkfcfcejicdkaaGreatDoor
