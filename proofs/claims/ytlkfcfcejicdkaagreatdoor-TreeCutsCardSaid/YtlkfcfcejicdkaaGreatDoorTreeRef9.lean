/-
  tree: the document's Join, walked. Printed by gen_treeref.py. Own work.
-/
import Derived.Test.YtlkfcfcejicdkaaGreatDoorTreeRef8
import Derived.Test.YtlkfcfcejicdkaaGreatDoorTreeFails
set_option linter.unusedSimpArgs false
set_option linter.unusedVariables false
namespace Go.Proofs.YtlkfcfcejicdkaaGreatDoor
open Go Go.RowKit

/-- A literal of one number in a block of its own. -/
def Lit1 (W0 W : World) (B : Nat) (x : Int) : Prop := W.heap[B]? = some (.cells #[.int .i64 x] 3 (0, 0)) ∧ W0.heap.size ≤ B
theorem Lit1.new {W0 W : World} {B : Nat} {x : Int} (h : Bl W0 W) (hB : B = W.heap.size) : Lit1 W0 (W.alloc (.cells #[.int .i64 x] 3)) B x := by
  subst hB
  exact ⟨heap_alloc_new _ _, h.size⟩
theorem Lit1.dr {W0 W : World} {B : Nat} {x : Int} (h : Lit1 W0 W B x) : Lit1 W0 W.drew B x := h
theorem Lit1.own {W0 W : World} {B : Nat} {x : Int} (h : Lit1 W0 W B x) : W.ownsRow W0.heap.size 3 1 (.slice (some ⟨B, 0, none⟩) 1 1) 1 [.int .i64 x] :=
  ⟨by simp, .inr ⟨B, 1, #[.int .i64 x], rfl, h.2, h.1, Nat.le_refl _, by decide, rfl, rfl⟩⟩
/-- An append to it. -/
theorem step_lit1 {W0 : World} {w : World} {ops : Array Oper} {o : Oper} {a : Act} {K : Act → World → Prop} {Q : Exit → Act → World → Prop} {E : Prop} (hgd : o.guard = none) (s x : Operand)
    (ho : o.op = .call { callee := .builtin .append, args := #[s, x], argTypes := #[22, 22] })
    (B : Nat) (k : Int) (hs : a.eval s = .slice (some ⟨B, 0, none⟩) 1 1) (A : Option Addr) (m c : Nat) (hx : a.eval x = .slice A m c) (hlit : Lit1 W0 w B k) (l : List Int) (hl : l.length = m) (hrow : RowAt w A (intVs l))
    (hm : m ≤ 1000) (hb : Bl W0 w)
    (h : ∀ A' c' w', w'.ownsRow W0.heap.size 3 1 (.slice A' (1 + m) c') (1 + m) (intVs (k :: l)) → Bl W0 w' → K (a.put o.dst (.slice A' (1 + m) c')) w') :
    if Region.wanted o (yielded ops a.tmps) = true then Oper.wp Tryz.prog o a w K Q else E := by
  obtain ⟨i, hi, h0, h1, h2⟩ := info_parts int_info
  refine step_append_any w hgd s x 22 ho W0.heap.size 3 i (.int .i64 0) 1 8 Tryz.underlying22 hi h0 h1 h2 rfl (by decide) _ 1 [.int .i64 k] hs hlit.own A m c (intVs l) hx (fun hA => ?_) (by rw [intVs_len, hl, Nat.mul_one]) (hrow.newsA) (intVs_one l) (Nat.le_trans (show 1 + m ≤ 1001 by omega) (by decide)) (by omega) hb.size ?_
  · have hn := hrow.nil_len hA
    have := congrArg List.length hn
    rw [intVs_len, hl] at this
    exact ⟨this, hn⟩
  · intro v' w' hown hg
    obtain ⟨A', c', rfl⟩ := own_slice hown
    refine h A' c' w' hown (Below.grown hb hg hb.size fun j hj => ?_)
    obtain rfl : B = j := Option.some.inj hj
    exact hlit.2

section
variable (Am : Option Addr) (n cm : Nat) (Al : Option Addr) (q cl : Nat) (ms : List Int) (ls : List Lk) (x a : Int) (w : World)
set_option maxRecDepth 100000 in
set_option maxHeartbeats 8000000 in
theorem rjoin_any (hG : GrAt w Am n Al q ms ls) (hn : n ≤ 1000) (hq : q ≤ 1000) :
    Calls Tryz.prog 29 #[grV Am n cm Al q cl, .int .i64 x, .int .i64 a] w fun e w' => GivesO w e w' (joinP ms ls x a) := by
  have HG := Lib.hid hG
  have HN : Hid (n ≤ 1000 ∧ q ≤ 1000) := ⟨hn, hq⟩
  clear hG hn hq
  obtain ⟨bg, hbg⟩ : ∃ b, b = w.heap.size := ⟨_, rfl⟩
  obtain ⟨b6, hb6⟩ : ∃ b, b = w.heap.size + 1 := ⟨_, rfl⟩
  obtain ⟨b7, hb7⟩ : ∃ b, b = w.heap.size + 1 + 1 := ⟨_, rfl⟩
  obtain ⟨w1, hw1⟩ : ∃ w1, w1 = ((w.alloc (.cells #[.slice Am n cm, .slice Al q cl] 25)).alloc (.cells #[.slice none 0 0, .slice none 0 0] 25)).alloc (.cells #[.bool false, .slice none 0 0, .int .i64 0] 43) := ⟨_, rfl⟩
  have HA := Lib.hid (alloc3 w (.cells #[.slice Am n cm, .slice Al q cl] 25) (.cells #[.slice none 0 0, .slice none 0 0] 25) (.cells #[.bool false, .slice none 0 0, .int .i64 0] 43))
  rw [← hw1, ← hb7, ← hb6, ← hbg] at HA
  have HR : Hid (KR w w1 b6 b7) := ⟨by rw [← hbg]; exact HA.out.2.2.2.2, HA.out.2.1, HA.out.2.2.1, by have := HA.out.2.2.2.1; omega⟩
  have HBX : Hid (w1.heap[bg]? = some (.cells #[.slice Am n cm, .slice Al q cl] 25 (0, 0)) ∧ bg < b6) := ⟨HA.out.1, by omega⟩
  clear HA
  have HC : Hid (∀ W, Bl w1 W → W.cell? ⟨bg, 0, none⟩ = some (.slice Am n cm) ∧ W.cell? ⟨bg, 1, none⟩ = some (.slice Al q cl)) := fun W hW => by
    have hn := HR.out.n
    obtain ⟨h1, h2⟩ := HBX.out
    obtain ⟨a1, a2, _⟩ := cell2 ((Below.block hW bg (by omega)).trans h1)
    exact ⟨a1, a2⟩
  have HCK := Lib.hid (rcheck_any Am n cm Al q cl ms ls w1 (HG.out.below HR.out.old) (Nat.le_trans HN.out.1 (by decide)) (Nat.le_trans HN.out.2 (by decide)))
  go_enter Tryz.func29, Tryz.ntmps29
  go_wp2_with fail
  rw [← hw1, ← hb7, ← hb6, ← hbg]
  clear hw1 hbg hb6 hb7
  refine HCK.out.mono ?_
  rintro e w2 ⟨v, rfl, HE⟩
  have HB2 : Hid (Bl w1 w2) := HE.out.2
  obtain ⟨b8, hb8⟩ : ∃ b, b = w2.heap.size := ⟨_, rfl⟩
  have HB8 : Hid (w1.heap.size ≤ b8) := by rw [hb8]; exact HB2.out.size
  obtain ⟨n68, n86, n78, n87⟩ : ¬ (b6 = b8) ∧ ¬ (b8 = b6) ∧ ¬ (b7 = b8) ∧ ¬ (b8 = b7) := by
    have := HR.out.n; have := HB8.out
    exact ⟨by omega, by omega, by omega, by omega⟩
  obtain ⟨g0, g1, gf, e0, e1, e2, ef, n12, n21, l6, l7⟩ := HR.out.cells HB2.out
  obtain ⟨c0, c1⟩ := HC.out w2 HB2.out
  have lbg : bg < w2.heap.size := by have := HB2.out.size; have := HBX.out; have := HR.out.n; omega
  have mbg : ¬ (bg = w2.heap.size) := by omega
  have qbg : ¬ (w2.heap.size = bg) := by omega
  rcases err_form HE.out.1 with ⟨hc, rfl⟩ | ⟨hc, A0, m0, c0_1, i0, rfl⟩
  case inr =>
    have HSW : Hid (joinP ms ls x a = (chk ms ls, [], [])) := joinP_no (by
      unfold joinE
      cases h : chk ms ls with
      | none => exact absurd h hc
      | some e => rfl) hc
    clear hc HCK
    go_wp2_with fail
    rw [← hb8]
    obtain ⟨w5, hw5⟩ : ∃ w5, w5 = w2.alloc (.cells #[.bool true, .slice A0 m0 c0_1, .int .i64 i0] 43) := ⟨_, rfl⟩
    have HK5 : Hid (KE w1 w5 b8 (.bool true) (.slice A0 m0 c0_1) (.int .i64 i0)) := by rw [hw5]; exact KE.fresh HB2.out hb8
    have HE5 : Hid (EIs w5 (.agg #[.bool true, .slice A0 m0 c0_1, .int .i64 i0]) (chk ms ls)) := by rw [hw5]; exact HE.out.1.below ((Below.refl _ _).alloc (Nat.le_refl _) _)
    rw [← hw5]
    try clear hb8
    clear hw5
    obtain ⟨g0, g1, gf, e0, e1, e2, ef, n12, n21, l6, l7⟩ := HR.out.cells HK5.out.old
    obtain ⟨k0, k1, k2, kf, kl⟩ := cell3 HK5.out.e8
    go_region
    all_goals
      go_wp2
      refine bodyPost_ret (v := .tuple #[grV none 0 0 none 0 0, .agg #[.bool true, .slice A0 m0 c0_1, .int .i64 i0]]) ?_ rfl ?_
      · simp [results, Tryz.results29, go_sem, g0, g1, gf, e0, e1, e2, ef, n12, n21, n68, n86, n78, n87, l6, l7, k0, k1, k2, kf, kl]
      · refine ⟨none, 0, 0, none, 0, 0, _, _, _, _, _, rfl, ?_⟩
        rw [HSW.out]
        have key : ∀ W9, FarB w w5 W9 b6 b7 → Hid (EIs W9 (.agg #[.bool true, .slice A0 m0 c0_1, .int .i64 i0]) (chk ms ls) ∧ GrOwn w.heap.size W9 none 0 0 none 0 0 [] [] ∧ Below w.heap.size w W9) := fun W9 h9 => ⟨h9.e HR.out HK5.out.old HE5.out, GrOwn.nil _ _, h9.low⟩
        refine key _ ?_
        repeat (first | with_reducible exact FarB.refl HR.out HK5.out.old | with_reducible refine FarB.set6 HR.out ?_ _ _ | with_reducible refine FarB.set7 HR.out ?_ _ _ | with_reducible refine FarB.al ?_ _ | with_reducible refine FarB.dr ?_)
  case inl =>
  have HSE : Hid (joinE ms ls x a = if x < 0 ∨ 8 ≤ x then plainE 1 else if x ∈ ms then plainE 9 else if a ∉ ms then plainE 12 else none) := by
    unfold joinE; rw [hc]; rfl
  have HGD := Lib.hid (chk_good hc)
  have HHX : Hid (∀ x t, decide (x ∈ ms) = t → ∀ W, KE w1 W b8 (.bool false) (.slice none 0 0) (.int .i64 0) → Calls Tryz.prog 16 #[.slice Am n cm, .int .i64 x] W fun e w' => e = .returned (.bool t) ∧ W = w') := fun x t ht W hW => by
    subst ht
    exact (rhas_any Am n cm ms x W HG.out.mlen (HG.out.mrow.below (HR.out.old.trans (Below.mono hW.old HR.out.old.size))) (Nat.le_trans HN.out.1 (by decide))).mono fun _ _ h => ⟨h.1, h.2.symm⟩
  clear hc HE HCK
  by_cases a1 : x < 0
  · have HSW : Hid (joinP ms ls x a = (plainE 1, [], [])) := joinP_no (by rw [HSE.out, if_pos (.inl a1)]) (by simp [plainE])
    go_wp2_with fail
    obtain ⟨w3, hw3⟩ : ∃ w3, w3 = w2.alloc (.cells #[.bool false, .slice none 0 0, .int .i64 0] 43) := ⟨_, rfl⟩
    have HKc : Hid (KE w1 w3 b8 (.bool false) (.slice none 0 0) (.int .i64 0)) := by rw [hw3]; exact KE.fresh HB2.out hb8
    rw [← hw3, ← hb8]
    clear hw3 hb8
    obtain ⟨g0, g1, gf, e0, e1, e2, ef, n12, n21, l6, l7⟩ := HR.out.cells HKc.out.old; obtain ⟨k0, k1, k2, kf, kl⟩ := cell3 HKc.out.e8; obtain ⟨c0, c1⟩ := HC.out _ HKc.out.old
    (first
      | (go_at_call 34; refine (rn_any 1 _).mono ?_; rintro e w4 ⟨rfl, hb4⟩; have HK4 := Lib.hid ((HKc.out).step hb4); obtain ⟨g0, g1, gf, e0, e1, e2, ef, n12, n21, l6, l7⟩ := HR.out.cells HK4.out.old; obtain ⟨k0, k1, k2, kf, kl⟩ := cell3 HK4.out.e8)
      | fail)
    go_wp2_with (first
      | (go_at_call 34; refine (rn_any 1 _).mono ?_; rintro e w4 ⟨rfl, hb4⟩; have HK4 := Lib.hid ((HKc.out).step hb4); obtain ⟨g0, g1, gf, e0, e1, e2, ef, n12, n21, l6, l7⟩ := HR.out.cells HK4.out.old; obtain ⟨k0, k1, k2, kf, kl⟩ := cell3 HK4.out.e8)
      | fail)
    obtain ⟨w5, hw5⟩ : ∃ w5, w5 = ((w4.setCell ⟨b8, 0, none⟩ (.bool true)).setCell ⟨b8, 1, none⟩ (.slice none 0 0)).setCell ⟨b8, 2, none⟩ (.int .i64 1) := ⟨_, rfl⟩
    have HK5 : Hid (KE w1 w5 b8 (.bool true) (.slice none 0 0) (.int .i64 1)) := by rw [hw5]; exact HK4.out.set _ _ _
    have HE5 : Hid (EIs w5 (.agg #[.bool true, .slice none 0 0, .int .i64 1]) (plainE 1)) := by exact rfl
    rw [← hw5]
    try clear hb8
    clear hw5
    obtain ⟨g0, g1, gf, e0, e1, e2, ef, n12, n21, l6, l7⟩ := HR.out.cells HK5.out.old
    obtain ⟨k0, k1, k2, kf, kl⟩ := cell3 HK5.out.e8
    go_region
    all_goals
      go_wp2
      refine bodyPost_ret (v := .tuple #[grV none 0 0 none 0 0, .agg #[.bool true, .slice none 0 0, .int .i64 1]]) ?_ rfl ?_
      · simp [results, Tryz.results29, go_sem, g0, g1, gf, e0, e1, e2, ef, n12, n21, n68, n86, n78, n87, l6, l7, k0, k1, k2, kf, kl]
      · refine ⟨none, 0, 0, none, 0, 0, _, _, _, _, _, rfl, ?_⟩
        rw [HSW.out]
        have key : ∀ W9, FarB w w5 W9 b6 b7 → Hid (EIs W9 (.agg #[.bool true, .slice none 0 0, .int .i64 1]) (plainE 1) ∧ GrOwn w.heap.size W9 none 0 0 none 0 0 [] [] ∧ Below w.heap.size w W9) := fun W9 h9 => ⟨h9.e HR.out HK5.out.old HE5.out, GrOwn.nil _ _, h9.low⟩
        refine key _ ?_
        repeat (first | with_reducible exact FarB.refl HR.out HK5.out.old | with_reducible refine FarB.set6 HR.out ?_ _ _ | with_reducible refine FarB.set7 HR.out ?_ _ _ | with_reducible refine FarB.al ?_ _ | with_reducible refine FarB.dr ?_)
  by_cases a2 : 8 ≤ x
  · have HSW : Hid (joinP ms ls x a = (plainE 1, [], [])) := joinP_no (by rw [HSE.out, if_pos (.inr a2)]) (by simp [plainE])
    have a3 : 0 ≤ x := by omega
    go_wp2_with fail
    obtain ⟨w3, hw3⟩ : ∃ w3, w3 = w2.alloc (.cells #[.bool false, .slice none 0 0, .int .i64 0] 43) := ⟨_, rfl⟩
    have HKc : Hid (KE w1 w3 b8 (.bool false) (.slice none 0 0) (.int .i64 0)) := by rw [hw3]; exact KE.fresh HB2.out hb8
    rw [← hw3, ← hb8]
    clear hw3 hb8
    obtain ⟨g0, g1, gf, e0, e1, e2, ef, n12, n21, l6, l7⟩ := HR.out.cells HKc.out.old; obtain ⟨k0, k1, k2, kf, kl⟩ := cell3 HKc.out.e8; obtain ⟨c0, c1⟩ := HC.out _ HKc.out.old
    (first
      | (go_at_call 34; refine (rn_any 1 _).mono ?_; rintro e w4 ⟨rfl, hb4⟩; have HK4 := Lib.hid ((HKc.out).step hb4); obtain ⟨g0, g1, gf, e0, e1, e2, ef, n12, n21, l6, l7⟩ := HR.out.cells HK4.out.old; obtain ⟨k0, k1, k2, kf, kl⟩ := cell3 HK4.out.e8)
      | fail)
    go_wp2_with (first
      | (go_at_call 34; refine (rn_any 1 _).mono ?_; rintro e w4 ⟨rfl, hb4⟩; have HK4 := Lib.hid ((HKc.out).step hb4); obtain ⟨g0, g1, gf, e0, e1, e2, ef, n12, n21, l6, l7⟩ := HR.out.cells HK4.out.old; obtain ⟨k0, k1, k2, kf, kl⟩ := cell3 HK4.out.e8)
      | fail)
    obtain ⟨w5, hw5⟩ : ∃ w5, w5 = ((w4.setCell ⟨b8, 0, none⟩ (.bool true)).setCell ⟨b8, 1, none⟩ (.slice none 0 0)).setCell ⟨b8, 2, none⟩ (.int .i64 1) := ⟨_, rfl⟩
    have HK5 : Hid (KE w1 w5 b8 (.bool true) (.slice none 0 0) (.int .i64 1)) := by rw [hw5]; exact HK4.out.set _ _ _
    have HE5 : Hid (EIs w5 (.agg #[.bool true, .slice none 0 0, .int .i64 1]) (plainE 1)) := by exact rfl
    rw [← hw5]
    try clear hb8
    clear hw5
    obtain ⟨g0, g1, gf, e0, e1, e2, ef, n12, n21, l6, l7⟩ := HR.out.cells HK5.out.old
    obtain ⟨k0, k1, k2, kf, kl⟩ := cell3 HK5.out.e8
    go_region
    all_goals
      go_wp2
      refine bodyPost_ret (v := .tuple #[grV none 0 0 none 0 0, .agg #[.bool true, .slice none 0 0, .int .i64 1]]) ?_ rfl ?_
      · simp [results, Tryz.results29, go_sem, g0, g1, gf, e0, e1, e2, ef, n12, n21, n68, n86, n78, n87, l6, l7, k0, k1, k2, kf, kl]
      · refine ⟨none, 0, 0, none, 0, 0, _, _, _, _, _, rfl, ?_⟩
        rw [HSW.out]
        have key : ∀ W9, FarB w w5 W9 b6 b7 → Hid (EIs W9 (.agg #[.bool true, .slice none 0 0, .int .i64 1]) (plainE 1) ∧ GrOwn w.heap.size W9 none 0 0 none 0 0 [] [] ∧ Below w.heap.size w W9) := fun W9 h9 => ⟨h9.e HR.out HK5.out.old HE5.out, GrOwn.nil _ _, h9.low⟩
        refine key _ ?_
        repeat (first | with_reducible exact FarB.refl HR.out HK5.out.old | with_reducible refine FarB.set6 HR.out ?_ _ _ | with_reducible refine FarB.set7 HR.out ?_ _ _ | with_reducible refine FarB.al ?_ _ | with_reducible refine FarB.dr ?_)
  have a3 : 0 ≤ x := by omega
  have a4 : x < 8 := by omega
  rw [if_neg (by omega)] at HSE
  have HX8 : Hid (0 ≤ x ∧ x < 8) := ⟨a3, a4⟩
  by_cases m1 : x ∈ ms
  case pos =>
    have HSW : Hid (joinP ms ls x a = (plainE 9, [], [])) := joinP_no (by rw [HSE.out, if_pos m1]) (by simp [plainE])
    have HDA : Hid (decide (x ∈ ms) = true) := decide_eq_true m1
    clear m1 HSE
    go_wp2_with fail
    obtain ⟨w3, hw3⟩ : ∃ w3, w3 = w2.alloc (.cells #[.bool false, .slice none 0 0, .int .i64 0] 43) := ⟨_, rfl⟩
    have HKc : Hid (KE w1 w3 b8 (.bool false) (.slice none 0 0) (.int .i64 0)) := by rw [hw3]; exact KE.fresh HB2.out hb8
    rw [← hw3, ← hb8]
    clear hw3 hb8
    obtain ⟨g0, g1, gf, e0, e1, e2, ef, n12, n21, l6, l7⟩ := HR.out.cells HKc.out.old; obtain ⟨k0, k1, k2, kf, kl⟩ := cell3 HKc.out.e8; obtain ⟨c0, c1⟩ := HC.out _ HKc.out.old
    (first
      | (go_at_call 34; refine (rn_any 9 _).mono ?_; rintro e w4 ⟨rfl, hb4⟩; have HK4 := Lib.hid ((HKc.out).step hb4); obtain ⟨g0, g1, gf, e0, e1, e2, ef, n12, n21, l6, l7⟩ := HR.out.cells HK4.out.old; obtain ⟨k0, k1, k2, kf, kl⟩ := cell3 HK4.out.e8)
      | (go_at_call 16; refine (HHX.out _ _ HDA.out _ HKc.out).mono ?_; rintro e wx ⟨rfl, rfl⟩)
      | fail)
    go_wp2_with (first
      | (go_at_call 34; refine (rn_any 9 _).mono ?_; rintro e w4 ⟨rfl, hb4⟩; have HK4 := Lib.hid ((HKc.out).step hb4); obtain ⟨g0, g1, gf, e0, e1, e2, ef, n12, n21, l6, l7⟩ := HR.out.cells HK4.out.old; obtain ⟨k0, k1, k2, kf, kl⟩ := cell3 HK4.out.e8)
      | (go_at_call 16; refine (HHX.out _ _ HDA.out _ HKc.out).mono ?_; rintro e wx ⟨rfl, rfl⟩)
      | fail)
    obtain ⟨w5, hw5⟩ : ∃ w5, w5 = ((w4.setCell ⟨b8, 0, none⟩ (.bool true)).setCell ⟨b8, 1, none⟩ (.slice none 0 0)).setCell ⟨b8, 2, none⟩ (.int .i64 9) := ⟨_, rfl⟩
    have HK5 : Hid (KE w1 w5 b8 (.bool true) (.slice none 0 0) (.int .i64 9)) := by rw [hw5]; exact HK4.out.set _ _ _
    have HE5 : Hid (EIs w5 (.agg #[.bool true, .slice none 0 0, .int .i64 9]) (plainE 9)) := by exact rfl
    rw [← hw5]
    try clear hb8
    clear hw5
    obtain ⟨g0, g1, gf, e0, e1, e2, ef, n12, n21, l6, l7⟩ := HR.out.cells HK5.out.old
    obtain ⟨k0, k1, k2, kf, kl⟩ := cell3 HK5.out.e8
    go_region
    all_goals
      go_wp2
      refine bodyPost_ret (v := .tuple #[grV none 0 0 none 0 0, .agg #[.bool true, .slice none 0 0, .int .i64 9]]) ?_ rfl ?_
      · simp [results, Tryz.results29, go_sem, g0, g1, gf, e0, e1, e2, ef, n12, n21, n68, n86, n78, n87, l6, l7, k0, k1, k2, kf, kl]
      · refine ⟨none, 0, 0, none, 0, 0, _, _, _, _, _, rfl, ?_⟩
        rw [HSW.out]
        have key : ∀ W9, FarB w w5 W9 b6 b7 → Hid (EIs W9 (.agg #[.bool true, .slice none 0 0, .int .i64 9]) (plainE 9) ∧ GrOwn w.heap.size W9 none 0 0 none 0 0 [] [] ∧ Below w.heap.size w W9) := fun W9 h9 => ⟨h9.e HR.out HK5.out.old HE5.out, GrOwn.nil _ _, h9.low⟩
        refine key _ ?_
        repeat (first | with_reducible exact FarB.refl HR.out HK5.out.old | with_reducible refine FarB.set6 HR.out ?_ _ _ | with_reducible refine FarB.set7 HR.out ?_ _ _ | with_reducible refine FarB.al ?_ _ | with_reducible refine FarB.dr ?_)
  case neg =>
  have HDA : Hid (decide (x ∈ ms) = false) := decide_eq_false m1
  rw [if_neg m1] at HSE
  have HX := Lib.hid m1
  by_cases m2 : a ∈ ms
  case neg =>
    have HSW : Hid (joinP ms ls x a = (plainE 12, [], [])) := joinP_no (by rw [HSE.out, if_pos m2]) (by simp [plainE])
    have HDB : Hid (decide (a ∈ ms) = false) := decide_eq_false m2
    clear m1 m2 HSE
    go_wp2_with fail
    obtain ⟨w3, hw3⟩ : ∃ w3, w3 = w2.alloc (.cells #[.bool false, .slice none 0 0, .int .i64 0] 43) := ⟨_, rfl⟩
    have HKc : Hid (KE w1 w3 b8 (.bool false) (.slice none 0 0) (.int .i64 0)) := by rw [hw3]; exact KE.fresh HB2.out hb8
    rw [← hw3, ← hb8]
    clear hw3 hb8
    obtain ⟨g0, g1, gf, e0, e1, e2, ef, n12, n21, l6, l7⟩ := HR.out.cells HKc.out.old; obtain ⟨k0, k1, k2, kf, kl⟩ := cell3 HKc.out.e8; obtain ⟨c0, c1⟩ := HC.out _ HKc.out.old
    (first
      | (go_at_call 34; refine (rn_any 12 _).mono ?_; rintro e w4 ⟨rfl, hb4⟩; have HK4 := Lib.hid ((HKc.out).step hb4); obtain ⟨g0, g1, gf, e0, e1, e2, ef, n12, n21, l6, l7⟩ := HR.out.cells HK4.out.old; obtain ⟨k0, k1, k2, kf, kl⟩ := cell3 HK4.out.e8)
      | (go_at_call 16; refine (HHX.out _ _ (by first | exact HDA.out | exact HDB.out) _ HKc.out).mono ?_; rintro e wx ⟨rfl, rfl⟩)
      | fail)
    go_wp2_with (first
      | (go_at_call 34; refine (rn_any 12 _).mono ?_; rintro e w4 ⟨rfl, hb4⟩; have HK4 := Lib.hid ((HKc.out).step hb4); obtain ⟨g0, g1, gf, e0, e1, e2, ef, n12, n21, l6, l7⟩ := HR.out.cells HK4.out.old; obtain ⟨k0, k1, k2, kf, kl⟩ := cell3 HK4.out.e8)
      | (go_at_call 16; refine (HHX.out _ _ (by first | exact HDA.out | exact HDB.out) _ HKc.out).mono ?_; rintro e wx ⟨rfl, rfl⟩)
      | fail)
    obtain ⟨w5, hw5⟩ : ∃ w5, w5 = ((w4.setCell ⟨b8, 0, none⟩ (.bool true)).setCell ⟨b8, 1, none⟩ (.slice none 0 0)).setCell ⟨b8, 2, none⟩ (.int .i64 12) := ⟨_, rfl⟩
    have HK5 : Hid (KE w1 w5 b8 (.bool true) (.slice none 0 0) (.int .i64 12)) := by rw [hw5]; exact HK4.out.set _ _ _
    have HE5 : Hid (EIs w5 (.agg #[.bool true, .slice none 0 0, .int .i64 12]) (plainE 12)) := by exact rfl
    rw [← hw5]
    try clear hb8
    clear hw5
    obtain ⟨g0, g1, gf, e0, e1, e2, ef, n12, n21, l6, l7⟩ := HR.out.cells HK5.out.old
    obtain ⟨k0, k1, k2, kf, kl⟩ := cell3 HK5.out.e8
    go_region
    all_goals
      go_wp2
      refine bodyPost_ret (v := .tuple #[grV none 0 0 none 0 0, .agg #[.bool true, .slice none 0 0, .int .i64 12]]) ?_ rfl ?_
      · simp [results, Tryz.results29, go_sem, g0, g1, gf, e0, e1, e2, ef, n12, n21, n68, n86, n78, n87, l6, l7, k0, k1, k2, kf, kl]
      · refine ⟨none, 0, 0, none, 0, 0, _, _, _, _, _, rfl, ?_⟩
        rw [HSW.out]
        have key : ∀ W9, FarB w w5 W9 b6 b7 → Hid (EIs W9 (.agg #[.bool true, .slice none 0 0, .int .i64 12]) (plainE 12) ∧ GrOwn w.heap.size W9 none 0 0 none 0 0 [] [] ∧ Below w.heap.size w W9) := fun W9 h9 => ⟨h9.e HR.out HK5.out.old HE5.out, GrOwn.nil _ _, h9.low⟩
        refine key _ ?_
        repeat (first | with_reducible exact FarB.refl HR.out HK5.out.old | with_reducible refine FarB.set6 HR.out ?_ _ _ | with_reducible refine FarB.set7 HR.out ?_ _ _ | with_reducible refine FarB.al ?_ _ | with_reducible refine FarB.dr ?_)
  case pos =>
  have HDB : Hid (decide (a ∈ ms) = true) := decide_eq_true m2
  obtain ⟨z1, hk1⟩ : ∃ z1, Hid (min x a = z1) := ⟨_, rfl⟩
  obtain ⟨z2, hk2⟩ : ∃ z2, Hid (max x a = z2) := ⟨_, rfl⟩
  have HOL : Hid (ofL x a = (z1, z2)) := by unfold ofL; rw [hk1.out, hk2.out]; exact rfl
  have HSW : Hid (joinP ms ls x a = doneP (inOrder (ms ++ [x])) (withL ls (z1, z2))) := by rw [Hid, ← HOL.out]; exact joinP_ok (by rw [HSE.out, if_neg (fun e => e m2)])
  have HALL : Hid ((∀ y ∈ x :: ms, y ∈ ALL) ∧ (inOrder (x :: ms)) = inOrder (ms ++ [x]) ∧ (inOrder (ms ++ [x])).length = n + 1) := by
    have hg := HGD.out
    have h1 : ∀ y ∈ ms ++ [x], y ∈ ALL := fun y hy => by
      rcases List.mem_append.1 hy with h | h
      · exact hg.ms_.2 y h
      · have e : y = x := by simpa using h
        rw [e]; exact all_iff.2 HX8.out
    have h2 : (ms ++ [x]).Nodup := List.nodup_append.2 ⟨hg.ms_.nodup, by simp, fun y hy z hz e => by
      have e2 : z = x := by simpa using hz
      exact HX.out (by rw [← e2, ← e]; exact hy)⟩
    have h3 : ∀ y, y ∈ x :: ms ↔ y ∈ ms ++ [x] := fun y => by simp [or_comm]
    refine ⟨fun y hy => h1 y ((h3 y).1 hy), inOrder_same (fun y hy => h1 y ((h3 y).1 hy)) h1 h3, by rw [inOrder_len h1 h2, List.length_append, HG.out.mlen]; rfl⟩
  clear m1 m2 HSE
  have HLEN : Hid ((inOrder (ms ++ [x])).length = n + 1 ∧ n + 1 ≤ 1000) := ⟨HALL.out.2.2, by have := HGD.out.small.1; rw [HG.out.mlen] at this; omega⟩
  have HRM : Hid (∀ W, Bl w1 W → RowAt W Am (intVs ms)) := fun W hW => HG.out.mrow.below (HR.out.old.trans (Below.mono hW HR.out.old.size))
  have HSO : Hid (∀ (A' : Option Addr) (c' : Nat) W, Bl w1 W → W.ownsRow w1.heap.size 3 1 (.slice A' (1 + n) c') (1 + n) (intVs (x :: ms)) → Calls Tryz.prog 46 #[.slice A' (1 + n) c'] W fun e w' => ∃ (A8 : Option Addr) (c8 : Nat), e = .returned (.slice A8 (n + 1) c8) ∧ Bl w1 w' ∧ w'.ownsRow w.heap.size 3 1 (.slice A8 (n + 1) c8) (n + 1) (intVs (inOrder (ms ++ [x])))) := fun A' c' W hW ho => by
    refine (sorted_any A' (1 + n) c' (x :: ms) W (by rw [List.length_cons, HG.out.mlen]; omega) (RowAt.of_own ho) (by have := HN.out.1; omega) HALL.out.1).mono ?_
    rintro e w' ⟨A8, c8, rfl, h⟩
    have h1 := h.out.1
    rw [HALL.out.2.1, HALL.out.2.2] at h1
    rw [HALL.out.2.1, HALL.out.2.2]
    exact ⟨A8, c8, rfl, bchain hW h.out.2, ownsRow_mono h1 (Nat.le_trans HR.out.old.size hW.size)⟩
  have HOF : Hid (∀ W, Bl w1 W → Calls Tryz.prog 14 #[.int .i64 x, .int .i64 a] W fun e w' => e = .returned (.agg #[.int .i64 z1, .int .i64 z2]) ∧ Bl w1 w' ∧ ∀ base e s n v xs, W.ownsRow base e s n v xs → w'.ownsRow base e s n v xs) := fun W hW => by
    refine (rof_any x a W).mono ?_
    rintro e w' ⟨rfl, hb⟩
    rw [hk1.out, hk2.out]
    exact ⟨rfl, bchain hW hb, fun _ _ _ _ _ _ ho => ownsRow_below ho hb⟩
  have HWI : Hid (∀ W, Bl w1 W → Calls Tryz.prog 53 #[.slice Al q cl, .agg #[.int .i64 z1, .int .i64 z2]] W fun e w' => ∃ (A' : Option Addr) (m' c' : Nat), e = .returned (.slice A' m' c') ∧ Bl w1 w' ∧ Hid (w'.ownsRow w.heap.size 35 2 (.slice A' m' c') m' (lkCells (withL ls (z1, z2))) ∧ (withL ls (z1, z2)).length = m' ∧ m' ≤ 1000) ∧ ∀ base e s n v xs, W.ownsRow base e s n v xs → w'.ownsRow base e s n v xs) := fun W hW => by
    refine (rwith_any Al q cl ls W z1 z2 HG.out.llen (HG.out.lrow.below (HR.out.old.trans (Below.mono hW HR.out.old.size))) HN.out.2).mono ?_
    rintro e w' ⟨A', m', c', rfl, h2⟩
    refine ⟨A', m', c', rfl, bchain hW h2.out.2.2, ⟨ownsRow_mono h2.out.2.1 (Nat.le_trans HR.out.old.size hW.size), h2.out.1, ?_⟩, fun _ _ _ _ _ _ ho => ownsRow_below ho h2.out.2.2⟩
    have h3 := h2.out.1
    have := HGD.out.small.2
    rw [with_len] at h3
    omega
  have HDN : Hid (∀ (A1 : Option Addr) (c1 : Nat) (A : Option Addr) (m c : Nat) W, Bl w1 W → W.ownsRow w.heap.size 3 1 (.slice A1 (n + 1) c1) (n + 1) (intVs (inOrder (ms ++ [x]))) → Hid (W.ownsRow w.heap.size 35 2 (.slice A m c) m (lkCells (withL ls (z1, z2))) ∧ (withL ls (z1, z2)).length = m ∧ m ≤ 1000) → Calls Tryz.prog 52 #[.agg #[.slice A1 (n + 1) c1, .slice A m c]] W fun e w' => ∃ (Am' : Option Addr) (n' cm' : Nat) (Al' : Option Addr) (q' cl' : Nat) (bb : Bool) (Ae : Option Addr) (me ce : Nat) (ie : Int), e = .returned (.tuple #[grV Am' n' cm' Al' q' cl', eVal bb Ae me ce ie]) ∧ Bl w1 w' ∧ Hid (EIs w' (eVal bb Ae me ce ie) (doneP (inOrder (ms ++ [x])) (withL ls (z1, z2))).1 ∧ GrOwn w.heap.size w' Am' n' cm' Al' q' cl' (doneP (inOrder (ms ++ [x])) (withL ls (z1, z2))).2.1 (doneP (inOrder (ms ++ [x])) (withL ls (z1, z2))).2.2)) := fun A1 c1 A m c W hW h1 h2 => by
    refine (rdone_any A1 (n + 1) c1 A m c (inOrder (ms ++ [x])) (withL ls (z1, z2)) w.heap.size W ⟨HLEN.out.1, h2.out.2.1, h1, h2.out.1⟩ HLEN.out.2 h2.out.2.2).mono ?_
    rintro e w' ⟨Am', n', cm', Al', q', cl', bb, Ae, me, ce, ie, rfl, h⟩
    exact ⟨Am', n', cm', Al', q', cl', bb, Ae, me, ce, ie, rfl, bchain hW h.out.2.2, h.out.1, h.out.2.1⟩
  have HCS : Hid (∀ W W', Bl w1 W → FarB w W W' b6 b7 → (W'.cell? ⟨bg, 0, none⟩ = some (.slice Am n cm) ∧ W'.cell? ⟨bg, 1, none⟩ = some (.slice Al q cl))) := fun W W' hW hf => by
    have hn := HR.out.n
    have hs := Below.size hW
    obtain ⟨h1, h2⟩ := HBX.out
    obtain ⟨a1, a2, _⟩ := cell2 ((hf.keep bg (by omega) (by omega) (by omega)).trans ((Below.block hW bg (by omega)).trans h1))
    exact ⟨a1, a2⟩
  go_wp2_with fail
  obtain ⟨w3, hw3⟩ : ∃ w3, w3 = w2.alloc (.cells #[.bool false, .slice none 0 0, .int .i64 0] 43) := ⟨_, rfl⟩
  have HKc : Hid (KE w1 w3 b8 (.bool false) (.slice none 0 0) (.int .i64 0)) := by rw [hw3]; exact KE.fresh HB2.out hb8
  rw [← hw3, ← hb8]
  clear hw3 hb8
  obtain ⟨g0, g1, gf, e0, e1, e2, ef, n12, n21, l6, l7⟩ := HR.out.cells HKc.out.old; obtain ⟨k0, k1, k2, kf, kl⟩ := cell3 HKc.out.e8; obtain ⟨c0, c1⟩ := HC.out _ HKc.out.old
  (go_at_call 16; refine (HHX.out _ _ (by first | exact HDA.out | exact HDB.out) _ HKc.out).mono ?_; rintro e wx ⟨rfl, rfl⟩)
  go_wp2_with (first
    | (go_at_call 16; refine (HHX.out _ _ (by first | exact HDA.out | exact HDB.out) _ HKc.out).mono ?_; rintro e wx ⟨rfl, rfl⟩)
    | fail)
  have hbl : Bl w1 w3 := HKc.out.old
  clear HHX HDA HDB a3 a4 a1 a2 HX hk1 hk2
  (go_region_held_law (fun W => W.cell? ⟨bg, 0, none⟩ = some (.slice Am n cm) ∧ W.cell? ⟨bg, 1, none⟩ = some (.slice Al q cl))
    (first | (refine HC.out _ ?_; (first | (with_reducible refine Bl.dr ?_; (first | with_reducible assumption | (with_reducible refine Bl.al ?_ _; first | with_reducible assumption | (with_reducible refine Bl.al ?_ _; first | with_reducible assumption | (with_reducible refine Bl.al ?_ _; with_reducible assumption))))) | (first | with_reducible assumption | (with_reducible refine Bl.al ?_ _; first | with_reducible assumption | (with_reducible refine Bl.al ?_ _; first | with_reducible assumption | (with_reducible refine Bl.al ?_ _; with_reducible assumption))))); done) | (refine HCS.out w9 _ hb9 ?_; (repeat (first | with_reducible exact FarB.refl HR.out hb9 | with_reducible refine FarB.set6 HR.out ?_ _ _ | with_reducible refine FarB.set7 HR.out ?_ _ _ | with_reducible refine FarB.al ?_ _ | with_reducible refine FarB.dr ?_)); done) | fail)
    (first
      | (refine step_lit1 (W0 := w1) (by rfl) _ _ (by rfl) _ x (by rfl) _ _ _ (by rfl) (by first | exact Lit1.new (by first | (with_reducible refine Bl.dr ?_; (first | with_reducible assumption | (with_reducible refine Bl.al ?_ _; first | with_reducible assumption | (with_reducible refine Bl.al ?_ _; first | with_reducible assumption | (with_reducible refine Bl.al ?_ _; with_reducible assumption))))) | (first | with_reducible assumption | (with_reducible refine Bl.al ?_ _; first | with_reducible assumption | (with_reducible refine Bl.al ?_ _; first | with_reducible assumption | (with_reducible refine Bl.al ?_ _; with_reducible assumption))))) (by simp) | exact Lit1.dr (Lit1.new (by first | (with_reducible refine Bl.dr ?_; (first | with_reducible assumption | (with_reducible refine Bl.al ?_ _; first | with_reducible assumption | (with_reducible refine Bl.al ?_ _; first | with_reducible assumption | (with_reducible refine Bl.al ?_ _; with_reducible assumption))))) | (first | with_reducible assumption | (with_reducible refine Bl.al ?_ _; first | with_reducible assumption | (with_reducible refine Bl.al ?_ _; first | with_reducible assumption | (with_reducible refine Bl.al ?_ _; with_reducible assumption))))) (by simp))) ms HG.out.mlen (HRM.out _ (by first | (with_reducible refine Bl.dr ?_; (first | with_reducible assumption | (with_reducible refine Bl.al ?_ _; first | with_reducible assumption | (with_reducible refine Bl.al ?_ _; first | with_reducible assumption | (with_reducible refine Bl.al ?_ _; with_reducible assumption))))) | (first | with_reducible assumption | (with_reducible refine Bl.al ?_ _; first | with_reducible assumption | (with_reducible refine Bl.al ?_ _; first | with_reducible assumption | (with_reducible refine Bl.al ?_ _; with_reducible assumption)))))) HN.out.1 (by first | (with_reducible refine Bl.dr ?_; (first | with_reducible assumption | (with_reducible refine Bl.al ?_ _; first | with_reducible assumption | (with_reducible refine Bl.al ?_ _; first | with_reducible assumption | (with_reducible refine Bl.al ?_ _; with_reducible assumption))))) | (first | with_reducible assumption | (with_reducible refine Bl.al ?_ _; first | with_reducible assumption | (with_reducible refine Bl.al ?_ _; first | with_reducible assumption | (with_reducible refine Bl.al ?_ _; with_reducible assumption))))) ?_; intro Am5 cm5 wm hrm hbm)
      | (go_at_call 46; refine (HSO.out _ _ _ (by with_reducible assumption) hrm).mono ?_; rintro e w6 ⟨A6, d6, rfl, hb6x, hr6⟩)
      | (go_at_call 14; refine (HOF.out _ (by with_reducible assumption)).mono ?_; rintro e w7 ⟨rfl, hb7x, hc7⟩; have hr7 := hc7 _ _ _ _ _ _ hr6)
      | (go_at_call 53; refine (HWI.out _ (by with_reducible assumption)).mono ?_; rintro e w8 ⟨A8, m8, d8, rfl, hb8x, h8, hc8⟩; have hr8 := hc8 _ _ _ _ _ _ hr7)
      | (go_at_call 52; refine (HDN.out _ _ _ _ _ _ (by with_reducible assumption) hr8 h8).mono ?_; rintro e w9 ⟨Am9, n9, cm9, Al9, q9, cl9, bb9, Ae9, me9, ce9, ie9, rfl, hb9, h9⟩; obtain ⟨g0, g1, gf, e0, e1, e2, ef, n12, n21, l6, l7⟩ := HR.out.cells hb9)
      | fail))
  all_goals
    go_wp2
    refine bodyPost_ret (v := .tuple #[grV Am9 n9 cm9 Al9 q9 cl9, eVal bb9 Ae9 me9 ce9 ie9]) ?_ rfl ?_
    · simp [results, Tryz.results29, go_sem, g0, g1, gf, e0, e1, e2, ef, n12, n21, l6, l7]
    · refine ⟨Am9, n9, cm9, Al9, q9, cl9, bb9, Ae9, me9, ce9, ie9, rfl, ?_⟩
      rw [HSW.out]
      have key : ∀ W9, FarB w w9 W9 b6 b7 → Hid (EIs W9 (eVal bb9 Ae9 me9 ce9 ie9) (doneP (inOrder (ms ++ [x])) (withL ls (z1, z2))).1 ∧ GrOwn w.heap.size W9 Am9 n9 cm9 Al9 q9 cl9 (doneP (inOrder (ms ++ [x])) (withL ls (z1, z2))).2.1 (doneP (inOrder (ms ++ [x])) (withL ls (z1, z2))).2.2 ∧ Below w.heap.size w W9) := fun W9 hf => ⟨hf.e HR.out hb9 h9.out.1, hf.own HR.out hb9 h9.out.2, hf.low⟩
      refine key _ ?_
      (repeat (first | with_reducible exact FarB.refl HR.out hb9 | with_reducible refine FarB.set6 HR.out ?_ _ _ | with_reducible refine FarB.set7 HR.out ?_ _ _ | with_reducible refine FarB.al ?_ _ | with_reducible refine FarB.dr ?_))
end
end Go.Proofs.YtlkfcfcejicdkaaGreatDoor
