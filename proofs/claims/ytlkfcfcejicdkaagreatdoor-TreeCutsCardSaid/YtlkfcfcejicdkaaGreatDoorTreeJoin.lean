/-
  tree: Join, walked. Own work.
-/
import Derived.Test.YtlkfcfcejicdkaaGreatDoorTreeSwap
set_option linter.unusedSimpArgs false
set_option linter.unusedVariables false
namespace Go.Proofs.YtlkfcfcejicdkaaGreatDoor
open Go Go.RowKit

/-- The graph's box, and the result's. -/
def KJ (w0 W : World) (b1 b4 : Nat) (v0 v1 : Value) : Prop := W.cell? ⟨b1, 0, none⟩ = some v0 ∧ W.cell? ⟨b1, 1, none⟩ = some v1 ∧ Hid (∃ u0 u1, KB w0 W b1 b4 v0 v1 u0 u1)
section
variable {w0 W W' : World} {b1 b4 : Nat} {v0 v1 : Value}
theorem KJ.kb (h : KJ w0 W b1 b4 v0 v1) : ∃ u0 u1, KB w0 W b1 b4 v0 v1 u0 u1 := h.2.2.out
theorem KJ.of {u0 u1 : Value} (h : KB w0 W b1 b4 v0 v1 u0 u1) : KJ w0 W b1 b4 v0 v1 := by
  obtain ⟨h1, h2, _⟩ := h.cells
  exact ⟨h1, h2, _, _, h⟩
theorem KJ.old (h : KJ w0 W b1 b4 v0 v1) : Below w0.heap.size w0 W := h.kb.choose_spec.choose_spec.old
theorem KJ.step (h : KJ w0 W b1 b4 v0 v1) (hb : Below W.heap.size W W') : KJ w0 W' b1 b4 v0 v1 := by
  obtain ⟨u0, u1, hk⟩ := h.kb
  exact KJ.of (hk.below hb)
theorem KJ.set (h : KJ w0 W b1 b4 v0 v1) (x y : Value) : KJ w0 ((W.setCell ⟨b4, 0, none⟩ x).setCell ⟨b4, 1, none⟩ y) b1 b4 v0 v1 := by
  obtain ⟨u0, u1, hk⟩ := h.kb
  exact KJ.of (hk.set x y)
end
theorem joinP_no {ms : List Int} {ls : List Lk} {x a : Int} {e : Er} (h : joinE ms ls x a = e) (he : e ≠ none) : joinP ms ls x a = (e, [], []) := by
  unfold joinP
  rw [h]
  cases e with
  | none => exact absurd rfl he
  | some e => rfl
theorem joinP_ok {ms : List Int} {ls : List Lk} {x a : Int} (h : joinE ms ls x a = none) : joinP ms ls x a = doneP (inOrder (ms ++ [x])) (withL ls (ofL x a)) := by
  unfold joinP
  rw [h]
theorem inOrder_len {l : List Int} (h : ∀ x ∈ l, x ∈ ALL) (hn : l.Nodup) : (inOrder l).length = l.length :=
  Nat.le_antisymm (nodup_le (inOrder_nodup _) fun x hx => (inOrder_iff h).1 hx) (nodup_le hn fun x hx => (inOrder_iff h).2 hx)

section
variable (Am : Option Addr) (n cm : Nat) (Al : Option Addr) (q cl : Nat) (ms : List Int) (ls : List Lk) (x a : Int) (w : World)
set_option maxRecDepth 100000 in
set_option maxHeartbeats 4000000 in
theorem join_any (hG : GrAt w Am n Al q ms ls) (hn : n ≤ 1000) (hq : q ≤ 1000) :
    Calls Tryz.prog 28 #[grV Am n cm Al q cl, .int .i64 x, .int .i64 a] w fun e w' => Gives w e w' (joinP ms ls x a) := by
  have HG := Lib.hid hG
  have HN : Hid (n ≤ 1000 ∧ q ≤ 1000) := ⟨hn, hq⟩
  clear hG hn hq
  have HCK : Hid (∀ W, Below w.heap.size w W → Calls Tryz.prog 26 #[grV Am n cm Al q cl] W fun e w' => ∃ v, e = .returned v ∧ Hid (ErrIs w' v (chk ms ls) ∧ Below W.heap.size W w')) := fun W hW => check_any Am n cm Al q cl ms ls W (HG.out.below hW) HN.out.1 HN.out.2
  obtain ⟨b1, hb1⟩ : ∃ b, b = w.heap.size := ⟨_, rfl⟩
  obtain ⟨b4, hb4⟩ : ∃ b, b = w.heap.size + 1 := ⟨_, rfl⟩
  obtain ⟨w1, hw1⟩ : ∃ w1, w1 = (w.alloc (.cells #[.slice Am n cm, .slice Al q cl] 25)).alloc (.cells #[.slice none 0 0, .slice none 0 0] 25) := ⟨_, rfl⟩
  have HB : Hid (KJ w w1 b1 b4 (.slice Am n cm) (.slice Al q cl)) := by rw [hw1, hb1, hb4]; exact KJ.of (kb_new w _ _)
  go_enter Tryz.func28, Tryz.ntmps28
  go_wp2_with fail
  rw [← hw1, ← hb4, ← hb1]
  clear hw1 hb1 hb4
  refine (HCK.out w1 HB.out.old).mono ?_
  rintro e w2 ⟨v, rfl, HE⟩
  have HK2 := Lib.hid (HB.out.step HE.out.2)
  obtain ⟨_, _, hkb⟩ := HK2.out.kb; obtain ⟨c1, c2, r0, r1, rf, l1, l2, n12, n21⟩ := hkb.cells
  rcases HE.out.1.cases with ⟨hc, rfl⟩ | ⟨hc, t, y, rfl⟩
  case inr =>
    have HSW : Hid (joinP ms ls x a = (chk ms ls, [], [])) := joinP_no (by
      unfold joinE
      cases h : chk ms ls with
      | none => exact absurd h hc
      | some e => rfl) hc
    clear hc
    go_wp2
    refine bodyPost_ret (v := .tuple #[grV none 0 0 none 0 0, .iface t y]) ?_ rfl ?_
    · simp [results, Tryz.results28, go_sem, r0, r1, rf, n12, n21]
    · rw [HSW.out]; exact Gives.no hkb HE.out.1
  case inl =>
  have HSE : Hid (joinE ms ls x a = if x < 0 ∨ 8 ≤ x then plainE 1 else if x ∈ ms then plainE 9 else if a ∉ ms then plainE 12 else none) := by
    unfold joinE; rw [hc]; rfl
  have HGD := Lib.hid (chk_good hc)
  clear hc HE
  by_cases a1 : x < 0
  · have HSW : Hid (joinP ms ls x a = (plainE 1, [], [])) := joinP_no (by rw [HSE.out, if_pos (.inl a1)]) (by simp [plainE])
    go_wp2
    refine bodyPost_ret (v := .tuple #[grV none 0 0 none 0 0, .iface 41 (.int .i64 1)]) ?_ rfl ?_
    · simp [results, Tryz.results28, go_sem, r0, r1, rf, n12, n21]
    · rw [HSW.out]; exact Gives.no hkb rfl

  by_cases a2 : 8 ≤ x
  · have HSW : Hid (joinP ms ls x a = (plainE 1, [], [])) := joinP_no (by rw [HSE.out, if_pos (.inr a2)]) (by simp [plainE])
    have a3 : 0 ≤ x := by omega
    go_wp2
    refine bodyPost_ret (v := .tuple #[grV none 0 0 none 0 0, .iface 41 (.int .i64 1)]) ?_ rfl ?_
    · simp [results, Tryz.results28, go_sem, r0, r1, rf, n12, n21]
    · rw [HSW.out]; exact Gives.no hkb rfl

  have a3 : 0 ≤ x := by omega
  have a4 : x < 8 := by omega
  rw [if_neg (by omega)] at HSE
  have HX8 : Hid (0 ≤ x ∧ x < 8) := ⟨a3, a4⟩
  have HHS : Hid (∀ y W, KJ w W b1 b4 (.slice Am n cm) (.slice Al q cl) → Calls Tryz.prog 48 #[grV Am n cm Al q cl, .int .i64 y] W fun e w' => e = .returned (.bool (decide (y ∈ ms))) ∧ KJ w w' b1 b4 (.slice Am n cm) (.slice Al q cl)) := fun y W hW => by
    refine (has_any Am n cm Al q cl ms y W HG.out.mlen (HG.out.mrow.below hW.old) (Nat.le_trans HN.out.1 (by decide))).mono ?_
    rintro e w' ⟨rfl, hb⟩
    exact ⟨rfl, hW.step hb⟩
  by_cases m1 : x ∈ ms
  case pos =>
    have HSW : Hid (joinP ms ls x a = (plainE 9, [], [])) := joinP_no (by rw [HSE.out, if_pos m1]) (by simp [plainE])
    have HC1 := Lib.hid (HHS.out x w2 HK2.out)
    rw [decide_eq_true m1] at HC1
    clear m1 HHS HSE HB HCK
    go_wp2_with fail
    refine HC1.out.mono ?_
    rintro e w3 ⟨rfl, hK3⟩
    obtain ⟨_, _, hkb⟩ := hK3.kb; obtain ⟨c1, c2, r0, r1, rf, l1, l2, n12, n21⟩ := hkb.cells
    go_wp2
    refine bodyPost_ret (v := .tuple #[grV none 0 0 none 0 0, .iface 41 (.int .i64 9)]) ?_ rfl ?_
    · simp [results, Tryz.results28, go_sem, r0, r1, rf, n12, n21]
    · rw [HSW.out]; exact Gives.no hkb rfl

  case neg =>
  have HC1 := Lib.hid (HHS.out x w2 HK2.out)
  rw [decide_eq_false m1] at HC1
  rw [if_neg m1] at HSE
  have HX := Lib.hid m1
  by_cases m2 : a ∈ ms
  case neg =>
    have HSW : Hid (joinP ms ls x a = (plainE 12, [], [])) := joinP_no (by rw [HSE.out, if_pos m2]) (by simp [plainE])
    have HC2 := Lib.hid (fun W hW => HHS.out a W hW)
    rw [decide_eq_false m2] at HC2
    clear m1 m2 HHS HSE HB HCK
    go_wp2_with fail
    refine HC1.out.mono ?_
    rintro e w3 ⟨rfl, hK3⟩
    obtain ⟨_, _, hkb⟩ := hK3.kb; obtain ⟨c1, c2, r0, r1, rf, l1, l2, n12, n21⟩ := hkb.cells
    go_wp2_with fail
    refine (HC2.out w3 hK3).mono ?_
    rintro e w4 ⟨rfl, hK4⟩
    obtain ⟨_, _, hkb⟩ := hK4.kb; obtain ⟨c1, c2, r0, r1, rf, l1, l2, n12, n21⟩ := hkb.cells
    go_wp2
    refine bodyPost_ret (v := .tuple #[grV none 0 0 none 0 0, .iface 41 (.int .i64 12)]) ?_ rfl ?_
    · simp [results, Tryz.results28, go_sem, r0, r1, rf, n12, n21]
    · rw [HSW.out]; exact Gives.no hkb rfl

  case pos =>
  have HC2 := Lib.hid (fun W hW => HHS.out a W hW)
  rw [decide_eq_true m2] at HC2
  obtain ⟨k1, hk1⟩ : ∃ k1, Hid (min x a = k1) := ⟨_, rfl⟩
  obtain ⟨k2, hk2⟩ : ∃ k2, Hid (max x a = k2) := ⟨_, rfl⟩
  have HOL : Hid (ofL x a = (k1, k2)) := by unfold ofL; rw [hk1.out, hk2.out]; exact rfl
  have HSW : Hid (joinP ms ls x a = doneP (inOrder (ms ++ [x])) (withL ls (k1, k2))) := by rw [Hid, ← HOL.out]; exact joinP_ok (by rw [HSE.out, if_neg (fun e => e m2)])
  have HALL : Hid ((∀ y ∈ ms ++ [x], y ∈ ALL) ∧ (ms ++ [x]).Nodup ∧ (inOrder (ms ++ [x])).length = n + 1 ∧ k1 ∈ ALL ∧ k2 ∈ ALL) := by
    have hg := HGD.out
    have h1 : ∀ y ∈ ms ++ [x], y ∈ ALL := fun y hy => by
      rcases List.mem_append.1 hy with h | h
      · exact hg.ms_.2 y h
      · have e : y = x := by simpa using h
        rw [e]; exact all_iff.2 HX8.out
    have h2 : (ms ++ [x]).Nodup := List.nodup_append.2 ⟨hg.ms_.nodup, by simp, fun y hy z hz e => by
      have e2 : z = x := by simpa using hz
      exact HX.out (by rw [← e2, ← e]; exact hy)⟩
    have h3 := h1 x (by simp)
    have h4 := h1 a (by simp [m2])
    refine ⟨h1, h2, by rw [inOrder_len h1 h2, List.length_append, HG.out.mlen]; rfl, ?_, ?_⟩
    · rw [← hk1.out]; rcases Int.le_total x a with h | h
      · rw [Int.min_eq_left h]; exact h3
      · rw [Int.min_eq_right h]; exact h4
    · rw [← hk2.out]; rcases Int.le_total x a with h | h
      · rw [Int.max_eq_right h]; exact h4
      · rw [Int.max_eq_left h]; exact h3
  have HCI : Hid (∀ W, KJ w W b1 b4 (.slice Am n cm) (.slice Al q cl) → Calls Tryz.prog 59 #[.slice Am n cm] W fun e w' => ∃ (A' : Option Addr) (c' : Nat), e = .returned (.slice A' n c') ∧ w'.ownsRow W.heap.size 3 1 (.slice A' n c') n (intVs ms) ∧ Below W.heap.size W w') := fun W hW => cloneI_at Am n cm ms W HG.out.mlen HN.out.1 (HG.out.mrow.below hW.old)
  have HSO : Hid (∀ (A' : Option Addr) (c' : Nat) (W0 W : World), KJ w W0 b1 b4 (.slice Am n cm) (.slice Al q cl) → Below W0.heap.size W0 W → W.ownsRow W0.heap.size 3 1 (.slice A' (n + 1) c') (n + 1) (intVs ms ++ [.int .i64 x]) → Calls Tryz.prog 60 #[.slice A' (n + 1) c'] W fun e w' => e = .returned (.tuple #[]) ∧ KJ w w' b1 b4 (.slice Am n cm) (.slice Al q cl) ∧ Hid (RowAt w' A' (intVs (inOrder (ms ++ [x]))))) := fun A' c' W0 W hW hb ho => by
    have h1 : intVs ms ++ [.int .i64 x] = intVs (ms ++ [x]) := by rw [intVs_append]; rfl
    rw [h1] at ho
    refine (sortI_any W0.heap.size A' (n + 1) c' (ms ++ [x]) (by rw [List.length_append, HG.out.mlen]; rfl) W ho hb.size (by have := HN.out.1; omega)).mono ?_
    rintro e w' ⟨rfl, l', hp, hs, hr, hb2⟩
    rw [sorted_inOrder hp hs HALL.out.2.1 HALL.out.1] at hr
    exact ⟨rfl, hW.step (hb.trans hb2), hr⟩
  have HOF : Hid (∀ W, KJ w W b1 b4 (.slice Am n cm) (.slice Al q cl) → Calls Tryz.prog 39 #[.int .i64 x, .int .i64 a] W fun e w' => e = .returned (.agg #[.int .i64 k1, .int .i64 k2]) ∧ KJ w w' b1 b4 (.slice Am n cm) (.slice Al q cl) ∧ Below W.heap.size W w') := fun W hW => by
    refine (of_any x a W).mono ?_
    rintro e w' ⟨rfl, hb⟩
    rw [hk1.out, hk2.out]
    exact ⟨rfl, hW.step hb, hb⟩
  have HWI : Hid (∀ W, KJ w W b1 b4 (.slice Am n cm) (.slice Al q cl) → Calls Tryz.prog 50 #[.slice Al q cl, .agg #[.int .i64 k1, .int .i64 k2]] W fun e w' => ∃ (A' : Option Addr) (c' : Nat), e = .returned (.slice A' (q + 1) c') ∧ KJ w w' b1 b4 (.slice Am n cm) (.slice Al q cl) ∧ Hid (RowAt w' A' (lkCells (withL ls (k1, k2)))) ∧ Below W.heap.size W w') := fun W hW => by
    have hg := HGD.out
    refine (with_any Al q cl ls k1 k2 W HG.out.llen (HG.out.lrow.below hW.old) HN.out.2 hg.ls_.1 (by rw [← HOL.out]; exact of_new hg.ls_ HX.out) (fun p hp => by
      have h1 := hg.ls_.2 p hp
      exact ⟨hg.ms_.2 _ h1.2.1, hg.ms_.2 _ h1.2.2⟩) HALL.out.2.2.2).mono ?_
    rintro e w' ⟨A', c', rfl, h2⟩
    exact ⟨A', c', rfl, hW.step h2.out.2, h2.out.1, h2.out.2⟩
  have HCP : Hid (∀ (A1 : Option Addr) (c1 : Nat) (A : Option Addr) (c : Nat) W, KJ w W b1 b4 (.slice Am n cm) (.slice Al q cl) → RowAt W A1 (intVs (inOrder (ms ++ [x]))) → RowAt W A (lkCells (withL ls (k1, k2))) → Calls Tryz.prog 49 #[.agg #[.slice A1 (n + 1) c1, .slice A (q + 1) c]] W fun e w' => ∃ (Am' : Option Addr) (n' cm' : Nat) (Al' : Option Addr) (q' cl' : Nat) (v : Value), e = .returned (.tuple #[grV Am' n' cm' Al' q' cl', v]) ∧ KJ w w' b1 b4 (.slice Am n cm) (.slice Al q cl) ∧ Hid (ErrIs w' v (doneP (inOrder (ms ++ [x])) (withL ls (k1, k2))).1 ∧ GrOwn w.heap.size w' Am' n' cm' Al' q' cl' (doneP (inOrder (ms ++ [x])) (withL ls (k1, k2))).2.1 (doneP (inOrder (ms ++ [x])) (withL ls (k1, k2))).2.2)) := fun A1 c1 A c W hW h1 h2 => by
    have h8 := HGD.out.small
    refine (copied_any A1 (n + 1) c1 A (q + 1) c (inOrder (ms ++ [x])) (withL ls (k1, k2)) W ⟨HALL.out.2.2.1, by rw [with_len, HG.out.llen], h1, h2⟩ (by rw [HG.out.mlen] at h8; omega) (by rw [HG.out.llen] at h8; omega)).mono ?_
    rintro e w' ⟨Am', n', cm', Al', q', cl', v, rfl, h2⟩
    exact ⟨Am', n', cm', Al', q', cl', v, rfl, hW.step h2.out.2.2, h2.out.1, h2.out.2.1.mono hW.old.size⟩
  have hm1 : Hid (n + 1 ≤ maxLen) := Nat.le_trans (show n + 1 ≤ 1001 by have := HN.out; omega) (by decide)
  have hbb : Hid ((n + 1) * 8 ≤ 140737488355328) := by have := HN.out; simp only [Hid]; omega
  obtain ⟨i0, hi, hz0, hz1, hz2⟩ := info_parts int_info
  clear m1 m2 HHS HSE HB HCK hk1 hk2 HX
  go_wp2_with fail
  refine HC1.out.mono ?_
  rintro e w3 ⟨rfl, hK3⟩
  obtain ⟨_, _, hkb⟩ := hK3.kb; obtain ⟨c1, c2, r0, r1, rf, l1, l2, n12, n21⟩ := hkb.cells
  go_wp2_with fail
  refine (HC2.out w3 hK3).mono ?_
  rintro e w4 ⟨rfl, hK4⟩
  obtain ⟨_, _, hkb⟩ := hK4.kb; obtain ⟨c1, c2, r0, r1, rf, l1, l2, n12, n21⟩ := hkb.cells
  clear HC1 HC2 hK3 HK2
  go_wp2_with fail
  refine (HCI.out w4 hK4).mono ?_
  rintro e w5 ⟨A5, d5, rfl, hown5, hb5⟩
  have HS5 : Hid (w4.heap.size ≤ w5.heap.size ∧ ∀ o, w4.heap.size ≤ (w5.alloc o).heap.size) := ⟨hb5.size, fun o => by have := hb5.size; simp; omega⟩
  go_wp2_with (at_builtin; refine wpList_append_lies _ rfl _ _ 22 rfl w4.heap.size 3 i0 (.int .i64 0) 1 8 Tryz.underlying22 hi hz0 hz1 hz2 rfl (by decide) (.slice A5 n d5) n _ rfl (hown5.alloc _) ⟨w5.heap.size, 0, none⟩ 1 1 [.int .i64 x] rfl rfl (new1 _ _ _ _ (by simp)) (by simp [Value.oneCell']) (by decide) hm1.out hbb.out (HS5.out.2 _) (w5.heap.size + 1) (by simp) ?_; intro g8 c8 w6 hown6 hgrow6 hog6 hlt6; have hb6 := below_push (hb5.alloc HS5.out.1 _) (hown5.alloc _) (HS5.out.2 _) hgrow6)
  refine (HSO.out _ _ _ _ hK4 hb6 hown6).mono ?_
  rintro e w7 ⟨rfl, hK7, HR7⟩
  clear hown5 hb5 HS5 hown6 hgrow6 hog6 hlt6 hb6 hK4 HSO HCI
  obtain ⟨_, _, hkb⟩ := hK7.kb; obtain ⟨c1, c2, r0, r1, rf, l1, l2, n12, n21⟩ := hkb.cells
  have hK7d : KJ w w7.drew b1 b4 (.slice Am n cm) (.slice Al q cl) := hK7.step (Below.refl _ _).drew
  have HR7d : Hid (RowAt w7.drew (some ⟨g8, 0, none⟩) (intVs (inOrder (ms ++ [x])))) := HR7.out.below (Below.refl _ _).drew
  go_wp2_with fail
  (go_region_held3 (fun W => W.cell? ⟨b1, 0, none⟩ = some (.slice Am n cm) ∧ W.cell? ⟨b1, 1, none⟩ = some (.slice Al q cl) ∧ Hid (∃ u0 u1, KB w W b1 b4 (.slice Am n cm) (.slice Al q cl) u0 u1)) (first | assumption | exact KJ.set (by assumption) _ _) (first
      | (go_at_call 39; refine (HOF.out _ (by assumption)).mono ?_; rintro e w8 ⟨rfl, hK8, hb8⟩)
      | (go_at_call 50; refine (HWI.out _ (by assumption)).mono ?_; rintro e w9 ⟨A9, d9, rfl, hK9, h9, hb9⟩)
      | (go_at_call 49; refine (HCP.out _ _ _ _ _ (by assumption) ((HR7d.out.below hb8).below hb9) h9.out).mono ?_; rintro e w10 ⟨Am9, n9, cm9, Al9, q9, cl9, v9, rfl, hK10, h10⟩; obtain ⟨_, _, hkb⟩ := hK10.kb; obtain ⟨c1, c2, r0, r1, rf, l1, l2, n12, n21⟩ := hkb.cells)
      | fail))
  all_goals
    clear hK7 hK7d hK8 hK9 hK10
    go_wp2
    refine bodyPost_ret (v := .tuple #[grV Am9 n9 cm9 Al9 q9 cl9, v9]) ?_ rfl ?_
    · simp [results, Tryz.results28, go_sem, r0, r1, rf, n12, n21]
    · rw [HSW.out]; exact Gives.yes hkb h10.out.1 h10.out.2
end
end Go.Proofs.YtlkfcfcejicdkaaGreatDoor
