/-
  tree: Swap, walked. Own work.
-/
import Derived.Test.YtlkfcfcejicdkaaGreatDoorTreeWith2
import Derived.Deep.RegionHeld3
set_option linter.unusedSimpArgs false
set_option linter.unusedVariables false
namespace Go.Proofs.YtlkfcfcejicdkaaGreatDoor
open Go Go.RowKit

theorem Gives.no {w W : World} {b1 b2 : Nat} {v0 v1 u0 u1 v : Value} {e : Er} (hK : KB w W b1 b2 v0 v1 u0 u1) (hE : ErrIs W v e) :
    Gives w (.returned (.tuple #[grV none 0 0 none 0 0, v])) ((W.setCell ⟨b2, 0, none⟩ (.slice none 0 0)).setCell ⟨b2, 1, none⟩ (.slice none 0 0)) (e, [], []) :=
  ⟨none, 0, 0, none, 0, 0, v, rfl, hE.set hK.r _ _, GrOwn.nil _ _, (hK.set _ _).old⟩
theorem Gives.yes {w W : World} {b1 b2 : Nat} {v0 v1 u0 u1 v : Value} {r : Er × Gr} {Am : Option Addr} {n cm : Nat} {Al : Option Addr} {q cl : Nat} (hK : KB w W b1 b2 v0 v1 u0 u1) (hE : ErrIs W v r.1) (hG : GrOwn w.heap.size W Am n cm Al q cl r.2.1 r.2.2) :
    Gives w (.returned (.tuple #[grV Am n cm Al q cl, v])) ((W.setCell ⟨b2, 0, none⟩ (.slice Am n cm)).setCell ⟨b2, 1, none⟩ (.slice Al q cl)) r :=
  ⟨Am, n, cm, Al, q, cl, v, rfl, hE.set hK.r _ _, GrOwn.set hG hK.r _ _, (hK.set _ _).old⟩
theorem Good.small {ms : List Int} {ls : List Lk} (h : Good ms ls) : ms.length ≤ 8 ∧ ls.length ≤ 8 := by
  have h1 : ms.length ≤ 8 := nodup_le h.tr.nodup h.ms_.2
  have := h.tr.len
  exact ⟨h1, by omega⟩
/-- Three boxes, and the result's. -/
def KS (w0 W : World) (b1 b2 b3 b4 : Nat) (v0 v1 : Value) (o1 o2 p1 p2 : Int) : Prop :=
  W.cell? ⟨b1, 0, none⟩ = some v0 ∧ W.cell? ⟨b1, 1, none⟩ = some v1 ∧ W.cell? ⟨b2, 0, none⟩ = some (.int .i64 o1) ∧ W.cell? ⟨b2, 1, none⟩ = some (.int .i64 o2) ∧ W.cell? ⟨b3, 0, none⟩ = some (.int .i64 p1) ∧ W.cell? ⟨b3, 1, none⟩ = some (.int .i64 p2) ∧ Hid ((∃ u0 u1, KB w0 W b1 b4 v0 v1 u0 u1) ∧ b2 < b4 ∧ b3 < b4)
theorem cell_below {w w' : World} {a : Addr} {v : Value} (h : w.cell? a = some v) (hb : Below w.heap.size w w') : w'.cell? a = some v :=
  (World.cell?_of_block (w := w) (a := a) (hb.block _ (World.block_lt_of_cell? w _ h))).trans h
theorem KS.step {w0 W W' : World} {b1 b2 b3 b4 : Nat} {v0 v1 : Value} {o1 o2 p1 p2 : Int} (h : KS w0 W b1 b2 b3 b4 v0 v1 o1 o2 p1 p2) (hb : Below W.heap.size W W') : KS w0 W' b1 b2 b3 b4 v0 v1 o1 o2 p1 p2 :=
  ⟨cell_below h.1 hb, cell_below h.2.1 hb, cell_below h.2.2.1 hb, cell_below h.2.2.2.1 hb, cell_below h.2.2.2.2.1 hb, cell_below h.2.2.2.2.2.1 hb, ⟨h.2.2.2.2.2.2.out.1.choose, h.2.2.2.2.2.2.out.1.choose_spec.choose, h.2.2.2.2.2.2.out.1.choose_spec.choose_spec.below hb⟩, h.2.2.2.2.2.2.out.2⟩
theorem KS.kb {w0 W : World} {b1 b2 b3 b4 : Nat} {v0 v1 : Value} {o1 o2 p1 p2 : Int} (h : KS w0 W b1 b2 b3 b4 v0 v1 o1 o2 p1 p2) : ∃ u0 u1, KB w0 W b1 b4 v0 v1 u0 u1 := h.2.2.2.2.2.2.out.1
theorem KS.old {w0 W : World} {b1 b2 b3 b4 : Nat} {v0 v1 : Value} {o1 o2 p1 p2 : Int} (h : KS w0 W b1 b2 b3 b4 v0 v1 o1 o2 p1 p2) : Below w0.heap.size w0 W := h.kb.choose_spec.choose_spec.old
theorem cell_far {W : World} {a : Addr} {v : Value} {b : Nat} (h : W.cell? a = some v) (hb : a.block < b) (i j : Nat) (x y : Value) : ((W.setCell ⟨b, i, none⟩ x).setCell ⟨b, j, none⟩ y).cell? a = some v := by
  refine (World.cell?_of_block (w := W) (a := a) ?_).trans h
  rw [Below.heap_setCell _ _ _ _ (by show a.block ≠ b; omega), Below.heap_setCell _ _ _ _ (by show a.block ≠ b; omega)]
theorem KS.set {w0 W : World} {b1 b2 b3 b4 : Nat} {v0 v1 : Value} {o1 o2 p1 p2 : Int} (h : KS w0 W b1 b2 b3 b4 v0 v1 o1 o2 p1 p2) (x y : Value) : KS w0 ((W.setCell ⟨b4, 0, none⟩ x).setCell ⟨b4, 1, none⟩ y) b1 b2 b3 b4 v0 v1 o1 o2 p1 p2 := by
  obtain ⟨u0, u1, hk⟩ := h.kb
  have h12 := hk.n.2
  obtain ⟨g1, g2, g3, g4, g5, g6, g7⟩ := h
  exact ⟨cell_far g1 h12 _ _ _ _, cell_far g2 h12 _ _ _ _, cell_far g3 g7.out.2.1 _ _ _ _, cell_far g4 g7.out.2.1 _ _ _ _, cell_far g5 g7.out.2.2 _ _ _ _, cell_far g6 g7.out.2.2 _ _ _ _, ⟨_, _, hk.set x y⟩, g7.out.2⟩

theorem kb_new4 (w : World) (v0 v1 : Value) (o1 o2 p1 p2 : Int) : KS w ((((w.alloc (.cells #[v0, v1] 25)).alloc (.cells #[.int .i64 o1, .int .i64 o2] 35)).alloc (.cells #[.int .i64 p1, .int .i64 p2] 35)).alloc (.cells #[.slice none 0 0, .slice none 0 0] 25)) w.heap.size (w.heap.size + 1) (w.heap.size + 1 + 1) (w.heap.size + 1 + 1 + 1) v0 v1 o1 o2 p1 p2 := by
  obtain ⟨w1, h1⟩ : ∃ w1, w1 = w.alloc (.cells #[v0, v1] 25) := ⟨_, rfl⟩
  obtain ⟨w2, h2⟩ : ∃ w2, w2 = w1.alloc (.cells #[.int .i64 o1, .int .i64 o2] 35) := ⟨_, rfl⟩
  obtain ⟨w3, h3⟩ : ∃ w3, w3 = w2.alloc (.cells #[.int .i64 p1, .int .i64 p2] 35) := ⟨_, rfl⟩
  rw [← h1, ← h2, ← h3]
  have s1 : w1.heap.size = w.heap.size + 1 := by rw [h1]; simp
  have s2 : w2.heap.size = w.heap.size + 1 + 1 := by rw [h2]; simp [s1]
  have s3 : w3.heap.size = w.heap.size + 1 + 1 + 1 := by rw [h3]; simp [s2]
  have b1 : w1.heap[w.heap.size]? = some (.cells #[v0, v1] 25 (0, 0)) := by rw [h1]; exact heap_alloc_new _ _
  have b2 : w2.heap[w.heap.size + 1]? = some (.cells #[.int .i64 o1, .int .i64 o2] 35 (0, 0)) := by rw [h2, ← s1]; exact heap_alloc_new _ _
  have b3 : w3.heap[w.heap.size + 1 + 1]? = some (.cells #[.int .i64 p1, .int .i64 p2] 35 (0, 0)) := by rw [h3, ← s2]; exact heap_alloc_new _ _
  have k2 : Below w1.heap.size w1 w2 := by rw [h2]; exact (Below.refl _ _).alloc (Nat.le_refl _) _
  have k3 : Below w2.heap.size w2 w3 := by rw [h3]; exact (Below.refl _ _).alloc (Nat.le_refl _) _
  have k4 : Below w3.heap.size w3 (w3.alloc (.cells #[.slice none 0 0, .slice none 0 0] 25)) := (Below.refl _ _).alloc (Nat.le_refl _) _
  have k1 : Below w.heap.size w w1 := by rw [h1]; exact (Below.refl _ _).alloc (Nat.le_refl _) _
  have g1 := (k4.block w.heap.size (by omega)).trans ((k3.block w.heap.size (by omega)).trans ((k2.block w.heap.size (by omega)).trans b1))
  have g2 := (k4.block (w.heap.size + 1) (by omega)).trans ((k3.block (w.heap.size + 1) (by omega)).trans b2)
  have g3 := (k4.block (w.heap.size + 1 + 1) (by omega)).trans b3
  obtain ⟨c1, c2, _⟩ := cell2 g1
  obtain ⟨c3, c4, _⟩ := cell2 g2
  obtain ⟨c5, c6, _⟩ := cell2 g3
  exact ⟨c1, c2, c3, c4, c5, c6, ⟨_, _, ⟨g1, by rw [← s3]; exact heap_alloc_new _ _, by omega, k1.trans ((k2.trans ((k3.trans (k4.mono (by omega))).mono (by omega))).mono (by omega))⟩⟩, by omega, by omega⟩

theorem swapP_no {ms : List Int} {ls : List Lk} {old other : Lk} {e : Er} (h : swapE ms ls old other = e) (he : e ≠ none) : swapP ms ls old other = (e, [], []) := by
  unfold swapP
  rw [h]
  cases e with
  | none => exact absurd rfl he
  | some e => rfl
theorem swapP_ok {ms : List Int} {ls : List Lk} {old other : Lk} (h : swapE ms ls old other = none) : swapP ms ls old other = doneP ms (withL (but ls old) other) := by
  unfold swapP
  rw [h]

section
variable (Am : Option Addr) (n cm : Nat) (Al : Option Addr) (q cl : Nat) (ms : List Int) (ls : List Lk) (o1 o2 p1 p2 : Int) (w : World)
set_option maxRecDepth 100000 in
set_option maxHeartbeats 4000000 in
theorem swap_any (hG : GrAt w Am n Al q ms ls) (hn : n ≤ 1000) (hq : q ≤ 1000) :
    Calls Tryz.prog 23 #[grV Am n cm Al q cl, .agg #[.int .i64 o1, .int .i64 o2], .agg #[.int .i64 p1, .int .i64 p2]] w fun e w' => Gives w e w' (swapP ms ls (o1, o2) (p1, p2)) := by
  have HG := Lib.hid hG
  have HN : Hid (n ≤ 1000 ∧ q ≤ 1000) := ⟨hn, hq⟩
  clear hG hn hq
  have HCK : Hid (∀ W, Below w.heap.size w W → Calls Tryz.prog 26 #[grV Am n cm Al q cl] W fun e w' => ∃ v, e = .returned v ∧ Hid (ErrIs w' v (chk ms ls) ∧ Below W.heap.size W w')) := fun W hW => check_any Am n cm Al q cl ms ls W (HG.out.below hW) HN.out.1 HN.out.2
  obtain ⟨b1, hb1⟩ : ∃ b, b = w.heap.size := ⟨_, rfl⟩
  obtain ⟨b2, hb2⟩ : ∃ b, b = w.heap.size + 1 := ⟨_, rfl⟩
  obtain ⟨b3, hb3⟩ : ∃ b, b = w.heap.size + 1 + 1 := ⟨_, rfl⟩
  obtain ⟨b4, hb4⟩ : ∃ b, b = w.heap.size + 1 + 1 + 1 := ⟨_, rfl⟩
  obtain ⟨w1, hw1⟩ : ∃ w1, w1 = (((w.alloc (.cells #[.slice Am n cm, .slice Al q cl] 25)).alloc (.cells #[.int .i64 o1, .int .i64 o2] 35)).alloc (.cells #[.int .i64 p1, .int .i64 p2] 35)).alloc (.cells #[.slice none 0 0, .slice none 0 0] 25) := ⟨_, rfl⟩
  have HB : Hid (KS w w1 b1 b2 b3 b4 (.slice Am n cm) (.slice Al q cl) o1 o2 p1 p2) := by rw [hw1, hb1, hb2, hb3, hb4]; exact kb_new4 w _ _ _ _ _ _
  go_enter Tryz.func23, Tryz.ntmps23
  go_wp2_with fail
  rw [← hw1, ← hb4, ← hb3, ← hb2, ← hb1]
  clear hw1 hb1 hb2 hb3 hb4
  refine (HCK.out w1 HB.out.old).mono ?_
  rintro e w2 ⟨v, rfl, HE⟩
  have HK2 := Lib.hid (HB.out.step HE.out.2)
  obtain ⟨_, _, hkb⟩ := HK2.out.kb; obtain ⟨_, _, r0, r1, rf, l1, l2, n12, n21⟩ := hkb.cells
  obtain ⟨c1, c2, c3, c4, c5, c6, _⟩ := HK2.out
  rcases HE.out.1.cases with ⟨hc, rfl⟩ | ⟨hc, t, x, rfl⟩
  case inr =>
    have HSW : Hid (swapP ms ls (o1, o2) (p1, p2) = (chk ms ls, [], [])) := swapP_no (by
      unfold swapE
      cases h : chk ms ls with
      | none => exact absurd h hc
      | some e => rfl) hc
    clear hc
    go_wp2
    refine bodyPost_ret (v := .tuple #[grV none 0 0 none 0 0, .iface t x]) ?_ rfl ?_
    · simp [results, Tryz.results23, go_sem, r0, r1, rf, n12, n21]
    · rw [HSW.out]; exact Gives.no hkb HE.out.1
  case inl =>
  have HSE : Hid (swapE ms ls (o1, o2) (p1, p2) = if o1 ≥ o2 ∨ p1 ≥ p2 then plainE 1 else if p1 ∉ ms ∨ p2 ∉ ms then plainE 12 else if (o1, o2) ∉ ls ∨ (p1, p2) ∈ ls then plainE 13 else none) := by
    unfold swapE; rw [hc]; rfl
  have HGD := Lib.hid (chk_good hc)
  clear hc HE
  by_cases a1 : o1 ≥ o2
  · have HSW : Hid (swapP ms ls (o1, o2) (p1, p2) = (plainE 1, [], [])) := swapP_no (by rw [HSE.out, if_pos (.inl a1)]) (by simp [plainE])
    have a2 : o2 ≤ o1 := a1
    go_wp2
    refine bodyPost_ret (v := .tuple #[grV none 0 0 none 0 0, .iface 41 (.int .i64 1)]) ?_ rfl ?_
    · simp [results, Tryz.results23, go_sem, r0, r1, rf, n12, n21]
    · rw [HSW.out]; exact Gives.no hkb rfl

  by_cases a2 : p1 ≥ p2
  · have HSW : Hid (swapP ms ls (o1, o2) (p1, p2) = (plainE 1, [], [])) := swapP_no (by rw [HSE.out, if_pos (.inr a2)]) (by simp [plainE])
    have a3 : p2 ≤ p1 := a2
    have a4 : o1 < o2 := by omega
    go_wp2
    refine bodyPost_ret (v := .tuple #[grV none 0 0 none 0 0, .iface 41 (.int .i64 1)]) ?_ rfl ?_
    · simp [results, Tryz.results23, go_sem, r0, r1, rf, n12, n21]
    · rw [HSW.out]; exact Gives.no hkb rfl

  have HLT : Hid (o1 < o2 ∧ p1 < p2) := ⟨by omega, by omega⟩
  have a3 : o1 < o2 := by omega
  have a4 : p1 < p2 := by omega
  rw [if_neg (by omega)] at HSE
  have HHS : Hid (∀ x W, KS w W b1 b2 b3 b4 (.slice Am n cm) (.slice Al q cl) o1 o2 p1 p2 → Calls Tryz.prog 48 #[grV Am n cm Al q cl, .int .i64 x] W fun e w' => e = .returned (.bool (decide (x ∈ ms))) ∧ KS w w' b1 b2 b3 b4 (.slice Am n cm) (.slice Al q cl) o1 o2 p1 p2) := fun x W hW => by
    refine (has_any Am n cm Al q cl ms x W HG.out.mlen (HG.out.mrow.below hW.old) (Nat.le_trans HN.out.1 (by decide))).mono ?_
    rintro e w' ⟨rfl, hb⟩
    exact ⟨rfl, hW.step hb⟩
  have HCL : Hid (∀ x1 x2 W, KS w W b1 b2 b3 b4 (.slice Am n cm) (.slice Al q cl) o1 o2 p1 p2 → Calls Tryz.prog 38 #[.slice Al q cl, .agg #[.int .i64 x1, .int .i64 x2]] W fun e w' => e = .returned (.bool (decide ((x1, x2) ∈ ls))) ∧ KS w w' b1 b2 b3 b4 (.slice Am n cm) (.slice Al q cl) o1 o2 p1 p2) := fun x1 x2 W hW => by
    refine (containsL_any Al q cl ls (x1, x2) W x1 x2 rfl HG.out.llen (HG.out.lrow.below hW.old) (Nat.le_trans HN.out.2 (by decide))).mono ?_
    rintro e w' ⟨rfl, hb⟩
    exact ⟨rfl, hW.step hb⟩
  by_cases m1 : p1 ∈ ms
  case neg =>
    have HSW : Hid (swapP ms ls (o1, o2) (p1, p2) = (plainE 12, [], [])) := swapP_no (by rw [HSE.out, if_pos (.inl m1)]) (by simp [plainE])
    have HC1 := Lib.hid (HHS.out p1 w2 HK2.out)
    rw [decide_eq_false m1] at HC1
    clear m1 HHS HCL HSE HB HCK
    go_wp2_with fail
    refine HC1.out.mono ?_
    rintro e w3 ⟨rfl, hK3⟩
    obtain ⟨_, _, hkb⟩ := hK3.kb; obtain ⟨_, _, r0, r1, rf, l1, l2, n12, n21⟩ := hkb.cells
    obtain ⟨c1, c2, c3, c4, c5, c6, _⟩ := id hK3
    go_wp2
    refine bodyPost_ret (v := .tuple #[grV none 0 0 none 0 0, .iface 41 (.int .i64 12)]) ?_ rfl ?_
    · simp [results, Tryz.results23, go_sem, r0, r1, rf, n12, n21]
    · rw [HSW.out]; exact Gives.no hkb rfl

  case pos =>
  have HC1 := Lib.hid (HHS.out p1 w2 HK2.out)
  rw [decide_eq_true m1] at HC1
  by_cases m2 : p2 ∈ ms
  case neg =>
    have HSW : Hid (swapP ms ls (o1, o2) (p1, p2) = (plainE 12, [], [])) := swapP_no (by rw [HSE.out, if_pos (.inr m2)]) (by simp [plainE])
    have HC2 := Lib.hid (fun W hW => HHS.out p2 W hW)
    rw [decide_eq_false m2] at HC2
    clear m1 m2 HHS HCL HSE HB HCK
    go_wp2_with fail
    refine HC1.out.mono ?_
    rintro e w3 ⟨rfl, hK3⟩
    obtain ⟨c1, c2, c3, c4, c5, c6, _⟩ := id hK3
    go_wp2_with fail
    refine (HC2.out w3 hK3).mono ?_
    rintro e w4 ⟨rfl, hK4⟩
    obtain ⟨_, _, hkb⟩ := hK4.kb; obtain ⟨_, _, r0, r1, rf, l1, l2, n12, n21⟩ := hkb.cells
    obtain ⟨c1, c2, c3, c4, c5, c6, _⟩ := id hK4
    go_wp2
    refine bodyPost_ret (v := .tuple #[grV none 0 0 none 0 0, .iface 41 (.int .i64 12)]) ?_ rfl ?_
    · simp [results, Tryz.results23, go_sem, r0, r1, rf, n12, n21]
    · rw [HSW.out]; exact Gives.no hkb rfl

  case pos =>
  have HC2 := Lib.hid (fun W hW => HHS.out p2 W hW)
  rw [decide_eq_true m2] at HC2
  have HSE2 : Hid (swapE ms ls (o1, o2) (p1, p2) = if (o1, o2) ∉ ls ∨ (p1, p2) ∈ ls then plainE 13 else none) := by rw [Hid, HSE.out, if_neg (fun e => e.elim (fun e => e m1) (fun e => e m2))]
  have HMM : Hid (p1 ∈ ms ∧ p2 ∈ ms) := ⟨m1, m2⟩
  clear m1 m2 HHS HSE HB HCK a1 a2
  go_wp2_with fail
  refine HC1.out.mono ?_
  rintro e w3 ⟨rfl, hK3⟩
  obtain ⟨c1, c2, c3, c4, c5, c6, _⟩ := id hK3
  go_wp2_with fail
  refine (HC2.out w3 hK3).mono ?_
  rintro e w4 ⟨rfl, hK4⟩
  obtain ⟨_, _, hkb⟩ := hK4.kb; obtain ⟨_, _, r0, r1, rf, l1, l2, n12, n21⟩ := hkb.cells
  obtain ⟨c1, c2, c3, c4, c5, c6, _⟩ := id hK4
  by_cases m1 : (o1, o2) ∈ ls
  case neg =>
    have HSW : Hid (swapP ms ls (o1, o2) (p1, p2) = (plainE 13, [], [])) := swapP_no (by rw [HSE2.out, if_pos (.inl m1)]) (by simp [plainE])
    have HC3 := Lib.hid (HCL.out o1 o2 w4 hK4)
    rw [decide_eq_false m1] at HC3
    clear m1 HCL HSE2 HC1 HC2
    go_wp2_with fail
    refine HC3.out.mono ?_
    rintro e w5 ⟨rfl, hK5⟩
    obtain ⟨_, _, hkb⟩ := hK5.kb; obtain ⟨_, _, r0, r1, rf, l1, l2, n12, n21⟩ := hkb.cells
    obtain ⟨c1, c2, c3, c4, c5, c6, _⟩ := id hK5
    go_wp2
    refine bodyPost_ret (v := .tuple #[grV none 0 0 none 0 0, .iface 41 (.int .i64 13)]) ?_ rfl ?_
    · simp [results, Tryz.results23, go_sem, r0, r1, rf, n12, n21]
    · rw [HSW.out]; exact Gives.no hkb rfl

  case pos =>
  have HC3 := Lib.hid (HCL.out o1 o2 w4 hK4)
  rw [decide_eq_true m1] at HC3
  by_cases m2 : (p1, p2) ∈ ls
  case pos =>
    have HSW : Hid (swapP ms ls (o1, o2) (p1, p2) = (plainE 13, [], [])) := swapP_no (by rw [HSE2.out, if_pos (.inr m2)]) (by simp [plainE])
    have HC4 := Lib.hid (fun W hW => HCL.out p1 p2 W hW)
    rw [decide_eq_true m2] at HC4
    clear m1 m2 HCL HSE2 HC1 HC2
    go_wp2_with fail
    refine HC3.out.mono ?_
    rintro e w5 ⟨rfl, hK5⟩
    obtain ⟨c1, c2, c3, c4, c5, c6, _⟩ := id hK5
    go_wp2_with fail
    refine (HC4.out w5 hK5).mono ?_
    rintro e w6 ⟨rfl, hK6⟩
    obtain ⟨_, _, hkb⟩ := hK6.kb; obtain ⟨_, _, r0, r1, rf, l1, l2, n12, n21⟩ := hkb.cells
    obtain ⟨c1, c2, c3, c4, c5, c6, _⟩ := id hK6
    go_wp2
    refine bodyPost_ret (v := .tuple #[grV none 0 0 none 0 0, .iface 41 (.int .i64 13)]) ?_ rfl ?_
    · simp [results, Tryz.results23, go_sem, r0, r1, rf, n12, n21]
    · rw [HSW.out]; exact Gives.no hkb rfl

  case neg =>
  have HC4 := Lib.hid (fun W hW => HCL.out p1 p2 W hW)
  rw [decide_eq_false m2] at HC4
  have HSW : Hid (swapP ms ls (o1, o2) (p1, p2) = doneP ms (withL (but ls (o1, o2)) (p1, p2))) := swapP_ok (by rw [HSE2.out, if_neg (fun e => e.elim (fun e => e m1) (fun e => m2 e))])
  have HWO : Hid (∀ W, KS w W b1 b2 b3 b4 (.slice Am n cm) (.slice Al q cl) o1 o2 p1 p2 → Calls Tryz.prog 51 #[.slice Al q cl, .agg #[.int .i64 o1, .int .i64 o2]] W fun e w' => ∃ (A' : Option Addr) (m c' : Nat), e = .returned (.slice A' m c') ∧ KS w w' b1 b2 b3 b4 (.slice Am n cm) (.slice Al q cl) o1 o2 p1 p2 ∧ Hid ((but ls (o1, o2)).length = m ∧ RowAt w' A' (lkCells (but ls (o1, o2))))) := fun W hW => by
    refine (without_any Al q cl ls (o1, o2) W o1 o2 rfl HG.out.llen (HG.out.lrow.below hW.old) HN.out.2).mono ?_
    rintro e w' ⟨A', m, c', rfl, h⟩
    exact ⟨A', m, c', rfl, hW.step h.out.2.2, h.out.1, RowAt.of_own h.out.2.1⟩
  have HWI : Hid (∀ (A : Option Addr) (m c : Nat) W, KS w W b1 b2 b3 b4 (.slice Am n cm) (.slice Al q cl) o1 o2 p1 p2 → Hid ((but ls (o1, o2)).length = m ∧ RowAt W A (lkCells (but ls (o1, o2)))) → Calls Tryz.prog 50 #[.slice A m c, .agg #[.int .i64 p1, .int .i64 p2]] W fun e w' => ∃ (A' : Option Addr) (c' : Nat), e = .returned (.slice A' (m + 1) c') ∧ KS w w' b1 b2 b3 b4 (.slice Am n cm) (.slice Al q cl) o1 o2 p1 p2 ∧ Hid ((withL (but ls (o1, o2)) (p1, p2)).length = m + 1 ∧ m + 1 ≤ 1000 ∧ RowAt w' A' (lkCells (withL (but ls (o1, o2)) (p1, p2))))) := fun A m c W hW h => by
    have hg := HGD.out
    have hm : m ≤ 8 := by
      rw [← h.out.1]
      exact Nat.le_trans (List.length_filter_le _ _) hg.small.2
    refine (with_any A m c (but ls (o1, o2)) p1 p2 W h.out.1 h.out.2 (by omega) (but_sorted hg.ls_.1) (fun e => m2 (but_mem.1 e).1) (fun p hp => by
      have h1 := hg.ls_.2 p (but_mem.1 hp).1
      exact ⟨hg.ms_.2 _ h1.2.1, hg.ms_.2 _ h1.2.2⟩) ⟨hg.ms_.2 _ HMM.out.1, hg.ms_.2 _ HMM.out.2⟩).mono ?_
    rintro e w' ⟨A', c', rfl, h2⟩
    exact ⟨A', c', rfl, hW.step h2.out.2, by rw [with_len, h.out.1], by omega, h2.out.1⟩
  have HCP : Hid (∀ (A : Option Addr) (m c : Nat) W, KS w W b1 b2 b3 b4 (.slice Am n cm) (.slice Al q cl) o1 o2 p1 p2 → Hid ((withL (but ls (o1, o2)) (p1, p2)).length = m ∧ m ≤ 1000 ∧ RowAt W A (lkCells (withL (but ls (o1, o2)) (p1, p2)))) → Calls Tryz.prog 49 #[.agg #[.slice Am n cm, .slice A m c]] W fun e w' => ∃ (Am' : Option Addr) (n' cm' : Nat) (Al' : Option Addr) (q' cl' : Nat) (v : Value), e = .returned (.tuple #[grV Am' n' cm' Al' q' cl', v]) ∧ KS w w' b1 b2 b3 b4 (.slice Am n cm) (.slice Al q cl) o1 o2 p1 p2 ∧ Hid (ErrIs w' v (doneP ms (withL (but ls (o1, o2)) (p1, p2))).1 ∧ GrOwn w.heap.size w' Am' n' cm' Al' q' cl' (doneP ms (withL (but ls (o1, o2)) (p1, p2))).2.1 (doneP ms (withL (but ls (o1, o2)) (p1, p2))).2.2)) := fun A m c W hW h => by
    refine (copied_any Am n cm A m c ms (withL (but ls (o1, o2)) (p1, p2)) W ⟨HG.out.mlen, h.out.1, HG.out.mrow.below hW.old, h.out.2.2⟩ HN.out.1 h.out.2.1).mono ?_
    rintro e w' ⟨Am', n', cm', Al', q', cl', v, rfl, h2⟩
    exact ⟨Am', n', cm', Al', q', cl', v, rfl, hW.step h2.out.2.2, h2.out.1, h2.out.2.1.mono hW.old.size⟩
  clear m1 m2 HCL HSE2 HC1 HC2
  go_wp2_with fail
  refine HC3.out.mono ?_
  rintro e w5 ⟨rfl, hK5⟩
  obtain ⟨c1, c2, c3, c4, c5, c6, _⟩ := id hK5
  go_wp2_with fail
  refine (HC4.out w5 hK5).mono ?_
  rintro e w6 ⟨rfl, hK6⟩
  obtain ⟨c1, c2, c3, c4, c5, c6, _⟩ := id hK6
  have hK6d : KS w w6.drew b1 b2 b3 b4 (.slice Am n cm) (.slice Al q cl) o1 o2 p1 p2 := hK6.step (Below.refl _ _).drew
  clear HC3 HC4 hK3 hK4 hK5
  go_wp2_with fail
  (go_region_held3 (fun W => W.cell? ⟨b1, 0, none⟩ = some (.slice Am n cm) ∧ W.cell? ⟨b1, 1, none⟩ = some (.slice Al q cl) ∧ W.cell? ⟨b2, 0, none⟩ = some (.int .i64 o1) ∧ W.cell? ⟨b2, 1, none⟩ = some (.int .i64 o2) ∧ W.cell? ⟨b3, 0, none⟩ = some (.int .i64 p1) ∧ W.cell? ⟨b3, 1, none⟩ = some (.int .i64 p2) ∧ Hid ((∃ u0 u1, KB w W b1 b4 (.slice Am n cm) (.slice Al q cl) u0 u1) ∧ b2 < b4 ∧ b3 < b4)) (first | assumption | exact KS.set (by assumption) _ _) (first
      | (go_at_call 51; refine (HWO.out _ (by assumption)).mono ?_; rintro e w7 ⟨A7, m7, d7, rfl, hK7, h7⟩)
      | (go_at_call 50; refine (HWI.out _ _ _ _ (by assumption) h7).mono ?_; rintro e w8 ⟨A8, d8, rfl, hK8, h8⟩)
      | (go_at_call 49; refine (HCP.out _ _ _ _ (by assumption) h8).mono ?_; rintro e w9 ⟨Am9, n9, cm9, Al9, q9, cl9, v9, rfl, hK9, h9⟩; obtain ⟨_, _, hkb⟩ := hK9.kb; obtain ⟨_, _, r0, r1, rf, l1, l2, n12, n21⟩ := hkb.cells)
      | fail))
  all_goals
    clear hK6 hK6d hK7 hK8 hK9
    go_wp2
    refine bodyPost_ret (v := .tuple #[grV Am9 n9 cm9 Al9 q9 cl9, v9]) ?_ rfl ?_
    · simp [results, Tryz.results23, go_sem, r0, r1, rf, n12, n21]
    · rw [HSW.out]; exact Gives.yes hkb h9.out.1 h9.out.2
end
end Go.Proofs.YtlkfcfcejicdkaaGreatDoor
