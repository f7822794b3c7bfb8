/-
  tree: Leave, walked. Own work.
-/
import Derived.Test.YtlkfcfcejicdkaaGreatDoorTreeJoin
set_option linter.unusedSimpArgs false
set_option linter.unusedVariables false
namespace Go.Proofs.YtlkfcfcejicdkaaGreatDoor
open Go Go.RowKit

/-- The graph's box, a number's, and the result's. -/
def KI (w0 W : World) (b1 b3 b4 : Nat) (v0 v1 : Value) (x : Int) : Prop := W.cell? ⟨b1, 0, none⟩ = some v0 ∧ W.cell? ⟨b1, 1, none⟩ = some v1 ∧ W.cell? ⟨b3, 0, none⟩ = some (.int .i64 x) ∧ Hid ((∃ u0 u1, KB w0 W b1 b4 v0 v1 u0 u1) ∧ b3 < b4 ∧ W.heap[b3]? = some (.cells #[.int .i64 x] 3 (0, 0)))
/-- And a row's first. -/
def KL (w0 W : World) (b1 b3 b4 : Nat) (v0 v1 : Value) (x : Int) (g off : Nat) (y : Int) : Prop := W.cell? ⟨b1, 0, none⟩ = some v0 ∧ W.cell? ⟨b1, 1, none⟩ = some v1 ∧ W.cell? ⟨b3, 0, none⟩ = some (.int .i64 x) ∧ W.cell? ⟨g, off, none⟩ = some (.int .i64 y) ∧ Hid (((∃ u0 u1, KB w0 W b1 b4 v0 v1 u0 u1) ∧ b3 < b4 ∧ W.heap[b3]? = some (.cells #[.int .i64 x] 3 (0, 0))) ∧ g ≠ b4)
section
variable {w0 W W' : World} {b1 b3 b4 g off : Nat} {v0 v1 : Value} {x y : Int}
theorem KI.kb (h : KI w0 W b1 b3 b4 v0 v1 x) : ∃ u0 u1, KB w0 W b1 b4 v0 v1 u0 u1 := h.2.2.2.out.1
theorem KI.cx (h : KI w0 W b1 b3 b4 v0 v1 x) : W.cell? ⟨b3, 0, none⟩ = some (.int .i64 x) := h.2.2.1
theorem KI.of {u0 u1 : Value} (h : KB w0 W b1 b4 v0 v1 u0 u1) (h3 : b3 < b4) (hx : W.heap[b3]? = some (.cells #[.int .i64 x] 3 (0, 0))) : KI w0 W b1 b3 b4 v0 v1 x := by
  obtain ⟨h1, h2, _⟩ := h.cells
  exact ⟨h1, h2, (cell1 hx).1, ⟨_, _, h⟩, h3, hx⟩
theorem KI.old (h : KI w0 W b1 b3 b4 v0 v1 x) : Below w0.heap.size w0 W := h.kb.choose_spec.choose_spec.old
theorem KI.step (h : KI w0 W b1 b3 b4 v0 v1 x) (hb : Below W.heap.size W W') : KI w0 W' b1 b3 b4 v0 v1 x := by
  obtain ⟨u0, u1, hk⟩ := h.kb
  exact KI.of (hk.below hb) h.2.2.2.out.2.1 ((hb.block b3 (Array.getElem?_eq_some_iff.1 h.2.2.2.out.2.2).1).trans h.2.2.2.out.2.2)
theorem KI.set (h : KI w0 W b1 b3 b4 v0 v1 x) (u z : Value) : KI w0 ((W.setCell ⟨b4, 0, none⟩ u).setCell ⟨b4, 1, none⟩ z) b1 b3 b4 v0 v1 x := by
  obtain ⟨u0, u1, hk⟩ := h.kb
  have h3 := h.2.2.2.out.2.1
  exact KI.of (hk.set u z) h3 (by rw [Below.heap_setCell _ _ _ _ (by show b3 ≠ b4; omega), Below.heap_setCell _ _ _ _ (by show b3 ≠ b4; omega)]; exact h.2.2.2.out.2.2)
theorem KL.ki (h : KL w0 W b1 b3 b4 v0 v1 x g off y) : KI w0 W b1 b3 b4 v0 v1 x := ⟨h.1, h.2.1, h.2.2.1, h.2.2.2.2.out.1⟩
theorem KL.of (h : KI w0 W b1 b3 b4 v0 v1 x) (hy : W.cell? ⟨g, off, none⟩ = some (.int .i64 y)) (hg : g ≠ b4) : KL w0 W b1 b3 b4 v0 v1 x g off y := ⟨h.1, h.2.1, h.2.2.1, hy, h.2.2.2.out, hg⟩
theorem KL.kb (h : KL w0 W b1 b3 b4 v0 v1 x g off y) : ∃ u0 u1, KB w0 W b1 b4 v0 v1 u0 u1 := h.ki.kb
theorem KL.cx (h : KL w0 W b1 b3 b4 v0 v1 x g off y) : W.cell? ⟨b3, 0, none⟩ = some (.int .i64 x) := h.2.2.1
theorem KL.old (h : KL w0 W b1 b3 b4 v0 v1 x g off y) : Below w0.heap.size w0 W := h.ki.old
theorem KL.step (h : KL w0 W b1 b3 b4 v0 v1 x g off y) (hb : Below W.heap.size W W') : KL w0 W' b1 b3 b4 v0 v1 x g off y := KL.of (h.ki.step hb) (cell_below h.2.2.2.1 hb) h.2.2.2.2.out.2
theorem KL.set (h : KL w0 W b1 b3 b4 v0 v1 x g off y) (u z : Value) : KL w0 ((W.setCell ⟨b4, 0, none⟩ u).setCell ⟨b4, 1, none⟩ z) b1 b3 b4 v0 v1 x g off y := by
  refine KL.of (h.ki.set u z) ?_ h.2.2.2.2.out.2
  refine (World.cell?_of_block (w := W) (a := ⟨g, off, none⟩) ?_).trans h.2.2.2.1
  have hg := h.2.2.2.2.out.2
  rw [Below.heap_setCell _ _ _ _ (by show g ≠ b4; omega), Below.heap_setCell _ _ _ _ (by show g ≠ b4; omega)]
end
theorem ki_new (w : World) (v0 v1 : Value) (x : Int) : KI w (((w.alloc (.cells #[v0, v1] 25)).alloc (.cells #[.int .i64 x] 3)).alloc (.cells #[.slice none 0 0, .slice none 0 0] 25)) w.heap.size (w.heap.size + 1) (w.heap.size + 1 + 1) v0 v1 x := by
  obtain ⟨w1, h1⟩ : ∃ w1, w1 = w.alloc (.cells #[v0, v1] 25) := ⟨_, rfl⟩
  obtain ⟨w2, h2⟩ : ∃ w2, w2 = w1.alloc (.cells #[.int .i64 x] 3) := ⟨_, rfl⟩
  rw [← h1, ← h2]
  have s1 : w1.heap.size = w.heap.size + 1 := by rw [h1]; simp
  have s2 : w2.heap.size = w.heap.size + 1 + 1 := by rw [h2]; simp [s1]
  have b1 : w1.heap[w.heap.size]? = some (.cells #[v0, v1] 25 (0, 0)) := by rw [h1]; exact heap_alloc_new _ _
  have b2 : w2.heap[w.heap.size + 1]? = some (.cells #[.int .i64 x] 3 (0, 0)) := by rw [h2, ← s1]; exact heap_alloc_new _ _
  have k2 : Below w1.heap.size w1 w2 := by rw [h2]; exact (Below.refl _ _).alloc (Nat.le_refl _) _
  have k4 : Below w2.heap.size w2 (w2.alloc (.cells #[.slice none 0 0, .slice none 0 0] 25)) := (Below.refl _ _).alloc (Nat.le_refl _) _
  have k1 : Below w.heap.size w w1 := by rw [h1]; exact (Below.refl _ _).alloc (Nat.le_refl _) _
  have g1 := (k4.block w.heap.size (by omega)).trans ((k2.block w.heap.size (by omega)).trans b1)
  have g2 := (k4.block (w.heap.size + 1) (by omega)).trans b2
  exact KI.of ⟨g1, by rw [← s2]; exact heap_alloc_new _ _, by omega, k1.trans ((k2.trans (k4.mono (by omega))).mono (by omega))⟩ (by omega) g2
theorem leaveP_no {ms : List Int} {ls : List Lk} {x : Int} {e : Er} (h : leaveE ms ls x = e) (he : e ≠ none) : leaveP ms ls x = (e, [], []) := by
  unfold leaveP
  rw [h]
  cases e with
  | none => exact absurd rfl he
  | some e => rfl
theorem leaveP_ok {ms : List Int} {ls : List Lk} {x : Int} (h : leaveE ms ls x = none) : leaveP ms ls x = doneP (butI ms x) (but ls (ofL x ((nears ls x).getD 0 0))) := by
  unfold leaveP
  rw [h]
  rfl
section
variable (Am : Option Addr) (n cm : Nat) (Al : Option Addr) (q cl : Nat) (ms : List Int) (ls : List Lk) (x : Int) (w : World)
set_option maxRecDepth 100000 in
set_option maxHeartbeats 4000000 in
theorem leave_any (hG : GrAt w Am n Al q ms ls) (hn : n ≤ 1000) (hq : q ≤ 1000) :
    Calls Tryz.prog 30 #[grV Am n cm Al q cl, .int .i64 x] w fun e w' => Gives w e w' (leaveP ms ls x) := by
  have HG := Lib.hid hG
  have HN : Hid (n ≤ 1000 ∧ q ≤ 1000) := ⟨hn, hq⟩
  clear hG hn hq
  have HCK : Hid (∀ W, Below w.heap.size w W → Calls Tryz.prog 26 #[grV Am n cm Al q cl] W fun e w' => ∃ v, e = .returned v ∧ Hid (ErrIs w' v (chk ms ls) ∧ Below W.heap.size W w')) := fun W hW => check_any Am n cm Al q cl ms ls W (HG.out.below hW) HN.out.1 HN.out.2
  obtain ⟨b1, hb1⟩ : ∃ b, b = w.heap.size := ⟨_, rfl⟩
  obtain ⟨b3, hb3⟩ : ∃ b, b = w.heap.size + 1 := ⟨_, rfl⟩
  obtain ⟨b4, hb4⟩ : ∃ b, b = w.heap.size + 1 + 1 := ⟨_, rfl⟩
  obtain ⟨w1, hw1⟩ : ∃ w1, w1 = ((w.alloc (.cells #[.slice Am n cm, .slice Al q cl] 25)).alloc (.cells #[.int .i64 x] 3)).alloc (.cells #[.slice none 0 0, .slice none 0 0] 25) := ⟨_, rfl⟩
  have HB : Hid (KI w w1 b1 b3 b4 (.slice Am n cm) (.slice Al q cl) x) := by rw [hw1, hb1, hb3, hb4]; exact ki_new w _ _ _
  go_enter Tryz.func30, Tryz.ntmps30
  go_wp2_with fail
  rw [← hw1, ← hb4, ← hb3, ← hb1]
  clear hw1 hb1 hb4 hb3
  refine (HCK.out w1 HB.out.old).mono ?_
  rintro e w2 ⟨v, rfl, HE⟩
  have HK2 := Lib.hid (HB.out.step HE.out.2)
  obtain ⟨_, _, hkb⟩ := HK2.out.kb; obtain ⟨c1, c2, r0, r1, rf, l1, l2, n12, n21⟩ := hkb.cells; have c3 := HK2.out.cx
  rcases HE.out.1.cases with ⟨hc, rfl⟩ | ⟨hc, t, y, rfl⟩
  case inr =>
    have HSW : Hid (leaveP ms ls x = (chk ms ls, [], [])) := leaveP_no (by
      unfold leaveE
      cases h : chk ms ls with
      | none => exact absurd h hc
      | some e => rfl) hc
    clear hc
    go_wp2
    refine bodyPost_ret (v := .tuple #[grV none 0 0 none 0 0, .iface t y]) ?_ rfl ?_
    · simp [results, Tryz.results30, go_sem, r0, r1, rf, n12, n21]
    · rw [HSW.out]; exact Gives.no hkb HE.out.1
  case inl =>
  obtain ⟨nl, hnl⟩ : ∃ nl, Hid ((nears ls x).length = nl) := ⟨_, rfl⟩
  have HSE : Hid (leaveE ms ls x = if x ∉ ms then plainE 12 else if nl ≠ 1 then plainE 14 else none) := by
    unfold leaveE; rw [hc, hnl.out]; rfl
  have HGD := Lib.hid (chk_good hc)
  clear hc HE
  have HNR : Hid (Calls Tryz.prog 37 #[grV Am n cm Al q cl, .int .i64 x] w2 fun e w' => ∃ (A : Option Addr) (c : Nat), e = .returned (.slice A nl c) ∧ KI w w' b1 b3 b4 (.slice Am n cm) (.slice Al q cl) x ∧ Hid (RowAt w' A (intVs (nears ls x)) ∧ ∀ g off, A = some ⟨g, off, none⟩ → g ≠ b4)) := by
    have hg := HGD.out
    rw [← hnl.out]
    refine (near_any Am n cm Al q cl ls x w2 HG.out.llen (HG.out.lrow.below HK2.out.old) HN.out.2 hg.ls_.nodup fun k hk => ⟨(hg.ls_.2 k hk).1, hg.ms_.2 _ (hg.ls_.2 k hk).2.1, hg.ms_.2 _ (hg.ls_.2 k hk).2.2⟩).mono ?_
    rintro e w' ⟨A, c, rfl, h⟩
    refine ⟨A, c, rfl, HK2.out.step h.out.2.1, h.out.1, fun g off e => ?_⟩
    subst e
    obtain ⟨_, _, hkb⟩ := HK2.out.kb
    have := (h.out.2.2 g rfl).1
    have := hkb.cells.2.2.2.2.2.2.1
    omega
  have HHS : Hid (∀ W, KI w W b1 b3 b4 (.slice Am n cm) (.slice Al q cl) x → Calls Tryz.prog 48 #[grV Am n cm Al q cl, .int .i64 x] W fun e w' => e = .returned (.bool (decide (x ∈ ms))) ∧ KI w w' b1 b3 b4 (.slice Am n cm) (.slice Al q cl) x ∧ Below W.heap.size W w') := fun W hW => by
    refine (has_any Am n cm Al q cl ms x W HG.out.mlen (HG.out.mrow.below hW.old) (Nat.le_trans HN.out.1 (by decide))).mono ?_
    rintro e w' ⟨rfl, hb⟩
    exact ⟨rfl, hW.step hb, hb⟩
  by_cases m1 : x ∈ ms
  case neg =>
    have HSW : Hid (leaveP ms ls x = (plainE 12, [], [])) := leaveP_no (by rw [HSE.out, if_pos m1]) (by simp [plainE])
    rw [decide_eq_false m1] at HHS
    clear m1 HSE HB HCK
    go_wp2_with fail
    refine HNR.out.mono ?_
    rintro e w3 ⟨A3, d3, rfl, hK3, HR3⟩
    obtain ⟨_, _, hkb⟩ := hK3.kb; obtain ⟨c1, c2, r0, r1, rf, l1, l2, n12, n21⟩ := hkb.cells; have c3 := hK3.cx
    go_wp2_with fail
    refine (HHS.out w3 hK3).mono ?_
    rintro e w4 ⟨rfl, hK4, hb4⟩
    obtain ⟨_, _, hkb⟩ := hK4.kb; obtain ⟨c1, c2, r0, r1, rf, l1, l2, n12, n21⟩ := hkb.cells; have c3 := hK4.cx
    go_wp2
    refine bodyPost_ret (v := .tuple #[grV none 0 0 none 0 0, .iface 41 (.int .i64 12)]) ?_ rfl ?_
    · simp [results, Tryz.results30, go_sem, r0, r1, rf, n12, n21]
    · rw [HSW.out]; exact Gives.no hkb rfl

  case pos =>
  rw [decide_eq_true m1] at HHS
  rw [if_neg (fun e => e m1)] at HSE
  by_cases m2 : nl = 1
  case neg =>
    have HSW : Hid (leaveP ms ls x = (plainE 14, [], [])) := leaveP_no (by rw [HSE.out, if_pos m2]) (by simp [plainE])
    have e1 : ((nl : Int) != 1) = true := by simp; omega
    clear m1 m2 HSE HB HCK
    go_wp2_with fail
    refine HNR.out.mono ?_
    rintro e w3 ⟨A3, d3, rfl, hK3, HR3⟩
    obtain ⟨_, _, hkb⟩ := hK3.kb; obtain ⟨c1, c2, r0, r1, rf, l1, l2, n12, n21⟩ := hkb.cells; have c3 := hK3.cx
    go_wp2_with fail
    refine (HHS.out w3 hK3).mono ?_
    rintro e w4 ⟨rfl, hK4, hb4⟩
    obtain ⟨_, _, hkb⟩ := hK4.kb; obtain ⟨c1, c2, r0, r1, rf, l1, l2, n12, n21⟩ := hkb.cells; have c3 := hK4.cx
    go_wp2
    refine bodyPost_ret (v := .tuple #[grV none 0 0 none 0 0, .iface 41 (.int .i64 14)]) ?_ rfl ?_
    · simp [results, Tryz.results30, go_sem, r0, r1, rf, n12, n21]
    · rw [HSW.out]; exact Gives.no hkb rfl

  case pos =>
  subst m2
  obtain ⟨y, hy⟩ : ∃ y, Hid ((nears ls x)[0]? = some y) := ⟨(nears ls x)[0]'(by have := hnl.out; omega), List.getElem?_eq_getElem (by have := hnl.out; omega)⟩
  obtain ⟨k1, hk1⟩ : ∃ k1, Hid (min x y = k1) := ⟨_, rfl⟩
  obtain ⟨k2, hk2⟩ : ∃ k2, Hid (max x y = k2) := ⟨_, rfl⟩
  have HSW : Hid (leaveP ms ls x = doneP (butI ms x) (but ls (k1, k2))) := by
    have h1 := leaveP_ok (ms := ms) (ls := ls) (x := x) (by rw [HSE.out, if_neg (fun e => e rfl)])
    have h2 : (nears ls x).getD 0 0 = y := by rw [List.getD_eq_getElem?_getD, hy.out]; rfl
    have h3 : ofL x y = (k1, k2) := by unfold ofL; rw [hk1.out, hk2.out]
    rw [h2, h3] at h1
    exact h1
  have HCI : Hid (∀ W, KI w W b1 b3 b4 (.slice Am n cm) (.slice Al q cl) x → Calls Tryz.prog 59 #[.slice Am n cm] W fun e w' => ∃ (A' : Option Addr) (c' : Nat), e = .returned (.slice A' n c') ∧ w'.ownsRow W.heap.size 3 1 (.slice A' n c') n (intVs ms) ∧ Below W.heap.size W w' ∧ KI w w' b1 b3 b4 (.slice Am n cm) (.slice Al q cl) x) := fun W hW => by
    refine (cloneI_at Am n cm ms W HG.out.mlen HN.out.1 (HG.out.mrow.below hW.old)).mono ?_
    rintro e w' ⟨A', c', rfl, h1, h2⟩
    exact ⟨A', c', rfl, h1, h2, hW.step h2⟩
  have HDE : Hid (∀ (A' : Option Addr) (c' : Nat) (W0 W : World), KI w W0 b1 b3 b4 (.slice Am n cm) (.slice Al q cl) x → Below W0.heap.size W0 W → W.ownsRow W0.heap.size 3 1 (.slice A' n c') n (intVs ms) → Calls Tryz.prog 61 #[.slice A' n c', lfn b3] W fun e w' => ∃ m : Nat, e = .returned (.slice A' m c') ∧ KI w w' b1 b3 b4 (.slice Am n cm) (.slice Al q cl) x ∧ Hid ((butI ms x).length = m ∧ RowAt w' A' (intVs (butI ms x))) ∧ Below W0.heap.size W0 w') := fun A' c' W0 W hW hb ho => by
    have hK := hW.step hb
    have hlt := (Array.getElem?_eq_some_iff.1 hW.2.2.2.out.2.2).1
    refine (deleteI_any A' n c' ms x b3 W0.heap.size W HG.out.mlen ho hb.size HN.out.1 hlt hK.2.2.2.out.2.2).mono ?_
    rintro e w' ⟨m, rfl, h⟩
    exact ⟨m, rfl, hW.step (hb.trans h.out.2.2), ⟨h.out.1, RowAt.of_own h.out.2.1⟩, hb.trans h.out.2.2⟩
  clear m1 HSE HB HCK
  go_wp2_with fail
  refine HNR.out.mono ?_
  rintro e w3 ⟨A3, d3, rfl, hK3, HR3⟩
  obtain ⟨_, _, hkb⟩ := hK3.kb; obtain ⟨c1, c2, r0, r1, rf, l1, l2, n12, n21⟩ := hkb.cells; have c3 := hK3.cx
  obtain ⟨g, off, rfl, x3, hg3⟩ := HR3.out.1.int hy.out
  rw [Nat.add_zero] at x3
  have HGB : Hid (g ≠ b4) := HR3.out.2 g off rfl
  clear HR3 hg3 HNR
  have HOF : Hid (∀ W, KL w W b1 b3 b4 (.slice Am n cm) (.slice Al q cl) x g off y → Calls Tryz.prog 39 #[.int .i64 x, .int .i64 y] W fun e w' => e = .returned (.agg #[.int .i64 k1, .int .i64 k2]) ∧ KL w w' b1 b3 b4 (.slice Am n cm) (.slice Al q cl) x g off y ∧ Below W.heap.size W w') := fun W hW => by
    refine (of_any x y W).mono ?_
    rintro e w' ⟨rfl, hb⟩
    rw [hk1.out, hk2.out]
    exact ⟨rfl, hW.step hb, hb⟩
  have HWO : Hid (∀ W, KL w W b1 b3 b4 (.slice Am n cm) (.slice Al q cl) x g off y → Calls Tryz.prog 51 #[.slice Al q cl, .agg #[.int .i64 k1, .int .i64 k2]] W fun e w' => ∃ (A' : Option Addr) (m c' : Nat), e = .returned (.slice A' m c') ∧ KL w w' b1 b3 b4 (.slice Am n cm) (.slice Al q cl) x g off y ∧ Hid ((but ls (k1, k2)).length = m ∧ m ≤ 1000 ∧ RowAt w' A' (lkCells (but ls (k1, k2)))) ∧ Below W.heap.size W w') := fun W hW => by
    refine (without_any Al q cl ls (k1, k2) W k1 k2 rfl HG.out.llen (HG.out.lrow.below hW.old) HN.out.2).mono ?_
    rintro e w' ⟨A', m, c', rfl, h⟩
    refine ⟨A', m, c', rfl, hW.step h.out.2.2, ⟨h.out.1, ?_, RowAt.of_own h.out.2.1⟩, h.out.2.2⟩
    rw [← h.out.1]
    exact Nat.le_trans (List.length_filter_le _ _) (by rw [HG.out.llen]; exact HN.out.2)
  have HCP : Hid (∀ (A1 : Option Addr) (m1 c1 : Nat) (A : Option Addr) (m c : Nat) W, KL w W b1 b3 b4 (.slice Am n cm) (.slice Al q cl) x g off y → RowAt W A1 (intVs (butI ms x)) → (butI ms x).length = m1 → (but ls (k1, k2)).length = m ∧ m ≤ 1000 ∧ RowAt W A (lkCells (but ls (k1, k2))) → Calls Tryz.prog 49 #[.agg #[.slice A1 m1 c1, .slice A m c]] W fun e w' => ∃ (Am' : Option Addr) (n' cm' : Nat) (Al' : Option Addr) (q' cl' : Nat) (v : Value), e = .returned (.tuple #[grV Am' n' cm' Al' q' cl', v]) ∧ KL w w' b1 b3 b4 (.slice Am n cm) (.slice Al q cl) x g off y ∧ Hid (ErrIs w' v (doneP (butI ms x) (but ls (k1, k2))).1 ∧ GrOwn w.heap.size w' Am' n' cm' Al' q' cl' (doneP (butI ms x) (but ls (k1, k2))).2.1 (doneP (butI ms x) (but ls (k1, k2))).2.2)) := fun A1 m1 c1 A m c W hW h1 h2 h3 => by
    refine (copied_any A1 m1 c1 A m c (butI ms x) (but ls (k1, k2)) W ⟨h2, h3.1, h1, h3.2.2⟩ (by rw [← h2]; exact Nat.le_trans (List.length_filter_le _ _) (by rw [HG.out.mlen]; exact HN.out.1)) h3.2.1).mono ?_
    rintro e w' ⟨Am', n', cm', Al', q', cl', v, rfl, h2⟩
    exact ⟨Am', n', cm', Al', q', cl', v, rfl, hW.step h2.out.2.2, h2.out.1, h2.out.2.1.mono hW.old.size⟩
  go_wp2_with fail
  refine (HHS.out w3 hK3).mono ?_
  rintro e w4 ⟨rfl, hK4, hb4⟩
  have x4 := cell_below x3 hb4
  obtain ⟨_, _, hkb⟩ := hK4.kb; obtain ⟨c1, c2, r0, r1, rf, l1, l2, n12, n21⟩ := hkb.cells; have c3 := hK4.cx
  clear HHS hK3 HK2 hb4
  go_wp2_with fail
  refine (HCI.out w4 hK4).mono ?_
  rintro e w5 ⟨A5, d5, rfl, hown5, hb5, hK5⟩
  obtain ⟨_, _, hkb⟩ := hK5.kb; obtain ⟨c1, c2, r0, r1, rf, l1, l2, n12, n21⟩ := hkb.cells; have c3 := hK5.cx
  go_wp2_with fail
  refine (HDE.out A5 d5 w4 w5 hK4 hb5 hown5).mono ?_
  rintro e w7 ⟨m7, rfl, hK7, HR7, hb7⟩
  have hL7 : KL w w7 b1 b3 b4 (.slice Am n cm) (.slice Al q cl) x g off y := KL.of hK7 (cell_below x4 hb7) HGB.out
  clear hown5 hb5 hK4 HDE HCI hb7 hK5 hK7
  obtain ⟨_, _, hkb⟩ := hL7.kb; obtain ⟨c1, c2, r0, r1, rf, l1, l2, n12, n21⟩ := hkb.cells; have c3 := hL7.cx
  have x7 := hL7.2.2.2.1
  have hL7d : KL w w7.drew b1 b3 b4 (.slice Am n cm) (.slice Al q cl) x g off y := hL7.step (Below.refl _ _).drew
  have HR7d : Hid (RowAt w7.drew A5 (intVs (butI ms x))) := HR7.out.2.below (Below.refl _ _).drew
  go_wp2_with fail
  (go_region_held3 (fun W => W.cell? ⟨b1, 0, none⟩ = some (.slice Am n cm) ∧ W.cell? ⟨b1, 1, none⟩ = some (.slice Al q cl) ∧ W.cell? ⟨b3, 0, none⟩ = some (.int .i64 x) ∧ W.cell? ⟨g, off, none⟩ = some (.int .i64 y) ∧ Hid (((∃ u0 u1, KB w W b1 b4 (.slice Am n cm) (.slice Al q cl) u0 u1) ∧ b3 < b4 ∧ W.heap[b3]? = some (.cells #[.int .i64 x] 3 (0, 0))) ∧ g ≠ b4)) (first | assumption | exact KL.set (by assumption) _ _) (first
      | (go_at_call 39; refine (HOF.out _ (by assumption)).mono ?_; rintro e w8 ⟨rfl, hK8, hb8⟩)
      | (go_at_call 51; refine (HWO.out _ (by assumption)).mono ?_; rintro e w9 ⟨A9, m9, d9, rfl, hK9, h9, hb9⟩)
      | (go_at_call 49; refine (HCP.out _ _ _ _ _ _ _ (by assumption) ((HR7d.out.below hb8).below hb9) HR7.out.1 h9.out).mono ?_; rintro e w10 ⟨Am9, n9, cm9, Al9, q9, cl9, v9, rfl, hK10, h10⟩; obtain ⟨_, _, hkb⟩ := hK10.kb; obtain ⟨c1, c2, r0, r1, rf, l1, l2, n12, n21⟩ := hkb.cells; have c3 := hK10.cx)
      | fail))
  all_goals
    clear hL7 hL7d hK8 hK9 hK10
    go_wp2
    refine bodyPost_ret (v := .tuple #[grV Am9 n9 cm9 Al9 q9 cl9, v9]) ?_ rfl ?_
    · simp [results, Tryz.results30, go_sem, r0, r1, rf, n12, n21]
    · rw [HSW.out]; exact Gives.yes hkb h10.out.1 h10.out.2
end
end Go.Proofs.YtlkfcfcejicdkaaGreatDoor
