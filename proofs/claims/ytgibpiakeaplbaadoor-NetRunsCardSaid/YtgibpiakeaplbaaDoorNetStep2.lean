/-
  net: the law's step at Deliver, Lose, Double and Ways, walked. Own work.
-/
import Derived.Test.YtgibpiakeaplbaaDoorNetStep
set_option linter.unusedSimpArgs false
set_option linter.unusedVariables false
namespace Go.Proofs.YtgibpiakeaplbaaDoor
open Go Go.RowKit

theorem bytes_same (A A' : Option Addr) (n n' : Nat) (bs : List UInt8) (h : n = bs.length) (h' : n' = bs.length) (c c' : Nat) (w : World) (hA : BytesAt w A bs) (hA' : BytesAt w A' bs) :
    Calls Tryd.prog 20 #[.slice A n c, .slice A' n' c'] w fun e w' => e = .returned (.bool true) ∧ w = w' := by
  subst h h'
  refine (bytes_any A A' bs bs c c' w hA hA').mono ?_
  rintro e w' ⟨rfl, rfl⟩
  exact ⟨by simp, rfl⟩

theorem linesOf_took {lb : List PB} {k : Int × Int} {i : Int} (h : placeT (linesOf lb) k i = none) : updT (linesOf lb) k ((linesOf lb k).eraseIdx i.toNat) = linesOf (lb.eraseIdx (idx k lb i.toNat)) := by
  refine linesOf_erase lb k i.toNat ?_
  rcases wayE_is k with hk | hk
  · simp only [placeT, hk] at h
    split at h
    · cases h
    · show i.toNat < (linesOf lb k).length
      omega
  · rw [placeT_way hk] at h; cases h

set_option maxHeartbeats 4000000 in
theorem step_take (w0 : World) (base B : Nat) (w : World) (lb : List PB) (A : Option Addr) (n c : Nat) (k1 k2 i : Int) (Ap : Option Addr) (np cp : Nat) (h : StepIn w0 base B w lb A n c) :
    Calls Tryd.prog 9 #[.pointer (some ⟨B, 0, none⟩), .slice A n c, .agg #[.int .i64 1, .int .i64 k1, .int .i64 k2, .int .i64 i, .slice Ap np cp]] w (StepPost w0 base B w n) := by
  have H := Lib.hid h
  have HKS := Lib.hid (step_boxes base w 1 k1 k2 i (.slice Ap np cp) h.sz)
  have HBB := Lib.hid (boxes_below base w 1 k1 k2 i (.slice Ap np cp))
  obtain ⟨x, hx⟩ : ∃ x, Hid (placeT (linesOf lb) (k1, k2) i = x) := ⟨_, rfl⟩
  obtain ⟨b8, hb8⟩ : ∃ b8, Hid (w.heap.size + 1 = b8) := ⟨_, rfl⟩
  clear h
  go_enter Tryd.func9, Tryd.ntmps9
  go_wp2_with fail
  obtain ⟨w2, hw2⟩ : ∃ w2, w2 = (w.alloc (.cells #[.int .i64 1, .int .i64 k1, .int .i64 k2, .int .i64 i, .slice Ap np cp] 29)).alloc (.cells #[.bool false, .slice none 0 0, .int .i64 0] 41) := ⟨_, rfl⟩
  have hK2 := HKS.out
  rw [← hw2, hb8.out] at hK2
  have HB2 : Hid (Below w.heap.size w w2) := by rw [hw2]; exact HBB.out
  rw [← hw2, hb8.out]
  clear HKS HBB hw2
  have hc := takeref_any w0 A n c lb (k1, k2) i w2 (H.out.ref.below HB2.out) (by have := H.out.few; omega)
  rw [hx.out] at hc
  refine hc.mono ?_
  rintro e w3 ⟨Aq, nq, cq, A', n', c', rfl, H3⟩
  have hK3 := hK2.below H.out.sz H3.out.2.2.2.2
  have HB3 : Hid (Below w.heap.size w w3) := HB2.out.trans (H3.out.2.2.2.2.mono HB2.out.size)
  have HREF := Lib.hid H3.out.2.2.2.1
  have HQ : Hid (nq = (tookT (linesOf lb) (k1, k2) i).length ∧ BytesAt w0 Aq (tookT (linesOf lb) (k1, k2) i)) := ⟨H3.out.2.1, H3.out.2.2.1⟩
  have HN' : Hid (n' ≤ n + 1) := H3.out.1
  clear hc hK2 HB2 H3
  simp only [eP]
  obtain ⟨o0, o1, o2, o3, o4, e0, e1, e2, f0, f1, f2, hin⟩ := id hK3
  have hne1 : ¬ (w.heap.size = b8) := by have := hb8.out; omega
  have hne2 : ¬ (b8 = w.heap.size) := fun e => hne1 e.symm
  go_wp2_with fail
  obtain ⟨w4, hw4⟩ : ∃ w4, w4 = st3 b8 x w3 := ⟨_, rfl⟩
  obtain ⟨lb', hlb⟩ : ∃ lb', Hid ((if x = none then lb.eraseIdx (idx (k1, k2) lb i.toNat) else lb) = lb') := ⟨_, rfl⟩
  have hK4 : KS base w.heap.size b8 w 1 k1 k2 i (.slice Ap np cp) x w4 := by rw [hw4]; exact hK3.store (by have := hb8.out; omega) (by have := hb8.out; have := H.out.sz; omega)
  have HST4 : Hid (RefAt w0 w4 A' n' c' lb' ∧ NetB base w4 B (linesOf lb)) := by
    rw [hw4]
    have h1 := HREF.out
    rw [hlb.out] at h1
    exact ⟨h1.st3 hK3.inner.2.1, H.out.net.below (st3_below _ HB3.out (by have := hb8.out; omega))⟩
  have hw5 : ((w3.setCell ⟨b8, 0, none⟩ (.bool x.isSome)).setCell ⟨b8, 1, none⟩ (.slice none 0 0)).setCell ⟨b8, 2, none⟩ (.int .i64 (x.getD 0)) = w4 := hw4.symm
  rw [hw5]
  clear hw5 hw4 hK3 o0 o1 o2 o3 o4 e0 e1 e2 f0 f1 f2 hin HREF HB3
  have hc := deliver_bk base B (linesOf lb) (k1, k2) i w4 HST4.out.2 (Nat.le_trans H.out.sz hK4.inner.2.2.size)
  rw [hx.out] at hc
  refine hc.mono ?_
  rintro e w13 ⟨Ad, nd, cd, rfl, g1, g2, g3, g4, g5⟩
  have hK13 := hK4.net g1 g2
  have HS13 : Hid (RefAt w0 w13 A' n' c' lb' ∧ NetB base w13 B (linesOf lb')) := by
    refine ⟨HST4.out.1.keep g2, ?_⟩
    rw [← hlb.out]
    by_cases hxn : x = none
    · rw [if_pos hxn] at g5 ⊢; rwa [linesOf_took (by rw [hx.out]; exact hxn)] at g5
    · rw [if_neg hxn] at g5 ⊢; exact g5
  have HBY : Hid (Calls Tryd.prog 20 #[.slice Ad nd cd, .slice Aq nq cq] w13 fun e w' => e = .returned (.bool true) ∧ w13 = w') := bytes_same Ad Aq nd nq _ g3 HQ.out.1 cd cq w13 g4 (HQ.out.2.below (H.out.old.trans (hK13.inner.2.2.mono H.out.low)))
  clear hc hK4 HST4 g1 g2 g3 g4 g5 HQ
  obtain ⟨o0, o1, o2, o3, o4, e0, e1, e2, f0, f1, f2, hin⟩ := id hK13
  have HF : Hid (Calls Tryd.prog 14 #[errV x, eP x] w13 fun e w' => e = .returned (.bool true) ∧ Below w13.heap.size w13 w') := fails_same x w13 (H.out.err.below (H.out.old.trans (hK13.inner.2.2.mono H.out.low)))
  have HEND : Hid (∀ W, Below w13.heap.size w13 W → RefAt w0 W A' n' c' lb' ∧ NetB base W B (linesOf lb') ∧ Below base w W) := fun W hW => ⟨HS13.out.1.below hW, HS13.out.2.below hW, hK13.inner.2.2.trans (hW.mono (Nat.le_trans H.out.sz hK13.inner.2.2.size))⟩
  clear hK13 HS13
  unfold eP at HF
  go_wp2_with (first | (go_at_call 20; refine HBY.out.mono ?_; rintro e w14 ⟨rfl, rfl⟩) | (go_at_call 14; refine HF.out.mono ?_; rintro e w14 ⟨rfl, hb14⟩; have HB14 := Lib.hid hb14; clear hb14))
  go_ret2
  exact ⟨A', n', c', lb', rfl, HN'.out, HEND.out _ HB14.out⟩

set_option maxHeartbeats 4000000 in
theorem step_lose (w0 : World) (base B : Nat) (w : World) (lb : List PB) (A : Option Addr) (n c : Nat) (k1 k2 i : Int) (Ap : Option Addr) (np cp : Nat) (h : StepIn w0 base B w lb A n c) :
    Calls Tryd.prog 9 #[.pointer (some ⟨B, 0, none⟩), .slice A n c, .agg #[.int .i64 2, .int .i64 k1, .int .i64 k2, .int .i64 i, .slice Ap np cp]] w (StepPost w0 base B w n) := by
  have H := Lib.hid h
  have HKS := Lib.hid (step_boxes base w 2 k1 k2 i (.slice Ap np cp) h.sz)
  have HBB := Lib.hid (boxes_below base w 2 k1 k2 i (.slice Ap np cp))
  obtain ⟨x, hx⟩ : ∃ x, Hid (placeT (linesOf lb) (k1, k2) i = x) := ⟨_, rfl⟩
  obtain ⟨b8, hb8⟩ : ∃ b8, Hid (w.heap.size + 1 = b8) := ⟨_, rfl⟩
  clear h
  go_enter Tryd.func9, Tryd.ntmps9
  go_wp2_with fail
  obtain ⟨w2, hw2⟩ : ∃ w2, w2 = (w.alloc (.cells #[.int .i64 2, .int .i64 k1, .int .i64 k2, .int .i64 i, .slice Ap np cp] 29)).alloc (.cells #[.bool false, .slice none 0 0, .int .i64 0] 41) := ⟨_, rfl⟩
  have hK2 := HKS.out
  rw [← hw2, hb8.out] at hK2
  have HB2 : Hid (Below w.heap.size w w2) := by rw [hw2]; exact HBB.out
  rw [← hw2, hb8.out]
  clear HKS HBB hw2
  have hc := takeref_any w0 A n c lb (k1, k2) i w2 (H.out.ref.below HB2.out) (by have := H.out.few; omega)
  rw [hx.out] at hc
  refine hc.mono ?_
  rintro e w3 ⟨Aq, nq, cq, A', n', c', rfl, H3⟩
  have hK3 := hK2.below H.out.sz H3.out.2.2.2.2
  have HB3 : Hid (Below w.heap.size w w3) := HB2.out.trans (H3.out.2.2.2.2.mono HB2.out.size)
  have HREF := Lib.hid H3.out.2.2.2.1
  have HQ : Hid (nq = (tookT (linesOf lb) (k1, k2) i).length ∧ BytesAt w0 Aq (tookT (linesOf lb) (k1, k2) i)) := ⟨H3.out.2.1, H3.out.2.2.1⟩
  have HN' : Hid (n' ≤ n + 1) := H3.out.1
  clear hc hK2 HB2 H3
  simp only [eP]
  obtain ⟨o0, o1, o2, o3, o4, e0, e1, e2, f0, f1, f2, hin⟩ := id hK3
  have hne1 : ¬ (w.heap.size = b8) := by have := hb8.out; omega
  have hne2 : ¬ (b8 = w.heap.size) := fun e => hne1 e.symm
  go_wp2_with fail
  obtain ⟨w4, hw4⟩ : ∃ w4, w4 = st3 b8 x w3 := ⟨_, rfl⟩
  obtain ⟨lb', hlb⟩ : ∃ lb', Hid ((if x = none then lb.eraseIdx (idx (k1, k2) lb i.toNat) else lb) = lb') := ⟨_, rfl⟩
  have hK4 : KS base w.heap.size b8 w 2 k1 k2 i (.slice Ap np cp) x w4 := by rw [hw4]; exact hK3.store (by have := hb8.out; omega) (by have := hb8.out; have := H.out.sz; omega)
  have HST4 : Hid (RefAt w0 w4 A' n' c' lb' ∧ NetB base w4 B (linesOf lb)) := by
    rw [hw4]
    have h1 := HREF.out
    rw [hlb.out] at h1
    exact ⟨h1.st3 hK3.inner.2.1, H.out.net.below (st3_below _ HB3.out (by have := hb8.out; omega))⟩
  have hw5 : ((w3.setCell ⟨b8, 0, none⟩ (.bool x.isSome)).setCell ⟨b8, 1, none⟩ (.slice none 0 0)).setCell ⟨b8, 2, none⟩ (.int .i64 (x.getD 0)) = w4 := hw4.symm
  rw [hw5]
  clear hw5 hw4 hK3 o0 o1 o2 o3 o4 e0 e1 e2 f0 f1 f2 hin HREF HB3
  have hc := lose_bk base B (linesOf lb) (k1, k2) i w4 HST4.out.2 (Nat.le_trans H.out.sz hK4.inner.2.2.size)
  rw [hx.out] at hc
  refine hc.mono ?_
  rintro e w13 ⟨rfl, g1, g2, g5⟩
  have hK13 := hK4.net g1 g2
  have HS13 : Hid (RefAt w0 w13 A' n' c' lb' ∧ NetB base w13 B (linesOf lb')) := by
    refine ⟨HST4.out.1.keep g2, ?_⟩
    rw [← hlb.out]
    by_cases hxn : x = none
    · rw [if_pos hxn] at g5 ⊢; rwa [linesOf_took (by rw [hx.out]; exact hxn)] at g5
    · rw [if_neg hxn] at g5 ⊢; exact g5
  clear hc hK4 HST4 g1 g2 g5
  obtain ⟨o0, o1, o2, o3, o4, e0, e1, e2, f0, f1, f2, hin⟩ := id hK13
  have HF : Hid (Calls Tryd.prog 14 #[errV x, eP x] w13 fun e w' => e = .returned (.bool true) ∧ Below w13.heap.size w13 w') := fails_same x w13 (H.out.err.below (H.out.old.trans (hK13.inner.2.2.mono H.out.low)))
  have HEND : Hid (∀ W, Below w13.heap.size w13 W → RefAt w0 W A' n' c' lb' ∧ NetB base W B (linesOf lb') ∧ Below base w W) := fun W hW => ⟨HS13.out.1.below hW, HS13.out.2.below hW, hK13.inner.2.2.trans (hW.mono (Nat.le_trans H.out.sz hK13.inner.2.2.size))⟩
  clear hK13 HS13
  unfold eP at HF
  go_wp2_with (first | (go_at_call 14; refine HF.out.mono ?_; rintro e w14 ⟨rfl, hb14⟩; have HB14 := Lib.hid hb14; clear hb14))
  go_ret2
  exact ⟨A', n', c', lb', rfl, HN'.out, HEND.out _ HB14.out⟩

set_option maxHeartbeats 4000000 in
theorem step_double (w0 : World) (base B : Nat) (w : World) (lb : List PB) (A : Option Addr) (n c : Nat) (k1 k2 i : Int) (Ap : Option Addr) (np cp : Nat) (h : StepIn w0 base B w lb A n c) :
    Calls Tryd.prog 9 #[.pointer (some ⟨B, 0, none⟩), .slice A n c, .agg #[.int .i64 3, .int .i64 k1, .int .i64 k2, .int .i64 i, .slice Ap np cp]] w (StepPost w0 base B w n) := by
  have H := Lib.hid h
  have HKS := Lib.hid (step_boxes base w 3 k1 k2 i (.slice Ap np cp) h.sz)
  have HBB := Lib.hid (boxes_below base w 3 k1 k2 i (.slice Ap np cp))
  obtain ⟨x, hx⟩ : ∃ x, Hid (doubleT (linesOf lb) (k1, k2) i = x) := ⟨_, rfl⟩
  obtain ⟨b8, hb8⟩ : ∃ b8, Hid (w.heap.size + 1 = b8) := ⟨_, rfl⟩
  clear h
  go_enter Tryd.func9, Tryd.ntmps9
  go_wp2_with fail
  obtain ⟨w2, hw2⟩ : ∃ w2, w2 = (w.alloc (.cells #[.int .i64 3, .int .i64 k1, .int .i64 k2, .int .i64 i, .slice Ap np cp] 29)).alloc (.cells #[.bool false, .slice none 0 0, .int .i64 0] 41) := ⟨_, rfl⟩
  have hK2 := HKS.out
  rw [← hw2, hb8.out] at hK2
  have HB2 : Hid (Below w.heap.size w w2) := by rw [hw2]; exact HBB.out
  rw [← hw2, hb8.out]
  clear HKS HBB hw2
  have hc := doubleref_any w0 A n c lb (k1, k2) i w2 (H.out.ref.below HB2.out) (by have := H.out.few; omega)
  rw [hx.out] at hc
  refine hc.mono ?_
  rintro e w3 ⟨A', n', c', rfl, H3⟩
  have hK3 := hK2.below H.out.sz H3.out.2.2
  have HB3 : Hid (Below w.heap.size w w3) := HB2.out.trans (H3.out.2.2.mono HB2.out.size)
  have HREF := Lib.hid H3.out.2.1
  have HN' : Hid (n' ≤ n + 1) := H3.out.1
  clear hc hK2 HB2 H3
  simp only [eP]
  obtain ⟨o0, o1, o2, o3, o4, e0, e1, e2, f0, f1, f2, hin⟩ := id hK3
  have hne1 : ¬ (w.heap.size = b8) := by have := hb8.out; omega
  have hne2 : ¬ (b8 = w.heap.size) := fun e => hne1 e.symm
  go_wp2_with fail
  obtain ⟨w4, hw4⟩ : ∃ w4, w4 = st3 b8 x w3 := ⟨_, rfl⟩
  obtain ⟨lb', hlb⟩ : ∃ lb', Hid ((if x = none then lb ++ [((k1, k2), (linesOf lb (k1, k2)).getD i.toNat [])] else lb) = lb') := ⟨_, rfl⟩
  have hK4 : KS base w.heap.size b8 w 3 k1 k2 i (.slice Ap np cp) x w4 := by rw [hw4]; exact hK3.store (by have := hb8.out; omega) (by have := hb8.out; have := H.out.sz; omega)
  have HST4 : Hid (RefAt w0 w4 A' n' c' lb' ∧ NetB base w4 B (linesOf lb)) := by
    rw [hw4]
    have h1 := HREF.out
    rw [hlb.out] at h1
    exact ⟨h1.st3 hK3.inner.2.1, H.out.net.below (st3_below _ HB3.out (by have := hb8.out; omega))⟩
  have hw5 : ((w3.setCell ⟨b8, 0, none⟩ (.bool x.isSome)).setCell ⟨b8, 1, none⟩ (.slice none 0 0)).setCell ⟨b8, 2, none⟩ (.int .i64 (x.getD 0)) = w4 := hw4.symm
  rw [hw5]
  clear hw5 hw4 hK3 o0 o1 o2 o3 o4 e0 e1 e2 f0 f1 f2 hin HREF HB3
  have hc := double_bk base B (linesOf lb) (k1, k2) i w4 HST4.out.2 (Nat.le_trans H.out.sz hK4.inner.2.2.size)
  rw [hx.out] at hc
  refine hc.mono ?_
  rintro e w13 ⟨rfl, g1, g2, g5⟩
  have hK13 := hK4.net g1 g2
  have HS13 : Hid (RefAt w0 w13 A' n' c' lb' ∧ NetB base w13 B (linesOf lb')) := by
    refine ⟨HST4.out.1.keep g2, ?_⟩
    rw [← hlb.out]
    by_cases hxn : x = none
    · rw [if_pos hxn] at g5 ⊢; rwa [linesOf_snoc] at g5
    · rw [if_neg hxn] at g5 ⊢; exact g5
  clear hc hK4 HST4 g1 g2 g5
  obtain ⟨o0, o1, o2, o3, o4, e0, e1, e2, f0, f1, f2, hin⟩ := id hK13
  have HF : Hid (Calls Tryd.prog 14 #[errV x, eP x] w13 fun e w' => e = .returned (.bool true) ∧ Below w13.heap.size w13 w') := fails_same x w13 (H.out.err.below (H.out.old.trans (hK13.inner.2.2.mono H.out.low)))
  have HEND : Hid (∀ W, Below w13.heap.size w13 W → RefAt w0 W A' n' c' lb' ∧ NetB base W B (linesOf lb') ∧ Below base w W) := fun W hW => ⟨HS13.out.1.below hW, HS13.out.2.below hW, hK13.inner.2.2.trans (hW.mono (Nat.le_trans H.out.sz hK13.inner.2.2.size))⟩
  clear hK13 HS13
  unfold eP at HF
  go_wp2_with (first | (go_at_call 14; refine HF.out.mono ?_; rintro e w14 ⟨rfl, hb14⟩; have HB14 := Lib.hid hb14; clear hb14))
  go_ret2
  exact ⟨A', n', c', lb', rfl, HN'.out, HEND.out _ HB14.out⟩

set_option maxHeartbeats 2000000 in
theorem step_ways (w0 : World) (base B : Nat) (w : World) (lb : List PB) (A : Option Addr) (n c : Nat) (kd k1 k2 i : Int) (Ap : Option Addr) (np cp : Nat) (h : StepIn w0 base B w lb A n c) (h0 : kd ≠ 0) (h1 : kd ≠ 1) (h2 : kd ≠ 2) (h3 : kd ≠ 3) :
    Calls Tryd.prog 9 #[.pointer (some ⟨B, 0, none⟩), .slice A n c, .agg #[.int .i64 kd, .int .i64 k1, .int .i64 k2, .int .i64 i, .slice Ap np cp]] w (StepPost w0 base B w n) := by
  have H := Lib.hid h
  have HBB := Lib.hid (boxes_below base w kd k1 k2 i (.slice Ap np cp))
  have d0 : decide (kd = 0) = false := by simp [h0]
  have d1 : decide (kd = 1) = false := by simp [h1]
  have d2 : decide (kd = 2) = false := by simp [h2]
  have d3 : decide (kd = 3) = false := by simp [h3]
  clear h
  go_enter Tryd.func9, Tryd.ntmps9
  go_wp2_with fail
  obtain ⟨w2, hw2⟩ : ∃ w2, w2 = (w.alloc (.cells #[.int .i64 kd, .int .i64 k1, .int .i64 k2, .int .i64 i, .slice Ap np cp] 29)).alloc (.cells #[.bool false, .slice none 0 0, .int .i64 0] 41) := ⟨_, rfl⟩
  have HB2 : Hid (Below w.heap.size w w2) := by rw [hw2]; exact HBB.out
  rw [← hw2]
  clear HBB hw2
  obtain ⟨lr, hl1, hl2, hl3⟩ := (H.out.ref.below HB2.out).pack
  refine (lawways_any base B (linesOf lb) w2 (H.out.net.below HB2.out) (Nat.le_trans H.out.sz HB2.out.size) A n c lr hl1 (by have := H.out.few; omega) hl2 hl3).mono ?_
  rintro e w3 ⟨rfl, hb⟩
  have HEND : Hid (RefAt w0 w3 A n c lb ∧ NetB base w3 B (linesOf lb) ∧ Below base w w3) := by
    have h9 : Below w.heap.size w w3 := HB2.out.trans (hb.mono HB2.out.size)
    exact ⟨H.out.ref.below h9, H.out.net.below h9, h9.mono H.out.sz⟩
  clear hb hl1 hl2 hl3
  go_wp2
  go_ret2
  exact ⟨A, n, c, lb, rfl, by omega, HEND.out⟩

theorem step_any (w0 : World) (base B : Nat) (w : World) (lb : List PB) (A : Option Addr) (n c : Nat) (kd k1 k2 i : Int) (Ap : Option Addr) (np cp : Nat) (pb : List UInt8) (hpb : pb.length = np) (hbig : np ≤ 140737488351232) (h : StepIn w0 base B w lb A n c) (hp : BytesAt w0 Ap pb) :
    Calls Tryd.prog 9 #[.pointer (some ⟨B, 0, none⟩), .slice A n c, .agg #[.int .i64 kd, .int .i64 k1, .int .i64 k2, .int .i64 i, .slice Ap np cp]] w (StepPost w0 base B w n) := by
  by_cases h0 : kd = 0
  · subst h0; exact step_send w0 base B w lb A n c k1 k2 i Ap np cp pb hpb hbig h hp
  · by_cases h1 : kd = 1
    · subst h1; exact step_take w0 base B w lb A n c k1 k2 i Ap np cp h
    · by_cases h2 : kd = 2
      · subst h2; exact step_lose w0 base B w lb A n c k1 k2 i Ap np cp h
      · by_cases h3 : kd = 3
        · subst h3; exact step_double w0 base B w lb A n c k1 k2 i Ap np cp h
        · exact step_ways w0 base B w lb A n c kd k1 k2 i Ap np cp h h0 h1 h2 h3
end Go.Proofs.YtgibpiakeaplbaaDoor
