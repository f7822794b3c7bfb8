/-
  net: the law's step, walked. Own work.
-/
import Derived.Test.YtgibpiakeaplbaaDoorNetStep0
set_option linter.unusedSimpArgs false
set_option linter.unusedVariables false
namespace Go.Proofs.YtgibpiakeaplbaaDoor
open Go Go.RowKit

/-- The boxes of the step: the call told to it, the error at hand. -/
abbrev KS (base b5 b8 : Nat) (w : World) (kd k1 k2 i : Int) (v : Value) (x : Option Int) (W : World) : Prop :=
  W.cell? ⟨b5, 0, none⟩ = some (.int .i64 kd) ∧ W.cell? ⟨b5, 1, none⟩ = some (.int .i64 k1) ∧ W.cell? ⟨b5, 2, none⟩ = some (.int .i64 k2) ∧ W.cell? ⟨b5, 3, none⟩ = some (.int .i64 i) ∧ W.cell? ⟨b5, 4, none⟩ = some v ∧
  W.cell? ⟨b8, 0, none⟩ = some (.bool x.isSome) ∧ W.cell? ⟨b8, 1, none⟩ = some (.slice none 0 0) ∧ W.cell? ⟨b8, 2, none⟩ = some (.int .i64 (x.getD 0)) ∧
  W.frozen? ⟨b8, 0, none⟩ = false ∧ W.frozen? ⟨b8, 1, none⟩ = false ∧ W.frozen? ⟨b8, 2, none⟩ = false ∧
  Hid (W.heap[b5]? = some (.cells #[.int .i64 kd, .int .i64 k1, .int .i64 k2, .int .i64 i, v] 29 (0, 0)) ∧ EBox W b8 x ∧ Below base w W)
section
variable {base b5 b8 : Nat} {w W W' : World} {kd k1 k2 i : Int} {v : Value} {x x' : Option Int}
theorem KS.mk (h5 : W.heap[b5]? = some (.cells #[.int .i64 kd, .int .i64 k1, .int .i64 k2, .int .i64 i, v] 29 (0, 0))) (h8 : EBox W b8 x) (hb : Below base w W) : KS base b5 b8 w kd k1 k2 i v x W :=
  ⟨by simp [World.cell?, h5], by simp [World.cell?, h5], by simp [World.cell?, h5], by simp [World.cell?, h5], by simp [World.cell?, h5], h8.c0, h8.c1, h8.c2, h8.free 0, h8.free 1, h8.free 2, h5, h8, hb⟩
theorem KS.inner (h : KS base b5 b8 w kd k1 k2 i v x W) : W.heap[b5]? = some (.cells #[.int .i64 kd, .int .i64 k1, .int .i64 k2, .int .i64 i, v] 29 (0, 0)) ∧ EBox W b8 x ∧ Below base w W := h.2.2.2.2.2.2.2.2.2.2.2.out
theorem KS.net (h : KS base b5 b8 w kd k1 k2 i v x W) (hb : Below base W W') (hk : KeepC W W') : KS base b5 b8 w kd k1 k2 i v x W' := by
  obtain ⟨h1, h2, h3⟩ := h.inner
  exact KS.mk (hk _ _ _ _ h1 (by decide)) (by unfold EBox at h2 ⊢; exact hk _ _ _ _ h2 (by decide)) (h3.trans hb)
theorem KS.below (h : KS base b5 b8 w kd k1 k2 i v x W) (hs : base ≤ w.heap.size) (hb : Below W.heap.size W W') : KS base b5 b8 w kd k1 k2 i v x W' :=
  h.net (hb.mono (Nat.le_trans hs h.inner.2.2.size)) (KeepC.below hb)
theorem KS.store (h : KS base b5 b8 w kd k1 k2 i v x W) (hne : b5 ≠ b8) (hb : base ≤ b8) : KS base b5 b8 w kd k1 k2 i v x' (st3 b8 x' W) := by
  obtain ⟨h1, h2, h3⟩ := h.inner
  exact KS.mk ((st3_block _ _ _ _ hne).trans h1) (st3_box h2) (st3_below _ h3 hb)
end

/-- What stands when a step begins. -/
structure StepIn (w0 : World) (base B : Nat) (w : World) (lb : List PB) (A : Option Addr) (n c : Nat) : Prop where
  ref : RefAt w0 w A n c lb
  net : NetB base w B (linesOf lb)
  old : Below w0.heap.size w0 w
  low : w0.heap.size ≤ base
  sz : base ≤ w.heap.size
  err : ErrT w0
  few : n ≤ 199

def StepPost (w0 : World) (base B : Nat) (w : World) (n : Nat) (e : Ending) (w' : World) : Prop :=
  ∃ A' n' c' lb', e = .returned (.tuple #[.slice A' n' c', .bool true]) ∧ Hid (n' ≤ n + 1 ∧ RefAt w0 w' A' n' c' lb' ∧ NetB base w' B (linesOf lb') ∧ Below base w w')

/-- The world when the step's boxes lie. -/
theorem step_boxes (base : Nat) (w : World) (kd k1 k2 i : Int) (v : Value) (hs : base ≤ w.heap.size) : KS base w.heap.size (w.heap.size + 1) w kd k1 k2 i v none ((w.alloc (.cells #[.int .i64 kd, .int .i64 k1, .int .i64 k2, .int .i64 i, v] 29)).alloc (.cells #[.bool false, .slice none 0 0, .int .i64 0] 41)) := by
  refine KS.mk ((Below.heap_alloc _ _ _ (by simp)).trans (heap_alloc_new w _)) ?_ ((((Below.refl base w).alloc hs _)).alloc (by simp; omega) _)
  have h := heap_alloc_new (w.alloc (.cells #[.int .i64 kd, .int .i64 k1, .int .i64 k2, .int .i64 i, v] 29)) (.cells #[.bool false, .slice none 0 0, .int .i64 0] 41)
  unfold EBox
  simpa [eCells] using h
theorem boxes_below (base : Nat) (w : World) (kd k1 k2 i : Int) (v : Value) : Below w.heap.size w ((w.alloc (.cells #[.int .i64 kd, .int .i64 k1, .int .i64 k2, .int .i64 i, v] 29)).alloc (.cells #[.bool false, .slice none 0 0, .int .i64 0] 41)) :=
  ((Below.refl _ w).alloc (Nat.le_refl _) _).alloc (by simp) _

theorem RefAt.st3 {w0 w : World} {A : Option Addr} {n c : Nat} {lb : List PB} (h : RefAt w0 w A n c lb) {b : Nat} {x x' : Option Int} (hE : EBox w b x) : RefAt w0 (st3 b x' w) A n c lb := by
  obtain ⟨lr, h1, h2⟩ := h
  have hne : ∀ ad, A = some ad → ad.block ≠ b := fun ad e hb => by
    obtain ⟨cur, hh⟩ := h1.typ ad e
    unfold EBox at hE
    rw [hb, hE] at hh
    injection hh with hh
    injection hh with _ hh _
    exact absurd hh (by decide)
  refine ⟨lr, ⟨h1.len, h1.cap, h1.nil, fun ad e => ?_, fun ad e => ?_⟩, h2⟩
  · obtain ⟨g, e2, h3⟩ := h1.cells ad e
    have hg := hne ad e
    subst e2
    exact ⟨g, rfl, fun j u hu => (World.cell?_of_block (w := w) (a := ⟨g, j, none⟩) (st3_block b x' w g hg)).trans (h3 j u hu)⟩
  · obtain ⟨cur, hh⟩ := h1.typ ad e
    exact ⟨cur, (st3_block b x' w _ (hne ad e)).trans hh⟩

set_option maxHeartbeats 4000000 in
theorem step_send (w0 : World) (base B : Nat) (w : World) (lb : List PB) (A : Option Addr) (n c : Nat) (k1 k2 i : Int) (Ap : Option Addr) (np cp : Nat) (pb : List UInt8) (hpb : pb.length = np) (hbig : np ≤ 140737488351232) (h : StepIn w0 base B w lb A n c) (hp : BytesAt w0 Ap pb) :
    Calls Tryd.prog 9 #[.pointer (some ⟨B, 0, none⟩), .slice A n c, .agg #[.int .i64 0, .int .i64 k1, .int .i64 k2, .int .i64 i, .slice Ap np cp]] w (StepPost w0 base B w n) := by
  have H := Lib.hid h
  have HP : Hid (BytesAt w0 Ap pb ∧ pb.length = np ∧ np ≤ 140737488351232) := ⟨hp, hpb, hbig⟩
  have HKS := Lib.hid (step_boxes base w 0 k1 k2 i (.slice Ap np cp) h.sz)
  have HBB := Lib.hid (boxes_below base w 0 k1 k2 i (.slice Ap np cp))
  obtain ⟨x, hx⟩ : ∃ x, Hid (sendT (linesOf lb) (k1, k2) np = x) := ⟨_, rfl⟩
  obtain ⟨b8, hb8⟩ : ∃ b8, Hid (w.heap.size + 1 = b8) := ⟨_, rfl⟩
  clear h hp hpb hbig
  go_enter Tryd.func9, Tryd.ntmps9
  go_wp2_with fail
  obtain ⟨w2, hw2⟩ : ∃ w2, w2 = (w.alloc (.cells #[.int .i64 0, .int .i64 k1, .int .i64 k2, .int .i64 i, .slice Ap np cp] 29)).alloc (.cells #[.bool false, .slice none 0 0, .int .i64 0] 41) := ⟨_, rfl⟩
  have hK2 := HKS.out
  rw [← hw2, hb8.out] at hK2
  have HB2 : Hid (Below w.heap.size w w2) := by rw [hw2]; exact HBB.out
  rw [← hw2, hb8.out]
  clear HKS HBB hw2
  have hc := sendref_any w0 A n c lb (k1, k2) Ap np cp pb HP.out.2.1 w2 (H.out.ref.below HB2.out) (by have := H.out.few; omega) HP.out.1
  rw [hx.out] at hc
  refine hc.mono ?_
  rintro e w3 ⟨A', n', c', rfl, H3⟩
  have hK3 := hK2.below H.out.sz H3.out.2.2
  have HB3 : Hid (Below w.heap.size w w3) := HB2.out.trans (H3.out.2.2.mono HB2.out.size)
  clear hc hK2 HB2
  simp only [eP]
  obtain ⟨o0, o1, o2, o3, o4, e0, e1, e2, f0, f1, f2, hin⟩ := id hK3
  go_wp2_with fail
  obtain ⟨w4, hw4⟩ : ∃ w4, w4 = st3 b8 x w3 := ⟨_, rfl⟩
  obtain ⟨lb', hlb⟩ : ∃ lb', Hid ((if x = none then lb ++ [((k1, k2), pb)] else lb) = lb') := ⟨_, rfl⟩
  have hK4 : KS base w.heap.size b8 w 0 k1 k2 i (.slice Ap np cp) x w4 := by rw [hw4]; exact hK3.store (by have := hb8.out; omega) (by have := hb8.out; have := H.out.sz; omega)
  have HST4 : Hid (RefAt w0 w4 A' n' c' lb' ∧ NetB base w4 B (linesOf lb)) := by
    rw [hw4]
    have h1 := H3.out.2.1
    rw [hlb.out] at h1
    exact ⟨h1.st3 hK3.inner.2.1, H.out.net.below (st3_below _ HB3.out (by have := hb8.out; omega))⟩
  have HN' : Hid (n' ≤ n + 1) := H3.out.1
  have hw5 : ((w3.setCell ⟨b8, 0, none⟩ (.bool x.isSome)).setCell ⟨b8, 1, none⟩ (.slice none 0 0)).setCell ⟨b8, 2, none⟩ (.int .i64 (x.getD 0)) = w4 := hw4.symm
  rw [hw5]
  clear hw5 hw4 hK3 o0 o1 o2 o3 o4 e0 e1 e2 f0 f1 f2 hin H3 HB3
  have HTW : Hid (∀ W, KS base w.heap.size b8 w 0 k1 k2 i (.slice Ap np cp) x W → Hid (RefAt w0 W A' n' c' lb' ∧ NetB base W B (linesOf lb)) → Calls Tryd.prog 18 #[.slice Ap np cp] W fun e w' => ∃ A9 c9, e = .returned (.slice A9 np c9) ∧ KS base w.heap.size b8 w 0 k1 k2 i (.slice Ap np cp) x w' ∧ Hid (RefAt w0 w' A' n' c' lb' ∧ NetB base w' B (linesOf lb) ∧ BytesAt w' A9 pb)) := fun W hW hS => by
    have hold : Below w0.heap.size w0 W := H.out.old.trans (hW.inner.2.2.mono H.out.low)
    refine (twin_big Ap np pb HP.out.2.1 cp W (HP.out.1.below hold) HP.out.2.2).mono ?_
    rintro e w' ⟨A9, c9, rfl, h⟩
    exact ⟨A9, c9, rfl, hW.below H.out.sz h.out.2, hS.out.1.below h.out.2, hS.out.2.below h.out.2, h.out.1⟩
  have HSN : Hid (∀ W A9 c9, KS base w.heap.size b8 w 0 k1 k2 i (.slice Ap np cp) x W → Hid (RefAt w0 W A' n' c' lb' ∧ NetB base W B (linesOf lb) ∧ BytesAt W A9 pb) → Calls Tryd.prog 12 #[.pointer (some ⟨B, 0, none⟩), .int .i64 k1, .int .i64 k2, .slice A9 np c9] W fun e w' => e = .returned (errV x) ∧ KS base w.heap.size b8 w 0 k1 k2 i (.slice Ap np cp) x w' ∧ Hid (RefAt w0 w' A' n' c' lb' ∧ NetB base w' B (linesOf lb'))) := fun W A9 c9 hW hS => by
    have hc := send_bk base B (linesOf lb) (k1, k2) A9 np c9 pb HP.out.2.1 W hS.out.2.1 (Nat.le_trans H.out.sz hW.inner.2.2.size) hS.out.2.2
    rw [hx.out] at hc
    refine hc.mono ?_
    rintro e w' ⟨rfl, h1, h2, h3⟩
    refine ⟨rfl, hW.net h1 h2, hS.out.1.keep h2, ?_⟩
    rw [← hlb.out]
    by_cases hxn : x = none
    · rw [if_pos hxn] at h3 ⊢; rwa [linesOf_snoc] at h3
    · rw [if_neg hxn] at h3 ⊢; exact h3
  have hKd := hK4.below H.out.sz (Below.refl _ w4).drew
  have HSTd : Hid (RefAt w0 w4.drew A' n' c' lb' ∧ NetB base w4.drew B (linesOf lb)) := ⟨HST4.out.1.below (Below.refl _ w4).drew, HST4.out.2.below (Below.refl _ w4).drew⟩
  clear hK4 HST4 HP
  go_region_held_law (fun W => W.cell? ⟨w.heap.size, 0, none⟩ = some (.int .i64 0) ∧ W.cell? ⟨w.heap.size, 1, none⟩ = some (.int .i64 k1) ∧ W.cell? ⟨w.heap.size, 2, none⟩ = some (.int .i64 k2) ∧ W.cell? ⟨w.heap.size, 3, none⟩ = some (.int .i64 i) ∧ W.cell? ⟨w.heap.size, 4, none⟩ = some (.slice Ap np cp) ∧ W.cell? ⟨b8, 0, none⟩ = some (.bool x.isSome) ∧ W.cell? ⟨b8, 1, none⟩ = some (.slice none 0 0) ∧ W.cell? ⟨b8, 2, none⟩ = some (.int .i64 (x.getD 0)) ∧ W.frozen? ⟨b8, 0, none⟩ = false ∧ W.frozen? ⟨b8, 1, none⟩ = false ∧ W.frozen? ⟨b8, 2, none⟩ = false ∧ Hid (W.heap[w.heap.size]? = some (.cells #[.int .i64 0, .int .i64 k1, .int .i64 k2, .int .i64 i, .slice Ap np cp] 29 (0, 0)) ∧ EBox W b8 x ∧ Below base w W))
    (assumption)
    (first
      | (go_at_call 18; refine (HTW.out _ (by assumption) (by assumption)).mono ?_; rintro e w11 ⟨A9, c9, rfl, hK11, HS11⟩)
      | (go_at_call 12; refine (HSN.out _ _ _ (by assumption) (by assumption)).mono ?_; rintro e w13 ⟨rfl, hK13, HS13⟩))
  all_goals
    clear hKd HSTd HTW HSN hK11 HS11
    obtain ⟨o0, o1, o2, o3, o4, e0, e1, e2, f0, f1, f2, hin⟩ := id hK13
    have HF : Hid (Calls Tryd.prog 14 #[errV x, eP x] w13 fun e w' => e = .returned (.bool true) ∧ Below w13.heap.size w13 w') := fails_same x w13 (H.out.err.below (H.out.old.trans (hK13.inner.2.2.mono H.out.low)))
    have HEND : Hid (∀ W, Below w13.heap.size w13 W → RefAt w0 W A' n' c' lb' ∧ NetB base W B (linesOf lb') ∧ Below base w W) := fun W hW => ⟨HS13.out.1.below hW, HS13.out.2.below hW, hK13.inner.2.2.trans (hW.mono (Nat.le_trans H.out.sz hK13.inner.2.2.size))⟩
    clear hK13 HS13
    unfold eP at HF
    go_wp2_with (go_at_call 14; refine HF.out.mono ?_; rintro e w14 ⟨rfl, hb14⟩; have HB14 := Lib.hid hb14; clear hb14)
    go_ret2
    exact ⟨A', n', c', lb', rfl, HN'.out, HEND.out _ HB14.out⟩
end Go.Proofs.YtgibpiakeaplbaaDoor
