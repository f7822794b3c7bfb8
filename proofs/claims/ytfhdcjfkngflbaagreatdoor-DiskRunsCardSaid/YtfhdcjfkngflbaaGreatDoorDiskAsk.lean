/-
  disk: the law's 'ask', walked. Own work.
-/
import Derived.Test.YtfhdcjfkngflbaaGreatDoorP11
import Derived.Test.YtfhdcjfkngflbaaGreatDoorP6
import Derived.Deep.RegionWith
set_option linter.unusedSimpArgs false
set_option linter.unusedVariables false
namespace Go.Proofs.YtfhdcjfkngflbaaGreatDoor
open Go Go.RowKit

/-- Read on both sides: the same bytes, the same error. -/
theorem pair_read {base B n : Nat} {w : World} {v : Vw} {t : Int} {s : St} {A : Option Addr} {c : Nat} {L : List RF} {last : Int} {a : Int → Int} (hD : Dk base w B v t n s) (hC : Coup v t n L last a) (hR : RefD s.own w A n c L) (hn : n ≤ 64) (hs : Sorted L) (k : ByteArray) :
    ∃ (E : Option Int) (bs : List UInt8), (∀ W, Below w.heap.size w W → Calls Tryz.prog 14 #[.pointer (some ⟨B, 0, none⟩), .string k] W fun e w' => ∃ (A1 : Option Addr) (c1 : Nat), e = .returned (.tuple #[.slice A1 bs.length c1, errV E]) ∧ BytesAt w' A1 bs ∧ Below W.heap.size W w') ∧
      (∀ W, Below w.heap.size w W → Calls Tryz.prog 25 #[.agg #[.slice A n c, .int .i64 last], .string k] W fun e w' => ∃ (A2 : Option Addr) (c2 : Nat), e = .returned (.tuple #[.slice A2 bs.length c2, eV E]) ∧ BytesAt w' A2 bs ∧ Below W.heap.size W w') := by
  cases hv : v k with
  | none =>
    refine ⟨some 10, [], fun W hW => ?_, fun W hW => ?_⟩
    · refine (dk_read_miss (hD.below hW) hv).mono ?_
      rintro e w' ⟨rfl, rfl⟩
      exact ⟨none, 0, rfl, ⟨fun _ => rfl, fun ad e => (by cases e)⟩, Below.refl _ _⟩
    · refine (refread_none s.own A n c L last k W (hR.below hW) hn (hC.miss hv)).mono ?_
      rintro e w' ⟨rfl, hb⟩
      exact ⟨none, 0, rfl, ⟨fun _ => rfl, fun ad e => (by cases e)⟩, hb.out⟩
  | some p =>
    refine ⟨none, p.1, fun W hW => ?_, fun W hW => ?_⟩
    · refine (dk_read (hD.below hW) hv).mono ?_
      rintro e w' ⟨A1, c1, rfl, hr, hb⟩
      exact ⟨A1, c1, rfl, BytesAt.of_own hr, hb⟩
    · obtain ⟨f, hf, rfl, hd, ht⟩ := hC.hit hv
      obtain ⟨i, hi⟩ := List.mem_iff_getElem?.1 hf
      have hR2 := hR.below hW
      refine (refread_some s.own A n c L last i f p.1.length (by rw [hd]) W hR2 hn hs hi).mono ?_
      rintro e w' ⟨rfl, hb⟩
      refine ⟨f.dA, f.dc, rfl, ?_, hb.out⟩
      have := ((hR2.below hb.out).files f hf).data.bytes
      rw [hd] at this; exact this

set_option maxHeartbeats 8000000 in
theorem ask_at (B : Nat) (A : Option Addr) (n c : Nat) (last : Int) (k : ByteArray) (bs : List UInt8) (q : Nat) (hq : bs.length = q) (ev : Value) (bb : Bool) (mm : Int) (N : Int) (ks : List ByteArray) (w : World) (hks : ks.length = n) (hn : n ≤ 64)
    (h1 : ∀ W, Below w.heap.size w W → Calls Tryz.prog 14 #[.pointer (some ⟨B, 0, none⟩), .string k] W fun e w' => ∃ (A1 : Option Addr) (c1 : Nat), e = .returned (.tuple #[.slice A1 q c1, ev]) ∧ BytesAt w' A1 bs ∧ Below W.heap.size W w')
    (h2 : ∀ W, Below w.heap.size w W → Calls Tryz.prog 25 #[.agg #[.slice A n c, .int .i64 last], .string k] W fun e w' => ∃ (A2 : Option Addr) (c2 : Nat), e = .returned (.tuple #[.slice A2 q c2, .agg #[.bool bb, .slice none 0 0, .int .i64 mm]]) ∧ BytesAt w' A2 bs ∧ Below W.heap.size W w')
    (h3 : ∀ W, Below w.heap.size w W → Calls Tryz.prog 24 #[ev, .agg #[.bool bb, .slice none 0 0, .int .i64 mm]] W fun e w' => e = .returned (.bool true) ∧ Below W.heap.size W w')
    (h4 : ∀ W, Below w.heap.size w W → Calls Tryz.prog 27 #[.pointer (some ⟨B, 0, none⟩)] W fun e w' => ∃ (A1 : Option Addr) (c1 : Nat), e = .returned (.slice A1 n c1) ∧ StrRow w' A1 ks ∧ Below W.heap.size W w')
    (h5 : ∀ W, Below w.heap.size w W → Calls Tryz.prog 8 #[.agg #[.slice A n c, .int .i64 last]] W fun e w' => ∃ (A1 : Option Addr) (c1 : Nat), e = .returned (.slice A1 n c1) ∧ StrRow w' A1 ks ∧ Below W.heap.size W w')
    (h6 : ∀ W, Below w.heap.size w W → Calls Tryz.prog 12 #[.pointer (some ⟨B, 0, none⟩)] W fun e w' => e = .returned (.int .i64 N) ∧ Below W.heap.size W w')
    (h7 : ∀ W, Below w.heap.size w W → Calls Tryz.prog 28 #[.agg #[.slice A n c, .int .i64 last]] W fun e w' => e = .returned (.int .i64 N) ∧ Below W.heap.size W w') :
    Calls Tryz.prog 9 #[.pointer (some ⟨B, 0, none⟩), .agg #[.slice A n c, .int .i64 last], .string k] w fun e w' => e = .returned (.bool true) ∧ Below w.heap.size w w' := by
  have H1 := Lib.hid h1
  have H2 := Lib.hid h2
  have H3 := Lib.hid h3
  have H4 := Lib.hid h4
  have H5 := Lib.hid h5
  have H6 := Lib.hid h6
  have H7 := Lib.hid h7
  have HN : Hid (ks.length = n ∧ n ≤ 64 ∧ bs.length = q) := ⟨hks, hn, hq⟩
  clear h1 h2 h3 h4 h5 h6 h7 hks hn hq
  obtain ⟨w1, hw1⟩ : ∃ w1, w1 = w.alloc (.cells #[.slice A n c, .int .i64 last] 29) := ⟨_, rfl⟩
  obtain ⟨b0, hb0⟩ : ∃ b0, b0 = w.heap.size := ⟨_, rfl⟩
  have HW1 : Hid (Below w.heap.size w w1 ∧ w1.heap[b0]? = some (.cells #[.slice A n c, .int .i64 last] 29 (0, 0)) ∧ b0 < w1.heap.size) := by
    rw [hw1, hb0]; exact ⟨(Below.refl _ _).alloc (Nat.le_refl _) _, heap_alloc_new _ _, by simp⟩
  go_enter Tryz.func9, Tryz.ntmps9
  go_wp2_with fail
  rw [← hw1, ← hb0]
  clear hw1 hb0
  refine (H1.out w1 HW1.out.1).mono ?_
  rintro e w2 ⟨A1, c1, rfl, hA1, hb2⟩
  have HW2 : Hid (Below w.heap.size w w2 ∧ w2.heap[b0]? = some (.cells #[.slice A n c, .int .i64 last] 29 (0, 0)) ∧ b0 < w2.heap.size ∧ BytesAt w2 A1 bs) :=
    ⟨HW1.out.1.trans (hb2.mono HW1.out.1.size), (hb2.block _ HW1.out.2.2).trans HW1.out.2.1, Nat.lt_of_lt_of_le HW1.out.2.2 hb2.size, hA1⟩
  clear hA1 hb2
  obtain ⟨d0, d1⟩ := cell2 HW2.out.2.1
  go_wp2_with fail
  refine (H2.out w2 HW2.out.1).mono ?_
  rintro e w3 ⟨A2, c2, rfl, hA2, hb3⟩
  obtain ⟨w4, hw4⟩ : ∃ w4, w4 = w3.alloc (.cells #[.bool bb, .slice none 0 0, .int .i64 mm] 53) := ⟨_, rfl⟩
  obtain ⟨b1, hb1⟩ : ∃ b1, b1 = w3.heap.size := ⟨_, rfl⟩
  have HW4 : Hid (Below w.heap.size w w4 ∧ w4.heap[b0]? = some (.cells #[.slice A n c, .int .i64 last] 29 (0, 0)) ∧ b0 < w4.heap.size ∧ BytesAt w4 A1 bs ∧ BytesAt w4 A2 bs ∧ w4.heap[b1]? = some (.cells #[.bool bb, .slice none 0 0, .int .i64 mm] 53 (0, 0)) ∧ b1 < w4.heap.size) := by
    have hb : Below w3.heap.size w3 w4 := by rw [hw4]; exact (Below.refl _ _).alloc (Nat.le_refl _) _
    have h := HW2.out
    have hb24 : Below w2.heap.size w2 w4 := hb3.trans (hb.mono hb3.size)
    refine ⟨h.1.trans (hb24.mono h.1.size), (hb24.block _ h.2.2.1).trans h.2.1, Nat.lt_of_lt_of_le h.2.2.1 hb24.size, h.2.2.2.below hb24, hA2.below hb, by rw [hw4, hb1]; exact heap_alloc_new _ _, by rw [hw4, hb1]; simp⟩
  clear hA2 hb3
  obtain ⟨d0, d1⟩ := cell2 HW2.out.2.1
  go_wp2_with fail
  rw [← hw4, ← hb1]
  clear hw4 hb1
  have HK : Hid (∀ W, Below w4.heap.size w4 W → Below w.heap.size w W) := fun W hW => HW4.out.1.trans (hW.mono HW4.out.1.size)
  have hbL := Lib.hid ((Below.refl w4.heap.size w4).drew)
  have HBB : Hid (∀ W, Below w4.heap.size w4 W → Calls Tryz.prog 15 #[.slice A1 q c1, .slice A2 q c2] W fun e w' => e = .returned (.bool true) ∧ Below W.heap.size W w') := fun W hW => by
    have h := bytes_any A1 A2 bs bs c1 c2 W (HW4.out.2.2.2.1.below hW) (HW4.out.2.2.2.2.1.below hW)
    rw [HN.out.2.2] at h
    refine h.mono ?_
    rintro e w' ⟨rfl, rfl⟩
    exact ⟨by simp, Below.refl _ _⟩
  obtain ⟨d0, d1⟩ := cell2 ((hbL.out.block b0 HW4.out.2.2.1).trans HW4.out.2.1)
  obtain ⟨e0, e1, e2⟩ := cell3 ((hbL.out.block b1 HW4.out.2.2.2.2.2.2).trans HW4.out.2.2.2.2.2.1)
  go_region_with (first
    | (go_at_call 15; refine (HBB.out _ hbL.out).mono ?_; rintro e w5 ⟨rfl, hb5⟩; have hbL := Lib.hid (hbL.out.trans (hb5.mono hbL.out.size)); obtain ⟨d0, d1⟩ := cell2 ((hbL.out.block b0 HW4.out.2.2.1).trans HW4.out.2.1); obtain ⟨e0, e1, e2⟩ := cell3 ((hbL.out.block b1 HW4.out.2.2.2.2.2.2).trans HW4.out.2.2.2.2.2.1))
    | (go_at_call 24; refine (H3.out _ (HK.out _ hbL.out)).mono ?_; rintro e w6 ⟨rfl, hb6⟩; have hbL := Lib.hid (hbL.out.trans (hb6.mono hbL.out.size)); obtain ⟨d0, d1⟩ := cell2 ((hbL.out.block b0 HW4.out.2.2.1).trans HW4.out.2.1); obtain ⟨e0, e1, e2⟩ := cell3 ((hbL.out.block b1 HW4.out.2.2.2.2.2.2).trans HW4.out.2.2.2.2.2.1))
    | (go_at_call 27; refine (H4.out _ (HK.out _ hbL.out)).mono ?_; rintro e w7 ⟨A3, c3, rfl, hS1, hb7⟩; have hbL := Lib.hid (hbL.out.trans (hb7.mono hbL.out.size)); obtain ⟨d0, d1⟩ := cell2 ((hbL.out.block b0 HW4.out.2.2.1).trans HW4.out.2.1); obtain ⟨e0, e1, e2⟩ := cell3 ((hbL.out.block b1 HW4.out.2.2.2.2.2.2).trans HW4.out.2.2.2.2.2.1); first | (have hS2 := hS2.below hb7) | skip)
    | (go_at_call 8; refine (H5.out _ (HK.out _ hbL.out)).mono ?_; rintro e w8 ⟨A4, c4, rfl, hS2, hb8⟩; have hbL := Lib.hid (hbL.out.trans (hb8.mono hbL.out.size)); obtain ⟨d0, d1⟩ := cell2 ((hbL.out.block b0 HW4.out.2.2.1).trans HW4.out.2.1); obtain ⟨e0, e1, e2⟩ := cell3 ((hbL.out.block b1 HW4.out.2.2.2.2.2.2).trans HW4.out.2.2.2.2.2.1); first | (have hS1 := hS1.below hb8) | skip)
    | (go_at_call 26; refine (strings_same A3 A4 n c3 c4 ks _ HN.out.1 (by have := HN.out; omega) hS1 hS2).mono ?_; rintro e w9 ⟨rfl, hb9⟩; have hbL := Lib.hid (hbL.out.trans (hb9.mono hbL.out.size)); obtain ⟨d0, d1⟩ := cell2 ((hbL.out.block b0 HW4.out.2.2.1).trans HW4.out.2.1); obtain ⟨e0, e1, e2⟩ := cell3 ((hbL.out.block b1 HW4.out.2.2.2.2.2.2).trans HW4.out.2.2.2.2.2.1))
    | (go_at_call 12; refine (H6.out _ (HK.out _ hbL.out)).mono ?_; rintro e w10 ⟨rfl, hb10⟩; have hbL := Lib.hid (hbL.out.trans (hb10.mono hbL.out.size)); obtain ⟨d0, d1⟩ := cell2 ((hbL.out.block b0 HW4.out.2.2.1).trans HW4.out.2.1); obtain ⟨e0, e1, e2⟩ := cell3 ((hbL.out.block b1 HW4.out.2.2.2.2.2.2).trans HW4.out.2.2.2.2.2.1))
    | (go_at_call 28; refine (H7.out _ (HK.out _ hbL.out)).mono ?_; rintro e w11 ⟨rfl, hb11⟩; have hbL := Lib.hid (hbL.out.trans (hb11.mono hbL.out.size)); obtain ⟨d0, d1⟩ := cell2 ((hbL.out.block b0 HW4.out.2.2.1).trans HW4.out.2.1); obtain ⟨e0, e1, e2⟩ := cell3 ((hbL.out.block b1 HW4.out.2.2.2.2.2.2).trans HW4.out.2.2.2.2.2.1))
    | fail)
  all_goals
    go_wp2
    go_ret
    exact ⟨by first | rfl | (simp [Act.put, go_sem]; done), HK.out _ hbL.out⟩
end Go.Proofs.YtfhdcjfkngflbaaGreatDoor
