/-
  wal: a frame is written. Own work.
-/
import Derived.Test.YthokoimoiamddaaGreatDoorB9
set_option linter.unusedSimpArgs false
set_option linter.unusedVariables false
namespace Go.Proofs.YthokoimoiamddaaGreatDoor
open Go Go.RowKit

/-- The log's names are names of files. -/
def PathOK (nm : ByteArray) : Prop := nm.size ≤ 100 ∧ ∀ k, k < 100 → nmB (pathB nm k) = true ∧ (pathB nm k).size ≤ 4611686018427387904

set_option maxHeartbeats 4000000 in
/-- A frame in a new file. -/
theorem write_roll (base g B seg file size count safe n : Nat) (nm : ByteArray) (v : Vw) (t : Int) (s : St) (kind : UInt8) (A : Option Addr) (m c : Nat) (p : List UInt8) (fresh : Bool) (hp : p.length = m) (w : World) (hA : BytesAt w A p) (hm : m ≤ 600000) (h : Wk base w g B nm seg file size count safe v t n s)
    (hnm : PathOK nm) (hf : file + 1 < 100) (hs : size ≤ 1048576) (hseg : seg ≤ 1048576) (ht : t ≤ 1000000) (hroll : fresh = true ∨ fresh = false ∧ 0 < size ∧ seg < size + (m + 9)) (hn : n < 64) (hv : v (pathB nm (file + 1)) = none) :
    Calls Tryz.prog 27 #[.pointer (some ⟨g, 0, none⟩), .int .u8 kind.toNat, .slice A m c, .bool fresh] w fun e w' => e = .returned .nilIface ∧ ∃ s', Wk base w' g B nm seg (file + 1) (m + 9) count safe (appV (appV v t (pathB nm (file + 1)) []) t (pathB nm (file + 1)) (frameP sumB (kind :: p))) (t + 1) (n + 1) s' ∧ WFr g s s' w w' := by
  have HK := Lib.hid h
  have HA := Lib.hid hA
  have HP := Lib.hid hp
  have HM := Lib.hid hm
  have HD0 : Hid (DRow (w.alloc (.cells #[.int .u8 kind.toNat] 5)) (.slice (some ⟨w.heap.size, 0, none⟩) 1 1) [kind]) := drow_new w #[.int .u8 kind.toNat] 1 [kind] (by rfl) (Nat.le_refl 1) (Nat.le_refl 1) (by decide)
  have HA0 : Hid (BytesAt (w.alloc (.cells #[.int .u8 kind.toNat] 5)) A p) := hA.below ((Below.refl _ _).alloc (Nat.le_refl _) _)
  clear h hA hp hm
  go_enter Tryz.func27, Tryz.ntmps27
  go_wp2_with (at_builtin; refine wpList_append_bytes _ rfl _ _ rfl (.slice (some ⟨w.heap.size, 0, none⟩) 1 1) [kind] p A m c rfl rfl HP.out HD0.out HA0.out (by have := HM.out; have := HP.out; simp; omega) ?_; intro v' w1 d1 g1 o1; refine Hid.out ?_)
  have HB1 : Hid (Below w.heap.size w w1) := ((Below.refl _ w).alloc (Nat.le_refl _) _).grown g1 (by simp) (fun x e => by simp [Value.ownBlock] at e; omega)
  obtain ⟨A1, c1, rfl, hA1, _⟩ := d1.slice
  have HA1 : Hid (BytesAt w1 A1 (kind :: p)) := hA1
  have HL1 : Hid (([kind] ++ p).length = m + 1) := by have := HP.out; simp [Hid, this]
  rw [HL1.out]
  clear d1 g1 o1 hA1 HD0 HA0
  refine Lib.hid ?_
  go_wp2_with (go_at_call 47; refine (frame_any A1 (m + 1) c1 (kind :: p) HL1.out w1 HA1.out (by have := HM.out; omega)).mono ?_; rintro e w2 ⟨A2, c2, rfl, h2, b2, n2⟩; refine Hid.out ?_)
  have HB2 : Hid (Below w.heap.size w w2) := HB1.out.trans (b2.mono HB1.out.size)
  have HF2 : Hid (BytesAt w2 A2 (frameP sumB (kind :: p))) := h2
  have HK2 : Hid (Wk base w2 g B nm seg file size count safe v t n s) := HK.out.below HB2.out
  have HN2 : Hid (∀ ad, A2 = some ad → w.heap.size ≤ ad.block) := fun ad e => Nat.le_trans HB1.out.size (n2 ad e)
  clear h2 b2 n2 HA1 HL1
  rw [show m + 1 + 8 = m + 9 by omega]
  refine Lib.hid ?_
  rcases hroll with rfl | ⟨rfl, hs0, hsg⟩
  ·
    obtain ⟨k0, k1, k2, k3, k4, k5, k6, kf⟩ := HK2.out.lg.cells
    haveI : Nonempty (QW (fun W => Below w2.heap.size w2 W)) := ⟨⟨w2, Below.refl _ _⟩⟩
    have q2 : ∀ x : QW (fun W => Below w2.heap.size w2 W), x.val.cell? ⟨g, 2, none⟩ = some (.int .i64 seg) := fun x => (HK2.out.below x.ok).lg.cells.2.2.1
    have q4 : ∀ x : QW (fun W => Below w2.heap.size w2 W), x.val.cell? ⟨g, 4, none⟩ = some (.int .i64 size) := fun x => (HK2.out.below x.ok).lg.cells.2.2.2.2.1
    go_wp2_with fail
    refine region_in (fun W => Below w2.heap.size w2 W) (by kernel_rfl) (by kernel_rfl) (Below.refl _ _).drew ?_
    repeat (go_big_quiet_step (fail))
    refine wpQuiet_nil ?_
    intro w3 hb3
    have HB3 : Hid (Below w.heap.size w w3) := HB2.out.trans (hb3.mono HB2.out.size)
    have HF3 : Hid (BytesAt w3 A2 (frameP sumB (kind :: p))) := HF2.out.below hb3
    have HK3 : Hid (Wk base w3 g B nm seg file size count safe v t n s) := HK2.out.below hb3
    clear hb3 k0 k1 k2 k3 k4 k5 k6 kf q2 q4 HB2 HF2
    obtain ⟨k0, k1, k2, k3, k4, k5, k6, kf⟩ := HK3.out.lg.cells
    have hw1 : IntKind.i64.wrap ((file : Int) + 1) = ((file + 1 : Nat) : Int) := by rw [IntKind.wrap_i64]; omega
    obtain ⟨P, hP⟩ : ∃ P : ByteArray, Hid (pathB nm (file + 1) = P) := ⟨_, rfl⟩
    have HPA : Hid (∀ W, Below w3.heap.size w3 W → Calls Tryz.prog 30 #[.pointer (some ⟨g, 0, none⟩), .int .i64 ((file + 1 : Nat) : Int)] W fun e w' => e = .returned (.string P) ∧ (w'.cell? ⟨g, 0, none⟩ = some (.pointer (some ⟨B, 0, none⟩)) ∧ w'.cell? ⟨g, 3, none⟩ = some (.int .i64 file)) ∧ Below w3.heap.size w3 w') := fun W hW => by
      have h1 := HK3.out.below hW
      refine (path_any g nm (file + 1) hf W h1.lg.cells.2.1 (Nat.le_trans hnm.1 (by decide))).mono ?_
      rintro e w' ⟨rfl, hb⟩
      have h2 := h1.below hb
      exact ⟨by rw [hP.out], ⟨h2.lg.cells.1, h2.lg.cells.2.2.2.1⟩, hW.trans (hb.mono hW.size)⟩
    have HAP : Hid (∀ W, Below w3.heap.size w3 W → Calls Tryz.prog 48 #[.pointer (some ⟨B, 0, none⟩), .string P, .slice none 0 0] W fun e w' => e = .returned .nilIface ∧ (w'.cell? ⟨g, 0, none⟩ = some (.pointer (some ⟨B, 0, none⟩)) ∧ w'.cell? ⟨g, 3, none⟩ = some (.int .i64 file)) ∧ Hid (∃ s', Wk base w' g B nm seg file size count safe (appV v t P []) t (n + 1) s' ∧ WFr g s s' w w' ∧ BytesAt w' A2 (frameP sumB (kind :: p)))) := fun W hW => by
      have h1 := HK3.out.below hW
      have h2 := dk_append h1.dk P none 0 0 [] rfl (by rw [← hP.out]; exact (hnm.2 _ hf).1) (by rw [← hP.out]; exact (hnm.2 _ hf).2) (bytes_none W) (by omega) hn (by decide) (fun q hq => by rw [← hP.out, hv] at hq; cases hq)
      refine h2.mono ?_
      rintro e w' ⟨rfl, s', d1, d2, d3⟩
      have hv' : v P = none := by rw [← hP.out]; exact hv
      simp only [if_true, hv', Option.isSome_none, Int.add_zero, Bool.false_eq_true, if_false] at d1
      have h3 := h1.disk d1 d2
      refine ⟨rfl, ⟨h3.lg.cells.1, h3.lg.cells.2.2.2.1⟩, s', h3, ?_, ?_⟩
      · exact ((WFr.of_below HB3.out).trans (WFr.of_below hW)).trans (WFr.of_frame d2)
      · refine (HF3.out.below hW).frame d2 fun ad e ho => ?_
        have h4 := HK.out.dk.at_.lt ho
        have h5 := HN2.out ad e
        omega
    go_wp2_with fail
    go_region_held_law (fun W => W.cell? ⟨g, 0, none⟩ = some (.pointer (some ⟨B, 0, none⟩)) ∧ W.cell? ⟨g, 3, none⟩ = some (.int .i64 file)) (first | assumption | exact ⟨k0, k3⟩)
      (first
        | (go_at_call 30; refine (HPA.out _ (by first | exact Below.refl _ _ | exact (Below.refl _ _).drew | exact bdrewN (Below.refl _ _) _)).mono ?_; rintro e w4 ⟨rfl, hS4, hb4⟩)
        | (go_at_call 48; refine (HAP.out _ hb4).mono ?_; rintro e w5 ⟨rfl, hS5, h5⟩)
        | fail)
    obtain ⟨s5, hK5, hW5, hF5⟩ := h5.out
    have HK5 := Lib.hid hK5
    have HW5 := Lib.hid hW5
    have HF5 := Lib.hid hF5
    clear h5 hK5 hW5 hF5 hS5 hS4 hb4 k0 k1 k2 k3 k4 k5 k6 kf HPA HAP
    obtain ⟨k0, k1, k2, k3, k4, k5, k6, kf⟩ := HK5.out.lg.cells
    go_wp2_with fail
    obtain ⟨w6, hw6⟩ : ∃ w6, Hid (w6 = (w5.setCell ⟨g, 3, none⟩ (.int .i64 ((file : Int) + 1))).setCell ⟨g, 4, none⟩ (.int .i64 0)) := ⟨_, rfl⟩
    rw [← hw6.out]
    have HK6 : Hid (Wk base w6 g B nm seg (file + 1) 0 count safe (appV v t P []) t (n + 1) s5) := by rw [hw6.out]; exact (HK5.out.set3 (file + 1)).set4 0
    have HT6 : Hid (Touch (some g) w5 w6) := by rw [hw6.out]; exact (Touch.set _ _ _ _).trans (Touch.set _ _ _ _)
    have HW6 : Hid (WFr g s s5 w w6) := HW5.out.trans (WFr.of_touch HT6.out)
    have HF6 : Hid (BytesAt w6 A2 (frameP sumB (kind :: p))) := HF5.out.log_touch HK5.out.lg HT6.out
    clear k0 k1 k2 k3 k4 k5 k6 kf HF5 HK5 HW5 HT6 hw6
    obtain ⟨k0, k1, k2, k3, k4, k5, k6, kf⟩ := HK6.out.lg.cells
    have HPA : Hid (∀ W, Below w6.heap.size w6 W → Calls Tryz.prog 30 #[.pointer (some ⟨g, 0, none⟩), .int .i64 ((file + 1 : Nat) : Int)] W fun e w' => e = .returned (.string P) ∧ (w'.cell? ⟨g, 0, none⟩ = some (.pointer (some ⟨B, 0, none⟩)) ∧ w'.cell? ⟨g, 3, none⟩ = some (.int .i64 ((file + 1 : Nat) : Int))) ∧ Below w6.heap.size w6 w') := fun W hW => by
      have h1 := HK6.out.below hW
      refine (path_any g nm (file + 1) hf W h1.lg.cells.2.1 (Nat.le_trans hnm.1 (by decide))).mono ?_
      rintro e w' ⟨rfl, hb⟩
      have h2 := h1.below hb
      exact ⟨by rw [hP.out], ⟨h2.lg.cells.1, h2.lg.cells.2.2.2.1⟩, hW.trans (hb.mono hW.size)⟩
    have HAP : Hid (∀ W, Below w6.heap.size w6 W → Calls Tryz.prog 48 #[.pointer (some ⟨B, 0, none⟩), .string P, .slice A2 (m + 9) c2] W fun e w' => e = .returned .nilIface ∧ (w'.cell? ⟨g, 0, none⟩ = some (.pointer (some ⟨B, 0, none⟩)) ∧ w'.cell? ⟨g, 3, none⟩ = some (.int .i64 ((file + 1 : Nat) : Int))) ∧ Hid (∃ s', Wk base w' g B nm seg (file + 1) 0 count safe (appV (appV v t P []) t P (frameP sumB (kind :: p))) (t + 1) (n + 1) s' ∧ WFr g s s' w w')) := fun W hW => by
      have h1 := HK6.out.below hW
      have hat : appV v t P [] P = some ([], []) := by have hv' : v P = none := by rw [← hP.out]; exact hv
                                                       simp [appV, hv']
      have hfl : (frameP sumB (kind :: p)).length = m + 9 := by rw [frameP_length, List.length_cons, HP.out]
      have he : appEv (appV v t P []) (n + 1) P (m + 9) = none := by
        unfold appEv
        have := HM.out
        rw [if_pos (by rw [← hP.out]; exact (hnm.2 _ hf).1), hat]
        simp only [List.length_nil]
        rw [if_neg (by omega), if_neg (by omega)]
      have h2 := dk_append_ok h1.dk P A2 (m + 9) c2 (frameP sumB (kind :: p)) hfl (by rw [← hP.out]; exact (hnm.2 _ hf).2) (HF6.out.below hW) (by omega) he
      refine h2.mono ?_
      rintro e w' ⟨rfl, s', d1, d2, d3⟩
      simp only [if_neg (frameP_ne _), hat, Option.isSome_some, if_true, Nat.add_zero] at d1
      have h3 := h1.disk d1 d2
      exact ⟨rfl, ⟨h3.lg.cells.1, h3.lg.cells.2.2.2.1⟩, s', h3, (HW6.out.trans (WFr.of_below hW)).trans (WFr.of_frame d2)⟩
    go_region_held_law (fun W => W.cell? ⟨g, 0, none⟩ = some (.pointer (some ⟨B, 0, none⟩)) ∧ W.cell? ⟨g, 3, none⟩ = some (.int .i64 ((file + 1 : Nat) : Int))) (first | assumption | exact ⟨k0, k3⟩)
      (first
        | (go_at_call 30; refine (HPA.out _ (by first | exact Below.refl _ _ | exact (Below.refl _ _).drew | exact bdrewN (Below.refl _ _) _)).mono ?_; rintro e w7 ⟨rfl, hS7, hb7⟩)
        | (go_at_call 48; refine (HAP.out _ hb7).mono ?_; rintro e w8 ⟨rfl, hS8, h8⟩)
        | fail)
    obtain ⟨s8, hK8, hW8⟩ := h8.out
    have HK8 := Lib.hid hK8
    have HW8 := Lib.hid hW8
    clear h8 hK8 hW8 hS8 hS7 hb7 k0 k1 k2 k3 k4 k5 k6 kf HPA HAP
    obtain ⟨k0, k1, k2, k3, k4, k5, k6, kf⟩ := HK8.out.lg.cells
    have hw9 : wrap64 ((m : Int) + 9) = ((m + 9 : Nat) : Int) := by have := HM.out; unfold wrap64; omega
    go_wp2_with fail
    rw [hw9]
    go_ret
    refine ⟨rfl, s8, ?_, HW8.out.trans (WFr.of_touch (Touch.set _ _ _ _))⟩
    rw [hP.out]
    exact HK8.out.set4 (m + 9)
  ·
    have hs0' : (0 : Int) < (size : Int) := by omega
    have hsg' : (seg : Int) < wrap64 ((size : Int) + ((m : Int) + 9)) := by have := HM.out; unfold wrap64; omega
    obtain ⟨k0, k1, k2, k3, k4, k5, k6, kf⟩ := HK2.out.lg.cells
    haveI : Nonempty (QW (fun W => Below w2.heap.size w2 W)) := ⟨⟨w2, Below.refl _ _⟩⟩
    have q2 : ∀ x : QW (fun W => Below w2.heap.size w2 W), x.val.cell? ⟨g, 2, none⟩ = some (.int .i64 seg) := fun x => (HK2.out.below x.ok).lg.cells.2.2.1
    have q4 : ∀ x : QW (fun W => Below w2.heap.size w2 W), x.val.cell? ⟨g, 4, none⟩ = some (.int .i64 size) := fun x => (HK2.out.below x.ok).lg.cells.2.2.2.2.1
    go_wp2_with fail
    refine region_in (fun W => Below w2.heap.size w2 W) (by kernel_rfl) (by kernel_rfl) (Below.refl _ _).drew ?_
    repeat (go_big_quiet_step (fail))
    refine wpQuiet_nil ?_
    intro w3 hb3
    have HB3 : Hid (Below w.heap.size w w3) := HB2.out.trans (hb3.mono HB2.out.size)
    have HF3 : Hid (BytesAt w3 A2 (frameP sumB (kind :: p))) := HF2.out.below hb3
    have HK3 : Hid (Wk base w3 g B nm seg file size count safe v t n s) := HK2.out.below hb3
    clear hb3 k0 k1 k2 k3 k4 k5 k6 kf q2 q4 HB2 HF2
    obtain ⟨k0, k1, k2, k3, k4, k5, k6, kf⟩ := HK3.out.lg.cells
    have hw1 : IntKind.i64.wrap ((file : Int) + 1) = ((file + 1 : Nat) : Int) := by rw [IntKind.wrap_i64]; omega
    obtain ⟨P, hP⟩ : ∃ P : ByteArray, Hid (pathB nm (file + 1) = P) := ⟨_, rfl⟩
    have HPA : Hid (∀ W, Below w3.heap.size w3 W → Calls Tryz.prog 30 #[.pointer (some ⟨g, 0, none⟩), .int .i64 ((file + 1 : Nat) : Int)] W fun e w' => e = .returned (.string P) ∧ (w'.cell? ⟨g, 0, none⟩ = some (.pointer (some ⟨B, 0, none⟩)) ∧ w'.cell? ⟨g, 3, none⟩ = some (.int .i64 file)) ∧ Below w3.heap.size w3 w') := fun W hW => by
      have h1 := HK3.out.below hW
      refine (path_any g nm (file + 1) hf W h1.lg.cells.2.1 (Nat.le_trans hnm.1 (by decide))).mono ?_
      rintro e w' ⟨rfl, hb⟩
      have h2 := h1.below hb
      exact ⟨by rw [hP.out], ⟨h2.lg.cells.1, h2.lg.cells.2.2.2.1⟩, hW.trans (hb.mono hW.size)⟩
    have HAP : Hid (∀ W, Below w3.heap.size w3 W → Calls Tryz.prog 48 #[.pointer (some ⟨B, 0, none⟩), .string P, .slice none 0 0] W fun e w' => e = .returned .nilIface ∧ (w'.cell? ⟨g, 0, none⟩ = some (.pointer (some ⟨B, 0, none⟩)) ∧ w'.cell? ⟨g, 3, none⟩ = some (.int .i64 file)) ∧ Hid (∃ s', Wk base w' g B nm seg file size count safe (appV v t P []) t (n + 1) s' ∧ WFr g s s' w w' ∧ BytesAt w' A2 (frameP sumB (kind :: p)))) := fun W hW => by
      have h1 := HK3.out.below hW
      have h2 := dk_append h1.dk P none 0 0 [] rfl (by rw [← hP.out]; exact (hnm.2 _ hf).1) (by rw [← hP.out]; exact (hnm.2 _ hf).2) (bytes_none W) (by omega) hn (by decide) (fun q hq => by rw [← hP.out, hv] at hq; cases hq)
      refine h2.mono ?_
      rintro e w' ⟨rfl, s', d1, d2, d3⟩
      have hv' : v P = none := by rw [← hP.out]; exact hv
      simp only [if_true, hv', Option.isSome_none, Int.add_zero, Bool.false_eq_true, if_false] at d1
      have h3 := h1.disk d1 d2
      refine ⟨rfl, ⟨h3.lg.cells.1, h3.lg.cells.2.2.2.1⟩, s', h3, ?_, ?_⟩
      · exact ((WFr.of_below HB3.out).trans (WFr.of_below hW)).trans (WFr.of_frame d2)
      · refine (HF3.out.below hW).frame d2 fun ad e ho => ?_
        have h4 := HK.out.dk.at_.lt ho
        have h5 := HN2.out ad e
        omega
    go_wp2_with fail
    go_region_held_law (fun W => W.cell? ⟨g, 0, none⟩ = some (.pointer (some ⟨B, 0, none⟩)) ∧ W.cell? ⟨g, 3, none⟩ = some (.int .i64 file)) (first | assumption | exact ⟨k0, k3⟩)
      (first
        | (go_at_call 30; refine (HPA.out _ (by first | exact Below.refl _ _ | exact (Below.refl _ _).drew | exact bdrewN (Below.refl _ _) _)).mono ?_; rintro e w4 ⟨rfl, hS4, hb4⟩)
        | (go_at_call 48; refine (HAP.out _ hb4).mono ?_; rintro e w5 ⟨rfl, hS5, h5⟩)
        | fail)
    obtain ⟨s5, hK5, hW5, hF5⟩ := h5.out
    have HK5 := Lib.hid hK5
    have HW5 := Lib.hid hW5
    have HF5 := Lib.hid hF5
    clear h5 hK5 hW5 hF5 hS5 hS4 hb4 k0 k1 k2 k3 k4 k5 k6 kf HPA HAP
    obtain ⟨k0, k1, k2, k3, k4, k5, k6, kf⟩ := HK5.out.lg.cells
    go_wp2_with fail
    obtain ⟨w6, hw6⟩ : ∃ w6, Hid (w6 = (w5.setCell ⟨g, 3, none⟩ (.int .i64 ((file : Int) + 1))).setCell ⟨g, 4, none⟩ (.int .i64 0)) := ⟨_, rfl⟩
    rw [← hw6.out]
    have HK6 : Hid (Wk base w6 g B nm seg (file + 1) 0 count safe (appV v t P []) t (n + 1) s5) := by rw [hw6.out]; exact (HK5.out.set3 (file + 1)).set4 0
    have HT6 : Hid (Touch (some g) w5 w6) := by rw [hw6.out]; exact (Touch.set _ _ _ _).trans (Touch.set _ _ _ _)
    have HW6 : Hid (WFr g s s5 w w6) := HW5.out.trans (WFr.of_touch HT6.out)
    have HF6 : Hid (BytesAt w6 A2 (frameP sumB (kind :: p))) := HF5.out.log_touch HK5.out.lg HT6.out
    clear k0 k1 k2 k3 k4 k5 k6 kf HF5 HK5 HW5 HT6 hw6
    obtain ⟨k0, k1, k2, k3, k4, k5, k6, kf⟩ := HK6.out.lg.cells
    have HPA : Hid (∀ W, Below w6.heap.size w6 W → Calls Tryz.prog 30 #[.pointer (some ⟨g, 0, none⟩), .int .i64 ((file + 1 : Nat) : Int)] W fun e w' => e = .returned (.string P) ∧ (w'.cell? ⟨g, 0, none⟩ = some (.pointer (some ⟨B, 0, none⟩)) ∧ w'.cell? ⟨g, 3, none⟩ = some (.int .i64 ((file + 1 : Nat) : Int))) ∧ Below w6.heap.size w6 w') := fun W hW => by
      have h1 := HK6.out.below hW
      refine (path_any g nm (file + 1) hf W h1.lg.cells.2.1 (Nat.le_trans hnm.1 (by decide))).mono ?_
      rintro e w' ⟨rfl, hb⟩
      have h2 := h1.below hb
      exact ⟨by rw [hP.out], ⟨h2.lg.cells.1, h2.lg.cells.2.2.2.1⟩, hW.trans (hb.mono hW.size)⟩
    have HAP : Hid (∀ W, Below w6.heap.size w6 W → Calls Tryz.prog 48 #[.pointer (some ⟨B, 0, none⟩), .string P, .slice A2 (m + 9) c2] W fun e w' => e = .returned .nilIface ∧ (w'.cell? ⟨g, 0, none⟩ = some (.pointer (some ⟨B, 0, none⟩)) ∧ w'.cell? ⟨g, 3, none⟩ = some (.int .i64 ((file + 1 : Nat) : Int))) ∧ Hid (∃ s', Wk base w' g B nm seg (file + 1) 0 count safe (appV (appV v t P []) t P (frameP sumB (kind :: p))) (t + 1) (n + 1) s' ∧ WFr g s s' w w')) := fun W hW => by
      have h1 := HK6.out.below hW
      have hat : appV v t P [] P = some ([], []) := by have hv' : v P = none := by rw [← hP.out]; exact hv
                                                       simp [appV, hv']
      have hfl : (frameP sumB (kind :: p)).length = m + 9 := by rw [frameP_length, List.length_cons, HP.out]
      have he : appEv (appV v t P []) (n + 1) P (m + 9) = none := by
        unfold appEv
        have := HM.out
        rw [if_pos (by rw [← hP.out]; exact (hnm.2 _ hf).1), hat]
        simp only [List.length_nil]
        rw [if_neg (by omega), if_neg (by omega)]
      have h2 := dk_append_ok h1.dk P A2 (m + 9) c2 (frameP sumB (kind :: p)) hfl (by rw [← hP.out]; exact (hnm.2 _ hf).2) (HF6.out.below hW) (by omega) he
      refine h2.mono ?_
      rintro e w' ⟨rfl, s', d1, d2, d3⟩
      simp only [if_neg (frameP_ne _), hat, Option.isSome_some, if_true, Nat.add_zero] at d1
      have h3 := h1.disk d1 d2
      exact ⟨rfl, ⟨h3.lg.cells.1, h3.lg.cells.2.2.2.1⟩, s', h3, (HW6.out.trans (WFr.of_below hW)).trans (WFr.of_frame d2)⟩
    go_region_held_law (fun W => W.cell? ⟨g, 0, none⟩ = some (.pointer (some ⟨B, 0, none⟩)) ∧ W.cell? ⟨g, 3, none⟩ = some (.int .i64 ((file + 1 : Nat) : Int))) (first | assumption | exact ⟨k0, k3⟩)
      (first
        | (go_at_call 30; refine (HPA.out _ (by first | exact Below.refl _ _ | exact (Below.refl _ _).drew | exact bdrewN (Below.refl _ _) _)).mono ?_; rintro e w7 ⟨rfl, hS7, hb7⟩)
        | (go_at_call 48; refine (HAP.out _ hb7).mono ?_; rintro e w8 ⟨rfl, hS8, h8⟩)
        | fail)
    obtain ⟨s8, hK8, hW8⟩ := h8.out
    have HK8 := Lib.hid hK8
    have HW8 := Lib.hid hW8
    clear h8 hK8 hW8 hS8 hS7 hb7 k0 k1 k2 k3 k4 k5 k6 kf HPA HAP
    obtain ⟨k0, k1, k2, k3, k4, k5, k6, kf⟩ := HK8.out.lg.cells
    have hw9 : wrap64 ((m : Int) + 9) = ((m + 9 : Nat) : Int) := by have := HM.out; unfold wrap64; omega
    go_wp2_with fail
    rw [hw9]
    go_ret
    refine ⟨rfl, s8, ?_, HW8.out.trans (WFr.of_touch (Touch.set _ _ _ _))⟩
    rw [hP.out]
    exact HK8.out.set4 (m + 9)
end Go.Proofs.YthokoimoiamddaaGreatDoor
