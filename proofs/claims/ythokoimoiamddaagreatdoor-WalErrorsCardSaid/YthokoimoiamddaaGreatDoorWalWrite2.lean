/-
  wal: a frame is written. Own work.
-/
import Derived.Test.YthokoimoiamddaaGreatDoorWalWrite
set_option linter.unusedSimpArgs false
set_option linter.unusedVariables false
namespace Go.Proofs.YthokoimoiamddaaGreatDoor
open Go Go.RowKit

set_option maxHeartbeats 4000000 in
/-- No room for a new file. -/
theorem write_full (base g B seg file size count safe n : Nat) (nm : ByteArray) (v : Vw) (t : Int) (s : St) (kind : UInt8) (A : Option Addr) (m c : Nat) (p : List UInt8) (fresh : Bool) (hp : p.length = m) (w : World) (hA : BytesAt w A p) (hm : m ≤ 600000) (h : Wk base w g B nm seg file size count safe v t n s)
    (hnm : PathOK nm) (hf : file + 1 < 100) (hs : size ≤ 1048576) (hseg : seg ≤ 1048576) (ht : t ≤ 1000000) (hroll : fresh = true ∨ fresh = false ∧ 0 < size ∧ seg < size + (m + 9)) (hn : 64 ≤ n) (hv : v (pathB nm (file + 1)) = none) :
    Calls Tryz.prog 27 #[.pointer (some ⟨g, 0, none⟩), .int .u8 kind.toNat, .slice A m c, .bool fresh] w fun e w' => e = .returned (.iface 42 (.int .i64 11)) ∧ Below w.heap.size w w' := by
  have HK := Lib.hid h
  have HA := Lib.hid hA
  have HP := Lib.hid hp
  have HM := Lib.hid hm
  have HD0 : Hid (DRow (w.alloc (.cells #[.int .u8 kind.toNat] 5)) (.slice (some ⟨w.heap.size, 0, none⟩) 1 1) [kind]) := drow_new w #[.int .u8 kind.toNat] 1 [kind] (by rfl) (Nat.le_refl 1) (Nat.le_refl 1) (by decide)
  have HA0 : Hid (BytesAt (w.alloc (.cells #[.int .u8 kind.toNat] 5)) A p) := hA.below ((Below.refl _ _).alloc (Nat.le_refl _) _)
  clear h hA hp hm
  go_enter Tryz.func27, Tryz.ntmps27
  go_wp2_with (at_builtin; refine wpList_append_bytes _ rfl _ _ rfl (.slice (some ⟨w.heap.size, 0, none⟩) 1 1) [kind] p A m c rfl rfl HP.out HD0.out HA0.out (by have := HM.out; have := HP.out; simp; omega) ?_; intro v' w1 d1 g1 o1; refine Hid.out ?_)
  have HB1 : Hid (Below w.heap.size w w1) := ((Below.refl _ w).alloc (Nat.le_refl _) _).grown g1 (by simp) (fun x e => by simp [Value.ownBlock] at e; omega)
  obtain ⟨A1, c1, rfl, hA1, _⟩ := d1.slice
  have HA1 : Hid (BytesAt w1 A1 (kind :: p)) := hA1
  have HL1 : Hid (([kind] ++ p).length = m + 1) := by have := HP.out; simp [Hid, this]
  rw [HL1.out]
  clear d1 g1 o1 hA1 HD0 HA0
  refine Lib.hid ?_
  go_wp2_with (go_at_call 47; refine (frame_any A1 (m + 1) c1 (kind :: p) HL1.out w1 HA1.out (by have := HM.out; omega)).mono ?_; rintro e w2 ⟨A2, c2, rfl, h2, b2, n2⟩; refine Hid.out ?_)
  have HB2 : Hid (Below w.heap.size w w2) := HB1.out.trans (b2.mono HB1.out.size)
  have HF2 : Hid (BytesAt w2 A2 (frameP sumB (kind :: p))) := h2
  have HK2 : Hid (Wk base w2 g B nm seg file size count safe v t n s) := HK.out.below HB2.out
  have HN2 : Hid (∀ ad, A2 = some ad → w.heap.size ≤ ad.block) := fun ad e => Nat.le_trans HB1.out.size (n2 ad e)
  clear h2 b2 n2 HA1 HL1
  rw [show m + 1 + 8 = m + 9 by omega]
  refine Lib.hid ?_
  rcases hroll with rfl | ⟨rfl, hs0, hsg⟩
  ·
    obtain ⟨k0, k1, k2, k3, k4, k5, k6, kf⟩ := HK2.out.lg.cells
    haveI : Nonempty (QW (fun W => Below w2.heap.size w2 W)) := ⟨⟨w2, Below.refl _ _⟩⟩
    have q2 : ∀ x : QW (fun W => Below w2.heap.size w2 W), x.val.cell? ⟨g, 2, none⟩ = some (.int .i64 seg) := fun x => (HK2.out.below x.ok).lg.cells.2.2.1
    have q4 : ∀ x : QW (fun W => Below w2.heap.size w2 W), x.val.cell? ⟨g, 4, none⟩ = some (.int .i64 size) := fun x => (HK2.out.below x.ok).lg.cells.2.2.2.2.1
    go_wp2_with fail
    refine region_in (fun W => Below w2.heap.size w2 W) (by kernel_rfl) (by kernel_rfl) (Below.refl _ _).drew ?_
    repeat (go_big_quiet_step (fail))
    refine wpQuiet_nil ?_
    intro w3 hb3
    have HB3 : Hid (Below w.heap.size w w3) := HB2.out.trans (hb3.mono HB2.out.size)
    have HF3 : Hid (BytesAt w3 A2 (frameP sumB (kind :: p))) := HF2.out.below hb3
    have HK3 : Hid (Wk base w3 g B nm seg file size count safe v t n s) := HK2.out.below hb3
    clear hb3 k0 k1 k2 k3 k4 k5 k6 kf q2 q4 HB2 HF2
    obtain ⟨k0, k1, k2, k3, k4, k5, k6, kf⟩ := HK3.out.lg.cells
    have hw1 : IntKind.i64.wrap ((file : Int) + 1) = ((file + 1 : Nat) : Int) := by rw [IntKind.wrap_i64]; omega
    obtain ⟨P, hP⟩ : ∃ P : ByteArray, Hid (pathB nm (file + 1) = P) := ⟨_, rfl⟩
    have HPA : Hid (∀ W, Below w3.heap.size w3 W → Calls Tryz.prog 30 #[.pointer (some ⟨g, 0, none⟩), .int .i64 ((file + 1 : Nat) : Int)] W fun e w' => e = .returned (.string P) ∧ (w'.cell? ⟨g, 0, none⟩ = some (.pointer (some ⟨B, 0, none⟩)) ∧ w'.cell? ⟨g, 3, none⟩ = some (.int .i64 file)) ∧ Below w3.heap.size w3 w') := fun W hW => by
      have h1 := HK3.out.below hW
      refine (path_any g nm (file + 1) hf W h1.lg.cells.2.1 (Nat.le_trans hnm.1 (by decide))).mono ?_
      rintro e w' ⟨rfl, hb⟩
      have h2 := h1.below hb
      exact ⟨by rw [hP.out], ⟨h2.lg.cells.1, h2.lg.cells.2.2.2.1⟩, hW.trans (hb.mono hW.size)⟩
    have HAP : Hid (∀ W, Below w3.heap.size w3 W → Calls Tryz.prog 48 #[.pointer (some ⟨B, 0, none⟩), .string P, .slice none 0 0] W fun e w' => e = .returned (.iface 42 (.int .i64 11)) ∧ (w'.cell? ⟨g, 0, none⟩ = some (.pointer (some ⟨B, 0, none⟩)) ∧ w'.cell? ⟨g, 3, none⟩ = some (.int .i64 file)) ∧ Below w3.heap.size w3 w') := fun W hW => by
      have h1 := HK3.out.below hW
      have hv' : v P = none := by rw [← hP.out]; exact hv
      have he : appEv v n P 0 = some 11 := by
        unfold appEv
        rw [if_pos (by rw [← hP.out]; exact (hnm.2 _ hf).1), hv']
        simp only
        rw [if_pos hn]
      refine (dk_append_no h1.dk P none 0 0 [] rfl (by rw [← hP.out]; exact (hnm.2 _ hf).2) (bytes_none W) (by omega) 11 he).mono ?_
      rintro e w' ⟨rfl, rfl⟩
      exact ⟨rfl, ⟨h1.lg.cells.1, h1.lg.cells.2.2.2.1⟩, hW⟩
    go_wp2_with fail
    go_region_held_law (fun W => W.cell? ⟨g, 0, none⟩ = some (.pointer (some ⟨B, 0, none⟩)) ∧ W.cell? ⟨g, 3, none⟩ = some (.int .i64 file)) (first | assumption | exact ⟨k0, k3⟩)
      (first
        | (go_at_call 30; refine (HPA.out _ (by first | exact Below.refl _ _ | exact (Below.refl _ _).drew | exact bdrewN (Below.refl _ _) _)).mono ?_; rintro e w4 ⟨rfl, hS4, hb4⟩)
        | (go_at_call 48; refine (HAP.out _ hb4).mono ?_; rintro e w5 ⟨rfl, hS5, h5⟩)
        | fail)
    have HB5 : Hid (Below w.heap.size w w5) := HB3.out.trans (h5.mono HB3.out.size)
    clear h5 hS5 hS4 hb4 k0 k1 k2 k3 k4 k5 k6 kf HPA HAP
    go_wp2_with fail
    go_ret
    exact ⟨rfl, HB5.out⟩
  ·
    have hs0' : (0 : Int) < (size : Int) := by omega
    have hsg' : (seg : Int) < wrap64 ((size : Int) + ((m : Int) + 9)) := by have := HM.out; unfold wrap64; omega
    obtain ⟨k0, k1, k2, k3, k4, k5, k6, kf⟩ := HK2.out.lg.cells
    haveI : Nonempty (QW (fun W => Below w2.heap.size w2 W)) := ⟨⟨w2, Below.refl _ _⟩⟩
    have q2 : ∀ x : QW (fun W => Below w2.heap.size w2 W), x.val.cell? ⟨g, 2, none⟩ = some (.int .i64 seg) := fun x => (HK2.out.below x.ok).lg.cells.2.2.1
    have q4 : ∀ x : QW (fun W => Below w2.heap.size w2 W), x.val.cell? ⟨g, 4, none⟩ = some (.int .i64 size) := fun x => (HK2.out.below x.ok).lg.cells.2.2.2.2.1
    go_wp2_with fail
    refine region_in (fun W => Below w2.heap.size w2 W) (by kernel_rfl) (by kernel_rfl) (Below.refl _ _).drew ?_
    repeat (go_big_quiet_step (fail))
    refine wpQuiet_nil ?_
    intro w3 hb3
    have HB3 : Hid (Below w.heap.size w w3) := HB2.out.trans (hb3.mono HB2.out.size)
    have HF3 : Hid (BytesAt w3 A2 (frameP sumB (kind :: p))) := HF2.out.below hb3
    have HK3 : Hid (Wk base w3 g B nm seg file size count safe v t n s) := HK2.out.below hb3
    clear hb3 k0 k1 k2 k3 k4 k5 k6 kf q2 q4 HB2 HF2
    obtain ⟨k0, k1, k2, k3, k4, k5, k6, kf⟩ := HK3.out.lg.cells
    have hw1 : IntKind.i64.wrap ((file : Int) + 1) = ((file + 1 : Nat) : Int) := by rw [IntKind.wrap_i64]; omega
    obtain ⟨P, hP⟩ : ∃ P : ByteArray, Hid (pathB nm (file + 1) = P) := ⟨_, rfl⟩
    have HPA : Hid (∀ W, Below w3.heap.size w3 W → Calls Tryz.prog 30 #[.pointer (some ⟨g, 0, none⟩), .int .i64 ((file + 1 : Nat) : Int)] W fun e w' => e = .returned (.string P) ∧ (w'.cell? ⟨g, 0, none⟩ = some (.pointer (some ⟨B, 0, none⟩)) ∧ w'.cell? ⟨g, 3, none⟩ = some (.int .i64 file)) ∧ Below w3.heap.size w3 w') := fun W hW => by
      have h1 := HK3.out.below hW
      refine (path_any g nm (file + 1) hf W h1.lg.cells.2.1 (Nat.le_trans hnm.1 (by decide))).mono ?_
      rintro e w' ⟨rfl, hb⟩
      have h2 := h1.below hb
      exact ⟨by rw [hP.out], ⟨h2.lg.cells.1, h2.lg.cells.2.2.2.1⟩, hW.trans (hb.mono hW.size)⟩
    have HAP : Hid (∀ W, Below w3.heap.size w3 W → Calls Tryz.prog 48 #[.pointer (some ⟨B, 0, none⟩), .string P, .slice none 0 0] W fun e w' => e = .returned (.iface 42 (.int .i64 11)) ∧ (w'.cell? ⟨g, 0, none⟩ = some (.pointer (some ⟨B, 0, none⟩)) ∧ w'.cell? ⟨g, 3, none⟩ = some (.int .i64 file)) ∧ Below w3.heap.size w3 w') := fun W hW => by
      have h1 := HK3.out.below hW
      have hv' : v P = none := by rw [← hP.out]; exact hv
      have he : appEv v n P 0 = some 11 := by
        unfold appEv
        rw [if_pos (by rw [← hP.out]; exact (hnm.2 _ hf).1), hv']
        simp only
        rw [if_pos hn]
      refine (dk_append_no h1.dk P none 0 0 [] rfl (by rw [← hP.out]; exact (hnm.2 _ hf).2) (bytes_none W) (by omega) 11 he).mono ?_
      rintro e w' ⟨rfl, rfl⟩
      exact ⟨rfl, ⟨h1.lg.cells.1, h1.lg.cells.2.2.2.1⟩, hW⟩
    go_wp2_with fail
    go_region_held_law (fun W => W.cell? ⟨g, 0, none⟩ = some (.pointer (some ⟨B, 0, none⟩)) ∧ W.cell? ⟨g, 3, none⟩ = some (.int .i64 file)) (first | assumption | exact ⟨k0, k3⟩)
      (first
        | (go_at_call 30; refine (HPA.out _ (by first | exact Below.refl _ _ | exact (Below.refl _ _).drew | exact bdrewN (Below.refl _ _) _)).mono ?_; rintro e w4 ⟨rfl, hS4, hb4⟩)
        | (go_at_call 48; refine (HAP.out _ hb4).mono ?_; rintro e w5 ⟨rfl, hS5, h5⟩)
        | fail)
    have HB5 : Hid (Below w.heap.size w w5) := HB3.out.trans (h5.mono HB3.out.size)
    clear h5 hS5 hS4 hb4 k0 k1 k2 k3 k4 k5 k6 kf HPA HAP
    go_wp2_with fail
    go_ret
    exact ⟨rfl, HB5.out⟩
set_option maxHeartbeats 4000000 in
/-- A frame in the last file. -/
theorem write_stay (base g B seg file size count safe n : Nat) (nm : ByteArray) (v : Vw) (t : Int) (s : St) (kind : UInt8) (A : Option Addr) (m c : Nat) (p : List UInt8) (fresh : Bool) (hp : p.length = m) (w : World) (hA : BytesAt w A p) (hm : m ≤ 600000) (h : Wk base w g B nm seg file size count safe v t n s)
    (hnm : PathOK nm) (hf : file + 1 < 100) (hs : size ≤ 1048576) (hseg : seg ≤ 1048576) (ht : t ≤ 1000000) (hfr : fresh = false) (hroll : size = 0 ∨ 0 < size ∧ size + (m + 9) ≤ seg) (hv : (∀ q, v (pathB nm file) = some q → q.1.length + (m + 9) ≤ 1048576) ∧ (v (pathB nm file) = none → n < 64)) :
    Calls Tryz.prog 27 #[.pointer (some ⟨g, 0, none⟩), .int .u8 kind.toNat, .slice A m c, .bool fresh] w fun e w' => e = .returned .nilIface ∧ ∃ s', Wk base w' g B nm seg file (size + (m + 9)) count safe (appV v t (pathB nm file) (frameP sumB (kind :: p))) (t + 1) (n + if (v (pathB nm file)).isSome then 0 else 1) s' ∧ WFr g s s' w w' := by
  obtain ⟨n8, hn8⟩ : ∃ n8, Hid ((n + if (v (pathB nm file)).isSome then 0 else 1) = n8) := ⟨_, rfl⟩
  rw [hn8.out]
  have HK := Lib.hid h
  have HA := Lib.hid hA
  have HP := Lib.hid hp
  have HM := Lib.hid hm
  have HD0 : Hid (DRow (w.alloc (.cells #[.int .u8 kind.toNat] 5)) (.slice (some ⟨w.heap.size, 0, none⟩) 1 1) [kind]) := drow_new w #[.int .u8 kind.toNat] 1 [kind] (by rfl) (Nat.le_refl 1) (Nat.le_refl 1) (by decide)
  have HA0 : Hid (BytesAt (w.alloc (.cells #[.int .u8 kind.toNat] 5)) A p) := hA.below ((Below.refl _ _).alloc (Nat.le_refl _) _)
  clear h hA hp hm
  go_enter Tryz.func27, Tryz.ntmps27
  go_wp2_with (at_builtin; refine wpList_append_bytes _ rfl _ _ rfl (.slice (some ⟨w.heap.size, 0, none⟩) 1 1) [kind] p A m c rfl rfl HP.out HD0.out HA0.out (by have := HM.out; have := HP.out; simp; omega) ?_; intro v' w1 d1 g1 o1; refine Hid.out ?_)
  have HB1 : Hid (Below w.heap.size w w1) := ((Below.refl _ w).alloc (Nat.le_refl _) _).grown g1 (by simp) (fun x e => by simp [Value.ownBlock] at e; omega)
  obtain ⟨A1, c1, rfl, hA1, _⟩ := d1.slice
  have HA1 : Hid (BytesAt w1 A1 (kind :: p)) := hA1
  have HL1 : Hid (([kind] ++ p).length = m + 1) := by have := HP.out; simp [Hid, this]
  rw [HL1.out]
  clear d1 g1 o1 hA1 HD0 HA0
  refine Lib.hid ?_
  go_wp2_with (go_at_call 47; refine (frame_any A1 (m + 1) c1 (kind :: p) HL1.out w1 HA1.out (by have := HM.out; omega)).mono ?_; rintro e w2 ⟨A2, c2, rfl, h2, b2, n2⟩; refine Hid.out ?_)
  have HB2 : Hid (Below w.heap.size w w2) := HB1.out.trans (b2.mono HB1.out.size)
  have HF2 : Hid (BytesAt w2 A2 (frameP sumB (kind :: p))) := h2
  have HK2 : Hid (Wk base w2 g B nm seg file size count safe v t n s) := HK.out.below HB2.out
  have HN2 : Hid (∀ ad, A2 = some ad → w.heap.size ≤ ad.block) := fun ad e => Nat.le_trans HB1.out.size (n2 ad e)
  clear h2 b2 n2 HA1 HL1
  rw [show m + 1 + 8 = m + 9 by omega]
  refine Lib.hid ?_
  subst hfr
  rcases hroll with hs00 | ⟨hs01, hsg⟩
  ·
    have hs1 : decide (0 < size) = false := by rw [decide_eq_false_iff_not]; omega
    clear hs00
    obtain ⟨k0, k1, k2, k3, k4, k5, k6, kf⟩ := HK2.out.lg.cells
    haveI : Nonempty (QW (fun W => Below w2.heap.size w2 W)) := ⟨⟨w2, Below.refl _ _⟩⟩
    have q2 : ∀ x : QW (fun W => Below w2.heap.size w2 W), x.val.cell? ⟨g, 2, none⟩ = some (.int .i64 seg) := fun x => (HK2.out.below x.ok).lg.cells.2.2.1
    have q4 : ∀ x : QW (fun W => Below w2.heap.size w2 W), x.val.cell? ⟨g, 4, none⟩ = some (.int .i64 size) := fun x => (HK2.out.below x.ok).lg.cells.2.2.2.2.1
    go_wp2_with fail
    refine region_in (fun W => Below w2.heap.size w2 W) (by kernel_rfl) (by kernel_rfl) (Below.refl _ _).drew ?_
    repeat (go_big_quiet_step (fail))
    refine wpQuiet_nil ?_
    intro w3 hb3
    have HB3 : Hid (Below w.heap.size w w3) := HB2.out.trans (hb3.mono HB2.out.size)
    have HF3 : Hid (BytesAt w3 A2 (frameP sumB (kind :: p))) := HF2.out.below hb3
    have HK3 : Hid (Wk base w3 g B nm seg file size count safe v t n s) := HK2.out.below hb3
    clear hb3 k0 k1 k2 k3 k4 k5 k6 kf q2 q4 HB2 HF2
    obtain ⟨k0, k1, k2, k3, k4, k5, k6, kf⟩ := HK3.out.lg.cells
    obtain ⟨P, hP⟩ : ∃ P : ByteArray, Hid (pathB nm file = P) := ⟨_, rfl⟩
    go_wp2_with fail
    have HPA : Hid (∀ W, Below w3.heap.size w3 W → Calls Tryz.prog 30 #[.pointer (some ⟨g, 0, none⟩), .int .i64 ((file : Nat) : Int)] W fun e w' => e = .returned (.string P) ∧ (w'.cell? ⟨g, 0, none⟩ = some (.pointer (some ⟨B, 0, none⟩)) ∧ w'.cell? ⟨g, 3, none⟩ = some (.int .i64 ((file : Nat) : Int))) ∧ Below w3.heap.size w3 w') := fun W hW => by
      have h1 := HK3.out.below hW
      refine (path_any g nm file (by omega) W h1.lg.cells.2.1 (Nat.le_trans hnm.1 (by decide))).mono ?_
      rintro e w' ⟨rfl, hb⟩
      have h2 := h1.below hb
      exact ⟨by rw [hP.out], ⟨h2.lg.cells.1, h2.lg.cells.2.2.2.1⟩, hW.trans (hb.mono hW.size)⟩
    have HAP : Hid (∀ W, Below w3.heap.size w3 W → Calls Tryz.prog 48 #[.pointer (some ⟨B, 0, none⟩), .string P, .slice A2 (m + 9) c2] W fun e w' => e = .returned .nilIface ∧ (w'.cell? ⟨g, 0, none⟩ = some (.pointer (some ⟨B, 0, none⟩)) ∧ w'.cell? ⟨g, 3, none⟩ = some (.int .i64 ((file : Nat) : Int))) ∧ Hid (∃ s', Wk base w' g B nm seg file size count safe (appV v t P (frameP sumB (kind :: p))) (t + 1) n8 s' ∧ WFr g s s' w w')) := fun W hW => by
      have h1 := HK3.out.below hW
      have hfl : (frameP sumB (kind :: p)).length = m + 9 := by rw [frameP_length, List.length_cons, HP.out]
      have he : appEv v n P (m + 9) = none := by
        unfold appEv
        have := HM.out
        rw [if_pos (by rw [← hP.out]; exact (hnm.2 file (by omega)).1)]
        rw [hP.out] at hv
        cases hq : v P with
        | none => rw [hq] at hv; simp only; rw [if_neg (by have := hv.2 rfl; omega), if_neg (by omega)]
        | some q => have := hv.1 q hq; simp only; rw [if_neg (by omega), if_neg (by omega)]
      have h2 := dk_append_ok h1.dk P A2 (m + 9) c2 (frameP sumB (kind :: p)) hfl (by rw [← hP.out]; exact (hnm.2 file (by omega)).2) (HF3.out.below hW) (by omega) he
      refine h2.mono ?_
      rintro e w' ⟨rfl, s', d1, d2, d3⟩
      simp only [if_neg (frameP_ne _)] at d1
      rw [← hP.out, hn8.out, hP.out] at d1
      have h3 := h1.disk d1 d2
      exact ⟨rfl, ⟨h3.lg.cells.1, h3.lg.cells.2.2.2.1⟩, s', h3, ((WFr.of_below HB3.out).trans (WFr.of_below hW)).trans (WFr.of_frame d2)⟩
    go_region_held_law (fun W => W.cell? ⟨g, 0, none⟩ = some (.pointer (some ⟨B, 0, none⟩)) ∧ W.cell? ⟨g, 3, none⟩ = some (.int .i64 ((file : Nat) : Int))) (first | assumption | exact ⟨k0, k3⟩)
      (first
        | (go_at_call 30; refine (HPA.out _ (by first | exact Below.refl _ _ | exact (Below.refl _ _).drew | exact bdrewN (Below.refl _ _) _)).mono ?_; rintro e w7 ⟨rfl, hS7, hb7⟩)
        | (go_at_call 48; refine (HAP.out _ hb7).mono ?_; rintro e w8 ⟨rfl, hS8, h8⟩)
        | fail)
    obtain ⟨s8, hK8, hW8⟩ := h8.out
    have HK8 := Lib.hid hK8
    have HW8 := Lib.hid hW8
    clear h8 hK8 hW8 hS8 hS7 hb7 k0 k1 k2 k3 k4 k5 k6 kf HPA HAP
    obtain ⟨k0, k1, k2, k3, k4, k5, k6, kf⟩ := HK8.out.lg.cells
    go_wp2_with fail
    first
      | rw [show wrap64 ((size : Int) + ((m : Int) + 9)) = ((size + (m + 9) : Nat) : Int) by have := HM.out; unfold wrap64; omega]
      | rw [show ((size : Int) + ((m : Int) + 9)) = ((size + (m + 9) : Nat) : Int) by omega]
    go_ret
    refine ⟨rfl, s8, ?_, HW8.out.trans (WFr.of_touch (Touch.set _ _ _ _))⟩
    rw [hP.out]
    exact HK8.out.set4 (size + (m + 9))
  ·
    have hsg' : ¬ (seg : Int) < wrap64 ((size : Int) + ((m : Int) + 9)) := by have := HM.out; unfold wrap64; omega
    by_cases hs00 : size = 0
    · exact absurd hs00 (by omega)
    have hs1 : (0 : Int) < (size : Int) := by omega
    obtain ⟨k0, k1, k2, k3, k4, k5, k6, kf⟩ := HK2.out.lg.cells
    haveI : Nonempty (QW (fun W => Below w2.heap.size w2 W)) := ⟨⟨w2, Below.refl _ _⟩⟩
    have q2 : ∀ x : QW (fun W => Below w2.heap.size w2 W), x.val.cell? ⟨g, 2, none⟩ = some (.int .i64 seg) := fun x => (HK2.out.below x.ok).lg.cells.2.2.1
    have q4 : ∀ x : QW (fun W => Below w2.heap.size w2 W), x.val.cell? ⟨g, 4, none⟩ = some (.int .i64 size) := fun x => (HK2.out.below x.ok).lg.cells.2.2.2.2.1
    go_wp2_with fail
    refine region_in (fun W => Below w2.heap.size w2 W) (by kernel_rfl) (by kernel_rfl) (Below.refl _ _).drew ?_
    repeat (go_big_quiet_step (fail))
    refine wpQuiet_nil ?_
    intro w3 hb3
    have HB3 : Hid (Below w.heap.size w w3) := HB2.out.trans (hb3.mono HB2.out.size)
    have HF3 : Hid (BytesAt w3 A2 (frameP sumB (kind :: p))) := HF2.out.below hb3
    have HK3 : Hid (Wk base w3 g B nm seg file size count safe v t n s) := HK2.out.below hb3
    clear hb3 k0 k1 k2 k3 k4 k5 k6 kf q2 q4 HB2 HF2
    obtain ⟨k0, k1, k2, k3, k4, k5, k6, kf⟩ := HK3.out.lg.cells
    obtain ⟨P, hP⟩ : ∃ P : ByteArray, Hid (pathB nm file = P) := ⟨_, rfl⟩
    go_wp2_with fail
    have HPA : Hid (∀ W, Below w3.heap.size w3 W → Calls Tryz.prog 30 #[.pointer (some ⟨g, 0, none⟩), .int .i64 ((file : Nat) : Int)] W fun e w' => e = .returned (.string P) ∧ (w'.cell? ⟨g, 0, none⟩ = some (.pointer (some ⟨B, 0, none⟩)) ∧ w'.cell? ⟨g, 3, none⟩ = some (.int .i64 ((file : Nat) : Int))) ∧ Below w3.heap.size w3 w') := fun W hW => by
      have h1 := HK3.out.below hW
      refine (path_any g nm file (by omega) W h1.lg.cells.2.1 (Nat.le_trans hnm.1 (by decide))).mono ?_
      rintro e w' ⟨rfl, hb⟩
      have h2 := h1.below hb
      exact ⟨by rw [hP.out], ⟨h2.lg.cells.1, h2.lg.cells.2.2.2.1⟩, hW.trans (hb.mono hW.size)⟩
    have HAP : Hid (∀ W, Below w3.heap.size w3 W → Calls Tryz.prog 48 #[.pointer (some ⟨B, 0, none⟩), .string P, .slice A2 (m + 9) c2] W fun e w' => e = .returned .nilIface ∧ (w'.cell? ⟨g, 0, none⟩ = some (.pointer (some ⟨B, 0, none⟩)) ∧ w'.cell? ⟨g, 3, none⟩ = some (.int .i64 ((file : Nat) : Int))) ∧ Hid (∃ s', Wk base w' g B nm seg file size count safe (appV v t P (frameP sumB (kind :: p))) (t + 1) n8 s' ∧ WFr g s s' w w')) := fun W hW => by
      have h1 := HK3.out.below hW
      have hfl : (frameP sumB (kind :: p)).length = m + 9 := by rw [frameP_length, List.length_cons, HP.out]
      have he : appEv v n P (m + 9) = none := by
        unfold appEv
        have := HM.out
        rw [if_pos (by rw [← hP.out]; exact (hnm.2 file (by omega)).1)]
        rw [hP.out] at hv
        cases hq : v P with
        | none => rw [hq] at hv; simp only; rw [if_neg (by have := hv.2 rfl; omega), if_neg (by omega)]
        | some q => have := hv.1 q hq; simp only; rw [if_neg (by omega), if_neg (by omega)]
      have h2 := dk_append_ok h1.dk P A2 (m + 9) c2 (frameP sumB (kind :: p)) hfl (by rw [← hP.out]; exact (hnm.2 file (by omega)).2) (HF3.out.below hW) (by omega) he
      refine h2.mono ?_
      rintro e w' ⟨rfl, s', d1, d2, d3⟩
      simp only [if_neg (frameP_ne _)] at d1
      rw [← hP.out, hn8.out, hP.out] at d1
      have h3 := h1.disk d1 d2
      exact ⟨rfl, ⟨h3.lg.cells.1, h3.lg.cells.2.2.2.1⟩, s', h3, ((WFr.of_below HB3.out).trans (WFr.of_below hW)).trans (WFr.of_frame d2)⟩
    go_region_held_law (fun W => W.cell? ⟨g, 0, none⟩ = some (.pointer (some ⟨B, 0, none⟩)) ∧ W.cell? ⟨g, 3, none⟩ = some (.int .i64 ((file : Nat) : Int))) (first | assumption | exact ⟨k0, k3⟩)
      (first
        | (go_at_call 30; refine (HPA.out _ (by first | exact Below.refl _ _ | exact (Below.refl _ _).drew | exact bdrewN (Below.refl _ _) _)).mono ?_; rintro e w7 ⟨rfl, hS7, hb7⟩)
        | (go_at_call 48; refine (HAP.out _ hb7).mono ?_; rintro e w8 ⟨rfl, hS8, h8⟩)
        | fail)
    obtain ⟨s8, hK8, hW8⟩ := h8.out
    have HK8 := Lib.hid hK8
    have HW8 := Lib.hid hW8
    clear h8 hK8 hW8 hS8 hS7 hb7 k0 k1 k2 k3 k4 k5 k6 kf HPA HAP
    obtain ⟨k0, k1, k2, k3, k4, k5, k6, kf⟩ := HK8.out.lg.cells
    go_wp2_with fail
    first
      | rw [show wrap64 ((size : Int) + ((m : Int) + 9)) = ((size + (m + 9) : Nat) : Int) by have := HM.out; unfold wrap64; omega]
      | rw [show ((size : Int) + ((m : Int) + 9)) = ((size + (m + 9) : Nat) : Int) by omega]
    go_ret
    refine ⟨rfl, s8, ?_, HW8.out.trans (WFr.of_touch (Touch.set _ _ _ _))⟩
    rw [hP.out]
    exact HK8.out.set4 (size + (m + 9))
end Go.Proofs.YthokoimoiamddaaGreatDoor
