/-
  wal: the law's step at Checkpoint. Own work (printed by gen_walstep.py).
  wal: the law's step at a crash. Own work (printed by gen_walstep.py).
  wal: the law's step at any other call: Sync and an opening. Own work (printed by gen_walstep.py).
-/
import Derived.Test.YthokoimoiamddaaGreatDoorB13
import Derived.Deep.CutRange
set_option linter.unusedSimpArgs false
set_option linter.unusedVariables false
namespace Go.Proofs.YthokoimoiamddaaGreatDoor
open Go Go.RowKit

section
variable {base B g j q m sc n rc safe : Nat} {w : World} {s : St} {vo : Vw} {ko : List ByteArray} {f : Fnd} {sA rA : Option Addr} {whole : Bool}
set_option maxRecDepth 20000 in
set_option maxHeartbeats 4000000 in
theorem step_check (h : Pl base B vo ko j q w g whole sA m rA n rc safe s f) (ho : Oth kLog vo ko) (h1 : 1 < w.heap.size) (hT : ErrT w) (hE : 0 < base) (pA : Option Addr) (pl pc : Nat) (N seg : Int) (p : List UInt8) (hpl : p.length = pl) (hpB : HeldB w s pA p) (hp3 : pl ≤ 300) (hj : j < 98) :
    Calls Tryz.prog 34 #[.agg #[.pointer (some ⟨B, 0, none⟩), .pointer (some ⟨g, 0, none⟩), .bool whole, .slice sA m sc, .slice rA n rc, .int .i64 safe], .agg #[.int .i64 2, .slice pA pl pc, .int .i64 N, .int .i64 seg]] w fun e w' => StepOut base B vo ko j q w g s e w' := by
  obtain ⟨W0, hW0⟩ : ∃ W0, W0 = ((w.alloc (.cells #[.pointer (some ⟨B, 0, none⟩), .pointer (some ⟨g, 0, none⟩), .bool whole, .slice sA m sc, .slice rA n rc, .int .i64 safe] 51)).alloc (.cells #[.int .i64 2, .slice pA pl pc, .int .i64 N, .int .i64 seg] 73)).alloc (.cells #[.pointer none, .pointer none, .bool false, .slice none 0 0, .slice none 0 0, .int .i64 0] 51) := ⟨_, rfl⟩
  have HS0 : Hid (SI base B vo ko j q w g s W0 f safe s #[.pointer (some ⟨B, 0, none⟩), .pointer (some ⟨g, 0, none⟩), .bool whole, .slice sA m sc, .slice rA n rc, .int .i64 safe] #[.int .i64 2, .slice pA pl pc, .int .i64 N, .int .i64 seg] #[.pointer none, .pointer none, .bool false, .slice none 0 0, .slice none 0 0, .int .i64 0]) := by rw [hW0]; exact si_new h.lg h1 hT hE _ _ _
  have HW0 := Lib.hid hW0
  have HP := Lib.hid h
  have HO := Lib.hid ho
  have HB : Hid (HeldB w s pA p ∧ p.length = pl ∧ pl ≤ 300 ∧ j < 98) := ⟨hpB, hpl, hp3, hj⟩
  clear hW0 h ho h1 hT hE hpl hpB hp3 hj
  go_enter Tryz.func34, Tryz.ntmps34
  go_upto_region 1 with fail
  rw [← HW0.out]
  clear HW0
  obtain ⟨x0, x1, x2, x3, x4, x5, xf⟩ := six_cells HS0.out.bx.x
  obtain ⟨o0, o1, o2, o3, of⟩ := four_cells HS0.out.bx.o
  have HTW : Hid (∀ W, Below W0.heap.size W0 W → Calls Tryz.prog 11 #[.slice pA pl pc] W fun e w' => ∃ A c, e = .returned (.slice A pl c) ∧ Hid (SI base B vo ko j q w g s w' f safe s #[.pointer (some ⟨B, 0, none⟩), .pointer (some ⟨g, 0, none⟩), .bool whole, .slice sA m sc, .slice rA n rc, .int .i64 safe] #[.int .i64 2, .slice pA pl pc, .int .i64 N, .int .i64 seg] #[.pointer none, .pointer none, .bool false, .slice none 0 0, .slice none 0 0, .int .i64 0] ∧ BytesAt w' A p)) := fun W hW => by
    have htw := twin_any pA p pc W ((HB.out.1.lets HS0.out.fr.lets HP.out.lg.logAt).1.below hW) (by have := HB.out.2; omega)
    rw [HB.out.2.1] at htw
    refine htw.mono ?_
    rintro e w' ⟨V, rfl, hrow, hb⟩
    obtain ⟨A, c, rfl⟩ := own_slice hrow
    exact ⟨A, c, rfl, (HS0.out.below hW).below hb, BytesAt.of_own hrow⟩
  have HAP : Hid (∀ W A c, (SI base B vo ko j q w g s W f safe s #[.pointer (some ⟨B, 0, none⟩), .pointer (some ⟨g, 0, none⟩), .bool whole, .slice sA m sc, .slice rA n rc, .int .i64 safe] #[.int .i64 2, .slice pA pl pc, .int .i64 N, .int .i64 seg] #[.pointer none, .pointer none, .bool false, .slice none 0 0, .slice none 0 0, .int .i64 0] ∧ BytesAt W A p) → Calls Tryz.prog 10 #[.pointer (some ⟨g, 0, none⟩), .slice A pl c] W fun e w' => ∃ V, e = .returned V ∧ Hid ((V = .nilIface ∧ ∃ s2, SI base B vo ko (j + 1) q w g s w' ⟨true, p, []⟩ 0 s2 #[.pointer (some ⟨B, 0, none⟩), .pointer (some ⟨g, 0, none⟩), .bool whole, .slice sA m sc, .slice rA n rc, .int .i64 safe] #[.int .i64 2, .slice pA pl pc, .int .i64 N, .int .i64 seg] #[.pointer none, .pointer none, .bool false, .slice none 0 0, .slice none 0 0, .int .i64 0]) ∨ (V = .iface 42 (.int .i64 11) ∧ SI base B vo ko (j + 1) q w g s w' f safe s #[.pointer (some ⟨B, 0, none⟩), .pointer (some ⟨g, 0, none⟩), .bool whole, .slice sA m sc, .slice rA n rc, .int .i64 safe] #[.int .i64 2, .slice pA pl pc, .int .i64 N, .int .i64 seg] #[.pointer none, .pointer none, .bool false, .slice none 0 0, .slice none 0 0, .int .i64 0] ∧ ∃ v t, Dk base w' B v t 64 s))) := fun W A c hW => si_check hW.1 HO.out A pl c p HB.out.2.1 hW.2 (by have := HB.out.2; omega) (by have := HB.out.2; omega)
  go_upto_region 13 with fail
  go_cut [8] from 13 (fun V wx => Hid ((V = .nilIface ∧ ∃ s2, SI base B vo ko (j + 1) q w g s wx ⟨true, p, []⟩ 0 s2 #[.pointer (some ⟨B, 0, none⟩), .pointer (some ⟨g, 0, none⟩), .bool whole, .slice sA m sc, .slice rA n rc, .int .i64 safe] #[.int .i64 2, .slice pA pl pc, .int .i64 N, .int .i64 seg] #[.pointer none, .pointer none, .bool false, .slice none 0 0, .slice none 0 0, .int .i64 0]) ∨ (V = .iface 42 (.int .i64 11) ∧ SI base B vo ko (j + 1) q w g s wx f safe s #[.pointer (some ⟨B, 0, none⟩), .pointer (some ⟨g, 0, none⟩), .bool whole, .slice sA m sc, .slice rA n rc, .int .i64 safe] #[.int .i64 2, .slice pA pl pc, .int .i64 N, .int .i64 seg] #[.pointer none, .pointer none, .bool false, .slice none 0 0, .slice none 0 0, .int .i64 0] ∧ ∃ v t, Dk base wx B v t 64 s)))
  case first =>
    go_region_with (first
      | (go_at_call 11; refine (HTW.out _ ?_).mono ?_; (first | exact Below.refl _ _ | exact (Below.refl _ _).drew); rintro e w1 ⟨Aq, cq, rfl, H1⟩; obtain ⟨y0, y1, y2, y3, y4, y5, yf⟩ := six_cells H1.out.1.bx.x)
      | (go_at_call 10; refine (HAP.out _ _ _ H1.out).mono ?_; rintro e w2 ⟨V, rfl, H2⟩))
    all_goals
      go_wp2_with fail
      go_meet
      exact H2
  case rest =>
  obtain ⟨w5, rfl⟩ : ∃ x, x = wc := ⟨_, rfl⟩
  have HC := hcut
  clear hcut HTW HAP x0 x1 x2 x3 x4 x5 xf o0 o1 o2 o3 of HS0
  rcases HC.out with ⟨rfl, s2, hS⟩ | ⟨rfl, hS, v, t, hd⟩
  rotate_left 1
  · have H : Hid (SI base B vo ko (j + 1) q w g s w5 f safe s #[.pointer (some ⟨B, 0, none⟩), .pointer (some ⟨g, 0, none⟩), .bool whole, .slice sA m sc, .slice rA n rc, .int .i64 safe] #[.int .i64 2, .slice pA pl pc, .int .i64 N, .int .i64 seg] #[.pointer none, .pointer none, .bool false, .slice none 0 0, .slice none 0 0, .int .i64 0] ∧ Dk base w5 B v t 64 s) := ⟨hS, hd⟩
    clear hS hd HC
    obtain ⟨x0, x1, x2, x3, x4, x5, xf⟩ := six_cells H.out.1.bx.x
    go_wp2_with fail
    refine (n_any 11 _).mono ?_
    rintro e w6 ⟨rfl, hb6⟩
    have H6 := Lib.hid (H.out.1.below hb6)
    have HD6 := Lib.hid (H.out.2.below hb6)
    clear hb6 x0 x1 x2 x3 x4 x5 xf
    go_wp2_with fail
    refine (fails_plain 11 11 _ H6.out.et).mono ?_
    rintro e w7 ⟨rfl, hb7⟩
    have H7 := Lib.hid (H6.out.below hb7)
    have HD7 := Lib.hid (HD6.out.below hb7)
    clear hb7
    obtain ⟨x0, x1, x2, x3, x4, x5, xf⟩ := six_cells H7.out.bx.x
    go_wp2_with fail
    refine (dk_names HD7.out).mono ?_
    rintro e w9 ⟨A9, c9, ks, rfl, _, _, _, _, _, hb9⟩
    have H9 := Lib.hid (H7.out.below hb9)
    clear hb9 x0 x1 x2 x3 x4 x5 xf
    obtain ⟨x0, x1, x2, x3, x4, x5, xf⟩ := six_cells H9.out.bx.x
    obtain ⟨z0, z1, z2, z3, z4, z5, zf⟩ := six_cells H9.out.bx.r
    go_wp2_with fail
    obtain ⟨W8, hW8⟩ : ∃ W8, W8 = put6 w9 (w.heap.size + 2) (.pointer (some ⟨B, 0, none⟩)) (.pointer (some ⟨g, 0, none⟩)) (.bool whole) (.slice sA m sc) (.slice rA n rc) (.int .i64 safe) := ⟨_, rfl⟩
    obtain ⟨hl8, hf8⟩ := H9.out.done (.pointer (some ⟨B, 0, none⟩)) (.pointer (some ⟨g, 0, none⟩)) (.bool whole) (.slice sA m sc) (.slice rA n rc) (.int .i64 safe)
    have hx8 := put6_at H9.out.bx.r (.pointer (some ⟨B, 0, none⟩)) (.pointer (some ⟨g, 0, none⟩)) (.bool whole) (.slice sA m sc) (.slice rA n rc) (.int .i64 safe)
    rw [← hW8] at hl8 hf8 hx8
    unfold put6 at hW8
    rw [← hW8]
    refine bodyPost_ret (results_ct rfl _ _ (w.heap.size + 2) _ rfl (load_state _ _ _ _ _ _ _ _ hx8)) rfl ?_
    have hlo := HP.out.lg.logAt
    exact ⟨g, whole, sA, m, sc, rA, n, rc, safe, s, f, rfl, ⟨hl8, HP.out.whole, HP.out.sl, HP.out.shot.lets hf8.lets hlo, HP.out.rl, HP.out.recs.lets hf8.lets hlo, HP.out.cap⟩, hf8, .inl rfl⟩
  · have H : Hid (SI base B vo ko (j + 1) q w g s w5 ⟨true, p, []⟩ 0 s2 #[.pointer (some ⟨B, 0, none⟩), .pointer (some ⟨g, 0, none⟩), .bool whole, .slice sA m sc, .slice rA n rc, .int .i64 safe] #[.int .i64 2, .slice pA pl pc, .int .i64 N, .int .i64 seg] #[.pointer none, .pointer none, .bool false, .slice none 0 0, .slice none 0 0, .int .i64 0]) := hS
    clear hS HC
    go_wp2_with fail
    refine (n_any 11 _).mono ?_
    rintro e w6 ⟨rfl, hb6⟩
    have H6 := Lib.hid (H.out.below hb6)
    clear hb6
    go_wp2_with fail
    refine (fails_no 11 _).mono ?_
    rintro e w7 ⟨rfl, hb7⟩
    have H7 := Lib.hid (H6.out.below hb7)
    clear hb7
    obtain ⟨x0, x1, x2, x3, x4, x5, xf⟩ := six_cells H7.out.bx.x
    obtain ⟨o0, o1, o2, o3, of⟩ := four_cells H7.out.bx.o
    go_upto_region 20 with fail
    obtain ⟨W9, hW9⟩ : ∃ W9, W9 = (((w7.setCell ⟨w.heap.size, 2, none⟩ (.bool true)).setCell ⟨w.heap.size, 3, none⟩ (.slice pA pl pc)).setCell ⟨w.heap.size, 4, none⟩ (.slice none 0 0)).setCell ⟨w.heap.size, 5, none⟩ (.int .i64 0) := ⟨_, rfl⟩
    have HS9 : Hid (SI base B vo ko (j + 1) q w g s W9 ⟨true, p, []⟩ 0 s2 #[.pointer (some ⟨B, 0, none⟩), .pointer (some ⟨g, 0, none⟩), .bool true, .slice pA pl pc, .slice none 0 0, .int .i64 0] #[.int .i64 2, .slice pA pl pc, .int .i64 N, .int .i64 seg] #[.pointer none, .pointer none, .bool false, .slice none 0 0, .slice none 0 0, .int .i64 0]) := by rw [hW9]; exact (((H7.out.putX 2 _).putX 3 _).putX 4 _).putX 5 _
    rw [← hW9]
    clear x0 x1 x2 x3 x4 x5 xf o0 o1 o2 o3 of hW9
    obtain ⟨x0, x1, x2, x3, x4, x5, xf⟩ := six_cells HS9.out.bx.x
    obtain ⟨z0, z1, z2, z3, z4, z5, zf⟩ := six_cells HS9.out.bx.r
    go_region_with (fail)
    all_goals
      go_wp2_with fail
      obtain ⟨W8, hW8⟩ : ∃ W8, W8 = put6 W9 (w.heap.size + 1 + 1) (.pointer (some ⟨B, 0, none⟩)) (.pointer (some ⟨g, 0, none⟩)) (.bool true) (.slice pA pl pc) (.slice none 0 0) (.int .i64 0) := ⟨_, rfl⟩
      have hd8 : Below W8.heap.size W8 W8.drew := (Below.refl _ _).drew
      have hl8 : Lg base W8 g B kLog s2 vo ko ⟨true, p, []⟩ 0 (j + 1) q := by rw [hW8]; exact (HS9.out.done (.pointer (some ⟨B, 0, none⟩)) (.pointer (some ⟨g, 0, none⟩)) (.bool true) (.slice pA pl pc) (.slice none 0 0) (.int .i64 0)).1
      have hf8 : WFr g s s2 w W8.drew := WFr.trans (by rw [hW8]; exact (HS9.out.done (.pointer (some ⟨B, 0, none⟩)) (.pointer (some ⟨g, 0, none⟩)) (.bool true) (.slice pA pl pc) (.slice none 0 0) (.int .i64 0)).2) (WFr.of_below hd8)
      have hx8 : W8.drew.heap[w.heap.size + 1 + 1]? = some (.cells #[.pointer (some ⟨B, 0, none⟩), .pointer (some ⟨g, 0, none⟩), .bool true, .slice pA pl pc, .slice none 0 0, .int .i64 0] 51 (0, 0)) := by
        show W8.heap[w.heap.size + 1 + 1]? = _
        rw [hW8]
        exact put6_at HS9.out.bx.r (.pointer (some ⟨B, 0, none⟩)) (.pointer (some ⟨g, 0, none⟩)) (.bool true) (.slice pA pl pc) (.slice none 0 0) (.int .i64 0)
      unfold put6 at hW8
      rw [← hW8]
      refine bodyPost_ret (results_ct rfl _ _ (w.heap.size + 1 + 1) _ rfl (load_state _ _ _ _ _ _ _ _ hx8)) rfl ?_
      have hlo := HP.out.lg.logAt
      exact ⟨g, true, pA, pl, pc, none, 0, 0, 0, s2, ⟨true, p, []⟩, rfl, ⟨hl8.below hd8, rfl, HB.out.2.1, HB.out.1.lets hf8.lets hlo, rfl, HeldR.nil _ _ _, ⟨Nat.le_refl _, fun _ => rfl⟩⟩, hf8, .inl rfl⟩
end
end Go.Proofs.YthokoimoiamddaaGreatDoor
set_option linter.unusedSimpArgs false
set_option linter.unusedVariables false
namespace Go.Proofs.YthokoimoiamddaaGreatDoor
open Go Go.RowKit

theorem rcut_run (A : Option Addr) (D c k : Nat) (hk : k ≤ D) (hc : D ≤ c) (W : World) : (Instr.slice 22 (.slice A D c) none (some (.int .i64 k)) none).run Tryz.prog W = .ok (.slice A k c) W := by
  have hs : (sizeOf (Tryz.prog.elem 22)).run Tryz.prog W = .ok 1 W := by kernel_rfl
  have ha : ∀ ad : Addr, ad.add 0 = ad := fun ad => by
    obtain ⟨b, o, p⟩ := ad
    simp only [Addr.add]
    split <;> simp_all
  rw [run_slice_h (t := 22) (ht := by kernel_rfl) (h0 := by omega) (h2 := by omega), hs]
  cases A <;> simp [sliced, ha]
section
variable {base B g j q m sc n rc safe : Nat} {w : World} {s : St} {vo : Vw} {ko : List ByteArray} {f : Fnd} {sA rA : Option Addr} {whole : Bool}
set_option maxRecDepth 20000 in
set_option maxHeartbeats 4000000 in
theorem step_crash (h : Pl base B vo ko j q w g whole sA m rA n rc safe s f) (ho : Oth kLog vo ko) (h1 : 1 < w.heap.size) (hT : ErrT w) (hE : 0 < base) (pA : Option Addr) (pl pc : Nat) (N seg : Int) (hj : j < 98) (hseg : -9223372036854775808 ≤ seg ∧ seg ≤ 9223372036854775807) (hN : -9223372036854775808 ≤ N ∧ N ≤ 9223372036854775807) (hq : q ≤ 1000) :
    Calls Tryz.prog 34 #[.agg #[.pointer (some ⟨B, 0, none⟩), .pointer (some ⟨g, 0, none⟩), .bool whole, .slice sA m sc, .slice rA n rc, .int .i64 safe], .agg #[.int .i64 3, .slice pA pl pc, .int .i64 N, .int .i64 seg]] w fun e w' => StepOut base B vo ko j q w g s e w' := by
  obtain ⟨W0, hW0⟩ : ∃ W0, W0 = ((w.alloc (.cells #[.pointer (some ⟨B, 0, none⟩), .pointer (some ⟨g, 0, none⟩), .bool whole, .slice sA m sc, .slice rA n rc, .int .i64 safe] 51)).alloc (.cells #[.int .i64 3, .slice pA pl pc, .int .i64 N, .int .i64 seg] 73)).alloc (.cells #[.pointer none, .pointer none, .bool false, .slice none 0 0, .slice none 0 0, .int .i64 0] 51) := ⟨_, rfl⟩
  have HS0 : Hid (SI base B vo ko j q w g s W0 f safe s #[.pointer (some ⟨B, 0, none⟩), .pointer (some ⟨g, 0, none⟩), .bool whole, .slice sA m sc, .slice rA n rc, .int .i64 safe] #[.int .i64 3, .slice pA pl pc, .int .i64 N, .int .i64 seg] #[.pointer none, .pointer none, .bool false, .slice none 0 0, .slice none 0 0, .int .i64 0]) := by rw [hW0]; exact si_new h.lg h1 hT hE _ _ _
  have HW0 := Lib.hid hW0
  have HP := Lib.hid h
  have HO := Lib.hid ho
  have HB : Hid (j < 98 ∧ True ∧ (-9223372036854775808 ≤ seg ∧ seg ≤ 9223372036854775807) ∧ (-9223372036854775808 ≤ N ∧ N ≤ 9223372036854775807) ∧ (q : Int) * j ≤ 1000000) := ⟨hj, trivial, hseg, hN, by
    have : q * j ≤ 1000 * 98 := Nat.mul_le_mul hq (by omega)
    have h2 : ((q * j : Nat) : Int) ≤ 98000 := by omega
    push_cast at h2
    omega⟩
  obtain ⟨z, hz0, hz1, hz2, hz3⟩ := lg_loose HS0.out.lg HO.out
  have HZ := Lib.hid hz3
  have HL := Lib.hid hz2
  have HZ0 : Hid (0 ≤ z) := hz0
  have HSA : Hid (safe ≤ n) := by have := HP.out.lg.safe_le.1; rw [HP.out.rl] at this; exact this
  clear hW0 h ho h1 hT hE hj hseg hN hq hz0 hz1 hz2 hz3
  go_enter Tryz.func34, Tryz.ntmps34
  go_upto_region 1 with fail
  rw [← HW0.out]
  clear HW0
  obtain ⟨x0, x1, x2, x3, x4, x5, xf⟩ := six_cells HS0.out.bx.x
  obtain ⟨o0, o1, o2, o3, of⟩ := four_cells HS0.out.bx.o
  go_upto_region 22 with fail
  go_wp2_with fail
  refine HL.out.mono ?_
  rintro e w1 ⟨rfl, hb1⟩
  have H1 := Lib.hid (HS0.out.below hb1)
  have HB1 := Lib.hid hb1
  clear hb1 x0 x1 x2 x3 x4 x5 xf o0 o1 o2 o3 of
  obtain ⟨x0, x1, x2, x3, x4, x5, xf⟩ := six_cells H1.out.bx.x
  obtain ⟨o0, o1, o2, o3, of⟩ := four_cells H1.out.bx.o
  go_wp2_with fail
  refine (HZ.out w1 (max 0 N) HB1.out (by omega) (by have := HB.out.2.2.2.1; omega) HB.out.2.2.2.2 (by have := HB.out.1; omega)).mono ?_
  rintro e w2 ⟨rfl, s2, k, hd2, hf2, hk1, hk2, hk3, hk4⟩
  have hw2 := WFr.of_frame hf2 (g := g)
  have H2 : Hid (SD base B vo ko j w g s w2 ⟨f.whole, f.shot, f.recs.take k⟩ s2 #[.pointer (some ⟨B, 0, none⟩), .pointer (some ⟨g, 0, none⟩), .bool whole, .slice sA m sc, .slice rA n rc, .int .i64 safe] #[.int .i64 3, .slice pA pl pc, .int .i64 N, .int .i64 seg] #[.pointer none, .pointer none, .bool false, .slice none 0 0, .slice none 0 0, .int .i64 0]) := ⟨hd2, H1.out.bx.wfr H1.out.lg hw2, H1.out.fr.trans hw2, H1.out.lo, H1.out.et.low (H1.out.lg.below_of hw2) H1.out.eb, H1.out.eb, H1.out.bw⟩
  have HK : Hid (safe ≤ k ∧ k ≤ n ∧ (z ≤ max 0 N → k = n) ∧ (max 0 N = 0 → k = safe)) := by rw [HP.out.rl] at hk2 hk3; exact ⟨hk1, hk2, hk3, hk4⟩
  clear hd2 hf2 hw2 hk1 hk2 hk3 hk4 H1 HB1 HZ HL x0 x1 x2 x3 x4 x5 xf o0 o1 o2 o3 of
  obtain ⟨x0, x1, x2, x3, x4, x5, xf⟩ := six_cells H2.out.bx.x
  obtain ⟨o0, o1, o2, o3, of⟩ := four_cells H2.out.bx.o
  have HTK : Hid ((f.recs.take k).length = k) := by rw [Hid, List.length_take]; have := HP.out.rl; have := HK.out.2.1; omega
  by_cases hNz : z ≤ N
  · have d1 : decide (N ≥ z) = true := decide_eq_true hNz
    by_cases hN0 : N ≤ 0
    · have d2 : decide (N ≤ 0) = true := decide_eq_true hN0
      have hrc := fun W => rcut_run rA n rc safe HSA.out HP.out.cap.1 W
      have HF : Hid (k = n ∧ k = safe) := ⟨HK.out.2.2.1 (by omega), HK.out.2.2.2 (by omega)⟩
      go_upto_region 30 with fail
      have HSD : Hid (SD base B vo ko j w g s (w2.setCell ⟨w.heap.size, 4, none⟩ (.slice rA safe rc)) ⟨f.whole, f.shot, f.recs.take k⟩ s2 #[.pointer (some ⟨B, 0, none⟩), .pointer (some ⟨g, 0, none⟩), .bool whole, .slice sA m sc, .slice rA safe rc, .int .i64 safe] #[.int .i64 3, .slice pA pl pc, .int .i64 N, .int .i64 seg] #[.pointer none, .pointer none, .bool false, .slice none 0 0, .slice none 0 0, .int .i64 0]) := H2.out.putX 4 _
      obtain ⟨W3, hW3⟩ : ∃ W3, W3 = w2.setCell ⟨w.heap.size, 4, none⟩ (.slice rA safe rc) := ⟨_, rfl⟩
      rw [← hW3] at HSD ⊢
      clear x0 x1 x2 x3 x4 x5 xf o0 o1 o2 o3 of hW3 hrc d1 d2
      obtain ⟨x0, x1, x2, x3, x4, x5, xf⟩ := six_cells HSD.out.bx.x
      obtain ⟨o0, o1, o2, o3, of⟩ := four_cells HSD.out.bx.o
      have HLO : Hid (Calls Tryz.prog 33 #[.agg #[.pointer (some ⟨B, 0, none⟩), .pointer (some ⟨g, 0, none⟩), .bool whole, .slice sA m sc, .slice rA safe rc, .int .i64 safe], .int .i64 n, .int .i64 seg] W3 fun e w' => ∃ (g2 k0 c : Nat) (A : Option Addr) (s4 : St), e = .returned (.tuple #[.agg #[.pointer (some ⟨B, 0, none⟩), .pointer (some ⟨g2, 0, none⟩), .bool whole, .slice sA m sc, .slice A k0 c, .int .i64 k0], .bool true]) ∧ Hid (k0 = (⟨f.whole, f.shot, f.recs.take k⟩ : Fnd).recs.length ∧ (k0 ≤ c ∧ (A = none → c = 0)) ∧ Lg base w' g2 B kLog s4 vo ko (⟨f.whole, f.shot, f.recs.take k⟩ : Fnd) k0 j q ∧ HeldR w' s4 A (⟨f.whole, f.shot, f.recs.take k⟩ : Fnd).recs ∧ Frame s2 s4 W3 w' ∧ RowsLo w' W3.heap.size A (⟨f.whole, f.shot, f.recs.take k⟩ : Fnd).recs ∧ W3.heap.size ≤ g2)) := by
        refine (lopen_any (rs := f.recs.take safe) (sc := sc) (some ⟨g, 0, none⟩) whole safe n seg q HSD.out.lg HO.out HP.out.whole HP.out.sl (HP.out.shot.lets HSD.out.fr.lets HP.out.lg.logAt) (by rw [List.length_take]; have := HP.out.rl; have := HSA.out; omega) ((HP.out.recs.lets HSD.out.fr.lets HP.out.lg.logAt).take safe) (by show f.recs.take k = (f.recs.take safe).take (f.recs.take k).length; rw [HTK.out, HF.out.2, List.take_take, Nat.min_self]) (by show (n : Int) ≤ ((f.recs.take k).length : Int); rw [HTK.out]; have := HF.out; omega) (by have := HB.out.1; omega) ⟨Nat.le_trans HSA.out HP.out.cap.1, HP.out.cap.2⟩ HB.out.2.2.1).mono ?_
        rintro e w' ⟨g2, k0, c, A, s4, e1, e2, rfl, e4, e5, e6, e7, e8, e9⟩
        exact ⟨g2, k0, c, A, s4, rfl, e1, e2, e4, e5, e7, e8, e9⟩
      go_wp2_with fail
      refine HLO.out.mono ?_
      rintro e w4 ⟨g2, k2, c2, A2, s4, rfl, H4⟩
      have hbx := HSD.out.bx.frame HSD.out.lg H4.out.2.2.2.2.1
      have HBX := Lib.hid hbx
      clear x0 x1 x2 x3 x4 x5 xf o0 o1 o2 o3 of hbx
      obtain ⟨z0, z1, z2, z3, z4, z5, zf⟩ := six_cells HBX.out.r
      go_wp2_with fail
      obtain ⟨hk2, hc2, hl4, hr4, hf4, hlo4, hg4⟩ := H4.out
      obtain ⟨W8, hW8⟩ : ∃ W8, W8 = put6 w4 (w.heap.size + 2) (.pointer (some ⟨B, 0, none⟩)) (.pointer (some ⟨g2, 0, none⟩)) (.bool whole) (.slice sA m sc) (.slice A2 k2 c2) (.int .i64 k2) := ⟨_, rfl⟩
      have ht8 := put6_touch w4 (w.heap.size + 2) (.pointer (some ⟨B, 0, none⟩)) (.pointer (some ⟨g2, 0, none⟩)) (.bool whole) (.slice sA m sc) (.slice A2 k2 c2) (.int .i64 k2)
      have hx8 := put6_at HBX.out.r (.pointer (some ⟨B, 0, none⟩)) (.pointer (some ⟨g2, 0, none⟩)) (.bool whole) (.slice sA m sc) (.slice A2 k2 c2) (.int .i64 k2)
      rw [← hW8] at ht8 hx8
      unfold put6 at hW8
      rw [← hW8]
      refine bodyPost_ret (results_ct rfl _ _ (w.heap.size + 2) _ rfl (load_state _ _ _ _ _ _ _ _ hx8)) rfl ?_
      have hlo := HP.out.lg.logAt
      have hf8 : WFr g s s4 w W8 := (HSD.out.fr.trans (WFr.of_frame hf4)).put ht8 (by omega)
      have hl8 := (hl4.put HBX.out.r (by have := HSD.out.lo; omega) ht8).succ
      have hsz : w.heap.size + 2 < W3.heap.size := (Array.getElem?_eq_some_iff.1 HSD.out.bx.r).1
      exact ⟨g2, whole, sA, m, sc, A2, k2, c2, k2, s4, (⟨f.whole, f.shot, f.recs.take k⟩ : Fnd), rfl, ⟨hl8, HP.out.whole, HP.out.sl, HP.out.shot.lets hf8.lets hlo, hk2.symm, hlo4.keep hr4 fun x hx hx2 => ht8.block x fun e => by have := Option.some.inj e; omega, hc2⟩, hf8, .inr (Nat.le_trans HSD.out.fr.size hg4)⟩
    · have d2 : decide (N ≤ 0) = false := decide_eq_false hN0
      have HF : Hid (n ≤ k) := by have := HK.out.2.2.1 (by omega); unfold Hid; omega
      go_upto_region 30 with fail
      have HSD : Hid (SD base B vo ko j w g s w2 ⟨f.whole, f.shot, f.recs.take k⟩ s2 #[.pointer (some ⟨B, 0, none⟩), .pointer (some ⟨g, 0, none⟩), .bool whole, .slice sA m sc, .slice rA n rc, .int .i64 safe] #[.int .i64 3, .slice pA pl pc, .int .i64 N, .int .i64 seg] #[.pointer none, .pointer none, .bool false, .slice none 0 0, .slice none 0 0, .int .i64 0]) := H2.out
      obtain ⟨W3, rfl⟩ : ∃ W3, W3 = w2 := ⟨_, rfl⟩
      clear d1 d2
      have HLO : Hid (Calls Tryz.prog 33 #[.agg #[.pointer (some ⟨B, 0, none⟩), .pointer (some ⟨g, 0, none⟩), .bool whole, .slice sA m sc, .slice rA n rc, .int .i64 safe], .int .i64 n, .int .i64 seg] W3 fun e w' => ∃ (g2 k0 c : Nat) (A : Option Addr) (s4 : St), e = .returned (.tuple #[.agg #[.pointer (some ⟨B, 0, none⟩), .pointer (some ⟨g2, 0, none⟩), .bool whole, .slice sA m sc, .slice A k0 c, .int .i64 k0], .bool true]) ∧ Hid (k0 = (⟨f.whole, f.shot, f.recs.take k⟩ : Fnd).recs.length ∧ (k0 ≤ c ∧ (A = none → c = 0)) ∧ Lg base w' g2 B kLog s4 vo ko (⟨f.whole, f.shot, f.recs.take k⟩ : Fnd) k0 j q ∧ HeldR w' s4 A (⟨f.whole, f.shot, f.recs.take k⟩ : Fnd).recs ∧ Frame s2 s4 W3 w' ∧ RowsLo w' W3.heap.size A (⟨f.whole, f.shot, f.recs.take k⟩ : Fnd).recs ∧ W3.heap.size ≤ g2)) := by
        refine (lopen_any (rs := f.recs) (sc := sc) (some ⟨g, 0, none⟩) whole safe n seg q HSD.out.lg HO.out HP.out.whole HP.out.sl (HP.out.shot.lets HSD.out.fr.lets HP.out.lg.logAt) HP.out.rl (HP.out.recs.lets HSD.out.fr.lets HP.out.lg.logAt) (by show f.recs.take k = f.recs.take (f.recs.take k).length; rw [HTK.out]) (by show (n : Int) ≤ ((f.recs.take k).length : Int); rw [HTK.out]; have := HF.out; omega) (by have := HB.out.1; omega) HP.out.cap HB.out.2.2.1).mono ?_
        rintro e w' ⟨g2, k0, c, A, s4, e1, e2, rfl, e4, e5, e6, e7, e8, e9⟩
        exact ⟨g2, k0, c, A, s4, rfl, e1, e2, e4, e5, e7, e8, e9⟩
      go_wp2_with fail
      refine HLO.out.mono ?_
      rintro e w4 ⟨g2, k2, c2, A2, s4, rfl, H4⟩
      have hbx := HSD.out.bx.frame HSD.out.lg H4.out.2.2.2.2.1
      have HBX := Lib.hid hbx
      clear x0 x1 x2 x3 x4 x5 xf o0 o1 o2 o3 of hbx
      obtain ⟨z0, z1, z2, z3, z4, z5, zf⟩ := six_cells HBX.out.r
      go_wp2_with fail
      obtain ⟨hk2, hc2, hl4, hr4, hf4, hlo4, hg4⟩ := H4.out
      obtain ⟨W8, hW8⟩ : ∃ W8, W8 = put6 w4 (w.heap.size + 2) (.pointer (some ⟨B, 0, none⟩)) (.pointer (some ⟨g2, 0, none⟩)) (.bool whole) (.slice sA m sc) (.slice A2 k2 c2) (.int .i64 k2) := ⟨_, rfl⟩
      have ht8 := put6_touch w4 (w.heap.size + 2) (.pointer (some ⟨B, 0, none⟩)) (.pointer (some ⟨g2, 0, none⟩)) (.bool whole) (.slice sA m sc) (.slice A2 k2 c2) (.int .i64 k2)
      have hx8 := put6_at HBX.out.r (.pointer (some ⟨B, 0, none⟩)) (.pointer (some ⟨g2, 0, none⟩)) (.bool whole) (.slice sA m sc) (.slice A2 k2 c2) (.int .i64 k2)
      rw [← hW8] at ht8 hx8
      unfold put6 at hW8
      rw [← hW8]
      refine bodyPost_ret (results_ct rfl _ _ (w.heap.size + 2) _ rfl (load_state _ _ _ _ _ _ _ _ hx8)) rfl ?_
      have hlo := HP.out.lg.logAt
      have hf8 : WFr g s s4 w W8 := (HSD.out.fr.trans (WFr.of_frame hf4)).put ht8 (by omega)
      have hl8 := (hl4.put HBX.out.r (by have := HSD.out.lo; omega) ht8).succ
      have hsz : w.heap.size + 2 < W3.heap.size := (Array.getElem?_eq_some_iff.1 HSD.out.bx.r).1
      exact ⟨g2, whole, sA, m, sc, A2, k2, c2, k2, s4, (⟨f.whole, f.shot, f.recs.take k⟩ : Fnd), rfl, ⟨hl8, HP.out.whole, HP.out.sl, HP.out.shot.lets hf8.lets hlo, hk2.symm, hlo4.keep hr4 fun x hx hx2 => ht8.block x fun e => by have := Option.some.inj e; omega, hc2⟩, hf8, .inr (Nat.le_trans HSD.out.fr.size hg4)⟩
  · have d1 : decide (N ≥ z) = false := decide_eq_false hNz
    by_cases hN0 : N ≤ 0
    · have d2 : decide (N ≤ 0) = true := decide_eq_true hN0
      have hrc := fun W => rcut_run rA n rc safe HSA.out HP.out.cap.1 W
      have HF : Hid (k = safe ∧ k = safe) := ⟨HK.out.2.2.2 (by omega), HK.out.2.2.2 (by omega)⟩
      go_upto_region 30 with fail
      have HSD : Hid (SD base B vo ko j w g s (w2.setCell ⟨w.heap.size, 4, none⟩ (.slice rA safe rc)) ⟨f.whole, f.shot, f.recs.take k⟩ s2 #[.pointer (some ⟨B, 0, none⟩), .pointer (some ⟨g, 0, none⟩), .bool whole, .slice sA m sc, .slice rA safe rc, .int .i64 safe] #[.int .i64 3, .slice pA pl pc, .int .i64 N, .int .i64 seg] #[.pointer none, .pointer none, .bool false, .slice none 0 0, .slice none 0 0, .int .i64 0]) := H2.out.putX 4 _
      obtain ⟨W3, hW3⟩ : ∃ W3, W3 = w2.setCell ⟨w.heap.size, 4, none⟩ (.slice rA safe rc) := ⟨_, rfl⟩
      rw [← hW3] at HSD ⊢
      clear x0 x1 x2 x3 x4 x5 xf o0 o1 o2 o3 of hW3 hrc d1 d2
      obtain ⟨x0, x1, x2, x3, x4, x5, xf⟩ := six_cells HSD.out.bx.x
      obtain ⟨o0, o1, o2, o3, of⟩ := four_cells HSD.out.bx.o
      have HLO : Hid (Calls Tryz.prog 33 #[.agg #[.pointer (some ⟨B, 0, none⟩), .pointer (some ⟨g, 0, none⟩), .bool whole, .slice sA m sc, .slice rA safe rc, .int .i64 safe], .int .i64 safe, .int .i64 seg] W3 fun e w' => ∃ (g2 k0 c : Nat) (A : Option Addr) (s4 : St), e = .returned (.tuple #[.agg #[.pointer (some ⟨B, 0, none⟩), .pointer (some ⟨g2, 0, none⟩), .bool whole, .slice sA m sc, .slice A k0 c, .int .i64 k0], .bool true]) ∧ Hid (k0 = (⟨f.whole, f.shot, f.recs.take k⟩ : Fnd).recs.length ∧ (k0 ≤ c ∧ (A = none → c = 0)) ∧ Lg base w' g2 B kLog s4 vo ko (⟨f.whole, f.shot, f.recs.take k⟩ : Fnd) k0 j q ∧ HeldR w' s4 A (⟨f.whole, f.shot, f.recs.take k⟩ : Fnd).recs ∧ Frame s2 s4 W3 w' ∧ RowsLo w' W3.heap.size A (⟨f.whole, f.shot, f.recs.take k⟩ : Fnd).recs ∧ W3.heap.size ≤ g2)) := by
        refine (lopen_any (rs := f.recs.take safe) (sc := sc) (some ⟨g, 0, none⟩) whole safe safe seg q HSD.out.lg HO.out HP.out.whole HP.out.sl (HP.out.shot.lets HSD.out.fr.lets HP.out.lg.logAt) (by rw [List.length_take]; have := HP.out.rl; have := HSA.out; omega) ((HP.out.recs.lets HSD.out.fr.lets HP.out.lg.logAt).take safe) (by show f.recs.take k = (f.recs.take safe).take (f.recs.take k).length; rw [HTK.out, HF.out.2, List.take_take, Nat.min_self]) (by show (safe : Int) ≤ ((f.recs.take k).length : Int); rw [HTK.out]; have := HF.out; omega) (by have := HB.out.1; omega) ⟨Nat.le_trans HSA.out HP.out.cap.1, HP.out.cap.2⟩ HB.out.2.2.1).mono ?_
        rintro e w' ⟨g2, k0, c, A, s4, e1, e2, rfl, e4, e5, e6, e7, e8, e9⟩
        exact ⟨g2, k0, c, A, s4, rfl, e1, e2, e4, e5, e7, e8, e9⟩
      go_wp2_with fail
      refine HLO.out.mono ?_
      rintro e w4 ⟨g2, k2, c2, A2, s4, rfl, H4⟩
      have hbx := HSD.out.bx.frame HSD.out.lg H4.out.2.2.2.2.1
      have HBX := Lib.hid hbx
      clear x0 x1 x2 x3 x4 x5 xf o0 o1 o2 o3 of hbx
      obtain ⟨z0, z1, z2, z3, z4, z5, zf⟩ := six_cells HBX.out.r
      go_wp2_with fail
      obtain ⟨hk2, hc2, hl4, hr4, hf4, hlo4, hg4⟩ := H4.out
      obtain ⟨W8, hW8⟩ : ∃ W8, W8 = put6 w4 (w.heap.size + 2) (.pointer (some ⟨B, 0, none⟩)) (.pointer (some ⟨g2, 0, none⟩)) (.bool whole) (.slice sA m sc) (.slice A2 k2 c2) (.int .i64 k2) := ⟨_, rfl⟩
      have ht8 := put6_touch w4 (w.heap.size + 2) (.pointer (some ⟨B, 0, none⟩)) (.pointer (some ⟨g2, 0, none⟩)) (.bool whole) (.slice sA m sc) (.slice A2 k2 c2) (.int .i64 k2)
      have hx8 := put6_at HBX.out.r (.pointer (some ⟨B, 0, none⟩)) (.pointer (some ⟨g2, 0, none⟩)) (.bool whole) (.slice sA m sc) (.slice A2 k2 c2) (.int .i64 k2)
      rw [← hW8] at ht8 hx8
      unfold put6 at hW8
      rw [← hW8]
      refine bodyPost_ret (results_ct rfl _ _ (w.heap.size + 2) _ rfl (load_state _ _ _ _ _ _ _ _ hx8)) rfl ?_
      have hlo := HP.out.lg.logAt
      have hf8 : WFr g s s4 w W8 := (HSD.out.fr.trans (WFr.of_frame hf4)).put ht8 (by omega)
      have hl8 := (hl4.put HBX.out.r (by have := HSD.out.lo; omega) ht8).succ
      have hsz : w.heap.size + 2 < W3.heap.size := (Array.getElem?_eq_some_iff.1 HSD.out.bx.r).1
      exact ⟨g2, whole, sA, m, sc, A2, k2, c2, k2, s4, (⟨f.whole, f.shot, f.recs.take k⟩ : Fnd), rfl, ⟨hl8, HP.out.whole, HP.out.sl, HP.out.shot.lets hf8.lets hlo, hk2.symm, hlo4.keep hr4 fun x hx hx2 => ht8.block x fun e => by have := Option.some.inj e; omega, hc2⟩, hf8, .inr (Nat.le_trans HSD.out.fr.size hg4)⟩
    · have d2 : decide (N ≤ 0) = false := decide_eq_false hN0
      have HF : Hid (safe ≤ k) := HK.out.1
      go_upto_region 30 with fail
      have HSD : Hid (SD base B vo ko j w g s w2 ⟨f.whole, f.shot, f.recs.take k⟩ s2 #[.pointer (some ⟨B, 0, none⟩), .pointer (some ⟨g, 0, none⟩), .bool whole, .slice sA m sc, .slice rA n rc, .int .i64 safe] #[.int .i64 3, .slice pA pl pc, .int .i64 N, .int .i64 seg] #[.pointer none, .pointer none, .bool false, .slice none 0 0, .slice none 0 0, .int .i64 0]) := H2.out
      obtain ⟨W3, rfl⟩ : ∃ W3, W3 = w2 := ⟨_, rfl⟩
      clear d1 d2
      have HLO : Hid (Calls Tryz.prog 33 #[.agg #[.pointer (some ⟨B, 0, none⟩), .pointer (some ⟨g, 0, none⟩), .bool whole, .slice sA m sc, .slice rA n rc, .int .i64 safe], .int .i64 safe, .int .i64 seg] W3 fun e w' => ∃ (g2 k0 c : Nat) (A : Option Addr) (s4 : St), e = .returned (.tuple #[.agg #[.pointer (some ⟨B, 0, none⟩), .pointer (some ⟨g2, 0, none⟩), .bool whole, .slice sA m sc, .slice A k0 c, .int .i64 k0], .bool true]) ∧ Hid (k0 = (⟨f.whole, f.shot, f.recs.take k⟩ : Fnd).recs.length ∧ (k0 ≤ c ∧ (A = none → c = 0)) ∧ Lg base w' g2 B kLog s4 vo ko (⟨f.whole, f.shot, f.recs.take k⟩ : Fnd) k0 j q ∧ HeldR w' s4 A (⟨f.whole, f.shot, f.recs.take k⟩ : Fnd).recs ∧ Frame s2 s4 W3 w' ∧ RowsLo w' W3.heap.size A (⟨f.whole, f.shot, f.recs.take k⟩ : Fnd).recs ∧ W3.heap.size ≤ g2)) := by
        refine (lopen_any (rs := f.recs) (sc := sc) (some ⟨g, 0, none⟩) whole safe safe seg q HSD.out.lg HO.out HP.out.whole HP.out.sl (HP.out.shot.lets HSD.out.fr.lets HP.out.lg.logAt) HP.out.rl (HP.out.recs.lets HSD.out.fr.lets HP.out.lg.logAt) (by show f.recs.take k = f.recs.take (f.recs.take k).length; rw [HTK.out]) (by show (safe : Int) ≤ ((f.recs.take k).length : Int); rw [HTK.out]; have := HF.out; omega) (by have := HB.out.1; omega) HP.out.cap HB.out.2.2.1).mono ?_
        rintro e w' ⟨g2, k0, c, A, s4, e1, e2, rfl, e4, e5, e6, e7, e8, e9⟩
        exact ⟨g2, k0, c, A, s4, rfl, e1, e2, e4, e5, e7, e8, e9⟩
      go_wp2_with fail
      refine HLO.out.mono ?_
      rintro e w4 ⟨g2, k2, c2, A2, s4, rfl, H4⟩
      have hbx := HSD.out.bx.frame HSD.out.lg H4.out.2.2.2.2.1
      have HBX := Lib.hid hbx
      clear x0 x1 x2 x3 x4 x5 xf o0 o1 o2 o3 of hbx
      obtain ⟨z0, z1, z2, z3, z4, z5, zf⟩ := six_cells HBX.out.r
      go_wp2_with fail
      obtain ⟨hk2, hc2, hl4, hr4, hf4, hlo4, hg4⟩ := H4.out
      obtain ⟨W8, hW8⟩ : ∃ W8, W8 = put6 w4 (w.heap.size + 2) (.pointer (some ⟨B, 0, none⟩)) (.pointer (some ⟨g2, 0, none⟩)) (.bool whole) (.slice sA m sc) (.slice A2 k2 c2) (.int .i64 k2) := ⟨_, rfl⟩
      have ht8 := put6_touch w4 (w.heap.size + 2) (.pointer (some ⟨B, 0, none⟩)) (.pointer (some ⟨g2, 0, none⟩)) (.bool whole) (.slice sA m sc) (.slice A2 k2 c2) (.int .i64 k2)
      have hx8 := put6_at HBX.out.r (.pointer (some ⟨B, 0, none⟩)) (.pointer (some ⟨g2, 0, none⟩)) (.bool whole) (.slice sA m sc) (.slice A2 k2 c2) (.int .i64 k2)
      rw [← hW8] at ht8 hx8
      unfold put6 at hW8
      rw [← hW8]
      refine bodyPost_ret (results_ct rfl _ _ (w.heap.size + 2) _ rfl (load_state _ _ _ _ _ _ _ _ hx8)) rfl ?_
      have hlo := HP.out.lg.logAt
      have hf8 : WFr g s s4 w W8 := (HSD.out.fr.trans (WFr.of_frame hf4)).put ht8 (by omega)
      have hl8 := (hl4.put HBX.out.r (by have := HSD.out.lo; omega) ht8).succ
      have hsz : w.heap.size + 2 < W3.heap.size := (Array.getElem?_eq_some_iff.1 HSD.out.bx.r).1
      exact ⟨g2, whole, sA, m, sc, A2, k2, c2, k2, s4, (⟨f.whole, f.shot, f.recs.take k⟩ : Fnd), rfl, ⟨hl8, HP.out.whole, HP.out.sl, HP.out.shot.lets hf8.lets hlo, hk2.symm, hlo4.keep hr4 fun x hx hx2 => ht8.block x fun e => by have := Option.some.inj e; omega, hc2⟩, hf8, .inr (Nat.le_trans HSD.out.fr.size hg4)⟩
end
end Go.Proofs.YthokoimoiamddaaGreatDoor
set_option linter.unusedSimpArgs false
set_option linter.unusedVariables false
namespace Go.Proofs.YthokoimoiamddaaGreatDoor
open Go Go.RowKit

section
variable {base B g j q m sc n rc safe : Nat} {w : World} {s : St} {vo : Vw} {ko : List ByteArray} {f : Fnd} {sA rA : Option Addr} {whole : Bool}
set_option maxRecDepth 20000 in
set_option maxHeartbeats 4000000 in
theorem step_other (h : Pl base B vo ko j q w g whole sA m rA n rc safe s f) (ho : Oth kLog vo ko) (h1 : 1 < w.heap.size) (hT : ErrT w) (hE : 0 < base) (pA : Option Addr) (pl pc : Nat) (N seg : Int) (kd : Int) (hkd : kd ≠ 0 ∧ kd ≠ 1 ∧ kd ≠ 2 ∧ kd ≠ 3) (hj : j < 98) (hseg : -9223372036854775808 ≤ seg ∧ seg ≤ 9223372036854775807) :
    Calls Tryz.prog 34 #[.agg #[.pointer (some ⟨B, 0, none⟩), .pointer (some ⟨g, 0, none⟩), .bool whole, .slice sA m sc, .slice rA n rc, .int .i64 safe], .agg #[.int .i64 kd, .slice pA pl pc, .int .i64 N, .int .i64 seg]] w fun e w' => StepOut base B vo ko j q w g s e w' := by
  obtain ⟨W0, hW0⟩ : ∃ W0, W0 = ((w.alloc (.cells #[.pointer (some ⟨B, 0, none⟩), .pointer (some ⟨g, 0, none⟩), .bool whole, .slice sA m sc, .slice rA n rc, .int .i64 safe] 51)).alloc (.cells #[.int .i64 kd, .slice pA pl pc, .int .i64 N, .int .i64 seg] 73)).alloc (.cells #[.pointer none, .pointer none, .bool false, .slice none 0 0, .slice none 0 0, .int .i64 0] 51) := ⟨_, rfl⟩
  have HS0 : Hid (SI base B vo ko j q w g s W0 f safe s #[.pointer (some ⟨B, 0, none⟩), .pointer (some ⟨g, 0, none⟩), .bool whole, .slice sA m sc, .slice rA n rc, .int .i64 safe] #[.int .i64 kd, .slice pA pl pc, .int .i64 N, .int .i64 seg] #[.pointer none, .pointer none, .bool false, .slice none 0 0, .slice none 0 0, .int .i64 0]) := by rw [hW0]; exact si_new h.lg h1 hT hE _ _ _
  have HW0 := Lib.hid hW0
  have HP := Lib.hid h
  have HO := Lib.hid ho
  have HB : Hid (j < 98 ∧ True ∧ (-9223372036854775808 ≤ seg ∧ seg ≤ 9223372036854775807) ∧ True) := ⟨hj, trivial, hseg, trivial⟩
  obtain ⟨k0, k1, k2, k3⟩ := hkd
  have d0 : (kd == 0) = false := by simpa using k0
  have d1 : (kd == 1) = false := by simpa using k1
  have d2 : (kd == 2) = false := by simpa using k2
  have d3 : (kd == 3) = false := by simpa using k3
  clear hW0 h ho h1 hT hE hj hseg
  go_enter Tryz.func34, Tryz.ntmps34
  go_upto_region 1 with fail
  rw [← HW0.out]
  clear HW0
  obtain ⟨x0, x1, x2, x3, x4, x5, xf⟩ := six_cells HS0.out.bx.x
  obtain ⟨o0, o1, o2, o3, of⟩ := four_cells HS0.out.bx.o
  go_wp2_with fail
  refine (si_sync HS0.out HO.out).mono ?_
  rintro e W3 ⟨s2, rfl, H3⟩
  have HSD : Hid (SD base B vo ko j w g s W3 f s2 #[.pointer (some ⟨B, 0, none⟩), .pointer (some ⟨g, 0, none⟩), .bool whole, .slice sA m sc, .slice rA n rc, .int .i64 safe] #[.int .i64 kd, .slice pA pl pc, .int .i64 N, .int .i64 seg] #[.pointer none, .pointer none, .bool false, .slice none 0 0, .slice none 0 0, .int .i64 0]) := ⟨H3.out.2, H3.out.1.bx, H3.out.1.fr, H3.out.1.lo, H3.out.1.et, H3.out.1.eb, H3.out.1.bw⟩
  clear x0 x1 x2 x3 x4 x5 xf o0 o1 o2 o3 of
  obtain ⟨x0, x1, x2, x3, x4, x5, xf⟩ := six_cells HSD.out.bx.x
  obtain ⟨o0, o1, o2, o3, of⟩ := four_cells HSD.out.bx.o
  have HLO : Hid (Calls Tryz.prog 33 #[.agg #[.pointer (some ⟨B, 0, none⟩), .pointer (some ⟨g, 0, none⟩), .bool whole, .slice sA m sc, .slice rA n rc, .int .i64 safe], .int .i64 n, .int .i64 seg] W3 fun e w' => ∃ (g2 k0 c : Nat) (A : Option Addr) (s4 : St), e = .returned (.tuple #[.agg #[.pointer (some ⟨B, 0, none⟩), .pointer (some ⟨g2, 0, none⟩), .bool whole, .slice sA m sc, .slice A k0 c, .int .i64 k0], .bool true]) ∧ Hid (k0 = f.recs.length ∧ (k0 ≤ c ∧ (A = none → c = 0)) ∧ Lg base w' g2 B kLog s4 vo ko f k0 j q ∧ HeldR w' s4 A f.recs ∧ Frame s2 s4 W3 w' ∧ RowsLo w' W3.heap.size A f.recs ∧ W3.heap.size ≤ g2)) := by
    refine (lopen_any (rs := f.recs) (sc := sc) (some ⟨g, 0, none⟩) whole safe n seg q HSD.out.lg HO.out HP.out.whole HP.out.sl (HP.out.shot.lets HSD.out.fr.lets HP.out.lg.logAt) HP.out.rl (HP.out.recs.lets HSD.out.fr.lets HP.out.lg.logAt) (List.take_of_length_le (Nat.le_refl _)).symm (by have := HP.out.rl; omega) (by have := HB.out.1; omega) HP.out.cap HB.out.2.2.1).mono ?_
    rintro e w' ⟨g2, k0, c, A, s4, e1, e2, rfl, e4, e5, e6, e7, e8, e9⟩
    exact ⟨g2, k0, c, A, s4, rfl, e1, e2, e4, e5, e7, e8, e9⟩
  go_wp2_with fail
  refine HLO.out.mono ?_
  rintro e w4 ⟨g2, k2, c2, A2, s4, rfl, H4⟩
  have hbx := HSD.out.bx.frame HSD.out.lg H4.out.2.2.2.2.1
  have HBX := Lib.hid hbx
  clear x0 x1 x2 x3 x4 x5 xf o0 o1 o2 o3 of hbx
  obtain ⟨z0, z1, z2, z3, z4, z5, zf⟩ := six_cells HBX.out.r
  go_wp2_with fail
  obtain ⟨hk2, hc2, hl4, hr4, hf4, hlo4, hg4⟩ := H4.out
  obtain ⟨W8, hW8⟩ : ∃ W8, W8 = put6 w4 (w.heap.size + 2) (.pointer (some ⟨B, 0, none⟩)) (.pointer (some ⟨g2, 0, none⟩)) (.bool whole) (.slice sA m sc) (.slice A2 k2 c2) (.int .i64 k2) := ⟨_, rfl⟩
  have ht8 := put6_touch w4 (w.heap.size + 2) (.pointer (some ⟨B, 0, none⟩)) (.pointer (some ⟨g2, 0, none⟩)) (.bool whole) (.slice sA m sc) (.slice A2 k2 c2) (.int .i64 k2)
  have hx8 := put6_at HBX.out.r (.pointer (some ⟨B, 0, none⟩)) (.pointer (some ⟨g2, 0, none⟩)) (.bool whole) (.slice sA m sc) (.slice A2 k2 c2) (.int .i64 k2)
  rw [← hW8] at ht8 hx8
  unfold put6 at hW8
  rw [← hW8]
  refine bodyPost_ret (results_ct rfl _ _ (w.heap.size + 2) _ rfl (load_state _ _ _ _ _ _ _ _ hx8)) rfl ?_
  have hlo := HP.out.lg.logAt
  have hf8 : WFr g s s4 w W8 := (HSD.out.fr.trans (WFr.of_frame hf4)).put ht8 (by omega)
  have hl8 := (hl4.put HBX.out.r (by have := HSD.out.lo; omega) ht8).succ
  have hsz : w.heap.size + 2 < W3.heap.size := (Array.getElem?_eq_some_iff.1 HSD.out.bx.r).1
  exact ⟨g2, whole, sA, m, sc, A2, k2, c2, k2, s4, f, rfl, ⟨hl8, HP.out.whole, HP.out.sl, HP.out.shot.lets hf8.lets hlo, hk2.symm, hlo4.keep hr4 fun x hx hx2 => ht8.block x fun e => by have := Option.some.inj e; omega, hc2⟩, hf8, .inr (Nat.le_trans HSD.out.fr.size hg4)⟩
end
end Go.Proofs.YthokoimoiamddaaGreatDoor
