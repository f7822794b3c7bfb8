/-
  wal: the law's step at Append. Own work.
-/
import Derived.Test.YthokoimoiamddaaGreatDoorB13
import Derived.Deep.CutRange
set_option linter.unusedSimpArgs false
set_option linter.unusedVariables false
namespace Go.Proofs.YthokoimoiamddaaGreatDoor
open Go Go.RowKit

section
variable {base B g j q m sc n rc safe : Nat} {w : World} {s : St} {vo : Vw} {ko : List ByteArray} {f : Fnd} {sA rA : Option Addr} {whole : Bool}
set_option maxRecDepth 20000 in
set_option maxHeartbeats 4000000 in
theorem step_append (h : Pl base B vo ko j q w g whole sA m rA n rc safe s f) (ho : Oth kLog vo ko) (h1 : 1 < w.heap.size) (hT : ErrT w) (hE : 0 < base) (pA : Option Addr) (pl pc : Nat) (N seg : Int) (p : List UInt8) (hpl : p.length = pl) (hpB : HeldB w s pA p) (hp3 : pl ≤ 300) (hq : pl + 9 ≤ q) (hj : j < 98) (hko : ko.length < 64) :
    Calls Tryz.prog 34 #[.agg #[.pointer (some ⟨B, 0, none⟩), .pointer (some ⟨g, 0, none⟩), .bool whole, .slice sA m sc, .slice rA n rc, .int .i64 safe], .agg #[.int .i64 0, .slice pA pl pc, .int .i64 N, .int .i64 seg]] w fun e w' => StepOut base B vo ko j q w g s e w' := by
  obtain ⟨W0, hW0⟩ : ∃ W0, W0 = ((w.alloc (.cells #[.pointer (some ⟨B, 0, none⟩), .pointer (some ⟨g, 0, none⟩), .bool whole, .slice sA m sc, .slice rA n rc, .int .i64 safe] 51)).alloc (.cells #[.int .i64 0, .slice pA pl pc, .int .i64 N, .int .i64 seg] 73)).alloc (.cells #[.pointer none, .pointer none, .bool false, .slice none 0 0, .slice none 0 0, .int .i64 0] 51) := ⟨_, rfl⟩
  have HS0 : Hid (SI base B vo ko j q w g s W0 f safe s #[.pointer (some ⟨B, 0, none⟩), .pointer (some ⟨g, 0, none⟩), .bool whole, .slice sA m sc, .slice rA n rc, .int .i64 safe] #[.int .i64 0, .slice pA pl pc, .int .i64 N, .int .i64 seg] #[.pointer none, .pointer none, .bool false, .slice none 0 0, .slice none 0 0, .int .i64 0]) := by rw [hW0]; exact si_new h.lg h1 hT hE _ _ _
  have HW0 := Lib.hid hW0
  have HP := Lib.hid h
  have HO := Lib.hid ho
  have HB : Hid (HeldB w s pA p ∧ p.length = pl ∧ pl ≤ 300 ∧ pl + 9 ≤ q ∧ j < 98 ∧ ko.length < 64) := ⟨hpB, hpl, hp3, hq, hj, hko⟩
  clear hW0 h ho h1 hT hE hpl hpB hp3 hq hj hko
  go_enter Tryz.func34, Tryz.ntmps34
  go_upto_region 1 with fail
  rw [← HW0.out]
  clear HW0
  obtain ⟨x0, x1, x2, x3, x4, x5, xf⟩ := six_cells HS0.out.bx.x
  obtain ⟨o0, o1, o2, o3, of⟩ := four_cells HS0.out.bx.o
  have HTW : Hid (∀ W, Below W0.heap.size W0 W → Calls Tryz.prog 11 #[.slice pA pl pc] W fun e w' => ∃ A c, e = .returned (.slice A pl c) ∧ Hid (SI base B vo ko j q w g s w' f safe s #[.pointer (some ⟨B, 0, none⟩), .pointer (some ⟨g, 0, none⟩), .bool whole, .slice sA m sc, .slice rA n rc, .int .i64 safe] #[.int .i64 0, .slice pA pl pc, .int .i64 N, .int .i64 seg] #[.pointer none, .pointer none, .bool false, .slice none 0 0, .slice none 0 0, .int .i64 0] ∧ BytesAt w' A p)) := fun W hW => by
    have htw := twin_any pA p pc W ((HB.out.1.lets HS0.out.fr.lets HP.out.lg.logAt).1.below hW) (by have := HB.out.2; omega)
    rw [HB.out.2.1] at htw
    refine htw.mono ?_
    rintro e w' ⟨V, rfl, hrow, hb⟩
    obtain ⟨A, c, rfl⟩ := own_slice hrow
    exact ⟨A, c, rfl, (HS0.out.below hW).below hb, BytesAt.of_own hrow⟩
  have HAP : Hid (∀ W A c, (SI base B vo ko j q w g s W f safe s #[.pointer (some ⟨B, 0, none⟩), .pointer (some ⟨g, 0, none⟩), .bool whole, .slice sA m sc, .slice rA n rc, .int .i64 safe] #[.int .i64 0, .slice pA pl pc, .int .i64 N, .int .i64 seg] #[.pointer none, .pointer none, .bool false, .slice none 0 0, .slice none 0 0, .int .i64 0] ∧ BytesAt W A p) → Calls Tryz.prog 12 #[.pointer (some ⟨g, 0, none⟩), .slice A pl c] W fun e w' => ∃ V, e = .returned V ∧ Hid ((V = .nilIface ∧ ∃ s2, SI base B vo ko (j + 1) q w g s w' ⟨f.whole, f.shot, f.recs ++ [p]⟩ safe s2 #[.pointer (some ⟨B, 0, none⟩), .pointer (some ⟨g, 0, none⟩), .bool whole, .slice sA m sc, .slice rA n rc, .int .i64 safe] #[.int .i64 0, .slice pA pl pc, .int .i64 N, .int .i64 seg] #[.pointer none, .pointer none, .bool false, .slice none 0 0, .slice none 0 0, .int .i64 0]) ∨ (V = .iface 42 (.int .i64 11) ∧ SI base B vo ko (j + 1) q w g s w' f safe s #[.pointer (some ⟨B, 0, none⟩), .pointer (some ⟨g, 0, none⟩), .bool whole, .slice sA m sc, .slice rA n rc, .int .i64 safe] #[.int .i64 0, .slice pA pl pc, .int .i64 N, .int .i64 seg] #[.pointer none, .pointer none, .bool false, .slice none 0 0, .slice none 0 0, .int .i64 0] ∧ ∃ v t, Dk base w' B v t 64 s))) := fun W A c hW => si_append hW.1 HO.out A pl c p HB.out.2.1 hW.2 (by have := HB.out.2; omega) (by have := HB.out.2; omega) (by have := HB.out.2; omega) (by have := HB.out.2; omega)
  go_upto_region 3 with fail
  go_cut [6] from 13 (fun V wx => Hid ((V = .nilIface ∧ ∃ s2, SI base B vo ko (j + 1) q w g s wx ⟨f.whole, f.shot, f.recs ++ [p]⟩ safe s2 #[.pointer (some ⟨B, 0, none⟩), .pointer (some ⟨g, 0, none⟩), .bool whole, .slice sA m sc, .slice rA n rc, .int .i64 safe] #[.int .i64 0, .slice pA pl pc, .int .i64 N, .int .i64 seg] #[.pointer none, .pointer none, .bool false, .slice none 0 0, .slice none 0 0, .int .i64 0]) ∨ (V = .iface 42 (.int .i64 11) ∧ SI base B vo ko (j + 1) q w g s wx f safe s #[.pointer (some ⟨B, 0, none⟩), .pointer (some ⟨g, 0, none⟩), .bool whole, .slice sA m sc, .slice rA n rc, .int .i64 safe] #[.int .i64 0, .slice pA pl pc, .int .i64 N, .int .i64 seg] #[.pointer none, .pointer none, .bool false, .slice none 0 0, .slice none 0 0, .int .i64 0] ∧ ∃ v t, Dk base wx B v t 64 s)))
  case first =>
    go_region_with (first
      | (go_at_call 11; refine (HTW.out _ ?_).mono ?_; (first | exact Below.refl _ _ | exact (Below.refl _ _).drew); rintro e w1 ⟨Aq, cq, rfl, H1⟩; obtain ⟨y0, y1, y2, y3, y4, y5, yf⟩ := six_cells H1.out.1.bx.x)
      | (go_at_call 12; refine (HAP.out _ _ _ H1.out).mono ?_; rintro e w2 ⟨V, rfl, H2⟩))
    all_goals
      go_wp2_with fail
      go_meet
      exact H2
  case rest =>
  obtain ⟨w5, rfl⟩ : ∃ x, x = wc := ⟨_, rfl⟩
  have HC := hcut
  clear hcut HTW HAP x0 x1 x2 x3 x4 x5 xf o0 o1 o2 o3 of HS0
  rcases HC.out with ⟨rfl, s2, hS⟩ | ⟨rfl, hS, v, t, hd⟩
  rotate_left 1
  · have H : Hid (SI base B vo ko (j + 1) q w g s w5 f safe s #[.pointer (some ⟨B, 0, none⟩), .pointer (some ⟨g, 0, none⟩), .bool whole, .slice sA m sc, .slice rA n rc, .int .i64 safe] #[.int .i64 0, .slice pA pl pc, .int .i64 N, .int .i64 seg] #[.pointer none, .pointer none, .bool false, .slice none 0 0, .slice none 0 0, .int .i64 0] ∧ Dk base w5 B v t 64 s) := ⟨hS, hd⟩
    clear hS hd HC
    obtain ⟨x0, x1, x2, x3, x4, x5, xf⟩ := six_cells H.out.1.bx.x
    go_wp2_with fail
    refine (n_any 11 _).mono ?_
    rintro e w6 ⟨rfl, hb6⟩
    have H6 := Lib.hid (H.out.1.below hb6)
    have HD6 := Lib.hid (H.out.2.below hb6)
    clear hb6 x0 x1 x2 x3 x4 x5 xf
    go_wp2_with fail
    refine (fails_plain 11 11 _ H6.out.et).mono ?_
    rintro e w7 ⟨rfl, hb7⟩
    have H7 := Lib.hid (H6.out.below hb7)
    have HD7 := Lib.hid (HD6.out.below hb7)
    clear hb7
    obtain ⟨x0, x1, x2, x3, x4, x5, xf⟩ := six_cells H7.out.bx.x
    go_wp2_with fail
    refine (dk_names HD7.out).mono ?_
    rintro e w9 ⟨A9, c9, ks, rfl, _, _, _, _, _, hb9⟩
    have H9 := Lib.hid (H7.out.below hb9)
    clear hb9 x0 x1 x2 x3 x4 x5 xf
    obtain ⟨x0, x1, x2, x3, x4, x5, xf⟩ := six_cells H9.out.bx.x
    obtain ⟨z0, z1, z2, z3, z4, z5, zf⟩ := six_cells H9.out.bx.r
    go_wp2_with fail
    obtain ⟨W8, hW8⟩ : ∃ W8, W8 = put6 w9 (w.heap.size + 2) (.pointer (some ⟨B, 0, none⟩)) (.pointer (some ⟨g, 0, none⟩)) (.bool whole) (.slice sA m sc) (.slice rA n rc) (.int .i64 safe) := ⟨_, rfl⟩
    obtain ⟨hl8, hf8⟩ := H9.out.done (.pointer (some ⟨B, 0, none⟩)) (.pointer (some ⟨g, 0, none⟩)) (.bool whole) (.slice sA m sc) (.slice rA n rc) (.int .i64 safe)
    have hx8 := put6_at H9.out.bx.r (.pointer (some ⟨B, 0, none⟩)) (.pointer (some ⟨g, 0, none⟩)) (.bool whole) (.slice sA m sc) (.slice rA n rc) (.int .i64 safe)
    rw [← hW8] at hl8 hf8 hx8
    unfold put6 at hW8
    rw [← hW8]
    refine bodyPost_ret (results_ct rfl _ _ (w.heap.size + 2) _ rfl (load_state _ _ _ _ _ _ _ _ hx8)) rfl ?_
    have hlo := HP.out.lg.logAt
    exact ⟨g, whole, sA, m, sc, rA, n, rc, safe, s, f, rfl, ⟨hl8, HP.out.whole, HP.out.sl, HP.out.shot.lets hf8.lets hlo, HP.out.rl, HP.out.recs.lets hf8.lets hlo, HP.out.cap⟩, hf8, .inl rfl⟩
  · have H : Hid (SI base B vo ko (j + 1) q w g s w5 ⟨f.whole, f.shot, f.recs ++ [p]⟩ safe s2 #[.pointer (some ⟨B, 0, none⟩), .pointer (some ⟨g, 0, none⟩), .bool whole, .slice sA m sc, .slice rA n rc, .int .i64 safe] #[.int .i64 0, .slice pA pl pc, .int .i64 N, .int .i64 seg] #[.pointer none, .pointer none, .bool false, .slice none 0 0, .slice none 0 0, .int .i64 0]) := hS
    clear hS HC
    go_wp2_with fail
    refine (n_any 11 _).mono ?_
    rintro e w6 ⟨rfl, hb6⟩
    have H6 := Lib.hid (H.out.below hb6)
    clear hb6
    go_wp2_with fail
    refine (fails_no 11 _).mono ?_
    rintro e w7 ⟨rfl, hb7⟩
    have H7 := Lib.hid (H6.out.below hb7)
    clear hb7
    obtain ⟨i0, hi, hz0, hz1, hz2⟩ := info_parts bytesRow_info
    obtain ⟨vs, hvl, hvc, hve⟩ := HP.out.recs.vals2 H7.out.fr.lets HP.out.lg.logAt
    have HVL : Hid (vs.length = n * 1) := by rw [Hid, hvl, HP.out.rl]; omega
    have HVE := Lib.hid hve
    have hown0 : (w7.alloc (.cells #[] 23)).ownsRow w7.heap.size 23 1 (.slice (some ⟨w7.heap.size, 0, none⟩) 0 0) 0 [] := World.ownsRow_made w7 #[] 0 (Nat.le_refl _) (by simp) (by simp)
    have HV2 : Hid (∀ ad, rA = some ad → ∀ j u, vs[j]? = some u → (w7.alloc (.cells #[] 23)).cell? (ad.add j) = some u) := fun ad e j u hu => by
      have := hvc ad e j u hu
      rw [World.cell?_alloc_lt _ _ _ (World.block_lt_of_cell? w7 _ this)]; exact this
    have HNC : Hid (rA = none → n = 0 ∧ rc = 0) := fun e => by have h1 := HP.out.cap; have h2 := h1.2 e; exact ⟨by omega, h2⟩
    have HV1 : Hid (∀ u ∈ vs, u.oneCell' = true) := fun u hu => by
      obtain ⟨i, hi1, hi2⟩ := List.getElem_of_mem hu
      obtain ⟨A', c', e, _⟩ := HVE.out i u (f.recs[i]'(by rw [← hvl]; exact hi1)) (by rw [← hi2]; exact List.getElem?_eq_getElem hi1) (List.getElem?_eq_getElem _)
      rw [e]; rfl
    have HNM : Hid (n ≤ 1000) := by have h1 := HP.out.lg.safe_le.2; have := HP.out.rl; have := HB.out.2; unfold Hid; omega
    have hm1 : Hid (0 + n ≤ maxLen) := by have := HNM.out; unfold Hid maxLen; omega
    have hm2 : Hid ((0 + n) * 24 ≤ 140737488355328) := by have := HNM.out; unfold Hid; omega
    have hm3 : Hid (w7.heap.size ≤ (w7.alloc (.cells #[] 23)).heap.size) := by simp [Hid]
    have HE7 : Hid (Below w7.heap.size w7 (w7.alloc (.cells #[] 23))) := (Below.refl _ _).alloc (Nat.le_refl _) _
    have H8 := Lib.hid (H7.out.below HE7.out)
    clear hvc hve
    have HVN : Hid (vs.length = f.recs.length) := hvl
    clear hvl
    obtain ⟨x0, x1, x2, x3, x4, x5, xf⟩ := six_cells H8.out.bx.x
    go_upto_region 7 with (at_builtin; refine wpList_append_any _ rfl _ _ 22 rfl w7.heap.size 23 i0 (.slice none 0 0) 1 24 Tryz.underlying22 hi hz0 hz1 hz2 rfl (by decide) (.slice (some ⟨w7.heap.size, 0, none⟩) 0 0) 0 [] rfl hown0 rA n rc vs rfl HNC.out HVL.out HV2.out HV1.out hm1.out hm2.out hm3.out ?_; intro v' wa hown1 hgrow1)
    have hown2 : wa.ownsRow w7.heap.size 23 1 v' n vs := by simpa using hown1
    obtain ⟨A6, c6, rfl⟩ := own_slice hown2
    have hg1 : (w7.alloc (.cells #[] 23)).grownBy wa (some w7.heap.size) := hgrow1
    have hba : Below w7.heap.size w7 wa := HE7.out.grown hg1 (by simp) (fun k h => by cases h; exact Nat.le_refl _)
    have HA := Lib.hid (H7.out.below hba)
    have HBA := Lib.hid hba
    have HROW := Lib.hid hown2
    obtain ⟨wb, hwb⟩ : ∃ wb, wb = wa.alloc (.cells #[.slice pA pl pc] 23) := ⟨_, rfl⟩
    have hrow3 : (wa.alloc (.cells #[.slice pA pl pc] 23)).ownsRow w7.heap.size 23 1 (.slice A6 n c6) n vs := HROW.out.alloc _
    have hm4 : Hid (n + 1 ≤ maxLen) := by have := HNM.out; unfold Hid maxLen; omega
    have hm5 : Hid ((n + 1) * 24 ≤ 140737488355328) := by have := HNM.out; unfold Hid; omega
    have hm6 : Hid (w7.heap.size ≤ (wa.alloc (.cells #[.slice pA pl pc] 23)).heap.size) := by have := HBA.out.size; simp [Hid]; omega
    have HBB : Hid (Below w7.heap.size w7 (wa.alloc (.cells #[.slice pA pl pc] 23))) := HBA.out.alloc HBA.out.size _
    have HAB := Lib.hid (H7.out.below HBB.out)
    clear hown1 hgrow1 hown0 hown2 hg1 hba hwb x0 x1 x2 x3 x4 x5 xf H8 HE7 HV2
    obtain ⟨x0, x1, x2, x3, x4, x5, xf⟩ := six_cells HA.out.bx.x
    obtain ⟨o0, o1, o2, o3, of⟩ := four_cells HA.out.bx.o
    go_upto_region 8 with (at_builtin; refine wpList_append_own _ rfl _ _ 22 rfl w7.heap.size 23 i0 (.slice none 0 0) 1 24 Tryz.underlying22 hi hz0 hz1 hz2 rfl (by decide) (.slice A6 n c6) n vs rfl hrow3 ⟨wa.heap.size, 0, none⟩ 1 1 [.slice pA pl pc] rfl rfl (new1 _ _ _ _ rfl) (by simp [Value.oneCell']) hm4.out hm5.out hm6.out ?_; intro v' wc hown3 hgrow3 hnil3; obtain ⟨A8, c8, rfl⟩ := own_slice hown3; have hbc : Below w7.heap.size w7 wc := HBB.out.grown hgrow3 HBB.out.size (fun k h => (own_block hrow3 h).choose_spec.2.1); have HC := Lib.hid (H7.out.below hbc); have HBC := Lib.hid hbc; have HROW3 := Lib.hid hown3; clear hown3 hgrow3 hnil3 hbc x0 x1 x2 x3 x4 x5 xf o0 o1 o2 o3 of; obtain ⟨x0, x1, x2, x3, x4, x5, xf⟩ := six_cells HC.out.bx.x)
    have HS9 : Hid (SI base B vo ko (j + 1) q w g s (wc.setCell ⟨w.heap.size, 4, none⟩ (.slice A8 (n + 1) c8)) ⟨f.whole, f.shot, f.recs ++ [p]⟩ safe s2 #[.pointer (some ⟨B, 0, none⟩), .pointer (some ⟨g, 0, none⟩), .bool whole, .slice sA m sc, .slice A8 (n + 1) c8, .int .i64 safe] #[.int .i64 0, .slice pA pl pc, .int .i64 N, .int .i64 seg] #[.pointer none, .pointer none, .bool false, .slice none 0 0, .slice none 0 0, .int .i64 0]) := HC.out.putX 4 _
    obtain ⟨W9, hW9⟩ : ∃ W9, W9 = wc.setCell ⟨w.heap.size, 4, none⟩ (.slice A8 (n + 1) c8) := ⟨_, rfl⟩
    have HT9 : Hid (Touch (some w.heap.size) wc W9) := by rw [hW9]; exact Touch.set _ _ _ _
    rw [← hW9] at HS9 ⊢
    clear x0 x1 x2 x3 x4 x5 xf hW9 hrow3
    obtain ⟨x0, x1, x2, x3, x4, x5, xf⟩ := six_cells HS9.out.bx.x
    obtain ⟨z0, z1, z2, z3, z4, z5, zf⟩ := six_cells HS9.out.bx.r
    go_region_with (fail)
    all_goals
      go_wp2_with fail
      obtain ⟨W8, hW8⟩ : ∃ W8, W8 = put6 W9 (w.heap.size + 1 + 1) (.pointer (some ⟨B, 0, none⟩)) (.pointer (some ⟨g, 0, none⟩)) (.bool whole) (.slice sA m sc) (.slice A8 (n + 1) c8) (.int .i64 safe) := ⟨_, rfl⟩
      have hd8 : Below W8.heap.size W8 W8.drew := (Below.refl _ _).drew
      have ht8 : Touch (some (w.heap.size + 1 + 1)) W9 W8 := by rw [hW8]; exact put6_touch _ _ _ _ _ _ _ _
      have hl8 : Lg base W8 g B kLog s2 vo ko ⟨f.whole, f.shot, f.recs ++ [p]⟩ safe (j + 1) q := by rw [hW8]; exact (HS9.out.done (.pointer (some ⟨B, 0, none⟩)) (.pointer (some ⟨g, 0, none⟩)) (.bool whole) (.slice sA m sc) (.slice A8 (n + 1) c8) (.int .i64 safe)).1
      have hf8 : WFr g s s2 w W8.drew := WFr.trans (by rw [hW8]; exact (HS9.out.done (.pointer (some ⟨B, 0, none⟩)) (.pointer (some ⟨g, 0, none⟩)) (.bool whole) (.slice sA m sc) (.slice A8 (n + 1) c8) (.int .i64 safe)).2) (WFr.of_below hd8)
      have hx8 : W8.drew.heap[w.heap.size + 1 + 1]? = some (.cells #[.pointer (some ⟨B, 0, none⟩), .pointer (some ⟨g, 0, none⟩), .bool whole, .slice sA m sc, .slice A8 (n + 1) c8, .int .i64 safe] 51 (0, 0)) := by
        show W8.heap[w.heap.size + 1 + 1]? = _
        rw [hW8]
        exact put6_at HS9.out.bx.r (.pointer (some ⟨B, 0, none⟩)) (.pointer (some ⟨g, 0, none⟩)) (.bool whole) (.slice sA m sc) (.slice A8 (n + 1) c8) (.int .i64 safe)
      unfold put6 at hW8
      rw [← hW8]
      refine bodyPost_ret (results_ct rfl _ _ (w.heap.size + 1 + 1) _ rfl (load_state _ _ _ _ _ _ _ _ hx8)) rfl ?_
      have hlo := HP.out.lg.logAt
      refine ⟨g, whole, sA, m, sc, A8, n + 1, c8, safe, s2, ⟨f.whole, f.shot, f.recs ++ [p]⟩, rfl, ⟨hl8.below hd8, HP.out.whole, HP.out.sl, HP.out.shot.lets hf8.lets hlo, by simp [HP.out.rl], ?_, ⟨(own_row_cap HROW3.out).1, fun e => ((own_row_cap HROW3.out).2 e).2⟩⟩, hf8, .inl rfl⟩
      have hw7 : w.heap.size + 2 < w7.heap.size := by have := H7.out.bx.r; exact (Array.getElem?_eq_some_iff.1 this).1
      have hk : ∀ k, w7.heap.size ≤ k → k < wc.heap.size → W8.drew.heap[k]? = wc.heap[k]? := fun k h1 h2 => (ht8.block k fun e => by have := Option.some.inj e; omega).trans (HT9.out.block k fun e => by have := Option.some.inj e; omega)
      refine HeldR.of_row HROW3.out (by simp [HP.out.rl]) (fun i v x hv hx => ?_) hk (fun k h1 h2 => by have := (H7.out.lg.log.2.2.2.1 k h2).2; omega)
      by_cases hi9 : i < n
      · rw [List.getElem?_append_left (by have := HVL.out; omega)] at hv
        rw [List.getElem?_append_left (by have := HP.out.rl; omega)] at hx
        obtain ⟨A', c', e, h9⟩ := HVE.out i v x hv hx
        exact ⟨A', c', e, h9.lets hf8.lets hlo⟩
      · rw [List.getElem?_append_right (by have := HVL.out; omega)] at hv
        rw [List.getElem?_append_right (by have := HP.out.rl; omega)] at hx
        have e1 : i - f.recs.length = 0 := by
          have := (List.getElem?_eq_some_iff.1 hx).1
          simp at this; omega
        have e2 : i - vs.length = 0 := by have := HVN.out; omega
        rw [e1] at hx
        rw [e2] at hv
        cases hx
        cases hv
        exact ⟨pA, pc, by rw [HB.out.2.1], HB.out.1.lets hf8.lets hlo⟩
end
end Go.Proofs.YthokoimoiamddaaGreatDoor
