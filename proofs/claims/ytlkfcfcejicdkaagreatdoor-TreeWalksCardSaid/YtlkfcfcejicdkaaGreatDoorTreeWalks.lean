/-
  tree: the law TreeWalks, walked. Printed by gen_treewalks.py. Own work.
-/
import Derived.Test.YtlkfcfcejicdkaaGreatDoorTreeBox
import Derived.Deep.CutRange
set_option linter.unusedSimpArgs false
set_option linter.unusedVariables false
namespace Go.Proofs.YtlkfcfcejicdkaaGreatDoor
open Go Go.RowKit

set_option maxRecDepth 100000 in
set_option maxHeartbeats 16000000 in
theorem walks_any (Am : Option Addr) (n cm : Nat) (Al : Option Addr) (q cl : Nat) (ms : List Int) (ls : List Lk) (A1 : Option Addr) (c1 : Nat) (l1 : List Lk) (A2 : Option Addr) (c2 : Nat) (l2 : List Int) (w : World) (hG : GrAt w Am n Al q ms ls) (hn : n ≤ 4611686018427387904) (hq : q ≤ 4611686018427387904) (h1 : RowAt w A1 (lkCells l1)) (h2 : RowAt w A2 (intVs l2)) (hE : ErrT w) :
    Calls Tryz.prog 8 #[grV Am n cm Al q cl, .slice A1 l1.length c1, .slice A2 l2.length c2] w fun e w' => e = .returned (.bool true) ∧ Below w.heap.size w w' := by
  obtain ⟨m1, hm1⟩ : ∃ x, l1.length = x := ⟨_, rfl⟩
  obtain ⟨m2, hm2⟩ : ∃ x, l2.length = x := ⟨_, rfl⟩
  rw [hm1, hm2]
  have HM1 := Lib.hid hm1
  have HM2 := Lib.hid hm2
  have HN := Lib.hid (And.intro hn hq)
  have H1 := Lib.hid h1
  have H2 := Lib.hid h2
  clear hm1 hm2 hn hq h1 h2
  obtain ⟨bg, hbg⟩ : ∃ b, b = w.heap.size := ⟨_, rfl⟩
  obtain ⟨w1, hw1⟩ : ∃ x, x = w.alloc (.cells #[.slice Am n cm, .slice Al q cl] 25) := ⟨_, rfl⟩
  have HB : Hid (Bl w w1 ∧ ZB w w1 bg (.slice Am n cm) (.slice Al q cl)) := by
    rw [hw1]
    exact ⟨(Bl.refl _).al _, ZB.new (Bl.refl _) hbg⟩
  have HE : Hid (∀ W, Bl w W → ErrT W) := fun W hW => hE.below hW
  have HG : Hid (∀ W, Bl w W → GrAt W Am n Al q ms ls) := fun W hW => hG.below hW
  clear hG hE
  go_enter Tryz.func8, Tryz.ntmps8
  go_wp2_with fail
  rw [← hw1, ← hbg]
  clear hw1 hbg
  refine (awake_any w1 (HE.out w1 HB.out.1)).mono ?_
  rintro e w2 ⟨rfl, hb2⟩
  have HB2 : Hid (Bl w w2 ∧ ZB w w2 bg (.slice Am n cm) (.slice Al q cl)) := ⟨bchain HB.out.1 hb2, HB.out.2.step hb2⟩
  clear hb2 HB
  obtain ⟨f0, f1, _, _⟩ := cell2 HB2.out.2.1
  go_wp2_with fail
  refine (rcheck_any Am n cm Al q cl ms ls w2 (HG.out w2 HB2.out.1) HN.out.1 HN.out.2).mono ?_
  rintro e w3 ⟨v, rfl, H3⟩
  have HB3 : Hid (Bl w w3 ∧ ZB w w3 bg (.slice Am n cm) (.slice Al q cl)) := ⟨bchain HB2.out.1 H3.out.2, HB2.out.2.step H3.out.2⟩
  clear f0 f1 HB2
  obtain ⟨Ae, me, ce, ie, hv⟩ := H3.out.1.form
  have hfd : ∀ (bb : Bool) (w : World), (Instr.field 43 (.agg #[.bool bb, .slice Ae me ce, .int .i64 ie]) 0).run Tryz.prog w = .ok (.bool bb) w := fun bb _ => by kernel_rfl
  cases hck : chk ms ls with
  | some er =>
    rw [hck] at hv
    have hv2 : v = .agg #[.bool true, .slice Ae me ce, .int .i64 ie] := hv
    subst hv2
    clear H3 hck hv
    go_wp2
    go_ret
    exact ⟨rfl, HB3.out.1⟩
  | none =>
  rw [hck] at hv
  have hv2 : v = .agg #[.bool false, .slice Ae me ce, .int .i64 ie] := hv
  subst hv2
  have HGD : Hid (Good ms ls) := chk_good hck
  clear H3 hck hv
  by_cases h40 : m1 ≤ 40
  case neg =>
    have hd : decide ((m1 : Int) > 40) = true := by rw [decide_eq_true_iff]; omega
    have hi : (40 : Int) < m1 := by omega
    clear h40
    go_wp2
    go_ret
    exact ⟨rfl, HB3.out.1⟩
  case pos =>
  have hd : decide ((m1 : Int) > 40) = false := by rw [decide_eq_false_iff_not]; omega
  have hi : ¬ ((40 : Int) < m1) := by omega
  have H40 := Lib.hid h40
  clear h40
  go_wp2_with fail
  go_loopw [25] (fun i wr => ∃ (j : Nat) (Ag : Option Addr) (ng cg : Nat) (Bg : Option Addr) (qg dg : Nat) (mg : List Int) (lg : List Lk), j ≤ m1 ∧ i = .int .i64 j ∧ Hid (Bl w wr ∧ ZB w wr bg (.slice Ag ng cg) (.slice Bg qg dg) ∧ GrAt wr Ag ng Bg qg mg lg ∧ Good mg lg)) (fun i _ => m1 - (intOf i).toNat)
  case atStart => exact ⟨0, Am, n, cm, Al, q, cl, ms, ls, Nat.zero_le _, rfl, HB3.out.1, HB3.out.2, HG.out _ HB3.out.1, HGD.out⟩
  case round =>
    clear HB3 HGD hd hi hfd
    obtain ⟨j, Ag, ng, cg, Bg, qg, dg, mg, lg, hj, rfl, HS⟩ := hrel
    by_cases hlt : j < m1
    case neg =>
      obtain rfl : m1 = j := by omega
      go_wp2
      go_ret
      exact ⟨rfl, HS.out.1⟩
    case pos =>
    obtain ⟨⟨o1, o2⟩, ho⟩ : ∃ x, Hid (l1[j]? = some x) := ⟨_, List.getElem?_eq_getElem (by have := HM1.out; omega)⟩
    obtain ⟨go, oo, rfl, d0, d1, _⟩ := (H1.out.below HS.out.1).lk ho.out
    have hj0 : ((0 : Int) ≤ j) := by omega
    have hj1 : ((j : Nat) : Int) < m1 := by omega
    have hw1 : IntKind.i64.wrap ((j : Int) + 1) = ((j + 1 : Nat) : Int) := by have := H40.out; rw [IntKind.wrap_i64]; omega
    have HJ : Hid (j < m1) := hlt
    have HSZ : Hid (ng ≤ 1000 ∧ qg ≤ 1000) := ⟨by rw [← HS.out.2.2.1.mlen]; have := HS.out.2.2.2.small; omega, by rw [← HS.out.2.2.1.llen]; have := HS.out.2.2.2.small; omega⟩
    obtain ⟨x0, x1, xf, xl⟩ := cell2 HS.out.2.1.1
    clear hlt ho
    by_cases hjm : j < m2
    case neg =>
      have hjx : ¬ ((j : Int) < m2) := by omega
      clear hjm
      go_upto_region 17 with fail
      obtain ⟨b8, hb8⟩ : ∃ b, b = wr.heap.size := ⟨_, rfl⟩
      obtain ⟨b10, hb10⟩ : ∃ b, b = wr.heap.size + 1 := ⟨_, rfl⟩
      obtain ⟨wq, hwq⟩ : ∃ x, x = wr.alloc (.cells #[.int .i64 o1, .int .i64 o2] 35) := ⟨_, rfl⟩
      obtain ⟨wa, hwa⟩ : ∃ x, x = wq.alloc (.cells #[.slice none 0 0, .slice none 0 0] 25) := ⟨_, rfl⟩
      have HA : Hid (Bl wr wq ∧ Bl wq wa ∧ ZB wq wa b10 (.slice none 0 0) (.slice none 0 0) ∧ b8 < wq.heap.size ∧ wq.heap[b8]? = some (.cells #[.int .i64 o1, .int .i64 o2] 35 (0, 0)) ∧ GrAt wa Ag ng Bg qg mg lg ∧ Bl wr wa) := by
        have h1 : Bl wr wq := by rw [hwq]; exact (Bl.refl _).al _
        have h2 : Bl wq wa := by rw [hwa]; exact (Bl.refl _).al _
        have h3 : wq.heap[b8]? = some (.cells #[.int .i64 o1, .int .i64 o2] 35 (0, 0)) := by rw [hwq, hb8]; exact heap_alloc_new _ _
        refine ⟨h1, h2, ?_, (Array.getElem?_eq_some_iff.1 h3).1, h3, HS.out.2.2.1.below (bchain h1 h2), bchain h1 h2⟩
        rw [hwa]
        exact ZB.new (Bl.refl _) (by rw [hb10, hwq]; simp)
      rw [← hwq, ← hwa, ← hb10, ← hb8]
      clear hwa hwq hb10 hb8 x0 x1 xf xl
      obtain ⟨f0, f1, _, _⟩ := cell2 (HS.out.2.1.step HA.out.2.2.2.2.2.2).1
      obtain ⟨f2, f3, _, _⟩ := cell2 ((HA.out.2.1.block b8 HA.out.2.2.2.1).trans HA.out.2.2.2.2.1)
      go_wp2_with fail
      refine (join_any Ag ng cg Bg qg dg mg lg o1 o2 wa HA.out.2.2.2.2.2.1 HSZ.out.1 HSZ.out.2).mono ?_
      rintro e wb ⟨A5, n5, c5, B5, q5, d5, v5, rfl, H5⟩
      have zb := HA.out.2.2.1.step H5.out.2.2
      obtain ⟨y0, y1, yf, yl⟩ := cell2 zb.1
      go_upto_region 19 with fail
      obtain ⟨wc, hwc⟩ : ∃ x, x = (wb.setCell ⟨b10, 0, none⟩ (.slice A5 n5 c5)).setCell ⟨b10, 1, none⟩ (.slice B5 q5 d5) := ⟨_, rfl⟩
      have H7 : Hid (ErrIs wc v5 (joinP mg lg o1 o2).1 ∧ GrOwn wa.heap.size wc A5 n5 c5 B5 q5 d5 (joinP mg lg o1 o2).2.1 (joinP mg lg o1 o2).2.2 ∧ ZB wq wc b10 (.slice A5 n5 c5) (.slice B5 q5 d5) ∧ Below wr.heap.size wr wc) := by
        have hb := bchain HA.out.2.2.2.2.2.2 H5.out.2.2
        have hs := Below.size HA.out.1
        rw [hwc]
        exact ⟨H5.out.1.set zb.1 _ _, GrOwn.set H5.out.2.1 zb.1 _ _, zb.set _ _, (Bl.st hb (Nat.le_trans hs zb.2) _ _).st (Nat.le_trans hs zb.2) _ _⟩
      rw [← hwc]
      clear hwc H5 zb y0 y1 yf yl
      have ⟨⟨er, g5⟩, hP⟩ : ∃ x, joinP mg lg o1 o2 = x := ⟨_, rfl⟩
      · rw [hP] at H7
        rcases (show ErrIs wc v5 er from H7.out.1).cases with ⟨hv, her⟩ | ⟨hne, t, x, hv⟩
        case inr =>
          have hg := join_empty hP hne
          rw [hg] at H7
          obtain rfl : 0 = n5 := H7.out.2.1.mlen
          obtain rfl : 0 = q5 := H7.out.2.1.llen
          obtain ⟨y0, y1, yf, yl⟩ := cell2 H7.out.2.2.1.1
          subst hv
          have HF : Hid (Bl w wc ∧ ZB w wc bg (.slice Ag ng cg) (.slice Bg qg dg) ∧ GrAt wc Ag ng Bg qg mg lg ∧ Good mg lg) := ⟨bchain HS.out.1 H7.out.2.2.2, HS.out.2.1.step H7.out.2.2.2, HS.out.2.2.1.below H7.out.2.2.2, HS.out.2.2.2⟩
          clear H7 hP hg hne HA
          go_wp2
          exact ⟨⟨j + 1, Ag, ng, cg, Bg, qg, dg, mg, lg, HJ.out, by go_num, HF.out⟩, by have := HJ.out; simp [intOf]; omega⟩
        case inl =>
          subst her
          subst hv
          have hgood : Hid (Good g5.1 g5.2) ∧ g5.1.length = mg.length + 1 ∧ g5.1.length = g5.2.length + 1 := by
            obtain ⟨h0, h2, h3, _⟩ := join_good hP
            subst h3
            have h5 := h2.tr.len
            have h6 := h0.tr.len
            rw [with_len] at h5
            exact ⟨h2, by show (inOrder _).length = _; omega, h2.tr.len.symm⟩
          obtain ⟨HG5, hl1, hl2⟩ := hgood
          have hm5 : g5.1.length = n5 := H7.out.2.1.mlen
          have hl5 : g5.2.length = q5 := H7.out.2.1.llen
          have hn5 : n5 = ng + 1 := by rw [← hm5, hl1, HS.out.2.2.1.mlen]
          have hq5 : n5 = q5 + 1 := by rw [← hm5, ← hl5]; exact hl2
          have HSM : Hid (n5 ≤ 1000 ∧ q5 ≤ 1000) := ⟨by rw [← hm5]; have := HG5.out.small; omega, by rw [← hl5]; have := HG5.out.small; omega⟩
          clear hm5 hl5
          have hw6 : IntKind.i64.wrap ((n5 : Int) - 1) = (q5 : Int) := by have := HSM.out; rw [IntKind.wrap_i64]; omega
          have hw5 : IntKind.i64.wrap ((ng : Int) + 1) = (n5 : Int) := by have := HSM.out; rw [IntKind.wrap_i64]; omega
          obtain ⟨y0, y1, yf, yl⟩ := cell2 H7.out.2.2.1.1
          have hck := check_any A5 n5 c5 B5 q5 d5 g5.1 g5.2 wc H7.out.2.1.at_ HSM.out.1 HSM.out.2
          rw [good_chk HG5.out] at hck
          have HCK := Lib.hid hck
          clear hck hP hl1 hl2 HA hq5
          clear hn5
          go_wp2_with fail
          refine HCK.out.mono ?_
          rintro e wd ⟨v6, rfl, H6⟩
          obtain rfl : v6 = .nilIface := H6.out.1
          have HD : Hid (Below wr.heap.size wr wd) := bchain H7.out.2.2.2 H6.out.2
          clear y0 y1 yf yl HCK
          obtain ⟨y0, y1, yf, yl⟩ := cell2 (H7.out.2.2.1.step H6.out.2).1
          have z6 := HS.out.2.1.step HD.out
          obtain ⟨x0, x1, xf, xl⟩ := cell2 z6.1
          have HF : Hid (Bl w ((wd.setCell ⟨bg, 0, none⟩ (.slice A5 n5 c5)).setCell ⟨bg, 1, none⟩ (.slice B5 q5 d5)) ∧ ZB w ((wd.setCell ⟨bg, 0, none⟩ (.slice A5 n5 c5)).setCell ⟨bg, 1, none⟩ (.slice B5 q5 d5)) bg (.slice A5 n5 c5) (.slice B5 q5 d5) ∧ GrAt ((wd.setCell ⟨bg, 0, none⟩ (.slice A5 n5 c5)).setCell ⟨bg, 1, none⟩ (.slice B5 q5 d5)) A5 n5 B5 q5 g5.1 g5.2 ∧ Good g5.1 g5.2) :=
            ⟨Bl.st (Bl.st (bchain HS.out.1 HD.out) z6.2 _ _) z6.2 _ _, z6.set _ _, (GrOwn.set (H7.out.2.1.below H6.out.2) z6.1 _ _).at_, HG5.out⟩
          clear H7 H6 HD z6 HG5 HSM
          go_wp2
          exact ⟨⟨j + 1, A5, n5, c5, B5, q5, d5, g5.1, g5.2, HJ.out, by go_num, HF.out⟩, by have := HJ.out; simp [intOf]; omega⟩

    case pos =>
      have hjx : (j : Int) < m2 := by omega
      obtain ⟨z, hz⟩ : ∃ z, Hid (l2[j]? = some z) := ⟨_, List.getElem?_eq_getElem (by have := HM2.out; omega)⟩
      obtain ⟨g2, o2', rfl, e0, e1⟩ := (H2.out.below HS.out.1).int hz.out
      clear hjm hz
      go_upto_region 17 with fail
      obtain ⟨b8, hb8⟩ : ∃ b, b = wr.heap.size := ⟨_, rfl⟩
      obtain ⟨b10, hb10⟩ : ∃ b, b = wr.heap.size + 1 := ⟨_, rfl⟩
      obtain ⟨wq, hwq⟩ : ∃ x, x = wr.alloc (.cells #[.int .i64 o1, .int .i64 o2] 35) := ⟨_, rfl⟩
      obtain ⟨wa, hwa⟩ : ∃ x, x = wq.alloc (.cells #[.slice none 0 0, .slice none 0 0] 25) := ⟨_, rfl⟩
      have HA : Hid (Bl wr wq ∧ Bl wq wa ∧ ZB wq wa b10 (.slice none 0 0) (.slice none 0 0) ∧ b8 < wq.heap.size ∧ wq.heap[b8]? = some (.cells #[.int .i64 o1, .int .i64 o2] 35 (0, 0)) ∧ GrAt wa Ag ng Bg qg mg lg ∧ Bl wr wa) := by
        have h1 : Bl wr wq := by rw [hwq]; exact (Bl.refl _).al _
        have h2 : Bl wq wa := by rw [hwa]; exact (Bl.refl _).al _
        have h3 : wq.heap[b8]? = some (.cells #[.int .i64 o1, .int .i64 o2] 35 (0, 0)) := by rw [hwq, hb8]; exact heap_alloc_new _ _
        refine ⟨h1, h2, ?_, (Array.getElem?_eq_some_iff.1 h3).1, h3, HS.out.2.2.1.below (bchain h1 h2), bchain h1 h2⟩
        rw [hwa]
        exact ZB.new (Bl.refl _) (by rw [hb10, hwq]; simp)
      rw [← hwq, ← hwa, ← hb10, ← hb8]
      clear hwa hwq hb10 hb8 x0 x1 xf xl
      obtain ⟨f0, f1, _, _⟩ := cell2 (HS.out.2.1.step HA.out.2.2.2.2.2.2).1
      obtain ⟨f2, f3, _, _⟩ := cell2 ((HA.out.2.1.block b8 HA.out.2.2.2.1).trans HA.out.2.2.2.2.1)
      by_cases hz0 : z = 0
      case pos =>
        subst hz0
        go_wp2_with fail
        refine (join_any Ag ng cg Bg qg dg mg lg o1 o2 wa HA.out.2.2.2.2.2.1 HSZ.out.1 HSZ.out.2).mono ?_
        rintro e wb ⟨A5, n5, c5, B5, q5, d5, v5, rfl, H5⟩
        have zb := HA.out.2.2.1.step H5.out.2.2
        obtain ⟨y0, y1, yf, yl⟩ := cell2 zb.1
        go_upto_region 19 with fail
        obtain ⟨wc, hwc⟩ : ∃ x, x = (wb.setCell ⟨b10, 0, none⟩ (.slice A5 n5 c5)).setCell ⟨b10, 1, none⟩ (.slice B5 q5 d5) := ⟨_, rfl⟩
        have H7 : Hid (ErrIs wc v5 (joinP mg lg o1 o2).1 ∧ GrOwn wa.heap.size wc A5 n5 c5 B5 q5 d5 (joinP mg lg o1 o2).2.1 (joinP mg lg o1 o2).2.2 ∧ ZB wq wc b10 (.slice A5 n5 c5) (.slice B5 q5 d5) ∧ Below wr.heap.size wr wc) := by
          have hb := bchain HA.out.2.2.2.2.2.2 H5.out.2.2
          have hs := Below.size HA.out.1
          rw [hwc]
          exact ⟨H5.out.1.set zb.1 _ _, GrOwn.set H5.out.2.1 zb.1 _ _, zb.set _ _, (Bl.st hb (Nat.le_trans hs zb.2) _ _).st (Nat.le_trans hs zb.2) _ _⟩
        rw [← hwc]
        clear hwc H5 zb y0 y1 yf yl
        have ⟨⟨er, g5⟩, hP⟩ : ∃ x, joinP mg lg o1 o2 = x := ⟨_, rfl⟩
        · rw [hP] at H7
          rcases (show ErrIs wc v5 er from H7.out.1).cases with ⟨hv, her⟩ | ⟨hne, t, x, hv⟩
          case inr =>
            have hg := join_empty hP hne
            rw [hg] at H7
            obtain rfl : 0 = n5 := H7.out.2.1.mlen
            obtain rfl : 0 = q5 := H7.out.2.1.llen
            obtain ⟨y0, y1, yf, yl⟩ := cell2 H7.out.2.2.1.1
            subst hv
            have HF : Hid (Bl w wc ∧ ZB w wc bg (.slice Ag ng cg) (.slice Bg qg dg) ∧ GrAt wc Ag ng Bg qg mg lg ∧ Good mg lg) := ⟨bchain HS.out.1 H7.out.2.2.2, HS.out.2.1.step H7.out.2.2.2, HS.out.2.2.1.below H7.out.2.2.2, HS.out.2.2.2⟩
            clear H7 hP hg hne HA
            go_wp2
            exact ⟨⟨j + 1, Ag, ng, cg, Bg, qg, dg, mg, lg, HJ.out, by go_num, HF.out⟩, by have := HJ.out; simp [intOf]; omega⟩
          case inl =>
            subst her
            subst hv
            have hgood : Hid (Good g5.1 g5.2) ∧ g5.1.length = mg.length + 1 ∧ g5.1.length = g5.2.length + 1 := by
              obtain ⟨h0, h2, h3, _⟩ := join_good hP
              subst h3
              have h5 := h2.tr.len
              have h6 := h0.tr.len
              rw [with_len] at h5
              exact ⟨h2, by show (inOrder _).length = _; omega, h2.tr.len.symm⟩
            obtain ⟨HG5, hl1, hl2⟩ := hgood
            have hm5 : g5.1.length = n5 := H7.out.2.1.mlen
            have hl5 : g5.2.length = q5 := H7.out.2.1.llen
            have hn5 : n5 = ng + 1 := by rw [← hm5, hl1, HS.out.2.2.1.mlen]
            have hq5 : n5 = q5 + 1 := by rw [← hm5, ← hl5]; exact hl2
            have HSM : Hid (n5 ≤ 1000 ∧ q5 ≤ 1000) := ⟨by rw [← hm5]; have := HG5.out.small; omega, by rw [← hl5]; have := HG5.out.small; omega⟩
            clear hm5 hl5
            have hw6 : IntKind.i64.wrap ((n5 : Int) - 1) = (q5 : Int) := by have := HSM.out; rw [IntKind.wrap_i64]; omega
            have hw5 : IntKind.i64.wrap ((ng : Int) + 1) = (n5 : Int) := by have := HSM.out; rw [IntKind.wrap_i64]; omega
            obtain ⟨y0, y1, yf, yl⟩ := cell2 H7.out.2.2.1.1
            have hck := check_any A5 n5 c5 B5 q5 d5 g5.1 g5.2 wc H7.out.2.1.at_ HSM.out.1 HSM.out.2
            rw [good_chk HG5.out] at hck
            have HCK := Lib.hid hck
            clear hck hP hl1 hl2 HA hq5
            clear hn5
            go_wp2_with fail
            refine HCK.out.mono ?_
            rintro e wd ⟨v6, rfl, H6⟩
            obtain rfl : v6 = .nilIface := H6.out.1
            have HD : Hid (Below wr.heap.size wr wd) := bchain H7.out.2.2.2 H6.out.2
            clear y0 y1 yf yl HCK
            obtain ⟨y0, y1, yf, yl⟩ := cell2 (H7.out.2.2.1.step H6.out.2).1
            have z6 := HS.out.2.1.step HD.out
            obtain ⟨x0, x1, xf, xl⟩ := cell2 z6.1
            have HF : Hid (Bl w ((wd.setCell ⟨bg, 0, none⟩ (.slice A5 n5 c5)).setCell ⟨bg, 1, none⟩ (.slice B5 q5 d5)) ∧ ZB w ((wd.setCell ⟨bg, 0, none⟩ (.slice A5 n5 c5)).setCell ⟨bg, 1, none⟩ (.slice B5 q5 d5)) bg (.slice A5 n5 c5) (.slice B5 q5 d5) ∧ GrAt ((wd.setCell ⟨bg, 0, none⟩ (.slice A5 n5 c5)).setCell ⟨bg, 1, none⟩ (.slice B5 q5 d5)) A5 n5 B5 q5 g5.1 g5.2 ∧ Good g5.1 g5.2) :=
              ⟨Bl.st (Bl.st (bchain HS.out.1 HD.out) z6.2 _ _) z6.2 _ _, z6.set _ _, (GrOwn.set (H7.out.2.1.below H6.out.2) z6.1 _ _).at_, HG5.out⟩
            clear H7 H6 HD z6 HG5 HSM
            go_wp2
            exact ⟨⟨j + 1, A5, n5, c5, B5, q5, d5, g5.1, g5.2, HJ.out, by go_num, HF.out⟩, by have := HJ.out; simp [intOf]; omega⟩

      case neg =>
      have hzb : (z == 0) = false := by simpa using hz0
      by_cases hz1 : z = 1
      case pos =>
        subst hz1
        clear hz0 hzb
        go_wp2_with fail
        refine (leave_any Ag ng cg Bg qg dg mg lg o1 wa HA.out.2.2.2.2.2.1 HSZ.out.1 HSZ.out.2).mono ?_
        rintro e wb ⟨A5, n5, c5, B5, q5, d5, v5, rfl, H5⟩
        have zb := HA.out.2.2.1.step H5.out.2.2
        obtain ⟨y0, y1, yf, yl⟩ := cell2 zb.1
        go_upto_region 22 with fail
        obtain ⟨wc, hwc⟩ : ∃ x, x = (wb.setCell ⟨b10, 0, none⟩ (.slice A5 n5 c5)).setCell ⟨b10, 1, none⟩ (.slice B5 q5 d5) := ⟨_, rfl⟩
        have H7 : Hid (ErrIs wc v5 (leaveP mg lg o1).1 ∧ GrOwn wa.heap.size wc A5 n5 c5 B5 q5 d5 (leaveP mg lg o1).2.1 (leaveP mg lg o1).2.2 ∧ ZB wq wc b10 (.slice A5 n5 c5) (.slice B5 q5 d5) ∧ Below wr.heap.size wr wc) := by
          have hb := bchain HA.out.2.2.2.2.2.2 H5.out.2.2
          have hs := Below.size HA.out.1
          rw [hwc]
          exact ⟨H5.out.1.set zb.1 _ _, GrOwn.set H5.out.2.1 zb.1 _ _, zb.set _ _, (Bl.st hb (Nat.le_trans hs zb.2) _ _).st (Nat.le_trans hs zb.2) _ _⟩
        rw [← hwc]
        clear hwc H5 zb y0 y1 yf yl
        have ⟨⟨er, g5⟩, hP⟩ : ∃ x, leaveP mg lg o1 = x := ⟨_, rfl⟩
        · rw [hP] at H7
          rcases (show ErrIs wc v5 er from H7.out.1).cases with ⟨hv, her⟩ | ⟨hne, t, x, hv⟩
          case inr =>
            have hg := leave_empty hP hne
            rw [hg] at H7
            obtain rfl : 0 = n5 := H7.out.2.1.mlen
            obtain rfl : 0 = q5 := H7.out.2.1.llen
            obtain ⟨y0, y1, yf, yl⟩ := cell2 H7.out.2.2.1.1
            subst hv
            have HF : Hid (Bl w wc ∧ ZB w wc bg (.slice Ag ng cg) (.slice Bg qg dg) ∧ GrAt wc Ag ng Bg qg mg lg ∧ Good mg lg) := ⟨bchain HS.out.1 H7.out.2.2.2, HS.out.2.1.step H7.out.2.2.2, HS.out.2.2.1.below H7.out.2.2.2, HS.out.2.2.2⟩
            clear H7 hP hg hne HA
            go_wp2
            exact ⟨⟨j + 1, Ag, ng, cg, Bg, qg, dg, mg, lg, HJ.out, by go_num, HF.out⟩, by have := HJ.out; simp [intOf]; omega⟩
          case inl =>
            subst her
            subst hv
            have hgood : Hid (Good g5.1 g5.2) ∧ g5.1.length = mg.length - 1 ∧ g5.1.length = g5.2.length + 1 := by
              obtain ⟨h0, h2, h3, h4⟩ := leave_good hP
              subst h3
              refine ⟨h2, ?_, h2.tr.len.symm⟩
              have := filter_one h0.tr.nodup h4
              show (mg.filter fun x => !(x == o1)).length = mg.length - 1
              omega
            obtain ⟨HG5, hl1, hl2⟩ := hgood
            have hm5 : g5.1.length = n5 := H7.out.2.1.mlen
            have hl5 : g5.2.length = q5 := H7.out.2.1.llen
            have hn5 : n5 = ng - 1 := by rw [← hm5, hl1, HS.out.2.2.1.mlen]
            have hq5 : n5 = q5 + 1 := by rw [← hm5, ← hl5]; exact hl2
            have HSM : Hid (n5 ≤ 1000 ∧ q5 ≤ 1000) := ⟨by rw [← hm5]; have := HG5.out.small; omega, by rw [← hl5]; have := HG5.out.small; omega⟩
            clear hm5 hl5
            have hw6 : IntKind.i64.wrap ((n5 : Int) - 1) = (q5 : Int) := by have := HSM.out; rw [IntKind.wrap_i64]; omega
            have hw5 : IntKind.i64.wrap ((ng : Int) - 1) = (n5 : Int) := by have := HSM.out; have := HG5.out.tr.len; rw [IntKind.wrap_i64]; omega
            obtain ⟨y0, y1, yf, yl⟩ := cell2 H7.out.2.2.1.1
            have hck := check_any A5 n5 c5 B5 q5 d5 g5.1 g5.2 wc H7.out.2.1.at_ HSM.out.1 HSM.out.2
            rw [good_chk HG5.out] at hck
            have HCK := Lib.hid hck
            clear hck hP hl1 hl2 HA hq5
            clear hn5
            go_wp2_with fail
            refine HCK.out.mono ?_
            rintro e wd ⟨v6, rfl, H6⟩
            obtain rfl : v6 = .nilIface := H6.out.1
            have HD : Hid (Below wr.heap.size wr wd) := bchain H7.out.2.2.2 H6.out.2
            clear y0 y1 yf yl HCK
            obtain ⟨y0, y1, yf, yl⟩ := cell2 (H7.out.2.2.1.step H6.out.2).1
            have z6 := HS.out.2.1.step HD.out
            obtain ⟨x0, x1, xf, xl⟩ := cell2 z6.1
            have HF : Hid (Bl w ((wd.setCell ⟨bg, 0, none⟩ (.slice A5 n5 c5)).setCell ⟨bg, 1, none⟩ (.slice B5 q5 d5)) ∧ ZB w ((wd.setCell ⟨bg, 0, none⟩ (.slice A5 n5 c5)).setCell ⟨bg, 1, none⟩ (.slice B5 q5 d5)) bg (.slice A5 n5 c5) (.slice B5 q5 d5) ∧ GrAt ((wd.setCell ⟨bg, 0, none⟩ (.slice A5 n5 c5)).setCell ⟨bg, 1, none⟩ (.slice B5 q5 d5)) A5 n5 B5 q5 g5.1 g5.2 ∧ Good g5.1 g5.2) :=
              ⟨Bl.st (Bl.st (bchain HS.out.1 HD.out) z6.2 _ _) z6.2 _ _, z6.set _ _, (GrOwn.set (H7.out.2.1.below H6.out.2) z6.1 _ _).at_, HG5.out⟩
            clear H7 H6 HD z6 HG5 HSM
            go_wp2
            exact ⟨⟨j + 1, A5, n5, c5, B5, q5, d5, g5.1, g5.2, HJ.out, by go_num, HF.out⟩, by have := HJ.out; simp [intOf]; omega⟩

      case neg =>
      have hzb1 : (z == 1) = false := by simpa using hz1
      by_cases hq0 : qg = 0
      case pos =>
        subst hq0
        have HF : Hid (Bl w wa ∧ ZB w wa bg (.slice Ag ng cg) (.slice Bg 0 dg) ∧ GrAt wa Ag ng Bg 0 mg lg ∧ Good mg lg) := ⟨bchain HS.out.1 HA.out.2.2.2.2.2.2, HS.out.2.1.step HA.out.2.2.2.2.2.2, HS.out.2.2.1.below HA.out.2.2.2.2.2.2, HS.out.2.2.2⟩
        clear HA
        go_wp2
        exact ⟨⟨j + 1, Ag, ng, cg, Bg, 0, dg, mg, lg, HJ.out, by go_num, HF.out⟩, by have := HJ.out; simp [intOf]; omega⟩
      case neg =>
        have hqb : ((qg : Int) == 0) = false := by simp; omega
        have hqn : ¬ ((qg : Int) = 0) := by omega
        have hil : j % qg < qg := Nat.mod_lt _ (by omega)
        have hrem : IntKind.i64.wrap ((j : Int).tmod (qg : Int)) = ((j % qg : Nat) : Int) := by
          have := HSZ.out
          rw [← Int.ofNat_tmod, IntKind.wrap_i64]; omega
        have hrem2 : (j : Int).tmod (qg : Int) = ((j % qg : Nat) : Int) := (Int.ofNat_tmod j qg).symm
        obtain ⟨⟨k1, k2⟩, hk⟩ : ∃ y, Hid (lg[j % qg]? = some y) := ⟨_, List.getElem?_eq_getElem (by have := HS.out.2.2.1.llen; omega)⟩
        obtain ⟨gg, og, rfl, c0, c1, cl0⟩ := HS.out.2.2.1.lrow.lk hk.out
        have hi0 : (0 : Int) ≤ ((j % qg : Nat) : Int) := by omega
        have hi1 : ((j % qg : Nat) : Int) < qg := by omega
        have HC : Hid (∀ W, Bl wq W → W.cell? ⟨bg, 0, none⟩ = some (.slice Ag ng cg) ∧ W.cell? ⟨bg, 1, none⟩ = some (.slice (some ⟨gg, og, none⟩) qg dg) ∧ W.cell? ⟨b8, 0, none⟩ = some (.int .i64 o1) ∧ W.cell? ⟨b8, 1, none⟩ = some (.int .i64 o2) ∧ W.cell? ⟨gg, og + (j % qg) * 2, none⟩ = some (.int .i64 k1) ∧ W.cell? ⟨gg, og + (j % qg) * 2 + 1, none⟩ = some (.int .i64 k2)) := fun W hW => by
          have hr := bchain HA.out.1 hW
          obtain ⟨h1, h2, _⟩ := cell2 (HS.out.2.1.step hr).1
          obtain ⟨h3, h4, _⟩ := cell2 ((hW.block b8 HA.out.2.2.2.1).trans HA.out.2.2.2.2.1)
          exact ⟨h1, h2, h3, h4, (World.cell?_of_block (w := wr) (a := ⟨gg, _, none⟩) (hr.block gg cl0)).trans c0, (World.cell?_of_block (w := wr) (a := ⟨gg, _, none⟩) (hr.block gg cl0)).trans c1⟩
        obtain ⟨z1, hz1⟩ : ∃ z, Hid (min o1 o2 = z) := ⟨_, rfl⟩
        obtain ⟨z2, hz2⟩ : ∃ z, Hid (max o1 o2 = z) := ⟨_, rfl⟩
        have HOF : Hid (∀ W, Bl wq W → Calls Tryz.prog 14 #[.int .i64 o1, .int .i64 o2] W fun e w' => e = .returned (.agg #[.int .i64 z1, .int .i64 z2]) ∧ Bl wq w' ∧ Below W.heap.size W w') := fun W hW => by
          refine (rof_any o1 o2 W).mono ?_
          rintro e w' ⟨rfl, hb⟩
          rw [hz1.out, hz2.out]
          exact ⟨rfl, bchain hW hb, hb⟩
        have HSW : Hid (∀ W, Bl wq W → Calls Tryz.prog 23 #[grV Ag ng cg (some ⟨gg, og, none⟩) qg dg, .agg #[.int .i64 k1, .int .i64 k2], .agg #[.int .i64 z1, .int .i64 z2]] W fun e w' => ∃ (A5 : Option Addr) (n5 c5 : Nat) (B5 : Option Addr) (q5 d5 : Nat) (v5 : Value), e = .returned (.tuple #[grV A5 n5 c5 B5 q5 d5, v5]) ∧ Bl wq w' ∧ Hid (ErrIs w' v5 (swapP mg lg (k1, k2) (z1, z2)).1 ∧ GrOwn wq.heap.size w' A5 n5 c5 B5 q5 d5 (swapP mg lg (k1, k2) (z1, z2)).2.1 (swapP mg lg (k1, k2) (z1, z2)).2.2) ∧ Below W.heap.size W w') := fun W hW => by
          refine (swap_any Ag ng cg (some ⟨gg, og, none⟩) qg dg mg lg k1 k2 z1 z2 W (HS.out.2.2.1.below (bchain HA.out.1 hW)) HSZ.out.1 HSZ.out.2).mono ?_
          rintro e w' ⟨A5, n5, c5, B5, q5, d5, v5, rfl, h⟩
          exact ⟨A5, n5, c5, B5, q5, d5, v5, rfl, bchain hW h.out.2.2, ⟨h.out.1, h.out.2.1.mono (Below.size hW)⟩, h.out.2.2⟩
        clear hz1 hz2 hk c0 c1 cl0 hq0 hil d0 d1 f0 f1 f2 f3
        have hbla : Bl wq wa := HA.out.2.1
        have z10 := HA.out.2.2.1
        obtain ⟨f0, f1, f2, f3, c0, c1⟩ := HC.out wa hbla
        go_upto_region 16 with fail
        (go_region_held_law (fun W => W.cell? ⟨bg, 0, none⟩ = some (.slice Ag ng cg) ∧ W.cell? ⟨bg, 1, none⟩ = some (.slice (some ⟨gg, og, none⟩) qg dg) ∧ W.cell? ⟨b8, 0, none⟩ = some (.int .i64 o1) ∧ W.cell? ⟨b8, 1, none⟩ = some (.int .i64 o2) ∧ W.cell? ⟨gg, og + (j % qg) * 2, none⟩ = some (.int .i64 k1) ∧ W.cell? ⟨gg, og + (j % qg) * 2 + 1, none⟩ = some (.int .i64 k2))
          (first | (refine HC.out _ ?_; (first | (with_reducible refine Bl.dr ?_; (first | with_reducible assumption | (with_reducible refine Bl.al ?_ _; first | with_reducible assumption | (with_reducible refine Bl.al ?_ _; first | with_reducible assumption | (with_reducible refine Bl.al ?_ _; with_reducible assumption))))) | (first | with_reducible assumption | (with_reducible refine Bl.al ?_ _; first | with_reducible assumption | (with_reducible refine Bl.al ?_ _; first | with_reducible assumption | (with_reducible refine Bl.al ?_ _; with_reducible assumption))))); done) | (refine HC.out _ ?_; with_reducible refine Bl.st ?_ z5n _ _; with_reducible refine Bl.st ?_ z5n _ _; with_reducible assumption) | fail)
          (first
            | (go_at_call 14; refine (HOF.out _ (by (first | (with_reducible refine Bl.dr ?_; (first | with_reducible assumption | (with_reducible refine Bl.al ?_ _; first | with_reducible assumption | (with_reducible refine Bl.al ?_ _; first | with_reducible assumption | (with_reducible refine Bl.al ?_ _; with_reducible assumption))))) | (first | with_reducible assumption | (with_reducible refine Bl.al ?_ _; first | with_reducible assumption | (with_reducible refine Bl.al ?_ _; first | with_reducible assumption | (with_reducible refine Bl.al ?_ _; with_reducible assumption))))))).mono ?_; rintro e w4 ⟨rfl, hbl4, hbw4⟩; have z4 := ZB.step (ZB.dr z10) hbw4)
            | (go_at_call 23; refine (HSW.out _ (by (first | (with_reducible refine Bl.dr ?_; (first | with_reducible assumption | (with_reducible refine Bl.al ?_ _; first | with_reducible assumption | (with_reducible refine Bl.al ?_ _; first | with_reducible assumption | (with_reducible refine Bl.al ?_ _; with_reducible assumption))))) | (first | with_reducible assumption | (with_reducible refine Bl.al ?_ _; first | with_reducible assumption | (with_reducible refine Bl.al ?_ _; first | with_reducible assumption | (with_reducible refine Bl.al ?_ _; with_reducible assumption))))))).mono ?_; rintro e w5 ⟨A5, n5, c5, B5, q5, d5, v5, rfl, hbl5, H5, hbw5⟩; have z5 := ZB.step z4 hbw5; obtain ⟨y0, y1, yf, yl⟩ := cell2 z5.1; have z5n := z5.2)
            | fail))
        all_goals
          clear HSW HOF HC z10 hbla f0 f1 f2 f3 c0 c1
          obtain ⟨wc, hwc⟩ : ∃ x, x = (w5.setCell ⟨b10, 0, none⟩ (.slice A5 n5 c5)).setCell ⟨b10, 1, none⟩ (.slice B5 q5 d5) := ⟨_, rfl⟩
          have H7 : Hid (ErrIs wc v5 (swapP mg lg (k1, k2) (z1, z2)).1 ∧ GrOwn wq.heap.size wc A5 n5 c5 B5 q5 d5 (swapP mg lg (k1, k2) (z1, z2)).2.1 (swapP mg lg (k1, k2) (z1, z2)).2.2 ∧ ZB wq wc b10 (.slice A5 n5 c5) (.slice B5 q5 d5) ∧ Below wr.heap.size wr wc) := by
            rw [hwc]
            exact ⟨H5.out.1.set z5.1 _ _, GrOwn.set H5.out.2 z5.1 _ _, z5.set _ _, bchain HA.out.1 (Bl.st (Bl.st hbl5 z5.2 _ _) z5.2 _ _)⟩
          rw [← hwc]
          clear hwc H5 z4 z5 z5n hbl4 hbw4 hbl5 hbw5 y0 y1 yf yl
          have ⟨⟨er, g5⟩, hP⟩ : ∃ x, swapP mg lg (k1, k2) (z1, z2) = x := ⟨_, rfl⟩
          · rw [hP] at H7
            rcases (show ErrIs wc v5 er from H7.out.1).cases with ⟨hv, her⟩ | ⟨hne, t, x, hv⟩
            case inr =>
              have hg := swap_empty hP hne
              rw [hg] at H7
              obtain rfl : 0 = n5 := H7.out.2.1.mlen
              obtain rfl : 0 = q5 := H7.out.2.1.llen
              obtain ⟨y0, y1, yf, yl⟩ := cell2 H7.out.2.2.1.1
              subst hv
              have HF : Hid (Bl w wc ∧ ZB w wc bg (.slice Ag ng cg) (.slice (some ⟨gg, og, none⟩) qg dg) ∧ GrAt wc Ag ng (some ⟨gg, og, none⟩) qg mg lg ∧ Good mg lg) := ⟨bchain HS.out.1 H7.out.2.2.2, HS.out.2.1.step H7.out.2.2.2, HS.out.2.2.1.below H7.out.2.2.2, HS.out.2.2.2⟩
              clear H7 hP hg hne HA
              go_wp2
              exact ⟨⟨j + 1, Ag, ng, cg, some ⟨gg, og, none⟩, qg, dg, mg, lg, HJ.out, by go_num, HF.out⟩, by have := HJ.out; simp [intOf]; omega⟩
            case inl =>
              subst her
              subst hv
              have hgood : Hid (Good g5.1 g5.2) ∧ g5.1.length = mg.length ∧ g5.1.length = g5.2.length + 1 := by
                obtain ⟨_, h2, h3, _⟩ := swap_good hP
                subst h3
                exact ⟨h2, rfl, h2.tr.len.symm⟩
              obtain ⟨HG5, hl1, hl2⟩ := hgood
              have hm5 : g5.1.length = n5 := H7.out.2.1.mlen
              have hl5 : g5.2.length = q5 := H7.out.2.1.llen
              have hn5 : n5 = ng := by rw [← hm5, hl1, HS.out.2.2.1.mlen]
              have hq5 : n5 = q5 + 1 := by rw [← hm5, ← hl5]; exact hl2
              have HSM : Hid (n5 ≤ 1000 ∧ q5 ≤ 1000) := ⟨by rw [← hm5]; have := HG5.out.small; omega, by rw [← hl5]; have := HG5.out.small; omega⟩
              clear hm5 hl5
              have hw6 : IntKind.i64.wrap ((n5 : Int) - 1) = (q5 : Int) := by have := HSM.out; rw [IntKind.wrap_i64]; omega
              have hbn : ((n5 : Int) != (n5 : Int)) = false := by simp
              obtain ⟨y0, y1, yf, yl⟩ := cell2 H7.out.2.2.1.1
              have hck := check_any A5 n5 c5 B5 q5 d5 g5.1 g5.2 wc H7.out.2.1.at_ HSM.out.1 HSM.out.2
              rw [good_chk HG5.out] at hck
              have HCK := Lib.hid hck
              clear hck hP hl1 hl2 HA hq5
              subst hn5
              go_wp2_with fail
              refine HCK.out.mono ?_
              rintro e wd ⟨v6, rfl, H6⟩
              obtain rfl : v6 = .nilIface := H6.out.1
              have HD : Hid (Below wr.heap.size wr wd) := bchain H7.out.2.2.2 H6.out.2
              clear y0 y1 yf yl HCK
              obtain ⟨y0, y1, yf, yl⟩ := cell2 (H7.out.2.2.1.step H6.out.2).1
              have z6 := HS.out.2.1.step HD.out
              obtain ⟨x0, x1, xf, xl⟩ := cell2 z6.1
              have HF : Hid (Bl w ((wd.setCell ⟨bg, 0, none⟩ (.slice A5 n5 c5)).setCell ⟨bg, 1, none⟩ (.slice B5 q5 d5)) ∧ ZB w ((wd.setCell ⟨bg, 0, none⟩ (.slice A5 n5 c5)).setCell ⟨bg, 1, none⟩ (.slice B5 q5 d5)) bg (.slice A5 n5 c5) (.slice B5 q5 d5) ∧ GrAt ((wd.setCell ⟨bg, 0, none⟩ (.slice A5 n5 c5)).setCell ⟨bg, 1, none⟩ (.slice B5 q5 d5)) A5 n5 B5 q5 g5.1 g5.2 ∧ Good g5.1 g5.2) :=
                ⟨Bl.st (Bl.st (bchain HS.out.1 HD.out) z6.2 _ _) z6.2 _ _, z6.set _ _, (GrOwn.set (H7.out.2.1.below H6.out.2) z6.1 _ _).at_, HG5.out⟩
              clear H7 H6 HD z6 HG5 HSM
              go_wp2
              exact ⟨⟨j + 1, A5, n5, c5, B5, q5, d5, g5.1, g5.2, HJ.out, by go_num, HF.out⟩, by have := HJ.out; simp [intOf]; omega⟩


end Go.Proofs.YtlkfcfcejicdkaaGreatDoor
