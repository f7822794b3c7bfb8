/-
  wal: the law WalErrors. Own work.
-/
import Derived.Test.YthokoimoiamddaaGreatDoorB12
import Derived.Test.YthokoimoiamddaaGreatDoorB8
import Derived.Deep.CutRange
import Derived.Deep.RegionHeldLaw
set_option linter.unusedSimpArgs false
set_option linter.unusedVariables false
namespace Go.Proofs.YthokoimoiamddaaGreatDoor
open Go Go.RowKit

/-- The wanted error stands in its box. -/
def KN (w : World) (b : Nat) (W : World) : Prop := W.cell? ⟨b, 0, none⟩ = some (.bool true) ∧ W.cell? ⟨b, 1, none⟩ = some (.slice none 0 0) ∧ W.cell? ⟨b, 2, none⟩ = some (.int .i64 19) ∧ Hid (Below w.heap.size w W ∧ b < W.heap.size)
theorem KN.step {w W W' : World} {b : Nat} (h : KN w b W) (hb : Below W.heap.size W W') : KN w b W' :=
  ⟨(hb.cell (p := ⟨b, 0, none⟩) h.2.2.2.out.2).trans h.1, (hb.cell (p := ⟨b, 1, none⟩) h.2.2.2.out.2).trans h.2.1, (hb.cell (p := ⟨b, 2, none⟩) h.2.2.2.out.2).trans h.2.2.1, h.2.2.2.out.1.trans (hb.mono h.2.2.2.out.1.size), Nat.lt_of_lt_of_le h.2.2.2.out.2 hb.size⟩

set_option maxRecDepth 20000 in
set_option maxHeartbeats 4000000 in
theorem errors_any (nm : ByteArray) (seg long : Int) (w : World) (hE : ErrS w) (hT : ErrT w) (hs : nm.size ≤ 9223372036854775807) (hseg : -9223372036854775808 ≤ seg ∧ seg ≤ 9223372036854775807) :
    Calls Tryz.prog 4 #[.string nm, .int .i64 seg, .int .i64 long] w fun e w' => e = .returned (.bool true) ∧ Below w.heap.size w w' := by
  have HE := Lib.hid hE
  have HT := Lib.hid hT
  clear hE hT
  by_cases h1 : long < -5
  · go_enter Tryz.func4, Tryz.ntmps4
    go_wp2_with (go_at_call 7; refine (awake_any _ HE.out).mono ?_; rintro e w1 ⟨rfl, hb⟩)
    go_ret
    exact ⟨rfl, hb⟩
  by_cases h2 : 5 < long
  · go_enter Tryz.func4, Tryz.ntmps4
    go_wp2_with (go_at_call 7; refine (awake_any _ HE.out).mono ?_; rintro e w1 ⟨rfl, hb⟩)
    go_ret
    exact ⟨rfl, hb⟩
  go_enter Tryz.func4, Tryz.ntmps4
  go_wp2_with fail
  refine (awake_any _ HE.out).mono ?_
  rintro e w1 ⟨rfl, hb⟩
  have HB1 : Hid (Below w.heap.size w w1) := hb
  clear hb
  go_wp2_with fail
  refine (open_nil nm seg w1).mono ?_
  rintro e w2 ⟨rfl, hb⟩
  have HB2 : Hid (Below w.heap.size w w2) := HB1.out.trans (hb.mono HB1.out.size)
  clear hb HB1
  obtain ⟨W2, hW2, hbox, hbW⟩ := box_new w2 (.bool false) (.slice none 0 0) (.slice none 0 0)
  have HW2 := Lib.hid hW2
  have HX2 := Lib.hid hbox
  have HB3 : Hid (Below w.heap.size w W2) := HB2.out.trans (hbW.mono HB2.out.size)
  clear hW2 hbox hbW HB2
  go_upto_region 6 with fail
  rw [← HW2.out]
  clear HW2
  go_wp2_with fail
  refine (n_any 19 _).mono ?_
  rintro e w3 ⟨rfl, hb3⟩
  have HB4 : Hid (Below w.heap.size w w3) := HB3.out.trans (hb3.mono HB3.out.size)
  have HX3 : Hid (w3.heap[w2.heap.size]? = some (.cells #[.bool false, .slice none 0 0, .slice none 0 0] 29 (0, 0))) := (hb3.block _ (Array.getElem?_eq_some_iff.1 HX2.out).1).trans HX2.out
  clear hb3 HB3 HX2
  go_wp2_with fail
  refine (fails_plain 19 19 _ (HT.out.below HB4.out)).mono ?_
  rintro e w4 ⟨rfl, hb4⟩
  have HB5 : Hid (Below w.heap.size w w4) := HB4.out.trans (hb4.mono HB4.out.size)
  have HX4 : Hid (w4.heap[w2.heap.size]? = some (.cells #[.bool false, .slice none 0 0, .slice none 0 0] 29 (0, 0))) := (hb4.block _ (Array.getElem?_eq_some_iff.1 HX3.out).1).trans HX3.out
  obtain ⟨q0, q1, q2, qf⟩ := found_cells HX4.out
  clear hb4 HB4 HX3
  rw [decide_eq_true rfl]
  go_upto_region 8 with fail
  clear q0 q1 q2 qf HX4
  go_cut [10] from 11 (fun b wx => w4 = wx ∧ b = .bool (headB nm))
  case first =>
    by_cases a1 : 0 < nm.size
    · by_cases a2 : nm.size ≤ 16
      · by_cases a3 : (97 : Int) ≤ ((nm[0]'a1).toNat : Int)
        · by_cases a4 : ((nm[0]'a1).toNat : Int) ≤ 122
          · have hh : headB nm = true := by unfold headB; rw [dif_pos a1]; simp [a1, a2, a3, a4]; omega
            go_wp2_with fail
            go_meet
            exact ⟨rfl, congrArg Value.bool hh.symm⟩
          · have hh : headB nm = false := by unfold headB; rw [dif_pos a1]; simp [a4]
            go_wp2_with fail
            go_meet
            exact ⟨rfl, congrArg Value.bool hh.symm⟩
        · have hh : headB nm = false := by unfold headB; rw [dif_pos a1]; simp [a3]
          go_wp2_with fail
          go_meet
          exact ⟨rfl, congrArg Value.bool hh.symm⟩
      · have hh : headB nm = false := by unfold headB; simp [a2]
        go_wp2_with fail
        go_meet
        exact ⟨rfl, congrArg Value.bool hh.symm⟩
    · have hh : headB nm = false := by unfold headB; rw [dif_neg a1]; simp
      go_wp2_with fail
      go_meet
      exact ⟨rfl, congrArg Value.bool hh.symm⟩
  case rest =>
  obtain ⟨rfl, rfl⟩ := hcut
  go_upto_region 10 with fail
  go_loopw [10, 63] (fun b i wx => ∃ k : Nat, k ≤ nm.size ∧ i = .int .i64 k ∧ b = .bool (headB nm && preB nm k) ∧ w4 = wx) (fun _ i _ => nm.size - (intOf i).toNat)
  case atStart => exact ⟨0, Nat.zero_le _, rfl, by rw [preB_zero, Bool.and_true], rfl⟩
  case round =>
  obtain ⟨k, hk, rfl, rfl, rfl⟩ := hrel
  by_cases hlt : k < nm.size
  · have hw1 : IntKind.i64.wrap ((k : Int) + 1) = ((k + 1 : Nat) : Int) := by rw [IntKind.wrap_i64]; omega
    have HP : Hid (preB nm (k + 1) = (preB nm k && letB ((nm[k]).toNat : Int))) := preB_succ nm k hlt
    obtain ⟨r, hr⟩ : ∃ r, Hid ((headB nm && preB nm k) = r) := ⟨_, rfl⟩
    rw [hr.out]
    cases r with
    | false =>
      go_wp2_with fail
      exact ⟨⟨k + 1, hlt, rfl, by rw [HP.out, ← Bool.and_assoc, hr.out]; rfl, trivial⟩, by simp [intOf]; omega⟩
    | true =>
      go_wp2_with fail
      all_goals
        refine ⟨⟨k + 1, hlt, rfl, congrArg Value.bool ?_, trivial⟩, by simp [intOf]; omega⟩
        rw [HP.out, ← Bool.and_assoc, hr.out, Bool.true_and]
        unfold letB
        rw [Bool.eq_iff_iff]
        simp only [Bool.or_eq_true, decide_eq_true_eq, beq_iff_eq, eq_self, true_iff, Bool.false_eq_true, false_iff]
        omega
  · have hkn : k = nm.size := by omega
    subst hkn
    go_upto_region 15 with fail
    have e0 : (headB nm && preB nm nm.size) = nameB nm := (nameB_pre nm).symm
    rw [e0]
    go_cut [10] from 11 (fun b wx => w4 = wx ∧ b = .bool (rightB nm seg))
    case first =>
      obtain ⟨r, hr⟩ : ∃ r, nameB nm = r := ⟨_, rfl⟩
      have HR : Hid (rightB nm seg = (r && decide (16 ≤ seg) && decide (seg ≤ 1048576))) := by unfold Hid rightB; rw [hr]
      rw [hr]
      cases r with
      | false =>
        go_wp2_with fail
        go_meet
        exact ⟨rfl, congrArg Value.bool (by rw [HR.out]; rfl)⟩
      | true =>
        by_cases g1 : 16 ≤ seg
        · by_cases g2 : seg ≤ 1048576
          · go_wp2_with fail
            go_meet
            exact ⟨rfl, congrArg Value.bool (by rw [HR.out]; simp [g1, g2]; try omega)⟩
          · go_wp2_with fail
            go_meet
            exact ⟨rfl, congrArg Value.bool (by rw [HR.out]; simp [g1, g2]; try omega)⟩
        · go_wp2_with fail
          go_meet
          exact ⟨rfl, congrArg Value.bool (by rw [HR.out]; simp [g1]; try omega)⟩
    case rest =>
    obtain ⟨rfl, rfl⟩ := hcut
    clear e0 hk hlt
    go_upto_region 16 with fail
    go_cut [9] from 100 (fun e wx => Hid (Below w.heap.size w wx) ∧ ((rightB nm seg = true ∧ e = .nilIface) ∨ (rightB nm seg = false ∧ e = .iface 42 (.int .i64 1))))
    case first =>
      go_wp2_with fail
      refine (newDisk_any _).mono ?_
      rintro e w' ⟨rfl, rfl⟩
      obtain ⟨w5, hw5⟩ : ∃ w5, w5 = (w4.alloc (.map #[] 0)).alloc (.cells #[.map (some w4.heap.size), .int .i64 0] 60) := ⟨_, rfl⟩
      have hb5 : Hid (Below w.heap.size w w5) := by rw [hw5]; exact (HB5.out.alloc HB5.out.size _).alloc (by have := HB5.out.size; simp; omega) _
      have hd5 : Hid (LgD w4.heap.size w5 (w4.heap.size + 1) nm (newSt w4) (fun _ => none) [] fnd0 0) := by
        have h9 := HE.out.below (hb5.out)
        rw [hw5] at h9 ⊢
        exact lgD_new (dk_new w4) h9 (HE.out.below HB5.out).one (by decide) nm 0
      rw [← hw5]
      clear hw5
      go_wp2_with fail
      by_cases hR : rightB nm seg = true
      · obtain ⟨sn, rfl⟩ : ∃ sn : Nat, seg = sn := by
          refine ⟨seg.toNat, ?_⟩
          unfold rightB at hR
          simp only [Bool.and_eq_true, decide_eq_true_eq] at hR
          omega
        refine (lg_open2 hd5.out (oth_none nm) (pathOK_of (by unfold rightB at hR; simp only [Bool.and_eq_true] at hR; exact hR.1.1)) sn hR 400).mono ?_
        rintro e w6 ⟨sA, sc, A, k, c, vs, s6, b, g, rfl, hlg, hld, hfn, hsb, hge, hfr⟩
        have HB6 : Hid (Below w.heap.size w w6) := hb5.out.trans ((hd5.out.below_of hfr).mono HB5.out.size)
        have HR := Lib.hid hR
        clear hlg hld hfn hsb hge hfr hR
        go_wp2_with fail
        go_meet
        exact ⟨HB6.out, .inl ⟨HR.out, rfl⟩⟩
      · replace hR : rightB nm seg = false := by simpa using hR
        refine (open_bad (w4.heap.size + 1) nm seg w5 hR).mono ?_
        rintro e w6 ⟨rfl, hb⟩
        have HB6 : Hid (Below w.heap.size w w6) := hb5.out.trans (hb.mono hb5.out.size)
        have HR := Lib.hid hR
        clear hb hR
        go_wp2_with fail
        go_meet
        exact ⟨HB6.out, .inr ⟨HR.out, rfl⟩⟩
    case rest =>
    obtain ⟨HB6, hcase⟩ := hcut
    obtain ⟨w6, rfl⟩ : ∃ x, x = wc := ⟨_, rfl⟩
    go_upto_region 17 with fail
    go_cut [10, 121] from 108 (fun r b wx => b = .bool false ∧ Hid (Below w.heap.size w wx))
    case first =>
      rcases hcase with ⟨hR, rfl⟩ | ⟨hR, rfl⟩
      · rw [hR]
        go_wp2_with fail
        go_meet
        exact ⟨rfl, HB6.out⟩
      · rw [hR]
        go_wp2_with fail
        refine (n_any 1 _).mono ?_
        rintro e w7 ⟨rfl, hb⟩
        have HB7 : Hid (Below w.heap.size w w7) := HB6.out.trans (hb.mono HB6.out.size)
        clear hb
        go_wp2_with fail
        refine (fails_plain 1 1 _ (HT.out.below HB7.out)).mono ?_
        rintro e w8 ⟨rfl, hb⟩
        have HB8 : Hid (Below w.heap.size w w8) := HB7.out.trans (hb.mono HB7.out.size)
        clear hb
        rw [decide_eq_true rfl]
        go_wp2_with fail
        go_meet
        exact ⟨rfl, HB8.out⟩
    case rest =>
    obtain ⟨rfl, HB7⟩ := hcut
    obtain ⟨w7, rfl⟩ : ∃ x, x = wc := ⟨_, rfl⟩
    clear hcase HB6
    go_upto_region 19 with fail
    go_wp2_with fail
    refine (newDisk_any _).mono ?_
    rintro e w' ⟨rfl, rfl⟩
    obtain ⟨w8, hw8⟩ : ∃ w8, w8 = (w7.alloc (.map #[] 0)).alloc (.cells #[.map (some w7.heap.size), .int .i64 0] 60) := ⟨_, rfl⟩
    have HB8 : Hid (Below w.heap.size w w8) := by rw [hw8]; exact (HB7.out.alloc HB7.out.size _).alloc (by have := HB7.out.size; simp; omega) _
    have HD8 : Hid (LgD w7.heap.size w8 (w7.heap.size + 1) kOne (newSt w7) (fun _ => none) [] fnd0 0) := by
      have h9 := HE.out.below (HB8.out)
      rw [hw8] at h9 ⊢
      exact lgD_new (dk_new w7) h9 (HE.out.below HB7.out).one (by decide) kOne 0
    rw [← hw8]
    clear hw8
    go_wp2_with fail
    refine (lg_open2 HD8.out (oth_none kOne) (pathOK_of nm_one) 100 (right_of nm_one 100 (by decide) (by decide)) 600000).mono ?_
    rintro e w9 ⟨sA, sc, A, k, c, vs, s9, b, g, rfl, hlg, hld, hfn, hsb, hge, hfr⟩
    have HB9 : Hid (Below w.heap.size w w9) := HB8.out.trans ((HD8.out.below_of hfr).mono HB7.out.size)
    have HL9 := Lib.hid hlg
    clear hlg hld hfn hsb hge hfr
    go_upto_region 20 with fail
    have hlw : IntKind.i64.wrap (65536 + long) = 65536 + long := by rw [IntKind.wrap_i64]; omega
    have hlw2 : IntKind.i64.wrap (524288 + long) = 524288 + long := by rw [IntKind.wrap_i64]; omega
    obtain ⟨n1, hn1⟩ : ∃ n1 : Nat, 65536 + long = n1 := ⟨(65536 + long).toNat, by omega⟩
    obtain ⟨n2, hn2⟩ : ∃ n2 : Nat, 524288 + long = n2 := ⟨(524288 + long).toNat, by omega⟩
    rw [hn1] at hlw
    rw [hn2] at hlw2
    go_cut [9] from 128 (fun e wx => ∃ s f safe j, Hid (Below w.heap.size w wx) ∧ Hid (j ≤ 1 ∧ Lg w7.heap.size wx g (w7.heap.size + 1) kOne s (fun _ => none) [] f safe j 600000) ∧ ((long ≤ 0 ∧ e = .nilIface) ∨ (0 < long ∧ e = .iface 42 (.int .i64 2))))
    case first =>
      have hmk := run_make_bytes n1 (by omega)
      go_wp2_with fail
      by_cases hl0 : long ≤ 0
      · refine (lg_append (HL9.out.below ((Below.refl _ _).alloc (Nat.le_refl _) _)) (pathOK_of nm_one) (oth_none kOne) _ n1 n1 (zeros n1) (zeros_len n1) (newbytes w9 (zeros n1)) (by omega) (by omega) (by decide) (by decide)).mono ?_
        rintro e wa (⟨rfl, sa, hla, hfa⟩ | ⟨_, _, h, _⟩)
        rotate_left 1
        · simp at h
        have HLa := Lib.hid hla
        have HBa : Hid (Below w.heap.size w wa) := (HB9.out.alloc HB9.out.size _).trans (((HL9.out.below ((Below.refl _ _).alloc (Nat.le_refl _) _)).below_of hfa).mono HB7.out.size)
        clear hla hfa
        go_wp2_with fail
        go_meet
        exact ⟨_, _, _, _, HBa.out, ⟨Nat.le_refl _, HLa.out⟩, .inl ⟨hl0, rfl⟩⟩
      · refine (app_long g _ n1 n1 _ (by omega)).mono ?_
        rintro e wa ⟨rfl, rfl⟩
        go_wp2_with fail
        go_meet
        exact ⟨_, _, _, _, HB9.out.alloc HB9.out.size _, ⟨Nat.zero_le _, HL9.out.below ((Below.refl _ _).alloc (Nat.le_refl _) _)⟩, .inr ⟨by omega, rfl⟩⟩
    case rest =>
    obtain ⟨s10, f10, safe10, j10, HB10, HL10, hc10⟩ := hcut
    obtain ⟨w10, rfl⟩ : ∃ x, x = wc := ⟨_, rfl⟩
    clear HL9 HB9 HD8 HB8
    go_upto_region 21 with fail
    go_cut [13] from 133 (fun e wx => Hid (Below w.heap.size w wx) ∧ ((long ≤ 0 ∧ e = .nilIface) ∨ (0 < long ∧ e = .iface 42 (.int .i64 2))))
    case first =>
      have hmk := run_make_bytes n2 (by omega)
      go_wp2_with fail
      by_cases hl0 : long ≤ 0
      · refine (lg_check (HL10.out.2.below ((Below.refl _ _).alloc (Nat.le_refl _) _)) (pathOK_of nm_one) (oth_none kOne) _ n2 n2 (zeros n2) (zeros_len n2) (newbytes w10 (zeros n2)) (by omega) (by have := HL10.out.1; omega)).mono ?_
        rintro e wa (⟨rfl, sa, hla, hfa⟩ | ⟨_, _, h, _⟩)
        rotate_left 1
        · have := HL10.out.1; simp at h; omega
        have HBa : Hid (Below w.heap.size w wa) := (HB10.out.alloc HB10.out.size _).trans (((HL10.out.2.below ((Below.refl _ _).alloc (Nat.le_refl _) _)).below_of hfa).mono HB7.out.size)
        clear hla hfa
        go_wp2_with fail
        go_meet
        exact ⟨HBa.out, .inl ⟨hl0, rfl⟩⟩
      · refine (chk_long g _ n2 n2 _ (by omega)).mono ?_
        rintro e wa ⟨rfl, rfl⟩
        go_wp2_with fail
        go_meet
        exact ⟨HB10.out.alloc HB10.out.size _, .inr ⟨by omega, rfl⟩⟩
    case rest =>
    obtain ⟨HB11, hc11⟩ := hcut
    obtain ⟨w11, rfl⟩ : ∃ x, x = wc := ⟨_, rfl⟩
    clear HL10 HB10
    go_upto_region 22 with fail
    go_cut [9, 13, 163] from 138 (fun _ _ b wx => b = .bool false ∧ Hid (Below w.heap.size w wx))
    case first =>
      rcases hc10 with ⟨hl, rfl⟩ | ⟨hl, rfl⟩
      · rcases hc11 with ⟨hl2, rfl⟩ | ⟨hl2, rfl⟩
        · go_wp2_with fail
          go_meet
          exact ⟨rfl, HB11.out⟩
        · omega
      · rcases hc11 with ⟨hl2, rfl⟩ | ⟨hl2, rfl⟩
        · omega
        · go_wp2_with fail
          refine (n_any 2 _).mono ?_
          rintro e wa ⟨rfl, hb⟩
          have HBa : Hid (Below w.heap.size w wa) := HB11.out.trans (hb.mono HB11.out.size)
          clear hb
          go_wp2_with fail
          refine (fails_plain 2 2 _ (HT.out.below HBa.out)).mono ?_
          rintro e wb ⟨rfl, hb⟩
          have HBb : Hid (Below w.heap.size w wb) := HBa.out.trans (hb.mono HBa.out.size)
          clear hb
          rw [decide_eq_true rfl]
          go_wp2_with fail
          refine (n_any 2 _).mono ?_
          rintro e wc ⟨rfl, hb⟩
          have HBc : Hid (Below w.heap.size w wc) := HBb.out.trans (hb.mono HBb.out.size)
          clear hb
          go_wp2_with fail
          refine (fails_plain 2 2 _ (HT.out.below HBc.out)).mono ?_
          rintro e wd ⟨rfl, hb⟩
          have HBd : Hid (Below w.heap.size w wd) := HBc.out.trans (hb.mono HBc.out.size)
          clear hb
          rw [decide_eq_true rfl]
          go_wp2_with fail
          go_meet
          exact ⟨rfl, HBd.out⟩
    case rest =>
    obtain ⟨rfl, HB12⟩ := hcut
    obtain ⟨w12, rfl⟩ : ∃ x, x = wc := ⟨_, rfl⟩
    clear hc10 hc11 HB11
    go_wp2_with fail
    refine (n_any 19 _).mono ?_
    rintro e w13 ⟨rfl, hb⟩
    have HB13 : Hid (Below w.heap.size w w13) := HB12.out.trans (hb.mono HB12.out.size)
    clear hb HB12
    go_upto_region 26 with fail
    obtain ⟨W, hW⟩ : ∃ W, W = w13.alloc (.cells #[.bool true, .slice none 0 0, .int .i64 19] 44) := ⟨_, rfl⟩
    have hKN : KN w w13.heap.size W := by
      have hh := heap_alloc_new w13 (.cells #[.bool true, .slice none 0 0, .int .i64 19] 44)
      rw [← hW] at hh
      exact ⟨by simp [World.cell?, hh], by simp [World.cell?, hh], by simp [World.cell?, hh], by rw [hW]; exact HB13.out.alloc HB13.out.size _, by rw [hW]; simp⟩
    rw [← hW]
    obtain ⟨b, hb⟩ : ∃ b, w13.heap.size = b := ⟨_, rfl⟩
    rw [hb] at hKN ⊢
    have HF : Hid (∀ W, KN w b W → Calls Tryz.prog 16 #[.iface 42 (.int .i64 19), .agg #[.bool true, .slice none 0 0, .int .i64 19]] W fun e w' => e = .returned (.bool true) ∧ KN w b w') := fun W h => by
      refine (fails_plain 19 19 W (HT.out.below h.2.2.2.out.1)).mono ?_
      rintro e w' ⟨rfl, h2⟩
      exact ⟨by rw [decide_eq_true rfl], h.step h2⟩
    have H1 : Hid (∀ W, KN w b W → Calls Tryz.prog 12 #[.pointer none, .slice none 0 0] W fun e w' => e = .returned (.iface 42 (.int .i64 19)) ∧ KN w b w') := fun W h => (app_nil none 0 0 W).mono fun e w' ⟨h1, h2⟩ => ⟨h1, h2 ▸ h⟩
    have H2 : Hid (∀ W, KN w b W → Calls Tryz.prog 13 #[.pointer none] W fun e w' => e = .returned (.iface 42 (.int .i64 19)) ∧ KN w b w') := fun W h => (wsync_nil W).mono fun e w' ⟨h1, h2⟩ => ⟨h1, h2 ▸ h⟩
    have H3 : Hid (∀ W, KN w b W → Calls Tryz.prog 10 #[.pointer none, .slice none 0 0] W fun e w' => e = .returned (.iface 42 (.int .i64 19)) ∧ KN w b w') := fun W h => (chk_nil none 0 0 W).mono fun e w' ⟨h1, h2⟩ => ⟨h1, h2 ▸ h⟩
    have H4 : Hid (∀ W, KN w b W → Calls Tryz.prog 18 #[.pointer none] W fun e w' => e = .returned (.int .i64 0) ∧ KN w b w') := fun W h => (len_nil W).mono fun e w' ⟨h1, h2⟩ => ⟨h1, h2 ▸ h⟩
    have H5 : Hid (∀ W, KN w b W → Calls Tryz.prog 19 #[.pointer none] W fun e w' => e = .returned (.int .i64 0) ∧ KN w b w') := fun W h => (safe_nil W).mono fun e w' ⟨h1, h2⟩ => ⟨h1, h2 ▸ h⟩
    have hKd : KN w b W.drew := hKN.step (Below.refl _ _).drew
    haveI : Nonempty (QW (KN w b)) := ⟨⟨W, hKN⟩⟩
    have q0 : ∀ x : QW (KN w b), x.val.cell? ⟨b, 0, none⟩ = some (.bool true) := fun x => x.ok.1
    have q1 : ∀ x : QW (KN w b), x.val.cell? ⟨b, 1, none⟩ = some (.slice none 0 0) := fun x => x.ok.2.1
    have q2 : ∀ x : QW (KN w b), x.val.cell? ⟨b, 2, none⟩ = some (.int .i64 19) := fun x => x.ok.2.2.1
    clear hW hb hKN
    refine region_in (KN w b) (by kernel_rfl) (by kernel_rfl) hKd ?_
    repeat (go_big_quiet_step ((first | (go_at_call 16; refine calls_in (HF.out _ (QW.ok _))) | (go_at_call 12; refine calls_in (H1.out _ (QW.ok _))) | (go_at_call 13; refine calls_in (H2.out _ (QW.ok _))) | (go_at_call 10; refine calls_in (H3.out _ (QW.ok _))) | (go_at_call 18; refine calls_in (H4.out _ (QW.ok _))) | (go_at_call 19; refine calls_in (H5.out _ (QW.ok _))))))
    refine wpQuiet_nil ?_
    intro W5 hK5
    go_wp2_with fail
    go_ret
    exact ⟨rfl, hK5.2.2.2.out.1⟩
end Go.Proofs.YthokoimoiamddaaGreatDoor
