/-
  tree: the law TreeWays, walked. Printed by gen_treeways.py. Own work.
-/
import Derived.Test.YtlkfcfcejicdkaaGreatDoorTreeLate
set_option linter.unusedSimpArgs false
set_option linter.unusedVariables false
namespace Go.Proofs.YtlkfcfcejicdkaaGreatDoor
open Go Go.RowKit

theorem nears_len (ls : List Lk) (n : Int) : (nears ls n).length ≤ 8 := List.length_filter_le _ _
theorem nearP_len (ms : List Int) (ls : List Lk) (a : Int) : (nearP ms ls a).2.length ≤ 9 := by
  unfold nearP
  cases membersE ms ls [a] with
  | some e => simp
  | none => have := nears_len ls a; simp only; omega
theorem sideP_len (ms : List Int) (ls : List Lk) (a b : Int) : (sideP ms ls a b).2.length ≤ 9 := by
  unfold sideP
  cases membersE ms ls [a, b] with
  | some e => simp
  | none =>
    simp only
    split
    · have : (sideS ls a b).length ≤ 8 := List.length_filter_le _ _
      simp only; omega
    · simp
theorem wayP_len (ms : List Int) (ls : List Lk) (a b : Int) : (wayP ms ls a b).2.length ≤ 9 := by
  unfold wayP
  cases hc : membersE ms ls [a, b] with
  | some e => simp
  | none =>
    have hg := members_good hc
    obtain ⟨p, hp1, hp2, _⟩ := ways_same hg.1.ms_.2 hg.1.tr (hg.2 a (by simp)) (hg.2 b (by simp)) (f := 9) (g := 9) (by omega) (by omega)
    have := pathF_len hp2
    simp only [hp1, Option.getD]
    exact this
/-- The program's error behind stores into the box of an error of the document's. -/
theorem ErrIs.set3 {w : World} {v : Value} {e : Er} {R : Nat} {x y z : Value} (h : ErrIs w v e) (hR : w.heap[R]? = some (.cells #[x, y, z] 43 (0, 0))) (a b c : Value) : ErrIs (((w.setCell ⟨R, 0, none⟩ a).setCell ⟨R, 1, none⟩ b).setCell ⟨R, 2, none⟩ c) v e :=
  ErrIs.keep h fun g t u hz ht => by
    have hg : g ≠ R := fun e => by
      subst e
      rw [hR] at hz
      injection hz with hz
      injection hz with _ hz _
      rw [← hz] at ht
      exact absurd ht (by decide)
    rw [Below.heap_setCell _ _ _ _ (by exact hg), Below.heap_setCell _ _ _ _ (by exact hg), Below.heap_setCell _ _ _ _ (by exact hg)]
theorem RowAt.set3_new {W : World} {A : Option Addr} {vs : List Value} {B b : Nat} (h : RowAt W A vs) (hn : NewA B A) (hb : b < B) (x y z : Value) : RowAt (((W.setCell ⟨b, 0, none⟩ x).setCell ⟨b, 1, none⟩ y).setCell ⟨b, 2, none⟩ z) A vs :=
  ((h.set_new hn hb x).set_new hn hb y).set_new hn hb z

set_option maxRecDepth 100000 in
set_option maxHeartbeats 8000000 in
theorem ways_any (Am : Option Addr) (n cm : Nat) (Al : Option Addr) (q cl : Nat) (ms : List Int) (ls : List Lk) (a b : Int) (w : World) (hG : GrAt w Am n Al q ms ls) (hE : ErrT w) :
    Calls Tryz.prog 4 #[grV Am n cm Al q cl, .int .i64 a, .int .i64 b] w fun e w' => e = .returned (.bool true) ∧ Below w.heap.size w w' := by
  obtain ⟨bg, hbg⟩ : ∃ b, b = w.heap.size := ⟨_, rfl⟩
  obtain ⟨w1, hw1⟩ : ∃ w1, w1 = w.alloc (.cells #[.slice Am n cm, .slice Al q cl] 25) := ⟨_, rfl⟩
  have HB : Hid (w1.heap[bg]? = some (.cells #[.slice Am n cm, .slice Al q cl] 25 (0, 0)) ∧ bg < w1.heap.size ∧ Bl w w1) := by
    rw [hw1, hbg]; exact ⟨heap_alloc_new _ _, by simp, (Bl.refl _).al _⟩
  have HE : Hid (∀ W, Bl w1 W → ErrT W) := fun W hW => hE.below (bchain HB.out.2.2 hW)
  have HG : Hid (∀ W, Bl w1 W → GrAt W Am n Al q ms ls) := fun W hW => hG.below (bchain HB.out.2.2 hW)
  have HC : Hid (∀ W, Bl w1 W → W.cell? ⟨bg, 0, none⟩ = some (.slice Am n cm) ∧ W.cell? ⟨bg, 1, none⟩ = some (.slice Al q cl)) := fun W hW => by
    obtain ⟨h1, h2, _⟩ := cell2 ((Below.block hW bg HB.out.2.1).trans HB.out.1)
    exact ⟨h1, h2⟩
  clear hG hE
  go_enter Tryz.func4, Tryz.ntmps4
  go_wp2_with fail
  rw [← hw1, ← hbg]
  clear hw1 hbg
  refine (awake_any w1 (HE.out w1 (Bl.refl _))).mono ?_
  rintro e w2 ⟨rfl, hb2⟩
  have HB2 : Hid (Bl w1 w2) := hb2
  clear hb2
  obtain ⟨c0, c1⟩ := HC.out w2 HB2.out
  by_cases hs : n ≤ 50 ∧ q ≤ 50
  case neg =>
    have HSM : Hid (Calls Tryz.prog 10 #[grV Am n cm Al q cl] w2 fun e w' => e = .returned (.bool false) ∧ Below w2.heap.size w2 w') := by
      have := small_any Am n cm Al q cl w2
      rw [show (decide (n ≤ 50) && decide (q ≤ 50)) = false by
        rw [Bool.and_eq_false_iff, decide_eq_false_iff_not, decide_eq_false_iff_not]; omega] at this
      exact this
    clear hs
    go_wp2_with fail
    refine HSM.out.mono ?_
    rintro e w3 ⟨rfl, hb3⟩
    go_wp2
    go_ret
    exact ⟨rfl, bchain HB.out.2.2 (bchain HB2.out hb3)⟩
  case pos =>
  have HSM : Hid (Calls Tryz.prog 10 #[grV Am n cm Al q cl] w2 fun e w' => e = .returned (.bool true) ∧ Below w2.heap.size w2 w') := by
    have := small_any Am n cm Al q cl w2
    rw [decide_eq_true hs.1, decide_eq_true hs.2] at this
    exact this
  have HN : Hid (n ≤ 1000 ∧ q ≤ 1000) := ⟨by omega, by omega⟩
  have HTW : Hid (∀ W, Bl w1 W → Calls Tryz.prog 12 #[grV Am n cm Al q cl] W fun e w' => ∃ (Am' : Option Addr) (cm' : Nat) (Al' : Option Addr) (cl' : Nat), e = .returned (grV Am' n cm' Al' q cl') ∧ Hid (GrAt w' Am' n Al' q ms ls ∧ Below W.heap.size W w' ∧ Bl w1 w')) := fun W hW => by
    refine (twin_any Am n cm Al q cl ms ls W (HG.out W hW) HN.out.1 HN.out.2).mono ?_
    rintro e w' ⟨Am', cm', Al', cl', rfl, h⟩
    exact ⟨Am', cm', Al', cl', rfl, h.out.1.at_, h.out.2, bchain hW h.out.2⟩
  clear hs
  go_wp2_with fail
  refine HSM.out.mono ?_
  rintro e w3 ⟨rfl, hb3⟩
  have HB3 : Hid (Bl w1 w3) := bchain HB2.out hb3
  clear hb3 HSM c0 c1 HB2
  obtain ⟨c0, c1⟩ := HC.out w3 HB3.out
  go_wp2_with fail
  refine (HTW.out w3 HB3.out).mono ?_
  rintro e wa4 ⟨Ama, cma, Ala, cla, rfl, Ha4⟩
  go_wp2_with fail
  refine (nearM_new Ama n cma Ala q cla ms ls a wa4 Ha4.out.1 HN.out.1 HN.out.2).mono ?_
  rintro e wa5 ⟨Aa5, da5, va5, rfl, Ha5⟩
  have HBa5 : Hid (Bl w1 wa5) := bchain Ha4.out.2.2 Ha5.out.2.2.1
  clear c0 c1
  obtain ⟨c0, c1⟩ := HC.out wa5 HBa5.out
  go_wp2_with fail
  refine (rNear_any Am n cm Al q cl ms ls a wa5 (HG.out wa5 HBa5.out) HN.out.1 HN.out.2).mono ?_
  rintro e wa6 ⟨Aa6, da6, bba, Aea, mea, cea, iea, rfl, Ha6⟩
  obtain ⟨la, hla⟩ : ∃ x, Hid ((nearP ms ls a).2 = x) := ⟨_, rfl⟩
  obtain ⟨era, hera⟩ : ∃ x, Hid ((nearP ms ls a).1 = x) := ⟨_, rfl⟩
  have HLa : Hid (la.length ≤ 9) := by rw [← hla.out]; exact nearP_len ms ls a
  rw [hla.out, hera.out] at Ha5 Ha6
  rw [hla.out]
  have HBa6 : Hid (Bl w1 wa6) := bchain HBa5.out Ha6.out.2.2.1
  clear c0 c1
  obtain ⟨c0, c1⟩ := HC.out wa6 HBa6.out
  go_wp2_with fail
  obtain ⟨b10, hb10⟩ : ∃ b, b = wa6.heap.size := ⟨_, rfl⟩
  obtain ⟨wa7, hwa7⟩ : ∃ x, x = wa6.alloc (.cells #[.bool bba, .slice Aea mea cea, .int .i64 iea] 43) := ⟨_, rfl⟩
  have Ha7 : Hid (KE w1 wa7 b10 (.bool bba) (.slice Aea mea cea) (.int .i64 iea) ∧ EIs wa7 (eVal bba Aea mea cea iea) era ∧ ErrIs wa7 va5 era ∧ RowAt wa7 Aa5 (intVs la) ∧ RowAt wa7 Aa6 (intVs la)) := by
    have hb : Bl wa6 wa7 := by rw [hwa7]; exact (Bl.refl _).al _
    refine ⟨by rw [hwa7]; exact KE.fresh HBa6.out hb10, Ha6.out.1.below hb, (Ha5.out.1.below Ha6.out.2.2.1).below hb, (Ha5.out.2.1.below Ha6.out.2.2.1).below hb, Ha6.out.2.1.below hb⟩
  rw [← hwa7, ← hb10]
  clear hwa7 hb10 Ha4 Ha5 Ha6 c0 c1 HBa5 HBa6 HB3
  obtain ⟨ma, hma⟩ : ∃ x, Hid (la.length = x) := ⟨_, rfl⟩
  rw [hma.out]
  refine (ints_same Aa5 Aa6 ma da5 da6 la wa7 hma.out Ha7.out.2.2.2.1 Ha7.out.2.2.2.2 (by have := HLa.out; rw [hma.out] at this; omega)).mono ?_
  rintro e wa8 ⟨rfl, hba8⟩
  have Ha8 : Hid (KE w1 wa8 b10 (.bool bba) (.slice Aea mea cea) (.int .i64 iea) ∧ EIs wa8 (eVal bba Aea mea cea iea) era ∧ ErrIs wa8 va5 era) := ⟨Ha7.out.1.step hba8, Ha7.out.2.1.below hba8, Ha7.out.2.2.1.below hba8⟩
  clear hba8 Ha7
  obtain ⟨k0, k1, k2, kf, kl⟩ := cell3 Ha8.out.1.e8
  go_wp2_with fail
  refine (fails_any wa8 (HE.out wa8 Ha8.out.1.old) Ha8.out.2.2 Ha8.out.2.1.of).mono ?_
  rintro e wa9 ⟨rfl, hba9⟩
  have HKE : Hid (KE w1 wa9 b10 (.bool bba) (.slice Aea mea cea) (.int .i64 iea)) := Ha8.out.1.step hba9
  have HBa9 : Hid (Bl w1 wa9) := HKE.out.old
  clear hba9 Ha8 k0 k1 k2 kf kl
  obtain ⟨c0, c1⟩ := HC.out wa9 HBa9.out
  go_wp2_with fail
  refine (HTW.out wa9 HBa9.out).mono ?_
  rintro e wb4 ⟨Amb, cmb, Alb, clb, rfl, Hb4⟩
  go_wp2_with fail
  refine (pathM_new Amb n cmb Alb q clb ms ls a b wb4 Hb4.out.1 HN.out.1 HN.out.2).mono ?_
  rintro e wb5 ⟨Ab5, db5, vb5, rfl, Hb5⟩
  have HBb5 : Hid (Bl w1 wb5) := bchain Hb4.out.2.2 Hb5.out.2.2.1
  clear c0 c1
  obtain ⟨c0, c1⟩ := HC.out wb5 HBb5.out
  go_wp2_with fail
  refine (rPath_any Am n cm Al q cl ms ls a b wb5 (HG.out wb5 HBb5.out) HN.out.1 HN.out.2).mono ?_
  rintro e wb6 ⟨Ab6, db6, bbb, Aeb, meb, ceb, ieb, rfl, Hb6⟩
  obtain ⟨lb, hlb⟩ : ∃ x, Hid ((wayP ms ls a b).2 = x) := ⟨_, rfl⟩
  obtain ⟨erb, herb⟩ : ∃ x, Hid ((wayP ms ls a b).1 = x) := ⟨_, rfl⟩
  have HLb : Hid (lb.length ≤ 9) := by rw [← hlb.out]; exact wayP_len ms ls a b
  rw [hlb.out, herb.out] at Hb5 Hb6
  rw [hlb.out]
  have HBb6 : Hid (Bl w1 wb6) := bchain HBb5.out Hb6.out.2.2.1
  have HKb6 : Hid (KE w1 wb6 b10 (.bool bba) (.slice Aea mea cea) (.int .i64 iea)) := HKE.out.step (bchain Hb4.out.2.1 (bchain Hb5.out.2.2.1 Hb6.out.2.2.1))
  obtain ⟨k0, k1, k2, kf, kl⟩ := cell3 HKb6.out.e8
  have HBX : Hid (b10 < wb4.heap.size) := by
    have h1 := (Array.getElem?_eq_some_iff.1 HKE.out.e8).1
    have h2 := Hb4.out.2.1.size
    simp only [Hid]; omega
  clear c0 c1
  obtain ⟨c0, c1⟩ := HC.out wb6 HBb6.out
  go_wp2_with fail
  obtain ⟨wb7, hwb7⟩ : ∃ x, x = ((wb6.setCell ⟨b10, 0, none⟩ (.bool bbb)).setCell ⟨b10, 1, none⟩ (.slice Aeb meb ceb)).setCell ⟨b10, 2, none⟩ (.int .i64 ieb) := ⟨_, rfl⟩
  have Hb7 : Hid (KE w1 wb7 b10 (.bool bbb) (.slice Aeb meb ceb) (.int .i64 ieb) ∧ EIs wb7 (eVal bbb Aeb meb ceb ieb) erb ∧ ErrIs wb7 vb5 erb ∧ RowAt wb7 Ab5 (intVs lb) ∧ RowAt wb7 Ab6 (intVs lb)) := by
    rw [hwb7]
    refine ⟨HKb6.out.set _ _ _, (Hb6.out.1.fin HKb6.out.e8 HKb6.out.n HKb6.out.old).out.1, (Hb5.out.1.below Hb6.out.2.2.1).set3 HKb6.out.e8 _ _ _, (Hb5.out.2.1.below Hb6.out.2.2.1).set3_new Hb5.out.2.2.2 HBX.out _ _ _, Hb6.out.2.1.set3_new Hb6.out.2.2.2 (Nat.lt_of_lt_of_le HBX.out Hb5.out.2.2.1.size) _ _ _⟩
  rw [← hwb7]
  clear hwb7 Hb4 Hb5 Hb6 c0 c1 HBb5 HBb6 HBa9 HKE k0 k1 k2 kf kl HKb6 HBX
  obtain ⟨mb, hmb⟩ : ∃ x, Hid (lb.length = x) := ⟨_, rfl⟩
  rw [hmb.out]
  refine (ints_same Ab5 Ab6 mb db5 db6 lb wb7 hmb.out Hb7.out.2.2.2.1 Hb7.out.2.2.2.2 (by have := HLb.out; rw [hmb.out] at this; omega)).mono ?_
  rintro e wb8 ⟨rfl, hbb8⟩
  have Hb8 : Hid (KE w1 wb8 b10 (.bool bbb) (.slice Aeb meb ceb) (.int .i64 ieb) ∧ EIs wb8 (eVal bbb Aeb meb ceb ieb) erb ∧ ErrIs wb8 vb5 erb) := ⟨Hb7.out.1.step hbb8, Hb7.out.2.1.below hbb8, Hb7.out.2.2.1.below hbb8⟩
  clear hbb8 Hb7
  obtain ⟨k0, k1, k2, kf, kl⟩ := cell3 Hb8.out.1.e8
  go_wp2_with fail
  refine (fails_any wb8 (HE.out wb8 Hb8.out.1.old) Hb8.out.2.2 Hb8.out.2.1.of).mono ?_
  rintro e wb9 ⟨rfl, hbb9⟩
  have HKE : Hid (KE w1 wb9 b10 (.bool bbb) (.slice Aeb meb ceb) (.int .i64 ieb)) := Hb8.out.1.step hbb9
  have HBb9 : Hid (Bl w1 wb9) := HKE.out.old
  clear hbb9 Hb8 k0 k1 k2 kf kl
  obtain ⟨c0, c1⟩ := HC.out wb9 HBb9.out
  go_wp2_with fail
  refine (HTW.out wb9 HBb9.out).mono ?_
  rintro e wc4 ⟨Amc, cmc, Alc, clc, rfl, Hc4⟩
  go_wp2_with fail
  refine (sideM_new Amc n cmc Alc q clc ms ls a b wc4 Hc4.out.1 HN.out.1 HN.out.2).mono ?_
  rintro e wc5 ⟨Ac5, dc5, vc5, rfl, Hc5⟩
  have HBc5 : Hid (Bl w1 wc5) := bchain Hc4.out.2.2 Hc5.out.2.2.1
  clear c0 c1
  obtain ⟨c0, c1⟩ := HC.out wc5 HBc5.out
  go_wp2_with fail
  refine (rSide_any Am n cm Al q cl ms ls a b wc5 (HG.out wc5 HBc5.out) HN.out.1 HN.out.2).mono ?_
  rintro e wc6 ⟨Ac6, dc6, bbc, Aec, mec, cec, iec, rfl, Hc6⟩
  obtain ⟨lc, hlc⟩ : ∃ x, Hid ((sideP ms ls a b).2 = x) := ⟨_, rfl⟩
  obtain ⟨erc, herc⟩ : ∃ x, Hid ((sideP ms ls a b).1 = x) := ⟨_, rfl⟩
  have HLc : Hid (lc.length ≤ 9) := by rw [← hlc.out]; exact sideP_len ms ls a b
  rw [hlc.out, herc.out] at Hc5 Hc6
  rw [hlc.out]
  have HBc6 : Hid (Bl w1 wc6) := bchain HBc5.out Hc6.out.2.2.1
  have HKc6 : Hid (KE w1 wc6 b10 (.bool bbb) (.slice Aeb meb ceb) (.int .i64 ieb)) := HKE.out.step (bchain Hc4.out.2.1 (bchain Hc5.out.2.2.1 Hc6.out.2.2.1))
  obtain ⟨k0, k1, k2, kf, kl⟩ := cell3 HKc6.out.e8
  have HBX : Hid (b10 < wc4.heap.size) := by
    have h1 := (Array.getElem?_eq_some_iff.1 HKE.out.e8).1
    have h2 := Hc4.out.2.1.size
    simp only [Hid]; omega
  clear c0 c1
  obtain ⟨c0, c1⟩ := HC.out wc6 HBc6.out
  go_wp2_with fail
  obtain ⟨wc7, hwc7⟩ : ∃ x, x = ((wc6.setCell ⟨b10, 0, none⟩ (.bool bbc)).setCell ⟨b10, 1, none⟩ (.slice Aec mec cec)).setCell ⟨b10, 2, none⟩ (.int .i64 iec) := ⟨_, rfl⟩
  have Hc7 : Hid (KE w1 wc7 b10 (.bool bbc) (.slice Aec mec cec) (.int .i64 iec) ∧ EIs wc7 (eVal bbc Aec mec cec iec) erc ∧ ErrIs wc7 vc5 erc ∧ RowAt wc7 Ac5 (intVs lc) ∧ RowAt wc7 Ac6 (intVs lc)) := by
    rw [hwc7]
    refine ⟨HKc6.out.set _ _ _, (Hc6.out.1.fin HKc6.out.e8 HKc6.out.n HKc6.out.old).out.1, (Hc5.out.1.below Hc6.out.2.2.1).set3 HKc6.out.e8 _ _ _, (Hc5.out.2.1.below Hc6.out.2.2.1).set3_new Hc5.out.2.2.2 HBX.out _ _ _, Hc6.out.2.1.set3_new Hc6.out.2.2.2 (Nat.lt_of_lt_of_le HBX.out Hc5.out.2.2.1.size) _ _ _⟩
  rw [← hwc7]
  clear hwc7 Hc4 Hc5 Hc6 c0 c1 HBc5 HBc6 HBb9 HKE k0 k1 k2 kf kl HKc6 HBX
  obtain ⟨mc, hmc⟩ : ∃ x, Hid (lc.length = x) := ⟨_, rfl⟩
  rw [hmc.out]
  refine (ints_same Ac5 Ac6 mc dc5 dc6 lc wc7 hmc.out Hc7.out.2.2.2.1 Hc7.out.2.2.2.2 (by have := HLc.out; rw [hmc.out] at this; omega)).mono ?_
  rintro e wc8 ⟨rfl, hbc8⟩
  have Hc8 : Hid (KE w1 wc8 b10 (.bool bbc) (.slice Aec mec cec) (.int .i64 iec) ∧ EIs wc8 (eVal bbc Aec mec cec iec) erc ∧ ErrIs wc8 vc5 erc) := ⟨Hc7.out.1.step hbc8, Hc7.out.2.1.below hbc8, Hc7.out.2.2.1.below hbc8⟩
  clear hbc8 Hc7
  obtain ⟨k0, k1, k2, kf, kl⟩ := cell3 Hc8.out.1.e8
  go_wp2_with fail
  refine (fails_any wc8 (HE.out wc8 Hc8.out.1.old) Hc8.out.2.2 Hc8.out.2.1.of).mono ?_
  rintro e wc9 ⟨rfl, hbc9⟩
  have HKE : Hid (KE w1 wc9 b10 (.bool bbc) (.slice Aec mec cec) (.int .i64 iec)) := Hc8.out.1.step hbc9
  have HBc9 : Hid (Bl w1 wc9) := HKE.out.old
  clear hbc9 Hc8 k0 k1 k2 kf kl
  obtain ⟨c0, c1⟩ := HC.out wc9 HBc9.out
  go_wp2
  go_ret
  exact ⟨rfl, bchain HB.out.2.2 HBc9.out⟩
end Go.Proofs.YtlkfcfcejicdkaaGreatDoor
