/-
  tree: the document's Check, walked. Printed by gen_treerck.py out of XTreeCheck. Own work.
-/
import Derived.Test.YtlkfcfcejicdkaaGreatDoorTreeReach
import Derived.Deep.RegionHeld3
set_option linter.unusedSimpArgs false
set_option linter.unusedVariables false
namespace Go.Proofs.YtlkfcfcejicdkaaGreatDoor
open Go Go.RowKit

section
variable (Am : Option Addr) (n cm : Nat) (Al : Option Addr) (q cl : Nat) (ms : List Int) (ls : List Lk)
set_option maxRecDepth 100000 in
set_option maxHeartbeats 16000000 in
theorem rcheck_any (w : World) (hG : GrAt w Am n Al q ms ls) (hn : n ≤ 4611686018427387904) (hq : q ≤ 4611686018427387904) :
    Calls Tryz.prog 27 #[grV Am n cm Al q cl] w fun e w' => ∃ v, e = .returned v ∧ Hid (EIs w' v (chk ms ls) ∧ Below w.heap.size w w') := by
  have HG := Lib.hid hG
  have HN : Hid (n ≤ 4611686018427387904 ∧ q ≤ 4611686018427387904) := ⟨hn, hq⟩
  have HHAS : Hid (∀ x W, Below w.heap.size w W → Calls Tryz.prog 16 #[.slice Am n cm, .int .i64 x] W fun e w' => e = .returned (.bool (decide (x ∈ ms))) ∧ Below W.heap.size W w') := fun x W hW => (rhas_any Am n cm ms x W hG.mlen (hG.mrow.below hW) (by omega)).mono fun e w' h => ⟨h.1, h.2 ▸ Below.refl _ _⟩
  clear hG hn hq
  obtain ⟨b, hb⟩ : ∃ b, b = w.heap.size := ⟨_, rfl⟩
  obtain ⟨R, hR⟩ : ∃ R, R = w.heap.size + 1 := ⟨_, rfl⟩
  obtain ⟨w1, hw1⟩ : ∃ w1, w1 = (w.alloc (.cells #[.slice Am n cm, .slice Al q cl] 25)).alloc (.cells #[.bool false, .slice none 0 0, .int .i64 0] 43) := ⟨_, rfl⟩
  have HB : Hid (w1.heap[b]? = some (.cells #[.slice Am n cm, .slice Al q cl] 25 (0, 0)) ∧ Below w.heap.size w w1) := by
    rw [hw1, hb]; exact ⟨(Below.heap_alloc _ _ _ (by simp)).trans (heap_alloc_new _ _), ((Below.refl _ _).alloc (Nat.le_refl _) _).alloc (by simp) _⟩
  have HRB : Hid (w1.heap[R]? = some (.cells #[.bool false, .slice none 0 0, .int .i64 0] 43 (0, 0)) ∧ w.heap.size ≤ R ∧ R < w1.heap.size) := by
    rw [hw1, hR]
    refine ⟨?_, by omega, by simp⟩
    have := heap_alloc_new (w.alloc (.cells #[.slice Am n cm, .slice Al q cl] 25)) (.cells #[.bool false, .slice none 0 0, .int .i64 0] 43)
    simpa using this
  obtain ⟨d0, d1, df, dl⟩ := cell2 HB.out.1
  by_cases h8 : 8 < n
  · have hd : decide ((n : Int) > 8) = true := by rw [decide_eq_true_iff]; omega
    have HE : Hid (chk ms ls = plainE 2) := by unfold chk; rw [if_pos (by rw [HG.out.mlen]; exact h8)]; rfl
    clear h8
    have HRX : Hid (∀ W, Below w1.heap.size w1 W → W.heap[R]? = some (.cells #[.bool false, .slice none 0 0, .int .i64 0] 43 (0, 0)) ∧ Below w.heap.size w W) := fun W hW => ⟨(hW.block R HRB.out.2.2).trans HRB.out.1, HB.out.2.trans (hW.mono HB.out.2.size)⟩
    have HE2 : Hid (∀ W, EIs W (.agg #[.bool true, .slice none 0 0, .int .i64 2]) (chk ms ls)) := fun W => by rw [HE.out]; rfl
    go_enter Tryz.func27, Tryz.ntmps27
    rw [hw1, hb] at d0 d1 df dl
    go_wp2_with fail
    rw [← hw1, ← hR, ← hb]
    clear hw1 hb hR d0 d1 df dl
    refine (rn_any 2 w1).mono ?_
    rintro e w5 ⟨rfl, hb5⟩
    have HR5 := HRX.out w5 hb5
    obtain ⟨r0, r1, r2, rf, rl⟩ := cell3 HR5.1
    go_wp2
    refine bodyPost_ret (v := .agg #[.bool true, .slice none 0 0, .int .i64 2]) ?_ rfl ?_
    · simp [results, Tryz.results27, go_sem, r0, r1, r2, rf]
    · exact ⟨_, rfl, (HE2.out w5).fin HR5.1 HRB.out.2.1 HR5.2⟩
  · have hd : decide ((n : Int) > 8) = false := by rw [decide_eq_false_iff_not]; omega
    have HN8 : Hid (n ≤ 8) := by simp only [Hid]; omega
    clear h8
    rw [hw1, hb] at d0 d1 df dl
    go_enter Tryz.func27, Tryz.ntmps27
    go_wp2_with fail
    rw [← hw1, ← hR, ← hb]
    rw [← hw1, ← hb] at d0 d1 df dl
    clear hw1 hb hR
    go_loopw [15] (fun i wr => ∃ (j : Nat), j ≤ n ∧ i = .int .i64 j ∧ w1 = wr ∧ Hid (∀ i, i < j → memOk ms i = true)) (fun i _ => n - (intOf i).toNat)
    case atStart => exact ⟨0, Nat.zero_le _, rfl, rfl, Lib.hid fun i hi => by omega⟩
    case round =>
      obtain ⟨j, hj, rfl, rfl, HS⟩ := hrel
      by_cases hlt : j < n
      · obtain ⟨x, hx⟩ : ∃ x, Hid (ms[j]? = some x) := ⟨_, List.getElem?_eq_getElem (by have := HG.out.mlen; omega)⟩
        obtain ⟨g, off, rfl, x0, hg⟩ := (HG.out.mrow.below HB.out.2).int hx.out
        have hw1 : IntKind.i64.wrap ((j : Int) + 1) = ((j + 1 : Nat) : Int) := by have := HN8.out; rw [IntKind.wrap_i64]; omega
        have hj0 : ((0 : Int) ≤ j) := by omega
        have hj1 : ((j : Nat) : Int) < n := by omega
        have HM := Lib.hid (memOk_iff hx.out)
        have HBAD : Hid (memOk ms j = false → chk ms ls = itemE j 12) := fun h => by
          unfold chk
          rw [if_neg (by rw [HG.out.mlen]; have := HN8.out; omega), firstBad_some HS.out (by rw [HG.out.mlen]; exact hlt) h]
        have HOK : Hid (memOk ms j = true → ∀ i, i < j + 1 → memOk ms i = true) := fun h i hi => by
          rcases Nat.lt_or_ge i j with h1 | h1
          · exact HS.out i h1
          · have e : i = j := by omega
            rw [e]; exact h
        by_cases c1 : x < 0
        · have e1 : decide (x < 0) = true := decide_eq_true c1
          have HE : Hid (chk ms ls = itemE j 12) := HBAD.out (by rw [HM.out]; exact decide_eq_false (by omega))
          clear c1
          have HRX : Hid (∀ W, Below w1.heap.size w1 W → W.heap[R]? = some (.cells #[.bool false, .slice none 0 0, .int .i64 0] 43 (0, 0)) ∧ Below w.heap.size w W) := fun W hW => ⟨(hW.block R (Nat.lt_of_lt_of_le HRB.out.2.2 (Below.refl w1.heap.size w1).size)).trans (((Below.refl w1.heap.size w1).block R HRB.out.2.2).trans HRB.out.1), (HB.out.2.trans ((Below.refl w1.heap.size w1).mono HB.out.2.size)).trans (hW.mono (HB.out.2.trans ((Below.refl w1.heap.size w1).mono HB.out.2.size)).size)⟩
          go_wp2_with (first
            | (go_at_call 57; refine (rat_any 2 j 12 _).mono ?_; rintro e w6 ⟨g6, rfl, H6⟩; have HR6 := HRX.out w6 (hb5.trans (H6.out.2.mono hb5.size)); obtain ⟨r0, r1, r2, rf, rl⟩ := cell3 HR6.1)
            | (go_at_call 34; refine (rn_any 12 _).mono ?_; rintro e w5 ⟨rfl, hb5⟩))
          refine bodyPost_ret (v := .agg #[.bool true, .slice (some ⟨g6, 0, none⟩) 1 1, .int .i64 12]) ?_ rfl ?_
          · simp [results, Tryz.results27, go_sem, r0, r1, r2, rf]
          · refine ⟨_, rfl, ?_⟩
            rw [HE.out]
            exact H6.out.1.fin HR6.1 HRB.out.2.1 HR6.2
        by_cases c2 : 8 ≤ x
        · have e1 : decide (x < 0) = false := decide_eq_false c1
          have e2 : decide (x ≥ 8) = true := decide_eq_true c2
          have HE : Hid (chk ms ls = itemE j 12) := HBAD.out (by rw [HM.out]; exact decide_eq_false (by omega))
          clear c1 c2
          have HRX : Hid (∀ W, Below w1.heap.size w1 W → W.heap[R]? = some (.cells #[.bool false, .slice none 0 0, .int .i64 0] 43 (0, 0)) ∧ Below w.heap.size w W) := fun W hW => ⟨(hW.block R (Nat.lt_of_lt_of_le HRB.out.2.2 (Below.refl w1.heap.size w1).size)).trans (((Below.refl w1.heap.size w1).block R HRB.out.2.2).trans HRB.out.1), (HB.out.2.trans ((Below.refl w1.heap.size w1).mono HB.out.2.size)).trans (hW.mono (HB.out.2.trans ((Below.refl w1.heap.size w1).mono HB.out.2.size)).size)⟩
          go_wp2_with (first
            | (go_at_call 57; refine (rat_any 2 j 12 _).mono ?_; rintro e w6 ⟨g6, rfl, H6⟩; have HR6 := HRX.out w6 (hb5.trans (H6.out.2.mono hb5.size)); obtain ⟨r0, r1, r2, rf, rl⟩ := cell3 HR6.1)
            | (go_at_call 34; refine (rn_any 12 _).mono ?_; rintro e w5 ⟨rfl, hb5⟩))
          refine bodyPost_ret (v := .agg #[.bool true, .slice (some ⟨g6, 0, none⟩) 1 1, .int .i64 12]) ?_ rfl ?_
          · simp [results, Tryz.results27, go_sem, r0, r1, r2, rf]
          · refine ⟨_, rfl, ?_⟩
            rw [HE.out]
            exact H6.out.1.fin HR6.1 HRB.out.2.1 HR6.2
        have e1 : decide (x < 0) = false := decide_eq_false c1
        have e2 : decide (x ≥ 8) = false := decide_eq_false c2
        by_cases c3 : j = 0
        · have e3 : ¬ (0 < j) := by omega
          have HE := HOK.out (by rw [HM.out]; exact decide_eq_true ⟨by omega, by omega, .inl c3⟩)
          have HE2 := Lib.hid HE
          clear HE c1 c2 c3 HM HBAD HOK
          go_wp2
          exact ⟨⟨j + 1, hlt, by go_num, by first | rfl | trivial, HE2.out⟩, by simp [intOf]; omega⟩
        obtain ⟨p, hjp⟩ : ∃ p, Hid (j = p + 1) := ⟨j - 1, by simp only [Hid]; omega⟩
        obtain ⟨y, hy⟩ : ∃ y, Hid (ms[p]? = some y) := ⟨_, List.getElem?_eq_getElem (by have := HG.out.mlen; have := hjp.out; omega)⟩
        have y0 : w1.cell? ⟨g, off + p, none⟩ = some (.int .i64 y) := by
          obtain ⟨g', off', he, h0, _⟩ := (HG.out.mrow.below HB.out.2).int hy.out
          cases he
          exact h0
        have hgd : ms.getD (j - 1) 0 = y := by
          rw [show j - 1 = p by have := hjp.out; omega, List.getD_eq_getElem?_getD, hy.out]; rfl
        have e3 : 0 < j := by omega
        have hpI : (j : Int) - 1 = (p : Int) := by have := hjp.out; omega
        have hw3 : wrap64 ((j : Int) - 1) = (p : Int) := by rw [hpI]; have := HN8.out; unfold wrap64; omega
        have hp0 : ((0 : Int) ≤ p) := by omega
        have hp1 : ((p : Nat) : Int) < n := by omega
        clear hpI
        rw [hgd] at HM
        by_cases c4 : y ≥ x
        · have e4 : decide (y ≥ x) = true := decide_eq_true c4
          have HE : Hid (chk ms ls = itemE j 12) := HBAD.out (by rw [HM.out]; exact decide_eq_false (by omega))
          clear c1 c2 c3 c4 HM HBAD HOK
          have HRX : Hid (∀ W, Below w1.heap.size w1 W → W.heap[R]? = some (.cells #[.bool false, .slice none 0 0, .int .i64 0] 43 (0, 0)) ∧ Below w.heap.size w W) := fun W hW => ⟨(hW.block R (Nat.lt_of_lt_of_le HRB.out.2.2 (Below.refl w1.heap.size w1).size)).trans (((Below.refl w1.heap.size w1).block R HRB.out.2.2).trans HRB.out.1), (HB.out.2.trans ((Below.refl w1.heap.size w1).mono HB.out.2.size)).trans (hW.mono (HB.out.2.trans ((Below.refl w1.heap.size w1).mono HB.out.2.size)).size)⟩
          go_wp2_with (first
            | (go_at_call 57; refine (rat_any 2 j 12 _).mono ?_; rintro e w6 ⟨g6, rfl, H6⟩; have HR6 := HRX.out w6 (hb5.trans (H6.out.2.mono hb5.size)); obtain ⟨r0, r1, r2, rf, rl⟩ := cell3 HR6.1)
            | (go_at_call 34; refine (rn_any 12 _).mono ?_; rintro e w5 ⟨rfl, hb5⟩))
          refine bodyPost_ret (v := .agg #[.bool true, .slice (some ⟨g6, 0, none⟩) 1 1, .int .i64 12]) ?_ rfl ?_
          · simp [results, Tryz.results27, go_sem, r0, r1, r2, rf]
          · refine ⟨_, rfl, ?_⟩
            rw [HE.out]
            exact H6.out.1.fin HR6.1 HRB.out.2.1 HR6.2
        · have e4 : decide (y ≥ x) = false := decide_eq_false c4
          have HE := HOK.out (by rw [HM.out]; exact decide_eq_true ⟨by omega, by omega, .inr (by omega)⟩)
          have HE2 := Lib.hid HE
          clear HE c1 c2 c3 c4 HM HBAD HOK
          go_wp2
          exact ⟨⟨j + 1, hlt, by go_num, by first | rfl | trivial, HE2.out⟩, by simp [intOf]; omega⟩
      · have hjn : j = n := by omega
        subst hjn
        have HMS : Hid (firstBad (memOk ms) ms.length = none) := firstBad_none fun i hi => HS.out i (by have := HG.out.mlen; omega)
        clear hlt hj HS
        go_wp2
        go_loopw [47] (fun i wr => ∃ (j2 : Nat), j2 ≤ q ∧ i = .int .i64 j2 ∧ Hid ((∀ i, i < j2 → lkOk ms ls i = true) ∧ wr.heap[b]? = some (.cells #[.slice Am j cm, .slice Al q cl] 25 (0, 0)) ∧ Below w.heap.size w wr ∧ Below w1.heap.size w1 wr)) (fun i _ => q - (intOf i).toNat)
        case atStart => exact ⟨0, Nat.zero_le _, rfl, fun i hi => by omega, HB.out.1, HB.out.2, Below.refl _ _⟩
        case round =>
          obtain ⟨j2, hj2, rfl, HL⟩ := hrel
          clear d0 d1 df dl
          obtain ⟨d0, d1, df, dl⟩ := cell2 HL.out.2.1
          by_cases hlt : j2 < q
          · obtain ⟨k, hk⟩ : ∃ k, Hid (ls[j2]? = some k) := ⟨_, List.getElem?_eq_getElem (by have := HG.out.llen; omega)⟩
            obtain ⟨g, off, rfl, x0, x1, hg⟩ := (HG.out.lrow.below HL.out.2.2.1).lk hk.out
            obtain ⟨k1, hk1⟩ : ∃ k1, Hid (k.1 = k1) := ⟨_, rfl⟩
            obtain ⟨k2, hk2⟩ : ∃ k2, Hid (k.2 = k2) := ⟨_, rfl⟩
            rw [hk1.out] at x0
            rw [hk2.out] at x1
            have hw1 : IntKind.i64.wrap ((j2 : Int) + 1) = ((j2 + 1 : Nat) : Int) := by have := HN.out; rw [IntKind.wrap_i64]; omega
            have hj0 : ((0 : Int) ≤ j2) := by omega
            have hj1 : ((j2 : Nat) : Int) < q := by omega
            have HM := Lib.hid (lkOk_iff (ms := ms) hk.out)
            rw [hk1.out, hk2.out] at HM
            have HBAD : Hid (lkOk ms ls j2 = false → chk ms ls = itemE j2 13) := fun h => by
              unfold chk
              rw [if_neg (by rw [HG.out.mlen]; have := HN8.out; omega), HMS.out]
              simp only
              rw [firstBad_some HL.out.1 (by rw [HG.out.llen]; exact hlt) h]
            have HOK : Hid (lkOk ms ls j2 = true → ∀ i, i < j2 + 1 → lkOk ms ls i = true) := fun h i hi => by
              rcases Nat.lt_or_ge i j2 with h1 | h1
              · exact HL.out.1 i h1
              · have e : i = j2 := by omega
                rw [e]; exact h
            obtain ⟨K, hK⟩ : ∃ K, K = wr.heap.size := ⟨_, rfl⟩
            obtain ⟨W1, hW1⟩ : ∃ W1, W1 = wr.alloc (.cells #[.int .i64 k1, .int .i64 k2] 35) := ⟨_, rfl⟩
            have HB1 : Hid (W1.heap[b]? = some (.cells #[.slice Am j cm, .slice (some ⟨g, off, none⟩) q cl] 25 (0, 0)) ∧ Below w.heap.size w W1 ∧ W1.heap[K]? = some (.cells #[.int .i64 k1, .int .i64 k2] 35 (0, 0))) := by
              rw [hW1, hK]; exact ⟨(Below.heap_alloc _ _ _ dl).trans HL.out.2.1, HL.out.2.2.1.alloc HL.out.2.2.1.size _, heap_alloc_new _ _⟩
            have HW1B : Hid (Below w1.heap.size w1 W1) := by rw [hW1]; exact HL.out.2.2.2.alloc HL.out.2.2.2.size _
            have hKC : KC W1 b K (.slice Am j cm) (.slice (some ⟨g, off, none⟩) q cl) k1 k2 W1 := ⟨(cell2 HB1.out.1).1, (cell2 HB1.out.1).2.1, (cell2 HB1.out.2.2).1, (cell2 HB1.out.2.2).2.1, Lib.hid (Below.refl _ _)⟩
            have HH1 : Hid (∀ x W, KC W1 b K (.slice Am j cm) (.slice (some ⟨g, off, none⟩) q cl) k1 k2 W → Calls Tryz.prog 16 #[.slice Am j cm, .int .i64 x] W fun e w' => e = .returned (.bool (decide (x ∈ ms))) ∧ KC W1 b K (.slice Am j cm) (.slice (some ⟨g, off, none⟩) q cl) k1 k2 w') := fun x W hW => by
              refine (HHAS.out x W (HB1.out.2.1.trans (hW.2.2.2.2.out.mono HB1.out.2.1.size))).mono ?_
              rintro e w' ⟨rfl, hb⟩
              exact ⟨rfl, hW.step hb⟩
            have hKd : KC W1 b K (.slice Am j cm) (.slice (some ⟨g, off, none⟩) q cl) k1 k2 W1.drew := hKC.step (Below.refl _ _).drew
            by_cases c1 : k1 ≥ k2
            · have e1 : decide (k1 ≥ k2) = true := decide_eq_true c1
              have HE : Hid (chk ms ls = itemE j2 13) := HBAD.out (by rw [HM.out]; exact decide_eq_false (by omega))
              clear c1 HM HBAD HOK
              haveI : Nonempty (QW (KC W1 b K (.slice Am j cm) (.slice (some ⟨g, off, none⟩) q cl) k1 k2)) := ⟨⟨W1, hKC⟩⟩
              have q0 : ∀ x : QW (KC W1 b K (.slice Am j cm) (.slice (some ⟨g, off, none⟩) q cl) k1 k2), x.val.cell? ⟨b, 0, none⟩ = some (.slice Am j cm) := fun x => x.ok.1
              have q1 : ∀ x : QW (KC W1 b K (.slice Am j cm) (.slice (some ⟨g, off, none⟩) q cl) k1 k2), x.val.cell? ⟨b, 1, none⟩ = some (.slice (some ⟨g, off, none⟩) q cl) := fun x => x.ok.2.1
              have q2 : ∀ x : QW (KC W1 b K (.slice Am j cm) (.slice (some ⟨g, off, none⟩) q cl) k1 k2), x.val.cell? ⟨K, 0, none⟩ = some (.int .i64 k1) := fun x => x.ok.2.2.1
              have q3 : ∀ x : QW (KC W1 b K (.slice Am j cm) (.slice (some ⟨g, off, none⟩) q cl) k1 k2), x.val.cell? ⟨K, 1, none⟩ = some (.int .i64 k2) := fun x => x.ok.2.2.2.1
              go_wp2
              rw [← hW1, ← hK]
              clear hW1 hK
              refine region_in (KC W1 b K (.slice Am j cm) (.slice (some ⟨g, off, none⟩) q cl) k1 k2) (by kernel_rfl) (by kernel_rfl) hKd ?_
              repeat (go_big_quiet_step (fail))
              refine wpQuiet_nil ?_
              intro W5 hK5
              have HRX : Hid (∀ W, Below W5.heap.size W5 W → W.heap[R]? = some (.cells #[.bool false, .slice none 0 0, .int .i64 0] 43 (0, 0)) ∧ Below w.heap.size w W) := fun W hW => ⟨(hW.block R (Nat.lt_of_lt_of_le HRB.out.2.2 (HW1B.out.trans (hK5.2.2.2.2.out.mono HW1B.out.size)).size)).trans (((HW1B.out.trans (hK5.2.2.2.2.out.mono HW1B.out.size)).block R HRB.out.2.2).trans HRB.out.1), (HB.out.2.trans ((HW1B.out.trans (hK5.2.2.2.2.out.mono HW1B.out.size)).mono HB.out.2.size)).trans (hW.mono (HB.out.2.trans ((HW1B.out.trans (hK5.2.2.2.2.out.mono HW1B.out.size)).mono HB.out.2.size)).size)⟩
              go_wp2_with (first
                | (go_at_call 57; refine (rat_any 2 j2 13 _).mono ?_; rintro e w6 ⟨g6, rfl, H6⟩; have HR6 := HRX.out w6 (hb5.trans (H6.out.2.mono hb5.size)); obtain ⟨r0, r1, r2, rf, rl⟩ := cell3 HR6.1)
                | (go_at_call 34; refine (rn_any 13 _).mono ?_; rintro e w5 ⟨rfl, hb5⟩))
              refine bodyPost_ret (v := .agg #[.bool true, .slice (some ⟨g6, 0, none⟩) 1 1, .int .i64 13]) ?_ rfl ?_
              · simp [results, Tryz.results27, go_sem, r0, r1, r2, rf]
              · refine ⟨_, rfl, ?_⟩
                rw [HE.out]
                exact H6.out.1.fin HR6.1 HRB.out.2.1 HR6.2
            have e1 : decide (k1 ≥ k2) = false := decide_eq_false c1
            by_cases c2 : k1 ∈ ms
            case neg =>
              have HE : Hid (chk ms ls = itemE j2 13) := HBAD.out (by rw [HM.out]; exact decide_eq_false (fun h => c2 h.2.1))
              have HHX : Hid (∀ x t, decide (x ∈ ms) = t → ∀ W, KC W1 b K (.slice Am j cm) (.slice (some ⟨g, off, none⟩) q cl) k1 k2 W → Calls Tryz.prog 16 #[.slice Am j cm, .int .i64 x] W fun e w' => e = .returned (.bool t) ∧ KC W1 b K (.slice Am j cm) (.slice (some ⟨g, off, none⟩) q cl) k1 k2 w') := fun x t ht W hW => by
                subst ht; exact HH1.out x W hW
              have HDA : Hid (decide (k1 ∈ ms) = false) := decide_eq_false c2
              clear c1 c2 HH1 HM HBAD HOK
              haveI : Nonempty (QW (KC W1 b K (.slice Am j cm) (.slice (some ⟨g, off, none⟩) q cl) k1 k2)) := ⟨⟨W1, hKC⟩⟩
              have q0 : ∀ x : QW (KC W1 b K (.slice Am j cm) (.slice (some ⟨g, off, none⟩) q cl) k1 k2), x.val.cell? ⟨b, 0, none⟩ = some (.slice Am j cm) := fun x => x.ok.1
              have q1 : ∀ x : QW (KC W1 b K (.slice Am j cm) (.slice (some ⟨g, off, none⟩) q cl) k1 k2), x.val.cell? ⟨b, 1, none⟩ = some (.slice (some ⟨g, off, none⟩) q cl) := fun x => x.ok.2.1
              have q2 : ∀ x : QW (KC W1 b K (.slice Am j cm) (.slice (some ⟨g, off, none⟩) q cl) k1 k2), x.val.cell? ⟨K, 0, none⟩ = some (.int .i64 k1) := fun x => x.ok.2.2.1
              have q3 : ∀ x : QW (KC W1 b K (.slice Am j cm) (.slice (some ⟨g, off, none⟩) q cl) k1 k2), x.val.cell? ⟨K, 1, none⟩ = some (.int .i64 k2) := fun x => x.ok.2.2.2.1
              go_wp2
              rw [← hW1, ← hK]
              clear hW1 hK
              refine region_in (KC W1 b K (.slice Am j cm) (.slice (some ⟨g, off, none⟩) q cl) k1 k2) (by kernel_rfl) (by kernel_rfl) hKd ?_
              repeat (go_big_quiet_step ((go_at_call 16; refine calls_in (HHX.out _ _ HDA.out _ (QW.ok _)))))
              refine wpQuiet_nil ?_
              intro W5 hK5
              have HRX : Hid (∀ W, Below W5.heap.size W5 W → W.heap[R]? = some (.cells #[.bool false, .slice none 0 0, .int .i64 0] 43 (0, 0)) ∧ Below w.heap.size w W) := fun W hW => ⟨(hW.block R (Nat.lt_of_lt_of_le HRB.out.2.2 (HW1B.out.trans (hK5.2.2.2.2.out.mono HW1B.out.size)).size)).trans (((HW1B.out.trans (hK5.2.2.2.2.out.mono HW1B.out.size)).block R HRB.out.2.2).trans HRB.out.1), (HB.out.2.trans ((HW1B.out.trans (hK5.2.2.2.2.out.mono HW1B.out.size)).mono HB.out.2.size)).trans (hW.mono (HB.out.2.trans ((HW1B.out.trans (hK5.2.2.2.2.out.mono HW1B.out.size)).mono HB.out.2.size)).size)⟩
              go_wp2_with (first
                | (go_at_call 57; refine (rat_any 2 j2 13 _).mono ?_; rintro e w6 ⟨g6, rfl, H6⟩; have HR6 := HRX.out w6 (hb5.trans (H6.out.2.mono hb5.size)); obtain ⟨r0, r1, r2, rf, rl⟩ := cell3 HR6.1)
                | (go_at_call 34; refine (rn_any 13 _).mono ?_; rintro e w5 ⟨rfl, hb5⟩))
              refine bodyPost_ret (v := .agg #[.bool true, .slice (some ⟨g6, 0, none⟩) 1 1, .int .i64 13]) ?_ rfl ?_
              · simp [results, Tryz.results27, go_sem, r0, r1, r2, rf]
              · refine ⟨_, rfl, ?_⟩
                rw [HE.out]
                exact H6.out.1.fin HR6.1 HRB.out.2.1 HR6.2
            by_cases c3 : k2 ∈ ms
            case neg =>
              have HE : Hid (chk ms ls = itemE j2 13) := HBAD.out (by rw [HM.out]; exact decide_eq_false (fun h => c3 h.2.2.1))
              have HHX : Hid (∀ x t, decide (x ∈ ms) = t → ∀ W, KC W1 b K (.slice Am j cm) (.slice (some ⟨g, off, none⟩) q cl) k1 k2 W → Calls Tryz.prog 16 #[.slice Am j cm, .int .i64 x] W fun e w' => e = .returned (.bool t) ∧ KC W1 b K (.slice Am j cm) (.slice (some ⟨g, off, none⟩) q cl) k1 k2 w') := fun x t ht W hW => by
                subst ht; exact HH1.out x W hW
              have HDA : Hid (decide (k1 ∈ ms) = true) := decide_eq_true c2
              have HDB : Hid (decide (k2 ∈ ms) = false) := decide_eq_false c3
              clear c1 c2 c3 HH1 HM HBAD HOK
              haveI : Nonempty (QW (KC W1 b K (.slice Am j cm) (.slice (some ⟨g, off, none⟩) q cl) k1 k2)) := ⟨⟨W1, hKC⟩⟩
              have q0 : ∀ x : QW (KC W1 b K (.slice Am j cm) (.slice (some ⟨g, off, none⟩) q cl) k1 k2), x.val.cell? ⟨b, 0, none⟩ = some (.slice Am j cm) := fun x => x.ok.1
              have q1 : ∀ x : QW (KC W1 b K (.slice Am j cm) (.slice (some ⟨g, off, none⟩) q cl) k1 k2), x.val.cell? ⟨b, 1, none⟩ = some (.slice (some ⟨g, off, none⟩) q cl) := fun x => x.ok.2.1
              have q2 : ∀ x : QW (KC W1 b K (.slice Am j cm) (.slice (some ⟨g, off, none⟩) q cl) k1 k2), x.val.cell? ⟨K, 0, none⟩ = some (.int .i64 k1) := fun x => x.ok.2.2.1
              have q3 : ∀ x : QW (KC W1 b K (.slice Am j cm) (.slice (some ⟨g, off, none⟩) q cl) k1 k2), x.val.cell? ⟨K, 1, none⟩ = some (.int .i64 k2) := fun x => x.ok.2.2.2.1
              go_wp2
              rw [← hW1, ← hK]
              clear hW1 hK
              refine region_in (KC W1 b K (.slice Am j cm) (.slice (some ⟨g, off, none⟩) q cl) k1 k2) (by kernel_rfl) (by kernel_rfl) hKd ?_
              repeat (go_big_quiet_step ((first | (go_at_call 16; refine calls_in (HHX.out _ _ (by first | exact HDA.out | exact HDB.out) _ (QW.ok _))))))
              refine wpQuiet_nil ?_
              intro W5 hK5
              have HRX : Hid (∀ W, Below W5.heap.size W5 W → W.heap[R]? = some (.cells #[.bool false, .slice none 0 0, .int .i64 0] 43 (0, 0)) ∧ Below w.heap.size w W) := fun W hW => ⟨(hW.block R (Nat.lt_of_lt_of_le HRB.out.2.2 (HW1B.out.trans (hK5.2.2.2.2.out.mono HW1B.out.size)).size)).trans (((HW1B.out.trans (hK5.2.2.2.2.out.mono HW1B.out.size)).block R HRB.out.2.2).trans HRB.out.1), (HB.out.2.trans ((HW1B.out.trans (hK5.2.2.2.2.out.mono HW1B.out.size)).mono HB.out.2.size)).trans (hW.mono (HB.out.2.trans ((HW1B.out.trans (hK5.2.2.2.2.out.mono HW1B.out.size)).mono HB.out.2.size)).size)⟩
              go_wp2_with (first
                | (go_at_call 57; refine (rat_any 2 j2 13 _).mono ?_; rintro e w6 ⟨g6, rfl, H6⟩; have HR6 := HRX.out w6 (hb5.trans (H6.out.2.mono hb5.size)); obtain ⟨r0, r1, r2, rf, rl⟩ := cell3 HR6.1)
                | (go_at_call 34; refine (rn_any 13 _).mono ?_; rintro e w5 ⟨rfl, hb5⟩))
              refine bodyPost_ret (v := .agg #[.bool true, .slice (some ⟨g6, 0, none⟩) 1 1, .int .i64 13]) ?_ rfl ?_
              · simp [results, Tryz.results27, go_sem, r0, r1, r2, rf]
              · refine ⟨_, rfl, ?_⟩
                rw [HE.out]
                exact H6.out.1.fin HR6.1 HRB.out.2.1 HR6.2
            by_cases c4 : j2 = 0
            · have e3 : ¬ (0 < j2) := by omega
              have HE2 := Lib.hid (HOK.out (by rw [HM.out]; exact decide_eq_true ⟨by omega, c2, c3, .inl c4⟩))
              have HHX : Hid (∀ x t, decide (x ∈ ms) = t → ∀ W, KC W1 b K (.slice Am j cm) (.slice (some ⟨g, off, none⟩) q cl) k1 k2 W → Calls Tryz.prog 16 #[.slice Am j cm, .int .i64 x] W fun e w' => e = .returned (.bool t) ∧ KC W1 b K (.slice Am j cm) (.slice (some ⟨g, off, none⟩) q cl) k1 k2 w') := fun x t ht W hW => by
                subst ht; exact HH1.out x W hW
              have HDA : Hid (decide (k1 ∈ ms) = true) := decide_eq_true c2
              have HDB : Hid (decide (k2 ∈ ms) = true) := decide_eq_true c3
              clear c1 c2 c3 c4 HH1 HM HBAD HOK
              haveI : Nonempty (QW (KC W1 b K (.slice Am j cm) (.slice (some ⟨g, off, none⟩) q cl) k1 k2)) := ⟨⟨W1, hKC⟩⟩
              have q0 : ∀ x : QW (KC W1 b K (.slice Am j cm) (.slice (some ⟨g, off, none⟩) q cl) k1 k2), x.val.cell? ⟨b, 0, none⟩ = some (.slice Am j cm) := fun x => x.ok.1
              have q1 : ∀ x : QW (KC W1 b K (.slice Am j cm) (.slice (some ⟨g, off, none⟩) q cl) k1 k2), x.val.cell? ⟨b, 1, none⟩ = some (.slice (some ⟨g, off, none⟩) q cl) := fun x => x.ok.2.1
              have q2 : ∀ x : QW (KC W1 b K (.slice Am j cm) (.slice (some ⟨g, off, none⟩) q cl) k1 k2), x.val.cell? ⟨K, 0, none⟩ = some (.int .i64 k1) := fun x => x.ok.2.2.1
              have q3 : ∀ x : QW (KC W1 b K (.slice Am j cm) (.slice (some ⟨g, off, none⟩) q cl) k1 k2), x.val.cell? ⟨K, 1, none⟩ = some (.int .i64 k2) := fun x => x.ok.2.2.2.1
              go_wp2
              rw [← hW1, ← hK]
              clear hW1 hK
              refine region_in (KC W1 b K (.slice Am j cm) (.slice (some ⟨g, off, none⟩) q cl) k1 k2) (by kernel_rfl) (by kernel_rfl) hKd ?_
              repeat (go_big_quiet_step ((first | (go_at_call 16; refine calls_in (HHX.out _ _ (by first | exact HDA.out | exact HDB.out) _ (QW.ok _))))))
              refine wpQuiet_nil ?_
              intro W5 hK5
              have hlim := hK5.2.2.2.2.out
              have HFIN : Hid (W5.heap[b]? = some (.cells #[.slice Am j cm, .slice (some ⟨g, off, none⟩) q cl] 25 (0, 0)) ∧ Below w.heap.size w W5 ∧ Below w1.heap.size w1 W5) := ⟨(hlim.block b (Array.getElem?_eq_some_iff.1 HB1.out.1).1).trans HB1.out.1, HB1.out.2.1.trans (hlim.mono HB1.out.2.1.size), HW1B.out.trans (hlim.mono HW1B.out.size)⟩
              clear hlim hK5
              go_wp2
              exact ⟨⟨j2 + 1, hlt, by go_num, HE2.out, HFIN.out⟩, by simp [intOf]; omega⟩
            obtain ⟨p, hjp⟩ : ∃ p, Hid (j2 = p + 1) := ⟨j2 - 1, by simp only [Hid]; omega⟩
            obtain ⟨k', hk'⟩ : ∃ x, Hid (ls[p]? = some x) := ⟨_, List.getElem?_eq_getElem (by have := HG.out.llen; have := hjp.out; omega)⟩
            obtain ⟨p1, hp1⟩ : ∃ z, Hid (k'.1 = z) := ⟨_, rfl⟩
            obtain ⟨p2, hp2⟩ : ∃ z, Hid (k'.2 = z) := ⟨_, rfl⟩
            have hgd : ls.getD (j2 - 1) (0, 0) = k' := by
              rw [show j2 - 1 = p by have := hjp.out; omega, List.getD_eq_getElem?_getD, hk'.out]; rfl
            rw [hgd] at HM
            have hKP : KP W1 b K g (off + p * 2) (.slice Am j cm) (.slice (some ⟨g, off, none⟩) q cl) k1 k2 p1 p2 W1 := by
              obtain ⟨g', off', he, h0, h1, _⟩ := (HG.out.lrow.below HB1.out.2.1).lk hk'.out
              cases he
              rw [hp1.out] at h0
              rw [hp2.out] at h1
              exact ⟨hKC.1, hKC.2.1, hKC.2.2.1, hKC.2.2.2.1, h0, h1, Lib.hid (Below.refl _ _)⟩
            have hKPd : KP W1 b K g (off + p * 2) (.slice Am j cm) (.slice (some ⟨g, off, none⟩) q cl) k1 k2 p1 p2 W1.drew := hKP.step (Below.refl _ _).drew
            have HH3 : Hid (∀ x W, KP W1 b K g (off + p * 2) (.slice Am j cm) (.slice (some ⟨g, off, none⟩) q cl) k1 k2 p1 p2 W → Calls Tryz.prog 16 #[.slice Am j cm, .int .i64 x] W fun e w' => e = .returned (.bool (decide (x ∈ ms))) ∧ KP W1 b K g (off + p * 2) (.slice Am j cm) (.slice (some ⟨g, off, none⟩) q cl) k1 k2 p1 p2 w') := fun x W hW => by
              refine (HHAS.out x W (HB1.out.2.1.trans (hW.2.2.2.2.2.2.out.mono HB1.out.2.1.size))).mono ?_
              rintro e w' ⟨rfl, hb⟩
              exact ⟨rfl, hW.step hb⟩
            have hkk' : Hid (k' = (p1, p2) ∧ k = (k1, k2)) := ⟨Prod.ext hp1.out hp2.out, Prod.ext hk1.out hk2.out⟩
            have HHC0 : Hid (∀ W, KP W1 b K g (off + p * 2) (.slice Am j cm) (.slice (some ⟨g, off, none⟩) q cl) k1 k2 p1 p2 W → Calls Tryz.prog 58 #[.agg #[.int .i64 p1, .int .i64 p2], .agg #[.int .i64 k1, .int .i64 k2]] W fun e w' => e = .returned (.bool (decide (lkLt k' k))) ∧ KP W1 b K g (off + p * 2) (.slice Am j cm) (.slice (some ⟨g, off, none⟩) q cl) k1 k2 p1 p2 w') := fun W hW => by
              refine (ahead_any p1 p2 k1 k2 W).mono ?_
              rintro e w' ⟨rfl, hb⟩
              rw [hkk'.out.1, hkk'.out.2]
              exact ⟨rfl, hW.step hb⟩
            have e3 : 0 < j2 := by omega
            have hpI : (j2 : Int) - 1 = (p : Int) := by have := hjp.out; omega
            have hw3 : wrap64 ((j2 : Int) - 1) = (p : Int) := by rw [hpI]; have := HN.out; have := hjp.out; unfold wrap64; omega
            have hp0 : ((0 : Int) ≤ p) := by omega
            have hp1' : ((p : Nat) : Int) < q := by have := hjp.out; omega
            clear hpI
            have HHX : Hid (∀ x t, decide (x ∈ ms) = t → ∀ W, KP W1 b K g (off + p * 2) (.slice Am j cm) (.slice (some ⟨g, off, none⟩) q cl) k1 k2 p1 p2 W → Calls Tryz.prog 16 #[.slice Am j cm, .int .i64 x] W fun e w' => e = .returned (.bool t) ∧ KP W1 b K g (off + p * 2) (.slice Am j cm) (.slice (some ⟨g, off, none⟩) q cl) k1 k2 p1 p2 w') := fun x t ht W hW => by
              subst ht; exact HH3.out x W hW
            have HDA : Hid (decide (k1 ∈ ms) = true) := decide_eq_true c2
            have HDB : Hid (decide (k2 ∈ ms) = true) := decide_eq_true c3
            by_cases c5 : lkLt k' k
            · have HHC : Hid (∀ W, KP W1 b K g (off + p * 2) (.slice Am j cm) (.slice (some ⟨g, off, none⟩) q cl) k1 k2 p1 p2 W → Calls Tryz.prog 58 #[.agg #[.int .i64 p1, .int .i64 p2], .agg #[.int .i64 k1, .int .i64 k2]] W fun e w' => e = .returned (.bool true) ∧ KP W1 b K g (off + p * 2) (.slice Am j cm) (.slice (some ⟨g, off, none⟩) q cl) k1 k2 p1 p2 w') := fun W hW => by
                have := HHC0.out W hW
                rw [decide_eq_true c5] at this; exact this
              have HE2 := Lib.hid (HOK.out (by rw [HM.out]; exact decide_eq_true ⟨by omega, c2, c3, .inr c5⟩))
              clear c1 c2 c3 c4 c5 HH1 HH3 HM HBAD HOK HHC0 hKC hKd hgd
              haveI : Nonempty (QW (KP W1 b K g (off + p * 2) (.slice Am j cm) (.slice (some ⟨g, off, none⟩) q cl) k1 k2 p1 p2)) := ⟨⟨W1, hKP⟩⟩
              have q0 : ∀ x : QW (KP W1 b K g (off + p * 2) (.slice Am j cm) (.slice (some ⟨g, off, none⟩) q cl) k1 k2 p1 p2), x.val.cell? ⟨b, 0, none⟩ = some (.slice Am j cm) := fun x => x.ok.1
              have q1 : ∀ x : QW (KP W1 b K g (off + p * 2) (.slice Am j cm) (.slice (some ⟨g, off, none⟩) q cl) k1 k2 p1 p2), x.val.cell? ⟨b, 1, none⟩ = some (.slice (some ⟨g, off, none⟩) q cl) := fun x => x.ok.2.1
              have q2 : ∀ x : QW (KP W1 b K g (off + p * 2) (.slice Am j cm) (.slice (some ⟨g, off, none⟩) q cl) k1 k2 p1 p2), x.val.cell? ⟨K, 0, none⟩ = some (.int .i64 k1) := fun x => x.ok.2.2.1
              have q3 : ∀ x : QW (KP W1 b K g (off + p * 2) (.slice Am j cm) (.slice (some ⟨g, off, none⟩) q cl) k1 k2 p1 p2), x.val.cell? ⟨K, 1, none⟩ = some (.int .i64 k2) := fun x => x.ok.2.2.2.1
              have q4 : ∀ x : QW (KP W1 b K g (off + p * 2) (.slice Am j cm) (.slice (some ⟨g, off, none⟩) q cl) k1 k2 p1 p2), x.val.cell? ⟨g, off + p * 2, none⟩ = some (.int .i64 p1) := fun x => x.ok.2.2.2.2.1
              have q5 : ∀ x : QW (KP W1 b K g (off + p * 2) (.slice Am j cm) (.slice (some ⟨g, off, none⟩) q cl) k1 k2 p1 p2), x.val.cell? ⟨g, off + p * 2 + 1, none⟩ = some (.int .i64 p2) := fun x => x.ok.2.2.2.2.2.1
              go_wp2
              rw [← hW1, ← hK]
              clear hW1 hK
              refine region_in (KP W1 b K g (off + p * 2) (.slice Am j cm) (.slice (some ⟨g, off, none⟩) q cl) k1 k2 p1 p2) (by kernel_rfl) (by kernel_rfl) hKPd ?_
              repeat (go_big_quiet_step ((first | (go_at_call 16; refine calls_in (HHX.out _ _ (by first | exact HDA.out | exact HDB.out) _ (QW.ok _))) | (go_at_call 58; refine calls_in (HHC.out _ (QW.ok _))))))
              refine wpQuiet_nil ?_
              intro W5 hK5
              have hlim := hK5.2.2.2.2.2.2.out
              have HFIN : Hid (W5.heap[b]? = some (.cells #[.slice Am j cm, .slice (some ⟨g, off, none⟩) q cl] 25 (0, 0)) ∧ Below w.heap.size w W5 ∧ Below w1.heap.size w1 W5) := ⟨(hlim.block b (Array.getElem?_eq_some_iff.1 HB1.out.1).1).trans HB1.out.1, HB1.out.2.1.trans (hlim.mono HB1.out.2.1.size), HW1B.out.trans (hlim.mono HW1B.out.size)⟩
              clear hlim hK5
              go_wp2
              exact ⟨⟨j2 + 1, hlt, by go_num, HE2.out, HFIN.out⟩, by simp [intOf]; omega⟩
            · have HHC : Hid (∀ W, KP W1 b K g (off + p * 2) (.slice Am j cm) (.slice (some ⟨g, off, none⟩) q cl) k1 k2 p1 p2 W → Calls Tryz.prog 58 #[.agg #[.int .i64 p1, .int .i64 p2], .agg #[.int .i64 k1, .int .i64 k2]] W fun e w' => e = .returned (.bool false) ∧ KP W1 b K g (off + p * 2) (.slice Am j cm) (.slice (some ⟨g, off, none⟩) q cl) k1 k2 p1 p2 w') := fun W hW => by
                have := HHC0.out W hW
                rw [decide_eq_false c5] at this; exact this
              have HE : Hid (chk ms ls = itemE j2 13) := HBAD.out (by rw [HM.out]; exact decide_eq_false (fun h => by
                rcases h.2.2.2 with h | h
                · exact c4 h
                · exact c5 h))
              clear c1 c2 c3 c4 c5 HH1 HH3 HM HBAD HOK HHC0 hKC hKd hgd
              haveI : Nonempty (QW (KP W1 b K g (off + p * 2) (.slice Am j cm) (.slice (some ⟨g, off, none⟩) q cl) k1 k2 p1 p2)) := ⟨⟨W1, hKP⟩⟩
              have q0 : ∀ x : QW (KP W1 b K g (off + p * 2) (.slice Am j cm) (.slice (some ⟨g, off, none⟩) q cl) k1 k2 p1 p2), x.val.cell? ⟨b, 0, none⟩ = some (.slice Am j cm) := fun x => x.ok.1
              have q1 : ∀ x : QW (KP W1 b K g (off + p * 2) (.slice Am j cm) (.slice (some ⟨g, off, none⟩) q cl) k1 k2 p1 p2), x.val.cell? ⟨b, 1, none⟩ = some (.slice (some ⟨g, off, none⟩) q cl) := fun x => x.ok.2.1
              have q2 : ∀ x : QW (KP W1 b K g (off + p * 2) (.slice Am j cm) (.slice (some ⟨g, off, none⟩) q cl) k1 k2 p1 p2), x.val.cell? ⟨K, 0, none⟩ = some (.int .i64 k1) := fun x => x.ok.2.2.1
              have q3 : ∀ x : QW (KP W1 b K g (off + p * 2) (.slice Am j cm) (.slice (some ⟨g, off, none⟩) q cl) k1 k2 p1 p2), x.val.cell? ⟨K, 1, none⟩ = some (.int .i64 k2) := fun x => x.ok.2.2.2.1
              have q4 : ∀ x : QW (KP W1 b K g (off + p * 2) (.slice Am j cm) (.slice (some ⟨g, off, none⟩) q cl) k1 k2 p1 p2), x.val.cell? ⟨g, off + p * 2, none⟩ = some (.int .i64 p1) := fun x => x.ok.2.2.2.2.1
              have q5 : ∀ x : QW (KP W1 b K g (off + p * 2) (.slice Am j cm) (.slice (some ⟨g, off, none⟩) q cl) k1 k2 p1 p2), x.val.cell? ⟨g, off + p * 2 + 1, none⟩ = some (.int .i64 p2) := fun x => x.ok.2.2.2.2.2.1
              go_wp2
              rw [← hW1, ← hK]
              clear hW1 hK
              refine region_in (KP W1 b K g (off + p * 2) (.slice Am j cm) (.slice (some ⟨g, off, none⟩) q cl) k1 k2 p1 p2) (by kernel_rfl) (by kernel_rfl) hKPd ?_
              repeat (go_big_quiet_step ((first | (go_at_call 16; refine calls_in (HHX.out _ _ (by first | exact HDA.out | exact HDB.out) _ (QW.ok _))) | (go_at_call 58; refine calls_in (HHC.out _ (QW.ok _))))))
              refine wpQuiet_nil ?_
              intro W5 hK5
              have HRX : Hid (∀ W, Below W5.heap.size W5 W → W.heap[R]? = some (.cells #[.bool false, .slice none 0 0, .int .i64 0] 43 (0, 0)) ∧ Below w.heap.size w W) := fun W hW => ⟨(hW.block R (Nat.lt_of_lt_of_le HRB.out.2.2 (HW1B.out.trans (hK5.2.2.2.2.2.2.out.mono HW1B.out.size)).size)).trans (((HW1B.out.trans (hK5.2.2.2.2.2.2.out.mono HW1B.out.size)).block R HRB.out.2.2).trans HRB.out.1), (HB.out.2.trans ((HW1B.out.trans (hK5.2.2.2.2.2.2.out.mono HW1B.out.size)).mono HB.out.2.size)).trans (hW.mono (HB.out.2.trans ((HW1B.out.trans (hK5.2.2.2.2.2.2.out.mono HW1B.out.size)).mono HB.out.2.size)).size)⟩
              go_wp2_with (first
                | (go_at_call 57; refine (rat_any 2 j2 13 _).mono ?_; rintro e w6 ⟨g6, rfl, H6⟩; have HR6 := HRX.out w6 (hb5.trans (H6.out.2.mono hb5.size)); obtain ⟨r0, r1, r2, rf, rl⟩ := cell3 HR6.1)
                | (go_at_call 34; refine (rn_any 13 _).mono ?_; rintro e w5 ⟨rfl, hb5⟩))
              refine bodyPost_ret (v := .agg #[.bool true, .slice (some ⟨g6, 0, none⟩) 1 1, .int .i64 13]) ?_ rfl ?_
              · simp [results, Tryz.results27, go_sem, r0, r1, r2, rf]
              · refine ⟨_, rfl, ?_⟩
                rw [HE.out]
                exact H6.out.1.fin HR6.1 HRB.out.2.1 HR6.2
          · have hjn : j2 = q := by omega
            subst hjn
            have HLS : Hid (firstBad (lkOk ms ls) ls.length = none) := firstBad_none fun i hi => HL.out.1 i (by have := HG.out.llen; omega)
            clear hlt hj2
            have HCH : Hid (chk ms ls = if ms.length = 0 ∨ ls.length + 1 ≠ ms.length ∨ reachN ls (ms.getD 0 0) ≠ ms.length then plainE 14 else none) := by
              unfold chk
              rw [if_neg (by rw [HG.out.mlen]; have := HN8.out; omega), HMS.out]
              simp only
              rw [HLS.out]
              rfl
            rw [HG.out.mlen, HG.out.llen] at HCH
            have hw4 : wrap64 ((j : Int) - 1) = (j : Int) - 1 := by have := HN8.out; unfold wrap64; omega
            have hw5 : IntKind.i64.wrap ((j : Int) - 1) = (j : Int) - 1 := by have := HN8.out; rw [IntKind.wrap_i64]; omega
            have hKG : KG wr b (.slice Am j cm) (.slice Al j2 cl) wr := ⟨d0, d1, Lib.hid (Below.refl _ _)⟩
            have hKGd : KG wr b (.slice Am j cm) (.slice Al j2 cl) wr.drew := hKG.step (Below.refl _ _).drew
            have HBL : Hid (Below w.heap.size w wr ∧ Below w1.heap.size w1 wr) := HL.out.2.2
            by_cases c1 : j = 0
            · have HE : Hid (chk ms ls = plainE 14) := by rw [Hid, HCH.out, if_pos (.inl c1)]
              have e1 : ((j : Int) == 0) = true := by simpa using c1
              clear c1
              haveI : Nonempty (QW (KG wr b (.slice Am j cm) (.slice Al j2 cl))) := ⟨⟨wr, hKG⟩⟩
              have q0 : ∀ x : QW (KG wr b (.slice Am j cm) (.slice Al j2 cl)), x.val.cell? ⟨b, 0, none⟩ = some (.slice Am j cm) := fun x => x.ok.1
              have q1 : ∀ x : QW (KG wr b (.slice Am j cm) (.slice Al j2 cl)), x.val.cell? ⟨b, 1, none⟩ = some (.slice Al j2 cl) := fun x => x.ok.2.1
              go_wp2
              refine region_in (KG wr b (.slice Am j cm) (.slice Al j2 cl)) (by kernel_rfl) (by kernel_rfl) hKGd ?_
              repeat (go_big_quiet_step (fail))
              refine wpQuiet_nil ?_
              intro W5 hK5
              have HRX : Hid (∀ W, Below W5.heap.size W5 W → W.heap[R]? = some (.cells #[.bool false, .slice none 0 0, .int .i64 0] 43 (0, 0)) ∧ Below w.heap.size w W) := fun W hW => ⟨(hW.block R (Nat.lt_of_lt_of_le HRB.out.2.2 (HBL.out.2.trans (hK5.2.2.out.mono HBL.out.2.size)).size)).trans (((HBL.out.2.trans (hK5.2.2.out.mono HBL.out.2.size)).block R HRB.out.2.2).trans HRB.out.1), (HBL.out.1.trans (hK5.2.2.out.mono HBL.out.1.size)).trans (hW.mono (HBL.out.1.trans (hK5.2.2.out.mono HBL.out.1.size)).size)⟩
              have HE2 : Hid (∀ W, EIs W (.agg #[.bool true, .slice none 0 0, .int .i64 14]) (chk ms ls)) := fun W => by rw [HE.out]; rfl
              go_wp2_with fail
              refine (rn_any 14 _).mono ?_
              rintro e w6 ⟨rfl, hb6⟩
              have HR6 := HRX.out w6 hb6
              obtain ⟨r0, r1, r2, rf, rl⟩ := cell3 HR6.1
              go_wp2
              refine bodyPost_ret (v := .agg #[.bool true, .slice none 0 0, .int .i64 14]) ?_ rfl ?_
              · simp [results, Tryz.results27, go_sem, r0, r1, r2, rf]
              · exact ⟨_, rfl, (HE2.out w6).fin HR6.1 HRB.out.2.1 HR6.2⟩
            have e1 : ((j : Int) == 0) = false := by simpa using c1
            by_cases c2 : j2 + 1 = j
            case neg =>
              have HE : Hid (chk ms ls = plainE 14) := by rw [Hid, HCH.out, if_pos (.inr (.inl c2))]
              have e2 : ((j2 : Int) != (j : Int) - 1) = true := by simp; omega
              clear c1 c2
              haveI : Nonempty (QW (KG wr b (.slice Am j cm) (.slice Al j2 cl))) := ⟨⟨wr, hKG⟩⟩
              have q0 : ∀ x : QW (KG wr b (.slice Am j cm) (.slice Al j2 cl)), x.val.cell? ⟨b, 0, none⟩ = some (.slice Am j cm) := fun x => x.ok.1
              have q1 : ∀ x : QW (KG wr b (.slice Am j cm) (.slice Al j2 cl)), x.val.cell? ⟨b, 1, none⟩ = some (.slice Al j2 cl) := fun x => x.ok.2.1
              go_wp2
              refine region_in (KG wr b (.slice Am j cm) (.slice Al j2 cl)) (by kernel_rfl) (by kernel_rfl) hKGd ?_
              repeat (go_big_quiet_step (fail))
              refine wpQuiet_nil ?_
              intro W5 hK5
              have HRX : Hid (∀ W, Below W5.heap.size W5 W → W.heap[R]? = some (.cells #[.bool false, .slice none 0 0, .int .i64 0] 43 (0, 0)) ∧ Below w.heap.size w W) := fun W hW => ⟨(hW.block R (Nat.lt_of_lt_of_le HRB.out.2.2 (HBL.out.2.trans (hK5.2.2.out.mono HBL.out.2.size)).size)).trans (((HBL.out.2.trans (hK5.2.2.out.mono HBL.out.2.size)).block R HRB.out.2.2).trans HRB.out.1), (HBL.out.1.trans (hK5.2.2.out.mono HBL.out.1.size)).trans (hW.mono (HBL.out.1.trans (hK5.2.2.out.mono HBL.out.1.size)).size)⟩
              have HE2 : Hid (∀ W, EIs W (.agg #[.bool true, .slice none 0 0, .int .i64 14]) (chk ms ls)) := fun W => by rw [HE.out]; rfl
              go_wp2_with fail
              refine (rn_any 14 _).mono ?_
              rintro e w6 ⟨rfl, hb6⟩
              have HR6 := HRX.out w6 hb6
              obtain ⟨r0, r1, r2, rf, rl⟩ := cell3 HR6.1
              go_wp2
              refine bodyPost_ret (v := .agg #[.bool true, .slice none 0 0, .int .i64 14]) ?_ rfl ?_
              · simp [results, Tryz.results27, go_sem, r0, r1, r2, rf]
              · exact ⟨_, rfl, (HE2.out w6).fin HR6.1 HRB.out.2.1 HR6.2⟩
            have e2 : ((j2 : Int) != (j : Int) - 1) = false := by simp; omega
            obtain ⟨m0, hm0⟩ : ∃ x, Hid (ms[0]? = some x) := ⟨ms[0]'(by have := HG.out.mlen; omega), List.getElem?_eq_getElem (by have := HG.out.mlen; omega)⟩
            obtain ⟨g, off, rfl, x0, hg⟩ := (HG.out.mrow.below HBL.out.1).int hm0.out
            have hgd : ms.getD 0 0 = m0 := by rw [List.getD_eq_getElem?_getD, hm0.out]; rfl
            rw [hgd] at HCH
            have HSI : Hid (∀ W, Below w.heap.size w W → Calls Tryz.prog 47 #[grV (some ⟨g, off, none⟩) j cm Al j2 cl, .int .i64 m0, .agg #[.int .i64 0, .int .i64 0]] W fun e w' => ∃ (A : Option Addr) (c : Nat), e = .returned (.slice A (reachN ls m0) c) ∧ Below W.heap.size W w') := fun W hW => by
              have h1 := msOk_of HMS.out
              have h2 := lsOk_of HLS.out
              have h8 := HN8.out
              have hb0 : but ls (0, 0) = ls := List.filter_eq_self.2 fun y hy => by
                have := (h2.2 y hy).1
                have : y ≠ (0, 0) := fun e => by rw [e] at this; simp at this
                simpa using this
              refine (reach_any (some ⟨g, off, none⟩) j cm Al j2 cl ls m0 0 0 W HG.out.llen (HG.out.lrow.below hW) (by omega) (fun k hk => ⟨(h2.2 k hk).1, h1.2 _ (h2.2 k hk).2.1, h1.2 _ (h2.2 k hk).2.2⟩) (h1.2 _ (List.mem_of_getElem? hm0.out))).mono ?_
              rintro e w' ⟨A, m, c, rfl, S, hS1, hS2, hS3, hS4, hS5, hS6⟩
              rw [hb0] at hS4
              have e1 := reachN_of h1 h2 (List.mem_of_getElem? hm0.out) hS2 hS4
              exact ⟨A, c, by rw [e1, hS1], hS6⟩
            obtain ⟨rn, hrn⟩ : ∃ rn, Hid (reachN ls m0 = rn) := ⟨_, rfl⟩
            rw [hrn.out] at HSI HCH
            rw [Nat.add_zero] at x0
            have hKM : KM wr b g off (.slice (some ⟨g, off, none⟩) j cm) (.slice Al j2 cl) m0 wr := ⟨d0, d1, x0, Lib.hid (Below.refl _ _)⟩
            have hKMd : KM wr b g off (.slice (some ⟨g, off, none⟩) j cm) (.slice Al j2 cl) m0 wr.drew := hKM.step (Below.refl _ _).drew
            have HS2 : Hid (∀ W, KM wr b g off (.slice (some ⟨g, off, none⟩) j cm) (.slice Al j2 cl) m0 W → Calls Tryz.prog 47 #[grV (some ⟨g, off, none⟩) j cm Al j2 cl, .int .i64 m0, .agg #[.int .i64 0, .int .i64 0]] W fun e w' => ∃ (A : Option Addr) (c : Nat), e = .returned (.slice A rn c) ∧ KM wr b g off (.slice (some ⟨g, off, none⟩) j cm) (.slice Al j2 cl) m0 w') := fun W hW => by
              refine (HSI.out W (HBL.out.1.trans (hW.2.2.2.out.mono HBL.out.1.size))).mono ?_
              rintro e w' ⟨A, c, rfl, hb⟩
              exact ⟨A, c, rfl, hW.step hb⟩
            have hjp : (0 : Int) < j := by omega
            have hjp2 : 0 < j := by omega
            by_cases c3 : rn = j
            · have HE : Hid (chk ms ls = none) := by rw [Hid, HCH.out, if_neg (by omega)]
              have e3 : ((rn : Int) != j) = false := by simp [c3]
              clear c1 c2 c3 HSI hKG hKGd hgd
              go_wp2
              first
              | (go_region_held3 (fun W => W.cell? ⟨b, 0, none⟩ = some (.slice (some ⟨g, off, none⟩) j cm) ∧ W.cell? ⟨b, 1, none⟩ = some (.slice Al j2 cl) ∧ W.cell? ⟨g, off, none⟩ = some (.int .i64 m0) ∧ Hid (Below wr.heap.size wr W)) (assumption) (first | (go_at_call 47; refine (HS2.out _ (by assumption)).mono ?_; rintro e w5 ⟨A5, c5, rfl, hK5⟩) | fail))
              | fail
              all_goals
                have HR5 : w5.heap[R]? = some (.cells #[.bool false, .slice none 0 0, .int .i64 0] 43 (0, 0)) ∧ Below w.heap.size w w5 := ⟨(hK5.2.2.2.out.block R (Nat.lt_of_lt_of_le HRB.out.2.2 HBL.out.2.size)).trans ((HBL.out.2.block R HRB.out.2.2).trans HRB.out.1), HBL.out.1.trans (hK5.2.2.2.out.mono HBL.out.1.size)⟩
                obtain ⟨r0, r1, r2, rf, rl⟩ := cell3 HR5.1
                have HE2 : Hid (∀ W, EIs W (.agg #[.bool false, .slice none 0 0, .int .i64 0]) (chk ms ls)) := fun W => by rw [HE.out]; rfl
                go_wp2
                refine bodyPost_ret (v := .agg #[.bool false, .slice none 0 0, .int .i64 0]) ?_ rfl ?_
                · simp [results, Tryz.results27, go_sem, r0, r1, r2, rf]
                · exact ⟨_, rfl, (HE2.out w5).fin HR5.1 HRB.out.2.1 HR5.2⟩
            · have HE : Hid (chk ms ls = plainE 14) := by rw [Hid, HCH.out, if_pos (by omega)]
              have e3 : ((rn : Int) != j) = true := by simp; omega
              clear c1 c2 c3 HSI hKG hKGd hgd
              go_wp2
              first
              | (go_region_held3 (fun W => W.cell? ⟨b, 0, none⟩ = some (.slice (some ⟨g, off, none⟩) j cm) ∧ W.cell? ⟨b, 1, none⟩ = some (.slice Al j2 cl) ∧ W.cell? ⟨g, off, none⟩ = some (.int .i64 m0) ∧ Hid (Below wr.heap.size wr W)) (assumption) (first | (go_at_call 47; refine (HS2.out _ (by assumption)).mono ?_; rintro e w5 ⟨A5, c5, rfl, hK5⟩) | fail))
              | fail
              all_goals
                have HR5 : w5.heap[R]? = some (.cells #[.bool false, .slice none 0 0, .int .i64 0] 43 (0, 0)) ∧ Below w.heap.size w w5 := ⟨(hK5.2.2.2.out.block R (Nat.lt_of_lt_of_le HRB.out.2.2 HBL.out.2.size)).trans ((HBL.out.2.block R HRB.out.2.2).trans HRB.out.1), HBL.out.1.trans (hK5.2.2.2.out.mono HBL.out.1.size)⟩
                have HRX : Hid (∀ W, Below w5.heap.size w5 W → W.heap[R]? = some (.cells #[.bool false, .slice none 0 0, .int .i64 0] 43 (0, 0)) ∧ Below w.heap.size w W) := fun W hW => ⟨(hW.block R (Array.getElem?_eq_some_iff.1 HR5.1).1).trans HR5.1, HR5.2.trans (hW.mono HR5.2.size)⟩
                have HE2 : Hid (∀ W, EIs W (.agg #[.bool true, .slice none 0 0, .int .i64 14]) (chk ms ls)) := fun W => by rw [HE.out]; rfl
                go_wp2_with fail
                refine (rn_any 14 _).mono ?_
                rintro e w6 ⟨rfl, hb6⟩
                have HR6 := HRX.out w6 hb6
                obtain ⟨r0, r1, r2, rf, rl⟩ := cell3 HR6.1
                go_wp2
                refine bodyPost_ret (v := .agg #[.bool true, .slice none 0 0, .int .i64 14]) ?_ rfl ?_
                · simp [results, Tryz.results27, go_sem, r0, r1, r2, rf]
                · exact ⟨_, rfl, (HE2.out w6).fin HR6.1 HRB.out.2.1 HR6.2⟩
end
end Go.Proofs.YtlkfcfcejicdkaaGreatDoor
