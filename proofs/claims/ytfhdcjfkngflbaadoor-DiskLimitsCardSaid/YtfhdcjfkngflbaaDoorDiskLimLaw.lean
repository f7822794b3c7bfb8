/-
  disk: the law DiskLimits, walked. Own work.
-/
import Derived.Test.YtfhdcjfkngflbaaDoorDiskLimits
import Derived.Test.YtfhdcjfkngflbaaDoorErrOf
import Derived.Deep.RegionHeldLaw
import Derived.StillTailTactics
set_option linter.unusedSimpArgs false
set_option linter.unusedVariables false
namespace Go.Proofs.YtfhdcjfkngflbaaDoor
open Go Go.RowKit

theorem limits_out (more : Int) (w : World) (h : more < 0 ∨ (¬ more < 0 ∧ 5 < more)) :
    Calls Tryd.prog 3 #[.int .i64 more] w fun e w' => e = .returned (.bool true) ∧ Below w.heap.size w w' := by
  rcases h with h | ⟨h, h2⟩
  · have d : decide (more < 0) = true := by simpa using h
    go_enter Tryd.func3, Tryd.ntmps3
    go_wp2_with (go_at_call 5; refine (awake_any _).mono ?_; rintro e w1 ⟨rfl, hb⟩)
    go_ret
    exact ⟨rfl, hb⟩
  · have d : decide (more < 0) = false := by simpa using h
    have d2 : decide (more > 5) = true := by simpa using h2
    go_enter Tryd.func3, Tryd.ntmps3
    go_wp2_with (go_at_call 5; refine (awake_any _).mono ?_; rintro e w1 ⟨rfl, hb⟩)
    go_ret
    exact ⟨rfl, hb⟩

set_option maxRecDepth 100000 in
set_option maxHeartbeats 2000000 in
theorem limits_in (m : Nat) (w : World) (hT : ErrT w) (hm : m ≤ 5) :
    Calls Tryd.prog 3 #[.int .i64 (m : Int)] w fun e w' => e = .returned (.bool true) ∧ Below w.heap.size w w' := by
  have HT := Lib.hid hT
  have HM : Hid (m ≤ 5) := hm
  obtain ⟨N, hN⟩ : ∃ N : Nat, Hid (N = 1048575) := ⟨_, rfl⟩
  have hmk : ∀ W : World, (Instr.makeSlice 28 (.int .i64 1048575) (.int .i64 1048575)).run Tryd.prog W = .ok (.slice (some ⟨W.heap.size, 0, none⟩) N N) (W.alloc (.cells (byteVs (zeros N)).toArray 5)) := fun W => by
    have h := run_make_bytes N (by have := hN.out; omega) W
    have e : ((N : Nat) : Int) = 1048575 := by have := hN.out; omega
    rw [e] at h; exact h
  have hmk2 := run_make_bytes m (by omega)
  have d : decide ((m : Int) < 0) = false := by rw [decide_eq_false_iff_not]; omega
  have d2 : decide ((m : Int) > 5) = false := by rw [decide_eq_false_iff_not]; omega
  clear hT hm
  go_enter Tryd.func3, Tryd.ntmps3
  go_wp2_with fail
  refine (awake_any _).mono ?_
  rintro e w1 ⟨rfl, hb⟩
  have hb1 := Lib.hid hb
  clear hb
  go_wp2_with fail
  refine (newDisk_any _).mono ?_
  rintro e w' ⟨rfl, rfl⟩
  obtain ⟨w2, hw2⟩ : ∃ w2, w2 = (w1.alloc (.map #[] 0)).alloc (.cells #[.map (some w1.heap.size), .int .i64 0] 50) := ⟨_, rfl⟩
  obtain ⟨B, hB⟩ : ∃ B, B = w1.heap.size + 1 := ⟨_, rfl⟩
  have H2 : Hid (Below w1.heap.size w1 w2 ∧ Dk w1.heap.size w2 B (fun _ => none) 0 0 (newSt w1)) := by rw [hw2, hB]; exact ⟨((Below.refl _ _).alloc (Nat.le_refl _) _).alloc (by simp) _, dk_new w1⟩
  rw [← hw2, ← hB]
  clear hw2 hB
  go_wp2_with fail
  have hb3 : Hid (Below w2.heap.size w2 (w2.alloc (.cells (byteVs (zeros N)).toArray 5))) := (Below.refl _ _).alloc (Nat.le_refl _) _
  refine (lm_big (w0 := w) (H2.out.2.below hb3.out) ((hb1.out.trans (H2.out.1.mono hb1.out.size)).trans (hb3.out.mono (Nat.le_trans hb1.out.size H2.out.1.size))) hb1.out.size N hN.out _ (newbytes w2 (zeros N))).mono ?_
  rintro e w4 ⟨rfl, H4⟩
  clear H2 hb3 hmk
  by_cases hm1 : m ≤ 1
  · have d3 : decide ((m : Int) > 1) = false := by rw [decide_eq_false_iff_not]; omega
    have d4 : decide ((m : Int) ≤ 1) = true := by rw [decide_eq_true_iff]; omega
    have HM1 : Hid (m ≤ 1) := hm1
    clear hm1
    go_wp2_with fail
    refine (lm_big2 (H4.out.below ((Below.refl _ _).alloc (Nat.le_refl _) _)) hN.out m HM1.out _ (newbytes w4 (zeros m))).mono ?_
    rintro e w5 ⟨rfl, H5⟩
    go_wp2
    go_loopw [6] (fun t wr => ∃ (i : Nat), 1 ≤ i ∧ i ≤ 64 ∧ t = .int .i64 i ∧ Hid (Lm w w1.heap.size B i wr)) (fun t _ => 64 - (intOf t).toNat)
    case atStart => exact ⟨1, by omega, by omega, rfl, H5.out⟩
    case round =>
      obtain ⟨i, hi1, hi2, rfl, HS⟩ := hrel
      by_cases hlt : i < 64
      · obtain ⟨a, ha⟩ : ∃ a, Hid (i % 36 = a) := ⟨_, rfl⟩
        obtain ⟨b, hb⟩ : ∃ b, Hid (i / 36 = b) := ⟨_, rfl⟩
        have ha1 : a < 36 := by have := ha.out; omega
        have hb1' : b < 36 := by have := hb.out; omega
        have hmod : (i : Int).tmod 36 = (a : Int) := by rw [Int.tmod_eq_emod_of_nonneg (by omega)]; have := ha.out; omega
        have hdiv : (i : Int).tdiv 36 = (b : Int) := by rw [Int.tdiv_eq_ediv_of_nonneg (by omega)]; have := hb.out; omega
        have hwa : IntKind.i64.wrap ((a : Int) + 1) = (a : Int) + 1 := by rw [IntKind.wrap_i64]; omega
        have hwb : IntKind.i64.wrap ((b : Int) + 1) = (b : Int) + 1 := by rw [IntKind.wrap_i64]; omega
        have hwb0 : IntKind.i64.wrap (b : Int) = (b : Int) := by rw [IntKind.wrap_i64]; omega
        have ha0 : (0 : Int) ≤ a := by omega
        have hb0 : (0 : Int) ≤ b := by omega
        have ha2 : (a : Int) + 1 ≤ 36 := by omega
        have hb2 : (b : Int) + 1 ≤ 36 := by omega
        have ha3 : (0 : Int) ≤ (a : Int) + 1 := by omega
        have hb3 : (0 : Int) ≤ (b : Int) + 1 := by omega
        have hra := run_letterS a ha1
        have hrb := run_letterS b hb1'
        unfold letterS at hra hrb
        dsimp only at hra hrb
        obtain ⟨xa, hxa⟩ : ∃ x, Hid (oneB (letterL.getD a 0) = x ∧ x.size = 1) := ⟨_, rfl, rfl⟩
        obtain ⟨xb, hxb⟩ : ∃ x, Hid (oneB (letterL.getD b 0) = x ∧ x.size = 1) := ⟨_, rfl, rfl⟩
        rw [hxa.out.1] at hra
        rw [hxb.out.1] at hrb
        have hs1 : (⟨#[102]⟩ : ByteArray).size = 1 := rfl
        have hc1 := run_cat ⟨#[102]⟩ xa (by rw [hs1, hxa.out.2]; decide)
        have hc2 := run_cat (⟨#[102]⟩ ++ xa) xb (by rw [ByteArray.size_append, hs1, hxa.out.2, hxb.out.2]; decide)
        clear hs1
        have HNM : Hid ((⟨#[102]⟩ ++ xa ++ xb : ByteArray) = nmI i) := by
          have := name_is i
          rw [ha.out, hb.out, hxa.out.1, hxb.out.1] at this; exact this
        go_wp2
        go_still_tail 17, (by kernel_rfl)
        have H6 := Lib.hid (lm_app (HS.out.below ((Below.refl _ _).drew)) hi1 hlt _ HNM.out)
        clear hra hrb hc1 hc2 hmod hdiv hwa hwb hwb0
        go_wp2_with (go_at_call 7; refine H6.out.mono ?_; rintro e w6 ⟨rfl, H7⟩)
        exact ⟨⟨i + 1, by omega, hlt, by go_num, H7.out⟩, by simp [intOf]; omega⟩
      · have hi : i = 64 := by omega
        subst hi
        have H6 := Lib.hid HS.out
        clear HS hlt hi1 hi2
        go_wp2_with fail
        refine (lm_names H6.out).mono ?_
        rintro e w6 ⟨A6, c6, rfl, H7⟩
        go_wp2_with fail
        refine (lm_full H7.out).mono ?_
        rintro e w7 ⟨rfl, rfl⟩
        go_wp2_with fail
        refine (n_any 11 _).mono ?_
        rintro e w8 ⟨rfl, hb8⟩
        have H8 : Hid (Lm w w1.heap.size B 64 w8) := H7.out.below hb8
        clear hb8
        go_wp2_with fail
        refine (fails_plain 11 11 _ (HT.out.below H8.out.old)).mono ?_
        rintro e w9 ⟨rfl, hb9⟩
        have H9 : Hid (Lm w w1.heap.size B 64 w9) := H8.out.below hb9
        clear hb9
        go_wp2_with fail
        refine (lm_del H9.out).mono ?_
        rintro e w10 ⟨rfl, H10⟩
        go_wp2_with fail
        refine (lm_last H10.out).mono ?_
        rintro e w11 ⟨rfl, H11⟩
        go_wp2
        go_ret
        exact ⟨rfl, H11.out⟩
  · have hm1' : 1 < m := by omega
    have d3 : decide ((m : Int) > 1) = true := by rw [decide_eq_true_iff]; omega
    have d4 : decide ((m : Int) ≤ 1) = false := by rw [decide_eq_false_iff_not]; omega
    have HM1 : Hid (1 < m) := hm1'
    clear hm1 hm1'
    go_wp2_with fail
    have H4' : Hid (Lm0 w w1.heap.size B N (w4.alloc (.cells (byteVs (zeros m)).toArray 5))) := H4.out.below ((Below.refl _ _).alloc (Nat.le_refl _) _)
    refine (lm_big3 H4'.out hN.out m HM1.out HM.out _ (newbytes w4 (zeros m))).mono ?_
    rintro e w5 ⟨rfl, rfl⟩
    go_wp2_with fail
    refine (n_any 2 _).mono ?_
    rintro e w6 ⟨rfl, hb6⟩
    have H6 : Hid (Lm0 w w1.heap.size B N w6) := H4'.out.below hb6
    clear hb6
    go_wp2_with fail
    refine (fails_plain 2 2 _ (HT.out.below (H6.out.lm hN.out).old)).mono ?_
    rintro e w5 ⟨rfl, hb7⟩
    have H5 : Hid (Lm w w1.heap.size B 1 w5) := (H6.out.below hb7).lm hN.out
    clear hb7 H6 H4'
    go_wp2
    go_loopw [6] (fun t wr => ∃ (i : Nat), 1 ≤ i ∧ i ≤ 64 ∧ t = .int .i64 i ∧ Hid (Lm w w1.heap.size B i wr)) (fun t _ => 64 - (intOf t).toNat)
    case atStart => exact ⟨1, by omega, by omega, rfl, H5.out⟩
    case round =>
      obtain ⟨i, hi1, hi2, rfl, HS⟩ := hrel
      by_cases hlt : i < 64
      · obtain ⟨a, ha⟩ : ∃ a, Hid (i % 36 = a) := ⟨_, rfl⟩
        obtain ⟨b, hb⟩ : ∃ b, Hid (i / 36 = b) := ⟨_, rfl⟩
        have ha1 : a < 36 := by have := ha.out; omega
        have hb1' : b < 36 := by have := hb.out; omega
        have hmod : (i : Int).tmod 36 = (a : Int) := by rw [Int.tmod_eq_emod_of_nonneg (by omega)]; have := ha.out; omega
        have hdiv : (i : Int).tdiv 36 = (b : Int) := by rw [Int.tdiv_eq_ediv_of_nonneg (by omega)]; have := hb.out; omega
        have hwa : IntKind.i64.wrap ((a : Int) + 1) = (a : Int) + 1 := by rw [IntKind.wrap_i64]; omega
        have hwb : IntKind.i64.wrap ((b : Int) + 1) = (b : Int) + 1 := by rw [IntKind.wrap_i64]; omega
        have hwb0 : IntKind.i64.wrap (b : Int) = (b : Int) := by rw [IntKind.wrap_i64]; omega
        have ha0 : (0 : Int) ≤ a := by omega
        have hb0 : (0 : Int) ≤ b := by omega
        have ha2 : (a : Int) + 1 ≤ 36 := by omega
        have hb2 : (b : Int) + 1 ≤ 36 := by omega
        have ha3 : (0 : Int) ≤ (a : Int) + 1 := by omega
        have hb3 : (0 : Int) ≤ (b : Int) + 1 := by omega
        have hra := run_letterS a ha1
        have hrb := run_letterS b hb1'
        unfold letterS at hra hrb
        dsimp only at hra hrb
        obtain ⟨xa, hxa⟩ : ∃ x, Hid (oneB (letterL.getD a 0) = x ∧ x.size = 1) := ⟨_, rfl, rfl⟩
        obtain ⟨xb, hxb⟩ : ∃ x, Hid (oneB (letterL.getD b 0) = x ∧ x.size = 1) := ⟨_, rfl, rfl⟩
        rw [hxa.out.1] at hra
        rw [hxb.out.1] at hrb
        have hs1 : (⟨#[102]⟩ : ByteArray).size = 1 := rfl
        have hc1 := run_cat ⟨#[102]⟩ xa (by rw [hs1, hxa.out.2]; decide)
        have hc2 := run_cat (⟨#[102]⟩ ++ xa) xb (by rw [ByteArray.size_append, hs1, hxa.out.2, hxb.out.2]; decide)
        clear hs1
        have HNM : Hid ((⟨#[102]⟩ ++ xa ++ xb : ByteArray) = nmI i) := by
          have := name_is i
          rw [ha.out, hb.out, hxa.out.1, hxb.out.1] at this; exact this
        go_wp2
        go_still_tail 17, (by kernel_rfl)
        have H6 := Lib.hid (lm_app (HS.out.below ((Below.refl _ _).drew)) hi1 hlt _ HNM.out)
        clear hra hrb hc1 hc2 hmod hdiv hwa hwb hwb0
        go_wp2_with (go_at_call 7; refine H6.out.mono ?_; rintro e w6 ⟨rfl, H7⟩)
        exact ⟨⟨i + 1, by omega, hlt, by go_num, H7.out⟩, by simp [intOf]; omega⟩
      · have hi : i = 64 := by omega
        subst hi
        have H6 := Lib.hid HS.out
        clear HS hlt hi1 hi2
        go_wp2_with fail
        refine (lm_names H6.out).mono ?_
        rintro e w6 ⟨A6, c6, rfl, H7⟩
        go_wp2_with fail
        refine (lm_full H7.out).mono ?_
        rintro e w7 ⟨rfl, rfl⟩
        go_wp2_with fail
        refine (n_any 11 _).mono ?_
        rintro e w8 ⟨rfl, hb8⟩
        have H8 : Hid (Lm w w1.heap.size B 64 w8) := H7.out.below hb8
        clear hb8
        go_wp2_with fail
        refine (fails_plain 11 11 _ (HT.out.below H8.out.old)).mono ?_
        rintro e w9 ⟨rfl, hb9⟩
        have H9 : Hid (Lm w w1.heap.size B 64 w9) := H8.out.below hb9
        clear hb9
        go_wp2_with fail
        refine (lm_del H9.out).mono ?_
        rintro e w10 ⟨rfl, H10⟩
        go_wp2_with fail
        refine (lm_last H10.out).mono ?_
        rintro e w11 ⟨rfl, H11⟩
        go_wp2
        go_ret
        exact ⟨rfl, H11.out⟩

theorem limits_any (more : Int) (w : World) (hT : ErrT w) : Calls Tryd.prog 3 #[.int .i64 more] w fun e w' => e = .returned (.bool true) ∧ Below w.heap.size w w' := by
  by_cases h : more < 0
  · exact limits_out more w (.inl h)
  · by_cases h2 : 5 < more
    · exact limits_out more w (.inr ⟨h, h2⟩)
    · obtain ⟨m, rfl⟩ : ∃ m : Nat, more = (m : Int) := ⟨more.toNat, by omega⟩
      exact limits_in m w hT (by omega)
end Go.Proofs.YtfhdcjfkngflbaaDoor
