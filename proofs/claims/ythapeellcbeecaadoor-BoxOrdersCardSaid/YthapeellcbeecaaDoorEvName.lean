/-
  event.letter, event.run, event.Name: exactly what they answer, at every string. Own work.
-/
import Derived.Test.YthapeellcbeecaaDoorProg
import Derived.WalkKit
import Derived.BigQuiet
import Derived.Deep.DeepFit
import Derived.KernelRfl
set_option linter.unusedSimpArgs false
set_option linter.unusedVariables false
namespace Go.Proofs.YthapeellcbeecaaDoor
open Go Go.RowKit

def letB (c : Int) : Bool := decide (c = 95 ∨ (97 ≤ c ∧ c ≤ 122) ∨ (48 ≤ c ∧ c ≤ 57))

theorem letter_any (c : Int) (w : World) :
    Calls Tryd.prog 29 #[.int .u8 c] w fun e w' => e = .returned (.bool (letB c)) ∧ w = w' := by
  by_cases h1 : c = 95
  · have hb : letB c = true := by simp [letB, h1]
    rw [hb]
    have g1 : (c == 95) = true := by simp [h1]
    clear h1 hb
    go_enter Tryd.func29, Tryd.ntmps29
    go_wp2
    go_ret
    exact ⟨rfl, rfl⟩
  · have g1 : (c == 95) = false := by simp [h1]
    by_cases h2 : 97 ≤ c
    · by_cases h3 : c ≤ 122
      · have hb : letB c = true := by simp [letB, h2, h3]
        rw [hb]; clear hb h1
        go_enter Tryd.func29, Tryd.ntmps29
        go_wp2
        go_ret
        exact ⟨rfl, rfl⟩
      · have hb : letB c = false := by simp [letB, h1]; omega
        have h4 : 48 ≤ c := by omega
        have h5 : ¬ c ≤ 57 := by omega
        rw [hb]; clear hb h1
        go_enter Tryd.func29, Tryd.ntmps29
        go_wp2
        go_ret
        exact ⟨rfl, rfl⟩
    · by_cases h4 : 48 ≤ c
      · by_cases h5 : c ≤ 57
        · have hb : letB c = true := by simp [letB, h4, h5]
          rw [hb]; clear hb h1
          go_enter Tryd.func29, Tryd.ntmps29
          go_wp2
          go_ret
          exact ⟨rfl, rfl⟩
        · have hb : letB c = false := by simp [letB, h1]; omega
          rw [hb]; clear hb h1
          go_enter Tryd.func29, Tryd.ntmps29
          go_wp2
          go_ret
          exact ⟨rfl, rfl⟩
      · have hb : letB c = false := by simp [letB, h1]; omega
        rw [hb]; clear hb h1
        go_enter Tryd.func29, Tryd.ntmps29
        go_wp2
        go_ret
        exact ⟨rfl, rfl⟩

/-- How many letters stand from a place on. -/
def runN (s : ByteArray) (at_ : Nat) : Nat := ((s.data.toList.drop at_).takeWhile fun c => letB (c.toNat : Int)).length

theorem runN_end (s : ByteArray) (k : Nat) (h : s.size ≤ k) : runN s k = 0 := by
  unfold runN; rw [List.drop_eq_nil_of_le (by simpa using h)]; rfl
theorem runN_yes (s : ByteArray) (k : Nat) (h : k < s.size) (hb : letB ((s[k]).toNat : Int) = true) : runN s k = runN s (k + 1) + 1 := by
  unfold runN
  rw [List.drop_eq_getElem_cons (by simpa using h)]
  have : letB ((s.data.toList[k]'(by simpa using h)).toNat : Int) = true := hb
  rw [List.takeWhile_cons, if_pos this]
  simp
theorem runN_no (s : ByteArray) (k : Nat) (h : k < s.size) (hb : letB ((s[k]).toNat : Int) = false) : runN s k = 0 := by
  unfold runN
  rw [List.drop_eq_getElem_cons (by simpa using h)]
  have : letB ((s.data.toList[k]'(by simpa using h)).toNat : Int) = false := hb
  rw [List.takeWhile_cons, if_neg (by rw [this]; simp)]
  rfl
theorem runN_le (s : ByteArray) (k : Nat) (hk : k ≤ s.size) : k + runN s k ≤ s.size := by
  have h1 := (List.takeWhile_prefix (fun c : UInt8 => letB (c.toNat : Int)) (l := s.data.toList.drop k)).length_le
  have h2 : (s.data.toList.drop k).length = s.size - k := by simp
  unfold runN; omega

theorem run_any (s : ByteArray) (w : World) (hs : s.size ≤ 1000000000) :
    Calls Tryd.prog 24 #[.string s, .int .i64 0] w fun e w' => e = .returned (.int .i64 (runN s 0)) ∧ w = w' := by
  go_enter Tryd.func24, Tryd.ntmps24
  go_wp2
  go_loop [1] (fun i => ∃ k : Nat, k ≤ s.size ∧ i = .int .i64 k ∧ runN s 0 = k + runN s k) (fun i => s.size - (intOf i).toNat)
  case atStart => exact ⟨0, Nat.zero_le _, rfl, by simp⟩
  case round =>
    obtain ⟨k, hk, rfl, hr⟩ := hrel
    have HR : Hid (runN s 0 = k + runN s k) := hr
    clear hr
    by_cases hlt : k < s.size
    · cases hb : letB ((s[k]).toNat : Int) with
      | true =>
        have HS : Hid (runN s k = runN s (k + 1) + 1) := runN_yes s k hlt hb
        have HB : Hid (letB ((s[k]).toNat : Int) = true) := hb
        clear hb
        go_wp2_with (go_at_call 29; refine (letter_any _ _).mono ?_; rw [HB.out]; rintro e w' ⟨rfl, rfl⟩)
        go_round
        case rel => exact ⟨k + 1, by omega, by go_num, by rw [HR.out, HS.out]; omega⟩
        case measure => simp [intOf]; omega
      | false =>
        have HS : Hid (runN s k = 0) := runN_no s k hlt hb
        have HB : Hid (letB ((s[k]).toNat : Int) = false) := hb
        clear hb
        go_wp2_with (go_at_call 29; refine (letter_any _ _).mono ?_; rw [HB.out]; rintro e w' ⟨rfl, rfl⟩)
        go_ret
        exact ⟨by rw [HR.out, HS.out]; rfl, rfl⟩
    · have HS : Hid (runN s k = 0) := runN_end s k (by omega)
      go_wp2
      go_ret
      exact ⟨by rw [HR.out, HS.out]; rfl, rfl⟩

/-- Is s a name? -/
def nameB (s : ByteArray) : Bool := decide (1 ≤ s.size ∧ s.size ≤ 16) && (if h : 0 < s.size then decide ((97 : Int) ≤ ((s[0]'h).toNat : Int) ∧ ((s[0]'h).toNat : Int) ≤ 122) else false) && decide (runN s 0 = s.size)

theorem name_any (s : ByteArray) (w : World) :
    Calls Tryd.prog 20 #[.string s] w fun e w' => e = .returned (.bool (nameB s)) ∧ w = w' := by
  by_cases h1 : 1 ≤ s.size
  · by_cases h2 : s.size ≤ 16
    · by_cases h3 : (97 : Int) ≤ ((s[0]'h1).toNat : Int)
      · by_cases h4 : ((s[0]'h1).toNat : Int) ≤ 122
        · by_cases h5 : runN s 0 = s.size
          · have HB : Hid (nameB s = true) := by simp only [Hid, nameB]; rw [dif_pos (by omega)]; simp [h1, h2, h3, h4, h5]
            have HR : Hid (runN s 0 = s.size) := h5
            have h6 : (((s.size : Nat) : Int) == (s.size : Int)) = true := by simp
            rw [HB.out]
            clear h5
            go_enter Tryd.func20, Tryd.ntmps20
            go_wp2_with (go_at_call 24; refine (run_any s _ (by omega)).mono ?_; rw [HR.out]; rintro e w' ⟨rfl, rfl⟩)
            go_ret
            exact ⟨rfl, rfl⟩
          · have HB : Hid (nameB s = false) := by simp only [Hid, nameB]; simp [h5]
            have h6 : (((runN s 0 : Nat) : Int) == (s.size : Int)) = false := by simp; omega
            rw [HB.out]
            clear h5
            go_enter Tryd.func20, Tryd.ntmps20
            go_wp2_with (go_at_call 24; refine (run_any s _ (by omega)).mono ?_; rintro e w' ⟨rfl, rfl⟩)
            go_ret
            exact ⟨rfl, rfl⟩
        · have HB : Hid (nameB s = false) := by simp only [Hid, nameB]; rw [dif_pos (by omega)]; simp [h4]
          rw [HB.out]
          go_enter Tryd.func20, Tryd.ntmps20
          go_wp2
          go_ret
          exact ⟨rfl, rfl⟩
      · have HB : Hid (nameB s = false) := by simp only [Hid, nameB]; rw [dif_pos (by omega)]; simp [h3]
        rw [HB.out]
        go_enter Tryd.func20, Tryd.ntmps20
        go_wp2
        go_ret
        exact ⟨rfl, rfl⟩
    · have HB : Hid (nameB s = false) := by simp only [Hid, nameB]; simp [h2]
      rw [HB.out]
      go_enter Tryd.func20, Tryd.ntmps20
      go_wp2
      go_ret
      exact ⟨rfl, rfl⟩
  · have HB : Hid (nameB s = false) := by simp only [Hid, nameB]; simp [h1]
    rw [HB.out]
    go_enter Tryd.func20, Tryd.ntmps20
    go_wp2
    go_ret
    exact ⟨rfl, rfl⟩

end Go.Proofs.YthapeellcbeecaaDoor
