/-
  disk: the document's Name is the program's. Own work (printed from the walk of disk.name).
-/
import Derived.Test.YtfhdcjfkngflbaaDiskOps
set_option linter.unusedSimpArgs false
set_option linter.unusedVariables false
namespace Go.Proofs.Ytfhdcjfkngflbaa
open Go Go.RowKit

theorem nm_short {s : ByteArray} (h : s.size < 1 ∨ 64 < s.size) : nmB s = false := by
  unfold nmB
  have : decide (1 ≤ s.size ∧ s.size ≤ 64) = false := by rw [decide_eq_false_iff_not]; omega
  rw [this]; simp
set_option maxHeartbeats 1000000 in
theorem refname_any (s : ByteArray) (w : World) (hs : s.size ≤ 4611686018427387904) :
    Calls Try.prog 15 #[.string s] w fun e w' => e = .returned (.bool (nmB s)) ∧ w = w' := by
  have HS := Lib.hid hs
  by_cases g1 : s.size < 1
  · have HB := Lib.hid (nm_short (.inl g1))
    have d1 : decide ((s.size : Int) < 1) = true := by rw [decide_eq_true_iff]; omega
    clear hs
    go_enter Try.func15, Try.ntmps15
    go_wp2
    go_ret
    exact ⟨by rw [HB.out]; rfl, rfl⟩
  by_cases g2 : 64 < s.size
  · have HB := Lib.hid (nm_short (.inr g2))
    have d1 : decide ((s.size : Int) < 1) = false := by rw [decide_eq_false_iff_not]; omega
    have d2 : decide ((s.size : Int) > 64) = true := by rw [decide_eq_true_iff]; omega
    clear hs
    go_enter Try.func15, Try.ntmps15
    go_wp2
    go_ret
    exact ⟨by rw [HB.out]; rfl, rfl⟩
  have HSZ : Hid (1 ≤ s.size ∧ s.size ≤ 64) := by simp only [Hid]; omega
  have d1 : decide ((s.size : Int) < 1) = false := by rw [decide_eq_false_iff_not]; omega
  have d2 : decide ((s.size : Int) > 64) = false := by rw [decide_eq_false_iff_not]; omega
  clear hs
  go_enter Try.func15, Try.ntmps15
  go_wp2
  go_loop [3] (fun i => ∃ k : Nat, k ≤ s.size ∧ i = .int .i64 k ∧ allB s k = true) (fun i => s.size - (intOf i).toNat)
  case atStart => exact ⟨0, Nat.zero_le _, rfl, rfl⟩
  case round =>
    obtain ⟨k, hk, rfl, hr⟩ := hrel
    have HR : Hid (allB s k = true) := hr
    clear hr
    by_cases hlt : k < s.size
    · have hw1 : IntKind.i64.wrap ((k : Int) + 1) = ((k + 1 : Nat) : Int) := by have := HS.out; rw [IntKind.wrap_i64]; omega
      by_cases h1 : (97 : Int) ≤ ((s[k]).toNat : Int)
      · by_cases h2 : ((s[k]).toNat : Int) ≤ 122
        · have HB : Hid (allB s (k + 1) = true) := by simp only [Hid]; rw [allB_succ s k hlt, HR.out]; simp [okB, *]; try omega
          go_wp2
          exact ⟨⟨k + 1, by omega, by go_num, HB.out⟩, by simp [intOf]; omega⟩
        · have h3 : (48 : Int) ≤ ((s[k]).toNat : Int) := by omega
          have h4 : ¬ ((s[k]).toNat : Int) ≤ 57 := by omega
          have h5 : (((s[k]).toNat : Int) == 95) = false := by simp; omega
          have h6 : (((s[k]).toNat : Int) == 46) = false := by simp; omega
          have h7 : ¬ ((s[k]).toNat : Int) = 95 := by omega
          have h8 : ¬ ((s[k]).toNat : Int) = 46 := by omega
          have HB : Hid (nmB s = false) := allB_bad s k hlt (by rw [okB, decide_eq_false_iff_not]; omega)
          go_wp2
          go_ret
          exact ⟨by rw [HB.out]; rfl, rfl⟩
      · by_cases h3 : (48 : Int) ≤ ((s[k]).toNat : Int)
        · by_cases h4 : ((s[k]).toNat : Int) ≤ 57
          · have HB : Hid (allB s (k + 1) = true) := by simp only [Hid]; rw [allB_succ s k hlt, HR.out]; simp [okB, *]; try omega
            go_wp2
            exact ⟨⟨k + 1, by omega, by go_num, HB.out⟩, by simp [intOf]; omega⟩
          · have h8 : ¬ ((s[k]).toNat : Int) = 46 := by omega
            have h6 : (((s[k]).toNat : Int) == 46) = false := by simp; omega
            by_cases h7 : ((s[k]).toNat : Int) = 95
            · have h5 : (((s[k]).toNat : Int) == 95) = true := by simp [h7]
              have HB : Hid (allB s (k + 1) = true) := by simp only [Hid]; rw [allB_succ s k hlt, HR.out]; simp [okB, *]; try omega
              go_wp2
              exact ⟨⟨k + 1, by omega, by go_num, HB.out⟩, by simp [intOf]; omega⟩
            · have h5 : (((s[k]).toNat : Int) == 95) = false := by simp [h7]
              have HB : Hid (nmB s = false) := allB_bad s k hlt (by rw [okB, decide_eq_false_iff_not]; omega)
              go_wp2
              go_ret
              exact ⟨by rw [HB.out]; rfl, rfl⟩
        · have h7 : ¬ ((s[k]).toNat : Int) = 95 := by omega
          have h5 : (((s[k]).toNat : Int) == 95) = false := by simp [h7]
          by_cases h8 : ((s[k]).toNat : Int) = 46
          · have h6 : (((s[k]).toNat : Int) == 46) = true := by simp [h8]
            have HB : Hid (allB s (k + 1) = true) := by simp only [Hid]; rw [allB_succ s k hlt, HR.out]; simp [okB, *]; try omega
            go_wp2
            exact ⟨⟨k + 1, by omega, by go_num, HB.out⟩, by simp [intOf]; omega⟩
          · have h6 : (((s[k]).toNat : Int) == 46) = false := by simp [h8]
            have HB : Hid (nmB s = false) := allB_bad s k hlt (by rw [okB, decide_eq_false_iff_not]; omega)
            go_wp2
            go_ret
            exact ⟨by rw [HB.out]; rfl, rfl⟩
    · have hks : k = s.size := by omega
      subst hks
      have HB : Hid (nmB s = true) := by
        simp only [Hid, nmB, HR.out]; simpa using HSZ.out
      go_wp2
      go_ret
      exact ⟨by rw [HB.out]; rfl, rfl⟩
end Go.Proofs.Ytfhdcjfkngflbaa
