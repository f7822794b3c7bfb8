/-
  disk.name: exactly what it answers, at every string. Own work.
-/
import Derived.Test.YtfhdcjfkngflbaaDoorProg
import Derived.WalkKit
import Derived.BigQuiet
import Derived.Deep.DeepFit
import Derived.KernelRfl
import Derived.Lib.Hide
set_option linter.unusedSimpArgs false
set_option linter.unusedVariables false
namespace Go.Proofs.YtfhdcjfkngflbaaDoor
open Go Go.RowKit

def okB (c : Int) : Bool := decide ((97 ≤ c ∧ c ≤ 122) ∨ (48 ≤ c ∧ c ≤ 57) ∨ c = 95 ∨ c = 46)
def allB (s : ByteArray) (k : Nat) : Bool := (s.data.toList.take k).all fun c => okB (c.toNat : Int)
def nmB (s : ByteArray) : Bool := allB s s.size && decide (1 ≤ s.size ∧ s.size ≤ 64)
theorem allB_zero (s : ByteArray) : allB s 0 = true := rfl
theorem allB_succ (s : ByteArray) (k : Nat) (h : k < s.size) : allB s (k + 1) = (allB s k && okB ((s[k]).toNat : Int)) := by
  unfold allB
  rw [List.take_succ_eq_append_getElem (by simpa using h), List.all_append]
  simp
  rfl
theorem allB_bad (s : ByteArray) (k : Nat) (h : k < s.size) (hb : okB ((s[k]).toNat : Int) = false) : nmB s = false := by
  unfold nmB allB
  have hm : s.data.toList[k]'(by simpa using h) ∈ s.data.toList.take s.size := by
    rw [List.take_of_length_le (by simp)]; exact List.getElem_mem _
  have : (s.data.toList.take s.size).all (fun c => okB (c.toNat : Int)) = false := by
    rw [Bool.eq_false_iff]
    intro h2
    have := List.all_eq_true.1 h2 _ hm
    have h3 : okB ((s.data.toList[k]'(by simpa using h)).toNat : Int) = false := hb
    rw [h3] at this; cases this
  rw [this]; rfl

set_option maxHeartbeats 1000000 in
theorem dname_any (s : ByteArray) (w : World) (hs : s.size ≤ 4611686018427387904) :
    Calls Tryd.prog 19 #[.string s] w fun e w' => e = .returned (.bool (nmB s)) ∧ w = w' := by
  have HS := Lib.hid hs
  clear hs
  go_enter Tryd.func19, Tryd.ntmps19
  go_wp2
  go_loop [7] (fun i => ∃ k : Nat, k ≤ s.size ∧ i = .int .i64 k ∧ allB s k = true) (fun i => s.size - (intOf i).toNat)
  case atStart => exact ⟨0, Nat.zero_le _, rfl, rfl⟩
  case round =>
    obtain ⟨k, hk, rfl, hr⟩ := hrel
    have HR : Hid (allB s k = true) := hr
    clear hr
    by_cases hlt : k < s.size
    · have hw1 : IntKind.i64.wrap ((k : Int) + 1) = ((k + 1 : Nat) : Int) := by have := HS.out; rw [IntKind.wrap_i64]; omega
      by_cases h1 : (97 : Int) ≤ ((s[k]).toNat : Int)
      · by_cases h2 : ((s[k]).toNat : Int) ≤ 122
        · have HB : Hid (allB s (k + 1) = true) := by simp only [Hid]; rw [allB_succ s k hlt, HR.out]; simp [okB, *]; try omega
          go_wp2
          exact ⟨⟨k + 1, by omega, by go_num, HB.out⟩, by simp [intOf]; omega⟩
        · have h3 : (48 : Int) ≤ ((s[k]).toNat : Int) := by omega
          have h4 : ¬ ((s[k]).toNat : Int) ≤ 57 := by omega
          have h5 : (((s[k]).toNat : Int) == 95) = false := by simp; omega
          have h6 : (((s[k]).toNat : Int) == 46) = false := by simp; omega
          have h7 : ¬ ((s[k]).toNat : Int) = 95 := by omega
          have h8 : ¬ ((s[k]).toNat : Int) = 46 := by omega
          have HB : Hid (nmB s = false) := allB_bad s k hlt (by rw [okB, decide_eq_false_iff_not]; omega)
          go_wp2
          go_ret
          exact ⟨by rw [HB.out]; rfl, rfl⟩
      · by_cases h3 : (48 : Int) ≤ ((s[k]).toNat : Int)
        · by_cases h4 : ((s[k]).toNat : Int) ≤ 57
          · have HB : Hid (allB s (k + 1) = true) := by simp only [Hid]; rw [allB_succ s k hlt, HR.out]; simp [okB, *]; try omega
            go_wp2
            exact ⟨⟨k + 1, by omega, by go_num, HB.out⟩, by simp [intOf]; omega⟩
          · have h8 : ¬ ((s[k]).toNat : Int) = 46 := by omega
            have h6 : (((s[k]).toNat : Int) == 46) = false := by simp; omega
            by_cases h7 : ((s[k]).toNat : Int) = 95
            · have h5 : (((s[k]).toNat : Int) == 95) = true := by simp [h7]
              have HB : Hid (allB s (k + 1) = true) := by simp only [Hid]; rw [allB_succ s k hlt, HR.out]; simp [okB, *]; try omega
              go_wp2
              exact ⟨⟨k + 1, by omega, by go_num, HB.out⟩, by simp [intOf]; omega⟩
            · have h5 : (((s[k]).toNat : Int) == 95) = false := by simp [h7]
              have HB : Hid (nmB s = false) := allB_bad s k hlt (by rw [okB, decide_eq_false_iff_not]; omega)
              go_wp2
              go_ret
              exact ⟨by rw [HB.out]; rfl, rfl⟩
        · have h7 : ¬ ((s[k]).toNat : Int) = 95 := by omega
          have h5 : (((s[k]).toNat : Int) == 95) = false := by simp [h7]
          by_cases h8 : ((s[k]).toNat : Int) = 46
          · have h6 : (((s[k]).toNat : Int) == 46) = true := by simp [h8]
            have HB : Hid (allB s (k + 1) = true) := by simp only [Hid]; rw [allB_succ s k hlt, HR.out]; simp [okB, *]; try omega
            go_wp2
            exact ⟨⟨k + 1, by omega, by go_num, HB.out⟩, by simp [intOf]; omega⟩
          · have h6 : (((s[k]).toNat : Int) == 46) = false := by simp [h8]
            have HB : Hid (nmB s = false) := allB_bad s k hlt (by rw [okB, decide_eq_false_iff_not]; omega)
            go_wp2
            go_ret
            exact ⟨by rw [HB.out]; rfl, rfl⟩
    · have hks : k = s.size := by omega
      subst hks
      by_cases h1 : 1 ≤ s.size
      · by_cases h2 : s.size ≤ 64
        · have HB : Hid (nmB s = true) := by simp only [Hid, nmB, HR.out]; simp; omega
          have g1 : decide ((s.size : Int) ≥ 1) = true := by rw [decide_eq_true_iff]; omega
          have g2 : decide ((s.size : Int) ≤ 64) = true := by rw [decide_eq_true_iff]; omega
          go_wp2
          go_ret
          exact ⟨by rw [HB.out]; rfl, rfl⟩
        · have HB : Hid (nmB s = false) := by simp only [Hid, nmB, HR.out]; simp; omega
          have g1 : decide ((s.size : Int) ≥ 1) = true := by rw [decide_eq_true_iff]; omega
          have g2 : decide ((s.size : Int) ≤ 64) = false := by rw [decide_eq_false_iff_not]; omega
          go_wp2
          go_ret
          exact ⟨by rw [HB.out]; rfl, rfl⟩
      · have HB : Hid (nmB s = false) := by simp only [Hid, nmB, HR.out]; simp; omega
        have g1 : decide ((s.size : Int) ≥ 1) = false := by rw [decide_eq_false_iff_not]; omega
        go_wp2
        go_ret
        exact ⟨by rw [HB.out]; rfl, rfl⟩
end Go.Proofs.YtfhdcjfkngflbaaDoor
