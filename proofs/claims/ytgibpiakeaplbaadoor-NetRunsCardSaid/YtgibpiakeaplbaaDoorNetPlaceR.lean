/-
  The reference's place. Own work.
-/
import Derived.Test.YtgibpiakeaplbaaDoorNetRef2
set_option linter.unusedSimpArgs false
set_option linter.unusedVariables false
namespace Go.Proofs.YtgibpiakeaplbaaDoor
open Go Go.RowKit

set_option maxHeartbeats 1000000 in
theorem place_ref (A : Option Addr) (n c : Nat) (l : List RP) (hl : l.length = n) (hn : n ≤ 100000) (k : Int × Int) (i : Nat) (hi : i < (line k l).length) (w : World) (h : PackAt w A l) :
    Calls Tryd.prog 38 #[.slice A n c, .int .i64 k.1, .int .i64 k.2, .int .i64 i] w fun e w' => e = .returned (.int .i64 (idx k l i)) ∧ Below w.heap.size w w' := by
  have HP := Lib.hid h
  have HL : Hid (l.length = n ∧ n ≤ 100000 ∧ i ≤ 100000) := ⟨hl, hn, by have := line_len_le k l; omega⟩
  clear h hl hn
  go_enter Tryd.func38, Tryd.ntmps38
  go_wp2
  go_loopw [3, 13] (fun t u wr => ∃ (j : Nat) (i2 : Int), j ≤ n ∧ u = .int .i64 j ∧ t = .int .i64 i2 ∧ Hid ((0 ≤ i2 ∧ i2.toNat < (line k (l.drop j)).length) ∧ i2 ≤ 100000 ∧ idx k l i = j + idx k (l.drop j) i2.toNat ∧ Below w.heap.size w wr)) (fun _ u _ => n - (intOf u).toNat)
  case atStart => exact ⟨0, i, Nat.zero_le _, rfl, rfl, ⟨by omega, by simpa using hi⟩, by have := HL.out; omega, by simp, Below.refl _ _⟩
  case round =>
    obtain ⟨j, i2, hj, rfl, rfl, HS⟩ := hrel
    have hlt : j < n := by
      by_cases e : j < n
      · exact e
      · have h1 := HS.out.1.2
        have : l.drop j = [] := List.eq_nil_of_length_eq_zero (by have := HL.out; simp; omega)
        rw [this] at h1; simp [line] at h1
    obtain ⟨x, hx⟩ : ∃ x, Hid (l[j]? = some x) := ⟨_, List.getElem?_eq_getElem (by have := HL.out; omega)⟩
    obtain ⟨g, rfl, d0, d1, d2⟩ := (HP.out.below HS.out.2.2.2) j x hx.out
    have hw1 : IntKind.i64.wrap ((j : Int) + 1) = ((j + 1 : Nat) : Int) := by have := HL.out; rw [IntKind.wrap_i64]; omega
    have hlt2 : ((j : Nat) : Int) < n := by omega
    have hb0 : ((0 : Int) ≤ j) := by omega
    have hbd : Hid (∀ o, Below w.heap.size w (wr.alloc o)) := fun o => HS.out.2.2.2.alloc HS.out.2.2.2.size o
    have other : x.1 ≠ k → Hid ((0 ≤ i2 ∧ i2.toNat < (line k (l.drop (j + 1))).length) ∧ idx k l i = j + 1 + idx k (l.drop (j + 1)) i2.toNat) := fun e => by
      obtain ⟨h1, h2⟩ := idx_drop_other hx.out e i2.toNat
      have h3 := HS.out
      rw [h2] at h3
      exact ⟨h3.1, by omega⟩
    by_cases h1 : x.1.1 = k.1
    · by_cases h2 : x.1.2 = k.2
      · have e : x.1 = k := Prod.ext h1 h2
        have e1 : decide (x.1.1 = k.1) = true := by simp [h1]
        have e2 : decide (x.1.2 = k.2) = true := by simp [h2]
        have e3 : (x.1.1 != k.1) = false := by simp [h1]
        have e4 : (x.1.2 != k.2) = false := by simp [h2]
        clear other
        by_cases hz : i2 = 0
        · subst hz
          have HI : Hid (idx k l i = j) := by
            have h3 := HS.out.2.2.1
            rw [show (0 : Int).toNat = 0 from rfl, idx_drop_hit hx.out e] at h3
            exact h3
          clear e
          go_wp2
          go_ret
          exact ⟨by rw [HI.out]; rfl, hbd.out _⟩
        · obtain ⟨i3, hi3⟩ : ∃ i3 : Nat, i2.toNat = i3 + 1 := ⟨i2.toNat - 1, by have := HS.out.1.1; omega⟩
          have HI : Hid ((0 ≤ i2 - 1 ∧ (i2 - 1).toNat < (line k (l.drop (j + 1))).length) ∧ i2 - 1 ≤ 100000 ∧ idx k l i = j + 1 + idx k (l.drop (j + 1)) (i2 - 1).toNat) := by
            obtain ⟨h1, h2⟩ := idx_drop_next hx.out e i3
            have h3 := HS.out
            rw [h2, hi3, h1] at h3
            have e9 : (i2 - 1).toNat = i3 := by omega
            rw [e9]
            simp at h3
            exact ⟨⟨by omega, by omega⟩, by omega, by omega⟩
          have hz2 : decide (i2 = 0) = false := by simp [hz]
          have hw2 : IntKind.i64.wrap (i2 - 1) = i2 - 1 := by have := HI.out; rw [IntKind.wrap_i64]; omega
          clear e hi3
          go_wp2
          exact ⟨⟨j + 1, i2 - 1, hlt, rfl, rfl, HI.out.1, HI.out.2.1, HI.out.2.2, hbd.out _⟩, by simp [intOf]; omega⟩
      · have HO := other fun e => h2 (by rw [e])
        have e1 : decide (x.1.1 = k.1) = true := by simp [h1]
        have e2 : decide (x.1.2 = k.2) = false := by simp [h2]
        have e3 : (x.1.1 != k.1) = false := by simp [h1]
        have e4 : (x.1.2 != k.2) = true := by simp [h2]
        clear other
        go_wp2
        exact ⟨⟨j + 1, i2, hlt, rfl, rfl, HO.out.1, HS.out.2.1, HO.out.2, hbd.out _⟩, by simp [intOf]; omega⟩
    · have HO := other fun e => h1 (by rw [e])
      have e1 : decide (x.1.1 = k.1) = false := by simp [h1]
      have e3 : (x.1.1 != k.1) = true := by simp [h1]
      clear other
      go_wp2
      exact ⟨⟨j + 1, i2, hlt, rfl, rfl, HO.out.1, HS.out.2.1, HO.out.2, hbd.out _⟩, by simp [intOf]; omega⟩
end Go.Proofs.YtgibpiakeaplbaaDoor
