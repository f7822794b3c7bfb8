/-
  tree: slices.DeleteFunc at numbers (Leave's closure), walked. Own work.
-/
import Derived.Test.YtlkfcfcejicdkaaGreatDoorTreeDelL
set_option linter.unusedSimpArgs false
set_option linter.unusedVariables false
namespace Go.Proofs.YtlkfcfcejicdkaaGreatDoor
open Go Go.RowKit

/-- The closure's value: it holds a number's box. -/
abbrev lfn (bk : Nat) : Value := .func (.func 62) #[] #[.pointer (some ⟨bk, 0, none⟩)]
theorem lclos_any (a x : Int) (bk : Nat) (w : World) (hk : w.heap[bk]? = some (.cells #[.int .i64 x] 3 (0, 0))) :
    Calls Tryz.prog 62 #[.int .i64 a, .pointer (some ⟨bk, 0, none⟩)] w fun e w' => e = .returned (.bool (decide (a = x))) ∧ Below w.heap.size w w' := by
  obtain ⟨k0, kf, kl⟩ := cell1 hk
  clear hk
  obtain ⟨r, hr⟩ : ∃ r, Hid (decide (a = x) = r) := ⟨_, rfl⟩
  have heq2 : (a == x) = r := by rw [← hr.out]; by_cases h : a = x <;> simp [h]
  rw [hr.out]
  go_enter Tryz.func62, Tryz.ntmps62
  go_wp2
  first
  | (go_ret; exact ⟨rfl, Below.refl _ _⟩)
  | (go_quiet (fail); go_wp2; go_ret; exact ⟨rfl, bdrewN (Below.refl _ _) _⟩)
def butI (l : List Int) (x : Int) : List Int := l.filter fun y => !(y == x)
section
variable (A : Option Addr) (n c : Nat) (ls : List Int) (k : Int) (bk : Nat) (w : World)
set_option maxHeartbeats 1000000 in
theorem indexI_any (hl : ls.length = n) (hA : RowAt w A (intVs ls)) (hn : n ≤ 4611686018427387904) (hk : w.heap[bk]? = some (.cells #[.int .i64 k] 3 (0, 0))) :
    Calls Tryz.prog 73 #[.slice A n c, lfn bk] w fun e w' => ∃ r : Int, e = .returned (.int .i64 r) ∧ Hid (Below w.heap.size w w' ∧ ((r = -1 ∧ k ∉ ls) ∨ ∃ i : Nat, r = i ∧ ls[i]? = some k ∧ k ∉ ls.take i)) := by
  have HA := Lib.hid hA
  have HN : Hid (n ≤ 4611686018427387904 ∧ ls.length = n) := ⟨hn, hl⟩
  have HC : Hid (∀ a1 W, Below w.heap.size w W → Calls Tryz.prog 62 #[.int .i64 a1, .pointer (some ⟨bk, 0, none⟩)] W fun e w' => e = .returned (.bool (decide (a1 = k))) ∧ Below W.heap.size W w') := fun a1 W hW => lclos_any a1 k bk W ((hW.block bk (Array.getElem?_eq_some_iff.1 hk).1).trans hk)
  clear hA hn hl hk
  go_enter Tryz.func73, Tryz.ntmps73
  go_wp2
  go_loopw [8] (fun i wr => ∃ (j : Nat), j ≤ n ∧ i = .int .i64 j ∧ Hid (k ∉ ls.take j ∧ Below w.heap.size w wr)) (fun i _ => n - (intOf i).toNat)
  case atStart => exact ⟨0, Nat.zero_le _, rfl, by simp, Below.refl _ _⟩
  case round =>
    obtain ⟨j, hj, rfl, HS⟩ := hrel
    by_cases hlt : j < n
    · obtain ⟨y, hy⟩ : ∃ y, Hid (ls[j]? = some y) := ⟨_, List.getElem?_eq_getElem (by have := HN.out; omega)⟩
      obtain ⟨g, off, rfl, d0, hg⟩ := (HA.out.below HS.out.2).int hy.out
      have HCy : Hid (Calls Tryz.prog 62 #[.int .i64 y, .pointer (some ⟨bk, 0, none⟩)] wr fun e w' => e = .returned (.bool (decide (y = k))) ∧ Below wr.heap.size wr w') := HC.out y wr HS.out.2
      have hw1 : IntKind.i64.wrap ((j : Int) + 1) = ((j + 1 : Nat) : Int) := by have := HN.out; rw [IntKind.wrap_i64]; omega
      have hj0 : ((0 : Int) ≤ j) := by omega
      have hj1 : ((j : Nat) : Int) < n := by omega
      by_cases hxy : y = k
      · rw [decide_eq_true hxy] at HCy
        have HX : Hid (ls[j]? = some k) := by rw [Hid, hy.out, hxy]
        clear hxy
        go_wp2_with (go_at_call 62; refine HCy.out.mono ?_; rintro e w5 ⟨rfl, hb5⟩)
        go_ret
        exact ⟨_, rfl, HS.out.2.trans (hb5.mono HS.out.2.size), .inr ⟨j, rfl, HX.out, HS.out.1⟩⟩
      · rw [decide_eq_false hxy] at HCy
        have HX : Hid (k ≠ y) := fun e => hxy e.symm
        clear hxy
        go_wp2_with (go_at_call 62; refine HCy.out.mono ?_; rintro e w5 ⟨rfl, hb5⟩)
        exact ⟨⟨j + 1, hlt, by go_num, mem_take_succ hy.out HS.out.1 HX.out, HS.out.2.trans (hb5.mono HS.out.2.size)⟩, by simp [intOf]; omega⟩
    · have hjn : j = n := by omega
      subst hjn
      go_wp2
      go_ret
      exact ⟨_, rfl, HS.out.2, .inl ⟨rfl, fun h => HS.out.1 (by rw [List.take_of_length_le (by have := HN.out; omega)]; exact h)⟩⟩
end
theorem ownI_set {w : World} {base g n c : Nat} {R : List Int} (h : w.ownsRow base 3 1 (.slice (some ⟨g, 0, none⟩) n c) n (intVs R)) (i : Nat) (v : Int) : (w.setCell ⟨g, i, none⟩ (.int .i64 v)).ownsRow base 3 1 (.slice (some ⟨g, 0, none⟩) n c) n (intVs (R.set i v)) := by
  have e : intVs (R.set i v) = (intVs R).set i (.int .i64 v) := by simp [intVs, List.map_set]
  rcases h.2 with ⟨hv, _⟩ | ⟨g', cap, cur, hv, hb, hh, h1, h2, h3, h4⟩
  · cases hv
  · injection hv with hv _ hc
    injection hv with hv
    injection hv with hv _ _
    subst hv hc
    refine ⟨by rw [e, List.length_set]; exact h.1, .inr ⟨g, c, cur.setIfInBounds i (.int .i64 v), rfl, hb, set_row hh _ _, h1, h2, by simp [h3], ?_⟩⟩
    rw [e, ← h4]
    simp only [Array.toList_setIfInBounds]
    rw [List.take_set]
theorem int_zero (w : World) : (zeroValue 3).run Tryz.prog w = .ok (.int .i64 0) w := by kernel_rfl

section
variable (A : Option Addr) (n c : Nat) (ls : List Int) (k : Int) (bk base : Nat) (w : World)
theorem butI_none {ls : List Int} {k : Int} (h : k ∉ ls) : butI ls k = ls := List.filter_eq_self.2 fun x hx => by
  have : x ≠ k := fun e => h (by rw [← e]; exact hx)
  simpa using this
theorem butI_snoc {ls : List Int} {k y : Int} {j : Nat} (hy : ls[j]? = some y) : butI (ls.take (j + 1)) k = butI (ls.take j) k ++ (if y = k then [] else [y]) := by
  rw [take_snoc hy]
  unfold butI
  rw [List.filter_append]
  congr 1
  by_cases e : y = k <;> simp [e]
set_option maxRecDepth 100000 in
set_option maxHeartbeats 4000000 in
theorem deleteI_any (hl : ls.length = n) (hrow : w.ownsRow base 3 1 (.slice A n c) n (intVs ls)) (hbase : base ≤ w.heap.size) (hn : n ≤ 1000) (hbk : bk < base) (hk : w.heap[bk]? = some (.cells #[.int .i64 k] 3 (0, 0))) :
    Calls Tryz.prog 61 #[.slice A n c, lfn bk] w fun e w' => ∃ m : Nat, e = .returned (.slice A m c) ∧ Hid ((butI ls k).length = m ∧ w'.ownsRow base 3 1 (.slice A m c) m (intVs (butI ls k)) ∧ Below base w w') := by
  have HI := Lib.hid (indexI_any A n c ls k bk w hl (RowAt.of_own hrow) (by omega) hk)
  have HN : Hid (n ≤ 1000 ∧ ls.length = n ∧ base ≤ w.heap.size ∧ bk < base) := ⟨hn, hl, hbase, hbk⟩
  have HRW := Lib.hid hrow
  have HC : Hid (∀ a1 W, Below base w W → Calls Tryz.prog 62 #[.int .i64 a1, .pointer (some ⟨bk, 0, none⟩)] W fun e w' => e = .returned (.bool (decide (a1 = k))) ∧ Below W.heap.size W w') := fun a1 W hW => lclos_any a1 k bk W ((hW.block bk hbk).trans hk)
  clear hl hrow hbase hn hbk hk
  go_enter Tryz.func61, Tryz.ntmps61
  go_wp2_with fail
  refine HI.out.mono ?_
  rintro e w1 ⟨r, rfl, HR⟩
  rcases HR.out.2 with ⟨hr, hkn⟩ | ⟨i0, hr, hki, hkt⟩
  · have HF : Hid ((butI ls k).length = n ∧ w1.ownsRow base 3 1 (.slice A n c) n (intVs (butI ls k)) ∧ Below base w w1) := by
      rw [butI_none hkn]
      exact ⟨HN.out.2.1, ownsRow_below HRW.out HR.out.1, HR.out.1.mono HN.out.2.2.1⟩
    subst hr
    clear hkn
    go_wp2
    go_ret
    exact ⟨n, rfl, HF.out⟩
  · have hi0 : i0 < n := by have := (List.getElem?_eq_some_iff.1 hki).1; have := HN.out; omega
    obtain ⟨g, rfl, hg⟩ : ∃ g, A = some ⟨g, 0, none⟩ ∧ base ≤ g := by
      rcases HRW.out.2 with ⟨hv, h0⟩ | ⟨g, cap, cur, hv, hb, _⟩
      · omega
      · injection hv with hA _ _
        exact ⟨g, hA, hb⟩
    have hb1 : ((i0 : Int) == -1) = false := by simp
    have hw0 : IntKind.i64.wrap ((i0 : Int) + 1) = ((i0 + 1 : Nat) : Int) := by have := HN.out; rw [IntKind.wrap_i64]; omega
    have HST : Hid (ls.length = n ∧ ls.take i0 = butI (ls.take (i0 + 1)) k ∧ ls.drop (i0 + 1) = ls.drop (i0 + 1) ∧ w1.ownsRow base 3 1 (.slice (some ⟨g, 0, none⟩) n c) n (intVs ls) ∧ Below base w w1) := by
      refine ⟨HN.out.2.1, ?_, rfl, ownsRow_below HRW.out HR.out.1, HR.out.1.mono HN.out.2.2.1⟩
      rw [butI_snoc hki, if_pos rfl, List.append_nil, butI_none hkt]
    have HI0 : Hid (i0 < n) := hi0
    subst hr
    clear hki hkt hi0 HR
    go_wp2
    go_loopw [5, 6] (fun iv jv wr => ∃ (i j : Nat) (R : List Int), i < j ∧ j ≤ n ∧ iv = .int .i64 i ∧ jv = .int .i64 j ∧ Hid (R.length = n ∧ R.take i = butI (ls.take j) k ∧ R.drop j = ls.drop j ∧ wr.ownsRow base 3 1 (.slice (some ⟨g, 0, none⟩) n c) n (intVs R) ∧ Below base w wr)) (fun _ jv _ => n - (intOf jv).toNat)
    case atStart => exact ⟨i0, i0 + 1, ls, by omega, HI0.out, rfl, by go_num, by obtain ⟨a1, a2, _, a3, a4⟩ := HST.out; exact ⟨a1, a2, rfl, a3, a4⟩⟩
    case round =>
      obtain ⟨i, j, R, hij, hj, rfl, rfl, HL⟩ := hrel
      have hi0 : ((0 : Int) ≤ i) := by omega
      have hiN : ((i : Nat) : Int) < n := by omega
      have hcap := row_cap2 HL.out.2.2.2.1
      obtain ⟨z, hz⟩ : ∃ z, Hid (R[i]? = some z) := ⟨R[i]'(by have := HL.out.1; omega), List.getElem?_eq_getElem (by have := HL.out.1; omega)⟩
      by_cases hlt : j < n
      · obtain ⟨y, hy⟩ : ∃ y, Hid (ls[j]? = some y) := ⟨ls[j]'(by have := HN.out; omega), List.getElem?_eq_getElem (by have := HN.out; omega)⟩
        have hyR : R[j]? = some y := by
          have h1 : (R.drop j)[0]? = (ls.drop j)[0]? := by rw [HL.out.2.2.1]
          rw [List.getElem?_drop, List.getElem?_drop, Nat.add_zero] at h1
          rw [h1]; exact hy.out
        obtain ⟨g', off', he, d0, _⟩ := (RowAt.of_own HL.out.2.2.2.1).int hyR
        cases he
        rw [Nat.zero_add] at d0
        have HCy : Hid (∀ W, Below wr.heap.size wr W → Calls Tryz.prog 62 #[.int .i64 y, .pointer (some ⟨bk, 0, none⟩)] W fun e w' => e = .returned (.bool (decide (y = k))) ∧ Below W.heap.size W w') := fun W hW => HC.out y W (HL.out.2.2.2.2.trans (hW.mono (Nat.le_trans HN.out.2.2.1 HL.out.2.2.2.2.size)))
        have hw1 : IntKind.i64.wrap ((j : Int) + 1) = ((j + 1 : Nat) : Int) := by have := HN.out; rw [IntKind.wrap_i64]; omega
        have hw2 : IntKind.i64.wrap ((i : Int) + 1) = ((i + 1 : Nat) : Int) := by have := HN.out; rw [IntKind.wrap_i64]; omega
        have hj0 : ((0 : Int) ≤ j) := by omega
        have hj1 : ((j : Nat) : Int) < n := by omega
        by_cases hxy : y = k
        · rw [decide_eq_true hxy] at HCy
          have HS2 : Hid (butI (ls.take (j + 1)) k = butI (ls.take j) k) := by rw [Hid, butI_snoc hy.out, if_pos hxy, List.append_nil]
          clear hxy hyR
          go_wp2_with fail
          refine (HCy.out wr (Below.refl _ _)).mono ?_
          rintro e w5 ⟨rfl, hb5⟩
          have HF : Hid (R.length = n ∧ R.take i = butI (ls.take (j + 1)) k ∧ R.drop (j + 1) = ls.drop (j + 1) ∧ w5.ownsRow base 3 1 (.slice (some ⟨g, 0, none⟩) n c) n (intVs R) ∧ Below base w w5) := by
            have h1 := HL.out
            have hb : Below wr.heap.size wr w5 := hb5
            refine ⟨h1.1, by rw [HS2.out]; exact h1.2.1, ?_, ownsRow_below h1.2.2.2.1 hb, h1.2.2.2.2.trans (hb.mono (Nat.le_trans HN.out.2.2.1 h1.2.2.2.2.size))⟩
            rw [← List.drop_drop, ← List.drop_drop, h1.2.2.1]
          clear hb5
          go_wp2
          exact ⟨⟨i, j + 1, R, by omega, hlt, rfl, by go_num, HF.out⟩, by simp [intOf]; omega⟩
        · rw [decide_eq_false hxy] at HCy
          have HS2 : Hid (butI (ls.take (j + 1)) k = butI (ls.take j) k ++ [y]) := by rw [Hid, butI_snoc hy.out, if_neg hxy]
          clear hxy hyR
          go_wp2_with fail
          refine (HCy.out wr (Below.refl _ _)).mono ?_
          rintro e w5 ⟨rfl, hb5⟩
          have HF : Hid (w5.ownsRow base 3 1 (.slice (some ⟨g, 0, none⟩) n c) n (intVs R) ∧ Below base w w5) := by
            have h1 := HL.out
            have hb : Below wr.heap.size wr w5 := hb5
            exact ⟨ownsRow_below h1.2.2.2.1 hb, h1.2.2.2.2.trans (hb.mono (Nat.le_trans HN.out.2.2.1 h1.2.2.2.2.size))⟩
          obtain ⟨g', off', he, z0, zl⟩ := (RowAt.of_own HF.out.1).int hz.out
          cases he
          rw [Nat.zero_add] at z0
          have zf : ∀ o, w5.frozen? ⟨g, o, none⟩ = false := fun o => by
            obtain ⟨cur, hh, _⟩ := own_block HF.out.1 (g := g) rfl
            simp [World.frozen?, hh]
          have hset := ownI_set HF.out.1 i y
          have HG2 : Hid ((w5.setCell ⟨g, i, none⟩ (.int .i64 y)).ownsRow base 3 1 (.slice (some ⟨g, 0, none⟩) n c) n (intVs (R.set i y)) ∧ Below base w (w5.setCell ⟨g, i, none⟩ (.int .i64 y))) := ⟨hset, belowS HF.out.2 hg _⟩
          have HPL : Hid ((R.set i y).length = n ∧ (R.set i y).take (i + 1) = butI (ls.take (j + 1)) k ∧ (R.set i y).drop (j + 1) = ls.drop (j + 1)) := by
            have h1 := HL.out
            refine ⟨by rw [List.length_set]; exact h1.1, ?_, ?_⟩
            · rw [HS2.out, ← h1.2.1, take_snoc (x := y) (by rw [List.getElem?_set_self (by omega)]), List.take_set, List.set_eq_of_length_le (by rw [List.length_take]; omega)]
            · rw [List.drop_set, if_pos (by omega), ← List.drop_drop, ← List.drop_drop, h1.2.2.1]
          clear hset hb5
          go_wp2
          exact ⟨⟨i + 1, j + 1, R.set i y, by omega, hlt, by go_num, by go_num, HPL.out.1, HPL.out.2.1, HPL.out.2.2, HG2.out⟩, by simp [intOf]; omega⟩
      · have hjn : j = n := by omega
        subst hjn
        have HEND : Hid (R.take i = butI ls k ∧ i ≤ R.length) := by
          have h1 := HL.out
          have h2 := h1.2.1
          rw [show ls.take j = ls from List.take_of_length_le (by have := HN.out; omega)] at h2
          exact ⟨h2, by omega⟩
        have hcells : ∀ q, q < j - i → (wr.cell? ⟨g, i + q, none⟩).isSome = true ∧ wr.frozen? ⟨g, i + q, none⟩ = false := fun q hq => by
          rcases HL.out.2.2.2.1.2 with ⟨hv, _⟩ | ⟨g', cap, cur, hv, hb, hh, h1, h2, h3, h4⟩
          · cases hv
          · injection hv with hv _ hc
            injection hv with hv
            injection hv with hv _ _
            subst hv hc
            have hlt : i + q < cur.size := by rw [h3]; omega
            exact ⟨by simp [World.cell?, hh, hlt], by simp [World.frozen?, hh]⟩
        obtain ⟨zs, hcl⟩ : ∃ zs, ∀ ty, (Builtin.clear_ #[22] ty #[.slice (some ⟨g, i, none⟩) (j - i) (c - i)]).run Tryz.prog wr = .ok (.tuple #[]) (wr.setCells g i zs) := ⟨_, fun ty => Lib.run_clear_slice wr 22 3 ty (.int .i64 0) Tryz.underlying22 int_zero rfl rfl g i (j - i) (c - i) (by omega) (fun q hq => (hcells q hq).1) (fun q hq => (hcells q hq).2)⟩
        have HF : Hid ((butI ls k).length = i ∧ (wr.setCells g i zs).ownsRow base 3 1 (.slice (some ⟨g, 0, none⟩) i c) i (intVs (butI ls k)) ∧ Below base w (wr.setCells g i zs)) := by
          have h1 := own_clear (zs := zs) HL.out.2.2.2.1 (show i ≤ j by omega)
          rw [Nat.mul_one, ← intVs_take, HEND.out.1] at h1
          refine ⟨?_, h1, setCells_below hg zs _ _ HL.out.2.2.2.2⟩
          rw [← HEND.out.1, List.length_take]
          have := HEND.out.2
          omega
        have hic : ((i : Nat) : Int) ≤ c := by omega
        have hin : ((i : Nat) : Int) ≤ j := by omega
        clear hcells hlt
        go_wp2_with (simp only [hcl])
        go_ret
        exact ⟨i, rfl, HF.out⟩
end
end Go.Proofs.YtlkfcfcejicdkaaGreatDoor
