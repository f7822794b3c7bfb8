/-
  tree: the document's reach, walked. Own work.
-/
import Derived.Test.YtlkfcfcejicdkaaGreatDoorTreeReach0
set_option linter.unusedSimpArgs false
set_option linter.unusedVariables false
namespace Go.Proofs.YtlkfcfcejicdkaaGreatDoor
open Go Go.RowKit

/-- A row of one's own behind a call that is quiet below. -/
theorem own_trip {w W : World} {base : Nat} {e : TypeId} {s n : Nat} {v : Value} {xs : List Value} (h : w.ownsRow base e s v n xs) (hk : W.heap = w.heap) : W.ownsRow base e s v n xs := by
  refine ⟨h.1, ?_⟩
  rw [hk]
  exact h.2
section
set_option maxRecDepth 100000 in
set_option maxHeartbeats 8000000 in
theorem reach_any (Am : Option Addr) (nm cm : Nat) (Al : Option Addr) (q cl : Nat) (ls : List Lk) (r b1 b2 : Int) (w : World) (hl : ls.length = q) (hA : RowAt w Al (lkCells ls)) (hq : q ≤ 1000) (hk : ∀ k ∈ ls, k.1 < k.2 ∧ k.1 ∈ ALL ∧ k.2 ∈ ALL) (hr : r ∈ ALL) :
    Calls Tryz.prog 47 #[grV Am nm cm Al q cl, .int .i64 r, .agg #[.int .i64 b1, .int .i64 b2]] w fun e w' => ∃ (A : Option Addr) (m c : Nat), e = .returned (.slice A m c) ∧ Hid (∃ S : List Int, S.length = m ∧ S.Nodup ∧ (∀ x ∈ S, x ∈ ALL) ∧ (∀ x, x ∈ S ↔ Rch (but ls (b1, b2)) r x) ∧ RowAt w' A (intVs S) ∧ Below w.heap.size w w') := by
  have HA := Lib.hid hA
  have HN : Hid (q ≤ 1000 ∧ ls.length = q) := ⟨hq, hl⟩
  have HK : Hid (∀ k ∈ ls, k.1 < k.2 ∧ k.1 ∈ ALL ∧ k.2 ∈ ALL) := hk
  have HR := Lib.hid hr
  clear hA hq hl hk hr
  obtain ⟨i0, hi, hz0, hz1, hz2⟩ := info_parts int_info
  obtain ⟨G, hG⟩ : ∃ G, G = w.heap.size := ⟨_, rfl⟩
  obtain ⟨K, hK⟩ : ∃ K, K = w.heap.size + 1 := ⟨_, rfl⟩
  obtain ⟨B, hB⟩ : ∃ B, B = w.heap.size + 1 + 1 := ⟨_, rfl⟩
  obtain ⟨W1, hW1⟩ : ∃ W1, W1 = (w.alloc (.cells #[.slice Am nm cm, .slice Al q cl] 25)).alloc (.cells #[.int .i64 b1, .int .i64 b2] 35) := ⟨_, rfl⟩
  obtain ⟨W0, hW0⟩ : ∃ W0, W0 = W1.alloc (.cells #[.int .i64 r] 3) := ⟨_, rfl⟩
  have HB : Hid (W1.heap[K]? = some (.cells #[.int .i64 b1, .int .i64 b2] 35 (0, 0)) ∧ W1.heap[G]? = some (.cells #[.slice Am nm cm, .slice Al q cl] 25 (0, 0)) ∧ Below w.heap.size w W1 ∧ W1.heap.size = B ∧ K < B ∧ G < B ∧ w.heap.size ≤ B) := by
    rw [hW1, hK, hG, hB]
    refine ⟨?_, by rw [Below.heap_alloc _ _ _ (by simp)]; exact heap_alloc_new _ _, ((Below.refl _ _).alloc (Nat.le_refl _) _).alloc (by simp) _, by simp, by omega, by omega, by omega⟩
    have := heap_alloc_new (w.alloc (.cells #[.slice Am nm cm, .slice Al q cl] 25)) (.cells #[.int .i64 b1, .int .i64 b2] 35)
    simpa using this
  have HS0 : Hid (W0.ownsRow B 3 1 (.slice (some ⟨B, 0, none⟩) 1 1) 1 (intVs [r]) ∧ Below B W1 W0) := by
    rw [hW0, ← HB.out.2.2.2.1]
    exact ⟨World.ownsRow_lit W1 #[.int .i64 r] 1 (Nat.le_refl _) (by decide) (by rfl), (Below.refl _ _).alloc (Nat.le_refl _) _⟩
  go_enter Tryz.func47, Tryz.ntmps47
  go_wp2
  rw [← hW1, ← hB, ← hK, ← hG]
  rw [← hW0]
  clear hW1 hK hG hB hW0
  go_loopw [7, 8] (fun s ix wr => ∃ (i m : Nat) (A5 : Option Addr) (c5 : Nat) (S : List Int), i ≤ m ∧ ix = .int .i64 i ∧ s = .slice A5 m c5 ∧ Hid (S.length = m ∧ RSt (but ls (b1, b2)) r S ∧ RClos (but ls (b1, b2)) S i ∧ wr.ownsRow B 3 1 (.slice A5 m c5) m (intVs S) ∧ Below B W1 wr)) (fun _ ix _ => 9 - (intOf ix).toNat)
  case atStart => exact ⟨0, 1, some ⟨B, 0, none⟩, 1, [r], by omega, rfl, rfl, rfl, RSt.one HR.out, fun x hx => by simp at hx, HS0.out.1, HS0.out.2⟩
  case round =>
    obtain ⟨i, m, A5, c5, S, hj, rfl, rfl, HO⟩ := hrel
    by_cases hlt : i < m
    · have HM8 : Hid (m ≤ 8) := by rw [← HO.out.1]; exact HO.out.2.1.len
      obtain ⟨x, hx⟩ : ∃ x, Hid (S[i]? = some x) := ⟨_, List.getElem?_eq_getElem (by have := HO.out.1; omega)⟩
      obtain ⟨v0, v1, _, vl⟩ := cell2 ((HO.out.2.2.2.2.block G (by have := HB.out; omega)).trans HB.out.2.1)
      have hi0 : ((0 : Int) ≤ i) := by omega
      have hi1 : ((i : Nat) : Int) < m := by omega
      have hwi : IntKind.i64.wrap ((i : Int) + 1) = ((i + 1 : Nat) : Int) := by have := HM8.out; rw [IntKind.wrap_i64]; omega
      go_wp2
      go_loopw [7, 22] (fun s jx wr => ∃ (j m : Nat) (A5 : Option Addr) (c5 : Nat) (S : List Int), j ≤ q ∧ jx = .int .i64 j ∧ s = .slice A5 m c5 ∧ Hid (S.length = m ∧ RI ls (b1, b2) r S i x j ∧ wr.ownsRow B 3 1 (.slice A5 m c5) m (intVs S) ∧ Below B W1 wr)) (fun _ jx _ => q - (intOf jx).toNat)
      case atStart => exact ⟨0, m, A5, c5, S, Nat.zero_le _, rfl, rfl, HO.out.1, RI.start HO.out.2.1 HO.out.2.2.1 hx.out, HO.out.2.2.2⟩
      case round =>
        obtain ⟨j, m7, A7, c7, S7, hj7, rfl, rfl, HL⟩ := hrel
        by_cases hlt7 : j < q
        · clear hi1
          obtain ⟨y, hy⟩ : ∃ y, Hid (ls[j]? = some y) := ⟨_, List.getElem?_eq_getElem (by have := HN.out; omega)⟩
          obtain ⟨g, off, rfl, d0, d1, hg⟩ := (HA.out.below (HB.out.2.2.1.trans (HL.out.2.2.2.mono HB.out.2.2.2.2.2.2))).lk hy.out
          obtain ⟨x0, x1, _, xl⟩ := cell2 ((HL.out.2.2.2.block K HB.out.2.2.2.2.1).trans HB.out.1)
          obtain ⟨g5, rfl, sx, hgb, hgl⟩ := own_int HL.out.2.2.1 HL.out.2.1.at_
          have hkk := HK.out y (List.mem_of_getElem? hy.out)
          have hdec := lk_dec y.1 y.2 (b1, b2)
          obtain ⟨y1, hy1⟩ : ∃ x, Hid (y.1 = x) := ⟨_, rfl⟩
          obtain ⟨y2, hy2⟩ : ∃ x, Hid (y.2 = x) := ⟨_, rfl⟩
          have hy12 : Hid (y = (y1, y2)) := Prod.ext hy1.out hy2.out
          rw [hy1.out] at d0 hdec hkk
          rw [hy2.out] at d1 hdec hkk
          have HKK : Hid (y1 < y2 ∧ y1 ∈ ALL ∧ y2 ∈ ALL) := hkk
          have hyy : Hid (ls[j]? = some (y1, y2)) := by rw [Hid, hy.out, hy12.out]
          clear hkk hy hy1 hy2 hy12
          have HM7 : Hid (m7 ≤ 8) := by rw [← HL.out.1]; exact HL.out.2.1.st.len
          have HI7 : Hid (i < m7) := by rw [← HL.out.1]; exact (List.getElem?_eq_some_iff.1 HL.out.2.1.at_).1
          have hw1 : IntKind.i64.wrap ((j : Int) + 1) = ((j + 1 : Nat) : Int) := by have := HN.out; rw [IntKind.wrap_i64]; omega
          have hj0 : ((0 : Int) ≤ j) := by omega
          have hj1 : ((j : Nat) : Int) < q := by omega
          have hi7 : ((i : Nat) : Int) < m7 := by have := HI7.out; omega
          have hi8 : i < m7 := HI7.out
          have hi9 : ((i : Nat) : Int) < (m7 : Int) + 1 := by have := HI7.out; omega
          have hKne : ¬ (K = wr.heap.size) := by have := HB.out; have := HL.out.2.2.2.size; omega
          have hgne : ¬ (g5 = wr.heap.size) := by omega
          have hm1 : Hid (m7 + 1 ≤ maxLen) := Nat.le_trans (show m7 + 1 ≤ 9 by have := HM7.out; omega) (by decide)
          have hb1 : Hid ((m7 + 1) * 8 ≤ 140737488355328) := by have := HM7.out; simp only [Hid]; omega
          have HA1 : Hid (∀ o, Below B W1 (wr.alloc o)) := fun o => HL.out.2.2.2.alloc (by have := HB.out; have := HL.out.2.2.2.size; omega) o
          have HSB : Hid (B ≤ wr.heap.size) := by have := HB.out; have := HL.out.2.2.2.size; simp only [Hid]; omega
          have HHS : Hid (∀ z (W : World), W.heap = (wr.alloc (.cells #[.int .i64 y1, .int .i64 y2] 35)).heap → Calls Tryz.prog 16 #[.slice (some ⟨g5, 0, none⟩) m7 c7, .int .i64 z] W fun e w' => e = .returned (.bool (decide (z ∈ S7))) ∧ w' = W) := fun z W hW => by
            refine rhas_any (some ⟨g5, 0, none⟩) m7 c7 S7 z W HL.out.1 (RowAt.of_own (own_trip (HL.out.2.2.1.alloc _) hW)) (by have := HM7.out; omega)
          by_cases hxy : (y1, y2) = (b1, b2)
          · have heq2 : ∀ w, (Op.equalIn 10000 35 (.agg #[.int .i64 y1, .int .i64 y2]) (.agg #[.int .i64 b1, .int .i64 b2])).run Tryz.prog w = .ok true w := fun w => by rw [lk_equal, ← hdec, decide_eq_true hxy]
            have HE : Hid (RI ls (b1, b2) r S7 i x (j + 1)) := HL.out.2.1.keep hyy.out fun e => absurd hxy e
            clear hxy hdec
            go_wp2
            exact ⟨⟨j + 1, m7, some ⟨g5, 0, none⟩, c7, S7, hlt7, by go_num, rfl, HL.out.1, HE.out, HL.out.2.2.1.alloc _, HA1.out _⟩, by simp [intOf]; omega⟩
          have heq2 : ∀ w, (Op.equalIn 10000 35 (.agg #[.int .i64 y1, .int .i64 y2]) (.agg #[.int .i64 b1, .int .i64 b2])).run Tryz.prog w = .ok false w := fun w => by rw [lk_equal, ← hdec, decide_eq_false hxy]
          have HXY : Hid ((y1, y2) ≠ (b1, b2)) := hxy
          clear hxy hdec
          by_cases e1 : y1 = x
          · subst e1
            have e2 : (y2 == y1) = false := by have := HKK.out.1; simp; omega
            have HJ : Hid (∀ z, joins (y1, y2) y1 z = true → z = y2) := fun z hz => by have := joins_iff.1 hz; have := HKK.out.1; simp only at *; omega
            by_cases m1 : y2 ∈ S7
            · have HE : Hid (RI ls (b1, b2) r S7 i y1 (j + 1)) := HL.out.2.1.keep hyy.out fun _ z hz => by rw [HJ.out z hz]; exact m1
              have HC : Hid (∀ (W : World), W.heap = (wr.alloc (.cells #[.int .i64 y1, .int .i64 y2] 35)).heap → Calls Tryz.prog 16 #[.slice (some ⟨g5, 0, none⟩) m7 c7, .int .i64 y2] W fun e w' => e = .returned (.bool true) ∧ w' = W) := fun W hW => by have := HHS.out y2 W hW; rw [decide_eq_true m1] at this; exact this
              clear m1 HHS
              go_wp2
              go_quiet ((go_at_call 16; refine (HC.out _ (by rfl)).mono ?_; rintro e w9 ⟨rfl, rfl⟩; exact ⟨rfl, _, rfl⟩))
              go_wp2
              go_quiet (fail)
              go_wp2
              exact ⟨⟨j + 1, m7, some ⟨g5, 0, none⟩, c7, S7, hlt7, by go_num, rfl, HL.out.1, HE.out, HL.out.2.2.1.alloc _, by repeat (first | exact HA1.out _ | refine bdrewN ?_ _)⟩, by simp [intOf]; omega⟩
            · have HE : Hid (RI ls (b1, b2) r (S7 ++ [y2]) i y1 (j + 1)) := HL.out.2.1.add hyy.out HXY.out (joins_iff.2 (by simp)) m1 (by have := HKK.out; first | exact this.2.1 | exact this.2.2) HJ.out
              have HO2 : Hid (∀ a o, (((wr.alloc (.cells #[.int .i64 y1, .int .i64 y2] 35)).drewN a).alloc o).ownsRow B 3 1 (.slice (some ⟨g5, 0, none⟩) m7 c7) m7 (intVs S7)) := fun a o => (show ((wr.alloc (.cells #[.int .i64 y1, .int .i64 y2] 35)).drewN a).ownsRow B 3 1 (.slice (some ⟨g5, 0, none⟩) m7 c7) m7 (intVs S7) from HL.out.2.2.1.alloc _).alloc o
              have HZZ : Hid (∀ a o, B ≤ (((wr.alloc (.cells #[.int .i64 y1, .int .i64 y2] 35)).drewN a).alloc o).heap.size) := fun a o => Nat.le_trans HSB.out (by show wr.heap.size ≤ ((wr.alloc _).alloc _).heap.size; simp; omega)
              have HNEW : Hid (∀ a t, ∀ (j : Nat) (u : Value), [Value.int .i64 y2][j]? = some u → (((wr.alloc (.cells #[.int .i64 y1, .int .i64 y2] 35)).drewN a).alloc (.cells #[.int .i64 y2] t)).cell? ((⟨wr.heap.size + 1, 0, none⟩ : Addr).add j) = some u) := fun a t => new1 _ _ _ _ (by show wr.heap.size + 1 = (wr.alloc _).heap.size; simp)
              have HGC : Hid (∀ (w6 : World) (a : Nat) (o : Obj) (g8 c8 : Nat), w6.ownsRow B 3 1 (.slice (some ⟨g8, 0, none⟩) (m7 + 1) c8) (m7 + 1) (intVs S7 ++ [.int .i64 y2]) → (((wr.alloc (.cells #[.int .i64 y1, .int .i64 y2] 35)).drewN a).alloc o).grownBy w6 (Value.slice (some ⟨g5, 0, none⟩) m7 c7).ownBlock → w6.heap[wr.heap.size]? = some (.cells #[.int .i64 y1, .int .i64 y2] 35 (0, 0)) ∧ w6.cell? ⟨g8, i, none⟩ = some (.int .i64 y1) ∧ w6.ownsRow B 3 1 (.slice (some ⟨g8, 0, none⟩) (m7 + 1) c8) (m7 + 1) (intVs (S7 ++ [y2])) ∧ Below B W1 w6) := fun w6 a o g8 c8 h1 h2 => by
                have h3 : w6.ownsRow B 3 1 (.slice (some ⟨g8, 0, none⟩) (m7 + 1) c8) (m7 + 1) (intVs (S7 ++ [y2])) := by rw [intVs_append]; exact h1
                refine ⟨?_, ?_, h3, ?_⟩
                · rw [h2.block wr.heap.size (by show wr.heap.size < ((wr.alloc _).alloc _).heap.size; simp; omega) (fun e => by
                    obtain ⟨_, _, _, h4⟩ := own_block HL.out.2.2.1 e.symm
                    omega), Below.heap_alloc _ _ _ (by show wr.heap.size < (wr.alloc _).heap.size; simp)]
                  exact heap_alloc_new wr _
                · obtain ⟨g', e, h4, _⟩ := own_int h3 HE.out.at_
                  injection e with e
                  injection e with e
                  rw [e]; exact h4
                · exact below_push ((bdrewN (HA1.out (.cells #[.int .i64 y1, .int .i64 y2] 35)) a).alloc (Nat.le_trans HSB.out (by show wr.heap.size ≤ (wr.alloc _).heap.size; simp)) o) (HO2.out a o) (HZZ.out a o) h2
              have HC : Hid (∀ (W : World), W.heap = (wr.alloc (.cells #[.int .i64 y1, .int .i64 y2] 35)).heap → Calls Tryz.prog 16 #[.slice (some ⟨g5, 0, none⟩) m7 c7, .int .i64 y2] W fun e w' => e = .returned (.bool false) ∧ w' = W) := fun W hW => by have := HHS.out y2 W hW; rw [decide_eq_false m1] at this; exact this
              clear m1 HHS
              go_wp2
              go_quiet ((go_at_call 16; refine (HC.out _ (by rfl)).mono ?_; rintro e w9 ⟨rfl, rfl⟩; exact ⟨rfl, _, rfl⟩))
              go_wp2_with (at_builtin; refine wpList_append_lies _ rfl _ _ 22 rfl B 3 i0 (.int .i64 0) 1 8 Tryz.underlying22 hi hz0 hz1 hz2 rfl (by decide) (.slice (some ⟨g5, 0, none⟩) m7 c7) m7 _ rfl (HO2.out _ _) ⟨wr.heap.size + 1, 0, none⟩ 1 1 [.int .i64 y2] rfl rfl (HNEW.out _ _) (by simp [Value.oneCell']) (by decide) hm1.out hb1.out (HZZ.out _ _) _ rfl ?_; intro g8 c8 w6 hown6 hgrow6 hat6 hlt6; have H6 := Lib.hid (HGC.out _ _ _ _ _ hown6 hgrow6); obtain ⟨z0, z1, _, _⟩ := cell2 H6.out.1; have sx8 := H6.out.2.1)
              go_quiet (fail)
              go_wp2
              exact ⟨⟨j + 1, m7 + 1, some ⟨g8, 0, none⟩, c8, S7 ++ [y2], hlt7, by go_num, rfl, by rw [List.length_append, HL.out.1]; rfl, HE.out, H6.out.2.2.1, by repeat (first | exact H6.out.2.2.2 | refine bdrewN ?_ _)⟩, by simp [intOf]; omega⟩
          have e1f : (y1 == x) = false := by simpa using e1
          by_cases e2 : y2 = x
          · subst e2
            have HJ : Hid (∀ z, joins (y1, y2) y2 z = true → z = y1) := fun z hz => by have := joins_iff.1 hz; have := HKK.out.1; simp only at *; omega
            clear e1
            by_cases m1 : y1 ∈ S7
            · have HE : Hid (RI ls (b1, b2) r S7 i y2 (j + 1)) := HL.out.2.1.keep hyy.out fun _ z hz => by rw [HJ.out z hz]; exact m1
              have HC : Hid (∀ (W : World), W.heap = (wr.alloc (.cells #[.int .i64 y1, .int .i64 y2] 35)).heap → Calls Tryz.prog 16 #[.slice (some ⟨g5, 0, none⟩) m7 c7, .int .i64 y1] W fun e w' => e = .returned (.bool true) ∧ w' = W) := fun W hW => by have := HHS.out y1 W hW; rw [decide_eq_true m1] at this; exact this
              clear m1 HHS
              go_wp2
              go_quiet (fail)
              go_wp2
              go_quiet ((go_at_call 16; refine (HC.out _ (by rfl)).mono ?_; rintro e w9 ⟨rfl, rfl⟩; exact ⟨rfl, _, rfl⟩))
              go_wp2
              exact ⟨⟨j + 1, m7, some ⟨g5, 0, none⟩, c7, S7, hlt7, by go_num, rfl, HL.out.1, HE.out, HL.out.2.2.1.alloc _, by repeat (first | exact HA1.out _ | refine bdrewN ?_ _)⟩, by simp [intOf]; omega⟩
            · have HE : Hid (RI ls (b1, b2) r (S7 ++ [y1]) i y2 (j + 1)) := HL.out.2.1.add hyy.out HXY.out (joins_iff.2 (by simp)) m1 (by have := HKK.out; first | exact this.2.1 | exact this.2.2) HJ.out
              have HO2 : Hid (∀ a o, (((wr.alloc (.cells #[.int .i64 y1, .int .i64 y2] 35)).drewN a).alloc o).ownsRow B 3 1 (.slice (some ⟨g5, 0, none⟩) m7 c7) m7 (intVs S7)) := fun a o => (show ((wr.alloc (.cells #[.int .i64 y1, .int .i64 y2] 35)).drewN a).ownsRow B 3 1 (.slice (some ⟨g5, 0, none⟩) m7 c7) m7 (intVs S7) from HL.out.2.2.1.alloc _).alloc o
              have HZZ : Hid (∀ a o, B ≤ (((wr.alloc (.cells #[.int .i64 y1, .int .i64 y2] 35)).drewN a).alloc o).heap.size) := fun a o => Nat.le_trans HSB.out (by show wr.heap.size ≤ ((wr.alloc _).alloc _).heap.size; simp; omega)
              have HNEW : Hid (∀ a t, ∀ (j : Nat) (u : Value), [Value.int .i64 y1][j]? = some u → (((wr.alloc (.cells #[.int .i64 y1, .int .i64 y2] 35)).drewN a).alloc (.cells #[.int .i64 y1] t)).cell? ((⟨wr.heap.size + 1, 0, none⟩ : Addr).add j) = some u) := fun a t => new1 _ _ _ _ (by show wr.heap.size + 1 = (wr.alloc _).heap.size; simp)
              have HGC : Hid (∀ (w6 : World) (a : Nat) (o : Obj) (g8 c8 : Nat), w6.ownsRow B 3 1 (.slice (some ⟨g8, 0, none⟩) (m7 + 1) c8) (m7 + 1) (intVs S7 ++ [.int .i64 y1]) → (((wr.alloc (.cells #[.int .i64 y1, .int .i64 y2] 35)).drewN a).alloc o).grownBy w6 (Value.slice (some ⟨g5, 0, none⟩) m7 c7).ownBlock → w6.heap[wr.heap.size]? = some (.cells #[.int .i64 y1, .int .i64 y2] 35 (0, 0)) ∧ w6.cell? ⟨g8, i, none⟩ = some (.int .i64 y2) ∧ w6.ownsRow B 3 1 (.slice (some ⟨g8, 0, none⟩) (m7 + 1) c8) (m7 + 1) (intVs (S7 ++ [y1])) ∧ Below B W1 w6) := fun w6 a o g8 c8 h1 h2 => by
                have h3 : w6.ownsRow B 3 1 (.slice (some ⟨g8, 0, none⟩) (m7 + 1) c8) (m7 + 1) (intVs (S7 ++ [y1])) := by rw [intVs_append]; exact h1
                refine ⟨?_, ?_, h3, ?_⟩
                · rw [h2.block wr.heap.size (by show wr.heap.size < ((wr.alloc _).alloc _).heap.size; simp; omega) (fun e => by
                    obtain ⟨_, _, _, h4⟩ := own_block HL.out.2.2.1 e.symm
                    omega), Below.heap_alloc _ _ _ (by show wr.heap.size < (wr.alloc _).heap.size; simp)]
                  exact heap_alloc_new wr _
                · obtain ⟨g', e, h4, _⟩ := own_int h3 HE.out.at_
                  injection e with e
                  injection e with e
                  rw [e]; exact h4
                · exact below_push ((bdrewN (HA1.out (.cells #[.int .i64 y1, .int .i64 y2] 35)) a).alloc (Nat.le_trans HSB.out (by show wr.heap.size ≤ (wr.alloc _).heap.size; simp)) o) (HO2.out a o) (HZZ.out a o) h2
              have HC : Hid (∀ (W : World), W.heap = (wr.alloc (.cells #[.int .i64 y1, .int .i64 y2] 35)).heap → Calls Tryz.prog 16 #[.slice (some ⟨g5, 0, none⟩) m7 c7, .int .i64 y1] W fun e w' => e = .returned (.bool false) ∧ w' = W) := fun W hW => by have := HHS.out y1 W hW; rw [decide_eq_false m1] at this; exact this
              clear m1 HHS
              go_wp2
              go_quiet (fail)
              go_wp2
              go_quiet ((go_at_call 16; refine (HC.out _ (by rfl)).mono ?_; rintro e w9 ⟨rfl, rfl⟩; exact ⟨rfl, _, rfl⟩))
              go_wp2_with (at_builtin; refine wpList_append_lies _ rfl _ _ 22 rfl B 3 i0 (.int .i64 0) 1 8 Tryz.underlying22 hi hz0 hz1 hz2 rfl (by decide) (.slice (some ⟨g5, 0, none⟩) m7 c7) m7 _ rfl (HO2.out _ _) ⟨wr.heap.size + 1, 0, none⟩ 1 1 [.int .i64 y1] rfl rfl (HNEW.out _ _) (by simp [Value.oneCell']) (by decide) hm1.out hb1.out (HZZ.out _ _) _ rfl ?_; intro g8 c8 w6 hown6 hgrow6 hat6 hlt6; have H6 := Lib.hid (HGC.out _ _ _ _ _ hown6 hgrow6); obtain ⟨z0, z1, _, _⟩ := cell2 H6.out.1; have sx8 := H6.out.2.1)
              exact ⟨⟨j + 1, m7 + 1, some ⟨g8, 0, none⟩, c8, S7 ++ [y1], hlt7, by go_num, rfl, by rw [List.length_append, HL.out.1]; rfl, HE.out, H6.out.2.2.1, by repeat (first | exact H6.out.2.2.2 | refine bdrewN ?_ _)⟩, by simp [intOf]; omega⟩
          have e2f : (y2 == x) = false := by simpa using e2
          have HE : Hid (RI ls (b1, b2) r S7 i x (j + 1)) := HL.out.2.1.keep hyy.out fun _ z hz => (joins_iff.1 hz).elim (fun h => absurd h.1 e1) (fun h => absurd h.2 e2)
          clear e1 e2 HHS
          go_wp2
          go_quiet (fail)
          go_wp2
          go_quiet (fail)
          go_wp2
          exact ⟨⟨j + 1, m7, some ⟨g5, 0, none⟩, c7, S7, hlt7, by go_num, rfl, HL.out.1, HE.out, HL.out.2.2.1.alloc _, by repeat (first | exact HA1.out _ | refine bdrewN ?_ _)⟩, by simp [intOf]; omega⟩
        · have hjn : j = q := by omega
          subst hjn
          have HE : Hid (RI ls (b1, b2) r S7 i x ls.length) := by rw [HN.out.2]; exact HL.out.2.1
          have HI7 : Hid (i + 1 ≤ m7 ∧ m7 ≤ 8) := by rw [← HL.out.1]; exact ⟨(List.getElem?_eq_some_iff.1 HL.out.2.1.at_).1, HL.out.2.1.st.len⟩
          go_wp2
          exact ⟨⟨i + 1, m7, A7, c7, S7, HI7.out.1, by go_num, rfl, HL.out.1, HE.out.st, HE.out.fin, HL.out.2.2.1, HL.out.2.2.2⟩, by have := HI7.out; simp [intOf]; omega⟩
    · have hjn : i = m := by omega
      subst hjn
      go_wp2
      go_ret
      exact ⟨A5, i, c5, rfl, S, HO.out.1, HO.out.2.1.nd, HO.out.2.1.all, HO.out.2.1.fin (by rw [HO.out.1]; exact HO.out.2.2.1), RowAt.of_own HO.out.2.2.2.1, HB.out.2.2.1.trans (HO.out.2.2.2.2.mono HB.out.2.2.2.2.2.2)⟩
end
end Go.Proofs.YtlkfcfcejicdkaaGreatDoor
