/-
  tree: what an error tells (Of), Same at errors with places, 'fails'. Own work.
-/
import Derived.Test.YtlkfcfcejicdkaaGreatDoorTreeRef1
import Derived.Test.YtlkfcfcejicdkaaGreatDoorErrOf
import Derived.Deep.RegionLaw
set_option linter.unusedSimpArgs false
set_option linter.unusedVariables false
namespace Go.Proofs.YtlkfcfcejicdkaaGreatDoor
open Go Go.RowKit

/-- An error told plainly, wherever its places lie. -/
def OfIs (w : World) (v : Value) : Er → Prop
  | none => v = .agg #[.bool false, .slice none 0 0, .int .i64 0]
  | some ([], c) => v = .agg #[.bool true, .slice none 0 0, .int .i64 c]
  | some ([p], c) => ∃ g cap, v = .agg #[.bool true, .slice (some ⟨g, 0, none⟩) 1 cap, .int .i64 c] ∧ w.cell? ⟨g, 0, none⟩ = some (.int .i64 p.1) ∧ w.cell? ⟨g, 1, none⟩ = some (.int .i64 p.2)
  | some (_ :: _ :: _, _) => False
theorem OfIs.below {w w' : World} {v : Value} {e : Er} (h : OfIs w v e) (hb : Below w.heap.size w w') : OfIs w' v e := by
  match e, h with
  | none, h => exact h
  | some ([], c), h => exact h
  | some ([p], c), h =>
    obtain ⟨g, cap, h1, h2, h3⟩ := h
    exact ⟨g, cap, h1, (hb.cell (World.block_lt_of_cell? w _ h2)).trans h2, (hb.cell (World.block_lt_of_cell? w _ h3)).trans h3⟩
  | some (_ :: _ :: _, _), h => exact h
theorem EIs.of {w : World} {v : Value} {e : Er} (h : EIs w v e) : OfIs w v e := by
  match e, h with
  | none, h => exact h
  | some ([], c), h => exact h
  | some ([p], c), h =>
    obtain ⟨g, h1, h2⟩ := h
    obtain ⟨h3, h4, _⟩ := cell2 h2
    exact ⟨g, 1, h1, h3, h4⟩
  | some (_ :: _ :: _, _), h => exact h
theorem place_info : (Tryz.prog.info? 91).map (fun i => (i.zero, i.size, i.bytes)) = some (some (.agg #[.int .i64 0, .int .i64 0]), 2, 16) := by kernel_rfl
/-- '!=' at places. -/
theorem place_equal (a b : Int) (w : World) : (Op.equalIn 10000 91 (.agg #[.int .i64 a, .int .i64 b]) (.agg #[.int .i64 a, .int .i64 b])).run Tryz.prog w = .ok true w := by
  have u3 := Tryz.underlying3
  have a3 := Tryz.isAgg3
  have z3 := Tryz.sizeOf3
  have hS : Tryz.prog.underlying 91 = some (.struct (Tryz.prog.fieldsOf 91)) := by kernel_rfl
  have hp : Tryz.prog.stoodInHeld 91 = false := by kernel_rfl
  rw [show (10000 : Nat) = 9999 + 1 from rfl, run_equalIn_agg w 9999 91 _ _ hS hp]
  simp only [Program.fieldsOf, Tryz.underlying91]
  go_simp
/-- errors.As with a target in a block of its own. -/
theorem as_hitF_at (e : Addr) (T : Nat) (w : World) (hg : ErrT w) (ht : w.heap[T]? = some (.cells #[.pointer none] 92 (0, 0))) :
    Calls Tryz.prog 66 #[.iface 92 (.pointer (some e)), .iface 94 (.pointer (some ⟨T, 0, none⟩))] w fun ev w' => ev = .returned (.bool true) ∧ w'.heap[T]? = some (.cells #[.pointer (some e)] 92 (0, 0)) ∧ Hid ((∀ k, k < w.heap.size → k ≠ T → w'.heap[k]? = w.heap[k]?) ∧ ∀ B w0, B ≤ T → B ≤ w.heap.size → Below B w0 w → Below B w0 w') := by
  obtain ⟨h0, hf, hl⟩ := cell1 ht
  refine (as_hitF e ⟨T, 0, none⟩ (.pointer none) w hg h0 (hf 0)).mono ?_
  rintro ev w' ⟨rfl, rfl⟩
  obtain ⟨W, hW⟩ : ∃ W, W = ((((w.alloc (.cells #[.pointer (some ⟨T, 0, none⟩)] 94)).alloc (.cells #[.pointer (some ⟨1, 94, none⟩), .pointer (some ⟨w.heap.size, 0, none⟩), .int .u64 150] 110)).alloc (.cells #[.pointer (some ⟨1, 94, none⟩), .pointer (some ⟨w.heap.size, 0, none⟩), .int .u64 150] 110)).alloc (.cells #[.pointer (some e)] 92)) := ⟨_, rfl⟩
  rw [← hW]
  have hb : Below w.heap.size w W := by
    rw [hW]
    exact ((((Below.refl _ _).alloc (Nat.le_refl _) _).alloc (by simp) _).alloc (by simp; omega) _).alloc (by simp; omega) _
  have hT := (hb.block T hl).trans ht
  refine ⟨rfl, set_row hT 0 _, fun k hk hne => (Below.heap_setCell _ _ _ _ hne).trans (hb.block k hk), fun B w0 h1 h2 h3 => ?_⟩
  exact belowS (h3.trans (hb.mono h2)) h1 _
theorem as_hitE_at (e : Int) (T : Nat) (w : World) (hg : ErrT w) (ht : w.heap[T]? = some (.cells #[.int .i64 0] 41 (0, 0))) :
    Calls Tryz.prog 66 #[.iface 41 (.int .i64 e), .iface 97 (.pointer (some ⟨T, 0, none⟩))] w fun ev w' => ev = .returned (.bool true) ∧ w'.heap[T]? = some (.cells #[.int .i64 e] 41 (0, 0)) ∧ Hid ((∀ k, k < w.heap.size → k ≠ T → w'.heap[k]? = w.heap[k]?) ∧ ∀ B w0, B ≤ T → B ≤ w.heap.size → Below B w0 w → Below B w0 w') := by
  obtain ⟨h0, hf, hl⟩ := cell1 ht
  refine (as_hitE e ⟨T, 0, none⟩ (.int .i64 0) w hg h0 (hf 0)).mono ?_
  rintro ev w' ⟨rfl, rfl⟩
  obtain ⟨W, hW⟩ : ∃ W, W = ((((w.alloc (.cells #[.pointer (some ⟨T, 0, none⟩)] 97)).alloc (.cells #[.pointer (some ⟨1, 97, none⟩), .pointer (some ⟨w.heap.size, 0, none⟩), .int .u64 150] 110)).alloc (.cells #[.pointer (some ⟨1, 97, none⟩), .pointer (some ⟨w.heap.size, 0, none⟩), .int .u64 150] 110)).alloc (.cells #[.int .i64 e] 41)) := ⟨_, rfl⟩
  rw [← hW]
  have hb : Below w.heap.size w W := by
    rw [hW]
    exact ((((Below.refl _ _).alloc (Nat.le_refl _) _).alloc (by simp) _).alloc (by simp; omega) _).alloc (by simp; omega) _
  have hT := (hb.block T hl).trans ht
  refine ⟨rfl, set_row hT 0 _, fun k hk hne => (Below.heap_setCell _ _ _ _ hne).trans (hb.block k hk), fun B w0 h1 h2 h3 => ?_⟩
  exact belowS (h3.trans (hb.mono h2)) h1 _
theorem as_missEF_at (e : Int) (T : Nat) (w : World) (hg : ErrT w) (ht : w.heap[T]? = some (.cells #[.pointer none] 92 (0, 0))) :
    Calls Tryz.prog 66 #[.iface 41 (.int .i64 e), .iface 94 (.pointer (some ⟨T, 0, none⟩))] w fun ev w' => ev = .returned (.bool false) ∧ Below w.heap.size w w' := by
  obtain ⟨h0, hf, hl⟩ := cell1 ht
  refine (as_missEF e ⟨T, 0, none⟩ (.pointer none) w hg h0 (hf 0)).mono ?_
  rintro ev w' ⟨rfl, rfl⟩
  exact ⟨rfl, (((Below.refl _ _).alloc (Nat.le_refl _) _).alloc (by simp) _).alloc (by simp; omega) _⟩

set_option maxRecDepth 100000 in
set_option maxHeartbeats 2000000 in
theorem of_fault (g : Nat) (p1 p2 c : Int) (w : World) (hg : ErrT w) (hf : w.heap[g]? = some (.cells #[.int .i64 p1, .int .i64 p2, .iface 41 (.int .i64 c)] 96 (0, 0))) :
    Calls Tryz.prog 44 #[.iface 92 (.pointer (some ⟨g, 0, none⟩))] w fun e w' => ∃ v, e = .returned v ∧ OfIs w' v (some ([(p1, p2)], c)) ∧ Below w.heap.size w w' := by
  have HG := Lib.hid hg
  have HFB : Hid (∀ W, Below w.heap.size w W → W.heap[g]? = some (.cells #[.int .i64 p1, .int .i64 p2, .iface 41 (.int .i64 c)] 96 (0, 0)) ∧ ErrT W ∧ g < w.heap.size) := fun W hW => ⟨(hW.block g (Array.getElem?_eq_some_iff.1 hf).1).trans hf, hg.below hW, (Array.getElem?_eq_some_iff.1 hf).1⟩
  clear hg hf
  obtain ⟨i0, hi, hz0, hz1, hz2⟩ := info_parts place_info
  obtain ⟨B2, hB2⟩ : ∃ b, b = w.heap.size := ⟨_, rfl⟩
  obtain ⟨B3, hB3⟩ : ∃ b, b = w.heap.size + 1 := ⟨_, rfl⟩
  obtain ⟨w1, hw1⟩ : ∃ w1, w1 = (w.alloc (.cells #[.bool false, .slice none 0 0, .int .i64 0] 43)).alloc (.cells #[.bool true, .slice none 0 0, .int .i64 0] 43) := ⟨_, rfl⟩
  have H1 : Hid (w1.heap[B2]? = some (.cells #[.bool false, .slice none 0 0, .int .i64 0] 43 (0, 0)) ∧ w1.heap[B3]? = some (.cells #[.bool true, .slice none 0 0, .int .i64 0] 43 (0, 0)) ∧ Below w.heap.size w w1 ∧ w.heap.size ≤ B2 ∧ B2 < B3 ∧ B3 < w1.heap.size) := by
    rw [hw1, hB2, hB3]
    refine ⟨by rw [Below.heap_alloc _ _ _ (by simp)]; exact heap_alloc_new _ _, ?_, ((Below.refl _ _).alloc (Nat.le_refl _) _).alloc (by simp) _, Nat.le_refl _, by omega, by simp⟩
    have := heap_alloc_new (w.alloc (.cells #[.bool false, .slice none 0 0, .int .i64 0] 43)) (.cells #[.bool true, .slice none 0 0, .int .i64 0] 43)
    simpa using this
  go_enter Tryz.func44, Tryz.ntmps44
  go_wp2
  rw [← hw1, ← hB3, ← hB2]
  clear hw1 hB2 hB3
  refine wp_loop_rounds 2 ?_
  rw [rounds_succ]
  obtain ⟨T, hT⟩ : ∃ T, T = w1.heap.size := ⟨_, rfl⟩
  obtain ⟨w2, hw2⟩ : ∃ w2, w2 = w1.alloc (.cells #[.pointer none] 92) := ⟨_, rfl⟩
  have H2 : Hid (w2.heap[T]? = some (.cells #[.pointer none] 92 (0, 0)) ∧ Below w1.heap.size w1 w2 ∧ w1.heap.size ≤ T ∧ T < w2.heap.size) := by
    rw [hw2, hT]; exact ⟨heap_alloc_new _ _, (Below.refl _ _).alloc (Nat.le_refl _) _, Nat.le_refl _, by simp⟩
  have HA := Lib.hid (as_hitF_at ⟨g, 0, none⟩ T w2 (HFB.out w2 (bchain H1.out.2.2.1 H2.out.2.1)).2.1 H2.out.1)
  go_wp2_with fail
  rw [← hw2, ← hT]
  clear hw2 hT
  refine HA.out.mono ?_
  rintro e w3 ⟨rfl, ht3, HK3⟩
  have H3 : Hid (w3.heap[B2]? = some (.cells #[.bool false, .slice none 0 0, .int .i64 0] 43 (0, 0)) ∧ w3.heap[B3]? = some (.cells #[.bool true, .slice none 0 0, .int .i64 0] 43 (0, 0)) ∧ Below w.heap.size w w3 ∧ B3 < T ∧ T < w3.heap.size) := by
    obtain ⟨h1, h2, h3, h4, h5, h6⟩ := H1.out
    obtain ⟨k1, k2, k3, k4⟩ := H2.out
    obtain ⟨q1, q2⟩ := HK3.out
    refine ⟨(q1 B2 (by omega) (by omega)).trans ((k2.block B2 (by omega)).trans h1), (q1 B3 (by omega) (by omega)).trans ((k2.block B3 (by omega)).trans h2), q2 _ _ (by omega) ?_ (bchain h3 k2), by omega, (Array.getElem?_eq_some_iff.1 ht3).1⟩
    exact Nat.le_trans h3.size k2.size
  have HF3 := HFB.out w3 H3.out.2.2.1
  obtain ⟨t0, tf, tl⟩ := cell1 ht3
  obtain ⟨e0, e1, e2, ef, el⟩ := cell3 H3.out.2.1
  obtain ⟨f0, f1, f2, ff, fl⟩ := cell3 HF3.1
  have hbz : Hid (w.heap.size ≤ w3.heap.size ∧ ∀ o, w.heap.size ≤ (w3.drew.alloc o).heap.size) := ⟨H3.out.2.2.1.size, fun o => by have := H3.out.2.2.1.size; simp; omega⟩
  have HST : Hid (∀ (w5 : World) o, (w3.drew.alloc o).grownBy w5 (Value.slice none 0 0).ownBlock → w5.heap[B2]? = some (.cells #[.bool false, .slice none 0 0, .int .i64 0] 43 (0, 0)) ∧ w5.heap[B3]? = some (.cells #[.bool true, .slice none 0 0, .int .i64 0] 43 (0, 0)) ∧ w5.heap[T]? = some (.cells #[.pointer (some ⟨g, 0, none⟩)] 92 (0, 0)) ∧ Below w.heap.size w w5) := fun w5 o hgr => by
    obtain ⟨h1, h2, h3, h4, h5⟩ := H3.out
    have hb : Below w3.heap.size w3 (w3.drew.alloc o) := (Below.refl _ _).drew.alloc (by simp) o
    have hb5 : Below w3.heap.size w3 w5 := hb.grown hgr (by simp) (fun k hk => by simp [Value.ownBlock] at hk)
    have l2 := (Array.getElem?_eq_some_iff.1 h1).1
    have l3 := (Array.getElem?_eq_some_iff.1 h2).1
    exact ⟨(hb5.block _ l2).trans h1, (hb5.block _ l3).trans h2, (hb5.block _ h5).trans ht3, bchain h3 hb5⟩
  have hBT : Hid (B3 ≠ T ∧ B2 ≠ B3 ∧ B2 ≠ T ∧ w.heap.size ≤ B2 ∧ w.heap.size ≤ B3 ∧ w.heap.size ≤ T) := by
    obtain ⟨h1, h2, h3, h4, h5, h6⟩ := H1.out
    have := H3.out.2.2.2
    simp only [Hid]; omega
  clear ht3 HK3 H1 H2 HA
  go_wp2_with fail
  go_region_law (refine step_append_lies _ (by rfl) _ _ _ (by rfl) w3.heap.size 91 i0 (.agg #[.int .i64 0, .int .i64 0]) 2 16 Tryz.underlying40 hi hz0 hz1 hz2 rfl (by decide) (.slice none 0 0) 0 [] (by rfl) (World.ownsRow_nil _ _ _ _) ⟨w3.heap.size, 0, none⟩ 1 1 [.int .i64 p1, .int .i64 p2] (by rfl) rfl (new2 _ _ _ _ _ (by simp)) (by simp [Value.oneCell']) (by decide) (by decide) (by decide) (by simp) _ rfl ?_; intro g5 c5 w5 hown5 hgrow5 hat5 hlt5; have HX5 := Lib.hid (HST.out _ _ hgrow5); have HO5 := Lib.hid hown5; clear hown5 hgrow5 hat5; obtain ⟨u0, u1, u2, uf, ul⟩ := cell3 HX5.out.2.1)
  all_goals
    obtain ⟨w6, hw6⟩ : ∃ w6, w6 = w5.setCell ⟨B3, 1, none⟩ (.slice (some ⟨g5, 0, none⟩) 1 c5) := ⟨_, rfl⟩
    have H6 : Hid (w6.heap[B2]? = some (.cells #[.bool false, .slice none 0 0, .int .i64 0] 43 (0, 0)) ∧ w6.heap[B3]? = some (.cells #[.bool true, .slice (some ⟨g5, 0, none⟩) 1 c5, .int .i64 0] 43 (0, 0)) ∧ w6.heap[T]? = some (.cells #[.pointer (some ⟨g, 0, none⟩)] 92 (0, 0)) ∧ Below w.heap.size w w6 ∧ w6.cell? ⟨g5, 0, none⟩ = some (.int .i64 p1) ∧ w6.cell? ⟨g5, 1, none⟩ = some (.int .i64 p2)) := by
      obtain ⟨h1, h2, h3, h4⟩ := HX5.out
      obtain ⟨n1, n2, n3, n4, n5, n6⟩ := hBT.out
      have hne : g5 ≠ B3 := fun e => by
        obtain ⟨cur, hh, _⟩ := own_block HO5.out (g := g5) (by simp [Value.ownBlock])
        rw [e, h2] at hh
        injection hh with hh
        injection hh with _ hh _
        exact absurd hh (by decide)
      have hr := HO5.out.cells (g := g5) rfl
      have c0 := hr 0 (.int .i64 p1) rfl
      have c1 := hr 1 (.int .i64 p2) rfl
      rw [Addr.add_lit] at c0 c1
      rw [hw6]
      have hkp : (w5.setCell ⟨B3, 1, none⟩ (.slice (some ⟨g5, 0, none⟩) 1 c5)).heap[g5]? = w5.heap[g5]? := Below.heap_setCell _ _ _ _ hne
      exact ⟨(Below.heap_setCell _ _ _ _ n2).trans h1, set_row h2 1 _, (Below.heap_setCell _ _ _ _ (fun e => n1 e.symm)).trans h3, belowS h4 n5 _, (World.cell?_of_block (w := w5) (a := ⟨g5, 0, none⟩) hkp).trans (by simpa using c0), (World.cell?_of_block (w := w5) (a := ⟨g5, 1, none⟩) hkp).trans (by simpa using c1)⟩
    rw [← hw6]
    clear hw6 HX5 HO5 u0 u1 u2 uf ul t0 tf tl e0 e1 e2 ef el f0 f1 f2 ff fl HF3 HST H3 hbz
    obtain ⟨t0, tf, tl⟩ := cell1 H6.out.2.2.1
    have HF6 := HFB.out w6 H6.out.2.2.2.1
    obtain ⟨f0, f1, f2, ff, fl⟩ := cell3 HF6.1
    go_wp2_with fail
    rw [rounds_succ]
    clear t0 tf tl f0 f1 f2 ff fl
    obtain ⟨T2, hT2⟩ : ∃ T, T = w6.heap.size := ⟨_, rfl⟩
    obtain ⟨w7, hw7⟩ : ∃ w7, w7 = w6.alloc (.cells #[.pointer none] 92) := ⟨_, rfl⟩
    have H7 : Hid (w7.heap[T2]? = some (.cells #[.pointer none] 92 (0, 0)) ∧ Below w6.heap.size w6 w7) := by
      rw [hw7, hT2]; exact ⟨heap_alloc_new _ _, (Below.refl _ _).alloc (Nat.le_refl _) _⟩
    have HA := Lib.hid (as_missEF_at c T2 w7 (HFB.out w7 (bchain H6.out.2.2.2.1 H7.out.2)).2.1 H7.out.1)
    go_wp2_with fail
    rw [← hw7, ← hT2]
    clear hw7 hT2
    refine HA.out.mono ?_
    rintro e w8 ⟨rfl, hb8⟩
    have H8 : Hid (Below w6.heap.size w6 w8) := bchain H7.out.2 hb8
    clear hb8 H7 HA
    obtain ⟨T3, hT3⟩ : ∃ T, T = w8.heap.size := ⟨_, rfl⟩
    obtain ⟨w9, hw9⟩ : ∃ w9, w9 = w8.alloc (.cells #[.int .i64 0] 41) := ⟨_, rfl⟩
    have H9 : Hid (w9.heap[T3]? = some (.cells #[.int .i64 0] 41 (0, 0)) ∧ Below w8.heap.size w8 w9 ∧ w8.heap.size ≤ T3) := by
      rw [hw9, hT3]; exact ⟨heap_alloc_new _ _, (Below.refl _ _).alloc (Nat.le_refl _) _, Nat.le_refl _⟩
    have HA := Lib.hid (as_hitE_at c T3 w9 (HFB.out w9 (bchain (bchain H6.out.2.2.2.1 H8.out) H9.out.2.1)).2.1 H9.out.1)
    go_wp2_with fail
    rw [← hw9, ← hT3]
    clear hw9 hT3
    refine HA.out.mono ?_
    rintro e wa ⟨rfl, hta, HKa⟩
    have HX : Hid (wa.heap[B2]? = some (.cells #[.bool false, .slice none 0 0, .int .i64 0] 43 (0, 0)) ∧ wa.heap[B3]? = some (.cells #[.bool true, .slice (some ⟨g5, 0, none⟩) 1 c5, .int .i64 0] 43 (0, 0)) ∧ Below w.heap.size w wa ∧ wa.heap[g5]? = w6.heap[g5]? ∧ w6.cell? ⟨g5, 0, none⟩ = some (.int .i64 p1) ∧ w6.cell? ⟨g5, 1, none⟩ = some (.int .i64 p2) ∧ g5 ≠ B2 ∧ g5 ≠ B3 ∧ T3 ≠ B3) := by
      obtain ⟨h1, h2, h3, h4, h5, h6⟩ := H6.out
      obtain ⟨n1, n2, n3, n4, n5, n6⟩ := hBT.out
      obtain ⟨k1, k2, k3⟩ := H9.out
      obtain ⟨q1, q2⟩ := HKa.out
      have hb9 : Below w6.heap.size w6 w9 := bchain H8.out k2
      have l2 := (Array.getElem?_eq_some_iff.1 h1).1
      have l3 := (Array.getElem?_eq_some_iff.1 h2).1
      have l5 := World.block_lt_of_cell? w6 _ h5
      simp only at l5
      have hs := H8.out.size
      have hs9 := hb9.size
      refine ⟨(q1 B2 (by omega) (by omega)).trans ((hb9.block _ l2).trans h1), (q1 B3 (by omega) (by omega)).trans ((hb9.block _ l3).trans h2), q2 _ _ (by have := h4.size; omega) (by have := h4.size; omega) (bchain h4 hb9), (q1 g5 (by omega) (by omega)).trans (hb9.block _ l5), h5, h6, ?_, ?_, by omega⟩
      · intro e
        rw [e] at h5
        simp [World.cell?, h1] at h5
      · intro e
        rw [e] at h5
        simp [World.cell?, h2] at h5
    obtain ⟨t0, tf, tl⟩ := cell1 hta
    obtain ⟨u0, u1, u2, uf, ul⟩ := cell3 HX.out.2.1
    obtain ⟨v0, v1, v2, vf, vl⟩ := cell3 HX.out.1
    have n23 : ¬ (B3 = B2) := by have := hBT.out; omega
    have n32 : ¬ (B2 = B3) := by have := hBT.out; omega
    clear hta HKa H6 H8 H9 HA
    go_wp2
    refine bodyPost_ret (v := .agg #[.bool true, .slice (some ⟨g5, 0, none⟩) 1 c5, .int .i64 c]) ?_ rfl ?_
    · simp [results, Tryz.results44, go_sem, v0, v1, v2, vf, n23, n32, u0, u1, u2, uf]
    · obtain ⟨h1, h2, h3, h4, h5, h6, h7, h8, h9⟩ := HX.out
      obtain ⟨n1, n2, n3, n4, n5, n6⟩ := hBT.out
      refine ⟨_, rfl, ⟨g5, c5, rfl, ?_, ?_⟩, belowS (belowS (belowS (belowS h3 n5 _) n4 _) n4 _) n4 _⟩
      · refine (World.cell?_of_block (w := w6) (a := ⟨g5, 0, none⟩) ?_).trans h5
        rw [Below.heap_setCell _ _ _ _ (by exact h7), Below.heap_setCell _ _ _ _ (by exact h7), Below.heap_setCell _ _ _ _ (by exact h7), Below.heap_setCell _ _ _ _ (by exact h8)]; exact h4
      · refine (World.cell?_of_block (w := w6) (a := ⟨g5, 1, none⟩) ?_).trans h6
        rw [Below.heap_setCell _ _ _ _ (by exact h7), Below.heap_setCell _ _ _ _ (by exact h7), Below.heap_setCell _ _ _ _ (by exact h7), Below.heap_setCell _ _ _ _ (by exact h8)]; exact h4

set_option maxHeartbeats 1000000 in
theorem ofe_any {v : Value} {er : Er} (w : World) (hg : ErrT w) (h : ErrIs w v er) : Calls Tryz.prog 44 #[v] w fun e w' => ∃ v, e = .returned v ∧ OfIs w' v er ∧ Below w.heap.size w w' := by
  match er, h with
  | none, h =>
    rw [show v = .nilIface from h]
    clear h hg
    go_enter Tryz.func44, Tryz.ntmps44
    go_wp2
    refine bodyPost_ret (v := .agg #[.bool false, .slice none 0 0, .int .i64 0]) ?_ rfl ?_
    · simp [results, Tryz.results44, go_sem]
    · refine ⟨_, rfl, rfl, ?_⟩
      repeat (first | with_reducible exact Below.refl _ _ | with_reducible refine eSet ?_ (by first | (simp; done) | (simp; omega)) _ | refine Below.alloc ?_ (by first | (simp; done) | (simp; omega)) _)
  | some ([], c), h =>
    rw [show v = _ from h]
    refine (of_errno c w hg).mono ?_
    rintro e w' ⟨rfl, hb⟩
    exact ⟨_, rfl, rfl, hb⟩
  | some ([p], c), h =>
    obtain ⟨g, rfl, hf⟩ := h
    exact of_fault g p.1 p.2 c w hg hf
  | some (_ :: _ :: _, _), h => exact h.elim
set_option maxRecDepth 100000 in
set_option maxHeartbeats 1000000 in
theorem same_E {v u : Value} {er : Er} (w : World) (h : OfIs w v er) (k : OfIs w u er) : Calls Tryz.prog 43 #[v, u] w fun e w' => e = .returned (.bool true) ∧ Below w.heap.size w w' := by
  match er, h, k with
  | none, h, k =>
    rw [show v = _ from h, show u = _ from k]
    go_enter Tryz.func43, Tryz.ntmps43
    go_wp2
    refine wp_loop_rounds 1 ?_
    rw [rounds_succ]
    go_wp2
    go_ret
    exact ⟨rfl, ((Below.refl _ _).alloc (Nat.le_refl _) _).alloc (by simp) _⟩
  | some ([], c), h, k =>
    rw [show v = _ from h, show u = _ from k]
    have := same_plain c c w
    rw [decide_eq_true rfl] at this
    exact this
  | some ([p], c), h, k =>
    obtain ⟨g, c1, rfl, h1, h2⟩ := h
    obtain ⟨g', c2, rfl, k1, k2⟩ := k
    have hl := World.block_lt_of_cell? w _ h1
    have kl := World.block_lt_of_cell? w _ k1
    simp only at hl kl
    obtain ⟨p1, p2⟩ := p
    simp only at h1 h2 k1 k2
    have heq : ∀ w, (Op.equalIn 10000 91 (.agg #[.int .i64 p1, .int .i64 p2]) (.agg #[.int .i64 p1, .int .i64 p2])).run Tryz.prog w = .ok true w := fun w => place_equal p1 p2 w
    obtain ⟨b2, hb2⟩ : ∃ b, b = w.heap.size := ⟨_, rfl⟩
    obtain ⟨b3, hb3⟩ : ∃ b, b = w.heap.size + 1 := ⟨_, rfl⟩
    obtain ⟨w1, hw1⟩ : ∃ w1, w1 = (w.alloc (.cells #[.bool true, .slice (some ⟨g, 0, none⟩) 1 c1, .int .i64 c] 43)).alloc (.cells #[.bool true, .slice (some ⟨g', 0, none⟩) 1 c2, .int .i64 c] 43) := ⟨_, rfl⟩
    have H1 : Hid (w1.heap[b2]? = some (.cells #[.bool true, .slice (some ⟨g, 0, none⟩) 1 c1, .int .i64 c] 43 (0, 0)) ∧ w1.heap[b3]? = some (.cells #[.bool true, .slice (some ⟨g', 0, none⟩) 1 c2, .int .i64 c] 43 (0, 0)) ∧ Below w.heap.size w w1) := by
      rw [hw1, hb2, hb3]
      refine ⟨by rw [Below.heap_alloc _ _ _ (by simp)]; exact heap_alloc_new _ _, ?_, ((Below.refl _ _).alloc (Nat.le_refl _) _).alloc (by simp) _⟩
      have := heap_alloc_new (w.alloc (.cells #[.bool true, .slice (some ⟨g, 0, none⟩) 1 c1, .int .i64 c] 43)) (.cells #[.bool true, .slice (some ⟨g', 0, none⟩) 1 c2, .int .i64 c] 43)
      simpa using this
    have a1 := (H1.out.2.2.cell (p := ⟨g, 0, none⟩) hl).trans h1
    have a2 := (H1.out.2.2.cell (p := ⟨g, 1, none⟩) hl).trans h2
    have a3 := (H1.out.2.2.cell (p := ⟨g', 0, none⟩) kl).trans k1
    have a4 := (H1.out.2.2.cell (p := ⟨g', 1, none⟩) kl).trans k2
    obtain ⟨u0, u1, u2, _, _⟩ := cell3 H1.out.1
    obtain ⟨v0, v1, v2, _, _⟩ := cell3 H1.out.2.1
    clear h1 h2 k1 k2 hl kl
    go_enter Tryz.func43, Tryz.ntmps43
    go_wp2
    rw [← hw1, ← hb3, ← hb2]
    clear hw1 hb2 hb3
    refine wp_loop_rounds 2 ?_
    rw [rounds_succ]
    go_wp2
    go_quiet (fail)
    go_wp2
    rw [rounds_succ]
    go_wp2
    go_ret
    exact ⟨rfl, bdrewN H1.out.2.2 _⟩
  | some (_ :: _ :: _, _), h, _ => exact h.elim
/-- THE ERROR IS THE DOCUMENT's. -/
theorem fails_any {v x : Value} {er : Er} (w : World) (hg : ErrT w) (h : ErrIs w v er) (k : OfIs w x er) : Calls Tryz.prog 20 #[v, x] w fun e w' => e = .returned (.bool true) ∧ Below w.heap.size w w' := by
  have HB : Hid (∀ t, Below w.heap.size w (w.alloc (.cells t 43))) := fun t => (Below.refl _ _).alloc (Nat.le_refl _) _
  obtain ⟨a, b, c, rfl⟩ : ∃ a b c, x = .agg #[a, b, c] := by
    match er, k with
    | none, k => exact ⟨_, _, _, k⟩
    | some ([], c), k => exact ⟨_, _, _, k⟩
    | some ([p], c), k => obtain ⟨g, cap, rfl, _⟩ := k; exact ⟨_, _, _, rfl⟩
    | some (_ :: _ :: _, _), k => exact k.elim
  have HOF : Hid (∀ W, Below w.heap.size w W → Calls Tryz.prog 44 #[v] W fun e w' => ∃ v, e = .returned v ∧ OfIs w' v er ∧ Below W.heap.size W w') := fun W hW => ofe_any W (hg.below hW) (h.below hW)
  have HSM : Hid (∀ u W, Below w.heap.size w W → OfIs W u er → Calls Tryz.prog 43 #[u, .agg #[a, b, c]] W fun e w' => e = .returned (.bool true) ∧ Below W.heap.size W w') := fun u W hW hu => same_E W hu (k.below hW)
  clear hg h k
  go_enter Tryz.func20, Tryz.ntmps20
  go_wp2_with fail
  go_region_with (first
    | (go_at_call 44; refine (HOF.out _ (by exact (HB.out _).drew)).mono ?_; rintro e w1 ⟨v1, rfl, H1⟩; have H1' := Lib.hid H1; have q0 : w1.cell? ⟨w.heap.size, 0, none⟩ = some a := (H1.2.cell (p := ⟨w.heap.size, 0, none⟩) (by simp)).trans (by simp); have q1 : w1.cell? ⟨w.heap.size, 1, none⟩ = some b := (H1.2.cell (p := ⟨w.heap.size, 1, none⟩) (by simp)).trans (by simp); have q2 : w1.cell? ⟨w.heap.size, 2, none⟩ = some c := (H1.2.cell (p := ⟨w.heap.size, 2, none⟩) (by simp)).trans (by simp); clear H1)
    | (go_at_call 43; refine (HSM.out _ _ (bchain (HB.out _).drew H1'.out.2) H1'.out.1).mono ?_; rintro e w2 ⟨rfl, hb2⟩))
  all_goals
    go_wp2
    go_ret
    exact ⟨rfl, bchain (bchain (HB.out _).drew H1'.out.2) hb2⟩
end Go.Proofs.YtlkfcfcejicdkaaGreatDoor
