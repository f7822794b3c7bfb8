/-
  tree: the document's done; what the document's changes keep. Own work.
-/
import Derived.Test.YtlkfcfcejicdkaaGreatDoorTreeStep
import Derived.Test.YtlkfcfcejicdkaaGreatDoorTreeRCheck
set_option linter.unusedSimpArgs false
set_option linter.unusedVariables false
namespace Go.Proofs.YtlkfcfcejicdkaaGreatDoor
open Go Go.RowKit

/-- What a call of the document's answers that gives a graph. -/
def GivesR (w0 : World) (e : Ending) (w' : World) (r : Er × Gr) : Prop := ∃ (Am : Option Addr) (n cm : Nat) (Al : Option Addr) (q cl : Nat) (v : Value), e = .returned (.tuple #[grV Am n cm Al q cl, v]) ∧ Hid (EIs w' v r.1 ∧ GrAt w' Am n Al q r.2.1 r.2.2 ∧ Below w0.heap.size w0 w')
/-- An error value of the document's. -/
abbrev eVal (bb : Bool) (Ae : Option Addr) (me ce : Nat) (ie : Int) : Value := .agg #[.bool bb, .slice Ae me ce, .int .i64 ie]
/-- The box of an error, and what was there ahead. -/
structure KE (w1 W : World) (b8 : Nat) (a b c : Value) : Prop where
  old : Bl w1 W
  e8 : W.heap[b8]? = some (.cells #[a, b, c] 43 (0, 0))
  n : w1.heap.size ≤ b8
section
variable {w1 W W' : World} {b8 : Nat} {a b c : Value}
theorem KE.step (h : KE w1 W b8 a b c) (hb : Below W.heap.size W W') : KE w1 W' b8 a b c := ⟨h.old.trans (hb.mono h.old.size), (hb.block _ (Array.getElem?_eq_some_iff.1 h.e8).1).trans h.e8, h.n⟩
theorem KE.set (h : KE w1 W b8 a b c) (x y z : Value) : KE w1 (((W.setCell ⟨b8, 0, none⟩ x).setCell ⟨b8, 1, none⟩ y).setCell ⟨b8, 2, none⟩ z) b8 x y z :=
  ⟨belowS (belowS (belowS h.old h.n _) h.n _) h.n _, (three_set h.e8 x y z).2.2, h.n⟩
theorem KE.new {w2 : World} (h : Bl w1 w2) (hb : b8 = w2.heap.size) (x y z : Value) : KE w1 ((((w2.alloc (.cells #[a, b, c] 43)).setCell ⟨b8, 0, none⟩ x).setCell ⟨b8, 1, none⟩ y).setCell ⟨b8, 2, none⟩ z) b8 x y z := by
  subst hb
  have h0 : KE w1 (w2.alloc (.cells #[a, b, c] 43)) w2.heap.size a b c := ⟨h.al _, heap_alloc_new _ _, h.size⟩
  exact h0.set x y z
end
/-- The boxes of what goes out, at the beginning. -/
structure KR (w w1 : World) (b6 b7 : Nat) : Prop where
  old : Below w.heap.size w w1
  r6 : w1.heap[b6]? = some (.cells #[.slice none 0 0, .slice none 0 0] 25 (0, 0))
  r7 : w1.heap[b7]? = some (.cells #[.bool false, .slice none 0 0, .int .i64 0] 43 (0, 0))
  n : w.heap.size ≤ b6 ∧ b6 < b7 ∧ b7 < w1.heap.size
section
variable {w w1 W W' : World} {b6 b7 : Nat}
theorem KR.cells (h : KR w w1 b6 b7) (hb : Bl w1 W) : W.cell? ⟨b6, 0, none⟩ = some (.slice none 0 0) ∧ W.cell? ⟨b6, 1, none⟩ = some (.slice none 0 0) ∧ (∀ i, W.frozen? ⟨b6, i, none⟩ = false) ∧ W.cell? ⟨b7, 0, none⟩ = some (.bool false) ∧ W.cell? ⟨b7, 1, none⟩ = some (.slice none 0 0) ∧ W.cell? ⟨b7, 2, none⟩ = some (.int .i64 0) ∧ (∀ i, W.frozen? ⟨b7, i, none⟩ = false) ∧ ¬ (b6 = b7) ∧ ¬ (b7 = b6) ∧ b6 < W.heap.size ∧ b7 < W.heap.size := by
  have hn := h.n
  obtain ⟨h1, h2, h3, h4⟩ := cell2 ((hb.block b6 (by omega)).trans h.r6)
  obtain ⟨h5, h6, h7, h8, h9⟩ := cell3 ((hb.block b7 (by omega)).trans h.r7)
  exact ⟨h1, h2, h3, h5, h6, h7, h8, by omega, by omega, h4, h9⟩
/-- Behind stores into the two boxes. -/
structure FarB (w W W' : World) (b6 b7 : Nat) : Prop where
  keep : ∀ g, g < W.heap.size → g ≠ b6 → g ≠ b7 → W'.heap[g]? = W.heap[g]?
  size : W.heap.size ≤ W'.heap.size
  low : Below w.heap.size w W'
theorem FarB.refl (h : KR w w1 b6 b7) (hb : Bl w1 W) : FarB w W W b6 b7 := ⟨fun _ _ _ _ => rfl, Nat.le_refl _, h.old.trans (Below.mono hb h.old.size)⟩
theorem FarB.set6 (h : KR w w1 b6 b7) (hf : FarB w W W' b6 b7) (i : Nat) (v : Value) : FarB w W (W'.setCell ⟨b6, i, none⟩ v) b6 b7 :=
  ⟨fun g h1 h2 h3 => (Below.heap_setCell _ _ _ _ h2).trans (hf.keep g h1 h2 h3), by have := hf.size; simpa [World.setCell] using this, belowS hf.low h.n.1 _⟩
theorem FarB.set7 (h : KR w w1 b6 b7) (hf : FarB w W W' b6 b7) (i : Nat) (v : Value) : FarB w W (W'.setCell ⟨b7, i, none⟩ v) b6 b7 :=
  ⟨fun g h1 h2 h3 => (Below.heap_setCell _ _ _ _ h3).trans (hf.keep g h1 h2 h3), by have := hf.size; simpa [World.setCell] using this, belowS hf.low (by have := h.n; omega) _⟩
theorem FarB.al (hf : FarB w W W' b6 b7) (o : Obj) : FarB w W (W'.alloc o) b6 b7 :=
  ⟨fun g h1 h2 h3 => (Below.heap_alloc _ _ _ (Nat.lt_of_lt_of_le h1 hf.size)).trans (hf.keep g h1 h2 h3), Nat.le_trans hf.size (by simp), hf.low.alloc hf.low.size _⟩
theorem FarB.dr (hf : FarB w W W' b6 b7) : FarB w W W'.drew b6 b7 := ⟨hf.keep, hf.size, hf.low.drew⟩
theorem FarB.e (h : KR w w1 b6 b7) (hb : Bl w1 W) (hf : FarB w W W' b6 b7) {v : Value} {e : Er} (he : EIs W v e) : EIs W' v e := by
  have hn := h.n
  refine he.keep fun g x hg => hf.keep g (Array.getElem?_eq_some_iff.1 hg).1 (fun e => ?_) (fun e => ?_)
  · rw [e, (hb.block b6 (by omega)).trans h.r6] at hg
    injection hg with hg; injection hg with _ hg _
    exact absurd hg (by decide)
  · rw [e, (hb.block b7 (by omega)).trans h.r7] at hg
    injection hg with hg; injection hg with _ hg _
    exact absurd hg (by decide)
theorem FarB.row (h : KR w w1 b6 b7) (hb : Bl w1 W) (hf : FarB w W W' b6 b7) {base s n : Nat} {e : TypeId} {v : Value} {xs : List Value} (ho : W.ownsRow base e s v n xs) (h1 : e ≠ 25) (h2 : e ≠ 43) : W'.ownsRow base e s v n xs := by
  have hn := h.n
  refine ownsRow_keep ho fun g hg => hf.keep g ?_ (fun e => ?_) (fun e => ?_)
  · obtain ⟨cur, hh, _, hl⟩ := own_block ho hg
    exact hl
  · obtain ⟨cur, hh, _⟩ := own_block ho hg
    rw [e, (hb.block b6 (by omega)).trans h.r6] at hh
    injection hh with hh; injection hh with _ hh _
    exact h1 hh.symm
  · obtain ⟨cur, hh, _⟩ := own_block ho hg
    rw [e, (hb.block b7 (by omega)).trans h.r7] at hh
    injection hh with hh; injection hh with _ hh _
    exact h2 hh.symm
theorem FarB.own (h : KR w w1 b6 b7) (hb : Bl w1 W) (hf : FarB w W W' b6 b7) {base : Nat} {Am : Option Addr} {n cm : Nat} {Al : Option Addr} {q cl : Nat} {ms : List Int} {ls : List Lk} (ho : GrOwn base W Am n cm Al q cl ms ls) : GrOwn base W' Am n cm Al q cl ms ls :=
  ⟨ho.mlen, ho.llen, hf.row h hb ho.mrow (by decide) (by decide), hf.row h hb ho.lrow (by decide) (by decide)⟩
end
theorem err_form {w : World} {v : Value} {e : Er} (h : EIs w v e) : (e = none ∧ v = .agg #[.bool false, .slice none 0 0, .int .i64 0]) ∨ (e ≠ none ∧ ∃ A m cp c, v = .agg #[.bool true, .slice A m cp, .int .i64 c]) := by
  match e, h with
  | none, h => exact .inl ⟨rfl, h⟩
  | some ([], c), h => exact .inr ⟨by simp, _, _, _, _, h⟩
  | some ([p], c), h =>
    obtain ⟨g, h1, _⟩ := h
    exact .inr ⟨by simp, _, _, _, _, h1⟩
  | some (_ :: _ :: _, _), h => exact h.elim
theorem EIs.zero (W : World) : EIs W (.agg #[.bool false, .slice none 0 0, .int .i64 0]) none := rfl
theorem done_some {ms : List Int} {ls : List Lk} {e : Er} (h : chk ms ls = e) (he : e ≠ none) : doneP ms ls = (e, [], []) := by
  unfold doneP
  rw [h]
  cases e with
  | none => exact absurd rfl he
  | some e => rfl
theorem done_none {ms : List Int} {ls : List Lk} (h : chk ms ls = none) : doneP ms ls = (none, ms, ls) := by
  unfold doneP
  rw [h]
set_option maxRecDepth 100000 in
set_option maxHeartbeats 4000000 in
theorem rdone_any (Am : Option Addr) (n cm : Nat) (Al : Option Addr) (q cl : Nat) (ms : List Int) (ls : List Lk) (base : Nat) (w : World) (hG : GrOwn base w Am n cm Al q cl ms ls) (hn : n ≤ 1000) (hq : q ≤ 1000) :
    Calls Tryz.prog 52 #[grV Am n cm Al q cl] w fun e w' => ∃ (Am' : Option Addr) (n' cm' : Nat) (Al' : Option Addr) (q' cl' : Nat) (bb : Bool) (Ae : Option Addr) (me ce : Nat) (ie : Int), e = .returned (.tuple #[grV Am' n' cm' Al' q' cl', eVal bb Ae me ce ie]) ∧ Hid (EIs w' (eVal bb Ae me ce ie) (doneP ms ls).1 ∧ GrOwn base w' Am' n' cm' Al' q' cl' (doneP ms ls).2.1 (doneP ms ls).2.2 ∧ Below w.heap.size w w') := by
  have HG := Lib.hid hG
  have HN : Hid (n ≤ 1000 ∧ q ≤ 1000) := ⟨hn, hq⟩
  clear hG hn hq
  obtain ⟨b1, hb1⟩ : ∃ b, b = w.heap.size := ⟨_, rfl⟩
  obtain ⟨b6, hb6⟩ : ∃ b, b = w.heap.size + 1 := ⟨_, rfl⟩
  obtain ⟨b7, hb7⟩ : ∃ b, b = w.heap.size + 1 + 1 := ⟨_, rfl⟩
  obtain ⟨w1, hw1⟩ : ∃ w1, w1 = ((w.alloc (.cells #[.slice Am n cm, .slice Al q cl] 25)).alloc (.cells #[.slice none 0 0, .slice none 0 0] 25)).alloc (.cells #[.bool false, .slice none 0 0, .int .i64 0] 43) := ⟨_, rfl⟩
  have HR : Hid (KR w w1 b6 b7 ∧ w1.heap[b1]? = some (.cells #[.slice Am n cm, .slice Al q cl] 25 (0, 0)) ∧ b1 < w1.heap.size) := by
    rw [hw1, hb1, hb6, hb7]
    refine ⟨⟨(((Below.refl _ _).alloc (Nat.le_refl _) _).alloc (by simp) _).alloc (by simp; omega) _, ?_, ?_, by simp⟩, ?_, by simp; omega⟩
    · rw [Below.heap_alloc _ _ _ (by simp)]
      have := heap_alloc_new (w.alloc (.cells #[.slice Am n cm, .slice Al q cl] 25)) (.cells #[.slice none 0 0, .slice none 0 0] 25)
      simpa using this
    · have := heap_alloc_new ((w.alloc (.cells #[.slice Am n cm, .slice Al q cl] 25)).alloc (.cells #[.slice none 0 0, .slice none 0 0] 25)) (.cells #[.bool false, .slice none 0 0, .int .i64 0] 43)
      simpa using this
    · rw [Below.heap_alloc _ _ _ (by simp; omega), Below.heap_alloc _ _ _ (by simp)]; exact heap_alloc_new _ _
  have HCK := Lib.hid (rcheck_any Am n cm Al q cl ms ls w1 (HG.out.at_.below HR.out.1.old) (Nat.le_trans HN.out.1 (by decide)) (Nat.le_trans HN.out.2 (by decide)))
  have HGC : Hid (∀ W, Bl w1 W → W.cell? ⟨b1, 0, none⟩ = some (.slice Am n cm) ∧ W.cell? ⟨b1, 1, none⟩ = some (.slice Al q cl)) := fun W hW => by
    obtain ⟨h1, h2, _⟩ := cell2 ((Below.block hW b1 HR.out.2.2).trans HR.out.2.1)
    exact ⟨h1, h2⟩
  go_enter Tryz.func52, Tryz.ntmps52
  go_wp2_with fail
  rw [← hw1, ← hb7, ← hb6, ← hb1]
  clear hw1 hb1 hb6 hb7
  refine HCK.out.mono ?_
  rintro e w2 ⟨v, rfl, HE⟩
  have HB2 : Hid (Bl w1 w2) := HE.out.2
  rcases err_form HE.out.1 with ⟨hc, rfl⟩ | ⟨hc, A0, m0, c0_1, i0, rfl⟩
  case inl =>
    have HD := Lib.hid (done_none hc)
    have HX := Lib.hid (HR.out.1.cells HB2.out)
    obtain ⟨g0, g1, gf, e0, e1, e2, ef, n12, n21, l6, l7⟩ := HX.out
    obtain ⟨c0, c1⟩ := HGC.out w2 HB2.out
    have l1 : b1 < w2.heap.size := Nat.lt_of_lt_of_le HR.out.2.2 HB2.out.size
    have n1 : ¬ (b1 = w2.heap.size) := by omega
    have n1' : ¬ (w2.heap.size = b1) := by omega
    have n6 : ¬ (b6 = w2.heap.size) := by omega
    have n6' : ¬ (w2.heap.size = b6) := by omega
    have n7 : ¬ (b7 = w2.heap.size) := by omega
    have n7' : ¬ (w2.heap.size = b7) := by omega
    clear hc HE HCK
    go_wp2_with fail
    refine bodyPost_ret (v := .tuple #[grV Am n cm Al q cl, .agg #[.bool false, .slice none 0 0, .int .i64 0]]) ?_ rfl ?_
    · simp [results, Tryz.results52, go_sem, g0, g1, gf, e0, e1, e2, ef, n12, n21, n1, n1', n6, n6', n7, n7', l1, l6, l7]
    · refine ⟨Am, n, cm, Al, q, cl, _, _, _, _, _, rfl, ?_⟩
      rw [HD.out]
      have key : ∀ W9, FarB w w2 W9 b6 b7 → Hid (EIs W9 (.agg #[.bool false, .slice none 0 0, .int .i64 0]) none ∧ GrOwn base W9 Am n cm Al q cl ms ls ∧ Below w.heap.size w W9) := fun W9 h9 => ⟨EIs.zero _, h9.own HR.out.1 HB2.out (GrOwn.below (GrOwn.below HG.out HR.out.1.old) HB2.out), h9.low⟩
      refine key _ ?_
      repeat (first | with_reducible exact FarB.refl HR.out.1 HB2.out | with_reducible refine FarB.set6 HR.out.1 ?_ _ _ | with_reducible refine FarB.set7 HR.out.1 ?_ _ _ | with_reducible refine FarB.al ?_ _ | with_reducible refine FarB.dr ?_)
  case inr =>
    have HD := Lib.hid (done_some (e := chk ms ls) rfl hc)
    have HX := Lib.hid (HR.out.1.cells HB2.out)
    obtain ⟨g0, g1, gf, e0, e1, e2, ef, n12, n21, l6, l7⟩ := HX.out
    obtain ⟨c0, c1⟩ := HGC.out w2 HB2.out
    have l1 : b1 < w2.heap.size := Nat.lt_of_lt_of_le HR.out.2.2 HB2.out.size
    have n1 : ¬ (b1 = w2.heap.size) := by omega
    have n1' : ¬ (w2.heap.size = b1) := by omega
    have n6 : ¬ (b6 = w2.heap.size) := by omega
    have n6' : ¬ (w2.heap.size = b6) := by omega
    have n7 : ¬ (b7 = w2.heap.size) := by omega
    have n7' : ¬ (w2.heap.size = b7) := by omega
    clear hc HCK
    go_wp2_with fail
    go_region
    all_goals
      go_wp2
      refine bodyPost_ret (v := .tuple #[grV none 0 0 none 0 0, .agg #[.bool true, .slice A0 m0 c0_1, .int .i64 i0]]) ?_ rfl ?_
      · simp [results, Tryz.results52, go_sem, g0, g1, gf, e0, e1, e2, ef, n12, n21, n1, n1', n6, n6', n7, n7', l1, l6, l7]
      · refine ⟨none, 0, 0, none, 0, 0, _, _, _, _, _, rfl, ?_⟩
        rw [HD.out]
        have key : ∀ W9, FarB w w2 W9 b6 b7 → Hid (EIs W9 (.agg #[.bool true, .slice A0 m0 c0_1, .int .i64 i0]) (chk ms ls) ∧ GrOwn base W9 none 0 0 none 0 0 [] [] ∧ Below w.heap.size w W9) := fun W9 h9 => ⟨h9.e HR.out.1 HB2.out HE.out.1, GrOwn.nil _ _, h9.low⟩
        refine key _ ?_
        repeat (first | with_reducible exact FarB.refl HR.out.1 HB2.out | with_reducible refine FarB.set6 HR.out.1 ?_ _ _ | with_reducible refine FarB.set7 HR.out.1 ?_ _ _ | with_reducible refine FarB.al ?_ _ | with_reducible refine FarB.dr ?_)
theorem KE.fresh {w1 w2 : World} {b8 : Nat} {a b c : Value} (h : Bl w1 w2) (hb : b8 = w2.heap.size) : KE w1 (w2.alloc (.cells #[a, b, c] 43)) b8 a b c := by
  subst hb
  exact ⟨h.al _, heap_alloc_new _ _, h.size⟩
/-- What a call of the document's answers that gives a graph of its own. -/
def GivesO (w0 : World) (e : Ending) (w' : World) (r : Er × Gr) : Prop := ∃ (Am : Option Addr) (n cm : Nat) (Al : Option Addr) (q cl : Nat) (bb : Bool) (Ae : Option Addr) (me ce : Nat) (ie : Int), e = .returned (.tuple #[grV Am n cm Al q cl, eVal bb Ae me ce ie]) ∧ Hid (EIs w' (eVal bb Ae me ce ie) r.1 ∧ GrOwn w0.heap.size w' Am n cm Al q cl r.2.1 r.2.2 ∧ Below w0.heap.size w0 w')
theorem alloc3 (w : World) (a0 a1 a2 : Obj) : (((w.alloc a0).alloc a1).alloc a2).heap[w.heap.size]? = some a0 ∧ (((w.alloc a0).alloc a1).alloc a2).heap[w.heap.size + 1]? = some a1 ∧ (((w.alloc a0).alloc a1).alloc a2).heap[w.heap.size + 1 + 1]? = some a2 ∧ (((w.alloc a0).alloc a1).alloc a2).heap.size = w.heap.size + 1 + 1 + 1 ∧ Below w.heap.size w (((w.alloc a0).alloc a1).alloc a2) := by
  refine ⟨?_, ?_, ?_, ?_, ?_⟩
  · show (((w.heap.push a0).push a1).push a2)[w.heap.size]? = some a0
    simp only [Array.getElem?_push, Array.size_push]
    repeat (rw [if_neg (by omega)])
    exact if_pos trivial
  · show (((w.heap.push a0).push a1).push a2)[w.heap.size + 1]? = some a1
    simp only [Array.getElem?_push, Array.size_push]
    repeat (rw [if_neg (by omega)])
    exact if_pos trivial
  · show (((w.heap.push a0).push a1).push a2)[w.heap.size + 1 + 1]? = some a2
    simp only [Array.getElem?_push, Array.size_push]
    repeat (rw [if_neg (by omega)])
    exact if_pos trivial
  · simp
  · repeat (first | exact Below.refl _ _ | refine Below.alloc ?_ (by simp; try omega) _)
theorem alloc5 (w : World) (a0 a1 a2 a3 a4 : Obj) : (((((w.alloc a0).alloc a1).alloc a2).alloc a3).alloc a4).heap[w.heap.size]? = some a0 ∧ (((((w.alloc a0).alloc a1).alloc a2).alloc a3).alloc a4).heap[w.heap.size + 1]? = some a1 ∧ (((((w.alloc a0).alloc a1).alloc a2).alloc a3).alloc a4).heap[w.heap.size + 1 + 1]? = some a2 ∧ (((((w.alloc a0).alloc a1).alloc a2).alloc a3).alloc a4).heap[w.heap.size + 1 + 1 + 1]? = some a3 ∧ (((((w.alloc a0).alloc a1).alloc a2).alloc a3).alloc a4).heap[w.heap.size + 1 + 1 + 1 + 1]? = some a4 ∧ (((((w.alloc a0).alloc a1).alloc a2).alloc a3).alloc a4).heap.size = w.heap.size + 1 + 1 + 1 + 1 + 1 ∧ Below w.heap.size w (((((w.alloc a0).alloc a1).alloc a2).alloc a3).alloc a4) := by
  refine ⟨?_, ?_, ?_, ?_, ?_, ?_, ?_⟩
  · show (((((w.heap.push a0).push a1).push a2).push a3).push a4)[w.heap.size]? = some a0
    simp only [Array.getElem?_push, Array.size_push]
    repeat (rw [if_neg (by omega)])
    exact if_pos trivial
  · show (((((w.heap.push a0).push a1).push a2).push a3).push a4)[w.heap.size + 1]? = some a1
    simp only [Array.getElem?_push, Array.size_push]
    repeat (rw [if_neg (by omega)])
    exact if_pos trivial
  · show (((((w.heap.push a0).push a1).push a2).push a3).push a4)[w.heap.size + 1 + 1]? = some a2
    simp only [Array.getElem?_push, Array.size_push]
    repeat (rw [if_neg (by omega)])
    exact if_pos trivial
  · show (((((w.heap.push a0).push a1).push a2).push a3).push a4)[w.heap.size + 1 + 1 + 1]? = some a3
    simp only [Array.getElem?_push, Array.size_push]
    repeat (rw [if_neg (by omega)])
    exact if_pos trivial
  · show (((((w.heap.push a0).push a1).push a2).push a3).push a4)[w.heap.size + 1 + 1 + 1 + 1]? = some a4
    simp only [Array.getElem?_push, Array.size_push]
    repeat (rw [if_neg (by omega)])
    exact if_pos trivial
  · simp
  · repeat (first | exact Below.refl _ _ | refine Below.alloc ?_ (by simp; try omega) _)
end Go.Proofs.YtlkfcfcejicdkaaGreatDoor
