/-
  tree: copied, walked. Own work.
-/
import Derived.Test.YtlkfcfcejicdkaaGreatDoorTreeCheck
import Derived.Test.YtlkfcfcejicdkaaGreatDoorTreeDelI
import Derived.Test.YtlkfcfcejicdkaaGreatDoorTreeCloneI
import Derived.Test.YtlkfcfcejicdkaaGreatDoorTreeCloneL
import Derived.Deep.RegionWith
set_option linter.unusedSimpArgs false
set_option linter.unusedVariables false
namespace Go.Proofs.YtlkfcfcejicdkaaGreatDoor
open Go Go.RowKit

/-- A graph in memory of the call's own. -/
structure GrOwn (base : Nat) (w : World) (Am : Option Addr) (n cm : Nat) (Al : Option Addr) (q cl : Nat) (ms : List Int) (ls : List Lk) : Prop where
  mlen : ms.length = n
  llen : ls.length = q
  mrow : w.ownsRow base 3 1 (.slice Am n cm) n (intVs ms)
  lrow : w.ownsRow base 35 2 (.slice Al q cl) q (lkCells ls)
section
variable {base : Nat} {w w' : World} {Am Al : Option Addr} {n cm q cl : Nat} {ms : List Int} {ls : List Lk}
theorem GrOwn.at_ (h : GrOwn base w Am n cm Al q cl ms ls) : GrAt w Am n Al q ms ls := ⟨h.mlen, h.llen, RowAt.of_own h.mrow, RowAt.of_own h.lrow⟩
theorem GrOwn.below (h : GrOwn base w Am n cm Al q cl ms ls) (hb : Below w.heap.size w w') : GrOwn base w' Am n cm Al q cl ms ls := ⟨h.mlen, h.llen, ownsRow_below h.mrow hb, ownsRow_below h.lrow hb⟩
theorem GrOwn.mono {base' : Nat} (h : GrOwn base w Am n cm Al q cl ms ls) (hb : base' ≤ base) : GrOwn base' w Am n cm Al q cl ms ls := ⟨h.mlen, h.llen, ownsRow_mono h.mrow hb, ownsRow_mono h.lrow hb⟩
theorem GrOwn.nil (base : Nat) (w : World) : GrOwn base w none 0 0 none 0 0 [] [] := ⟨rfl, rfl, World.ownsRow_nil _ _ _ _, World.ownsRow_nil _ _ _ _⟩
end
/-- A box of a graph is none of its rows. -/
theorem GrOwn.set {base : Nat} {w : World} {Am Al : Option Addr} {n cm q cl b2 : Nat} {ms : List Int} {ls : List Lk} {x y : Value} (h : GrOwn base w Am n cm Al q cl ms ls) (hb : w.heap[b2]? = some (.cells #[x, y] 25 (0, 0))) (a c : Value) : GrOwn base ((w.setCell ⟨b2, 0, none⟩ a).setCell ⟨b2, 1, none⟩ c) Am n cm Al q cl ms ls := by
  have key : ∀ g, g ≠ b2 → ((w.setCell ⟨b2, 0, none⟩ a).setCell ⟨b2, 1, none⟩ c).heap[g]? = w.heap[g]? := fun g hg => by
    rw [Below.heap_setCell _ _ _ _ (by exact hg), Below.heap_setCell _ _ _ _ (by exact hg)]
  refine ⟨h.mlen, h.llen, ownsRow_keep h.mrow fun g hg => key g fun e => ?_, ownsRow_keep h.lrow fun g hg => key g fun e => ?_⟩
  · subst e
    obtain ⟨cur, hh, _⟩ := own_block h.mrow hg
    rw [hb] at hh
    injection hh with hh
    injection hh with _ hh _
    exact absurd hh (by decide)
  · subst e
    obtain ⟨cur, hh, _⟩ := own_block h.lrow hg
    rw [hb] at hh
    injection hh with hh
    injection hh with _ hh _
    exact absurd hh (by decide)
theorem ErrIs.keep {w w' : World} {v : Value} {e : Er} (h : ErrIs w v e) (hk : ∀ (g : Nat) (t : TypeId) (x : Array Value), w.heap[g]? = some (Obj.cells x t (0, 0)) → t = 96 → w'.heap[g]? = w.heap[g]?) : ErrIs w' v e := by
  match e, h with
  | none, h => exact h
  | some ([], c), h => exact h
  | some ([p], c), h =>
    obtain ⟨g, h1, h2⟩ := h
    exact ⟨g, h1, (hk g _ _ h2 rfl).trans h2⟩
  | some (_ :: _ :: _, _), h => exact h
theorem ErrIs.set {w : World} {v : Value} {e : Er} {b2 : Nat} {x y : Value} (h : ErrIs w v e) (hb : w.heap[b2]? = some (.cells #[x, y] 25 (0, 0))) (a c : Value) : ErrIs ((w.setCell ⟨b2, 0, none⟩ a).setCell ⟨b2, 1, none⟩ c) v e :=
  ErrIs.keep h fun g t z hz ht => by
    have hg : g ≠ b2 := fun e => by
      subst e
      rw [hb] at hz
      injection hz with hz
      injection hz with _ hz _
      rw [← hz] at ht
      exact absurd ht (by decide)
    rw [Below.heap_setCell _ _ _ _ (by exact hg), Below.heap_setCell _ _ _ _ (by exact hg)]
/-- An error that is none, or one that is an interface value. -/
theorem ErrIs.cases {w : World} {v : Value} {e : Er} (h : ErrIs w v e) : (e = none ∧ v = .nilIface) ∨ (e ≠ none ∧ ∃ t x, v = .iface t x) := by
  match e, h with
  | none, h => exact .inl ⟨rfl, h⟩
  | some ([], c), h => exact .inr ⟨by simp, _, _, h⟩
  | some ([p], c), h =>
    obtain ⟨g, h1, _⟩ := h
    exact .inr ⟨by simp, _, _, h1⟩
  | some (_ :: _ :: _, _), h => exact h.elim
/-- What a call answers that gives a graph. -/
def Gives (w0 : World) (e : Ending) (w' : World) (r : Er × Gr) : Prop := ∃ (Am : Option Addr) (n cm : Nat) (Al : Option Addr) (q cl : Nat) (v : Value), e = .returned (.tuple #[grV Am n cm Al q cl, v]) ∧ Hid (ErrIs w' v r.1 ∧ GrOwn w0.heap.size w' Am n cm Al q cl r.2.1 r.2.2 ∧ Below w0.heap.size w0 w')
/-- Two boxes of graphs: what came in, what goes out. -/
structure KB (w0 W : World) (b1 b2 : Nat) (v0 v1 u0 u1 : Value) : Prop where
  g : W.heap[b1]? = some (.cells #[v0, v1] 25 (0, 0))
  r : W.heap[b2]? = some (.cells #[u0, u1] 25 (0, 0))
  n : w0.heap.size ≤ b1 ∧ b1 < b2
  old : Below w0.heap.size w0 W
section
variable {w0 W W' : World} {b1 b2 : Nat} {v0 v1 u0 u1 : Value}
theorem KB.below (h : KB w0 W b1 b2 v0 v1 u0 u1) (hb : Below W.heap.size W W') : KB w0 W' b1 b2 v0 v1 u0 u1 :=
  ⟨(hb.block _ (Array.getElem?_eq_some_iff.1 h.g).1).trans h.g, (hb.block _ (Array.getElem?_eq_some_iff.1 h.r).1).trans h.r, h.n, h.old.trans (hb.mono h.old.size)⟩
theorem KB.set (h : KB w0 W b1 b2 v0 v1 u0 u1) (a c : Value) : KB w0 ((W.setCell ⟨b2, 0, none⟩ a).setCell ⟨b2, 1, none⟩ c) b1 b2 v0 v1 a c := by
  have hn := h.n
  refine ⟨(Below.heap_setCell _ _ _ _ (by show b1 ≠ b2; omega)).trans ((Below.heap_setCell _ _ _ _ (by show b1 ≠ b2; omega)).trans h.g), ?_, h.n, belowS (belowS h.old (by omega) _) (by omega) _⟩
  have := set_row (set_row h.r 0 a) 1 c
  exact this
theorem KB.cells (h : KB w0 W b1 b2 v0 v1 u0 u1) : W.cell? ⟨b1, 0, none⟩ = some v0 ∧ W.cell? ⟨b1, 1, none⟩ = some v1 ∧ W.cell? ⟨b2, 0, none⟩ = some u0 ∧ W.cell? ⟨b2, 1, none⟩ = some u1 ∧ (∀ i, W.frozen? ⟨b2, i, none⟩ = false) ∧ b1 < W.heap.size ∧ b2 < W.heap.size ∧ ¬ (b1 = b2) ∧ ¬ (b2 = b1) := by
  obtain ⟨h1, h2, _, h3⟩ := cell2 h.g
  obtain ⟨h4, h5, h6, h7⟩ := cell2 h.r
  have := h.n
  exact ⟨h1, h2, h4, h5, h6, h3, h7, by omega, by omega⟩
theorem kb_new (w : World) (v0 v1 : Value) : KB w ((w.alloc (.cells #[v0, v1] 25)).alloc (.cells #[.slice none 0 0, .slice none 0 0] 25)) w.heap.size (w.heap.size + 1) v0 v1 (.slice none 0 0) (.slice none 0 0) := by
  refine ⟨by rw [Below.heap_alloc _ _ _ (by simp)]; exact heap_alloc_new _ _, ?_, by omega, ((Below.refl _ _).alloc (Nat.le_refl _) _).alloc (by simp) _⟩
  have := heap_alloc_new (w.alloc (.cells #[v0, v1] 25)) (.cells #[.slice none 0 0, .slice none 0 0] 25)
  simpa using this
end
theorem cloneI_at (A : Option Addr) (n c : Nat) (l : List Int) (w : World) (hl : l.length = n) (hn : n ≤ 1000) (hA : RowAt w A (intVs l)) : Calls Tryz.prog 59 #[.slice A n c] w fun e w' => ∃ (A' : Option Addr) (c' : Nat), e = .returned (.slice A' n c') ∧ w'.ownsRow w.heap.size 3 1 (.slice A' n c') n (intVs l) ∧ Below w.heap.size w w' := by
  have h0 : A = none → n = 0 := fun e => by
    rcases hA with h | ⟨g, off, e2, _⟩
    · have := congrArg List.length h
      rw [intVs_len] at this
      simpa [hl] using this
    · rw [e] at e2; cases e2
  by_cases hnn : n = 0
  · -- nothing to copy
    subst hnn
    have hlz : l = [] := List.eq_nil_of_length_eq_zero hl
    subst hlz
    refine (cloneI_any A 0 c [] w (by simp) (by decide) (by omega) (fun _ => rfl) (fun ad e j u hu => by simp at hu) (fun u hu => by cases hu)).mono ?_
    rintro e w' ⟨v, rfl, h1, h2, _⟩
    obtain ⟨A', c', rfl⟩ := own_slice h1
    exact ⟨A', c', rfl, h1, h2⟩
  · obtain ⟨g, off, rfl, hc⟩ : ∃ g off, A = some ⟨g, off, none⟩ ∧ ∀ (j : Nat) (u : Value), (intVs l)[j]? = some u → w.cell? ⟨g, off + j, none⟩ = some u := by
      rcases hA with h | h
      · exact absurd (by simpa [intVs_len, hl] using congrArg List.length h) hnn
      · exact h
    refine (cloneI_any (some ⟨g, off, none⟩) n c (intVs l) w (by rw [intVs_len]; omega) (Nat.le_trans hn (by decide)) (by omega) (fun e => by cases e) (fun ad e j u hu => by cases e; rw [Addr.add_lit]; exact hc j u hu) (intVs_one l)).mono ?_
    rintro e w' ⟨v, rfl, h1, h2, _⟩
    obtain ⟨A', c', rfl⟩ := own_slice h1
    exact ⟨A', c', rfl, h1, h2⟩
theorem cloneL_at (A : Option Addr) (n c : Nat) (l : List Lk) (w : World) (hl : l.length = n) (hn : n ≤ 1000) (hA : RowAt w A (lkCells l)) : Calls Tryz.prog 67 #[.slice A n c] w fun e w' => ∃ (A' : Option Addr) (c' : Nat), e = .returned (.slice A' n c') ∧ w'.ownsRow w.heap.size 35 2 (.slice A' n c') n (lkCells l) ∧ Below w.heap.size w w' := by
  by_cases hnn : n = 0
  · subst hnn
    have hlz : l = [] := List.eq_nil_of_length_eq_zero hl
    subst hlz
    refine (cloneL_any A 0 c [] w (by simp) (by decide) (by omega) (fun _ => rfl) (fun ad e j u hu => by simp at hu) (fun u hu => by cases hu)).mono ?_
    rintro e w' ⟨v, rfl, h1, h2, _⟩
    obtain ⟨A', c', rfl⟩ := own_slice h1
    exact ⟨A', c', rfl, h1, h2⟩
  · obtain ⟨g, off, rfl, hc⟩ : ∃ g off, A = some ⟨g, off, none⟩ ∧ ∀ (j : Nat) (u : Value), (lkCells l)[j]? = some u → w.cell? ⟨g, off + j, none⟩ = some u := by
      rcases hA with h | h
      · have := congrArg List.length h
        rw [lkCells_len, hl] at this
        simp at this
        exact absurd (by omega) hnn
      · exact h
    refine (cloneL_any (some ⟨g, off, none⟩) n c (lkCells l) w (by rw [lkCells_len, hl]) (Nat.le_trans hn (by decide)) (by omega) (fun e => by cases e) (fun ad e j u hu => by cases e; rw [Addr.add_lit]; exact hc j u hu) (lkCells_one l)).mono ?_
    rintro e w' ⟨v, rfl, h1, h2, _⟩
    obtain ⟨A', c', rfl⟩ := own_slice h1
    exact ⟨A', c', rfl, h1, h2⟩

set_option maxRecDepth 100000 in
set_option maxHeartbeats 4000000 in
theorem copied_any (Am : Option Addr) (n cm : Nat) (Al : Option Addr) (q cl : Nat) (ms : List Int) (ls : List Lk) (w : World) (hG : GrAt w Am n Al q ms ls) (hn : n ≤ 1000) (hq : q ≤ 1000) :
    Calls Tryz.prog 49 #[grV Am n cm Al q cl] w fun e w' => Gives w e w' (doneP ms ls) := by
  have HG := Lib.hid hG
  have HN : Hid (n ≤ 1000 ∧ q ≤ 1000) := ⟨hn, hq⟩
  clear hG hn hq
  obtain ⟨b1, hb1⟩ : ∃ b, b = w.heap.size := ⟨_, rfl⟩
  obtain ⟨b2, hb2⟩ : ∃ b, b = w.heap.size + 1 := ⟨_, rfl⟩
  obtain ⟨w1, hw1⟩ : ∃ w1, w1 = (w.alloc (.cells #[.slice Am n cm, .slice Al q cl] 25)).alloc (.cells #[.slice none 0 0, .slice none 0 0] 25) := ⟨_, rfl⟩
  have HB : Hid (KB w w1 b1 b2 (.slice Am n cm) (.slice Al q cl) (.slice none 0 0) (.slice none 0 0)) := by rw [hw1, hb1, hb2]; exact kb_new w _ _
  have HCK : Hid (∀ W, Below w.heap.size w W → Calls Tryz.prog 26 #[grV Am n cm Al q cl] W fun e w' => ∃ v, e = .returned v ∧ Hid (ErrIs w' v (chk ms ls) ∧ Below W.heap.size W w')) := fun W hW => check_any Am n cm Al q cl ms ls W (HG.out.below hW) HN.out.1 HN.out.2
  go_enter Tryz.func49, Tryz.ntmps49
  go_wp2_with fail
  rw [← hw1, ← hb2, ← hb1]
  clear hw1 hb1 hb2
  refine (HCK.out w1 HB.out.old).mono ?_
  rintro e w2 ⟨v, rfl, HE⟩
  have HB2 := Lib.hid (HB.out.below HE.out.2)
  obtain ⟨d0, d1, r0, r1, rf, l1, l2, n12, n21⟩ := HB2.out.cells
  rcases HE.out.1.cases with ⟨hc, rfl⟩ | ⟨hc, t, x, rfl⟩
  · have HDN : Hid (doneP ms ls = (none, ms, ls)) := by unfold doneP; rw [hc]; rfl
    clear hc
    have HCI : Hid (∀ W, KB w W b1 b2 (.slice Am n cm) (.slice Al q cl) (.slice none 0 0) (.slice none 0 0) → Calls Tryz.prog 59 #[.slice Am n cm] W fun e w' => ∃ (A' : Option Addr) (c' : Nat), e = .returned (.slice A' n c') ∧ KB w w' b1 b2 (.slice Am n cm) (.slice Al q cl) (.slice none 0 0) (.slice none 0 0) ∧ w'.ownsRow w.heap.size 3 1 (.slice A' n c') n (intVs ms)) := fun W hW => by
      refine (cloneI_at Am n cm ms W HG.out.mlen HN.out.1 (HG.out.mrow.below hW.old)).mono ?_
      rintro e w' ⟨A', c', rfl, h1, h2⟩
      exact ⟨A', c', rfl, hW.below h2, ownsRow_mono h1 hW.old.size⟩
    have HCL : Hid (∀ W, KB w W b1 b2 (.slice Am n cm) (.slice Al q cl) (.slice none 0 0) (.slice none 0 0) → Calls Tryz.prog 67 #[.slice Al q cl] W fun e w' => ∃ (A' : Option Addr) (c' : Nat), e = .returned (.slice A' q c') ∧ KB w w' b1 b2 (.slice Am n cm) (.slice Al q cl) (.slice none 0 0) (.slice none 0 0) ∧ w'.ownsRow w.heap.size 35 2 (.slice A' q c') q (lkCells ls) ∧ Below W.heap.size W w') := fun W hW => by
      refine (cloneL_at Al q cl ls W HG.out.llen HN.out.2 (HG.out.lrow.below hW.old)).mono ?_
      rintro e w' ⟨A', c', rfl, h1, h2⟩
      exact ⟨A', c', rfl, hW.below h2, ownsRow_mono h1 hW.old.size, h2⟩
    have hK2 : KB w w2 b1 b2 (.slice Am n cm) (.slice Al q cl) (.slice none 0 0) (.slice none 0 0) := HB2.out
    have hK2d : KB w w2.drew b1 b2 (.slice Am n cm) (.slice Al q cl) (.slice none 0 0) (.slice none 0 0) := HB2.out.below (Below.refl _ _).drew
    clear HB HB2 HCK HE
    go_wp2_with fail
    go_region_with (first
      | (go_at_call 59; refine (HCI.out _ (by assumption)).mono ?_; rintro e w5 ⟨A5, c5, rfl, hK5, hown5⟩; obtain ⟨d0, d1, r0, r1, rf, l1, l2, n12, n21⟩ := hK5.cells)
      | (go_at_call 67; refine (HCL.out _ (by exact hK5)).mono ?_; rintro e w6 ⟨A6, c6, rfl, hK6, hown6, hb6⟩; obtain ⟨d0, d1, r0, r1, rf, l1, l2, n12, n21⟩ := hK6.cells)
      | fail)
    all_goals
      have HFIN : Hid (GrOwn w.heap.size ((w6.setCell ⟨b2, 0, none⟩ (.slice A5 n c5)).setCell ⟨b2, 1, none⟩ (.slice A6 q c6)) A5 n c5 A6 q c6 ms ls ∧ Below w.heap.size w ((w6.setCell ⟨b2, 0, none⟩ (.slice A5 n c5)).setCell ⟨b2, 1, none⟩ (.slice A6 q c6))) := ⟨GrOwn.set ⟨HG.out.mlen, HG.out.llen, ownsRow_below hown5 hb6, hown6⟩ hK6.r _ _, (hK6.set _ _).old⟩
      clear hK5 hK6 hK2 hK2d hown5 hown6 hb6
      go_wp2
      refine bodyPost_ret (v := .tuple #[grV A5 n c5 A6 q c6, .nilIface]) ?_ rfl ?_
      · simp [results, Tryz.results49, go_sem, r0, r1, rf, n12, n21]
      · refine ⟨A5, n, c5, A6, q, c6, .nilIface, rfl, ?_⟩
        rw [HDN.out]
        exact ⟨rfl, HFIN.out.1, HFIN.out.2⟩
  · have HDN : Hid (doneP ms ls = (chk ms ls, [], [])) := by
      unfold doneP
      cases h : chk ms ls with
      | none => exact absurd h hc
      | some e => rfl
    clear hc
    go_wp2
    refine bodyPost_ret (v := .tuple #[grV none 0 0 none 0 0, .iface t x]) ?_ rfl ?_
    · simp [results, Tryz.results49, go_sem, r0, r1, rf, n12, n21]
    · refine ⟨none, 0, 0, none, 0, 0, .iface t x, rfl, ?_⟩
      rw [HDN.out]
      exact ⟨HE.out.1.set HB2.out.r _ _, GrOwn.nil _ _, (HB2.out.set _ _).old⟩
end Go.Proofs.YtlkfcfcejicdkaaGreatDoor
