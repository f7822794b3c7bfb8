/-
  disk: the document's Crash where it refuses; its count of loose bytes. Own work.
-/
import Derived.Test.YtfhdcjfkngflbaaGreatDoorP9
import Derived.Test.YtfhdcjfkngflbaaGreatDoorP10
set_option linter.unusedSimpArgs false
set_option linter.unusedVariables false
namespace Go.Proofs.YtfhdcjfkngflbaaGreatDoor
open Go Go.RowKit

set_option maxRecDepth 100000 in
set_option maxHeartbeats 2000000 in
theorem refcrash_neg (O : Nat → Prop) (A : Option Addr) (n c : Nat) (L : List RF) (last : Int) (k : Int) (w : World) (h : RefD O w A n c L) (hn : n ≤ 64) (hs : Sorted L) (hk : k < 0) :
    Calls Tryz.prog 23 #[.agg #[.slice A n c, .int .i64 last], .int .i64 k] w fun e w' => e = .returned (.tuple #[.agg #[.slice A n c, .int .i64 last], eV (some 1)]) ∧ Hid (Below w.heap.size w w') := by
  obtain ⟨w1, hw1⟩ : ∃ w1, w1 = ((w.alloc (.cells #[.slice A n c, .int .i64 last] 29)).alloc (.cells #[.slice none 0 0, .int .i64 0] 29)).alloc (.cells #[.bool false, .slice none 0 0, .int .i64 0] 53) := ⟨_, rfl⟩
  obtain ⟨b2, hb2⟩ : ∃ b2, b2 = w.heap.size + 1 + 1 := ⟨_, rfl⟩
  obtain ⟨b1, hb1⟩ : ∃ b1, b1 = w.heap.size + 1 := ⟨_, rfl⟩
  obtain ⟨b0, hb0⟩ : ∃ b0, b0 = w.heap.size := ⟨_, rfl⟩
  have H1 : Hid (Bx3 w w1 b0 b1 b2 (.slice A n c) (.int .i64 last)) := by
    rw [hw1, hb2, hb1, hb0]; exact bx3_new w _ _
  have HE : Hid (∀ W, Below w1.heap.size w1 W → Bx3 w W b0 b1 b2 (.slice A n c) (.int .i64 last)) := fun W hW => H1.out.below hW
  have dk : decide (k < 0) = true := by simpa using hk
  clear h hn hs hk
  go_enter Tryz.func23, Tryz.ntmps23
  go_wp2_with fail
  rw [← hw1, ← hb2, ← hb1, ← hb0]
  have HSZ : Hid (w.heap.size ≤ b1 ∧ w.heap.size ≤ b2) := by simp only [Hid]; omega
  clear hw1 hb2 hb1 hb0
  have H3 := Lib.hid (HE.out w1 (Below.refl _ _))
  obtain ⟨d0, d1, r0, r1, e0, e1, e2, fr, fe⟩ := H3.out.cells
  obtain ⟨n01, n02, n12, n10, n20, n21⟩ := H3.out.ne
  go_wp2
  go_region_with (go_at_call 37; refine (n_any 1 _).mono ?_; rintro e w4 ⟨rfl, hb4⟩; have H4 := Lib.hid (H3.out.below ((Below.refl _ _).drew.trans (by exact hb4))); obtain ⟨d0, d1, r0, r1, e0, e1, e2, fr, fe⟩ := H4.out.cells)
  all_goals
    go_wp2
    refine bodyPost_ret (v := .tuple #[.agg #[.slice A n c, .int .i64 last], eV (some 1)]) ?_ rfl ?_
    · simp [results, Tryz.results23, go_sem, eV, d0, d1, r0, r1, e0, e1, e2, fr, fe, n01, n02, n12, n10, n20, n21]
    · exact ⟨rfl, belowS (belowS (belowS (belowS (belowS H4.out.old HSZ.out.1 _) HSZ.out.1 _) HSZ.out.2 _) HSZ.out.2 _) HSZ.out.2 _⟩

/-- How many turns up to t some byte has. -/
def nHas (L : List RF) : Nat → Nat
  | 0 => 0
  | t + 1 => nHas L t + if hasB L ((t : Int) + 1) then 1 else 0
theorem nHas_mono (L : List RF) {s t : Nat} (h : s ≤ t) : nHas L s ≤ nHas L t := by
  induction h with
  | refl => exact Nat.le_refl _
  | step _ ih => exact Nat.le_trans ih (by simp [nHas])
section
variable {v : Vw} {t : Int} {n : Nat} {L : List RF} {last : Int} {a : Int → Int} {ks : List ByteArray} {l' : List (Int × Int)}
theorem nHas_cnt (h : Coup v t n L last a) (hi : ∀ k, k ∈ ks ↔ (v k).isSome = true) (hp : l'.Perm (ks.flatMap (looseV v))) (hs : l'.Pairwise fun x y => x.1 < y.1) (ha : ∀ x ∈ l', 0 ≤ a x.1) (u : Nat) : ((nHas L u : Nat) : Int) = cntP a (u : Int) l' := by
  induction u with
  | zero =>
    have := cntP_zero a (x := ((0 : Nat) : Int)) (l := l') (by simpa using ha)
    simp [nHas, this]
    exact this.symm
  | succ u ih =>
    have h1 := cntP_step a ((u + 1 : Nat) : Int) (h.all_pos hi hp) (h.chain hi hp hs)
    rw [show ((u + 1 : Nat) : Int) - 1 = (u : Int) by omega, ← ih] at h1
    rw [h1]
    have h2 := h.has hi hp (u := ((u + 1 : Nat) : Int)) (by omega)
    have h3 := hasB_iff (L := L) (u := ((u + 1 : Nat) : Int))
    simp only [nHas]
    rw [show ((u : Int) + 1) = ((u + 1 : Nat) : Int) by omega]
    by_cases hb : hasB L ((u + 1 : Nat) : Int) = true
    · rw [if_pos hb, if_pos (h2.1 (h3.1 hb))]; simp
    · rw [if_neg hb, if_neg fun e => hb (h3.2 (h2.2 e))]; simp
end
theorem pfx_lt (x : Int) : ∀ (l : List Int) (q : Nat), q < pfx x l → ∃ t, l[q]? = some t ∧ t ≤ x := by
  intro l
  induction l with
  | nil => intro q h; simp [pfx] at h
  | cons a l ih =>
    intro q h
    simp only [pfx] at h
    split at h
    · rename_i ha
      cases q with
      | zero => exact ⟨a, rfl, ha⟩
      | succ q =>
        obtain ⟨t, h1, h2⟩ := ih q (by omega)
        exact ⟨t, by simpa using h1, h2⟩
    · omega
theorem pfx_end (x : Int) : ∀ (l : List Int), pfx x l < l.length → ∃ t, l[pfx x l]? = some t ∧ ¬ t ≤ x := by
  intro l
  induction l with
  | nil => intro h; simp at h
  | cons a l ih =>
    intro h
    simp only [pfx] at h ⊢
    split at h
    · rename_i ha
      rw [if_pos ha]
      obtain ⟨t, h1, h2⟩ := ih (by simpa using h)
      exact ⟨t, by simpa using h1, h2⟩
    · rename_i ha
      rw [if_neg ha]
      exact ⟨a, rfl, ha⟩
/-- The boxes of Crash: the disk that came in, the two results, the disk that is made. -/
structure YBx (w0 W : World) (b0 b1 b2 b3 : Nat) (v0 v1 u0 u1 : Value) : Prop where
  bx : Bx3 w0 W b0 b1 b2 v0 v1
  o : W.heap[b3]? = some (.cells #[u0, u1] 29 (0, 0))
  n : b2 < b3
theorem YBx.keep {w0 W W' : World} {b0 b1 b2 b3 : Nat} {v0 v1 u0 u1 : Value} (h : YBx w0 W b0 b1 b2 b3 v0 v1 u0 u1) {base : Nat} (hb : Below base W W') (hl : b3 < base) : YBx w0 W' b0 b1 b2 b3 v0 v1 u0 u1 := by
  have hn := h.bx.n1
  have hn2 := h.n
  exact ⟨⟨(hb.block _ (by omega)).trans h.bx.d, (hb.block _ (by omega)).trans h.bx.r, (hb.block _ (by omega)).trans h.bx.e, h.bx.n1, h.bx.old.trans (hb.mono (by omega))⟩, (hb.block _ (by omega)).trans h.o, h.n⟩
theorem YBx.set {w0 W : World} {b0 b1 b2 b3 : Nat} {v0 v1 u0 u1 : Value} (h : YBx w0 W b0 b1 b2 b3 v0 v1 u0 u1) (v : Value) : YBx w0 (W.setCell ⟨b3, 0, none⟩ v) b0 b1 b2 b3 v0 v1 v u1 := by
  have hn := h.bx.n1
  have hn2 := h.n
  refine ⟨⟨(Below.heap_setCell _ _ _ _ (by show b0 ≠ b3; omega)).trans h.bx.d, (Below.heap_setCell _ _ _ _ (by show b1 ≠ b3; omega)).trans h.bx.r, (Below.heap_setCell _ _ _ _ (by show b2 ≠ b3; omega)).trans h.bx.e, h.bx.n1, belowS h.bx.old (by omega) _⟩, ?_, h.n⟩
  show (W.heap.modify b3 _)[b3]? = _
  rw [Array.getElem?_modify, if_pos rfl, h.o]; rfl
end Go.Proofs.YtfhdcjfkngflbaaGreatDoor
