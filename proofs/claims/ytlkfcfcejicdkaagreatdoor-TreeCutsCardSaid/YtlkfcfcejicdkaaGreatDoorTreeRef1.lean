/-
  tree: the document's small functions: ahead, Has; errors as the document has them, At, N. Own work.
-/
import Derived.Test.YtlkfcfcejicdkaaGreatDoorTreePath2
set_option linter.unusedSimpArgs false
set_option linter.unusedVariables false
namespace Go.Proofs.YtlkfcfcejicdkaaGreatDoor
open Go Go.RowKit

/-- The document's error value. -/
def EIs (w : World) (v : Value) : Er → Prop
  | none => v = .agg #[.bool false, .slice none 0 0, .int .i64 0]
  | some ([], c) => v = .agg #[.bool true, .slice none 0 0, .int .i64 c]
  | some ([p], c) => ∃ g, v = .agg #[.bool true, .slice (some ⟨g, 0, none⟩) 1 1, .int .i64 c] ∧ w.heap[g]? = some (.cells #[.int .i64 p.1, .int .i64 p.2] 91 (0, 0))
  | some (_ :: _ :: _, _) => False
theorem EIs.keep {w w' : World} {v : Value} {e : Er} (h : EIs w v e) (hk : ∀ (g : Nat) (x : Array Value), w.heap[g]? = some (Obj.cells x 91 (0, 0)) → w'.heap[g]? = w.heap[g]?) : EIs w' v e := by
  match e, h with
  | none, h => exact h
  | some ([], c), h => exact h
  | some ([p], c), h =>
    obtain ⟨g, h1, h2⟩ := h
    exact ⟨g, h1, (hk g _ h2).trans h2⟩
  | some (_ :: _ :: _, _), h => exact h
theorem EIs.below {w w' : World} {v : Value} {e : Er} (h : EIs w v e) (hb : Below w.heap.size w w') : EIs w' v e := h.keep fun g _ hg => hb.block g (Array.getElem?_eq_some_iff.1 hg).1
/-- The parts of an error value. -/
theorem EIs.form {w : World} {v : Value} {e : Er} (h : EIs w v e) : ∃ (A : Option Addr) (m cp : Nat) (c : Int), v = .agg #[.bool e.isSome, .slice A m cp, .int .i64 c] := by
  match e, h with
  | none, h => exact ⟨none, 0, 0, 0, h⟩
  | some ([], c), h => exact ⟨none, 0, 0, c, h⟩
  | some ([p], c), h =>
    obtain ⟨g, h1, h2⟩ := h
    exact ⟨_, _, _, _, h1⟩
  | some (_ :: _ :: _, _), h => exact h.elim
/-- A cell of a box of another kind. -/
theorem EIs.set {w : World} {v : Value} {e : Er} {R i : Nat} {cs : Array Value} {t : TypeId} (h : EIs w v e) (hR : w.heap[R]? = some (.cells cs t (0, 0))) (ht : t ≠ 91) (x : Value) : EIs (w.setCell ⟨R, i, none⟩ x) v e :=
  h.keep fun g y hg => Below.heap_setCell _ _ _ _ (by
    show g ≠ R
    intro e
    subst e
    rw [hR] at hg
    injection hg with hg
    injection hg with _ hg _
    exact ht hg)
theorem three_set {w : World} {R : Nat} {x y z : Value} {t : TypeId} (hR : w.heap[R]? = some (.cells #[x, y, z] t (0, 0))) (a b c : Value) :
    (w.setCell ⟨R, 0, none⟩ a).heap[R]? = some (.cells #[a, y, z] t (0, 0)) ∧ ((w.setCell ⟨R, 0, none⟩ a).setCell ⟨R, 1, none⟩ b).heap[R]? = some (.cells #[a, b, z] t (0, 0)) ∧ (((w.setCell ⟨R, 0, none⟩ a).setCell ⟨R, 1, none⟩ b).setCell ⟨R, 2, none⟩ c).heap[R]? = some (.cells #[a, b, c] t (0, 0)) := by
  have h1 : (w.setCell ⟨R, 0, none⟩ a).heap[R]? = some (.cells #[a, y, z] t (0, 0)) := set_row hR 0 a
  have h2 : ((w.setCell ⟨R, 0, none⟩ a).setCell ⟨R, 1, none⟩ b).heap[R]? = some (.cells #[a, b, z] t (0, 0)) := set_row h1 1 b
  exact ⟨h1, h2, set_row h2 2 c⟩
/-- An error laid into the result's box. -/
theorem EIs.fin {w W : World} {R : Nat} {x y z a b c : Value} {e : Er} (h : EIs W (.agg #[a, b, c]) e) (hR : W.heap[R]? = some (.cells #[x, y, z] 43 (0, 0))) (hw : w.heap.size ≤ R) (hb : Below w.heap.size w W) :
    Hid (EIs (((W.setCell ⟨R, 0, none⟩ a).setCell ⟨R, 1, none⟩ b).setCell ⟨R, 2, none⟩ c) (.agg #[a, b, c]) e ∧ Below w.heap.size w (((W.setCell ⟨R, 0, none⟩ a).setCell ⟨R, 1, none⟩ b).setCell ⟨R, 2, none⟩ c)) := by
  obtain ⟨h1, h2, _⟩ := three_set hR a b c
  exact ⟨((h.set hR (by decide) a).set h1 (by decide) b).set h2 (by decide) c, belowS (belowS (belowS hb hw _) hw _) hw _⟩
theorem rat_any (k i c : Int) (w : World) : Calls Tryz.prog 57 #[.int .i64 k, .int .i64 i, .agg #[.bool true, .slice none 0 0, .int .i64 c]] w fun e w' => ∃ g, e = .returned (.agg #[.bool true, .slice (some ⟨g, 0, none⟩) 1 1, .int .i64 c]) ∧ Hid (EIs w' (.agg #[.bool true, .slice (some ⟨g, 0, none⟩) 1 1, .int .i64 c]) (some ([(k, i)], c)) ∧ Below w.heap.size w w') := by
  go_enter Tryz.func57, Tryz.ntmps57
  go_wp2
  refine bodyPost_ret (v := .agg #[.bool true, .slice (some ⟨w.heap.size + 1 + 1, 0, none⟩) 1 1, .int .i64 c]) ?_ rfl ?_
  · simp [results, Tryz.results57, go_sem]
  · refine ⟨_, rfl, ⟨_, rfl, ?_⟩, ((((Below.refl _ _).alloc (Nat.le_refl _) _).alloc (by simp) _).alloc (by simp; omega) _)⟩
    have h := fun W0 : World => heap_alloc_new W0 (.cells #[.int .i64 k, .int .i64 i] 91)
    have h2 := h ((w.alloc (.cells #[.bool true, .slice none 0 0, .int .i64 c] 43)).alloc (.cells #[.bool true, .slice (some ⟨w.heap.size + 1 + 1, 0, none⟩) 1 1, .int .i64 c] 43))
    simpa using h2
theorem rn_any (n : Int) (w : World) : Calls Tryz.prog 34 #[.int .i64 n] w fun e w' => e = .returned (.agg #[.bool true, .slice none 0 0, .int .i64 n]) ∧ Below w.heap.size w w' := by
  go_enter Tryz.func34, Tryz.ntmps34
  go_wp2
  refine bodyPost_ret (v := .agg #[.bool true, .slice none 0 0, .int .i64 n]) ?_ rfl ?_
  · simp [results, Tryz.results34, go_sem]
  · exact ⟨rfl, (Below.refl _ _).alloc (Nat.le_refl _) _⟩
section
variable (a1 a2 b1 b2 : Int) (w : World)
theorem ahead_any : Calls Tryz.prog 58 #[.agg #[.int .i64 a1, .int .i64 a2], .agg #[.int .i64 b1, .int .i64 b2]] w fun e w' => e = .returned (.bool (decide (lkLt (a1, a2) (b1, b2)))) ∧ Below w.heap.size w w' := by
  have hb : Hid (∀ o p, Below w.heap.size w ((w.alloc o).alloc p)) := fun o p => ((Below.refl _ _).alloc (Nat.le_refl _) _).alloc (by simp) _
  by_cases c1 : a1 < b1
  · rw [decide_eq_true (show lkLt (a1, a2) (b1, b2) from .inl c1)]
    go_enter Tryz.func58, Tryz.ntmps58
    go_wp2
    go_ret
    exact ⟨rfl, hb.out _ _⟩
  by_cases c2 : a1 = b1
  · subst c2
    by_cases c3 : a2 < b2
    · rw [decide_eq_true (show lkLt (a1, a2) (a1, b2) from .inr ⟨rfl, c3⟩)]
      go_enter Tryz.func58, Tryz.ntmps58
      go_wp2
      go_ret
      exact ⟨rfl, hb.out _ _⟩
    · rw [decide_eq_false (show ¬ lkLt (a1, a2) (a1, b2) from by unfold lkLt; simp only; omega)]
      have c4 : b2 ≤ a2 := by omega
      go_enter Tryz.func58, Tryz.ntmps58
      go_wp2
      go_ret
      exact ⟨rfl, hb.out _ _⟩
  · rw [decide_eq_false (show ¬ lkLt (a1, a2) (b1, b2) from by unfold lkLt; simp only; omega)]
    have c4 : b1 ≤ a1 := by omega
    have c5 : (a1 == b1) = false := by simpa using c2
    go_enter Tryz.func58, Tryz.ntmps58
    go_wp2
    go_ret
    exact ⟨rfl, hb.out _ _⟩
end
section
variable (Am : Option Addr) (nm cm : Nat) (A : Option Addr) (n c : Nat) (ls : List Lk) (w : World)
set_option maxRecDepth 100000 in
set_option maxHeartbeats 2000000 in
theorem rHas_any (k1 k2 : Int) (hl : ls.length = n) (hA : RowAt w A (lkCells ls)) (hn : n ≤ 4611686018427387904) :
    Calls Tryz.prog 13 #[grV Am nm cm A n c, .agg #[.int .i64 k1, .int .i64 k2]] w fun e w' => e = .returned (.bool (decide ((k1, k2) ∈ ls))) ∧ Below w.heap.size w w' := by
  have HA := Lib.hid hA
  have HN : Hid (n ≤ 4611686018427387904 ∧ ls.length = n) := ⟨hn, hl⟩
  clear hA hn hl
  obtain ⟨G, hG⟩ : ∃ G, G = w.heap.size := ⟨_, rfl⟩
  obtain ⟨K, hK⟩ : ∃ K, K = w.heap.size + 1 := ⟨_, rfl⟩
  obtain ⟨W1, hW1⟩ : ∃ W1, W1 = (w.alloc (.cells #[.slice Am nm cm, .slice A n c] 25)).alloc (.cells #[.int .i64 k1, .int .i64 k2] 35) := ⟨_, rfl⟩
  have HB : Hid (W1.heap[K]? = some (.cells #[.int .i64 k1, .int .i64 k2] 35 (0, 0)) ∧ W1.heap[G]? = some (.cells #[.slice Am nm cm, .slice A n c] 25 (0, 0)) ∧ Below w.heap.size w W1) := by
    rw [hW1, hK, hG]
    refine ⟨?_, by rw [Below.heap_alloc _ _ _ (by simp)]; exact heap_alloc_new _ _, ((Below.refl _ _).alloc (Nat.le_refl _) _).alloc (by simp) _⟩
    have := heap_alloc_new (w.alloc (.cells #[.slice Am nm cm, .slice A n c] 25)) (.cells #[.int .i64 k1, .int .i64 k2] 35)
    simpa using this
  obtain ⟨v0, v1, _, _⟩ := cell2 HB.out.2.1
  go_enter Tryz.func13, Tryz.ntmps13
  go_wp2
  rw [← hW1, ← hK, ← hG]
  clear hW1 hK hG
  go_loopw [10] (fun i wr => ∃ (j : Nat), j ≤ n ∧ i = .int .i64 j ∧ Hid ((k1, k2) ∉ ls.take j ∧ Below W1.heap.size W1 wr)) (fun i _ => n - (intOf i).toNat)
  case atStart => exact ⟨0, Nat.zero_le _, rfl, by simp, Below.refl _ _⟩
  case round =>
    obtain ⟨j, hj, rfl, HS⟩ := hrel
    by_cases hlt : j < n
    · obtain ⟨y, hy⟩ : ∃ y, Hid (ls[j]? = some y) := ⟨_, List.getElem?_eq_getElem (by have := HN.out; omega)⟩
      obtain ⟨g, off, rfl, d0, d1, hg⟩ := (HA.out.below (HB.out.2.2.trans (HS.out.2.mono HB.out.2.2.size))).lk hy.out
      obtain ⟨x0, x1, _, xl⟩ := cell2 ((HS.out.2.block K (Array.getElem?_eq_some_iff.1 HB.out.1).1).trans HB.out.1)
      have hdec := lk_dec y.1 y.2 (k1, k2)
      obtain ⟨y1, hy1⟩ : ∃ x, Hid (y.1 = x) := ⟨_, rfl⟩
      obtain ⟨y2, hy2⟩ : ∃ x, Hid (y.2 = x) := ⟨_, rfl⟩
      rw [hy1.out] at d0 hdec
      rw [hy2.out] at d1 hdec
      have hy12 : Hid (y = (y1, y2)) := Prod.ext hy1.out hy2.out
      have hw1 : IntKind.i64.wrap ((j : Int) + 1) = ((j + 1 : Nat) : Int) := by have := HN.out; rw [IntKind.wrap_i64]; omega
      have hj0 : ((0 : Int) ≤ j) := by omega
      have hj1 : ((j : Nat) : Int) < n := by omega
      have hKne : ¬ (K = wr.heap.size) := by omega
      have hBA : Hid (∀ o, Below W1.heap.size W1 (wr.alloc o)) := fun o => HS.out.2.alloc HS.out.2.size o
      by_cases hxy : (y1, y2) = (k1, k2)
      · have heq2 : ∀ w, (Op.equalIn 10000 35 (.agg #[.int .i64 y1, .int .i64 y2]) (.agg #[.int .i64 k1, .int .i64 k2])).run Tryz.prog w = .ok true w := fun w => by rw [lk_equal, ← hdec, decide_eq_true hxy]
        have HX : Hid ((k1, k2) ∈ ls) := by rw [← hxy, ← hy12.out]; exact List.mem_of_getElem? hy.out
        clear hxy hdec
        go_wp2
        go_ret
        exact ⟨by rw [decide_eq_true HX.out]; rfl, HB.out.2.2.trans ((hBA.out _).mono HB.out.2.2.size)⟩
      · have heq2 : ∀ w, (Op.equalIn 10000 35 (.agg #[.int .i64 y1, .int .i64 y2]) (.agg #[.int .i64 k1, .int .i64 k2])).run Tryz.prog w = .ok false w := fun w => by rw [lk_equal, ← hdec, decide_eq_false hxy]
        have HX : Hid ((k1, k2) ≠ y) := fun e => hxy (by rw [← hy12.out]; exact e.symm)
        clear hxy hdec
        go_wp2
        exact ⟨⟨j + 1, hlt, by go_num, mem_take_succ hy.out HS.out.1 HX.out, hBA.out _⟩, by simp [intOf]; omega⟩
    · have hjn : j = n := by omega
      subst hjn
      go_wp2
      go_ret
      exact ⟨by rw [decide_eq_false (fun h => HS.out.1 (by rw [List.take_of_length_le (by have := HN.out; omega)]; exact h))]; rfl, HB.out.2.2.trans (HS.out.2.mono HB.out.2.2.size)⟩
end
end Go.Proofs.YtlkfcfcejicdkaaGreatDoor
