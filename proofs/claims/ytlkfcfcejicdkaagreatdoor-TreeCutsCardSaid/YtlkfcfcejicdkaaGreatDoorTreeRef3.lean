/-
  tree: the document's without, with. Own work.
-/
import Derived.Test.YtlkfcfcejicdkaaGreatDoorTreeRef2
set_option linter.unusedSimpArgs false
set_option linter.unusedVariables false
namespace Go.Proofs.YtlkfcfcejicdkaaGreatDoor
open Go Go.RowKit

theorem butR_snoc {ls : List Lk} {j : Nat} {y : Lk} (k : Lk) (hy : ls[j]? = some y) : but (ls.take (j + 1)) k = but (ls.take j) k ++ (if y = k then [] else [y]) := by
  rw [take_snoc hy]
  unfold but
  rw [List.filter_append]
  by_cases h : y = k <;> simp [h]
theorem with_app {l1 l2 : List Lk} {k : Lk} (h : ∀ x ∈ l1, ¬ lkLt k x) : withL (l1 ++ l2) k = l1 ++ withL l2 k := by
  induction l1 with
  | nil => rfl
  | cons x l ih =>
    rw [List.cons_append, withL, if_neg (h x (by simp)), ih fun y hy => h y (by simp [hy])]
    rfl
/-- A link written whole into a block of its own lies there. -/
theorem own_far {base : Nat} {w : World} {e : TypeId} {s n : Nat} {v : Value} {xs : List Value} (h : w.ownsRow base e s v n xs) {K : Nat} (hK : K < base ∨ w.heap.size ≤ K) : some K ≠ v.ownBlock := fun e => by
  obtain ⟨_, _, h1, h2⟩ := own_block h e.symm
  omega
section
variable (A : Option Addr) (n c : Nat) (ls : List Lk) (w : World)
set_option maxRecDepth 100000 in
set_option maxHeartbeats 2000000 in
theorem rwithout_any (k1 k2 : Int) (hl : ls.length = n) (hA : RowAt w A (lkCells ls)) (hn : n ≤ 1000) :
    Calls Tryz.prog 54 #[.slice A n c, .agg #[.int .i64 k1, .int .i64 k2]] w fun e w' => ∃ (A' : Option Addr) (m c' : Nat), e = .returned (.slice A' m c') ∧ Hid ((but ls (k1, k2)).length = m ∧ w'.ownsRow w.heap.size 35 2 (.slice A' m c') m (lkCells (but ls (k1, k2))) ∧ Below w.heap.size w w') := by
  have HA := Lib.hid hA
  have HN : Hid (n ≤ 1000 ∧ ls.length = n) := ⟨hn, hl⟩
  clear hA hn hl
  obtain ⟨i0, hi, hz0, hz1, hz2⟩ := info_parts link_info
  obtain ⟨K, hK⟩ : ∃ K, K = w.heap.size := ⟨_, rfl⟩
  obtain ⟨W1, hW1⟩ : ∃ W1, W1 = w.alloc (.cells #[.int .i64 k1, .int .i64 k2] 35) := ⟨_, rfl⟩
  have HB : Hid (W1.heap[K]? = some (.cells #[.int .i64 k1, .int .i64 k2] 35 (0, 0)) ∧ Below w.heap.size w W1 ∧ K < W1.heap.size ∧ w.heap.size ≤ W1.heap.size) := by
    rw [hW1, hK]; exact ⟨heap_alloc_new _ _, (Below.refl _ _).alloc (Nat.le_refl _) _, by simp, by simp⟩
  go_enter Tryz.func54, Tryz.ntmps54
  go_wp2
  rw [← hW1, ← hK]
  clear hW1 hK
  go_loopw [5, 10] (fun s i wr => ∃ (j m : Nat) (A5 : Option Addr) (c5 : Nat), j ≤ n ∧ i = .int .i64 j ∧ s = .slice A5 m c5 ∧ Hid (m ≤ j ∧ (but (ls.take j) (k1, k2)).length = m ∧ wr.ownsRow W1.heap.size 35 2 (.slice A5 m c5) m (lkCells (but (ls.take j) (k1, k2))) ∧ Below W1.heap.size W1 wr)) (fun _ i _ => n - (intOf i).toNat)
  case atStart => exact ⟨0, 0, none, 0, Nat.zero_le _, rfl, rfl, Nat.le_refl _, by simp [but], by simpa [but, lkCells] using World.ownsRow_nil _ _ _ _, Below.refl _ _⟩
  case round =>
    obtain ⟨j, m, A5, c5, hj, rfl, rfl, HL⟩ := hrel
    by_cases hlt : j < n
    · obtain ⟨y, hy⟩ : ∃ y, Hid (ls[j]? = some y) := ⟨_, List.getElem?_eq_getElem (by have := HN.out; omega)⟩
      obtain ⟨g, off, rfl, d0, d1, hg⟩ := (HA.out.below (HB.out.2.1.trans (HL.out.2.2.2.mono HB.out.2.1.size))).lk hy.out
      obtain ⟨x0, x1, _, xl⟩ := cell2 ((HL.out.2.2.2.block K HB.out.2.2.1).trans HB.out.1)
      have hsn := Lib.hid (butR_snoc (k1, k2) hy.out)
      have hdec := lk_dec y.1 y.2 (k1, k2)
      obtain ⟨y1, hy1⟩ : ∃ x, Hid (y.1 = x) := ⟨_, rfl⟩
      obtain ⟨y2, hy2⟩ : ∃ x, Hid (y.2 = x) := ⟨_, rfl⟩
      have hy12 : Hid (y = (y1, y2)) := Prod.ext hy1.out hy2.out
      rw [hy1.out] at d0 hdec
      rw [hy2.out] at d1 hdec
      have hw1 : IntKind.i64.wrap ((j : Int) + 1) = ((j + 1 : Nat) : Int) := by have := HN.out; rw [IntKind.wrap_i64]; omega
      have hj0 : ((0 : Int) ≤ j) := by omega
      have hj1 : ((j : Nat) : Int) < n := by omega
      have hKne : ¬ (K = wr.heap.size) := by omega
      have hm1 : Hid (m + 1 ≤ maxLen) := Nat.le_trans (show m + 1 ≤ 1002 by have := HN.out; have := HL.out.1; clear hw1; omega) (by decide)
      have hb1 : Hid ((m + 1) * 16 ≤ 140737488355328) := by have := HN.out; have := HL.out.1; clear hw1; simp only [Hid]; omega
      have hzz : Hid (∀ o1 o2, W1.heap.size ≤ ((wr.alloc o1).alloc o2).heap.size) := fun o1 o2 => Nat.le_trans HL.out.2.2.2.size (by simp; omega)
      have HA1 : Hid (∀ o, Below W1.heap.size W1 (wr.alloc o)) := fun o => HL.out.2.2.2.alloc HL.out.2.2.2.size o
      have HA2 : Hid (∀ o1 o2, Below W1.heap.size W1 ((wr.alloc o1).alloc o2)) := fun o1 o2 => (HL.out.2.2.2.alloc HL.out.2.2.2.size o1).alloc (Nat.le_trans HL.out.2.2.2.size (by simp)) o2
      have HO2 : Hid (∀ o1 o2, ((wr.alloc o1).alloc o2).ownsRow W1.heap.size 35 2 (.slice A5 m c5) m (lkCells (but (ls.take j) (k1, k2)))) := fun o1 o2 => (HL.out.2.2.1.alloc o1).alloc o2
      by_cases hxy : (y1, y2) = (k1, k2)
      · have heq2 : ∀ w, (Op.equalIn 10000 35 (.agg #[.int .i64 y1, .int .i64 y2]) (.agg #[.int .i64 k1, .int .i64 k2])).run Tryz.prog w = .ok true w := fun w => by rw [lk_equal, ← hdec, decide_eq_true hxy]
        have HE : Hid (but (ls.take (j + 1)) (k1, k2) = but (ls.take j) (k1, k2)) := by rw [Hid, hsn.out, if_pos (by rw [hy12.out]; exact hxy), List.append_nil]
        clear hxy hdec hsn
        go_wp2
        exact ⟨⟨j + 1, m, A5, c5, hlt, by go_num, rfl, by have := HL.out.1; omega, by rw [HE.out]; exact HL.out.2.1, by rw [HE.out]; exact HL.out.2.2.1.alloc _, HA1.out _⟩, by simp [intOf]; omega⟩
      · have heq2 : ∀ w, (Op.equalIn 10000 35 (.agg #[.int .i64 y1, .int .i64 y2]) (.agg #[.int .i64 k1, .int .i64 k2])).run Tryz.prog w = .ok false w := fun w => by rw [lk_equal, ← hdec, decide_eq_false hxy]
        have HE : Hid (but (ls.take (j + 1)) (k1, k2) = but (ls.take j) (k1, k2) ++ [(y1, y2)]) := by rw [Hid, hsn.out, if_neg (by rw [hy12.out]; exact hxy), hy12.out]
        clear hxy hdec hsn
        go_wp2_with (at_builtin; refine wpList_append_own _ rfl _ _ 23 rfl W1.heap.size 35 i0 (.agg #[.int .i64 0, .int .i64 0]) 2 16 Tryz.underlying23 hi hz0 hz1 hz2 rfl (by decide) (.slice A5 m c5) m _ rfl (HO2.out _ _) ⟨wr.heap.size + 1, 0, none⟩ 1 1 [.int .i64 y1, .int .i64 y2] rfl rfl (new2 _ _ _ _ _ (by simp)) (by simp [Value.oneCell']) hm1.out hb1.out (hzz.out _ _) ?_; intro v' w5 hown5 hgrow5 hnil5)
        obtain ⟨A8, c8, rfl⟩ := own_slice hown5
        exact ⟨⟨j + 1, m + 1, A8, c8, hlt, by go_num, rfl, by have := HL.out.1; omega, by rw [HE.out, List.length_append, HL.out.2.1]; rfl, by rw [HE.out, lkCells_append]; exact hown5, below_push (HA2.out _ _) (HO2.out _ _) (hzz.out _ _) hgrow5⟩, by simp [intOf]; omega⟩
    · have hjn : j = n := by omega
      subst hjn
      have hall : ls.take j = ls := by rw [← HN.out.2]; exact List.take_length
      rw [hall] at HL
      go_wp2
      go_ret
      exact ⟨A5, m, c5, rfl, HL.out.2.1, ownsRow_mono HL.out.2.2.1 HB.out.2.2.2, HB.out.2.1.trans (HL.out.2.2.2.mono HB.out.2.1.size)⟩
end
/-- What stands behind some links, the new one put or not. -/
def WAcc (ls : List Lk) (k : Lk) (j : Nat) (put : Bool) (acc : List Lk) : Prop := (put = false → acc = ls.take j ∧ ∀ x ∈ ls.take j, ¬ lkLt k x) ∧ (put = true → acc ++ ls.drop j = withL ls k) ∧ acc.length ≤ j + 1
theorem drop_at {α : Type} {l : List α} {j : Nat} {y : α} (hy : l[j]? = some y) : l.drop j = y :: l.drop (j + 1) := by
  obtain ⟨h1, h2⟩ := List.getElem?_eq_some_iff.1 hy
  rw [← h2, List.drop_eq_getElem_cons h1]
theorem WAcc.old {ls : List Lk} {k y : Lk} {j : Nat} {acc : List Lk} (h : WAcc ls k j false acc) (hy : ls[j]? = some y) (hk : ¬ lkLt k y) : WAcc ls k (j + 1) false (acc ++ [y]) := by
  obtain ⟨h1, h2⟩ := h.1 rfl
  refine ⟨fun _ => ⟨by rw [take_snoc hy, h1], mem_take_all hy h2 hk⟩, fun e => (by cases e), by have := h.2.2; simp; omega⟩
theorem WAcc.new {ls : List Lk} {k y : Lk} {j : Nat} {acc : List Lk} (h : WAcc ls k j false acc) (hy : ls[j]? = some y) (hk : lkLt k y) : WAcc ls k (j + 1) true (acc ++ [k] ++ [y]) := by
  obtain ⟨h1, h2⟩ := h.1 rfl
  refine ⟨fun e => (by cases e), fun _ => ?_, ?_⟩
  · have e1 : ls = ls.take j ++ ls.drop j := (List.take_append_drop j ls).symm
    have e2 : withL ls k = ls.take j ++ withL (ls.drop j) k := by
      have := with_app (l1 := ls.take j) (l2 := ls.drop j) h2
      rw [List.take_append_drop] at this
      exact this
    rw [e2, drop_at hy, withL, if_pos hk, h1]
    simp
  · have : acc.length ≤ j := by rw [h1]; simp; omega
    simp; omega
theorem WAcc.go {ls : List Lk} {k y : Lk} {j : Nat} {acc : List Lk} (h : WAcc ls k j true acc) (hy : ls[j]? = some y) : WAcc ls k (j + 1) true (acc ++ [y]) := by
  refine ⟨fun e => (by cases e), fun _ => ?_, by have := h.2.2; simp; omega⟩
  have := h.2.1 rfl
  rw [drop_at hy] at this
  rw [← this]; simp
theorem WAcc.fin {ls : List Lk} {k : Lk} {acc : List Lk} {b : Bool} (h : WAcc ls k ls.length b acc) : (if b = true then acc else acc ++ [k]) = withL ls k := by
  cases b with
  | true => have := h.2.1 rfl; rw [List.drop_length] at this; simpa using this
  | false =>
    obtain ⟨h1, h2⟩ := h.1 rfl
    rw [List.take_length] at h1 h2
    have := with_app (l2 := []) h2
    rw [List.append_nil] at this
    rw [this, h1]; rfl
end Go.Proofs.YtlkfcfcejicdkaaGreatDoor
