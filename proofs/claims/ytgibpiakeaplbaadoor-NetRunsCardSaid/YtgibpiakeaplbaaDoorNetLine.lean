/-
  One list of all packets and the line of each way: plain law. Own work.
-/
import Derived.Test.YtgibpiakeaplbaaDoorProg
set_option linter.unusedSimpArgs false
set_option linter.unusedVariables false
namespace Go.Proofs.YtgibpiakeaplbaaDoor

section
variable {α : Type}
/-- The line of a way. -/
def line (k : Int × Int) (l : List ((Int × Int) × α)) : List α := (l.filter fun x => decide (x.1 = k)).map (·.2)
theorem line_cons (k : Int × Int) (x : (Int × Int) × α) (l : List ((Int × Int) × α)) : line k (x :: l) = if x.1 = k then x.2 :: line k l else line k l := by
  unfold line
  by_cases h : x.1 = k <;> simp [h]
theorem line_snoc (k : Int × Int) (x : (Int × Int) × α) (l : List ((Int × Int) × α)) : line k (l ++ [x]) = if x.1 = k then line k l ++ [x.2] else line k l := by
  unfold line
  by_cases h : x.1 = k <;> simp [h]
theorem line_len_le (k : Int × Int) (l : List ((Int × Int) × α)) : (line k l).length ≤ l.length := by
  unfold line
  rw [List.length_map]
  exact List.length_filter_le _ _

/-- The place of a way's i-th packet in the list of all. -/
def idx (k : Int × Int) : List ((Int × Int) × α) → Nat → Nat
  | [], _ => 0
  | x :: l, i => if x.1 = k then (match i with | 0 => 0 | i + 1 => idx k l i + 1) else idx k l i + 1
theorem idx_hit {k : Int × Int} {x : (Int × Int) × α} {l : List ((Int × Int) × α)} (h : x.1 = k) : idx k (x :: l) 0 = 0 := by simp [idx, h]
theorem idx_next {k : Int × Int} {x : (Int × Int) × α} {l : List ((Int × Int) × α)} (h : x.1 = k) (i : Nat) : idx k (x :: l) (i + 1) = idx k l i + 1 := by simp [idx, h]
theorem idx_other {k : Int × Int} {x : (Int × Int) × α} {l : List ((Int × Int) × α)} (h : x.1 ≠ k) (i : Nat) : idx k (x :: l) i = idx k l i + 1 := by simp [idx, h]

theorem idx_at (k : Int × Int) (l : List ((Int × Int) × α)) (i : Nat) (h : i < (line k l).length) : ∃ x, l[idx k l i]? = some x ∧ x.1 = k ∧ (line k l)[i]? = some x.2 := by
  induction l generalizing i with
  | nil => simp [line] at h
  | cons x l ih =>
    rw [line_cons] at h ⊢
    by_cases hx : x.1 = k
    · rw [if_pos hx] at h ⊢
      cases i with
      | zero => exact ⟨x, by rw [idx_hit hx]; rfl, hx, rfl⟩
      | succ i =>
        obtain ⟨y, h1, h2, h3⟩ := ih i (by simpa using h)
        exact ⟨y, by rw [idx_next hx]; simpa using h1, h2, by simpa using h3⟩
    · rw [if_neg hx] at h ⊢
      obtain ⟨y, h1, h2, h3⟩ := ih i h
      exact ⟨y, by rw [idx_other hx]; simpa using h1, h2, h3⟩
theorem line_erase (k k' : Int × Int) (l : List ((Int × Int) × α)) (i : Nat) (h : i < (line k l).length) : line k' (l.eraseIdx (idx k l i)) = if k' = k then (line k l).eraseIdx i else line k' l := by
  induction l generalizing i with
  | nil => simp [line] at h
  | cons x l ih =>
    rw [line_cons] at h
    by_cases hx : x.1 = k
    · rw [if_pos hx] at h
      cases i with
      | zero =>
        rw [idx_hit hx, List.eraseIdx_cons_zero, line_cons, if_pos hx]
        by_cases hk : k' = k
        · subst hk; simp
        · rw [if_neg hk, line_cons, if_neg (by rw [hx]; exact fun e => hk e.symm)]
      | succ i =>
        rw [idx_next hx, List.eraseIdx_cons_succ, line_cons, ih i (by simpa using h), line_cons k, if_pos hx]
        by_cases hk : k' = k
        · subst hk; simp [hx]
        · rw [if_neg hk, if_neg hk, line_cons]
    · rw [if_neg hx] at h
      rw [idx_other hx, List.eraseIdx_cons_succ, line_cons, ih i h, line_cons k, if_neg hx]
      by_cases hk : k' = k
      · subst hk; simp [hx]
      · rw [if_neg hk, if_neg hk, line_cons]
/-- Walking on: a packet of another way, or an earlier one, is passed. -/
theorem idx_drop_other {k : Int × Int} {l : List ((Int × Int) × α)} {j : Nat} {x : (Int × Int) × α} (hx : l[j]? = some x) (hk : x.1 ≠ k) (i : Nat) : idx k (l.drop j) i = idx k (l.drop (j + 1)) i + 1 ∧ line k (l.drop j) = line k (l.drop (j + 1)) := by
  obtain ⟨h7, h8⟩ := List.getElem?_eq_some_iff.1 hx
  rw [List.drop_eq_getElem_cons h7, h8]
  exact ⟨idx_other hk i, by rw [line_cons, if_neg hk]⟩
theorem idx_drop_next {k : Int × Int} {l : List ((Int × Int) × α)} {j : Nat} {x : (Int × Int) × α} (hx : l[j]? = some x) (hk : x.1 = k) (i : Nat) : idx k (l.drop j) (i + 1) = idx k (l.drop (j + 1)) i + 1 ∧ line k (l.drop j) = x.2 :: line k (l.drop (j + 1)) := by
  obtain ⟨h7, h8⟩ := List.getElem?_eq_some_iff.1 hx
  rw [List.drop_eq_getElem_cons h7, h8]
  exact ⟨idx_next hk i, by rw [line_cons, if_pos hk]⟩
theorem idx_drop_hit {k : Int × Int} {l : List ((Int × Int) × α)} {j : Nat} {x : (Int × Int) × α} (hx : l[j]? = some x) (hk : x.1 = k) : idx k (l.drop j) 0 = 0 := by
  obtain ⟨h7, h8⟩ := List.getElem?_eq_some_iff.1 hx
  rw [List.drop_eq_getElem_cons h7, h8]
  exact idx_hit hk
/-- Lists that tell the same ways have the same places. -/
theorem idx_ways {β : Type} (k : Int × Int) (l : List ((Int × Int) × α)) (m : List ((Int × Int) × β)) (h : l.map (·.1) = m.map (·.1)) (i : Nat) : idx k l i = idx k m i := by
  induction l generalizing m i with
  | nil => cases m with
    | nil => rfl
    | cons y m => simp at h
  | cons x l ih => cases m with
    | nil => simp at h
    | cons y m =>
      simp at h
      obtain ⟨h1, h2⟩ := h
      have ih' := fun i => ih m (by simpa using h2) i
      simp only [idx, h1]
      split
      · cases i <;> simp [ih']
      · simp [ih']
theorem line_len_ways {β : Type} (k : Int × Int) (l : List ((Int × Int) × α)) (m : List ((Int × Int) × β)) (h : l.map (·.1) = m.map (·.1)) : (line k l).length = (line k m).length := by
  induction l generalizing m with
  | nil => cases m with
    | nil => rfl
    | cons y m => simp at h
  | cons x l ih => cases m with
    | nil => simp at h
    | cons y m =>
      simp at h
      obtain ⟨h1, h2⟩ := h
      rw [line_cons, line_cons, h1]
      split <;> simp [ih m (by simpa using h2)]
theorem cnt_line (k : Int × Int) (l : List ((Int × Int) × α)) : (l.map (·.1)).count k = (line k l).length := by
  induction l with
  | nil => rfl
  | cons x l ih =>
    rw [line_cons, List.map_cons, List.count_cons, ih]
    by_cases h : x.1 = k <;> simp [h]
end
end Go.Proofs.YtgibpiakeaplbaaDoor
