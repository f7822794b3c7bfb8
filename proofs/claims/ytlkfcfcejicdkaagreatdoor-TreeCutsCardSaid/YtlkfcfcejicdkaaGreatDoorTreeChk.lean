/-
  tree: what Check answers; what a graph is that it takes. Plain laws. Own work.
-/
import Derived.Test.YtlkfcfcejicdkaaGreatDoorTreeVisit
set_option linter.unusedSimpArgs false
set_option linter.unusedVariables false
namespace Go.Proofs.YtlkfcfcejicdkaaGreatDoor

/-- An error as the laws see it: nothing, or places and a number. -/
abbrev Er := Option (List (Int × Int) × Int)
def plainE (c : Int) : Er := some ([], c)
def itemE (i : Nat) (c : Int) : Er := some ([(2, (i : Int))], c)
/-- The first that fails. -/
def firstBad (f : Nat → Bool) (n : Nat) : Option Nat := (List.range n).find? fun i => !f i
theorem firstBad_some {f : Nat → Bool} {n j : Nat} (h : ∀ i, i < j → f i = true) (hj : j < n) (hf : f j = false) : firstBad f n = some j := by
  unfold firstBad
  rw [List.find?_range_eq_some]
  exact ⟨by simp [hf], List.mem_range.2 hj, fun i hi => by simp [h i hi]⟩
theorem firstBad_none {f : Nat → Bool} {n : Nat} (h : ∀ i, i < n → f i = true) : firstBad f n = none := by
  unfold firstBad
  rw [List.find?_eq_none]
  intro i hi
  simp [h i (List.mem_range.1 hi)]
theorem firstBad_all {f : Nat → Bool} {n : Nat} (h : firstBad f n = none) : ∀ i, i < n → f i = true := fun i hi => by
  unfold firstBad at h
  rw [List.find?_eq_none] at h
  have := h i (List.mem_range.2 hi)
  simpa using this
def lkLt (a b : Lk) : Prop := a.1 < b.1 ∨ (a.1 = b.1 ∧ a.2 < b.2)
instance (a b : Lk) : Decidable (lkLt a b) := by unfold lkLt; exact inferInstance
def memOk (ms : List Int) (i : Nat) : Bool := decide (0 ≤ ms.getD i 0 ∧ ms.getD i 0 < 8 ∧ (i = 0 ∨ ms.getD (i - 1) 0 < ms.getD i 0))
def lkOk (ms : List Int) (ls : List Lk) (i : Nat) : Bool := decide ((ls.getD i (0, 0)).1 < (ls.getD i (0, 0)).2 ∧ (ls.getD i (0, 0)).1 ∈ ms ∧ (ls.getD i (0, 0)).2 ∈ ms ∧ (i = 0 ∨ lkLt (ls.getD (i - 1) (0, 0)) (ls.getD i (0, 0))))
/-- How many are reached. -/
def reachN (ls : List Lk) (r : Int) : Nat := (visitF ls 9 [] r (-1)).length
def chk (ms : List Int) (ls : List Lk) : Er :=
  if 8 < ms.length then plainE 2 else match firstBad (memOk ms) ms.length with
  | some i => itemE i 12
  | none => match firstBad (lkOk ms ls) ls.length with
    | some i => itemE i 13
    | none => if ms.length = 0 ∨ ls.length + 1 ≠ ms.length ∨ reachN ls (ms.getD 0 0) ≠ ms.length then plainE 14 else none

/-- Members in order, within their numbers. -/
def MsOk (ms : List Int) : Prop := ms.Pairwise (· < ·) ∧ ∀ x ∈ ms, x ∈ ALL
/-- Links in order, each of two members. -/
def LsOk (ms : List Int) (ls : List Lk) : Prop := ls.Pairwise lkLt ∧ ∀ k ∈ ls, k.1 < k.2 ∧ k.1 ∈ ms ∧ k.2 ∈ ms
theorem getD_at {α : Type} {l : List α} {i : Nat} (h : i < l.length) (d : α) : l.getD i d = l[i] := by simp [h]
theorem rising_of {α : Type} (R : α → α → Prop) (htr : ∀ a b c, R a b → R b c → R a c) (d : α) : ∀ (l : List α), (∀ i, i < l.length → i = 0 ∨ R (l.getD (i - 1) d) (l.getD i d)) → l.Pairwise R
  | [], _ => List.Pairwise.nil
  | [x], _ => List.pairwise_singleton _ _
  | x :: y :: l, h => by
    have h1 : R x y := by have := h 1 (by simp); simpa using this
    have ih := rising_of R htr d (y :: l) fun i hi => by
      cases i with
      | zero => exact .inl rfl
      | succ i =>
        have := h (i + 2) (by simp at hi ⊢; omega)
        simpa using this
    refine List.pairwise_cons.2 ⟨fun z hz => ?_, ih⟩
    rcases List.mem_cons.1 hz with rfl | hz
    · exact h1
    · exact htr _ _ _ h1 ((List.pairwise_cons.1 ih).1 z hz)
theorem lkLt_tr (a b c : Lk) (h : lkLt a b) (k : lkLt b c) : lkLt a c := by unfold lkLt at *; omega
theorem lkLt_irr (a : Lk) : ¬ lkLt a a := by unfold lkLt; omega
theorem lkLt_tri (a b : Lk) : lkLt a b ∨ a = b ∨ lkLt b a := by
  unfold lkLt
  by_cases h : a.1 = b.1
  · by_cases h2 : a.2 = b.2
    · exact .inr (.inl (Prod.ext h h2))
    · omega
  · omega
theorem msOk_of {ms : List Int} (h : firstBad (memOk ms) ms.length = none) : MsOk ms := by
  have h1 := firstBad_all h
  refine ⟨rising_of (· < ·) (fun a b c h k => by omega) 0 ms fun i hi => ?_, fun x hx => ?_⟩
  · have := h1 i hi
    unfold memOk at this
    have := of_decide_eq_true this
    exact this.2.2
  · obtain ⟨i, hi, rfl⟩ := List.mem_iff_getElem.1 hx
    have := of_decide_eq_true (h1 i hi)
    rw [getD_at hi] at this
    exact all_iff.2 ⟨this.1, this.2.1⟩
theorem msOk_back {ms : List Int} (h : MsOk ms) : firstBad (memOk ms) ms.length = none := firstBad_none fun i hi => by
  unfold memOk
  have h1 := all_iff.1 (h.2 _ (List.getElem_mem hi))
  refine decide_eq_true ⟨by rw [getD_at hi]; exact h1.1, by rw [getD_at hi]; exact h1.2, ?_⟩
  by_cases h0 : i = 0
  · exact .inl h0
  · right
    rw [getD_at hi, getD_at (show i - 1 < ms.length by omega)]
    exact List.pairwise_iff_getElem.1 h.1 (i - 1) i (by omega) hi (by omega)
theorem lsOk_of {ms : List Int} {ls : List Lk} (h : firstBad (lkOk ms ls) ls.length = none) : LsOk ms ls := by
  have h1 := firstBad_all h
  refine ⟨rising_of lkLt lkLt_tr (0, 0) ls fun i hi => ?_, fun x hx => ?_⟩
  · exact (of_decide_eq_true (h1 i hi)).2.2.2
  · obtain ⟨i, hi, rfl⟩ := List.mem_iff_getElem.1 hx
    have := of_decide_eq_true (h1 i hi)
    rw [getD_at hi] at this
    exact ⟨this.1, this.2.1, this.2.2.1⟩
theorem lsOk_back {ms : List Int} {ls : List Lk} (h : LsOk ms ls) : firstBad (lkOk ms ls) ls.length = none := firstBad_none fun i hi => by
  unfold lkOk
  have h1 := h.2 _ (List.getElem_mem hi)
  refine decide_eq_true ⟨by rw [getD_at hi]; exact h1.1, by rw [getD_at hi]; exact h1.2.1, by rw [getD_at hi]; exact h1.2.2, ?_⟩
  by_cases h0 : i = 0
  · exact .inl h0
  · right
    rw [getD_at hi, getD_at (show i - 1 < ls.length by omega)]
    exact List.pairwise_iff_getElem.1 h.1 (i - 1) i (by omega) hi (by omega)
section
variable {ms : List Int} {ls : List Lk}
theorem LsOk.adj_all (h : LsOk ms ls) (hm : MsOk ms) (n m : Int) (ha : adjB ls n m = true) : m ∈ ALL ∧ n ∈ ALL ∧ m ∈ ms ∧ n ∈ ms := by
  obtain ⟨k, hk, hj⟩ := adj_iff.1 ha
  have h1 := h.2 k hk
  rcases joins_iff.1 hj with ⟨e1, e2⟩ | ⟨e1, e2⟩
  · rw [← e1, ← e2]; exact ⟨hm.2 _ h1.2.2, hm.2 _ h1.2.1, h1.2.2, h1.2.1⟩
  · rw [← e1, ← e2]; exact ⟨hm.2 _ h1.2.1, hm.2 _ h1.2.2, h1.2.1, h1.2.2⟩
theorem LsOk.nodup (h : LsOk ms ls) : ls.Nodup := h.1.imp fun h e => by rw [e] at h; exact lkLt_irr _ h
theorem MsOk.nodup (h : MsOk ms) : ms.Nodup := h.1.imp fun h => by omega
/-- The search from a member: all that is reached. -/
theorem visit_ok (hm : MsOk ms) (hl : LsOk ms ls) {r : Int} (hr : r ∈ ms) {f : Nat} (hf : 9 ≤ f) : (visitF ls f [] r (-1)).Nodup ∧ (∀ x ∈ visitF ls f [] r (-1), x ∈ ALL) ∧ ∀ x, x ∈ visitF ls f [] r (-1) ↔ Rch ls r x :=
  visit_all (ls' := ls) (fun n m h => (hl.adj_all hm n m h).1) (fun n m _ _ h => h) (-1) (fun m _ h => h) (fun n m h => h) (by
    rw [Bool.eq_false_iff]
    intro h
    have := all_iff.1 (hl.adj_all hm _ _ h).1
    omega) (hm.2 r hr) hf
theorem rch_ms (hm : MsOk ms) (hl : LsOk ms ls) {r x : Int} (hr : r ∈ ms) (h : Rch ls r x) : x ∈ ms :=
  h.closed hr fun z _ y hy => (hl.adj_all hm z y hy).2.2.1
/-- Any list of all that is reached is as long. -/
theorem reachN_of (hm : MsOk ms) (hl : LsOk ms ls) {r : Int} (hr : r ∈ ms) {S : List Int} (hn : S.Nodup) (hS : ∀ x, x ∈ S ↔ Rch ls r x) : reachN ls r = S.length := by
  obtain ⟨h1, h2, h3⟩ := visit_ok hm hl hr (Nat.le_refl 9)
  unfold reachN
  exact ((List.perm_ext_iff_of_nodup h1 hn).2 fun x => by rw [h3, hS]).length_eq
/-- WHAT CHECK TAKES. -/
structure Good (ms : List Int) (ls : List Lk) : Prop where
  ms_ : MsOk ms
  ls_ : LsOk ms ls
  tr : Tr ms ls
theorem chk_good (h : chk ms ls = none) : Good ms ls := by
  unfold chk at h
  split at h
  · cases h
  split at h
  · cases h
  rename_i h1
  split at h
  · cases h
  rename_i h2
  split at h
  · cases h
  rename_i h3
  have hm := msOk_of h1
  have hl := lsOk_of h2
  have h4 : 0 < ms.length := by omega
  have h5 : ls.length + 1 = ms.length := by omega
  have h6 : reachN ls (ms.getD 0 0) = ms.length := by omega
  have hr : ms.getD 0 0 ∈ ms := by rw [getD_at h4]; exact List.getElem_mem h4
  obtain ⟨v1, v2, v3⟩ := visit_ok hm hl hr (Nat.le_refl 9)
  have hall : ∀ x ∈ ms, Rch ls (ms.getD 0 0) x := fun x hx => by
    rw [← v3]
    refine Classical.byContradiction fun hn => ?_
    have h7 := nodup_le (l := x :: visitF ls 9 [] (ms.getD 0 0) (-1)) (m := ms) (List.nodup_cons.2 ⟨hn, v1⟩) fun y hy => by
      rcases List.mem_cons.1 hy with rfl | hy
      · exact hx
      · exact rch_ms hm hl hr ((v3 y).1 hy)
    unfold reachN at h6
    rw [List.length_cons] at h7
    omega
  exact ⟨hm, hl, hm.nodup, hl.nodup, hl.2, h5, fun a ha b hb => (hall a ha).symm.trans (hall b hb)⟩
theorem good_chk (h : Good ms ls) : chk ms ls = none := by
  have h0 : 0 < ms.length := by have := h.tr.len; omega
  have h8 : ms.length ≤ 8 := nodup_le h.tr.nodup h.ms_.2
  unfold chk
  rw [if_neg (by omega), msOk_back h.ms_]
  simp only
  rw [lsOk_back h.ls_]
  simp only
  have hr : ms.getD 0 0 ∈ ms := by rw [getD_at h0]; exact List.getElem_mem h0
  have h1 := reachN_of h.ms_ h.ls_ hr h.tr.nodup fun x => ⟨fun hx => h.tr.reach _ hr x hx, fun hx => rch_ms h.ms_ h.ls_ hr hx⟩
  rw [if_neg]
  have := h.tr.len
  omega
end
end Go.Proofs.YtlkfcfcejicdkaaGreatDoor
