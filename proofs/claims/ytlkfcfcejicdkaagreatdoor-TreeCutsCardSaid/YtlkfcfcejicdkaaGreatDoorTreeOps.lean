/-
  tree: what Swap, Join, Leave, Near, Side answer, plainly; laws of these. Own work.
-/
import Derived.Test.YtlkfcfcejicdkaaGreatDoorTreeChk
set_option linter.unusedSimpArgs false
set_option linter.unusedVariables false
namespace Go.Proofs.YtlkfcfcejicdkaaGreatDoor

/-- A link put in its place. -/
def withL : List Lk → Lk → List Lk
  | [], k => [k]
  | x :: l, k => if lkLt k x then k :: x :: l else x :: withL l k
theorem with_perm : ∀ (ls : List Lk) (k : Lk), (withL ls k).Perm (k :: ls)
  | [], k => .refl _
  | x :: l, k => by
    rw [withL]
    split
    · exact .refl _
    · exact ((with_perm l k).cons x).trans (.swap k x l)
theorem with_mem {ls : List Lk} {k x : Lk} : x ∈ withL ls k ↔ x = k ∨ x ∈ ls := by rw [(with_perm ls k).mem_iff, List.mem_cons]
theorem with_len (ls : List Lk) (k : Lk) : (withL ls k).length = ls.length + 1 := by rw [(with_perm ls k).length_eq, List.length_cons]
theorem with_sorted : ∀ {ls : List Lk} {k : Lk}, ls.Pairwise lkLt → k ∉ ls → (withL ls k).Pairwise lkLt
  | [], k, _, _ => List.pairwise_singleton _ _
  | x :: l, k, h, hk => by
    obtain ⟨h1, h2⟩ := List.pairwise_cons.1 h
    rw [withL]
    split
    · rename_i e
      refine List.pairwise_cons.2 ⟨fun y hy => ?_, h⟩
      rcases List.mem_cons.1 hy with rfl | hy
      · exact e
      · exact lkLt_tr _ _ _ e (h1 y hy)
    · rename_i e
      refine List.pairwise_cons.2 ⟨fun y hy => ?_, with_sorted h2 fun hm => hk (by simp [hm])⟩
      rcases with_mem.1 hy with rfl | hy
      · rcases lkLt_tri y x with h3 | h3 | h3
        · exact absurd h3 e
        · exact absurd (by simp [h3]) hk
        · exact h3
      · exact h1 y hy
theorem lk_list_eq {l m : List Lk} (hl : l.Pairwise lkLt) (hm : m.Pairwise lkLt) (hp : l.Perm m) : l = m :=
  List.Perm.eq_of_pairwise (le := lkLt) (fun a b _ _ h1 h2 => absurd (lkLt_tr _ _ _ h1 h2) (lkLt_irr a)) hl hm hp
/-- The program's way: put behind all, and sorted. -/
theorem with_of_sort {ls m : List Lk} {k : Lk} (h : ls.Pairwise lkLt) (hk : k ∉ ls) (hp : m.Perm (ls ++ [k])) (hs : m.Pairwise fun a b => ¬ lkLt b a) : m = withL ls k := by
  have hn : (ls ++ [k]).Nodup := List.nodup_append.2 ⟨h.imp fun h e => by rw [e] at h; exact lkLt_irr _ h, by simp, fun x hx y hy e => by
    have e2 : y = k := by simpa using hy
    exact hk (by rw [← e2, ← e]; exact hx)⟩
  have hm : m.Nodup := hp.nodup_iff.2 hn
  refine lk_list_eq ?_ (with_sorted h hk) (hp.trans ((List.perm_append_comm).trans (with_perm ls k).symm))
  refine (List.pairwise_and_iff.2 ⟨hs, hm⟩).imp fun {a b} h => ?_
  rcases lkLt_tri a b with h3 | h3 | h3
  · exact h3
  · exact absurd h3 h.2
  · exact absurd h3 h.1
theorem but_sorted {ls : List Lk} {k : Lk} (h : ls.Pairwise lkLt) : (but ls k).Pairwise lkLt := h.filter _
theorem but_mem {ls : List Lk} {k x : Lk} : x ∈ but ls k ↔ x ∈ ls ∧ x ≠ k := by unfold but; rw [List.mem_filter]; simp
theorem but_with {ls : List Lk} {k : Lk} (h : ls.Pairwise lkLt) (hk : k ∉ ls) : but (withL ls k) k = ls := by
  refine lk_list_eq (but_sorted (with_sorted h hk)) h ((List.perm_ext_iff_of_nodup ?_ ?_).2 fun x => ?_)
  · exact (but_sorted (with_sorted h hk)).imp fun h e => by rw [e] at h; exact lkLt_irr _ h
  · exact h.imp fun h e => by rw [e] at h; exact lkLt_irr _ h
  · rw [but_mem, with_mem]
    constructor
    · rintro ⟨h1 | h1, h2⟩
      · exact absurd h1 h2
      · exact h1
    · exact fun h1 => ⟨.inr h1, fun e => hk (by rw [← e]; exact h1)⟩
theorem with_but {ls : List Lk} {k : Lk} (h : ls.Pairwise lkLt) (hk : k ∈ ls) : withL (but ls k) k = ls := by
  have hnk : k ∉ but ls k := fun h => (but_mem.1 h).2 rfl
  refine lk_list_eq (with_sorted (but_sorted h) hnk) h ((List.perm_ext_iff_of_nodup ?_ ?_).2 fun x => ?_)
  · exact (with_sorted (but_sorted h) hnk).imp fun h e => by rw [e] at h; exact lkLt_irr _ h
  · exact h.imp fun h e => by rw [e] at h; exact lkLt_irr _ h
  · rw [with_mem, but_mem]
    constructor
    · rintro (rfl | h1)
      · exact hk
      · exact h1.1
    · intro h1
      by_cases e : x = k
      · exact .inl e
      · exact .inr ⟨h1, e⟩

/-- The link of two members in any order. -/
def ofL (a b : Int) : Lk := (min a b, max a b)
theorem ofL_comm (a b : Int) : ofL a b = ofL b a := by unfold ofL; rw [Int.min_comm, Int.max_comm]
theorem joins_of {a b : Int} : joins (ofL a b) a b = true := by
  rw [joins_iff]
  unfold ofL
  simp only
  omega
theorem of_joins {k : Lk} {a b : Int} (h : k.1 < k.2) (hj : joins k a b = true) : ofL a b = k := by
  have := joins_iff.1 hj
  unfold ofL
  refine Prod.ext ?_ ?_ <;> simp only <;> omega
theorem adj_of {ms : List Int} {ls : List Lk} (hl : LsOk ms ls) {a b : Int} : adjB ls a b = true ↔ ofL a b ∈ ls := by
  rw [adj_iff]
  constructor
  · rintro ⟨k, hk, hj⟩
    rw [of_joins (hl.2 k hk).1 hj]; exact hk
  · exact fun h => ⟨_, h, joins_of⟩

/-- A graph, if it is a tree. -/
abbrev Gr := List Int × List Lk
def doneP (ms : List Int) (ls : List Lk) : Er × Gr := match chk ms ls with
  | some e => (some e, [], [])
  | none => (none, ms, ls)
def swapE (ms : List Int) (ls : List Lk) (old other : Lk) : Er := match chk ms ls with
  | some e => some e
  | none => if old.1 ≥ old.2 ∨ other.1 ≥ other.2 then plainE 1 else if other.1 ∉ ms ∨ other.2 ∉ ms then plainE 12 else if old ∉ ls ∨ other ∈ ls then plainE 13 else none
def swapP (ms : List Int) (ls : List Lk) (old other : Lk) : Er × Gr := match swapE ms ls old other with
  | some e => (some e, [], [])
  | none => doneP ms (withL (but ls old) other)
def joinE (ms : List Int) (ls : List Lk) (n a : Int) : Er := match chk ms ls with
  | some e => some e
  | none => if n < 0 ∨ 8 ≤ n then plainE 1 else if n ∈ ms then plainE 9 else if a ∉ ms then plainE 12 else none
def joinP (ms : List Int) (ls : List Lk) (n a : Int) : Er × Gr := match joinE ms ls n a with
  | some e => (some e, [], [])
  | none => doneP (inOrder (ms ++ [n])) (withL ls (ofL n a))
def leaveE (ms : List Int) (ls : List Lk) (n : Int) : Er := match chk ms ls with
  | some e => some e
  | none => if n ∉ ms then plainE 12 else if (nears ls n).length ≠ 1 then plainE 14 else none
def leaveP (ms : List Int) (ls : List Lk) (n : Int) : Er × Gr := match leaveE ms ls n with
  | some e => (some e, [], [])
  | none => doneP (ms.filter fun x => !(x == n)) (but ls (ofL n ((nears ls n).getD 0 0)))
def membersE (ms : List Int) (ls : List Lk) (l : List Int) : Er := match chk ms ls with
  | some e => some e
  | none => if ∃ n ∈ l, n ∉ ms then plainE 12 else none
section
variable {ms : List Int} {ls : List Lk}
theorem done_good {e : Er} {g : Gr} (h : doneP ms ls = (e, g)) : (e = none → g = (ms, ls) ∧ Good ms ls) ∧ (e ≠ none → g = ([], [])) := by
  unfold doneP at h
  cases hc : chk ms ls with
  | some x => rw [hc] at h; cases h; exact ⟨fun h => (by cases h), fun _ => rfl⟩
  | none => rw [hc] at h; cases h; exact ⟨fun _ => ⟨rfl, chk_good hc⟩, fun h => absurd rfl h⟩
theorem good_done (h : Good ms ls) : doneP ms ls = (none, ms, ls) := by unfold doneP; rw [good_chk h]
theorem Good.pos (h : Good ms ls) : 0 < ms.length := by have := h.tr.len; omega
/-- A member of a tree of more than one has a neighbour. -/
theorem Good.near (h : Good ms ls) {n : Int} (hn : n ∈ ms) : (nears ls n).length = 0 ↔ ms.length = 1 := by
  constructor
  · intro h0
    have hnil : nears ls n = [] := List.eq_nil_of_length_eq_zero h0
    have h1 : ∀ x ∈ ms, x ∈ [n] := fun x hx => by
      refine (h.tr.reach n hn x hx).closed (by simp) fun z hz y hy => ?_
      have e : z = n := by simpa using hz
      subst e
      have := nears_iff.2 ⟨(h.ls_.adj_all h.ms_ _ _ hy).1, hy⟩
      rw [hnil] at this; cases this
    have := nodup_le h.tr.nodup h1
    have := h.pos
    simp at *
    omega
  · intro h1
    have hl : ls = [] := List.eq_nil_of_length_eq_zero (by have := h.tr.len; omega)
    subst hl
    unfold nears
    rw [List.length_eq_zero_iff, List.filter_eq_nil_iff]
    intro x _
    simp [adjB]
/-- The document's test is the program's. -/
theorem leave_test (h : Good ms ls) {n : Int} (hn : n ∈ ms) : (ms.length = 1 ∨ 1 < (nears ls n).length) ↔ (nears ls n).length ≠ 1 := by
  have := h.near hn
  omega
theorem swap_good {old other : Lk} {g : Gr} (h : swapP ms ls old other = (none, g)) : Good ms ls ∧ Good ms (withL (but ls old) other) ∧ g = (ms, withL (but ls old) other) ∧ old.1 < old.2 ∧ other.1 < other.2 ∧ other.1 ∈ ms ∧ other.2 ∈ ms ∧ old ∈ ls ∧ other ∉ ls := by
  unfold swapP at h
  cases he : swapE ms ls old other with
  | some e => rw [he] at h; cases h
  | none =>
    rw [he] at h
    obtain ⟨h1, h2⟩ := (done_good h).1 rfl
    unfold swapE at he
    cases hc : chk ms ls with
    | some e => rw [hc] at he; cases he
    | none =>
      rw [hc] at he
      simp only at he
      split at he
      · cases he
      rename_i a1
      split at he
      · cases he
      rename_i a2
      split at he
      · cases he
      rename_i a3
      refine ⟨chk_good hc, h2, h1, by omega, by omega, ?_, ?_, ?_, ?_⟩
      · exact Classical.byContradiction fun e => a2 (.inl e)
      · exact Classical.byContradiction fun e => a2 (.inr e)
      · exact Classical.byContradiction fun e => a3 (.inl e)
      · exact fun e => a3 (.inr e)
/-- A swap swapped back. -/
theorem swap_back {old other : Lk} {g : Gr} (h : swapP ms ls old other = (none, g)) : swapP g.1 g.2 other old = (none, ms, ls) := by
  obtain ⟨h1, h2, rfl, h3, h4, h5, h6, h7, h8⟩ := swap_good h
  have hne : other ≠ old := fun e => h8 (by rw [e]; exact h7)
  have hob : other ∉ but ls old := fun e => h8 (but_mem.1 e).1
  have hold : old ∉ withL (but ls old) other := fun e => by
    rcases with_mem.1 e with e | e
    · exact hne e.symm
    · exact (but_mem.1 e).2 rfl
  have he : swapE ms (withL (but ls old) other) other old = none := by
    unfold swapE
    rw [good_chk h2]
    simp only
    rw [if_neg (by omega), if_neg (fun e => by
      rcases e with e | e
      · exact e (h1.ls_.2 _ h7).2.1
      · exact e (h1.ls_.2 _ h7).2.2), if_neg (fun e => by
      rcases e with e | e
      · exact e (with_mem.2 (.inl rfl))
      · exact hold e)]
  unfold swapP
  simp only
  rw [he]
  simp only
  rw [but_with (but_sorted h1.ls_.1) hob, with_but h1.ls_.1 h7, good_done h1]
theorem join_good {n a : Int} {g : Gr} (h : joinP ms ls n a = (none, g)) : Good ms ls ∧ Good (inOrder (ms ++ [n])) (withL ls (ofL n a)) ∧ g = (inOrder (ms ++ [n]), withL ls (ofL n a)) ∧ 0 ≤ n ∧ n < 8 ∧ n ∉ ms ∧ a ∈ ms := by
  unfold joinP at h
  cases he : joinE ms ls n a with
  | some e => rw [he] at h; cases h
  | none =>
    rw [he] at h
    obtain ⟨h1, h2⟩ := (done_good h).1 rfl
    unfold joinE at he
    cases hc : chk ms ls with
    | some e => rw [hc] at he; cases he
    | none =>
      rw [hc] at he
      simp only at he
      split at he
      · cases he
      rename_i a1
      split at he
      · cases he
      rename_i a2
      split at he
      · cases he
      rename_i a3
      refine ⟨chk_good hc, h2, h1, by omega, by omega, a2, Classical.byContradiction fun e => a3 e⟩
theorem of_new (hl : LsOk ms ls) {n a : Int} (hn : n ∉ ms) : ofL n a ∉ ls := fun h => by
  have h1 := hl.2 _ h
  have : (ofL n a).1 = n ∨ (ofL n a).2 = n := by unfold ofL; simp only; omega
  rcases this with e | e
  · rw [e] at h1; exact hn h1.2.1
  · rw [e] at h1; exact hn h1.2.2
theorem nears_one {n a : Int} (ha : a ∈ ALL) (h : ∀ m, adjB ls n m = true ↔ m = a) : nears ls n = [a] := by
  refine lt_list_eq (all_lt.filter _) (List.pairwise_singleton _ _) fun x => ?_
  rw [nears_iff, h]
  constructor
  · rintro ⟨_, rfl⟩; simp
  · intro hx
    have e : x = a := by simpa using hx
    subst e
    exact ⟨ha, rfl⟩
/-- A join left again. -/
theorem join_back {n a : Int} {g : Gr} (h : joinP ms ls n a = (none, g)) : leaveP g.1 g.2 n = (none, ms, ls) := by
  obtain ⟨h1, h2, rfl, h3, h4, h5, h6⟩ := join_good h
  have hna : n ∈ ALL := all_iff.2 ⟨h3, h4⟩
  have hall : ∀ x ∈ ms ++ [n], x ∈ ALL := fun x hx => by
    rcases List.mem_append.1 hx with hx | hx
    · exact h1.ms_.2 x hx
    · have e : x = n := by simpa using hx
      rw [e]; exact hna
  have hnm : n ∈ inOrder (ms ++ [n]) := (inOrder_iff hall).2 (by simp)
  have hnew := of_new h1.ls_ h5 (a := a)
  have hone : nears (withL ls (ofL n a)) n = [a] := nears_one (h1.ms_.2 a h6) fun m => by
    rw [adj_of h2.ls_, with_mem]
    constructor
    · rintro (e | e)
      · have e1 : (ofL n m).1 = (ofL n a).1 := by rw [e]
        have e2 : (ofL n m).2 = (ofL n a).2 := by rw [e]
        unfold ofL at e1 e2
        simp only at e1 e2
        omega
      · exact absurd e (of_new h1.ls_ h5)
    · rintro rfl
      exact .inl rfl
  have he : leaveE (inOrder (ms ++ [n])) (withL ls (ofL n a)) n = none := by
    unfold leaveE
    rw [good_chk h2]
    simp only
    rw [if_neg (by simpa using hnm), if_neg (by rw [hone]; simp)]
  unfold leaveP
  simp only
  rw [he]
  simp only
  rw [hone]
  have e1 : (inOrder (ms ++ [n])).filter (fun x => !(x == n)) = ms := by
    refine lt_list_eq ((inOrder_lt _).filter _) h1.ms_.1 fun x => ?_
    rw [List.mem_filter, inOrder_iff hall, List.mem_append]
    constructor
    · rintro ⟨h7 | h7, h8⟩
      · exact h7
      · have e : x = n := by simpa using h7
        rw [e] at h8; simp at h8
    · intro h7
      exact ⟨.inl h7, by
        have : x ≠ n := fun e => h5 (by rw [← e]; exact h7)
        simpa using this⟩
  rw [e1]
  simp only [List.getD_cons_zero]
  rw [but_with h1.ls_.1 hnew, good_done h1]
theorem leave_good {n : Int} {g : Gr} (h : leaveP ms ls n = (none, g)) : Good ms ls ∧ Good (ms.filter fun x => !(x == n)) (but ls (ofL n ((nears ls n).getD 0 0))) ∧ g = (ms.filter (fun x => !(x == n)), but ls (ofL n ((nears ls n).getD 0 0))) ∧ n ∈ ms := by
  unfold leaveP at h
  cases he : leaveE ms ls n with
  | some e => rw [he] at h; cases h
  | none =>
    rw [he] at h
    obtain ⟨h1, h2⟩ := (done_good h).1 rfl
    unfold leaveE at he
    cases hc : chk ms ls with
    | some e => rw [hc] at he; cases he
    | none =>
      rw [hc] at he
      simp only at he
      split at he
      · cases he
      rename_i a1
      exact ⟨chk_good hc, h2, h1, Classical.byContradiction fun e => a1 e⟩
theorem filter_one {n : Int} : ∀ {l : List Int}, l.Nodup → n ∈ l → (l.filter fun x => !(x == n)).length + 1 = l.length
  | [], _, h => by cases h
  | x :: l, hn, h => by
    obtain ⟨h1, h2⟩ := List.nodup_cons.1 hn
    rw [List.filter_cons]
    by_cases e : x = n
    · subst e
      rw [if_neg (by simp)]
      have : l.filter (fun y => !(y == x)) = l := List.filter_eq_self.2 fun y hy => by
        have : y ≠ x := fun e => h1 (by rw [← e]; exact hy)
        simpa using this
      rw [this]; rfl
    · rw [if_pos (by simpa using e), List.length_cons, List.length_cons, filter_one h2 (by
        rcases List.mem_cons.1 h with h | h
        · exact absurd h.symm e
        · exact h)]
/-- What is refused is nothing. -/
theorem swap_empty {old other : Lk} {e : Er} {g : Gr} (h : swapP ms ls old other = (e, g)) (he : e ≠ none) : g = ([], []) := by
  unfold swapP at h
  cases hs : swapE ms ls old other with
  | some x => rw [hs] at h; cases h; rfl
  | none => rw [hs] at h; exact (done_good h).2 he
theorem join_empty {n a : Int} {e : Er} {g : Gr} (h : joinP ms ls n a = (e, g)) (he : e ≠ none) : g = ([], []) := by
  unfold joinP at h
  cases hs : joinE ms ls n a with
  | some x => rw [hs] at h; cases h; rfl
  | none => rw [hs] at h; exact (done_good h).2 he
theorem leave_empty {n : Int} {e : Er} {g : Gr} (h : leaveP ms ls n = (e, g)) (he : e ≠ none) : g = ([], []) := by
  unfold leaveP at h
  cases hs : leaveE ms ls n with
  | some x => rw [hs] at h; cases h; rfl
  | none => rw [hs] at h; exact (done_good h).2 he
end
end Go.Proofs.YtlkfcfcejicdkaaGreatDoor
