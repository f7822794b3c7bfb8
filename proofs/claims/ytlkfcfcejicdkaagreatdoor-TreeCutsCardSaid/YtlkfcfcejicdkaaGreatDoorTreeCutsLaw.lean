/-
  tree: what TreeCuts asks, in plain Lean. Own work.
-/
import Derived.Test.YtlkfcfcejicdkaaGreatDoorTreeLate
set_option linter.unusedSimpArgs false
set_option linter.unusedVariables false
namespace Go.Proofs.YtlkfcfcejicdkaaGreatDoor
open Go Go.RowKit

section
variable {ms : List Int} {ls : List Lk}
theorem members_of (h : Good ms ls) {l : List Int} (hl : ∀ x ∈ l, x ∈ ms) : membersE ms ls l = none := by
  unfold membersE
  rw [good_chk h]
  simp only
  rw [if_neg]
  rintro ⟨x, hx, hn⟩
  exact hn (hl x hx)
/-- Both ways at once: refused both, or the one is the other turned. -/
theorem way_two (a b : Int) : (∃ e1 e2, wayP ms ls a b = (some e1, []) ∧ wayP ms ls b a = (some e2, [])) ∨ ∃ p, wayP ms ls a b = (none, p) ∧ wayP ms ls b a = (none, p.reverse) ∧ Good ms ls ∧ Way ls a b p ∧ p.length ≤ 8 := by
  cases hc : membersE ms ls [a, b] with
  | some e1 =>
    cases hd : membersE ms ls [b, a] with
    | some e2 => exact .inl ⟨e1, e2, by unfold wayP; rw [hc], by unfold wayP; rw [hd]⟩
    | none =>
      obtain ⟨hg, hm⟩ := members_good hd
      have := members_of hg (l := [a, b]) (fun x hx => hm x (by simp at hx ⊢; omega))
      rw [hc] at this
      cases this
  | none =>
    obtain ⟨hg, hm⟩ := members_good hc
    have hd := members_of hg (l := [b, a]) (fun x hx => hm x (by simp at hx ⊢; omega))
    have ha := hm a (by simp)
    have hb := hm b (by simp)
    obtain ⟨p, hp1, _, hp⟩ := ways_same hg.ms_.2 hg.tr ha hb (f := 9) (g := 9) (by omega) (by omega)
    obtain ⟨q, hq1, _, hq⟩ := ways_same hg.ms_.2 hg.tr hb ha (f := 9) (g := 9) (by omega) (by omega)
    have e : q = p.reverse := hq.one hg.tr (hp.back hg.tr)
    refine .inr ⟨p, ?_, ?_, hg, hp, ?_⟩
    · unfold wayP; rw [hc, hp1]; rfl
    · unfold wayP; rw [hd, hq1, ← e]; rfl
    · have h1 := hg.tr.simple hp.wk hp.nb
      exact nodup_le h1 fun z hz => hg.ms_.2 z (hp.mem hg.tr ha z hz)
theorem way_of (h : Good ms ls) {a b : Int} {p : List Int} (hp : Way ls a b p) {i : Nat} {x y : Int} (hx : p[i]? = some x) (hy : p[i + 1]? = some y) : ofL x y ∈ ls := by
  have hi : i + 1 < p.length := (List.getElem?_eq_some_iff.1 hy).1
  have hadj := wk_at hp.wk i hi
  rw [show p[i] = x from (List.getElem?_eq_some_iff.1 hx).2, show p[i + 1] = y from (List.getElem?_eq_some_iff.1 hy).2] at hadj
  obtain ⟨k, hk, hj⟩ := adj_iff.1 hadj
  rw [of_joins (h.tr.ends k hk).1 hj]
  exact hk
theorem rev_at {p : List Int} {i : Nat} {x : Int} (hx : p[i]? = some x) : p.reverse[p.length - 1 - i]? = some x := by
  have hi : i < p.length := (List.getElem?_eq_some_iff.1 hx).1
  rw [List.getElem?_reverse (by omega), show p.length - 1 - (p.length - 1 - i) = i by omega]
  exact hx
theorem side_two (h : Good ms ls) {k : Lk} (hk : k ∈ ls) : sideP ms ls k.1 k.2 = (none, sideS ls k.1 k.2) ∧ sideP ms ls k.2 k.1 = (none, sideS ls k.2 k.1) ∧ (sideS ls k.1 k.2).length + (sideS ls k.2 k.1).length = ms.length ∧ k.1 ∈ sideS ls k.1 k.2 ∧ k.2 ∈ sideS ls k.2 k.1 ∧ (sideS ls k.1 k.2).length ≤ 8 ∧ (sideS ls k.2 k.1).length ≤ 8 := by
  have he := h.tr.ends k hk
  have h1 := of_self he.1
  have h2 := of_self' he.1
  refine ⟨?_, ?_, sides_len h hk, side_has h (by rw [h1]; exact hk), side_has h (by rw [h2]; exact hk), List.length_filter_le _ _, List.length_filter_le _ _⟩
  · unfold sideP
    rw [members_of h (fun x hx => by simp at hx; rcases hx with rfl | rfl; exact he.2.1; exact he.2.2)]
    simp only
    rw [if_pos (by rw [h1]; exact hk)]
  · unfold sideP
    rw [members_of h (fun x hx => by simp at hx; rcases hx with rfl | rfl; exact he.2.2; exact he.2.1)]
    simp only
    rw [if_pos (by rw [h2]; exact hk)]
theorem over_snoc (k : Lk) : ∀ (l : List Int) (x y : Int), overB k (l ++ [x] ++ [y]) = (overB k (l ++ [x]) || (ofL x y == k))
  | [], x, y => by simp [overB]
  | [z], x, y => by simp [overB]
  | z :: u :: l, x, y => by
    have := over_snoc k (u :: l) x y
    simp only [List.cons_append] at this ⊢
    unfold overB
    rw [this, Bool.or_assoc]
/-- One step of the search for a link on the way. -/
theorem over_step {k : Lk} {p : List Int} {i : Nat} {x y : Int} (hx : p[i]? = some x) (hy : p[i + 1]? = some y) : overB k (p.take (i + 1 + 1)) = (overB k (p.take (i + 1)) || (ofL x y == k)) := by
  rw [take_snoc hy, take_snoc hx]
  exact over_snoc k _ x y
end
end Go.Proofs.YtlkfcfcejicdkaaGreatDoor
