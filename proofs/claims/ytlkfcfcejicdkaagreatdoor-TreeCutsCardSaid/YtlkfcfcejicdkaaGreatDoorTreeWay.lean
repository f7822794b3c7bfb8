/-
  tree: the one way between two members; how it is found, by both. Plain laws. Own work.
-/
import Derived.Test.YtlkfcfcejicdkaaGreatDoorTreeGraph
set_option linter.unusedSimpArgs false
set_option linter.unusedVariables false
namespace Go.Proofs.YtlkfcfcejicdkaaGreatDoor

/-- A way: a walk that never turns about. -/
structure Way (ls : List Lk) (a b : Int) (p : List Int) : Prop where
  wk : Wk ls p
  nb : NB p
  first : p.head? = some a
  last : p.getLast? = some b
theorem nodup_nb : ∀ {l : List Int}, l.Nodup → NB l
  | [], _ => trivial
  | [_], _ => trivial
  | [_, _], _ => trivial
  | x :: y :: z :: l, h => by
    obtain ⟨h1, h2⟩ := List.nodup_cons.1 h
    exact ⟨fun e => h1 (by rw [e]; simp), nodup_nb h2⟩
section
variable {ms : List Int} {ls : List Lk}
theorem Way.cons {a b : Int} {p : List Int} (h : Way ls a b p) : ∃ t, p = a :: t := by
  cases p with
  | nil => have := h.first; simp at this
  | cons x t => exact ⟨t, by have := h.first; simp at this; rw [this]⟩
/-- THERE IS BUT ONE WAY. -/
theorem Way.one (ht : Tr ms ls) : ∀ {p q : List Int} {a b : Int}, Way ls a b p → Way ls a b q → p = q
  | [], _, a, b, h, _ => by have := h.first; simp at this
  | [x], q, a, b, h, k => by
    obtain ⟨t, rfl⟩ := k.cons
    have h1 := h.first
    have h2 := h.last
    simp at h1 h2
    subst h1
    subst h2
    cases t with
    | nil => rfl
    | cons y t =>
      have h3 := ht.simple k.wk k.nb
      have h4 := k.last
      rw [List.getLast?_cons_cons] at h4
      exact absurd (List.mem_of_getLast? h4) (List.nodup_cons.1 h3).1
  | x :: y :: p, q, a, b, h, k => by
    obtain ⟨t, rfl⟩ := k.cons
    have h1 : x = a := by have := h.first; simpa using this
    subst h1
    have h3 := ht.simple h.wk h.nb
    have h5 := h.last
    rw [List.getLast?_cons_cons] at h5
    cases t with
    | nil =>
      have h4 := k.last
      simp at h4
      subst h4
      exact absurd (List.mem_of_getLast? h5) (List.nodup_cons.1 h3).1
    | cons z t =>
      have h6 := k.last
      rw [List.getLast?_cons_cons] at h6
      by_cases hyz : y = z
      · subst hyz
        have hy : Way ls y b (y :: p) := ⟨Wk.tail h.wk, NB.tail h.nb, rfl, h5⟩
        have hz : Way ls y b (y :: t) := ⟨Wk.tail k.wk, NB.tail k.nb, rfl, h6⟩
        rw [Way.one ht hy hz]
      · exfalso
        have k3 := ht.simple k.wk k.nb
        obtain ⟨q, hq, hj⟩ := adj_iff.1 h.wk.1
        have hno : ∀ {l : List Int}, x ∉ l → ∀ n m, adjB ls n m = true → n ∈ l → m ∈ l → joins q n m = false := fun hx n m _ hn hm => by
          rw [Bool.eq_false_iff]
          intro e
          have e1 := joins_iff.1 e
          have e2 := joins_iff.1 hj
          have : x = n ∨ x = m := by omega
          rcases this with rfl | rfl
          · exact hx hn
          · exact hx hm
        have r1 := ring ht (Wk.tail h.wk) (hno (List.nodup_cons.1 h3).1) b (List.mem_of_getLast? h5)
        have r2 := ring ht (Wk.tail k.wk) (hno (List.nodup_cons.1 k3).1) b (List.mem_of_getLast? h6)
        have hxz : joins q x z = false := by
          rw [Bool.eq_false_iff]
          intro e
          have e1 := joins_iff.1 e
          have e2 := joins_iff.1 hj
          have := (ht.irr h.wk.1).1
          omega
        have r3 : Rch (but ls q) x y := ((Rch.step .refl (adj_but k.wk.1 hxz)).trans r2).trans r1.symm
        rcases joins_iff.1 hj with ⟨e1, e2⟩ | ⟨e1, e2⟩
        · exact ht.bridge hq (by rw [e1, e2]; exact r3)
        · exact ht.bridge hq (by rw [e1, e2]; exact r3.symm)
/-- There is one. -/
theorem way_is {a b : Int} (h : Rch ls b a) : ∃ p, Way ls a b p := by
  induction h with
  | refl => exact ⟨[b], trivial, trivial, rfl, rfl⟩
  | @step x c hx ha ih =>
    obtain ⟨p, hp⟩ := ih
    obtain ⟨t, rfl⟩ := hp.cons
    cases t with
    | nil => exact ⟨[c, x], ⟨adj_symm ha, trivial⟩, trivial, rfl, by have := hp.last; simpa using this⟩
    | cons y t =>
      by_cases e : y = c
      · subst e
        exact ⟨y :: t, Wk.tail hp.wk, NB.tail hp.nb, rfl, by have := hp.last; rw [List.getLast?_cons_cons] at this; exact this⟩
      · exact ⟨c :: x :: y :: t, ⟨adj_symm ha, hp.wk⟩, ⟨fun e2 => e e2.symm, hp.nb⟩, rfl, by rw [List.getLast?_cons_cons]; exact hp.last⟩
theorem Way.mem (ht : Tr ms ls) {a b : Int} {p : List Int} (h : Way ls a b p) (ha : a ∈ ms) : ∀ z ∈ p, z ∈ ms := by
  obtain ⟨t, rfl⟩ := h.cons
  cases t with
  | nil =>
    intro z hz
    have e : z = a := by simpa using hz
    rw [e]; exact ha
  | cons y t => exact Wk.members ht h.wk
end

/-- The members' numbers, and a member's neighbours, rising. -/
def ALL : List Int := [0, 1, 2, 3, 4, 5, 6, 7]
theorem all_iff {n : Int} : n ∈ ALL ↔ 0 ≤ n ∧ n < 8 := by simp [ALL]; omega
theorem all_nodup : ALL.Nodup := by decide
def nears (ls : List Lk) (n : Int) : List Int := ALL.filter (adjB ls n)
theorem nears_iff {ls : List Lk} {n m : Int} : m ∈ nears ls n ↔ m ∈ ALL ∧ adjB ls n m = true := List.mem_filter
theorem nears_nodup (ls : List Lk) (n : Int) : (nears ls n).Nodup := all_nodup.filter _

/-- The program's search. -/
def findF (ls : List Lk) (b : Int) : Nat → Int → Int → Option (List Int)
  | 0, _, _ => none
  | f + 1, n, fr => if n = b then some [n] else (nears ls n).findSome? fun m => if m = fr then none else (findF ls b f m n).map (n :: ·)
/-- The document's search. -/
def pathF (ls : List Lk) (b : Int) : Nat → Int → List Int → Option (List Int)
  | 0, _, _ => none
  | f + 1, a, gone => if a = b then some [b] else (nears ls a).findSome? fun n => if n ∈ gone then none else (pathF ls b f n (gone ++ [a])).map (a :: ·)
section
variable {ms : List Int} {ls : List Lk} {b : Int}
theorem find_sound : ∀ {f : Nat} {n fr : Int} {p : List Int}, findF ls b f n fr = some p → Way ls n b p ∧ p.tail.head? ≠ some fr
  | 0, n, fr, p, h => by simp [findF] at h
  | f + 1, n, fr, p, h => by
    rw [findF] at h
    split at h
    · rename_i e
      subst e
      obtain rfl : [n] = p := by simpa using h
      exact ⟨⟨trivial, trivial, rfl, rfl⟩, by simp⟩
    · obtain ⟨m, hm, h2⟩ := List.exists_of_findSome?_eq_some h
      split at h2
      · cases h2
      · rename_i hfr
        rw [Option.map_eq_some_iff] at h2
        obtain ⟨q, hq, rfl⟩ := h2
        obtain ⟨hw, hb⟩ := find_sound hq
        obtain ⟨t, rfl⟩ := hw.cons
        refine ⟨⟨⟨(nears_iff.1 hm).2, hw.wk⟩, ?_, rfl, by rw [List.getLast?_cons_cons]; exact hw.last⟩, by simpa using hfr⟩
        cases t with
        | nil => trivial
        | cons y t => exact ⟨fun e => hb (by simp [e]), hw.nb⟩
theorem findSome_some {α β : Type} {f : α → Option β} {l : List α} {x : α} (hx : x ∈ l) (h : (f x).isSome) : (l.findSome? f).isSome := by
  rw [List.findSome?_isSome_iff]
  exact ⟨x, hx, h⟩
theorem find_complete (hall : ∀ z ∈ ms, z ∈ ALL) (ht : Tr ms ls) : ∀ {f : Nat} {n fr : Int} {t : List Int}, Way ls n b (n :: t) → t.head? ≠ some fr → t.length < f → (findF ls b f n fr).isSome
  | 0, n, fr, t, _, _, hf => by omega
  | f + 1, n, fr, t, h, hfr, hf => by
    rw [findF]
    by_cases e : n = b
    · rw [if_pos e]; rfl
    · rw [if_neg e]
      cases t with
      | nil => have := h.last; simp at this; exact absurd this e
      | cons m t =>
        have hadj := h.wk.1
        refine findSome_some (nears_iff.2 ⟨hall m (ht.irr hadj).2.2, hadj⟩) ?_
        rw [if_neg (fun e => hfr (by simp [e]))]
        have := find_complete hall ht (f := f) (n := m) (fr := n) (t := t) ⟨Wk.tail h.wk, NB.tail h.nb, rfl, by have := h.last; rw [List.getLast?_cons_cons] at this; exact this⟩ (fun e2 => by
          cases t with
          | nil => simp at e2
          | cons y t =>
            have := h.nb.1
            simp at e2
            exact this e2.symm) (by simp at hf; omega)
        simpa using this
theorem path_sound (hirr : ∀ n, adjB ls n n = false) : ∀ {f : Nat} {a : Int} {gone p : List Int}, gone.Nodup → a ∉ gone → pathF ls b f a gone = some p → Wk ls p ∧ p.head? = some a ∧ p.getLast? = some b ∧ p.Nodup ∧ ∀ x ∈ p, x ∉ gone
  | 0, a, gone, p, _, _, h => by simp [pathF] at h
  | f + 1, a, gone, p, hg, ha, h => by
    rw [pathF] at h
    split at h
    · rename_i e
      subst e
      obtain rfl : [a] = p := by simpa using h
      refine ⟨trivial, rfl, rfl, by simp, fun x hx => ?_⟩
      have e : x = a := by simpa using hx
      rw [e]; exact ha
    · obtain ⟨m, hm, h2⟩ := List.exists_of_findSome?_eq_some h
      split at h2
      · cases h2
      · rename_i hmg
        rw [Option.map_eq_some_iff] at h2
        obtain ⟨q, hq, rfl⟩ := h2
        by_cases hma : m = a
        · rw [hma] at hm
          have := (nears_iff.1 hm).2
          rw [hirr] at this
          cases this
        · obtain ⟨h3, h4, h5, h6, h7⟩ := path_sound hirr (gone := gone ++ [a]) (List.nodup_append.2 ⟨hg, by simp, fun x hx y hy e => by
            obtain rfl : y = a := by simpa using hy
            subst e
            exact ha hx⟩) (by simp [hmg, hma]) hq
          cases q with
          | nil => simp at h4
          | cons y t =>
            obtain rfl : y = m := by simpa using h4
            refine ⟨⟨(nears_iff.1 hm).2, h3⟩, rfl, by rw [List.getLast?_cons_cons]; exact h5, List.nodup_cons.2 ⟨fun hx => h7 a hx (by simp), h6⟩, fun x hx => ?_⟩
            rcases List.mem_cons.1 hx with rfl | hx
            · exact ha
            · exact fun e => h7 x hx (by simp [e])
theorem path_complete (hall : ∀ z ∈ ms, z ∈ ALL) (ht : Tr ms ls) : ∀ {f : Nat} {a : Int} {gone t : List Int}, Wk ls (a :: t) → (a :: t).getLast? = some b → (a :: t).Nodup → (∀ x ∈ a :: t, x ∉ gone) → t.length < f → (pathF ls b f a gone).isSome
  | 0, a, gone, t, _, _, _, _, hf => by omega
  | f + 1, a, gone, t, hw, hl, hn, hg, hf => by
    rw [pathF]
    by_cases e : a = b
    · rw [if_pos e]; rfl
    · rw [if_neg e]
      cases t with
      | nil => simp at hl; exact absurd hl e
      | cons m t =>
        have hadj := hw.1
        refine findSome_some (nears_iff.2 ⟨hall m (ht.irr hadj).2.2, hadj⟩) ?_
        rw [if_neg (hg m (by simp))]
        obtain ⟨h1, h2⟩ := List.nodup_cons.1 hn
        have := path_complete hall ht (f := f) (a := m) (gone := gone ++ [a]) (t := t) hw.2 (by rw [List.getLast?_cons_cons] at hl; exact hl) h2 (fun x hx hm => by
          rcases List.mem_append.1 hm with h | h
          · exact hg x (List.mem_cons_of_mem _ hx) h
          · obtain rfl : x = a := by simpa using h
            exact h1 hx) (by simp at hf; omega)
        simpa using this
theorem Tr.noself (ht : Tr ms ls) (n : Int) : adjB ls n n = false := by
  rw [Bool.eq_false_iff]
  intro h
  exact (ht.irr h).1 rfl
theorem all_le (hall : ∀ z ∈ ms, z ∈ ALL) {p : List Int} (hn : p.Nodup) (hp : ∀ z ∈ p, z ∈ ms) : p.length ≤ 8 :=
  nodup_le hn fun z hz => hall z (hp z hz)
/-- BOTH FIND THE ONE WAY. -/
theorem find_way (hall : ∀ z ∈ ms, z ∈ ALL) (ht : Tr ms ls) {a b : Int} (ha : a ∈ ms) (hb : b ∈ ms) {f : Nat} (hf : 8 ≤ f) : ∃ p, findF ls b f a (-1) = some p ∧ Way ls a b p := by
  obtain ⟨p, hp⟩ := way_is (ht.reach b hb a ha)
  have hs := ht.simple hp.wk hp.nb
  have hl := all_le hall hs (hp.mem ht ha)
  obtain ⟨t, rfl⟩ := hp.cons
  have h1 := find_complete hall ht (f := f) (n := a) (fr := -1) (t := t) hp (fun e => by
    cases t with
    | nil => simp at e
    | cons y t =>
      have h2 := all_iff.1 (hall y (hp.mem ht ha y (by simp)))
      simp at e
      omega) (by simp at hl; omega)
  obtain ⟨q, hq⟩ := Option.isSome_iff_exists.1 h1
  exact ⟨q, hq, (find_sound hq).1⟩
theorem path_way (hall : ∀ z ∈ ms, z ∈ ALL) (ht : Tr ms ls) {a b : Int} (ha : a ∈ ms) (hb : b ∈ ms) {f : Nat} (hf : 8 ≤ f) : ∃ p, pathF ls b f a [] = some p ∧ Way ls a b p := by
  obtain ⟨p, hp⟩ := way_is (ht.reach b hb a ha)
  have hs := ht.simple hp.wk hp.nb
  have hl := all_le hall hs (hp.mem ht ha)
  obtain ⟨t, rfl⟩ := hp.cons
  have h1 := path_complete hall ht (f := f) (a := a) (gone := []) (t := t) hp.wk hp.last hs (fun x _ h => by cases h) (by simp at hl; omega)
  obtain ⟨q, hq⟩ := Option.isSome_iff_exists.1 h1
  obtain ⟨h2, h3, h4, h5, _⟩ := path_sound (ht.noself) List.nodup_nil (by simp) hq
  exact ⟨q, hq, ⟨h2, nodup_nb h5, h3, h4⟩⟩
theorem ways_same (hall : ∀ z ∈ ms, z ∈ ALL) (ht : Tr ms ls) {a b : Int} (ha : a ∈ ms) (hb : b ∈ ms) {f g : Nat} (hf : 8 ≤ f) (hg : 8 ≤ g) : ∃ p, findF ls b f a (-1) = some p ∧ pathF ls b g a [] = some p ∧ Way ls a b p := by
  obtain ⟨p, hp, h1⟩ := find_way hall ht ha hb hf
  obtain ⟨q, hq, h2⟩ := path_way hall ht ha hb hg
  rw [h2.one ht h1] at hq
  exact ⟨p, hp, hq, h1⟩
end
end Go.Proofs.YtlkfcfcejicdkaaGreatDoor
