/-
  tree: graphs with few links: what is reached, bridges, ways. Plain laws. Own work.
-/
import Init
set_option linter.unusedSimpArgs false
set_option linter.unusedVariables false
namespace Go.Proofs.YtlkfcfcejicdkaaGreatDoor

/-- A link: its two ends. -/
abbrev Lk := Int × Int
/-- Does a link join the two? -/
def joins (k : Lk) (n m : Int) : Bool := (k.1 == n && k.2 == m) || (k.1 == m && k.2 == n)
theorem joins_iff {k : Lk} {n m : Int} : joins k n m = true ↔ (k.1 = n ∧ k.2 = m) ∨ (k.1 = m ∧ k.2 = n) := by simp [joins]
def adjB (ls : List Lk) (n m : Int) : Bool := ls.any fun k => joins k n m
theorem adj_iff {ls : List Lk} {n m : Int} : adjB ls n m = true ↔ ∃ k ∈ ls, joins k n m = true := by simp [adjB]
theorem adj_symm {ls : List Lk} {n m : Int} (h : adjB ls n m = true) : adjB ls m n = true := by
  obtain ⟨k, hk, h⟩ := adj_iff.1 h
  exact adj_iff.2 ⟨k, hk, joins_iff.2 (by have := joins_iff.1 h; omega)⟩
/-- What is reached over links. -/
inductive Rch (ls : List Lk) (a : Int) : Int → Prop
  | refl : Rch ls a a
  | step {b c : Int} : Rch ls a b → adjB ls b c = true → Rch ls a c
theorem Rch.trans {ls : List Lk} {a b c : Int} (h : Rch ls a b) (k : Rch ls b c) : Rch ls a c := by
  induction k with
  | refl => exact h
  | step _ h2 ih => exact ih.step h2
theorem Rch.symm {ls : List Lk} {a b : Int} (h : Rch ls a b) : Rch ls b a := by
  induction h with
  | refl => exact .refl
  | step _ h2 ih => exact (Rch.step .refl (adj_symm h2)).trans ih
theorem Rch.closed {ls : List Lk} {a b : Int} {S : List Int} (h : Rch ls a b) (ha : a ∈ S) (hc : ∀ x ∈ S, ∀ y, adjB ls x y = true → y ∈ S) : b ∈ S := by
  induction h with
  | refl => exact ha
  | step _ h2 ih => exact hc _ ih _ h2
theorem Rch.mono {ls ls' : List Lk} {a b : Int} (h : Rch ls a b) (hs : ∀ n m, adjB ls n m = true → Rch ls' n m) : Rch ls' a b := by
  induction h with
  | refl => exact .refl
  | step _ h2 ih => exact ih.trans (hs _ _ h2)

theorem nodup_le {α : Type} [DecidableEq α] : ∀ {l m : List α}, l.Nodup → (∀ x ∈ l, x ∈ m) → l.length ≤ m.length
  | [], _, _, _ => Nat.zero_le _
  | x :: l, m, h, hs => by
    obtain ⟨h1, h2⟩ := List.nodup_cons.1 h
    have h3 := nodup_le (l := l) (m := m.erase x) h2 fun y hy => (List.mem_erase_of_ne (fun e => h1 (by rw [← e]; exact hy))).2 (hs y (by simp [hy]))
    have h4 : x ∈ m := hs x (by simp)
    have h5 := List.length_erase_of_mem h4
    have h6 := List.length_pos_of_mem h4
    rw [List.length_cons]; omega

/-- A set that grows from one member on, a link each time. -/
inductive Grows (ls : List Lk) (r : Int) : List Int → List Lk → Prop
  | base : Grows ls r [r] []
  | add {S : List Int} {E : List Lk} {k : Lk} {x y : Int} : Grows ls r S E → k ∈ ls → joins k x y = true → x ∈ S → y ∉ S → Grows ls r (y :: S) (k :: E)
theorem Grows.facts {ls : List Lk} {r : Int} {S : List Int} {E : List Lk} (h : Grows ls r S E) : r ∈ S ∧ S.Nodup ∧ E.Nodup ∧ S.length = E.length + 1 ∧ (∀ k ∈ E, k ∈ ls ∧ k.1 ∈ S ∧ k.2 ∈ S) ∧ ∀ x ∈ S, Rch ls r x := by
  induction h with
  | base => exact ⟨by simp, by simp, by simp, rfl, fun k hk => (by cases hk), fun x hx => by obtain rfl : x = r := by simpa using hx
                                                                                             exact .refl⟩
  | @add S E k x y hg hk hj hx hy ih =>
    obtain ⟨h1, h2, h3, h4, h5, h6⟩ := ih
    have hj' := joins_iff.1 hj
    refine ⟨by simp [h1], List.nodup_cons.2 ⟨hy, h2⟩, List.nodup_cons.2 ⟨fun hm => ?_, h3⟩, by simp [h4], fun q hq => ?_, fun z hz => ?_⟩
    · obtain ⟨_, h7, h8⟩ := h5 k hm
      rcases hj' with ⟨e1, e2⟩ | ⟨e1, e2⟩
      · exact hy (by rw [← e2]; exact h8)
      · exact hy (by rw [← e1]; exact h7)
    · rcases List.mem_cons.1 hq with rfl | hq
      · rcases hj' with ⟨e1, e2⟩ | ⟨e1, e2⟩
        · exact ⟨hk, by rw [e1]; simp [hx], by rw [e2]; simp⟩
        · exact ⟨hk, by rw [e1]; simp, by rw [e2]; simp [hx]⟩
      · obtain ⟨h7, h8, h9⟩ := h5 q hq
        exact ⟨h7, by simp [h8], by simp [h9]⟩
    · rcases List.mem_cons.1 hz with rfl | hz
      · exact (h6 x hx).step (adj_iff.2 ⟨k, hk, hj⟩)
      · exact h6 z hz
theorem Grows.le {ls : List Lk} {r : Int} {S : List Int} {E : List Lk} (h : Grows ls r S E) : S.length ≤ ls.length + 1 := by
  obtain ⟨_, _, h3, h4, h5, _⟩ := h.facts
  have := nodup_le h3 fun k hk => (h5 k hk).1
  omega
/-- It grows till it is closed. -/
theorem Grows.whole (ls : List Lk) (r : Int) : ∀ (f : Nat) (S : List Int) (E : List Lk), Grows ls r S E → ls.length + 2 ≤ f + S.length → ∃ S E, Grows ls r S E ∧ ∀ x ∈ S, ∀ y, adjB ls x y = true → y ∈ S
  | 0, S, E, h, hf => by have := h.le; omega
  | f + 1, S, E, h, hf => by
    by_cases hc : ∀ x ∈ S, ∀ y, adjB ls x y = true → y ∈ S
    · exact ⟨S, E, h, hc⟩
    · have : ∃ x ∈ S, ∃ y, adjB ls x y = true ∧ y ∉ S := by
        refine Classical.byContradiction fun hn => hc fun x hx y hy => Classical.byContradiction fun hm => hn ⟨x, hx, y, hy, hm⟩
      obtain ⟨x, hx, y, hy, hm⟩ := this
      obtain ⟨k, hk, hj⟩ := adj_iff.1 hy
      exact Grows.whole ls r f _ _ (h.add hk hj hx hm) (by simp; omega)
/-- THE COUNT: what is reached is at most one more than the links. -/
theorem reach_le {ls : List Lk} {r : Int} {R : List Int} (hn : R.Nodup) (hr : ∀ x ∈ R, Rch ls r x) : R.length ≤ ls.length + 1 := by
  obtain ⟨S, E, h, hc⟩ := Grows.whole ls r (ls.length + 2) _ _ .base (by omega)
  exact Nat.le_trans (nodup_le hn fun x hx => (hr x hx).closed h.facts.1 hc) h.le

/-- Links but for one. -/
def but (ls : List Lk) (k : Lk) : List Lk := ls.filter fun x => !(x == k)
theorem but_len {ls : List Lk} {k : Lk} (hn : ls.Nodup) (hk : k ∈ ls) : (but ls k).length + 1 = ls.length := by
  induction ls with
  | nil => cases hk
  | cons x l ih =>
    obtain ⟨h1, h2⟩ := List.nodup_cons.1 hn
    unfold but at *
    rw [List.filter_cons]
    by_cases e : x = k
    · subst e
      rw [if_neg (by simp)]
      have : l.filter (fun y => !(y == x)) = l := List.filter_eq_self.2 fun y hy => by
        have : y ≠ x := fun e => h1 (by rw [← e]; exact hy)
        simpa using this
      rw [this]; rfl
    · rw [if_pos (by simpa using e), List.length_cons, List.length_cons, ih h2 (by
        rcases List.mem_cons.1 hk with h | h
        · exact absurd h.symm e
        · exact h)]
theorem adj_but {ls : List Lk} {k : Lk} {n m : Int} (h : adjB ls n m = true) (hk : joins k n m = false) : adjB (but ls k) n m = true := by
  obtain ⟨q, hq, hj⟩ := adj_iff.1 h
  refine adj_iff.2 ⟨q, List.mem_filter.2 ⟨hq, ?_⟩, hj⟩
  have : q ≠ k := fun e => by rw [e, hk] at hj; cases hj
  simpa using this
theorem adj_of_but {ls : List Lk} {k : Lk} {n m : Int} (h : adjB (but ls k) n m = true) : adjB ls n m = true := by
  obtain ⟨q, hq, hj⟩ := adj_iff.1 h
  exact adj_iff.2 ⟨q, (List.mem_filter.1 hq).1, hj⟩

/-- A tree: as many links as members less one, all members reached, no link twice, none from a member to itself. -/
structure Tr (ms : List Int) (ls : List Lk) : Prop where
  nodup : ms.Nodup
  lnodup : ls.Nodup
  ends : ∀ k ∈ ls, k.1 < k.2 ∧ k.1 ∈ ms ∧ k.2 ∈ ms
  len : ls.length + 1 = ms.length
  reach : ∀ a ∈ ms, ∀ b ∈ ms, Rch ls a b
section
variable {ms : List Int} {ls : List Lk}
theorem Tr.irr (h : Tr ms ls) {n m : Int} (ha : adjB ls n m = true) : n ≠ m ∧ n ∈ ms ∧ m ∈ ms := by
  obtain ⟨k, hk, hj⟩ := adj_iff.1 ha
  have h1 := h.ends k hk
  rcases joins_iff.1 hj with ⟨e1, e2⟩ | ⟨e1, e2⟩
  · exact ⟨by omega, by rw [← e1]; exact h1.2.1, by rw [← e2]; exact h1.2.2⟩
  · exact ⟨by omega, by rw [← e2]; exact h1.2.2, by rw [← e1]; exact h1.2.1⟩
/-- A LINK IS A BRIDGE. -/
theorem Tr.bridge (h : Tr ms ls) {k : Lk} (hk : k ∈ ls) : ¬ Rch (but ls k) k.1 k.2 := fun hr => by
  have h1 : ∀ n m, adjB ls n m = true → Rch (but ls k) n m := fun n m ha => by
    cases hj : joins k n m with
    | false => exact .step .refl (adj_but ha hj)
    | true =>
      rcases joins_iff.1 hj with ⟨e1, e2⟩ | ⟨e1, e2⟩
      · rw [← e1, ← e2]; exact hr
      · rw [← e1, ← e2]; exact hr.symm
  have hm := (h.ends k hk).2.1
  have h2 := reach_le (ls := but ls k) (r := k.1) h.nodup fun x hx => (h.reach _ hm x hx).mono h1
  have h3 := but_len h.lnodup hk
  have h4 := h.len
  omega
/-- Each member lies on one side of a link. -/
theorem Tr.sides (h : Tr ms ls) {k : Lk} (hk : k ∈ ls) {x : Int} (hx : x ∈ ms) : Rch (but ls k) k.1 x ∨ Rch (but ls k) k.2 x := by
  have := h.reach _ (h.ends k hk).2.1 x hx
  induction this with
  | refl => exact .inl .refl
  | @step b c hb ha ih =>
    have hbm := (h.irr ha).2.1
    cases hj : joins k b c with
    | false =>
      rcases ih hbm with h1 | h1
      · exact .inl (h1.step (adj_but ha hj))
      · exact .inr (h1.step (adj_but ha hj))
    | true =>
      rcases joins_iff.1 hj with ⟨e1, e2⟩ | ⟨e1, e2⟩
      · rw [← e2]; exact .inr .refl
      · rw [← e1]; exact .inl .refl
end

/-- A walk along links. -/
def Wk (ls : List Lk) : List Int → Prop
  | [] => True
  | [_] => True
  | x :: y :: l => adjB ls x y = true ∧ Wk ls (y :: l)
/-- It never turns about. -/
def NB : List Int → Prop
  | x :: y :: z :: l => x ≠ z ∧ NB (y :: z :: l)
  | _ => True
theorem Wk.tail {ls : List Lk} {x : Int} {l : List Int} (h : Wk ls (x :: l)) : Wk ls l := by
  cases l with
  | nil => trivial
  | cons y l => exact h.2
theorem NB.tail {x : Int} {l : List Int} (h : NB (x :: l)) : NB l := by
  match l, h with
  | [], _ => trivial
  | [_], _ => trivial
  | _ :: _ :: _, h => exact h.2
theorem Wk.right {ls : List Lk} {l m : List Int} (h : Wk ls (l ++ m)) : Wk ls m := by
  induction l with
  | nil => exact h
  | cons x l ih => exact ih (Wk.tail h)
theorem NB.right {l m : List Int} (h : NB (l ++ m)) : NB m := by
  induction l with
  | nil => exact h
  | cons x l ih => exact ih (NB.tail h)
/-- Along a walk that takes no link k all is reached without it. -/
theorem Wk.rch {ls : List Lk} : ∀ {l : List Int} {x y : Int}, Wk ls (x :: l) → (x :: l).getLast? = some y → Rch ls x y
  | [], x, y, _, h => by
    obtain rfl : x = y := by simpa using h
    exact .refl
  | z :: l, x, y, h, hl => (Rch.step .refl h.1).trans (Wk.rch h.2 (by simpa [List.getLast?_cons_cons] using hl))
theorem Wk.members {ms : List Int} {ls : List Lk} (ht : Tr ms ls) : ∀ {l : List Int} {x y : Int}, Wk ls (x :: y :: l) → ∀ z ∈ x :: y :: l, z ∈ ms
  | [], x, y, h, z, hz => by
    have := ht.irr h.1
    rcases List.mem_cons.1 hz with rfl | hz
    · exact this.2.1
    · obtain rfl : z = y := by simpa using hz
      exact this.2.2
  | w :: l, x, y, h, z, hz => by
    rcases List.mem_cons.1 hz with rfl | hz
    · exact (ht.irr h.1).2.1
    · exact Wk.members ht h.2 z hz
/-- A walk away from x, whose links are none of x's, but for one to another neighbour: it would close a ring. -/
theorem ring {ms : List Int} {ls : List Lk} (ht : Tr ms ls) {k : Lk} : ∀ {l : List Int} {y : Int}, Wk ls (y :: l) → (∀ n m, adjB ls n m = true → n ∈ y :: l → m ∈ y :: l → joins k n m = false) → ∀ z ∈ y :: l, Rch (but ls k) y z
  | [], y, _, _, z, hz => by
    obtain rfl : z = y := by simpa using hz
    exact .refl
  | w :: l, y, h, hno, z, hz => by
    rcases List.mem_cons.1 hz with rfl | hz
    · exact .refl
    · exact (Rch.step .refl (adj_but h.1 (hno _ _ h.1 (by simp) (by simp)))).trans (ring ht h.2 (fun n m ha hn hm => hno n m ha (by simp [List.mem_cons.1 hn]) (by simp [List.mem_cons.1 hm])) z hz)
/-- IN A TREE A WALK THAT NEVER TURNS ABOUT COMES NOWHERE TWICE. -/
theorem Tr.simple {ms : List Int} {ls : List Lk} (ht : Tr ms ls) : ∀ {l : List Int}, Wk ls l → NB l → l.Nodup
  | [], _, _ => List.nodup_nil
  | x :: l, hw, hb => by
    have ih := ht.simple (Wk.tail hw) (NB.tail hb)
    refine List.nodup_cons.2 ⟨fun hx => ?_, ih⟩
    obtain ⟨pre, post, rfl⟩ := List.append_of_mem hx
    match pre, hw, hb, ih with
    | [], hw, _, _ => exact (ht.irr hw.1).1 rfl
    | [y], _, hb, _ => exact hb.1 rfl
    | y :: z :: pre, hw, hb, ih =>
      obtain ⟨k, hk, hj⟩ := adj_iff.1 hw.1
      -- the walk from y to the last one ahead of x, and its step to x
      obtain ⟨u, hu⟩ : ∃ u, (y :: z :: pre).getLast? = some u := ⟨_, List.getLast?_eq_some_getLast (by simp)⟩
      have hup : u ∈ z :: pre := by
        rw [List.getLast?_cons_cons] at hu
        exact List.mem_of_getLast? hu
      have hnd := List.nodup_append.1 ih
      have hxp : x ∉ y :: z :: pre := fun h => hnd.2.2 x h x (by simp) rfl
      have hyu : y ≠ u := fun e => (List.nodup_cons.1 hnd.1).1 (by rw [e]; exact hup)
      have hno : ∀ n m, adjB ls n m = true → n ∈ y :: z :: pre → m ∈ y :: z :: pre → joins k n m = false := fun n m ha hn hm => by
        rw [Bool.eq_false_iff]
        intro h
        have h1 := joins_iff.1 h
        have h2 := joins_iff.1 hj
        have e : x = n ∨ x = m := by omega
        rcases e with rfl | rfl
        · exact hxp hn
        · exact hxp hm
      have hwl : ∀ {l m : List Int}, Wk ls (l ++ m) → Wk ls l := by
        intro l
        induction l with
        | nil => intro _ _; trivial
        | cons a l ih =>
          intro m h
          cases l with
          | nil => trivial
          | cons b l => exact ⟨h.1, ih h.2⟩
      have hw2 : Wk ls ((y :: z :: pre) ++ x :: post) := hw.2
      have h1 := ring ht (hwl hw2) hno u (by simp [List.mem_cons.1 hup])
      -- the step from u to x
      have hux : adjB ls u x = true := by
        have key : ∀ (l : List Int), Wk ls (l ++ x :: post) → l.getLast? = some u → adjB ls u x = true := by
          intro l
          induction l with
          | nil => intro _ h; simp at h
          | cons a l ih =>
            intro h hl
            cases l with
            | nil =>
              obtain rfl : a = u := by simpa using hl
              exact h.1
            | cons b l => exact ih h.2 (by rw [List.getLast?_cons_cons] at hl; exact hl)
        exact key _ hw2 hu
      have hkx : joins k u x = false := by
        rw [Bool.eq_false_iff]
        intro h
        have h1 := joins_iff.1 h
        have h2 := joins_iff.1 hj
        have hxy := (ht.irr hw.1).1
        omega
      have h2 : Rch (but ls k) y x := h1.step (adj_but hux hkx)
      rcases joins_iff.1 hj with ⟨e1, e2⟩ | ⟨e1, e2⟩
      · exact ht.bridge hk (by rw [e1, e2]; exact h2.symm)
      · exact ht.bridge hk (by rw [e1, e2]; exact h2)
end Go.Proofs.YtlkfcfcejicdkaaGreatDoor
