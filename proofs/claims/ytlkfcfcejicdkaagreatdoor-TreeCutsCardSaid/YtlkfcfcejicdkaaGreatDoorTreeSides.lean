/-
  tree: the two sides of a link, and the ways over it. Plain laws. Own work.
-/
import Derived.Test.YtlkfcfcejicdkaaGreatDoorTreeOps
set_option linter.unusedSimpArgs false
set_option linter.unusedVariables false
namespace Go.Proofs.YtlkfcfcejicdkaaGreatDoor

/-- What lies on a's side of the link to b. -/
def sideS (ls : List Lk) (a b : Int) : List Int := inOrder (visitF ls 9 [] a b)
section
variable {ms : List Int} {ls : List Lk}
theorem side_visit (h : Good ms ls) {a b : Int} (hk : ofL a b ∈ ls) {f : Nat} (hf : 9 ≤ f) : (visitF ls f [] a b).Nodup ∧ (∀ x ∈ visitF ls f [] a b, x ∈ ALL) ∧ ∀ x, x ∈ visitF ls f [] a b ↔ Rch (but ls (ofL a b)) a x := by
  have hab := h.ls_.2 _ hk
  have hne : a ≠ b := fun e => by
    subst e
    unfold ofL at hab
    simp only at hab
    omega
  have ham : a ∈ ms := (h.ls_.adj_all h.ms_ a b ((adj_of h.ls_).2 hk)).2.2.2
  have hj : ∀ n m, joins (ofL a b) n m = true → (n = a ∧ m = b) ∨ (n = b ∧ m = a) := fun n m e => by
    have := joins_iff.1 e
    unfold ofL at this
    simp only at this
    omega
  refine visit_all (ls' := but ls (ofL a b)) (fun n m e => (h.ls_.adj_all h.ms_ n m e).1) (fun n m h1 h2 e => adj_but e ?_) b (fun m h1 e => adj_but e ?_) (fun n m e => adj_of_but e) ?_ (h.ms_.2 a ham) hf
  · rw [Bool.eq_false_iff]; intro e
    have := hj n m e
    omega
  · rw [Bool.eq_false_iff]; intro e
    have := hj a m e
    omega
  · rw [Bool.eq_false_iff]; intro e
    obtain ⟨q, hq, hj2⟩ := adj_iff.1 e
    have h3 := but_mem.1 hq
    exact h3.2 (of_joins (h.ls_.2 q h3.1).1 hj2).symm
theorem side_iff (h : Good ms ls) {a b : Int} (hk : ofL a b ∈ ls) (x : Int) : x ∈ sideS ls a b ↔ Rch (but ls (ofL a b)) a x := by
  obtain ⟨h1, h2, h3⟩ := side_visit h hk (Nat.le_refl 9)
  unfold sideS
  rw [inOrder_iff h2, h3]
theorem side_ms (h : Good ms ls) {a b : Int} (hk : ofL a b ∈ ls) {x : Int} (hx : x ∈ sideS ls a b) : x ∈ ms := by
  have h1 := (side_iff h hk x).1 hx
  have ham : a ∈ ms := (h.ls_.adj_all h.ms_ a b ((adj_of h.ls_).2 hk)).2.2.2
  exact rch_ms h.ms_ h.ls_ ham (h1.mono fun n m e => .step .refl (adj_of_but e))
/-- Any list of what is reached without the link is that side. -/
theorem side_of (h : Good ms ls) {a b : Int} (hk : ofL a b ∈ ls) {S : List Int} (hS : ∀ x, x ∈ S ↔ Rch (but ls (ofL a b)) a x) : inOrder S = sideS ls a b := by
  obtain ⟨h1, h2, h3⟩ := side_visit h hk (Nat.le_refl 9)
  exact inOrder_same (fun x hx => h2 x ((h3 x).2 ((hS x).1 hx))) h2 fun x => by rw [hS, h3]
theorem of_self {k : Lk} (h : k.1 < k.2) : ofL k.1 k.2 = k := of_joins h (joins_iff.2 (.inl ⟨rfl, rfl⟩))
theorem of_self' {k : Lk} (h : k.1 < k.2) : ofL k.2 k.1 = k := by rw [ofL_comm]; exact of_self h
/-- A link cuts the members in two. -/
theorem sides_len (h : Good ms ls) {k : Lk} (hk : k ∈ ls) : (sideS ls k.1 k.2).length + (sideS ls k.2 k.1).length = ms.length := by
  have hlt := (h.ls_.2 k hk).1
  have h1 : ofL k.1 k.2 ∈ ls := by rw [of_self hlt]; exact hk
  have h2 : ofL k.2 k.1 ∈ ls := by rw [of_self' hlt]; exact hk
  have e1 := side_iff h h1
  have e2 := side_iff h h2
  rw [of_self hlt] at e1
  rw [of_self' hlt] at e2
  rw [← List.length_append]
  refine ((List.perm_ext_iff_of_nodup (List.nodup_append.2 ⟨inOrder_nodup _, inOrder_nodup _, fun x hx y hy e => ?_⟩) h.tr.nodup).2 fun x => ?_).length_eq
  · subst e
    exact h.tr.bridge hk (((e1 x).1 hx).trans ((e2 x).1 hy).symm)
  · rw [List.mem_append]
    constructor
    · rintro (hx | hx)
      · exact side_ms h h1 hx
      · exact side_ms h h2 hx
    · intro hx
      show x ∈ sideS ls k.1 k.2 ∨ x ∈ sideS ls k.2 k.1
      rw [e1, e2]
      exact h.tr.sides hk hx
theorem side_has (h : Good ms ls) {a b : Int} (hk : ofL a b ∈ ls) : a ∈ sideS ls a b := (side_iff h hk a).2 .refl

theorem wk_snoc : ∀ {l : List Int} {x y : Int}, Wk ls l → l.getLast? = some x → adjB ls x y = true → Wk ls (l ++ [y])
  | [], x, y, _, h, _ => by simp at h
  | [z], x, y, _, h, ha => by
    have e : z = x := by simpa using h
    subst e
    exact ⟨ha, trivial⟩
  | z :: w :: l, x, y, hw, h, ha => ⟨hw.1, wk_snoc hw.2 (by rw [List.getLast?_cons_cons] at h; exact h) ha⟩
theorem wk_reverse : ∀ {l : List Int}, Wk ls l → Wk ls l.reverse
  | [], _ => trivial
  | [_], _ => trivial
  | x :: y :: l, h => by
    rw [List.reverse_cons]
    exact wk_snoc (wk_reverse h.2) (by simp) (adj_symm h.1)
/-- The way back. -/
theorem Way.back (ht : Tr ms ls) {a b : Int} {p : List Int} (h : Way ls a b p) : Way ls b a p.reverse :=
  ⟨wk_reverse h.wk, nodup_nb ((List.reverse_perm p).nodup_iff.2 (ht.simple h.wk h.nb)), by rw [List.head?_reverse]; exact h.last, by rw [List.getLast?_reverse]; exact h.first⟩
theorem wk_at : ∀ {l : List Int}, Wk ls l → ∀ (i : Nat) (hi : i + 1 < l.length), adjB ls l[i] l[i + 1] = true
  | [], _, i, hi => by simp at hi
  | [_], _, i, hi => by simp at hi
  | x :: y :: l, h, 0, hi => h.1
  | x :: y :: l, h, i + 1, hi => by
    have := wk_at h.2 i (by simp at hi ⊢; omega)
    simpa using this
/-- Does a walk go over a link? -/
def overB (k : Lk) : List Int → Bool
  | x :: y :: l => (ofL x y == k) || overB k (y :: l)
  | _ => false
theorem wk_but {k : Lk} (hk : k.1 < k.2) : ∀ {l : List Int}, Wk ls l → overB k l = false → Wk (but ls k) l
  | [], _, _ => trivial
  | [_], _, _ => trivial
  | x :: y :: l, h, ho => by
    rw [overB, Bool.or_eq_false_iff] at ho
    refine ⟨adj_but h.1 ?_, wk_but hk h.2 ho.2⟩
    rw [Bool.eq_false_iff]
    intro e
    have := of_joins hk e
    rw [this] at ho
    simp at ho
theorem over_split {k : Lk} : ∀ {l : List Int}, overB k l = true → ∃ p u v q, l = p ++ u :: v :: q ∧ ofL u v = k
  | [], h => by simp [overB] at h
  | [_], h => by simp [overB] at h
  | x :: y :: l, h => by
    rw [overB, Bool.or_eq_true] at h
    rcases h with h | h
    · exact ⟨[], x, y, l, rfl, by simpa using h⟩
    · obtain ⟨p, u, v, q, e, h2⟩ := over_split h
      exact ⟨x :: p, u, v, q, by rw [e]; rfl, h2⟩
theorem over_none {k : Lk} (hk : k.1 < k.2) {w : Int} (hw : w = k.1 ∨ w = k.2) : ∀ {l : List Int}, w ∉ l → overB k l = false
  | [], _ => rfl
  | [_], _ => rfl
  | x :: y :: l, h => by
    rw [overB, over_none hk hw fun e => h (by simp [List.mem_cons.1 e]), Bool.or_false, beq_eq_false_iff_ne]
    intro e
    have h1 : w ≠ x := fun e => h (by simp [e])
    have h2 : w ≠ y := fun e => h (by simp [e])
    have e1 : (ofL x y).1 = k.1 := by rw [e]
    have e2 : (ofL x y).2 = k.2 := by rw [e]
    unfold ofL at e1 e2
    simp only at e1 e2
    omega
theorem Wk.left : ∀ {l m : List Int}, Wk ls (l ++ m) → Wk ls l
  | [], _, _ => trivial
  | [_], _, _ => trivial
  | x :: y :: l, m, h => ⟨h.1, Wk.left (m := m) h.2⟩
/-- THE WAY GOES OVER A LINK JUST WHERE ITS ENDS LIE ON UNLIKE SIDES. -/
theorem over_iff (h : Good ms ls) {a b : Int} {p : List Int} (hp : Way ls a b p) {k : Lk} (hk : k ∈ ls) : overB k p = (decide (a ∈ sideS ls k.1 k.2) != decide (b ∈ sideS ls k.1 k.2)) := by
  have hlt := (h.ls_.2 k hk).1
  have h1 : ofL k.1 k.2 ∈ ls := by rw [of_self hlt]; exact hk
  have e1 := side_iff h h1
  rw [of_self hlt] at e1
  have hs := h.tr.simple hp.wk hp.nb
  cases ho : overB k p with
  | false =>
    have hw := wk_but hlt hp.wk ho
    obtain ⟨t, rfl⟩ := hp.cons
    have hr := hw.rch hp.last
    have : a ∈ sideS ls k.1 k.2 ↔ b ∈ sideS ls k.1 k.2 := by
      rw [e1, e1]
      exact ⟨fun e => e.trans hr, fun e => e.trans hr.symm⟩
    simp [this]
  | true =>
    obtain ⟨q, u, v, r, e, huv⟩ := over_split ho
    have hmem : (u = k.1 ∧ v = k.2) ∨ (u = k.2 ∧ v = k.1) := by
      have e1 : (ofL u v).1 = k.1 := by rw [huv]
      have e2 : (ofL u v).2 = k.2 := by rw [huv]
      unfold ofL at e1 e2
      simp only at e1 e2
      omega
    have e' : p = (q ++ [u]) ++ (v :: r) := by rw [e]; simp
    rw [e'] at hs
    obtain ⟨hn1, hn2, hn3⟩ := List.nodup_append.1 hs
    have hw1 : Wk ls (q ++ [u]) := Wk.left (m := v :: r) (by rw [← e']; exact hp.wk)
    have hw2 : Wk ls (v :: r) := Wk.right (l := q ++ [u]) (by rw [← e']; exact hp.wk)
    have hb1 := wk_but hlt hw1 (over_none hlt (w := v) (by omega) fun hm => hn3 v hm v (by simp) rfl)
    have hb2 := wk_but hlt hw2 (over_none hlt (w := u) (by omega) fun hm => hn3 u (by simp) u hm rfl)
    have hr1 : Rch (but ls k) a u := by
      cases hq : q with
      | nil =>
        subst hq
        have := hp.first
        rw [e] at this
        have e3 : u = a := by simpa using this
        rw [e3]; exact .refl
      | cons x q' =>
        subst hq
        have := hp.first
        rw [e] at this
        have e3 : x = a := by simpa using this
        subst e3
        exact hb1.rch (by show ((x :: q') ++ [u]).getLast? = some u; rw [List.getLast?_append]; simp)
    have hr2 : Rch (but ls k) v b := hb2.rch (by
      have := hp.last
      rw [e', List.getLast?_append] at this
      cases hl : (v :: r).getLast? with
      | none => simp at hl
      | some z => rw [hl] at this; simpa using this)
    rcases hmem with ⟨rfl, rfl⟩ | ⟨rfl, rfl⟩
    · have ha : a ∈ sideS ls k.1 k.2 := (e1 a).2 hr1.symm
      have hb : b ∉ sideS ls k.1 k.2 := fun e => h.tr.bridge hk (((e1 b).1 e).trans hr2.symm)
      simp [ha, hb]
    · have ha : a ∉ sideS ls k.1 k.2 := fun e => h.tr.bridge hk (((e1 a).1 e).trans hr1)
      have hb : b ∈ sideS ls k.1 k.2 := (e1 b).2 hr2
      simp [ha, hb]
end
end Go.Proofs.YtlkfcfcejicdkaaGreatDoor
