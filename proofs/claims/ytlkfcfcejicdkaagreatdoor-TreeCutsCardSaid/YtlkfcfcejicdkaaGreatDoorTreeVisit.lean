/-
  tree: the program's search in depth reaches just what is reached; lists in order. Plain laws. Own work.
-/
import Derived.Test.YtlkfcfcejicdkaaGreatDoorTreeWay
set_option linter.unusedSimpArgs false
set_option linter.unusedVariables false
namespace Go.Proofs.YtlkfcfcejicdkaaGreatDoor

def visitF (ls : List Lk) : Nat → List Int → Int → Int → List Int
  | 0, l, _, _ => l
  | f + 1, l, n, fr => if n ∈ l then l else (nears ls n).foldl (fun l m => if m = fr then l else visitF ls f l m n) (l ++ [n])
/-- What holds of the list as it grows, from l0 on, behind n. -/
structure VIn (ls ls' : List Lk) (n : Int) (l0 acc : List Int) : Prop where
  nd : acc.Nodup
  all : ∀ x ∈ acc, x ∈ ALL
  sub : ∀ x ∈ l0, x ∈ acc
  rch : ∀ x ∈ acc, x ∈ l0 ∨ Rch ls' n x
  cl : ∀ x ∈ acc, x ∉ l0 → ∀ y, adjB ls x y = true → y ∈ acc
  len : l0.length ≤ acc.length
theorem VIn.start {ls ls' : List Lk} {n : Int} {l0 : List Int} (h1 : l0.Nodup) (h2 : ∀ x ∈ l0, x ∈ ALL) : VIn ls ls' n l0 l0 :=
  ⟨h1, h2, fun _ h => h, fun _ h => .inl h, fun _ h k => absurd h k, Nat.le_refl _⟩
section
variable {ls ls' : List Lk} {a : Int}
/-- One visit more. -/
theorem VIn.more {n m : Int} {l0 acc acc' : List Int} (h : VIn ls ls' n l0 acc) (k : VIn ls ls' m acc acc') (hm : m ∈ acc ∨ adjB ls' n m = true) (hk : m ∈ acc → acc' = acc) : VIn ls ls' n l0 acc' := by
  refine ⟨k.nd, k.all, fun x hx => k.sub x (h.sub x hx), fun x hx => ?_, fun x hx hn y hy => ?_, Nat.le_trans h.len k.len⟩
  · by_cases hma : m ∈ acc
    · rw [hk hma] at hx; exact h.rch x hx
    · rcases k.rch x hx with h1 | h1
      · exact h.rch x h1
      · exact .inr ((Rch.step .refl (hm.resolve_left hma)).trans h1)
  · by_cases hxa : x ∈ acc
    · exact k.sub y (h.cl x hxa hn y hy)
    · exact k.cl x hx hxa y hy
theorem fold_visit (F : List Int → Int → List Int) (n fr : Int) (l0 : List Int) (ha : a ∈ l0)
    (hF : ∀ acc m, VIn ls ls' n l0 acc → m ∈ ALL → m ≠ fr → VIn ls ls' m acc (F acc m) ∧ m ∈ F acc m ∧ (m ∈ acc → F acc m = acc)) :
    ∀ (ns : List Int) (acc : List Int), (∀ m ∈ ns, m ∈ ALL ∧ (m ≠ fr → m ≠ a → adjB ls' n m = true)) → VIn ls ls' n l0 acc → VIn ls ls' n l0 (ns.foldl (fun l m => if m = fr then l else F l m) acc) ∧ (∀ x ∈ acc, x ∈ ns.foldl (fun l m => if m = fr then l else F l m) acc) ∧ ∀ m ∈ ns, m ≠ fr → m ∈ ns.foldl (fun l m => if m = fr then l else F l m) acc
  | [], acc, _, h => ⟨h, fun _ h => h, fun m hm => by cases hm⟩
  | m :: ns, acc, hns, h => by
    rw [List.foldl_cons]
    have hr := fun q hq => hns q (List.mem_cons_of_mem _ hq)
    by_cases e : m = fr
    · rw [if_pos e]
      obtain ⟨h1, h2, h3⟩ := fold_visit F n fr l0 ha hF ns acc hr h
      refine ⟨h1, h2, fun q hq hne => ?_⟩
      rcases List.mem_cons.1 hq with rfl | hq
      · exact absurd e hne
      · exact h3 q hq hne
    · rw [if_neg e]
      obtain ⟨k1, k2, k3⟩ := hF acc m h (hns m (by simp)).1 e
      have hm : m ∈ acc ∨ adjB ls' n m = true := by
        by_cases hma : m ∈ acc
        · exact .inl hma
        · exact .inr ((hns m (by simp)).2 e fun e2 => hma (by rw [e2]; exact h.sub a ha))
      obtain ⟨h1, h2, h3⟩ := fold_visit F n fr l0 ha hF ns _ hr (h.more k1 hm k3)
      refine ⟨h1, fun x hx => h2 x (k1.sub x hx), fun q hq hne => ?_⟩
      rcases List.mem_cons.1 hq with rfl | hq
      · exact h2 _ k2
      · exact h3 q hq hne
/-- A visit behind the first. -/
theorem visit_in (hall : ∀ n m, adjB ls n m = true → m ∈ ALL) (H1 : ∀ n m, n ≠ a → m ≠ a → adjB ls n m = true → adjB ls' n m = true) :
    ∀ (f : Nat) (l : List Int) (n fr : Int), l.Nodup → (∀ x ∈ l, x ∈ ALL) → a ∈ l → fr ∈ l → n ∈ ALL → 8 < f + l.length → VIn ls ls' n l (visitF ls f l n fr) ∧ n ∈ visitF ls f l n fr ∧ (n ∈ l → visitF ls f l n fr = l)
  | 0, l, n, fr, h1, h2, _, _, _, hf => by
    have := nodup_le h1 (m := ALL) h2
    have e : ALL.length = 8 := rfl
    omega
  | f + 1, l, n, fr, h1, h2, ha, hfr, hn, hf => by
    rw [visitF]
    by_cases hnl : n ∈ l
    · rw [if_pos hnl]
      exact ⟨.start h1 h2, hnl, fun _ => rfl⟩
    · rw [if_neg hnl]
      have hna : n ≠ a := fun e => hnl (by rw [e]; exact ha)
      have hl0 : (l ++ [n]).Nodup := List.nodup_append.2 ⟨h1, by simp, fun x hx y hy e => by
        have e2 : y = n := by simpa using hy
        exact hnl (by rw [← e2, ← e]; exact hx)⟩
      have hl1 : ∀ x ∈ l ++ [n], x ∈ ALL := fun x hx => by
        rcases List.mem_append.1 hx with h | h
        · exact h2 x h
        · have e2 : x = n := by simpa using h
          rw [e2]; exact hn
      obtain ⟨k1, k2, k3⟩ := fold_visit (ls := ls) (ls' := ls') (a := a) (fun l m => visitF ls f l m n) n fr (l ++ [n]) (by simp [ha]) (fun acc m hacc hm hne => by
        have hlen := hacc.len
        rw [List.length_append, List.length_singleton] at hlen
        exact visit_in hall H1 f acc m n hacc.nd hacc.all (hacc.sub a (by simp [ha])) (hacc.sub n (by simp)) hm (by omega)) (nears ls n) (l ++ [n]) (fun m hm => ⟨(nears_iff.1 hm).1, fun _ hma => H1 n m hna hma (nears_iff.1 hm).2⟩) (.start hl0 hl1)
      refine ⟨⟨k1.nd, k1.all, fun x hx => k1.sub x (by simp [hx]), fun x hx => ?_, fun x hx hxl y hy => ?_, ?_⟩, k1.sub n (by simp), fun h => absurd h hnl⟩
      · rcases k1.rch x hx with h | h
        · rcases List.mem_append.1 h with h | h
          · exact .inl h
          · have e2 : x = n := by simpa using h
            rw [e2]; exact .inr .refl
        · exact .inr h
      · by_cases hxn : x = n
        · subst hxn
          by_cases hyf : y = fr
          · rw [hyf]; exact k1.sub fr (by simp [hfr])
          · exact k3 y (nears_iff.2 ⟨hall _ _ hy, hy⟩) hyf
        · exact k1.cl x hx (by simp [hxl, hxn]) y hy
      · have := k1.len
        rw [List.length_append] at this
        omega
/-- THE SEARCH: all that is reached, and nothing else. -/
theorem visit_all (hall : ∀ n m, adjB ls n m = true → m ∈ ALL) (H1 : ∀ n m, n ≠ a → m ≠ a → adjB ls n m = true → adjB ls' n m = true) (fr : Int) (H2 : ∀ m, m ≠ fr → adjB ls a m = true → adjB ls' a m = true) (H3 : ∀ n m, adjB ls' n m = true → adjB ls n m = true) (H4 : adjB ls' a fr = false) (ha : a ∈ ALL) {f : Nat} (hf : 9 ≤ f) :
    (visitF ls f [] a fr).Nodup ∧ (∀ x ∈ visitF ls f [] a fr, x ∈ ALL) ∧ ∀ x, x ∈ visitF ls f [] a fr ↔ Rch ls' a x := by
  cases f with
  | zero => omega
  | succ f =>
    rw [visitF, if_neg (by simp), List.nil_append]
    obtain ⟨k1, k2, k3⟩ := fold_visit (ls := ls) (ls' := ls') (a := a) (fun l m => visitF ls f l m a) a fr [a] (by simp) (fun acc m hacc hm hne => by
      have hlen := hacc.len
      rw [List.length_singleton] at hlen
      exact visit_in hall H1 f acc m a hacc.nd hacc.all (hacc.sub a (by simp)) (hacc.sub a (by simp)) hm (by omega)) (nears ls a) [a] (fun m hm => ⟨(nears_iff.1 hm).1, fun hmf _ => H2 m hmf (nears_iff.1 hm).2⟩) (.start (by simp) (fun x hx => by
        have e : x = a := by simpa using hx
        rw [e]; exact ha))
    refine ⟨k1.nd, k1.all, fun x => ⟨fun hx => ?_, fun hx => ?_⟩⟩
    · rcases k1.rch x hx with h | h
      · have e : x = a := by simpa using h
        rw [e]; exact .refl
      · exact h
    · refine hx.closed (k1.sub a (by simp)) fun z hz y hy => ?_
      by_cases hza : z = a
      · subst hza
        by_cases hyf : y = fr
        · rw [hyf, H4] at hy; cases hy
        · exact k3 y (nears_iff.2 ⟨hall _ _ (H3 _ _ hy), H3 _ _ hy⟩) hyf
      · exact k1.cl z hz (by simp [hza]) y (H3 _ _ hy)
end

/-- A list of members' numbers, in order, each once. -/
def inOrder (l : List Int) : List Int := ALL.filter fun x => decide (x ∈ l)
theorem inOrder_iff {l : List Int} (h : ∀ x ∈ l, x ∈ ALL) {x : Int} : x ∈ inOrder l ↔ x ∈ l := by
  unfold inOrder
  rw [List.mem_filter]
  exact ⟨fun h => by simpa using h.2, fun h1 => ⟨h x h1, by simpa using h1⟩⟩
theorem all_lt : ALL.Pairwise (· < ·) := by decide
theorem inOrder_lt (l : List Int) : (inOrder l).Pairwise (· < ·) := all_lt.filter _
theorem inOrder_nodup (l : List Int) : (inOrder l).Nodup := all_nodup.filter _
theorem lt_list_eq {l m : List Int} (hl : l.Pairwise (· < ·)) (hm : m.Pairwise (· < ·)) (h : ∀ x, x ∈ l ↔ x ∈ m) : l = m := by
  have hnl : l.Nodup := List.Pairwise.imp (fun h => by omega) hl
  have hnm : m.Nodup := List.Pairwise.imp (fun h => by omega) hm
  exact List.Perm.eq_of_pairwise (le := (· ≤ ·)) (fun a b _ _ h1 h2 => by omega) (hl.imp fun h => by omega) (hm.imp fun h => by omega) ((List.perm_ext_iff_of_nodup hnl hnm).2 h)
theorem inOrder_same {l m : List Int} (hl : ∀ x ∈ l, x ∈ ALL) (hm : ∀ x ∈ m, x ∈ ALL) (h : ∀ x, x ∈ l ↔ x ∈ m) : inOrder l = inOrder m :=
  lt_list_eq (inOrder_lt _) (inOrder_lt _) fun x => by rw [inOrder_iff hl, inOrder_iff hm, h]
theorem sorted_inOrder {l m : List Int} (hp : l.Perm m) (hs : l.Pairwise (· ≤ ·)) (hn : m.Nodup) (hm : ∀ x ∈ m, x ∈ ALL) : l = inOrder m := by
  refine lt_list_eq ?_ (inOrder_lt _) fun x => by rw [inOrder_iff hm, hp.mem_iff]
  have hl : l.Nodup := hp.nodup_iff.2 hn
  have h2 := List.pairwise_and_iff.2 ⟨hs, hl⟩
  exact h2.imp fun h => by omega
theorem inOrder_perm {m : List Int} (hn : m.Nodup) (hm : ∀ x ∈ m, x ∈ ALL) : (inOrder m).Perm m :=
  (List.perm_ext_iff_of_nodup (inOrder_nodup _) hn).2 fun x => inOrder_iff hm
theorem inOrder_of_lt {m : List Int} (hs : m.Pairwise (· < ·)) (hm : ∀ x ∈ m, x ∈ ALL) : inOrder m = m :=
  lt_list_eq (inOrder_lt _) hs fun x => inOrder_iff hm
end Go.Proofs.YtlkfcfcejicdkaaGreatDoor
