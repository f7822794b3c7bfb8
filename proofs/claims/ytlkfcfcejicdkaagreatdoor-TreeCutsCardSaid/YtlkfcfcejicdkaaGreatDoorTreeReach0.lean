/-
  tree: the document's reach: what holds while it goes on. Plain laws. Own work.
-/
import Derived.Test.YtlkfcfcejicdkaaGreatDoorTreeRef4
set_option linter.unusedSimpArgs false
set_option linter.unusedVariables false
namespace Go.Proofs.YtlkfcfcejicdkaaGreatDoor

structure RSt (bls : List Lk) (r : Int) (S : List Int) : Prop where
  nd : S.Nodup
  all : ∀ x ∈ S, x ∈ ALL
  rch : ∀ x ∈ S, Rch bls r x
  root : r ∈ S
theorem RSt.len {bls : List Lk} {r : Int} {S : List Int} (h : RSt bls r S) : S.length ≤ 8 := nodup_le h.nd (m := ALL) h.all
theorem RSt.one {bls : List Lk} {r : Int} (h : r ∈ ALL) : RSt bls r [r] := ⟨by simp, fun x hx => by
  have e : x = r := by simpa using hx
  rw [e]; exact h, fun x hx => by
  have e : x = r := by simpa using hx
  rw [e]; exact .refl, by simp⟩
theorem RSt.add {bls : List Lk} {r x y : Int} {S : List Int} (h : RSt bls r S) (hx : x ∈ S) (ha : adjB bls x y = true) (hy : y ∉ S) (hA : y ∈ ALL) : RSt bls r (S ++ [y]) := by
  obtain ⟨s1, s2⟩ := snoc_keep h.nd h.all hA hy
  refine ⟨s1, s2, fun z hz => ?_, by simp [h.root]⟩
  rcases List.mem_append.1 hz with h1 | h1
  · exact h.rch z h1
  · have e : z = y := by simpa using h1
    rw [e]; exact (h.rch x hx).step ha
def RClos (bls : List Lk) (S : List Int) (i : Nat) : Prop := ∀ x ∈ S.take i, ∀ y, adjB bls x y = true → y ∈ S
def RJn (ls : List Lk) (bk : Lk) (S : List Int) (x : Int) (j : Nat) : Prop := ∀ k ∈ ls.take j, k ≠ bk → ∀ y, joins k x y = true → y ∈ S
/-- Within a round. -/
structure RI (ls : List Lk) (bk : Lk) (r : Int) (S : List Int) (i : Nat) (x : Int) (j : Nat) : Prop where
  st : RSt (but ls bk) r S
  cl : RClos (but ls bk) S i
  at_ : S[i]? = some x
  jn : RJn ls bk S x j
theorem RI.start {ls : List Lk} {bk : Lk} {r x : Int} {S : List Int} {i : Nat} (h : RSt (but ls bk) r S) (hc : RClos (but ls bk) S i) (hx : S[i]? = some x) : RI ls bk r S i x 0 := ⟨h, hc, hx, fun k hk => by simp at hk⟩
theorem RI.keep {ls : List Lk} {bk : Lk} {r x : Int} {S : List Int} {i j : Nat} {y : Lk} (h : RI ls bk r S i x j) (hy : ls[j]? = some y) (hk : y ≠ bk → ∀ z, joins y x z = true → z ∈ S) : RI ls bk r S i x (j + 1) :=
  ⟨h.st, h.cl, h.at_, mem_take_all hy h.jn hk⟩
theorem RI.add {ls : List Lk} {bk : Lk} {r x z : Int} {S : List Int} {i j : Nat} {y : Lk} (h : RI ls bk r S i x j) (hy : ls[j]? = some y) (hk : y ≠ bk) (hj : joins y x z = true) (hz : z ∉ S) (hA : z ∈ ALL) (h1 : ∀ z', joins y x z' = true → z' = z) : RI ls bk r (S ++ [z]) i x (j + 1) := by
  have hx : x ∈ S := List.mem_of_getElem? h.at_
  have hi := (List.getElem?_eq_some_iff.1 h.at_).1
  refine ⟨h.st.add hx (adj_iff.2 ⟨y, but_mem.2 ⟨List.mem_of_getElem? hy, hk⟩, hj⟩) hz hA, fun u hu v hv => ?_, by rw [List.getElem?_append_left hi]; exact h.at_, ?_⟩
  · rw [List.take_append_of_le_length (by omega)] at hu
    exact List.mem_append_left _ (h.cl u hu v hv)
  · refine mem_take_all hy (fun k hk hne v hv => List.mem_append_left _ (h.jn k hk hne v hv)) fun _ z' hz' => ?_
    rw [h1 z' hz']; simp
theorem RI.fin {ls : List Lk} {bk : Lk} {r x : Int} {S : List Int} {i : Nat} (h : RI ls bk r S i x ls.length) : RClos (but ls bk) S (i + 1) := by
  unfold RClos
  rw [take_snoc h.at_]
  intro u hu v hv
  rcases List.mem_append.1 hu with h1 | h1
  · exact h.cl u h1 v hv
  · have e : u = x := by simpa using h1
    subst e
    obtain ⟨k, hk, hj⟩ := adj_iff.1 hv
    obtain ⟨h2, h3⟩ := but_mem.1 hk
    exact h.jn k (by rw [List.take_length]; exact h2) h3 v hj
theorem RSt.fin {bls : List Lk} {r : Int} {S : List Int} (h : RSt bls r S) (hc : RClos bls S S.length) (x : Int) : x ∈ S ↔ Rch bls r x := by
  unfold RClos at hc
  rw [List.take_length] at hc
  exact ⟨h.rch x, fun hr => hr.closed h.root hc⟩
theorem own_int {w : Go.World} {base n c : Nat} {A : Option Go.Addr} {l : List Int} {i : Nat} {x : Int} (h : w.ownsRow base 3 1 (.slice A n c) n (intVs l)) (hi : l[i]? = some x) : ∃ g, A = some ⟨g, 0, none⟩ ∧ w.cell? ⟨g, i, none⟩ = some (.int .i64 x) ∧ base ≤ g ∧ g < w.heap.size := by
  rcases h.2 with ⟨hv, hn⟩ | ⟨g, cap, cur, hv, hb, hg, r1⟩
  · exfalso
    have h1 := (List.getElem?_eq_some_iff.1 hi).1
    have h2 := h.1
    rw [intVs_len] at h2
    omega
  · injection hv with hA hB hC
    subst hA
    obtain ⟨g', off, e, hc⟩ : ∃ g' off, (some (⟨g, 0, none⟩ : Go.Addr)) = some ⟨g', off, none⟩ ∧ w.cell? ⟨g', off + i, none⟩ = some (.int .i64 x) := by
      obtain ⟨g', off, e, hc, _⟩ := (RowAt.of_own h).int hi
      exact ⟨g', off, e, hc⟩
    injection e with e
    injection e with e1 e2
    subst e1
    subst e2
    rw [Nat.zero_add] at hc
    exact ⟨g, rfl, hc, hb, (Array.getElem?_eq_some_iff.1 hg).1⟩
end Go.Proofs.YtlkfcfcejicdkaaGreatDoor
