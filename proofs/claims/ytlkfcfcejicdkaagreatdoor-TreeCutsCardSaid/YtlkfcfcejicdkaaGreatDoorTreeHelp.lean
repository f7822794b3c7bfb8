/-
  tree: small helpers of the walks; neighbours, plainly. Own work.
-/
import Derived.Test.YtlkfcfcejicdkaaGreatDoorTreeHas
import Derived.Deep.AppendLies
import Derived.Laws.StructEq
set_option linter.unusedSimpArgs false
set_option linter.unusedVariables false
namespace Go.Proofs.YtlkfcfcejicdkaaGreatDoor
open Go Go.RowKit

theorem own_slice {w : World} {base : Nat} {e : TypeId} {size n : Nat} {v : Value} {xs : List Value} (h : w.ownsRow base e size v n xs) : ∃ A c, v = .slice A n c := by
  rcases h.2 with ⟨rfl, hn⟩ | ⟨g, cap, cur, rfl, _⟩
  · exact ⟨none, 0, by rw [hn]⟩
  · exact ⟨_, _, rfl⟩
theorem own_block {w : World} {base : Nat} {e : TypeId} {size n : Nat} {v : Value} {xs : List Value} (h : w.ownsRow base e size v n xs) {g : Nat} (hg : v.ownBlock = some g) : ∃ cur, w.heap[g]? = some (.cells cur e (0, 0)) ∧ base ≤ g ∧ g < w.heap.size := by
  rcases h.2 with ⟨rfl, _⟩ | ⟨g', cap, cur, rfl, hb, hh, r⟩
  · simp [Value.ownBlock] at hg
  · obtain rfl : g' = g := by simpa [Value.ownBlock] using hg
    exact ⟨cur, hh, hb, (Array.getElem?_eq_some_iff.1 hh).1⟩
theorem ownsRow_keep {w w' : World} {base : Nat} {e : TypeId} {size n : Nat} {v : Value} {xs : List Value} (h : w.ownsRow base e size v n xs) (hk : ∀ g, v.ownBlock = some g → w'.heap[g]? = w.heap[g]?) : w'.ownsRow base e size v n xs := by
  refine ⟨h.1, ?_⟩
  rcases h.2 with hv | ⟨g, cap, cur, rfl, hb, hh, r⟩
  · exact .inl hv
  · exact .inr ⟨g, cap, cur, rfl, hb, (hk g rfl).trans hh, r⟩
theorem ownsRow_below {w w' : World} {base : Nat} {e : TypeId} {size n : Nat} {v : Value} {xs : List Value} (h : w.ownsRow base e size v n xs) (hb : Below w.heap.size w w') : w'.ownsRow base e size v n xs :=
  ownsRow_keep h fun g hg => hb.block g (own_block h hg).choose_spec.2.2
theorem ownsRow_mono {w : World} {base base' : Nat} {e : TypeId} {size n : Nat} {v : Value} {xs : List Value} (h : w.ownsRow base e size v n xs) (hb : base' ≤ base) : w.ownsRow base' e size v n xs := by
  refine ⟨h.1, ?_⟩
  rcases h.2 with hv | ⟨g, cap, cur, rfl, hg, r⟩
  · exact .inl hv
  · exact .inr ⟨g, cap, cur, rfl, Nat.le_trans hb hg, r⟩
theorem new1 (w : World) (v : Value) (t : TypeId) (B : Nat) (hB : B = w.heap.size) : ∀ j u, [v][j]? = some u → (w.alloc (.cells #[v] t)).cell? ((⟨B, 0, none⟩ : Addr).add j) = some u := by
  subst hB
  exact World.news_of_block (cs := #[v]) (t := t) (fr := (0, 0)) (heap_alloc_new w _)
theorem new2 (w : World) (v u : Value) (t : TypeId) (B : Nat) (hB : B = w.heap.size) : ∀ j x, [v, u][j]? = some x → (w.alloc (.cells #[v, u] t)).cell? ((⟨B, 0, none⟩ : Addr).add j) = some x := by
  subst hB
  exact World.news_of_block (cs := #[v, u]) (t := t) (fr := (0, 0)) (heap_alloc_new w _)
theorem belowS {B b i : Nat} {a w : World} (h : Below B a w) (hb : B ≤ b) (v : Value) : Below B a (w.setCell ⟨b, i, none⟩ v) := h.setCell (p := ⟨b, i, none⟩) hb v
theorem cell1 {w : World} {g : Nat} {a : Value} {t : TypeId} (h : w.heap[g]? = some (.cells #[a] t (0, 0))) : w.cell? ⟨g, 0, none⟩ = some a ∧ (∀ i, w.frozen? ⟨g, i, none⟩ = false) ∧ g < w.heap.size := by
  obtain ⟨h1, _⟩ := Array.getElem?_eq_some_iff.1 h
  exact ⟨by simp [World.cell?, h], fun i => by simp [World.frozen?, h], h1⟩
theorem cell2 {w : World} {g : Nat} {a b : Value} {t : TypeId} (h : w.heap[g]? = some (.cells #[a, b] t (0, 0))) : w.cell? ⟨g, 0, none⟩ = some a ∧ w.cell? ⟨g, 1, none⟩ = some b ∧ (∀ i, w.frozen? ⟨g, i, none⟩ = false) ∧ g < w.heap.size := by
  obtain ⟨h1, _⟩ := Array.getElem?_eq_some_iff.1 h
  exact ⟨by simp [World.cell?, h], by simp [World.cell?, h], fun i => by simp [World.frozen?, h], h1⟩
theorem cell3 {w : World} {g : Nat} {a b c : Value} {t : TypeId} (h : w.heap[g]? = some (.cells #[a, b, c] t (0, 0))) : w.cell? ⟨g, 0, none⟩ = some a ∧ w.cell? ⟨g, 1, none⟩ = some b ∧ w.cell? ⟨g, 2, none⟩ = some c ∧ (∀ i, w.frozen? ⟨g, i, none⟩ = false) ∧ g < w.heap.size := by
  obtain ⟨h1, _⟩ := Array.getElem?_eq_some_iff.1 h
  exact ⟨by simp [World.cell?, h], by simp [World.cell?, h], by simp [World.cell?, h], fun i => by simp [World.frozen?, h], h1⟩
/-- A row of the call's own that has grown. -/
theorem below_push {base : Nat} {w0 W W' : World} {e : TypeId} {s n : Nat} {v : Value} {xs : List Value} (hb : Below base w0 W) (ho : W.ownsRow base e s v n xs) (hs : base ≤ W.heap.size) (hg : W.grownBy W' v.ownBlock) : Below base w0 W' :=
  hb.grown hg hs fun k hk => (own_block ho hk).choose_spec.2.1
theorem int_info : (Tryz.prog.info? 3).map (fun i => (i.zero, i.size, i.bytes)) = some (some (.int .i64 0), 1, 8) := by kernel_rfl
theorem link_info : (Tryz.prog.info? 35).map (fun i => (i.zero, i.size, i.bytes)) = some (some (.agg #[.int .i64 0, .int .i64 0]), 2, 16) := by kernel_rfl
/-- '==' at links. -/
theorem lk_equal (a b c d : Int) (w : World) : (Op.equalIn 10000 35 (.agg #[.int .i64 a, .int .i64 b]) (.agg #[.int .i64 c, .int .i64 d])).run Tryz.prog w = .ok (a == c && b == d) w := by
  have u3 := Tryz.underlying3
  have a3 := Tryz.isAgg3
  have z3 := Tryz.sizeOf3
  have hS : Tryz.prog.underlying 35 = some (.struct (Tryz.prog.fieldsOf 35)) := by kernel_rfl
  have hp : Tryz.prog.stoodInHeld 35 = false := by kernel_rfl
  rw [show (10000 : Nat) = 9999 + 1 from rfl, run_equalIn_agg w 9999 35 _ _ hS hp]
  simp only [Program.fieldsOf, Tryz.underlying35]
  go_simp
  by_cases h1 : a = c <;> by_cases h2 : b = d <;> simp [h1, h2]
theorem take_snoc {α : Type} {l : List α} {j : Nat} {x : α} (hx : l[j]? = some x) : l.take (j + 1) = l.take j ++ [x] := by
  obtain ⟨h7, h8⟩ := List.getElem?_eq_some_iff.1 hx
  rw [← h8, List.take_append_getElem]

/-- A link's other end. -/
def nbr1 (k : Lk) (n : Int) : List Int := if n = k.1 then [k.2] else if n = k.2 then [k.1] else []
def nbrF (ls : List Lk) (n : Int) : List Int := ls.flatMap fun k => nbr1 k n
theorem nbrF_snoc {ls : List Lk} {j : Nat} {k : Lk} (n : Int) (hk : ls[j]? = some k) : nbrF (ls.take (j + 1)) n = nbrF (ls.take j) n ++ nbr1 k n := by
  rw [take_snoc hk]; simp [nbrF]
theorem nbr1_mem {k : Lk} {n m : Int} (h : k.1 < k.2) : m ∈ nbr1 k n ↔ joins k n m = true := by
  rw [joins_iff]
  unfold nbr1
  split
  · simp; omega
  · split
    · simp; omega
    · simp; omega
theorem nbrF_mem {ls : List Lk} {n m : Int} (h : ∀ k ∈ ls, k.1 < k.2) : m ∈ nbrF ls n ↔ adjB ls n m = true := by
  unfold nbrF
  rw [List.mem_flatMap, adj_iff]
  constructor
  · rintro ⟨k, hk, hm⟩; exact ⟨k, hk, (nbr1_mem (h k hk)).1 hm⟩
  · rintro ⟨k, hk, hj⟩; exact ⟨k, hk, (nbr1_mem (h k hk)).2 hj⟩
theorem nbrF_len (ls : List Lk) (n : Int) : (nbrF ls n).length ≤ ls.length := by
  induction ls with
  | nil => simp [nbrF]
  | cons k l ih =>
    have h1 : (nbr1 k n).length ≤ 1 := by
      unfold nbr1
      split
      · simp
      · split <;> simp
    have e : nbrF (k :: l) n = nbr1 k n ++ nbrF l n := by simp [nbrF]
    rw [e, List.length_append, List.length_cons]; omega
theorem nbrF_nodup {ls : List Lk} {n : Int} (hn : ls.Nodup) (h : ∀ k ∈ ls, k.1 < k.2) : (nbrF ls n).Nodup := by
  induction ls with
  | nil => simp [nbrF]
  | cons k l ih =>
    obtain ⟨h1, h2⟩ := List.nodup_cons.1 hn
    have hr : ∀ q ∈ l, q.1 < q.2 := fun q hq => h q (by simp [hq])
    have e : nbrF (k :: l) n = nbr1 k n ++ nbrF l n := by simp [nbrF]
    rw [e, List.nodup_append]
    refine ⟨?_, ih h2 hr, fun x hx y hy e => ?_⟩
    · unfold nbr1
      split
      · simp
      · split <;> simp
    · subst e
      have j1 := (nbr1_mem (h k (by simp))).1 hx
      obtain ⟨q, hq, j2⟩ := adj_iff.1 ((nbrF_mem hr).1 hy)
      have e1 := of_joins (h k (by simp)) j1
      have e2 := of_joins (hr q hq) j2
      exact h1 (by rw [← e1, e2]; exact hq)
/-- In order they are the neighbours. -/
theorem nears_nbr {ls : List Lk} {n : Int} (h : ∀ k ∈ ls, k.1 < k.2 ∧ k.1 ∈ ALL ∧ k.2 ∈ ALL) : (∀ x ∈ nbrF ls n, x ∈ ALL) ∧ inOrder (nbrF ls n) = nears ls n := by
  have h1 : ∀ k ∈ ls, k.1 < k.2 := fun k hk => (h k hk).1
  have h2 : ∀ x ∈ nbrF ls n, x ∈ ALL := fun x hx => by
    obtain ⟨k, hk, hj⟩ := adj_iff.1 ((nbrF_mem h1).1 hx)
    rcases joins_iff.1 hj with ⟨e1, e2⟩ | ⟨e1, e2⟩
    · rw [← e2]; exact (h k hk).2.2
    · rw [← e1]; exact (h k hk).2.1
  refine ⟨h2, lt_list_eq (inOrder_lt _) (all_lt.filter _) fun x => ?_⟩
  show x ∈ inOrder (nbrF ls n) ↔ x ∈ nears ls n
  rw [inOrder_iff h2, nbrF_mem h1, nears_iff]
  exact ⟨fun e => ⟨h2 x ((nbrF_mem h1).2 e), e⟩, fun e => e.2⟩
theorem nears_sorted {ls : List Lk} {n : Int} (hn : ls.Nodup) (h : ∀ k ∈ ls, k.1 < k.2 ∧ k.1 ∈ ALL ∧ k.2 ∈ ALL) {l' : List Int} (hp : l'.Perm (nbrF ls n)) (hs : l'.Pairwise (· ≤ ·)) : l' = nears ls n := by
  obtain ⟨h1, h2⟩ := nears_nbr (n := n) h
  rw [← h2]
  exact sorted_inOrder hp hs (nbrF_nodup hn fun k hk => (h k hk).1) h1
end Go.Proofs.YtlkfcfcejicdkaaGreatDoor
