/-
  The box's state in memory. Own work.
-/
import Derived.Test.YthapeellcbeecaaDoorBoxB
import Derived.Test.YthapeellcbeecaaDoorBoxKey
import Derived.Test.YthapeellcbeecaaDoorBoxClone
import Derived.Test.YthapeellcbeecaaDoorEvCheck2
import Derived.Deep.RegionHeld3
import Derived.Deep.AppendLies
set_option linter.unusedSimpArgs false
set_option linter.unusedVariables false
namespace Go.Proofs.YthapeellcbeecaaDoor
open Go Go.RowKit

structure BEnt where
  num : Int
  node : Int
  pub : Int
  idx : Int
  ev : Value

def BEnt.cells (x : BEnt) : List Value := [.int .i64 x.num, .int .i64 x.node, .int .i64 x.pub, .int .i64 x.idx, x.ev]
def entCells (l : List BEnt) : List Value := l.flatMap BEnt.cells

theorem entCells_append (l m : List BEnt) : entCells (l ++ m) = entCells l ++ entCells m := by simp [entCells]
theorem entCells_length (l : List BEnt) : (entCells l).length = l.length * 5 := by
  induction l with
  | nil => rfl
  | cons x l ih => simp only [entCells, List.flatMap_cons, List.length_append, List.length_cons] at ih ⊢; rw [ih]; simp [BEnt.cells]; omega

/-- An event's slice in a box: a row of the box's own of at most 16 attributes. -/
def EvOK (base : Nat) (w : World) (v : Value) : Prop := ∃ n xs, n ≤ 16 ∧ w.ownsRow base 59 5 v n xs ∧ ∀ u ∈ xs, u.oneCell' = true

structure BoxSt where
  most : Int
  first : Int
  ents : List BEnt
  L : List (MEnt (Int × Int))

structure BoxIn (base : Nat) (w : World) (B M : Nat) (wv : Value) (c : Nat) (s : BoxSt) : Prop where
  hB : base ≤ B
  hM : base ≤ M
  blk : w.heap[B]? = some (.cells #[.int .i64 s.most, .int .i64 s.first, wv, .map (some M)] 50 (0, 0))
  map : MapAt pairV w M s.L c
  row : w.ownsRow base 37 5 wv s.ents.length (entCells s.ents)
  evs : ∀ x ∈ s.ents, EvOK base w x.ev
  ints : ∀ k v, lkV k s.L = some v → ∃ m, v = .int .i64 m

/-- Block B is a box in this state; all that is its own lies from base on. -/
def BoxAt (base : Nat) (w : World) (B : Nat) (s : BoxSt) : Prop := ∃ M wv c, BoxIn base w B M wv c s

theorem ownsRow_frame {w w' : World} {base : Nat} {e : TypeId} {size n : Nat} {v : Value} {xs : List Value} (h : w.ownsRow base e size v n xs)
    (hk : ∀ (g : Nat) (cur : Array Value), w.heap[g]? = some (Obj.cells cur e (0, 0)) → w'.heap[g]? = w.heap[g]?) : w'.ownsRow base e size v n xs := by
  refine ⟨h.1, ?_⟩
  rcases h.2 with h2 | ⟨g, cap, cur, hv, hg, hh, r⟩
  · exact .inl h2
  · exact .inr ⟨g, cap, cur, hv, hg, by rw [hk g cur hh]; exact hh, r⟩

theorem ownsRow_below {w w' : World} {base : Nat} {e : TypeId} {size n : Nat} {v : Value} {xs : List Value} (h : w.ownsRow base e size v n xs) (hb : Below w.heap.size w w') : w'.ownsRow base e size v n xs :=
  ownsRow_frame h fun g cur hg => hb.block g (Array.getElem?_eq_some_iff.1 hg).1

theorem EvOK.below {base : Nat} {w w' : World} {v : Value} (h : EvOK base w v) (hb : Below w.heap.size w w') : EvOK base w' v := by
  obtain ⟨n, xs, h1, h2, h3⟩ := h
  exact ⟨n, xs, h1, ownsRow_below h2 hb, h3⟩

/-- What is no block of attributes may turn. -/
theorem EvOK.frame {base : Nat} {w w' : World} {v : Value} (h : EvOK base w v) (hk : ∀ (g : Nat) (cur : Array Value), w.heap[g]? = some (Obj.cells cur 59 (0, 0)) → w'.heap[g]? = w.heap[g]?) : EvOK base w' v := by
  obtain ⟨n, xs, h1, h2, h3⟩ := h
  exact ⟨n, xs, h1, ownsRow_frame h2 hk, h3⟩

theorem EvOK.oneCell {base : Nat} {w : World} {v : Value} (h : EvOK base w v) : v.oneCell' = true := by
  obtain ⟨n, xs, _, h2, _⟩ := h
  rcases h2.2 with ⟨rfl, _⟩ | ⟨g, cap, cur, rfl, _⟩ <;> rfl

section
variable {base : Nat} {w w' : World} {B M c : Nat} {wv : Value} {s : BoxSt}

theorem BoxIn.below (h : BoxIn base w B M wv c s) (hb : Below w.heap.size w w') : BoxIn base w' B M wv c s :=
  ⟨h.hB, h.hM, (hb.block B (Array.getElem?_eq_some_iff.1 h.blk).1).trans h.blk, (hb.block M h.map.lt).trans h.map, ownsRow_below h.row hb, fun x hx => (h.evs x hx).below hb, h.ints⟩
theorem BoxAt.below (h : BoxAt base w B s) (hb : Below w.heap.size w w') : BoxAt base w' B s := by
  obtain ⟨M, wv, c, h⟩ := h
  exact ⟨M, wv, c, h.below hb⟩
theorem drewN_below (w : World) (n : Nat) : Below w.heap.size w (w.drewN n) := by
  induction n with
  | zero => exact Below.refl _ _
  | succ n ih => exact ⟨rfl, rfl, rfl, Nat.le_refl _, fun _ _ => rfl⟩
theorem BoxIn.cell (h : BoxIn base w B M wv c s) (i : Nat) : w.cell? ⟨B, i, none⟩ = (#[Value.int .i64 s.most, .int .i64 s.first, wv, .map (some M)] : Array Value)[i]? := by
  simp [World.cell?, h.blk]
theorem BoxIn.free (h : BoxIn base w B M wv c s) (i : Nat) : w.frozen? ⟨B, i, none⟩ = false := by
  simp [World.frozen?, h.blk]
theorem BoxIn.lt (h : BoxIn base w B M wv c s) : B < w.heap.size := (Array.getElem?_eq_some_iff.1 h.blk).1
theorem BoxIn.slice (h : BoxIn base w B M wv c s) : ∃ A cc, wv = .slice A s.ents.length cc := by
  rcases h.row.2 with ⟨rfl, hn⟩ | ⟨g, cap, cur, rfl, _⟩
  · exact ⟨none, 0, by rw [hn]⟩
  · exact ⟨_, _, rfl⟩
end

end Go.Proofs.YthapeellcbeecaaDoor
