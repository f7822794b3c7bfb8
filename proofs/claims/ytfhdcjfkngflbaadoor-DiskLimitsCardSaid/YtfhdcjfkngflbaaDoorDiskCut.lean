/-
  disk: shorten, Cut. Own work.
-/
import Derived.Test.YtfhdcjfkngflbaaDoorDiskSync
set_option linter.unusedSimpArgs false
set_option linter.unusedVariables false
namespace Go.Proofs.YtfhdcjfkngflbaaDoor
open Go Go.RowKit
open Go.ChangeMaps (setBlock)

/-- Pieces from the end, so many bytes fewer. -/
def shortR : List (Int × Int) → Int → List (Int × Int)
  | [], _ => []
  | p :: l, g => if g ≤ 0 then p :: l else if p.2 ≤ g then shortR l (g - p.2) else (p.1, p.2 - g) :: l
def shortL (l : List (Int × Int)) (g : Int) : List (Int × Int) := (shortR l.reverse g).reverse
theorem shortL_zero (l : List (Int × Int)) (g : Int) (hg : g ≤ 0) : shortL l g = l := by
  unfold shortL
  cases h : l.reverse with
  | nil => have := congrArg List.reverse h; simp at this; simp [this, shortR]
  | cons p r =>
    have := congrArg List.reverse h
    rw [List.reverse_reverse] at this
    simp only [shortR, if_pos hg]
    exact this.symm
theorem shortL_nil (g : Int) : shortL [] g = [] := rfl
theorem shortL_drop (l : List (Int × Int)) (p : Int × Int) (g : Int) (hg : 0 < g) (h : p.2 ≤ g) : shortL (l ++ [p]) g = shortL l (g - p.2) := by
  unfold shortL
  simp [shortR, Int.not_le.2 hg, h]
theorem shortL_part (l : List (Int × Int)) (p : Int × Int) (g : Int) (hg : 0 < g) (h : ¬ p.2 ≤ g) : shortL (l ++ [p]) g = l ++ [(p.1, p.2 - g)] := by
  unfold shortL
  simp [shortR, Int.not_le.2 hg, h]

theorem DRow.cut {w : World} {A : Option Addr} {c : Nat} {bs : List UInt8} (h : DRow w (.slice A bs.length c) bs) (m : Nat) (hm : m ≤ bs.length) : DRow w (.slice A m m) (bs.take m) ∧ m ≤ c := by
  rcases h with ⟨hv, hb⟩ | ⟨g, cap, cur, hv, hh, h1, h2, h3, h4⟩
  · injection hv with hA hl hc
    subst hb hA
    have : m = 0 := by simpa using hm
    subst this
    exact ⟨.inl ⟨rfl, rfl⟩, Nat.zero_le _⟩
  · injection hv with hA hl hc
    subst hA hc
    refine ⟨.inr ⟨g, m, cur, by rw [List.length_take, Nat.min_eq_left hm], hh, by rw [List.length_take]; omega, by omega, by omega, ?_⟩, by omega⟩
    rw [List.length_take, Nat.min_eq_left hm]
    have e : cur.toList.take m = (cur.toList.take bs.length).take m := by rw [List.take_take, Nat.min_eq_left hm]
    rw [e, h4]
    simp [byteVs, List.map_take]

/-- The length of the slice in a file's second cell. -/
def lenAt (w : World) (F : Nat) : Nat := match w.cell? ⟨F, 1, none⟩ with
  | some (.slice _ n _) => n
  | _ => 0

/-- A row of pieces, its last one turned or gone. -/
theorem pieces_last {w : World} {A : Option Addr} {c : Nat} {l : List (Int × Int)} {p : Int × Int} (h : w.ownsRow 0 57 2 (.slice A (l.length + 1) c) (l.length + 1) (pieceCells (l ++ [p]))) :
    ∃ g, A = some ⟨g, 0, none⟩ ∧ g < w.heap.size ∧ w.cell? ⟨g, l.length * 2, none⟩ = some (.int .i64 p.1) ∧ w.cell? ⟨g, l.length * 2 + 1, none⟩ = some (.int .i64 p.2) ∧ (∀ i, w.frozen? ⟨g, i, none⟩ = false) ∧ l.length + 1 ≤ c ∧
      ∀ m : Int, (w.setCell ⟨g, l.length * 2 + 1, none⟩ (.int .i64 m)).ownsRow 0 57 2 (.slice A (l.length + 1) c) (l.length + 1) (pieceCells (l ++ [(p.1, m)])) ∧
        (w.setCell ⟨g, l.length * 2 + 1, none⟩ (.int .i64 m)).ownsRow 0 57 2 (.slice A l.length c) l.length (pieceCells l) := by
  obtain ⟨g, hA, hg, d0, d1⟩ := piece_row h l.length p (by simp)
  subst hA
  rcases h.2 with ⟨hv, hn⟩ | ⟨g', cap, cur, hv, hb, hh, h3, h4, h5, h6⟩
  · cases hv
  · injection hv with hA _ hc
    injection hA with hA
    injection hA with hA _ _
    subst hA hc
    have hlen : (pieceCells l).length = l.length * 2 := pieceCells_len l
    have hsz : l.length * 2 + 1 < cur.size := by omega
    have hset : ∀ m : Int, (w.setCell ⟨g, l.length * 2 + 1, none⟩ (.int .i64 m)).heap[g]? = some (.cells (cur.setIfInBounds (l.length * 2 + 1) (.int .i64 m)) 57 (0, 0)) := fun m => setCell_cells hh
    have htk : cur.toList.take (l.length * 2) = pieceCells l := by
      have e : cur.toList.take (l.length * 2) = (cur.toList.take ((l.length + 1) * 2)).take (l.length * 2) := by rw [List.take_take]; congr 1; omega
      rw [e, h6, pieceCells_append, ← hlen, List.take_left]
    refine ⟨g, rfl, hg, d0, d1, fun i => by simp [World.frozen?, hh], h3, fun m => ⟨⟨by rw [pieceCells_len]; simp, .inr ⟨g, c, _, rfl, Nat.zero_le _, hset m, h3, h4, by simpa using h5, ?_⟩⟩, ⟨by rw [pieceCells_len], .inr ⟨g, c, _, rfl, Nat.zero_le _, hset m, by omega, h4, by simpa using h5, ?_⟩⟩⟩⟩
    · rw [Array.toList_setIfInBounds, List.take_set, h6, pieceCells_append, pieceCells_append, List.set_append_right _ _ (by omega), hlen]
      congr 1
      have e : l.length * 2 + 1 - l.length * 2 = 1 := by omega
      rw [e]; rfl
    · rw [Array.toList_setIfInBounds, List.take_set_of_le (by omega), htk]
end Go.Proofs.YtfhdcjfkngflbaaDoor
