/-
  The reference's list as it lies in memory: what append and a cut read. Own work.
-/
import Derived.Test.YtgibpiakeaplbaaDoorNetPlaceR
set_option linter.unusedSimpArgs false
set_option linter.unusedVariables false
namespace Go.Proofs.YtgibpiakeaplbaaDoor
open Go Go.RowKit

structure LstAt (w : World) (A : Option Addr) (n c : Nat) (l : List RP) : Prop where
  len : l.length = n
  cap : n ≤ c
  nil : A = none → n = 0
  cells : ∀ ad, A = some ad → ∃ g, ad = ⟨g, 0, none⟩ ∧ ∀ j u, (rpCells l)[j]? = some u → w.cell? ⟨g, j, none⟩ = some u
  typ : ∀ ad, A = some ad → ∃ cur, w.heap[ad.block]? = some (.cells cur 47 (0, 0))

theorem LstAt.below {w w' : World} {A : Option Addr} {n c : Nat} {l : List RP} (h : LstAt w A n c l) (hb : Below w.heap.size w w') : LstAt w' A n c l :=
  ⟨h.len, h.cap, h.nil, fun ad e => by
    obtain ⟨g, e2, h2⟩ := h.cells ad e
    exact ⟨g, e2, fun j u hu => (hb.cell (p := ⟨g, j, none⟩) (World.block_lt_of_cell? w _ (h2 j u hu))).trans (h2 j u hu)⟩, fun ad e => by
    obtain ⟨cur, h2⟩ := h.typ ad e
    exact ⟨cur, (hb.block _ (Array.getElem?_eq_some_iff.1 h2).1).trans h2⟩⟩
theorem LstAt.keep {w w' : World} {A : Option Addr} {n c : Nat} {l : List RP} (h : LstAt w A n c l) (hk : KeepC w w') : LstAt w' A n c l :=
  ⟨h.len, h.cap, h.nil, fun ad e => by
    obtain ⟨g, e2, h2⟩ := h.cells ad e
    obtain ⟨cur, h3⟩ := h.typ ad e
    subst e2
    exact ⟨g, rfl, fun j u hu => (World.cell?_of_block (w := w) (a := ⟨g, j, none⟩) ((hk g cur _ _ h3 (by decide)).trans h3.symm)).trans (h2 j u hu)⟩, fun ad e => by
    obtain ⟨cur, h3⟩ := h.typ ad e
    exact ⟨cur, hk _ cur _ _ h3 (by decide)⟩⟩
theorem LstAt.pack {w : World} {A : Option Addr} {n c : Nat} {l : List RP} (h : LstAt w A n c l) : PackAt w A l := fun i x hi => by
  cases A with
  | none =>
    have := h.nil rfl
    have h2 := (List.getElem?_eq_some_iff.1 hi).1
    have := h.len
    omega
  | some ad =>
    obtain ⟨g, rfl, h2⟩ := h.cells ad rfl
    obtain ⟨c0, c1, c2⟩ := rpCells_at x l i hi
    exact ⟨g, rfl, h2 _ _ c0, h2 _ _ c1, h2 _ _ c2⟩
theorem LstAt.nil0 (w : World) : LstAt w none 0 0 [] := ⟨rfl, Nat.le_refl _, fun _ => rfl, fun ad e => (by cases e), fun ad e => (by cases e)⟩
theorem LstAt.row {w : World} {base : Nat} {A : Option Addr} {n c : Nat} {l : List RP} (h : w.ownsRow base 47 3 (.slice A n c) n (rpCells l)) : LstAt w A n c l := by
  have hln : (rpCells l).length = n * 3 := h.1
  have hl : l.length = n := by rw [rpCells_len] at hln; omega
  rcases h.2 with ⟨hv, hn⟩ | ⟨g, cap, cur, hv, hg, hh, h3, h4, h5, h6⟩
  · injection hv with hA _ hc
    subst hA
    exact ⟨hl, by omega, fun _ => hn, fun ad e => (by cases e), fun ad e => (by cases e)⟩
  · injection hv with hA _ hc
    subst hA hc
    refine ⟨hl, h3, fun e => (by cases e), fun ad e => ?_, fun ad e => (by cases e; exact ⟨cur, hh⟩)⟩
    cases e
    refine ⟨g, rfl, fun j u hu => ?_⟩
    have hj : j < n * 3 := by rw [← hln]; exact (List.getElem?_eq_some_iff.1 hu).1
    have e : w.cell? ⟨g, j, none⟩ = cur[j]? := by simp [World.cell?, hh]
    rw [e, ← hu, ← h6, List.getElem?_take, if_pos hj]; simp

theorem rpCells_one_cell (l : List RP) : ∀ u ∈ rpCells l, u.oneCell' = true := fun u hu => by
  simp only [rpCells, List.mem_flatMap] at hu
  obtain ⟨p, _, h⟩ := hu
  simp at h
  rcases h with rfl | rfl | rfl <;> rfl

theorem rpCells_cons (x : RP) (l : List RP) : rpCells (x :: l) = [.int .i64 x.1.1, .int .i64 x.1.2, .slice x.2.1 x.2.2.1 x.2.2.2] ++ rpCells l := rfl
theorem rpCells_take (l : List RP) (i : Nat) : rpCells (l.take i) = (rpCells l).take (i * 3) := by
  induction l generalizing i with
  | nil => simp [rpCells]
  | cons x l ih =>
    cases i with
    | zero => simp [rpCells]
    | succ i =>
      rw [List.take_succ_cons, rpCells_cons, rpCells_cons, ih, show (i + 1) * 3 = i * 3 + 3 by omega, List.take_append]
      simp
theorem rpCells_drop (l : List RP) (i : Nat) : rpCells (l.drop i) = (rpCells l).drop (i * 3) := by
  induction l generalizing i with
  | nil => simp [rpCells]
  | cons x l ih =>
    cases i with
    | zero => simp
    | succ i =>
      rw [List.drop_succ_cons, rpCells_cons, ih, show (i + 1) * 3 = i * 3 + 3 by omega, List.drop_append]
      simp

/-- The first i packets, as the cut reads them. -/
theorem LstAt.firsts {w : World} {g n c : Nat} {l : List RP} (h : LstAt w (some ⟨g, 0, none⟩) n c l) (i : Nat) : ∀ j u, (rpCells (l.take i))[j]? = some u → w.cell? ((⟨g, 0, none⟩ : Addr).add j) = some u := fun j u hu => by
  obtain ⟨g', e, h2⟩ := h.cells _ rfl
  cases e
  rw [rpCells_take, List.getElem?_take] at hu
  split at hu
  · rw [Addr.add_lit]; simpa using h2 j u hu
  · cases hu
/-- The packets behind i, as the cut reads them. -/
theorem LstAt.lasts {w : World} {g n c : Nat} {l : List RP} (h : LstAt w (some ⟨g, 0, none⟩) n c l) (i : Nat) : ∀ j u, (rpCells (l.drop i))[j]? = some u → w.cell? ((⟨g, i * 3, none⟩ : Addr).add j) = some u := fun j u hu => by
  obtain ⟨g', e, h2⟩ := h.cells _ rfl
  cases e
  rw [rpCells_drop, List.getElem?_drop] at hu
  rw [Addr.add_lit]; simpa using h2 _ u hu
/-- The cut behind i, run. -/
theorem cut_run (g n c i : Nat) (hi : i ≤ n) (hc : n ≤ c) : ∃ ad c', (ad = (⟨g, 0, none⟩ : Addr) ∨ ad = ⟨g, i * 3, none⟩) ∧ (ad = ⟨g, i * 3, none⟩ ∨ n - i = 0) ∧ ∀ W : World, (Instr.slice 26 (.slice (some ⟨g, 0, none⟩) n c) (some (.int .i64 i)) none none).run Tryd.prog W = .ok (.slice (some ad) (n - i) c') W := by
  have hs : ∀ W : World, (sizeOf (Tryd.prog.elem 26)).run Tryd.prog W = .ok 3 W := fun W => by kernel_rfl
  by_cases e : c = i
  · refine ⟨⟨g, 0, none⟩, c - i, .inl rfl, .inr (by omega), fun W => ?_⟩
    rw [run_slice_l (t := 26) (ht := by kernel_rfl) (h0 := by omega) (h1 := by omega), hs]
    simp [sliced, e]
  · refine ⟨⟨g, i * 3, none⟩, c - i, .inr rfl, .inl rfl, fun W => ?_⟩
    rw [run_slice_l (t := 26) (ht := by kernel_rfl) (h0 := by omega) (h1 := by omega), hs]
    simp [sliced, e, Addr.add]
    omega
end Go.Proofs.YtgibpiakeaplbaaDoor
