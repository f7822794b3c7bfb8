/-
  The reference's list of packets: how it lies in memory; Count. Own work.
-/
import Derived.Test.YtgibpiakeaplbaaDoorNetHelp
set_option linter.unusedSimpArgs false
set_option linter.unusedVariables false
namespace Go.Proofs.YtgibpiakeaplbaaDoor
open Go Go.RowKit

/-- A packet of the reference's list: its way and its bytes' slice value. -/
abbrev RP := (Int × Int) × SlD
def rpCells (l : List RP) : List Value := l.flatMap fun p => [.int .i64 p.1.1, .int .i64 p.1.2, .slice p.2.1 p.2.2.1 p.2.2.2]
theorem rpCells_append (l m : List RP) : rpCells (l ++ m) = rpCells l ++ rpCells m := by simp [rpCells]
theorem rpCells_one (p : RP) : rpCells [p] = [.int .i64 p.1.1, .int .i64 p.1.2, .slice p.2.1 p.2.2.1 p.2.2.2] := rfl
theorem rpCells_len (l : List RP) : (rpCells l).length = l.length * 3 := by
  induction l with
  | nil => rfl
  | cons y l ih =>
    have e : rpCells (y :: l) = [.int .i64 y.1.1, .int .i64 y.1.2, .slice y.2.1 y.2.2.1 y.2.2.2] ++ rpCells l := rfl
    rw [e, List.length_append, ih]; simp; omega
theorem rpCells_at (x : RP) : ∀ (l : List RP) (i : Nat), l[i]? = some x → (rpCells l)[i * 3]? = some (.int .i64 x.1.1) ∧ (rpCells l)[i * 3 + 1]? = some (.int .i64 x.1.2) ∧ (rpCells l)[i * 3 + 2]? = some (.slice x.2.1 x.2.2.1 x.2.2.2) := by
  intro l
  induction l with
  | nil => intro i h; simp at h
  | cons y l ih =>
    intro i h
    have e : rpCells (y :: l) = [.int .i64 y.1.1, .int .i64 y.1.2, .slice y.2.1 y.2.2.1 y.2.2.2] ++ rpCells l := rfl
    rw [e]
    cases i with
    | zero => simp at h; subst h; simp
    | succ i =>
      have := ih i (by simpa using h)
      have e1 : (i + 1) * 3 = i * 3 + 3 := by omega
      rw [e1, List.getElem?_append_right (by simp), List.getElem?_append_right (by simp), List.getElem?_append_right (by simp)]
      simpa using this

/-- The list lies in memory. -/
def PackAt (w : World) (A : Option Addr) (l : List RP) : Prop := ∀ i x, l[i]? = some x → ∃ g, A = some ⟨g, 0, none⟩ ∧ w.cell? ⟨g, i * 3, none⟩ = some (.int .i64 x.1.1) ∧ w.cell? ⟨g, i * 3 + 1, none⟩ = some (.int .i64 x.1.2) ∧ w.cell? ⟨g, i * 3 + 2, none⟩ = some (.slice x.2.1 x.2.2.1 x.2.2.2)
theorem PackAt.below {w w' : World} {A : Option Addr} {l : List RP} (h : PackAt w A l) (hb : Below w.heap.size w w') : PackAt w' A l := fun i x hx => by
  obtain ⟨g, e, h1, h2, h3⟩ := h i x hx
  have hg : g < w.heap.size := World.block_lt_of_cell? w _ h1
  exact ⟨g, e, (hb.cell (p := ⟨g, i * 3, none⟩) hg).trans h1, (hb.cell (p := ⟨g, i * 3 + 1, none⟩) hg).trans h2, (hb.cell (p := ⟨g, i * 3 + 2, none⟩) hg).trans h3⟩
theorem packAt_row {w : World} {base : Nat} {A : Option Addr} {n c : Nat} {l : List RP} (h : w.ownsRow base 47 3 (.slice A n c) n (rpCells l)) : PackAt w A l := fun i x hi => by
  obtain ⟨c0, c1, c2⟩ := rpCells_at x l i hi
  have hln : (rpCells l).length = n * 3 := h.1
  have hlt2 : i * 3 + 2 < n * 3 := by rw [← hln]; exact (List.getElem?_eq_some_iff.1 c2).1
  rcases h.2 with ⟨hv, hn⟩ | ⟨g, cap, cur, hv, hg, hh, h3, h4, h5, h6⟩
  · omega
  · injection hv with hA _ _
    have hc : ∀ j u, (rpCells l)[j]? = some u → w.cell? ⟨g, j, none⟩ = some u := fun j u hu => by
      have hj : j < n * 3 := by rw [← hln]; exact (List.getElem?_eq_some_iff.1 hu).1
      have e : w.cell? ⟨g, j, none⟩ = cur[j]? := by simp [World.cell?, hh]
      rw [e, ← hu, ← h6, List.getElem?_take, if_pos hj]; simp
    exact ⟨g, hA, hc _ _ c0, hc _ _ c1, hc _ _ c2⟩

def cnt (k : Int × Int) (l : List RP) : Nat := (l.map (·.1)).count k
theorem cnt_snoc (k : Int × Int) (l : List RP) (x : RP) : cnt k (l ++ [x]) = cnt k l + if x.1 = k then 1 else 0 := by
  simp [cnt, List.count_append, List.count_singleton]
theorem cnt_le (k : Int × Int) (l : List RP) : cnt k l ≤ l.length := by
  have := List.count_le_length (a := k) (l := l.map (·.1)); simpa [cnt] using this

set_option maxHeartbeats 1000000 in
theorem count_any (A : Option Addr) (n c : Nat) (l : List RP) (hl : l.length = n) (hn : n ≤ 100000) (k : Int × Int) (w : World) (h : PackAt w A l) :
    Calls Tryd.prog 25 #[.slice A n c, .int .i64 k.1, .int .i64 k.2] w fun e w' => e = .returned (.int .i64 (cnt k l)) ∧ Below w.heap.size w w' := by
  have HP := Lib.hid h
  have HL : Hid (l.length = n ∧ n ≤ 100000) := ⟨hl, hn⟩
  clear h hl hn
  go_enter Tryd.func25, Tryd.ntmps25
  go_wp2
  go_loopw [7, 12] (fun t i wr => ∃ (j : Nat), j ≤ n ∧ i = .int .i64 j ∧ t = .int .i64 (cnt k (l.take j)) ∧ Hid (Below w.heap.size w wr)) (fun _ i _ => n - (intOf i).toNat)
  case atStart => exact ⟨0, Nat.zero_le _, rfl, by simp [cnt], Below.refl _ _⟩
  case round =>
    obtain ⟨j, hj, rfl, rfl, HS⟩ := hrel
    by_cases hlt : j < n
    · obtain ⟨x, hx⟩ : ∃ x, Hid (l[j]? = some x) := ⟨_, List.getElem?_eq_getElem (by have := HL.out; omega)⟩
      obtain ⟨g, rfl, d0, d1, d2⟩ := (HP.out.below HS.out) j x hx.out
      have htake : l.take (j + 1) = l.take j ++ [x] := by
        obtain ⟨h7, h8⟩ := List.getElem?_eq_some_iff.1 hx.out
        rw [← h8, List.take_append_getElem]
      obtain ⟨q, hq⟩ : ∃ q, Hid (cnt k (l.take j) = q ∧ q ≤ 100000) := ⟨_, rfl, Nat.le_trans (cnt_le _ _) (by simp; have := HL.out; omega)⟩
      rw [hq.out.1]
      have hcs : cnt k (l.take (j + 1)) = q + if x.1 = k then 1 else 0 := by rw [htake, cnt_snoc, hq.out.1]
      have hw1 : IntKind.i64.wrap ((j : Int) + 1) = ((j + 1 : Nat) : Int) := by have := HL.out; rw [IntKind.wrap_i64]; omega
      have hw2 : IntKind.i64.wrap ((q : Int) + 1) = ((q + 1 : Nat) : Int) := by have := hq.out; rw [IntKind.wrap_i64]; omega
      have hlt2 : ((j : Nat) : Int) < n := by omega
      have hb0 : ((0 : Int) ≤ j) := by omega
      have hbd : Hid (∀ o, Below w.heap.size w (wr.alloc o)) := fun o => HS.out.alloc HS.out.size o
      by_cases h1 : x.1.1 = k.1
      · by_cases h2 : x.1.2 = k.2
        · have e : x.1 = k := Prod.ext h1 h2
          rw [if_pos e] at hcs
          have e1 : decide (x.1.1 = k.1) = true := by simp [h1]
          have e2 : decide (x.1.2 = k.2) = true := by simp [h2]
          clear e
          go_wp2
          exact ⟨⟨j + 1, hlt, rfl, by rw [hcs]; rfl, hbd.out _⟩, by simp [intOf]; omega⟩
        · have e : x.1 ≠ k := fun e => h2 (by rw [e])
          rw [if_neg e] at hcs
          have e1 : decide (x.1.1 = k.1) = true := by simp [h1]
          have e2 : decide (x.1.2 = k.2) = false := by simp [h2]
          clear e
          go_wp2
          exact ⟨⟨j + 1, hlt, rfl, by rw [hcs]; rfl, hbd.out _⟩, by simp [intOf]; omega⟩
      · have e : x.1 ≠ k := fun e => h1 (by rw [e])
        rw [if_neg e] at hcs
        have e1 : decide (x.1.1 = k.1) = false := by simp [h1]
        clear e
        go_wp2
        exact ⟨⟨j + 1, hlt, rfl, by rw [hcs]; rfl, hbd.out _⟩, by simp [intOf]; omega⟩
    · have hjn : j = n := by omega
      subst hjn
      have e : l.take j = l := by rw [← HL.out.1]; exact List.take_length
      rw [e]
      go_wp2
      go_ret
      exact ⟨rfl, HS.out⟩
end Go.Proofs.YtgibpiakeaplbaaDoor
