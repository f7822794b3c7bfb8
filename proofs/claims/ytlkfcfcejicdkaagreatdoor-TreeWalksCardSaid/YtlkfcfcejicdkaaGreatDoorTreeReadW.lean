/-
  tree: a graph that is handed in, and the lengths of its lists (the walk weighs them). Own work.
-/
import Derived.Test.YtlkfcfcejicdkaaGreatDoorTreeLate
set_option linter.unusedSimpArgs false
set_option linter.unusedVariables false
set_option maxRecDepth 100000
namespace Go.Proofs.YtlkfcfcejicdkaaGreatDoor
open Go Go.RowKit Go.ChangeShapes Go.WideShapes Go.Deep Go.Joins

section
variable {H : Type} {enc : TypeId × Value → H} {w : World} {base : Nat} {spare : Nat → Bool} {held : Bool} {n : Nat}
theorem read_ints_w {v : Value} {x : DataW H × List MemPlace} (h : DataW.trod enc Tryz.prog w base spare held n 22 [v] = some x) (hw : ∀ q ∈ x.1.weights Tryz.prog 22, q ≤ reachBytes) :
    ∃ A c, ∃ l : List Int, v = .slice A l.length c ∧ RowAt w A (intVs l) ∧ l.length ≤ 140737488351232 := by
  obtain ⟨A, c, l, rfl, hb⟩ := read_ints h
  refine ⟨A, c, l, rfl, hb, ?_⟩
  have hB : Tryz.prog.bytesOf 3 = 8 := by kernel_rfl
  rcases open_slice Tryz.underlying22 h with ⟨hv, _⟩ | ⟨a, len, cap, m, n', D, Pl, hv, hb, hl, hm, hmm, hx, hi⟩
  · simp at hv
    rw [hv.2.1]; simp
  · simp at hv
    have h1 := hw ((len + (m - len)) * 8) (by
      rw [hx]
      unfold DataW.weights
      rw [Tryz.underlying22]
      simp [hB])
    unfold reachBytes at h1
    omega
theorem read_links_w {v : Value} {x : DataW H × List MemPlace} (h : DataW.trod enc Tryz.prog w base spare held n 23 [v] = some x) (hw : ∀ q ∈ x.1.weights Tryz.prog 23, q ≤ reachBytes) :
    ∃ A c, ∃ l : List Lk, v = .slice A l.length c ∧ RowAt w A (lkCells l) ∧ l.length ≤ 140737488351232 := by
  obtain ⟨A, c, l, rfl, hb⟩ := read_links h
  refine ⟨A, c, l, rfl, hb, ?_⟩
  have hB : Tryz.prog.bytesOf 35 = 16 := by kernel_rfl
  rcases open_slice Tryz.underlying23 h with ⟨hv, _⟩ | ⟨a, len, cap, m, n', D, Pl, hv, hb, hl, hm, hmm, hx, hi⟩
  · simp at hv
    rw [hv.2.1]; simp
  · simp at hv
    have h1 := hw ((len + (m - len)) * 16) (by
      rw [hx]
      unfold DataW.weights
      rw [Tryz.underlying23]
      simp [hB])
    unfold reachBytes at h1
    omega
theorem read_graph1_w {cs : List Value} {x : DataW H × List MemPlace} (h : DataW.trod enc Tryz.prog w base spare held n 25 cs = some x) (hw : ∀ q ∈ x.1.weights Tryz.prog 25, q ≤ reachBytes) : ∃ Am cm Al cl, ∃ (ms : List Int) (ls : List Lk), cs = [.slice Am ms.length cm, .slice Al ls.length cl] ∧ GrAt w Am ms.length Al ls.length ms ls ∧ ms.length ≤ 140737488351232 ∧ ls.length ≤ 140737488351232 := by
  obtain ⟨xs, m, _, hx, hl, hlen, hf⟩ := DataW.trod_struct Tryz.underlying25 h
  have hC : Tryz.prog.cellsOf 25 = 2 := by kernel_rfl
  have c3 : Tryz.prog.cellsOf 22 = 1 := by kernel_rfl
  have c4 : Tryz.prog.cellsOf 23 = 1 := by kernel_rfl
  rw [hC] at hl
  match cs, hl, xs, hlen with
  | [v0, v1], _, [y0, y1], _ =>
    have h0 : DataW.trod enc Tryz.prog w base spare held m 22 (([v0, v1].drop 0).take (Tryz.prog.cellsOf 22)) = some y0 := hf 0 _ rfl
    have h1 : DataW.trod enc Tryz.prog w base spare held m 23 (([v0, v1].drop 1).take (Tryz.prog.cellsOf 23)) = some y1 := hf 1 _ rfl
    simp only [c3] at h0
    simp only [c4] at h1
    obtain ⟨Am, cm, ms, rfl, hr, hle⟩ := read_ints_w (v := v0) h0 (fun q hq => hw q (by
      rw [hx]
      unfold DataW.weights
      rw [Tryz.underlying25]
      simp [DataW.weightsEach, hq]))
    obtain ⟨Al, cl, ls, rfl, hq, hle2⟩ := read_links_w (v := v1) h1 (fun q hq => hw q (by
      rw [hx]
      unfold DataW.weights
      rw [Tryz.underlying25]
      simp [DataW.weightsEach, hq]))
    exact ⟨Am, cm, Al, cl, ms, ls, rfl, ⟨rfl, rfl, hr, hq⟩, hle, hle2⟩
end
section
variable {H : Type} {enc : TypeId × Value → H} {w : World} {spare : Nat → Bool} {held : Bool} {base : Nat} {d : DataW H} {p : List MemPlace} {v : Value}
theorem read_graphVw (hok : Value.okWide Tryz.prog w .any base 25 v) (h : DataW.Trod enc Tryz.prog w 0 spare held 25 v d p) (hw : ∀ q ∈ d.weights Tryz.prog 25, q ≤ reachBytes) : ∃ Am cm Al cl, ∃ (ms : List Int) (ls : List Lk), v = grV Am ms.length cm Al ls.length cl ∧ GrAt w Am ms.length Al ls.length ms ls ∧ ms.length ≤ 140737488351232 ∧ ls.length ≤ 140737488351232 := by
  obtain ⟨cs, rfl, _⟩ := okWide_struct Tryz.underlying25 hok
  obtain ⟨fuel, hf⟩ := h
  obtain ⟨Am, cm, Al, cl, ms, ls, h1, h2⟩ := read_graph1_w hf hw
  refine ⟨Am, cm, Al, cl, ms, ls, ?_, h2⟩
  obtain ⟨l⟩ := cs
  have h3 : l = _ := h1
  rw [h3]
end
end Go.Proofs.YtlkfcfcejicdkaaGreatDoor
