/-
  net: slices.Delete of one place in a row of slices. Own work (over the kit's contract of slices.Delete).
-/
import Derived.Test.YtgibpiakeaplbaaDoorDel
import Derived.Test.YtgibpiakeaplbaaDoorNetPlace
set_option linter.unusedSimpArgs false
set_option linter.unusedVariables false
namespace Go.Proofs.YtgibpiakeaplbaaDoor
open Go Go.RowKit Go.Sort

abbrev SlD := Option Addr × Nat × Nat
def encS (x : SlD) : Value := .slice x.1 x.2.1 x.2.2

theorem slice_info : ∃ i0, Tryd.prog.info? 27 = some i0 ∧ i0.size = 1 := by
  have h : (Tryd.prog.info? 27).map (fun i => i.size) = some 1 := by kernel_rfl
  cases hi : Tryd.prog.info? 27 with
  | none => rw [hi] at h; cases h
  | some i => rw [hi] at h; exact ⟨i, rfl, by simpa using h⟩
theorem slice_zero (w : World) : (zeroValue 27).run Tryd.prog w = .ok (encS (none, 0, 0)) w := by kernel_rfl

theorem del_any (base g cap n i : Nat) (l : List SlD) (w : World) (hown : w.ownsRow base 27 1 (.slice (some ⟨g, 0, none⟩) n cap) n (l.map encS)) (hi : i < n) :
    Calls Tryd.prog 31 #[.slice (some ⟨g, 0, none⟩) n cap, .int .i64 (i : Nat), .int .i64 ((i + 1 : Nat) : Int)] w fun e w' => e = .returned (.slice (some ⟨g, 0, none⟩) (n - 1) cap) ∧
      w'.ownsRow base 27 1 (.slice (some ⟨g, 0, none⟩) (n - 1) cap) (n - 1) ((l.eraseIdx i).map encS) ∧ w.grownBy w' (some g) ∧ w'.heap.size = w.heap.size := by
  obtain ⟨i0, hi0, hz1⟩ := slice_info
  have hlen : l.length = n := by have := hown.1; simpa using this
  subst hlen
  rcases hown.2 with ⟨h2, _⟩ | ⟨g', cap', cur, hv, hg, hh, h3, h4, h5, h6⟩
  · cases h2
  · injection hv with hv _ hcap
    injection hv with hv
    injection hv with hv _ _
    subst hv hcap
    have hcur : ∀ j, j < l.length → cur[j]? = (l.map encS)[j]? := fun j hj => by
      rw [← h6, List.getElem?_take, if_pos (by omega)]; simp
    have hsz : l.length ≤ cur.size := by omega
    have hH : Holds encS w g 0 l.toArray := by
      intro j hj
      have hj' : j < l.length := by simpa using hj
      refine ⟨?_, by simp [World.frozen?, hh]⟩
      have hc : w.cell? ⟨g, 0 + j, none⟩ = cur[j]? := by simp [World.cell?, hh]
      rw [hc, hcur j hj']
      simp [hj']
    have hcon := AnyE.slices_Delete (ρ := Tryd.delRows_ren) Tryd.delRows encS (fun _ => rfl) (none, 0, 0) slice_zero i0 hi0 hz1 g 0 cap i (i + 1) l.toArray w hH (by simpa using h3) (Nat.le_trans h4 (by decide)) (by omega) (by simp; omega)
    simp only [List.size_toArray] at hcon
    change Calls Tryd.prog 31 _ _ _ at hcon
    refine hcon.mono ?_
    rintro e w' ⟨rfl, q, rfl⟩
    have hdl : ((l.take i ++ l.drop (i + 1)) ++ List.replicate (i + 1 - i) ((none, 0, 0) : SlD)).length = l.length := by simp; omega
    have hle : (l.eraseIdx i).length = l.length - 1 := by rw [List.length_eraseIdx, if_pos hi]
    have hblk : (putRow encS (Sort.ahead w q) g 0 ((l.take i ++ l.drop (i + 1)) ++ List.replicate (i + 1 - i) ((none, 0, 0) : SlD)).toArray).heap[g]? = some (.cells (putCells encS 0 ((l.take i ++ l.drop (i + 1)) ++ List.replicate (i + 1 - i) ((none, 0, 0) : SlD)).toArray cur) 27 (0, 0)) := by
      show (w.heap.modify g _)[g]? = _
      rw [Array.getElem?_modify, if_pos rfl, hh]; rfl
    refine ⟨by simp, ⟨by simp [hle], .inr ⟨g, cap, _, by simp, hg, hblk, by omega, h4, by simp [putCells, h5], ?_⟩⟩, ⟨rfl, rfl, rfl, by simp [putRow, mapBlock, Sort.ahead], fun k hk hne => ?_⟩, by simp [putRow, mapBlock, Sort.ahead]⟩
    · apply List.ext_getElem?
      intro j
      rw [List.getElem?_take]
      by_cases hj : j < (l.length - 1) * 1
      · rw [if_pos hj]
        have hjl : j < l.length - 1 := by omega
        have hjc : j < cur.size := by omega
        have e1 : (putCells encS 0 ((l.take i ++ l.drop (i + 1)) ++ List.replicate (i + 1 - i) ((none, 0, 0) : SlD)).toArray cur).toList[j]? = some (encS (((l.take i ++ l.drop (i + 1)) ++ List.replicate (i + 1 - i) ((none, 0, 0) : SlD)).toArray[j]!)) := by
          simp only [putCells, Array.getElem?_toList, Array.getElem?_mapIdx, Array.getElem?_eq_getElem hjc, Option.map_some]
          rw [if_pos ⟨Nat.zero_le _, by simp only [List.size_toArray, hdl]; omega⟩]
          simp
        rw [e1]
        rw [List.getElem?_map, ← List.eraseIdx_eq_take_drop_succ]
        have hje : j < (l.eraseIdx i).length := by omega
        rw [List.getElem?_eq_getElem hje]
        have : ((l.eraseIdx i ++ List.replicate (i + 1 - i) ((none, 0, 0) : SlD)).toArray[j]!) = (l.eraseIdx i)[j] := by
          rw [getElem!_pos _ j (by simp; omega)]
          simp [List.getElem_append, hje]
        rw [this]; rfl
      · rw [if_neg hj, List.getElem?_eq_none (by simp [hle]; omega)]
    · show (w.heap.modify g _)[k]? = _
      rw [Array.getElem?_modify, if_neg (fun e => hne (by rw [e]))]
end Go.Proofs.YtgibpiakeaplbaaDoor
