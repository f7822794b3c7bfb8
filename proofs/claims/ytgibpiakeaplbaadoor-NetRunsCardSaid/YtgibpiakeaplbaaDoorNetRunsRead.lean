/-
  NetRuns: its argument, read as the walk wants it. Own work.
-/
import Derived.Test.YtgibpiakeaplbaaDoorNetRuns
import Derived.Test.YtgibpiakeaplbaaDoorNetRead
set_option linter.unusedSimpArgs false
set_option linter.unusedVariables false
namespace Go.Proofs.YtgibpiakeaplbaaDoor
open Go Go.RowKit Go.ChangeShapes Go.WideShapes Go.Deep Go.Joins

section
variable {H : Type} {enc : TypeId × Value → H} {w : World} {base : Nat} {spare : Nat → Bool} {held : Bool} {n : Nat}

theorem weight_all {P : Program} {e : TypeId} {d : DataW H} {q : Nat} : ∀ {ds : List (DataW H)}, d ∈ ds → q ∈ d.weights P e → q ∈ DataW.weightsAll P e ds
  | [], h, _ => absurd h (by simp)
  | x :: ds, h, hq => by
    unfold DataW.weightsAll
    rcases List.mem_cons.1 h with rfl | h
    · exact List.mem_append_left _ hq
    · exact List.mem_append_right _ (weight_all h hq)

theorem read_bytes_w {v : Value} {x : DataW H × List MemPlace} (h : DataW.trod enc Tryd.prog w base spare held n 27 [v] = some x) (hw : ∀ q ∈ x.1.weights Tryd.prog 27, q ≤ reachBytes) :
    ∃ A c, ∃ l : List UInt8, v = .slice A l.length c ∧ BytesAt w A l ∧ l.length ≤ 140737488351232 := by
  obtain ⟨A, c, l, rfl, hb⟩ := read_bytes h
  refine ⟨A, c, l, rfl, hb, ?_⟩
  have hB : Tryd.prog.bytesOf 5 = 1 := by kernel_rfl
  rcases open_slice Tryd.underlying27 h with ⟨hv, _⟩ | ⟨a, len, cap, m, n', D, Pl, hv, hb, hl, hm, hmm, hx, hi⟩
  · simp at hv
    rw [hv.2.1]; simp
  · simp at hv
    have h1 := hw ((len + (m - len)) * 1) (by
      rw [hx]
      unfold DataW.weights
      rw [Tryd.underlying27]
      simp [hB])
    unfold reachBytes at h1
    omega

set_option maxRecDepth 100000 in
theorem read_nop {cs : List Value} {x : DataW H × List MemPlace} (h : DataW.trod enc Tryd.prog w base spare held n 29 cs = some x) (hw : ∀ q ∈ x.1.weights Tryd.prog 29, q ≤ reachBytes) :
    ∃ o : NOp, cs = [.int .i64 o.kind, .int .i64 o.k1, .int .i64 o.k2, .int .i64 o.i, .slice o.A o.p.length o.c] ∧ BytesAt w o.A o.p ∧ o.p.length ≤ 140737488351232 := by
  obtain ⟨xs, m, _, hx, hl, hlen, hf⟩ := DataW.trod_struct Tryd.underlying29 h
  have hC : Tryd.prog.cellsOf 29 = 5 := by kernel_rfl
  have c3 : Tryd.prog.cellsOf 3 = 1 := by kernel_rfl
  have c30 : Tryd.prog.cellsOf 27 = 1 := by kernel_rfl
  rw [hC] at hl
  match cs, hl, xs, hlen with
  | [v0, v1, v2, v3, v4], _, [y0, y1, y2, y3, y4], _ =>
    have h0 : DataW.trod enc Tryd.prog w base spare held m 3 (([v0, v1, v2, v3, v4].drop 0).take (Tryd.prog.cellsOf 3)) = some y0 := hf 0 _ rfl
    have h1 : DataW.trod enc Tryd.prog w base spare held m 3 (([v0, v1, v2, v3, v4].drop 1).take (Tryd.prog.cellsOf 3)) = some y1 := hf 1 _ rfl
    have h2 : DataW.trod enc Tryd.prog w base spare held m 3 (([v0, v1, v2, v3, v4].drop 2).take (Tryd.prog.cellsOf 3)) = some y2 := hf 2 _ rfl
    have h3 : DataW.trod enc Tryd.prog w base spare held m 3 (([v0, v1, v2, v3, v4].drop 3).take (Tryd.prog.cellsOf 3)) = some y3 := hf 3 _ rfl
    have h4 : DataW.trod enc Tryd.prog w base spare held m 27 (([v0, v1, v2, v3, v4].drop 4).take (Tryd.prog.cellsOf 27)) = some y4 := hf 4 _ rfl
    simp only [c3] at h0 h1 h2 h3
    simp only [c30] at h4
    obtain ⟨k0, e0, _⟩ := DataW.trod_int Tryd.underlying3 h0
    obtain ⟨k1, e1, _⟩ := DataW.trod_int Tryd.underlying3 h1
    obtain ⟨k2, e2, _⟩ := DataW.trod_int Tryd.underlying3 h2
    obtain ⟨k3, e3, _⟩ := DataW.trod_int Tryd.underlying3 h3
    obtain ⟨A, c, l, e4, hat, hle⟩ := read_bytes_w (v := v4) h4 (fun q hq => hw q (by
      rw [hx]
      unfold DataW.weights
      rw [Tryd.underlying29]
      simp [DataW.weightsEach, hq]))
    simp at e0 e1 e2 e3
    subst e0 e1 e2 e3 e4
    exact ⟨⟨k0, k1, k2, k3, A, c, l⟩, rfl, hat, hle⟩

set_option maxRecDepth 100000 in
theorem read_nops {v : Value} {x : DataW H × List MemPlace} (h : DataW.trod enc Tryd.prog w base spare held n 22 [v] = some x) (hw : ∀ q ∈ x.1.weights Tryd.prog 22, q ≤ reachBytes) :
    ∃ A c, ∃ l : List NOp, v = .slice A l.length c ∧ NOps w A l := by
  have hC : Tryd.prog.cellsOf 29 = 5 := by kernel_rfl
  rcases open_slice Tryd.underlying22 h with ⟨hv, _⟩ | ⟨a, len, cap, m, n', D, Pl, hv, hb, hl, hm, hmm, hx, hi⟩
  · simp at hv
    subst hv
    exact ⟨none, 0, [], rfl, fun j o h => by simp at h⟩
  · simp at hv
    subst hv
    have hlm : len ≤ m := by rw [hmm]; split <;> omega
    rw [hC] at hi
    have hex : ∀ i, i < len → ∃ o : NOp, w.cells? base (a.add (i * 5)) 5 = some [.int .i64 o.kind, .int .i64 o.k1, .int .i64 o.k2, .int .i64 o.i, .slice o.A o.p.length o.c] ∧ BytesAt w o.A o.p ∧ o.p.length ≤ 140737488351232 := by
      intro i hil
      obtain ⟨cs', h1, h2⟩ := hi i (by omega)
      obtain ⟨o, rfl, h3⟩ := read_nop h2 (fun q hq => hw q (by
        rw [hx]
        unfold DataW.weights
        rw [Tryd.underlying22]
        refine List.mem_cons_of_mem _ (List.mem_append_left _ (weight_all (d := D i) ?_ hq))
        exact List.mem_map.2 ⟨i, List.mem_range.2 hil, rfl⟩))
      exact ⟨o, h1, h3⟩
    obtain ⟨f, hf⟩ := @choose_lt NOp ⟨⟨0, 0, 0, 0, none, 0, []⟩⟩ len _ hex
    refine ⟨some a, cap, (List.range len).map f, by simp, fun j o hj => ?_⟩
    have hjl : j < len := by have := (List.getElem?_eq_some_iff.1 hj).1; simpa using this
    have ha := plain_addr (hf 0 (by omega)).1 (by omega)
    have hjf : o = f j := by
      rw [List.getElem?_map, List.getElem?_range hjl] at hj
      simpa using hj.symm
    subst hjf
    obtain ⟨hcells, hrest⟩ := hf j hjl
    rw [ha] at hcells
    obtain ⟨_, _, hc⟩ := World.cells?_some hcells
    have e : ∀ i, ((⟨a.block, a.off, none⟩ : Addr).add (j * 5)).add i = ⟨a.block, a.off + j * 5 + i, none⟩ := fun i => by rw [Addr.add_lit, Addr.add_lit]
    refine ⟨a.block, a.off, by rw [← ha], ?_, ?_, ?_, ?_, ?_, hrest⟩
    · have := hc 0 (by omega); rw [e] at this; simpa using this
    · have := hc 1 (by omega); rw [e] at this; simpa using this
    · have := hc 2 (by omega); rw [e] at this; simpa using this
    · have := hc 3 (by omega); rw [e] at this; simpa using this
    · have := hc 4 (by omega); rw [e] at this; simpa using this
end
end Go.Proofs.YtgibpiakeaplbaaDoor
