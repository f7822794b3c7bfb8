/-
  BoxOrders: its arguments, read as the walk wants them. Own work.
-/
import Derived.Test.YthapeellcbeecaaDoorBoxLaw
import Derived.Deep.Slices
import Derived.Deep.Strs
import Derived.Lib.SmallJoins
import Derived.ChangeSame
import Derived.ProofKit
set_option linter.unusedSimpArgs false
set_option linter.unusedVariables false
namespace Go.Proofs.YthapeellcbeecaaDoor
open Go Go.RowKit Go.ChangeShapes Go.WideShapes Go.Deep Go.Joins

section
variable {H : Type} {enc : TypeId × Value → H} {w : World} {base : Nat} {spare : Nat → Bool} {held : Bool} {n : Nat}

theorem len1 {cs : List Value} {k : Nat} (h : cs.length = k) (i : Nat) (hi : i < k) : ∃ v, (cs.drop i).take 1 = [v] ∧ cs[i]? = some v := by
  refine ⟨cs[i]'(by omega), ?_, List.getElem?_eq_getElem (by omega)⟩
  rw [List.drop_eq_getElem_cons (by omega)]
  rfl

theorem read_value {cs : List Value} {x : DataW H × List MemPlace} (h : DataW.trod enc Tryd.prog w base spare held n 57 cs = some x) :
    ∃ k i s b, cs = [.int .i64 k, .int .i64 i, .string s, .bool b] := by
  obtain ⟨y0, y1, y2, y3, m, hx, hl, h0, h1, h2, h3⟩ := trod_struct4 Tryd.underlying57 h
  have hC : Tryd.prog.cellsOf 57 = 4 := by kernel_rfl
  have c3 : Tryd.prog.cellsOf 3 = 1 := by kernel_rfl
  have c2 : Tryd.prog.cellsOf 2 = 1 := by kernel_rfl
  have c9 : Tryd.prog.cellsOf 9 = 1 := by kernel_rfl
  have c4 : Tryd.prog.cellsOf 4 = 1 := by kernel_rfl
  rw [hC] at hl
  simp only [c3, c2, c9, c4] at h0 h1 h2 h3
  match cs, hl with
  | [v0, v1, v2, v3], _ =>
    obtain ⟨k, e0, _⟩ := DataW.trod_int Tryd.underlying3 h0
    obtain ⟨i, e1, _⟩ := DataW.trod_int Tryd.underlying2 h1
    obtain ⟨s, e2, _⟩ := DataW.trod_string Tryd.underlying9 h2
    obtain ⟨b, e3, _⟩ := DataW.trod_bool Tryd.underlying4 h3
    simp at e0 e1 e2 e3
    subst e0 e1 e2 e3
    exact ⟨k, i, s, b, rfl⟩

theorem read_attr {cs : List Value} {x : DataW H × List MemPlace} (h : DataW.trod enc Tryd.prog w base spare held n 59 cs = some x) :
    ∃ a : AttrD, cs = [.string a.name, .int .i64 a.k, .int .i64 a.i, .string a.s, .bool a.b] := by
  obtain ⟨y0, y1, m, hx, hl, h0, h1⟩ := trod_struct2 Tryd.underlying59 h
  have hC : Tryd.prog.cellsOf 59 = 5 := by kernel_rfl
  have c9 : Tryd.prog.cellsOf 9 = 1 := by kernel_rfl
  have c57 : Tryd.prog.cellsOf 57 = 4 := by kernel_rfl
  rw [hC] at hl
  simp only [c9, c57] at h0 h1
  match cs, hl with
  | [v0, v1, v2, v3, v4], _ =>
    obtain ⟨s, e0, _⟩ := DataW.trod_string Tryd.underlying9 h0
    obtain ⟨k, i, s', b, e1⟩ := read_value h1
    simp at e0 e1
    obtain ⟨rfl, rfl, rfl, rfl⟩ := e1
    subst e0
    exact ⟨⟨s, k, i, s', b⟩, rfl⟩

/-- A slice's address, where it has an element, is plain; its elements' cells. -/
theorem plain_addr {a : Addr} {k : Nat} {cs : List Value} (h : w.cells? base (a.add (0 * k)) k = some cs) (hk : 0 < k) : a = ⟨a.block, a.off, none⟩ := by
  obtain ⟨_, hl, hc⟩ := World.cells?_some h
  have := hc 0 hk
  rw [Nat.zero_mul] at this
  have e : (a.add 0).add 0 = a := by simp [Addr.add]
  rw [e] at this
  rw [List.getElem?_eq_getElem (by omega)] at this
  obtain ⟨b, o, s⟩ := a
  cases s with
  | none => rfl
  | some s => simp [World.cell?] at this; split at this <;> cases this

theorem read_event {v : Value} {x : DataW H × List MemPlace} (h : DataW.trod enc Tryd.prog w base spare held n 30 [v] = some x) :
    ∃ A c, ∃ l : List AttrD, v = .slice A l.length c ∧ Attrs w A l ∧ (A = none → l.length = 0) ∧ l.length ≤ 9223372036854775807 := by
  have hC : Tryd.prog.cellsOf 59 = 5 := by kernel_rfl
  rcases open_slice Tryd.underlying30 h with ⟨hv, _⟩ | ⟨a, len, cap, m, n', D, Pl, hv, hb, hl, hm, hmm, hx, hi⟩
  · simp at hv
    subst hv
    exact ⟨none, 0, [], rfl, attrs_nil w, fun _ => rfl, by simp⟩
  · simp at hv
    subst hv
    have hlm : len ≤ m := by rw [hmm]; split <;> omega
    rw [hC] at hi
    have hex : ∀ i, i < len → ∃ at_ : AttrD, w.cells? base (a.add (i * 5)) 5 = some [.string at_.name, .int .i64 at_.k, .int .i64 at_.i, .string at_.s, .bool at_.b] := by
      intro i hil
      obtain ⟨cs', h1, h2⟩ := hi i (by omega)
      obtain ⟨at_, rfl⟩ := read_attr h2
      exact ⟨at_, h1⟩
    obtain ⟨f, hf⟩ := @choose_lt AttrD ⟨⟨⟨#[]⟩, 0, 0, ⟨#[]⟩, false⟩⟩ len _ hex
    refine ⟨some a, cap, (List.range len).map f, by simp, ?_, fun h => (by cases h), by simp; unfold maxLen at hm; omega⟩
    intro hpos
    have hpos' : 0 < len := by simpa using hpos
    have ha := plain_addr (hf 0 hpos') (by omega)
    refine ⟨a.block, a.off, by rw [← ha], fun j at_ hj => ?_⟩
    have hjl : j < len := by have := (List.getElem?_eq_some_iff.1 hj).1; simpa using this
    have hjf : at_ = f j := by
      rw [List.getElem?_map, List.getElem?_range hjl] at hj
      simpa using hj.symm
    subst hjf
    have hcells := hf j hjl
    rw [ha] at hcells
    obtain ⟨_, _, hc⟩ := World.cells?_some hcells
    have e : ∀ i, ((⟨a.block, a.off, none⟩ : Addr).add (j * 5)).add i = ⟨a.block, a.off + j * 5 + i, none⟩ := fun i => by rw [Addr.add_lit, Addr.add_lit]
    refine ⟨?_, ?_, ?_, ?_, ?_⟩
    · have := hc 0 (by omega); rw [e] at this; simpa using this
    · have := hc 1 (by omega); rw [e] at this; simpa using this
    · have := hc 2 (by omega); rw [e] at this; simpa using this
    · have := hc 3 (by omega); rw [e] at this; simpa using this
    · have := hc 4 (by omega); rw [e] at this; simpa using this

set_option maxRecDepth 100000 in
theorem read_op {cs : List Value} {x : DataW H × List MemPlace} (h : DataW.trod enc Tryd.prog w base spare held n 32 cs = some x) :
    ∃ o : OpD, cs = [.int .i64 o.kind, .int .i64 o.node, .int .i64 o.pub, .int .i64 o.n, .slice o.eA o.el.length o.ec] ∧ Attrs w o.eA o.el ∧ (o.eA = none → o.el.length = 0) ∧ o.el.length ≤ 9223372036854775807 := by
  obtain ⟨xs, m, _, hx, hl, hlen, hf⟩ := DataW.trod_struct Tryd.underlying32 h
  have hC : Tryd.prog.cellsOf 32 = 5 := by kernel_rfl
  have c3 : Tryd.prog.cellsOf 3 = 1 := by kernel_rfl
  have c30 : Tryd.prog.cellsOf 30 = 1 := by kernel_rfl
  rw [hC] at hl
  match cs, hl, xs, hlen with
  | [v0, v1, v2, v3, v4], _, [y0, y1, y2, y3, y4], _ =>
    have h0 : DataW.trod enc Tryd.prog w base spare held m 3 (([v0, v1, v2, v3, v4].drop 0).take (Tryd.prog.cellsOf 3)) = some y0 := hf 0 _ rfl
    have h1 : DataW.trod enc Tryd.prog w base spare held m 3 (([v0, v1, v2, v3, v4].drop 1).take (Tryd.prog.cellsOf 3)) = some y1 := hf 1 _ rfl
    have h2 : DataW.trod enc Tryd.prog w base spare held m 3 (([v0, v1, v2, v3, v4].drop 2).take (Tryd.prog.cellsOf 3)) = some y2 := hf 2 _ rfl
    have h3 : DataW.trod enc Tryd.prog w base spare held m 3 (([v0, v1, v2, v3, v4].drop 3).take (Tryd.prog.cellsOf 3)) = some y3 := hf 3 _ rfl
    have h4 : DataW.trod enc Tryd.prog w base spare held m 30 (([v0, v1, v2, v3, v4].drop 4).take (Tryd.prog.cellsOf 30)) = some y4 := hf 4 _ rfl
    simp only [c3] at h0 h1 h2 h3
    simp only [c30] at h4
    obtain ⟨k0, e0, _⟩ := DataW.trod_int Tryd.underlying3 h0
    obtain ⟨k1, e1, _⟩ := DataW.trod_int Tryd.underlying3 h1
    obtain ⟨k2, e2, _⟩ := DataW.trod_int Tryd.underlying3 h2
    obtain ⟨k3, e3, _⟩ := DataW.trod_int Tryd.underlying3 h3
    obtain ⟨A, c, l, e4, hat, hn, hle⟩ := read_event (v := v4) h4
    simp at e0 e1 e2 e3
    subst e0 e1 e2 e3 e4
    exact ⟨⟨k0, k1, k2, k3, A, c, l⟩, rfl, hat, hn, hle⟩

set_option maxRecDepth 100000 in
theorem read_ops {v : Value} {x : DataW H × List MemPlace} (h : DataW.trod enc Tryd.prog w base spare held n 22 [v] = some x) :
    ∃ A c, ∃ l : List OpD, v = .slice A l.length c ∧ Ops w A l ∧ l.length ≤ 9223372036854775807 := by
  have hC : Tryd.prog.cellsOf 32 = 5 := by kernel_rfl
  rcases open_slice Tryd.underlying22 h with ⟨hv, _⟩ | ⟨a, len, cap, m, n', D, Pl, hv, hb, hl, hm, hmm, hx, hi⟩
  · simp at hv
    subst hv
    exact ⟨none, 0, [], rfl, fun h => by simp at h, by simp⟩
  · simp at hv
    subst hv
    have hlm : len ≤ m := by rw [hmm]; split <;> omega
    rw [hC] at hi
    have hex : ∀ i, i < len → ∃ o : OpD, w.cells? base (a.add (i * 5)) 5 = some [.int .i64 o.kind, .int .i64 o.node, .int .i64 o.pub, .int .i64 o.n, .slice o.eA o.el.length o.ec] ∧ Attrs w o.eA o.el ∧ (o.eA = none → o.el.length = 0) ∧ o.el.length ≤ 9223372036854775807 := by
      intro i hil
      obtain ⟨cs', h1, h2⟩ := hi i (by omega)
      obtain ⟨o, rfl, h3⟩ := read_op h2
      exact ⟨o, h1, h3⟩
    obtain ⟨f, hf⟩ := @choose_lt OpD ⟨⟨0, 0, 0, 0, none, 0, []⟩⟩ len _ hex
    refine ⟨some a, cap, (List.range len).map f, by simp, ?_, by simp; unfold maxLen at hm; omega⟩
    intro hpos
    have hpos' : 0 < len := by simpa using hpos
    have ha := plain_addr (hf 0 hpos').1 (by omega)
    refine ⟨a.block, a.off, by rw [← ha], fun j o hj => ?_⟩
    have hjl : j < len := by have := (List.getElem?_eq_some_iff.1 hj).1; simpa using this
    have hjf : o = f j := by
      rw [List.getElem?_map, List.getElem?_range hjl] at hj
      simpa using hj.symm
    subst hjf
    obtain ⟨hcells, hrest⟩ := hf j hjl
    rw [ha] at hcells
    obtain ⟨_, _, hc⟩ := World.cells?_some hcells
    have e : ∀ i, ((⟨a.block, a.off, none⟩ : Addr).add (j * 5)).add i = ⟨a.block, a.off + j * 5 + i, none⟩ := fun i => by rw [Addr.add_lit, Addr.add_lit]
    refine ⟨?_, ?_, ?_, ?_, ?_, hrest⟩
    · have := hc 0 (by omega); rw [e] at this; simpa using this
    · have := hc 1 (by omega); rw [e] at this; simpa using this
    · have := hc 2 (by omega); rw [e] at this; simpa using this
    · have := hc 3 (by omega); rw [e] at this; simpa using this
    · have := hc 4 (by omega); rw [e] at this; simpa using this
end
end Go.Proofs.YthapeellcbeecaaDoor
