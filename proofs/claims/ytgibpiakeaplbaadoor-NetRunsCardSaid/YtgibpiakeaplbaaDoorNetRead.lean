/-
  net: arguments that are slices of bytes, and lists of those, read as the walk wants them. Own work.
-/
import Derived.Test.YtgibpiakeaplbaaDoorNetCounts
import Derived.Deep.Slices
import Derived.Deep.Strs
import Derived.Lib.SmallJoins
import Derived.ChangeSame
import Derived.ProofKit
set_option linter.unusedSimpArgs false
set_option linter.unusedVariables false
namespace Go.Proofs.YtgibpiakeaplbaaDoor
open Go Go.RowKit Go.ChangeShapes Go.WideShapes Go.Deep Go.Joins

section
variable {H : Type} {enc : TypeId × Value → H} {w : World} {base : Nat} {spare : Nat → Bool} {held : Bool} {n : Nat}

theorem plain_addr {a : Addr} {k : Nat} {cs : List Value} (h : w.cells? base (a.add (0 * k)) k = some cs) (hk : 0 < k) : a = ⟨a.block, a.off, none⟩ := by
  obtain ⟨_, hl, hc⟩ := World.cells?_some h
  have := hc 0 hk
  rw [Nat.zero_mul] at this
  have e : (a.add 0).add 0 = a := by simp [Addr.add]
  rw [e] at this
  rw [List.getElem?_eq_getElem (by omega)] at this
  obtain ⟨b, o, s⟩ := a
  cases s with
  | none => rfl
  | some s => simp [World.cell?] at this; split at this <;> cases this

theorem read_byte {v : Value} {x : DataW H × List MemPlace} (h : DataW.trod enc Tryd.prog w base spare held n 5 [v] = some x) : ∃ b : UInt8, v = byteV b := by
  obtain ⟨k, e0, _, h1⟩ := DataW.trod_int Tryd.underlying5 h
  have h2 : 0 ≤ k ∧ k < 256 := by
    simp [Lit.wf, IntKind.min, IntKind.max, IntKind.signed, IntKind.bits] at h1
    omega
  refine ⟨UInt8.ofNat k.toNat, ?_⟩
  simp at e0
  subst e0
  have e : (UInt8.ofNat k.toNat).toNat = k.toNat := by
    rw [UInt8.toNat_ofNat']
    omega
  unfold byteV
  rw [e, Int.toNat_of_nonneg h2.1]

theorem read_bytes {v : Value} {x : DataW H × List MemPlace} (h : DataW.trod enc Tryd.prog w base spare held n 27 [v] = some x) :
    ∃ A c, ∃ l : List UInt8, v = .slice A l.length c ∧ BytesAt w A l := by
  have hC : Tryd.prog.cellsOf 5 = 1 := by kernel_rfl
  rcases open_slice Tryd.underlying27 h with ⟨hv, _⟩ | ⟨a, len, cap, m, n', D, Pl, hv, hb, hl, hm, hmm, hx, hi⟩
  · simp at hv
    subst hv
    exact ⟨none, 0, [], rfl, fun _ => rfl, fun ad e => by cases e⟩
  · simp at hv
    subst hv
    have hlm : len ≤ m := by rw [hmm]; split <;> omega
    rw [hC] at hi
    have hex : ∀ i, i < len → ∃ b : UInt8, w.cells? base (a.add (i * 1)) 1 = some [byteV b] := by
      intro i hil
      obtain ⟨cs', h1, h2⟩ := hi i (by omega)
      have hl1 := (World.cells?_some h1).2.1
      match cs', hl1 with
      | [v0], _ =>
        obtain ⟨b, rfl⟩ := read_byte h2
        exact ⟨b, h1⟩
    obtain ⟨f, hf⟩ := @choose_lt UInt8 ⟨0⟩ len _ hex
    refine ⟨some a, cap, (List.range len).map f, by simp, fun h => (by cases h), fun ad e j u hu => ?_⟩
    cases e
    have hjl : j < len := by have := (List.getElem?_eq_some_iff.1 hu).1; simpa [byteVs] using this
    have hcells := hf j hjl
    obtain ⟨_, _, hc⟩ := World.cells?_some hcells
    have h0 := hc 0 (by omega)
    have e : u = byteV (f j) := by
      simp [byteVs, List.getElem?_map, List.getElem?_range hjl] at hu
      exact hu.symm
    rw [e]
    have e2 : (a.add (j * 1)).add 0 = a.add j := by simp [Addr.add]
    rw [e2] at h0
    simpa using h0

theorem read_rows {v : Value} {x : DataW H × List MemPlace} (h : DataW.trod enc Tryd.prog w base spare held n 56 [v] = some x) :
    ∃ A c, ∃ l : List (List UInt8), v = .slice A l.length c ∧ SlicesAt w A l := by
  have hC : Tryd.prog.cellsOf 27 = 1 := by kernel_rfl
  rcases open_slice Tryd.underlying56 h with ⟨hv, _⟩ | ⟨a, len, cap, m, n', D, Pl, hv, hb, hl, hm, hmm, hx, hi⟩
  · simp at hv
    subst hv
    exact ⟨none, 0, [], rfl, fun i p hp => by simp at hp⟩
  · simp at hv
    subst hv
    have hlm : len ≤ m := by rw [hmm]; split <;> omega
    rw [hC] at hi
    have hex : ∀ i, i < len → ∃ q : List UInt8 × Option Addr × Nat, w.cells? base (a.add (i * 1)) 1 = some [.slice q.2.1 q.1.length q.2.2] ∧ BytesAt w q.2.1 q.1 := by
      intro i hil
      obtain ⟨cs', h1, h2⟩ := hi i (by omega)
      have hl1 := (World.cells?_some h1).2.1
      match cs', hl1 with
      | [v0], _ =>
        obtain ⟨A, c, l, rfl, hb⟩ := read_bytes h2
        exact ⟨⟨l, A, c⟩, h1, hb⟩
    obtain ⟨f, hf⟩ := @choose_lt (List UInt8 × Option Addr × Nat) ⟨([], none, 0)⟩ len _ hex
    refine ⟨some a, cap, (List.range len).map fun i => (f i).1, by simp, fun j p hp => ?_⟩
    have hjl : j < len := by have := (List.getElem?_eq_some_iff.1 hp).1; simpa using this
    have ha := plain_addr (hf 0 (by omega)).1 (by omega)
    obtain ⟨hcells, hby⟩ := hf j hjl
    have e : p = (f j).1 := by
      simp [List.getElem?_map, List.getElem?_range hjl] at hp
      exact hp.symm
    subst e
    rw [ha] at hcells
    obtain ⟨_, _, hc⟩ := World.cells?_some hcells
    have h0 := hc 0 (by omega)
    refine ⟨a.block, a.off, (f j).2.1, (f j).2.2, by rw [← ha], ?_, hby⟩
    have e2 : ((⟨a.block, a.off, none⟩ : Addr).add (j * 1)).add 0 = ⟨a.block, a.off + j, none⟩ := by rw [Addr.add_lit, Addr.add_lit]; simp
    rw [e2] at h0
    simpa using h0
end
end Go.Proofs.YtgibpiakeaplbaaDoor
