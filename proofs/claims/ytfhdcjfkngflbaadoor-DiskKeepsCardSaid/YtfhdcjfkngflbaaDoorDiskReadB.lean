/-
  disk: an argument of bytes read as the walks want them. Own work.
-/
import Derived.Test.YtfhdcjfkngflbaaDoorDiskTwo
import Derived.Deep.Slices
import Derived.Deep.Strs
import Derived.Lib.SmallJoins
import Derived.ChangeSame
import Derived.ProofKit
set_option linter.unusedSimpArgs false
set_option linter.unusedVariables false
namespace Go.Proofs.YtfhdcjfkngflbaaDoor
open Go Go.RowKit Go.ChangeShapes Go.WideShapes Go.Deep Go.Joins

section
variable {H : Type} {enc : TypeId × Value → H} {w : World} {base : Nat} {spare : Nat → Bool} {held : Bool} {n : Nat}

theorem read_byte {v : Value} {x : DataW H × List MemPlace} (h : DataW.trod enc Tryd.prog w base spare held n 5 [v] = some x) : ∃ b : UInt8, v = byteV b := by
  obtain ⟨k, e0, _, h1⟩ := DataW.trod_int Tryd.underlying5 h
  have h2 : 0 ≤ k ∧ k < 256 := by
    simp [Lit.wf, IntKind.min, IntKind.max, IntKind.signed, IntKind.bits] at h1
    omega
  refine ⟨UInt8.ofNat k.toNat, ?_⟩
  simp at e0
  subst e0
  have e : (UInt8.ofNat k.toNat).toNat = k.toNat := by
    rw [UInt8.toNat_ofNat']
    omega
  unfold byteV
  rw [e, Int.toNat_of_nonneg h2.1]

theorem read_bytes {v : Value} {x : DataW H × List MemPlace} (h : DataW.trod enc Tryd.prog w base spare held n 28 [v] = some x) :
    ∃ A c, ∃ l : List UInt8, v = .slice A l.length c ∧ BytesAt w A l := by
  have hC : Tryd.prog.cellsOf 5 = 1 := by kernel_rfl
  rcases open_slice Tryd.underlying28 h with ⟨hv, _⟩ | ⟨a, len, cap, m, n', D, Pl, hv, hb, hl, hm, hmm, hx, hi⟩
  · simp at hv
    subst hv
    exact ⟨none, 0, [], rfl, fun _ => rfl, fun ad e => by cases e⟩
  · simp at hv
    subst hv
    have hlm : len ≤ m := by rw [hmm]; split <;> omega
    rw [hC] at hi
    have hex : ∀ i, i < len → ∃ b : UInt8, w.cells? base (a.add (i * 1)) 1 = some [byteV b] := by
      intro i hil
      obtain ⟨cs', h1, h2⟩ := hi i (by omega)
      have hl1 := (World.cells?_some h1).2.1
      match cs', hl1 with
      | [v0], _ =>
        obtain ⟨b, rfl⟩ := read_byte h2
        exact ⟨b, h1⟩
    obtain ⟨f, hf⟩ := @choose_lt UInt8 ⟨0⟩ len _ hex
    refine ⟨some a, cap, (List.range len).map f, by simp, fun h => (by cases h), fun ad e j u hu => ?_⟩
    cases e
    have hjl : j < len := by have := (List.getElem?_eq_some_iff.1 hu).1; simpa [byteVs] using this
    have hcells := hf j hjl
    obtain ⟨_, _, hc⟩ := World.cells?_some hcells
    have h0 := hc 0 (by omega)
    have e : u = byteV (f j) := by
      simp [byteVs, List.getElem?_map, List.getElem?_range hjl] at hu
      exact hu.symm
    rw [e]
    have e2 : (a.add (j * 1)).add 0 = a.add j := by simp [Addr.add]
    rw [e2] at h0
    simpa using h0

end
end Go.Proofs.YtfhdcjfkngflbaaDoor
