/-
  net: stores into a row of bytes that is no packet of the net leave the net as it was. Own work.
-/
import Derived.Test.YtgibpiakeaplbaaDoorNetCounts
set_option linter.unusedSimpArgs false
set_option linter.unusedVariables false
namespace Go.Proofs.YtgibpiakeaplbaaDoor
open Go Go.RowKit

/-- Only block o has turned; none is new. -/
structure Touch (o : Option Nat) (w w' : World) : Prop where
  os : w'.os = w.os
  tape : w'.tape = w.tape
  output : w'.output = w.output
  size : w'.heap.size = w.heap.size
  block : ∀ k, o ≠ some k → w'.heap[k]? = w.heap[k]?
theorem Touch.refl (o : Option Nat) (w : World) : Touch o w w := ⟨rfl, rfl, rfl, rfl, fun _ _ => rfl⟩
theorem Touch.trans {o : Option Nat} {a b c : World} (h : Touch o a b) (k : Touch o b c) : Touch o a c :=
  ⟨k.os.trans h.os, k.tape.trans h.tape, k.output.trans h.output, k.size.trans h.size, fun i hi => (k.block i hi).trans (h.block i hi)⟩
theorem Touch.set (w : World) (g i : Nat) (v : Value) : Touch (some g) w (w.setCell ⟨g, i, none⟩ v) :=
  ⟨rfl, rfl, rfl, by simp [World.setCell], fun k hk => Below.heap_setCell w ⟨g, i, none⟩ v k (fun e => hk (by rw [e]))⟩
theorem Touch.below {o : Option Nat} {w w' : World} {base : Nat} (h : Touch o w w') (hg : ∀ g, o = some g → base ≤ g) : Below base w w' :=
  ⟨h.os, h.tape, h.output, by rw [h.size]; exact Nat.le_refl _, fun k hk => h.block k (fun e => by have := hg k e; omega)⟩
theorem Touch.row {o : Option Nat} {w w' : World} {base : Nat} {e : TypeId} {size n : Nat} {v : Value} {xs : List Value} (h : Touch o w w') (hr : w.ownsRow base e size v n xs) (hv : ∀ g, v.ownBlock = some g → o ≠ some g) : w'.ownsRow base e size v n xs :=
  ownsRow_keep hr fun k cur hk _ => h.block k (hv k hk)

theorem NetIn.touch {base : Nat} {o : Option Nat} {w w' : World} {B M c : Nat} {L : List (MEnt (Int × Int))} {S : Int × Int → List Pkt} (h : NetIn base w B M c L S) (hg : ∀ g, o = some g → ∃ cur fr, w.heap[g]? = some (.cells cur 5 fr)) (hp : ∀ k, ∀ p ∈ S k, ∀ g, p.1.ownBlock = some g → o ≠ some g) (ht : Touch o w w') : NetIn base w' B M c L S := by
  refine ⟨h.hB, h.hM, (ht.block B ?_).trans h.blk, (ht.block M ?_).trans h.map, h.wf, fun k => ?_, fun k p hp' => ht.row (h.pk k p hp') (hp k p hp'), h.apart, h.most, h.nodes, h.lens⟩
  · intro e
    obtain ⟨cur, fr, hg⟩ := hg _ e
    rw [h.blk] at hg; injection hg with hg; injection hg with _ hg _; exact absurd hg (by decide)
  · intro e
    obtain ⟨cur, fr, hg⟩ := hg _ e
    have := h.map; unfold MapAt at this; rw [this] at hg; cases hg
  · have hr := h.row k
    cases hv : lkV k L with
    | none => rw [hv] at hr; exact hr
    | some v =>
      rw [hv] at hr
      refine ⟨hr.1, ht.row hr.2 fun g e e2 => ?_⟩
      obtain ⟨cur', hh, _⟩ := own_block hr.2 e
      obtain ⟨cur, fr, hg⟩ := hg _ e2
      rw [hg] at hh; injection hh with hh; injection hh with _ hh _; exact absurd hh (by decide)
theorem NetAt.touch {base : Nat} {o : Option Nat} {w w' : World} {B : Nat} {S : Int × Int → List Pkt} (h : NetAt base w B S) (hg : ∀ g, o = some g → ∃ cur fr, w.heap[g]? = some (.cells cur 5 fr)) (hp : ∀ k, ∀ p ∈ S k, ∀ g, p.1.ownBlock = some g → o ≠ some g) (ht : Touch o w w') : NetAt base w' B S := by
  obtain ⟨M, c, L, h⟩ := h
  exact ⟨M, c, L, h.touch hg hp ht⟩

/-- A row of numbers of one byte each. -/
def Nums (base : Nat) (w : World) (v : Value) (n : Nat) : Prop := ∃ xs : List Int, w.ownsRow base 5 1 v n (xs.map (.int .u8))

theorem PktOK.nums {base : Nat} {w : World} {p : Pkt} (h : PktOK base w p) : Nums base w p.1 p.2.length := ⟨p.2.map fun b => (b.toNat : Int), by
  have e : (p.2.map fun b => (b.toNat : Int)).map (.int .u8) = byteVs p.2 := by simp [byteVs, byteV]
  rw [e]; exact h⟩

theorem Nums.cell {base : Nat} {w : World} {A : Option Addr} {n c : Nat} (h : Nums base w (.slice A n c) n) {j : Nat} (hj : j < n) : ∃ g x, A = some ⟨g, 0, none⟩ ∧ base ≤ g ∧ w.cell? ⟨g, j, none⟩ = some (.int .u8 x) ∧ w.frozen? ⟨g, j, none⟩ = false ∧ (∃ cur, w.heap[g]? = some (.cells cur 5 (0, 0))) ∧
    ∀ y : Int, Nums base (w.setCell ⟨g, j, none⟩ (.int .u8 y)) (.slice A n c) n := by
  obtain ⟨xs, hr⟩ := h
  have hlen : xs.length = n := by have := hr.1; simpa using this
  rcases hr.2 with ⟨hv, hn⟩ | ⟨g, cap, cur, hv, hg, hh, h3, h4, h5, h6⟩
  · omega
  · injection hv with hA _ hc
    subst hA hc
    have hx : xs[j]? = some xs[j] := List.getElem?_eq_getElem (by omega)
    have hcur : cur[j]? = some (.int .u8 xs[j]) := by
      have e : (cur.toList.take (n * 1))[j]? = some (.int .u8 xs[j]) := by rw [h6, List.getElem?_map, hx]; rfl
      rw [List.getElem?_take, if_pos (by omega)] at e
      simpa using e
    refine ⟨g, xs[j], rfl, hg, by simp [World.cell?, hh, hcur], by simp [World.frozen?, hh], ⟨cur, hh⟩, fun y => ⟨xs.set j y, by simp [hlen], .inr ⟨g, c, cur.setIfInBounds j (.int .u8 y), rfl, hg, ?_, h3, h4, by simpa using h5, ?_⟩⟩⟩
    · show (w.heap.modify g _)[g]? = _
      rw [Array.getElem?_modify, if_pos rfl, hh]; rfl
    · rw [List.map_set, ← h6]
      simp [List.take_set]
end Go.Proofs.YtgibpiakeaplbaaDoor
