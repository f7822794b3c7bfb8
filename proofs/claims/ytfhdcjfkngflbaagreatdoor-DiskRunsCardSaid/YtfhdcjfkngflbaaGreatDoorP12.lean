/-
  disk: the law's 'ask' at two disks that go together: always true. Own work.
  disk: the law's 'step', walked, one kind each. Own work, printed by gen_step.py.
-/
import Derived.Test.YtfhdcjfkngflbaaGreatDoorDiskAsk
import Derived.Test.YtfhdcjfkngflbaaGreatDoorP6
import Derived.Deep.RegionWith
set_option linter.unusedSimpArgs false
set_option linter.unusedVariables false
namespace Go.Proofs.YtfhdcjfkngflbaaGreatDoor
open Go Go.RowKit

theorem ask_ok {base B n : Nat} {w : World} {v : Vw} {t : Int} {s : St} {A : Option Addr} {c : Nat} {L : List RF} {last : Int} {a : Int → Int} (hD : Dk base w B v t n s) (hC : Coup v t n L last a) (hR : RefD s.own w A n c L) (hg : ErrT w) (hT : ∀ f ∈ L, f.turn.length ≤ 10000) (k : ByteArray) :
    Calls Tryz.prog 9 #[.pointer (some ⟨B, 0, none⟩), .agg #[.slice A n c, .int .i64 last], .string k] w fun e w' => e = .returned (.bool true) ∧ Below w.heap.size w w' := by
  obtain ⟨_, _, _, _, hn⟩ := hD.keys
  obtain ⟨E, bs, h1, h2⟩ := pair_read hD hC hR hn hC.sorted k
  have h3 : ∀ W, Below w.heap.size w W → Calls Tryz.prog 24 #[errV E, eV E] W fun e w' => e = .returned (.bool true) ∧ Below W.heap.size W w' := fun W hW => fails_same E W (hg.below hW)
  have h4 : ∀ W, Below w.heap.size w W → Calls Tryz.prog 27 #[.pointer (some ⟨B, 0, none⟩)] W fun e w' => ∃ (A1 : Option Addr) (c1 : Nat), e = .returned (.slice A1 n c1) ∧ StrRow w' A1 (L.map (·.name)) ∧ Below W.heap.size W w' := fun W hW => by
    refine (dk_names (hD.below hW)).mono ?_
    rintro e w' ⟨A1, c1, ks, rfl, h5, h6, h7, h8, h9, h10⟩
    rw [hC.names h6 h7 h9] at h8
    exact ⟨A1, c1, rfl, strRow_of h8, h10⟩
  have h5 : ∀ W, Below w.heap.size w W → Calls Tryz.prog 8 #[.agg #[.slice A n c, .int .i64 last]] W fun e w' => ∃ (A1 : Option Addr) (c1 : Nat), e = .returned (.slice A1 n c1) ∧ StrRow w' A1 (L.map (·.name)) ∧ Below W.heap.size W w' := fun W hW => by
    refine (refnames_any s.own A n c L last W (hR.below hW) hn).mono ?_
    rintro e w' ⟨A1, c1, rfl, h⟩
    exact ⟨A1, c1, rfl, h.out.1, h.out.2⟩
  have h6 : ∀ W, Below w.heap.size w W → Calls Tryz.prog 12 #[.pointer (some ⟨B, 0, none⟩)] W fun e w' => e = .returned (.int .i64 (looseN L)) ∧ Below W.heap.size W w' := fun W hW => by
    have h := dk_loose (hD.below hW) (sorted_nodup hC.sorted) hC.keys
    rw [hC.loose] at h
    exact h
  have h7 : ∀ W, Below w.heap.size w W → Calls Tryz.prog 28 #[.agg #[.slice A n c, .int .i64 last]] W fun e w' => e = .returned (.int .i64 (looseN L)) ∧ Below W.heap.size W w' := fun W hW =>
    (refloose_any s.own A n c L last W (hR.below hW) hn hT).mono fun e w' h => ⟨h.1, h.2.out⟩
  have hl : (L.map (·.name)).length = n := by rw [List.length_map]; exact hC.len
  cases E with
  | none => exact ask_at B A n c last k bs bs.length rfl .nilIface false 0 (looseN L) (L.map (·.name)) w hl hn h1 h2 h3 h4 h5 h6 h7
  | some m => exact ask_at B A n c last k bs bs.length rfl (.iface 51 (.int .i64 m)) true m (looseN L) (L.map (·.name)) w hl hn h1 h2 h3 h4 h5 h6 h7
end Go.Proofs.YtfhdcjfkngflbaaGreatDoor
set_option linter.unusedSimpArgs false
set_option linter.unusedVariables false
namespace Go.Proofs.YtfhdcjfkngflbaaGreatDoor
open Go Go.RowKit

/-- What changes lies in the boxes from lo on below hi, or is new. -/
structure Side (lo hi : Nat) (W W' : World) : Prop where
  os : W'.os = W.os
  tape : W'.tape = W.tape
  output : W'.output = W.output
  size : W.heap.size ≤ W'.heap.size
  block : ∀ g, g < W.heap.size → ¬ (lo ≤ g ∧ g < hi) → W'.heap[g]? = W.heap[g]?
section
variable {lo hi : Nat} {W W' W2 : World}
theorem Side.refl (lo hi : Nat) (W : World) : Side lo hi W W := ⟨rfl, rfl, rfl, Nat.le_refl _, fun _ _ _ => rfl⟩
theorem Side.trans (h : Side lo hi W W') (k : Side lo hi W' W2) : Side lo hi W W2 :=
  ⟨k.os.trans h.os, k.tape.trans h.tape, k.output.trans h.output, Nat.le_trans h.size k.size, fun g h1 h2 => (k.block g (Nat.lt_of_lt_of_le h1 h.size) h2).trans (h.block g h1 h2)⟩
theorem Side.below (h : Side lo hi W W') (hb : Below W'.heap.size W' W2) : Side lo hi W W2 :=
  h.trans ⟨hb.os, hb.tape, hb.output, hb.size, fun g h1 _ => hb.block g h1⟩
theorem Side.set (h : Side lo hi W W') (b i : Nat) (v : Value) (h1 : lo ≤ b) (h2 : b < hi) : Side lo hi W (W'.setCell ⟨b, i, none⟩ v) :=
  h.trans ⟨rfl, rfl, rfl, by simp [World.setCell], fun g _ hg => Below.heap_setCell _ _ _ _ (fun e => hg (by have e' : g = b := e; omega))⟩
end
/-- The four boxes of step: the disk, the call, the result, the error. -/
structure SX (w0 W : World) (b b1 b2 b3 : Nat) (d0 d1 k nm p N x0 x1 x2 : Value) : Prop where
  d : W.heap[b]? = some (.cells #[d0, d1] 29 (0, 0))
  o : W.heap[b1]? = some (.cells #[k, nm, p, N] 32 (0, 0))
  r : W.heap[b2]? = some (.cells #[.slice none 0 0, .int .i64 0] 29 (0, 0))
  x : W.heap[b3]? = some (.cells #[x0, x1, x2] 53 (0, 0))
  n : b = w0.heap.size ∧ b1 = b + 1 ∧ b2 = b + 2 ∧ b3 = b + 3 ∧ b + 4 ≤ W.heap.size
theorem c2_0 {W : World} {b : Nat} {x y : Value} {t : TypeId} (h : W.heap[b]? = some (.cells #[x, y] t (0, 0))) (a : Value) : (W.setCell ⟨b, 0, none⟩ a).heap[b]? = some (.cells #[a, y] t (0, 0)) := by
  show (W.heap.modify b _)[b]? = _
  rw [Array.getElem?_modify, if_pos rfl, h]; rfl
theorem c2_1 {W : World} {b : Nat} {x y : Value} {t : TypeId} (h : W.heap[b]? = some (.cells #[x, y] t (0, 0))) (a : Value) : (W.setCell ⟨b, 1, none⟩ a).heap[b]? = some (.cells #[x, a] t (0, 0)) := by
  show (W.heap.modify b _)[b]? = _
  rw [Array.getElem?_modify, if_pos rfl, h]; rfl
theorem c3_0 {W : World} {b : Nat} {x y z : Value} {t : TypeId} (h : W.heap[b]? = some (.cells #[x, y, z] t (0, 0))) (a : Value) : (W.setCell ⟨b, 0, none⟩ a).heap[b]? = some (.cells #[a, y, z] t (0, 0)) := by
  show (W.heap.modify b _)[b]? = _
  rw [Array.getElem?_modify, if_pos rfl, h]; rfl
theorem c3_1 {W : World} {b : Nat} {x y z : Value} {t : TypeId} (h : W.heap[b]? = some (.cells #[x, y, z] t (0, 0))) (a : Value) : (W.setCell ⟨b, 1, none⟩ a).heap[b]? = some (.cells #[x, a, z] t (0, 0)) := by
  show (W.heap.modify b _)[b]? = _
  rw [Array.getElem?_modify, if_pos rfl, h]; rfl
theorem c3_2 {W : World} {b : Nat} {x y z : Value} {t : TypeId} (h : W.heap[b]? = some (.cells #[x, y, z] t (0, 0))) (a : Value) : (W.setCell ⟨b, 2, none⟩ a).heap[b]? = some (.cells #[x, y, a] t (0, 0)) := by
  show (W.heap.modify b _)[b]? = _
  rw [Array.getElem?_modify, if_pos rfl, h]; rfl
section
variable {w0 W W' : World} {b b1 b2 b3 : Nat} {d0 d1 k nm p N x0 x1 x2 : Value}
theorem SX.put (h : SX w0 W b b1 b2 b3 d0 d1 k nm p N x0 x1 x2) (a0 a1 y0 y1 y2 : Value) : SX w0 (((((W.setCell ⟨b, 0, none⟩ a0).setCell ⟨b, 1, none⟩ a1).setCell ⟨b3, 0, none⟩ y0).setCell ⟨b3, 1, none⟩ y1).setCell ⟨b3, 2, none⟩ y2) b b1 b2 b3 a0 a1 k nm p N y0 y1 y2 := by
  have hn := h.n
  have ho : ∀ g, g ≠ b → ((W.setCell ⟨b, 0, none⟩ a0).setCell ⟨b, 1, none⟩ a1).heap[g]? = W.heap[g]? := fun g hg => by
    rw [Below.heap_setCell _ _ _ _ (by exact hg), Below.heap_setCell _ _ _ _ (by exact hg)]
  have hx : ∀ (V : World) (g : Nat), g ≠ b3 → (((V.setCell ⟨b3, 0, none⟩ y0).setCell ⟨b3, 1, none⟩ y1).setCell ⟨b3, 2, none⟩ y2).heap[g]? = V.heap[g]? := fun V g hg => by
    rw [Below.heap_setCell _ _ _ _ (by exact hg), Below.heap_setCell _ _ _ _ (by exact hg), Below.heap_setCell _ _ _ _ (by exact hg)]
  refine ⟨?_, ?_, ?_, ?_, ?_⟩
  · rw [hx _ _ (by omega)]; exact c2_1 (c2_0 h.d a0) a1
  · rw [hx _ _ (by omega), ho _ (by omega)]; exact h.o
  · rw [hx _ _ (by omega), ho _ (by omega)]; exact h.r
  · exact c3_2 (c3_1 (c3_0 ((ho _ (by omega)).trans h.x) y0) y1) y2
  · refine ⟨hn.1, hn.2.1, hn.2.2.1, hn.2.2.2.1, ?_⟩
    have := hn.2.2.2.2
    simpa [World.setCell] using this
theorem SX.put2 (h : SX w0 W b b1 b2 b3 d0 d1 k nm p N x0 x1 x2) (a0 a1 : Value) : SX w0 ((W.setCell ⟨b, 0, none⟩ a0).setCell ⟨b, 1, none⟩ a1) b b1 b2 b3 a0 a1 k nm p N x0 x1 x2 := by
  have hn := h.n
  have ho : ∀ g, g ≠ b → ((W.setCell ⟨b, 0, none⟩ a0).setCell ⟨b, 1, none⟩ a1).heap[g]? = W.heap[g]? := fun g hg => by
    rw [Below.heap_setCell _ _ _ _ (by exact hg), Below.heap_setCell _ _ _ _ (by exact hg)]
  refine ⟨c2_1 (c2_0 h.d a0) a1, (ho _ (by omega)).trans h.o, (ho _ (by omega)).trans h.r, (ho _ (by omega)).trans h.x, hn.1, hn.2.1, hn.2.2.1, hn.2.2.2.1, ?_⟩
  have := hn.2.2.2.2
  simpa [World.setCell] using this
theorem SX.keep (h : SX w0 W b b1 b2 b3 d0 d1 k nm p N x0 x1 x2) (hk : ∀ g, w0.heap.size ≤ g → g < w0.heap.size + 4 → W'.heap[g]? = W.heap[g]?) (hs : W.heap.size ≤ W'.heap.size) : SX w0 W' b b1 b2 b3 d0 d1 k nm p N x0 x1 x2 := by
  have hn := h.n
  exact ⟨(hk _ (by omega) (by omega)).trans h.d, (hk _ (by omega) (by omega)).trans h.o, (hk _ (by omega) (by omega)).trans h.r, (hk _ (by omega) (by omega)).trans h.x, hn.1, hn.2.1, hn.2.2.1, hn.2.2.2.1, by omega⟩
theorem SX.below (h : SX w0 W b b1 b2 b3 d0 d1 k nm p N x0 x1 x2) (hb : Below W.heap.size W W') : SX w0 W' b b1 b2 b3 d0 d1 k nm p N x0 x1 x2 := h.keep (fun g h1 h2 => hb.block g (by have := h.n; omega)) hb.size
theorem SX.cells (h : SX w0 W b b1 b2 b3 d0 d1 k nm p N x0 x1 x2) : W.cell? ⟨b, 0, none⟩ = some d0 ∧ W.cell? ⟨b, 1, none⟩ = some d1 ∧ W.cell? ⟨b1, 0, none⟩ = some k ∧ W.cell? ⟨b1, 1, none⟩ = some nm ∧ W.cell? ⟨b1, 2, none⟩ = some p ∧ W.cell? ⟨b1, 3, none⟩ = some N ∧ W.cell? ⟨b2, 0, none⟩ = some (.slice none 0 0) ∧ W.cell? ⟨b2, 1, none⟩ = some (.int .i64 0) ∧ W.cell? ⟨b3, 0, none⟩ = some x0 ∧ W.cell? ⟨b3, 1, none⟩ = some x1 ∧ W.cell? ⟨b3, 2, none⟩ = some x2 ∧ (∀ i, W.frozen? ⟨b, i, none⟩ = false) ∧ (∀ i, W.frozen? ⟨b2, i, none⟩ = false) ∧ (∀ i, W.frozen? ⟨b3, i, none⟩ = false) := by
  refine ⟨?_, ?_, ?_, ?_, ?_, ?_, ?_, ?_, ?_, ?_, ?_, fun i => ?_, fun i => ?_, fun i => ?_⟩ <;> simp [World.cell?, World.frozen?, h.d, h.o, h.r, h.x]
end
theorem sx_new (w : World) (d0 d1 k nm p N : Value) : SX w ((((w.alloc (.cells #[d0, d1] 29)).alloc (.cells #[k, nm, p, N] 32)).alloc (.cells #[.slice none 0 0, .int .i64 0] 29)).alloc (.cells #[.bool false, .slice none 0 0, .int .i64 0] 53)) w.heap.size (w.heap.size + 1) (w.heap.size + 1 + 1) (w.heap.size + 1 + 1 + 1) d0 d1 k nm p N (.bool false) (.slice none 0 0) (.int .i64 0) := by
  refine ⟨?_, ?_, ?_, ?_, rfl, rfl, rfl, rfl, by simp⟩
  · rw [Below.heap_alloc _ _ _ (by first | (simp; done) | (simp; omega)), Below.heap_alloc _ _ _ (by first | (simp; done) | (simp; omega)), Below.heap_alloc _ _ _ (by simp), heap_alloc_new]
  · rw [Below.heap_alloc _ _ _ (by first | (simp; done) | (simp; omega)), Below.heap_alloc _ _ _ (by simp)]
    have := heap_alloc_new (w.alloc (.cells #[d0, d1] 29)) (.cells #[k, nm, p, N] 32)
    simpa using this
  · rw [Below.heap_alloc _ _ _ (by simp)]
    have := heap_alloc_new ((w.alloc (.cells #[d0, d1] 29)).alloc (.cells #[k, nm, p, N] 32)) (.cells #[.slice none 0 0, .int .i64 0] 29)
    simpa using this
  · have := heap_alloc_new (((w.alloc (.cells #[d0, d1] 29)).alloc (.cells #[k, nm, p, N] 32)).alloc (.cells #[.slice none 0 0, .int .i64 0] 29)) (.cells #[.bool false, .slice none 0 0, .int .i64 0] 53)
    simpa using this
end Go.Proofs.YtfhdcjfkngflbaaGreatDoor
