/-
  disk: the reference's Twin; stores into a row of bytes. Own work (after XNetHelp, XNetTouch).
-/
import Derived.Test.YtfhdcjfkngflbaaDoorDiskTwo
set_option linter.unusedSimpArgs false
set_option linter.unusedVariables false
namespace Go.Proofs.YtfhdcjfkngflbaaDoor
open Go Go.RowKit

theorem twin_none (c : Nat) (w : World) : Calls Tryd.prog 12 #[.slice none 0 c] w fun e w' => ∃ v, e = .returned v ∧ w'.ownsRow w.heap.size 5 1 v 0 (byteVs []) ∧ Below w.heap.size w w' := by
  go_enter Tryd.func12, Tryd.ntmps12
  go_wp2
  go_ret
  exact ⟨_, rfl, World.ownsRow_made w #[] 0 (Nat.le_refl _) (by simp) (by simp), (Below.refl _ _).alloc (Nat.le_refl _) _⟩

theorem twin_any (A : Option Addr) (bs : List UInt8) (c : Nat) (w : World) (h : BytesAt w A bs) (hlen : bs.length ≤ 2000000) :
    Calls Tryd.prog 12 #[.slice A bs.length c] w fun e w' => ∃ v, e = .returned v ∧ w'.ownsRow w.heap.size 5 1 v bs.length (byteVs bs) ∧ Below w.heap.size w w' := by
  cases A with
  | none =>
    have h0 := h.1 rfl
    have h1 := List.eq_nil_of_length_eq_zero h0
    subst h1
    exact twin_none c w
  | some ad =>
    obtain ⟨i0, hi, hz0, hz1, hz2⟩ := info_parts byte_info
    have hown0 : (w.alloc (.cells #[] 5)).ownsRow w.heap.size 5 1 (.slice (some ⟨w.heap.size, 0, none⟩) 0 0) 0 [] := World.ownsRow_made w #[] 0 (Nat.le_refl _) (by simp) (by simp)
    have hx2 : Hid (∀ j u, (byteVs bs)[j]? = some u → (w.alloc (.cells #[] 5)).cell? (ad.add j) = some u) := fun j u hu => by
      have := h.2 ad rfl j u hu
      rw [World.cell?_alloc_lt _ _ _ (World.block_lt_of_cell? w _ this)]; exact this
    have h1' : Hid (∀ u ∈ byteVs bs, u.oneCell' = true) := byteVs_one bs
    have hl' : Hid ((byteVs bs).length = bs.length * 1) := by simp [Hid, byteVs]
    have hn' : Hid (0 + bs.length ≤ maxLen) := Nat.le_trans (show 0 + bs.length ≤ 2000000 by omega) (by decide)
    have hb' : Hid ((0 + bs.length) * 1 ≤ 140737488355328) := Nat.le_trans (Nat.mul_le_mul_right 1 (show 0 + bs.length ≤ 2000000 by omega)) (by decide)
    have hs' : Hid (w.heap.size ≤ (w.alloc (.cells #[] 5)).heap.size) := by simp [Hid]
    clear h hlen
    go_enter Tryd.func12, Tryd.ntmps12
    go_wp2_with (at_builtin; refine wpList_append_own _ rfl _ _ 28 rfl w.heap.size 5 i0 (.int .u8 0) 1 1 Tryd.underlying28 hi hz0 hz1 hz2 rfl (by decide) _ 0 [] rfl hown0 ad bs.length c (byteVs bs) rfl hl'.out hx2.out h1'.out hn'.out hb'.out hs'.out ?_; intro v' w1 hown1 hgrow hnil)
    have hg : (w.alloc (.cells #[] 5)).grownBy w1 (some w.heap.size) := hgrow
    clear hgrow hnil
    have hfin : Hid (w1.ownsRow w.heap.size 5 1 v' bs.length (byteVs bs) ∧ Below w.heap.size w w1) :=
      ⟨by simpa using hown1, ((Below.refl _ _).alloc (Nat.le_refl _) _).grown hg (by simp) (fun k h => by cases h; exact Nat.le_refl _)⟩
    clear hg hown1 hown0
    go_ret
    exact ⟨v', rfl, hfin.out.1, hfin.out.2⟩

/-- Only block o has turned; none is new. -/
structure Touch (o : Option Nat) (w w' : World) : Prop where
  os : w'.os = w.os
  tape : w'.tape = w.tape
  output : w'.output = w.output
  size : w'.heap.size = w.heap.size
  block : ∀ k, o ≠ some k → w'.heap[k]? = w.heap[k]?
theorem Touch.refl (o : Option Nat) (w : World) : Touch o w w := ⟨rfl, rfl, rfl, rfl, fun _ _ => rfl⟩
theorem Touch.trans {o : Option Nat} {a b c : World} (h : Touch o a b) (k : Touch o b c) : Touch o a c :=
  ⟨k.os.trans h.os, k.tape.trans h.tape, k.output.trans h.output, k.size.trans h.size, fun i hi => (k.block i hi).trans (h.block i hi)⟩
theorem Touch.set (w : World) (g i : Nat) (v : Value) : Touch (some g) w (w.setCell ⟨g, i, none⟩ v) :=
  ⟨rfl, rfl, rfl, by simp [World.setCell], fun k hk => Below.heap_setCell w ⟨g, i, none⟩ v k (fun e => hk (by rw [e]))⟩
theorem Touch.below {o : Option Nat} {w w' : World} {base : Nat} (h : Touch o w w') (hg : ∀ g, o = some g → base ≤ g) : Below base w w' :=
  ⟨h.os, h.tape, h.output, by rw [h.size]; exact Nat.le_refl _, fun k hk => h.block k (fun e => by have := hg k e; omega)⟩
theorem Touch.row {o : Option Nat} {w w' : World} {base : Nat} {e : TypeId} {size n : Nat} {v : Value} {xs : List Value} (h : Touch o w w') (hr : w.ownsRow base e size v n xs) (hv : ∀ g, v.ownBlock = some g → o ≠ some g) : w'.ownsRow base e size v n xs :=
  ownsRow_keep hr fun k hk => h.block k (hv k hk)

theorem Dk.touch {base B n : Nat} {w w' : World} {v : Vw} {t : Int} {s : St} {o : Option Nat} (h : Dk base w B v t n s) (hc : ∀ g, s.own g → o ≠ some g) (ht : Touch o w w') : Dk base w' B v t n s :=
  ⟨h.at_.keep fun g hg => ht.block g (hc g hg), h.B, h.view, h.turn, h.len, by rw [ht.size]; exact h.low⟩
theorem Dk.grown {base B n : Nat} {w w' : World} {v : Vw} {t : Int} {s : St} {o : Option Nat} (h : Dk base w B v t n s) (hc : ∀ g, s.own g → some g ≠ o) (ht : w.grownBy w' o) : Dk base w' B v t n s :=
  ⟨h.at_.keep fun g hg => ht.block g (h.at_.lt hg) (hc g hg), h.B, h.view, h.turn, h.len, Nat.le_trans h.low ht.size⟩
/-- A row of numbers of one byte each. -/
def Nums (base : Nat) (w : World) (v : Value) (n : Nat) : Prop := ∃ xs : List Int, w.ownsRow base 5 1 v n (xs.map (.int .u8))

theorem nums_of {base n : Nat} {w : World} {v : Value} {bs : List UInt8} (h : w.ownsRow base 5 1 v n (byteVs bs)) : Nums base w v n := ⟨bs.map fun b => (b.toNat : Int), by
  have e : (bs.map fun b => (b.toNat : Int)).map (.int .u8) = byteVs bs := by simp [byteVs, byteV]
  rw [e]; exact h⟩
theorem Nums.cell {base : Nat} {w : World} {A : Option Addr} {n c : Nat} (h : Nums base w (.slice A n c) n) {j : Nat} (hj : j < n) : ∃ g x, A = some ⟨g, 0, none⟩ ∧ base ≤ g ∧ w.cell? ⟨g, j, none⟩ = some (.int .u8 x) ∧ w.frozen? ⟨g, j, none⟩ = false ∧ (∃ cur, w.heap[g]? = some (.cells cur 5 (0, 0))) ∧
    ∀ y : Int, Nums base (w.setCell ⟨g, j, none⟩ (.int .u8 y)) (.slice A n c) n := by
  obtain ⟨xs, hr⟩ := h
  have hlen : xs.length = n := by have := hr.1; simpa using this
  rcases hr.2 with ⟨hv, hn⟩ | ⟨g, cap, cur, hv, hg, hh, h3, h4, h5, h6⟩
  · omega
  · injection hv with hA _ hc
    subst hA hc
    have hx : xs[j]? = some xs[j] := List.getElem?_eq_getElem (by omega)
    have hcur : cur[j]? = some (.int .u8 xs[j]) := by
      have e : (cur.toList.take (n * 1))[j]? = some (.int .u8 xs[j]) := by rw [h6, List.getElem?_map, hx]; rfl
      rw [List.getElem?_take, if_pos (by omega)] at e
      simpa using e
    refine ⟨g, xs[j], rfl, hg, by simp [World.cell?, hh, hcur], by simp [World.frozen?, hh], ⟨cur, hh⟩, fun y => ⟨xs.set j y, by simp [hlen], .inr ⟨g, c, cur.setIfInBounds j (.int .u8 y), rfl, hg, ?_, h3, h4, by simpa using h5, ?_⟩⟩⟩
    · show (w.heap.modify g _)[g]? = _
      rw [Array.getElem?_modify, if_pos rfl, hh]; rfl
    · rw [List.map_set, ← h6]
      simp [List.take_set]
end Go.Proofs.YtfhdcjfkngflbaaDoor
