/-
  disk: what a disk is in memory. Own work.
-/
import Derived.Test.YtfhdcjfkngflbaaDoorStrKey
import Derived.Laws.AppendOwn
import Derived.Lib.Hide
set_option linter.unusedSimpArgs false
set_option linter.unusedVariables false
namespace Go.Proofs.YtfhdcjfkngflbaaDoor
open Go Go.RowKit

def byteV (b : UInt8) : Value := .int .u8 b.toNat
def byteVs (bs : List UInt8) : List Value := bs.map byteV
def pieceCells (l : List (Int × Int)) : List Value := l.flatMap fun x => [.int .i64 x.1, .int .i64 x.2]
theorem pieceCells_append (l m : List (Int × Int)) : pieceCells (l ++ m) = pieceCells l ++ pieceCells m := by simp [pieceCells]
theorem pieceCells_one (x : Int × Int) : pieceCells [x] = [.int .i64 x.1, .int .i64 x.2] := rfl

/-- A file: its block, its two slices, its bytes and loose pieces (turn, number). -/
structure FRec where
  F : Nat
  dv : Value
  lv : Value
  data : List UInt8
  loose : List (Int × Int)

/-- Bytes in a row of the disk's own; the slice may be cut short of its block. -/
def DRow (w : World) (v : Value) (bs : List UInt8) : Prop := (v = .slice none 0 0 ∧ bs = []) ∨ ∃ g cap cur, v = .slice (some ⟨g, 0, none⟩) bs.length cap ∧ w.heap[g]? = some (.cells cur 5 (0, 0)) ∧ bs.length ≤ cap ∧ cap ≤ cur.size ∧ cap ≤ maxLen ∧ cur.toList.take bs.length = byteVs bs

structure St where
  B : Nat
  M : Nat
  c : Nat
  L : List (MEnt ByteArray)
  R : ByteArray → Option FRec
  turn : Int

def FRec.blocks (r : FRec) (g : Nat) : Prop := g = r.F ∨ r.dv.ownBlock = some g ∨ r.lv.ownBlock = some g
def St.own (s : St) (g : Nat) : Prop := g = s.B ∨ g = s.M ∨ ∃ k r, s.R k = some r ∧ r.blocks g
def ptrF (r : FRec) : Value := .pointer (some ⟨r.F, 0, none⟩)
def openOf (l : List (Int × Int)) : Int := (l.map (·.2)).sum

structure RecOK (w : World) (r : FRec) : Prop where
  blk : w.heap[r.F]? = some (.cells #[r.dv, r.lv] 55 (0, 0))
  data : DRow w r.dv r.data
  loose : w.ownsRow 0 57 2 r.lv r.loose.length (pieceCells r.loose)
  few : r.data.length ≤ 1048576
  pos : ∀ p ∈ r.loose, 0 < p.2
  sum : openOf r.loose ≤ r.data.length

structure DiskAt (base : Nat) (w : World) (s : St) : Prop where
  blk : w.heap[s.B]? = some (.cells #[.map (some s.M), .int .i64 s.turn] 50 (0, 0))
  map : MapAt Value.string w s.M s.L s.c
  wf : MWf s.L s.c
  lk : ∀ k, lkV k s.L = (s.R k).map ptrF
  recs : ∀ k r, s.R k = some r → RecOK w r
  apart : ∀ k k' r r' g, k ≠ k' → s.R k = some r → s.R k' = some r' → r.blocks g → ¬ r'.blocks g
  low : ∀ g, s.own g → base ≤ g
  few : s.L.length ≤ 64
  turn0 : 0 ≤ s.turn
  turns : ∀ (k : ByteArray) (r : FRec) (p : Int × Int), s.R k = some r → p ∈ r.loose → 0 < p.1 ∧ p.1 ≤ s.turn
  uniq : ∀ (k k' : ByteArray) (r r' : FRec) (i j : Nat) (p p' : Int × Int), s.R k = some r → s.R k' = some r' → r.loose[i]? = some p → r'.loose[j]? = some p' → p.1 = p'.1 → k = k' ∧ i = j

/-- What a call on a disk leaves as it was. -/
structure Frame (s s' : St) (w w' : World) : Prop where
  os : w'.os = w.os
  tape : w'.tape = w.tape
  output : w'.output = w.output
  size : w.heap.size ≤ w'.heap.size
  block : ∀ g, g < w.heap.size → ¬ s.own g → w'.heap[g]? = w.heap[g]?
  own : ∀ g, s'.own g → s.own g ∨ w.heap.size ≤ g

theorem Frame.trans {a b c : St} {w w' w'' : World} (h : Frame a b w w') (k : Frame b c w' w'') : Frame a c w w'' := by
  refine ⟨k.os.trans h.os, k.tape.trans h.tape, k.output.trans h.output, Nat.le_trans h.size k.size, fun g hg ho => ?_, fun g hg => ?_⟩
  · refine (k.block g (Nat.lt_of_lt_of_le hg h.size) fun hb => ?_).trans (h.block g hg ho)
    rcases h.own g hb with hb | hb
    · exact ho hb
    · omega
  · rcases k.own g hg with hb | hb
    · exact h.own g hb
    · exact .inr (Nat.le_trans h.size hb)
theorem Frame.of_below {s : St} {w w' : World} (h : Below w.heap.size w w') : Frame s s w w' :=
  ⟨h.os, h.tape, h.output, h.size, fun g hg _ => h.block g hg, fun g hg => .inl hg⟩
theorem Frame.refl (s : St) (w : World) : Frame s s w w := Frame.of_below (Below.refl _ w)

section
variable {base : Nat} {w w' : World} {s s' : St}
theorem DiskAt.below_of (h : DiskAt base w s) (hf : Frame s s' w w') (hb : base ≤ w.heap.size) : Below base w w' :=
  ⟨hf.os, hf.tape, hf.output, hf.size, fun g hg => hf.block g (by omega) fun ho => by have := h.low g ho; omega⟩

theorem DRow.keep {v : Value} {bs : List UInt8} (h : DRow w v bs) (hk : ∀ g, v.ownBlock = some g → w'.heap[g]? = w.heap[g]?) : DRow w' v bs := by
  rcases h with h | ⟨g, cap, cur, hv, hh, r⟩
  · exact .inl h
  · exact .inr ⟨g, cap, cur, hv, by rw [hk g (by rw [hv]; rfl)]; exact hh, r⟩
theorem ownsRow_keep {base : Nat} {e : TypeId} {size n : Nat} {v : Value} {xs : List Value} (h : w.ownsRow base e size v n xs)
    (hk : ∀ g, v.ownBlock = some g → w'.heap[g]? = w.heap[g]?) : w'.ownsRow base e size v n xs := by
  refine ⟨h.1, ?_⟩
  rcases h.2 with h2 | ⟨g, cap, cur, hv, hg, hh, r⟩
  · exact .inl h2
  · exact .inr ⟨g, cap, cur, hv, hg, by rw [hk g (by rw [hv]; rfl)]; exact hh, r⟩
theorem RecOK.keep {r : FRec} (h : RecOK w r) (hk : ∀ g, r.blocks g → w'.heap[g]? = w.heap[g]?) : RecOK w' r :=
  ⟨(hk _ (.inl rfl)).trans h.blk, h.data.keep fun g hg => hk g (.inr (.inl hg)), ownsRow_keep h.loose fun g hg => hk g (.inr (.inr hg)), h.few, h.pos, h.sum⟩

theorem DiskAt.keep (h : DiskAt base w s) (hk : ∀ g, s.own g → w'.heap[g]? = w.heap[g]?) : DiskAt base w' s :=
  ⟨(hk _ (.inl rfl)).trans h.blk, (hk _ (.inr (.inl rfl))).trans h.map, h.wf, h.lk, fun k r hr => (h.recs k r hr).keep fun g hg => hk g (.inr (.inr ⟨k, r, hr, hg⟩)), h.apart, h.low, h.few, h.turn0, h.turns, h.uniq⟩

theorem own_block {base : Nat} {e : TypeId} {size n : Nat} {v : Value} {xs : List Value} (h : w.ownsRow base e size v n xs) {g : Nat} (hg : v.ownBlock = some g) : ∃ cur, w.heap[g]? = some (.cells cur e (0, 0)) ∧ base ≤ g ∧ g < w.heap.size := by
  rcases h.2 with ⟨rfl, _⟩ | ⟨g', cap, cur, rfl, hb, hh, r⟩
  · simp [Value.ownBlock] at hg
  · obtain rfl : g' = g := by simpa [Value.ownBlock] using hg
    exact ⟨cur, hh, hb, (Array.getElem?_eq_some_iff.1 hh).1⟩
theorem DRow.block {v : Value} {bs : List UInt8} (h : DRow w v bs) {g : Nat} (hg : v.ownBlock = some g) : ∃ cur, w.heap[g]? = some (.cells cur 5 (0, 0)) ∧ g < w.heap.size := by
  rcases h with ⟨rfl, _⟩ | ⟨g', cap, cur, rfl, hh, r⟩
  · simp [Value.ownBlock] at hg
  · obtain rfl : g' = g := by simpa [Value.ownBlock] using hg
    exact ⟨cur, hh, (Array.getElem?_eq_some_iff.1 hh).1⟩
theorem RecOK.lt {r : FRec} (h : RecOK w r) {g : Nat} (hg : r.blocks g) : g < w.heap.size := by
  rcases hg with rfl | hg | hg
  · exact (Array.getElem?_eq_some_iff.1 h.blk).1
  · exact (h.data.block hg).choose_spec.2
  · exact (own_block h.loose hg).choose_spec.2.2
theorem DiskAt.lt (h : DiskAt base w s) {g : Nat} (hg : s.own g) : g < w.heap.size := by
  rcases hg with rfl | rfl | ⟨k, r, hr, hg⟩
  · exact (Array.getElem?_eq_some_iff.1 h.blk).1
  · exact h.map.lt
  · exact (h.recs k r hr).lt hg
theorem DiskAt.below (h : DiskAt base w s) (hb : Below w.heap.size w w') : DiskAt base w' s := h.keep fun g hg => hb.block g (h.lt hg)
theorem DiskAt.cells (h : DiskAt base w s) : w.cell? ⟨s.B, 0, none⟩ = some (.map (some s.M)) ∧ w.cell? ⟨s.B, 1, none⟩ = some (.int .i64 s.turn) ∧ ∀ i, w.frozen? ⟨s.B, i, none⟩ = false := by
  refine ⟨by simp [World.cell?, h.blk], by simp [World.cell?, h.blk], fun i => by simp [World.frozen?, h.blk]⟩
theorem RecOK.cells {r : FRec} (h : RecOK w r) : w.cell? ⟨r.F, 0, none⟩ = some r.dv ∧ w.cell? ⟨r.F, 1, none⟩ = some r.lv ∧ ∀ i, w.frozen? ⟨r.F, i, none⟩ = false := by
  refine ⟨by simp [World.cell?, h.blk], by simp [World.cell?, h.blk], fun i => by simp [World.frozen?, h.blk]⟩
end

/-- A new disk. -/
def newSt (w : World) : St := ⟨w.heap.size + 1, w.heap.size, 0, [], fun _ => none, 0⟩
theorem diskAt_new (w : World) : DiskAt w.heap.size ((w.alloc (.map #[] 0)).alloc (.cells #[.map (some w.heap.size), .int .i64 0] 50)) (newSt w) := by
  refine ⟨?_, (MapAt.new w).alloc _, MWf.nil 0, fun k => rfl, fun k r hr => (by cases hr), fun k k' r r' g _ hr => (by cases hr), fun g hg => ?_, by simp [newSt], by simp [newSt], fun k r p hr => (by cases hr), fun k k' r r' i j p p' hr => (by cases hr)⟩
  · have := heap_alloc_new (w.alloc (.map #[] 0)) (.cells #[.map (some w.heap.size), .int .i64 0] 50)
    simpa [newSt] using this
  · rcases hg with rfl | rfl | ⟨k, r, hr, _⟩
    · simp [newSt]
    · simp [newSt]
    · cases hr
end Go.Proofs.YtfhdcjfkngflbaaDoor
