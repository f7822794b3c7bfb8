/-
  net: what a net owns in memory; how it stands behind a change of one way. Own work.
-/
import Derived.Test.YtgibpiakeaplbaaDoorNetState
set_option linter.unusedSimpArgs false
set_option linter.unusedVariables false
namespace Go.Proofs.YtgibpiakeaplbaaDoor
open Go Go.RowKit

abbrev Pkt := Value × List UInt8
def byteV (b : UInt8) : Value := .int .u8 b.toNat
def byteVs (bs : List UInt8) : List Value := bs.map byteV

/-- A packet: a slice of bytes in a row of the net's own. -/
def PktOK (base : Nat) (w : World) (p : Pkt) : Prop := w.ownsRow base 5 1 p.1 p.2.length (byteVs p.2)

def RowAt (base : Nat) (w : World) (o : Option Value) (l : List Pkt) : Prop :=
  match o with
  | none => l = []
  | some v => l ≠ [] ∧ w.ownsRow base 27 1 v l.length (l.map (·.1))

structure NetIn (base : Nat) (w : World) (B M c : Nat) (L : List (MEnt (Int × Int))) (S : Int × Int → List Pkt) : Prop where
  hB : base ≤ B
  hM : base ≤ M
  blk : w.heap[B]? = some (.cells #[.map (some M)] 62 (0, 0))
  map : MapAt pairV w M L c
  wf : MWf L c
  row : ∀ k, RowAt base w (lkV k L) (S k)
  pk : ∀ k, ∀ p ∈ S k, PktOK base w p
  apart : ∀ k k' v v', k ≠ k' → lkV k L = some v → lkV k' L = some v' → v.ownBlock ≠ v'.ownBlock
  most : ∀ k, (S k).length ≤ 1024
  nodes : ∀ k, S k ≠ [] → wayB k = true
  lens : ∀ k, ∀ p ∈ S k, p.2.length ≤ 1048576

def NetAt (base : Nat) (w : World) (B : Nat) (S : Int × Int → List Pkt) : Prop := ∃ M c L, NetIn base w B M c L S

theorem ownsRow_keep {w w' : World} {base : Nat} {e : TypeId} {size n : Nat} {v : Value} {xs : List Value} (h : w.ownsRow base e size v n xs)
    (hk : ∀ (g : Nat) (cur : Array Value), v.ownBlock = some g → w.heap[g]? = some (Obj.cells cur e (0, 0)) → w'.heap[g]? = w.heap[g]?) : w'.ownsRow base e size v n xs := by
  refine ⟨h.1, ?_⟩
  rcases h.2 with h2 | ⟨g, cap, cur, hv, hg, hh, r⟩
  · exact .inl h2
  · exact .inr ⟨g, cap, cur, hv, hg, by rw [hk g cur (by rw [hv]; rfl) hh]; exact hh, r⟩

theorem ownsRow_below' {w w' : World} {base : Nat} {e : TypeId} {size n : Nat} {v : Value} {xs : List Value} (h : w.ownsRow base e size v n xs) (hb : Below w.heap.size w w') : w'.ownsRow base e size v n xs :=
  ownsRow_keep h fun g cur _ hg => hb.block g (Array.getElem?_eq_some_iff.1 hg).1

theorem ownsRow_lower {w : World} {b b' : Nat} {e : TypeId} {size n : Nat} {v : Value} {xs : List Value} (h : w.ownsRow b e size v n xs) (hb : b' ≤ b) : w.ownsRow b' e size v n xs := by
  refine ⟨h.1, ?_⟩
  rcases h.2 with h2 | ⟨g, cap, cur, hv, hg, r⟩
  · exact .inl h2
  · exact .inr ⟨g, cap, cur, hv, Nat.le_trans hb hg, r⟩

/-- A slice that owns something: its block and what it is. -/
theorem own_block {w : World} {base : Nat} {e : TypeId} {size n : Nat} {v : Value} {xs : List Value} (h : w.ownsRow base e size v n xs) {g : Nat} (hg : v.ownBlock = some g) : ∃ cur, w.heap[g]? = some (.cells cur e (0, 0)) ∧ base ≤ g ∧ g < w.heap.size := by
  rcases h.2 with ⟨rfl, _⟩ | ⟨g', cap, cur, rfl, hb, hh, r⟩
  · simp [Value.ownBlock] at hg
  · obtain rfl : g' = g := by simpa [Value.ownBlock] using hg
    exact ⟨cur, hh, hb, (Array.getElem?_eq_some_iff.1 hh).1⟩

section
variable {base : Nat} {w w' : World} {B M c : Nat} {L : List (MEnt (Int × Int))} {S : Int × Int → List Pkt}

theorem RowAt.below {o : Option Value} {l : List Pkt} (h : RowAt base w o l) (hb : Below w.heap.size w w') : RowAt base w' o l := by
  cases o with
  | none => exact h
  | some v => exact ⟨h.1, ownsRow_below' h.2 hb⟩
theorem PktOK.below {p : Pkt} (h : PktOK base w p) (hb : Below w.heap.size w w') : PktOK base w' p := ownsRow_below' h hb
theorem NetIn.below (h : NetIn base w B M c L S) (hb : Below w.heap.size w w') : NetIn base w' B M c L S :=
  ⟨h.hB, h.hM, (hb.block B (Array.getElem?_eq_some_iff.1 h.blk).1).trans h.blk, (hb.block M h.map.lt).trans h.map, h.wf, fun k => (h.row k).below hb, fun k p hp => (h.pk k p hp).below hb, h.apart, h.most, h.nodes, h.lens⟩
theorem NetAt.below (h : NetAt base w B S) (hb : Below w.heap.size w w') : NetAt base w' B S := by
  obtain ⟨M, c, L, h⟩ := h
  exact ⟨M, c, L, h.below hb⟩
theorem NetIn.cell (h : NetIn base w B M c L S) : w.cell? ⟨B, 0, none⟩ = some (.map (some M)) := by simp [World.cell?, h.blk]
theorem NetIn.ltB (h : NetIn base w B M c L S) : B < w.heap.size := (Array.getElem?_eq_some_iff.1 h.blk).1
theorem NetIn.ltM (h : NetIn base w B M c L S) : M < w.heap.size := h.map.lt
theorem NetIn.ne (h : NetIn base w B M c L S) : B ≠ M := by
  rintro rfl
  have := h.map
  unfold MapAt at this
  rw [h.blk] at this
  cases this

def updS (S : Int × Int → List Pkt) (k : Int × Int) (l : List Pkt) : Int × Int → List Pkt := fun k' => if k' = k then l else S k'

/-- Behind a change of the way k alone. -/
theorem net_upd (h : NetIn base w B M c L S) (k : Int × Int) (l' : List Pkt) (o' : Option Value) (L' : List (MEnt (Int × Int))) (c' : Nat)
    (hkeep : ∀ (g : Nat) (o : Obj), w.heap[g]? = some o → g ≠ M → (∀ v, lkV k L = some v → v.ownBlock ≠ some g) → w'.heap[g]? = some o)
    (hmap : MapAt pairV w' M L' c') (hwf : MWf L' c') (hlk : ∀ k', lkV k' L' = if k' = k then o' else lkV k' L)
    (hrow : RowAt base w' o' l') (hnew : ∀ v, o' = some v → (∃ v0, lkV k L = some v0 ∧ v.ownBlock = v0.ownBlock) ∨ ∃ g, v.ownBlock = some g ∧ w.heap.size ≤ g)
    (hpk : ∀ p ∈ l', PktOK base w' p) (hmost : l'.length ≤ 1024) (hway : l' ≠ [] → wayB k = true) (hlens : ∀ p ∈ l', p.2.length ≤ 1048576) : NetIn base w' B M c' L' (updS S k l') := by
  have hty : ∀ (g : Nat) (cur : Array Value) (t : TypeId) (fr : Nat × Nat), w.heap[g]? = some (.cells cur t fr) → t ≠ 27 → w'.heap[g]? = some (.cells cur t fr) := by
    intro g cur t fr hg ht
    refine hkeep g _ hg ?_ ?_
    · rintro rfl
      have := h.map
      unfold MapAt at this
      rw [hg] at this
      cases this
    · intro v hv e
      have hr := h.row k
      rw [hv] at hr
      obtain ⟨cur', hh, _⟩ := own_block hr.2 e
      rw [hg] at hh
      injection hh with hh
      injection hh with _ hh _
      exact ht hh
  have hold : ∀ k' v, k' ≠ k → lkV k' L = some v → ∀ g cur, v.ownBlock = some g → w.heap[g]? = some (Obj.cells cur 27 (0, 0)) → w'.heap[g]? = w.heap[g]? := by
    intro k' v hk hv g cur hg hh
    rw [hh]
    refine hkeep g _ hh ?_ ?_
    · rintro rfl
      have := h.map
      unfold MapAt at this
      rw [hh] at this
      cases this
    · intro v0 hv0 e
      exact h.apart k' k v v0 hk hv hv0 (by rw [hg, e])
  refine ⟨h.hB, h.hM, hty _ _ _ _ h.blk (by decide), hmap, hwf, ?_, ?_, ?_, ?_, ?_, ?_⟩
  · intro k'
    rw [hlk]
    unfold updS
    split
    · exact hrow
    · rename_i hk
      have hr := h.row k'
      cases hv : lkV k' L with
      | none => rw [hv] at hr; exact hr
      | some v => rw [hv] at hr; exact ⟨hr.1, ownsRow_keep hr.2 (hold k' v hk hv)⟩
  · intro k' p hp
    unfold updS at hp
    split at hp
    · exact hpk p hp
    · exact ownsRow_keep (h.pk k' p hp) fun g cur _ hg => (hty g cur _ _ hg (by decide)).trans hg.symm
  · intro k1 k2 v1 v2 hk h1 h2
    rw [hlk] at h1 h2
    split at h1
    · rename_i e1
      split at h2
      · rename_i e2; exact absurd (e1.trans e2.symm) hk
      · rename_i e2
        have hr := h.row k2
        rw [h2] at hr
        rcases hnew v1 h1 with ⟨v0, hv0, e⟩ | ⟨g, hg, hlt⟩
        · rw [e]; exact h.apart k k2 v0 v2 (fun e => e2 e.symm) hv0 h2
        · rw [hg]
          intro e
          obtain ⟨_, _, _, hl⟩ := own_block hr.2 e.symm
          omega
    · rename_i e1
      split at h2
      · rename_i e2
        have hr := h.row k1
        rw [h1] at hr
        rcases hnew v2 h2 with ⟨v0, hv0, e⟩ | ⟨g, hg, hlt⟩
        · rw [e]; exact h.apart k1 k v1 v0 e1 h1 hv0
        · rw [hg]
          intro e
          obtain ⟨_, _, _, hl⟩ := own_block hr.2 e
          omega
      · exact h.apart k1 k2 v1 v2 hk h1 h2
  · intro k'
    unfold updS
    split
    · exact hmost
    · exact h.most k'
  · intro k' hk'
    unfold updS at hk'
    split at hk'
    · rename_i e; rw [e]; exact hway hk'
    · exact h.nodes k' hk'
  · intro k' p hp
    unfold updS at hp
    split at hp
    · exact hlens p hp
    · exact h.lens k' p hp

/-- A packet that was the net's is a packet behind such a change. -/
theorem pk_kept (h : NetIn base w B M c L S) (k : Int × Int) (hkeep : ∀ (g : Nat) (o : Obj), w.heap[g]? = some o → g ≠ M → (∀ v, lkV k L = some v → v.ownBlock ≠ some g) → w'.heap[g]? = some o) {b' : Nat} {p : Pkt} (hp : PktOK b' w p) : PktOK b' w' p := by
  refine ownsRow_keep hp fun g cur _ hg => (hkeep g _ hg ?_ ?_).trans hg.symm
  · rintro rfl
    have := h.map
    unfold MapAt at this
    rw [hg] at this
    cases this
  · intro v hv e
    have hr := h.row k
    rw [hv] at hr
    obtain ⟨cur', hh, _⟩ := own_block hr.2 e
    rw [hg] at hh
    injection hh with hh
    injection hh with _ hh _
    exact absurd hh (by decide)
end

/-- Whatever lies in cells of another type than a row of slices stands. -/
def KeepC (w w' : World) : Prop := ∀ (g : Nat) (cur : Array Value) (t : TypeId) (fr : Nat × Nat), w.heap[g]? = some (.cells cur t fr) → t ≠ 27 → w'.heap[g]? = some (.cells cur t fr)
theorem KeepC.trans {a b c : World} (h : KeepC a b) (k : KeepC b c) : KeepC a c := fun g cur t fr hg ht => k g cur t fr (h g cur t fr hg ht) ht
theorem KeepC.below {w w' : World} (h : Below w.heap.size w w') : KeepC w w' := fun g cur t fr hg _ => (h.block g (Array.getElem?_eq_some_iff.1 hg).1).trans hg
theorem KeepC.pkt {w w' : World} (h : KeepC w w') {b : Nat} {p : Pkt} (hp : PktOK b w p) : PktOK b w' p := ownsRow_keep hp fun g cur _ hg => (h g cur _ _ hg (by decide)).trans hg.symm

theorem netAt_new (w : World) : NetAt w.heap.size ((w.alloc (.map #[] 0)).alloc (.cells #[.map (some w.heap.size)] 62)) (w.heap.size + 1) (fun _ => []) := by
  refine ⟨w.heap.size, 0, [], by omega, Nat.le_refl _, ?_, (MapAt.new w).alloc _, MWf.nil 0, ?_, by simp, by simp [lkV], by simp, by simp, by simp⟩
  · have := heap_alloc_new (w.alloc (.map #[] 0)) (.cells #[.map (some w.heap.size)] 62)
    rwa [World.size_alloc] at this
  · intro k; exact rfl
end Go.Proofs.YtgibpiakeaplbaaDoor
