/-
  disk: how a disk stands behind a change of one file. Own work.
-/
import Derived.Test.YtfhdcjfkngflbaaDoorDiskA
set_option linter.unusedSimpArgs false
set_option linter.unusedVariables false
namespace Go.Proofs.YtfhdcjfkngflbaaDoor
open Go Go.RowKit

def updR (R : ByteArray → Option FRec) (k : ByteArray) (o : Option FRec) : ByteArray → Option FRec := fun k' => if k' = k then o else R k'
theorem updR_same (R : ByteArray → Option FRec) (k : ByteArray) (o : Option FRec) : updR R k o k = o := by simp [updR]
theorem updR_other {R : ByteArray → Option FRec} {k k' : ByteArray} (o : Option FRec) (h : k' ≠ k) : updR R k o k' = R k' := by simp [updR, h]

theorem updR_is {R : ByteArray → Option FRec} {k k' : ByteArray} {o : Option FRec} {r : FRec} (e : k' ≠ k) (h : updR R k o k' = some r) : R k' = some r := by rwa [updR_other o e] at h
theorem updR_me {R : ByteArray → Option FRec} {k : ByteArray} {r r' : FRec} (h : updR R k (some r') k = some r) : some r' = some r := by rwa [updR_same] at h

section
variable {base : Nat} {w w' : World} {s : St}

/-- The disk's three kinds of blocks are of unlike types. -/
theorem DiskAt.ne_rec (h : DiskAt base w s) {k : ByteArray} {r : FRec} (hr : s.R k = some r) {g : Nat} (hg : r.blocks g) : g ≠ s.B ∧ g ≠ s.M := by
  have hrec := h.recs k r hr
  have hm := h.map
  unfold MapAt at hm
  have key : ∀ cur t, w.heap[g]? = some (.cells cur t (0, 0)) → t ≠ 50 → g ≠ s.B ∧ g ≠ s.M := fun cur t hh ht => by
    refine ⟨fun e => ?_, fun e => ?_⟩
    · rw [e, h.blk] at hh; injection hh with hh; injection hh with _ h2 _; exact ht h2.symm
    · rw [e, hm] at hh; cases hh
  rcases hg with rfl | hg | hg
  · exact key _ _ hrec.blk (by decide)
  · obtain ⟨cur, hh, _⟩ := hrec.data.block hg; exact key _ _ hh (by decide)
  · obtain ⟨cur, hh, _⟩ := own_block hrec.loose hg; exact key _ _ hh (by decide)
theorem DiskAt.ne_BM (h : DiskAt base w s) : s.B ≠ s.M := fun e => by
  have hm := h.map
  unfold MapAt at hm
  have hb := h.blk
  rw [e, hm] at hb; cases hb
theorem RecOK.apart {r : FRec} (h : RecOK w r) : (∀ g, r.dv.ownBlock = some g → g ≠ r.F) ∧ (∀ g, r.lv.ownBlock = some g → g ≠ r.F) ∧ (∀ g, r.dv.ownBlock = some g → r.lv.ownBlock ≠ some g) := by
  refine ⟨fun g hg e => ?_, fun g hg e => ?_, fun g hg e => ?_⟩
  · obtain ⟨cur, hh, _⟩ := h.data.block hg
    rw [e, h.blk] at hh; injection hh with hh; injection hh with _ h2 _; exact absurd h2 (by decide)
  · obtain ⟨cur, hh, _⟩ := own_block h.loose hg
    rw [e, h.blk] at hh; injection hh with hh; injection hh with _ h2 _; exact absurd h2 (by decide)
  · obtain ⟨cur, hh, _⟩ := h.data.block hg
    obtain ⟨cur2, hh2, _⟩ := own_block h.loose e
    rw [hh] at hh2; injection hh2 with hh2; injection hh2 with _ h2 _; exact absurd h2 (by decide)

/-- One file's record is another one, in the same block. -/
theorem DiskAt.change (h : DiskAt base w s) {k : ByteArray} {r : FRec} (hr : s.R k = some r) (r' : FRec) (hF : r'.F = r.F) (hok : RecOK w' r') (hkeep : ∀ g, s.own g → ¬ r.blocks g → w'.heap[g]? = w.heap[g]?)
    (hblk : ∀ g, r'.blocks g → r.blocks g ∨ w.heap.size ≤ g) (hlow : base ≤ w.heap.size) (ht : ∀ p ∈ r'.loose, 0 < p.1 ∧ p.1 ≤ s.turn)
    (hu : ∀ (k' : ByteArray) (r2 : FRec) (i j : Nat) (p p' : Int × Int), k' ≠ k → s.R k' = some r2 → r'.loose[i]? = some p → r2.loose[j]? = some p' → p.1 ≠ p'.1)
    (hi : ∀ (i j : Nat) (p p' : Int × Int), r'.loose[i]? = some p → r'.loose[j]? = some p' → p.1 = p'.1 → i = j) : DiskAt base w' { s with R := updR s.R k (some r') } := by
  have hnr : ∀ g, (g = s.B ∨ g = s.M) → ¬ r.blocks g := fun g hg hb => by
    have := h.ne_rec hr hb
    rcases hg with rfl | rfl
    · exact this.1 rfl
    · exact this.2 rfl
  have hot : ∀ k' r2, k' ≠ k → s.R k' = some r2 → ∀ g, r2.blocks g → ¬ r.blocks g := fun k' r2 hne hr2 g hg hb => h.apart k' k r2 r g hne hr2 hr hg hb
  refine ⟨(hkeep _ (.inl rfl) (hnr _ (.inl rfl))).trans h.blk, (hkeep _ (.inr (.inl rfl)) (hnr _ (.inr rfl))).trans h.map, h.wf, fun k' => ?_, fun k' r2 hr2 => ?_, fun k1 k2 r1 r2 g hne h1 h2 hg1 hg2 => ?_, fun g hg => ?_, h.few, h.turn0, fun k' r2 p hr2 hp => ?_, fun k1 k2 r1 r2 i j p p' h1 h2 hp1 hp2 he => ?_⟩
  · by_cases e : k' = k
    · subst e
      show lkV k' s.L = (updR s.R k' (some r') k').map ptrF
      rw [updR_same, h.lk, hr]
      simp [ptrF, hF]
    · show lkV k' s.L = (updR s.R k (some r') k').map ptrF
      rw [updR_other _ e, h.lk]
  · by_cases e : k' = k
    · subst e
      have : some r' = some r2 := by rw [← updR_same s.R k' (some r')]; exact hr2
      cases this
      exact hok
    · have hr3 : s.R k' = some r2 := updR_is e hr2
      exact (h.recs k' r2 hr3).keep fun g hg => hkeep g (.inr (.inr ⟨k', r2, hr3, hg⟩)) (hot k' r2 e hr3 g hg)
  · have old : ∀ k' r2, k' ≠ k → s.R k' = some r2 → ∀ g, r2.blocks g → ¬ r'.blocks g := fun k' r2 e hr2 g hg hb => by
      rcases hblk g hb with hb | hb
      · exact hot k' r2 e hr2 g hg hb
      · have := (h.recs k' r2 hr2).lt hg; omega
    by_cases e1 : k1 = k
    · subst e1
      have e2 : k2 ≠ k1 := fun e => hne e.symm
      have h1' : some r' = some r1 := updR_me h1
      cases h1'
      have h2' : s.R k2 = some r2 := updR_is e2 h2
      exact old k2 r2 e2 h2' g hg2 hg1
    · have h1' : s.R k1 = some r1 := updR_is e1 h1
      by_cases e2 : k2 = k
      · subst e2
        have h2' : some r' = some r2 := updR_me h2
        cases h2'
        exact old k1 r1 e1 h1' g hg1 hg2
      · have h2' : s.R k2 = some r2 := updR_is e2 h2
        exact h.apart k1 k2 r1 r2 g hne h1' h2' hg1 hg2
  · rcases hg with rfl | rfl | ⟨k', r2, hr2, hg⟩
    · exact h.low _ (.inl rfl)
    · exact h.low _ (.inr (.inl rfl))
    · by_cases e : k' = k
      · subst e
        have h1' : some r' = some r2 := by rw [← updR_same s.R k' (some r')]; exact hr2
        cases h1'
        rcases hblk g hg with hb | hb
        · exact h.low g (.inr (.inr ⟨k', r, hr, hb⟩))
        · omega
      · have h2' : s.R k' = some r2 := updR_is e hr2
        exact h.low g (.inr (.inr ⟨k', r2, h2', hg⟩))
  · by_cases e : k' = k
    · subst e
      have h1' : some r' = some r2 := by rw [← updR_same s.R k' (some r')]; exact hr2
      cases h1'
      exact ht p hp
    · exact h.turns k' r2 p (updR_is e hr2) hp
  · by_cases e1 : k1 = k
    · subst e1
      have h1' : some r' = some r1 := updR_me h1
      cases h1'
      by_cases e2 : k2 = k1
      · subst e2
        have h2' : some r' = some r2 := updR_me h2
        cases h2'
        exact ⟨rfl, hi i j p p' hp1 hp2 he⟩
      · exact absurd he (hu k2 r2 i j p p' e2 (updR_is e2 h2) hp1 hp2)
    · have h1' : s.R k1 = some r1 := updR_is e1 h1
      by_cases e2 : k2 = k
      · subst e2
        have h2' : some r' = some r2 := updR_me h2
        cases h2'
        exact absurd he.symm (hu k1 r1 j i p' p e1 h1' hp2 hp1)
      · exact h.uniq k1 k2 r1 r2 i j p p' h1' (updR_is e2 h2) hp1 hp2 he
end
end Go.Proofs.YtfhdcjfkngflbaaDoor
