/-
  disk: how a disk stands behind an append to one file. Own work.
-/
import Derived.Test.YtfhdcjfkngflbaaDoorDiskPut2
set_option linter.unusedSimpArgs false
set_option linter.unusedVariables false
namespace Go.Proofs.YtfhdcjfkngflbaaDoor
open Go Go.RowKit
open Go.ChangeMaps (setBlock)

section
variable {base : Nat} {w w1 : World} {s : St}

theorem St.own_upd {s : St} {k : ByteArray} {r r' : FRec} (hr : s.R k = some r) {t : Int} {n : Nat} (hblk : ∀ g, r'.blocks g → r.blocks g ∨ n ≤ g) : ∀ g, ({ s with R := updR s.R k (some r'), turn := t } : St).own g → s.own g ∨ n ≤ g := fun g hg => by
  rcases hg with hg | hg | ⟨k', r2, hr2, hg⟩
  · exact .inl (.inl hg)
  · exact .inl (.inr (.inl hg))
  · by_cases e : k' = k
    · subst e
      cases updR_me hr2
      rcases hblk g hg with hb | hb
      · exact .inl (.inr (.inr ⟨k', r, hr, hb⟩))
      · exact .inr hb
    · exact .inl (.inr (.inr ⟨k', r2, updR_is e hr2, hg⟩))

theorem setCell_cells {w : World} {g i : Nat} {v : Value} {cs : Array Value} {t : TypeId} {fr : Nat × Nat} (h : w.heap[g]? = some (.cells cs t fr)) : (w.setCell ⟨g, i, none⟩ v).heap[g]? = some (.cells (cs.setIfInBounds i v) t fr) := by
  show (w.heap.modify g _)[g]? = _
  rw [Array.getElem?_modify, if_pos rfl, h]; rfl

theorem DiskAt.setData (h : DiskAt base w s) {k : ByteArray} {r : FRec} (hr : s.R k = some r) (v' : Value) (ds : List UInt8) (hd : DRow w1 v' ds) (hg : w.grownBy w1 r.dv.ownBlock)
    (hv : ∀ g, v'.ownBlock = some g → r.dv.ownBlock = some g ∨ w.heap.size ≤ g) (hlow : base ≤ w.heap.size) (hlen : ds.length ≤ 1048576) (hopen : openOf r.loose ≤ ds.length) :
    DiskAt base (w1.setCell ⟨r.F, 0, none⟩ v') { s with R := updR s.R k (some { r with dv := v', data := ds }) } ∧ Frame s { s with R := updR s.R k (some { r with dv := v', data := ds }) } w (w1.setCell ⟨r.F, 0, none⟩ v') := by
  have hrec := h.recs k r hr
  obtain ⟨ha1, ha2, ha3⟩ := hrec.apart
  have hFlt : r.F < w.heap.size := (Array.getElem?_eq_some_iff.1 hrec.blk).1
  have hF1 : w1.heap[r.F]? = some (.cells #[r.dv, r.lv] 55 (0, 0)) := (hg.block r.F hFlt (fun e => ha1 _ e.symm rfl)).trans hrec.blk
  have hkb : ∀ g, g < w.heap.size → ¬ r.blocks g → (w1.setCell ⟨r.F, 0, none⟩ v').heap[g]? = w.heap[g]? := fun g hlt hnb =>
    (Below.heap_setCell w1 ⟨r.F, 0, none⟩ v' g (fun e => hnb (.inl e))).trans (hg.block g hlt (fun e => hnb (.inr (.inl e.symm))))
  have hvF : ∀ g, v'.ownBlock = some g → g ≠ r.F := fun g hgv e => by
    rcases hv g hgv with hb | hb
    · exact ha1 g hb e
    · omega
  have hblk : ∀ g, ({ r with dv := v', data := ds } : FRec).blocks g → r.blocks g ∨ w.heap.size ≤ g := fun g hb => by
    rcases hb with hb | hb | hb
    · exact .inl (.inl hb)
    · rcases hv g hb with hb | hb
      · exact .inl (.inr (.inl hb))
      · exact .inr hb
    · exact .inl (.inr (.inr hb))
  refine ⟨h.change hr _ rfl ⟨?_, ?_, ?_, hlen, hrec.pos, hopen⟩ (fun g ho hnb => hkb g (h.lt ho) hnb) hblk hlow (fun p hp => h.turns k r p hr hp) (fun k' r2 i j p p' hne hr2 hp hp' e => hne (h.uniq k k' r r2 i j p p' hr hr2 hp hp' e).1.symm) (fun i j p p' hp hp' e => (h.uniq k k r r i j p p' hr hr hp hp' e).2), ?_⟩
  · exact setCell_cells hF1
  · exact hd.keep fun g hgv => Below.heap_setCell w1 ⟨r.F, 0, none⟩ v' g (hvF g hgv)
  · exact ownsRow_keep hrec.loose fun g hgl => (Below.heap_setCell w1 ⟨r.F, 0, none⟩ v' g (ha2 g hgl)).trans (hg.block g (hrec.lt (.inr (.inr hgl))) (fun e => ha3 g e.symm hgl))
  · refine ⟨hg.os, hg.tape, hg.output, Nat.le_trans hg.size (by simp [World.setCell]), fun g hlt ho => hkb g hlt fun hb => ho (.inr (.inr ⟨k, r, hr, hb⟩)), ?_⟩
    exact St.own_upd (t := s.turn) hr hblk

theorem openOf_snoc (l : List (Int × Int)) (p : Int × Int) : openOf (l ++ [p]) = openOf l + p.2 := by simp [openOf]

theorem DiskAt.setLoose (h : DiskAt base w s) {k : ByteArray} {r : FRec} (hr : s.R k = some r) (lv' : Value) (n : Int) (hd : w1.ownsRow 0 57 2 lv' (r.loose.length + 1) (pieceCells (r.loose ++ [(s.turn, n)]))) (hg : w.grownBy w1 r.lv.ownBlock)
    (hv : ∀ g, lv'.ownBlock = some g → r.lv.ownBlock = some g ∨ w.heap.size ≤ g) (hlow : base ≤ w.heap.size) (hn : 0 < n) (ht : 0 < s.turn) (hold : ∀ (k : ByteArray) (r : FRec) (p : Int × Int), s.R k = some r → p ∈ r.loose → p.1 < s.turn) (hopen : openOf r.loose + n ≤ r.data.length) :
    DiskAt base (w1.setCell ⟨r.F, 1, none⟩ lv') { s with R := updR s.R k (some { r with lv := lv', loose := r.loose ++ [(s.turn, n)] }) } ∧ Frame s { s with R := updR s.R k (some { r with lv := lv', loose := r.loose ++ [(s.turn, n)] }) } w (w1.setCell ⟨r.F, 1, none⟩ lv') := by
  have hrec := h.recs k r hr
  obtain ⟨ha1, ha2, ha3⟩ := hrec.apart
  have hFlt : r.F < w.heap.size := (Array.getElem?_eq_some_iff.1 hrec.blk).1
  have hF1 : w1.heap[r.F]? = some (.cells #[r.dv, r.lv] 55 (0, 0)) := (hg.block r.F hFlt (fun e => ha2 _ e.symm rfl)).trans hrec.blk
  have hkb : ∀ g, g < w.heap.size → ¬ r.blocks g → (w1.setCell ⟨r.F, 1, none⟩ lv').heap[g]? = w.heap[g]? := fun g hlt hnb =>
    (Below.heap_setCell w1 ⟨r.F, 1, none⟩ lv' g (fun e => hnb (.inl e))).trans (hg.block g hlt (fun e => hnb (.inr (.inr e.symm))))
  have hvF : ∀ g, lv'.ownBlock = some g → g ≠ r.F := fun g hgv e => by
    rcases hv g hgv with hb | hb
    · exact ha2 g hb e
    · omega
  have hblk : ∀ g, ({ r with lv := lv', loose := r.loose ++ [(s.turn, n)] } : FRec).blocks g → r.blocks g ∨ w.heap.size ≤ g := fun g hb => by
    rcases hb with hb | hb | hb
    · exact .inl (.inl hb)
    · exact .inl (.inr (.inl hb))
    · rcases hv g hb with hb | hb
      · exact .inl (.inr (.inr hb))
      · exact .inr hb
  have hin : ∀ (i : Nat) (p : Int × Int), (r.loose ++ [(s.turn, n)])[i]? = some p → (r.loose[i]? = some p ∧ i < r.loose.length) ∨ (p = (s.turn, n) ∧ i = r.loose.length) := fun i p hp => by
    by_cases e : i < r.loose.length
    · rw [List.getElem?_append_left e] at hp; exact .inl ⟨hp, e⟩
    · rw [List.getElem?_append_right (by omega)] at hp
      have h0 := (List.getElem?_eq_some_iff.1 hp).1
      simp at h0
      have e0 : i - r.loose.length = 0 := by omega
      rw [e0] at hp
      simp at hp
      exact .inr ⟨hp.symm, by omega⟩
  refine ⟨h.change hr _ rfl ⟨?_, ?_, ?_, hrec.few, fun p hp => ?_, ?_⟩ (fun g ho hnb => hkb g (h.lt ho) hnb) hblk hlow (fun p hp => ?_) (fun k' r2 i j p p' hne hr2 hp hp' e => ?_) (fun i j p p' hp hp' e => ?_), ?_⟩
  · exact setCell_cells hF1
  · exact hrec.data.keep fun g hgl => (Below.heap_setCell w1 ⟨r.F, 1, none⟩ lv' g (ha1 g hgl)).trans (hg.block g (hrec.lt (.inr (.inl hgl))) (fun e => ha3 g hgl e.symm))
  · refine ownsRow_keep ?_ fun g hgv => Below.heap_setCell w1 ⟨r.F, 1, none⟩ lv' g (hvF g hgv)
    simpa using hd
  · rcases List.mem_append.1 hp with hp | hp
    · exact hrec.pos p hp
    · obtain rfl : p = (s.turn, n) := by simpa using hp
      exact hn
  · show openOf (r.loose ++ [(s.turn, n)]) ≤ _
    rw [openOf_snoc]; exact hopen
  · rcases List.mem_append.1 hp with hp | hp
    · exact h.turns k r p hr hp
    · obtain rfl : p = (s.turn, n) := by simpa using hp
      exact ⟨ht, Int.le_refl _⟩
  · rcases hin i p hp with ⟨hp, _⟩ | ⟨rfl, _⟩
    · exact hne (h.uniq k k' r r2 i j p p' hr hr2 hp hp' e).1.symm
    · have := hold k' r2 p' hr2 (List.mem_of_getElem? hp')
      simp only at e
      omega
  · rcases hin i p hp with ⟨hp, hi⟩ | ⟨rfl, hi⟩
    · rcases hin j p' hp' with ⟨hp', hj⟩ | ⟨rfl, hj⟩
      · exact (h.uniq k k r r i j p p' hr hr hp hp' e).2
      · have := hold k r p hr (List.mem_of_getElem? hp)
        simp only at e
        omega
    · rcases hin j p' hp' with ⟨hp', hj⟩ | ⟨rfl, hj⟩
      · have := hold k r p' hr (List.mem_of_getElem? hp')
        simp only at e
        omega
      · omega
  · refine ⟨hg.os, hg.tape, hg.output, Nat.le_trans hg.size (by simp [World.setCell]), fun g hlt ho => hkb g hlt fun hb => ho (.inr (.inr ⟨k, r, hr, hb⟩)), ?_⟩
    exact St.own_upd (t := s.turn) hr hblk

theorem setTurn_frame (h : DiskAt base w s) (t : Int) : Frame s { s with turn := t } w (w.setCell ⟨s.B, 1, none⟩ (.int .i64 t)) :=
  ⟨rfl, rfl, rfl, by simp [World.setCell], fun g _ ho => Below.heap_setCell w ⟨s.B, 1, none⟩ _ g (fun e => ho (.inl e)), fun g hg => .inl hg⟩
end
end Go.Proofs.YtfhdcjfkngflbaaDoor
