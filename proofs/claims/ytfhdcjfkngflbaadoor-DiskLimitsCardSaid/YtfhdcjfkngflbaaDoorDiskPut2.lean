/-
  disk: a new file, a file gone, the turn; an append of bytes at a step. Own work.
-/
import Derived.Test.YtfhdcjfkngflbaaDoorDiskPut
set_option linter.unusedSimpArgs false
set_option linter.unusedVariables false
namespace Go.Proofs.YtfhdcjfkngflbaaDoor
open Go Go.RowKit Go.ChangeMaps

section
variable {base : Nat} {w w' : World} {s : St}

theorem DiskAt.setTurn (h : DiskAt base w s) (t : Int) (ht : s.turn ≤ t) : DiskAt base (w.setCell ⟨s.B, 1, none⟩ (.int .i64 t)) { s with turn := t } := by
  have hk : ∀ g, g ≠ s.B → (w.setCell ⟨s.B, 1, none⟩ (.int .i64 t)).heap[g]? = w.heap[g]? := fun g hg => Below.heap_setCell w ⟨s.B, 1, none⟩ _ g hg
  refine ⟨?_, (hk _ (fun e => h.ne_BM e.symm)).trans h.map, h.wf, h.lk, fun k r hr => (h.recs k r hr).keep fun g hg => hk g (h.ne_rec hr hg).1, h.apart, h.low, h.few, Int.le_trans h.turn0 ht, fun k r p hr hp => ⟨(h.turns k r p hr hp).1, Int.le_trans (h.turns k r p hr hp).2 ht⟩, h.uniq⟩
  show (w.heap.modify s.B _)[s.B]? = _
  rw [Array.getElem?_modify, if_pos rfl, h.blk]
  rfl

/-- The record of a file that is made. -/
def newRec (w : World) : FRec := ⟨w.heap.size, .slice none 0 0, .slice none 0 0, [], []⟩
def putSt (s : St) (w : World) (k : ByteArray) : St := { s with R := updR s.R k (some (newRec w)), L := putE k (.pointer (some ⟨w.heap.size, 0, none⟩)) s.c s.L, c := clkE k s.L s.c }
theorem newRec_blocks {w : World} {g : Nat} (h : (newRec w).blocks g) : g = w.heap.size := by
  rcases h with h | h | h
  · exact h
  · cases h
  · cases h

theorem DiskAt.put (h : DiskAt base w s) (hlow : base ≤ w.heap.size) (k : ByteArray) (hr : s.R k = none) (hfew : s.L.length < 64) :
    DiskAt base (setBlock (w.alloc (.cells #[.slice none 0 0, .slice none 0 0] 55)) s.M (.map ((putE k (.pointer (some ⟨w.heap.size, 0, none⟩)) s.c s.L).map (MEnt.ent Value.string)).toArray (clkE k s.L s.c))) (putSt s w k) := by
  have hMlt := h.map.lt
  have hk : ∀ g, g < w.heap.size → g ≠ s.M → (setBlock (w.alloc (.cells #[.slice none 0 0, .slice none 0 0] 55)) s.M (.map ((putE k (.pointer (some ⟨w.heap.size, 0, none⟩)) s.c s.L).map (MEnt.ent Value.string)).toArray (clkE k s.L s.c))).heap[g]? = w.heap[g]? := fun g hg hne =>
    (setBlock_other _ hne).trans (Below.heap_alloc w _ g hg)
  have hnone : lkV k s.L = none := by rw [h.lk, hr]; rfl
  have hBlt := (Array.getElem?_eq_some_iff.1 h.blk).1
  have hnew : RecOK (setBlock (w.alloc (.cells #[.slice none 0 0, .slice none 0 0] 55)) s.M (.map ((putE k (.pointer (some ⟨w.heap.size, 0, none⟩)) s.c s.L).map (MEnt.ent Value.string)).toArray (clkE k s.L s.c))) (newRec w) := by
    refine ⟨?_, .inl ⟨rfl, rfl⟩, World.ownsRow_nil _ _ _ _, by simp [newRec], by simp [newRec], by simp [newRec, openOf]⟩
    exact (setBlock_other _ (by simp [newRec]; omega)).trans (heap_alloc_new w _)
  refine ⟨(hk _ hBlt h.ne_BM).trans h.blk, mapAt_setBlock (by simp; omega), h.wf.put, fun k' => ?_, fun k' r2 hr2 => ?_, fun k1 k2 r1 r2 g hne h1 h2 hg1 hg2 => ?_, fun g hg => ?_, ?_, h.turn0, fun k' r2 p hr2 hp => ?_, fun k1 k2 r1 r2 i j p p' h1 h2 hp1 hp2 he => ?_⟩
  · show lkV k' (putE k _ s.c s.L) = (updR s.R k (some (newRec w)) k').map ptrF
    rw [lkV_put]
    by_cases e : k' = k
    · subst e; rw [if_pos rfl, updR_same]; rfl
    · rw [if_neg e, updR_other _ e, h.lk]
  · by_cases e : k' = k
    · subst e
      cases updR_me hr2
      exact hnew
    · have hr3 := updR_is e hr2
      exact (h.recs k' r2 hr3).keep fun g hg => hk g ((h.recs k' r2 hr3).lt hg) (h.ne_rec hr3 hg).2
  · by_cases e1 : k1 = k
    · subst e1
      cases updR_me h1
      have h2' := updR_is (fun e => hne e.symm) h2
      have := newRec_blocks hg1
      have := (h.recs k2 r2 h2').lt hg2
      omega
    · have h1' := updR_is e1 h1
      by_cases e2 : k2 = k
      · subst e2
        cases updR_me h2
        have := newRec_blocks hg2
        have := (h.recs k1 r1 h1').lt hg1
        omega
      · exact h.apart k1 k2 r1 r2 g hne h1' (updR_is e2 h2) hg1 hg2
  · rcases hg with rfl | rfl | ⟨k', r2, hr2, hg⟩
    · exact h.low _ (.inl rfl)
    · exact h.low _ (.inr (.inl rfl))
    · by_cases e : k' = k
      · subst e
        cases updR_me hr2
        rw [newRec_blocks hg]; exact hlow
      · exact h.low g (.inr (.inr ⟨k', r2, updR_is e hr2, hg⟩))
  · show (putE k _ s.c s.L).length ≤ 64
    rw [putE_none hnone]; simp; omega
  · by_cases e : k' = k
    · subst e
      cases updR_me hr2
      simp [newRec] at hp
    · exact h.turns k' r2 p (updR_is e hr2) hp
  · by_cases e1 : k1 = k
    · subst e1
      cases updR_me h1
      simp [newRec] at hp1
    · by_cases e2 : k2 = k
      · subst e2
        cases updR_me h2
        simp [newRec] at hp2
      · exact h.uniq k1 k2 r1 r2 i j p p' (updR_is e1 h1) (updR_is e2 h2) hp1 hp2 he

theorem putSt_frame (h : DiskAt base w s) (k : ByteArray) :
    Frame s (putSt s w k) w (setBlock (w.alloc (.cells #[.slice none 0 0, .slice none 0 0] 55)) s.M (.map ((putE k (.pointer (some ⟨w.heap.size, 0, none⟩)) s.c s.L).map (MEnt.ent Value.string)).toArray (clkE k s.L s.c))) := by
  refine ⟨rfl, rfl, rfl, by simp [setBlock], fun g hg ho => (setBlock_other _ (fun e => ho (.inr (.inl e)))).trans (Below.heap_alloc w _ g hg), fun g hg => ?_⟩
  rcases hg with hg | hg | ⟨k', r2, hr2, hg⟩
  · exact .inl (.inl hg)
  · exact .inl (.inr (.inl hg))
  · by_cases e : k' = k
    · subst e
      cases updR_me hr2
      exact .inr (by rw [newRec_blocks hg]; exact Nat.le_refl _)
    · exact .inl (.inr (.inr ⟨k', r2, updR_is e hr2, hg⟩))

def dropSt (s : St) (k : ByteArray) : St := { s with R := updR s.R k none, L := delE k s.L }
theorem DiskAt.drop (h : DiskAt base w s) (k : ByteArray) : DiskAt base (setBlock w s.M (.map ((delE k s.L).map (MEnt.ent Value.string)).toArray s.c)) (dropSt s k) := by
  have hk : ∀ g, g ≠ s.M → (setBlock w s.M (.map ((delE k s.L).map (MEnt.ent Value.string)).toArray s.c)).heap[g]? = w.heap[g]? := fun g hne => setBlock_other _ hne
  have old : ∀ k' r2, updR s.R k none k' = some r2 → s.R k' = some r2 := fun k' r2 hr2 => by
    by_cases e : k' = k
    · subst e; rw [updR_same] at hr2; cases hr2
    · exact updR_is e hr2
  refine ⟨(hk _ h.ne_BM).trans h.blk, mapAt_setBlock h.map.lt, h.wf.del, fun k' => ?_, fun k' r2 hr2 => (h.recs k' r2 (old k' r2 hr2)).keep fun g hg => hk g (h.ne_rec (old k' r2 hr2) hg).2, fun k1 k2 r1 r2 g hne h1 h2 hg1 hg2 => h.apart k1 k2 r1 r2 g hne (old _ _ h1) (old _ _ h2) hg1 hg2, fun g hg => ?_, Nat.le_trans (delE_sub k s.L).length_le h.few, h.turn0, fun k' r2 p hr2 hp => h.turns k' r2 p (old _ _ hr2) hp, fun k1 k2 r1 r2 i j p p' h1 h2 hp1 hp2 he => h.uniq k1 k2 r1 r2 i j p p' (old _ _ h1) (old _ _ h2) hp1 hp2 he⟩
  · show lkV k' (delE k s.L) = (updR s.R k none k').map ptrF
    rw [lkV_del h.wf]
    by_cases e : k' = k
    · subst e; rw [if_pos rfl, updR_same]; rfl
    · rw [if_neg e, updR_other _ e, h.lk]
  · rcases hg with rfl | rfl | ⟨k', r2, hr2, hg⟩
    · exact h.low _ (.inl rfl)
    · exact h.low _ (.inr (.inl rfl))
    · exact h.low g (.inr (.inr ⟨k', r2, old _ _ hr2, hg⟩))
theorem dropSt_frame (h : DiskAt base w s) (k : ByteArray) : Frame s (dropSt s k) w (setBlock w s.M (.map ((delE k s.L).map (MEnt.ent Value.string)).toArray s.c)) := by
  refine ⟨rfl, rfl, rfl, by simp [setBlock], fun g hg ho => setBlock_other _ (fun e => ho (.inr (.inl e))), fun g hg => ?_⟩
  rcases hg with hg | hg | ⟨k', r2, hr2, hg⟩
  · exact .inl (.inl hg)
  · exact .inl (.inr (.inl hg))
  · by_cases e : k' = k
    · subst e
      have : updR s.R k' none k' = some r2 := hr2
      rw [updR_same] at this; cases this
    · exact .inl (.inr (.inr ⟨k', r2, updR_is e hr2, hg⟩))
end

theorem wpList_append_bytes (w : World) {ops : Array Oper} {rest : List Oper} {o : Oper} {a : Act} {Q : Exit → Act → World → Prop} (hgd : o.guard = none) (sl x : Operand)
    (ho : o.op = .call { callee := .builtin .append, args := #[sl, x], argTypes := #[28, 28] })
    (v : Value) (bs nb : List UInt8) (A : Option Addr) (n c : Nat) (hs : a.eval sl = v) (hx : a.eval x = .slice A n c) (hn : nb.length = n) (h : DRow w v bs) (hA : BytesAt w A nb) (hb : bs.length + nb.length ≤ 2000000)
    (hK : ∀ v' w', DRow w' v' (bs ++ nb) → w.grownBy w' v.ownBlock → (∀ g, v'.ownBlock = some g → v.ownBlock = some g ∨ w.heap.size ≤ g) → wpList Tryd.prog ops Q rest (a.put o.dst v') w') : wpList Tryd.prog ops Q (o :: rest) a w := by
  subst hn
  obtain ⟨v', w', hr, h2, h3, h4⟩ := append_bytes h A c o.type hA hb
  refine wpList_plain hgd fun K hK' => ?_
  unfold Oper.wp execOp
  simp only [ho, resolve, invoke, builtin, Sem.run_bind, Sem.run_pure, Result.andThen_ok, List.map_toArray, List.map_cons, List.map_nil, hs, hx, hr]
  exact hK' _ _ (hK v' w' h2 h3 h4)
end Go.Proofs.YtfhdcjfkngflbaaDoor
