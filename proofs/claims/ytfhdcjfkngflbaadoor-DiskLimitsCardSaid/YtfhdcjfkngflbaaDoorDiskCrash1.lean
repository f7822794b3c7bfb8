/-
  disk: Crash: what it refuses; how the disk stands while its last loop goes round. Own work.
-/
import Derived.Test.YtfhdcjfkngflbaaDoorDiskCrash0
set_option linter.unusedSimpArgs false
set_option linter.unusedVariables false
namespace Go.Proofs.YtfhdcjfkngflbaaDoor
open Go Go.RowKit
open Go.ChangeMaps (setBlock)

theorem crash_nil (keep : Int) (w : World) : Calls Tryd.prog 17 #[.pointer none, .int .i64 keep] w fun e w' => e = .returned (.iface 31 (.int .i64 19)) ∧ w = w' := by
  go_enter Tryd.func17, Tryd.ntmps17
  go_wp2
  go_ret
  exact ⟨rfl, rfl⟩
theorem crash_neg (B : Nat) (keep : Int) (w : World) (h : keep < 0) : Calls Tryd.prog 17 #[.pointer (some ⟨B, 0, none⟩), .int .i64 keep] w fun e w' => e = .returned (.iface 31 (.int .i64 1)) ∧ w = w' := by
  go_enter Tryd.func17, Tryd.ntmps17
  go_wp2
  go_ret
  exact ⟨rfl, rfl⟩

theorem row_addr {w : World} {base : Nat} {e : TypeId} {size n c : Nat} {A : Option Addr} {xs : List Value} (h : w.ownsRow base e size (.slice A n c) n xs) (hn : 0 < n) : ∃ g, A = some ⟨g, 0, none⟩ ∧ base ≤ g ∧ g < w.heap.size := by
  rcases h.2 with ⟨_, h0⟩ | ⟨g, cap, cur, hv, hb, hh, _⟩
  · omega
  · injection hv with hA _ _
    exact ⟨g, hA, hb, (Array.getElem?_eq_some_iff.1 hh).1⟩

/-- While Crash's last loop goes round. -/
def CrashAt (base : Nat) (s : St) (f : Int → Int) (m : Nat) (L2 : List (MEnt Int)) (c2 : Nat) (it : Nat) (w wr : World) (dn : List (MEnt ByteArray)) : Prop := ∃ s', DiskAt base wr s' ∧ Frame s s' w wr ∧ s'.B = s.B ∧ s'.M = s.M ∧ s'.c = s.c ∧ s'.L = s.L ∧ s'.turn = s.turn ∧ base ≤ wr.heap.size ∧ ¬ s'.own it ∧ ¬ s'.own m ∧ MapAt intV wr m L2 c2 ∧ (∀ k, k ∈ dn.map MEnt.k → s'.R k = (s.R k).map (crashRec f)) ∧ ∀ k, k ∉ dn.map MEnt.k → s'.R k = s.R k

theorem setCell2_heap (w : World) (F i j : Nat) (u v : Value) (g : Nat) (hg : g ≠ F) : ((w.setCell ⟨F, i, none⟩ u).setCell ⟨F, j, none⟩ v).heap[g]? = w.heap[g]? :=
  (Below.heap_setCell _ ⟨F, j, none⟩ _ g hg).trans (Below.heap_setCell w ⟨F, i, none⟩ _ g hg)

section
variable {base : Nat} {s : St} {f : Int → Int} {m it c2 : Nat} {L2 : List (MEnt Int)} {w wr w2 : World} {dn : List (MEnt ByteArray)}
theorem CrashAt.end (H : DiskAt base w s) (h : CrashAt base s f m L2 c2 it w wr dn) (hp : dn.Perm s.L) : ∃ s', DiskAt base wr s' ∧ Frame s s' w wr ∧ s'.B = s.B ∧ s'.L = s.L ∧ s'.turn = s.turn ∧ ∀ k, s'.R k = (s.R k).map (crashRec f) := by
  obtain ⟨s', h1, h2, h3, _, _, h4, h5, _, _, _, _, h6, h7⟩ := h
  refine ⟨s', h1, h2, h3, h4, h5, fun k => ?_⟩
  cases hr : s.R k with
  | some r =>
    have hin : k ∈ dn.map MEnt.k := by
      have h8 := H.lk k
      rw [hr] at h8
      obtain ⟨e', he', hk', _⟩ := lkV_mem h8
      exact (hp.map MEnt.k).mem_iff.2 (List.mem_map.2 ⟨e', he', hk'⟩)
    rw [h6 k hin, hr]
  | none =>
    rw [h7 k ?_, hr]; rfl
    intro hin
    obtain ⟨e', he', rfl⟩ := List.mem_map.1 hin
    obtain ⟨r', hr', _⟩ := H.mem (hp.mem_iff.1 he')
    rw [hr] at hr'; cases hr'

/-- The next file's turn has come: it stands as it stood. -/
theorem CrashAt.at (h : CrashAt base s f m L2 c2 it w wr dn) (hitm : it ≠ m) (hg : wr.grownBy w2 (some it)) (hit : w.heap.size ≤ it) {k : ByteArray} (hk : k ∉ dn.map MEnt.k) : CrashAt base s f m L2 c2 it w w2 dn ∧ ∀ r, s.R k = some r → RecOK w2 r := by
  obtain ⟨s', h1, h2, h3, h3m, h3c, h4, h5, h5b, h5o, h5m, hm, h6, h7⟩ := h
  have hd2 := h1.iter hg h5o
  refine ⟨⟨s', hd2, h2.grown hg hit, h3, h3m, h3c, h4, h5, Nat.le_trans h5b hg.size, h5o, h5m, ?_, h6, h7⟩, fun r hr => hd2.recs k r (by rw [h7 k hk]; exact hr)⟩
  exact (hg.block m hm.lt (fun e => hitm (by injection e with e; exact e.symm))).trans hm
theorem CrashAt.below (h : CrashAt base s f m L2 c2 it w wr dn) (hb : Below wr.heap.size wr w2) : CrashAt base s f m L2 c2 it w w2 dn := by
  obtain ⟨s', h1, h2, h3, h3m, h3c, h4, h5, h5b, h5o, h5m, hm, h6, h7⟩ := h
  exact ⟨s', h1.below hb, h2.trans (Frame.of_below hb), h3, h3m, h3c, h4, h5, Nat.le_trans h5b hb.size, h5o, h5m, (hb.block m hm.lt).trans hm, h6, h7⟩
theorem CrashAt.map (h : CrashAt base s f m L2 c2 it w wr dn) : MapAt intV wr m L2 c2 := by
  obtain ⟨s', h1, h2, h3, h3m, h3c, h4, h5, h5b, h5o, h5m, hm, h6, h7⟩ := h
  exact hm
theorem CrashAt.rec (h : CrashAt base s f m L2 c2 it w wr dn) {k : ByteArray} {r : FRec} (hr : s.R k = some r) (hk : k ∉ dn.map MEnt.k) : RecOK wr r := by
  obtain ⟨s', h1, h2, h3, h3m, h3c, h4, h5, h5b, h5o, h5m, hm, h6, h7⟩ := h
  exact h1.recs k r (by rw [h7 k hk]; exact hr)
theorem CrashAt.next (h : CrashAt base s f m L2 c2 it w wr dn) {k : ByteArray} {r : FRec} (hr : s.R k = some r) (hk : k ∉ dn.map MEnt.k) (hf : ∀ p ∈ r.loose, 0 ≤ f p.1 ∧ f p.1 ≤ p.2) (v : Value) (b : Nat) :
    CrashAt base s f m L2 c2 it w ((wr.setCell ⟨r.F, 0, none⟩ (cutV r.dv (keepN f r))).setCell ⟨r.F, 1, none⟩ (.slice none 0 0)) (dn ++ [⟨k, v, b⟩]) ∧ it ≠ r.F ∧ s.M ≠ r.F := by
  obtain ⟨s', h1, h2, h3, h3m, h3c, h4, h5, h5b, h5o, h5m, hm, h6, h7⟩ := h
  have hr' : s'.R k = some r := by rw [h7 k hk]; exact hr
  obtain ⟨hd3, hf3⟩ := h1.crash h5b hr' hf
  have hFM : s.M ≠ r.F := fun e => by
    have := (h1.ne_rec hr' (g := r.F) (.inl rfl)).2
    rw [h3m] at this; exact this e.symm
  have hFI : it ≠ r.F := fun e => h5o (.inr (.inr ⟨k, r, hr', .inl e⟩))
  have hFm : m ≠ r.F := fun e => h5m (.inr (.inr ⟨k, r, hr', .inl e⟩))
  have hno : ∀ g, g < wr.heap.size → ¬ s'.own g → ¬ ({ s' with R := updR s'.R k (some (crashRec f r)) } : St).own g := fun g hg ho hb => by
    rcases hf3.own g hb with hb | hb
    · exact ho hb
    · omega
  refine ⟨⟨_, hd3, h2.trans hf3, h3, h3m, h3c, h4, h5, by simpa [World.setCell] using h5b, ?_, hno m hm.lt h5m, (setCell2_heap wr r.F 0 1 _ _ m hFm).trans hm, fun k' hk' => ?_, fun k' hk' => ?_⟩, hFI, hFM⟩
  · by_cases hit : it < wr.heap.size
    · exact hno it hit h5o
    · intro ho
      rcases hf3.own it ho with hb | hb
      · exact h5o hb
      · have hlt := hd3.lt ho
        simp [World.setCell] at hlt
        omega
  · show updR s'.R k (some (crashRec f r)) k' = _
    by_cases e : k' = k
    · subst e
      rw [updR_same, hr]; rfl
    · rw [updR_other _ e]
      exact h6 k' (by
        simp only [List.map_append, List.mem_append] at hk'
        rcases hk' with hk' | hk'
        · exact hk'
        · simp at hk'; exact absurd hk' e)
  · show updR s'.R k (some (crashRec f r)) k' = _
    simp only [List.map_append, List.mem_append, not_or] at hk'
    have e : k' ≠ k := fun e => hk'.2 (by simp [e])
    rw [updR_other _ e]
    exact h7 k' hk'.1
theorem key_fresh (H : DiskAt base w s) (h : ∀ e ∈ dn, e ∈ s.L) {e : MEnt ByteArray} (he : e ∈ s.L) (hnd : e ∉ dn) : e.k ∉ dn.map MEnt.k := fun hm => by
  obtain ⟨e', he', hk'⟩ := List.mem_map.1 hm
  have e8 : e' = e := inj_of_nodup H.wf.keys (h e' he') he hk'
  exact hnd (e8 ▸ he')
end
end Go.Proofs.YtfhdcjfkngflbaaDoor
