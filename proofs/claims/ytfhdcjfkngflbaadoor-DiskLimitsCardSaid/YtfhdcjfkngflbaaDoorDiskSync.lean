/-
  disk: Sync. Own work.
-/
import Derived.Test.YtfhdcjfkngflbaaDoorDiskLoose
set_option linter.unusedSimpArgs false
set_option linter.unusedVariables false
namespace Go.Proofs.YtfhdcjfkngflbaaDoor
open Go Go.RowKit
open Go.ChangeMaps (setBlock)

def clr (r : FRec) : FRec := { r with lv := .slice none 0 0, loose := [] }

section
variable {base : Nat} {w w' : World} {s s' : St}
theorem DiskAt.clear (h : DiskAt base w s) (hlow : base ≤ w.heap.size) {k : ByteArray} {r : FRec} (hr : s.R k = some r) :
    DiskAt base (w.setCell ⟨r.F, 1, none⟩ (.slice none 0 0)) { s with R := updR s.R k (some (clr r)) } ∧ Frame s { s with R := updR s.R k (some (clr r)) } w (w.setCell ⟨r.F, 1, none⟩ (.slice none 0 0)) := by
  have hrec := h.recs k r hr
  obtain ⟨ha1, ha2, ha3⟩ := hrec.apart
  have hk : ∀ g, g ≠ r.F → (w.setCell ⟨r.F, 1, none⟩ (.slice none 0 0)).heap[g]? = w.heap[g]? := fun g hg => Below.heap_setCell w ⟨r.F, 1, none⟩ _ g hg
  have hblk : ∀ g, (clr r).blocks g → r.blocks g ∨ w.heap.size ≤ g := fun g hb => by
    rcases hb with hb | hb | hb
    · exact .inl (.inl hb)
    · exact .inl (.inr (.inl hb))
    · cases hb
  refine ⟨h.change hr _ rfl ⟨?_, ?_, World.ownsRow_nil _ _ _ _, hrec.few, by simp [clr], by simp [clr, openOf]⟩ (fun g ho hnb => hk g (fun e => hnb (.inl e))) hblk hlow (by simp [clr]) (by simp [clr]) (by simp [clr]), rfl, rfl, rfl, by simp [World.setCell], fun g hlt ho => hk g (fun e => ho (.inr (.inr ⟨k, r, hr, .inl e⟩))), St.own_upd (t := s.turn) hr hblk⟩
  · exact setCell_cells hrec.blk
  · exact hrec.data.keep fun g hg => hk g (ha1 g hg)

theorem Frame.grown (h : Frame s s' w w') {w2 : World} {b : Nat} (hg : w'.grownBy w2 (some b)) (hb : w.heap.size ≤ b) : Frame s s' w w2 :=
  ⟨hg.os.trans h.os, hg.tape.trans h.tape, hg.output.trans h.output, Nat.le_trans h.size hg.size, fun g hlt ho => (hg.block g (Nat.lt_of_lt_of_le hlt h.size) (fun e => by cases e; omega)).trans (h.block g hlt ho), h.own⟩
theorem DiskAt.iter (h : DiskAt base w s) {w2 : World} {b : Nat} (hg : w.grownBy w2 (some b)) (hb : ¬ s.own b) : DiskAt base w2 s := h.keep fun g ho => hg.block g (h.lt ho) (fun e => by cases e; exact hb ho)
end

theorem sync_nil (w : World) : Calls Tryd.prog 16 #[.pointer none] w fun e w' => e = .returned (.iface 31 (.int .i64 19)) ∧ w = w' := by
  go_enter Tryd.func16, Tryd.ntmps16
  go_wp2
  go_ret
  exact ⟨rfl, rfl⟩

/-- While Sync goes round: the files done so far are safe. -/
def SyncAt (base : Nat) (s : St) (w wr : World) (dn : List (MEnt ByteArray)) : Prop := ∃ s', DiskAt base wr s' ∧ Frame s s' w wr ∧ s'.B = s.B ∧ s'.M = s.M ∧ s'.c = s.c ∧ s'.L = s.L ∧ s'.turn = s.turn ∧ base ≤ wr.heap.size ∧ ¬ s'.own w.heap.size ∧ (∀ k, k ∈ dn.map MEnt.k → s'.R k = (s.R k).map clr) ∧ ∀ k, k ∉ dn.map MEnt.k → s'.R k = s.R k

set_option maxHeartbeats 1000000 in
theorem sync_any (base : Nat) (s : St) (w : World) (h : DiskAt base w s) (hlow : base ≤ w.heap.size) : Calls Tryd.prog 16 #[.pointer (some ⟨s.B, 0, none⟩)] w fun e w' => e = .returned .nilIface ∧
    ∃ s', DiskAt base w' s' ∧ Frame s s' w w' ∧ s'.B = s.B ∧ s'.L = s.L ∧ s'.turn = s.turn ∧ ∀ k, s'.R k = (s.R k).map clr := by
  have H := Lib.hid h
  have HL := Lib.hid hlow
  obtain ⟨c0, _, _⟩ := h.cells
  clear h hlow
  go_enter Tryd.func16, Tryd.ntmps16
  go_wp2_with (refine wpList_range_at rfl _ 48 rfl 9 52 Tryd.underlying48 rfl H.out.map H.out.wf ?_; intro w0 hrg0 hg0 hs0; have HR0 := Lib.hid hrg0; have HB0 : Hid (Below w.heap.size w w0) := (Below.refl _ w).grown hg0 (Nat.le_refl _) (fun g e => by cases e); clear hrg0 hg0 hs0)
  go_frame
  go_loopw [4] (fun _ wr => ∃ (dn : List (MEnt ByteArray)), Hid (IterAt Value.string wr s.M w.heap.size s.L s.c dn ∧ SyncAt base s w wr dn)) (fun _ wr => iterLeft w.heap.size s.L.length wr)
  case atStart =>
    refine ⟨[], HR0.out, s, H.out.below HB0.out, Frame.of_below HB0.out, rfl, rfl, rfl, rfl, rfl, Nat.le_trans HL.out HB0.out.size, fun ho => ?_, fun k hk => (by simp at hk), fun k _ => rfl⟩
    have := H.out.lt ho; omega
  case round =>
    obtain ⟨dn, HS⟩ := hrel
    go_wp2_with (refine wpList_next_at rfl _ rfl rfl HS.out.1 ?_ ?_)
    · intro hp
      have HE : Hid (∃ s', DiskAt base wr s' ∧ Frame s s' w wr ∧ s'.B = s.B ∧ s'.L = s.L ∧ s'.turn = s.turn ∧ ∀ k, s'.R k = (s.R k).map clr) := by
        obtain ⟨s', h1, h2, h3, _, _, h4, h5, _, _, h6, h7⟩ := HS.out.2
        refine ⟨s', h1, h2, h3, h4, h5, fun k => ?_⟩
        cases hr : s.R k with
        | some r =>
          have hin : k ∈ dn.map MEnt.k := by
            have h8 := H.out.lk k
            rw [hr] at h8
            obtain ⟨e', he', hk', _⟩ := lkV_mem h8
            exact (hp.map MEnt.k).mem_iff.2 (List.mem_map.2 ⟨e', he', hk'⟩)
          rw [h6 k hin, hr]
        | none =>
          rw [h7 k ?_, hr]; rfl
          intro hin
          obtain ⟨e', he', rfl⟩ := List.mem_map.1 hin
          obtain ⟨r', hr', _⟩ := H.out.mem (hp.mem_iff.1 he')
          rw [hr] at hr'; cases hr'
      go_wp2
      go_ret
      exact ⟨rfl, HE.out⟩
    · intro e he hnd w2 hrg2 hg2 hs2 hen
      obtain ⟨r, hr, hv⟩ := H.out.mem he
      obtain ⟨k9, v9, b9⟩ := e
      simp only at hr hv hen hrg2
      subst hv
      have hkn : k9 ∉ dn.map MEnt.k := fun hm => by
        obtain ⟨e', he', hk'⟩ := List.mem_map.1 hm
        have hin : e' ∈ s.L := HS.out.1.2.2.2.2 e' he'
        have e8 : e' = ⟨k9, ptrF r, b9⟩ := inj_of_nodup H.out.wf.keys hin he hk'
        exact hnd (e8 ▸ he')
      obtain ⟨s', h1, h2, h3, h3m, h3c, h4, h5, h5b, h5o, h6, h7⟩ := HS.out.2
      have hr' : s'.R k9 = some r := by rw [h7 k9 hkn]; exact hr
      have hd2 := h1.iter hg2 h5o
      have hf2 := h2.grown hg2 (Nat.le_refl _)
      have hlow2 : base ≤ w2.heap.size := by rw [hs2]; exact h5b
      obtain ⟨hd3, hf3⟩ := hd2.clear hlow2 hr'
      obtain ⟨_, f1, ff⟩ := (hd2.recs k9 r hr').cells
      obtain ⟨Al, cl, hlv⟩ := own_slice (hd2.recs k9 r hr').loose
      rw [hlv] at f1
      have hRlt : w.heap.size < w2.heap.size := hrg2.lt
      have hFM : s.M ≠ r.F := fun e => by
        have := (hd2.ne_rec hr' (g := r.F) (.inl rfl)).2
        rw [h3m] at this; exact this e.symm
      have hFR : w.heap.size ≠ r.F := fun e => h5o (.inr (.inr ⟨k9, r, hr', .inl e⟩))
      have HIT : Hid (IterAt Value.string (w2.setCell ⟨r.F, 1, none⟩ (.slice none 0 0)) s.M w.heap.size s.L s.c (dn ++ [⟨k9, ptrF r, b9⟩])) :=
        hrg2.ofEq (Below.heap_setCell w2 ⟨r.F, 1, none⟩ _ _ hFM) (Below.heap_setCell w2 ⟨r.F, 1, none⟩ _ _ hFR)
      have HSY : Hid (SyncAt base s w (w2.setCell ⟨r.F, 1, none⟩ (.slice none 0 0)) (dn ++ [⟨k9, ptrF r, b9⟩])) := by
        refine ⟨_, hd3, hf2.trans hf3, h3, h3m, h3c, h4, h5, by simpa [World.setCell] using hlow2, fun ho => ?_, fun k hk => ?_, fun k hk => ?_⟩
        · rcases hf3.own _ ho with ho | ho
          · exact h5o ho
          · omega
        · show updR s'.R k9 (some (clr r)) k = _
          by_cases e : k = k9
          · subst e
            rw [updR_same, hr]; rfl
          · rw [updR_other _ e]
            exact h6 k (by
              simp only [List.map_append, List.mem_append] at hk
              rcases hk with hk | hk
              · exact hk
              · simp at hk; exact absurd hk e)
        · show updR s'.R k9 (some (clr r)) k = _
          simp only [List.map_append, List.mem_append, not_or] at hk
          have e : k ≠ k9 := fun e => hk.2 (by simp [e])
          rw [updR_other _ e]
          exact h7 k hk.1
      have hle := hrg2.le
      have HL9 : Hid (dn.length + 1 ≤ s.L.length) := by simp only [Hid]; simpa using hle
      simp only [ptrF] at hen
      clear hrg2 hg2 hs2 he hnd hr hkn h1 h2 h3 h3m h3c h4 h5 h5b h5o h6 h7 hr' hd2 hf2 hlow2 hd3 hf3 hlv hFM hFR hle hRlt
      go_wp2
      exact ⟨⟨_, HIT.out, HSY.out⟩, by rw [HIT.out.left, HS.out.1.left]; have := HL9.out; simp; omega⟩
end Go.Proofs.YtfhdcjfkngflbaaDoor
