/-
  disk: the document's Sync, walked. Own work.
-/
import Derived.Test.YtfhdcjfkngflbaaGreatDoorP9
set_option linter.unusedSimpArgs false
set_option linter.unusedVariables false
namespace Go.Proofs.YtfhdcjfkngflbaaGreatDoor
open Go Go.RowKit

set_option maxRecDepth 100000 in
set_option maxHeartbeats 8000000 in
theorem sync_in (O : Nat → Prop) (A : Option Addr) (n c : Nat) (L : List RF) (last : Int) (w : World) (h : RefD O w A n c L) (hO : ∀ g, O g → g < w.heap.size) (hn : n ≤ 64) (hT : ∀ f ∈ L, f.data.length ≤ 10000) :
    Calls Tryz.prog 22 #[.agg #[.slice A n c, .int .i64 last]] w fun e w' => ∃ (A' : Option Addr) (c' : Nat) (L' : List RF), e = .returned (.agg #[.slice A' n c', .int .i64 last]) ∧ Hid (RefD O w' A' n c' L' ∧ Below w.heap.size w w' ∧ L'.length = L.length ∧ ∀ (i : Nat) (f f' : RF), L[i]? = some f → L'[i]? = some f' → f'.name = f.name ∧ f'.data = f.data.take f.data.length ∧ f'.turn = List.replicate f.data.length 0) := by
  obtain ⟨w1, hw1⟩ : ∃ w1, w1 = ((w.alloc (.cells #[.slice A n c, .int .i64 last] 29)).alloc (.cells #[.slice none 0 0, .int .i64 0] 29)).alloc (.cells #[.slice none 0 0, .int .i64 last] 29) := ⟨_, rfl⟩
  obtain ⟨b2, hb2⟩ : ∃ b2, b2 = w.heap.size + 1 + 1 := ⟨_, rfl⟩
  obtain ⟨b1, hb1⟩ : ∃ b1, b1 = w.heap.size + 1 := ⟨_, rfl⟩
  obtain ⟨b0, hb0⟩ : ∃ b0, b0 = w.heap.size := ⟨_, rfl⟩
  have H1 : Hid (SBx w w1 b0 b1 b2 (.slice A n c) (.int .i64 last) (.slice none 0 0) (.int .i64 last) ∧ b2 < w1.heap.size) := by
    rw [hw1, hb2, hb1, hb0]; exact ⟨sbx_new w _ _ _ _, by simp⟩
  obtain ⟨P, hP⟩ : ∃ P : Nat → Prop, Hid (∀ g, P g ↔ (O g ∨ (w.heap.size ≤ g ∧ g < w1.heap.size))) := ⟨fun g => O g ∨ (w.heap.size ≤ g ∧ g < w1.heap.size), fun g => Iff.rfl⟩
  have hPO : ∀ g, g < w.heap.size → P g → O g := fun g hg hp => by
    rcases (hP.out g).1 hp with h | h
    · exact h
    · omega
  have HR := Lib.hid (h.keep (w' := w) (fun g _ _ => rfl) hPO)
  have HPS : Hid (∀ g, P g → g < w1.heap.size) := fun g hg => by
    rcases (hP.out g).1 hg with h | h
    · have := hO g h; have := H1.out.1.old.size; omega
    · exact h.2
  have HN : Hid (n ≤ 64 ∧ L.length = n) := ⟨hn, h.len⟩
  have HT := Lib.hid hT
  clear h hO hn hT hPO
  obtain ⟨i0, hi, hz0, hz1, hz2⟩ := info_parts file_info
  go_enter Tryz.func22, Tryz.ntmps22
  go_wp2
  rw [← hw1, ← hb2, ← hb1, ← hb0]
  clear hw1 hb2 hb1 hb0
  go_loopw [12] (fun i wr => ∃ (j : Nat) (A5 : Option Addr) (c5 : Nat) (Lacc : List RF), j ≤ n ∧ i = .int .i64 j ∧ Hid (SBx w wr b0 b1 b2 (.slice A n c) (.int .i64 last) (.slice A5 j c5) (.int .i64 last) ∧ wr.ownsRow w1.heap.size 66 3 (.slice A5 j c5) j (rfCells Lacc) ∧ Made (PV P (.slice A5 j c5)) wr L Lacc (fun f => f.data.length) j ∧ w1.heap.size ≤ wr.heap.size)) (fun i _ => n - (intOf i).toNat)
  case atStart => exact ⟨0, none, 0, [], Nat.zero_le _, rfl, H1.out.1, World.ownsRow_nil _ _ _ _, ⟨rfl, fun f hf => (by cases hf), fun i f f' _ h => (by simp at h)⟩, Nat.le_refl _⟩
  case round =>
    obtain ⟨j, A5, c5, Lacc, hj, rfl, HL⟩ := hrel
    obtain ⟨d0, d1⟩ := cell2 HL.out.1.d
    obtain ⟨o0, o1⟩ := cell2 HL.out.1.o
    have of := fun i => (show wr.frozen? ⟨b2, i, none⟩ = false from by simp [World.frozen?, HL.out.1.o])
    by_cases hlt : j < n
    · obtain ⟨x, hx⟩ : ∃ f, Hid (L[j]? = some f) := ⟨_, List.getElem?_eq_getElem (by have := HN.out; omega)⟩
      obtain ⟨g, rfl, x0, x1, x2, hok⟩ := (HR.out.below HL.out.1.old).at_ hx.out
      have HOK := Lib.hid hok
      have HX := Lib.hid (HR.out.files x (List.mem_of_getElem? hx.out))
      obtain ⟨xd, hxd⟩ : ∃ q, Hid (x.data.length = q ∧ q ≤ 10000) := ⟨_, rfl, HT.out x (List.mem_of_getElem? hx.out)⟩
      obtain ⟨xt, hxt⟩ : ∃ q, Hid (x.turn.length = q) := ⟨_, rfl⟩
      rw [hxd.out.1] at x1
      rw [hxt.out] at x2
      have hw1' : IntKind.i64.wrap ((j : Int) + 1) = ((j + 1 : Nat) : Int) := by have := HN.out; rw [IntKind.wrap_i64]; omega
      have hj0 : ((0 : Int) ≤ j) := by omega
      have hj1 : ((j : Nat) : Int) < n := by omega
      have hmk := run_make_ints xd (by have := hxd.out; omega)
      have hlt2 : b2 < wr.heap.size := by have := H1.out.2; have := HL.out.2.2.2; omega
      have hne2 : ¬ (b2 = wr.heap.size) := by omega
      clear hok
      obtain ⟨W0, hW0⟩ : ∃ W0, W0 = wr.alloc (.cells #[.string x.name, .slice x.dA xd x.dc, .slice x.tA xt x.tc] 66) := ⟨_, rfl⟩
      obtain ⟨F, hF⟩ : ∃ F, F = wr.heap.size := ⟨_, rfl⟩
      have HB0 : Hid (Below wr.heap.size wr W0 ∧ W0.heap[F]? = some (.cells #[.string x.name, .slice x.dA xd x.dc, .slice x.tA xt x.tc] 66 (0, 0)) ∧ W0.heap.size = F + 1) := by
        rw [hW0, hF]
        exact ⟨(Below.refl _ _).alloc (Nat.le_refl _) _, heap_alloc_new _ _, by simp⟩
      have HS0 : Hid (SBx w W0 b0 b1 b2 (.slice (some ⟨g, 0, none⟩) n c) (.int .i64 last) (.slice A5 j c5) (.int .i64 last)) := HL.out.1.keep HB0.out.1 hlt2
      go_wp2
      rw [← hW0, ← hF]
      have hF1 : F < W0.heap.size := by have := HB0.out.2.2; omega
      have hb2W : b2 < W0.heap.size := by omega
      have HFw : Hid (F = wr.heap.size) := hF
      clear hW0 hF
      obtain ⟨p0, p1⟩ := cell2 HS0.out.o
      obtain ⟨y0, y1, y2⟩ := cell3 HB0.out.2.1
      have HROW : Hid (∀ W, Below W0.heap.size W0 W → W.ownsRow w1.heap.size 66 3 (.slice A5 j c5) j (rfCells Lacc)) := fun W hW =>
        ownsRow_keep HL.out.2.1 fun k hk => by
          have h1 := (own_block HL.out.2.1 hk).choose_spec.2.2
          have h2 := HB0.out.1.size
          exact (hW.block k (by omega)).trans (HB0.out.1.block k h1)
      have hm1 : Hid (j + 1 ≤ maxLen) := Nat.le_trans (show j + 1 ≤ 66 by have := HN.out; clear hw1'; omega) (by decide)
      have hb1' : Hid ((j + 1) * 64 ≤ 140737488355328) := by have := HN.out; clear hw1'; simp only [Hid]; omega
      have hzz : Hid (∀ W, Below W0.heap.size W0 W → w1.heap.size ≤ W.heap.size) := fun W hW => by have := hW.size; have := HL.out.2.2.2; have := HB0.out.1.size; omega
      have HGR : Hid (∀ W w5, W.grownBy w5 (Value.slice A5 j c5).ownBlock → Below W0.heap.size W0 W → W.heap[W0.heap.size]? = some (.cells (intVs (List.replicate xd 0)).toArray 3 (0, 0)) → Below w1.heap.size wr w5 ∧ SBx w w5 b0 b1 b2 (.slice (some ⟨g, 0, none⟩) n c) (.int .i64 last) (.slice A5 j c5) (.int .i64 last) ∧ w5.heap[W0.heap.size]? = some (.cells (intVs (List.replicate xd 0)).toArray 3 (0, 0))) := fun W w5 hg hW hi => by
        have hb : Below w1.heap.size W w5 := (Below.refl _ W).grown hg (hzz.out W hW) (fun k hk => (own_block HL.out.2.1 hk).choose_spec.2.1)
        have hs0 := HB0.out.1.size
        have hs1 := HL.out.2.2.2
        refine ⟨((HB0.out.1.mono hs1).trans (hW.mono (by omega))).trans hb, (HS0.out.keep hW hb2W).keep hb H1.out.2, ?_⟩
        refine (hg.block _ (Array.getElem?_eq_some_iff.1 hi).1 fun e => ?_).trans hi
        have := (own_block HL.out.2.1 e.symm).choose_spec.2.2
        omega
      have HFIN : Hid (∀ W w5 g5 cap5, W.grownBy w5 (Value.slice A5 j c5).ownBlock → Below W0.heap.size W0 W → W.heap[W0.heap.size]? = some (.cells (intVs (List.replicate xd 0)).toArray 3 (0, 0)) → ((Value.slice A5 j c5).ownBlock = some g5 ∨ g5 = W.heap.size) →
          w5.ownsRow w1.heap.size 66 3 (.slice (some ⟨g5, 0, none⟩) (j + 1) cap5) (j + 1) (rfCells Lacc ++ [.string x.name, .slice x.dA xd x.dc, .slice (some ⟨W0.heap.size, 0, none⟩) xd xd]) →
          ∃ L2, SBx w (w5.setCell ⟨b2, 0, none⟩ (.slice (some ⟨g5, 0, none⟩) (j + 1) cap5)) b0 b1 b2 (.slice (some ⟨g, 0, none⟩) n c) (.int .i64 last) (.slice (some ⟨g5, 0, none⟩) (j + 1) cap5) (.int .i64 last) ∧ (w5.setCell ⟨b2, 0, none⟩ (.slice (some ⟨g5, 0, none⟩) (j + 1) cap5)).ownsRow w1.heap.size 66 3 (.slice (some ⟨g5, 0, none⟩) (j + 1) cap5) (j + 1) (rfCells L2) ∧ Made (PV P (.slice (some ⟨g5, 0, none⟩) (j + 1) cap5)) (w5.setCell ⟨b2, 0, none⟩ (.slice (some ⟨g5, 0, none⟩) (j + 1) cap5)) L L2 (fun f => f.data.length) (j + 1) ∧ w1.heap.size ≤ (w5.setCell ⟨b2, 0, none⟩ (.slice (some ⟨g5, 0, none⟩) (j + 1) cap5)).heap.size) := fun W w5 g5 cap5 hg hW hints hat hown => by
        obtain ⟨h1, h2, h3⟩ := HGR.out W w5 hg hW hints
        have hs0 := HB0.out.1.size
        have hs1 := HL.out.2.2.2
        have hsW := hW.size
        have hbP : P b2 := (hP.out b2).2 (.inr (by have := H1.out.1.n; have := H1.out.2; omega))
        have hself : (Value.slice (some ⟨g5, 0, none⟩) (j + 1) cap5).ownBlock = some g5 := rfl
        have hPV : ∀ k, k < W.heap.size → PV P (.slice (some ⟨g5, 0, none⟩) (j + 1) cap5) k → PV P (.slice A5 j c5) k := fun k hk hp => by
          rcases hp with hp | hp
          · exact .inl hp
          · rw [hself] at hp
            cases hp
            rcases hat with h | h
            · exact .inr h
            · omega
        have hset : ∀ f, RFok (PV P (.slice (some ⟨g5, 0, none⟩) (j + 1) cap5)) w5 f → RFok (PV P (.slice (some ⟨g5, 0, none⟩) (j + 1) cap5)) (w5.setCell ⟨b2, 0, none⟩ (.slice (some ⟨g5, 0, none⟩) (j + 1) cap5)) f := fun f hf => hf.keep (fun k _ hk => Below.heap_setCell _ _ _ _ (fun e => hk (.inl (by have e' : k = b2 := e; rw [e']; exact hbP)))) fun _ _ h => h
        have hW5 : ∀ f, RFok (PV P (.slice A5 j c5)) W f → RFok (PV P (.slice (some ⟨g5, 0, none⟩) (j + 1) cap5)) w5 f := fun f hf => hf.keep (fun k hk hkP => hg.block k hk fun e => hkP (.inr e.symm)) hPV
        have hwrW : ∀ f, RFok (PV P (.slice A5 j c5)) wr f → RFok (PV P (.slice A5 j c5)) W f := fun f hf => (hf.below HB0.out.1).below hW
        have hxwr : RFok (PV P (.slice A5 j c5)) wr x := HX.out.keep (fun k hk _ => HL.out.1.old.block k hk) (fun k hk hp => by
          rcases hp with hp | hp
          · exact hp
          · have h4 := (own_block HL.out.2.1 hp).choose_spec.2.1
            have h5 := H1.out.1.old.size
            omega)
        have hx5 := hW5 x (hwrW x hxwr)
        have hints5 : ValsAt (PV P (.slice (some ⟨g5, 0, none⟩) (j + 1) cap5)) w5 (some ⟨W0.heap.size, 0, none⟩) (intVs (List.replicate xd 0)) := by
          refine ⟨fun h => (by cases h), fun ad e q u hu => ?_⟩
          cases e
          rw [Addr.add_lit, Nat.zero_add]
          refine ⟨?_, fun hp => ?_⟩
          · have : w5.cell? ⟨W0.heap.size, q, none⟩ = (intVs (List.replicate xd 0)).toArray[q]? := by simp [World.cell?, h3]
            rw [this]; simpa using hu
          · rcases hPV _ (Array.getElem?_eq_some_iff.1 hints).1 hp with hp | hp
            · have := HPS.out _ hp; omega
            · have := (own_block HL.out.2.1 hp).choose_spec.2.2; omega
        obtain ⟨y, hy⟩ : ∃ y : RF, y = ⟨x.name, x.data, List.replicate xd 0, x.dA, x.dc, some ⟨W0.heap.size, 0, none⟩, xd⟩ := ⟨_, rfl⟩
        have hyok : RFok (PV P (.slice (some ⟨g5, 0, none⟩) (j + 1) cap5)) w5 y := by
          rw [hy]; exact ⟨hx5.data, hints5, hx5.dcap, by simp⟩
        have hyc : [.string x.name, .slice x.dA xd x.dc, .slice (some ⟨W0.heap.size, 0, none⟩) xd xd] = rfCells [y] := by
          rw [hy]; simp [rfCells, fcells, hxd.out.1]
        refine ⟨Lacc ++ [y], h2.set _, ?_, ?_, ?_⟩
        · rw [rfCells_append, ← hyc]
          refine ownsRow_keep hown fun k hk => Below.heap_setCell _ _ _ _ (fun e => ?_)
          have e' : k = b2 := e
          have := (own_block hown hk).choose_spec.2.1
          have := H1.out.2
          omega
        · exact Made.snoc (HL.out.2.2.1.keep fun f hf => hset f (hW5 f (hwrW f hf))) hx.out (hset y hyok) (by rw [hy]) (by rw [hy]; simp) (by rw [hy, hxd.out.1])
        · have := hg.size
          simp [World.setCell]
          omega
      go_region_law (refine step_append_lies _ (by rfl) _ _ _ (by rfl) w1.heap.size 66 i0 _ 3 64 Tryz.underlying27 hi hz0 hz1 hz2 rfl (by decide) (.slice A5 j c5) j (rfCells Lacc) (by rfl) (HROW.out _ (by repeat (first | exact Below.refl _ _ | refine Below.drew ?_ | refine Below.alloc ?_ (by simp) _))) ⟨W0.heap.size + 1, 0, none⟩ 1 1 [.string x.name, .slice x.dA xd x.dc, .slice (some ⟨W0.heap.size, 0, none⟩) xd xd] (by rfl) (by rfl) (new3 _ _ _ _ _ _ (by simp)) (by simp [Value.oneCell']) (by decide) hm1.out hb1'.out (hzz.out _ (by repeat (first | exact Below.refl _ _ | refine Below.drew ?_ | refine Below.alloc ?_ (by simp) _))) _ rfl ?_; intro g5 cap5 w5 hown5 hgrow5 hat5 hlt5; have HG5 := Lib.hid (HGR.out _ _ hgrow5 (by repeat (first | exact Below.refl _ _ | refine Below.drew ?_ | refine Below.alloc ?_ (by simp) _)) (by exact (Below.heap_alloc (W0.alloc _) _ _ (by simp)).trans (heap_alloc_new W0 _))); have HF5 := Lib.hid (HFIN.out _ _ _ _ hgrow5 (by repeat (first | exact Below.refl _ _ | refine Below.drew ?_ | refine Below.alloc ?_ (by simp) _)) (by exact (Below.heap_alloc (W0.alloc _) _ _ (by simp)).trans (heap_alloc_new W0 _)) hat5 hown5); obtain ⟨p0, p1⟩ := cell2 HG5.out.2.1.o; have pf := fun i => (show w5.frozen? ⟨b2, i, none⟩ = false from by simp [World.frozen?, HG5.out.2.1.o]); clear hown5 hgrow5 hat5 hlt5)
      all_goals
        go_wp2
        obtain ⟨L2, hF5⟩ := HF5.out
        exact ⟨⟨j + 1, _, _, L2, hlt, by go_num, hF5⟩, by simp [intOf]; omega⟩
    · have hjn : j = n := by omega
      subst hjn
      obtain ⟨r0, r1⟩ := cell2 HL.out.1.r
      have rf := fun i => (show wr.frozen? ⟨b1, i, none⟩ = false from by simp [World.frozen?, HL.out.1.r])
      have HFIN : Hid (RefD P wr A5 j c5 Lacc ∧ w.heap.size ≤ b1 ∧ P b1) := by
        refine ⟨RefD.row HL.out.2.1 (fun g hg hg2 => by have := HPS.out g hg2; omega) fun f hf => ?_, by have := H1.out.1.n; omega, (hP.out b1).2 (.inr (by have := H1.out.1.n; have := H1.out.2; omega))⟩
        exact (HL.out.2.2.1.2.1 f hf).keep (fun _ _ _ => rfl) fun k _ hk => .inl hk
      go_wp2
      refine bodyPost_ret (v := .agg #[.slice A5 j c5, .int .i64 last]) ?_ rfl ?_
      · simp [results, Tryz.results22, go_sem, r0, r1, rf]
      · refine ⟨_, _, _, rfl, ?_, belowS (belowS HL.out.1.old HFIN.out.2.1 _) HFIN.out.2.1 _, by rw [HL.out.2.2.1.1, HN.out.2], fun i f f' hf hf' => by have := HL.out.2.2.1.2.2 i f f' hf hf'; simpa using this⟩
        refine HFIN.out.1.keep (fun g hg hng => ?_) (fun g _ hg => (hP.out g).2 (.inl hg))
        have hne : g ≠ b1 := fun e => hng (by rw [e]; exact HFIN.out.2.2)
        rw [Below.heap_setCell _ _ _ _ hne, Below.heap_setCell _ _ _ _ hne]
end Go.Proofs.YtfhdcjfkngflbaaGreatDoor
