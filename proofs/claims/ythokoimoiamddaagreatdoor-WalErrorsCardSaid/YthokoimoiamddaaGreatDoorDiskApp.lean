/-
  disk: Append where it takes. Own work (two cases, one text, printed).
-/
import Derived.Test.YthokoimoiamddaaGreatDoorB1
import Derived.Deep.AppendLies
import Derived.Deep.RegionHeldLaw
import Derived.Deep.RegionLaw
set_option linter.unusedSimpArgs false
set_option linter.unusedVariables false
namespace Go.Proofs.YthokoimoiamddaaGreatDoor
open Go Go.RowKit
open Go.ChangeMaps (setBlock)

theorem piece_info : (Tryz.prog.info? 86).map (fun i => (i.zero, i.size, i.bytes)) = some (some (.agg #[.int .i64 0, .int .i64 0]), 2, 16) := by kernel_rfl
theorem newpc (w : World) (a b : Value) (t : TypeId) (B : Nat) (hB : B = w.heap.size) : ∀ j u, [a, b][j]? = some u → (w.alloc (.cells #[a, b] t)).cell? ((⟨B, 0, none⟩ : Addr).add j) = some u := by
  subst hB
  exact World.news_of_block (cs := #[a, b]) (t := t) (fr := (0, 0)) (heap_alloc_new w _)
theorem pieceCells_len (l : List (Int × Int)) : (pieceCells l).length = l.length * 2 := by
  induction l with
  | nil => rfl
  | cons y l ih =>
    have e : pieceCells (y :: l) = [.int .i64 y.1, .int .i64 y.2] ++ pieceCells l := rfl
    rw [e, List.length_append, ih]; simp; omega

theorem len_open (l : List (Int × Int)) (h : ∀ p ∈ l, 0 < p.2) : (l.length : Int) ≤ openOf l := by
  induction l with
  | nil => simp [openOf]
  | cons p l ih =>
    have h1 := h p (by simp)
    have h2 := ih fun q hq => h q (by simp [hq])
    have e : openOf (p :: l) = p.2 + openOf l := by simp [openOf]
    rw [e]; simp; omega

/-- The disk behind an Append that is taken. -/
structure AppOK (base : Nat) (s : St) (k : ByteArray) (bs : List UInt8) (w : World) (s' : St) (w' : World) : Prop where
  at_ : DiskAt base w' s'
  frame : Frame s s' w w'
  B : s'.B = s.B
  turn : s'.turn = s.turn + (if bs = [] then 0 else 1)
  few : s'.L.length = s.L.length + (if (s.R k).isSome then 0 else 1)
  new : ∃ r', s'.R k = some r' ∧ r'.data = (((s.R k).map (·.data)).getD []) ++ bs ∧ r'.loose = (((s.R k).map (·.loose)).getD []) ++ (if bs = [] then [] else [(s.turn + 1, (bs.length : Int))])
  rest : ∀ k', k' ≠ k → s'.R k' = s.R k'

set_option maxHeartbeats 4000000 in
theorem append_old (base : Nat) (s : St) (k : ByteArray) (r : FRec) (A : Option Addr) (n c : Nat) (bs : List UInt8) (hbn : bs.length = n) (w : World) (hd : DiskAt base w s) (hlow : base ≤ w.heap.size) (hk : k.size ≤ 4611686018427387904) (hA : BytesAt w A bs) (hT : s.turn ≤ 4611686018427387904) (h : nmB k = true)
    (hr : s.R k = some r) (hn1 : ¬ 1048576 < n) (hn2 : ¬ 1048576 < r.data.length + n) : Calls Tryz.prog 48 #[.pointer (some ⟨s.B, 0, none⟩), .string k, .slice A n c] w fun e w' => e = .returned .nilIface ∧ ∃ s', AppOK base s k bs w s' w' := by
  have HN := Lib.hid (dname_any k w hk)
  rw [h] at HN
  obtain ⟨W, hW⟩ : ∃ W, Hid (W = w) := ⟨_, rfl⟩
  obtain ⟨s1, hs1⟩ : ∃ s1, Hid (s1 = s) := ⟨_, rfl⟩
  have H1 : Hid (DiskAt base W s1 ∧ s1.R k = some r ∧ Frame s s1 w W ∧ base ≤ W.heap.size ∧ True) := by rw [hW.out, hs1.out]; exact ⟨hd, hr, Frame.refl _ _, hlow, trivial⟩
  have HLN : Hid (r.data.length + bs.length ≤ 1048576) := by rw [Hid, hbn]; omega
  have HBN : Hid (bs.length = n) := hbn
  have HBY : Hid (BytesAt W A bs) := by rw [hW.out]; exact hA
  have HTU : Hid (0 ≤ s1.turn ∧ s1.turn ≤ 4611686018427387904) := by rw [hs1.out]; exact ⟨hd.turn0, hT⟩
  have HS1 : Hid (s1.B = s.B ∧ s1.turn = s.turn ∧ s1.L.length = s.L.length + (if (s.R k).isSome then 0 else 1) ∧ r.data ++ bs = (((s.R k).map (·.data)).getD []) ++ bs ∧ r.loose = (((s.R k).map (·.loose)).getD []) ∧ ∀ k', k' ≠ k → s1.R k' = s.R k') := by
    rw [hs1.out, hr]; exact ⟨rfl, rfl, rfl, rfl, rfl, fun _ _ => rfl⟩
  have hl := hd.look k
  rw [hr] at hl
  simp only [Option.map_some, Option.getD_some, ptrF] at hl
  rw [← hW.out, ← hs1.out] at hl
  rw [← hW.out] at HN
  rw [← hs1.out, ← hW.out]
  clear h hd hr hA hlow hT hbn
  · skip
    have hsl := H1.out.1.recs k r H1.out.2.1
    obtain ⟨f0, f1, ff⟩ := hsl.cells
    obtain ⟨B0, B1, Bf⟩ := H1.out.1.cells
    obtain ⟨Ad, cd, hdv, -⟩ := hsl.data.slice
    obtain ⟨Al, cl, hlv⟩ := own_slice hsl.loose
    have HREC := Lib.hid hsl
    obtain ⟨dl, hdl⟩ : ∃ q, Hid (r.data.length = q) := ⟨_, rfl⟩
    obtain ⟨nl, hnl⟩ : ∃ q, Hid (r.loose.length = q) := ⟨_, rfl⟩
    obtain ⟨F, hF⟩ : ∃ q, Hid (r.F = q) := ⟨_, rfl⟩
    obtain ⟨B, hB⟩ : ∃ q, Hid (s1.B = q) := ⟨_, rfl⟩
    have HDV : Hid (r.dv = .slice Ad dl cd) := by rw [Hid, hdv, hdl.out]
    have HLV : Hid (r.lv = .slice Al nl cl) := by rw [Hid, hlv, hnl.out]
    rw [HDV.out] at f0
    rw [HLV.out] at f1
    rw [hF.out] at f0 f1 ff
    rw [hB.out] at B0 B1 Bf
    have hFB : ¬ (F = B) := by
      have := (H1.out.1.ne_rec H1.out.2.1 (g := r.F) (.inl rfl)).1
      rw [hF.out, hB.out] at this; exact this
    have hBF : ¬ (B = F) := fun e => hFB e.symm
    have hf0 := hsl.apart
    have HAP : Hid ((∀ g, (Value.slice Ad dl cd).ownBlock = some g → g ≠ F ∧ g ≠ B) ∧ (∀ g, (Value.slice Al nl cl).ownBlock = some g → g ≠ F ∧ g ≠ B)) := by
      rw [← HDV.out, ← HLV.out, ← hF.out, ← hB.out]
      exact ⟨fun g hg => ⟨hf0.1 g hg, (H1.out.1.ne_rec H1.out.2.1 (.inr (.inl hg))).1⟩, fun g hg => ⟨hf0.2.1 g hg, (H1.out.1.ne_rec H1.out.2.1 (.inr (.inr hg))).1⟩⟩
    have hFlt : Hid (F < W.heap.size ∧ B < W.heap.size) := by rw [← hF.out, ← hB.out]; exact ⟨hsl.lt (.inl rfl), H1.out.1.lt (.inl rfl)⟩
    clear hsl hdv hlv hf0
    rw [hF.out] at hl
    have d1 : decide ((n : Int) > 1048576) = false := by rw [decide_eq_false_iff_not]; omega
    obtain ⟨J, hJ⟩ : ∃ J : Int, Hid (J = (dl : Int) + n) := ⟨_, rfl⟩
    have hw : IntKind.i64.wrap ((dl : Int) + n) = J := by have := HLN.out; have := HBN.out; have := hdl.out; have := hJ.out; rw [IntKind.wrap_i64]; omega
    have d2 : decide (J > 1048576) = false := by have := hJ.out; rw [hdl.out] at hn2; rw [decide_eq_false_iff_not]; omega
    rw [hB.out]
    obtain ⟨i0, hi0, hz0, hz1, hz2⟩ := info_parts piece_info
    have HDR : Hid (DRow W (.slice Ad dl cd) r.data) := by rw [← HDV.out]; exact HREC.out.data
    have HAP1 : Hid (∀ w1 v', DRow w1 v' (r.data ++ bs) → W.grownBy w1 (Value.slice Ad dl cd).ownBlock → (∀ g, v'.ownBlock = some g → (Value.slice Ad dl cd).ownBlock = some g ∨ W.heap.size ≤ g) →
        w1.cell? ⟨F, 0, none⟩ = some (.slice Ad dl cd) ∧ w1.cell? ⟨F, 1, none⟩ = some (.slice Al nl cl) ∧ (∀ i, w1.frozen? ⟨F, i, none⟩ = false) ∧ w1.cell? ⟨B, 1, none⟩ = some (.int .i64 s1.turn) ∧ (∀ i, w1.frozen? ⟨B, i, none⟩ = false)) := fun w1 v' h1 h2 h3 => by
      have hFg : w1.heap[F]? = W.heap[F]? := h2.block F hFlt.out.1 (fun e => (HAP.out.1 F e.symm).1 rfl)
      have hBg : w1.heap[B]? = W.heap[B]? := h2.block B hFlt.out.2 (fun e => (HAP.out.1 B e.symm).2 rfl)
      exact ⟨(World.cell?_of_block (w := W) (a := ⟨F, 0, none⟩) hFg).trans f0, (World.cell?_of_block (w := W) (a := ⟨F, 1, none⟩) hFg).trans f1, fun i => (World.frozen?_of_block (w := W) (a := ⟨F, i, none⟩) hFg).trans (ff i), (World.cell?_of_block (w := W) (a := ⟨B, 1, none⟩) hBg).trans B1, fun i => (World.frozen?_of_block (w := W) (a := ⟨B, i, none⟩) hBg).trans (Bf i)⟩
    have HS2 : Hid (∀ w1 v', DRow w1 v' (r.data ++ bs) → W.grownBy w1 (Value.slice Ad dl cd).ownBlock → (∀ g, v'.ownBlock = some g → (Value.slice Ad dl cd).ownBlock = some g ∨ W.heap.size ≤ g) →
        DiskAt base (w1.setCell ⟨F, 0, none⟩ v') { s1 with R := updR s1.R k (some { r with dv := v', data := r.data ++ bs }) } ∧ Frame s1 { s1 with R := updR s1.R k (some { r with dv := v', data := r.data ++ bs }) } W (w1.setCell ⟨F, 0, none⟩ v')) := fun w1 v' h1 h2 h3 => by
      rw [← HDV.out] at h2 h3
      rw [← hF.out]
      refine H1.out.1.setData H1.out.2.1 v' _ h1 h2 h3 H1.out.2.2.2.1 (by have := HLN.out; simpa using this) ?_
      have := HREC.out.sum
      simp; omega
    clear hn1 hn2
    by_cases h0 : n = 0
    · subst h0
      have hw0 : IntKind.i64.wrap (dl : Int) = J := by rw [← hw]; simp
      have hw1 : wrap64 (dl : Int) = J := by have h8 := hJ.out; have hh := HREC.out.few; rw [hdl.out] at hh; unfold wrap64; simp at h8; omega
      clear hw d1
      go_enter Tryz.func48, Tryz.ntmps48
      go_wp2_with (first | (go_at_call 72; refine HN.out.mono ?_; rintro e w' ⟨rfl, rfl⟩) | (at_builtin; refine wpList_append_bytes _ rfl _ _ rfl (.slice Ad dl cd) r.data bs A _ c rfl rfl HBN.out HDR.out HBY.out (by have := HLN.out; have := HBN.out; have := hdl.out; omega) ?_; intro v' w1 h1 h2 h3; obtain ⟨g0, g1, gf, gB, gBf⟩ := HAP1.out w1 v' h1 h2 h3; have H2 := Lib.hid (HS2.out w1 v' h1 h2 h3); obtain ⟨A', c', rfl, -⟩ := h1.slice; simp only [List.length_append] at H2; clear h1 h2 h3))
      go_ret
      obtain rfl := hs1.out
      obtain rfl := hW.out
      have hbs : bs = [] := List.eq_nil_of_length_eq_zero (HBN.out)
      refine ⟨rfl, _, H2.out.1, H1.out.2.2.1.trans H2.out.2, HS1.out.1, by rw [if_pos hbs]; simp only [Int.add_zero], HS1.out.2.2.1, ⟨_, updR_same _ _ _, HS1.out.2.2.2.1, ?_⟩, fun k' hk' => (updR_other _ hk').trans (HS1.out.2.2.2.2.2 k' hk')⟩
      rw [if_pos hbs, List.append_nil]
      exact HS1.out.2.2.2.2.1
    · have d0 : 0 < n := by omega
      have H0 : Hid (0 < n) := by simp only [Hid]; omega
      clear h0
      have hwT : IntKind.i64.wrap (s1.turn + 1) = s1.turn + 1 := by have := HTU.out; rw [IntKind.wrap_i64]; omega
      go_enter Tryz.func48, Tryz.ntmps48
      go_wp2_with (first | (go_at_call 72; refine HN.out.mono ?_; rintro e w' ⟨rfl, rfl⟩) | (at_builtin; refine wpList_append_bytes _ rfl _ _ rfl (.slice Ad dl cd) r.data bs A _ c rfl rfl HBN.out HDR.out HBY.out (by have := HLN.out; have := HBN.out; have := hdl.out; omega) ?_; intro v' w1 h1 h2 h3; obtain ⟨g0, g1, gf, gB, gBf⟩ := HAP1.out w1 v' h1 h2 h3; have H2 := Lib.hid (HS2.out w1 v' h1 h2 h3); obtain ⟨A', c', rfl, -⟩ := h1.slice; simp only [List.length_append] at H2; clear h1 h2 h3))
      have HOLD : Hid (∀ (k : ByteArray) (r : FRec) (p : Int × Int), s1.R k = some r → p ∈ r.loose → p.1 ≤ s1.turn) := fun k r p h hp => (H1.out.1.turns k r p h hp).2
      obtain ⟨w2, hw2⟩ : ∃ w2, w2 = w1.setCell ⟨F, 0, none⟩ (.slice A' (r.data.length + bs.length) c') := ⟨_, rfl⟩
      obtain ⟨w3, hw3⟩ : ∃ w3, w3 = w2.setCell ⟨B, 1, none⟩ (.int .i64 (s1.turn + 1)) := ⟨_, rfl⟩
      obtain ⟨r2, hr2⟩ : ∃ r2 : FRec, Hid (r2 = { r with dv := .slice A' (r.data.length + bs.length) c', data := r.data ++ bs }) := ⟨_, rfl⟩
      obtain ⟨s2, hs2⟩ : ∃ s2 : St, Hid (s2 = { s1 with R := updR s1.R k (some r2) }) := ⟨_, rfl⟩
      obtain ⟨s3, hs3⟩ : ∃ s3 : St, Hid (s3 = { s2 with turn := s1.turn + 1 }) := ⟨_, rfl⟩
      have H2' : Hid (DiskAt base w2 s2 ∧ Frame s1 s2 W w2) := by rw [hs2.out, hr2.out, hw2]; exact H2.out
      have hBs : s2.B = B := by rw [hs2.out]; exact hB.out
      have H3 : Hid (DiskAt base w3 s3 ∧ Frame s1 s3 W w3 ∧ base ≤ w3.heap.size ∧ s3.R k = some r2 ∧ s3.turn = s1.turn + 1 ∧ s3.B = B ∧ r2.F = F ∧ r2.lv = .slice Al nl cl ∧ r2.loose = r.loose ∧ r2.data = r.data ++ bs) := by
        have ht : s2.turn = s1.turn := by rw [hs2.out]
        have e3 : w3 = w2.setCell ⟨s2.B, 1, none⟩ (.int .i64 (s1.turn + 1)) := by rw [hw3, hBs]
        have h3 := H2'.out.1.setTurn (s1.turn + 1) (by rw [ht]; omega)
        have f3 := setTurn_frame H2'.out.1 (s1.turn + 1)
        rw [← e3, ← hs3.out] at h3
        rw [← e3, ← hs3.out] at f3
        refine ⟨h3, H2'.out.2.trans f3, Nat.le_trans H1.out.2.2.2.1 (Nat.le_trans H2'.out.2.size f3.size), ?_, by rw [hs3.out], by rw [hs3.out]; exact hBs, by rw [hr2.out]; exact hF.out, by rw [hr2.out]; exact HLV.out, by rw [hr2.out], by rw [hr2.out]⟩
        rw [hs3.out, hs2.out]; exact updR_same _ _ _
      have hw5 : (w1.setCell ⟨F, 0, none⟩ (.slice A' (r.data.length + bs.length) c')).setCell ⟨B, 1, none⟩ (.int .i64 (s1.turn + 1)) = w3 := by rw [hw3, hw2]
      rw [hw5]
      clear hw5 hw3 hw2 H2 H2' g0 g1 gf gB gBf f0 f1 ff B0 B1 Bf hl d1 hw d2 hwT
      have hsl3 := H3.out.1.recs k r2 H3.out.2.2.2.1
      obtain ⟨_, f1, ff⟩ := hsl3.cells
      obtain ⟨_, B1, Bf⟩ := H3.out.1.cells
      rw [H3.out.2.2.2.2.2.2.1] at f1 ff
      rw [H3.out.2.2.2.2.2.1, H3.out.2.2.2.2.1] at B1
      rw [H3.out.2.2.2.2.2.2.2.1] at f1
      have HPR : Hid (w3.ownsRow 0 86 2 (.slice Al nl cl) nl (pieceCells r.loose)) := by
        have h := hsl3.loose
        rw [H3.out.2.2.2.2.2.2.2.1, H3.out.2.2.2.2.2.2.2.2.1, hnl.out] at h
        exact h
      have hFl3 : Hid (F < w3.heap.size ∧ B < w3.heap.size) := by
        refine ⟨?_, ?_⟩
        · rw [← H3.out.2.2.2.2.2.2.1]; exact hsl3.lt (.inl rfl)
        · rw [← H3.out.2.2.2.2.2.1]; exact H3.out.1.lt (.inl rfl)
      clear hsl3
      obtain ⟨T1, hT1⟩ : ∃ T1, Hid (s1.turn + 1 = T1) := ⟨_, rfl⟩
      rw [hT1.out] at B1
      have c1 : w3.drew.cell? ⟨F, 1, none⟩ = some (.slice Al nl cl) := f1
      have c1a : ∀ o, (w3.alloc o).drew.cell? ⟨F, 1, none⟩ = some (.slice Al nl cl) := fun o => (World.cell?_alloc_lt w3 o ⟨F, 1, none⟩ hFl3.out.1).trans f1
      have b1 : w3.drew.cell? ⟨B, 1, none⟩ = some (.int .i64 T1) := B1
      have b1a : ∀ o, (w3.alloc o).drew.cell? ⟨B, 1, none⟩ = some (.int .i64 T1) := fun o => (World.cell?_alloc_lt w3 o ⟨B, 1, none⟩ hFl3.out.2).trans B1
      have HROW : Hid (∀ o, (w3.alloc o).drew.ownsRow 0 86 2 (.slice Al nl cl) nl (pieceCells r.loose)) := fun o => ownsRow_keep HPR.out fun g hg => Below.heap_alloc w3 o g (own_block HPR.out hg).choose_spec.2.2
      have HGR : Hid (∀ o w5, (w3.alloc o).drew.grownBy w5 (Value.slice Al nl cl).ownBlock → w5.cell? ⟨F, 1, none⟩ = some (.slice Al nl cl) ∧ (∀ i, w5.frozen? ⟨F, i, none⟩ = false) ∧ w5.cell? ⟨B, 1, none⟩ = some (.int .i64 T1) ∧ w3.grownBy w5 (Value.slice Al nl cl).ownBlock) := fun o w5 hg => by
        have hFg : w5.heap[F]? = w3.heap[F]? := (hg.block F (by have := hFl3.out.1; simp; omega) (fun e => (HAP.out.2 F e.symm).1 rfl)).trans (Below.heap_alloc w3 o F hFl3.out.1)
        have hBg : w5.heap[B]? = w3.heap[B]? := (hg.block B (by have := hFl3.out.2; simp; omega) (fun e => (HAP.out.2 B e.symm).2 rfl)).trans (Below.heap_alloc w3 o B hFl3.out.2)
        refine ⟨(World.cell?_of_block (w := w3) (a := ⟨F, 1, none⟩) hFg).trans f1, fun i => (World.frozen?_of_block (w := w3) (a := ⟨F, i, none⟩) hFg).trans (ff i), (World.cell?_of_block (w := w3) (a := ⟨B, 1, none⟩) hBg).trans B1, hg.os, hg.tape, hg.output, Nat.le_trans (by simp) hg.size, fun g hlt hne => (hg.block g (by simp; omega) hne).trans (Below.heap_alloc w3 o g hlt)⟩
      have hnl9 : Hid (nl ≤ 1048576) := by
        have h1 := len_open r.loose HREC.out.pos
        have h2 := HREC.out.sum
        have h3 := HREC.out.few
        rw [hnl.out] at h1
        simp only [Hid]; omega
      have hmx1 : Hid (nl + 1 ≤ maxLen) := Nat.le_trans (show nl + 1 ≤ 1048577 by have := hnl9.out; omega) (by decide)
      have hbx1 : Hid ((nl + 1) * 16 ≤ 140737488355328) := by have := hnl9.out; simp only [Hid]; omega
      go_region_law
        ((refine step_append_lies _ (by rfl) _ _ _ (by rfl) 0 86 i0 _ 2 16 Tryz.underlying81 hi0 hz0 hz1 hz2 rfl (by decide) (.slice Al nl cl) nl (pieceCells r.loose) (by rfl) (HROW.out _) ⟨w3.heap.size, 0, none⟩ 1 1 [.int .i64 T1, .int .i64 n] (by rfl) (by rfl) (newpc _ _ _ _ _ (by simp)) (by simp [Value.oneCell']) (by decide) hmx1.out hbx1.out (Nat.zero_le _) _ rfl ?_; intro g5 cap5 w5 hown5 hgrow5 hat5 hlt5; obtain ⟨c5, ff5, b5, hg5⟩ := HGR.out _ _ hgrow5; have b5s : ∀ v, (w5.setCell ⟨F, 1, none⟩ v).cell? ⟨B, 1, none⟩ = some (.int .i64 T1) := fun v => (World.cell?_of_block (w := w5) (a := ⟨B, 1, none⟩) (Below.heap_setCell w5 ⟨F, 1, none⟩ v B hBF)).trans b5))
      all_goals
        have HF : Hid (∃ s', AppOK base s1 k bs W s' (w5.setCell ⟨F, 1, none⟩ (.slice (some ⟨g5, 0, none⟩) (nl + 1) cap5))) := by
          obtain rfl := hs1.out
          obtain rfl := hW.out
          have e : pieceCells r.loose ++ [.int .i64 T1, .int .i64 n] = pieceCells (r2.loose ++ [(s3.turn, (n : Int))]) := by
            rw [pieceCells_append, H3.out.2.2.2.2.2.2.2.2.1, H3.out.2.2.2.2.1, hT1.out]; rfl
          have hrl : r2.loose.length = nl := by rw [H3.out.2.2.2.2.2.2.2.2.1]; exact hnl.out
          have hlv : r2.lv = .slice Al nl cl := H3.out.2.2.2.2.2.2.2.1
          rw [e, ← hrl] at hown5
          have hbl : (Value.slice (some ⟨g5, 0, none⟩) (r2.loose.length + 1) cap5).ownBlock = some g5 := rfl
          have hs4 := H3.out.1.setLoose H3.out.2.2.2.1 (.slice (some ⟨g5, 0, none⟩) (r2.loose.length + 1) cap5) n hown5 (by rw [hlv]; exact hg5) (fun g hg => by
              rw [hbl] at hg; cases hg
              rw [hlv]
              rcases hat5 with h | h
              · exact .inl h
              · right; rw [h]; simp) H3.out.2.2.1 (by have := H0.out; omega) (by rw [H3.out.2.2.2.2.1]; have := HTU.out; omega) (fun k9 r9 p9 h9 hp9 => by
              rw [H3.out.2.2.2.2.1]
              have := HOLD.out k9 r9 p9
              by_cases e9 : k9 = k
              · subst e9
                have h8 : some r2 = some r9 := H3.out.2.2.2.1.symm.trans h9
                cases h8
                rw [H3.out.2.2.2.2.2.2.2.2.1] at hp9
                have := HOLD.out k9 r p9 H1.out.2.1 hp9
                omega
              · have h8 : s1.R k9 = some r9 := by
                  rw [hs3.out, hs2.out] at h9
                  exact updR_is e9 h9
                have := HOLD.out k9 r9 p9 h8 hp9
                omega) (by
              rw [H3.out.2.2.2.2.2.2.2.2.1, H3.out.2.2.2.2.2.2.2.2.2]
              have h1 := HREC.out.sum
              have h2 := HBN.out
              simp; omega)
          rw [H3.out.2.2.2.2.2.2.1, hrl] at hs4
          have hbs : ¬ bs = [] := fun e => by have h1 := HBN.out; have h2 := H0.out; rw [e] at h1; simp at h1; omega
          refine ⟨_, hs4.1, H1.out.2.2.1.trans (H3.out.2.1.trans hs4.2), ?_, ?_, ?_, ⟨_, updR_same _ _ _, ?_, ?_⟩, fun k' hk' => ?_⟩
          · show s3.B = _
            exact (H3.out.2.2.2.2.2.1.trans hB.out.symm).trans HS1.out.1
          · show s3.turn = _
            rw [if_neg hbs, H3.out.2.2.2.2.1, HS1.out.2.1]
          · show s3.L.length = _
            rw [hs3.out, hs2.out]; exact HS1.out.2.2.1
          · show r2.data = _
            rw [H3.out.2.2.2.2.2.2.2.2.2]; exact HS1.out.2.2.2.1
          · show r2.loose ++ [(s3.turn, (n : Int))] = _
            rw [if_neg hbs, H3.out.2.2.2.2.2.2.2.2.1, H3.out.2.2.2.2.1, HBN.out, HS1.out.2.1, ← HS1.out.2.2.2.2.1]
          · show updR s3.R k _ k' = _
            rw [updR_other _ hk', hs3.out, hs2.out]
            exact (updR_other _ hk').trans (HS1.out.2.2.2.2.2 k' hk')
        clear hown5 hgrow5 hat5 hlt5 hg5
        go_wp2
        go_ret
        exact ⟨rfl, HF.out⟩
end Go.Proofs.YthokoimoiamddaaGreatDoor
