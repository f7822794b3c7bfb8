/-
  The reference's Double, walked. Own work.
-/
import Derived.Test.YtgibpiakeaplbaaDoorNetRTake2
set_option linter.unusedSimpArgs false
set_option linter.unusedVariables false
namespace Go.Proofs.YtgibpiakeaplbaaDoor
open Go Go.RowKit

set_option maxHeartbeats 2000000 in
theorem doubleref_bad (A : Option Addr) (n c : Nat) (k : Int × Int) (i : Int) (ec : Int) (w : World)
    (HT : ∀ W, Below w.heap.size w W → Calls Tryd.prog 23 #[.slice A n c, .int .i64 k.1, .int .i64 k.2, .int .i64 i] W fun e w' => e = .returned (.tuple #[.slice none 0 0, .slice A n c, eV (some ec)]) ∧ Hid (Below W.heap.size W w')) :
    Calls Tryd.prog 24 #[.slice A n c, .int .i64 k.1, .int .i64 k.2, .int .i64 i] w fun e w' => e = .returned (.tuple #[.slice A n c, eV (some ec)]) ∧ Hid (Below w.heap.size w w') := by
  have HC := HT _ ((Below.refl _ _).alloc (Nat.le_refl _) (.cells #[.bool false, .slice none 0 0, .int .i64 0] 41))
  have HZ := zeroBox w
  clear HT
  go_enter Tryd.func24, Tryd.ntmps24
  go_wp2_with fail
  refine HC.mono ?_
  rintro e w1 ⟨rfl, hb⟩
  clear HC
  have H1 := Lib.hid (HZ.out _ hb.out)
  clear hb HZ
  simp only [eV]
  go_wp2_with fail
  obtain ⟨w2, hw2⟩ : ∃ w2, w2 = w1.alloc (.cells #[.bool true, .slice none 0 0, .int .i64 ec] 41) := ⟨_, rfl⟩
  obtain ⟨G, hG⟩ : ∃ G, G = w1.heap.size := ⟨_, rfl⟩
  have H2 : Hid (EBox w2 w.heap.size none ∧ EBox w2 G (some ec) ∧ Below w.heap.size w w2 ∧ w.heap.size < G) := by
    have hb : Below w1.heap.size w1 w2 := by rw [hw2]; exact (Below.refl _ _).alloc (Nat.le_refl _) _
    have hlt : w.heap.size < w1.heap.size := (Array.getElem?_eq_some_iff.1 H1.out.1).1
    exact ⟨H1.out.1.below hb, by rw [hw2, hG]; exact heap_alloc_new w1 _, H1.out.2.trans (hb.mono (Nat.le_of_lt hlt)), by rw [hG]; exact hlt⟩
  rw [← hG, ← hw2]
  clear hw2 hG H1
  have hE := H2.out.1
  have r0 : w2.cell? ⟨w.heap.size, 0, none⟩ = some (.bool false) := hE.c0
  have r1 : w2.cell? ⟨w.heap.size, 1, none⟩ = some (.slice none 0 0) := hE.c1
  have r2 : w2.cell? ⟨w.heap.size, 2, none⟩ = some (.int .i64 0) := hE.c2
  have rf := hE.free
  have hK0 : KX w.heap.size G ec w2.drew := KX.mk (H2.out.2.1.below (Below.refl _ _).drew)
  have hbG : ¬ (w.heap.size = G) := by have := H2.out; omega
  have hGb : ¬ (G = w.heap.size) := fun e => hbG e.symm
  have hS1 := KX.st (n := ec) hbG hGb
  clear hE
  go_region_held_law (fun W => W.cell? ⟨G, 0, none⟩ = some (.bool true) ∧ W.cell? ⟨G, 1, none⟩ = some (.slice none 0 0) ∧ W.cell? ⟨G, 2, none⟩ = some (.int .i64 ec))
    (first | assumption | exact hS1 _ (by assumption)) (fail)
  all_goals
    go_wp2
    refine bodyPost_ret (v := .tuple #[.slice A n c, eV (some ec)]) ?_ rfl ?_
    · simp [results, Tryd.results24, go_sem, eV, r0, r1, r2, rf]
    · exact ⟨rfl, st3_below (some ec) (H2.out.2.2.1.trans ((Below.refl _ w2).drew.mono H2.out.2.2.1.size)) (Nat.le_refl _)⟩

set_option maxHeartbeats 4000000 in
theorem doubleref_ok (A : Option Addr) (n c : Nat) (l : List RP) (k : Int × Int) (i : Nat) (x : RP) (w : World) (hL : LstAt w A n c l) (hn : n ≤ 200) (hk : wayE k = none) (hi : i < (line k l).length) (hx : l[idx k l i]? = some x) :
    Calls Tryd.prog 24 #[.slice A n c, .int .i64 k.1, .int .i64 k.2, .int .i64 i] w fun e w' => ∃ A' n' c', e = .returned (.tuple #[.slice A' n' c', eV none]) ∧ Hid (LstAt w' A' n' c' (l ++ [(k, x.2)]) ∧ Below w.heap.size w w') := by
  have HC := takeref_ok A n c l k i x _ (hL.below ((Below.refl _ _).alloc (Nat.le_refl _) (.cells #[.bool false, .slice none 0 0, .int .i64 0] 41))) hn hk hi hx
  have HL := Lib.hid hL
  have HN : Hid (n ≤ 200) := hn
  obtain ⟨g, rfl, _⟩ : ∃ g, A = some ⟨g, 0, none⟩ ∧ True := by
    obtain ⟨g, e, _⟩ := hL.pack _ _ hx
    exact ⟨g, e, trivial⟩
  obtain ⟨q, hq⟩ : ∃ q, Hid (cnt k l = q ∧ q ≤ 200) := ⟨_, rfl, Nat.le_trans (cnt_le _ _) (by rw [hL.len]; exact hn)⟩
  have d2 : decide ((q : Int) ≥ 1024) = false := by have := hq.out; rw [decide_eq_false_iff_not]; omega
  clear hL hn hk hi hx
  have HZ := zeroBox w
  go_enter Tryd.func24, Tryd.ntmps24
  go_wp2_with fail
  refine HC.mono ?_
  rintro e w1 ⟨A9, n9, c9, rfl, hb⟩
  clear HC
  have H1 := Lib.hid (HZ.out _ hb.out.2)
  clear hb HZ
  simp only [eV]
  go_wp2_with fail
  obtain ⟨w2, hw2⟩ : ∃ w2, w2 = w1.alloc (.cells #[.bool false, .slice none 0 0, .int .i64 0] 41) := ⟨_, rfl⟩
  obtain ⟨G, hG⟩ : ∃ G, G = w1.heap.size := ⟨_, rfl⟩
  have H2 : Hid (EBox w2 w.heap.size none ∧ EBox w2 G none ∧ Below w.heap.size w w2 ∧ w.heap.size < G ∧ G < w2.heap.size) := by
    have hb : Below w1.heap.size w1 w2 := by rw [hw2]; exact (Below.refl _ _).alloc (Nat.le_refl _) _
    have hlt : w.heap.size < w1.heap.size := (Array.getElem?_eq_some_iff.1 H1.out.1).1
    refine ⟨H1.out.1.below hb, by rw [hw2, hG]; exact heap_alloc_new w1 _, H1.out.2.trans (hb.mono (Nat.le_of_lt hlt)), by rw [hG]; exact hlt, by rw [hw2, hG]; simp⟩
  rw [← hG, ← hw2]
  clear hw2 hG H1
  refine (count_any (some ⟨g, 0, none⟩) n c l HL.out.len (by have := HN.out; omega) k w2 (HL.out.below H2.out.2.2.1).pack).mono ?_
  rintro e w3 ⟨rfl, hb3⟩
  have H3 : Hid (EBox w3 w.heap.size none ∧ EBox w3 G none ∧ Below w.heap.size w w3 ∧ w.heap.size < G ∧ G < w3.heap.size) :=
    ⟨H2.out.1.below hb3, H2.out.2.1.below hb3, H2.out.2.2.1.trans (hb3.mono H2.out.2.2.1.size), H2.out.2.2.2.1, Nat.lt_of_lt_of_le H2.out.2.2.2.2 hb3.size⟩
  have g0 : w3.cell? ⟨G, 0, none⟩ = some (.bool false) := H3.out.2.1.c0
  clear hb3 H2
  rw [hq.out.1]
  obtain ⟨i0, hi0, hz0, hz1, hz2⟩ := info_parts rp_info
  have hmx : Hid (0 + n ≤ maxLen) := Nat.le_trans (show 0 + n ≤ 200 by have := HN.out; omega) (by decide)
  have hbx : Hid ((0 + n) * 40 ≤ 140737488355328) := by have := HN.out; simp only [Hid]; omega
  have hnw : Hid (∀ j u, (rpCells l)[j]? = some u → w3.cell? ((⟨g, 0, none⟩ : Addr).add j) = some u) := by
    have h := (HL.out.below H3.out.2.2.1).firsts n
    rw [List.take_of_length_le (by rw [HL.out.len]; exact Nat.le_refl _)] at h
    exact h
  have hln : Hid ((rpCells l).length = n * 3) := by rw [Hid, rpCells_len, HL.out.len]
  go_wp2_with (at_builtin; refine wpList_append_own _ rfl _ _ 26 rfl w3.heap.size 47 i0 _ 3 40 Tryd.underlying26 hi0 hz0 hz1 hz2 rfl (by decide) (.slice none 0 0) 0 [] rfl (World.ownsRow_nil _ _ _ _) ⟨g, 0, none⟩ n c (rpCells l) rfl hln.out hnw.out (rpCells_one_cell l) hmx.out hbx.out (Nat.le_refl _) ?_; intro v' w4 hown4 hgrow4 hnil4; obtain ⟨A4, c4, rfl⟩ := own_slice hown4; have HO := Lib.hid hown4; have HG := Lib.hid hgrow4; clear hown4 hgrow4 hnil4)
  have E4 : Hid (EBox w4 w.heap.size none ∧ EBox w4 G none ∧ Below w.heap.size w w4 ∧ w3.heap.size ≤ w4.heap.size ∧ w.heap.size < G ∧ G < w3.heap.size) := by
    have hb : Below w3.heap.size w3 w4 := grow_below (v := .slice none 0 0) HG.out (Nat.le_refl _) (fun g e => by cases e)
    exact ⟨H3.out.1.below hb, H3.out.2.1.below hb, H3.out.2.2.1.trans (hb.mono H3.out.2.2.1.size), hb.size, H3.out.2.2.2.1, H3.out.2.2.2.2⟩
  have HR : Hid (w4.ownsRow w3.heap.size 47 3 (.slice A4 n c4) n (rpCells l)) := by
    have h := HO.out
    simp only [Hid]
    simpa using h
  have hne : ∀ b, b < w3.heap.size → some b ≠ (Value.slice A4 n c4).ownBlock := fun b hb e => by
    obtain ⟨cur, hh, h1, h2⟩ := own_block HR.out e.symm
    omega
  have HE : Hid (∀ o w5, (w4.drew.alloc o).grownBy w5 (Value.slice A4 n c4).ownBlock → EBox w5 w.heap.size none ∧ EBox w5 G none ∧ Below w.heap.size w w5) := fun o w5 hg => by
    have e := E4.out
    refine ⟨(hg.block _ (by simp; omega) (hne _ (by omega))).trans ((Below.heap_alloc _ o _ (by simp; omega)).trans e.1), (hg.block _ (by simp; omega) (hne _ (by omega))).trans ((Below.heap_alloc _ o _ (by simp; omega)).trans e.2.1), ?_⟩
    refine e.2.2.1.trans ((((Below.refl w.heap.size w4).drew.alloc (by simp; omega) o)).grown hg (by simp; omega) (fun b hb => ?_))
    obtain ⟨cur, hh, h1, h2⟩ := own_block HR.out hb
    omega
  have hK0 : KE w.heap.size G w4.drew := KE.mk (E4.out.1.below (Below.refl _ _).drew) (E4.out.2.1.below (Below.refl _ _).drew)
  have hKA : ∀ o, KE w.heap.size G (w4.drew.alloc o) := fun o => KE.mk (E4.out.1.below ((Below.refl _ _).drew.alloc (by simp) o)) (E4.out.2.1.below ((Below.refl _ _).drew.alloc (by simp) o))
  have HSZ : Hid (∀ o, w3.heap.size ≤ (w4.drew.alloc o).heap.size) := fun o => by have := E4.out.2.2.2.1; first | (simp; done) | (simp; omega)
  have HROW : Hid (∀ o, (w4.drew.alloc o).ownsRow w3.heap.size 47 3 (.slice A4 n c4) n (rpCells l)) := fun o => (ownsRow_below' HR.out (Below.refl _ _).drew).alloc o
  have hmx1 : Hid (n + 1 ≤ maxLen) := Nat.le_trans (show n + 1 ≤ 201 by have := HN.out; omega) (by decide)
  have hbx1 : Hid ((n + 1) * 40 ≤ 140737488355328) := by have := HN.out; simp only [Hid]; omega
  have hbG : ¬ (w.heap.size = G) := by have := E4.out; omega
  have hGb : ¬ (G = w.heap.size) := fun e => hbG e.symm
  have hS1 : ∀ W, KE w.heap.size G W → KE w.heap.size G (st3 w.heap.size none W) := KE.st hbG hGb
  go_region_held_law (fun W => W.cell? ⟨G, 0, none⟩ = some (.bool false) ∧ W.cell? ⟨G, 1, none⟩ = some (.slice none 0 0) ∧ W.cell? ⟨G, 2, none⟩ = some (.int .i64 0) ∧
      W.cell? ⟨w.heap.size, 0, none⟩ = some (.bool false) ∧ W.cell? ⟨w.heap.size, 1, none⟩ = some (.slice none 0 0) ∧ W.cell? ⟨w.heap.size, 2, none⟩ = some (.int .i64 0) ∧ W.frozen? ⟨w.heap.size, 0, none⟩ = false ∧ W.frozen? ⟨w.heap.size, 1, none⟩ = false ∧ W.frozen? ⟨w.heap.size, 2, none⟩ = false)
    (first | assumption | exact hKA _ | exact hS1 _ (by assumption))
    ((refine step_append_lies _ (by rfl) _ _ _ (by rfl) w3.heap.size 47 i0 _ 3 40 Tryd.underlying26 hi0 hz0 hz1 hz2 rfl (by decide) (.slice A4 n c4) n (rpCells l) (by rfl) (HROW.out _) ⟨w4.heap.size, 0, none⟩ 1 1 [.int .i64 k.1, .int .i64 k.2, .slice x.2.1 x.2.2.1 x.2.2.2] (by rfl) (by rfl) (newtri3 _ _ _ _ _ _ (by simp)) (by simp [Value.oneCell']) (by decide) hmx1.out hbx1.out (HSZ.out _) _ rfl ?_; intro g5 cap5 w5 hown5 hgrow5 hat5 hlt5; have HE5 := HE.out _ _ hgrow5; have hK5 := KE.mk HE5.1 HE5.2.1))
  all_goals
    have HF : Hid (LstAt (st3 w.heap.size none w5) (some ⟨g5, 0, none⟩) (n + 1) cap5 (l ++ [(k, x.2)]) ∧ Below w.heap.size w (st3 w.heap.size none w5)) := by
      refine ⟨?_, st3_below none HE5.2.2 (Nat.le_refl _)⟩
      have e : rpCells l ++ [.int .i64 k.1, .int .i64 k.2, .slice x.2.1 x.2.2.1 x.2.2.2] = rpCells (l ++ [(k, x.2)]) := by rw [rpCells_append]; rfl
      rw [e] at hown5
      refine LstAt.row (base := w3.heap.size) (ownsRow_keep hown5 fun g6 cur hg6 _ => st3_block _ _ _ _ ?_)
      obtain ⟨_, _, hge, _⟩ := own_block hown5 hg6
      have := E4.out
      omega
    have HC5 := hK5
    clear hown5 hgrow5 hat5 hlt5 HE5 HROW HSZ hS1 hKA hK0 HE hne HR
    go_wp2
    refine bodyPost_ret (v := .tuple #[.slice (some ⟨g5, 0, none⟩) (n + 1) cap5, eV none]) ?_ rfl ?_
    · simp [results, Tryd.results24, go_sem, eV, HC5.2.2.2.1, HC5.2.2.2.2.1, HC5.2.2.2.2.2.1]
    · exact ⟨_, _, _, rfl, HF.out⟩
end Go.Proofs.YtgibpiakeaplbaaDoor
