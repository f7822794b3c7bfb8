/-
  The reference's Send, walked. Own work.
-/
import Derived.Test.YtgibpiakeaplbaaDoorNetLst
set_option linter.unusedSimpArgs false
set_option linter.unusedVariables false
namespace Go.Proofs.YtgibpiakeaplbaaDoor
open Go Go.RowKit

theorem grow_below {w w' : World} {b : Nat} {v : Value} (hg : w.grownBy w' v.ownBlock) (hb : b ≤ w.heap.size) (hv : ∀ g, v.ownBlock = some g → b ≤ g) : Below b w w' := (Below.refl b w).grown hg hb hv

/-- Two boxes of errors: the answer's (empty so far) and the one at hand; what the region's loads and stores ask. -/
abbrev KE (b G : Nat) (W : World) : Prop := W.cell? ⟨G, 0, none⟩ = some (.bool false) ∧ W.cell? ⟨G, 1, none⟩ = some (.slice none 0 0) ∧ W.cell? ⟨G, 2, none⟩ = some (.int .i64 0) ∧
  W.cell? ⟨b, 0, none⟩ = some (.bool false) ∧ W.cell? ⟨b, 1, none⟩ = some (.slice none 0 0) ∧ W.cell? ⟨b, 2, none⟩ = some (.int .i64 0) ∧ W.frozen? ⟨b, 0, none⟩ = false ∧ W.frozen? ⟨b, 1, none⟩ = false ∧ W.frozen? ⟨b, 2, none⟩ = false
theorem KE.mk {b G : Nat} {W : World} (h1 : EBox W b none) (h2 : EBox W G none) : KE b G W :=
  ⟨h2.c0, h2.c1, h2.c2, h1.c0, h1.c1, h1.c2, h1.free 0, h1.free 1, h1.free 2⟩
/-- The answer's box, written. -/
def st3 (b : Nat) (o : Option Int) (W : World) : World := ((W.setCell ⟨b, 0, none⟩ (.bool o.isSome)).setCell ⟨b, 1, none⟩ (.slice none 0 0)).setCell ⟨b, 2, none⟩ (.int .i64 (o.getD 0))
theorem st3_block (b : Nat) (o : Option Int) (W : World) (k : Nat) (hk : k ≠ b) : (st3 b o W).heap[k]? = W.heap[k]? := by
  unfold st3
  rw [Below.heap_setCell _ _ _ _ hk, Below.heap_setCell _ _ _ _ hk, Below.heap_setCell _ _ _ _ hk]
theorem st3_box {b : Nat} {o o' : Option Int} {W : World} (h : EBox W b o') : EBox (st3 b o W) b o := by
  unfold EBox at h ⊢
  unfold st3
  simp only [World.setCell, Array.getElem?_modify, if_true, h, Option.map_some]
  cases o <;> cases o' <;> simp [eCells]
theorem st3_below {B b : Nat} {a W : World} (o : Option Int) (h : Below B a W) (hb : B ≤ b) : Below B a (st3 b o W) := belowSet' (belowSet' (belowSet' h hb _) hb _) hb _
theorem KE.st {b G : Nat} (hbG : ¬ (b = G)) (hGb : ¬ (G = b)) (W : World) (h : KE b G W) : KE b G (st3 b none W) := by
  obtain ⟨h1, h2, h3, h4, h5, h6, h7, h8, h9⟩ := h
  unfold st3
  refine ⟨?_, ?_, ?_, ?_, ?_, ?_, ?_, ?_, ?_⟩ <;> simp [go_sem, h1, h2, h3, h4, h5, h6, h7, h8, h9, hbG, hGb]
theorem newtri3 (w : World) (a b c : Value) (t : TypeId) (B : Nat) (hB : B = w.heap.size) : ∀ j u, [a, b, c][j]? = some u → (w.alloc (.cells #[a, b, c] t)).cell? ((⟨B, 0, none⟩ : Addr).add j) = some u := by
  subst hB
  exact World.news_of_block (cs := #[a, b, c]) (t := t) (fr := (0, 0)) (heap_alloc_new w _)

set_option maxHeartbeats 2000000 in
theorem sendref_ok (A : Option Addr) (n c : Nat) (l : List RP) (k : Int × Int) (Ap : Option Addr) (np cp : Nat) (w : World) (hL : LstAt w A n c l) (hn : n ≤ 200) (hk : wayE k = none) (hp : ¬ 1048576 < np) :
    Calls Tryd.prog 22 #[.slice A n c, .int .i64 k.1, .int .i64 k.2, .slice Ap np cp] w fun e w' => ∃ A' c', e = .returned (.tuple #[.slice A' (n + 1) c', eV none]) ∧ Hid (LstAt w' A' (n + 1) c' (l ++ [(k, (Ap, np, cp))]) ∧ Below w.heap.size w w') := by
  have HL := Lib.hid hL
  have HN : Hid (n ≤ 200) := hn
  have d : decide ((np : Int) > 1048576) = false := by simp; omega
  have HC := fun W => check_ref (.slice A n c) k.1 k.2 W
  rw [hk] at HC
  obtain ⟨q, hq⟩ : ∃ q, Hid (cnt k l = q ∧ q ≤ 200) := ⟨_, rfl, Nat.le_trans (cnt_le _ _) (by rw [hL.len]; exact hn)⟩
  have d2 : decide ((q : Int) ≥ 1024) = false := by have := hq.out; simp; omega
  clear hL hn hk hp
  have HZ : Hid (∀ W, Below (w.alloc (.cells #[.bool false, .slice none 0 0, .int .i64 0] 41)).heap.size (w.alloc (.cells #[.bool false, .slice none 0 0, .int .i64 0] 41)) W → EBox W w.heap.size none ∧ Below w.heap.size w W) := fun W hW =>
    ⟨EBox.below (show EBox (w.alloc (.cells #[.bool false, .slice none 0 0, .int .i64 0] 41)) w.heap.size none from heap_alloc_new w _) hW, ((Below.refl _ _).alloc (Nat.le_refl _) _).trans (hW.mono (by simp))⟩
  go_enter Tryd.func22, Tryd.ntmps22
  go_wp2_with fail
  refine (HC _).mono ?_
  rintro e w1 ⟨rfl, hb⟩
  clear HC
  have H1 := Lib.hid (HZ.out _ hb)
  clear hb HZ
  simp only [eV]
  go_wp2_with fail
  obtain ⟨w2, hw2⟩ : ∃ w2, w2 = w1.alloc (.cells #[.bool false, .slice none 0 0, .int .i64 0] 41) := ⟨_, rfl⟩
  obtain ⟨G, hG⟩ : ∃ G, G = w1.heap.size := ⟨_, rfl⟩
  have H2 : Hid (EBox w2 w.heap.size none ∧ EBox w2 G none ∧ Below w.heap.size w w2 ∧ w.heap.size < G ∧ G < w2.heap.size) := by
    have hb : Below w1.heap.size w1 w2 := by rw [hw2]; exact (Below.refl _ _).alloc (Nat.le_refl _) _
    have hlt : w.heap.size < w1.heap.size := (Array.getElem?_eq_some_iff.1 H1.out.1).1
    refine ⟨H1.out.1.below hb, by rw [hw2, hG]; exact heap_alloc_new w1 _, H1.out.2.trans (hb.mono (Nat.le_of_lt hlt)), by rw [hG]; exact hlt, by rw [hw2, hG]; simp⟩
  rw [← hG, ← hw2]
  clear hw2 hG H1
  refine (count_any A n c l HL.out.len (by have := HN.out; omega) k w2 (HL.out.below H2.out.2.2.1).pack).mono ?_
  rintro e w3 ⟨rfl, hb3⟩
  have H3 : Hid (EBox w3 w.heap.size none ∧ EBox w3 G none ∧ Below w.heap.size w w3 ∧ w.heap.size < G ∧ G < w3.heap.size) :=
    ⟨H2.out.1.below hb3, H2.out.2.1.below hb3, H2.out.2.2.1.trans (hb3.mono H2.out.2.2.1.size), H2.out.2.2.2.1, Nat.lt_of_lt_of_le H2.out.2.2.2.2 hb3.size⟩
  clear hb3 H2
  rw [hq.out.1]
  obtain ⟨i0, hi0, hz0, hz1, hz2⟩ := info_parts rp_info
  cases A with
  | none =>
    obtain rfl : n = 0 := HL.out.nil rfl
    go_wp2_with fail
    have E4 : Hid (EBox w3 w.heap.size none ∧ EBox w3 G none ∧ Below w.heap.size w w3 ∧ w3.heap.size ≤ w3.heap.size ∧ w.heap.size < G ∧ G < w3.heap.size) := ⟨H3.out.1, H3.out.2.1, H3.out.2.2.1, Nat.le_refl _, H3.out.2.2.2.1, H3.out.2.2.2.2⟩
    have HR : Hid (w3.ownsRow w3.heap.size 47 3 (.slice none 0 0) 0 (rpCells l)) := by
      have e : l = [] := List.eq_nil_of_length_eq_zero HL.out.len
      rw [e]; exact World.ownsRow_nil _ _ _ _
    have hne : ∀ b, b < w3.heap.size → some b ≠ (Value.slice none 0 0).ownBlock := fun b hb e => by
      obtain ⟨cur, hh, h1, h2⟩ := own_block HR.out e.symm
      omega
    have HE : Hid (∀ o w5, (w3.drew.alloc o).grownBy w5 (Value.slice none 0 0).ownBlock → EBox w5 w.heap.size none ∧ EBox w5 G none ∧ Below w.heap.size w w5) := fun o w5 hg => by
      have e := E4.out
      refine ⟨(hg.block _ (by simp; omega) (hne _ (by omega))).trans ((Below.heap_alloc _ o _ (by simp; omega)).trans e.1), (hg.block _ (by simp; omega) (hne _ (by omega))).trans ((Below.heap_alloc _ o _ (by simp; omega)).trans e.2.1), ?_⟩
      refine e.2.2.1.trans ((((Below.refl w.heap.size w3).drew.alloc (by simp; omega) o)).grown hg (by simp; omega) (fun b hb => ?_))
      obtain ⟨cur, hh, h1, h2⟩ := own_block HR.out hb
      omega
    have hK0 : KE w.heap.size G w3.drew := KE.mk (E4.out.1.below (Below.refl _ _).drew) (E4.out.2.1.below (Below.refl _ _).drew)
    have hKA : ∀ o, KE w.heap.size G (w3.drew.alloc o) := fun o => KE.mk (E4.out.1.below ((Below.refl _ _).drew.alloc (by simp) o)) (E4.out.2.1.below ((Below.refl _ _).drew.alloc (by simp) o))
    have HSZ : Hid (∀ o, w3.heap.size ≤ (w3.drew.alloc o).heap.size) := fun o => by have := E4.out.2.2.2.1; first | (simp; done) | (simp; omega)
    have HROW : Hid (∀ o, (w3.drew.alloc o).ownsRow w3.heap.size 47 3 (.slice none 0 0) 0 (rpCells l)) := fun o => (ownsRow_below' HR.out (Below.refl _ _).drew).alloc o
    have hmx1 : Hid (0 + 1 ≤ maxLen) := Nat.le_trans (show 0 + 1 ≤ 201 by have := HN.out; omega) (by decide)
    have hbx1 : Hid ((0 + 1) * 40 ≤ 140737488355328) := by simp only [Hid]; omega
    have hbG : ¬ (w.heap.size = G) := by have := E4.out; omega
    have hGb : ¬ (G = w.heap.size) := fun e => hbG e.symm
    have hS1 : ∀ W, KE w.heap.size G W → KE w.heap.size G (st3 w.heap.size none W) := KE.st hbG hGb
    go_region_held_law (fun W => W.cell? ⟨G, 0, none⟩ = some (.bool false) ∧ W.cell? ⟨G, 1, none⟩ = some (.slice none 0 0) ∧ W.cell? ⟨G, 2, none⟩ = some (.int .i64 0) ∧
        W.cell? ⟨w.heap.size, 0, none⟩ = some (.bool false) ∧ W.cell? ⟨w.heap.size, 1, none⟩ = some (.slice none 0 0) ∧ W.cell? ⟨w.heap.size, 2, none⟩ = some (.int .i64 0) ∧ W.frozen? ⟨w.heap.size, 0, none⟩ = false ∧ W.frozen? ⟨w.heap.size, 1, none⟩ = false ∧ W.frozen? ⟨w.heap.size, 2, none⟩ = false)
      (first | assumption | exact hKA _ | exact hS1 _ (by assumption))
      ((refine step_append_lies _ (by rfl) _ _ _ (by rfl) w3.heap.size 47 i0 _ 3 40 Tryd.underlying26 hi0 hz0 hz1 hz2 rfl (by decide) (.slice none 0 0) 0 (rpCells l) (by rfl) (HROW.out _) ⟨w3.heap.size, 0, none⟩ 1 1 [.int .i64 k.1, .int .i64 k.2, .slice Ap np cp] (by rfl) (by rfl) (newtri3 _ _ _ _ _ _ (by simp)) (by simp [Value.oneCell']) (by decide) hmx1.out hbx1.out (HSZ.out _) _ rfl ?_; intro g5 cap5 w5 hown5 hgrow5 hat5 hlt5; have HE5 := HE.out _ _ hgrow5; have hK5 := KE.mk HE5.1 HE5.2.1))
    all_goals
      have HF : Hid (LstAt (st3 w.heap.size none w5) (some ⟨g5, 0, none⟩) (0 + 1) cap5 (l ++ [(k, (Ap, np, cp))]) ∧ Below w.heap.size w (st3 w.heap.size none w5)) := by
        refine ⟨?_, st3_below none HE5.2.2 (Nat.le_refl _)⟩
        have e : rpCells l ++ [.int .i64 k.1, .int .i64 k.2, .slice Ap np cp] = rpCells (l ++ [(k, (Ap, np, cp))]) := by rw [rpCells_append]; rfl
        rw [e] at hown5
        refine LstAt.row (base := w3.heap.size) (ownsRow_keep hown5 fun g6 cur hg6 _ => st3_block _ _ _ _ ?_)
        obtain ⟨_, _, hge, _⟩ := own_block hown5 hg6
        have := E4.out
        omega
      have HC5 := hK5
      clear hown5 hgrow5 hat5 hlt5 HE5 HROW HSZ hS1 hKA hK0 HE hne HR
      go_wp2
      refine bodyPost_ret (v := .tuple #[.slice (some ⟨g5, 0, none⟩) (0 + 1) cap5, eV none]) ?_ rfl ?_
      · simp [results, Tryd.results22, go_sem, eV, HC5.2.2.2.1, HC5.2.2.2.2.1, HC5.2.2.2.2.2.1]
      · exact ⟨_, _, rfl, HF.out⟩
  | some ad =>
    obtain ⟨g, rfl, _⟩ := HL.out.cells ad rfl
    have hmx : Hid (0 + n ≤ maxLen) := Nat.le_trans (show 0 + n ≤ 200 by have := HN.out; omega) (by decide)
    have hbx : Hid ((0 + n) * 40 ≤ 140737488355328) := by have := HN.out; simp only [Hid]; omega
    have hnw : Hid (∀ j u, (rpCells l)[j]? = some u → w3.cell? ((⟨g, 0, none⟩ : Addr).add j) = some u) := by
      have h := (HL.out.below H3.out.2.2.1).firsts n
      rw [List.take_of_length_le (by rw [HL.out.len]; exact Nat.le_refl _)] at h
      exact h
    have hln : Hid ((rpCells l).length = n * 3) := by rw [Hid, rpCells_len, HL.out.len]
    go_wp2_with (at_builtin; refine wpList_append_own _ rfl _ _ 26 rfl w3.heap.size 47 i0 _ 3 40 Tryd.underlying26 hi0 hz0 hz1 hz2 rfl (by decide) (.slice none 0 0) 0 [] rfl (World.ownsRow_nil _ _ _ _) ⟨g, 0, none⟩ n c (rpCells l) rfl hln.out hnw.out (rpCells_one_cell l) hmx.out hbx.out (Nat.le_refl _) ?_; intro v' w4 hown4 hgrow4 hnil4; obtain ⟨A4, c4, rfl⟩ := own_slice hown4; have HO := Lib.hid hown4; have HG := Lib.hid hgrow4; clear hown4 hgrow4 hnil4)
    have E4 : Hid (EBox w4 w.heap.size none ∧ EBox w4 G none ∧ Below w.heap.size w w4 ∧ w3.heap.size ≤ w4.heap.size ∧ w.heap.size < G ∧ G < w3.heap.size) := by
      have hb : Below w3.heap.size w3 w4 := grow_below (v := .slice none 0 0) HG.out (Nat.le_refl _) (fun g e => by cases e)
      exact ⟨H3.out.1.below hb, H3.out.2.1.below hb, H3.out.2.2.1.trans (hb.mono H3.out.2.2.1.size), hb.size, H3.out.2.2.2.1, H3.out.2.2.2.2⟩
    have HR : Hid (w4.ownsRow w3.heap.size 47 3 (.slice A4 n c4) n (rpCells l)) := by
      have h := HO.out
      simp only [Hid]
      simpa using h
    have hne : ∀ b, b < w3.heap.size → some b ≠ (Value.slice A4 n c4).ownBlock := fun b hb e => by
      obtain ⟨cur, hh, h1, h2⟩ := own_block HR.out e.symm
      omega
    have HE : Hid (∀ o w5, (w4.drew.alloc o).grownBy w5 (Value.slice A4 n c4).ownBlock → EBox w5 w.heap.size none ∧ EBox w5 G none ∧ Below w.heap.size w w5) := fun o w5 hg => by
      have e := E4.out
      refine ⟨(hg.block _ (by simp; omega) (hne _ (by omega))).trans ((Below.heap_alloc _ o _ (by simp; omega)).trans e.1), (hg.block _ (by simp; omega) (hne _ (by omega))).trans ((Below.heap_alloc _ o _ (by simp; omega)).trans e.2.1), ?_⟩
      refine e.2.2.1.trans ((((Below.refl w.heap.size w4).drew.alloc (by simp; omega) o)).grown hg (by simp; omega) (fun b hb => ?_))
      obtain ⟨cur, hh, h1, h2⟩ := own_block HR.out hb
      omega
    have hK0 : KE w.heap.size G w4.drew := KE.mk (E4.out.1.below (Below.refl _ _).drew) (E4.out.2.1.below (Below.refl _ _).drew)
    have hKA : ∀ o, KE w.heap.size G (w4.drew.alloc o) := fun o => KE.mk (E4.out.1.below ((Below.refl _ _).drew.alloc (by simp) o)) (E4.out.2.1.below ((Below.refl _ _).drew.alloc (by simp) o))
    have HSZ : Hid (∀ o, w3.heap.size ≤ (w4.drew.alloc o).heap.size) := fun o => by have := E4.out.2.2.2.1; first | (simp; done) | (simp; omega)
    have HROW : Hid (∀ o, (w4.drew.alloc o).ownsRow w3.heap.size 47 3 (.slice A4 n c4) n (rpCells l)) := fun o => (ownsRow_below' HR.out (Below.refl _ _).drew).alloc o
    have hmx1 : Hid (n + 1 ≤ maxLen) := Nat.le_trans (show n + 1 ≤ 201 by have := HN.out; omega) (by decide)
    have hbx1 : Hid ((n + 1) * 40 ≤ 140737488355328) := by have := HN.out; simp only [Hid]; omega
    have hbG : ¬ (w.heap.size = G) := by have := E4.out; omega
    have hGb : ¬ (G = w.heap.size) := fun e => hbG e.symm
    have hS1 : ∀ W, KE w.heap.size G W → KE w.heap.size G (st3 w.heap.size none W) := KE.st hbG hGb
    go_region_held_law (fun W => W.cell? ⟨G, 0, none⟩ = some (.bool false) ∧ W.cell? ⟨G, 1, none⟩ = some (.slice none 0 0) ∧ W.cell? ⟨G, 2, none⟩ = some (.int .i64 0) ∧
        W.cell? ⟨w.heap.size, 0, none⟩ = some (.bool false) ∧ W.cell? ⟨w.heap.size, 1, none⟩ = some (.slice none 0 0) ∧ W.cell? ⟨w.heap.size, 2, none⟩ = some (.int .i64 0) ∧ W.frozen? ⟨w.heap.size, 0, none⟩ = false ∧ W.frozen? ⟨w.heap.size, 1, none⟩ = false ∧ W.frozen? ⟨w.heap.size, 2, none⟩ = false)
      (first | assumption | exact hKA _ | exact hS1 _ (by assumption))
      ((refine step_append_lies _ (by rfl) _ _ _ (by rfl) w3.heap.size 47 i0 _ 3 40 Tryd.underlying26 hi0 hz0 hz1 hz2 rfl (by decide) (.slice A4 n c4) n (rpCells l) (by rfl) (HROW.out _) ⟨w4.heap.size, 0, none⟩ 1 1 [.int .i64 k.1, .int .i64 k.2, .slice Ap np cp] (by rfl) (by rfl) (newtri3 _ _ _ _ _ _ (by simp)) (by simp [Value.oneCell']) (by decide) hmx1.out hbx1.out (HSZ.out _) _ rfl ?_; intro g5 cap5 w5 hown5 hgrow5 hat5 hlt5; have HE5 := HE.out _ _ hgrow5; have hK5 := KE.mk HE5.1 HE5.2.1))
    all_goals
      have HF : Hid (LstAt (st3 w.heap.size none w5) (some ⟨g5, 0, none⟩) (n + 1) cap5 (l ++ [(k, (Ap, np, cp))]) ∧ Below w.heap.size w (st3 w.heap.size none w5)) := by
        refine ⟨?_, st3_below none HE5.2.2 (Nat.le_refl _)⟩
        have e : rpCells l ++ [.int .i64 k.1, .int .i64 k.2, .slice Ap np cp] = rpCells (l ++ [(k, (Ap, np, cp))]) := by rw [rpCells_append]; rfl
        rw [e] at hown5
        refine LstAt.row (base := w3.heap.size) (ownsRow_keep hown5 fun g6 cur hg6 _ => st3_block _ _ _ _ ?_)
        obtain ⟨_, _, hge, _⟩ := own_block hown5 hg6
        have := E4.out
        omega
      have HC5 := hK5
      clear hown5 hgrow5 hat5 hlt5 HE5 HROW HSZ hS1 hKA hK0 HE hne HR
      go_wp2
      refine bodyPost_ret (v := .tuple #[.slice (some ⟨g5, 0, none⟩) (n + 1) cap5, eV none]) ?_ rfl ?_
      · simp [results, Tryd.results22, go_sem, eV, HC5.2.2.2.1, HC5.2.2.2.2.1, HC5.2.2.2.2.2.1]
      · exact ⟨_, _, rfl, HF.out⟩
end Go.Proofs.YtgibpiakeaplbaaDoor
