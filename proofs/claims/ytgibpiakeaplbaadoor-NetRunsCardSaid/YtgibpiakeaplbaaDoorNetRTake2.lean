/-
  The reference's Take where it takes. Own work.
-/
import Derived.Test.YtgibpiakeaplbaaDoorNetRTake
set_option linter.unusedSimpArgs false
set_option linter.unusedVariables false
namespace Go.Proofs.YtgibpiakeaplbaaDoor
open Go Go.RowKit

/-- An append at a step of a drawn region, of nothing too. -/
theorem step_append_own {P : Program} (w : World) {ops : Array Oper} {o : Oper} {a : Act} {K : Act → World → Prop} {Q : Exit → Act → World → Prop} {E : Prop} (hgd : o.guard = none) (s x : Operand) (t : TypeId)
    (ho : o.op = .call { callee := .builtin .append, args := #[s, x], argTypes := #[t, t] })
    (base : Nat) (e : TypeId) (i : TypeInfo) (z : Value) (size bytes : Nat) (ht : P.underlying t = some (.slice e)) (hi : P.info? e = some i) (hz : i.zero = some z)
    (hsize : i.size = size) (hby : i.bytes = bytes) (hzs : z.cells.size = size) (hsz : 0 < size)
    (v : Value) (n : Nat) (xs : List Value) (hs : a.eval s = v) (hown : w.ownsRow base e size v n xs)
    (ad : Addr) (m c : Nat) (news : List Value) (hx : a.eval x = .slice (some ad) m c) (hl : news.length = m * size) (hnews : ∀ j u, news[j]? = some u → w.cell? (ad.add j) = some u) (h1 : ∀ u ∈ news, u.oneCell' = true)
    (h63 : n + m ≤ maxLen) (hbytes : (n + m) * bytes ≤ 140737488355328) (hbase : base ≤ w.heap.size)
    (h : ∀ v' w', w'.ownsRow base e size v' (n + m) (xs ++ news) → w.grownBy w' v.ownBlock → K (a.put o.dst v') w') :
    if Region.wanted o (yielded ops a.tmps) = true then Oper.wp P o a w K Q else E := by
  have hw : Region.wanted o (yielded ops a.tmps) = true := by simp [Region.wanted, hgd]
  rw [if_pos hw]
  exact wp_append_own w s x t ho base e i z size bytes ht hi hz hsize hby hzs hsz v n xs hs hown ad m c news hx hl hnews h1 h63 hbytes hbase fun v' w' h2 h3 _ => h v' w' h2 h3

/-- Besides the boxes: the packet's bytes in the list. -/
abbrev KT (b G g j : Nat) (v : Value) (W : World) : Prop := W.cell? ⟨g, j, none⟩ = some v ∧ KE b G W
theorem KT.st {b G g j : Nat} {v : Value} (hbG : ¬ (b = G)) (hGb : ¬ (G = b)) (hgb : g ≠ b) (W : World) (h : KT b G g j v W) : KT b G g j v (st3 b none W) :=
  ⟨(World.cell?_of_block (w := W) (st3_block b none W g hgb)).trans h.1, KE.st hbG hGb W h.2⟩

set_option maxHeartbeats 4000000 in
theorem takeref_ok (A : Option Addr) (n c : Nat) (l : List RP) (k : Int × Int) (i : Nat) (x : RP) (w : World) (hL : LstAt w A n c l) (hn : n ≤ 200) (hk : wayE k = none) (hi : i < (line k l).length) (hx : l[idx k l i]? = some x) :
    Calls Tryd.prog 23 #[.slice A n c, .int .i64 k.1, .int .i64 k.2, .int .i64 i] w fun e w' => ∃ A' n' c', e = .returned (.tuple #[.slice x.2.1 x.2.2.1 x.2.2.2, .slice A' n' c', eV none]) ∧ Hid (LstAt w' A' n' c' (l.eraseIdx (idx k l i)) ∧ Below w.heap.size w w') := by
  have HC := fun W => check_ref (.slice A n c) k.1 k.2 W
  rw [hk] at HC
  have HL := Lib.hid hL
  have HN : Hid (n ≤ 200) := hn
  have HX := Lib.hid hx
  have HI := Lib.hid hi
  obtain ⟨q, hq⟩ : ∃ q, Hid (cnt k l = q) := ⟨_, rfl⟩
  obtain ⟨j, hj⟩ : ∃ j, Hid (idx k l i = j) := ⟨_, rfl⟩
  have hjn : Hid (j < n) := by rw [Hid, ← hj.out, ← hL.len]; exact (List.getElem?_eq_some_iff.1 hx).1
  have hiq : i < q := by rw [← hq.out, cnt_eq_line]; exact hi
  have d0 : decide ((i : Int) < 0) = false := by rw [decide_eq_false_iff_not]; omega
  have d1 : decide (q ≤ i) = false := by rw [decide_eq_false_iff_not]; omega
  obtain ⟨g, rfl, _⟩ : ∃ g, A = some ⟨g, 0, none⟩ ∧ True := by
    obtain ⟨g, e, _⟩ := hL.pack _ _ hx
    exact ⟨g, e, trivial⟩
  have hgw : Hid (g < w.heap.size) := by
    obtain ⟨g', e, h1, _⟩ := hL.pack _ _ hx
    cases e
    exact World.block_lt_of_cell? w _ h1
  rw [hj.out] at hx
  clear hk hn hi hiq
  have HZ := zeroBox w
  go_enter Tryd.func23, Tryd.ntmps23
  go_wp2_with fail
  refine (HC _).mono ?_
  rintro e w1 ⟨rfl, hb⟩
  clear HC
  have H1 := Lib.hid (HZ.out _ hb)
  clear hb HZ
  simp only [eV]
  go_wp2_with fail
  obtain ⟨w9, hw2⟩ : ∃ w9, w9 = w1.alloc (.cells #[.bool false, .slice none 0 0, .int .i64 0] 41) := ⟨_, rfl⟩
  obtain ⟨G, hG⟩ : ∃ G, G = w1.heap.size := ⟨_, rfl⟩
  have H9 : Hid (EBox w9 w.heap.size none ∧ EBox w9 G none ∧ Below w.heap.size w w9 ∧ w.heap.size < G ∧ G < w9.heap.size) := by
    have hb : Below w1.heap.size w1 w9 := by rw [hw2]; exact (Below.refl _ _).alloc (Nat.le_refl _) _
    have hlt : w.heap.size < w1.heap.size := (Array.getElem?_eq_some_iff.1 H1.out.1).1
    exact ⟨H1.out.1.below hb, by rw [hw2, hG]; exact heap_alloc_new w1 _, H1.out.2.trans (hb.mono (Nat.le_of_lt hlt)), by rw [hG]; exact hlt, by rw [hw2, hG]; simp⟩
  rw [← hG, ← hw2]
  clear hw2 hG H1
  refine (count_any (some ⟨g, 0, none⟩) n c l HL.out.len (by have := HN.out; omega) k w9 (HL.out.below H9.out.2.2.1).pack).mono ?_
  rintro e w2 ⟨rfl, hb3⟩
  have H2 : Hid (EBox w2 w.heap.size none ∧ EBox w2 G none ∧ Below w.heap.size w w2 ∧ w.heap.size < G ∧ G < w2.heap.size) :=
    ⟨H9.out.1.below hb3, H9.out.2.1.below hb3, H9.out.2.2.1.trans (hb3.mono H9.out.2.2.1.size), H9.out.2.2.2.1, Nat.lt_of_lt_of_le H9.out.2.2.2.2 hb3.size⟩
  have g0 : w2.cell? ⟨G, 0, none⟩ = some (.bool false) := H2.out.2.1.c0
  clear hb3 H9
  rw [hq.out]
  go_wp2_with fail
  refine (place_ref (some ⟨g, 0, none⟩) n c l HL.out.len (by have := HN.out; omega) k i HI.out w2 (HL.out.below H2.out.2.2.1).pack).mono ?_
  rintro e w3 ⟨rfl, hb3⟩
  have H3 : Hid (EBox w3 w.heap.size none ∧ EBox w3 G none ∧ Below w.heap.size w w3 ∧ w.heap.size < G ∧ G < w3.heap.size) :=
    ⟨H2.out.1.below hb3, H2.out.2.1.below hb3, H2.out.2.2.1.trans (hb3.mono H2.out.2.2.1.size), H2.out.2.2.2.1, Nat.lt_of_lt_of_le H2.out.2.2.2.2 hb3.size⟩
  clear hb3 H2 g0
  rw [hj.out]
  obtain ⟨i0, hi0, hz0, hz1, hz2⟩ := info_parts rp_info
  have hj0 : ((0 : Int) ≤ (j : Nat)) := by omega
  have hjc : ((j : Nat) : Int) ≤ c := by have := hjn.out; have := HL.out.cap; omega
  have hjn2 : ((j : Nat) : Int) < n := by have := hjn.out; omega
  have hmx : Hid (0 + j ≤ maxLen) := Nat.le_trans (show 0 + j ≤ 200 by have := HN.out; have := hjn.out; omega) (by decide)
  have hbx : Hid ((0 + j) * 40 ≤ 140737488355328) := by have := HN.out; have := hjn.out; simp only [Hid]; omega
  have hnw : Hid (∀ u v, (rpCells (l.take j))[u]? = some v → w3.cell? ((⟨g, 0, none⟩ : Addr).add u) = some v) := (HL.out.below H3.out.2.2.1).firsts j
  have hln : Hid ((rpCells (l.take j)).length = j * 3) := by rw [Hid, rpCells_len, List.length_take, HL.out.len, Nat.min_eq_left (Nat.le_of_lt hjn.out)]
  go_wp2_with (at_builtin; refine wpList_append_own _ rfl _ _ 26 rfl w3.heap.size 47 i0 _ 3 40 Tryd.underlying26 hi0 hz0 hz1 hz2 rfl (by decide) (.slice none 0 0) 0 [] rfl (World.ownsRow_nil _ _ _ _) ⟨g, 0, none⟩ j c (rpCells (l.take j)) (by rfl) hln.out hnw.out (rpCells_one_cell _) hmx.out hbx.out (Nat.le_refl _) ?_; intro v' w4 hown4 hgrow4 hnil4; obtain ⟨A4, c4, rfl⟩ := own_slice hown4; have HO := Lib.hid hown4; have HG := Lib.hid hgrow4; clear hown4 hgrow4 hnil4)
  have HB4 : Hid (Below w3.heap.size w3 w4) := grow_below (v := .slice none 0 0) HG.out (Nat.le_refl _) (fun g e => by cases e)
  have E4 : Hid (EBox w4 w.heap.size none ∧ EBox w4 G none ∧ Below w.heap.size w w4 ∧ w3.heap.size ≤ w4.heap.size ∧ w.heap.size < G ∧ G < w3.heap.size) :=
    ⟨H3.out.1.below HB4.out, H3.out.2.1.below HB4.out, H3.out.2.2.1.trans (HB4.out.mono H3.out.2.2.1.size), HB4.out.size, H3.out.2.2.2.1, H3.out.2.2.2.2⟩
  have HR : Hid (w4.ownsRow w3.heap.size 47 3 (.slice A4 j c4) j (rpCells (l.take j))) := by
    have h := HO.out
    simp only [Hid]
    simpa using h
  clear HO HG HB4 H3 hmx hbx hnw hln
  have hne : ∀ b, b < w3.heap.size → some b ≠ (Value.slice A4 j c4).ownBlock := fun b hb e => by
    obtain ⟨cur, hh, h1, h2⟩ := own_block HR.out e.symm
    omega
  have hx2 := (rpCells_at x l j hx).2.2
  have HXC : Hid (w4.drew.cell? ⟨g, j * 3 + 2, none⟩ = some (.slice x.2.1 x.2.2.1 x.2.2.2)) := by
    obtain ⟨g', e, h⟩ := HL.out.cells _ rfl
    cases e
    have h1 := h _ _ hx2
    exact ((E4.out.2.2.1.trans ((Below.refl _ w4).drew.mono E4.out.2.2.1.size)).cell (p := ⟨g, j * 3 + 2, none⟩) hgw.out).trans h1
  have HE : Hid (∀ w5, w4.drew.grownBy w5 (Value.slice A4 j c4).ownBlock → EBox w5 w.heap.size none ∧ EBox w5 G none ∧ Below w.heap.size w w5 ∧ w5.cell? ⟨g, j * 3 + 2, none⟩ = some (.slice x.2.1 x.2.2.1 x.2.2.2)) := fun w5 hg => by
    have e := E4.out
    have hgw' := hgw.out
    have hb : Below w.heap.size w4 w5 := ((Below.refl w.heap.size w4).drew).grown hg (by simp; omega) (fun b hb => by
      obtain ⟨cur, hh, h1, h2⟩ := own_block HR.out hb
      omega)
    refine ⟨(hg.block _ (by simp; omega) (hne _ (by omega))).trans e.1, (hg.block _ (by simp; omega) (hne _ (by omega))).trans e.2.1, e.2.2.1.trans hb, ?_⟩
    exact (World.cell?_of_block (w := w4.drew) (a := ⟨g, j * 3 + 2, none⟩) (hg.block g (by simp; omega) (hne _ (by omega)))).trans HXC.out
  obtain ⟨ad, c', had, had2, hrun⟩ := cut_run g n c (j + 1) (by have := hjn.out; omega) HL.out.cap
  obtain ⟨J, hJ⟩ : ∃ J : Int, Hid (((j + 1 : Nat) : Int) = J) := ⟨_, rfl⟩
  obtain ⟨m, hm⟩ : ∃ m, Hid (n - (j + 1) = m) := ⟨_, rfl⟩
  rw [hJ.out, hm.out] at hrun
  have hnews : Hid (∀ u v, (rpCells (l.drop (j + 1)))[u]? = some v → w4.drew.cell? (ad.add u) = some v) := by
    rcases had2 with rfl | h0
    · exact (HL.out.below (E4.out.2.2.1.trans ((Below.refl _ w4).drew.mono E4.out.2.2.1.size))).lasts (j + 1)
    · intro u v hu
      have e : l.drop (j + 1) = [] := List.eq_nil_of_length_eq_zero (by rw [List.length_drop, HL.out.len]; exact h0)
      rw [e] at hu
      simp [rpCells] at hu
  have hnl : Hid ((rpCells (l.drop (j + 1))).length = m * 3) := by rw [Hid, rpCells_len, List.length_drop, HL.out.len, hm.out]
  have hw1 : IntKind.i64.wrap ((j : Int) + 1) = J := by have := HN.out; have := hjn.out; have := hJ.out; rw [IntKind.wrap_i64]; omega
  have hmx1 : Hid (j + m ≤ maxLen) := Nat.le_trans (show j + m ≤ 200 by have := HN.out; have := hjn.out; have := hm.out; omega) (by decide)
  have hbx1 : Hid ((j + m) * 40 ≤ 140737488355328) := by have := HN.out; have := hjn.out; have := hm.out; simp only [Hid]; omega
  have HSZ : Hid (w3.heap.size ≤ w4.drew.heap.size) := by have := E4.out.2.2.2.1; simpa [Hid] using this
  have HROW : Hid (w4.drew.ownsRow w3.heap.size 47 3 (.slice A4 j c4) j (rpCells (l.take j))) := ownsRow_below' HR.out (Below.refl _ _).drew
  have hbG : ¬ (w.heap.size = G) := by have := E4.out; omega
  have hGb : ¬ (G = w.heap.size) := fun e => hbG e.symm
  have hgb : g ≠ w.heap.size := by have := hgw.out; omega
  have hK0 : KT w.heap.size G g (j * 3 + 2) (.slice x.2.1 x.2.2.1 x.2.2.2) w4.drew := ⟨HXC.out, KE.mk (E4.out.1.below (Below.refl _ _).drew) (E4.out.2.1.below (Below.refl _ _).drew)⟩
  have hS1 : ∀ W, KT w.heap.size G g (j * 3 + 2) (.slice x.2.1 x.2.2.1 x.2.2.2) W → KT w.heap.size G g (j * 3 + 2) (.slice x.2.1 x.2.2.1 x.2.2.2) (st3 w.heap.size none W) := KT.st hbG hGb hgb
  clear had had2 hx2 HX HI hL
  go_region_held_law (fun W => W.cell? ⟨g, j * 3 + 2, none⟩ = some (.slice x.2.1 x.2.2.1 x.2.2.2) ∧ W.cell? ⟨G, 0, none⟩ = some (.bool false) ∧ W.cell? ⟨G, 1, none⟩ = some (.slice none 0 0) ∧ W.cell? ⟨G, 2, none⟩ = some (.int .i64 0) ∧
      W.cell? ⟨w.heap.size, 0, none⟩ = some (.bool false) ∧ W.cell? ⟨w.heap.size, 1, none⟩ = some (.slice none 0 0) ∧ W.cell? ⟨w.heap.size, 2, none⟩ = some (.int .i64 0) ∧ W.frozen? ⟨w.heap.size, 0, none⟩ = false ∧ W.frozen? ⟨w.heap.size, 1, none⟩ = false ∧ W.frozen? ⟨w.heap.size, 2, none⟩ = false)
    (first | assumption | exact hS1 _ (by assumption))
    ((refine step_append_own _ (by rfl) _ _ _ (by rfl) w3.heap.size 47 i0 _ 3 40 Tryd.underlying26 hi0 hz0 hz1 hz2 rfl (by decide) (.slice A4 j c4) j (rpCells (l.take j)) (by rfl) HROW.out ad m c' (rpCells (l.drop (j + 1))) (by rfl) hnl.out hnews.out (rpCells_one_cell _) hmx1.out hbx1.out HSZ.out ?_; intro v5 w5 hown5 hgrow5; obtain ⟨A5, c5, rfl⟩ := own_slice hown5; have HE5 := HE.out _ hgrow5; have hK5 : KT w.heap.size G g (j * 3 + 2) (.slice x.2.1 x.2.2.1 x.2.2.2) w5 := ⟨HE5.2.2.2, KE.mk HE5.1 HE5.2.1⟩))
  all_goals
    have HF : Hid (LstAt (st3 w.heap.size none w5) A5 (j + m) c5 (l.eraseIdx (idx k l i)) ∧ Below w.heap.size w (st3 w.heap.size none w5)) := by
      refine ⟨?_, st3_below none HE5.2.2.1 (Nat.le_refl _)⟩
      have e : rpCells (l.take j) ++ rpCells (l.drop (j + 1)) = rpCells (l.eraseIdx (idx k l i)) := by rw [← rpCells_append, hj.out, List.eraseIdx_eq_take_drop_succ]
      rw [e] at hown5
      refine LstAt.row (base := w3.heap.size) (ownsRow_keep hown5 fun g6 cur hg6 _ => st3_block _ _ _ _ ?_)
      obtain ⟨_, _, hge, _⟩ := own_block hown5 hg6
      have := E4.out
      omega
    have HC5 := hK5
    clear hown5 hgrow5 HE5 HROW HSZ hS1 hK0 HE hne HR hrun hnews hnl
    go_wp2
    refine bodyPost_ret (v := .tuple #[.slice x.2.1 x.2.2.1 x.2.2.2, .slice A5 (j + m) c5, eV none]) ?_ rfl ?_
    · simp [results, Tryd.results23, go_sem, eV, HC5.2.2.2.2.1, HC5.2.2.2.2.2.1, HC5.2.2.2.2.2.2.1]
    · exact ⟨_, _, _, rfl, HF.out⟩
end Go.Proofs.YtgibpiakeaplbaaDoor
