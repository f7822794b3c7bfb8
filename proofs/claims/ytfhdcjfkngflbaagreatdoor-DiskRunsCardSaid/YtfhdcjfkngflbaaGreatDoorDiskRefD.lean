/-
  disk: the document's Delete where it deletes. Own work.
-/
import Derived.Test.YtfhdcjfkngflbaaGreatDoorP8
import Derived.Deep.RegionLaw
set_option linter.unusedSimpArgs false
set_option linter.unusedVariables false
namespace Go.Proofs.YtfhdcjfkngflbaaGreatDoor
open Go Go.RowKit

/-- An append at a step of a drawn region, of nothing too. -/
theorem step_append_own {P : Program} (w : World) {ops : Array Oper} {o : Oper} {a : Act} {K : Act → World → Prop} {Q : Exit → Act → World → Prop} {E : Prop} (hgd : o.guard = none) (s x : Operand) (t : TypeId)
    (ho : o.op = .call { callee := .builtin .append, args := #[s, x], argTypes := #[t, t] })
    (base : Nat) (e : TypeId) (i : TypeInfo) (z : Value) (size bytes : Nat) (ht : P.underlying t = some (.slice e)) (hi : P.info? e = some i) (hz : i.zero = some z)
    (hsize : i.size = size) (hby : i.bytes = bytes) (hzs : z.cells.size = size) (hsz : 0 < size)
    (v : Value) (n : Nat) (xs : List Value) (hs : a.eval s = v) (hown : w.ownsRow base e size v n xs)
    (ad : Addr) (m c : Nat) (news : List Value) (hx : a.eval x = .slice (some ad) m c) (hl : news.length = m * size) (hnews : ∀ j u, news[j]? = some u → w.cell? (ad.add j) = some u) (h1 : ∀ u ∈ news, u.oneCell' = true)
    (h63 : n + m ≤ maxLen) (hbytes : (n + m) * bytes ≤ 140737488355328) (hbase : base ≤ w.heap.size)
    (h : ∀ v' w', w'.ownsRow base e size v' (n + m) (xs ++ news) → w.grownBy w' v.ownBlock → K (a.put o.dst v') w') :
    if Region.wanted o (yielded ops a.tmps) = true then Oper.wp P o a w K Q else E := by
  have hw : Region.wanted o (yielded ops a.tmps) = true := by simp [Region.wanted, hgd]
  rw [if_pos hw]
  exact wp_append_own w s x t ho base e i z size bytes ht hi hz hsize hby hzs hsz v n xs hs hown ad m c news hx hl hnews h1 h63 hbytes hbase fun v' w' h2 h3 _ => h v' w' h2 h3

section
variable {O O' : Nat → Prop} {w w' : World} {g n c : Nat} {L : List RF}
/-- The first i files, as the cut reads them. -/
theorem RefD.firsts (h : RefD O w (some ⟨g, 0, none⟩) n c L) (i : Nat) : ∀ j u, (rfCells (L.take i))[j]? = some u → w.cell? ((⟨g, 0, none⟩ : Addr).add j) = some u := fun j u hu => by
  obtain ⟨g', e, h2⟩ := h.cells _ rfl
  cases e
  rw [rfCells_take, List.getElem?_take] at hu
  split at hu
  · rw [Addr.add_lit]; simpa using (h2 j u hu).1
  · cases hu
/-- The files behind i, as the cut reads them. -/
theorem RefD.lasts (h : RefD O w (some ⟨g, 0, none⟩) n c L) (i : Nat) : ∀ j u, (rfCells (L.drop i))[j]? = some u → w.cell? ((⟨g, i * 3, none⟩ : Addr).add j) = some u := fun j u hu => by
  obtain ⟨g', e, h2⟩ := h.cells _ rfl
  cases e
  rw [rfCells_drop, List.getElem?_drop] at hu
  rw [Addr.add_lit]; simpa using (h2 _ u hu).1
end
/-- The cut behind i, run. -/
theorem fcut_run (g n c i : Nat) (hi : i ≤ n) (hc : n ≤ c) : ∃ ad c', (ad = (⟨g, 0, none⟩ : Addr) ∨ ad = ⟨g, i * 3, none⟩) ∧ (ad = ⟨g, i * 3, none⟩ ∨ n - i = 0) ∧ ∀ W : World, (Instr.slice 27 (.slice (some ⟨g, 0, none⟩) n c) (some (.int .i64 i)) none none).run Tryz.prog W = .ok (.slice (some ad) (n - i) c') W := by
  have hs : ∀ W : World, (sizeOf (Tryz.prog.elem 27)).run Tryz.prog W = .ok 3 W := fun W => by kernel_rfl
  by_cases e : c = i
  · refine ⟨⟨g, 0, none⟩, c - i, .inl rfl, .inr (by omega), fun W => ?_⟩
    rw [run_slice_l (t := 27) (ht := by kernel_rfl) (h0 := by omega) (h1 := by omega), hs]
    simp [sliced, e]
  · refine ⟨⟨g, i * 3, none⟩, c - i, .inr rfl, .inl rfl, fun W => ?_⟩
    rw [run_slice_l (t := 27) (ht := by kernel_rfl) (h0 := by omega) (h1 := by omega), hs]
    simp [sliced, e, Addr.add]
    omega
theorem grow_below {w w' : World} {b : Nat} {v : Value} (hg : w.grownBy w' v.ownBlock) (hb : b ≤ w.heap.size) (hv : ∀ g, v.ownBlock = some g → b ≤ g) : Below b w w' := (Below.refl b w).grown hg hb hv
theorem ownsRow_below' {w w' : World} {base : Nat} {e : TypeId} {size n : Nat} {v : Value} {xs : List Value} (h : w.ownsRow base e size v n xs) (hb : Below w.heap.size w w') : w'.ownsRow base e size v n xs :=
  ownsRow_keep h fun k hk => hb.block k (own_block h hk).choose_spec.2.2
/-- The error's three cells, written. -/
abbrev ste (b : Nat) (W : World) : World := ((W.setCell ⟨b, 0, none⟩ (.bool false)).setCell ⟨b, 1, none⟩ (.slice none 0 0)).setCell ⟨b, 2, none⟩ (.int .i64 0)
theorem ste_block (b : Nat) (W : World) (g : Nat) (h : g ≠ b) : (ste b W).heap[g]? = W.heap[g]? := by
  unfold ste
  rw [Below.heap_setCell _ _ _ _ (by exact h), Below.heap_setCell _ _ _ _ (by exact h), Below.heap_setCell _ _ _ _ (by exact h)]
theorem cells3_0 {W : World} {b : Nat} {a0 a1 a2 : Value} {t : TypeId} (h : W.heap[b]? = some (.cells #[a0, a1, a2] t (0, 0))) : (W.setCell ⟨b, 0, none⟩ a0).heap[b]? = some (.cells #[a0, a1, a2] t (0, 0)) := by
  show (W.heap.modify b _)[b]? = _
  rw [Array.getElem?_modify, if_pos rfl, h]; rfl
theorem cells3_1 {W : World} {b : Nat} {a0 a1 a2 : Value} {t : TypeId} (h : W.heap[b]? = some (.cells #[a0, a1, a2] t (0, 0))) : (W.setCell ⟨b, 1, none⟩ a1).heap[b]? = some (.cells #[a0, a1, a2] t (0, 0)) := by
  show (W.heap.modify b _)[b]? = _
  rw [Array.getElem?_modify, if_pos rfl, h]; rfl
theorem cells3_2 {W : World} {b : Nat} {a0 a1 a2 : Value} {t : TypeId} (h : W.heap[b]? = some (.cells #[a0, a1, a2] t (0, 0))) : (W.setCell ⟨b, 2, none⟩ a2).heap[b]? = some (.cells #[a0, a1, a2] t (0, 0)) := by
  show (W.heap.modify b _)[b]? = _
  rw [Array.getElem?_modify, if_pos rfl, h]; rfl
theorem Bx3.ste {w0 W : World} {b0 b1 b2 : Nat} {v0 v1 : Value} (h : Bx3 w0 W b0 b1 b2 v0 v1) : Bx3 w0 (ste b2 W) b0 b1 b2 v0 v1 := by
  have hn := h.n1
  refine ⟨(ste_block _ _ _ (by omega)).trans h.d, (ste_block _ _ _ (by omega)).trans h.r, ?_, h.n1, belowS (belowS (belowS h.old (by omega) _) (by omega) _) (by omega) _⟩
  exact cells3_2 (cells3_1 (cells3_0 h.e))

set_option maxRecDepth 100000 in
set_option maxHeartbeats 40000000 in
theorem refdel_ok (O : Nat → Prop) (A : Option Addr) (n c : Nat) (L : List RF) (last : Int) (i : Nat) (f0 : RF) (w : World) (h : RefD O w A n c L) (hO : ∀ g, O g → g < w.heap.size) (hn : n ≤ 64) (hs : Sorted L) (hi : L[i]? = some f0) :
    Calls Tryz.prog 20 #[.agg #[.slice A n c, .int .i64 last], .string f0.name] w fun e w' => ∃ (A' : Option Addr) (n' c' : Nat), e = .returned (.tuple #[.agg #[.slice A' n' c', .int .i64 last], eV none]) ∧ Hid (RefD O w' A' n' c' (L.eraseIdx i) ∧ Below w.heap.size w w') := by
  obtain ⟨w1, hw1⟩ : ∃ w1, w1 = ((w.alloc (.cells #[.slice A n c, .int .i64 last] 29)).alloc (.cells #[.slice none 0 0, .int .i64 0] 29)).alloc (.cells #[.bool false, .slice none 0 0, .int .i64 0] 53) := ⟨_, rfl⟩
  obtain ⟨b2, hb2⟩ : ∃ b2, b2 = w.heap.size + 1 + 1 := ⟨_, rfl⟩
  obtain ⟨b1, hb1⟩ : ∃ b1, b1 = w.heap.size + 1 := ⟨_, rfl⟩
  obtain ⟨b0, hb0⟩ : ∃ b0, b0 = w.heap.size := ⟨_, rfl⟩
  have H1 : Hid (Bx3 w w1 b0 b1 b2 (.slice A n c) (.int .i64 last) ∧ b2 < w1.heap.size) := by
    rw [hw1, hb2, hb1, hb0]; exact ⟨bx3_new w _ _, by simp⟩
  obtain ⟨P, hP⟩ : ∃ P : Nat → Prop, Hid (∀ g, P g ↔ (O g ∨ (w.heap.size ≤ g ∧ g < w1.heap.size))) := ⟨fun g => O g ∨ (w.heap.size ≤ g ∧ g < w1.heap.size), fun g => Iff.rfl⟩
  have hPO : ∀ g, g < w.heap.size → P g → O g := fun g hg hp => by
    rcases (hP.out g).1 hp with h | h
    · exact h
    · omega
  have HPL : Hid (Calls Tryz.prog 35 #[.agg #[.slice A n c, .int .i64 last], .string f0.name] w1 fun e w' => e = .returned (.int .i64 i) ∧ Below w1.heap.size w1 w') := place_some O A n c L last w1 (h.below H1.out.1.old) hn hs i f0 hi
  have HR := Lib.hid ((h.keep (w' := w) (fun g _ _ => rfl) hPO).below H1.out.1.old)
  have HPS : Hid (∀ g, P g → g < w1.heap.size) := fun g hg => by
    rcases (hP.out g).1 hg with h | h
    · have := hO g h; have := H1.out.1.old.size; omega
    · exact h.2
  have HN : Hid (n ≤ 64 ∧ L.length = n ∧ i < n ∧ n ≤ c) := ⟨hn, h.len, by rw [← h.len]; exact (List.getElem?_eq_some_iff.1 hi).1, h.cap⟩
  obtain ⟨g, rfl, _⟩ : ∃ g, A = some ⟨g, 0, none⟩ ∧ True := by
    obtain ⟨g, e, _⟩ := h.at_ hi
    exact ⟨g, e, trivial⟩
  obtain ⟨i0, hi0, hz0, hz1, hz2⟩ := info_parts file_info
  clear h hn hs hO hPO hi
  go_enter Tryz.func20, Tryz.ntmps20
  go_wp2_with fail
  rw [← hw1, ← hb2, ← hb1, ← hb0]
  clear hw1 hb2 hb1 hb0
  refine HPL.out.mono ?_
  rintro e w2 ⟨rfl, hb⟩
  have H2 := Lib.hid hb
  clear hb
  have HE : Hid (∀ W, Below w1.heap.size w1 W → Bx3 w W b0 b1 b2 (.slice (some ⟨g, 0, none⟩) n c) (.int .i64 last)) := fun W hW => H1.out.1.below hW
  have H3 := Lib.hid (HE.out w2 H2.out)
  obtain ⟨d0, d1, r0, r1, e0, e1, e2, fr, fe⟩ := H3.out.cells
  have hi0' : ((0 : Int) ≤ (i : Nat)) := by omega
  have hic : ((i : Nat) : Int) ≤ c := by have := HN.out; omega
  have hmx : Hid (0 + i ≤ maxLen) := Nat.le_trans (show 0 + i ≤ 64 by have := HN.out; omega) (by decide)
  have hbx : Hid ((0 + i) * 64 ≤ 140737488355328) := by have := HN.out; simp only [Hid]; omega
  have hnw : Hid (∀ u v, (rfCells (L.take i))[u]? = some v → w2.cell? ((⟨g, 0, none⟩ : Addr).add u) = some v) := (HR.out.below H2.out).firsts i
  have hln : Hid ((rfCells (L.take i)).length = i * 3) := by have := HN.out; rw [Hid, rfCells_len, List.length_take, HN.out.2.1, Nat.min_eq_left (by omega)]
  go_wp2_with (at_builtin; refine wpList_append_own _ rfl _ _ 27 rfl w2.heap.size 66 i0 _ 3 64 Tryz.underlying27 hi0 hz0 hz1 hz2 rfl (by decide) (.slice none 0 0) 0 [] rfl (World.ownsRow_nil _ _ _ _) ⟨g, 0, none⟩ i c (rfCells (L.take i)) (by rfl) hln.out hnw.out (rfCells_one _) hmx.out hbx.out (Nat.le_refl _) ?_; intro v' w4 hown4 hgrow4 hnil4; obtain ⟨A4, c4, rfl⟩ := own_slice hown4; have HO := Lib.hid hown4; have HG := Lib.hid hgrow4; clear hown4 hgrow4 hnil4)
  have HB4 : Hid (Below w2.heap.size w2 w4) := grow_below (v := .slice none 0 0) HG.out (Nat.le_refl _) (fun g e => by cases e)
  have HROW : Hid (∀ W, (W = w4.drew ∨ W = ste b2 w4.drew) → W.ownsRow w2.heap.size 66 3 (.slice A4 i c4) i (rfCells (L.take i))) := fun W hW => by
    have h := HO.out
    have h0 : w4.drew.ownsRow w2.heap.size 66 3 (.slice A4 i c4) i (rfCells (L.take i)) := by simpa using ownsRow_below' h (Below.refl _ _).drew
    rcases hW with rfl | rfl
    · exact h0
    · refine ownsRow_keep h0 fun k hk => ste_block _ _ _ fun e => ?_
      have := (own_block h0 hk).choose_spec.2.1
      have := H1.out.2
      have := H2.out.size
      omega
  have HBX : Hid (∀ W w5, (W = w4.drew ∨ W = ste b2 w4.drew) → W.grownBy w5 (Value.slice A4 i c4).ownBlock → Bx3 w w5 b0 b1 b2 (.slice (some ⟨g, 0, none⟩) n c) (.int .i64 last)) := fun W w5 hW hg => by
    have hr := HROW.out W hW
    have hb : Below w2.heap.size W w5 := (Below.refl _ W).grown hg (by rcases hW with rfl | rfl <;> simp [ste, World.setCell] <;> exact HB4.out.size) (fun k hk => (own_block hr hk).choose_spec.2.1)
    have h0 : Bx3 w W b0 b1 b2 (.slice (some ⟨g, 0, none⟩) n c) (.int .i64 last) := by
      have h1 := (H3.out.below HB4.out).below (Below.refl _ w4).drew
      rcases hW with rfl | rfl
      · exact h1
      · exact h1.ste
    have hn := h0.n1
    have hlt : b2 < w2.heap.size := by have := H1.out.2; have := H2.out.size; omega
    exact ⟨(hb.block _ (by omega)).trans h0.d, (hb.block _ (by omega)).trans h0.r, (hb.block _ (by omega)).trans h0.e, h0.n1, h0.old.trans (hb.mono H3.out.old.size)⟩
  obtain ⟨ad, c', had, had2, hrun⟩ := fcut_run g n c (i + 1) (by have := HN.out; omega) HN.out.2.2.2
  obtain ⟨J, hJ⟩ : ∃ J : Int, Hid (((i + 1 : Nat) : Int) = J) := ⟨_, rfl⟩
  obtain ⟨m, hm⟩ : ∃ m, Hid (n - (i + 1) = m) := ⟨_, rfl⟩
  rw [hJ.out, hm.out] at hrun
  have hnews : Hid (∀ W, (W = w4.drew ∨ W = ste b2 w4.drew) → ∀ u v, (rfCells (L.drop (i + 1)))[u]? = some v → W.cell? (ad.add u) = some v) := fun W hW => by
    rcases had2 with rfl | h0
    · have hR4 := (HR.out.below H2.out).below HB4.out
      refine RefD.lasts (O := P) (c := c) (n := n) ?_ (i + 1)
      rcases hW with rfl | rfl
      · exact hR4.below (Below.refl _ w4).drew
      · refine hR4.keep (fun k _ hk => (ste_block _ _ _ fun e => hk ?_).trans rfl) fun _ _ h => h
        exact (hP.out k).2 (.inr (by have := H1.out.1.n1; have := H1.out.2; omega))
    · intro u v hu
      have e : L.drop (i + 1) = [] := List.eq_nil_of_length_eq_zero (by rw [List.length_drop, HN.out.2.1]; exact h0)
      rw [e] at hu
      simp [rfCells] at hu
  have hnl : Hid ((rfCells (L.drop (i + 1))).length = m * 3) := by rw [Hid, rfCells_len, List.length_drop, HN.out.2.1, hm.out]
  have hw1 : IntKind.i64.wrap ((i : Int) + 1) = J := by have := HN.out; have := hJ.out; rw [IntKind.wrap_i64]; omega
  have hmx1 : Hid (i + m ≤ maxLen) := Nat.le_trans (show i + m ≤ 64 by have := HN.out; have := hm.out; omega) (by decide)
  have hbx1 : Hid ((i + m) * 64 ≤ 140737488355328) := by have := HN.out; have := hm.out; simp only [Hid]; omega
  have HSZ : Hid (∀ W, (W = w4.drew ∨ W = ste b2 w4.drew) → w2.heap.size ≤ W.heap.size) := fun W hW => by rcases hW with rfl | rfl <;> simp [ste, World.setCell] <;> exact HB4.out.size
  have HFIN : Hid (∀ W w5 A5 c5, (W = w4.drew ∨ W = ste b2 w4.drew) → W.grownBy w5 (Value.slice A4 i c4).ownBlock → w5.ownsRow w2.heap.size 66 3 (.slice A5 (i + m) c5) (i + m) (rfCells (L.take i) ++ rfCells (L.drop (i + 1))) → ∀ W6, (∀ k, k ≠ b1 → k ≠ b2 → W6.heap[k]? = w5.heap[k]?) → RefD O W6 A5 (i + m) c5 (L.eraseIdx i)) := fun W w5 A5 c5 hW hg hown W6 h6 => by
    have hbx := HBX.out W w5 hW hg
    have hn := hbx.n1
    have hr := HROW.out W hW
    have hb : Below w2.heap.size W w5 := (Below.refl _ W).grown hg (HSZ.out W hW) (fun k hk => (own_block hr hk).choose_spec.2.1)
    have hsz := H2.out.size
    rw [← rfCells_append, ← List.eraseIdx_eq_take_drop_succ] at hown
    have hR5 : ∀ f ∈ L, RFok P w5 f := fun f hf => ((HR.out.files f hf).below H2.out).keep (fun k hk hkP => (hb.block k hk).trans (by
      rcases hW with rfl | rfl
      · exact HB4.out.block k hk
      · refine (ste_block _ _ _ fun e => hkP ?_).trans (HB4.out.block k hk)
        exact (hP.out k).2 (.inr (by have := H1.out.1.n1; have := H1.out.2; omega)))) fun _ _ h => h
    have hD5 : RefD P w5 A5 (i + m) c5 (L.eraseIdx i) := RefD.row hown (fun g hg hg2 => by have := HPS.out g hg2; omega) fun f hf => hR5 f (List.mem_of_mem_eraseIdx hf)
    have hbP : ∀ k, k = b1 ∨ k = b2 → P k := fun k hk => (hP.out k).2 (.inr (by have := H1.out.1.n1; have := H1.out.2; omega))
    exact hD5.keep (fun k hk hkP => h6 k (fun e => hkP (hbP k (.inl e))) (fun e => hkP (hbP k (.inr e)))) (fun k _ hk => (hP.out k).2 (.inl hk))
  obtain ⟨n01, n02, n12, n10, n20, n21⟩ := H3.out.ne
  obtain ⟨d0, d1, r0, r1, e0, e1, e2, fr, fe⟩ := ((H3.out.below HB4.out).below (Below.refl _ w4).drew).cells
  clear H1 H3 HE HPL HPS HR hP HN had had2 hJ hm HO HG
  go_region_law (refine step_append_own _ (by rfl) _ _ _ (by rfl) w2.heap.size 66 i0 _ 3 64 Tryz.underlying27 hi0 hz0 hz1 hz2 rfl (by decide) (.slice A4 i c4) i (rfCells (L.take i)) (by rfl) (HROW.out _ (by first | exact .inl rfl | exact .inr rfl)) ad m c' (rfCells (L.drop (i + 1))) (by rfl) hnl.out (hnews.out _ (by first | exact .inl rfl | exact .inr rfl)) (rfCells_one _) hmx1.out hbx1.out (HSZ.out _ (by first | exact .inl rfl | exact .inr rfl)) ?_; intro v5 w5 hown5 hgrow5; obtain ⟨A5, c5, rfl⟩ := own_slice hown5; have HB5 := Lib.hid (HBX.out _ _ (by first | exact .inl rfl | exact .inr rfl) hgrow5); have HF5 := Lib.hid (HFIN.out _ _ _ _ (by first | exact .inl rfl | exact .inr rfl) hgrow5 hown5); clear hown5 hgrow5; obtain ⟨d0, d1, r0, r1, e0, e1, e2, fr, fe⟩ := HB5.out.cells)
  all_goals
    go_wp2
    refine bodyPost_ret (v := .tuple #[.agg #[.slice A5 (i + m) c5, .int .i64 last], eV none]) ?_ rfl ?_
    · simp [results, Tryz.results20, go_sem, eV, d0, d1, r0, r1, e0, e1, e2, fr, fe, n01, n02, n12, n10, n20, n21]
    · refine ⟨_, _, _, rfl, HF5.out _ fun k h1 h2 => ?_, ?_⟩
      · repeat rw [Below.heap_setCell _ _ _ _ (by first | exact h1 | exact h2)]
      · have hn := HB5.out.n1
        have ho := HB5.out.old
        repeat (first | exact ho | refine belowS ?_ (by omega) _)
end Go.Proofs.YtfhdcjfkngflbaaGreatDoor
