/-
  The box: Offer, where it takes the event. Own work.
-/
import Derived.Test.YthapeellcbeecaaDoorBoxOffer
import Derived.Lib.Hide
import Derived.Deep.RegionLaw
set_option linter.unusedSimpArgs false
set_option linter.unusedVariables false
namespace Go.Proofs.YthapeellcbeecaaDoor
open Go Go.RowKit

/-- The cells of an event, as a list. -/
def attrCells (l : List AttrD) : List Value := l.flatMap fun a => [.string a.name, .int .i64 a.k, .int .i64 a.i, .string a.s, .bool a.b]
theorem attrCells_length (l : List AttrD) : (attrCells l).length = l.length * 5 := by
  induction l with
  | nil => rfl
  | cons x l ih => simp only [attrCells, List.flatMap_cons, List.length_append, List.length_cons] at ih ⊢; rw [ih]; simp; omega
theorem attrCells_one (l : List AttrD) : ∀ u ∈ attrCells l, u.oneCell' = true := by
  intro u hu
  obtain ⟨a, _, h⟩ := List.mem_flatMap.1 hu
  simp at h
  rcases h with rfl | rfl | rfl | rfl | rfl <;> rfl
theorem attrCells_at (l : List AttrD) (j : Nat) (u : Value) (h : (attrCells l)[j]? = some u) : ∃ k i a, j = k * 5 + i ∧ i < 5 ∧ l[k]? = some a ∧ [Value.string a.name, .int .i64 a.k, .int .i64 a.i, .string a.s, .bool a.b][i]? = some u := by
  induction l generalizing j with
  | nil => simp [attrCells] at h
  | cons x l ih =>
    simp only [attrCells, List.flatMap_cons] at h
    by_cases hj : j < 5
    · rw [List.getElem?_append_left (by simpa using hj)] at h
      exact ⟨0, j, x, by omega, hj, rfl, h⟩
    · rw [List.getElem?_append_right (by simp; omega)] at h
      obtain ⟨k, i, a, h1, h2, h3, h4⟩ := ih (j - 5) (by simpa [attrCells] using h)
      exact ⟨k + 1, i, a, by omega, h2, by simpa using h3, h4⟩
theorem attrs_cells {w : World} {A : Option Addr} {l : List AttrD} (h : Attrs w A l) : ∀ ad, A = some ad → ∀ j u, (attrCells l)[j]? = some u → w.cell? (ad.add j) = some u := by
  intro ad hA j u hu
  obtain ⟨k, i, a, hj, hi, ha, hu⟩ := attrCells_at l j u hu
  obtain ⟨g, off, hA', hc⟩ := h (by have := (List.getElem?_eq_some_iff.1 ha).1; omega)
  rw [hA] at hA'
  cases hA'
  obtain ⟨c0, c1, c2, c3, c4⟩ := hc k a ha
  have hadd : (⟨g, off, none⟩ : Addr).add j = ⟨g, off + j, none⟩ := Addr.add_lit _ _ _
  rw [hadd, hj]
  match i, hi, hu with
  | 0, _, hu => simp at hu; subst hu; simpa [Nat.add_assoc] using c0
  | 1, _, hu => simp at hu; subst hu; simpa [Nat.add_assoc] using c1
  | 2, _, hu => simp at hu; subst hu; simpa [Nat.add_assoc] using c2
  | 3, _, hu => simp at hu; subst hu; simpa [Nat.add_assoc] using c3
  | 4, _, hu => simp at hu; subst hu; simpa [Nat.add_assoc] using c4

theorem Attrs.below {w w' : World} {A : Option Addr} {l : List AttrD} (h : Attrs w A l) (hb : Below w.heap.size w w') : Attrs w' A l := by
  intro hn
  obtain ⟨g, off, hA, hc⟩ := h hn
  refine ⟨g, off, hA, fun j a ha => ?_⟩
  obtain ⟨c0, c1, c2, c3, c4⟩ := hc j a ha
  have hg : g < w.heap.size := World.block_lt_of_cell? w _ c0
  exact ⟨(hb.cell (p := ⟨g, off + j * 5, none⟩) hg).trans c0, (hb.cell (p := ⟨g, off + j * 5 + 1, none⟩) hg).trans c1, (hb.cell (p := ⟨g, off + j * 5 + 2, none⟩) hg).trans c2, (hb.cell (p := ⟨g, off + j * 5 + 3, none⟩) hg).trans c3, (hb.cell (p := ⟨g, off + j * 5 + 4, none⟩) hg).trans c4⟩

/-- Behind a store into the map: all but the map is as it was. -/
theorem BoxIn.stored {base : Nat} {w w' : World} {B M c c' : Nat} {wv : Value} {s : BoxSt} {L' : List (MEnt (Int × Int))} (h : BoxIn base w B M wv c s) (hm : MapAt pairV w' M L' c') (hg : w.grownBy w' (some M))
    (hi : ∀ k v, lkV k L' = some v → ∃ m, v = .int .i64 m) : BoxIn base w' B M wv c' { s with L := L' } := by
  have ne : ∀ g cur t, w.heap[g]? = some (Obj.cells cur t (0, 0)) → g ≠ M := by
    rintro g cur t hgg rfl
    have := h.map
    unfold MapAt at this
    rw [hgg] at this
    cases this
  have hk : ∀ g cur t, w.heap[g]? = some (Obj.cells cur t (0, 0)) → w'.heap[g]? = w.heap[g]? := fun g cur t hgg => hg.block g (Array.getElem?_eq_some_iff.1 hgg).1 (fun e => ne g cur t hgg (by cases e; rfl))
  exact ⟨h.hB, h.hM, (hk B _ _ h.blk).trans h.blk, hm, ownsRow_frame h.row (fun g cur hgg => hk g cur _ hgg), fun x hx => (h.evs x hx).frame (fun g cur hgg => hk g cur _ hgg), hi⟩

theorem ints_put {L : List (MEnt (Int × Int))} (h : ∀ k v, lkV k L = some v → ∃ m, v = .int .i64 m) (k0 : Int × Int) (i : Int) (c : Nat) : ∀ k v, lkV k (putE k0 (.int .i64 i) c L) = some v → ∃ m, v = .int .i64 m := by
  intro k v hk
  rw [lkV_put] at hk
  split at hk
  · cases hk; exact ⟨i, rfl⟩
  · exact h k v hk

theorem entry_info : (Tryd.prog.info? 37).map (fun i => (i.zero, i.size, i.bytes)) = some (some (.agg #[.int .i64 0, .int .i64 0, .int .i64 0, .int .i64 0, .slice none 0 0]), 5, 56) := by kernel_rfl

theorem own_shape {w : World} {base : Nat} {e : TypeId} {size n : Nat} {v : Value} {xs : List Value} (h : w.ownsRow base e size v n xs) : ∃ A c, v = .slice A n c := by
  rcases h.2 with ⟨rfl, hn⟩ | ⟨g, cap, cur, rfl, _⟩
  · exact ⟨none, 0, by rw [hn]⟩
  · exact ⟨_, _, rfl⟩
theorem block_add (a : Addr) (n : Nat) : (a.add n).block = a.block := by unfold Addr.add; split <;> rfl
theorem cell_map {w : World} {M c : Nat} {L : List (MEnt (Int × Int))} (h : MapAt pairV w M L c) (a : Addr) (hb : a.block = M) : w.cell? a = none := by
  unfold MapAt at h
  simp [World.cell?, hb, h]
theorem BoxIn.row_ne {base : Nat} {w : World} {B M c : Nat} {wv : Value} {s : BoxSt} (h : BoxIn base w B M wv c s) : wv.ownBlock ≠ some B := by
  rcases h.row.2 with ⟨rfl, _⟩ | ⟨g, cap, cur, rfl, _, hh, _⟩
  · simp [Value.ownBlock]
  · intro e
    have : g = B := by simpa [Value.ownBlock] using e
    subst this
    have := h.blk
    rw [hh] at this
    injection this with this
    injection this with _ ht
    exact absurd ht (by decide)
theorem BoxIn.row_ne_map {base : Nat} {w : World} {B M c : Nat} {wv : Value} {s : BoxSt} (h : BoxIn base w B M wv c s) : wv.ownBlock ≠ some M := by
  rcases h.row.2 with ⟨rfl, _⟩ | ⟨g, cap, cur, rfl, _, hh, _⟩
  · simp [Value.ownBlock]
  · intro e
    have : g = M := by simpa [Value.ownBlock] using e
    subst this
    have := h.map
    unfold MapAt at this
    rw [hh] at this
    cases this

theorem ownsRow_base {w : World} {b b' : Nat} {e : TypeId} {size n : Nat} {v : Value} {xs : List Value} (h : w.ownsRow b e size v n xs) (hb : b' ≤ b) : w.ownsRow b' e size v n xs := by
  refine ⟨h.1, ?_⟩
  rcases h.2 with h2 | ⟨g, cap, cur, hv, hg, r⟩
  · exact .inl h2
  · exact .inr ⟨g, cap, cur, hv, Nat.le_trans hb hg, r⟩

/-- Behind Offer's append and store: the box with one event more. -/
theorem offer_fin {base : Nat} {w2 w3 w4 : World} {B M c2 k cc c9 gg cap ln : Nat} {A0 A9 : Option Addr} {s : BoxSt} {x : BEnt} {xs : List Value} (hin : BoxIn base w2 B M (.slice A0 s.ents.length cc) c2 s) (hbase : base ≤ w2.heap.size)
    (hbel : Below (w2.drewN k).heap.size (w2.drewN k) w3) (hown3 : w3.ownsRow (w2.drewN k).heap.size 59 5 (.slice A9 ln c9) ln xs) (hln : ln ≤ 16) (hone : ∀ u ∈ xs, u.oneCell' = true) (hxe : x.ev = .slice A9 ln c9)
    (hgrow : (w3.alloc (.cells x.cells.toArray 37)).grownBy w4 (Value.slice A0 s.ents.length cc).ownBlock)
    (hown4 : w4.ownsRow base 37 5 (.slice (some ⟨gg, 0, none⟩) (s.ents.length + 1) cap) (s.ents.length + 1) (entCells s.ents ++ x.cells)) :
    BoxAt base (w4.setCell ⟨B, 2, none⟩ (.slice (some ⟨gg, 0, none⟩) (s.ents.length + 1) cap)) B { s with ents := s.ents ++ [x] } ∧
      Below base w2 (w4.setCell ⟨B, 2, none⟩ (.slice (some ⟨gg, 0, none⟩) (s.ents.length + 1) cap)) := by
  have hW : Below w2.heap.size w2 (w2.drewN k) := drewN_below w2 k
  have hb3 : Below w2.heap.size w2 w3 := below_step hW hbel
  have h3 := hin.below hb3
  have h3a : BoxIn base (w3.alloc (.cells x.cells.toArray 37)) B M (.slice A0 s.ents.length cc) c2 s := h3.below ((Below.refl _ _).alloc (Nat.le_refl _) _)
  -- what is no row of entries is kept by the append
  have hk : ∀ (g : Nat) (o : Obj), (w3.alloc (.cells x.cells.toArray 37)).heap[g]? = some o → (∀ cur fr, o ≠ .cells cur 37 fr) → w4.heap[g]? = some o := by
    intro g o hg ho
    refine (hgrow.block g (Array.getElem?_eq_some_iff.1 hg).1 (fun e => ?_)).trans hg
    rcases h3a.row.2 with ⟨hv, _⟩ | ⟨g', cap', cur, hv, _, hh, _⟩
    · rw [hv] at e; simp [Value.ownBlock] at e
    · rw [hv] at e
      have : g = g' := by simpa [Value.ownBlock] using e
      subst this
      rw [hg] at hh
      exact ho _ _ (by injection hh)
  have hB4 := hk B _ h3a.blk (fun cur fr h => by injection h with _ h _; exact absurd h (by decide))
  have hM4 : MapAt pairV w4 M s.L c2 := hk M _ h3a.map (fun cur fr h => by cases h)
  have hMB : M ≠ B := by rintro rfl; unfold MapAt at hM4; rw [hB4] at hM4; cases hM4
  -- the store
  have hset : ∀ (g : Nat) (o : Obj), w4.heap[g]? = some o → (∀ cur fr, o ≠ .cells cur 50 fr) → (w4.setCell ⟨B, 2, none⟩ (.slice (some ⟨gg, 0, none⟩) (s.ents.length + 1) cap)).heap[g]? = some o := by
    intro g o hg ho
    refine (Below.heap_setCell w4 ⟨B, 2, none⟩ _ g (fun e => ?_)).trans hg
    have e' : g = B := e
    subst e'
    rw [hg] at hB4
    exact ho _ _ (by injection hB4)
  have hattr : ∀ {v : Value}, EvOK base w3 v → EvOK base (w4.setCell ⟨B, 2, none⟩ (.slice (some ⟨gg, 0, none⟩) (s.ents.length + 1) cap)) v := by
    intro v hv
    refine (hv.below ((Below.refl _ _).alloc (Nat.le_refl _) (.cells x.cells.toArray 37))).frame fun g cur hg => ?_
    have h4 := hk g _ hg (fun cur fr h => by injection h with _ h _; exact absurd h (by decide))
    exact (hset g _ h4 (fun cur fr h => by injection h with _ h _; exact absurd h (by decide))).trans hg.symm
  refine ⟨⟨M, .slice (some ⟨gg, 0, none⟩) (s.ents.length + 1) cap, c2, hin.hB, hin.hM, ?_, hset M _ hM4 (fun cur fr h => by cases h), ?_, ?_, hin.ints⟩, ?_⟩
  · simp [World.setCell, Array.getElem?_modify, hB4]
  · simp only [List.length_append, List.length_cons, List.length_nil, entCells_append]
    have e : entCells [x] = x.cells := by simp [entCells]
    rw [e]
    exact ownsRow_frame hown4 fun g cur hg => (hset g _ hg (fun cur fr h => by injection h with _ h _; exact absurd h (by decide))).trans hg.symm
  · intro y hy
    rcases List.mem_append.1 hy with hy | hy
    · exact hattr (h3.evs y hy)
    · obtain rfl : y = x := by simpa using hy
      exact hattr ⟨ln, xs, hln, by rw [hxe]; exact ownsRow_base hown3 hbase, hone⟩
  · refine (((hb3.mono hbase).alloc (Nat.le_trans hbase hb3.size) _).grown hgrow (by have := hb3.size; simp; omega) (fun g hg => ?_)).setCell hin.hB _
    exact (hin.row.lt g hg).1

set_option maxHeartbeats 4000000 in
theorem offer_ok (base B : Nat) (s : BoxSt) (w : World) (hbx : BoxAt base w B s) (hbase : base ≤ w.heap.size) (A : Option Addr) (c : Nat) (l : List AttrD) (hl : l.length ≤ 9223372036854775807) (hA : Attrs w A l) (hA0 : A = none → l.length = 0)
    (node pub idx : Int) (g1 : ¬ node < 0) (g2 : ¬ 8 ≤ node) (g3 : ¬ pub < 0) (g4 : ¬ 16 ≤ pub) (g5 : ¬ idx < 0)
    (hlk : (∃ m, lkV (node, pub) s.L = some (.int .i64 m) ∧ m < idx) ∨ lkV (node, pub) s.L = none) (hf : ¬ s.most ≤ s.ents.length) (hf0 : 0 ≤ s.first) (hf1 : s.first ≤ 1000000) (hn1 : s.ents.length ≤ 1000000) :
    Calls Tryd.prog 6 #[.pointer (some ⟨B, 0, none⟩), .int .i64 node, .int .i64 pub, .int .i64 idx, .slice A l.length c] w (OfferPost base w B s l.length node pub idx) := by
  have hgood : Hid (Good s node pub idx) := by
    refine ⟨by omega, by omega, by omega, by omega, by omega, fun m hm => ?_, by omega⟩
    rcases hlk with ⟨m', h, h2⟩ | h
    · rw [h] at hm; cases hm; exact h2
    · rw [h] at hm; cases hm
  have hlk' : Hid ((∃ m, lkV (node, pub) s.L = some (.int .i64 m) ∧ m < idx) ∨ lkV (node, pub) s.L = none) := hlk
  have hc := echeck_any A c l w hl hA
  obtain ⟨M, wv, c0, hin⟩ := hbx
  have hko := from_keys
  have hf' : decide (s.most ≤ ((s.ents.length : Nat) : Int)) = false := by simpa using hf
  clear hlk hf
  go_enter Tryd.func6, Tryd.ntmps6
  go_wp2_with fail
  refine hc.mono ?_
  rintro e w1 ⟨r, rfl, hr, hr1, hr2, hb1⟩
  have hA1 : Hid (Attrs w1 A l) := hA.below hb1
  clear hl hA
  have hin1 := hin.below hb1
  have hB1 : Below base w w1 := hb1.mono hbase
  have hend : Hid (Below base w w1 ∧ BoxIn base w1 B M wv c0 s) := ⟨hB1, hin1⟩
  have k3 : w1.cell? ⟨B, 3, none⟩ = some (.map (some M)) := by rw [hin1.cell 3]; rfl
  have k0 : w1.cell? ⟨B, 0, none⟩ = some (.int .i64 s.most) := by rw [hin1.cell 0]; rfl
  obtain ⟨A0, cc, rfl⟩ := hin1.slice
  have k2 : w1.cell? ⟨B, 2, none⟩ = some (.slice A0 s.ents.length cc) := by rw [hin1.cell 2]; rfl
  have hmap := hin1.map
  have hr2' : Hid (r = .nilIface → l.length ≤ 16) := hr2
  have hr1' : Hid (l.length = 0 → r = .nilIface) := hr1
  clear hin hc hB1 hb1 hr1 hr2 hin1
  have hfull := full_any B s.ents.length cc A0 s.most w1 k0 k2
  rw [hf'] at hfull
  have HF : Hid (Calls Tryd.prog 8 #[.pointer (some ⟨B, 0, none⟩)] w1 fun e w' => e = .returned (.bool false) ∧ ∃ k, w' = w1.drewN k) := hfull
  clear hfull hf'
  rcases hr with rfl | ⟨t, v, rfl⟩
  · obtain ⟨v0, b0, e1, e2, e3⟩ : ∃ v0 b0, Hid ((lkV (node, pub) s.L).getD (.int .i64 0) = .int .i64 v0) ∧ Hid ((lkV (node, pub) s.L).isSome = b0) ∧ ((b0 = true ∧ ¬ idx ≤ v0) ∨ b0 = false) := by
      rcases hlk'.out with ⟨m, hlk, hm⟩ | hlk
      · exact ⟨m, true, by simp [Hid, hlk], by simp [Hid, hlk], .inl ⟨rfl, by omega⟩⟩
      · exact ⟨0, false, by simp [Hid, hlk], by simp [Hid, hlk], .inr rfl⟩
    rcases e3 with ⟨rfl, g6⟩ | rfl
    all_goals
      go_wp2_with (first | (at_lookup; refine wpList_look_ok_at _ rfl _ _ 47 rfl 3 hko Tryd.underlying47 (.int .i64 0) from_zero rfl hmap (node, pub) rfl ?_; rw [e1.out, e2.out]) | (go_at_call 8; refine HF.out.mono ?_; rintro e w' ⟨rfl, k, rfl⟩) | (at_mapUpdate; refine wpList_store_at _ rfl _ _ _ 47 rfl 3 hko Tryd.underlying47 rfl (hmap.drewN _) (node, pub) rfl (.int .i64 idx) rfl ?_; intro w2 c2 hm2 hg2))
      have hin2 := (hend.out.2.below (drewN_below w1 k)).stored hm2 hg2 (ints_put hend.out.2.ints (node, pub) idx c0)
      have HIN2 := Lib.hid hin2
      have m1 : w2.cell? ⟨B, 1, none⟩ = some (.int .i64 s.first) := by rw [hin2.cell 1]; rfl
      have m2 : w2.cell? ⟨B, 2, none⟩ = some (.slice A0 s.ents.length cc) := by rw [hin2.cell 2]; rfl
      have mf : w2.frozen? ⟨B, 2, none⟩ = false := hin2.free 2
      have hA2 : Hid (∀ ad, A = some ad → ∀ j u, (attrCells l)[j]? = some u → w2.cell? (ad.add j) = some u) := by
        intro ad hAd j u hu
        have hcell := attrs_cells hA1.out ad hAd j u hu
        have hlt := World.block_lt_of_cell? w1 _ hcell
        have hneM : some (ad.add j).block ≠ some M := fun e => by rw [cell_map hend.out.2.map _ (by cases e; rfl)] at hcell; cases hcell
        exact (World.cell?_of_block (w := w1) (hg2.block _ hlt hneM)).trans hcell
      have hBlt := hin2.lt
      have HL : Hid (l.length ≤ 16) := hr2'.out trivial
      have HLb : Hid (l.length * 56 ≤ 140737488355328) := Nat.le_trans (Nat.mul_le_mul_right 56 HL.out) (by decide)
      have hne : Hid ((Value.slice A0 s.ents.length cc).ownBlock ≠ some B) := hin2.row_ne
      have hrow2 : Hid (w2.ownsRow base 37 5 (.slice A0 s.ents.length cc) s.ents.length (entCells s.ents)) := hin2.row
      have HCL : Hid (∀ W : World, W.heap = w2.heap → Calls Tryd.prog 15 #[.slice A l.length c] W fun e w3 => ∃ A9 c9, e = .returned (.slice A9 l.length c9) ∧
          Hid (w3.ownsRow W.heap.size 59 5 (.slice A9 l.length c9) l.length (attrCells l)) ∧ Hid (Below W.heap.size W w3) ∧ Hid (w3.ownsRow base 37 5 (.slice A0 s.ents.length cc) s.ents.length (entCells s.ents)) ∧
          w3.cell? ⟨B, 2, none⟩ = some (.slice A0 s.ents.length cc) ∧ w3.cell? ⟨B, 1, none⟩ = some (.int .i64 s.first) ∧ Hid (w3.frozen? ⟨B, 2, none⟩ = false) ∧ Hid (B < w3.heap.size) ∧ (∀ o, (w3.alloc o).cell? ⟨B, 2, none⟩ = some (.slice A0 s.ents.length cc))) := by
        intro W hW
        have hcW : ∀ a, W.cell? a = w2.cell? a := fun a => by simp only [World.cell?, hW]
        have hfW : ∀ a, W.frozen? a = w2.frozen? a := fun a => by simp only [World.frozen?, hW]
        refine (cloneEv_any A l.length c (attrCells l) W (attrCells_length l) (Nat.le_trans HL.out (by decide)) HLb.out hA0 (fun ad hAd j u hu => by rw [hcW]; exact hA2.out ad hAd j u hu) (attrCells_one l)).mono ?_
        rintro e w3 ⟨v, rfl, hown3, hbel3, hnil3⟩
        obtain ⟨A9, c9, rfl⟩ := own_shape hown3
        have hBW : B < W.heap.size := by rw [hW]; exact hBlt
        have hB3 := Nat.lt_of_lt_of_le hBW hbel3.size
        refine ⟨A9, c9, rfl, hown3, hbel3, ?_, ?_, ?_, ?_, hB3, fun o => (World.cell?_alloc_lt _ _ ⟨B, 2, none⟩ hB3).trans ((hbel3.cell (p := ⟨B, 2, none⟩) hBW).trans ((hcW _).trans m2))⟩
        · exact ownsRow_frame hrow2.out (fun g cur hg => (hbel3.block g (by rw [hW]; exact (Array.getElem?_eq_some_iff.1 hg).1)).trans (by rw [hW]))
        · exact (hbel3.cell (p := ⟨B, 2, none⟩) hBW).trans ((hcW _).trans m2)
        · exact (hbel3.cell (p := ⟨B, 1, none⟩) hBW).trans ((hcW _).trans m1)
        · exact (hbel3.frozen (p := ⟨B, 2, none⟩) hBW).trans ((hfW _).trans mf)
      have hbase2 : base ≤ w1.heap.size := Nat.le_trans hbase hend.out.1.size
      clear hin2 hmap k0 k2 k3 HF hm2
      obtain ⟨i0, hi0, hz0, hz1, hz2⟩ := info_parts entry_info
      have hmx : Hid (s.ents.length + 1 ≤ maxLen) := Nat.le_trans (Nat.add_le_add_right hn1 1) (by decide)
      have hbx : Hid ((s.ents.length + 1) * 56 ≤ 140737488355328) := Nat.le_trans (Nat.mul_le_mul_right 56 (Nat.add_le_add_right hn1 1)) (by decide)
      have hbs : Hid (∀ (W w3 : World) o, Below W.heap.size W w3 → base ≤ W.heap.size → base ≤ (w3.alloc o).heap.size) := fun W w3 o h h2 => by have := h.size; simp; omega
      have hbw2 : Hid (base ≤ w2.heap.size) := Nat.le_trans hbase2 hg2.size
      go_region_law
        (first
          | (refine step_append_lies _ (by rfl) _ _ _ (by rfl) base 37 i0 _ 5 56 Tryd.underlying48 hi0 hz0 hz1 hz2 rfl (by omega) (.slice A0 s.ents.length cc) s.ents.length (entCells s.ents) (by rfl) (row3.out.alloc _) ⟨w3.heap.size, 0, none⟩ 1 1 (BEnt.cells ⟨s.first + s.ents.length, node, pub, idx, .slice A9 l.length c9⟩) (by rfl) (by rfl) (World.news_of_block (cs := (BEnt.cells ⟨s.first + s.ents.length, node, pub, idx, .slice A9 l.length c9⟩).toArray) (t := 37) (fr := (0, 0)) (heap_alloc_new w3 _)) (by simp [Value.oneCell', BEnt.cells]) (by omega) hmx.out hbx.out (hbs.out _ _ _ hbel3.out hbw2.out) (w3.heap.size + 1) (by simp) ?_; intro gg cap w4 hown4 hgrow4 hat4 hlt4; have r2 : w4.cell? ⟨B, 2, none⟩ = some (.slice A0 s.ents.length cc) := hgrow4.cell ((World.cell?_alloc_lt _ _ ⟨B, 2, none⟩ qB.out).trans q2) (fun e => hne.out e.symm); have r1 : w4.cell? ⟨B, 1, none⟩ = some (.int .i64 s.first) := hgrow4.cell ((World.cell?_alloc_lt _ _ ⟨B, 1, none⟩ qB.out).trans q1) (fun e => hne.out e.symm); have rf : w4.frozen? ⟨B, 2, none⟩ = false := (World.frozen?_of_block (hgrow4.block B (by simp; have := qB.out; omega) (fun e => hne.out e.symm))).trans ((World.frozen?_alloc_old _ _ ⟨B, 2, none⟩ (Nat.ne_of_lt qB.out)).trans qf.out))
          | (go_simp; go_at_call 7; refine (next_any B s.ents.length cc A0 s.first _ ?_ ?_ hf0 hf1 hn1).mono ?_; (simp [*]); (simp [*]); rintro e w' ⟨rfl, k', rfl⟩)
          | (go_simp; go_at_call 15; refine (HCL.out _ ?_).mono ?_; (exact rfl); rintro e w3 ⟨A9, c9, rfl, hown3, hbel3, row3, q2, q1, qf, qB, qo⟩))
      all_goals
        have hfin := offer_fin (s := { s with L := putE (node, pub) (.int .i64 idx) c0 s.L }) (x := ⟨s.first + s.ents.length, node, pub, idx, .slice A9 l.length c9⟩) HIN2.out hbw2.out hbel3.out hown3.out HL.out (attrCells_one l) rfl hgrow4 hown4
        have HFIN := Lib.hid hfin
        have HB2 : Hid (Below base w1 w2) := ((drewN_below w1 k).mono hbase2).grown hg2 hbase2 (fun g hg => by cases hg; exact HIN2.out.hM)
        clear hfin hown4 hgrow4 hat4 hlt4 hown3 hbel3 row3 q2 q1 qf qB qo r1 r2 rf
        go_wp2
        go_ret
        exact ⟨hend.out.1.trans (HB2.out.trans HFIN.out.2), _, HFIN.out.1, .inr ⟨rfl, hgood.out, _, _, rfl⟩⟩
  · go_wp2
    go_ret
    exact offerPost_err hend.out.1 ⟨M, _, c0, hend.out.2⟩ (fun h => by have := hr1'.out h; cases this)

end Go.Proofs.YthapeellcbeecaaDoor
