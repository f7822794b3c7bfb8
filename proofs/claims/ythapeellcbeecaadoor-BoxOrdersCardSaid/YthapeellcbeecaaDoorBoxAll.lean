/-
  The box's contracts, each over its state; awake. Own work.
-/
import Derived.Test.YthapeellcbeecaaDoorBoxAck
import Derived.Test.YthapeellcbeecaaDoorErrOf
set_option linter.unusedSimpArgs false
set_option linter.unusedVariables false
namespace Go.Proofs.YthapeellcbeecaaDoor
open Go Go.RowKit

/-- The state's numbers are small. -/
def Small (s : BoxSt) : Prop := 0 ≤ s.first ∧ s.first ≤ 1000000 ∧ s.ents.length ≤ 1000000

section
variable {base B : Nat} {s : BoxSt} {w : World}

theorem next_box (h : BoxAt base w B s) (hs : Small s) : Calls Tryd.prog 7 #[.pointer (some ⟨B, 0, none⟩)] w fun e w' => e = .returned (.int .i64 (s.first + s.ents.length)) ∧ ∃ k, w' = w.drewN k := by
  obtain ⟨M, wv, c, h⟩ := h
  obtain ⟨A, cc, rfl⟩ := h.slice
  exact next_any B _ cc A s.first w (by rw [h.cell 1]; rfl) (by rw [h.cell 2]; rfl) hs.1 hs.2.1 hs.2.2
theorem first_box (h : BoxAt base w B s) : Calls Tryd.prog 9 #[.pointer (some ⟨B, 0, none⟩)] w fun e w' => e = .returned (.int .i64 s.first) ∧ w = w' := by
  obtain ⟨M, wv, c, h⟩ := h
  exact first_any B s.first w (by rw [h.cell 1]; rfl)
theorem full_box (h : BoxAt base w B s) : Calls Tryd.prog 8 #[.pointer (some ⟨B, 0, none⟩)] w fun e w' => e = .returned (.bool (decide (s.most ≤ s.ents.length))) ∧ ∃ k, w' = w.drewN k := by
  obtain ⟨M, wv, c, h⟩ := h
  obtain ⟨A, cc, rfl⟩ := h.slice
  exact full_any B _ cc A s.most w (by rw [h.cell 0]; rfl) (by rw [h.cell 2]; rfl)
theorem ack_box (h : BoxAt base w B s) (hbase : base ≤ w.heap.size) (hs : Small s) (k : Int) (hk1 : s.first ≤ k) (hk2 : k ≤ s.first + s.ents.length) :
    Calls Tryd.prog 10 #[.pointer (some ⟨B, 0, none⟩), .int .i64 k] w (AckPost base w B s k) := by
  obtain ⟨M, wv, c, h⟩ := h
  rcases h.row.2 with ⟨hv, hn⟩ | ⟨g, cap, cur, hv, _, _, h1, h2, _⟩
  · subst hv
    exact ack_none base B M c s w h hbase k (by omega) hn hs.1 hs.2.1
  · subst hv
    exact ack_some base B g cap M c s w h hbase k (k - s.first).toNat (by omega) (by omega) h1 h2 hs.1 hs.2.1 hs.2.2
theorem offer_box (h : BoxAt base w B s) (hbase : base ≤ w.heap.size) (hs : Small s) (A : Option Addr) (c : Nat) (l : List AttrD) (hl : l.length ≤ 9223372036854775807) (hA : Attrs w A l) (hA0 : A = none → l.length = 0) (node pub idx : Int) :
    Calls Tryd.prog 6 #[.pointer (some ⟨B, 0, none⟩), .int .i64 node, .int .i64 pub, .int .i64 idx, .slice A l.length c] w (OfferPost base w B s l.length node pub idx) := by
  by_cases hbad : node < 0 ∨ 8 ≤ node ∨ pub < 0 ∨ 16 ≤ pub ∨ idx < 0
  · exact offer_bad base B s w h hbase A c l hl hA node pub idx hbad
  · have hi : ∀ k v, lkV k s.L = some v → ∃ m, v = .int .i64 m := by obtain ⟨M, wv, c, h⟩ := h; exact h.ints
    have g1 : ¬ node < 0 := by omega
    have g2 : ¬ 8 ≤ node := by omega
    have g3 : ¬ pub < 0 := by omega
    have g4 : ¬ 16 ≤ pub := by omega
    have g5 : ¬ idx < 0 := by omega
    rcases lk_cases hi (node, pub) idx with ⟨m, h1, h2⟩ | hlk
    · exact offer_order base B s w h hbase A c l hl hA node pub idx m g1 g2 g3 g4 g5 h1 h2
    · by_cases hf : s.most ≤ s.ents.length
      · exact offer_full base B s w h hbase A c l hl hA node pub idx g1 g2 g3 g4 g5 hlk hf
      · exact offer_ok base B s w h hbase A c l hl hA hA0 node pub idx g1 g2 g3 g4 g5 hlk hf hs.1 hs.2.1 hs.2.2
end

/-- A box of New's. -/
theorem new_box (w : World) (m : Int) (base : Nat) (hb : base ≤ w.heap.size) : BoxAt base ((w.alloc (.map #[] 0)).alloc (.cells #[.int .i64 m, .int .i64 0, .slice none 0 0, .map (some w.heap.size)] 50)) (w.heap.size + 1) ⟨m, 0, [], []⟩ := by
  refine ⟨w.heap.size, .slice none 0 0, 0, Nat.le_succ_of_le hb, hb, ?_, ?_, World.ownsRow_nil _ _ _ _, fun x hx => (by cases hx), fun k v h => (by cases h)⟩
  · have := heap_alloc_new (w.alloc (.map #[] 0)) (.cells #[.int .i64 m, .int .i64 0, .slice none 0 0, .map (some w.heap.size)] 50)
    simpa using this
  · exact (MapAt.new w).alloc _

theorem attrs_nil (w : World) : Attrs w none [] := fun h => by simp at h

set_option maxRecDepth 100000 in
set_option maxHeartbeats 2000000 in
theorem awake_any (w : World) : Calls Tryd.prog 4 #[] w fun e w' => e = .returned (.bool true) ∧ Below w.heap.size w w' := by
  go_enter Tryd.func4, Tryd.ntmps4
  go_wp2_with (go_at_call 5; refine (new_yes 2 _ (by omega) (by omega)).mono ?_; rintro e w' ⟨rfl, rfl⟩)
  have hbx0 := new_box w 2 w.heap.size (Nat.le_refl _)
  have hB0 : Hid (Below w.heap.size w ((w.alloc (.map #[] 0)).alloc (.cells #[.int .i64 2, .int .i64 0, .slice none 0 0, .map (some w.heap.size)] 50))) := ((Below.refl _ _).alloc (Nat.le_refl _) _).alloc (by simp) _
  refine (offer_box hbx0 hB0.out.size (by refine ⟨?_, ?_, ?_⟩ <;> simp) none 0 [] (by simp) (attrs_nil _) (fun _ => rfl) 0 1 4).mono ?_
  clear hbx0
  rintro e w1 ⟨hb1, s1, hbx1, ⟨t, v, rfl, rfl, hn⟩ | ⟨rfl, hgood, ev, cc, rfl⟩⟩
  · exact absurd ⟨by omega, by omega, by omega, by omega, by omega, fun m hm => (by cases hm), by simp⟩ (hn rfl)
  have hB1 : Hid (Below w.heap.size w w1) := hB0.out.trans hb1
  clear hB0 hb1 hgood
  go_wp2_with fail
  refine (offer_box hbx1 hB1.out.size (by refine ⟨?_, ?_, ?_⟩ <;> simp) none 0 [] (by simp) (attrs_nil _) (fun _ => rfl) 0 1 4).mono ?_
  clear hbx1
  rintro e w2 ⟨hb2, s2, hbx2, ⟨t, v, rfl, rfl, hn⟩ | ⟨rfl, hgood, _⟩⟩
  rotate_left
  · obtain ⟨_, _, _, _, _, h, _⟩ := hgood
    have := h 4 (by rw [lkV_put, if_pos rfl])
    omega
  have hB2 : Hid (Below w.heap.size w w2) := hB1.out.trans hb2
  clear hB1 hb2 hn
  go_wp2_with fail
  refine (offer_box hbx2 hB2.out.size (by refine ⟨?_, ?_, ?_⟩ <;> simp) none 0 [] (by simp) (attrs_nil _) (fun _ => rfl) 0 1 9).mono ?_
  clear hbx2
  rintro e w3 ⟨hb3, s3, hbx3, ⟨t', v', rfl, rfl, hn⟩ | ⟨rfl, hgood, ev2, cc2, rfl⟩⟩
  · exact absurd ⟨by omega, by omega, by omega, by omega, by omega, fun m hm => (by rw [lkV_put, if_pos rfl] at hm; cases hm; omega), by simp⟩ (hn rfl)
  have hB3 : Hid (Below w.heap.size w w3) := hB2.out.trans hb3
  clear hB2 hb3 hgood
  go_wp2_with fail
  obtain ⟨L3, hbx⟩ : ∃ L, BoxAt w.heap.size w3 (w.heap.size + 1) ⟨2, 0, [⟨0, 0, 1, 4, ev⟩, ⟨1, 0, 1, 9, ev2⟩], L⟩ := ⟨_, by simpa using hbx3⟩
  clear hbx3
  have hfull : Calls Tryd.prog 8 #[.pointer (some ⟨w.heap.size + 1, 0, none⟩)] w3 fun e w' => e = .returned (.bool true) ∧ ∃ k, w' = w3.drewN k :=
    (full_box hbx).mono fun e w' h => ⟨h.1.trans rfl, h.2⟩
  refine hfull.mono ?_
  rintro e w4 ⟨rfl, k4, rfl⟩
  have hbx4 := hbx.below (drewN_below w3 k4)
  have hB4 : Hid (Below w.heap.size w (w3.drewN k4)) := belowN hB3.out k4
  clear hfull hbx hB3
  go_wp2_with fail
  refine (ack_box hbx4 hB4.out.size (by refine ⟨?_, ?_, ?_⟩ <;> simp) 1 (by simp) (by simp)).mono ?_
  clear hbx4
  rintro e w5 ⟨rfl, hb5, hbx5⟩
  have hbx : BoxAt w.heap.size w5 (w.heap.size + 1) ⟨2, 1, [⟨1, 0, 1, 9, ev2⟩], L3⟩ := hbx5
  have hB5 : Hid (Below w.heap.size w w5) := hB4.out.trans hb5
  clear hbx5 hB4 hb5
  go_wp2_with fail
  refine (fetch_ok _ _ _ _ hbx 1 0 ⟨1, 0, 1, 9, ev2⟩ rfl (by simp) (by simp) (by simp) (by simp)).mono ?_
  rintro e w6 ⟨A3, n3, c3, rfl, hb6⟩
  have hbx6 := hbx.below hb6
  have hB6 : Hid (Below w.heap.size w w6) := below_step hB5.out hb6
  have hbx7 := hbx6.below ((Below.refl _ w6).alloc (Nat.le_refl _) (.cells #[.int .i64 1, .int .i64 0, .int .i64 1, .int .i64 9, .slice A3 n3 c3] 37))
  have HN := Lib.hid (next_box hbx7 (by refine ⟨?_, ?_, ?_⟩ <;> simp))
  have HF := Lib.hid (first_box hbx7)
  clear hbx hb6 hbx6 hbx7 hB5
  go_wp2_with (first | (go_at_call 9; refine HF.out.mono ?_; rintro e w' ⟨rfl, rfl⟩) | (go_at_call 7; refine HN.out.mono ?_; rintro e w' ⟨rfl, k7, rfl⟩))
  go_ret
  exact ⟨rfl, belowN (hB6.out.alloc hB6.out.size _) _⟩

theorem ownsRow_heap {w W : World} {base : Nat} {e : TypeId} {size n : Nat} {v : Value} {xs : List Value} (h : w.ownsRow base e size v n xs) (hh : W.heap = w.heap) : W.ownsRow base e size v n xs :=
  ownsRow_frame h fun g cur _ => by rw [hh]
theorem BoxAt.heap {base : Nat} {w W : World} {B : Nat} {s : BoxSt} (h : BoxAt base w B s) (hh : W.heap = w.heap) : BoxAt base W B s := by
  obtain ⟨M, wv, c, h⟩ := h
  refine ⟨M, wv, c, h.hB, h.hM, by rw [hh]; exact h.blk, ?_, ownsRow_heap h.row hh, fun x hx => ?_, h.ints⟩
  · have := h.map; unfold MapAt at this ⊢; rw [hh]; exact this
  · obtain ⟨n, xs, h1, h2, h3⟩ := h.evs x hx
    exact ⟨n, xs, h1, ownsRow_heap h2 hh, h3⟩

/-- What a round of BoxOrders keeps: the box's entries stand in the order of their offers. -/
structure Inv (most : Int) (s : BoxSt) (k : Nat) : Prop where
  most : s.most = most
  f0 : 0 ≤ s.first
  le : s.first + s.ents.length ≤ k
  nums : ∀ (j : Nat) (x : BEnt), s.ents[j]? = some x → x.num = s.first + j
  last : ∀ x ∈ s.ents, ∃ m, lkV (x.node, x.pub) s.L = some (.int .i64 m) ∧ x.idx ≤ m
  rise : ∀ (i j : Nat) (x y : BEnt), i < j → s.ents[i]? = some x → s.ents[j]? = some y → x.node = y.node → x.pub = y.pub → x.idx < y.idx

theorem Inv.step {most : Int} {s : BoxSt} {k : Nat} (h : Inv most s k) : Inv most s (k + 1) := ⟨h.most, h.f0, by have := h.le; omega, h.nums, h.last, h.rise⟩

theorem Inv.add {most : Int} {s : BoxSt} {k : Nat} (h : Inv most s k) {node pub idx : Int} {ev : Value} {cc : Nat} (hg : Good s node pub idx) :
    Inv most { s with ents := s.ents ++ [⟨s.first + s.ents.length, node, pub, idx, ev⟩], L := putE (node, pub) (.int .i64 idx) cc s.L } (k + 1) := by
  obtain ⟨_, _, _, _, _, hlk, _⟩ := hg
  refine ⟨h.most, h.f0, by have := h.le; simp; omega, ?_, ?_, ?_⟩
  · intro j x hx
    rw [List.getElem?_append] at hx
    split at hx
    · exact h.nums j x hx
    · rename_i hj
      have hj2 : j - s.ents.length = 0 := by
        have := (List.getElem?_eq_some_iff.1 hx).1
        simp at this; omega
      rw [hj2] at hx
      simp at hx
      subst hx
      show s.first + (s.ents.length : Int) = s.first + (j : Int)
      omega
  · intro x hx
    show ∃ m, lkV (x.node, x.pub) (putE (node, pub) (.int .i64 idx) cc s.L) = _ ∧ _
    rw [lkV_put]
    rcases List.mem_append.1 hx with hx | hx
    · obtain ⟨m, h1, h2⟩ := h.last x hx
      by_cases he : (x.node, x.pub) = (node, pub)
      · rw [if_pos he]
        rw [he] at h1
        have := hlk m h1
        exact ⟨idx, rfl, by omega⟩
      · rw [if_neg he]
        exact ⟨m, h1, h2⟩
    · simp at hx
      subst hx
      rw [if_pos rfl]
      exact ⟨idx, rfl, Int.le_refl _⟩
  · intro i j x y hij hx hy hn hp
    have hx' : s.ents[i]? = some x := by
      have hj : j < s.ents.length + 1 := by have := (List.getElem?_eq_some_iff.1 hy).1; simpa using this
      rw [List.getElem?_append_left (by omega)] at hx
      exact hx
    rw [List.getElem?_append] at hy
    split at hy
    · exact h.rise i j x y hij hx' hy hn hp
    · rename_i hj
      have hj2 : j - s.ents.length = 0 := by
        have := (List.getElem?_eq_some_iff.1 hy).1
        simp at this; omega
      rw [hj2] at hy
      simp at hy
      subst hy
      obtain ⟨m, h1, h2⟩ := h.last x (List.mem_of_getElem? hx')
      rw [hn, hp] at h1
      have := hlk m h1
      show x.idx < idx
      omega

theorem Inv.cut {most : Int} {s : BoxSt} {k : Nat} (h : Inv most s k) {f : Int} (h1 : s.first ≤ f) (h2 : f ≤ s.first + s.ents.length) :
    Inv most { s with first := f, ents := s.ents.drop (f - s.first).toNat } k := by
  refine ⟨h.most, by have := h.f0; show 0 ≤ f; omega, ?_, ?_, fun x hx => h.last x (List.mem_of_mem_drop hx), ?_⟩
  · have := h.le
    show f + ((s.ents.drop (f - s.first).toNat).length : Int) ≤ k
    simp; omega
  · intro j x hx
    rw [List.getElem?_drop] at hx
    have := h.nums _ x hx
    show x.num = f + j
    omega
  · intro i j x y hij hx hy hn hp
    rw [List.getElem?_drop] at hx hy
    exact h.rise _ _ x y (by omega) hx hy hn hp

theorem Inv.start (most : Int) : Inv most ⟨most, 0, [], []⟩ 0 :=
  ⟨rfl, Int.le_refl _, by simp, fun j x h => by simp at h, fun x h => by simp at h, fun i j x y _ h => by simp at h⟩

end Go.Proofs.YthapeellcbeecaaDoor
