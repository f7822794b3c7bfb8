/-
  net: the document's example ('awake'). Own work.
-/
import Derived.Test.YtgibpiakeaplbaaDoorNetB
import Derived.Test.YtgibpiakeaplbaaDoorErrOf
set_option linter.unusedSimpArgs false
set_option linter.unusedVariables false
namespace Go.Proofs.YtgibpiakeaplbaaDoor
open Go Go.RowKit

theorem send_ok (base B : Nat) (T : Lines) (k1 k2 : Int) (A : Option Addr) (n c : Nat) (bs : List UInt8) (w : World) (hn : NetB base w B T) (hbase : base ≤ w.heap.size) (hA : BytesAt w A bs) (hlen : bs.length = n) (h : sendT T (k1, k2) n = none) :
    Calls Tryd.prog 12 #[.pointer (some ⟨B, 0, none⟩), .int .i64 k1, .int .i64 k2, .slice A n c] w fun e w' => e = .returned .nilIface ∧ Below base w w' ∧ NetB base w' B (updT T (k1, k2) (T (k1, k2) ++ [bs])) := by
  subst hlen
  refine (send_b base B T (k1, k2) A c bs w hn hbase hA).mono ?_
  rintro e w' ⟨rfl, h1, h2⟩
  rw [h] at h2 ⊢
  rw [if_pos rfl] at h2
  exact ⟨rfl, h1, h2⟩
theorem double_ok (base B : Nat) (T : Lines) (k1 k2 i : Int) (w : World) (hn : NetB base w B T) (hbase : base ≤ w.heap.size) (h : doubleT T (k1, k2) i = none) :
    Calls Tryd.prog 15 #[.pointer (some ⟨B, 0, none⟩), .int .i64 k1, .int .i64 k2, .int .i64 i] w fun e w' => e = .returned .nilIface ∧ Below base w w' ∧ NetB base w' B (updT T (k1, k2) (T (k1, k2) ++ [(T (k1, k2)).getD i.toNat []])) := by
  refine (double_b base B T (k1, k2) i w hn hbase).mono ?_
  rintro e w' ⟨rfl, h1, h2⟩
  rw [h] at h2 ⊢
  rw [if_pos rfl] at h2
  exact ⟨rfl, h1, h2⟩
theorem lose_ok (base B : Nat) (T : Lines) (k1 k2 i : Int) (w : World) (hn : NetB base w B T) (hbase : base ≤ w.heap.size) (h : placeT T (k1, k2) i = none) :
    Calls Tryd.prog 16 #[.pointer (some ⟨B, 0, none⟩), .int .i64 k1, .int .i64 k2, .int .i64 i] w fun e w' => e = .returned .nilIface ∧ Below base w w' ∧ NetB base w' B (updT T (k1, k2) ((T (k1, k2)).eraseIdx i.toNat)) := by
  refine (lose_b base B T (k1, k2) i w hn hbase).mono ?_
  rintro e w' ⟨rfl, h1, h2⟩
  rw [h] at h2 ⊢
  rw [if_pos rfl] at h2
  exact ⟨rfl, h1, h2⟩
theorem deliver_ok (base B : Nat) (T : Lines) (k1 k2 i : Int) (bs : List UInt8) (w : World) (hn : NetB base w B T) (hbase : base ≤ w.heap.size) (h : placeT T (k1, k2) i = none) (hb : (T (k1, k2))[i.toNat]? = some bs) :
    Calls Tryd.prog 19 #[.pointer (some ⟨B, 0, none⟩), .int .i64 k1, .int .i64 k2, .int .i64 i] w fun e w' => ∃ A c, e = .returned (.tuple #[.slice A bs.length c, .nilIface]) ∧ Below base w w' ∧ BytesAt w' A bs ∧ NetB base w' B (updT T (k1, k2) ((T (k1, k2)).eraseIdx i.toNat)) := by
  refine (deliver_b base B T (k1, k2) i w hn hbase).mono ?_
  rintro e w' ⟨h1, A, bs', c, rfl, h2, _, h3, h4⟩
  have h5 := h3 h
  rw [hb] at h5
  cases h5
  rw [h] at h4 ⊢
  rw [if_pos rfl] at h4
  exact ⟨A, c, rfl, h1, h2, h4⟩

theorem newbytes (w : World) (b : UInt8) : BytesAt (w.alloc (.cells #[.int .u8 b.toNat] 5)) (some ⟨w.heap.size, 0, none⟩) [b] :=
  ⟨fun h => (by cases h), fun ad e j u hu => (by
    cases e
    exact cell_one_new w (.int .u8 b.toNat) 5 j u hu)⟩

theorem one_way {l : List (Int × Int)} (h : l.Pairwise ltW) {k : Int × Int} (hm : ∀ k', k' ∈ l ↔ k' = k) : l = [k] := by
  cases l with
  | nil => have := (hm k).2 rfl; simp at this
  | cons a l =>
    obtain rfl : a = k := (hm a).1 (by simp)
    cases l with
    | nil => rfl
    | cons b l =>
      obtain rfl : b = a := (hm b).1 (by simp)
      have := (List.pairwise_cons.1 h).1 b (by simp)
      unfold ltW at this
      omega

theorem no_way {l : List (Int × Int)} (hm : ∀ k', k' ∈ l ↔ False) : l = [] := by
  cases l with
  | nil => rfl
  | cons a l => exact ((hm a).1 (by simp)).elim

theorem way3_equal (a b c d e f : Int) (w : World) : (Op.equal 58 (.agg #[.int .i64 a, .int .i64 b, .int .i64 c]) (.agg #[.int .i64 d, .int .i64 e, .int .i64 f])).run Tryd.prog w = .ok (decide (a = d ∧ b = e ∧ c = f)) w := by
  have hp : Tryd.prog.stoodInHeld 58 = false := by kernel_rfl
  simp [Op.equal, Op.maxDepth, go_sem, hp]
  by_cases h : a = d <;> by_cases h2 : b = e <;> by_cases h3 : c = f <;> simp [h, h2, h3]

theorem wayCells_row {w : World} {base : Nat} {A : Option Addr} {n c : Nat} {l : List (Int × Int × Int)} (h : w.ownsRow base 58 3 (.slice A n c) n (wayCells l)) (i : Nat) (x : Int × Int × Int) (hi : l[i]? = some x) :
    ∃ g, A = some ⟨g, 0, none⟩ ∧ base ≤ g ∧ g < w.heap.size ∧ w.cell? ⟨g, i * 3, none⟩ = some (.int .i64 x.1) ∧ w.cell? ⟨g, i * 3 + 1, none⟩ = some (.int .i64 x.2.1) ∧ w.cell? ⟨g, i * 3 + 2, none⟩ = some (.int .i64 x.2.2) := by
  have hget : ∀ (l : List (Int × Int × Int)) (i : Nat), l[i]? = some x → (wayCells l)[i * 3]? = some (.int .i64 x.1) ∧ (wayCells l)[i * 3 + 1]? = some (.int .i64 x.2.1) ∧ (wayCells l)[i * 3 + 2]? = some (.int .i64 x.2.2) := by
    intro l
    induction l with
    | nil => intro i h; simp at h
    | cons y l ih =>
      intro i h
      have e : wayCells (y :: l) = [.int .i64 y.1, .int .i64 y.2.1, .int .i64 y.2.2] ++ wayCells l := rfl
      rw [e]
      cases i with
      | zero => simp at h; subst h; simp
      | succ i =>
        have := ih i (by simpa using h)
        have e1 : (i + 1) * 3 = i * 3 + 3 := by omega
        rw [e1, List.getElem?_append_right (by simp), List.getElem?_append_right (by simp), List.getElem?_append_right (by simp)]
        simpa using this
  obtain ⟨c0, c1, c2⟩ := hget l i hi
  have hln : (wayCells l).length = n * 3 := h.1
  have hlt2 : i * 3 + 2 < n * 3 := by rw [← hln]; exact (List.getElem?_eq_some_iff.1 c2).1
  rcases h.2 with ⟨hv, hn⟩ | ⟨g, cap, cur, hv, hg, hh, h3, h4, h5, h6⟩
  · omega
  · injection hv with hA _ _
    have hc : ∀ j u, (wayCells l)[j]? = some u → w.cell? ⟨g, j, none⟩ = some u := fun j u hu => by
      have hj : j < n * 3 := by rw [← hln]; exact (List.getElem?_eq_some_iff.1 hu).1
      have e : w.cell? ⟨g, j, none⟩ = cur[j]? := by simp [World.cell?, hh]
      rw [e, ← hu, ← h6, List.getElem?_take, if_pos hj]; simp
    exact ⟨g, hA, hg, (Array.getElem?_eq_some_iff.1 hh).1, hc _ _ c0, hc _ _ c1, hc _ _ c2⟩

set_option maxHeartbeats 1000000 in
theorem awake_any (w : World) : Calls Tryd.prog 7 #[] w fun e w' => e = .returned (.bool true) ∧ Below w.heap.size w w' := by
  have heq := way3_equal
  go_enter Tryd.func7, Tryd.ntmps7
  go_wp2_with fail
  refine (newNet_any _).mono ?_
  rintro e w' ⟨rfl, rfl⟩
  obtain ⟨w1, hw1⟩ : ∃ w1, w1 = (w.alloc (.map #[] 0)).alloc (.cells #[.map (some w.heap.size)] 62) := ⟨_, rfl⟩
  have hb1 : Hid (Below w.heap.size w w1) := by rw [hw1]; exact ((Below.refl _ _).alloc (Nat.le_refl _) _).alloc (by simp) _
  have hn1 : Hid (NetB w.heap.size w1 (w.heap.size + 1) (fun _ => [])) := by rw [hw1]; exact netB_new w
  rw [← hw1]
  clear hw1
  go_wp2_with fail
  refine (send_ok w.heap.size (w.heap.size + 1) _ 0 1 _ 1 1 [1] _ (hn1.out.below ((Below.refl _ _).alloc (Nat.le_refl _) _)) (Nat.le_trans hb1.out.size (by simp)) (newbytes w1 1) rfl (by decide)).mono ?_
  rintro e w2 ⟨rfl, hb, hn⟩
  have hb2 : Hid (Below w.heap.size w w2) := (hb1.out.trans ((Below.refl _ _).alloc hb1.out.size _)).trans hb
  have hn2 := Lib.hid hn
  clear hb hn hb1 hn1
  go_wp2_with fail
  refine (send_ok w.heap.size (w.heap.size + 1) _ 0 1 _ 1 1 [2] _ (hn2.out.below ((Below.refl _ _).alloc (Nat.le_refl _) _)) (Nat.le_trans hb2.out.size (by simp)) (newbytes w2 2) rfl (by decide)).mono ?_
  rintro e w3 ⟨rfl, hb, hn⟩
  have hb3 : Hid (Below w.heap.size w w3) := (hb2.out.trans ((Below.refl _ _).alloc hb2.out.size _)).trans hb
  have hn3 := Lib.hid hn
  clear hb hn hb2 hn2
  go_wp2_with fail
  refine (double_ok w.heap.size (w.heap.size + 1) _ 0 1 0 _ hn3.out hb3.out.size (by decide)).mono ?_
  rintro e w4 ⟨rfl, hb, hn⟩
  have hb4 : Hid (Below w.heap.size w w4) := hb3.out.trans hb
  have hn4 := Lib.hid hn
  clear hb hn hb3 hn3
  go_wp2_with fail
  refine (deliver_ok w.heap.size (w.heap.size + 1) _ 0 1 1 [2] _ hn4.out hb4.out.size (by decide) (by decide)).mono ?_
  rintro e w5 ⟨A, c, rfl, hb, hA, hn⟩
  have hb5 : Hid (Below w.heap.size w w5) := hb4.out.trans hb
  have hn5 := Lib.hid hn
  have hA5 := Lib.hid hA
  clear hb hn hA hb4 hn4
  go_wp2_with fail
  refine (ways_b w.heap.size (w.heap.size + 1) _ _ hn5.out hb5.out.size).mono ?_
  rintro e w6 ⟨hb, A6, c6, l, rfl, hp, hm, hrow⟩
  have hb6 : Hid (Below w.heap.size w w6) := hb5.out.trans (hb.mono hb5.out.size)
  have hl : l = [(0, 1)] := by
    refine one_way hp fun k' => (hm k').trans ?_
    by_cases h : k' = (0, 1)
    · subst h; simp [updT]
    · simp [updT, h]
  subst hl
  obtain ⟨g, rfl, _, _, d0, d1, d2⟩ := wayCells_row hrow 0 (0, 1, 2) rfl
  have hA6 := Lib.hid (hA5.out.below hb)
  have hg2 : g < w6.heap.size := World.block_lt_of_cell? w6 _ d0
  clear hb hp hm hrow hb5 hn5 hA5
  go_wp2_with (go_at_call 20; refine (bytes_any A _ [2] [2] c 1 _ (hA6.out.below ((Below.refl _ _).alloc (Nat.le_refl _) _)) (newbytes w6 2)).mono ?_; rintro e w7 ⟨rfl, rfl⟩)
  go_ret
  exact ⟨rfl, hb6.out.trans ((Below.refl _ _).alloc hb6.out.size _)⟩
end Go.Proofs.YtgibpiakeaplbaaDoor
