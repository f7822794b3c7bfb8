/-
  What the law's step asks besides: fails at no error; Twin of long texts; Deliver that keeps other cells. Own work.
-/
import Derived.Test.YtgibpiakeaplbaaDoorNetRAny
import Derived.Test.YtgibpiakeaplbaaDoorNetFull
set_option linter.unusedSimpArgs false
set_option linter.unusedVariables false
namespace Go.Proofs.YtgibpiakeaplbaaDoor
open Go Go.RowKit

theorem of_nil (w : World) :
    Calls Tryd.prog 29 #[.nilIface] w fun e w' => e = .returned (.agg #[.bool false, .slice none 0 0, .int .i64 0]) ∧ Below w.heap.size w w' := by
  go_enter Tryd.func29, Tryd.ntmps29
  go_wp2
  refine bodyPost_ret (v := .agg #[.bool false, .slice none 0 0, .int .i64 0]) ?_ rfl ?_
  · simp [results, Tryd.results29, go_sem]
  · refine ⟨rfl, ?_⟩
    repeat (first | with_reducible exact Below.refl _ _ | with_reducible refine eSet ?_ (by first | (simp; done) | (simp; omega)) _ | refine Below.alloc ?_ (by first | (simp; done) | (simp; omega)) _)

set_option maxHeartbeats 1000000 in
theorem same_nil (w : World) : Calls Tryd.prog 28 #[.agg #[.bool false, .slice none 0 0, .int .i64 0], .agg #[.bool false, .slice none 0 0, .int .i64 0]] w
    fun e w' => e = .returned (.bool true) ∧ Below w.heap.size w w' := by
  have hb : Below w.heap.size w ((w.alloc (.cells #[.bool false, .slice none 0 0, .int .i64 0] 41)).alloc (.cells #[.bool false, .slice none 0 0, .int .i64 0] 41)) := ((Below.refl _ _).alloc (Nat.le_refl _) _).alloc (by simp) _
  go_enter Tryd.func28, Tryd.ntmps28
  go_wp2
  refine wp_loop_rounds 1 ?_
  rw [rounds_succ]
  go_wp2
  go_ret
  exact ⟨rfl, hb⟩

set_option maxHeartbeats 1000000 in
theorem fails_nil (w : World) : Calls Tryd.prog 14 #[.nilIface, .agg #[.bool false, .slice none 0 0, .int .i64 0]] w
    fun e w' => e = .returned (.bool true) ∧ Below w.heap.size w w' := by
  have hb : Below w.heap.size w (w.alloc (.cells #[.bool false, .slice none 0 0, .int .i64 0] 41)) := (Below.refl _ _).alloc (Nat.le_refl _) _
  have HB := Lib.hid hb
  clear hb
  go_enter Tryd.func14, Tryd.ntmps14
  go_wp2_with fail
  go_region_with (first
    | (go_at_call 29; refine (of_nil _).mono ?_; rintro e w1 ⟨rfl, hb1⟩; have hb1' := Lib.hid hb1; have q0 : w1.cell? ⟨w.heap.size, 0, none⟩ = some (.bool false) := (hb1.cell (p := ⟨w.heap.size, 0, none⟩) (by simp)).trans (by simp); have q1 : w1.cell? ⟨w.heap.size, 1, none⟩ = some (.slice none 0 0) := (hb1.cell (p := ⟨w.heap.size, 1, none⟩) (by simp)).trans (by simp); have q2 : w1.cell? ⟨w.heap.size, 2, none⟩ = some (.int .i64 0) := (hb1.cell (p := ⟨w.heap.size, 2, none⟩) (by simp)).trans (by simp); clear hb1)
    | (go_at_call 28; refine (same_nil _).mono ?_; rintro e w2 ⟨rfl, hb2⟩))
  all_goals
    go_wp2
    go_ret
    exact ⟨rfl, bchain (bchain HB.out.drew hb1'.out) hb2⟩

/-- The same error on both sides. -/
theorem fails_same (x : Option Int) (w : World) (hg : ErrT w) : Calls Tryd.prog 14 #[errV x, eP x] w fun e w' => e = .returned (.bool true) ∧ Below w.heap.size w w' := by
  cases x with
  | none => exact fails_nil w
  | some n =>
    refine (fails_plain n n w hg).mono ?_
    rintro e w' ⟨rfl, h⟩
    exact ⟨by simp, h⟩

theorem twin_big (A : Option Addr) (n : Nat) (bs : List UInt8) (hbn : bs.length = n) (c : Nat) (w : World) (h : BytesAt w A bs) (hlen : n ≤ 140737488351232) :
    Calls Tryd.prog 18 #[.slice A n c] w fun e w' => ∃ A' c', e = .returned (.slice A' n c') ∧ Hid (BytesAt w' A' bs ∧ Below w.heap.size w w') := by
  subst hbn
  cases A with
  | none =>
    have h0 := h.1 rfl
    have h1 := List.eq_nil_of_length_eq_zero h0
    subst h1
    refine (twin_none c w).mono ?_
    rintro e w' ⟨v, rfl, h1, h2⟩
    obtain ⟨A3, c3, e⟩ := own_slice h1
    simp only at e
    subst e
    exact ⟨A3, c3, rfl, bytesAt_pkt h1 rfl, h2⟩
  | some ad =>
    obtain ⟨i0, hi, hz0, hz1, hz2⟩ := info_parts byte_info
    have hown0 : (w.alloc (.cells #[] 5)).ownsRow w.heap.size 5 1 (.slice (some ⟨w.heap.size, 0, none⟩) 0 0) 0 [] := World.ownsRow_made w #[] 0 (Nat.le_refl _) (by simp) (by simp)
    have hx2 : Hid (∀ j u, (byteVs bs)[j]? = some u → (w.alloc (.cells #[] 5)).cell? (ad.add j) = some u) := fun j u hu => by
      have := h.2 ad rfl j u hu
      rw [World.cell?_alloc_lt _ _ _ (World.block_lt_of_cell? w _ this)]; exact this
    have h1' : Hid (∀ u ∈ byteVs bs, u.oneCell' = true) := byteVs_one bs
    have hl' : Hid ((byteVs bs).length = bs.length * 1) := by simp [Hid, byteVs]
    have hn' : Hid (0 + bs.length ≤ maxLen) := Nat.le_trans (show 0 + bs.length ≤ 140737488351232 by omega) (by decide)
    have hb' : Hid ((0 + bs.length) * 1 ≤ 140737488355328) := by simp only [Hid]; omega
    have hs' : Hid (w.heap.size ≤ (w.alloc (.cells #[] 5)).heap.size) := by simp [Hid]
    clear h hlen
    go_enter Tryd.func18, Tryd.ntmps18
    go_wp2_with (at_builtin; refine wpList_append_own _ rfl _ _ 27 rfl w.heap.size 5 i0 (.int .u8 0) 1 1 Tryd.underlying27 hi hz0 hz1 hz2 rfl (by decide) _ 0 [] rfl hown0 ad bs.length c (byteVs bs) rfl hl'.out hx2.out h1'.out hn'.out hb'.out hs'.out ?_; intro v' w1 hown1 hgrow hnil)
    have hg : (w.alloc (.cells #[] 5)).grownBy w1 (some w.heap.size) := hgrow
    clear hgrow hnil
    have hrow : w1.ownsRow w.heap.size 5 1 v' bs.length (byteVs bs) := by simpa using hown1
    obtain ⟨A3, c3, rfl⟩ := own_slice hrow
    have hfin : Hid (BytesAt w1 A3 bs ∧ Below w.heap.size w w1) :=
      ⟨bytesAt_pkt (p := (.slice A3 bs.length c3, bs)) hrow rfl, ((Below.refl _ _).alloc (Nat.le_refl _) _).grown hg (by simp) (fun k h => by cases h; exact Nat.le_refl _)⟩
    clear hg hown1 hown0 hrow
    go_ret
    exact ⟨A3, c3, rfl, hfin.out⟩

theorem deliver_bk (base B : Nat) (T : Lines) (k : Int × Int) (i : Int) (w : World) (hn : NetB base w B T) (hbase : base ≤ w.heap.size) :
    Calls Tryd.prog 19 #[.pointer (some ⟨B, 0, none⟩), .int .i64 k.1, .int .i64 k.2, .int .i64 i] w fun e w' => ∃ A n c, e = .returned (.tuple #[.slice A n c, errV (placeT T k i)]) ∧ Below base w w' ∧ KeepC w w' ∧ n = (tookT T k i).length ∧ BytesAt w' A (tookT T k i) ∧
      NetB base w' B (if placeT T k i = none then updT T k ((T k).eraseIdx i.toNat) else T) := by
  obtain ⟨S, h1, h2⟩ := hn
  have hlen : (S k).length = (T k).length := by rw [← h2 k]; simp
  have he : placeE S k i = placeT T k i := by simp only [placeE, placeT, hlen]; rfl
  have hpk := h1
  refine (deliver_any base B S k i w h1 hbase).mono ?_
  rintro e w' ⟨h4, hkc, h5⟩
  rw [he] at h5
  rcases h5 with ⟨ec, h5, rfl, h6⟩ | ⟨h5, j, p, hj, hp, rfl, h6⟩
  · have ht : tookT T k i = [] := by unfold tookT; rw [if_neg (by rw [h5]; simp)]
    rw [ht, if_neg (by rw [h5]; simp)]
    exact ⟨none, 0, 0, by rw [h5], h4, hkc, rfl, ⟨fun _ => rfl, fun ad e => by cases e⟩, S, h6, h2⟩
  · subst hj
    obtain ⟨M, cm, L, hin⟩ := hpk
    have hpok := hkc.pkt (hin.pk k p (List.mem_of_getElem? hp))
    obtain ⟨A, c, hA⟩ := own_slice hpok
    have hb : (T k)[j]? = some p.2 := by rw [← h2 k]; simp [hp]
    have ht : tookT T k j = p.2 := by unfold tookT; rw [if_pos h5]; simp [List.getD, hb]
    rw [ht, if_pos h5]
    refine ⟨A, p.2.length, c, by rw [h5, ← hA]; rfl, h4, hkc, rfl, bytesAt_pkt hpok hA, ?_⟩
    exact netB_of h6 h2 (by rw [map_erase, h2]; simp)
end Go.Proofs.YtgibpiakeaplbaaDoor
