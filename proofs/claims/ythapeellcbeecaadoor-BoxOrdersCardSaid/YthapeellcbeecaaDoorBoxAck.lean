/-
  The box: Ack. Own work.
-/
import Derived.Test.YthapeellcbeecaaDoorBoxFetch
set_option linter.unusedSimpArgs false
set_option linter.unusedVariables false
namespace Go.Proofs.YthapeellcbeecaaDoor
open Go Go.RowKit

def AckPost (base : Nat) (w : World) (B : Nat) (s : BoxSt) (k : Int) (e : Ending) (w' : World) : Prop :=
  e = .returned .nilIface ∧ Below base w w' ∧ BoxAt base w' B { s with first := k, ents := s.ents.drop (k - s.first).toNat }

theorem entCells_drop (l : List BEnt) (j : Nat) : (entCells l).drop (j * 5) = entCells (l.drop j) := by
  induction j generalizing l with
  | zero => simp
  | succ j ih =>
    cases l with
    | nil => simp [entCells]
    | cons x l =>
      have e : entCells (x :: l) = x.cells ++ entCells l := by simp [entCells]
      have hx : x.cells.length = 5 := rfl
      rw [e, List.drop_succ_cons, ← ih l, show (j + 1) * 5 = 5 + j * 5 by omega, ← List.drop_drop]
      rw [← hx, List.drop_left]

theorem ack_fin {base : Nat} {w w3 : World} {B M c0 c9 q x : Nat} {wv : Value} {A9 : Option Addr} {s : BoxSt} {k : Int} (hin : BoxIn base w B M wv c0 s) (hbase : base ≤ w.heap.size)
    (hbel : Below (w.drewN q).heap.size (w.drewN q) w3) (hown : w3.ownsRow (w.drewN q).heap.size 37 5 (.slice A9 (s.ents.length - x) c9) (s.ents.length - x) (entCells (s.ents.drop x))) :
    Below base w ((w3.setCell ⟨B, 2, none⟩ (.slice A9 (s.ents.length - x) c9)).setCell ⟨B, 1, none⟩ (.int .i64 k)) ∧
      BoxAt base ((w3.setCell ⟨B, 2, none⟩ (.slice A9 (s.ents.length - x) c9)).setCell ⟨B, 1, none⟩ (.int .i64 k)) B { s with first := k, ents := s.ents.drop x } := by
  have hb3 : Below w.heap.size w w3 := below_step (drewN_below w q) hbel
  have h3 := hin.below hb3
  have hset : ∀ (g : Nat) (o : Obj), w3.heap[g]? = some o → (∀ cur fr, o ≠ .cells cur 50 fr) → ((w3.setCell ⟨B, 2, none⟩ (.slice A9 (s.ents.length - x) c9)).setCell ⟨B, 1, none⟩ (.int .i64 k)).heap[g]? = some o := by
    intro g o hg ho
    have hgB : g ≠ B := by
      rintro rfl
      have := h3.blk
      rw [hg] at this
      exact ho _ _ (by injection this)
    exact (Below.heap_setCell _ ⟨B, 1, none⟩ _ g hgB).trans ((Below.heap_setCell w3 ⟨B, 2, none⟩ _ g hgB).trans hg)
  refine ⟨((hb3.mono hbase).setCell hin.hB _).setCell hin.hB _, M, .slice A9 (s.ents.length - x) c9, c0, hin.hB, hin.hM, ?_, hset M _ h3.map (fun cur fr h => by cases h), ?_, ?_, hin.ints⟩
  · simp [World.setCell, Array.getElem?_modify, h3.blk]
  · have e : (s.ents.drop x).length = s.ents.length - x := by simp
    show World.ownsRow _ base _ 5 _ (s.ents.drop x).length _
    rw [e]
    exact ownsRow_base (ownsRow_frame hown fun g cur hg => (hset g _ hg (fun cur fr h => by injection h with _ h _; exact absurd h (by decide))).trans hg.symm) hbase
  · intro y hy
    exact (h3.evs y (List.mem_of_mem_drop hy)).frame fun g cur hg => (hset g _ hg (fun cur fr h => by injection h with _ h _; exact absurd h (by decide))).trans hg.symm

set_option maxHeartbeats 1000000 in
theorem ack_some (base B g cap M c0 : Nat) (s : BoxSt) (w : World) (hin : BoxIn base w B M (.slice (some ⟨g, 0, none⟩) s.ents.length cap) c0 s) (hbase : base ≤ w.heap.size) (k : Int) (j : Nat) (hkj : k = s.first + j) (hj : j ≤ s.ents.length) (hcap : s.ents.length ≤ cap) (hcm : cap ≤ 9223372036854775807)
    (hf0 : 0 ≤ s.first) (hf1 : s.first ≤ 1000000) (hn1 : s.ents.length ≤ 1000000) :
    Calls Tryd.prog 10 #[.pointer (some ⟨B, 0, none⟩), .int .i64 k] w (AckPost base w B s k) := by
  have k1 : w.cell? ⟨B, 1, none⟩ = some (.int .i64 s.first) := by rw [hin.cell 1]; rfl
  have k2 : w.cell? ⟨B, 2, none⟩ = some (.slice (some ⟨g, 0, none⟩) s.ents.length cap) := by rw [hin.cell 2]; rfl
  have hc := there_ok B s.ents.length cap (some ⟨g, 0, none⟩) s.first k _ k1 k2 hf0 hf1 hn1 (by omega) (by omega)
  have HC := Lib.hid hc
  have hwr : IntKind.i64.wrap (k - s.first) = (j : Int) := by rw [IntKind.wrap_i64]; omega
  have hj0 : (0 : Int) ≤ (j : Int) := Int.natCast_nonneg _
  have hj1 : (j : Int) ≤ (s.ents.length : Int) := by omega
  have hj2 : j ≤ cap := by omega
  have HK : Hid (k = s.first + j) := hkj
  have HIN := Lib.hid hin
  have HCL : Hid (∀ W : World, W.heap = w.heap → Calls Tryd.prog 17 #[.slice (if cap = j then some ⟨g, 0, none⟩ else some ⟨g, j * 5, none⟩) (s.ents.length - j) (cap - j)] W fun e w3 => ∃ A9 c9, e = .returned (.slice A9 (s.ents.length - j) c9) ∧
      Hid (w3.ownsRow W.heap.size 37 5 (.slice A9 (s.ents.length - j) c9) (s.ents.length - j) (entCells (s.ents.drop j))) ∧ Hid (Below W.heap.size W w3) ∧
      w3.cell? ⟨B, 1, none⟩ = some (.int .i64 s.first) ∧ w3.cell? ⟨B, 2, none⟩ = some (.slice (some ⟨g, 0, none⟩) s.ents.length cap) ∧ w3.frozen? ⟨B, 1, none⟩ = false ∧ w3.frozen? ⟨B, 2, none⟩ = false) := by
    intro W hW
    have hcW : ∀ a, W.cell? a = w.cell? a := fun a => by simp only [World.cell?, hW]
    have hfW : ∀ a, W.frozen? a = w.frozen? a := fun a => by simp only [World.frozen?, hW]
    have hBW : B < W.heap.size := by rw [hW]; exact hin.lt
    refine (cloneEn_any _ (s.ents.length - j) (cap - j) (entCells (s.ents.drop j)) W (by rw [entCells_length]; simp) (Nat.le_trans (Nat.sub_le _ _) (Nat.le_trans hn1 (by decide))) (Nat.le_trans (Nat.mul_le_mul_right 56 (Nat.le_trans (Nat.sub_le _ _) hn1)) (by decide)) (fun h => by split at h <;> cases h) (fun ad hAd i u hu => ?_) (fun u hu => ?_)).mono ?_
    · have hlen : (entCells (s.ents.drop j)).length = (s.ents.length - j) * 5 := by rw [entCells_length]; simp
      have hi := (List.getElem?_eq_some_iff.1 hu).1
      rw [if_neg (by omega)] at hAd
      cases hAd
      rw [hcW, Addr.add_lit]
      rw [← entCells_drop, List.getElem?_drop] at hu
      have := hin.row.cells (g := g) rfl (j * 5 + i) u hu
      rw [Addr.add_lit, Nat.zero_add] at this
      exact this
    · have hu' : u ∈ entCells s.ents := by rw [← entCells_drop] at hu; exact List.mem_of_mem_drop hu
      obtain ⟨x, hx, hux⟩ := List.mem_flatMap.1 hu'
      simp [BEnt.cells] at hux
      rcases hux with rfl | rfl | rfl | rfl | rfl
      · rfl
      · rfl
      · rfl
      · rfl
      · exact (hin.evs x hx).oneCell
    · rintro e w3 ⟨v, rfl, hown3, hbel3, _⟩
      obtain ⟨A9, c9, rfl⟩ := own_shape hown3
      exact ⟨A9, c9, rfl, hown3, hbel3, (hbel3.cell (p := ⟨B, 1, none⟩) hBW).trans ((hcW _).trans k1), (hbel3.cell (p := ⟨B, 2, none⟩) hBW).trans ((hcW _).trans k2),
        (hbel3.frozen (p := ⟨B, 1, none⟩) hBW).trans ((hfW _).trans (hin.free 1)), (hbel3.frozen (p := ⟨B, 2, none⟩) hBW).trans ((hfW _).trans (hin.free 2))⟩
  clear hkj hc hin
  go_enter Tryd.func10, Tryd.ntmps10
  go_wp2_with (go_at_call 16; refine HC.out.mono ?_; rintro e w' ⟨rfl, k', rfl⟩)
  go_region_law (first | (go_simp; go_at_call 17; refine (HCL.out _ ?_).mono ?_; (exact rfl); rintro e w3 ⟨A9, c9, rfl, hown3, hbel3, q1, q2, qf1, qf2⟩))
  all_goals
    have HFIN := Lib.hid (ack_fin (k := k) (x := j) HIN.out hbase hbel3.out hown3.out)
    clear hown3 hbel3
    go_wp2
    all_goals
      go_ret
      exact ⟨rfl, HFIN.out.1, by rw [HK.out, show (s.first + (j : Int) - s.first).toNat = j by omega, ← HK.out]; exact HFIN.out.2⟩

set_option maxHeartbeats 1000000 in
theorem ack_none (base B M c0 : Nat) (s : BoxSt) (w : World) (hin : BoxIn base w B M (.slice none 0 0) c0 s) (hbase : base ≤ w.heap.size) (k : Int) (hk0 : k = s.first) (hlen : s.ents.length = 0)
    (hf0 : 0 ≤ s.first) (hf1 : s.first ≤ 1000000) :
    Calls Tryd.prog 10 #[.pointer (some ⟨B, 0, none⟩), .int .i64 k] w (AckPost base w B s k) := by
  have k1 : w.cell? ⟨B, 1, none⟩ = some (.int .i64 s.first) := by rw [hin.cell 1]; rfl
  have k2 : w.cell? ⟨B, 2, none⟩ = some (.slice none 0 0) := by rw [hin.cell 2]; rfl
  have hc := there_ok B 0 0 none s.first k _ k1 k2 hf0 hf1 (by omega) (by omega) (by omega)
  have HC := Lib.hid hc
  have hwr : IntKind.i64.wrap (k - s.first) = 0 := by rw [IntKind.wrap_i64]; omega
  have HK : Hid (k = s.first) := hk0
  have HL : Hid (s.ents.length = 0) := hlen
  have HIN := Lib.hid hin
  have HCL : Hid (∀ W : World, W.heap = w.heap → Calls Tryd.prog 17 #[.slice none 0 0] W fun e w3 => e = .returned (.slice none 0 0) ∧
      Hid (w3.ownsRow W.heap.size 37 5 (.slice none 0 0) 0 []) ∧ Hid (Below W.heap.size W w3) ∧
      w3.cell? ⟨B, 1, none⟩ = some (.int .i64 s.first) ∧ w3.cell? ⟨B, 2, none⟩ = some (.slice none 0 0) ∧ w3.frozen? ⟨B, 1, none⟩ = false ∧ w3.frozen? ⟨B, 2, none⟩ = false) := by
    intro W hW
    have hcW : ∀ a, W.cell? a = w.cell? a := fun a => by simp only [World.cell?, hW]
    have hfW : ∀ a, W.frozen? a = w.frozen? a := fun a => by simp only [World.frozen?, hW]
    have hBW : B < W.heap.size := by rw [hW]; exact hin.lt
    refine (cloneEn_any none 0 0 [] W rfl (Nat.zero_le _) (by simp) (fun _ => rfl) (fun _ h => by cases h) (fun _ h => by cases h)).mono ?_
    rintro e w3 ⟨v, rfl, hown3, hbel3, hv⟩
    obtain rfl := hv.2 rfl
    exact ⟨rfl, hown3, hbel3, (hbel3.cell (p := ⟨B, 1, none⟩) hBW).trans ((hcW _).trans k1), (hbel3.cell (p := ⟨B, 2, none⟩) hBW).trans ((hcW _).trans k2),
        (hbel3.frozen (p := ⟨B, 1, none⟩) hBW).trans ((hfW _).trans (hin.free 1)), (hbel3.frozen (p := ⟨B, 2, none⟩) hBW).trans ((hfW _).trans (hin.free 2))⟩
  clear hk0 hlen hc hin
  go_enter Tryd.func10, Tryd.ntmps10
  go_wp2_with (go_at_call 16; refine HC.out.mono ?_; rintro e w' ⟨rfl, k', rfl⟩)
  go_region_law (first | (go_simp; go_at_call 17; refine (HCL.out _ ?_).mono ?_; (exact rfl); rintro e w3 ⟨rfl, hown3, hbel3, q1, q2, qf1, qf2⟩))
  all_goals
    have he : s.ents = [] := List.eq_nil_of_length_eq_zero HL.out
    have HFIN := Lib.hid (ack_fin (k := k) (x := 0) (A9 := none) (c9 := 0) HIN.out hbase hbel3.out (by rw [he]; exact hown3.out))
    rw [HL.out] at HFIN
    clear hown3 hbel3 he
    go_wp2
    all_goals
      go_ret
      exact ⟨rfl, HFIN.out.1, by rw [show (k - s.first).toNat = 0 by rw [HK.out]; omega]; exact HFIN.out.2⟩

end Go.Proofs.YthapeellcbeecaaDoor
