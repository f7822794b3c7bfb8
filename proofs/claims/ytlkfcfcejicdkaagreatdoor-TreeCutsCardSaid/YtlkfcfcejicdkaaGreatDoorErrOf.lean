/-
  aviarylaw01.Of at a plain number; aviaryref01.N, Same; 'fails'. Own work.
-/
import Derived.Test.YtlkfcfcejicdkaaGreatDoorErrAs2
import Derived.Deep.Draws
import Derived.Lib.Hide
import Derived.BigQuiet
import Derived.Deep.RegionWith
import Derived.WalkSpells
set_option linter.unusedSimpArgs false
set_option linter.unusedVariables false
namespace Go.Proofs.YtlkfcfcejicdkaaGreatDoor
open Go.RowKit

/-- The package variable errors.errorType holds error's handle. -/
def ErrT (w : World) : Prop := w.cell? ⟨0, 0, none⟩ = some (.iface 135 (hnd 29))
theorem ErrT.below {w w' : World} (h : ErrT w) (hb : Below w.heap.size w w') : ErrT w' := (hb.cell (World.block_lt_of_cell? w _ h)).trans h
theorem ErrT.at_ {B : Nat} {w w' : World} (h : ErrT w) (hB : B = w.heap.size) (hb : Below B w w') : ErrT w' := h.below (hB ▸ hb)

theorem bchain {w a b : World} (h : Below w.heap.size w a) (k : Below a.heap.size a b) : Below w.heap.size w b := h.trans (k.mono h.size)
theorem eSet {B b i : Nat} {a w : World} (h : Below B a w) (hb : B ≤ b) (v : Value) : Below B a (w.setCell ⟨b, i, none⟩ v) := h.setCell (p := ⟨b, i, none⟩) hb v

set_option maxRecDepth 100000 in
set_option maxHeartbeats 1000000 in
theorem of_errno (n : Int) (w : World) (hg : ErrT w) :
    Calls Tryz.prog 44 #[.iface 41 (.int .i64 n)] w fun e w' => e = .returned (.agg #[.bool true, .slice none 0 0, .int .i64 n]) ∧ Below w.heap.size w w' := by
  have HG := Lib.hid hg
  clear hg
  go_enter Tryz.func44, Tryz.ntmps44
  go_wp2
  refine wp_loop_rounds 1 ?_
  rw [rounds_succ]
  go_wp2_with fail
  refine (as_missEF n _ (.pointer none) _ ?_ ?_ ?_).mono ?_
  · exact HG.out.below ((((Below.refl _ _).alloc (Nat.le_refl _) _).alloc (by simp) _).alloc (by simp; omega) _)
  · rw [World.cell?_alloc_at _ _ _ _ (by simp)]; rfl
  · rw [World.frozen?_alloc_at _ _ _ _ (by simp)]
  rintro e w' ⟨rfl, rfl⟩
  go_wp2_with fail
  refine (as_hitE n _ (.int .i64 0) _ ?_ ?_ ?_).mono ?_
  · refine HG.out.below ?_
    repeat (first | with_reducible exact Below.refl _ _ | refine Below.alloc ?_ (by first | (simp; done) | (simp; omega)) _)
  · rw [World.cell?_alloc_at _ _ _ _ (by simp)]; rfl
  · rw [World.frozen?_alloc_at _ _ _ _ (by simp)]
  rintro e w' ⟨rfl, rfl⟩
  go_wp2
  refine bodyPost_ret (v := .agg #[.bool true, .slice none 0 0, .int .i64 n]) ?_ rfl ?_
  · simp [results, Tryz.results44, go_sem]
  · refine ⟨rfl, ?_⟩

    repeat (first | with_reducible exact Below.refl _ _ | with_reducible refine eSet ?_ (by first | (simp; done) | (simp; omega)) _ | refine Below.alloc ?_ (by first | (simp; done) | (simp; omega)) _)

theorem n_any (n : Int) (w : World) : Calls Tryz.prog 34 #[.int .i64 n] w fun e w' => e = .returned (.agg #[.bool true, .slice none 0 0, .int .i64 n]) ∧ Below w.heap.size w w' := by
  go_enter Tryz.func34, Tryz.ntmps34
  go_wp2
  refine bodyPost_ret (v := .agg #[.bool true, .slice none 0 0, .int .i64 n]) ?_ rfl ?_
  · simp [results, Tryz.results34, go_sem]
  · exact ⟨rfl, (Below.refl _ _).alloc (Nat.le_refl _) _⟩

set_option maxHeartbeats 1000000 in
theorem same_plain (n m : Int) (w : World) : Calls Tryz.prog 43 #[.agg #[.bool true, .slice none 0 0, .int .i64 n], .agg #[.bool true, .slice none 0 0, .int .i64 m]] w
    fun e w' => e = .returned (.bool (decide (n = m))) ∧ Below w.heap.size w w' := by
  have hb : Below w.heap.size w ((w.alloc (.cells #[.bool true, .slice none 0 0, .int .i64 n] 43)).alloc (.cells #[.bool true, .slice none 0 0, .int .i64 m] 43)) := ((Below.refl _ _).alloc (Nat.le_refl _) _).alloc (by simp) _
  by_cases h : n = m
  · subst h
    rw [decide_eq_true rfl]
    go_enter Tryz.func43, Tryz.ntmps43
    go_wp2
    refine wp_loop_rounds 1 ?_
    rw [rounds_succ]
    go_wp2
    go_ret
    exact ⟨rfl, hb⟩
  · rw [decide_eq_false h]
    have h1 : (n != m) = true := by simpa using h
    have h2 : (n == m) = false := by simpa using h
    clear h
    go_enter Tryz.func43, Tryz.ntmps43
    go_wp2
    go_ret
    exact ⟨rfl, hb⟩

set_option maxHeartbeats 1000000 in
theorem fails_plain (n m : Int) (w : World) (hg : ErrT w) : Calls Tryz.prog 20 #[.iface 41 (.int .i64 n), .agg #[.bool true, .slice none 0 0, .int .i64 m]] w
    fun e w' => e = .returned (.bool (decide (n = m))) ∧ Below w.heap.size w w' := by
  have hb : Below w.heap.size w (w.alloc (.cells #[.bool true, .slice none 0 0, .int .i64 m] 43)) := (Below.refl _ _).alloc (Nat.le_refl _) _
  have HG : Hid (ErrT (w.alloc (.cells #[.bool true, .slice none 0 0, .int .i64 m] 43))) := hg.below hb
  have HB := Lib.hid hb
  clear hg hb
  go_enter Tryz.func20, Tryz.ntmps20
  go_wp2_with fail
  go_region_with (first
    | (go_at_call 44; refine (of_errno n _ ?_).mono ?_; (exact HG.out); rintro e w1 ⟨rfl, hb1⟩; have hb1' := Lib.hid hb1; have q0 : w1.cell? ⟨w.heap.size, 0, none⟩ = some (.bool true) := (hb1.cell (p := ⟨w.heap.size, 0, none⟩) (by simp)).trans (by simp); have q1 : w1.cell? ⟨w.heap.size, 1, none⟩ = some (.slice none 0 0) := (hb1.cell (p := ⟨w.heap.size, 1, none⟩) (by simp)).trans (by simp); have q2 : w1.cell? ⟨w.heap.size, 2, none⟩ = some (.int .i64 m) := (hb1.cell (p := ⟨w.heap.size, 2, none⟩) (by simp)).trans (by simp); clear hb1)
    | (go_at_call 43; refine (same_plain n m _).mono ?_; rintro e w2 ⟨rfl, hb2⟩))
  all_goals
    go_wp2
    go_ret
    exact ⟨rfl, bchain (bchain HB.out.drew hb1'.out) hb2⟩
end Go.Proofs.YtlkfcfcejicdkaaGreatDoor
