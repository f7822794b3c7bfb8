/-
  net: place. Own work.
-/
import Derived.Test.YtgibpiakeaplbaaDoorNetInv
set_option linter.unusedSimpArgs false
set_option linter.unusedVariables false
namespace Go.Proofs.YtgibpiakeaplbaaDoor
open Go Go.RowKit

def placeE (S : Int × Int → List Pkt) (k : Int × Int) (i : Int) : Option Int :=
  match wayE k with
  | some e => some e
  | none => if i < 0 ∨ ((S k).length : Int) ≤ i then some 10 else none

theorem NetIn.val {base : Nat} {w : World} {B M c : Nat} {L : List (MEnt (Int × Int))} {S : Int × Int → List Pkt} (h : NetIn base w B M c L S) (k : Int × Int) :
    ∃ A cap, (lkV k L).getD (.slice none 0 0) = .slice A (S k).length cap := by
  have hr := h.row k
  cases hv : lkV k L with
  | none => rw [hv] at hr; exact ⟨none, 0, by rw [show S k = [] from hr]; rfl⟩
  | some v =>
    rw [hv] at hr
    rcases hr.2.2 with ⟨rfl, hn⟩ | ⟨g, cap, cur, rfl, _⟩
    · exact ⟨none, 0, by rw [hn]; rfl⟩
    · exact ⟨_, _, rfl⟩

theorem NetIn.look {base : Nat} {w : World} {B M c : Nat} {L : List (MEnt (Int × Int))} {S : Int × Int → List Pkt} (h : NetIn base w B M c L S) (k : Int × Int) {A : Option Addr} {cap : Nat} (hv : (lkV k L).getD (.slice none 0 0) = .slice A (S k).length cap) :
    (Instr.lookup 60 (.map (some M)) (.agg #[.int .i64 k.1, .int .i64 k.2]) false).run Tryd.prog w = .ok (.slice A (S k).length cap) w := by
  rw [← hv]
  exact run_look way_keys Tryd.underlying60 rows_zero h.map k

theorem box2 {w w1 : World} {a b : Value} {t : TypeId} (hb : Below (w.alloc (.cells #[a, b] t)).heap.size (w.alloc (.cells #[a, b] t)) w1) : w1.cell? ⟨w.heap.size, 0, none⟩ = some a ∧ w1.cell? ⟨w.heap.size, 1, none⟩ = some b := by
  have h : w1.heap[w.heap.size]? = some (.cells #[a, b] t) := (hb.block _ (by simp)).trans (heap_alloc_new _ _)
  simp [World.cell?, h]
theorem drewN_below (w : World) (n : Nat) : Below w.heap.size w (w.drewN n) := by
  induction n with
  | zero => exact Below.refl _ _
  | succ n ih => exact ⟨rfl, rfl, rfl, Nat.le_refl _, fun _ _ => rfl⟩

theorem place_nil (k : Int × Int) (i : Int) (w : World) : Calls Tryd.prog 30 #[.pointer none, .agg #[.int .i64 k.1, .int .i64 k.2], .int .i64 i] w fun e w' => e = .returned (errV (some 19)) ∧ Below w.heap.size w w' := by
  have hc := fun W => check_nil k W
  simp only [errV] at hc ⊢
  go_enter Tryd.func30, Tryd.ntmps30
  go_wp2_with (go_at_call 26; refine (hc _).mono ?_; rintro e w1 ⟨rfl, hb⟩)
  go_ret
  exact ⟨rfl, ((Below.refl _ _).alloc (Nat.le_refl _) _).trans (hb.mono (by simp))⟩

theorem place_any (base B : Nat) (S : Int × Int → List Pkt) (k : Int × Int) (i : Int) (w : World) (hn : NetAt base w B S) : Calls Tryd.prog 30 #[.pointer (some ⟨B, 0, none⟩), .agg #[.int .i64 k.1, .int .i64 k.2], .int .i64 i] w fun e w' => e = .returned (errV (placeE S k i)) ∧ Below w.heap.size w w' := by
  have hc := fun W => check_any B k W
  rcases hw : wayE k with _ | ec
  · have hc' : ∀ W, Calls Tryd.prog 26 #[.pointer (some ⟨B, 0, none⟩), .agg #[.int .i64 k.1, .int .i64 k.2]] W fun e w' => e = .returned .nilIface ∧ Below W.heap.size W w' := fun W => by simpa [hw, errV] using hc W
    obtain ⟨M, c, L, hin⟩ := hn
    obtain ⟨A, cap, hv⟩ := hin.val k
    have hlen : (S k).length ≤ 1024 := hin.most k
    generalize hS : (S k).length = n at hv hlen
    have HIN := Lib.hid hin
    have HV := Lib.hid hv
    have HS := Lib.hid hS
    obtain ⟨r, e, hcase⟩ : ∃ r, placeE S k i = r ∧ ((r = some 10 ∧ i < 0) ∨ (r = some 10 ∧ ¬ i < 0 ∧ (n : Int) ≤ i) ∨ (r = none ∧ ¬ i < 0 ∧ ¬ (n : Int) ≤ i)) := by
      refine ⟨_, rfl, ?_⟩
      simp only [placeE, hw, hS]
      by_cases h1 : i < 0
      · simp [h1]
      · by_cases h2 : (n : Int) ≤ i
        · simp [h1, h2]
        · simp [h1, h2]
    rw [e]
    clear hc hv hin e hS
    rcases hcase with ⟨rfl, h1⟩ | ⟨rfl, h1, h2⟩ | ⟨rfl, h1, h2⟩
    all_goals
      go_enter Tryd.func30, Tryd.ntmps30
      go_wp2_with fail
      refine (hc' _).mono ?_
      rintro e w1 ⟨rfl, hb⟩
      have hb1 : Hid (Below w.heap.size w w1) := ((Below.refl _ _).alloc (Nat.le_refl _) _).trans (hb.mono (by simp))
      have hbx := box2 hb
      have c0 := hbx.1
      have c1 := hbx.2
      have hin1 := HIN.out.below hb1.out
      have k0 := hin1.cell
      have hl : ∀ j, (Instr.lookup 60 (.map (some M)) (.agg #[.int .i64 k.1, .int .i64 k.2]) false).run Tryd.prog (w1.drewN j) = .ok (.slice A n cap) (w1.drewN j) := fun j => by
        have h := (hin1.below (drewN_below w1 j)).look k (HV.out.trans (by rw [HS.out]))
        rw [HS.out] at h
        exact h
      clear hb hin1 hbx
      go_wp2
      go_quiet (fail)
      go_wp2
      go_ret
      exact ⟨rfl, hb1.out.trans ((drewN_below _ _).mono hb1.out.size)⟩
  · have hc' : ∀ W, Calls Tryd.prog 26 #[.pointer (some ⟨B, 0, none⟩), .agg #[.int .i64 k.1, .int .i64 k.2]] W fun e w' => e = .returned (.iface 39 (.int .i64 ec)) ∧ Below W.heap.size W w' := fun W => by simpa [hw, errV] using hc W
    have e : placeE S k i = some ec := by simp [placeE, hw]
    rw [e]
    clear hc
    go_enter Tryd.func30, Tryd.ntmps30
    go_wp2_with (go_at_call 26; refine (hc' _).mono ?_; rintro e w1 ⟨rfl, hb⟩)
    go_ret
    exact ⟨rfl, ((Below.refl _ _).alloc (Nat.le_refl _) _).trans (hb.mono (by simp))⟩
end Go.Proofs.YtgibpiakeaplbaaDoor
