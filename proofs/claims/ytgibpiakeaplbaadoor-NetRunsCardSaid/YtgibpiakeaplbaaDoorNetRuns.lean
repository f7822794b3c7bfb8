/-
  net: the law NetRuns, walked. Own work.
-/
import Derived.Test.YtgibpiakeaplbaaDoorNetStep2
set_option linter.unusedSimpArgs false
set_option linter.unusedVariables false
namespace Go.Proofs.YtgibpiakeaplbaaDoor
open Go Go.RowKit

/-- A call that the law is handed. -/
structure NOp where
  kind : Int
  k1 : Int
  k2 : Int
  i : Int
  A : Option Addr
  c : Nat
  p : List UInt8
def NOps (w : World) (A : Option Addr) (l : List NOp) : Prop := ∀ j o, l[j]? = some o → ∃ g off, A = some ⟨g, off, none⟩ ∧ w.cell? ⟨g, off + j * 5, none⟩ = some (.int .i64 o.kind) ∧ w.cell? ⟨g, off + j * 5 + 1, none⟩ = some (.int .i64 o.k1) ∧ w.cell? ⟨g, off + j * 5 + 2, none⟩ = some (.int .i64 o.k2) ∧ w.cell? ⟨g, off + j * 5 + 3, none⟩ = some (.int .i64 o.i) ∧ w.cell? ⟨g, off + j * 5 + 4, none⟩ = some (.slice o.A o.p.length o.c) ∧ BytesAt w o.A o.p ∧ o.p.length ≤ 140737488351232

theorem StepIn.below {w0 : World} {base B : Nat} {w w' : World} {lb : List PB} {A : Option Addr} {n c : Nat} (h : StepIn w0 base B w lb A n c) (hb : Below w.heap.size w w') : StepIn w0 base B w' lb A n c :=
  ⟨h.ref.below hb, h.net.below hb, h.old.trans (hb.mono h.old.size), h.low, Nat.le_trans h.sz hb.size, h.err, h.few⟩

set_option maxHeartbeats 4000000 in
theorem runs_in (A : Option Addr) (n c : Nat) (l : List NOp) (hl : l.length = n) (w : World) (hA : NOps w A l) (hT : ErrT w) (hn : ¬ 120 < n) :
    Calls Tryd.prog 3 #[.slice A n c] w fun e w' => e = .returned (.bool true) ∧ Below w.heap.size w w' := by
  have d : decide ((n : Int) > 120) = false := by rw [decide_eq_false_iff_not]; omega
  have HN : Hid (n ≤ 120 ∧ l.length = n) := ⟨by omega, hl⟩
  have HA := Lib.hid hA
  have HT := Lib.hid hT
  clear hA hT hn hl
  go_enter Tryd.func3, Tryd.ntmps3
  go_wp2_with fail
  refine (awake_any _).mono ?_
  rintro e w1 ⟨rfl, hb⟩
  have hb1 := Lib.hid hb
  clear hb
  go_wp2_with fail
  refine (newNet_any _).mono ?_
  rintro e w' ⟨rfl, rfl⟩
  obtain ⟨w2, hw2⟩ : ∃ w2, w2 = (w1.alloc (.map #[] 0)).alloc (.cells #[.map (some w1.heap.size)] 62) := ⟨_, rfl⟩
  have H2 : Hid (StepIn w w1.heap.size (w1.heap.size + 1) w2 [] none 0 0) := by
    have hb : Below w1.heap.size w1 w2 := by rw [hw2]; exact ((Below.refl _ _).alloc (Nat.le_refl _) _).alloc (by simp) _
    refine ⟨RefAt.nil0 w w2, ?_, hb1.out.trans (hb.mono hb1.out.size), hb1.out.size, hb.size, HT.out, by omega⟩
    rw [hw2]
    have := netB_new w1
    have e : (fun _ => [] : Lines) = linesOf [] := by funext k'; rfl
    rwa [e] at this
  rw [← hw2]
  clear hw2
  go_wp2
  go_loopw [4, 17] (fun t u wr => ∃ (j : Nat) (A4 : Option Addr) (n4 c4 : Nat) (lb : List PB), j ≤ n ∧ u = .int .i64 j ∧ t = .slice A4 n4 c4 ∧ Hid (StepIn w w1.heap.size (w1.heap.size + 1) wr lb A4 n4 c4 ∧ n4 ≤ j)) (fun _ u _ => n - (intOf u).toNat)
  case atStart => exact ⟨0, none, 0, 0, [], Nat.zero_le _, rfl, rfl, H2.out, Nat.le_refl _⟩
  case round =>
    obtain ⟨j, A4, n4, c4, lb, hj, rfl, rfl, HS⟩ := hrel
    by_cases hlt : j < n
    · obtain ⟨o, ho⟩ : ∃ o, Hid (l[j]? = some o) := ⟨_, List.getElem?_eq_getElem (by have := HN.out; omega)⟩
      obtain ⟨g, off, rfl, d0, d1, d2, d3, d4, dby, dlen⟩ := HA.out j o ho.out
      have hold := HS.out.1.old
      have hg : g < w.heap.size := World.block_lt_of_cell? w _ d0
      replace d0 := (hold.cell (p := ⟨g, off + j * 5, none⟩) hg).trans d0
      replace d1 := (hold.cell (p := ⟨g, off + j * 5 + 1, none⟩) hg).trans d1
      replace d2 := (hold.cell (p := ⟨g, off + j * 5 + 2, none⟩) hg).trans d2
      replace d3 := (hold.cell (p := ⟨g, off + j * 5 + 3, none⟩) hg).trans d3
      replace d4 := (hold.cell (p := ⟨g, off + j * 5 + 4, none⟩) hg).trans d4
      obtain ⟨np, hnp⟩ : ∃ np, Hid (o.p.length = np ∧ np ≤ 140737488351232) := ⟨_, rfl, dlen⟩
      rw [hnp.out.1] at d4
      have HBY := Lib.hid dby
      have hw1 : IntKind.i64.wrap ((j : Int) + 1) = ((j + 1 : Nat) : Int) := by have := HN.out; rw [IntKind.wrap_i64]; omega
      have hlt2 : ((j : Nat) : Int) < n := by omega
      have hj0 : ((0 : Int) ≤ j) := by omega
      obtain ⟨kd, hkd⟩ : ∃ z, Hid (o.kind = z) := ⟨_, rfl⟩
      obtain ⟨k1, hk1⟩ : ∃ z, Hid (o.k1 = z) := ⟨_, rfl⟩
      obtain ⟨k2, hk2⟩ : ∃ z, Hid (o.k2 = z) := ⟨_, rfl⟩
      obtain ⟨i, hi⟩ : ∃ z, Hid (o.i = z) := ⟨_, rfl⟩
      obtain ⟨Ap, hAp⟩ : ∃ z, Hid (o.A = z) := ⟨_, rfl⟩
      obtain ⟨cp, hcp⟩ : ∃ z, Hid (o.c = z) := ⟨_, rfl⟩
      rw [hkd.out] at d0
      rw [hk1.out] at d1
      rw [hk2.out] at d2
      rw [hi.out] at d3
      rw [hAp.out, hcp.out] at d4
      rw [hAp.out] at HBY
      have HSTEP : Hid (∀ W, Below wr.heap.size wr W → Calls Tryd.prog 9 #[.pointer (some ⟨w1.heap.size + 1, 0, none⟩), .slice A4 n4 c4, .agg #[.int .i64 kd, .int .i64 k1, .int .i64 k2, .int .i64 i, .slice Ap np cp]] W fun e w' => ∃ A' n' c' lb', e = .returned (.tuple #[.slice A' n' c', .bool true]) ∧ Hid (StepIn w w1.heap.size (w1.heap.size + 1) w' lb' A' n' c' ∧ n' ≤ j + 1)) := fun W hW => by
        have hin := HS.out.1.below hW
        refine (step_any w w1.heap.size (w1.heap.size + 1) W lb A4 n4 c4 kd k1 k2 i Ap np cp o.p hnp.out.1 hnp.out.2 hin HBY.out).mono ?_
        rintro e w' ⟨A', n', c', lb', rfl, h⟩
        have hh := h.out
        have hj9 := HS.out.2
        have hn9 := HN.out
        exact ⟨A', n', c', lb', rfl, ⟨hh.2.1, hh.2.2.1, hin.old.trans (hh.2.2.2.mono hin.low), hin.low, Nat.le_trans hin.sz hh.2.2.2.size, hin.err, by omega⟩, by omega⟩
      clear dby dlen hold hg HBY
      go_wp2_with (go_at_call 9; refine (HSTEP.out _ ((Below.refl _ _).alloc (Nat.le_refl _) _)).mono ?_; rintro e w5 ⟨A', n', c', lb', rfl, H5⟩)
      exact ⟨⟨j + 1, A', n', c', lb', hlt, rfl, rfl, H5.out⟩, by simp [intOf]; omega⟩
    · have hjn : j = n := by omega
      subst hjn
      obtain ⟨lr, hl1, hl2, hl3⟩ := HS.out.1.ref.pack
      have HWY : Hid (Calls Tryd.prog 10 #[.pointer (some ⟨w1.heap.size + 1, 0, none⟩), .slice A4 n4 c4] wr fun e w' => e = .returned (.bool true) ∧ Hid (Below w.heap.size w w')) := by
        refine (lawways_any w1.heap.size (w1.heap.size + 1) (linesOf lb) wr HS.out.1.net HS.out.1.sz A4 n4 c4 lr hl1 (by have := HS.out.1.few; omega) hl2 hl3).mono ?_
        rintro e w' ⟨rfl, hb⟩
        exact ⟨rfl, HS.out.1.old.trans (hb.mono HS.out.1.old.size)⟩
      clear hl1 hl2 hl3
      go_wp2_with (go_at_call 10; refine HWY.out.mono ?_; rintro e w5 ⟨rfl, H5⟩)
      go_ret
      exact ⟨rfl, H5.out⟩

theorem runs_any (A : Option Addr) (c : Nat) (l : List NOp) (w : World) (hA : NOps w A l) (hT : ErrT w) :
    Calls Tryd.prog 3 #[.slice A l.length c] w fun e w' => e = .returned (.bool true) ∧ Below w.heap.size w w' := by
  by_cases h : 120 < l.length
  · have d : decide ((l.length : Int) > 120) = true := by rw [decide_eq_true_iff]; omega
    obtain ⟨n, hn⟩ : ∃ n, Hid (l.length = n) := ⟨_, rfl⟩
    rw [hn.out] at d ⊢
    clear h hA hT
    go_enter Tryd.func3, Tryd.ntmps3
    go_wp2_with (go_at_call 7; refine (awake_any _).mono ?_; rintro e w1 ⟨rfl, hb⟩)
    go_ret
    exact ⟨rfl, hb⟩
  · exact runs_in A _ c l rfl w hA hT h
end Go.Proofs.YtgibpiakeaplbaaDoor
