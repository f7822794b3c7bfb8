/-
  The box: Fetch. Own work.
-/
import Derived.Test.YthapeellcbeecaaDoorBoxOffer2
import Derived.Laws.ResultCell
set_option linter.unusedSimpArgs false
set_option linter.unusedVariables false
namespace Go.Proofs.YthapeellcbeecaaDoor
open Go Go.RowKit

theorem belowN {B : Nat} {a w : World} (h : Below B a w) (n : Nat) : Below B a (w.drewN n) := ⟨h.os, h.tape, h.output, h.size, h.block⟩

theorem belowSet {B b i : Nat} {a w : World} (h : Below B a w) (hb : B ≤ b) (v : Value) : Below B a (w.setCell ⟨b, i, none⟩ v) := h.setCell (p := ⟨b, i, none⟩) hb v

theorem entCells_at (l : List BEnt) (j : Nat) (x : BEnt) (h : l[j]? = some x) (i : Nat) (u : Value) (hu : x.cells[i]? = some u) : (entCells l)[j * 5 + i]? = some u := by
  have hi : i < 5 := by have := (List.getElem?_eq_some_iff.1 hu).1; simpa [BEnt.cells] using this
  induction l generalizing j with
  | nil => simp at h
  | cons y l ih =>
    have e : entCells (y :: l) = y.cells ++ entCells l := by simp [entCells]
    have hy : y.cells.length = 5 := rfl
    rw [e]
    cases j with
    | zero =>
      simp at h
      subst h
      rw [List.getElem?_append_left (by omega)]
      simpa using hu
    | succ j =>
      rw [List.getElem?_append_right (by omega)]
      have : (j + 1) * 5 + i - y.cells.length = j * 5 + i := by omega
      rw [this]
      exact ih j (by simpa using h)

/-- What the box holds at place j, cell by cell. -/
theorem BoxIn.entry {base : Nat} {w : World} {B M c : Nat} {wv : Value} {s : BoxSt} (h : BoxIn base w B M wv c s) (j : Nat) (x : BEnt) (hx : s.ents[j]? = some x) :
    ∃ g cap, wv = .slice (some ⟨g, 0, none⟩) s.ents.length cap ∧ s.ents.length ≤ cap ∧ cap ≤ maxLen ∧ ∀ i u, x.cells[i]? = some u → w.cell? ⟨g, j * 5 + i, none⟩ = some u := by
  have hj := (List.getElem?_eq_some_iff.1 hx).1
  rcases h.row.2 with ⟨_, hn⟩ | ⟨g, cap, cur, rfl, hb, hh, h1, h2, h3⟩
  · omega
  · refine ⟨g, cap, rfl, h1, h2, fun i u hu => ?_⟩
    have := h.row.cells (g := g) rfl (j * 5 + i) u (entCells_at s.ents j x hx i u hu)
    rw [Addr.add_lit, Nat.zero_add] at this
    exact this

def FetchPost (base : Nat) (w : World) (B : Nat) (s : BoxSt) (x : BEnt) (e : Ending) (w' : World) : Prop :=
  ∃ A n c, e = .returned (.tuple #[.agg #[.int .i64 x.num, .int .i64 x.node, .int .i64 x.pub, .int .i64 x.idx, .slice A n c], .nilIface]) ∧ Below w.heap.size w w'

set_option maxHeartbeats 400000 in
theorem fetch_err (base B : Nat) (s : BoxSt) (w : World) (hbx : BoxAt base w B s) (k : Int) (hf0 : 0 ≤ s.first) (hf1 : s.first ≤ 1000000) (hn1 : s.ents.length ≤ 1000000) (hk : k < s.first ∨ s.first + s.ents.length < k) :
    Calls Tryd.prog 11 #[.pointer (some ⟨B, 0, none⟩), .int .i64 k] w fun e w' => e = .returned (.tuple #[.agg #[.int .i64 0, .int .i64 0, .int .i64 0, .int .i64 0, .slice none 0 0], .iface 42 (.int .i64 1)]) ∧ Below w.heap.size w w' := by
  obtain ⟨M, wv, c0, hin⟩ := hbx
  have ha : Below w.heap.size w (w.alloc (.cells #[.int .i64 0, .int .i64 0, .int .i64 0, .int .i64 0, .slice none 0 0] 37)) := (Below.refl _ _).alloc (Nat.le_refl _) _
  have hin1 := hin.below ha
  obtain ⟨A0, cc, rfl⟩ := hin.slice
  have k1 := hin1.cell 1
  have k2 := hin1.cell 2
  have hc := there_no B s.ents.length cc A0 s.first k _ k1 k2 hf0 hf1 hn1 hk
  have HC := Lib.hid hc
  clear k1 k2 hc hin hin1 hk
  go_enter Tryd.func11, Tryd.ntmps11
  go_wp2_with (go_at_call 16; refine HC.out.mono ?_; rintro e w' ⟨rfl, k', rfl⟩)
  refine bodyPost_ret (v := .tuple #[.agg #[.int .i64 0, .int .i64 0, .int .i64 0, .int .i64 0, .slice none 0 0], .iface 42 (.int .i64 1)]) ?_ rfl ?_
  · simp [results, Tryd.results11, go_sem]
  · refine ⟨rfl, ?_⟩
    clear HC
    repeat (first | with_reducible refine belowSet ?_ (Nat.le_refl _) _ | with_reducible refine belowN ?_ _ | with_reducible exact ha)

/-- slices.Clone at an event that a box holds. -/
theorem clone_evok (base : Nat) (w : World) (A : Option Addr) (n c : Nat) (h : EvOK base w (.slice A n c)) :
    Calls Tryd.prog 15 #[.slice A n c] w fun e w' => ∃ A' n' c', e = .returned (.slice A' n' c') ∧ Below w.heap.size w w' := by
  obtain ⟨m, xs, hm, hown, hone⟩ := h
  have hl := hown.1
  have hfin : ∀ (hA0 : A = none → m = 0) (hc : ∀ ad, A = some ad → ∀ j u, xs[j]? = some u → w.cell? (ad.add j) = some u) (hnm : n = m), Calls Tryd.prog 15 #[.slice A n c] w fun e w' => ∃ A' n' c', e = .returned (.slice A' n' c') ∧ Below w.heap.size w w' := by
    intro hA0 hc hnm
    subst hnm
    refine (cloneEv_any A n c xs w hl (Nat.le_trans hm (by decide)) (Nat.le_trans (Nat.mul_le_mul_right 56 hm) (by decide)) hA0 hc hone).mono ?_
    rintro e w' ⟨v, rfl, ho, hb, _⟩
    obtain ⟨A9, c9, rfl⟩ := own_shape ho
    exact ⟨A9, _, c9, rfl, hb⟩
  rcases hown.2 with ⟨hv, hn⟩ | ⟨g, cap, cur, hv, _⟩
  · injection hv with h1 h2 h3
    exact hfin (fun _ => hn) (fun ad h => by rw [h1] at h; cases h) (by omega)
  · injection hv with h1 h2 h3
    subst h1 h2 h3
    refine hfin (fun h => by cases h) (fun ad h j u hu => ?_) rfl
    cases h
    exact hown.cells (g := g) rfl j u hu

set_option maxHeartbeats 1000000 in
theorem fetch_ok (base B : Nat) (s : BoxSt) (w : World) (hbx : BoxAt base w B s) (k : Int) (j : Nat) (x : BEnt) (hx : s.ents[j]? = some x) (hkj : k = s.first + j) (hf0 : 0 ≤ s.first) (hf1 : s.first ≤ 1000000) (hn1 : s.ents.length ≤ 1000000) :
    Calls Tryd.prog 11 #[.pointer (some ⟨B, 0, none⟩), .int .i64 k] w (FetchPost base w B s x) := by
  obtain ⟨M, wv, c0, hin⟩ := hbx
  have hev := hin.evs x (List.mem_of_getElem? hx)
  have hj := (List.getElem?_eq_some_iff.1 hx).1
  have ha : Below w.heap.size w (w.alloc (.cells #[.int .i64 0, .int .i64 0, .int .i64 0, .int .i64 0, .slice none 0 0] 37)) := (Below.refl _ _).alloc (Nat.le_refl _) _
  have hin1 := hin.below ha
  obtain ⟨g, cap, rfl, hcap, hcm, hent⟩ := hin1.entry j x hx
  have k1 : (w.alloc (.cells #[.int .i64 0, .int .i64 0, .int .i64 0, .int .i64 0, .slice none 0 0] 37)).cell? ⟨B, 1, none⟩ = some (.int .i64 s.first) := by rw [hin1.cell 1]; rfl
  have k2 : (w.alloc (.cells #[.int .i64 0, .int .i64 0, .int .i64 0, .int .i64 0, .slice none 0 0] 37)).cell? ⟨B, 2, none⟩ = some (.slice (some ⟨g, 0, none⟩) s.ents.length cap) := by rw [hin1.cell 2]; rfl
  have hc := there_ok B s.ents.length cap (some ⟨g, 0, none⟩) s.first k _ k1 k2 hf0 hf1 hn1 (by omega) (by omega)
  have HC := Lib.hid hc
  have e0 := hent 0 _ rfl
  have e1 := hent 1 _ rfl
  have e2 := hent 2 _ rfl
  have e3 := hent 3 _ rfl
  have e4 := hent 4 _ rfl
  clear hc hent
  obtain ⟨num, node, pub, idx, ev⟩ := x
  simp only at e0 e1 e2 e3 e4 hev
  obtain ⟨n9, A9, c9, rfl⟩ : ∃ n9 A9 c9, ev = .slice A9 n9 c9 := by
    obtain ⟨n9, xs, _, h, _⟩ := hev
    obtain ⟨A9, c9, h⟩ := own_shape h
    exact ⟨n9, A9, c9, h⟩
  have hne : (k == s.first + (s.ents.length : Int)) = false := by simp; omega
  have hwr : IntKind.i64.wrap (k - s.first) = (j : Int) := by rw [IntKind.wrap_i64]; omega
  have hj0 : (0 : Int) ≤ (j : Int) := Int.natCast_nonneg _
  have hj1 : (j : Int) < (s.ents.length : Int) := by omega
  have HK : Hid (k = s.first + j) := hkj
  clear hkj
  go_enter Tryd.func11, Tryd.ntmps11
  go_wp2_with (first | (go_at_call 16; refine HC.out.mono ?_; rintro e w' ⟨rfl, k', rfl⟩) | (go_at_call 7; refine (next_any B s.ents.length cap (some ⟨g, 0, none⟩) s.first _ ?_ ?_ hf0 hf1 hn1).mono ?_; (simp [*]); (simp [*]); rintro e w' ⟨rfl, k2', rfl⟩))
  obtain ⟨W, hW⟩ : ∃ W, W = (w.alloc (.cells #[.int .i64 0, .int .i64 0, .int .i64 0, .int .i64 0, .slice none 0 0] 37)).drewN (k' + k2') := ⟨_, rfl⟩
  have HBW : Hid (Below w.heap.size w W) := by rw [hW]; exact belowN ha _
  have hsz : Hid (W.heap.size = w.heap.size + 1) := by rw [hW]; simp [Hid]
  have hzero : Hid (W.heap[w.heap.size]? = some (.cells #[.int .i64 0, .int .i64 0, .int .i64 0, .int .i64 0, .slice none 0 0] 37 (0, 0))) := by rw [hW]; exact heap_alloc_new w _
  have HEV : Hid (EvOK base W (.slice A9 n9 c9)) := hev.below HBW.out
  rw [← hW]
  replace k1 : W.cell? ⟨B, 1, none⟩ = some (.int .i64 s.first) := by rw [hW]; exact k1
  replace k2 : W.cell? ⟨B, 2, none⟩ = some (.slice (some ⟨g, 0, none⟩) s.ents.length cap) := by rw [hW]; exact k2
  replace e0 : W.cell? ⟨g, j * 5 + 0, none⟩ = some (.int .i64 num) := by rw [hW]; exact e0
  replace e1 : W.cell? ⟨g, j * 5 + 1, none⟩ = some (.int .i64 node) := by rw [hW]; exact e1
  replace e2 : W.cell? ⟨g, j * 5 + 2, none⟩ = some (.int .i64 pub) := by rw [hW]; exact e2
  replace e3 : W.cell? ⟨g, j * 5 + 3, none⟩ = some (.int .i64 idx) := by rw [hW]; exact e3
  replace e4 : W.cell? ⟨g, j * 5 + 4, none⟩ = some (.slice A9 n9 c9) := by rw [hW]; exact e4
  rw [Nat.add_zero] at e0
  clear hW ha HC
  have n1 := World.new_ne W _ k1
  have n2 := World.new_ne W _ k2
  have m0 := World.new_ne W _ e0
  have m1 := World.new_ne W _ e1
  have m2 := World.new_ne W _ e2
  have m3 := World.new_ne W _ e3
  have m4 := World.new_ne W _ e4
  go_region_held3 (fun w' => w'.cell? ⟨B, 1, none⟩ = some (.int .i64 s.first) ∧ w'.cell? ⟨B, 2, none⟩ = some (.slice (some ⟨g, 0, none⟩) s.ents.length cap) ∧ w'.cell? ⟨g, j * 5, none⟩ = some (.int .i64 num) ∧
    w'.cell? ⟨g, j * 5 + 1, none⟩ = some (.int .i64 node) ∧ w'.cell? ⟨g, j * 5 + 2, none⟩ = some (.int .i64 pub) ∧ w'.cell? ⟨g, j * 5 + 3, none⟩ = some (.int .i64 idx) ∧ w'.cell? ⟨g, j * 5 + 4, none⟩ = some (.slice A9 n9 c9)) (go_keep) (fail)
  have HEV2 : Hid (∀ o, EvOK base (W.alloc o).drew (.slice A9 n9 c9)) := fun o => HEV.out.below (((Below.refl _ _).alloc (Nat.le_refl _) _).drew)
  clear n1 n2 m0 m1 m2 m3 m4 e0 e1 e2 e3 e4 k1 k2 HEV
  go_wp2_with fail
  refine (clone_evok base _ A9 n9 c9 (HEV2.out _)).mono ?_
  rintro e w3 ⟨A', n', c', rfl, hb3⟩
  have hb7 : w3.heap[W.heap.size]? = some (.cells #[.int .i64 num, .int .i64 node, .int .i64 pub, .int .i64 idx, .slice A9 n9 c9] 37 (0, 0)) := (hb3.block W.heap.size (by simp)).trans (heap_alloc_new W _)
  have hb4 : w3.heap[w.heap.size]? = some (.cells #[.int .i64 0, .int .i64 0, .int .i64 0, .int .i64 0, .slice none 0 0] 37 (0, 0)) :=
    (hb3.block w.heap.size (by have := hsz.out; simp; omega)).trans ((Below.heap_alloc W _ w.heap.size (by have := hsz.out; omega)).trans hzero.out)
  have HB3 : Hid (Below w.heap.size w w3) := (HBW.out.trans (((Below.refl w.heap.size W).alloc HBW.out.size _).drew)).trans (hb3.mono (by have := HBW.out.size; simp; omega))
  have q0 : w3.cell? ⟨W.heap.size, 0, none⟩ = some (.int .i64 num) := by simp [World.cell?, hb7]
  have q1 : w3.cell? ⟨W.heap.size, 1, none⟩ = some (.int .i64 node) := by simp [World.cell?, hb7]
  have q2 : w3.cell? ⟨W.heap.size, 2, none⟩ = some (.int .i64 pub) := by simp [World.cell?, hb7]
  have q3 : w3.cell? ⟨W.heap.size, 3, none⟩ = some (.int .i64 idx) := by simp [World.cell?, hb7]
  have q4 : w3.cell? ⟨W.heap.size, 4, none⟩ = some (.slice A9 n9 c9) := by simp [World.cell?, hb7]
  have qf : ∀ i, w3.frozen? ⟨W.heap.size, i, none⟩ = false := fun i => by simp [World.frozen?, hb7]
  have r0 : w3.cell? ⟨w.heap.size, 0, none⟩ = some (.int .i64 0) := by simp [World.cell?, hb4]
  have r1 : w3.cell? ⟨w.heap.size, 1, none⟩ = some (.int .i64 0) := by simp [World.cell?, hb4]
  have r2 : w3.cell? ⟨w.heap.size, 2, none⟩ = some (.int .i64 0) := by simp [World.cell?, hb4]
  have r3 : w3.cell? ⟨w.heap.size, 3, none⟩ = some (.int .i64 0) := by simp [World.cell?, hb4]
  have r4 : w3.cell? ⟨w.heap.size, 4, none⟩ = some (.slice none 0 0) := by simp [World.cell?, hb4]
  have rf : ∀ i, w3.frozen? ⟨w.heap.size, i, none⟩ = false := fun i => by simp [World.frozen?, hb4]
  have hne1 : ¬ (W.heap.size = w.heap.size) := by have := hsz.out; omega
  have hne2 : ¬ (w.heap.size = W.heap.size) := fun e => hne1 e.symm
  clear hb7 hb4 hb3
  go_wp2
  refine bodyPost_ret (v := .tuple #[.agg #[.int .i64 num, .int .i64 node, .int .i64 pub, .int .i64 idx, .slice A' n' c'], .nilIface]) ?_ rfl ?_
  · simp [results, Tryd.results11, go_sem, q0, q1, q2, q3, q4, r0, r1, r2, r3, r4, qf, rf, hne1, hne2]
  · refine ⟨_, _, _, rfl, ?_⟩
    have hle := HBW.out.size
    repeat (first | with_reducible refine belowSet ?_ (Nat.le_refl _) _ | with_reducible refine belowSet ?_ hle _ | with_reducible refine belowN ?_ _ | with_reducible exact HB3.out)

end Go.Proofs.YthapeellcbeecaaDoor
