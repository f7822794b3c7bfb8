/-
  The reference's Check and place; the place of a way's packet in the list of all. Own work.
-/
import Derived.Test.YtgibpiakeaplbaaDoorNetLawWays
import Derived.Test.YtgibpiakeaplbaaDoorNetFull0
import Derived.Test.YtgibpiakeaplbaaDoorNetLine
set_option linter.unusedSimpArgs false
set_option linter.unusedVariables false
namespace Go.Proofs.YtgibpiakeaplbaaDoor
open Go Go.RowKit

/-- An answer's error as the reference tells it. -/
def eV (o : Option Int) : Value := match o with
  | none => .agg #[.bool false, .slice none 0 0, .int .i64 0]
  | some n => .agg #[.bool true, .slice none 0 0, .int .i64 n]
def eCells (o : Option Int) : Array Value := match o with
  | none => #[.bool false, .slice none 0 0, .int .i64 0]
  | some n => #[.bool true, .slice none 0 0, .int .i64 n]

/-- A box of such an error. -/
def EBox (w : World) (g : Nat) (o : Option Int) : Prop := w.heap[g]? = some (.cells (eCells o) 41 (0, 0))
theorem EBox.c0 {w : World} {g : Nat} {o : Option Int} (h : EBox w g o) : w.cell? ⟨g, 0, none⟩ = some (.bool o.isSome) := by
  unfold EBox at h; cases o <;> simp [World.cell?, h, eCells]
theorem EBox.c1 {w : World} {g : Nat} {o : Option Int} (h : EBox w g o) : w.cell? ⟨g, 1, none⟩ = some (.slice none 0 0) := by
  unfold EBox at h; cases o <;> simp [World.cell?, h, eCells]
theorem EBox.c2 {w : World} {g : Nat} {o : Option Int} (h : EBox w g o) : w.cell? ⟨g, 2, none⟩ = some (.int .i64 (o.getD 0)) := by
  unfold EBox at h; cases o <;> simp [World.cell?, h, eCells]
theorem EBox.free {w : World} {g : Nat} {o : Option Int} (h : EBox w g o) (i : Nat) : w.frozen? ⟨g, i, none⟩ = false := by
  unfold EBox at h; simp [World.frozen?, h]
theorem EBox.below {w w' : World} {g : Nat} {o : Option Int} (h : EBox w g o) (hb : Below w.heap.size w w') : EBox w' g o :=
  (hb.block g (Array.getElem?_eq_some_iff.1 h).1).trans h
theorem eV_eq (o : Option Int) : eV o = .agg #[.bool o.isSome, .slice none 0 0, .int .i64 (o.getD 0)] := by cases o <;> rfl

theorem belowSet' {B b i : Nat} {a w : World} (h : Below B a w) (hb : B ≤ b) (v : Value) : Below B a (w.setCell ⟨b, i, none⟩ v) := h.setCell (p := ⟨b, i, none⟩) hb v

theorem check_bad (v : Value) (k1 k2 : Int) (w : World) (h : nodeB k1 = false ∨ (nodeB k1 = true ∧ nodeB k2 = false) ∨ (nodeB k1 = true ∧ nodeB k2 = true ∧ k1 = k2)) : Calls Tryd.prog 37 #[v, .int .i64 k1, .int .i64 k2] w fun e w' => e = .returned (eV (some 12)) ∧ Below w.heap.size w w' := by
  have hn1 := fun W => (node_ref k1 W).mono (fun e w' h => And.intro h.1 h.2.symm)
  have hn2 := fun W => (node_ref k2 W).mono (fun e w' h => And.intro h.1 h.2.symm)
  have HZ : Hid (∀ W, Below (w.alloc (.cells #[.bool false, .slice none 0 0, .int .i64 0] 41)).heap.size (w.alloc (.cells #[.bool false, .slice none 0 0, .int .i64 0] 41)) W → EBox W w.heap.size none ∧ Below w.heap.size w W) := fun W hW =>
    ⟨EBox.below (show EBox (w.alloc (.cells #[.bool false, .slice none 0 0, .int .i64 0] 41)) w.heap.size none from heap_alloc_new w _) hW, ((Below.refl _ _).alloc (Nat.le_refl _) _).trans (hW.mono (by simp))⟩
  rcases h with h1 | ⟨h1, h2⟩ | ⟨h1, h2, rfl⟩
  · rw [h1] at hn1; clear hn2
    go_enter Tryd.func37, Tryd.ntmps37
    go_wp2_with (first | (go_at_call 11; refine (hn1 _).mono ?_; clear hn1; rintro e w' ⟨rfl, rfl⟩) | (go_at_call 13; refine (n_any 12 _).mono ?_; rintro e w' ⟨rfl, hb⟩; obtain ⟨hE, hB⟩ := HZ.out _ hb; have c0 : w'.cell? ⟨w.heap.size, 0, none⟩ = some (.bool false) := hE.c0; have c1 := hE.c1; have c2 : w'.cell? ⟨w.heap.size, 2, none⟩ = some (.int .i64 0) := hE.c2; have cf := hE.free; have HB := Lib.hid hB; clear hb hE hB))
    refine bodyPost_ret (v := eV (some 12)) ?_ rfl ?_
    · simp [results, Tryd.results37, go_sem, eV, c0, c1, c2, cf]
    · exact ⟨rfl, belowSet' (belowSet' (belowSet' HB.out (Nat.le_refl _) _) (Nat.le_refl _) _) (Nat.le_refl _) _⟩
  · rw [h1] at hn1; rw [h2] at hn2
    go_enter Tryd.func37, Tryd.ntmps37
    go_wp2_with (first | (go_at_call 11; refine (hn1 _).mono ?_; clear hn1; rintro e w' ⟨rfl, rfl⟩) | (go_at_call 11; refine (hn2 _).mono ?_; clear hn2; rintro e w' ⟨rfl, rfl⟩) | (go_at_call 13; refine (n_any 12 _).mono ?_; rintro e w' ⟨rfl, hb⟩; obtain ⟨hE, hB⟩ := HZ.out _ hb; have c0 : w'.cell? ⟨w.heap.size, 0, none⟩ = some (.bool false) := hE.c0; have c1 := hE.c1; have c2 : w'.cell? ⟨w.heap.size, 2, none⟩ = some (.int .i64 0) := hE.c2; have cf := hE.free; have HB := Lib.hid hB; clear hb hE hB))
    refine bodyPost_ret (v := eV (some 12)) ?_ rfl ?_
    · simp [results, Tryd.results37, go_sem, eV, c0, c1, c2, cf]
    · exact ⟨rfl, belowSet' (belowSet' (belowSet' HB.out (Nat.le_refl _) _) (Nat.le_refl _) _) (Nat.le_refl _) _⟩
  · rw [h1] at hn1; clear hn2
    go_enter Tryd.func37, Tryd.ntmps37
    go_wp2_with (first | (go_at_call 11; refine (hn1 _).mono ?_; rintro e w' ⟨rfl, rfl⟩) | (go_at_call 13; refine (n_any 12 _).mono ?_; rintro e w' ⟨rfl, hb⟩; obtain ⟨hE, hB⟩ := HZ.out _ hb; have c0 : w'.cell? ⟨w.heap.size, 0, none⟩ = some (.bool false) := hE.c0; have c1 := hE.c1; have c2 : w'.cell? ⟨w.heap.size, 2, none⟩ = some (.int .i64 0) := hE.c2; have cf := hE.free; have HB := Lib.hid hB; clear hb hE hB))
    refine bodyPost_ret (v := eV (some 12)) ?_ rfl ?_
    · simp [results, Tryd.results37, go_sem, eV, c0, c1, c2, cf]
    · exact ⟨rfl, belowSet' (belowSet' (belowSet' HB.out (Nat.le_refl _) _) (Nat.le_refl _) _) (Nat.le_refl _) _⟩

theorem check_good (v : Value) (k1 k2 : Int) (w : World) (h1 : nodeB k1 = true) (h2 : nodeB k2 = true) (h3 : ¬ k1 = k2) : Calls Tryd.prog 37 #[v, .int .i64 k1, .int .i64 k2] w fun e w' => e = .returned (eV none) ∧ Below w.heap.size w w' := by
  have hn1 := fun W => (node_ref k1 W).mono (fun e w' h => And.intro h.1 h.2.symm)
  have hn2 := fun W => (node_ref k2 W).mono (fun e w' h => And.intro h.1 h.2.symm)
  rw [h1] at hn1; rw [h2] at hn2
  go_enter Tryd.func37, Tryd.ntmps37
  go_wp2_with (first | (go_at_call 11; refine (hn1 _).mono ?_; clear hn1; rintro e w' ⟨rfl, rfl⟩) | (go_at_call 11; refine (hn2 _).mono ?_; clear hn2; rintro e w' ⟨rfl, rfl⟩))
  refine bodyPost_ret (v := eV none) ?_ rfl ?_
  · simp [results, Tryd.results37, go_sem, eV]
  · refine ⟨rfl, ?_⟩
    repeat (first | with_reducible exact Below.refl _ _ | with_reducible refine eSet ?_ (by first | (simp; done) | (simp; omega)) _ | refine Below.alloc ?_ (by first | (simp; done) | (simp; omega)) _)

theorem check_ref (v : Value) (k1 k2 : Int) (w : World) : Calls Tryd.prog 37 #[v, .int .i64 k1, .int .i64 k2] w fun e w' => e = .returned (eV (wayE (k1, k2))) ∧ Below w.heap.size w w' := by
  cases h1 : nodeB k1 with
  | false =>
    have e : wayE (k1, k2) = some 12 := by simp [wayE, wayB, h1]
    rw [e]; exact check_bad v k1 k2 w (.inl h1)
  | true =>
    cases h2 : nodeB k2 with
    | false =>
      have e : wayE (k1, k2) = some 12 := by simp [wayE, wayB, h2]
      rw [e]; exact check_bad v k1 k2 w (.inr (.inl ⟨h1, h2⟩))
    | true =>
      by_cases h3 : k1 = k2
      · have e : wayE (k1, k2) = some 12 := by simp [wayE, wayB, h3]
        rw [e]; exact check_bad v k1 k2 w (.inr (.inr ⟨h1, h2, h3⟩))
      · have e : wayE (k1, k2) = none := by simp [wayE, wayB, h1, h2, h3]
        rw [e]; exact check_good v k1 k2 w h1 h2 h3

theorem cnt_eq_line (k : Int × Int) (l : List RP) : cnt k l = (line k l).length := cnt_line k l

end Go.Proofs.YtgibpiakeaplbaaDoor
