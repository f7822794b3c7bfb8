/-
  disk: what the laws are handed: lists of calls; 'few'; the document's Name. Own work.
-/
import Derived.Test.YtfhdcjfkngflbaaDiskCut4
set_option linter.unusedSimpArgs false
set_option linter.unusedVariables false
namespace Go.Proofs.Ytfhdcjfkngflbaa
open Go Go.RowKit

/-- A call that a law is handed. -/
structure DOp where
  kind : Int
  name : ByteArray
  A : Option Addr
  c : Nat
  p : List UInt8
  n : Int
def DOps (w : World) (A : Option Addr) (l : List DOp) : Prop := ∀ (j : Nat) (o : DOp), l[j]? = some o → ∃ g off, A = some ⟨g, off, none⟩ ∧ w.cell? ⟨g, off + j * 4, none⟩ = some (.int .i64 o.kind) ∧ w.cell? ⟨g, off + j * 4 + 1, none⟩ = some (.string o.name) ∧ w.cell? ⟨g, off + j * 4 + 2, none⟩ = some (.slice o.A o.p.length o.c) ∧ w.cell? ⟨g, off + j * 4 + 3, none⟩ = some (.int .i64 o.n) ∧ BytesAt w o.A o.p ∧ o.name.size ≤ 140737488351232 ∧ o.p.length ≤ 140737488351232 ∧ -9223372036854775808 ≤ o.n ∧ o.n ≤ 9223372036854775807
theorem DOps.below {w w' : World} {A : Option Addr} {l : List DOp} (h : DOps w A l) (hb : Below w.heap.size w w') : DOps w' A l := fun j o ho => by
  obtain ⟨g, off, e, d0, d1, d2, d3, h4, h5, h6, h7⟩ := h j o ho
  have hg : g < w.heap.size := World.block_lt_of_cell? w _ d0
  exact ⟨g, off, e, (hb.cell (p := ⟨g, off + j * 4, none⟩) hg).trans d0, (hb.cell (p := ⟨g, off + j * 4 + 1, none⟩) hg).trans d1, (hb.cell (p := ⟨g, off + j * 4 + 2, none⟩) hg).trans d2, (hb.cell (p := ⟨g, off + j * 4 + 3, none⟩) hg).trans d3, h4.below hb, h5, h6, h7⟩
def fewB (l : List DOp) : Bool := (l.all fun o => decide (o.p.length ≤ 40)) && decide (l.length ≤ 80)
theorem few_no {l : List DOp} {j : Nat} {o : DOp} (h : l[j]? = some o) (hl : 40 < o.p.length) : fewB l = false := by
  unfold fewB
  have : (l.all fun o => decide (o.p.length ≤ 40)) = false := by
    rw [Bool.eq_false_iff]
    intro h2
    have := List.all_eq_true.1 h2 o (List.mem_of_getElem? h)
    simp at this
    omega
  rw [this]; rfl
theorem few_all {l : List DOp} (h : ∀ o ∈ l.take l.length, o.p.length ≤ 40) : fewB l = decide (l.length ≤ 80) := by
  unfold fewB
  rw [List.take_length] at h
  have : (l.all fun o => decide (o.p.length ≤ 40)) = true := List.all_eq_true.2 fun o ho => by simpa using h o ho
  rw [this]; rfl
theorem few_is {l : List DOp} (h : fewB l = true) : (∀ o ∈ l, o.p.length ≤ 40) ∧ l.length ≤ 80 := by
  unfold fewB at h
  rw [Bool.and_eq_true] at h
  refine ⟨fun o ho => by simpa using List.all_eq_true.1 h.1 o ho, by simpa using h.2⟩

set_option maxHeartbeats 1000000 in
theorem few_any (A : Option Addr) (c : Nat) (l : List DOp) (w : World) (hA : DOps w A l) (hl : l.length ≤ 140737488351232) :
    Calls Try.prog 6 #[.slice A l.length c] w fun e w' => e = .returned (.bool (fewB l)) ∧ Below w.heap.size w w' := by
  obtain ⟨n, hnl⟩ : ∃ n, Hid (l.length = n) := ⟨_, Lib.hid rfl⟩
  rw [hnl.out] at hl ⊢
  have HA := Lib.hid hA
  have HL := Lib.hid hl
  clear hA hl
  go_enter Try.func6, Try.ntmps6
  go_wp2
  go_loopw [7] (fun i wr => ∃ (j : Nat), j ≤ n ∧ i = .int .i64 j ∧ Hid ((∀ o ∈ l.take j, o.p.length ≤ 40) ∧ Below w.heap.size w wr)) (fun i _ => n - (intOf i).toNat)
  case atStart => exact ⟨0, Nat.zero_le _, rfl, by simp, Below.refl _ _⟩
  case round =>
    obtain ⟨j, hj, rfl, HS⟩ := hrel
    by_cases hlt : j < n
    · obtain ⟨o, ho⟩ : ∃ o, Hid (l[j]? = some o) := ⟨_, List.getElem?_eq_getElem (by have := hnl.out; omega)⟩
      obtain ⟨g, off, rfl, d0, d1, d2, d3, _⟩ := HA.out j o ho.out
      have hold := HS.out.2
      have hg : g < w.heap.size := World.block_lt_of_cell? w _ d0
      replace d0 := (hold.cell (p := ⟨g, off + j * 4, none⟩) hg).trans d0
      replace d1 := (hold.cell (p := ⟨g, off + j * 4 + 1, none⟩) hg).trans d1
      replace d2 := (hold.cell (p := ⟨g, off + j * 4 + 2, none⟩) hg).trans d2
      replace d3 := (hold.cell (p := ⟨g, off + j * 4 + 3, none⟩) hg).trans d3
      have hj0 : ((0 : Int) ≤ j) := by omega
      have hj1 : ((j : Nat) : Int) < n := by omega
      have hw1 : IntKind.i64.wrap ((j : Int) + 1) = ((j + 1 : Nat) : Int) := by have := HL.out; rw [IntKind.wrap_i64]; omega
      obtain ⟨m, hm⟩ : ∃ m, Hid (o.p.length = m) := ⟨_, Lib.hid rfl⟩
      rw [hm.out] at d2
      have hbw : Hid (Below w.heap.size w wr ∧ w.heap.size ≤ wr.heap.size) := ⟨hold, hold.size⟩
      clear hold hg
      by_cases hm40 : 40 < m
      · have d9 : decide ((m : Int) > 40) = true := by rw [decide_eq_true_iff]; omega
        have HB : Hid (fewB l = false) := few_no ho.out (by rw [hm.out]; exact hm40)
        clear hm40
        go_wp2
        go_ret
        exact ⟨by rw [HB.out]; rfl, hbw.out.1.alloc hbw.out.2 _⟩
      · have d9 : decide ((m : Int) > 40) = false := by rw [decide_eq_false_iff_not]; omega
        have HP : Hid (∀ q ∈ l.take (j + 1), q.p.length ≤ 40) := by
          intro q hq
          obtain ⟨h7, h8⟩ := List.getElem?_eq_some_iff.1 ho.out
          rw [← List.take_append_getElem h7, h8] at hq
          rcases List.mem_append.1 hq with hq | hq
          · exact HS.out.1 q hq
          · obtain rfl : q = o := by simpa using hq
            rw [hm.out]; omega
        clear hm40
        go_wp2
        exact ⟨⟨j + 1, hlt, rfl, HP.out, hbw.out.1.alloc hbw.out.2 _⟩, by simp [intOf]; omega⟩
    · have hjn : j = n := by omega
      have HB : Hid (fewB l = decide (n ≤ 80)) := by
        have := few_all (l := l) (by rw [hnl.out, ← hjn]; exact HS.out.1)
        rw [hnl.out] at this; exact this
      subst hjn
      clear hlt hj
      by_cases h8 : j ≤ 80
      · have d9 : decide ((j : Int) ≤ 80) = true := by rw [decide_eq_true_iff]; omega
        have HB2 : Hid (fewB l = true) := by rw [Hid, HB.out]; simpa using h8
        clear h8
        go_wp2
        go_ret
        exact ⟨by rw [HB2.out]; rfl, HS.out.2⟩
      · have d9 : decide ((j : Int) ≤ 80) = false := by rw [decide_eq_false_iff_not]; omega
        have HB2 : Hid (fewB l = false) := by rw [Hid, HB.out]; simpa using h8
        clear h8
        go_wp2
        go_ret
        exact ⟨by rw [HB2.out]; rfl, HS.out.2⟩
end Go.Proofs.Ytfhdcjfkngflbaa
