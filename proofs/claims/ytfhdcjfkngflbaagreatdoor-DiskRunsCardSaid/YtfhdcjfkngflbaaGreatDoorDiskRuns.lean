/-
  disk: the law DiskRuns, walked. Own work.
-/
import Derived.Test.YtfhdcjfkngflbaaGreatDoorP14
set_option linter.unusedSimpArgs false
set_option linter.unusedVariables false
namespace Go.Proofs.YtfhdcjfkngflbaaGreatDoor
open Go Go.RowKit

/-- The law's own box: the document's disk. -/
def MBox (M : Nat) (A : Option Addr) (n c : Nat) (last : Int) (W : World) : Prop := W.heap[M]? = some (.cells #[.slice A n c, .int .i64 last] 29 (0, 0))
theorem MBox.cells {M : Nat} {A : Option Addr} {n c : Nat} {last : Int} {W : World} (h : MBox M A n c last W) : W.cell? ⟨M, 0, none⟩ = some (.slice A n c) ∧ W.cell? ⟨M, 1, none⟩ = some (.int .i64 last) ∧ (∀ i, W.frozen? ⟨M, i, none⟩ = false) ∧ M < W.heap.size := by
  unfold MBox at h
  obtain ⟨h1, _⟩ := Array.getElem?_eq_some_iff.1 h
  exact ⟨by simp [World.cell?, h], by simp [World.cell?, h], fun i => by simp [World.frozen?, h], h1⟩
theorem MBox.below {M : Nat} {A : Option Addr} {n c : Nat} {last : Int} {W W' : World} (h : MBox M A n c last W) (hb : Below W.heap.size W W') : MBox M A n c last W' := (hb.block M h.cells.2.2.2).trans h
/-- All that holds at the law's loops. -/
def RunsIn (w : World) (base B M j : Nat) (A : Option Addr) (n c : Nat) (last : Int) (W : World) : Prop := Both (fun g => g = M) base B j A n c last W ∧ MBox M A n c last W ∧ Below w.heap.size w W ∧ w.heap.size ≤ base ∧ base ≤ M ∧ 0 < base
theorem RunsIn.below {w W W' : World} {base B M j : Nat} {A : Option Addr} {n c : Nat} {last : Int} (h : RunsIn w base B M j A n c last W) (hb : Below W.heap.size W W') : RunsIn w base B M j A n c last W' :=
  ⟨h.1.below hb, h.2.1.below hb, h.2.2.1.trans (hb.mono h.2.2.1.size), h.2.2.2⟩
/-- The law's step: both disks go on, the box as it was. -/
theorem runs_step {w W : World} {base B M j : Nat} {A : Option Addr} {n c : Nat} {last : Int} (h : RunsIn w base B M j A n c last W) (hj : j < 80) (K : Int) (nm : ByteArray) (Ap : Option Addr) (m cp : Nat) (N : Int) (bs : List UInt8) (hm : bs.length = m) (hm2 : m ≤ 40) (hA : BytesAt w Ap bs) (hks : nm.size ≤ 4611686018427387904) (hN : N ≤ 9223372036854775807) :
    Calls Tryz.prog 7 #[.pointer (some ⟨B, 0, none⟩), .agg #[.slice A n c, .int .i64 last], .agg #[.int .i64 K, .string nm, .slice Ap m cp, .int .i64 N]] W fun e w' => ∃ (A' : Option Addr) (n' c' : Nat) (last' : Int), e = .returned (.tuple #[.agg #[.slice A' n' c', .int .i64 last'], .bool true]) ∧ Hid (Both (fun g => g = M) base B (j + 1) A' n' c' last' w' ∧ MBox M A n c last w' ∧ Below w.heap.size w w' ∧ w.heap.size ≤ base ∧ base ≤ M ∧ 0 < base) := by
  obtain ⟨h1, h2, h3, h4, h5, h6⟩ := h
  refine (step_all h1 h6 hj K nm Ap m cp N bs hm hm2 (hA.below h3) hks hN).mono ?_
  rintro e w' ⟨A', n', c', last', rfl, g1, g2, g3⟩
  exact ⟨A', n', c', last', rfl, g1, (g3 M rfl).trans h2, h3.trans (g2.mono h4), h4, h5, h6⟩
/-- The box filled anew. -/
theorem runs_put {w W : World} {base B M j : Nat} {A A' : Option Addr} {n c n' c' : Nat} {last last' : Int} (h : Both (fun g => g = M) base B j A' n' c' last' W ∧ MBox M A n c last W ∧ Below w.heap.size w W ∧ w.heap.size ≤ base ∧ base ≤ M ∧ 0 < base) (o : Obj) : RunsIn w base B M j A' n' c' last' (((W.setCell ⟨M, 0, none⟩ (.slice A' n' c')).setCell ⟨M, 1, none⟩ (.int .i64 last')).alloc o) := by
  obtain ⟨h1, h2, h3, h4, h5, h6⟩ := h
  have hM := h2.cells.2.2.2
  have hk : ∀ g, g < W.heap.size → ¬ g = M → ((W.setCell ⟨M, 0, none⟩ (.slice A' n' c')).setCell ⟨M, 1, none⟩ (.int .i64 last')).heap[g]? = W.heap[g]? := fun g hg hne => by
    rw [Below.heap_setCell _ _ _ _ (by exact hne), Below.heap_setCell _ _ _ _ (by exact hne)]
  have h7 : RunsIn w base B M j A' n' c' last' ((W.setCell ⟨M, 0, none⟩ (.slice A' n' c')).setCell ⟨M, 1, none⟩ (.int .i64 last')) :=
    ⟨h1.put h6 (fun g hg => by omega) (by simp [World.setCell]) hk, c2_1 (c2_0 h2 _) _, belowS (belowS h3 (by omega) _) (by omega) _, h4, h5, h6⟩
  exact h7.below ((Below.refl _ _).alloc (Nat.le_refl _) _)
theorem runs_ask {w W : World} {base B M j : Nat} {A : Option Addr} {n c : Nat} {last : Int} (h : RunsIn w base B M j A n c last W) (hj : j ≤ 80) (k : ByteArray) :
    Calls Tryz.prog 9 #[.pointer (some ⟨B, 0, none⟩), .agg #[.slice A n c, .int .i64 last], .string k] W fun e w' => e = .returned (.bool true) ∧ Hid (RunsIn w base B M j A n c last w' ∧ Below W.heap.size W w') := by
  refine (both_ask h.1 hj k).mono ?_
  rintro e w' ⟨rfl, hb⟩
  exact ⟨rfl, h.below hb, hb⟩

theorem runs_few (A : Option Addr) (c : Nat) (l : List DOp) (w : World) (hA : DOps w A l) (hl : l.length ≤ 140737488351232) (hf : fewB l = false) :
    Calls Tryz.prog 3 #[.slice A l.length c] w fun e w' => e = .returned (.bool true) ∧ Below w.heap.size w w' := by
  have HF : Hid (∀ W, Below w.heap.size w W → Calls Tryz.prog 5 #[.slice A l.length c] W fun e w' => e = .returned (.bool false) ∧ Below W.heap.size W w') := fun W hW => by
    have := few_any A c l W (hA.below hW) hl
    rw [hf] at this; exact this
  clear hA hl hf
  go_enter Tryz.func3, Tryz.ntmps3
  go_wp2_with fail
  refine (awake_any _).mono ?_
  rintro e w1 ⟨rfl, hb⟩
  have hb1 := Lib.hid hb
  clear hb
  go_wp2_with (go_at_call 5; refine (HF.out _ hb1.out).mono ?_; rintro e w2 ⟨rfl, hb2⟩)
  go_ret
  exact ⟨rfl, hb1.out.trans (hb2.mono hb1.out.size)⟩

set_option maxRecDepth 100000 in
set_option maxHeartbeats 4000000 in
theorem runs_in (A : Option Addr) (n c : Nat) (l : List DOp) (hln : l.length = n) (w : World) (hA : DOps w A l) (hT : ErrT w) (hl : n ≤ 140737488351232) (hf : fewB l = true) :
    Calls Tryz.prog 3 #[.slice A n c] w fun e w' => e = .returned (.bool true) ∧ Below w.heap.size w w' := by
  have HFW := few_is hf
  have HW : Hid ((∀ o ∈ l, o.p.length ≤ 40) ∧ n ≤ 80) := ⟨HFW.1, by rw [← hln]; exact HFW.2⟩
  have HF : Hid (∀ W, Below w.heap.size w W → Calls Tryz.prog 5 #[.slice A n c] W fun e w' => e = .returned (.bool true) ∧ Below W.heap.size W w') := fun W hW => by
    have := few_any A c l W (hA.below hW) (by omega)
    rw [hf, hln] at this; exact this
  have HA := Lib.hid hA
  have HT := Lib.hid hT
  have HL : Hid (l.length = n) := hln
  clear hA hT hl hf HFW hln
  go_enter Tryz.func3, Tryz.ntmps3
  go_wp2_with fail
  refine (awake_any _).mono ?_
  rintro e w1 ⟨rfl, hb⟩
  have hb1 := Lib.hid hb
  clear hb
  go_wp2_with (first | (go_at_call 5; refine (HF.out _ hb1.out).mono ?_; rintro e w2 ⟨rfl, hb2⟩; have hb2' : Hid (Below w.heap.size w w2) := (hb1.out.trans (hb2.mono hb1.out.size)); clear hb2) | fail)
  refine (newDisk_any _).mono ?_
  rintro e w' ⟨rfl, rfl⟩
  obtain ⟨w3, hw3⟩ : ∃ w3, w3 = (w2.alloc (.map #[] 0)).alloc (.cells #[.map (some w2.heap.size), .int .i64 0] 49) := ⟨_, rfl⟩
  obtain ⟨Bd, hBd⟩ : ∃ Bd, Bd = w2.heap.size + 1 := ⟨_, rfl⟩
  have H3 : Hid (Below w2.heap.size w2 w3 ∧ Dk w2.heap.size w3 Bd (fun _ => none) 0 0 (newSt w2)) := by
    rw [hw3, hBd]; exact ⟨((Below.refl _ _).alloc (Nat.le_refl _) _).alloc (by simp) _, dk_new w2⟩
  rw [← hw3, ← hBd]
  clear hw3 hBd
  obtain ⟨M, hM⟩ : ∃ M, M = w3.heap.size := ⟨_, rfl⟩
  obtain ⟨w4, hw4⟩ : ∃ w4, w4 = w3.alloc (.cells #[.slice none 0 0, .int .i64 0] 29) := ⟨_, rfl⟩
  have H4 : Hid (RunsIn w w2.heap.size Bd M 0 none 0 0 0 w4) := by
    have hb : Below w3.heap.size w3 w4 := by rw [hw4]; exact (Below.refl _ _).alloc (Nat.le_refl _) _
    have he : 0 < w.heap.size := World.block_lt_of_cell? w ⟨0, 0, none⟩ HT.out
    have h32 := H3.out.1.size
    have h24 : Below w.heap.size w w4 := (hb2'.out.trans (H3.out.1.mono hb2'.out.size)).trans (hb.mono (Nat.le_trans hb2'.out.size h32))
    refine ⟨⟨fun _ => none, 0, [], fun _ => 0, newSt w2, H3.out.2.below hb, coup_new _, RefD.nil0, HT.out.below h24, by omega, by omega, (fun k p h => by cases h), fun g hg => ?_⟩, ?_, h24, hb2'.out.size, by omega, Nat.lt_of_lt_of_le he hb2'.out.size⟩
    · subst hg
      refine ⟨by rw [hw4, hM]; simp, fun h => ?_⟩
      have := H3.out.2.at_.lt h
      omega
    · rw [hw4, hM]; exact heap_alloc_new _ _
  have x0 := (show w4.heap[M]? = _ from H4.out.2.1)
  rw [hw4, hM] at x0
  go_wp2_with fail
  rw [← hw4, ← hM]
  clear x0 hw4 hM H3
  go_loopw [20] (fun i wr => ∃ (j : Nat) (A1 : Option Addr) (n1 c1 : Nat) (last : Int), j ≤ n ∧ i = .int .i64 j ∧ Hid (RunsIn w w2.heap.size Bd M j A1 n1 c1 last wr)) (fun i _ => n - (intOf i).toNat)
  case atStart => exact ⟨0, none, 0, 0, 0, Nat.zero_le _, rfl, H4.out⟩
  case round =>
    obtain ⟨j, A1, n1, c1, last, hj, rfl, HS⟩ := hrel
    by_cases hlt : j < n
    · obtain ⟨o, ho⟩ : ∃ o, Hid (l[j]? = some o) := ⟨_, List.getElem?_eq_getElem (by have := HL.out; omega)⟩
      obtain ⟨g, off, rfl, d0, d1, d2, d3, dby, dns, dps, dn0, dn1⟩ := HA.out j o ho.out
      have hold := HS.out.2.2.1
      have hg : g < w.heap.size := World.block_lt_of_cell? w _ d0
      replace d0 := (hold.cell (p := ⟨g, off + j * 4, none⟩) hg).trans d0
      replace d1 := (hold.cell (p := ⟨g, off + j * 4 + 1, none⟩) hg).trans d1
      replace d2 := (hold.cell (p := ⟨g, off + j * 4 + 2, none⟩) hg).trans d2
      replace d3 := (hold.cell (p := ⟨g, off + j * 4 + 3, none⟩) hg).trans d3
      have hj0 : ((0 : Int) ≤ j) := by omega
      have hj1 : ((j : Nat) : Int) < n := by omega
      have hw1 : IntKind.i64.wrap ((j : Int) + 1) = ((j + 1 : Nat) : Int) := by have := HW.out; rw [IntKind.wrap_i64]; omega
      obtain ⟨m, hm⟩ : ∃ m, Hid (o.p.length = m ∧ m ≤ 40) := ⟨_, rfl, HW.out.1 o (List.mem_of_getElem? ho.out)⟩
      rw [hm.out.1] at d2
      obtain ⟨kd, hkd⟩ : ∃ z, Hid (o.kind = z) := ⟨_, rfl⟩
      obtain ⟨nm, hnm⟩ : ∃ z, Hid (o.name = z) := ⟨_, rfl⟩
      obtain ⟨N, hN⟩ : ∃ z, Hid (o.n = z) := ⟨_, rfl⟩
      obtain ⟨Ap, hAp⟩ : ∃ z, Hid (o.A = z) := ⟨_, rfl⟩
      obtain ⟨cp, hcp⟩ : ∃ z, Hid (o.c = z) := ⟨_, rfl⟩
      rw [hkd.out] at d0
      rw [hnm.out] at d1
      rw [hAp.out, hcp.out] at d2
      rw [hN.out] at d3
      have HBY : Hid (BytesAt w Ap o.p ∧ nm.size ≤ 4611686018427387904 ∧ j < 80 ∧ N ≤ 9223372036854775807) := ⟨by rw [← hAp.out]; exact dby, by rw [← hnm.out]; omega, by have := HW.out.2; omega, by rw [← hN.out]; exact dn1⟩
      have HIN := Lib.hid (HS.out.below ((Below.refl _ _).alloc (Nat.le_refl _) (.cells #[.int .i64 kd, .string nm, .slice Ap m cp, .int .i64 N] 32)))
      obtain ⟨m0, m1, mf, ml⟩ := HS.out.2.1.cells
      clear dby dns dps hold hg dn0 dn1
      go_wp2_with fail
      refine (runs_step HIN.out HBY.out.2.2.1 kd nm Ap m cp N o.p hm.out.1 hm.out.2 HBY.out.1 HBY.out.2.1 HBY.out.2.2.2).mono ?_
      rintro e w5 ⟨A2, n2, c2, last2, rfl, H5⟩
      clear m0 m1 mf ml
      obtain ⟨m0, m1, mf, ml⟩ := H5.out.2.1.cells
      go_wp2
      exact ⟨⟨j + 1, A2, n2, c2, last2, hlt, by go_num, runs_put H5.out _⟩, by simp [intOf]; omega⟩
    · have hjn : j = n := by omega
      subst hjn
      clear hlt hj
      obtain ⟨m0, m1, mf, ml⟩ := HS.out.2.1.cells
      go_wp2_with fail
      refine (both_names HS.out.1).mono ?_
      rintro e w5 ⟨A5, c5, ks, rfl, hks, hkl, hb5⟩
      have H5 : Hid (RunsIn w w2.heap.size Bd M j A1 n1 c1 last w5 ∧ StrRow w5 A5 ks ∧ ks.length = n1 ∧ n1 ≤ 64) := ⟨HS.out.below hb5, hks, hkl, HS.out.1.few⟩
      clear hks hkl hb5 HS m0 m1 mf ml
      go_wp2
      go_loopw [38] (fun i wr => ∃ (q : Nat), q ≤ n1 ∧ i = .int .i64 q ∧ Hid (RunsIn w w2.heap.size Bd M j A1 n1 c1 last wr ∧ StrRow wr A5 ks)) (fun i _ => n1 - (intOf i).toNat)
      case atStart => exact ⟨0, Nat.zero_le _, rfl, H5.out.1, H5.out.2.1⟩
      case round =>
        obtain ⟨q, hq, rfl, HQ⟩ := hrel
        obtain ⟨m0, m1, mf, ml⟩ := HQ.out.1.2.1.cells
        by_cases hlt : q < n1
        · obtain ⟨k, hk⟩ : ∃ k, Hid (ks[q]? = some k) := ⟨_, List.getElem?_eq_getElem (by have := H5.out.2.2.1; omega)⟩
          obtain ⟨g, rfl, d0⟩ := HQ.out.2 q k hk.out
          have hj0 : ((0 : Int) ≤ q) := by omega
          have hj1 : ((q : Nat) : Int) < n1 := by omega
          have hw1 : IntKind.i64.wrap ((q : Int) + 1) = ((q + 1 : Nat) : Int) := by have := H5.out.2.2.2; rw [IntKind.wrap_i64]; omega
          go_wp2_with fail
          refine (runs_ask HQ.out.1 (by have := HW.out.2; omega) k).mono ?_
          rintro e w7 ⟨rfl, H7⟩
          go_wp2
          exact ⟨⟨q + 1, hlt, by go_num, H7.out.1, HQ.out.2.below H7.out.2⟩, by simp [intOf]; omega⟩
        · go_wp2_with fail
          refine (runs_ask HQ.out.1 (by have := HW.out.2; omega) _).mono ?_
          rintro e w7 ⟨rfl, H7⟩
          go_wp2
          go_ret
          exact ⟨rfl, H7.out.1.2.2.1⟩
theorem runs_any (A : Option Addr) (c : Nat) (l : List DOp) (w : World) (hA : DOps w A l) (hT : ErrT w) (hl : l.length ≤ 140737488351232) :
    Calls Tryz.prog 3 #[.slice A l.length c] w fun e w' => e = .returned (.bool true) ∧ Below w.heap.size w w' := by
  cases hf : fewB l with
  | false => exact runs_few A c l w hA hl hf
  | true => exact runs_in A _ c l rfl w hA hT hl hf
end Go.Proofs.YtfhdcjfkngflbaaGreatDoor
