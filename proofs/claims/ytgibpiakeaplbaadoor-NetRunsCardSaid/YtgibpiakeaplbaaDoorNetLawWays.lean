/-
  The law's 'ways': the net's ways are those of the reference's list. Own work.
-/
import Derived.Test.YtgibpiakeaplbaaDoorNetAwake
import Derived.Test.YtgibpiakeaplbaaDoorNetRef
set_option linter.unusedSimpArgs false
set_option linter.unusedVariables false
namespace Go.Proofs.YtgibpiakeaplbaaDoor
open Go Go.RowKit

/-- The scan stands at a place: the first k are behind it, the others are not. -/
def ScanAt (l : List (Int × Int)) (k : Nat) (a b : Int) : Prop := k ≤ l.length ∧ ∀ i x, l[i]? = some x → (i < k ↔ ltW x (a, b))
theorem scan_start {l : List (Int × Int)} (h : ∀ x ∈ l, wayB x = true) : ScanAt l 0 (-1) (-1) := by
  refine ⟨Nat.zero_le _, fun i x hx => ⟨fun h => absurd h (Nat.not_lt_zero _), fun hlt => ?_⟩⟩
  have := h x (List.mem_of_getElem? hx)
  simp [wayB, nodeB] at this
  unfold ltW at hlt
  simp only at hlt
  omega
theorem scan_skip {l : List (Int × Int)} {k : Nat} {a b : Int} (h : ScanAt l k a b) (hn : (a, b) ∉ l) : ScanAt l k a (b + 1) := by
  refine ⟨h.1, fun i x hx => ?_⟩
  rw [h.2 i x hx]
  have hne : x ≠ (a, b) := fun e => hn (e ▸ List.mem_of_getElem? hx)
  have hne' : ¬ (x.1 = a ∧ x.2 = b) := fun e => hne (Prod.ext e.1 e.2)
  unfold ltW
  simp only
  omega
theorem scan_hit {l : List (Int × Int)} {k : Nat} {a b : Int} (h : ScanAt l k a b) (hp : l.Pairwise ltW) (hn : (a, b) ∈ l) : l[k]? = some (a, b) ∧ ScanAt l (k + 1) a (b + 1) := by
  obtain ⟨i, hi, hx⟩ := List.mem_iff_getElem.1 hn
  have hx' : l[i]? = some (a, b) := by rw [← hx]; exact List.getElem?_eq_getElem hi
  have hik : ¬ i < k := fun hlt => by
    have := (h.2 i _ hx').1 hlt
    unfold ltW at this; simp only at this; omega
  have hkl : k < l.length := by omega
  have hkx : l[k]? = some l[k] := List.getElem?_eq_getElem hkl
  have e : i = k := by
    by_cases e : i = k
    · exact e
    · have hlt : k < i := by omega
      have h1 := (List.pairwise_iff_getElem.1 hp) k i hkl hi hlt
      rw [hx] at h1
      have := (h.2 k _ hkx).2 h1
      omega
  subst e
  refine ⟨hx', hkl, fun j x hj => ?_⟩
  have h2 := h.2 j x hj
  have hjl : j < l.length := (List.getElem?_eq_some_iff.1 hj).1
  have hjx : l[j] = x := (List.getElem?_eq_some_iff.1 hj).2
  constructor
  · intro hlt
    by_cases e : j = i
    · subst e
      rw [hx'] at hj
      cases hj
      exact Or.inr ⟨rfl, Int.lt_add_one_iff.2 (Int.le_refl _)⟩
    · have h9 := h2.1 (by omega)
      unfold ltW at h9 ⊢; simp only at h9 ⊢; omega
  · intro hlt
    by_cases e : j ≤ i
    · omega
    · have h1 := (List.pairwise_iff_getElem.1 hp) i j hi hjl (by omega)
      rw [hx, hjx] at h1
      unfold ltW at h1 hlt; simp only at h1 hlt; omega
theorem scan_row {l : List (Int × Int)} {k : Nat} {a b : Int} (h : ScanAt l k a b) (hb : 8 ≤ b) (hl : ∀ x ∈ l, wayB x = true) : ScanAt l k (a + 1) (-1) := by
  refine ⟨h.1, fun i x hx => ?_⟩
  rw [h.2 i x hx]
  have := hl x (List.mem_of_getElem? hx)
  simp [wayB, nodeB] at this
  unfold ltW
  simp only
  omega
theorem scan_end {l : List (Int × Int)} {k : Nat} {a b : Int} (h : ScanAt l k a b) (ha : 8 ≤ a) (hl : ∀ x ∈ l, wayB x = true) : k = l.length := by
  have h1 := h.1
  by_cases e : k = l.length
  · exact e
  · have hkl : k < l.length := by omega
    have hkx : l[k]? = some l[k] := List.getElem?_eq_getElem hkl
    have := hl _ (List.getElem_mem hkl)
    simp [wayB, nodeB] at this
    have h2 := (h.2 k _ hkx).2 (by unfold ltW; simp only; omega)
    omega

theorem NetB.nodes {base : Nat} {w : World} {B : Nat} {T : Lines} (h : NetB base w B T) (k : Int × Int) (hk : T k ≠ []) : wayB k = true := by
  obtain ⟨S, ⟨M, c, L, h1⟩, h2⟩ := h
  refine h1.nodes k fun e => hk ?_
  rw [← h2 k, e]; rfl

set_option maxHeartbeats 2000000 in
theorem lawways_any (base B : Nat) (T : Lines) (w : World) (hn : NetB base w B T) (hbase : base ≤ w.heap.size) (A : Option Addr) (n c : Nat) (l : List RP) (hl : l.length = n) (hn1 : n ≤ 100000) (hp : PackAt w A l) (hT : ∀ k, (T k).length = cnt k l) :
    Calls Tryd.prog 10 #[.pointer (some ⟨B, 0, none⟩), .slice A n c] w fun e w' => e = .returned (.bool true) ∧ Below w.heap.size w w' := by
  have heq := way3_equal
  have hnd := hn.nodes
  have HW := Lib.hid (ways_b base B T w hn hbase)
  have HT := Lib.hid hT
  have HND := Lib.hid hnd
  have HPK := Lib.hid hp
  have HL : Hid (l.length = n ∧ n ≤ 100000) := ⟨hl, hn1⟩
  clear hn hbase hp hT hnd hl hn1
  go_enter Tryd.func10, Tryd.ntmps10
  go_wp2_with fail
  refine HW.out.mono ?_
  rintro e w1 ⟨hb, A1, c1, L, rfl, hpw, hmem, hrow⟩
  have hb1 := Lib.hid hb
  have HR := Lib.hid hrow
  have HS : Hid (L.Pairwise ltW ∧ (∀ k, k ∈ L ↔ cnt k l ≠ 0) ∧ (∀ x ∈ L, wayB x = true) ∧ (waysT T L).length = L.length) := by
    refine ⟨hpw, fun k => ?_, fun x hx => HND.out x ((hmem x).1 hx), by simp [waysT]⟩
    rw [hmem k, ← HT.out k]; simp
  have HP1 := Lib.hid (HPK.out.below hb)
  obtain ⟨m, hm⟩ : ∃ m, Hid (L.length = m) := ⟨_, rfl⟩
  have HC : Hid (∀ i a b, L[i]? = some (a, b) → i < m ∧ ∃ g, A1 = some ⟨g, 0, none⟩ ∧ g < w1.heap.size ∧ w1.cell? ⟨g, i * 3, none⟩ = some (.int .i64 a) ∧ w1.cell? ⟨g, i * 3 + 1, none⟩ = some (.int .i64 b) ∧ w1.cell? ⟨g, i * 3 + 2, none⟩ = some (.int .i64 (cnt (a, b) l))) := fun i a b hi => by
    obtain ⟨g, h1, _, h2, h3⟩ := wayCells_row HR.out i (a, b, ((T (a, b)).length : Int)) (by simp [waysT, hi])
    simp only [HT.out] at h3
    exact ⟨by rw [← hm.out]; exact (List.getElem?_eq_some_iff.1 hi).1, g, h1, h2, h3⟩
  rw [HS.out.2.2.2, hm.out]
  clear hb hpw hmem hrow HW HPK HR HT HND
  go_wp2
  go_loopw [6, 7] (fun k a wr => ∃ (i : Nat) (x : Int), -1 ≤ x ∧ x ≤ 8 ∧ k = .int .i64 i ∧ a = .int .i64 x ∧ Hid (ScanAt L i x (-1) ∧ (i : Int) ≤ 9 * (x + 1) ∧ Below w1.heap.size w1 wr)) (fun _ a _ => 9 - (intOf a + 1).toNat)
  case atStart => exact ⟨0, -1, by omega, by omega, rfl, rfl, scan_start HS.out.2.2.1, by omega, Below.refl _ _⟩
  case round =>
    obtain ⟨i, x, hx0, hx, rfl, rfl, HI⟩ := hrel
    by_cases hx8 : x < 8
    · have hwx : IntKind.i64.wrap (x + 1) = x + 1 := by rw [IntKind.wrap_i64]; omega
      have HX : Hid (-1 ≤ x ∧ x < 8) := ⟨hx0, hx8⟩
      have dx : decide (x < 8) = true := by simp [hx8]
      clear hx0 hx hx8
      go_wp2
      go_loopw [6, 8] (fun k b w2 => ∃ (j : Nat) (y : Int), -1 ≤ y ∧ y ≤ 8 ∧ k = .int .i64 j ∧ b = .int .i64 y ∧ Hid (ScanAt L j x y ∧ (j : Int) ≤ 9 * (x + 1) + (y + 1) ∧ Below w1.heap.size w1 w2)) (fun _ b _ => 9 - (intOf b + 1).toNat)
      case atStart => exact ⟨i, -1, by omega, by omega, rfl, rfl, HI.out.1, by have := HI.out.2.1; omega, HI.out.2.2⟩
      case round =>
        obtain ⟨j, y, hy0, hy, rfl, rfl, HJ⟩ := hrel
        by_cases hy8 : y < 8
        · have hwy : IntKind.i64.wrap (y + 1) = y + 1 := by rw [IntKind.wrap_i64]; omega
          have dy : decide (y < 8) = true := by simp [hy8]
          have HCNT := Lib.hid (count_any A n c l HL.out.1 HL.out.2 (x, y) wr (HP1.out.below (HJ.out.2.2.mono (Nat.le_refl _))))
          obtain ⟨q, hq⟩ : ∃ q, Hid (cnt (x, y) l = q) := ⟨_, rfl⟩
          rw [hq.out] at HCNT
          by_cases hz : q = 0
          · subst hz
            have hnm : (x, y) ∉ L := fun h => (HS.out.2.1 _).1 h hq.out
            have HJ2 : Hid (∀ W, Below wr.heap.size wr W → ScanAt L j x (y + 1) ∧ (j : Int) ≤ 9 * (x + 1) + (y + 1 + 1) ∧ Below w1.heap.size w1 W) := fun W hW => ⟨scan_skip HJ.out.1 hnm, by have := HJ.out.2.1; omega, HJ.out.2.2.trans (hW.mono HJ.out.2.2.size)⟩
            clear hnm
            go_wp2_with (go_at_call 25; refine HCNT.out.mono ?_; rintro e w3 ⟨rfl, hb3⟩; have HB3 := Lib.hid hb3; clear hb3)
            exact ⟨⟨j, y + 1, by omega, by omega, rfl, rfl, HJ2.out _ HB3.out⟩, by simp [intOf]; omega⟩
          · have hm9 : (x, y) ∈ L := (HS.out.2.1 _).2 (by rw [hq.out]; exact hz)
            obtain ⟨hat, hsc⟩ := scan_hit HJ.out.1 HS.out.1 hm9
            obtain ⟨hjm, g, rfl, hg, d0, d1, d2⟩ := HC.out j x y hat
            rw [hq.out] at d2
            have HD : Hid (∀ W, Below wr.heap.size wr W → W.cell? ⟨g, j * 3, none⟩ = some (.int .i64 x) ∧ W.cell? ⟨g, j * 3 + 1, none⟩ = some (.int .i64 y) ∧ W.cell? ⟨g, j * 3 + 2, none⟩ = some (.int .i64 q)) := fun W hW => by
              have hbw : Below w1.heap.size w1 W := HJ.out.2.2.trans (hW.mono HJ.out.2.2.size)
              exact ⟨(hbw.cell (p := ⟨g, j * 3, none⟩) hg).trans d0, (hbw.cell (p := ⟨g, j * 3 + 1, none⟩) hg).trans d1, (hbw.cell (p := ⟨g, j * 3 + 2, none⟩) hg).trans d2⟩
            have HJ2 : Hid (∀ W, Below wr.heap.size wr W → ScanAt L (j + 1) x (y + 1) ∧ ((j + 1 : Nat) : Int) ≤ 9 * (x + 1) + (y + 1 + 1) ∧ Below w1.heap.size w1 W) := fun W hW => ⟨hsc, by have := HJ.out.2.1; omega, HJ.out.2.2.trans (hW.mono HJ.out.2.2.size)⟩
            have hwj : IntKind.i64.wrap ((j : Int) + 1) = ((j + 1 : Nat) : Int) := by have := HJ.out.2.1; have := HX.out; rw [IntKind.wrap_i64]; omega
            have hzi : ¬ ((q : Int) = 0) := by omega
            have dz : decide ((q : Int) = 0) = false := by simp [hz]
            have hjm2 : ((j : Nat) : Int) < m := by omega
            have hjn2 : ¬ (((j : Nat) : Int) = m) := by omega
            have djn : decide (((j : Nat) : Int) = m) = false := by simp; omega
            have hj0 : ((0 : Int) ≤ j) := by omega
            clear hm9 hat hsc d0 d1 d2 hz hjm
            go_wp2_with (go_at_call 25; refine HCNT.out.mono ?_; rintro e w3 ⟨rfl, hb3⟩; obtain ⟨d0, d1, d2⟩ := HD.out _ hb3; have HB3 := Lib.hid hb3; clear hb3)
            exact ⟨⟨j + 1, y + 1, by omega, by omega, rfl, rfl, HJ2.out _ HB3.out⟩, by simp [intOf]; omega⟩
        · have hy9 : y = 8 := by omega
          subst hy9
          have HJ2 : Hid (ScanAt L j (x + 1) (-1) ∧ (j : Int) ≤ 9 * (x + 1 + 1) ∧ Below w1.heap.size w1 wr) := ⟨scan_row HJ.out.1 (by omega) HS.out.2.2.1, by have := HJ.out.2.1; omega, HJ.out.2.2⟩
          go_wp2
          exact ⟨⟨j, x + 1, by have := HX.out; omega, by have := HX.out; omega, rfl, rfl, HJ2.out⟩, by have := HX.out; simp [intOf]; omega⟩
    · have hx9 : x = 8 := by omega
      subst hx9
      have hi : i = m := by rw [scan_end HI.out.1 (by omega) HS.out.2.2.1, hm.out]
      subst hi
      go_wp2
      go_ret
      exact ⟨rfl, hb1.out.trans (HI.out.2.2.mono hb1.out.size)⟩
end Go.Proofs.YtgibpiakeaplbaaDoor
