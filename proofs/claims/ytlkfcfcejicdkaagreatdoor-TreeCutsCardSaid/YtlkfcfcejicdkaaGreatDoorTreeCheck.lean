/-
  tree: Check, walked. Own work.
-/
import Derived.Test.YtlkfcfcejicdkaaGreatDoorTreeErr
import Derived.Test.YtlkfcfcejicdkaaGreatDoorQuietIn
import Derived.Deep.RegionHeld3
set_option linter.unusedSimpArgs false
set_option linter.unusedVariables false
namespace Go.Proofs.YtlkfcfcejicdkaaGreatDoor
open Go Go.RowKit

/-- What the loop over links keeps: the graph's box, the link's box. -/
abbrev KC (w0 : World) (b K : Nat) (v0 v1 : Value) (a1 b1 : Int) (W : World) : Prop := W.cell? ⟨b, 0, none⟩ = some v0 ∧ W.cell? ⟨b, 1, none⟩ = some v1 ∧ W.cell? ⟨K, 0, none⟩ = some (.int .i64 a1) ∧ W.cell? ⟨K, 1, none⟩ = some (.int .i64 b1) ∧ Hid (Below w0.heap.size w0 W)
theorem KC.step {w0 W W' : World} {b K : Nat} {v0 v1 : Value} {a1 b1 : Int} (h : KC w0 b K v0 v1 a1 b1 W) (hb : Below W.heap.size W W') : KC w0 b K v0 v1 a1 b1 W' := by
  obtain ⟨h1, h2, h3, h4, h5⟩ := h
  exact ⟨(hb.cell (p := ⟨b, 0, none⟩) (World.block_lt_of_cell? W _ h1)).trans h1, (hb.cell (p := ⟨b, 1, none⟩) (World.block_lt_of_cell? W _ h2)).trans h2, (hb.cell (p := ⟨K, 0, none⟩) (World.block_lt_of_cell? W _ h3)).trans h3, (hb.cell (p := ⟨K, 1, none⟩) (World.block_lt_of_cell? W _ h4)).trans h4, h5.out.trans (hb.mono h5.out.size)⟩
/-- And the link ahead of it. -/
abbrev KP (w0 : World) (b K g o : Nat) (v0 v1 : Value) (a1 b1 p1 p2 : Int) (W : World) : Prop := W.cell? ⟨b, 0, none⟩ = some v0 ∧ W.cell? ⟨b, 1, none⟩ = some v1 ∧ W.cell? ⟨K, 0, none⟩ = some (.int .i64 a1) ∧ W.cell? ⟨K, 1, none⟩ = some (.int .i64 b1) ∧ W.cell? ⟨g, o, none⟩ = some (.int .i64 p1) ∧ W.cell? ⟨g, o + 1, none⟩ = some (.int .i64 p2) ∧ Hid (Below w0.heap.size w0 W)
theorem KP.step {w0 W W' : World} {b K g o : Nat} {v0 v1 : Value} {a1 b1 p1 p2 : Int} (h : KP w0 b K g o v0 v1 a1 b1 p1 p2 W) (hb : Below W.heap.size W W') : KP w0 b K g o v0 v1 a1 b1 p1 p2 W' := by
  obtain ⟨h1, h2, h3, h4, h6, h7, h5⟩ := h
  exact ⟨(hb.cell (p := ⟨b, 0, none⟩) (World.block_lt_of_cell? W _ h1)).trans h1, (hb.cell (p := ⟨b, 1, none⟩) (World.block_lt_of_cell? W _ h2)).trans h2, (hb.cell (p := ⟨K, 0, none⟩) (World.block_lt_of_cell? W _ h3)).trans h3, (hb.cell (p := ⟨K, 1, none⟩) (World.block_lt_of_cell? W _ h4)).trans h4, (hb.cell (p := ⟨g, o, none⟩) (World.block_lt_of_cell? W _ h6)).trans h6, (hb.cell (p := ⟨g, o + 1, none⟩) (World.block_lt_of_cell? W _ h7)).trans h7, h5.out.trans (hb.mono h5.out.size)⟩
/-- What the last test keeps. -/
abbrev KG (w0 : World) (b : Nat) (v0 v1 : Value) (W : World) : Prop := W.cell? ⟨b, 0, none⟩ = some v0 ∧ W.cell? ⟨b, 1, none⟩ = some v1 ∧ Hid (Below w0.heap.size w0 W)
theorem KG.step {w0 W W' : World} {b : Nat} {v0 v1 : Value} (h : KG w0 b v0 v1 W) (hb : Below W.heap.size W W') : KG w0 b v0 v1 W' := by
  obtain ⟨h1, h2, h5⟩ := h
  exact ⟨(hb.cell (p := ⟨b, 0, none⟩) (World.block_lt_of_cell? W _ h1)).trans h1, (hb.cell (p := ⟨b, 1, none⟩) (World.block_lt_of_cell? W _ h2)).trans h2, h5.out.trans (hb.mono h5.out.size)⟩
abbrev KM (w0 : World) (b g o : Nat) (v0 v1 : Value) (m0 : Int) (W : World) : Prop := W.cell? ⟨b, 0, none⟩ = some v0 ∧ W.cell? ⟨b, 1, none⟩ = some v1 ∧ W.cell? ⟨g, o, none⟩ = some (.int .i64 m0) ∧ Hid (Below w0.heap.size w0 W)
theorem KM.step {w0 W W' : World} {b g o : Nat} {v0 v1 : Value} {m0 : Int} (h : KM w0 b g o v0 v1 m0 W) (hb : Below W.heap.size W W') : KM w0 b g o v0 v1 m0 W' := by
  obtain ⟨h1, h2, h3, h5⟩ := h
  exact ⟨(hb.cell (p := ⟨b, 0, none⟩) (World.block_lt_of_cell? W _ h1)).trans h1, (hb.cell (p := ⟨b, 1, none⟩) (World.block_lt_of_cell? W _ h2)).trans h2, (hb.cell (p := ⟨g, o, none⟩) (World.block_lt_of_cell? W _ h3)).trans h3, h5.out.trans (hb.mono h5.out.size)⟩
theorem memOk_iff {ms : List Int} {i : Nat} {x : Int} (hx : ms[i]? = some x) : memOk ms i = decide (0 ≤ x ∧ x < 8 ∧ (i = 0 ∨ ms.getD (i - 1) 0 < x)) := by
  unfold memOk
  have e : ms.getD i 0 = x := by rw [List.getD_eq_getElem?_getD, hx]; rfl
  rw [e]
theorem lkOk_iff {ms : List Int} {ls : List Lk} {i : Nat} {k : Lk} (hk : ls[i]? = some k) : lkOk ms ls i = decide (k.1 < k.2 ∧ k.1 ∈ ms ∧ k.2 ∈ ms ∧ (i = 0 ∨ lkLt (ls.getD (i - 1) (0, 0)) k)) := by
  unfold lkOk
  have e : ls.getD i (0, 0) = k := by rw [List.getD_eq_getElem?_getD, hk]; rfl
  rw [e]

section
variable (Am : Option Addr) (n cm : Nat) (Al : Option Addr) (q cl : Nat) (ms : List Int) (ls : List Lk)
set_option maxRecDepth 100000 in
set_option maxHeartbeats 8000000 in
theorem check_any (w : World) (hG : GrAt w Am n Al q ms ls) (hn : n ≤ 1000) (hq : q ≤ 1000) :
    Calls Tryz.prog 26 #[grV Am n cm Al q cl] w fun e w' => ∃ v, e = .returned v ∧ Hid (ErrIs w' v (chk ms ls) ∧ Below w.heap.size w w') := by
  have HG := Lib.hid hG
  have HN : Hid (n ≤ 1000 ∧ q ≤ 1000) := ⟨hn, hq⟩
  have HHAS : Hid (∀ x W, Below w.heap.size w W → Calls Tryz.prog 48 #[grV Am n cm Al q cl, .int .i64 x] W fun e w' => e = .returned (.bool (decide (x ∈ ms))) ∧ Below W.heap.size W w') := fun x W hW => has_any Am n cm Al q cl ms x W hG.mlen (hG.mrow.below hW) (by omega)
  clear hG hn hq
  obtain ⟨b, hb⟩ : ∃ b, b = w.heap.size := ⟨_, rfl⟩
  obtain ⟨w1, hw1⟩ : ∃ w1, w1 = w.alloc (.cells #[.slice Am n cm, .slice Al q cl] 25) := ⟨_, rfl⟩
  have HB : Hid (w1.heap[b]? = some (.cells #[.slice Am n cm, .slice Al q cl] 25 (0, 0)) ∧ Below w.heap.size w w1) := by
    rw [hw1, hb]; exact ⟨heap_alloc_new _ _, (Below.refl _ _).alloc (Nat.le_refl _) _⟩
  obtain ⟨d0, d1, df, dl⟩ := cell2 HB.out.1
  by_cases h8 : 8 < n
  · have hd : decide ((n : Int) > 8) = true := by rw [decide_eq_true_iff]; omega
    have HE : Hid (chk ms ls = plainE 2) := by unfold chk; rw [if_pos (by rw [HG.out.mlen]; exact h8)]; rfl
    clear h8
    go_enter Tryz.func26, Tryz.ntmps26
    go_wp2_with fail
    go_ret
    exact ⟨_, rfl, by rw [HE.out]; rfl, (Below.refl _ _).alloc (Nat.le_refl _) _⟩
  · have hd : decide ((n : Int) > 8) = false := by rw [decide_eq_false_iff_not]; omega
    have HN8 : Hid (n ≤ 8) := by simp only [Hid]; omega
    clear h8
    go_enter Tryz.func26, Tryz.ntmps26
    rw [hw1, hb] at d0 d1 df dl
    go_wp2_with fail
    rw [← hw1, ← hb]
    rw [← hw1, ← hb] at d0 d1 df dl
    clear hw1 hb
    go_loopw [15] (fun i wr => ∃ (j : Nat), j ≤ n ∧ i = .int .i64 j ∧ wr = w1 ∧ Hid (∀ i, i < j → memOk ms i = true)) (fun i _ => n - (intOf i).toNat)
    case atStart => exact ⟨0, Nat.zero_le _, rfl, rfl, Lib.hid fun i hi => by omega⟩
    case round =>
      obtain ⟨j, hj, rfl, rfl, HS⟩ := hrel
      by_cases hlt : j < n
      · obtain ⟨x, hx⟩ : ∃ x, Hid (ms[j]? = some x) := ⟨_, List.getElem?_eq_getElem (by have := HG.out.mlen; omega)⟩
        obtain ⟨g, off, rfl, x0, hg⟩ := (HG.out.mrow.below HB.out.2).int hx.out
        have hw1 : IntKind.i64.wrap ((j : Int) + 1) = ((j + 1 : Nat) : Int) := by have := HN8.out; rw [IntKind.wrap_i64]; omega
        have hj0 : ((0 : Int) ≤ j) := by omega
        have hj1 : ((j : Nat) : Int) < n := by omega
        have HM := Lib.hid (memOk_iff hx.out)
        have HBAD : Hid (memOk ms j = false → chk ms ls = itemE j 12) := fun h => by
          unfold chk
          rw [if_neg (by rw [HG.out.mlen]; have := HN8.out; omega), firstBad_some HS.out (by rw [HG.out.mlen]; exact hlt) h]
        have HOK : Hid (memOk ms j = true → ∀ i, i < j + 1 → memOk ms i = true) := fun h i hi => by
          rcases Nat.lt_or_ge i j with h1 | h1
          · exact HS.out i h1
          · have e : i = j := by omega
            rw [e]; exact h
        by_cases c1 : x < 0
        · have e1 : decide (x < 0) = true := decide_eq_true c1
          have HE : Hid (chk ms ls = itemE j 12) := HBAD.out (by rw [HM.out]; exact decide_eq_false (by omega))
          clear c1
          go_wp2_with (go_at_call 55; refine (at_any 2 j 12 _).mono ?_; rintro e w5 ⟨v, rfl, hv, hb5⟩)
          go_ret
          exact ⟨v, rfl, by rw [HE.out]; exact hv, HB.out.2.trans (hb5.mono HB.out.2.size)⟩
        by_cases c2 : 8 ≤ x
        · have e1 : decide (x < 0) = false := decide_eq_false c1
          have e2 : decide (x ≥ 8) = true := decide_eq_true c2
          have HE : Hid (chk ms ls = itemE j 12) := HBAD.out (by rw [HM.out]; exact decide_eq_false (by omega))
          clear c1 c2
          go_wp2_with (go_at_call 55; refine (at_any 2 j 12 _).mono ?_; rintro e w5 ⟨v, rfl, hv, hb5⟩)
          go_ret
          exact ⟨v, rfl, by rw [HE.out]; exact hv, HB.out.2.trans (hb5.mono HB.out.2.size)⟩
        have e1 : decide (x < 0) = false := decide_eq_false c1
        have e2 : decide (x ≥ 8) = false := decide_eq_false c2
        by_cases c3 : j = 0
        · have e3 : ¬ (0 < j) := by omega
          have HE := HOK.out (by rw [HM.out]; exact decide_eq_true ⟨by omega, by omega, .inl c3⟩)
          have HE2 := Lib.hid HE
          clear HE c1 c2 c3 HM HBAD HOK
          go_wp2
          exact ⟨⟨j + 1, hlt, by go_num, by first | rfl | trivial, HE2.out⟩, by simp [intOf]; omega⟩
        obtain ⟨p, hjp⟩ : ∃ p, Hid (j = p + 1) := ⟨j - 1, by simp only [Hid]; omega⟩
        obtain ⟨y, hy⟩ : ∃ y, Hid (ms[p]? = some y) := ⟨_, List.getElem?_eq_getElem (by have := HG.out.mlen; have := hjp.out; omega)⟩
        have y0 : wr.cell? ⟨g, off + p, none⟩ = some (.int .i64 y) := by
          obtain ⟨g', off', he, h0, _⟩ := (HG.out.mrow.below HB.out.2).int hy.out
          cases he
          exact h0
        have hgd : ms.getD (j - 1) 0 = y := by
          rw [show j - 1 = p by have := hjp.out; omega, List.getD_eq_getElem?_getD, hy.out]; rfl
        have e3 : 0 < j := by omega
        have hpI : (j : Int) - 1 = (p : Int) := by have := hjp.out; omega
        have hw3 : wrap64 ((j : Int) - 1) = (p : Int) := by rw [hpI]; have := HN8.out; unfold wrap64; omega
        have hp0 : ((0 : Int) ≤ p) := by omega
        have hp1 : ((p : Nat) : Int) < n := by omega
        clear hpI
        rw [hgd] at HM
        by_cases c4 : y ≥ x
        · have e4 : decide (y ≥ x) = true := decide_eq_true c4
          have HE : Hid (chk ms ls = itemE j 12) := HBAD.out (by rw [HM.out]; exact decide_eq_false (by omega))
          clear c1 c2 c3 c4 HM HBAD HOK
          go_wp2_with (go_at_call 55; refine (at_any 2 j 12 _).mono ?_; rintro e w5 ⟨v, rfl, hv, hb5⟩)
          go_ret
          exact ⟨v, rfl, by rw [HE.out]; exact hv, HB.out.2.trans (hb5.mono HB.out.2.size)⟩
        · have e4 : decide (y ≥ x) = false := decide_eq_false c4
          have HE := HOK.out (by rw [HM.out]; exact decide_eq_true ⟨by omega, by omega, .inr (by omega)⟩)
          have HE2 := Lib.hid HE
          clear HE c1 c2 c3 c4 HM HBAD HOK
          go_wp2
          exact ⟨⟨j + 1, hlt, by go_num, by first | rfl | trivial, HE2.out⟩, by simp [intOf]; omega⟩
      · have hjn : j = n := by omega
        subst hjn
        have HMS : Hid (firstBad (memOk ms) ms.length = none) := firstBad_none fun i hi => HS.out i (by have := HG.out.mlen; omega)
        clear hlt hj HS
        go_wp2
        go_loopw [47] (fun i wr => ∃ (j2 : Nat), j2 ≤ q ∧ i = .int .i64 j2 ∧ Hid ((∀ i, i < j2 → lkOk ms ls i = true) ∧ wr.heap[b]? = some (.cells #[.slice Am j cm, .slice Al q cl] 25 (0, 0)) ∧ Below w.heap.size w wr)) (fun i _ => q - (intOf i).toNat)
        case atStart => exact ⟨0, Nat.zero_le _, rfl, fun i hi => by omega, HB.out⟩
        case round =>
          obtain ⟨j2, hj2, rfl, HL⟩ := hrel
          clear d0 d1 df dl
          obtain ⟨d0, d1, df, dl⟩ := cell2 HL.out.2.1
          by_cases hlt : j2 < q
          · obtain ⟨k, hk⟩ : ∃ k, Hid (ls[j2]? = some k) := ⟨_, List.getElem?_eq_getElem (by have := HG.out.llen; omega)⟩
            obtain ⟨g, off, rfl, x0, x1, hg⟩ := (HG.out.lrow.below HL.out.2.2).lk hk.out
            obtain ⟨k1, hk1⟩ : ∃ k1, Hid (k.1 = k1) := ⟨_, rfl⟩
            obtain ⟨k2, hk2⟩ : ∃ k2, Hid (k.2 = k2) := ⟨_, rfl⟩
            rw [hk1.out] at x0
            rw [hk2.out] at x1
            have hw1 : IntKind.i64.wrap ((j2 : Int) + 1) = ((j2 + 1 : Nat) : Int) := by have := HN.out; rw [IntKind.wrap_i64]; omega
            have hj0 : ((0 : Int) ≤ j2) := by omega
            have hj1 : ((j2 : Nat) : Int) < q := by omega
            have HM := Lib.hid (lkOk_iff (ms := ms) hk.out)
            rw [hk1.out, hk2.out] at HM
            have HBAD : Hid (lkOk ms ls j2 = false → chk ms ls = itemE j2 13) := fun h => by
              unfold chk
              rw [if_neg (by rw [HG.out.mlen]; have := HN8.out; omega), HMS.out]
              simp only
              rw [firstBad_some HL.out.1 (by rw [HG.out.llen]; exact hlt) h]
            have HOK : Hid (lkOk ms ls j2 = true → ∀ i, i < j2 + 1 → lkOk ms ls i = true) := fun h i hi => by
              rcases Nat.lt_or_ge i j2 with h1 | h1
              · exact HL.out.1 i h1
              · have e : i = j2 := by omega
                rw [e]; exact h
            obtain ⟨K, hK⟩ : ∃ K, K = wr.heap.size := ⟨_, rfl⟩
            obtain ⟨W1, hW1⟩ : ∃ W1, W1 = wr.alloc (.cells #[.int .i64 k1, .int .i64 k2] 35) := ⟨_, rfl⟩
            have HB1 : Hid (W1.heap[b]? = some (.cells #[.slice Am j cm, .slice (some ⟨g, off, none⟩) q cl] 25 (0, 0)) ∧ Below w.heap.size w W1 ∧ W1.heap[K]? = some (.cells #[.int .i64 k1, .int .i64 k2] 35 (0, 0))) := by
              rw [hW1, hK]; exact ⟨(Below.heap_alloc _ _ _ dl).trans HL.out.2.1, HL.out.2.2.alloc HL.out.2.2.size _, heap_alloc_new _ _⟩
            have hKC : KC W1 b K (.slice Am j cm) (.slice (some ⟨g, off, none⟩) q cl) k1 k2 W1 := ⟨(cell2 HB1.out.1).1, (cell2 HB1.out.1).2.1, (cell2 HB1.out.2.2).1, (cell2 HB1.out.2.2).2.1, Lib.hid (Below.refl _ _)⟩
            have HH1 : Hid (∀ x W, KC W1 b K (.slice Am j cm) (.slice (some ⟨g, off, none⟩) q cl) k1 k2 W → Calls Tryz.prog 48 #[grV Am j cm (some ⟨g, off, none⟩) q cl, .int .i64 x] W fun e w' => e = .returned (.bool (decide (x ∈ ms))) ∧ KC W1 b K (.slice Am j cm) (.slice (some ⟨g, off, none⟩) q cl) k1 k2 w') := fun x W hW => by
              refine (HHAS.out x W (HB1.out.2.1.trans (hW.2.2.2.2.out.mono HB1.out.2.1.size))).mono ?_
              rintro e w' ⟨rfl, hb⟩
              exact ⟨rfl, hW.step hb⟩
            have hKd : KC W1 b K (.slice Am j cm) (.slice (some ⟨g, off, none⟩) q cl) k1 k2 W1.drew := hKC.step (Below.refl _ _).drew
            by_cases c1 : k1 ≥ k2
            · have e1 : decide (k1 ≥ k2) = true := decide_eq_true c1
              have HE : Hid (chk ms ls = itemE j2 13) := HBAD.out (by rw [HM.out]; exact decide_eq_false (by omega))
              clear c1 HM HBAD HOK
              haveI : Nonempty (QW (KC W1 b K (.slice Am j cm) (.slice (some ⟨g, off, none⟩) q cl) k1 k2)) := ⟨⟨W1, hKC⟩⟩
              have q0 : ∀ x : QW (KC W1 b K (.slice Am j cm) (.slice (some ⟨g, off, none⟩) q cl) k1 k2), x.val.cell? ⟨b, 0, none⟩ = some (.slice Am j cm) := fun x => x.ok.1
              have q1 : ∀ x : QW (KC W1 b K (.slice Am j cm) (.slice (some ⟨g, off, none⟩) q cl) k1 k2), x.val.cell? ⟨b, 1, none⟩ = some (.slice (some ⟨g, off, none⟩) q cl) := fun x => x.ok.2.1
              have q2 : ∀ x : QW (KC W1 b K (.slice Am j cm) (.slice (some ⟨g, off, none⟩) q cl) k1 k2), x.val.cell? ⟨K, 0, none⟩ = some (.int .i64 k1) := fun x => x.ok.2.2.1
              have q3 : ∀ x : QW (KC W1 b K (.slice Am j cm) (.slice (some ⟨g, off, none⟩) q cl) k1 k2), x.val.cell? ⟨K, 1, none⟩ = some (.int .i64 k2) := fun x => x.ok.2.2.2.1
              go_wp2
              rw [← hW1, ← hK]
              clear hW1 hK
              refine region_in (KC W1 b K (.slice Am j cm) (.slice (some ⟨g, off, none⟩) q cl) k1 k2) (by kernel_rfl) (by kernel_rfl) hKd ?_
              repeat (go_big_quiet_step (fail))
              refine wpQuiet_nil ?_
              intro W5 hK5
              go_wp2_with (go_at_call 55; refine (at_any 2 j2 13 _).mono ?_; rintro e w5 ⟨v, rfl, hv, hb5⟩)
              go_ret
              exact ⟨v, rfl, by rw [HE.out]; exact hv, (HB1.out.2.1.trans (hK5.2.2.2.2.out.mono HB1.out.2.1.size)).trans (hb5.mono (Nat.le_trans HB1.out.2.1.size hK5.2.2.2.2.out.size))⟩
            have e1 : decide (k1 ≥ k2) = false := decide_eq_false c1
            by_cases c2 : k1 ∈ ms
            case neg =>
              have HE : Hid (chk ms ls = itemE j2 13) := HBAD.out (by rw [HM.out]; exact decide_eq_false (fun h => c2 h.2.1))
              have HHA : Hid (∀ W, KC W1 b K (.slice Am j cm) (.slice (some ⟨g, off, none⟩) q cl) k1 k2 W → Calls Tryz.prog 48 #[grV Am j cm (some ⟨g, off, none⟩) q cl, .int .i64 k1] W fun e w' => e = .returned (.bool false) ∧ KC W1 b K (.slice Am j cm) (.slice (some ⟨g, off, none⟩) q cl) k1 k2 w') := fun W hW => by
                have := HH1.out k1 W hW
                rw [decide_eq_false c2] at this; exact this
              clear c1 c2 HH1 HM HBAD HOK
              haveI : Nonempty (QW (KC W1 b K (.slice Am j cm) (.slice (some ⟨g, off, none⟩) q cl) k1 k2)) := ⟨⟨W1, hKC⟩⟩
              have q0 : ∀ x : QW (KC W1 b K (.slice Am j cm) (.slice (some ⟨g, off, none⟩) q cl) k1 k2), x.val.cell? ⟨b, 0, none⟩ = some (.slice Am j cm) := fun x => x.ok.1
              have q1 : ∀ x : QW (KC W1 b K (.slice Am j cm) (.slice (some ⟨g, off, none⟩) q cl) k1 k2), x.val.cell? ⟨b, 1, none⟩ = some (.slice (some ⟨g, off, none⟩) q cl) := fun x => x.ok.2.1
              have q2 : ∀ x : QW (KC W1 b K (.slice Am j cm) (.slice (some ⟨g, off, none⟩) q cl) k1 k2), x.val.cell? ⟨K, 0, none⟩ = some (.int .i64 k1) := fun x => x.ok.2.2.1
              have q3 : ∀ x : QW (KC W1 b K (.slice Am j cm) (.slice (some ⟨g, off, none⟩) q cl) k1 k2), x.val.cell? ⟨K, 1, none⟩ = some (.int .i64 k2) := fun x => x.ok.2.2.2.1
              go_wp2
              rw [← hW1, ← hK]
              clear hW1 hK
              refine region_in (KC W1 b K (.slice Am j cm) (.slice (some ⟨g, off, none⟩) q cl) k1 k2) (by kernel_rfl) (by kernel_rfl) hKd ?_
              repeat (go_big_quiet_step ((go_at_call 48; refine calls_in (HHA.out _ (QW.ok _)))))
              refine wpQuiet_nil ?_
              intro W5 hK5
              go_wp2_with (go_at_call 55; refine (at_any 2 j2 13 _).mono ?_; rintro e w5 ⟨v, rfl, hv, hb5⟩)
              go_ret
              exact ⟨v, rfl, by rw [HE.out]; exact hv, (HB1.out.2.1.trans (hK5.2.2.2.2.out.mono HB1.out.2.1.size)).trans (hb5.mono (Nat.le_trans HB1.out.2.1.size hK5.2.2.2.2.out.size))⟩
            by_cases c3 : k2 ∈ ms
            case neg =>
              have HE : Hid (chk ms ls = itemE j2 13) := HBAD.out (by rw [HM.out]; exact decide_eq_false (fun h => c3 h.2.2.1))
              have HHA : Hid (∀ W, KC W1 b K (.slice Am j cm) (.slice (some ⟨g, off, none⟩) q cl) k1 k2 W → Calls Tryz.prog 48 #[grV Am j cm (some ⟨g, off, none⟩) q cl, .int .i64 k1] W fun e w' => e = .returned (.bool true) ∧ KC W1 b K (.slice Am j cm) (.slice (some ⟨g, off, none⟩) q cl) k1 k2 w') := fun W hW => by
                have := HH1.out k1 W hW
                rw [decide_eq_true c2] at this; exact this
              have HHB : Hid (∀ W, KC W1 b K (.slice Am j cm) (.slice (some ⟨g, off, none⟩) q cl) k1 k2 W → Calls Tryz.prog 48 #[grV Am j cm (some ⟨g, off, none⟩) q cl, .int .i64 k2] W fun e w' => e = .returned (.bool false) ∧ KC W1 b K (.slice Am j cm) (.slice (some ⟨g, off, none⟩) q cl) k1 k2 w') := fun W hW => by
                have := HH1.out k2 W hW
                rw [decide_eq_false c3] at this; exact this
              clear c1 c2 c3 HH1 HM HBAD HOK
              haveI : Nonempty (QW (KC W1 b K (.slice Am j cm) (.slice (some ⟨g, off, none⟩) q cl) k1 k2)) := ⟨⟨W1, hKC⟩⟩
              have q0 : ∀ x : QW (KC W1 b K (.slice Am j cm) (.slice (some ⟨g, off, none⟩) q cl) k1 k2), x.val.cell? ⟨b, 0, none⟩ = some (.slice Am j cm) := fun x => x.ok.1
              have q1 : ∀ x : QW (KC W1 b K (.slice Am j cm) (.slice (some ⟨g, off, none⟩) q cl) k1 k2), x.val.cell? ⟨b, 1, none⟩ = some (.slice (some ⟨g, off, none⟩) q cl) := fun x => x.ok.2.1
              have q2 : ∀ x : QW (KC W1 b K (.slice Am j cm) (.slice (some ⟨g, off, none⟩) q cl) k1 k2), x.val.cell? ⟨K, 0, none⟩ = some (.int .i64 k1) := fun x => x.ok.2.2.1
              have q3 : ∀ x : QW (KC W1 b K (.slice Am j cm) (.slice (some ⟨g, off, none⟩) q cl) k1 k2), x.val.cell? ⟨K, 1, none⟩ = some (.int .i64 k2) := fun x => x.ok.2.2.2.1
              go_wp2
              rw [← hW1, ← hK]
              clear hW1 hK
              refine region_in (KC W1 b K (.slice Am j cm) (.slice (some ⟨g, off, none⟩) q cl) k1 k2) (by kernel_rfl) (by kernel_rfl) hKd ?_
              repeat (go_big_quiet_step ((first | (go_at_call 48; refine calls_in (HHA.out _ (QW.ok _))) | (go_at_call 48; refine calls_in (HHB.out _ (QW.ok _))))))
              refine wpQuiet_nil ?_
              intro W5 hK5
              go_wp2_with (go_at_call 55; refine (at_any 2 j2 13 _).mono ?_; rintro e w5 ⟨v, rfl, hv, hb5⟩)
              go_ret
              exact ⟨v, rfl, by rw [HE.out]; exact hv, (HB1.out.2.1.trans (hK5.2.2.2.2.out.mono HB1.out.2.1.size)).trans (hb5.mono (Nat.le_trans HB1.out.2.1.size hK5.2.2.2.2.out.size))⟩
            by_cases c4 : j2 = 0
            · have e3 : ¬ (0 < j2) := by omega
              have HE2 := Lib.hid (HOK.out (by rw [HM.out]; exact decide_eq_true ⟨by omega, c2, c3, .inl c4⟩))
              have HHA : Hid (∀ W, KC W1 b K (.slice Am j cm) (.slice (some ⟨g, off, none⟩) q cl) k1 k2 W → Calls Tryz.prog 48 #[grV Am j cm (some ⟨g, off, none⟩) q cl, .int .i64 k1] W fun e w' => e = .returned (.bool true) ∧ KC W1 b K (.slice Am j cm) (.slice (some ⟨g, off, none⟩) q cl) k1 k2 w') := fun W hW => by
                have := HH1.out k1 W hW
                rw [decide_eq_true c2] at this; exact this
              have HHB : Hid (∀ W, KC W1 b K (.slice Am j cm) (.slice (some ⟨g, off, none⟩) q cl) k1 k2 W → Calls Tryz.prog 48 #[grV Am j cm (some ⟨g, off, none⟩) q cl, .int .i64 k2] W fun e w' => e = .returned (.bool true) ∧ KC W1 b K (.slice Am j cm) (.slice (some ⟨g, off, none⟩) q cl) k1 k2 w') := fun W hW => by
                have := HH1.out k2 W hW
                rw [decide_eq_true c3] at this; exact this
              clear c1 c2 c3 c4 HH1 HM HBAD HOK
              haveI : Nonempty (QW (KC W1 b K (.slice Am j cm) (.slice (some ⟨g, off, none⟩) q cl) k1 k2)) := ⟨⟨W1, hKC⟩⟩
              have q0 : ∀ x : QW (KC W1 b K (.slice Am j cm) (.slice (some ⟨g, off, none⟩) q cl) k1 k2), x.val.cell? ⟨b, 0, none⟩ = some (.slice Am j cm) := fun x => x.ok.1
              have q1 : ∀ x : QW (KC W1 b K (.slice Am j cm) (.slice (some ⟨g, off, none⟩) q cl) k1 k2), x.val.cell? ⟨b, 1, none⟩ = some (.slice (some ⟨g, off, none⟩) q cl) := fun x => x.ok.2.1
              have q2 : ∀ x : QW (KC W1 b K (.slice Am j cm) (.slice (some ⟨g, off, none⟩) q cl) k1 k2), x.val.cell? ⟨K, 0, none⟩ = some (.int .i64 k1) := fun x => x.ok.2.2.1
              have q3 : ∀ x : QW (KC W1 b K (.slice Am j cm) (.slice (some ⟨g, off, none⟩) q cl) k1 k2), x.val.cell? ⟨K, 1, none⟩ = some (.int .i64 k2) := fun x => x.ok.2.2.2.1
              go_wp2
              rw [← hW1, ← hK]
              clear hW1 hK
              refine region_in (KC W1 b K (.slice Am j cm) (.slice (some ⟨g, off, none⟩) q cl) k1 k2) (by kernel_rfl) (by kernel_rfl) hKd ?_
              repeat (go_big_quiet_step ((first | (go_at_call 48; refine calls_in (HHA.out _ (QW.ok _))) | (go_at_call 48; refine calls_in (HHB.out _ (QW.ok _))))))
              refine wpQuiet_nil ?_
              intro W5 hK5
              have hlim := hK5.2.2.2.2.out
              have HFIN : Hid (W5.heap[b]? = some (.cells #[.slice Am j cm, .slice (some ⟨g, off, none⟩) q cl] 25 (0, 0)) ∧ Below w.heap.size w W5) := ⟨(hlim.block b (Array.getElem?_eq_some_iff.1 HB1.out.1).1).trans HB1.out.1, HB1.out.2.1.trans (hlim.mono HB1.out.2.1.size)⟩
              clear hlim hK5
              go_wp2
              exact ⟨⟨j2 + 1, hlt, by go_num, HE2.out, HFIN.out⟩, by simp [intOf]; omega⟩
            obtain ⟨p, hjp⟩ : ∃ p, Hid (j2 = p + 1) := ⟨j2 - 1, by simp only [Hid]; omega⟩
            obtain ⟨k', hk'⟩ : ∃ x, Hid (ls[p]? = some x) := ⟨_, List.getElem?_eq_getElem (by have := HG.out.llen; have := hjp.out; omega)⟩
            obtain ⟨p1, hp1⟩ : ∃ z, Hid (k'.1 = z) := ⟨_, rfl⟩
            obtain ⟨p2, hp2⟩ : ∃ z, Hid (k'.2 = z) := ⟨_, rfl⟩
            have HBND : Hid (∀ x ∈ [p1, p2, k1, k2], 0 ≤ x ∧ x < 8) := by
              have h1 := (msOk_of HMS.out).2
              have h2 := of_decide_eq_true ((lkOk_iff hk'.out).symm.trans (HL.out.1 p (by have := hjp.out; omega)))
              rw [hp1.out, hp2.out] at h2
              intro x hx
              simp at hx
              rcases hx with rfl | rfl | rfl | rfl
              · exact all_iff.1 (h1 _ h2.2.1)
              · exact all_iff.1 (h1 _ h2.2.2.1)
              · exact all_iff.1 (h1 _ c2)
              · exact all_iff.1 (h1 _ c3)
            have hgd : ls.getD (j2 - 1) (0, 0) = k' := by
              rw [show j2 - 1 = p by have := hjp.out; omega, List.getD_eq_getElem?_getD, hk'.out]; rfl
            rw [hgd] at HM
            have hKP : KP W1 b K g (off + p * 2) (.slice Am j cm) (.slice (some ⟨g, off, none⟩) q cl) k1 k2 p1 p2 W1 := by
              obtain ⟨g', off', he, h0, h1, _⟩ := (HG.out.lrow.below HB1.out.2.1).lk hk'.out
              cases he
              rw [hp1.out] at h0
              rw [hp2.out] at h1
              exact ⟨hKC.1, hKC.2.1, hKC.2.2.1, hKC.2.2.2.1, h0, h1, Lib.hid (Below.refl _ _)⟩
            have hKPd : KP W1 b K g (off + p * 2) (.slice Am j cm) (.slice (some ⟨g, off, none⟩) q cl) k1 k2 p1 p2 W1.drew := hKP.step (Below.refl _ _).drew
            have HH3 : Hid (∀ x W, KP W1 b K g (off + p * 2) (.slice Am j cm) (.slice (some ⟨g, off, none⟩) q cl) k1 k2 p1 p2 W → Calls Tryz.prog 48 #[grV Am j cm (some ⟨g, off, none⟩) q cl, .int .i64 x] W fun e w' => e = .returned (.bool (decide (x ∈ ms))) ∧ KP W1 b K g (off + p * 2) (.slice Am j cm) (.slice (some ⟨g, off, none⟩) q cl) k1 k2 p1 p2 w') := fun x W hW => by
              refine (HHAS.out x W (HB1.out.2.1.trans (hW.2.2.2.2.2.2.out.mono HB1.out.2.1.size))).mono ?_
              rintro e w' ⟨rfl, hb⟩
              exact ⟨rfl, hW.step hb⟩
            obtain ⟨cv, hcv⟩ : ∃ cv : Int, Hid ((if p1 = k1 then p2 - k2 else p1 - k1) = cv) := ⟨_, rfl⟩
            have HHC : Hid (∀ W, KP W1 b K g (off + p * 2) (.slice Am j cm) (.slice (some ⟨g, off, none⟩) q cl) k1 k2 p1 p2 W → Calls Tryz.prog 56 #[.agg #[.int .i64 p1, .int .i64 p2], .agg #[.int .i64 k1, .int .i64 k2]] W fun e w' => e = .returned (.int .i64 cv) ∧ KP W1 b K g (off + p * 2) (.slice Am j cm) (.slice (some ⟨g, off, none⟩) q cl) k1 k2 p1 p2 w') := fun W hW => by
              have := compare_below p1 p2 k1 k2 HBND.out W
              rw [hcv.out] at this
              refine this.mono ?_
              rintro e w' ⟨rfl, hb⟩
              exact ⟨rfl, hW.step hb⟩
            have hsg := compare_sign (a := k') (b := k)
            rw [hp1.out, hp2.out, hk1.out, hk2.out, hcv.out] at hsg
            have e3 : 0 < j2 := by omega
            have hpI : (j2 : Int) - 1 = (p : Int) := by have := hjp.out; omega
            have hw3 : wrap64 ((j2 : Int) - 1) = (p : Int) := by rw [hpI]; have := HN.out; have := hjp.out; unfold wrap64; omega
            have hp0 : ((0 : Int) ≤ p) := by omega
            have hp1' : ((p : Nat) : Int) < q := by have := hjp.out; omega
            clear hpI
            have HHA : Hid (∀ W, KP W1 b K g (off + p * 2) (.slice Am j cm) (.slice (some ⟨g, off, none⟩) q cl) k1 k2 p1 p2 W → Calls Tryz.prog 48 #[grV Am j cm (some ⟨g, off, none⟩) q cl, .int .i64 k1] W fun e w' => e = .returned (.bool true) ∧ KP W1 b K g (off + p * 2) (.slice Am j cm) (.slice (some ⟨g, off, none⟩) q cl) k1 k2 p1 p2 w') := fun W hW => by
              have := HH3.out k1 W hW
              rw [decide_eq_true c2] at this; exact this
            have HHB : Hid (∀ W, KP W1 b K g (off + p * 2) (.slice Am j cm) (.slice (some ⟨g, off, none⟩) q cl) k1 k2 p1 p2 W → Calls Tryz.prog 48 #[grV Am j cm (some ⟨g, off, none⟩) q cl, .int .i64 k2] W fun e w' => e = .returned (.bool true) ∧ KP W1 b K g (off + p * 2) (.slice Am j cm) (.slice (some ⟨g, off, none⟩) q cl) k1 k2 p1 p2 w') := fun W hW => by
              have := HH3.out k2 W hW
              rw [decide_eq_true c3] at this; exact this
            by_cases c5 : lkLt k' k
            · have e5 : decide (cv ≥ 0) = false := by rw [hsg, decide_eq_true c5]; rfl
              have HE2 := Lib.hid (HOK.out (by rw [HM.out]; exact decide_eq_true ⟨by omega, c2, c3, .inr c5⟩))
              clear c1 c2 c3 c4 c5 HH1 HH3 HM HBAD HOK hsg hKC hKd hgd
              haveI : Nonempty (QW (KP W1 b K g (off + p * 2) (.slice Am j cm) (.slice (some ⟨g, off, none⟩) q cl) k1 k2 p1 p2)) := ⟨⟨W1, hKP⟩⟩
              have q0 : ∀ x : QW (KP W1 b K g (off + p * 2) (.slice Am j cm) (.slice (some ⟨g, off, none⟩) q cl) k1 k2 p1 p2), x.val.cell? ⟨b, 0, none⟩ = some (.slice Am j cm) := fun x => x.ok.1
              have q1 : ∀ x : QW (KP W1 b K g (off + p * 2) (.slice Am j cm) (.slice (some ⟨g, off, none⟩) q cl) k1 k2 p1 p2), x.val.cell? ⟨b, 1, none⟩ = some (.slice (some ⟨g, off, none⟩) q cl) := fun x => x.ok.2.1
              have q2 : ∀ x : QW (KP W1 b K g (off + p * 2) (.slice Am j cm) (.slice (some ⟨g, off, none⟩) q cl) k1 k2 p1 p2), x.val.cell? ⟨K, 0, none⟩ = some (.int .i64 k1) := fun x => x.ok.2.2.1
              have q3 : ∀ x : QW (KP W1 b K g (off + p * 2) (.slice Am j cm) (.slice (some ⟨g, off, none⟩) q cl) k1 k2 p1 p2), x.val.cell? ⟨K, 1, none⟩ = some (.int .i64 k2) := fun x => x.ok.2.2.2.1
              have q4 : ∀ x : QW (KP W1 b K g (off + p * 2) (.slice Am j cm) (.slice (some ⟨g, off, none⟩) q cl) k1 k2 p1 p2), x.val.cell? ⟨g, off + p * 2, none⟩ = some (.int .i64 p1) := fun x => x.ok.2.2.2.2.1
              have q5 : ∀ x : QW (KP W1 b K g (off + p * 2) (.slice Am j cm) (.slice (some ⟨g, off, none⟩) q cl) k1 k2 p1 p2), x.val.cell? ⟨g, off + p * 2 + 1, none⟩ = some (.int .i64 p2) := fun x => x.ok.2.2.2.2.2.1
              go_wp2
              rw [← hW1, ← hK]
              clear hW1 hK
              refine region_in (KP W1 b K g (off + p * 2) (.slice Am j cm) (.slice (some ⟨g, off, none⟩) q cl) k1 k2 p1 p2) (by kernel_rfl) (by kernel_rfl) hKPd ?_
              repeat (go_big_quiet_step ((first | (go_at_call 48; refine calls_in (HHA.out _ (QW.ok _))) | (go_at_call 48; refine calls_in (HHB.out _ (QW.ok _))) | (go_at_call 56; refine calls_in (HHC.out _ (QW.ok _))))))
              refine wpQuiet_nil ?_
              intro W5 hK5
              have hlim := hK5.2.2.2.2.2.2.out
              have HFIN : Hid (W5.heap[b]? = some (.cells #[.slice Am j cm, .slice (some ⟨g, off, none⟩) q cl] 25 (0, 0)) ∧ Below w.heap.size w W5) := ⟨(hlim.block b (Array.getElem?_eq_some_iff.1 HB1.out.1).1).trans HB1.out.1, HB1.out.2.1.trans (hlim.mono HB1.out.2.1.size)⟩
              clear hlim hK5
              go_wp2
              exact ⟨⟨j2 + 1, hlt, by go_num, HE2.out, HFIN.out⟩, by simp [intOf]; omega⟩
            · have e5 : decide (cv ≥ 0) = true := by rw [hsg, decide_eq_false c5]; rfl
              have HE : Hid (chk ms ls = itemE j2 13) := HBAD.out (by rw [HM.out]; exact decide_eq_false (fun h => by
                rcases h.2.2.2 with h | h
                · exact c4 h
                · exact c5 h))
              clear c1 c2 c3 c4 c5 HH1 HH3 HM HBAD HOK hsg hKC hKd hgd
              haveI : Nonempty (QW (KP W1 b K g (off + p * 2) (.slice Am j cm) (.slice (some ⟨g, off, none⟩) q cl) k1 k2 p1 p2)) := ⟨⟨W1, hKP⟩⟩
              have q0 : ∀ x : QW (KP W1 b K g (off + p * 2) (.slice Am j cm) (.slice (some ⟨g, off, none⟩) q cl) k1 k2 p1 p2), x.val.cell? ⟨b, 0, none⟩ = some (.slice Am j cm) := fun x => x.ok.1
              have q1 : ∀ x : QW (KP W1 b K g (off + p * 2) (.slice Am j cm) (.slice (some ⟨g, off, none⟩) q cl) k1 k2 p1 p2), x.val.cell? ⟨b, 1, none⟩ = some (.slice (some ⟨g, off, none⟩) q cl) := fun x => x.ok.2.1
              have q2 : ∀ x : QW (KP W1 b K g (off + p * 2) (.slice Am j cm) (.slice (some ⟨g, off, none⟩) q cl) k1 k2 p1 p2), x.val.cell? ⟨K, 0, none⟩ = some (.int .i64 k1) := fun x => x.ok.2.2.1
              have q3 : ∀ x : QW (KP W1 b K g (off + p * 2) (.slice Am j cm) (.slice (some ⟨g, off, none⟩) q cl) k1 k2 p1 p2), x.val.cell? ⟨K, 1, none⟩ = some (.int .i64 k2) := fun x => x.ok.2.2.2.1
              have q4 : ∀ x : QW (KP W1 b K g (off + p * 2) (.slice Am j cm) (.slice (some ⟨g, off, none⟩) q cl) k1 k2 p1 p2), x.val.cell? ⟨g, off + p * 2, none⟩ = some (.int .i64 p1) := fun x => x.ok.2.2.2.2.1
              have q5 : ∀ x : QW (KP W1 b K g (off + p * 2) (.slice Am j cm) (.slice (some ⟨g, off, none⟩) q cl) k1 k2 p1 p2), x.val.cell? ⟨g, off + p * 2 + 1, none⟩ = some (.int .i64 p2) := fun x => x.ok.2.2.2.2.2.1
              go_wp2
              rw [← hW1, ← hK]
              clear hW1 hK
              refine region_in (KP W1 b K g (off + p * 2) (.slice Am j cm) (.slice (some ⟨g, off, none⟩) q cl) k1 k2 p1 p2) (by kernel_rfl) (by kernel_rfl) hKPd ?_
              repeat (go_big_quiet_step ((first | (go_at_call 48; refine calls_in (HHA.out _ (QW.ok _))) | (go_at_call 48; refine calls_in (HHB.out _ (QW.ok _))) | (go_at_call 56; refine calls_in (HHC.out _ (QW.ok _))))))
              refine wpQuiet_nil ?_
              intro W5 hK5
              go_wp2_with (go_at_call 55; refine (at_any 2 j2 13 _).mono ?_; rintro e w5 ⟨v, rfl, hv, hb5⟩)
              go_ret
              exact ⟨v, rfl, by rw [HE.out]; exact hv, (HB1.out.2.1.trans (hK5.2.2.2.2.2.2.out.mono HB1.out.2.1.size)).trans (hb5.mono (Nat.le_trans HB1.out.2.1.size hK5.2.2.2.2.2.2.out.size))⟩
          · have hjn : j2 = q := by omega
            subst hjn
            have HLS : Hid (firstBad (lkOk ms ls) ls.length = none) := firstBad_none fun i hi => HL.out.1 i (by have := HG.out.llen; omega)
            clear hlt hj2
            have HCH : Hid (chk ms ls = if ms.length = 0 ∨ ls.length + 1 ≠ ms.length ∨ reachN ls (ms.getD 0 0) ≠ ms.length then plainE 14 else none) := by
              unfold chk
              rw [if_neg (by rw [HG.out.mlen]; have := HN8.out; omega), HMS.out]
              simp only
              rw [HLS.out]
              rfl
            rw [HG.out.mlen, HG.out.llen] at HCH
            have hw4 : wrap64 ((j : Int) - 1) = (j : Int) - 1 := by have := HN8.out; unfold wrap64; omega
            have hw5 : IntKind.i64.wrap ((j : Int) - 1) = (j : Int) - 1 := by have := HN8.out; rw [IntKind.wrap_i64]; omega
            have hKG : KG wr b (.slice Am j cm) (.slice Al j2 cl) wr := ⟨d0, d1, Lib.hid (Below.refl _ _)⟩
            have hKGd : KG wr b (.slice Am j cm) (.slice Al j2 cl) wr.drew := hKG.step (Below.refl _ _).drew
            have HBL : Hid (Below w.heap.size w wr) := HL.out.2.2
            by_cases c1 : j = 0
            · have HE : Hid (chk ms ls = plainE 14) := by rw [Hid, HCH.out, if_pos (.inl c1)]
              have e1 : ((j : Int) == 0) = true := by simpa using c1
              clear c1
              haveI : Nonempty (QW (KG wr b (.slice Am j cm) (.slice Al j2 cl))) := ⟨⟨wr, hKG⟩⟩
              have q0 : ∀ x : QW (KG wr b (.slice Am j cm) (.slice Al j2 cl)), x.val.cell? ⟨b, 0, none⟩ = some (.slice Am j cm) := fun x => x.ok.1
              have q1 : ∀ x : QW (KG wr b (.slice Am j cm) (.slice Al j2 cl)), x.val.cell? ⟨b, 1, none⟩ = some (.slice Al j2 cl) := fun x => x.ok.2.1
              go_wp2
              refine region_in (KG wr b (.slice Am j cm) (.slice Al j2 cl)) (by kernel_rfl) (by kernel_rfl) hKGd ?_
              repeat (go_big_quiet_step (fail))
              refine wpQuiet_nil ?_
              intro W5 hK5
              go_wp2
              go_ret
              exact ⟨_, rfl, by rw [HE.out]; rfl, HBL.out.trans (hK5.2.2.out.mono HBL.out.size)⟩
            have e1 : ((j : Int) == 0) = false := by simpa using c1
            by_cases c2 : j2 + 1 = j
            case neg =>
              have HE : Hid (chk ms ls = plainE 14) := by rw [Hid, HCH.out, if_pos (.inr (.inl c2))]
              have e2 : ((j2 : Int) != (j : Int) - 1) = true := by simp; omega
              clear c1 c2
              haveI : Nonempty (QW (KG wr b (.slice Am j cm) (.slice Al j2 cl))) := ⟨⟨wr, hKG⟩⟩
              have q0 : ∀ x : QW (KG wr b (.slice Am j cm) (.slice Al j2 cl)), x.val.cell? ⟨b, 0, none⟩ = some (.slice Am j cm) := fun x => x.ok.1
              have q1 : ∀ x : QW (KG wr b (.slice Am j cm) (.slice Al j2 cl)), x.val.cell? ⟨b, 1, none⟩ = some (.slice Al j2 cl) := fun x => x.ok.2.1
              go_wp2
              refine region_in (KG wr b (.slice Am j cm) (.slice Al j2 cl)) (by kernel_rfl) (by kernel_rfl) hKGd ?_
              repeat (go_big_quiet_step (fail))
              refine wpQuiet_nil ?_
              intro W5 hK5
              go_wp2
              go_ret
              exact ⟨_, rfl, by rw [HE.out]; rfl, HBL.out.trans (hK5.2.2.out.mono HBL.out.size)⟩
            have e2 : ((j2 : Int) != (j : Int) - 1) = false := by simp; omega
            obtain ⟨m0, hm0⟩ : ∃ x, Hid (ms[0]? = some x) := ⟨ms[0]'(by have := HG.out.mlen; omega), List.getElem?_eq_getElem (by have := HG.out.mlen; omega)⟩
            obtain ⟨g, off, rfl, x0, hg⟩ := (HG.out.mrow.below HBL.out).int hm0.out
            have hgd : ms.getD 0 0 = m0 := by rw [List.getD_eq_getElem?_getD, hm0.out]; rfl
            rw [hgd] at HCH
            have HSI : Hid (∀ W, Below w.heap.size w W → Calls Tryz.prog 40 #[grV (some ⟨g, off, none⟩) j cm Al j2 cl, .int .i64 m0, .int .i64 (-1)] W fun e w' => ∃ (A : Option Addr) (c : Nat), e = .returned (.slice A (reachN ls m0) c) ∧ Below W.heap.size W w') := fun W hW => by
              have h1 := msOk_of HMS.out
              have h2 := lsOk_of HLS.out
              refine (side_any (some ⟨g, off, none⟩) j cm Al j2 cl ls m0 (-1) W HG.out.llen (HG.out.lrow.below hW) HN.out.2 h2.nodup (fun k hk => ⟨(h2.2 k hk).1, h1.2 _ (h2.2 k hk).2.1, h1.2 _ (h2.2 k hk).2.2⟩) (h1.2 _ (List.mem_of_getElem? hm0.out))).mono ?_
              rintro e w' ⟨A, c, rfl, h⟩
              exact ⟨A, c, rfl, h.out.2⟩
            obtain ⟨rn, hrn⟩ : ∃ rn, Hid (reachN ls m0 = rn) := ⟨_, rfl⟩
            rw [hrn.out] at HSI HCH
            rw [Nat.add_zero] at x0
            have hKM : KM wr b g off (.slice (some ⟨g, off, none⟩) j cm) (.slice Al j2 cl) m0 wr := ⟨d0, d1, x0, Lib.hid (Below.refl _ _)⟩
            have hKMd : KM wr b g off (.slice (some ⟨g, off, none⟩) j cm) (.slice Al j2 cl) m0 wr.drew := hKM.step (Below.refl _ _).drew
            have HS2 : Hid (∀ W, KM wr b g off (.slice (some ⟨g, off, none⟩) j cm) (.slice Al j2 cl) m0 W → Calls Tryz.prog 40 #[grV (some ⟨g, off, none⟩) j cm Al j2 cl, .int .i64 m0, .int .i64 (-1)] W fun e w' => ∃ (A : Option Addr) (c : Nat), e = .returned (.slice A rn c) ∧ KM wr b g off (.slice (some ⟨g, off, none⟩) j cm) (.slice Al j2 cl) m0 w') := fun W hW => by
              refine (HSI.out W (HBL.out.trans (hW.2.2.2.out.mono HBL.out.size))).mono ?_
              rintro e w' ⟨A, c, rfl, hb⟩
              exact ⟨A, c, rfl, hW.step hb⟩
            have hjp : (0 : Int) < j := by omega
            have hjp2 : 0 < j := by omega
            by_cases c3 : rn = j
            · have HE : Hid (chk ms ls = none) := by rw [Hid, HCH.out, if_neg (by omega)]
              have e3 : ((rn : Int) != j) = false := by simp [c3]
              clear c1 c2 c3 HSI hKG hKGd hgd
              go_wp2
              first
              | (go_region_held3 (fun W => W.cell? ⟨b, 0, none⟩ = some (.slice (some ⟨g, off, none⟩) j cm) ∧ W.cell? ⟨b, 1, none⟩ = some (.slice Al j2 cl) ∧ W.cell? ⟨g, off, none⟩ = some (.int .i64 m0) ∧ Hid (Below wr.heap.size wr W)) (assumption) (first | (go_at_call 40; refine (HS2.out _ (by assumption)).mono ?_; rintro e w5 ⟨A5, c5, rfl, hK5⟩) | fail))
              | fail
              all_goals
                go_wp2
                go_ret
                exact ⟨_, rfl, by rw [HE.out]; rfl, HBL.out.trans (hK5.2.2.2.out.mono HBL.out.size)⟩
            · have HE : Hid (chk ms ls = plainE 14) := by rw [Hid, HCH.out, if_pos (by omega)]
              have e3 : ((rn : Int) != j) = true := by simp; omega
              clear c1 c2 c3 HSI hKG hKGd hgd
              go_wp2
              first
              | (go_region_held3 (fun W => W.cell? ⟨b, 0, none⟩ = some (.slice (some ⟨g, off, none⟩) j cm) ∧ W.cell? ⟨b, 1, none⟩ = some (.slice Al j2 cl) ∧ W.cell? ⟨g, off, none⟩ = some (.int .i64 m0) ∧ Hid (Below wr.heap.size wr W)) (assumption) (first | (go_at_call 40; refine (HS2.out _ (by assumption)).mono ?_; rintro e w5 ⟨A5, c5, rfl, hK5⟩) | fail))
              | fail
              all_goals
                go_wp2
                go_ret
                exact ⟨_, rfl, by rw [HE.out]; rfl, HBL.out.trans (hK5.2.2.2.out.mono HBL.out.size)⟩
end
end Go.Proofs.YtlkfcfcejicdkaaGreatDoor
