/-
  tree: the law TreeCuts, walked. Printed by gen_treecuts.py. Own work.
-/
import Derived.Test.YtlkfcfcejicdkaaGreatDoorTreeCutsLaw
import Derived.Test.YtlkfcfcejicdkaaGreatDoorTreeBox
import Derived.Deep.CutRange
import Derived.Test.YtlkfcfcejicdkaaGreatDoorQuietIn
set_option linter.unusedSimpArgs false
set_option linter.unusedVariables false
namespace Go.Proofs.YtlkfcfcejicdkaaGreatDoor
open Go Go.RowKit

/-- What the third loop's test keeps. -/
abbrev KV (w0 : World) (gp o1 o2 b13 : Nat) (x y k1 k2 : Int) (W : World) : Prop := W.cell? ⟨gp, o1, none⟩ = some (.int .i64 x) ∧ W.cell? ⟨gp, o2, none⟩ = some (.int .i64 y) ∧ W.cell? ⟨b13, 0, none⟩ = some (.int .i64 k1) ∧ W.cell? ⟨b13, 1, none⟩ = some (.int .i64 k2) ∧ Hid (Below w0.heap.size w0 W)
theorem KV.step {w0 W W' : World} {gp o1 o2 b13 : Nat} {x y k1 k2 : Int} (h : KV w0 gp o1 o2 b13 x y k1 k2 W) (hb : Below W.heap.size W W') : KV w0 gp o1 o2 b13 x y k1 k2 W' := by
  obtain ⟨h1, h2, h3, h4, h5⟩ := h
  exact ⟨(hb.cell (p := ⟨gp, o1, none⟩) (World.block_lt_of_cell? W _ h1)).trans h1, (hb.cell (p := ⟨gp, o2, none⟩) (World.block_lt_of_cell? W _ h2)).trans h2, (hb.cell (p := ⟨b13, 0, none⟩) (World.block_lt_of_cell? W _ h3)).trans h3, (hb.cell (p := ⟨b13, 1, none⟩) (World.block_lt_of_cell? W _ h4)).trans h4, h5.out.trans (hb.mono h5.out.size)⟩
theorem over_one (k : Lk) (p : List Int) : overB k (p.take 1) = false := by cases p <;> rfl
/-- What the first loop's test keeps. -/
abbrev KWy (w0 : World) (bg gp gq o1 o2 o3 : Nat) (u0 u1 : Value) (x y : Int) (W : World) : Prop := W.cell? ⟨bg, 0, none⟩ = some u0 ∧ W.cell? ⟨bg, 1, none⟩ = some u1 ∧ W.cell? ⟨gp, o1, none⟩ = some (.int .i64 x) ∧ W.cell? ⟨gp, o2, none⟩ = some (.int .i64 y) ∧ W.cell? ⟨gq, o3, none⟩ = some (.int .i64 x) ∧ Hid (Below w0.heap.size w0 W)
theorem KWy.step {w0 W W' : World} {bg gp gq o1 o2 o3 : Nat} {u0 u1 : Value} {x y : Int} (h : KWy w0 bg gp gq o1 o2 o3 u0 u1 x y W) (hb : Below W.heap.size W W') : KWy w0 bg gp gq o1 o2 o3 u0 u1 x y W' := by
  obtain ⟨h1, h2, h3, h4, h6, h5⟩ := h
  exact ⟨(hb.cell (p := ⟨bg, 0, none⟩) (World.block_lt_of_cell? W _ h1)).trans h1, (hb.cell (p := ⟨bg, 1, none⟩) (World.block_lt_of_cell? W _ h2)).trans h2, (hb.cell (p := ⟨gp, o1, none⟩) (World.block_lt_of_cell? W _ h3)).trans h3, (hb.cell (p := ⟨gp, o2, none⟩) (World.block_lt_of_cell? W _ h4)).trans h4, (hb.cell (p := ⟨gq, o3, none⟩) (World.block_lt_of_cell? W _ h6)).trans h6, h5.out.trans (hb.mono h5.out.size)⟩
set_option maxRecDepth 100000 in
set_option maxHeartbeats 16000000 in
theorem cuts_any (Am : Option Addr) (n cm : Nat) (Al : Option Addr) (q cl : Nat) (ms : List Int) (ls : List Lk) (a b : Int) (w : World) (hG : GrAt w Am n Al q ms ls) (hE : ErrT w) :
    Calls Tryz.prog 3 #[grV Am n cm Al q cl, .int .i64 a, .int .i64 b] w fun e w' => e = .returned (.bool true) ∧ Below w.heap.size w w' := by
  obtain ⟨bg, hbg⟩ : ∃ b, b = w.heap.size := ⟨_, rfl⟩
  obtain ⟨w1, hw1⟩ : ∃ w1, w1 = w.alloc (.cells #[.slice Am n cm, .slice Al q cl] 25) := ⟨_, rfl⟩
  have HB : Hid (w1.heap[bg]? = some (.cells #[.slice Am n cm, .slice Al q cl] 25 (0, 0)) ∧ bg < w1.heap.size ∧ Bl w w1) := by
    rw [hw1, hbg]; exact ⟨heap_alloc_new _ _, by simp, (Bl.refl _).al _⟩
  have HE : Hid (∀ W, Bl w1 W → ErrT W) := fun W hW => hE.below (bchain HB.out.2.2 hW)
  have HG : Hid (∀ W, Bl w1 W → GrAt W Am n Al q ms ls) := fun W hW => hG.below (bchain HB.out.2.2 hW)
  have HC : Hid (∀ W, Bl w1 W → W.cell? ⟨bg, 0, none⟩ = some (.slice Am n cm) ∧ W.cell? ⟨bg, 1, none⟩ = some (.slice Al q cl)) := fun W hW => by
    obtain ⟨h1, h2, _⟩ := cell2 ((Below.block hW bg HB.out.2.1).trans HB.out.1)
    exact ⟨h1, h2⟩
  have HLQ := Lib.hid (And.intro hG.mlen hG.llen)
  clear hG hE
  go_enter Tryz.func3, Tryz.ntmps3
  go_wp2_with fail
  rw [← hw1, ← hbg]
  clear hw1 hbg
  refine (awake_any w1 (HE.out w1 (Bl.refl _))).mono ?_
  rintro e w2 ⟨rfl, hb2⟩
  have HB2 : Hid (Bl w1 w2) := hb2
  clear hb2
  obtain ⟨c0, c1⟩ := HC.out w2 HB2.out
  by_cases hs : n ≤ 50 ∧ q ≤ 50
  case neg =>
    have HSM : Hid (Calls Tryz.prog 10 #[grV Am n cm Al q cl] w2 fun e w' => e = .returned (.bool false) ∧ Below w2.heap.size w2 w') := by
      have := small_any Am n cm Al q cl w2
      rw [show (decide (n ≤ 50) && decide (q ≤ 50)) = false by
        rw [Bool.and_eq_false_iff, decide_eq_false_iff_not, decide_eq_false_iff_not]; omega] at this
      exact this
    clear hs
    go_wp2_with fail
    refine HSM.out.mono ?_
    rintro e w3 ⟨rfl, hb3⟩
    go_wp2
    go_ret
    exact ⟨rfl, bchain HB.out.2.2 (bchain HB2.out hb3)⟩
  case pos =>
  have HSM : Hid (Calls Tryz.prog 10 #[grV Am n cm Al q cl] w2 fun e w' => e = .returned (.bool true) ∧ Below w2.heap.size w2 w') := by
    have := small_any Am n cm Al q cl w2
    rw [decide_eq_true hs.1, decide_eq_true hs.2] at this
    exact this
  have HN : Hid (n ≤ 1000 ∧ q ≤ 1000) := ⟨by omega, by omega⟩
  have HTW : Hid (∀ W, Bl w1 W → Calls Tryz.prog 12 #[grV Am n cm Al q cl] W fun e w' => ∃ (Am' : Option Addr) (cm' : Nat) (Al' : Option Addr) (cl' : Nat), e = .returned (grV Am' n cm' Al' q cl') ∧ Hid (GrAt w' Am' n Al' q ms ls ∧ Below W.heap.size W w' ∧ Bl w1 w')) := fun W hW => by
    refine (twin_any Am n cm Al q cl ms ls W (HG.out W hW) HN.out.1 HN.out.2).mono ?_
    rintro e w' ⟨Am', cm', Al', cl', rfl, h⟩
    exact ⟨Am', cm', Al', cl', rfl, h.out.1.at_, h.out.2, bchain hW h.out.2⟩
  clear hs
  go_wp2_with fail
  refine HSM.out.mono ?_
  rintro e w3 ⟨rfl, hb3⟩
  have HB3 : Hid (Bl w1 w3) := bchain HB2.out hb3
  clear hb3 HSM c0 c1 HB2
  obtain ⟨c0, c1⟩ := HC.out w3 HB3.out
  rcases way_two (ms := ms) (ls := ls) a b with ⟨e1, e2, hp1, hp2⟩ | ⟨p, hp1, hp2, hgd, hway, hp8⟩
  case inl =>
    have HP : Hid (∀ x y er (Ax : Option Addr) (cx : Nat) (Bx : Option Addr) (dx : Nat) W, wayP ms ls x y = (some er, []) → GrAt W Ax n Bx q ms ls → Calls Tryz.prog 11 #[grV Ax n cx Bx q dx, .int .i64 x, .int .i64 y] W fun e w' => ∃ (A : Option Addr) (c : Nat) (t : TypeId) (v : Value), e = .returned (.tuple #[.slice A 0 c, .iface t v]) ∧ Below W.heap.size W w') := fun x y er Ax cx Bx dx W hx hg => by
      have h := pathM_new Ax n cx Bx q dx ms ls x y W hg HN.out.1 HN.out.2
      rw [hx] at h
      refine h.mono ?_
      rintro e w' ⟨A, c, v, rfl, h⟩
      rcases h.out.1.cases with ⟨h0, h0'⟩ | ⟨_, t, v, rfl⟩
      · first | (cases h0; done) | (cases h0'; done)
      · exact ⟨A, c, t, v, rfl, h.out.2.2.1⟩
    have H1 := Lib.hid hp1
    have H2 := Lib.hid hp2
    clear hp1 hp2
    go_wp2_with fail
    refine (HTW.out w3 HB3.out).mono ?_
    rintro e w4 ⟨A4, c4, B4, d4, rfl, H4⟩
    go_wp2_with fail
    refine (HP.out a b e1 A4 c4 B4 d4 w4 H1.out H4.out.1).mono ?_
    rintro e w5 ⟨A5, c5, t5, v5, rfl, hb5⟩
    have HB5 : Hid (Bl w1 w5) := bchain H4.out.2.2 hb5
    clear hb5 H4 c0 c1
    obtain ⟨c0, c1⟩ := HC.out w5 HB5.out
    go_wp2_with fail
    refine (HTW.out w5 HB5.out).mono ?_
    rintro e w6 ⟨A6, c6, B6, d6, rfl, H6⟩
    go_wp2_with fail
    refine (HP.out b a e2 A6 c6 B6 d6 w6 H2.out H6.out.1).mono ?_
    rintro e w7 ⟨A7, c7, t7, v7, rfl, hb7⟩
    have HB7 : Hid (Bl w1 w7) := bchain H6.out.2.2 hb7
    clear hb7 H6 HB5 c0 c1
    go_wp2
    go_ret
    exact ⟨rfl, bchain HB.out.2.2 HB7.out⟩
  case inr =>
  obtain ⟨m, hm⟩ : ∃ m, p.length = m := ⟨_, rfl⟩
  have HP : Hid (∀ x y (r : List Int) (Ax : Option Addr) (cx : Nat) (Bx : Option Addr) (dx : Nat) W, wayP ms ls x y = (none, r) → r.length = m → GrAt W Ax n Bx q ms ls → Calls Tryz.prog 11 #[grV Ax n cx Bx q dx, .int .i64 x, .int .i64 y] W fun e w' => ∃ (A : Option Addr) (c : Nat), e = .returned (.tuple #[.slice A m c, .nilIface]) ∧ Hid (RowAt w' A (intVs r) ∧ Below W.heap.size W w')) := fun x y r Ax cx Bx dx W hx hr hg => by
    have h := pathM_new Ax n cx Bx q dx ms ls x y W hg HN.out.1 HN.out.2
    rw [hx] at h
    refine h.mono ?_
    rintro e w' ⟨A, c, v, rfl, h⟩
    obtain rfl : v = .nilIface := h.out.1
    exact ⟨A, c, by rw [← hr], h.out.2.1, h.out.2.2.1⟩
  have HM : Hid (p.length = m ∧ p.reverse.length = m ∧ 0 < m ∧ m ≤ 8) := by
    refine ⟨hm, by rw [List.length_reverse]; exact hm, ?_, by rw [← hm]; exact hp8⟩
    obtain ⟨t, ht⟩ := hway.cons
    rw [← hm, ht]; simp
  have H1 := Lib.hid hp1
  have H2 := Lib.hid hp2
  have HW := Lib.hid hway
  have HGD := Lib.hid hgd
  have HEND : Hid (p[0]? = some a ∧ p[m - 1]? = some b) := by
    refine ⟨by rw [← List.head?_eq_getElem?]; exact hway.first, ?_⟩
    rw [← hm, ← List.getLast?_eq_getElem?]; exact hway.last
  clear hp1 hp2 hgd hway hp8 hm
  go_wp2_with fail
  refine (HTW.out w3 HB3.out).mono ?_
  rintro e w4 ⟨A4, c4, B4, d4, rfl, H4⟩
  go_wp2_with fail
  refine (HP.out a b p A4 c4 B4 d4 w4 H1.out HM.out.1 H4.out.1).mono ?_
  rintro e w5 ⟨Ap, cp, rfl, Hp⟩
  have HB5 : Hid (Bl w1 w5) := bchain H4.out.2.2 Hp.out.2
  clear H4 c0 c1
  obtain ⟨c0, c1⟩ := HC.out w5 HB5.out
  go_wp2_with fail
  refine (HTW.out w5 HB5.out).mono ?_
  rintro e w6 ⟨A6, c6, B6, d6, rfl, H6⟩
  go_wp2_with fail
  refine (HP.out b a p.reverse A6 c6 B6 d6 w6 H2.out HM.out.2.1 H6.out.1).mono ?_
  rintro e w7 ⟨Aq, cq, rfl, Hq⟩
  have HB7 : Hid (Bl w1 w7 ∧ RowAt w7 Ap (intVs p) ∧ RowAt w7 Aq (intVs p.reverse)) := ⟨bchain H6.out.2.2 Hq.out.2, Hp.out.1.below (bchain H6.out.2.1 Hq.out.2), Hq.out.1⟩
  clear H6 HB5 c0 c1 Hp Hq H1 H2 HP HB3
  obtain ⟨gp, op, rfl, p0, _⟩ := HB7.out.2.1.int HEND.out.1
  obtain ⟨gp2, op2, he, p1, _⟩ := HB7.out.2.1.int HEND.out.2
  cases he
  have p0' := p0
  rw [Nat.add_zero] at p0'
  have hm0 : ((m : Int) == 0) = false := by have := HM.out; simp; omega
  have hm0' : ¬ ((m : Int) = 0) := by have := HM.out; omega
  have hm1 : (0 : Int) < m := by have := HM.out; omega
  have hwm : IntKind.i64.wrap ((m : Int) - 1) = ((m - 1 : Nat) : Int) := by have := HM.out; rw [IntKind.wrap_i64]; omega
  have hm2 : (0 : Int) ≤ ((m - 1 : Nat) : Int) := by omega
  have hm3 : ((m - 1 : Nat) : Int) < m := by have := HM.out; omega
  go_wp2_with fail
  go_loopw [86] (fun i wr => ∃ (j : Nat), j ≤ m ∧ i = .int .i64 j ∧ Hid (Bl w7 wr)) (fun i _ => m - (intOf i).toNat)
  case atStart => exact ⟨0, Nat.zero_le _, rfl, Bl.refl _⟩
  case round =>
    clear p0 p0' p1 hm0 hm0' hm1 hm2 hm3
    obtain ⟨j, hj, rfl, HS⟩ := hrel
    by_cases hlt : j < m
    case neg =>
      obtain rfl : m = j := by omega
      have HR7 : Hid (Bl w1 wr) := bchain HB7.out.1 HS.out
      obtain ⟨wx, rfl⟩ : ∃ x, x = wr := ⟨_, rfl⟩
      obtain ⟨c0, c1⟩ := HC.out wx HR7.out
      go_wp2_with fail
      go_loopw [125] (fun i wr => ∃ (j : Nat), j ≤ q ∧ i = .int .i64 j ∧ Hid (Bl wx wr)) (fun i _ => q - (intOf i).toNat)
      case atStart => exact ⟨0, Nat.zero_le _, rfl, Bl.refl _⟩
      case round =>
      clear c0 c1
      obtain ⟨wo, rfl⟩ : ∃ x, x = wr := ⟨_, rfl⟩
      obtain ⟨j, hj, rfl, HT⟩ := hrel
      have HT1 : Hid (Bl w1 wo) := bchain HR7.out HT.out
      by_cases hlt : j < q
      case neg =>
        obtain rfl : q = j := by omega
        go_wp2
        go_ret
        exact ⟨rfl, bchain HB.out.2.2 HT1.out⟩
      case pos =>
      obtain ⟨⟨k1, k2⟩, hk⟩ : ∃ y, Hid (ls[j]? = some y) := ⟨_, List.getElem?_eq_getElem (by have := HLQ.out; omega)⟩
      obtain ⟨gl, ol, rfl, d0, d1, _⟩ := (HG.out wo HT1.out).lrow.lk hk.out
      have hj0 : (0 : Int) ≤ j := by omega
      have hj1 : (j : Int) < q := by omega
      have hw1 : IntKind.i64.wrap ((j : Int) + 1) = ((j + 1 : Nat) : Int) := by have := HN.out; rw [IntKind.wrap_i64]; omega
      have HJ : Hid (j < q) := hlt
      have HKM : Hid ((k1, k2) ∈ ls) := List.mem_of_getElem? hk.out
      clear hlt hk
      go_upto_region 20 with fail
      obtain ⟨b13, hb13⟩ : ∃ b, b = wo.heap.size := ⟨_, rfl⟩
      obtain ⟨wa, hwa⟩ : ∃ x, x = wo.alloc (.cells #[.int .i64 k1, .int .i64 k2] 35) := ⟨_, rfl⟩
      have HA : Hid (Bl w1 wa ∧ wa.heap[b13]? = some (.cells #[.int .i64 k1, .int .i64 k2] 35 (0, 0)) ∧ b13 < wa.heap.size ∧ Bl wx wa) := by
        have h1 : Bl wo wa := by rw [hwa]; exact (Bl.refl _).al _
        exact ⟨bchain HT1.out h1, by rw [hwa, hb13]; exact heap_alloc_new _ _, by rw [hwa, hb13]; simp, bchain HT.out h1⟩
      rw [← hwa]
      try rw [← hb13]
      clear hwa hb13 d0 d1
      have HC2 : Hid (∀ W0 W, Bl wa W0 → Bl W0 W → W.cell? ⟨bg, 0, none⟩ = some (.slice Am n cm) ∧ W.cell? ⟨bg, 1, none⟩ = some (.slice (some ⟨gl, ol, none⟩) q cl) ∧ W.cell? ⟨b13, 0, none⟩ = some (.int .i64 k1) ∧ W.cell? ⟨b13, 1, none⟩ = some (.int .i64 k2)) := fun W0 W h0 hW0 => by
        have hW := bchain h0 hW0
        obtain ⟨h1, h2⟩ := HC.out W (bchain HA.out.1 hW)
        obtain ⟨h3, h4, _⟩ := cell2 ((hW.block b13 HA.out.2.2.1).trans HA.out.2.1)
        exact ⟨h1, h2, h3, h4⟩
      have HTW2 : Hid (∀ W0 W, Bl wa W0 → Bl W0 W → Calls Tryz.prog 12 #[grV Am n cm (some ⟨gl, ol, none⟩) q cl] W fun e w' => ∃ (Am' : Option Addr) (cm' : Nat) (Al' : Option Addr) (cl' : Nat), e = .returned (grV Am' n cm' Al' q cl') ∧ Bl W0 w' ∧ Hid (GrAt w' Am' n Al' q ms ls) ∧ Below W.heap.size W w') := fun W0 W h0 hW => by
        refine (HTW.out W (bchain HA.out.1 (bchain h0 hW))).mono ?_
        rintro e w' ⟨Am', cm', Al', cl', rfl, h⟩
        exact ⟨Am', cm', Al', cl', rfl, bchain hW h.out.2.1, h.out.1, h.out.2.1⟩
      have HSD : Hid (∀ x y (S : List Int) (s : Nat) (Ax : Option Addr) (cx : Nat) (Bx : Option Addr) (dx : Nat) W0 W, sideP ms ls x y = (none, S) → S.length = s → Bl W0 W → Hid (GrAt W Ax n Bx q ms ls) → Calls Tryz.prog 15 #[grV Ax n cx Bx q dx, .int .i64 x, .int .i64 y] W fun e w' => ∃ (A : Option Addr) (c : Nat), e = .returned (.tuple #[.slice A s c, .nilIface]) ∧ Bl W0 w' ∧ Hid (RowAt w' A (intVs S)) ∧ Below W.heap.size W w') := fun x y S s Ax cx Bx dx W0 W hx hr hW hg => by
        have h := sideM_new Ax n cx Bx q dx ms ls x y W hg.out HN.out.1 HN.out.2
        rw [hx] at h
        refine h.mono ?_
        rintro e w' ⟨A, c, v, rfl, h⟩
        obtain rfl : v = .nilIface := h.out.1
        exact ⟨A, c, by rw [← hr], bchain hW h.out.2.2.1, h.out.2.1, h.out.2.2.1⟩
      obtain ⟨S1, hS1⟩ : ∃ S, Hid (sideS ls k1 k2 = S) := ⟨_, rfl⟩
      obtain ⟨S2, hS2⟩ : ∃ S, Hid (sideS ls k2 k1 = S) := ⟨_, rfl⟩
      obtain ⟨s1, hs1⟩ : ∃ s, S1.length = s := ⟨_, rfl⟩
      obtain ⟨s2, hs2⟩ : ∃ s, S2.length = s := ⟨_, rfl⟩
      have hsd := side_two HGD.out HKM.out
      simp only [] at hsd
      rw [hS1.out, hS2.out] at hsd
      have HS1 : Hid (sideP ms ls k1 k2 = (none, S1) ∧ S1.length = s1) := ⟨hsd.1, hs1⟩
      have HS2 : Hid (sideP ms ls k2 k1 = (none, S2) ∧ S2.length = s2) := ⟨hsd.2.1, hs2⟩
      have HSL : Hid (S1.length = s1 ∧ S2.length = s2) := ⟨hs1, hs2⟩
      have HSF : Hid (s1 + s2 = n ∧ k1 ∈ S1 ∧ k2 ∈ S2 ∧ s1 ≤ 8 ∧ s2 ≤ 8) := ⟨by rw [← hs1, ← hs2, hsd.2.2.1]; exact HLQ.out.1, hsd.2.2.2.1, hsd.2.2.2.2.1, by rw [← hs1]; exact hsd.2.2.2.2.2.1, by rw [← hs2]; exact hsd.2.2.2.2.2.2⟩
      clear hsd hs1 hs2
      have HBA1 : Hid (Bl wa wa) := Bl.refl _
      have hbl1 : Bl wa wa := Bl.refl _
      obtain ⟨c0, c1, t0, t1⟩ := HC2.out wa wa HBA1.out hbl1
      go_upto_region 20 with fail
      go_cut [14, 15] from 126 to 210 (fun sx sy wx => ∃ (A : Option Addr) (c : Nat), sx = .slice A s1 c ∧ sy = .nilIface ∧ Hid (Bl wa wx ∧ RowAt wx A (intVs S1)))
      case first =>
        (go_region_held_law (fun W => W.cell? ⟨bg, 0, none⟩ = some (.slice Am n cm) ∧ W.cell? ⟨bg, 1, none⟩ = some (.slice (some ⟨gl, ol, none⟩) q cl) ∧ W.cell? ⟨b13, 0, none⟩ = some (.int .i64 k1) ∧ W.cell? ⟨b13, 1, none⟩ = some (.int .i64 k2))
          (first | (refine HC2.out wa _ HBA1.out ?_; (first | (with_reducible refine Bl.dr ?_; (first | with_reducible assumption | (with_reducible refine Bl.al ?_ _; first | with_reducible assumption | (with_reducible refine Bl.al ?_ _; first | with_reducible assumption | (with_reducible refine Bl.al ?_ _; with_reducible assumption))))) | (first | with_reducible assumption | (with_reducible refine Bl.al ?_ _; first | with_reducible assumption | (with_reducible refine Bl.al ?_ _; first | with_reducible assumption | (with_reducible refine Bl.al ?_ _; with_reducible assumption))))); done) | fail)
          (first
            | (go_at_call 12; refine (HTW2.out wa _ HBA1.out (by (first | (with_reducible refine Bl.dr ?_; (first | with_reducible assumption | (with_reducible refine Bl.al ?_ _; first | with_reducible assumption | (with_reducible refine Bl.al ?_ _; first | with_reducible assumption | (with_reducible refine Bl.al ?_ _; with_reducible assumption))))) | (first | with_reducible assumption | (with_reducible refine Bl.al ?_ _; first | with_reducible assumption | (with_reducible refine Bl.al ?_ _; first | with_reducible assumption | (with_reducible refine Bl.al ?_ _; with_reducible assumption))))))).mono ?_; rintro e w8 ⟨A8, c8, B8, d8, rfl, hbl8, H8, hbw8⟩)
            | (go_at_call 15; refine (HSD.out k1 k2 S1 s1 _ _ _ _ wa _ HS1.out.1 HS1.out.2 (by (first | (with_reducible refine Bl.dr ?_; (first | with_reducible assumption | (with_reducible refine Bl.al ?_ _; first | with_reducible assumption | (with_reducible refine Bl.al ?_ _; first | with_reducible assumption | (with_reducible refine Bl.al ?_ _; with_reducible assumption))))) | (first | with_reducible assumption | (with_reducible refine Bl.al ?_ _; first | with_reducible assumption | (with_reducible refine Bl.al ?_ _; first | with_reducible assumption | (with_reducible refine Bl.al ?_ _; with_reducible assumption)))))) (by exact H8)).mono ?_; rintro e w9 ⟨A9, c9, rfl, hbl9, H9, hbw9⟩)
            | fail))
        all_goals
          go_wp2_with fail
          go_meet
          exact ⟨A9, c9, rfl, rfl, hbl9, H9.out⟩
      case rest =>
      obtain ⟨AS1, cS1, rfl, rfl, H1⟩ := hcut
      clear c0 c1 t0 t1 hbl1
      obtain ⟨wk1, rfl⟩ : ∃ x, x = wc := ⟨_, rfl⟩
      have HBA2 : Hid (Bl wa wk1) := H1.out.1
      have hbl2 : Bl wk1 wk1 := Bl.refl _
      obtain ⟨c0, c1, t0, t1⟩ := HC2.out wk1 wk1 HBA2.out hbl2
      go_upto_region 21 with fail
      go_cut [16, 17] from 126 to 210 (fun sx sy wx => ∃ (A : Option Addr) (c : Nat), sx = .slice A s2 c ∧ sy = .nilIface ∧ Hid (Bl wk1 wx ∧ RowAt wx A (intVs S2)))
      case first =>
        (go_region_held_law (fun W => W.cell? ⟨bg, 0, none⟩ = some (.slice Am n cm) ∧ W.cell? ⟨bg, 1, none⟩ = some (.slice (some ⟨gl, ol, none⟩) q cl) ∧ W.cell? ⟨b13, 0, none⟩ = some (.int .i64 k1) ∧ W.cell? ⟨b13, 1, none⟩ = some (.int .i64 k2))
          (first | (refine HC2.out wk1 _ HBA2.out ?_; (first | (with_reducible refine Bl.dr ?_; (first | with_reducible assumption | (with_reducible refine Bl.al ?_ _; first | with_reducible assumption | (with_reducible refine Bl.al ?_ _; first | with_reducible assumption | (with_reducible refine Bl.al ?_ _; with_reducible assumption))))) | (first | with_reducible assumption | (with_reducible refine Bl.al ?_ _; first | with_reducible assumption | (with_reducible refine Bl.al ?_ _; first | with_reducible assumption | (with_reducible refine Bl.al ?_ _; with_reducible assumption))))); done) | fail)
          (first
            | (go_at_call 12; refine (HTW2.out wk1 _ HBA2.out (by (first | (with_reducible refine Bl.dr ?_; (first | with_reducible assumption | (with_reducible refine Bl.al ?_ _; first | with_reducible assumption | (with_reducible refine Bl.al ?_ _; first | with_reducible assumption | (with_reducible refine Bl.al ?_ _; with_reducible assumption))))) | (first | with_reducible assumption | (with_reducible refine Bl.al ?_ _; first | with_reducible assumption | (with_reducible refine Bl.al ?_ _; first | with_reducible assumption | (with_reducible refine Bl.al ?_ _; with_reducible assumption))))))).mono ?_; rintro e w8 ⟨A8, c8, B8, d8, rfl, hbl8, H8, hbw8⟩)
            | (go_at_call 15; refine (HSD.out k2 k1 S2 s2 _ _ _ _ wk1 _ HS2.out.1 HS2.out.2 (by (first | (with_reducible refine Bl.dr ?_; (first | with_reducible assumption | (with_reducible refine Bl.al ?_ _; first | with_reducible assumption | (with_reducible refine Bl.al ?_ _; first | with_reducible assumption | (with_reducible refine Bl.al ?_ _; with_reducible assumption))))) | (first | with_reducible assumption | (with_reducible refine Bl.al ?_ _; first | with_reducible assumption | (with_reducible refine Bl.al ?_ _; first | with_reducible assumption | (with_reducible refine Bl.al ?_ _; with_reducible assumption)))))) (by exact H8)).mono ?_; rintro e w9 ⟨A9, c9, rfl, hbl9, H9, hbw9⟩)
            | fail))
        all_goals
          go_wp2_with fail
          go_meet
          exact ⟨A9, c9, rfl, rfl, hbl9, H9.out⟩
      case rest =>
      obtain ⟨AS2, cS2, rfl, rfl, H2⟩ := hcut
      clear c0 c1 t0 t1 hbl2
      obtain ⟨wk2, rfl⟩ : ∃ x, x = wc := ⟨_, rfl⟩
      have HX : Hid (Bl wa wk2 ∧ RowAt wk2 AS1 (intVs S1) ∧ RowAt wk2 AS2 (intVs S2)) := ⟨bchain H1.out.1 H2.out.1, H1.out.2.below H2.out.1, H2.out.2⟩
      obtain ⟨c0, c1, t0, t1⟩ := HC2.out wa wk2 (Bl.refl _) HX.out.1
      clear H1 H2 HBA1 HBA2 HTW2 HSD HS1 HS2
      have hsum : IntKind.i64.wrap ((s1 : Int) + s2) = (n : Int) := by have := HSF.out; have := HN.out; rw [IntKind.wrap_i64]; omega
      have hnn : ((n : Int) != (n : Int)) = false := by simp
      have HR1 : Hid (∀ x, Calls Tryz.prog 16 #[.slice AS1 s1 cS1, .int .i64 x] wk2 fun e w' => e = .returned (.bool (decide (x ∈ S1))) ∧ w' = wk2) := fun x => rhas_any AS1 s1 cS1 S1 x wk2 HSL.out.1 HX.out.2.1 (by have := HSF.out; omega)
      have HR2 : Hid (∀ x, Calls Tryz.prog 16 #[.slice AS2 s2 cS2, .int .i64 x] wk2 fun e w' => e = .returned (.bool (decide (x ∈ S2))) ∧ w' = wk2) := fun x => rhas_any AS2 s2 cS2 S2 x wk2 HSL.out.2 HX.out.2.2 (by have := HSF.out; omega)
      have HRA := Lib.hid (HR1.out k1)
      have HRB := Lib.hid (HR2.out k2)
      rw [decide_eq_true HSF.out.2.1] at HRA
      rw [decide_eq_true HSF.out.2.2.1] at HRB
      go_wp2_with fail
      refine HRA.out.mono ?_
      rintro e w' ⟨rfl, hww⟩
      obtain rfl := hww.symm
      go_wp2_with fail
      refine HRB.out.mono ?_
      rintro e w' ⟨rfl, hww⟩
      obtain rfl := hww.symm
      go_wp2_with fail
      clear c0 c1 t0 t1 HRA HRB HR2 hsum hnn
      go_loopw [18, 19] (fun o i wr => ∃ (t : Nat), 1 ≤ t ∧ t ≤ m ∧ o = .bool (overB (k1, k2) (p.take t)) ∧ i = .int .i64 t ∧ Hid (Bl wk2 wr)) (fun _ i _ => m - (intOf i).toNat)
      case atStart => exact ⟨1, Nat.le_refl _, HM.out.2.2.1, by rw [over_one], rfl, Bl.refl _⟩
      case round =>
      obtain ⟨t, ht1, htm, rfl, rfl, HV⟩ := hrel
      by_cases hlt : t < m
      case neg =>
        obtain rfl : m = t := by omega
        have hov : overB (k1, k2) (p.take m) = (decide (a ∈ S1) != decide (b ∈ S1)) := by
          rw [List.take_of_length_le (by rw [HM.out.1]; exact Nat.le_refl _), over_iff HGD.out HW.out HKM.out, hS1.out]
        rw [hov]
        have HRX : Hid (∀ x, Calls Tryz.prog 16 #[.slice AS1 s1 cS1, .int .i64 x] wr fun e w' => e = .returned (.bool (decide (x ∈ S1))) ∧ w' = wr) := fun x => rhas_any AS1 s1 cS1 S1 x wr HSL.out.1 (HX.out.2.1.below HV.out) (by have := HSF.out; omega)
        obtain ⟨ra, hra⟩ : ∃ r, Hid (decide (a ∈ S1) = r) := ⟨_, rfl⟩
        obtain ⟨rb, hrb⟩ : ∃ r, Hid (decide (b ∈ S1) = r) := ⟨_, rfl⟩
        have HRa := Lib.hid (HRX.out a)
        have HRb := Lib.hid (HRX.out b)
        rw [hra.out] at HRa
        rw [hrb.out] at HRb
        rw [hra.out, hrb.out]
        have HFIN : Hid (Bl wx wr) := bchain HA.out.2.2.2 (bchain HX.out.1 HV.out)
        have hbb : ((ra != rb) != (ra != rb)) = false := by simp
        clear hov hra hrb HRX
        go_wp2_with fail
        refine HRa.out.mono ?_
        rintro e w' ⟨rfl, hww⟩
        obtain rfl := hww.symm
        go_wp2_with fail
        refine HRb.out.mono ?_
        rintro e w' ⟨rfl, hww⟩
        obtain rfl := hww.symm
        clear hbb
        cases ra
        all_goals cases rb
        all_goals
          go_wp2
          exact ⟨⟨j + 1, HJ.out, by go_num, HFIN.out⟩, by have := HJ.out; simp [intOf]; omega⟩
      case pos =>
      obtain ⟨x, hx⟩ : ∃ x, Hid (p[t - 1]? = some x) := ⟨_, List.getElem?_eq_getElem (by have := HM.out; omega)⟩
      obtain ⟨y, hy⟩ : ∃ y, Hid (p[t]? = some y) := ⟨_, List.getElem?_eq_getElem (by have := HM.out; omega)⟩
      have hrow := (HB7.out.2.1.below (bchain HS.out (bchain HA.out.2.2.2 (bchain HX.out.1 HV.out))))
      obtain ⟨gp', op', he, e0, _⟩ := hrow.int hx.out
      cases he
      obtain ⟨gp', op', he, e1, _⟩ := hrow.int hy.out
      cases he
      obtain ⟨_, _, t0, t1⟩ := HC2.out wa wr (Bl.refl _) (bchain HX.out.1 HV.out)
      have hOV : Hid (overB (k1, k2) (p.take (t + 1)) = (overB (k1, k2) (p.take t) || (ofL x y == (k1, k2)))) := by
        have h := over_step (k := (k1, k2)) hx.out (by rw [show t - 1 + 1 = t by omega]; exact hy.out)
        rw [show t - 1 + 1 = t by omega] at h
        exact h
      obtain ⟨z1, hz1⟩ : ∃ z, Hid ((ofL x y).1 = z) := ⟨_, rfl⟩
      obtain ⟨z2, hz2⟩ : ∃ z, Hid ((ofL x y).2 = z) := ⟨_, rfl⟩
      have hmn : Hid (min x y = z1 ∧ max x y = z2 ∧ ofL x y = (z1, z2)) := ⟨hz1.out, hz2.out, Prod.ext hz1.out hz2.out⟩
      rw [hmn.out.2.2] at hOV
      obtain ⟨cc, hcc⟩ : ∃ c, Hid (((z1, z2) == (k1, k2)) = c) := ⟨_, rfl⟩
      have heq2 : ∀ w, (Op.equalIn 10000 35 (.agg #[.int .i64 z1, .int .i64 z2]) (.agg #[.int .i64 k1, .int .i64 k2])).run Tryz.prog w = .ok cc w := fun w => by rw [lk_equal, ← hcc.out]; rfl
      have HOF : Hid (∀ W, KV wr gp (op + (t - 1)) (op + t) b13 x y k1 k2 W → Calls Tryz.prog 14 #[.int .i64 x, .int .i64 y] W fun e w' => e = .returned (.agg #[.int .i64 z1, .int .i64 z2]) ∧ KV wr gp (op + (t - 1)) (op + t) b13 x y k1 k2 w') := fun W hW => by
        refine (rof_any x y W).mono ?_
        rintro e w' ⟨rfl, hb⟩
        rw [hmn.out.1, hmn.out.2.1]
        exact ⟨rfl, hW.step hb⟩
      have hK0 : KV wr gp (op + (t - 1)) (op + t) b13 x y k1 k2 wr := ⟨e0, e1, t0, t1, Below.refl _ _⟩
      have hKd : KV wr gp (op + (t - 1)) (op + t) b13 x y k1 k2 wr.drew := hK0.step (Below.refl _ _).drew
      haveI : Nonempty (QW (KV wr gp (op + (t - 1)) (op + t) b13 x y k1 k2)) := ⟨⟨wr, hK0⟩⟩
      have q0 : ∀ X : QW (KV wr gp (op + (t - 1)) (op + t) b13 x y k1 k2), X.val.cell? ⟨gp, op + (t - 1), none⟩ = some (.int .i64 x) := fun X => X.ok.1
      have q1 : ∀ X : QW (KV wr gp (op + (t - 1)) (op + t) b13 x y k1 k2), X.val.cell? ⟨gp, op + t, none⟩ = some (.int .i64 y) := fun X => X.ok.2.1
      have q2 : ∀ X : QW (KV wr gp (op + (t - 1)) (op + t) b13 x y k1 k2), X.val.cell? ⟨b13, 0, none⟩ = some (.int .i64 k1) := fun X => X.ok.2.2.1
      have q3 : ∀ X : QW (KV wr gp (op + (t - 1)) (op + t) b13 x y k1 k2), X.val.cell? ⟨b13, 1, none⟩ = some (.int .i64 k2) := fun X => X.ok.2.2.2.1
      have ha0 : (0 : Int) ≤ t := by omega
      have ha1 : (t : Int) < m := by omega
      have hb0 : (0 : Int) ≤ ((t - 1 : Nat) : Int) := by omega
      have hb1 : ((t - 1 : Nat) : Int) < m := by omega
      have hwt : IntKind.i64.wrap ((t : Int) - 1) = ((t - 1 : Nat) : Int) := by have := HM.out; rw [IntKind.wrap_i64]; omega
      have hwt2 : wrap64 ((t : Int) - 1) = ((t - 1 : Nat) : Int) := by have := HM.out; unfold wrap64; omega
      have hwu : IntKind.i64.wrap ((t : Int) + 1) = ((t + 1 : Nat) : Int) := by have := HM.out; rw [IntKind.wrap_i64]; omega
      have HTM : Hid (1 ≤ t ∧ t < m) := ⟨ht1, hlt⟩
      clear hlt ht1 htm hx hy hrow e0 e1 t0 t1 hz1 hz2 hmn hK0
      obtain ⟨ov, hov⟩ : ∃ o, Hid (overB (k1, k2) (p.take t) = o) := ⟨_, rfl⟩
      rw [hov.out, hcc.out] at hOV
      rw [hov.out]
      clear hov hcc
      cases ov with
      | true =>
        go_upto_region 28 with fail
        refine region_in (KV wr gp (op + (t - 1)) (op + t) b13 x y k1 k2) (by kernel_rfl) (by kernel_rfl) hKd ?_
        repeat (go_big_quiet_step (fail))
        refine wpQuiet_nil ?_
        intro W5 hK5
        have HQ : Hid (Bl wk2 W5) := bchain HV.out hK5.2.2.2.2.out
        clear hK5 hKd HOF
        go_wp2
        exact ⟨⟨t + 1, by omega, HTM.out.2, by rw [hOV.out]; rfl, by go_num, HQ.out⟩, by have := HTM.out; simp [intOf]; omega⟩
      | false =>
        go_upto_region 28 with fail
        refine region_in (KV wr gp (op + (t - 1)) (op + t) b13 x y k1 k2) (by kernel_rfl) (by kernel_rfl) hKd ?_
        repeat (go_big_quiet_step ((go_at_call 14; refine calls_in (HOF.out _ (QW.ok _)))))
        refine wpQuiet_nil ?_
        intro W5 hK5
        have HQ : Hid (Bl wk2 W5) := bchain HV.out hK5.2.2.2.2.out
        clear hK5 hKd HOF
        go_wp2
        exact ⟨⟨t + 1, by omega, HTM.out.2, by rw [hOV.out]; rfl, by go_num, HQ.out⟩, by have := HTM.out; simp [intOf]; omega⟩
    case pos =>
    obtain ⟨x, hx⟩ : ∃ x, Hid (p[j]? = some x) := ⟨_, List.getElem?_eq_getElem (by have := HM.out; omega)⟩
    obtain ⟨gp', op', he, e0, _⟩ := (HB7.out.2.1.below HS.out).int hx.out
    cases he
    have hr : p.reverse[m - 1 - j]? = some x := by
      have h := rev_at hx.out
      rw [HM.out.1] at h
      exact h
    obtain ⟨gq, oq, rfl, f0, _⟩ := (HB7.out.2.2.below HS.out).int hr
    have hwk : IntKind.i64.wrap (((m - 1 : Nat) : Int) - j) = ((m - 1 - j : Nat) : Int) := by have := HM.out; rw [IntKind.wrap_i64]; omega
    have hw1 : IntKind.i64.wrap ((j : Int) + 1) = ((j + 1 : Nat) : Int) := by have := HM.out; rw [IntKind.wrap_i64]; omega
    have hj0 : (0 : Int) ≤ j := by omega
    have hj1 : (j : Int) < m := by omega
    have hk0 : (0 : Int) ≤ ((m - 1 - j : Nat) : Int) := by omega
    have hk1 : ((m - 1 - j : Nat) : Int) < m := by omega
    have HJ : Hid (j < m) := hlt
    have hwk2 : wrap64 (((m - 1 : Nat) : Int) - j) = ((m - 1 - j : Nat) : Int) := by have := HM.out; unfold wrap64; omega
    have hwm2 : wrap64 ((m : Int) - 1) = ((m - 1 : Nat) : Int) := by have := HM.out; unfold wrap64; omega
    obtain ⟨y, hy⟩ : ∃ y, Hid (p[j - 1]? = some y) := ⟨_, List.getElem?_eq_getElem (by have := HM.out; omega)⟩
    obtain ⟨gp', op', he, e1, _⟩ := (HB7.out.2.1.below HS.out).int hy.out
    cases he
    have hwj : IntKind.i64.wrap ((j : Int) - 1) = if 0 < j then ((j - 1 : Nat) : Int) else -1 := by have := HM.out; rw [IntKind.wrap_i64]; split <;> omega
    have hi0 : (0 : Int) ≤ ((j - 1 : Nat) : Int) := by omega
    have hi1 : ((j - 1 : Nat) : Int) < m := by omega
    have hK0 : KWy wr bg gp gq (op + j) (op + (j - 1)) (oq + (m - 1 - j)) (.slice Am n cm) (.slice Al q cl) x y wr := by
      obtain ⟨h1, h2⟩ := HC.out wr (bchain HB7.out.1 HS.out)
      exact ⟨h1, h2, e0, e1, f0, Below.refl _ _⟩
    have hKd : KWy wr bg gp gq (op + j) (op + (j - 1)) (oq + (m - 1 - j)) (.slice Am n cm) (.slice Al q cl) x y wr.drew := hK0.step (Below.refl _ _).drew
    haveI : Nonempty (QW (KWy wr bg gp gq (op + j) (op + (j - 1)) (oq + (m - 1 - j)) (.slice Am n cm) (.slice Al q cl) x y)) := ⟨⟨wr, hK0⟩⟩
    have q0 : ∀ X : QW (KWy wr bg gp gq (op + j) (op + (j - 1)) (oq + (m - 1 - j)) (.slice Am n cm) (.slice Al q cl) x y), X.val.cell? ⟨bg, 0, none⟩ = some (.slice Am n cm) := fun X => X.ok.1
    have q1 : ∀ X : QW (KWy wr bg gp gq (op + j) (op + (j - 1)) (oq + (m - 1 - j)) (.slice Am n cm) (.slice Al q cl) x y), X.val.cell? ⟨bg, 1, none⟩ = some (.slice Al q cl) := fun X => X.ok.2.1
    have q2 : ∀ X : QW (KWy wr bg gp gq (op + j) (op + (j - 1)) (oq + (m - 1 - j)) (.slice Am n cm) (.slice Al q cl) x y), X.val.cell? ⟨gp, op + j, none⟩ = some (.int .i64 x) := fun X => X.ok.2.2.1
    have q3 : ∀ X : QW (KWy wr bg gp gq (op + j) (op + (j - 1)) (oq + (m - 1 - j)) (.slice Am n cm) (.slice Al q cl) x y), X.val.cell? ⟨gp, op + (j - 1), none⟩ = some (.int .i64 y) := fun X => X.ok.2.2.2.1
    have q4 : ∀ X : QW (KWy wr bg gp gq (op + j) (op + (j - 1)) (oq + (m - 1 - j)) (.slice Am n cm) (.slice Al q cl) x y), X.val.cell? ⟨gq, oq + (m - 1 - j), none⟩ = some (.int .i64 x) := fun X => X.ok.2.2.2.2.1
    have hxx : (x != x) = false := by simp
    clear hlt hr e0 e1 f0
    by_cases hz : j = 0
    case pos =>
      have hd : decide ((j : Int) > 0) = false := by rw [decide_eq_false_iff_not]; omega
      have hd2 : ¬ ((0 : Int) < j) := by omega
      have hd3 : ¬ (0 < j) := by omega
      clear hz hwj hK0 hy hx
      go_upto_region 14 with fail
      refine region_in (KWy wr bg gp gq (op + j) (op + (j - 1)) (oq + (m - 1 - j)) (.slice Am n cm) (.slice Al q cl) x y) (by kernel_rfl) (by kernel_rfl) hKd ?_
      repeat (go_big_quiet_step (fail))
      refine wpQuiet_nil ?_
      intro W5 hK5
      have HQ : Hid (Bl w7 W5) := bchain HS.out hK5.2.2.2.2.2.out
      clear hK5 hKd
      go_wp2
      exact ⟨⟨j + 1, HJ.out, by go_num, HQ.out⟩, by have := HJ.out; simp [intOf]; omega⟩
    case neg =>
    have hd : decide ((j : Int) > 0) = true := by rw [decide_eq_true_iff]; omega
    have hd2 : (0 : Int) < j := by omega
    have hd3 : 0 < j := by omega
    rw [if_pos hd3] at hwj
    have hwj2 : wrap64 ((j : Int) - 1) = ((j - 1 : Nat) : Int) := by have := HM.out; have := HJ.out; unfold wrap64; omega
    have HIN : Hid (ofL y x ∈ ls) := by
      have h := hx.out
      rw [show j = j - 1 + 1 by omega] at h
      exact way_of HGD.out HW.out hy.out h
    obtain ⟨z1, hz1⟩ : ∃ z, Hid ((ofL y x).1 = z) := ⟨_, rfl⟩
    obtain ⟨z2, hz2⟩ : ∃ z, Hid ((ofL y x).2 = z) := ⟨_, rfl⟩
    have hmn : Hid (min y x = z1 ∧ max y x = z2) := ⟨hz1.out, hz2.out⟩
    have HIN2 : Hid ((z1, z2) ∈ ls) := by
      have h := HIN.out
      rw [show ofL y x = (z1, z2) from Prod.ext hz1.out hz2.out] at h
      exact h
    have HOF : Hid (∀ W, KWy wr bg gp gq (op + j) (op + (j - 1)) (oq + (m - 1 - j)) (.slice Am n cm) (.slice Al q cl) x y W → Calls Tryz.prog 14 #[.int .i64 y, .int .i64 x] W fun e w' => e = .returned (.agg #[.int .i64 z1, .int .i64 z2]) ∧ KWy wr bg gp gq (op + j) (op + (j - 1)) (oq + (m - 1 - j)) (.slice Am n cm) (.slice Al q cl) x y w') := fun W hW => by
      refine (rof_any y x W).mono ?_
      rintro e w' ⟨rfl, hb⟩
      rw [hmn.out.1, hmn.out.2]
      exact ⟨rfl, hW.step hb⟩
    have HHA : Hid (∀ W, KWy wr bg gp gq (op + j) (op + (j - 1)) (oq + (m - 1 - j)) (.slice Am n cm) (.slice Al q cl) x y W → Calls Tryz.prog 13 #[grV Am n cm Al q cl, .agg #[.int .i64 z1, .int .i64 z2]] W fun e w' => e = .returned (.bool true) ∧ KWy wr bg gp gq (op + j) (op + (j - 1)) (oq + (m - 1 - j)) (.slice Am n cm) (.slice Al q cl) x y w') := fun W hW => by
      have hg := HG.out W (bchain HB7.out.1 (bchain HS.out hW.2.2.2.2.2.out))
      refine (rHas_any Am n cm Al q cl ls W z1 z2 hg.llen hg.lrow (Nat.le_trans HN.out.2 (by decide))).mono ?_
      rintro e w' ⟨rfl, hb⟩
      rw [decide_eq_true HIN2.out]
      exact ⟨rfl, hW.step hb⟩
    clear hz hK0 hy hx HIN hz1 hz2 hmn HIN2
    go_upto_region 14 with fail
    refine region_in (KWy wr bg gp gq (op + j) (op + (j - 1)) (oq + (m - 1 - j)) (.slice Am n cm) (.slice Al q cl) x y) (by kernel_rfl) (by kernel_rfl) hKd ?_
    repeat (go_big_quiet_step (first | (go_at_call 14; refine calls_in (HOF.out _ (QW.ok _))) | (go_at_call 13; refine calls_in (HHA.out _ (QW.ok _)))))
    refine wpQuiet_nil ?_
    intro W5 hK5
    have HQ : Hid (Bl w7 W5) := bchain HS.out hK5.2.2.2.2.2.out
    clear hK5 hKd HOF HHA
    go_wp2
    exact ⟨⟨j + 1, HJ.out, by go_num, HQ.out⟩, by have := HJ.out; simp [intOf]; omega⟩
end Go.Proofs.YtlkfcfcejicdkaaGreatDoor
