/-
  disk: the document's Append where it takes. Own work, printed by gen_refapp.py.
-/
import Derived.Test.YtfhdcjfkngflbaaGreatDoorP10
import Derived.Test.YtfhdcjfkngflbaaGreatDoorDiskRefD
set_option linter.unusedSimpArgs false
set_option linter.unusedVariables false
namespace Go.Proofs.YtfhdcjfkngflbaaGreatDoor
open Go Go.RowKit

set_option maxRecDepth 100000 in
set_option maxHeartbeats 40000000 in
theorem refapp_old1 (O : Nat → Prop) (A : Option Addr) (n c : Nat) (L : List RF) (last : Int) (i : Nat) (f0 : RF) (Ap : Option Addr) (m cp : Nat) (bs : List UInt8) (hbm : bs.length = m) (w : World) (h : RefD O w A n c L) (hO : ∀ g, O g → g < w.heap.size) (hn : n ≤ 64) (hs : Sorted L) (hks : f0.name.size ≤ 4611686018427387904) (hnm : nmB f0.name = true) (hA : BytesAt w Ap bs) (hm : m ≤ 1000000) (hl0 : 0 ≤ last) (hl1 : last ≤ 1000000000000) (ad : Addr) (hta : f0.tA = some ad) (hi : L[i]? = some f0) (hft : f0.turn.length = f0.data.length) (hsum : f0.data.length + bs.length ≤ 1000000) :
    Calls Tryz.prog 16 #[.agg #[.slice A n c, .int .i64 last], .string f0.name, .slice Ap m cp] w fun e w' => ∃ (A' : Option Addr) (n' c' : Nat) (f : RF), e = .returned (.tuple #[.agg #[.slice A' n' c', .int .i64 (last + m)], eV none]) ∧ Hid (RefD O w' A' n' c' (insL f L) ∧ Below w.heap.size w w' ∧ f.name = f0.name ∧ f.data = f0.data ++ bs ∧ f.turn = f0.turn ++ seqF last m) := by
  obtain ⟨w1, hw1⟩ : ∃ w1, w1 = ((w.alloc (.cells #[.slice A n c, .int .i64 last] 29)).alloc (.cells #[.slice none 0 0, .int .i64 0] 29)).alloc (.cells #[.bool false, .slice none 0 0, .int .i64 0] 53) := ⟨_, rfl⟩
  obtain ⟨b2, hb2⟩ : ∃ b2, b2 = w.heap.size + 1 + 1 := ⟨_, rfl⟩
  obtain ⟨b1, hb1⟩ : ∃ b1, b1 = w.heap.size + 1 := ⟨_, rfl⟩
  obtain ⟨b0, hb0⟩ : ∃ b0, b0 = w.heap.size := ⟨_, rfl⟩
  have H1 : Hid (Bx3 w w1 b0 b1 b2 (.slice A n c) (.int .i64 last) ∧ b2 < w1.heap.size) := by
    rw [hw1, hb2, hb1, hb0]; exact ⟨bx3_new w _ _, by simp⟩
  have HPL : Hid (Calls Tryz.prog 35 #[.agg #[.slice A n c, .int .i64 last], .string f0.name] w1 fun e w' => e = .returned (.int .i64 i) ∧ Below w1.heap.size w1 w') := place_some O A n c L last w1 (h.below H1.out.1.old) hn hs i f0 hi
  have HNM : Hid (∀ W, Calls Tryz.prog 36 #[.string f0.name] W fun e w' => e = .returned (.bool true) ∧ W = w') := fun W => by
    have := refname_any f0.name W hks; rw [hnm] at this; exact this
  have HR := Lib.hid h
  have HO := Lib.hid hO
  have HS := Lib.hid hs
  have HP := Lib.hid hA
  have HN : Hid (n ≤ 64 ∧ L.length = n ∧ bs.length = m ∧ m ≤ 1000000 ∧ 0 ≤ last ∧ last ≤ 1000000000000) := ⟨hn, h.len, hbm, hm, hl0, hl1⟩
  have dm : decide ((m : Int) > 1048576) = false := by rw [decide_eq_false_iff_not]; omega
  have HI : Hid (L[i]? = some f0 ∧ f0.turn.length = f0.data.length ∧ f0.data.length + m ≤ 1000000 ∧ i < n) := ⟨hi, hft, by omega, by rw [← h.len]; exact (List.getElem?_eq_some_iff.1 hi).1⟩
  obtain ⟨D0, hD0⟩ : ∃ D0, Hid (f0.data.length = D0) := ⟨_, rfl⟩
  obtain ⟨g, rfl, _⟩ : ∃ g, A = some ⟨g, 0, none⟩ ∧ True := by
    obtain ⟨g, e, _⟩ := h.at_ hi
    exact ⟨g, e, trivial⟩
  have di1 : decide ((i : Int) < 0) = false := by rw [decide_eq_false_iff_not]; omega
  have di2 : decide ((i : Int) ≥ 0) = true := by rw [decide_eq_true_iff]; omega
  obtain ⟨S, hS⟩ : ∃ S : Int, Hid ((D0 : Int) + m = S) := ⟨_, rfl⟩
  have hwr : IntKind.i64.wrap ((D0 : Int) + m) = S := by have := HI.out; have := hD0.out; have := hS.out; rw [IntKind.wrap_i64]; omega
  have dS : decide (S > 1048576) = false := by have := HI.out; have := hD0.out; have := hS.out; rw [decide_eq_false_iff_not]; omega
  have hi0 : ((0 : Int) ≤ i) := by omega
  have hi1 : ((i : Nat) : Int) < n := by have := HI.out; omega
  clear h hn hs hks hnm hO hA hm hl0 hl1 hbm hi hft hsum
  obtain ⟨iU, hU, hU0, hU1, hU2⟩ := info_parts byte_info
  obtain ⟨iI, hI, hI0, hI1, hI2⟩ := info_parts int_info
  go_enter Tryz.func16, Tryz.ntmps16
  go_wp2_with fail
  rw [← hw1, ← hb2, ← hb1, ← hb0]
  have HSZ : Hid (w.heap.size ≤ b0 ∧ w.heap.size ≤ b1 ∧ w.heap.size ≤ b2) := by simp only [Hid]; omega
  clear hw1 hb2 hb1 hb0
  refine HPL.out.mono ?_
  rintro e w2 ⟨rfl, hb⟩
  have H2 := Lib.hid hb
  clear hb
  go_wp2_with fail
  refine (HNM.out _).mono ?_
  rintro e w3 ⟨rfl, rfl⟩
  have H3 : Hid (Bx3 w w2 b0 b1 b2 (.slice (some ⟨g, 0, none⟩) n c) (.int .i64 last) ∧ b2 < w2.heap.size) := ⟨H1.out.1.below H2.out, by have := H1.out; have := H2.out.size; omega⟩
  clear HPL HNM H1 H2
  obtain ⟨d0, d1, r0, r1, e0, e1, e2, fr, fe⟩ := H3.out.1.cells
  obtain ⟨g', hg', q0, q1, q2, hok⟩ := (HR.out.below H3.out.1.old).at_ HI.out.1
  cases hg'
  rw [hD0.out] at q1
  rw [HI.out.2.1, hD0.out] at q2
  have HK0 := Lib.hid hok
  clear hok
  obtain ⟨F, hF⟩ : ∃ F, F = w2.heap.size := ⟨_, rfl⟩
  obtain ⟨W3, hW3⟩ : ∃ W3, W3 = w2.alloc (.cells #[.string f0.name, .slice none 0 0, .slice none 0 0] 66) := ⟨_, rfl⟩
  have H4 : Hid (ABx w W3 b0 b1 b2 F (.slice (some ⟨g, 0, none⟩) n c) last f0.name (.slice none 0 0) (.slice none 0 0) ∧ W3.heap.size = F + 1 ∧ Below w2.heap.size w2 W3) := by
    have hb : Below w2.heap.size w2 W3 := by rw [hW3]; exact (Below.refl _ _).alloc (Nat.le_refl _) _
    have hx := H3.out.1.below hb
    refine ⟨⟨hx.d, hx.r, hx.e, by rw [hW3, hF]; exact heap_alloc_new _ _, by have := hx.n1; have := H3.out.2; omega, hx.old⟩, by rw [hW3, hF]; simp, hb⟩
  have HTW : Hid (Calls Tryz.prog 17 #[.slice f0.dA D0 f0.dc] W3 fun e w' => ∃ (A7 : Option Addr) (c7 : Nat), e = .returned (.slice A7 D0 c7) ∧ w'.ownsRow W3.heap.size 5 1 (.slice A7 D0 c7) D0 (byteVs f0.data) ∧ Below W3.heap.size W3 w') := by
    have h1 := twin_any f0.dA f0.data f0.dc W3 (HK0.out.below H4.out.2.2).data.bytes (by have := HI.out; omega)
    rw [hD0.out] at h1
    refine h1.mono ?_
    rintro e w' ⟨v, rfl, h2, h3⟩
    obtain ⟨A7, c7, rfl⟩ := own_slice h2
    exact ⟨A7, c7, rfl, h2, h3⟩
  have q1' : W3.cell? ⟨g, i * 3 + 1, none⟩ = some (.slice f0.dA D0 f0.dc) := (H4.out.2.2.cell (p := ⟨g, i * 3 + 1, none⟩) (World.block_lt_of_cell? w2 _ q1)).trans q1
  have x0 := (cell2 H4.out.1.d).1
  rw [hW3] at q1' x0
  go_wp2_with fail
  rw [← hW3, ← hF]
  clear hW3 hF
  refine HTW.out.mono ?_
  rintro e w4 ⟨A7, c7, rfl, ho7, hb7⟩
  have H7 : Hid (ABx w w4 b0 b1 b2 F (.slice (some ⟨g, 0, none⟩) n c) last f0.name (.slice none 0 0) (.slice none 0 0)) := H4.out.1.keep hb7 (by have := H4.out.2.1; omega)
  have ff := fun i => (show w4.frozen? ⟨F, i, none⟩ = false from by simp [World.frozen?, H7.out.f])
  obtain ⟨_, f1c, _⟩ := cell3 H7.out.f
  obtain ⟨W5, hW5⟩ : ∃ W5, W5 = w4.setCell ⟨F, 1, none⟩ (.slice A7 D0 c7) := ⟨_, rfl⟩
  have H5 : Hid (ABx w W5 b0 b1 b2 F (.slice (some ⟨g, 0, none⟩) n c) last f0.name (.slice A7 D0 c7) (.slice none 0 0) ∧ W5.ownsRow (F + 1) 5 1 (.slice A7 D0 c7) D0 (byteVs f0.data) ∧ F + 1 ≤ W5.heap.size) := by
    rw [H4.out.2.1] at ho7
    rw [hW5]
    refine ⟨H7.out.setD _, ownsRow_keep ho7 fun k hk => Below.heap_setCell _ _ _ _ (by have := (own_block ho7 hk).choose_spec.2.1; show k ≠ F; omega), ?_⟩
    have := hb7.size
    have := H4.out.2.1
    simp [World.setCell]; omega
  go_wp2_with fail
  rw [← hW5]
  clear hW5 ho7 hb7 H7 HTW q0 q1 q2 q1' x0 d0 d1 r0 r1 e0 e1 e2 fr fe ff f1c
  have hx5 := (HR.out.below H5.out.1.old).at_ HI.out.1
  obtain ⟨g', hg', q0, q1, q2, hok⟩ := hx5
  cases hg'
  rw [hD0.out] at q1
  rw [HI.out.2.1, hD0.out, hta] at q2
  have HK5 := Lib.hid hok
  clear hok
  have q2' : W5.drew.cell? ⟨g, i * 3 + 2, none⟩ = some (.slice (some ad) D0 f0.tc) := q2
  have x0 : W5.drew.cell? ⟨b0, 0, none⟩ = some (.slice (some ⟨g, 0, none⟩) n c) := (cell2 H5.out.1.d).1
  have x2 : W5.drew.cell? ⟨F, 2, none⟩ = some (.slice none 0 0) := (cell3 H5.out.1.f).2.2
  have HST : Hid (∀ w6 A6 c6 T, D0 = T → W5.drew.grownBy w6 (Value.slice none 0 0).ownBlock → w6.ownsRow (F + 1) 3 1 (.slice A6 T c6) T ([] ++ intVs f0.turn) → ABx w w6 b0 b1 b2 F (.slice (some ⟨g, 0, none⟩) n c) last f0.name (.slice A7 D0 c7) (.slice none 0 0) ∧ AIn w (w6.setCell ⟨F, 2, none⟩ (.slice A6 T c6)) b0 b1 b2 F (F + 1) (.slice (some ⟨g, 0, none⟩) n c) (last + (0 : Nat)) f0.name (D0 + 0) (.slice A7 (D0 + 0) c7) (.slice A6 (D0 + 0) c6) (f0.data ++ bs.take 0) (f0.turn ++ seqF last 0)) := fun w6 A6 c6 T hT hg hown => by
    subst hT
    have hb : Below W5.heap.size W5.drew w6 := (Below.refl _ _).grown hg (Nat.le_refl _) fun k hk => by cases hk
    have h6 : ABx w w6 b0 b1 b2 F (.slice (some ⟨g, 0, none⟩) n c) last f0.name (.slice A7 D0 c7) (.slice none 0 0) := (H5.out.1.keep ((Below.refl W5.heap.size W5).drew) (by have := H5.out.2.2; omega)).keep hb (by have := H5.out.2.2; omega)
    have hs := hb.size
    refine ⟨h6, ?_⟩
    have e0 : last + ((0 : Nat) : Int) = last := by simp
    rw [e0, Nat.add_zero, List.take_zero, List.append_nil, show seqF last 0 = [] from rfl, List.append_nil]
    rw [List.nil_append] at hown
    refine ⟨h6.setT _, ownsRow_keep H5.out.2.1 fun k hk => ?_, ownsRow_keep hown fun k hk => Below.heap_setCell _ _ _ _ (by have := (own_block hown hk).choose_spec.2.1; show k ≠ F; omega), by omega, ?_⟩
    · obtain ⟨_, _, h1, h2⟩ := own_block H5.out.2.1 hk
      rw [Below.heap_setCell _ _ _ _ (by show k ≠ F; omega)]
      exact hb.block k h2
    · have h8 := H5.out.2.2
      have h9 : W5.drew.heap.size = W5.heap.size := rfl
      simp [World.setCell]; omega
  have hnw : Hid (∀ u v, (intVs f0.turn)[u]? = some v → W5.drew.cell? (ad.add u) = some v) := fun u v hu => ((HK5.out.turn).2 ad hta u v hu).1
  have hln : Hid ((intVs f0.turn).length = D0 * 1) := by have := HI.out; have := hD0.out; simp only [Hid, intVs, List.length_map]; omega
  have hmx : Hid (0 + D0 ≤ maxLen) := Nat.le_trans (show 0 + D0 ≤ 3000000 by have := HI.out; have := hD0.out; omega) (by decide)
  have hbx : Hid ((0 + D0) * 8 ≤ 140737488355328) := by have := HI.out; have := hD0.out; simp only [Hid]; omega
  have hsz : Hid (F + 1 ≤ W5.drew.heap.size) := H5.out.2.2
  go_region_law (refine step_append_own _ (by rfl) _ _ _ (by rfl) (F + 1) 3 iI (.int .i64 0) 1 8 Tryz.underlying64 hI hI0 hI1 hI2 rfl (by decide) (.slice none 0 0) 0 [] (by rfl) (World.ownsRow_nil _ _ _ _) ad D0 f0.tc (intVs f0.turn) (by rfl) hln.out hnw.out (intVs_one _) hmx.out hbx.out hsz.out ?_; intro v6 w6 hown6 hgrow6; obtain ⟨A6, c6, rfl⟩ := own_slice hown6; rw [Nat.zero_add] at hown6; have H6 := Lib.hid (HST.out w6 A6 c6 _ rfl hgrow6 hown6); clear hown6 hgrow6; have ff := fun i => (show w6.frozen? ⟨F, i, none⟩ = false from by simp [World.frozen?, H6.out.1.f]); have f2c := (cell3 H6.out.1.f).2.2)
  all_goals
    go_wp2_with fail
    go_loopw [79] (fun q wr => ∃ (j : Nat) (dA : Option Addr) (dc : Nat) (tA : Option Addr) (tc : Nat), j ≤ m ∧ q = .int .i64 j ∧ Hid (AIn w wr b0 b1 b2 F (F + 1) (.slice (some ⟨g, 0, none⟩) n c) (last + (j : Nat)) f0.name (D0 + j) (.slice dA (D0 + j) dc) (.slice tA (D0 + j) tc) (f0.data ++ bs.take j) (f0.turn ++ seqF last j))) (fun q _ => m - (intOf q).toNat)
    case atStart => exact ⟨0, A7, c7, A6, c6, Nat.zero_le _, rfl, H6.out.2⟩
    case round =>
      obtain ⟨j, dA, dc, tA, tc, hj, rfl, HL⟩ := hrel
      obtain ⟨D, hD⟩ : ∃ D, Hid (D0 + j = D) := ⟨_, rfl⟩
      obtain ⟨l, hl⟩ : ∃ l : Int, Hid (last + (j : Nat) = l) := ⟨_, rfl⟩
      obtain ⟨data, hdata0⟩ : ∃ x : List UInt8, x = f0.data ++ bs.take j := ⟨_, rfl⟩
      have hdata := Lib.hid hdata0
      obtain ⟨turns, hturns0⟩ : ∃ x : List Int, x = f0.turn ++ seqF last j := ⟨_, rfl⟩
      have hturns := Lib.hid hturns0
      clear hdata0 hturns0
      rw [hD.out, hl.out, ← hdata.out, ← hturns.out] at HL
      obtain ⟨d0, d1⟩ := cell2 HL.out.bx.d
      obtain ⟨f0c, f1c, f2c⟩ := cell3 HL.out.bx.f
      have fd := fun i => (show wr.frozen? ⟨b0, i, none⟩ = false from by simp [World.frozen?, HL.out.bx.d])
      by_cases hlt : j < m
      · obtain ⟨b, hb⟩ : ∃ b, Hid (bs[j]? = some b) := ⟨_, List.getElem?_eq_getElem (by have := HN.out; omega)⟩
        obtain ⟨ap, rfl, hpc⟩ : ∃ ap, Ap = some ap ∧ Hid (wr.cell? (ap.add j) = some (.int .u8 b.toNat)) := by
          cases Ap with
          | none => have := HP.out.1 rfl; have := HN.out; omega
          | some ap =>
            refine ⟨ap, rfl, ?_⟩
            have h1 := HP.out.2 ap rfl j (.int .u8 b.toNat) (by simp [byteVs, hb.out, byteV])
            exact (HL.out.bx.old.cell (World.block_lt_of_cell? w _ h1)).trans h1
        have hpc' := hpc.out
        have hjm : ((j : Nat) : Int) < m := by omega
        have hj0 : ((0 : Int) ≤ j) := by omega
        have hwj : IntKind.i64.wrap ((j : Int) + 1) = ((j + 1 : Nat) : Int) := by have := HN.out; rw [IntKind.wrap_i64]; omega
        obtain ⟨l', hl'⟩ : ∃ l' : Int, Hid (l + 1 = l') := ⟨_, rfl⟩
        have hwl : IntKind.i64.wrap (l + 1) = l' := by have := HN.out; have := hl.out; have := hl'.out; rw [IntKind.wrap_i64]; omega
        have hne : b0 ≠ F ∧ F ≠ b0 := by have := HL.out.bx.n; omega
        have hm1 : Hid (D + 1 ≤ maxLen) := Nat.le_trans (show D + 1 ≤ 3000000 by have := HN.out; have := HI.out; have := hD0.out; have := hD.out; omega) (by decide)
        have hm2 : Hid ((D + 1) * 1 ≤ 140737488355328) := by simp only [Hid]; have := HN.out; have := HI.out; have := hD0.out; have := hD.out; omega
        have hm3 : Hid ((D + 1) * 8 ≤ 140737488355328) := by simp only [Hid]; have := HN.out; have := HI.out; have := hD0.out; have := hD.out; omega
        have tok1 : True := trivial
        go_wp2_with (first
          | (at_builtin; have _t := tok1; refine wpList_append_own _ rfl _ _ 30 rfl (F + 1) 5 iU (.int .u8 0) 1 1 Tryz.underlying30 hU hU0 hU1 hU2 rfl (by decide) (.slice dA D dc) D (byteVs data) rfl (HL.out.row1 l' _).1 _ 1 1 [.int .u8 b.toNat] rfl rfl (newc1 _ _ _ _ (by simp [World.setCell])) (by simp [Value.oneCell']) hm1.out hm2.out (HL.out.row1 l' _).2 ?_; intro v5 w5 hown5 hgrow5 hnil5; obtain ⟨A5, c5, rfl⟩ := own_slice hown5; have H5 := Lib.hid (HL.out.after1 l' _ w5 hgrow5); have HO5 := Lib.hid hown5; clear hown5 hgrow5 hnil5 tok1; obtain ⟨d0, d1⟩ := cell2 H5.out.1.d; obtain ⟨f0c, f1c, f2c⟩ := cell3 H5.out.1.f; have ff := fun i => (show w5.frozen? ⟨F, i, none⟩ = false from by simp [World.frozen?, H5.out.1.f]))
          | (at_builtin; refine wpList_append_own _ rfl _ _ 64 rfl (F + 1) 3 iI (.int .i64 0) 1 8 Tryz.underlying64 hI hI0 hI1 hI2 rfl (by decide) (.slice tA D tc) D (intVs turns) rfl (row2 H5.out.1 H5.out.2.1 ⟨HL.out.lo.1, H5.out.2.2⟩ (.slice A5 (D + 1) c5) _).1 _ 1 1 [.int .i64 l'] rfl rfl (newc1 _ _ _ _ (by simp [World.setCell])) (by simp [Value.oneCell']) hm1.out hm3.out (row2 H5.out.1 H5.out.2.1 ⟨HL.out.lo.1, H5.out.2.2⟩ (.slice A5 (D + 1) c5) _).2 ?_; intro v6 w6 hown6 hgrow6 hnil6; obtain ⟨A6, c6, rfl⟩ := own_slice hown6; rw [← intVs_snoc] at hown6; have HO5' := HO5.out; rw [← byteVs_snoc] at HO5'; have H6 := Lib.hid (after2 H5.out.1 H5.out.2.1 ⟨HL.out.lo.1, H5.out.2.2⟩ (.slice A5 (D + 1) c5) HO5' _ w6 hgrow6 _ hown6); clear hown6 hgrow6 hnil6 HO5'; obtain ⟨d0, d1⟩ := cell2 H6.out.1.d; obtain ⟨f0c, f1c, f2c⟩ := cell3 H6.out.1.f; have ff := fun i => (show w6.frozen? ⟨F, i, none⟩ = false from by simp [World.frozen?, H6.out.1.f])))
        have HF : Hid (D0 + (j + 1) = D + 1 ∧ last + ((j + 1 : Nat) : Int) = l' ∧ f0.data ++ bs.take (j + 1) = data ++ [b] ∧ f0.turn ++ seqF last (j + 1) = turns ++ [l']) := by
          refine ⟨by have := hD.out; omega, by have := hl.out; have := hl'.out; omega, ?_, ?_⟩
          · obtain ⟨h7, h8⟩ := List.getElem?_eq_some_iff.1 hb.out
            rw [hdata.out, ← h8, List.append_assoc, List.take_append_getElem]
          · rw [hturns.out, seqF_succ, ← hl'.out, ← hl.out, List.append_assoc, show last + 1 + (j : Int) = last + j + 1 by omega]
        exact ⟨⟨j + 1, A5, c5, A6, c6, hlt, by go_num, by rw [HF.out.1, HF.out.2.1, HF.out.2.2.1, HF.out.2.2.2]; exact H6.out.2⟩, by simp [intOf]; omega⟩
      · have hjm : j = m := by omega
        subst hjm
        have hlen : data.length = D ∧ turns.length = D := by
          have h1 := HL.out.dr.1
          have h2 := HL.out.tr.1
          simp [byteVs, intVs] at h1 h2
          exact ⟨h1, h2⟩
        have HW : Hid (RefD (fun g => O g ∨ (w.heap.size ≤ g ∧ g < F + 1)) wr (some ⟨g, 0, none⟩) n c L ∧ (∀ g, (O g ∨ (w.heap.size ≤ g ∧ g < F + 1)) → g < wr.heap.size) ∧ RFok (fun g => O g ∨ (w.heap.size ≤ g ∧ g < F + 1)) wr ⟨f0.name, data, turns, dA, dc, tA, tc⟩) := by
          have hlo := HL.out.lo
          have hsz := HL.out.bx.old.size
          have hn0 := HL.out.bx.n
          refine ⟨HR.out.keep (fun g hg _ => HL.out.bx.old.block g hg) (fun g hg hp => ?_), fun g hp => ?_, ?_, ?_, ?_, ?_⟩
          · rcases hp with hp | hp
            · exact hp
            · omega
          · rcases hp with hp | hp
            · have := HO.out g hp; omega
            · omega
          · exact ValsAt.row HL.out.dr fun g hg hp => by
              rcases hp with hp | hp
              · have := HO.out g hp; omega
              · omega
          · exact ValsAt.row HL.out.tr fun g hg hp => by
              rcases hp with hp | hp
              · have := HO.out g hp; omega
              · omega
          · show data.length ≤ dc; rw [hlen.1]; exact row_cap HL.out.dr
          · show turns.length ≤ tc; rw [hlen.2]; exact row_cap HL.out.tr
        have HWI := Lib.hid (with_in (fun g => O g ∨ (w.heap.size ≤ g ∧ g < F + 1)) (some ⟨g, 0, none⟩) n c L l ⟨f0.name, data, turns, dA, dc, tA, tc⟩ D D hlen.1 hlen.2 wr HW.out.1 HW.out.2.1 HW.out.2.2 HS.out HN.out.1)
        clear hlen
        go_wp2_with fail
        refine HWI.out.mono ?_
        rintro e w8 ⟨A8, n8, c8, rfl, H8⟩
        have HB8 : Hid (ABx w w8 b0 b1 b2 F (.slice (some ⟨g, 0, none⟩) n c) l f0.name (.slice dA D dc) (.slice tA D tc)) := HL.out.bx.keep H8.out.2 (by have := HL.out.lo; omega)
        have r0 : w8.cell? ⟨b1, 0, none⟩ = some (.slice none 0 0) := by simp [World.cell?, HB8.out.r]
        have r1 : w8.cell? ⟨b1, 1, none⟩ = some (.int .i64 0) := by simp [World.cell?, HB8.out.r]
        have e0 : w8.cell? ⟨b2, 0, none⟩ = some (.bool false) := by simp [World.cell?, HB8.out.e]
        have e1 : w8.cell? ⟨b2, 1, none⟩ = some (.slice none 0 0) := by simp [World.cell?, HB8.out.e]
        have e2 : w8.cell? ⟨b2, 2, none⟩ = some (.int .i64 0) := by simp [World.cell?, HB8.out.e]
        have fr : ∀ i, w8.frozen? ⟨b1, i, none⟩ = false := fun i => by simp [World.frozen?, HB8.out.r]
        have fe : ∀ i, w8.frozen? ⟨b2, i, none⟩ = false := fun i => by simp [World.frozen?, HB8.out.e]
        have n12 : ¬ (b1 = b2) := by have := HL.out.bx.n; omega
        have n21 : ¬ (b2 = b1) := by have := HL.out.bx.n; omega
        clear HWI HW
        go_wp2
        refine bodyPost_ret (v := .tuple #[.agg #[.slice A8 n8 c8, .int .i64 l], eV none]) ?_ rfl ?_
        · simp [results, Tryz.results16, go_sem, eV, r0, r1, e0, e1, e2, fr, fe, n12, n21]
        · refine ⟨A8, n8, c8, ⟨f0.name, data, turns, dA, dc, tA, tc⟩, by rw [hl.out], ?_, ?_, rfl, ?_, ?_⟩
          · have hbP : ∀ k, k = b1 ∨ k = b2 → O k ∨ (w.heap.size ≤ k ∧ k < F + 1) := fun k hk => .inr (by have := HL.out.bx.n; omega)
            refine H8.out.1.keep (fun k hk hkP => ?_) fun k _ hk => .inl hk
            have h1 : k ≠ b1 := fun e => hkP (hbP k (.inl e))
            have h2 : k ≠ b2 := fun e => hkP (hbP k (.inr e))
            repeat rw [Below.heap_setCell _ _ _ _ (by first | exact h1 | exact h2)]
          · have ho := HB8.out.old
            have hn0 := HB8.out.n
            repeat (first | exact ho | refine belowS ?_ (by omega) _)
          · show data = f0.data ++ bs
            rw [hdata.out, ← HN.out.2.2.1, List.take_length]
          · exact hturns.out

end Go.Proofs.YtfhdcjfkngflbaaGreatDoor
