/-
  disk: the document's Append where it takes. Own work, printed by gen_refapp.py.
-/
import Derived.Test.YtfhdcjfkngflbaaGreatDoorP10
import Derived.Test.YtfhdcjfkngflbaaGreatDoorDiskRefD
set_option linter.unusedSimpArgs false
set_option linter.unusedVariables false
namespace Go.Proofs.YtfhdcjfkngflbaaGreatDoor
open Go Go.RowKit

set_option maxRecDepth 100000 in
set_option maxHeartbeats 40000000 in
theorem refapp_new (O : Nat → Prop) (A : Option Addr) (n c : Nat) (L : List RF) (last : Int) (name : ByteArray) (Ap : Option Addr) (m cp : Nat) (bs : List UInt8) (hbm : bs.length = m) (w : World) (h : RefD O w A n c L) (hO : ∀ g, O g → g < w.heap.size) (hn : n ≤ 64) (hs : Sorted L) (hks : name.size ≤ 4611686018427387904) (hnm : nmB name = true) (hA : BytesAt w Ap bs) (hm : m ≤ 1000000) (hl0 : 0 ≤ last) (hl1 : last ≤ 1000000000000) (hk : ∀ f ∈ L, f.name ≠ name) (h64 : n < 64) :
    Calls Tryz.prog 16 #[.agg #[.slice A n c, .int .i64 last], .string name, .slice Ap m cp] w fun e w' => ∃ (A' : Option Addr) (n' c' : Nat) (f : RF), e = .returned (.tuple #[.agg #[.slice A' n' c', .int .i64 (last + m)], eV none]) ∧ Hid (RefD O w' A' n' c' (insL f L) ∧ Below w.heap.size w w' ∧ f.name = name ∧ f.data = [] ++ bs ∧ f.turn = [] ++ seqF last m) := by
  obtain ⟨w1, hw1⟩ : ∃ w1, w1 = ((w.alloc (.cells #[.slice A n c, .int .i64 last] 29)).alloc (.cells #[.slice none 0 0, .int .i64 0] 29)).alloc (.cells #[.bool false, .slice none 0 0, .int .i64 0] 53) := ⟨_, rfl⟩
  obtain ⟨b2, hb2⟩ : ∃ b2, b2 = w.heap.size + 1 + 1 := ⟨_, rfl⟩
  obtain ⟨b1, hb1⟩ : ∃ b1, b1 = w.heap.size + 1 := ⟨_, rfl⟩
  obtain ⟨b0, hb0⟩ : ∃ b0, b0 = w.heap.size := ⟨_, rfl⟩
  have H1 : Hid (Bx3 w w1 b0 b1 b2 (.slice A n c) (.int .i64 last) ∧ b2 < w1.heap.size) := by
    rw [hw1, hb2, hb1, hb0]; exact ⟨bx3_new w _ _, by simp⟩
  have HPL : Hid (Calls Tryz.prog 35 #[.agg #[.slice A n c, .int .i64 last], .string name] w1 fun e w' => e = .returned (.int .i64 (-1)) ∧ Below w1.heap.size w1 w') := place_none O A n c L last name w1 (h.below H1.out.1.old) hn hk
  have HNM : Hid (∀ W, Calls Tryz.prog 36 #[.string name] W fun e w' => e = .returned (.bool true) ∧ W = w') := fun W => by
    have := refname_any name W hks; rw [hnm] at this; exact this
  have HR := Lib.hid h
  have HO := Lib.hid hO
  have HS := Lib.hid hs
  have HP := Lib.hid hA
  have HN : Hid (n ≤ 64 ∧ L.length = n ∧ bs.length = m ∧ m ≤ 1000000 ∧ 0 ≤ last ∧ last ≤ 1000000000000) := ⟨hn, h.len, hbm, hm, hl0, hl1⟩
  have dm : decide ((m : Int) > 1048576) = false := by rw [decide_eq_false_iff_not]; omega
  have dn : decide ((n : Int) ≥ 64) = false := by rw [decide_eq_false_iff_not]; omega
  clear h hn hs hks hnm hk h64 hO hA hm hl0 hl1 hbm
  obtain ⟨iU, hU, hU0, hU1, hU2⟩ := info_parts byte_info
  obtain ⟨iI, hI, hI0, hI1, hI2⟩ := info_parts int_info
  go_enter Tryz.func16, Tryz.ntmps16
  go_wp2_with fail
  rw [← hw1, ← hb2, ← hb1, ← hb0]
  have HSZ : Hid (w.heap.size ≤ b0 ∧ w.heap.size ≤ b1 ∧ w.heap.size ≤ b2) := by simp only [Hid]; omega
  clear hw1 hb2 hb1 hb0
  refine HPL.out.mono ?_
  rintro e w2 ⟨rfl, hb⟩
  have H2 := Lib.hid hb
  clear hb
  go_wp2_with fail
  refine (HNM.out _).mono ?_
  rintro e w3 ⟨rfl, rfl⟩
  have H3 : Hid (Bx3 w w2 b0 b1 b2 (.slice A n c) (.int .i64 last) ∧ b2 < w2.heap.size) := ⟨H1.out.1.below H2.out, by have := H1.out; have := H2.out.size; omega⟩
  clear HPL HNM H1 H2
  obtain ⟨d0, d1, r0, r1, e0, e1, e2, fr, fe⟩ := H3.out.1.cells
  obtain ⟨F, hF⟩ : ∃ F, F = w2.heap.size := ⟨_, rfl⟩
  obtain ⟨W3, hW3⟩ : ∃ W3, W3 = w2.alloc (.cells #[.string name, .slice none 0 0, .slice none 0 0] 66) := ⟨_, rfl⟩
  have H4 : Hid (ABx w W3 b0 b1 b2 F (.slice A n c) last name (.slice none 0 0) (.slice none 0 0) ∧ W3.heap.size = F + 1 ∧ Below w2.heap.size w2 W3) := by
    have hb : Below w2.heap.size w2 W3 := by rw [hW3]; exact (Below.refl _ _).alloc (Nat.le_refl _) _
    have hx := H3.out.1.below hb
    refine ⟨⟨hx.d, hx.r, hx.e, by rw [hW3, hF]; exact heap_alloc_new _ _, by have := hx.n1; have := H3.out.2; omega, hx.old⟩, by rw [hW3, hF]; simp, hb⟩
  go_wp2_with fail
  rw [← hW3, ← hF]
  clear hW3 hF
  go_loopw [79] (fun q wr => ∃ (j : Nat) (dA : Option Addr) (dc : Nat) (tA : Option Addr) (tc : Nat), j ≤ m ∧ q = .int .i64 j ∧ Hid (AIn w wr b0 b1 b2 F (F + 1) (.slice A n c) (last + (j : Nat)) name (0 + j) (.slice dA (0 + j) dc) (.slice tA (0 + j) tc) ([] ++ bs.take j) ([] ++ seqF last j))) (fun q _ => m - (intOf q).toNat)
  case atStart => exact ⟨0, none, 0, none, 0, Nat.zero_le _, rfl, ⟨by simpa using H4.out.1, by simpa [byteVs] using World.ownsRow_nil _ _ _ _, by simpa [intVs, seqF] using World.ownsRow_nil _ _ _ _, by omega, by have := H4.out.2.1; omega⟩⟩
  case round =>
    obtain ⟨j, dA, dc, tA, tc, hj, rfl, HL⟩ := hrel
    obtain ⟨D, hD⟩ : ∃ D, Hid (0 + j = D) := ⟨_, rfl⟩
    obtain ⟨l, hl⟩ : ∃ l : Int, Hid (last + (j : Nat) = l) := ⟨_, rfl⟩
    obtain ⟨data, hdata0⟩ : ∃ x : List UInt8, x = [] ++ bs.take j := ⟨_, rfl⟩
    have hdata := Lib.hid hdata0
    obtain ⟨turns, hturns0⟩ : ∃ x : List Int, x = [] ++ seqF last j := ⟨_, rfl⟩
    have hturns := Lib.hid hturns0
    clear hdata0 hturns0
    rw [hD.out, hl.out, ← hdata.out, ← hturns.out] at HL
    obtain ⟨d0, d1⟩ := cell2 HL.out.bx.d
    obtain ⟨f0c, f1c, f2c⟩ := cell3 HL.out.bx.f
    have fd := fun i => (show wr.frozen? ⟨b0, i, none⟩ = false from by simp [World.frozen?, HL.out.bx.d])
    by_cases hlt : j < m
    · obtain ⟨b, hb⟩ : ∃ b, Hid (bs[j]? = some b) := ⟨_, List.getElem?_eq_getElem (by have := HN.out; omega)⟩
      obtain ⟨ap, rfl, hpc⟩ : ∃ ap, Ap = some ap ∧ Hid (wr.cell? (ap.add j) = some (.int .u8 b.toNat)) := by
        cases Ap with
        | none => have := HP.out.1 rfl; have := HN.out; omega
        | some ap =>
          refine ⟨ap, rfl, ?_⟩
          have h1 := HP.out.2 ap rfl j (.int .u8 b.toNat) (by simp [byteVs, hb.out, byteV])
          exact (HL.out.bx.old.cell (World.block_lt_of_cell? w _ h1)).trans h1
      have hpc' := hpc.out
      have hjm : ((j : Nat) : Int) < m := by omega
      have hj0 : ((0 : Int) ≤ j) := by omega
      have hwj : IntKind.i64.wrap ((j : Int) + 1) = ((j + 1 : Nat) : Int) := by have := HN.out; rw [IntKind.wrap_i64]; omega
      obtain ⟨l', hl'⟩ : ∃ l' : Int, Hid (l + 1 = l') := ⟨_, rfl⟩
      have hwl : IntKind.i64.wrap (l + 1) = l' := by have := HN.out; have := hl.out; have := hl'.out; rw [IntKind.wrap_i64]; omega
      have hne : b0 ≠ F ∧ F ≠ b0 := by have := HL.out.bx.n; omega
      have hm1 : Hid (D + 1 ≤ maxLen) := Nat.le_trans (show D + 1 ≤ 3000000 by have := HN.out; have := hD.out; omega) (by decide)
      have hm2 : Hid ((D + 1) * 1 ≤ 140737488355328) := by simp only [Hid]; have := HN.out; have := hD.out; omega
      have hm3 : Hid ((D + 1) * 8 ≤ 140737488355328) := by simp only [Hid]; have := HN.out; have := hD.out; omega
      have tok1 : True := trivial
      go_wp2_with (first
        | (at_builtin; have _t := tok1; refine wpList_append_own _ rfl _ _ 30 rfl (F + 1) 5 iU (.int .u8 0) 1 1 Tryz.underlying30 hU hU0 hU1 hU2 rfl (by decide) (.slice dA D dc) D (byteVs data) rfl (HL.out.row1 l' _).1 _ 1 1 [.int .u8 b.toNat] rfl rfl (newc1 _ _ _ _ (by simp [World.setCell])) (by simp [Value.oneCell']) hm1.out hm2.out (HL.out.row1 l' _).2 ?_; intro v5 w5 hown5 hgrow5 hnil5; obtain ⟨A5, c5, rfl⟩ := own_slice hown5; have H5 := Lib.hid (HL.out.after1 l' _ w5 hgrow5); have HO5 := Lib.hid hown5; clear hown5 hgrow5 hnil5 tok1; obtain ⟨d0, d1⟩ := cell2 H5.out.1.d; obtain ⟨f0c, f1c, f2c⟩ := cell3 H5.out.1.f; have ff := fun i => (show w5.frozen? ⟨F, i, none⟩ = false from by simp [World.frozen?, H5.out.1.f]))
        | (at_builtin; refine wpList_append_own _ rfl _ _ 64 rfl (F + 1) 3 iI (.int .i64 0) 1 8 Tryz.underlying64 hI hI0 hI1 hI2 rfl (by decide) (.slice tA D tc) D (intVs turns) rfl (row2 H5.out.1 H5.out.2.1 ⟨HL.out.lo.1, H5.out.2.2⟩ (.slice A5 (D + 1) c5) _).1 _ 1 1 [.int .i64 l'] rfl rfl (newc1 _ _ _ _ (by simp [World.setCell])) (by simp [Value.oneCell']) hm1.out hm3.out (row2 H5.out.1 H5.out.2.1 ⟨HL.out.lo.1, H5.out.2.2⟩ (.slice A5 (D + 1) c5) _).2 ?_; intro v6 w6 hown6 hgrow6 hnil6; obtain ⟨A6, c6, rfl⟩ := own_slice hown6; rw [← intVs_snoc] at hown6; have HO5' := HO5.out; rw [← byteVs_snoc] at HO5'; have H6 := Lib.hid (after2 H5.out.1 H5.out.2.1 ⟨HL.out.lo.1, H5.out.2.2⟩ (.slice A5 (D + 1) c5) HO5' _ w6 hgrow6 _ hown6); clear hown6 hgrow6 hnil6 HO5'; obtain ⟨d0, d1⟩ := cell2 H6.out.1.d; obtain ⟨f0c, f1c, f2c⟩ := cell3 H6.out.1.f; have ff := fun i => (show w6.frozen? ⟨F, i, none⟩ = false from by simp [World.frozen?, H6.out.1.f])))
      have HF : Hid (0 + (j + 1) = D + 1 ∧ last + ((j + 1 : Nat) : Int) = l' ∧ [] ++ bs.take (j + 1) = data ++ [b] ∧ [] ++ seqF last (j + 1) = turns ++ [l']) := by
        refine ⟨by have := hD.out; omega, by have := hl.out; have := hl'.out; omega, ?_, ?_⟩
        · obtain ⟨h7, h8⟩ := List.getElem?_eq_some_iff.1 hb.out
          rw [hdata.out, ← h8, List.append_assoc, List.take_append_getElem]
        · rw [hturns.out, seqF_succ, ← hl'.out, ← hl.out, List.append_assoc, show last + 1 + (j : Int) = last + j + 1 by omega]
      exact ⟨⟨j + 1, A5, c5, A6, c6, hlt, by go_num, by rw [HF.out.1, HF.out.2.1, HF.out.2.2.1, HF.out.2.2.2]; exact H6.out.2⟩, by simp [intOf]; omega⟩
    · have hjm : j = m := by omega
      subst hjm
      have hlen : data.length = D ∧ turns.length = D := by
        have h1 := HL.out.dr.1
        have h2 := HL.out.tr.1
        simp [byteVs, intVs] at h1 h2
        exact ⟨h1, h2⟩
      have HW : Hid (RefD (fun g => O g ∨ (w.heap.size ≤ g ∧ g < F + 1)) wr A n c L ∧ (∀ g, (O g ∨ (w.heap.size ≤ g ∧ g < F + 1)) → g < wr.heap.size) ∧ RFok (fun g => O g ∨ (w.heap.size ≤ g ∧ g < F + 1)) wr ⟨name, data, turns, dA, dc, tA, tc⟩) := by
        have hlo := HL.out.lo
        have hsz := HL.out.bx.old.size
        have hn0 := HL.out.bx.n
        refine ⟨HR.out.keep (fun g hg _ => HL.out.bx.old.block g hg) (fun g hg hp => ?_), fun g hp => ?_, ?_, ?_, ?_, ?_⟩
        · rcases hp with hp | hp
          · exact hp
          · omega
        · rcases hp with hp | hp
          · have := HO.out g hp; omega
          · omega
        · exact ValsAt.row HL.out.dr fun g hg hp => by
            rcases hp with hp | hp
            · have := HO.out g hp; omega
            · omega
        · exact ValsAt.row HL.out.tr fun g hg hp => by
            rcases hp with hp | hp
            · have := HO.out g hp; omega
            · omega
        · show data.length ≤ dc; rw [hlen.1]; exact row_cap HL.out.dr
        · show turns.length ≤ tc; rw [hlen.2]; exact row_cap HL.out.tr
      have HWI := Lib.hid (with_in (fun g => O g ∨ (w.heap.size ≤ g ∧ g < F + 1)) A n c L l ⟨name, data, turns, dA, dc, tA, tc⟩ D D hlen.1 hlen.2 wr HW.out.1 HW.out.2.1 HW.out.2.2 HS.out HN.out.1)
      clear hlen
      go_wp2_with fail
      refine HWI.out.mono ?_
      rintro e w8 ⟨A8, n8, c8, rfl, H8⟩
      have HB8 : Hid (ABx w w8 b0 b1 b2 F (.slice A n c) l name (.slice dA D dc) (.slice tA D tc)) := HL.out.bx.keep H8.out.2 (by have := HL.out.lo; omega)
      have r0 : w8.cell? ⟨b1, 0, none⟩ = some (.slice none 0 0) := by simp [World.cell?, HB8.out.r]
      have r1 : w8.cell? ⟨b1, 1, none⟩ = some (.int .i64 0) := by simp [World.cell?, HB8.out.r]
      have e0 : w8.cell? ⟨b2, 0, none⟩ = some (.bool false) := by simp [World.cell?, HB8.out.e]
      have e1 : w8.cell? ⟨b2, 1, none⟩ = some (.slice none 0 0) := by simp [World.cell?, HB8.out.e]
      have e2 : w8.cell? ⟨b2, 2, none⟩ = some (.int .i64 0) := by simp [World.cell?, HB8.out.e]
      have fr : ∀ i, w8.frozen? ⟨b1, i, none⟩ = false := fun i => by simp [World.frozen?, HB8.out.r]
      have fe : ∀ i, w8.frozen? ⟨b2, i, none⟩ = false := fun i => by simp [World.frozen?, HB8.out.e]
      have n12 : ¬ (b1 = b2) := by have := HL.out.bx.n; omega
      have n21 : ¬ (b2 = b1) := by have := HL.out.bx.n; omega
      clear HWI HW
      go_wp2
      refine bodyPost_ret (v := .tuple #[.agg #[.slice A8 n8 c8, .int .i64 l], eV none]) ?_ rfl ?_
      · simp [results, Tryz.results16, go_sem, eV, r0, r1, e0, e1, e2, fr, fe, n12, n21]
      · refine ⟨A8, n8, c8, ⟨name, data, turns, dA, dc, tA, tc⟩, by rw [hl.out], ?_, ?_, rfl, ?_, ?_⟩
        · have hbP : ∀ k, k = b1 ∨ k = b2 → O k ∨ (w.heap.size ≤ k ∧ k < F + 1) := fun k hk => .inr (by have := HL.out.bx.n; omega)
          refine H8.out.1.keep (fun k hk hkP => ?_) fun k _ hk => .inl hk
          have h1 : k ≠ b1 := fun e => hkP (hbP k (.inl e))
          have h2 : k ≠ b2 := fun e => hkP (hbP k (.inr e))
          repeat rw [Below.heap_setCell _ _ _ _ (by first | exact h1 | exact h2)]
        · have ho := HB8.out.old
          have hn0 := HB8.out.n
          repeat (first | exact ho | refine belowS ?_ (by omega) _)
        · show data = [] ++ bs
          rw [hdata.out, ← HN.out.2.2.1, List.take_length]
        · exact hturns.out

end Go.Proofs.YtfhdcjfkngflbaaGreatDoor
