/-
  disk: the document's Crash, walked. Own work.
-/
import Derived.Test.YtfhdcjfkngflbaaGreatDoorDiskRefX0
import Derived.Test.YtfhdcjfkngflbaaGreatDoorP11
import Derived.Deep.RegionLaw
import Derived.Deep.AppendLies
import Derived.Deep.CutBlock
import Derived.Deep.DeepCutAuto
set_option linter.unusedSimpArgs false
set_option linter.unusedVariables false
namespace Go.Proofs.YtfhdcjfkngflbaaGreatDoor
open Go Go.RowKit

set_option maxRecDepth 100000 in
set_option maxHeartbeats 40000000 in
theorem crash_in (O : Nat → Prop) (A : Option Addr) (n c : Nat) (L : List RF) (ln keep : Nat) (w : World) (h : RefD O w A n c L) (hO : ∀ g, O g → g < w.heap.size) (hn : n ≤ 64) (hT : ∀ f ∈ L, f.data.length ≤ 10000 ∧ f.turn.length = f.data.length) (hl1 : ln ≤ 1000000000000) (hk1 : keep ≤ 9223372036854775807) :
    Calls Tryz.prog 23 #[.agg #[.slice A n c, .int .i64 ln], .int .i64 keep] w fun e w' => ∃ (A' : Option Addr) (c' : Nat) (L' : List RF) (x : Nat), e = .returned (.tuple #[.agg #[.slice A' n c', .int .i64 ln], eV none]) ∧ Hid (RefD O w' A' n c' L' ∧ Below w.heap.size w w' ∧ L'.length = L.length ∧ x ≤ ln ∧ nHas L x = min keep (nHas L ln) ∧ ∀ (i : Nat) (f f' : RF), L[i]? = some f → L'[i]? = some f' → f'.name = f.name ∧ f'.data = f.data.take (pfx x f.turn) ∧ f'.turn = List.replicate (pfx x f.turn) 0) := by
  obtain ⟨w1, hw1⟩ : ∃ w1, w1 = ((w.alloc (.cells #[.slice A n c, .int .i64 ln] 29)).alloc (.cells #[.slice none 0 0, .int .i64 0] 29)).alloc (.cells #[.bool false, .slice none 0 0, .int .i64 0] 53) := ⟨_, rfl⟩
  obtain ⟨b2, hb2⟩ : ∃ b2, b2 = w.heap.size + 1 + 1 := ⟨_, rfl⟩
  obtain ⟨b1, hb1⟩ : ∃ b1, b1 = w.heap.size + 1 := ⟨_, rfl⟩
  obtain ⟨b0, hb0⟩ : ∃ b0, b0 = w.heap.size := ⟨_, rfl⟩
  have H1 : Hid (Bx3 w w1 b0 b1 b2 (.slice A n c) (.int .i64 ln) ∧ b2 < w1.heap.size) := by
    rw [hw1, hb2, hb1, hb0]; exact ⟨bx3_new w _ _, by simp⟩
  have HR := Lib.hid h
  have HO := Lib.hid hO
  have HN : Hid (n ≤ 64 ∧ L.length = n ∧ ln ≤ 1000000000000 ∧ keep ≤ 9223372036854775807) := ⟨hn, h.len, hl1, hk1⟩
  have HT := Lib.hid hT
  have HHAS : Hid (∀ (u : Int) (W : World), Below w.heap.size w W → Calls Tryz.prog 40 #[.agg #[.slice A n c, .int .i64 ln], .int .i64 u] W fun e w' => e = .returned (.bool (hasB L u)) ∧ Hid (Below W.heap.size W w')) := fun u W hW =>
    has_any O A n c L ln u W (h.below hW) hn fun f hf => by have := hT f hf; omega
  have dk : decide ((keep : Int) < 0) = false := by rw [decide_eq_false_iff_not]; omega
  clear h hn hO hT hl1 hk1
  obtain ⟨i0, hi, hz0, hz1, hz2⟩ := info_parts file_info
  go_enter Tryz.func23, Tryz.ntmps23
  go_upto_block 0 with fail
  rw [← hw1, ← hb2, ← hb1, ← hb0]
  clear hw1 hb2 hb1 hb0
  go_cut [1, 6, 7] (fun kp la t wx => ∃ (k x u : Nat), kp = .int .i64 k ∧ la = .int .i64 x ∧ t = .int .i64 u ∧ Hid (x ≤ ln ∧ nHas L x = min keep (nHas L ln) ∧ Bx3 w wx b0 b1 b2 (.slice A n c) (.int .i64 ln) ∧ b2 < wx.heap.size))
  case first =>
    go_wp2_with fail
    go_loopg [1, 6, 7] ln (fun gh kp la t wx => ∃ (k x u : Nat), kp = .int .i64 k ∧ la = .int .i64 x ∧ t = .int .i64 (u + 1 : Nat) ∧ gh = ln - u ∧ Hid (u ≤ ln ∧ x ≤ u ∧ nHas L u + k = keep ∧ nHas L x = nHas L u ∧ Bx3 w wx b0 b1 b2 (.slice A n c) (.int .i64 ln) ∧ b2 < wx.heap.size))
    case atStart => exact ⟨keep, 0, 0, rfl, rfl, rfl, rfl, Nat.zero_le _, Nat.le_refl _, by simp [nHas], rfl, H1.out.1, H1.out.2⟩
    case round =>
      obtain ⟨k, x, u, rfl, rfl, rfl, rfl, HL⟩ := hrel
      obtain ⟨d0, d1, _⟩ := HL.out.2.2.2.2.1.cells
      by_cases hu : u < ln
      · have hd1 : decide (((u + 1 : Nat) : Int) ≤ (ln : Int)) = true := by rw [decide_eq_true_iff]; omega
        by_cases hk0 : 0 < k
        · have hd2 : decide ((k : Int) > 0) = true := by rw [decide_eq_true_iff]; omega
          have hwu : IntKind.i64.wrap (((u + 1 : Nat) : Int) + 1) = ((u + 1 + 1 : Nat) : Int) := by have := HN.out; rw [IntKind.wrap_i64]; omega
          have hwk : IntKind.i64.wrap ((k : Int) - 1) = ((k - 1 : Nat) : Int) := by have := HN.out; have := HL.out; rw [IntKind.wrap_i64]; omega
          have hw64 : wrap64 ((u : Int) + 1 + 1) = ((u + 1 + 1 : Nat) : Int) := by have := HN.out; unfold wrap64; omega
          have HW64 := Lib.hid hw64
          clear hw64
          have hha := HHAS.out ((u + 1 : Nat) : Int) wr HL.out.2.2.2.2.1.old
          go_wp2_with fail
          refine hha.mono ?_
          rintro e w5 ⟨rfl, hb5⟩
          have H5 : Hid (Bx3 w w5 b0 b1 b2 (.slice A n c) (.int .i64 ln) ∧ b2 < w5.heap.size) := ⟨HL.out.2.2.2.2.1.below hb5.out, by have := HL.out.2.2.2.2.2; have := hb5.out.size; omega⟩
          obtain ⟨d0, d1, _⟩ := H5.out.1.cells
          have hnn : nHas L (u + 1) = nHas L u + if hasB L ((u + 1 : Nat) : Int) then 1 else 0 := by
            simp only [nHas]; rw [show ((u : Int) + 1) = ((u + 1 : Nat) : Int) by omega]
          cases hB : hasB L ((u + 1 : Nat) : Int) with
          | true =>
            rw [hB, if_pos rfl] at hnn
            have HNN := Lib.hid hnn
            clear hnn
            go_wp2
            go_roundg (ln - (u + 1))
            case measure => omega
            case rel => exact ⟨k - 1, u + 1, u + 1, by go_num, by go_num, congrArg (Value.int .i64) HW64.out, rfl, by omega, Nat.le_refl _, by have := HL.out.2.2.1; have := HNN.out; omega, rfl, H5.out⟩
          | false =>
            rw [hB, if_neg (by simp)] at hnn
            have HNN := Lib.hid hnn
            clear hnn
            go_wp2
            go_roundg (ln - (u + 1))
            case measure => omega
            case rel => exact ⟨k, x, u + 1, rfl, rfl, congrArg (Value.int .i64) HW64.out, rfl, by omega, by have := HL.out.2.1; omega, by have := HL.out.2.2.1; have := HNN.out; omega, by have := HL.out.2.2.2.1; have := HNN.out; omega, H5.out⟩
        · have hd2 : decide ((k : Int) > 0) = false := by rw [decide_eq_false_iff_not]; omega
          have HX : Hid (x ≤ ln ∧ nHas L x = min keep (nHas L ln)) := by
            have h1 := HL.out
            have h2 := nHas_mono L h1.1
            simp only [Hid]; omega
          go_wp2
          go_meet
          exact ⟨k, x, u + 1, rfl, rfl, rfl, HX.out.1, HX.out.2, HL.out.2.2.2.2⟩
      · have hd1 : decide (((u + 1 : Nat) : Int) ≤ (ln : Int)) = false := by rw [decide_eq_false_iff_not]; omega
        have HX : Hid (x ≤ ln ∧ nHas L x = min keep (nHas L ln)) := by
          have h1 := HL.out
          have h3 : u = ln := by omega
          rw [h3] at h1
          simp only [Hid]; omega
        go_wp2
        go_meet
        exact ⟨k, x, u + 1, rfl, rfl, rfl, HX.out.1, HX.out.2, HL.out.2.2.2.2⟩
  case rest =>
    obtain ⟨k, x, u, rfl, rfl, rfl, HX⟩ := hcut
    obtain ⟨d0, d1, _⟩ := HX.out.2.2.1.cells
    obtain ⟨W1, hW1⟩ : ∃ W1, W1 = wc.alloc (.cells #[.slice none 0 0, .int .i64 ln] 29) := ⟨_, rfl⟩
    obtain ⟨b3, hb3⟩ : ∃ b3, b3 = wc.heap.size := ⟨_, rfl⟩
    have HY : Hid (YBx w W1 b0 b1 b2 b3 (.slice A n c) (.int .i64 ln) (.slice none 0 0) (.int .i64 ln) ∧ W1.heap.size = b3 + 1) := by
      have hb : Below wc.heap.size wc W1 := by rw [hW1]; exact (Below.refl _ _).alloc (Nat.le_refl _) _
      exact ⟨⟨HX.out.2.2.1.below hb, by rw [hW1, hb3]; exact heap_alloc_new _ _, by rw [hb3]; exact HX.out.2.2.2⟩, by rw [hW1, hb3]; simp⟩
    obtain ⟨P, hP⟩ : ∃ P : Nat → Prop, Hid (∀ g, P g ↔ (O g ∨ (w.heap.size ≤ g ∧ g < W1.heap.size))) := ⟨fun g => O g ∨ (w.heap.size ≤ g ∧ g < W1.heap.size), fun g => Iff.rfl⟩
    have HRP : Hid (∀ W, Below w.heap.size w W → RefD P W A n c L) := fun W hW => HR.out.keep (fun g hg _ => hW.block g hg) fun g hg hp => by
      rcases (hP.out g).1 hp with h | h
      · exact h
      · omega
    have HPS : Hid (∀ g, P g → g < W1.heap.size) := fun g hg => by
      rcases (hP.out g).1 hg with h | h
      · have := HO.out g h; have := HY.out.1.bx.old.size; omega
      · exact h.2
    have x0 := HY.out.1.bx.cells.1
    rw [hW1] at x0
    go_upto_block 2 with fail
    clear x0
    rw [← hW1, ← hb3]
    clear hW1 hb3 d0 d1
    obtain ⟨d0, d1, _⟩ := HY.out.1.bx.cells
    go_wp2_with fail
    go_loopw [38] (fun i wr => ∃ (j : Nat) (A5 : Option Addr) (c5 : Nat) (Lacc : List RF), j ≤ n ∧ i = .int .i64 j ∧ Hid (YBx w wr b0 b1 b2 b3 (.slice A n c) (.int .i64 ln) (.slice A5 j c5) (.int .i64 ln) ∧ wr.ownsRow W1.heap.size 66 3 (.slice A5 j c5) j (rfCells Lacc) ∧ Made (PV P (.slice A5 j c5)) wr L Lacc (fun f => pfx x f.turn) j ∧ W1.heap.size ≤ wr.heap.size)) (fun i _ => n - (intOf i).toNat)
    case atStart => exact ⟨0, none, 0, [], Nat.zero_le _, rfl, HY.out.1, World.ownsRow_nil _ _ _ _, ⟨rfl, fun f hf => (by cases hf), fun i f f' _ h => (by simp at h)⟩, Nat.le_refl _⟩
    case round =>
      obtain ⟨j, A5, c5, Lacc, hj, rfl, HL⟩ := hrel
      obtain ⟨d0, d1, _⟩ := HL.out.1.bx.cells
      obtain ⟨o0, o1⟩ := cell2 HL.out.1.o
      have of := fun i => (show wr.frozen? ⟨b3, i, none⟩ = false from by simp [World.frozen?, HL.out.1.o])
      by_cases hlt : j < n
      · obtain ⟨f, hf⟩ : ∃ f, Hid (L[j]? = some f) := ⟨_, List.getElem?_eq_getElem (by have := HN.out; omega)⟩
        obtain ⟨g, rfl, x0, x1, x2, hok⟩ := (HRP.out wr HL.out.1.bx.old).at_ hf.out
        have HOK := Lib.hid hok
        obtain ⟨xd, hxd⟩ : ∃ q, Hid (f.data.length = q ∧ f.turn.length = q ∧ q ≤ 10000 ∧ q ≤ f.dc) := ⟨_, rfl, (HT.out f (List.mem_of_getElem? hf.out)).2, (HT.out f (List.mem_of_getElem? hf.out)).1, hok.dcap⟩
        rw [hxd.out.1] at x1
        rw [hxd.out.2.1] at x2
        obtain ⟨m, hm⟩ : ∃ m, Hid (pfx x f.turn = m) := ⟨_, rfl⟩
        have hmd : Hid (m ≤ xd) := by have := pfx_le x f.turn; have := hm.out; have := hxd.out; simp only [Hid]; omega
        have hw1' : IntKind.i64.wrap ((j : Int) + 1) = ((j + 1 : Nat) : Int) := by have := HN.out; rw [IntKind.wrap_i64]; omega
        have hj0 : ((0 : Int) ≤ j) := by omega
        have hj1 : ((j : Nat) : Int) < n := by omega
        clear hok
        obtain ⟨W0, hW0⟩ : ∃ W0, W0 = wr.alloc (.cells #[.string f.name, .slice f.dA xd f.dc, .slice f.tA xd f.tc] 66) := ⟨_, rfl⟩
        obtain ⟨F, hF⟩ : ∃ F, F = wr.heap.size := ⟨_, rfl⟩
        have HB0 : Hid (Below wr.heap.size wr W0 ∧ W0.heap[F]? = some (.cells #[.string f.name, .slice f.dA xd f.dc, .slice f.tA xd f.tc] 66 (0, 0)) ∧ W0.heap.size = F + 1 ∧ F = wr.heap.size) := by
          rw [hW0, hF]
          exact ⟨(Below.refl _ _).alloc (Nat.le_refl _) _, heap_alloc_new _ _, by simp, rfl⟩
        have HS0 : Hid (YBx w W0 b0 b1 b2 b3 (.slice (some ⟨g, 0, none⟩) n c) (.int .i64 ln) (.slice A5 j c5) (.int .i64 ln) ∧ b3 < F) := by
          have h1 := HY.out.2
          have h2 := HL.out.2.2.2
          have h3 := HB0.out
          exact ⟨HL.out.1.keep h3.1 (by omega), by omega⟩
        go_upto_block 4 with fail
        rw [← hW0, ← hF]
        clear hW0 hF x0 x1 x2 o0 o1 of d0 d1
        obtain ⟨p0, p1⟩ := cell2 HS0.out.1.o
        obtain ⟨y0, y1, y2⟩ := cell3 HB0.out.2.1
        go_cut [11] (fun s wx => W0 = wx ∧ s = .int .i64 m)
        case first =>
          go_wp2_with fail
          go_loopg [11] xd (fun gh s wx => ∃ q : Nat, q ≤ m ∧ s = .int .i64 q ∧ gh = xd - q ∧ wx = W0)
          case atStart => exact ⟨0, Nat.zero_le _, rfl, rfl, rfl⟩
          case round =>
            obtain ⟨q, hq, rfl, rfl, rfl⟩ := hrel
            by_cases hqm : q < m
            · obtain ⟨t, ht, htx⟩ := pfx_lt x f.turn q (by rw [hm.out]; exact hqm)
              have HT2 := (HOK.out.turn.below HB0.out.1)
              obtain ⟨ta, hta⟩ : ∃ ta, f.tA = some ta := by
                cases h0 : f.tA with
                | some ta => exact ⟨ta, rfl⟩
                | none =>
                  have h1 := HT2.1 h0
                  have h2 : f.turn = [] := by simpa [intVs] using h1
                  rw [h2] at ht
                  simp at ht
              have q0 := (HT2.2 ta hta q (.int .i64 t) (by simp [intVs, ht])).1
              rw [hta] at y2 ⊢
              have hq1 : decide ((q : Int) < (xd : Int)) = true := by have := hmd.out; rw [decide_eq_true_iff]; omega
              have hq2 : decide (t ≤ (x : Int)) = true := by rw [decide_eq_true_iff]; exact htx
              have hq3 : ((q : Nat) : Int) < xd := by have := hmd.out; omega
              have hq4 : ((0 : Int) ≤ q) := by omega
              have hwq : IntKind.i64.wrap ((q : Int) + 1) = ((q + 1 : Nat) : Int) := by have := hmd.out; have := hxd.out; rw [IntKind.wrap_i64]; omega
              go_wp2
              rw [← hta]
              go_roundg (xd - (q + 1))
              case measure => have := hmd.out; omega
              case rel => exact ⟨q + 1, by omega, by go_num, rfl, rfl⟩
            · obtain rfl : q = m := by omega
              by_cases hqx : q = xd
              · have hq1 : decide ((q : Int) < (xd : Int)) = false := by rw [decide_eq_false_iff_not]; omega
                go_wp2
                go_meet
                exact ⟨rfl, rfl⟩
              · obtain ⟨t, ht, htx⟩ := pfx_end x f.turn (by rw [hm.out, hxd.out.2.1]; have := hmd.out; omega)
                rw [hm.out] at ht
                have HT2 := (HOK.out.turn.below HB0.out.1)
                obtain ⟨ta, hta⟩ : ∃ ta, f.tA = some ta := by
                  cases h0 : f.tA with
                  | some ta => exact ⟨ta, rfl⟩
                  | none =>
                    have h1 := HT2.1 h0
                    have h2 : f.turn = [] := by simpa [intVs] using h1
                    rw [h2] at ht
                    simp at ht
                have q0 := (HT2.2 ta hta q (.int .i64 t) (by simp [intVs, ht])).1
                rw [hta] at y2 ⊢
                have hq1 : decide ((q : Int) < (xd : Int)) = true := by have := hmd.out; rw [decide_eq_true_iff]; omega
                have hq2 : decide (t ≤ (x : Int)) = false := by rw [decide_eq_false_iff_not]; exact htx
                have hq3 : ((q : Nat) : Int) < xd := by have := hmd.out; omega
                have hq4 : ((0 : Int) ≤ q) := by omega
                go_wp2
                rw [← hta]
                go_meet
                exact ⟨rfl, rfl⟩
        case rest =>
          obtain ⟨rfl, rfl⟩ := hcut
          have hmB : Hid (m ≤ 10000) := by have := hmd.out; have := hxd.out; simp only [Hid]; omega
          have hcB := bcut_run f.dA xd f.dc m hmd.out hxd.out.2.2.2
          have hmk := run_make_ints m (by have := hmB.out; omega)
          have hF1 : Hid (W0.heap.size = F + 1 ∧ F = wr.heap.size ∧ b3 < F ∧ W1.heap.size ≤ wr.heap.size ∧ W1.heap.size = b3 + 1) := ⟨HB0.out.2.2.1, HB0.out.2.2.2, HS0.out.2, HL.out.2.2.2, HY.out.2⟩
          have HTW : Hid (∀ X, Below W0.heap.size W0 X → Calls Tryz.prog 17 #[.slice f.dA m f.dc] X fun e w' => ∃ (A7 : Option Addr) (c7 : Nat), e = .returned (.slice A7 m c7) ∧ Hid (w'.ownsRow W0.heap.size 5 1 (.slice A7 m c7) m (byteVs (f.data.take m)) ∧ Below W0.heap.size W0 w' ∧ Below X.heap.size X w')) := fun X hX => by
            have hl : (f.data.take m).length = m := by rw [List.length_take]; have := hmd.out; have := hxd.out; omega
            have h1 := twin_any f.dA (f.data.take m) f.dc X (by
              have h3 := ((HOK.out.below HB0.out.1).below hX).data.take m
              have e : (byteVs f.data).take m = byteVs (f.data.take m) := by simp [byteVs]
              rw [e] at h3
              exact h3.bytes) (by have := hmB.out; omega)
            rw [hl] at h1
            refine h1.mono ?_
            rintro e w' ⟨v, rfl, h2, h3⟩
            obtain ⟨A7, c7, rfl⟩ := own_slice h2
            exact ⟨A7, c7, rfl, ownsRow_lower h2 hX.size, hX.trans (h3.mono hX.size), h3⟩
          have HROW : Hid (∀ W, Below W0.heap.size W0 W → W.ownsRow W1.heap.size 66 3 (.slice A5 j c5) j (rfCells Lacc)) := fun W hW =>
            ownsRow_keep HL.out.2.1 fun k hk => by
              have h1 := (own_block HL.out.2.1 hk).choose_spec.2.2
              have h2 := HB0.out.1.size
              exact (hW.block k (by omega)).trans (HB0.out.1.block k h1)
          have hm1 : Hid (j + 1 ≤ maxLen) := Nat.le_trans (show j + 1 ≤ 66 by have := HN.out; clear hw1'; omega) (by decide)
          have hb1' : Hid ((j + 1) * 64 ≤ 140737488355328) := by have := HN.out; clear hw1'; simp only [Hid]; omega
          have hzz : Hid (∀ W, Below W0.heap.size W0 W → W1.heap.size ≤ W.heap.size) := fun W hW => by have := hW.size; have := hF1.out; omega
          have HGR : Hid (∀ W w5, W.grownBy w5 (Value.slice A5 j c5).ownBlock → Below W0.heap.size W0 W → YBx w w5 b0 b1 b2 b3 (.slice (some ⟨g, 0, none⟩) n c) (.int .i64 ln) (.slice A5 j c5) (.int .i64 ln)) := fun W w5 hg hW => by
            have hb : Below W1.heap.size W w5 := (Below.refl _ W).grown hg (hzz.out W hW) (fun k hk => (own_block HL.out.2.1 hk).choose_spec.2.1)
            have h1 := hF1.out
            exact (HS0.out.1.keep hW (by omega)).keep hb (by omega)
          have HFIN : Hid (∀ (W w5 w6 : World) (A7 : Option Addr) (c7 G g5 cap5 : Nat), W.grownBy w5 (Value.slice A5 j c5).ownBlock → Below W0.heap.size W0 w6 → Below w6.heap.size w6 W → w6.ownsRow W0.heap.size 5 1 (.slice A7 m c7) m (byteVs (f.data.take m)) → W.heap[G]? = some (.cells (intVs (List.replicate m 0)).toArray 3 (0, 0)) → W0.heap.size ≤ G → ((Value.slice A5 j c5).ownBlock = some g5 ∨ g5 = W.heap.size) →
              w5.ownsRow W1.heap.size 66 3 (.slice (some ⟨g5, 0, none⟩) (j + 1) cap5) (j + 1) (rfCells Lacc ++ [.string f.name, .slice A7 m c7, .slice (some ⟨G, 0, none⟩) m m]) →
              ∃ L2, YBx w (w5.setCell ⟨b3, 0, none⟩ (.slice (some ⟨g5, 0, none⟩) (j + 1) cap5)) b0 b1 b2 b3 (.slice (some ⟨g, 0, none⟩) n c) (.int .i64 ln) (.slice (some ⟨g5, 0, none⟩) (j + 1) cap5) (.int .i64 ln) ∧ (w5.setCell ⟨b3, 0, none⟩ (.slice (some ⟨g5, 0, none⟩) (j + 1) cap5)).ownsRow W1.heap.size 66 3 (.slice (some ⟨g5, 0, none⟩) (j + 1) cap5) (j + 1) (rfCells L2) ∧ Made (PV P (.slice (some ⟨g5, 0, none⟩) (j + 1) cap5)) (w5.setCell ⟨b3, 0, none⟩ (.slice (some ⟨g5, 0, none⟩) (j + 1) cap5)) L L2 (fun f => pfx x f.turn) (j + 1) ∧ W1.heap.size ≤ (w5.setCell ⟨b3, 0, none⟩ (.slice (some ⟨g5, 0, none⟩) (j + 1) cap5)).heap.size) := fun W w5 w6 A7 c7 G g5 cap5 hg h06 h6W hrow hints hG hat hown => by
            have hW : Below W0.heap.size W0 W := h06.trans (h6W.mono h06.size)
            have h2 := HGR.out W w5 hg hW
            have h1 := hF1.out
            have hsW := hW.size
            have hbP : P b3 := (hP.out b3).2 (.inr (by have := HY.out.1.bx.n1; have := HY.out.1.n; omega))
            have hself : (Value.slice (some ⟨g5, 0, none⟩) (j + 1) cap5).ownBlock = some g5 := rfl
            have hold : ∀ k, W0.heap.size ≤ k → ¬ PV P (.slice A5 j c5) k := fun k hk hp => by
              rcases hp with hp | hp
              · have := HPS.out k hp; omega
              · have := (own_block HL.out.2.1 hp).choose_spec.2.2; omega
            have hPV : ∀ k, k < W.heap.size → PV P (.slice (some ⟨g5, 0, none⟩) (j + 1) cap5) k → PV P (.slice A5 j c5) k := fun k hk hp => by
              rcases hp with hp | hp
              · exact .inl hp
              · rw [hself] at hp
                cases hp
                rcases hat with h | h
                · exact .inr h
                · omega
            have hset : ∀ f, RFok (PV P (.slice (some ⟨g5, 0, none⟩) (j + 1) cap5)) w5 f → RFok (PV P (.slice (some ⟨g5, 0, none⟩) (j + 1) cap5)) (w5.setCell ⟨b3, 0, none⟩ (.slice (some ⟨g5, 0, none⟩) (j + 1) cap5)) f := fun f hf => hf.keep (fun k _ hk => Below.heap_setCell _ _ _ _ (fun e => hk (.inl (by have e' : k = b3 := e; rw [e']; exact hbP)))) fun _ _ h => h
            have hW5 : ∀ f, RFok (PV P (.slice A5 j c5)) W f → RFok (PV P (.slice (some ⟨g5, 0, none⟩) (j + 1) cap5)) w5 f := fun f hf => hf.keep (fun k hk hkP => hg.block k hk fun e => hkP (.inr e.symm)) hPV
            have hwrW : ∀ f, RFok (PV P (.slice A5 j c5)) wr f → RFok (PV P (.slice A5 j c5)) W f := fun f hf => (hf.below HB0.out.1).below hW
            have hdat : ValsAt (PV P (.slice A5 j c5)) W A7 (byteVs (f.data.take m)) := (ValsAt.row hrow hold).below h6W
            have hint : ValsAt (PV P (.slice A5 j c5)) W (some ⟨G, 0, none⟩) (intVs (List.replicate m 0)) := by
              refine ⟨fun h => (by cases h), fun ad e q u hu => ?_⟩
              cases e
              rw [Addr.add_lit, Nat.zero_add]
              have e2 : W.cell? ⟨G, q, none⟩ = (intVs (List.replicate m 0)).toArray[q]? := by simp [World.cell?, hints]
              rw [e2]
              exact ⟨by simpa using hu, hold G hG⟩
            have hl : (f.data.take m).length = m := by rw [List.length_take]; have := hmd.out; have := hxd.out; omega
            obtain ⟨y, hy⟩ : ∃ y : RF, y = ⟨f.name, f.data.take m, List.replicate m 0, A7, c7, some ⟨G, 0, none⟩, m⟩ := ⟨_, rfl⟩
            have hyok : RFok (PV P (.slice A5 j c5)) W y := by
              rw [hy]; exact ⟨hdat, hint, by show (f.data.take m).length ≤ c7; rw [hl]; exact row_cap hrow, by simp⟩
            have hyc : [.string f.name, .slice A7 m c7, .slice (some ⟨G, 0, none⟩) m m] = rfCells [y] := by
              rw [hy]; simp only [rfCells, fcells, List.flatMap_cons, List.flatMap_nil, List.append_nil, hl, List.length_replicate]
            refine ⟨Lacc ++ [y], h2.set _, ?_, ?_, ?_⟩
            · rw [rfCells_append, ← hyc]
              refine ownsRow_keep hown fun k hk => Below.heap_setCell _ _ _ _ (fun e => ?_)
              have e' : k = b3 := e
              have := (own_block hown hk).choose_spec.2.1
              omega
            · exact Made.snoc (HL.out.2.2.1.keep fun f hf => hset f (hW5 f (hwrW f hf))) hf.out (hset y (hW5 y hyok)) (by rw [hy]) (by rw [hy, hm.out]) (by rw [hy, hm.out])
            · have := hg.size
              simp [World.setCell]
              omega
          have HC6 : Hid (∀ w6, Below W0.heap.size W0 w6 → w6.heap[b3]? = some (.cells #[.slice A5 j c5, .int .i64 ln] 29 (0, 0)) ∧ w6.heap[F]? = some (.cells #[.string f.name, .slice f.dA xd f.dc, .slice f.tA xd f.tc] 66 (0, 0))) := fun w6 h => by
            have h1 := hF1.out
            exact ⟨(h.block b3 (by omega)).trans HS0.out.1.o, (h.block F (by omega)).trans HB0.out.2.1⟩
          have hFl : F < W0.heap.size := by have := hF1.out; omega
          have hb3l : b3 < W0.heap.size := by have := hF1.out; omega
          go_wp2_with fail
          go_region_law (first
            | (refine step_append_lies _ (by rfl) _ _ _ (by rfl) W1.heap.size 66 i0 _ 3 64 Tryz.underlying27 hi hz0 hz1 hz2 rfl (by decide) (.slice A5 j c5) j (rfCells Lacc) (by rfl) (HROW.out _ (by repeat (first | exact Below.refl _ _ | exact H6.out.2.1 | refine Below.drew ?_ | refine Below.alloc ?_ (by first | (simp; done) | (have := H6.out.2.1.size; simp; omega)) _))) ⟨w6.heap.size + 1, 0, none⟩ 1 1 [.string f.name, .slice A7 m c7, .slice (some ⟨w6.heap.size, 0, none⟩) m m] (by rfl) (by rfl) (new3 _ _ _ _ _ _ (by simp)) (by simp [Value.oneCell']) (by decide) hm1.out hb1'.out (hzz.out _ (by repeat (first | exact Below.refl _ _ | exact H6.out.2.1 | refine Below.drew ?_ | refine Below.alloc ?_ (by first | (simp; done) | (have := H6.out.2.1.size; simp; omega)) _))) _ rfl ?_; intro g5 cap5 w5 hown5 hgrow5 hat5 hlt5; have HG5 := Lib.hid (HGR.out _ _ hgrow5 (by repeat (first | exact Below.refl _ _ | exact H6.out.2.1 | refine Below.drew ?_ | refine Below.alloc ?_ (by first | (simp; done) | (have := H6.out.2.1.size; simp; omega)) _))); have HF5 := Lib.hid (HFIN.out _ _ _ _ _ _ _ _ hgrow5 H6.out.2.1 (by repeat (first | exact Below.refl _ _ | refine Below.alloc ?_ (by simp) _)) H6.out.1 (by exact (Below.heap_alloc (w6.alloc _) _ _ (by simp)).trans (heap_alloc_new w6 _)) (H6.out.2.1.size) hat5 hown5); obtain ⟨p0, p1⟩ := cell2 HG5.out.o; have pf := fun i => (show w5.frozen? ⟨b3, i, none⟩ = false from by simp [World.frozen?, HG5.out.o]); clear hown5 hgrow5 hat5 hlt5)
            | (refine step_append_lies _ (by rfl) _ _ _ (by rfl) W1.heap.size 66 i0 _ 3 64 Tryz.underlying27 hi hz0 hz1 hz2 rfl (by decide) (.slice A5 j c5) j (rfCells Lacc) (by rfl) (HROW.out _ (by repeat (first | exact Below.refl _ _ | exact H6.out.2.1 | refine Below.drew ?_ | refine Below.alloc ?_ (by first | (simp; done) | (have := H6.out.2.1.size; simp; omega)) _))) ⟨w6.heap.size, 0, none⟩ 1 1 [.string f.name, .slice A7 m c7, .slice (some ⟨W0.heap.size, 0, none⟩) m m] (by rfl) (by rfl) (new3 _ _ _ _ _ _ (by simp)) (by simp [Value.oneCell']) (by decide) hm1.out hb1'.out (hzz.out _ (by repeat (first | exact Below.refl _ _ | exact H6.out.2.1 | refine Below.drew ?_ | refine Below.alloc ?_ (by first | (simp; done) | (have := H6.out.2.1.size; simp; omega)) _))) _ rfl ?_; intro g5 cap5 w5 hown5 hgrow5 hat5 hlt5; have HG5 := Lib.hid (HGR.out _ _ hgrow5 (by repeat (first | exact Below.refl _ _ | exact H6.out.2.1 | refine Below.drew ?_ | refine Below.alloc ?_ (by first | (simp; done) | (have := H6.out.2.1.size; simp; omega)) _))); have HF5 := Lib.hid (HFIN.out _ _ _ _ _ _ _ _ hgrow5 H6.out.2.1 (by repeat (first | exact Below.refl _ _ | refine Below.alloc ?_ (by simp) _)) H6.out.1 (by rw [Below.heap_alloc _ _ _ (by have := (Array.getElem?_eq_some_iff.1 hi6.out).1; exact this)]; exact hi6.out) (Nat.le_refl _) hat5 hown5); obtain ⟨p0, p1⟩ := cell2 HG5.out.o; have pf := fun i => (show w5.frozen? ⟨b3, i, none⟩ = false from by simp [World.frozen?, HG5.out.o]); clear hown5 hgrow5 hat5 hlt5)
            | (go_simp; go_at_call 17; refine (HTW.out _ (by repeat (first | exact Below.refl _ _ | refine Below.drew ?_ | refine Below.alloc ?_ (by simp) _))).mono ?_; rintro e w6 ⟨A7, c7, rfl, H6⟩; have HC := Lib.hid (HC6.out w6 H6.out.2.1); obtain ⟨p0, p1⟩ := cell2 HC.out.1; obtain ⟨y0, y1, y2⟩ := cell3 HC.out.2; have hb6l : b3 < w6.heap.size := Nat.lt_of_lt_of_le hb3l H6.out.2.1.size; have hf6l : F < w6.heap.size := Nat.lt_of_lt_of_le hFl H6.out.2.1.size; first | (have hi6 := Lib.hid ((H6.out.2.2.block W0.heap.size (by simp)).trans (heap_alloc_new W0.drew (.cells (intVs (List.replicate m 0)).toArray 3)))) | skip)
            | fail)
          all_goals
            go_wp2
            obtain ⟨L2, hF5⟩ := HF5.out
            exact ⟨⟨j + 1, _, _, L2, hlt, by go_num, hF5⟩, by simp [intOf]; omega⟩
      · have hjn : j = n := by omega
        subst hjn
        obtain ⟨_, _, r0, r1, e0, e1, e2, fr, fe⟩ := HL.out.1.bx.cells
        obtain ⟨n01, n02, n12, n10, n20, n21⟩ := HL.out.1.bx.ne
        have HFIN : Hid (RefD P wr A5 j c5 Lacc ∧ w.heap.size ≤ b1 ∧ w.heap.size ≤ b2 ∧ P b1 ∧ P b2) := by
          have h1 := HY.out.1.bx.n1
          have h2 := HY.out.1.n
          have h3 := HY.out.2
          refine ⟨RefD.row HL.out.2.1 (fun g hg hg2 => by have := HPS.out g hg2; omega) fun f hf => ?_, by omega, by omega, (hP.out b1).2 (.inr (by omega)), (hP.out b2).2 (.inr (by omega))⟩
          exact (HL.out.2.2.1.2.1 f hf).keep (fun _ _ _ => rfl) fun k _ hk => .inl hk
        go_wp2
        refine bodyPost_ret (v := .tuple #[.agg #[.slice A5 j c5, .int .i64 ln], eV none]) ?_ rfl ?_
        · simp [results, Tryz.results23, go_sem, eV, r0, r1, e0, e1, e2, fr, fe, n12, n21]
        · refine ⟨A5, c5, Lacc, x, rfl, ?_, ?_, by rw [HL.out.2.2.1.1, HN.out.2.1], HX.out.1, HX.out.2.1, HL.out.2.2.1.2.2⟩
          · refine HFIN.out.1.keep (fun g hg hng => ?_) (fun g _ hg => (hP.out g).2 (.inl hg))
            have h1 : g ≠ b1 := fun e => hng (by rw [e]; exact HFIN.out.2.2.2.1)
            have h2 : g ≠ b2 := fun e => hng (by rw [e]; exact HFIN.out.2.2.2.2)
            repeat rw [Below.heap_setCell _ _ _ _ (by first | exact h1 | exact h2)]
          · have ho := HL.out.1.bx.old
            repeat (first | exact ho | refine belowS ?_ (by first | exact HFIN.out.2.1 | exact HFIN.out.2.2.1) _)
end Go.Proofs.YtfhdcjfkngflbaaGreatDoor
