/-
  disk: the document's Cut where it cuts. Own work.
-/
import Derived.Test.YtfhdcjfkngflbaaGreatDoorP11
set_option linter.unusedSimpArgs false
set_option linter.unusedVariables false
namespace Go.Proofs.YtfhdcjfkngflbaaGreatDoor
open Go Go.RowKit

set_option maxRecDepth 100000 in
set_option maxHeartbeats 40000000 in
theorem refcut_ok (O : Nat → Prop) (A : Option Addr) (n c : Nat) (L : List RF) (last : Int) (i : Nat) (f0 : RF) (k : Nat) (w : World) (h : RefD O w A n c L) (hO : ∀ g, O g → g < w.heap.size) (hn : n ≤ 64) (hs : Sorted L) (hi : L[i]? = some f0) (hft : f0.turn.length = f0.data.length) (hk : k ≤ f0.data.length) (hlen : f0.data.length ≤ 1000000) :
    Calls Tryz.prog 18 #[.agg #[.slice A n c, .int .i64 last], .string f0.name, .int .i64 k] w fun e w' => ∃ (A' : Option Addr) (n' c' : Nat) (f : RF), e = .returned (.tuple #[.agg #[.slice A' n' c', .int .i64 last], eV none]) ∧ Hid (RefD O w' A' n' c' (insL f L) ∧ Below w.heap.size w w' ∧ f.name = f0.name ∧ f.data = f0.data.take k ∧ f.turn = f0.turn.take k) := by
  obtain ⟨w1, hw1⟩ : ∃ w1, w1 = ((w.alloc (.cells #[.slice A n c, .int .i64 last] 29)).alloc (.cells #[.slice none 0 0, .int .i64 0] 29)).alloc (.cells #[.bool false, .slice none 0 0, .int .i64 0] 53) := ⟨_, rfl⟩
  obtain ⟨b2, hb2⟩ : ∃ b2, b2 = w.heap.size + 1 + 1 := ⟨_, rfl⟩
  obtain ⟨b1, hb1⟩ : ∃ b1, b1 = w.heap.size + 1 := ⟨_, rfl⟩
  obtain ⟨b0, hb0⟩ : ∃ b0, b0 = w.heap.size := ⟨_, rfl⟩
  have H1 : Hid (Bx3 w w1 b0 b1 b2 (.slice A n c) (.int .i64 last) ∧ b2 < w1.heap.size) := by
    rw [hw1, hb2, hb1, hb0]; exact ⟨bx3_new w _ _, by simp⟩
  have HPL : Hid (Calls Tryz.prog 35 #[.agg #[.slice A n c, .int .i64 last], .string f0.name] w1 fun e w' => e = .returned (.int .i64 i) ∧ Below w1.heap.size w1 w') := place_some O A n c L last w1 (h.below H1.out.1.old) hn hs i f0 hi
  have HR := Lib.hid h
  have HO := Lib.hid hO
  have HS := Lib.hid hs
  have HN : Hid (n ≤ 64 ∧ L.length = n) := ⟨hn, h.len⟩
  have HI : Hid (L[i]? = some f0 ∧ f0.turn.length = f0.data.length ∧ f0.data.length ≤ 1000000 ∧ i < n ∧ k ≤ f0.data.length) := ⟨hi, hft, hlen, by rw [← h.len]; exact (List.getElem?_eq_some_iff.1 hi).1, hk⟩
  obtain ⟨D0, hD0⟩ : ∃ D0, Hid (f0.data.length = D0) := ⟨_, rfl⟩
  obtain ⟨g, rfl, _⟩ : ∃ g, A = some ⟨g, 0, none⟩ ∧ True := by
    obtain ⟨g, e, _⟩ := h.at_ hi
    exact ⟨g, e, trivial⟩
  have hKD : Hid (k ≤ D0 ∧ D0 ≤ 1000000 ∧ f0.turn.length = D0 ∧ D0 ≤ f0.dc ∧ D0 ≤ f0.tc) := by
    have h1 := (h.files f0 (List.mem_of_getElem? hi)).dcap
    have h2 := (h.files f0 (List.mem_of_getElem? hi)).tcap
    have h3 := hD0.out
    simp only [Hid]; omega
  have dk1 : decide ((k : Int) < 0) = false := by rw [decide_eq_false_iff_not]; omega
  have dk2 : decide (D0 < k) = false := by have := hKD.out; rw [decide_eq_false_iff_not]; omega
  have hi0 : ((0 : Int) ≤ i) := by omega
  have hi1 : ((i : Nat) : Int) < n := by have := HI.out; omega
  have hd1 : decide ((i : Int) < 0) = false := by rw [decide_eq_false_iff_not]; omega
  clear h hn hs hO hi hft hk hlen
  obtain ⟨iI, hI, hI0, hI1, hI2⟩ := info_parts int_info
  go_enter Tryz.func18, Tryz.ntmps18
  go_wp2_with fail
  rw [← hw1, ← hb2, ← hb1, ← hb0]
  clear hw1 hb2 hb1 hb0
  refine HPL.out.mono ?_
  rintro e w2 ⟨rfl, hb⟩
  have H2 := Lib.hid hb
  clear hb
  have H3 : Hid (Bx3 w w2 b0 b1 b2 (.slice (some ⟨g, 0, none⟩) n c) (.int .i64 last) ∧ b2 < w2.heap.size) := ⟨H1.out.1.below H2.out, by have := H1.out; have := H2.out.size; omega⟩
  clear HPL H1 H2
  obtain ⟨d0, d1, r0, r1, e0, e1, e2, fr, fe⟩ := H3.out.1.cells
  obtain ⟨g', hg', q0, q1, q2, hok⟩ := (HR.out.below H3.out.1.old).at_ HI.out.1
  cases hg'
  rw [hD0.out] at q1
  rw [HI.out.2.1, hD0.out] at q2
  have HK0 := Lib.hid hok
  clear hok
  obtain ⟨F, hF⟩ : ∃ F, F = w2.heap.size := ⟨_, rfl⟩
  obtain ⟨base, hbase⟩ : ∃ base, base = F + 1 := ⟨_, rfl⟩
  obtain ⟨W3, hW3⟩ : ∃ W3, W3 = w2.alloc (.cells #[.string f0.name, .slice f0.dA D0 f0.dc, .slice f0.tA D0 f0.tc] 66) := ⟨_, rfl⟩
  have hk00 : KC w b0 b1 b2 F base (.slice (some ⟨g, 0, none⟩) n c) last f0.name (.slice f0.dA D0 f0.dc) (.slice f0.tA D0 f0.tc) W3 := by
    have hb : Below w2.heap.size w2 W3 := by rw [hW3]; exact (Below.refl _ _).alloc (Nat.le_refl _) _
    have hx := H3.out.1.below hb
    have hsz : W3.heap.size = w2.heap.size + 1 := by rw [hW3]; simp
    have h0 : CFull w W3 b0 b1 b2 F base (.slice (some ⟨g, 0, none⟩) n c) last f0.name (.slice f0.dA D0 f0.dc) (.slice f0.tA D0 f0.tc) :=
      ⟨hx.d, ⟨_, _, hx.r⟩, hx.e, by rw [hW3, hF]; exact heap_alloc_new _ _, by have := hx.n1; have := H3.out.2; omega, hx.old, by omega⟩
    exact h0.kc
  have HBB : Hid (w.heap.size ≤ b0 ∧ b0 < b1 ∧ b1 < b2 ∧ b2 < F ∧ base = F + 1) := by have := H3.out.1.n1; have := H3.out.2; simp only [Hid]; omega
  obtain ⟨P, hP⟩ : ∃ P : Nat → Prop, Hid (∀ g, P g ↔ (O g ∨ (w.heap.size ≤ g ∧ g < base))) := ⟨fun g => O g ∨ (w.heap.size ≤ g ∧ g < base), fun g => Iff.rfl⟩
  have HTW : Hid (∀ X, KC w b0 b1 b2 F base (.slice (some ⟨g, 0, none⟩) n c) last f0.name (.slice f0.dA D0 f0.dc) (.slice f0.tA D0 f0.tc) X → Calls Tryz.prog 17 #[.slice f0.dA k f0.dc] X fun e w' => ∃ (A7 : Option Addr) (c7 : Nat), e = .returned (.slice A7 k c7) ∧ w'.ownsRow base 5 1 (.slice A7 k c7) k (byteVs (f0.data.take k)) ∧ KC w b0 b1 b2 F base (.slice (some ⟨g, 0, none⟩) n c) last f0.name (.slice f0.dA D0 f0.dc) (.slice f0.tA D0 f0.tc) w' ∧ (∀ (vt : Value) (nt : Nat) (xs : List Value), X.ownsRow base 3 1 vt nt xs → w'.ownsRow base 3 1 vt nt xs)) := fun X hX => by
    have hl : (f0.data.take k).length = k := by rw [List.length_take]; have := hKD.out; have := hD0.out; omega
    have h1 := twin_any f0.dA (f0.data.take k) f0.dc X (by
      have h2 := (HR.out.below hX.full.old).files f0 (List.mem_of_getElem? HI.out.1)
      have h3 := h2.data.take k
      have e : (byteVs f0.data).take k = byteVs (f0.data.take k) := by simp [byteVs]
      rw [e] at h3
      exact h3.bytes) (by have := hKD.out; omega)
    rw [hl] at h1
    refine h1.mono ?_
    rintro e w' ⟨v, rfl, h2, h3⟩
    obtain ⟨A7, c7, rfl⟩ := own_slice h2
    exact ⟨A7, c7, rfl, ownsRow_lower h2 hX.full.lo.2, hX.below (h3.mono hX.full.lo.2), fun vt nt xs hr => ownsRow_below' hr h3⟩
  have HNW : Hid (∀ X, KC w b0 b1 b2 F base (.slice (some ⟨g, 0, none⟩) n c) last f0.name (.slice f0.dA D0 f0.dc) (.slice f0.tA D0 f0.tc) X → ∀ ad, f0.tA = some ad → ∀ j u, (intVs (f0.turn.take k))[j]? = some u → X.cell? (ad.add j) = some u) := fun X hX ad e j u hu => by
    have h2 := (HR.out.below hX.full.old).files f0 (List.mem_of_getElem? HI.out.1)
    have h3 := h2.turn.take k
    have e2 : (intVs f0.turn).take k = intVs (f0.turn.take k) := by simp [intVs]
    rw [e2] at h3
    exact (h3.2 ad e j u hu).1
  have HTA : Hid (f0.tA = none → k = 0 ∧ intVs (f0.turn.take k) = []) := fun e => by
    have h1 := HK0.out.turn.1 e
    have h2 : f0.turn = [] := by simpa [intVs] using h1
    have := hKD.out
    rw [h2] at this ⊢
    simp at this
    exact ⟨by omega, by simp [intVs]⟩
  have HLN : Hid ((intVs (f0.turn.take k)).length = k) := by have := hKD.out; simp only [Hid, intVs, List.length_map, List.length_take]; omega
  have HK6 : Hid (k ≤ 1000000) := by have := hKD.out; simp only [Hid]; omega
  have HWI : Hid (∀ (X : World) (A7 : Option Addr) (c7 : Nat) (A6 : Option Addr) (c6 : Nat), KC w b0 b1 b2 F base (.slice (some ⟨g, 0, none⟩) n c) last f0.name (.slice f0.dA D0 f0.dc) (.slice f0.tA D0 f0.tc) X → X.ownsRow base 5 1 (.slice A7 k c7) k (byteVs (f0.data.take k)) → X.ownsRow base 3 1 (.slice A6 k c6) k (intVs (f0.turn.take k)) →
      Calls Tryz.prog 38 #[.agg #[.slice (some ⟨g, 0, none⟩) n c, .int .i64 last], .agg #[.string f0.name, .slice A7 k c7, .slice A6 k c6]] X fun e w' => ∃ (A8 : Option Addr) (n8 c8 : Nat) (f : RF), e = .returned (.agg #[.slice A8 n8 c8, .int .i64 last]) ∧ Hid (RefD P w' A8 n8 c8 (insL f L) ∧ f.name = f0.name ∧ f.data = f0.data.take k ∧ f.turn = f0.turn.take k) ∧ KC w b0 b1 b2 F base (.slice (some ⟨g, 0, none⟩) n c) last f0.name (.slice f0.dA D0 f0.dc) (.slice f0.tA D0 f0.tc) w') := fun X A7 c7 A6 c6 hX hd ht => by
    have hbb := HBB.out
    have hlo := hX.full.lo
    have hsz := hX.full.old.size
    have hl : (f0.data.take k).length = k := by rw [List.length_take]; have := hKD.out; have := hD0.out; omega
    have hl2 : (f0.turn.take k).length = k := by rw [List.length_take]; have := hKD.out; omega
    have hPX : ∀ g, P g → g < X.heap.size := fun g hp => by
      rcases (hP.out g).1 hp with hp | hp
      · have := HO.out g hp; omega
      · omega
    have hnP : ∀ g, base ≤ g → ¬ P g := fun g hg hp => by
      rcases (hP.out g).1 hp with hp | hp
      · have := HO.out g hp; omega
      · omega
    refine (with_in P (some ⟨g, 0, none⟩) n c L last ⟨f0.name, f0.data.take k, f0.turn.take k, A7, c7, A6, c6⟩ k k hl hl2 X (HR.out.keep (fun g hg _ => hX.full.old.block g hg) (fun g hg hp => by
      rcases (hP.out g).1 hp with hp | hp
      · exact hp
      · omega)) hPX ⟨ValsAt.row hd hnP, ValsAt.row ht hnP, by show (f0.data.take k).length ≤ c7; rw [hl]; exact row_cap hd, by show (f0.turn.take k).length ≤ c6; rw [hl2]; exact row_cap ht⟩ HS.out HN.out.1).mono ?_
    rintro e w' ⟨A8, n8, c8, rfl, h8⟩
    exact ⟨A8, n8, c8, _, rfl, ⟨h8.out.1, rfl, rfl, rfl⟩, hX.below (h8.out.2.mono hlo.2)⟩
  have hcB := bcut_run f0.dA D0 f0.dc k hKD.out.1 hKD.out.2.2.2.1
  have hcI := icut_run f0.tA D0 f0.tc k hKD.out.1 hKD.out.2.2.2.2
  go_wp2_with fail
  rw [← hW3, ← hF]
  clear hW3 hF hbase d0 d1 r0 r1 e0 e1 e2 fr fe q0 q1 q2 H3 HK0
  have n12 : ¬ (b1 = b2) := by have := HBB.out; omega
  have n21 : ¬ (b2 = b1) := by have := HBB.out; omega
  have hkL := hk00.drew
  go_region_held_law (fun W => W.cell? ⟨b0, 0, none⟩ = some (.slice (some ⟨g, 0, none⟩) n c) ∧ W.cell? ⟨b0, 1, none⟩ = some (.int .i64 last) ∧ W.cell? ⟨F, 1, none⟩ = some (.slice f0.dA D0 f0.dc) ∧ W.cell? ⟨F, 2, none⟩ = some (.slice f0.tA D0 f0.tc) ∧
      CFull w W b0 b1 b2 F base (.slice (some ⟨g, 0, none⟩) n c) last f0.name (.slice f0.dA D0 f0.dc) (.slice f0.tA D0 f0.tc))
    (first | with_reducible exact hkL | with_reducible exact KC.alloc hkL _ | with_reducible exact KC.drew (KC.alloc hk00 _) | with_reducible exact KC.setr hkL _ _ | with_reducible exact KC.ste (KC.setr hkL _ _))
    (first
      | (go_at_call 17; first
          | (refine (HTW.out _ (by with_reducible exact hkL)).mono ?_; rintro e w5 ⟨A7, c7, rfl, hd, hk5, hcar⟩; have hkL := hk5; first | (have ht := hcar _ _ _ ht) | skip)
          | (refine (HTW.out _ (by with_reducible exact KC.alloc hkL _)).mono ?_; rintro e w5 ⟨A7, c7, rfl, hd, hk5, hcar⟩; have hm := hcar _ _ _ (made_row hkL); have hkL := hk5)
          | (refine (HTW.out _ (by with_reducible exact KC.drew (KC.alloc hk00 _))).mono ?_; rintro e w5 ⟨A7, c7, rfl, hd, hk5, hcar⟩; have hm := hcar _ _ _ (made_row_drew hk00); have hkL := hk5))
      | (go_at_call 38; refine (HWI.out _ _ _ _ _ (by with_reducible exact hkL) hd ht).mono ?_; rintro e w8 ⟨A8, n8, c8, f8, rfl, H8, hk8⟩; have hkL := hk8; obtain ⟨x8, y8, hr8⟩ := hk8.full.r; have he8 := hk8.full.e; have r0 : w8.cell? ⟨b1, 0, none⟩ = some x8 := (by simp [World.cell?, hr8]); have r1 : w8.cell? ⟨b1, 1, none⟩ = some y8 := (by simp [World.cell?, hr8]); have e0 : w8.cell? ⟨b2, 0, none⟩ = some (.bool false) := (by simp [World.cell?, he8]); have e1 : w8.cell? ⟨b2, 1, none⟩ = some (.slice none 0 0) := (by simp [World.cell?, he8]); have e2 : w8.cell? ⟨b2, 2, none⟩ = some (.int .i64 0) := (by simp [World.cell?, he8]); have fr := (fun i => (show w8.frozen? ⟨b1, i, none⟩ = false from by simp [World.frozen?, hr8])); have fe := (fun i => (show w8.frozen? ⟨b2, i, none⟩ = false from by simp [World.frozen?, he8])); clear hr8 he8)
      | (refine step_cut_append (by rfl) _ _ (by rfl) iI Tryz.underlying64 hI hI0 hI1 hI2 _ rfl (by with_reducible exact hkL) (by exact hm) f0.tA k f0.tc (intVs (f0.turn.take k)) rfl HTA.out HLN.out (HNW.out _ (by with_reducible exact hkL)) (intVs_one _) HK6.out ?_; intro A6 c6 w6 ht hk6 hcar; have hkL := hk6; have hd := hcar _ _ _ hd)
      | (refine step_cut_append (by rfl) _ _ (by rfl) iI Tryz.underlying64 hI hI0 hI1 hI2 _ rfl (by with_reducible exact KC.alloc hkL _) (by exact made_row hkL) f0.tA k f0.tc (intVs (f0.turn.take k)) rfl HTA.out HLN.out (HNW.out _ (by with_reducible exact KC.alloc hkL _)) (intVs_one _) HK6.out ?_; intro A6 c6 w6 ht hk6 hcar; have hkL := hk6; first | (have hd := hcar _ _ _ (hd.alloc _)) | skip)
      | (refine step_cut_append (by rfl) _ _ (by rfl) iI Tryz.underlying64 hI hI0 hI1 hI2 _ rfl (by with_reducible exact KC.drew (KC.alloc hk00 _)) (by exact made_row_drew hk00) f0.tA k f0.tc (intVs (f0.turn.take k)) rfl HTA.out HLN.out (HNW.out _ (by with_reducible exact KC.drew (KC.alloc hk00 _))) (intVs_one _) HK6.out ?_; intro A6 c6 w6 ht hk6 hcar; have hkL := hk6; first | (have hd := hcar _ _ _ (hd.alloc _)) | skip))
  all_goals
    have HF9 := Lib.hid hk8.full
    clear hk8 hkL
    go_wp2
    refine bodyPost_ret (v := .tuple #[.agg #[.slice A8 n8 c8, .int .i64 last], eV none]) ?_ rfl ?_
    · simp [results, Tryz.results18, go_sem, eV, r0, r1, e0, e1, e2, fr, fe, n12, n21]
    · have hbb := HBB.out
      refine ⟨A8, n8, c8, f8, rfl, ?_, ?_, H8.out.2⟩
      · refine H8.out.1.keep (fun q hq hqP => ?_) fun q _ hq => (hP.out q).2 (.inl hq)
        have h1 : q ≠ b1 := fun e => hqP ((hP.out q).2 (.inr (by omega)))
        have h2 : q ≠ b2 := fun e => hqP ((hP.out q).2 (.inr (by omega)))
        repeat rw [Below.heap_setCell _ _ _ _ (by first | exact h1 | exact h2)]
      · have ho := HF9.out.old
        repeat (first | exact ho | refine belowS ?_ (by omega) _)
end Go.Proofs.YtfhdcjfkngflbaaGreatDoor
