/-
  BoxOrders: the walk. Own work.
-/
import Derived.Test.YthapeellcbeecaaDoorBoxAll
set_option linter.unusedSimpArgs false
set_option linter.unusedVariables false
namespace Go.Proofs.YthapeellcbeecaaDoor
open Go Go.RowKit

structure OpD where
  kind : Int
  node : Int
  pub : Int
  n : Int
  eA : Option Addr
  ec : Nat
  el : List AttrD

/-- Slice (A, l.length) holds these calls. -/
def Ops (w : World) (A : Option Addr) (l : List OpD) : Prop :=
  0 < l.length → ∃ g off, A = some ⟨g, off, none⟩ ∧ ∀ j o, l[j]? = some o →
    w.cell? ⟨g, off + j * 5, none⟩ = some (.int .i64 o.kind) ∧ w.cell? ⟨g, off + j * 5 + 1, none⟩ = some (.int .i64 o.node) ∧ w.cell? ⟨g, off + j * 5 + 2, none⟩ = some (.int .i64 o.pub) ∧
    w.cell? ⟨g, off + j * 5 + 3, none⟩ = some (.int .i64 o.n) ∧ w.cell? ⟨g, off + j * 5 + 4, none⟩ = some (.slice o.eA o.el.length o.ec) ∧
    Attrs w o.eA o.el ∧ (o.eA = none → o.el.length = 0) ∧ o.el.length ≤ 9223372036854775807

theorem next_heap {base B : Nat} {s : BoxSt} {w : World} (h : BoxAt base w B s) (hs : Small s) : ∀ W : World, W.heap = w.heap → Calls Tryd.prog 7 #[.pointer (some ⟨B, 0, none⟩)] W fun e w' => e = .returned (.int .i64 (s.first + s.ents.length)) ∧ ∃ k, w' = W.drewN k :=
  fun W hW => next_box (h.heap hW) hs
theorem first_heap {base B : Nat} {s : BoxSt} {w : World} (h : BoxAt base w B s) : ∀ W : World, W.heap = w.heap → Calls Tryd.prog 9 #[.pointer (some ⟨B, 0, none⟩)] W fun e w' => e = .returned (.int .i64 s.first) ∧ W = w' :=
  fun W hW => first_box (h.heap hW)

theorem full_heap {base B : Nat} {s : BoxSt} {w : World} (h : BoxAt base w B s) (b : Bool) (hb : decide (s.most ≤ s.ents.length) = b) : ∀ W : World, W.heap = w.heap → Calls Tryd.prog 8 #[.pointer (some ⟨B, 0, none⟩)] W fun e w' => e = .returned (.bool b) ∧ ∃ k, w' = W.drewN k :=
  fun W hW => by rw [← hb]; exact full_box (h.heap hW)

/-- Behind Offer: what came of it, in one form. -/
theorem offer_inv {base B : Nat} {w w' : World} {s : BoxSt} {n : Nat} {node pub idx most : Int} {k : Nat} {e : Ending} (h : OfferPost base w B s n node pub idx e w') (hi : Inv most s k) :
    Below base w w' ∧ ∃ (s2 : BoxSt) (r : Value), e = .returned r ∧ BoxAt base w' B s2 ∧ Inv most s2 (k + 1) ∧
      ((∃ t v, r = .iface t v ∧ s2.first + s2.ents.length = s.first + s.ents.length) ∨ (r = .nilIface ∧ s2.first + s2.ents.length = s.first + s.ents.length + 1)) := by
  obtain ⟨hb, s2, hbx, h⟩ := h
  refine ⟨hb, s2, ?_⟩
  rcases h with ⟨t, v, rfl, rfl, _⟩ | ⟨rfl, hg, ev, cc, rfl⟩
  · exact ⟨_, rfl, hbx, hi.step, .inl ⟨t, v, rfl, rfl⟩⟩
  · refine ⟨_, rfl, hbx, hi.add hg, .inr ⟨rfl, ?_⟩⟩
    show s.first + ((s.ents ++ _).length : Int) = _
    simp; omega

set_option maxRecDepth 100000 in
set_option maxHeartbeats 2000000 in
theorem law_any (most : Int) (A : Option Addr) (cap : Nat) (l : List OpD) (w : World) (hops : Ops w A l) (hl : l.length ≤ 9223372036854775807) (hg : ErrT w) :
    Calls Tryd.prog 3 #[.int .i64 most, .slice A l.length cap] w fun e w' => e = .returned (.bool true) ∧ Below w.heap.size w w' := by
  by_cases hn : 100 < l.length
  · go_enter Tryd.func3, Tryd.ntmps3
    go_wp2_with (go_at_call 4; refine (awake_any _).mono ?_; rintro e w' ⟨rfl, hb⟩)
    go_ret
    exact ⟨rfl, hb⟩
  by_cases hm1 : most < 1
  · go_enter Tryd.func3, Tryd.ntmps3
    go_wp2_with (go_at_call 4; refine (awake_any _).mono ?_; rintro e w' ⟨rfl, hb⟩)
    go_ret
    exact ⟨rfl, hb⟩
  by_cases hm2 : 4096 < most
  · go_enter Tryd.func3, Tryd.ntmps3
    go_wp2_with (go_at_call 4; refine (awake_any _).mono ?_; rintro e w' ⟨rfl, hb⟩)
    go_ret
    exact ⟨rfl, hb⟩
  obtain ⟨n, hnl⟩ : ∃ n, n = l.length := ⟨_, rfl⟩
  have HN : Hid (n = l.length) := hnl
  have HO := Lib.hid hops
  have HG := Lib.hid hg
  have hn100 : n ≤ 100 := by omega
  rw [← hnl]
  clear hnl hn hl hops hg
  go_enter Tryd.func3, Tryd.ntmps3
  go_wp2_with (first | (go_at_call 4; refine (awake_any _).mono ?_; rintro e w1 ⟨rfl, hb1⟩) | (go_at_call 5; refine (new_yes most _ (by omega) (by omega)).mono ?_; rintro e w' ⟨rfl, rfl⟩))
  have hbx0 := new_box w1 most w.heap.size hb1.size
  have hB0 : Below w.heap.size w ((w1.alloc (.map #[] 0)).alloc (.cells #[.int .i64 most, .int .i64 0, .slice none 0 0, .map (some w1.heap.size)] 50)) := (hb1.alloc hb1.size _).alloc (by have := hb1.size; simp; omega) _
  obtain ⟨B, hB⟩ : ∃ B, B = w1.heap.size + 1 := ⟨_, rfl⟩
  obtain ⟨W0, hW0⟩ : ∃ W, W = ((w1.alloc (.map #[] 0)).alloc (.cells #[.int .i64 most, .int .i64 0, .slice none 0 0, .map (some w1.heap.size)] 50)) := ⟨_, rfl⟩
  rw [← hW0] at hbx0 hB0
  rw [← hB] at hbx0
  rw [← hW0, ← hB]
  have HB0 := Lib.hid hB0
  have HX0 := Lib.hid hbx0
  clear hb1 hbx0 hB0 hB hW0
  go_loopw [7, 39] (fun t i wr => ∃ (k : Nat) (s : BoxSt), k ≤ n ∧ i = .int .i64 k ∧ t = .int .i64 (s.first + s.ents.length) ∧ Hid (BoxAt w.heap.size wr B s ∧ Inv most s k ∧ Below w.heap.size w wr)) (fun _ i _ => n - (intOf i).toNat)
  case atStart => exact ⟨0, ⟨most, 0, [], []⟩, Nat.zero_le _, rfl, rfl, HX0.out, Inv.start most, HB0.out⟩
  case round =>
    obtain ⟨k, s, hk, rfl, rfl, HS⟩ := hrel
    have hsf := HS.out.2.1.f0
    have hsl := HS.out.2.1.le
    by_cases hlt : k < n
    · obtain ⟨o, ho⟩ : ∃ o, l[k]? = some o := ⟨_, List.getElem?_eq_getElem (by have := HN.out; omega)⟩
      obtain ⟨g, off, rfl, hc⟩ := HO.out (by have := HN.out; omega)
      obtain ⟨c0, c1, c2, c3, c4, hat, hnil, hle⟩ := hc k o ho
      have hgw : g < w.heap.size := World.block_lt_of_cell? w _ c0
      have hb := HS.out.2.2
      have d0 := (hb.cell (p := ⟨g, off + k * 5, none⟩) hgw).trans c0
      have d1 := (hb.cell (p := ⟨g, off + k * 5 + 1, none⟩) hgw).trans c1
      have d2 := (hb.cell (p := ⟨g, off + k * 5 + 2, none⟩) hgw).trans c2
      have d3 := (hb.cell (p := ⟨g, off + k * 5 + 3, none⟩) hgw).trans c3
      have d4 := (hb.cell (p := ⟨g, off + k * 5 + 4, none⟩) hgw).trans c4
      obtain ⟨kind, node, pub, nn, eA, ec, el⟩ := o
      simp only at d0 d1 d2 d3 d4 hat hnil hle
      obtain ⟨en, hen⟩ : ∃ en, en = el.length := ⟨_, rfl⟩
      rw [← hen] at d4
      have HE : Hid (en = el.length ∧ Attrs w eA el ∧ (eA = none → el.length = 0) ∧ el.length ≤ 9223372036854775807) := ⟨hen, hat, hnil, hle⟩
      clear c0 c1 c2 c3 c4 hc hat hnil hle hen ho hb hsf hsl
      go_wp2_with fail
      have hbx1 := HS.out.1.below ((Below.refl _ wr).alloc (Nat.le_refl _) (.cells #[.int .i64 kind, .int .i64 node, .int .i64 pub, .int .i64 nn, .slice eA en ec] 32))
      have hb1 : Below w.heap.size w (wr.alloc (.cells #[.int .i64 kind, .int .i64 node, .int .i64 pub, .int .i64 nn, .slice eA en ec] 32)) := HS.out.2.2.alloc HS.out.2.2.size _
      have hsm : Small s := ⟨HS.out.2.1.f0, by have := HS.out.2.1.le; omega, by have := HS.out.2.1.le; have := HS.out.2.1.f0; omega⟩
      have hoff := offer_box hbx1 hb1.size hsm eA ec el HE.out.2.2.2 (HE.out.2.1.below hb1) HE.out.2.2.1 node pub nn
      rw [← HE.out.1] at hoff
      refine hoff.mono ?_
      clear hoff hbx1 hsm
      intro e w2 hpost
      obtain ⟨hb2, s2, r, rfl, hbx2, hinv2, hr⟩ := offer_inv hpost HS.out.2.1
      clear hpost
      have hB2 : Below w.heap.size w w2 := hb1.trans hb2
      have HB2 := Lib.hid hB2
      have HX2 := Lib.hid hbx2
      have HI2 := Lib.hid hinv2
      obtain ⟨f2, hf2⟩ : ∃ f2, f2 = s2.first := ⟨_, rfl⟩
      obtain ⟨m2, hm2⟩ : ∃ m2, m2 = s2.ents.length := ⟨_, rfl⟩
      have b1 : 0 ≤ f2 := by rw [hf2]; exact hinv2.f0
      have b2 : f2 + m2 ≤ 101 := by have := hinv2.le; rw [hf2, hm2]; omega
      have b3 : m2 ≤ 101 := by omega
      have hs2 : Small s2 := ⟨hinv2.f0, by rw [← hf2]; omega, by rw [← hm2]; omega⟩
      have HNx := Lib.hid (next_heap hbx2 hs2)
      have HFi := Lib.hid (first_heap hbx2)
      have HAck := Lib.hid (fun (k1 : Int) (h1 : f2 ≤ k1) (h2 : k1 ≤ f2 + m2) (W : World) (hW : W.heap = w2.heap) => ack_box (hbx2.heap hW) (by rw [hW]; exact hB2.size) hs2 k1 (by omega) (by omega))
      have HFu := Lib.hid (full_heap hbx2 (decide (most ≤ (m2 : Int))) (by rw [hinv2.most, ← hm2]))
      rw [← hf2, ← hm2] at HNx hr
      rw [← hf2] at HFi
      have HF2 := Lib.hid hf2
      have HM2 := Lib.hid hm2
      clear hf2 hm2 hs2 hbx2 hinv2 hB2 hb2 hb1
      have hw1 : f2 + (m2 : Int) - f2 = m2 := by omega
      obtain ⟨T, hT⟩ : ∃ T, T = s.first + (s.ents.length : Int) := ⟨_, rfl⟩
      rw [← hT]
      rw [← hT] at hr
      have HT := Lib.hid hT
      have hT0 : 0 ≤ T := by rw [hT]; have := HS.out.2.1.f0; omega
      have hT1 : T ≤ 101 := by rw [hT]; have := HS.out.2.1.le; omega
      clear hT
      obtain ⟨b5, hb5⟩ : ∃ b, b = ((k : Int) % 5 == 4) := ⟨_, rfl⟩
      obtain ⟨bf, hbf⟩ : ∃ b, b = decide (most ≤ (m2 : Int)) := ⟨_, rfl⟩
      rw [← hbf] at HFu
      have hbf2 : bf = true → ¬ (m2 : Int) < most := by intro h; rw [h] at hbf; simpa using hbf.symm
      rcases hr with ⟨tt, vv, rfl, hr⟩ | ⟨rfl, hr⟩
      · have hne : ((f2 + (m2 : Int)) != T) = false := by simp; omega
        have HR := Lib.hid hr
        clear hr hb5 hbf
        have HRel : Hid (∀ q : Nat, ∃ (k' : Nat) (s' : BoxSt), k' ≤ n ∧ Value.int .i64 ((k : Int) + 1) = .int .i64 k' ∧ Value.int .i64 (T) = .int .i64 (s'.first + s'.ents.length) ∧ Hid (BoxAt w.heap.size (w2.drewN q) B s' ∧ Inv most s' k' ∧ Below w.heap.size w (w2.drewN q))) := by
          intro q
          exact ⟨k + 1, s2, by omega, by go_num, by rw [← HF2.out, ← HM2.out, HR.out], HX2.out.below (drewN_below _ _), HI2.out, belowN HB2.out _⟩
        have HRel2 : Hid (∀ w3 : World, Below w.heap.size w w3 → BoxAt w.heap.size w3 B { s2 with first := f2 + (m2 : Int) - (m2 : Int) / 2, ents := s2.ents.drop (f2 + (m2 : Int) - (m2 : Int) / 2 - s2.first).toNat } → ∃ (k' : Nat) (s' : BoxSt), k' ≤ n ∧ Value.int .i64 ((k : Int) + 1) = .int .i64 k' ∧ Value.int .i64 (T) = .int .i64 (s'.first + s'.ents.length) ∧ Hid (BoxAt w.heap.size w3 B s' ∧ Inv most s' k' ∧ Below w.heap.size w w3)) := by
          intro w3 hb3 hbx3
          have e1 := HF2.out
          have e2 := HM2.out
          refine ⟨k + 1, _, by omega, by go_num, ?_, hbx3, HI2.out.cut (by omega) (by omega), hb3⟩
          refine congrArg (Value.int .i64) ?_
          show T = f2 + (m2 : Int) - (m2 : Int) / 2 + ((s2.ents.drop (f2 + (m2 : Int) - (m2 : Int) / 2 - s2.first).toNat).length : Int)
          have := HR.out
          simp
          omega
        cases bf with
        | true =>
          have hbf3 := hbf2 rfl
          clear hbf2
          go_wp2_with (first | (go_at_call 7; refine (HNx.out _ ?_).mono ?_; (exact rfl); rintro e w' ⟨rfl, q, rfl⟩) | (go_at_call 9; refine (HFi.out _ ?_).mono ?_; (exact rfl); rintro e w' ⟨rfl, rfl⟩) | (go_at_call 8; refine (HFu.out _ ?_).mono ?_; (exact rfl); rintro e w' ⟨rfl, q, rfl⟩))
          · refine (HAck.out (f2 + (m2 : Int) - (m2 : Int) / 2) (by omega) (by omega) _ ?_).mono ?_
            · rfl
            rintro e w3 ⟨rfl, hb3, hbx3⟩
            have HRel3 := Lib.hid (HRel2.out w3 ((belowN HB2.out _).trans hb3) hbx3)
            clear hb3 hbx3
            go_wp2
            go_roundw
            case rel => exact HRel3.out
            case measure => simp [intOf]; omega
          · go_roundw
            case rel => exact HRel.out _
            case measure => simp [intOf]; omega
        | false =>
          clear hbf2
          go_wp2_with (first | (go_at_call 7; refine (HNx.out _ ?_).mono ?_; (exact rfl); rintro e w' ⟨rfl, q, rfl⟩) | (go_at_call 9; refine (HFi.out _ ?_).mono ?_; (exact rfl); rintro e w' ⟨rfl, rfl⟩) | (go_at_call 8; refine (HFu.out _ ?_).mono ?_; (exact rfl); rintro e w' ⟨rfl, q, rfl⟩))
          · refine (HAck.out (f2 + (m2 : Int) - (m2 : Int) / 2) (by omega) (by omega) _ ?_).mono ?_
            · rfl
            rintro e w3 ⟨rfl, hb3, hbx3⟩
            have HRel3 := Lib.hid (HRel2.out w3 ((belowN HB2.out _).trans hb3) hbx3)
            clear hb3 hbx3
            go_wp2
            go_roundw
            case rel => exact HRel3.out
            case measure => simp [intOf]; omega
          · go_roundw
            case rel => exact HRel.out _
            case measure => simp [intOf]; omega
      · have hne : ((f2 + (m2 : Int)) != T + 1) = false := by simp; omega
        have HR := Lib.hid hr
        clear hr hb5 hbf
        have HRel : Hid (∀ q : Nat, ∃ (k' : Nat) (s' : BoxSt), k' ≤ n ∧ Value.int .i64 ((k : Int) + 1) = .int .i64 k' ∧ Value.int .i64 (T + 1) = .int .i64 (s'.first + s'.ents.length) ∧ Hid (BoxAt w.heap.size (w2.drewN q) B s' ∧ Inv most s' k' ∧ Below w.heap.size w (w2.drewN q))) := by
          intro q
          exact ⟨k + 1, s2, by omega, by go_num, by rw [← HF2.out, ← HM2.out, HR.out], HX2.out.below (drewN_below _ _), HI2.out, belowN HB2.out _⟩
        have HRel2 : Hid (∀ w3 : World, Below w.heap.size w w3 → BoxAt w.heap.size w3 B { s2 with first := f2 + (m2 : Int) - (m2 : Int) / 2, ents := s2.ents.drop (f2 + (m2 : Int) - (m2 : Int) / 2 - s2.first).toNat } → ∃ (k' : Nat) (s' : BoxSt), k' ≤ n ∧ Value.int .i64 ((k : Int) + 1) = .int .i64 k' ∧ Value.int .i64 (T + 1) = .int .i64 (s'.first + s'.ents.length) ∧ Hid (BoxAt w.heap.size w3 B s' ∧ Inv most s' k' ∧ Below w.heap.size w w3)) := by
          intro w3 hb3 hbx3
          have e1 := HF2.out
          have e2 := HM2.out
          refine ⟨k + 1, _, by omega, by go_num, ?_, hbx3, HI2.out.cut (by omega) (by omega), hb3⟩
          refine congrArg (Value.int .i64) ?_
          show T + 1 = f2 + (m2 : Int) - (m2 : Int) / 2 + ((s2.ents.drop (f2 + (m2 : Int) - (m2 : Int) / 2 - s2.first).toNat).length : Int)
          have := HR.out
          simp
          omega
        cases bf with
        | true =>
          have hbf3 := hbf2 rfl
          clear hbf2
          go_wp2_with (first | (go_at_call 7; refine (HNx.out _ ?_).mono ?_; (exact rfl); rintro e w' ⟨rfl, q, rfl⟩) | (go_at_call 9; refine (HFi.out _ ?_).mono ?_; (exact rfl); rintro e w' ⟨rfl, rfl⟩) | (go_at_call 8; refine (HFu.out _ ?_).mono ?_; (exact rfl); rintro e w' ⟨rfl, q, rfl⟩))
          · refine (HAck.out (f2 + (m2 : Int) - (m2 : Int) / 2) (by omega) (by omega) _ ?_).mono ?_
            · rfl
            rintro e w3 ⟨rfl, hb3, hbx3⟩
            have HRel3 := Lib.hid (HRel2.out w3 ((belowN HB2.out _).trans hb3) hbx3)
            clear hb3 hbx3
            go_wp2
            go_roundw
            case rel => exact HRel3.out
            case measure => simp [intOf]; omega
          · go_roundw
            case rel => exact HRel.out _
            case measure => simp [intOf]; omega
        | false =>
          clear hbf2
          go_wp2_with (first | (go_at_call 7; refine (HNx.out _ ?_).mono ?_; (exact rfl); rintro e w' ⟨rfl, q, rfl⟩) | (go_at_call 9; refine (HFi.out _ ?_).mono ?_; (exact rfl); rintro e w' ⟨rfl, rfl⟩) | (go_at_call 8; refine (HFu.out _ ?_).mono ?_; (exact rfl); rintro e w' ⟨rfl, q, rfl⟩))
          · refine (HAck.out (f2 + (m2 : Int) - (m2 : Int) / 2) (by omega) (by omega) _ ?_).mono ?_
            · rfl
            rintro e w3 ⟨rfl, hb3, hbx3⟩
            have HRel3 := Lib.hid (HRel2.out w3 ((belowN HB2.out _).trans hb3) hbx3)
            clear hb3 hbx3
            go_wp2
            go_roundw
            case rel => exact HRel3.out
            case measure => simp [intOf]; omega
          · go_roundw
            case rel => exact HRel.out _
            case measure => simp [intOf]; omega
    · have hke : Hid (k = n) := by show k = n; omega
      have hsm : Small s := ⟨hsf, by omega, by omega⟩
      have HSM := Lib.hid hsm
      have hnx := Lib.hid (next_heap HS.out.1 hsm)
      have hfi := Lib.hid (first_heap HS.out.1)
      obtain ⟨f, hf⟩ : ∃ f, f = s.first := ⟨_, rfl⟩
      obtain ⟨m, hm⟩ : ∃ m, m = s.ents.length := ⟨_, rfl⟩
      have b1 : 0 ≤ f := by rw [hf]; exact hsf
      have b2 : f + m ≤ 101 := by rw [hf, hm]; omega
      rw [← hf, ← hm] at hnx
      rw [← hf] at hfi
      have HF := Lib.hid hf
      have HM := Lib.hid hm
      clear hsm hsf hsl hk
      rw [← hf, ← hm]
      clear hf hm
      go_wp2_with (go_at_call 9; refine (hfi.out _ ?_).mono ?_; (exact rfl); rintro e w' ⟨rfl, rfl⟩)
      clear hfi hnx
      go_loopw [11] (fun i w2 => ∃ p : Nat, p ≤ m ∧ i = .int .i64 (f + p) ∧ Hid (BoxAt w.heap.size w2 B s ∧ Below w.heap.size w w2)) (fun i _ => m - (intOf i - f).toNat)
      case atStart => exact ⟨0, Nat.zero_le _, by simp, HS.out.1, HS.out.2.2⟩
      case round =>
        obtain ⟨p, hp, rfl, H2⟩ := hrel
        have hnx := Lib.hid (next_heap H2.out.1 HSM.out)
        have e1 := HF.out
        have e2 := HM.out
        rw [← e1, ← e2] at hnx
        clear e1 e2
        by_cases hlt2 : p < m
        · obtain ⟨x, hx⟩ : ∃ x, s.ents[p]? = some x := ⟨_, List.getElem?_eq_getElem (by have := HM.out; omega)⟩
          have HNUM : Hid (x.num = f + p) := by rw [HF.out]; exact HS.out.2.1.nums p x hx
          have hfe := Lib.hid (fun (W : World) (hW : W.heap = wr.heap) => fetch_ok w.heap.size B s W (H2.out.1.heap hW) (f + p) p x hx (by rw [HF.out]) HSM.out.1 HSM.out.2.1 HSM.out.2.2)
          have HX := Lib.hid hx
          obtain ⟨num, node, pub, idx, ev⟩ := x
          obtain rfl : num = f + p := HNUM.out
          clear hx HNUM
          go_wp2_with (first | (go_at_call 7; refine (hnx.out _ ?_).mono ?_; (exact rfl); rintro e w' ⟨rfl, q, rfl⟩) | (go_at_call 11; refine (hfe.out _ ?_).mono ?_; (exact rfl); rintro e w4 ⟨A4, n4, c4, rfl, hb4⟩; have HB4 := Lib.hid hb4; clear hb4))
          obtain ⟨W4, hW4⟩ : ∃ W, W = w4.alloc (.cells #[.int .i64 (f + p), .int .i64 node, .int .i64 pub, .int .i64 idx, .slice A4 n4 c4] 37) := ⟨_, rfl⟩
          have H4 : Hid (BoxAt w.heap.size W4 B s ∧ Below w.heap.size w W4 ∧ W4.heap[w4.heap.size]? = some (.cells #[.int .i64 (f + p), .int .i64 node, .int .i64 pub, .int .i64 idx, .slice A4 n4 c4] 37 (0, 0))) := by
            rw [hW4]
            have h4 := bchain (belowN H2.out.2 _) HB4.out
            exact ⟨((H2.out.1.below (drewN_below _ _)).below HB4.out).below ((Below.refl _ _).alloc (Nat.le_refl _) _), h4.alloc h4.size _, heap_alloc_new w4 _⟩
          have hfi4 := Lib.hid (first_heap H4.out.1)
          rw [← HF.out] at hfi4
          rw [← hW4]
          obtain ⟨x12, hx12⟩ : ∃ x, x = w4.heap.size := ⟨_, rfl⟩
          rw [← hx12] at H4
          rw [← hx12]
          clear hW4 HB4 hnx hfe H2 hx12
          go_wp2_with (go_at_call 9; refine (hfi4.out _ ?_).mono ?_; (exact rfl); rintro e w' ⟨rfl, rfl⟩)
          clear hfi4
          go_loopw [14] (fun i w3 => ∃ r : Nat, r ≤ p ∧ i = .int .i64 (f + r) ∧ Hid (BoxAt w.heap.size w3 B s ∧ Below w.heap.size w w3 ∧ w3.heap[x12]? = some (.cells #[.int .i64 (f + p), .int .i64 node, .int .i64 pub, .int .i64 idx, .slice A4 n4 c4] 37 (0, 0)))) (fun i _ => p - (intOf i - f).toNat)
          case atStart => exact ⟨0, Nat.zero_le _, by simp, H4.out⟩
          case round =>
            obtain ⟨r, hr, rfl, H3⟩ := hrel
            by_cases hlt3 : r < p
            · obtain ⟨y, hy⟩ : ∃ y, s.ents[r]? = some y := ⟨_, List.getElem?_eq_getElem (by have := HM.out; omega)⟩
              have HYX : Hid (y.node = node → y.pub = pub → y.idx < idx) := fun h1 h2 => HS.out.2.1.rise r p y _ hlt3 hy HX.out h1 h2
              have HNUM : Hid (y.num = f + r) := by rw [HF.out]; exact HS.out.2.1.nums r y hy
              have hfe := Lib.hid (fun (W : World) (hW : W.heap = wr.heap) => fetch_ok w.heap.size B s W (H3.out.1.heap hW) (f + r) r y hy (by rw [HF.out]) HSM.out.1 HSM.out.2.1 HSM.out.2.2)
              obtain ⟨num, ynode, ypub, yidx, yev⟩ := y
              obtain rfl : num = f + r := HNUM.out
              clear hy HNUM
              simp only at HYX
              go_wp2_with fail
              refine (hfe.out _ ?_).mono ?_
              · rfl
              rintro e w5 ⟨A5, n5, c5, rfl, hb5⟩
              have H5 : Hid (∀ o, BoxAt w.heap.size (w5.alloc o) B s ∧ Below w.heap.size w (w5.alloc o) ∧ (w5.alloc o).heap[x12]? = some (.cells #[.int .i64 (f + p), .int .i64 node, .int .i64 pub, .int .i64 idx, .slice A4 n4 c4] 37 (0, 0))) := by
                intro o
                have h5 := bchain H3.out.2.1 hb5
                have hx := Array.getElem?_eq_some_iff.1 H3.out.2.2
                have hx5 : w5.heap[x12]? = some (.cells #[.int .i64 (f + p), .int .i64 node, .int .i64 pub, .int .i64 idx, .slice A4 n4 c4] 37 (0, 0)) := (hb5.block x12 hx.1).trans H3.out.2.2
                exact ⟨(H3.out.1.below hb5).below ((Below.refl _ _).alloc (Nat.le_refl _) _), h5.alloc h5.size _, (Below.heap_alloc w5 o x12 (Array.getElem?_eq_some_iff.1 hx5).1).trans hx5⟩
              have q1 : ∀ o, (w5.alloc o).cell? ⟨x12, 1, none⟩ = some (.int .i64 node) := fun o => by simp [World.cell?, (H5.out o).2.2]
              have q2 : ∀ o, (w5.alloc o).cell? ⟨x12, 2, none⟩ = some (.int .i64 pub) := fun o => by simp [World.cell?, (H5.out o).2.2]
              have q3 : ∀ o, (w5.alloc o).cell? ⟨x12, 3, none⟩ = some (.int .i64 idx) := fun o => by simp [World.cell?, (H5.out o).2.2]
              clear hb5 hfe H3
              by_cases hn1 : ynode = node
              · by_cases hn2 : ypub = pub
                · have t1 : (ynode == node) = true := by simp [hn1]
                  have t2 : (ypub == pub) = true := by simp [hn2]
                  have t3 : ¬ idx ≤ yidx := by have := HYX.out hn1 hn2; omega
                  clear hn1 hn2
                  go_wp2
                  go_roundw
                  case rel => exact ⟨r + 1, by omega, congrArg (Value.int .i64) (by omega), H5.out _⟩
                  case measure => simp [intOf]; omega
                · have t1 : (ynode == node) = true := by simp [hn1]
                  have t2 : (ypub == pub) = false := by simp [hn2]
                  clear hn1 hn2
                  go_wp2
                  go_roundw
                  case rel => exact ⟨r + 1, by omega, congrArg (Value.int .i64) (by omega), H5.out _⟩
                  case measure => simp [intOf]; omega
              · have t1 : (ynode == node) = false := by simp [hn1]
                clear hn1
                go_wp2
                go_roundw
                case rel => exact ⟨r + 1, by omega, congrArg (Value.int .i64) (by omega), H5.out _⟩
                case measure => simp [intOf]; omega
            · go_wp2
              go_roundw
              case rel => exact ⟨p + 1, by omega, congrArg (Value.int .i64) (by omega), H3.out.1, H3.out.2.1⟩
              case measure => simp [intOf]; omega
        · have HER := Lib.hid (fun (W : World) (hW : W.heap = wr.heap) => fetch_err w.heap.size B s W (H2.out.1.heap hW) (f - 1) HSM.out.1 HSM.out.2.1 HSM.out.2.2 (.inl (by rw [HF.out]; omega)))
          have hfi := Lib.hid (first_heap H2.out.1)
          rw [← HF.out] at hfi
          have HB2 : Hid (Below w.heap.size w wr) := H2.out.2
          have HG2 : Hid (ErrT wr) := HG.out.below H2.out.2
          clear H2
          go_wp2_with (first | (go_at_call 7; refine (hnx.out _ ?_).mono ?_; (exact rfl); rintro e w' ⟨rfl, q, rfl⟩) | (go_at_call 9; refine (hfi.out _ ?_).mono ?_; (exact rfl); rintro e w' ⟨rfl, rfl⟩) | (go_at_call 11; refine (HER.out _ ?_).mono ?_; (exact rfl); rintro e w4 ⟨rfl, hb4⟩; have HB4 := Lib.hid hb4; clear hb4))
          have HB5 : Hid (Below w.heap.size w w4) := bchain (belowN HB2.out _) HB4.out
          refine (n_any 1 _).mono ?_
          rintro e w5 ⟨rfl, hb5⟩
          have HB6 : Hid (Below w.heap.size w w5) := bchain (HB5.out.alloc HB5.out.size _) hb5
          clear hb5
          go_wp2_with fail
          refine (fails_plain 1 1 _ (HG.out.below HB6.out)).mono ?_
          rintro e w6 ⟨rfl, hb6⟩
          have HB7 : Hid (Below w.heap.size w w6) := bchain HB6.out hb6
          clear hb6
          go_wp2
          go_ret
          exact ⟨rfl, HB7.out⟩
end Go.Proofs.YthapeellcbeecaaDoor
