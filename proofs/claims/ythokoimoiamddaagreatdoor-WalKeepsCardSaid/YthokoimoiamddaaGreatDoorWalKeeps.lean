/-
  wal: the law WalKeeps. Own work.
-/
import Derived.Test.YthokoimoiamddaaGreatDoorB12
import Derived.Deep.CutRange
set_option linter.unusedSimpArgs false
set_option linter.unusedVariables false
namespace Go.Proofs.YthokoimoiamddaaGreatDoor
open Go Go.RowKit

/-- The row that is handed to Append, its bytes whatever they are. -/
def Q0 (w : World) (s : St) (g lo : Nat) (V : Value) (n : Nat) : Prop := Nums lo w V n ∧ ∀ k, V.ownBlock = some k → ¬ s.own k ∧ k ≠ g
set_option maxRecDepth 20000 in
set_option maxHeartbeats 4000000 in
theorem keeps_any (A : Option Addr) (c : Nat) (l : List (List UInt8)) (D : Option Addr) (d : Nat) (p : List UInt8) (w : World) (hA : SlicesAt w A l) (hD : BytesAt w D p) (hE : ErrS w) :
    Calls Tryz.prog 3 #[.slice A l.length c, .slice D p.length d] w fun e w' => e = .returned (.bool true) ∧ Below w.heap.size w w' := by
  have HE := Lib.hid hE
  have HA := Lib.hid hA
  have HD := Lib.hid hD
  obtain ⟨n, hn⟩ : ∃ n, l.length = n := ⟨_, rfl⟩
  obtain ⟨m, hm⟩ : ∃ m, p.length = m := ⟨_, rfl⟩
  have HN := Lib.hid hn
  have HM := Lib.hid hm
  rw [hn, hm]
  clear hE hA hD hn hm
  by_cases h1 : 20 < n
  · have h1' : (20 : Int) < n := by omega
    go_enter Tryz.func3, Tryz.ntmps3
    go_wp2_with (go_at_call 7; refine (awake_any _ HE.out).mono ?_; rintro e w1 ⟨rfl, hb⟩)
    go_ret
    exact ⟨rfl, hb⟩
  have h1' : ¬ (20 : Int) < n := by omega
  by_cases h2 : 300 < m
  · have h2' : (300 : Int) < m := by omega
    go_enter Tryz.func3, Tryz.ntmps3
    go_wp2_with (go_at_call 7; refine (awake_any _ HE.out).mono ?_; rintro e w1 ⟨rfl, hb⟩)
    go_ret
    exact ⟨rfl, hb⟩
  have h2' : ¬ (300 : Int) < m := by omega
  have HL : Hid (n ≤ 20 ∧ m ≤ 300) := ⟨by omega, by omega⟩
  clear h1 h2
  go_enter Tryz.func3, Tryz.ntmps3
  go_wp2_with fail
  refine (awake_any _ HE.out).mono ?_
  rintro e w1 ⟨rfl, hb⟩
  have HB1 : Hid (Below w.heap.size w w1) := hb
  clear hb
  go_wp2_with fail
  refine (newDisk_any _).mono ?_
  rintro e w' ⟨rfl, rfl⟩
  obtain ⟨w2, hw2⟩ : ∃ w2, w2 = (w1.alloc (.map #[] 0)).alloc (.cells #[.map (some w1.heap.size), .int .i64 0] 60) := ⟨_, rfl⟩
  have HB2 : Hid (Below w.heap.size w w2) := by rw [hw2]; exact (HB1.out.alloc HB1.out.size _).alloc (by have := HB1.out.size; simp; omega) _
  have HD2 : Hid (LgD w1.heap.size w2 (w1.heap.size + 1) kOne (newSt w1) (fun _ => none) [] fnd0 0) := by
    have h9 := HE.out.below HB2.out
    rw [hw2] at h9 ⊢
    exact lgD_new (dk_new w1) h9 (HE.out.below HB1.out).one (by decide) kOne 0
  have HS1 : Hid (w.heap.size ≤ w1.heap.size) := HB1.out.size
  rw [← hw2]
  clear hw2
  go_wp2_with fail
  refine (lg_open2 HD2.out (oth_none kOne) (pathOK_of nm_one) 200 (right_of nm_one 200 (by decide) (by decide)) 400).mono ?_
  rintro e w3 ⟨sA, sc, A3, k, c3, vs, s3, b, g, he, hlg, hld, hfn, hsb, hge, hfr⟩
  have hk0 : k = 0 := hfn.len.symm
  subst hk0
  have he2 : e = .returned (.tuple #[.pointer (some ⟨g, 0, none⟩), .agg #[.bool false, .slice sA 0 sc, .slice A3 0 c3], .nilIface]) := he
  subst he2
  clear he
  have HB3 : Hid (Below w.heap.size w w3) := HB2.out.trans ((HD2.out.below_of hfr).mono HS1.out)
  obtain ⟨W, hW, hbox, hbW⟩ := box_new w3 (.bool false) (.slice sA 0 sc) (.slice A3 0 c3)
  have HW := Lib.hid hW
  have HL4 : Hid (Lg w1.heap.size W g (w1.heap.size + 1) kOne s3 (fun _ => none) [] fnd0 0 0 400) := hlg.below hbW
  have HB4 : Hid (Below w.heap.size w W) := HB3.out.trans (hbW.mono HB3.out.size)
  clear hlg hld hfn hsb hge hfr hbox hbW hW
  go_upto_region 7 with fail
  rw [← HW.out]
  clear HW
  go_wp2_with fail
  refine (lg_check HL4.out (pathOK_of nm_one) (oth_none kOne) D m d p HM.out (HD.out.below HB4.out) (by have := HL.out; omega) (by decide)).mono ?_
  rintro e w5 (⟨rfl, s5, hl5, hf5⟩ | ⟨_, _, h, _⟩)
  rotate_left 1
  · simp at h
  have HB5 : Hid (Below w.heap.size w w5) := HB4.out.trans ((HL4.out.below_of hf5).mono HS1.out)
  have HL5 : Hid (Lg w1.heap.size w5 g (w1.heap.size + 1) kOne s5 (fun _ => none) [] ⟨true, p, []⟩ 0 1 400) := hl5
  clear hl5 hf5 HL4 HB4 HD2 HB2 HB3
  go_upto_region 10 with fail
  go_loopw [47] (fun i wr => ∃ (j : Nat), j ≤ n ∧ i = .int .i64 j ∧ Hid (Below w.heap.size w wr ∧ ∃ s, Lg w1.heap.size wr g (w1.heap.size + 1) kOne s (fun _ => none) [] ⟨true, p, l.take j⟩ 0 (j + 1) 400) ∧ Hid (∀ x ∈ l.take j, x.length ≤ 300)) (fun i _ => n - (intOf i).toNat)
  case atStart => exact ⟨0, Nat.zero_le _, rfl, ⟨HB5.out, s5, HL5.out⟩, by simp [Hid]⟩
  case round =>
  obtain ⟨j, hj, rfl, HS, HLE⟩ := hrel
  by_cases hlt : j < n
  · obtain ⟨x, hx⟩ : ∃ x, Hid (l[j]? = some x) := ⟨_, List.getElem?_eq_getElem (by have := HN.out; omega)⟩
    obtain ⟨mx, hmx⟩ : ∃ mx, Hid (x.length = mx) := ⟨_, Lib.hid rfl⟩
    obtain ⟨gr, off, Ax, cx, rfl, q0, r0⟩ := HA.out j x hx.out
    have q0' := (HS.out.1.cell (p := ⟨gr, off + j, none⟩) (World.block_lt_of_cell? w _ q0)).trans q0
    rw [hmx.out] at q0'
    have HX := Lib.hid r0
    clear q0 r0
    have hj0 : ((0 : Int) ≤ j) := by omega
    have hj1 : ((j : Nat) : Int) < n := by omega
    have hw1 : IntKind.i64.wrap ((j : Int) + 1) = ((j + 1 : Nat) : Int) := by have := HL.out; rw [IntKind.wrap_i64]; omega
    by_cases h3 : 300 < mx
    · have h3' : (300 : Int) < mx := by omega
      go_wp2_with fail
      go_ret
      exact ⟨rfl, HS.out.1⟩
    · have h3' : ¬ (300 : Int) < mx := by omega
      obtain ⟨s6, HL6⟩ := HS.out.2
      have HLL := Lib.hid HL6
      have hbx := HX.out.below HS.out.1
      have htw := twin_any Ax x cx wr hbx (by rw [hmx.out]; omega)
      rw [hmx.out] at htw
      have HTW := Lib.hid htw
      clear HL6 hbx htw
      go_wp2_with fail
      refine HTW.out.mono ?_
      rintro e w7 ⟨V, rfl, hrow, hb7⟩
      obtain ⟨Aq, cq, rfl⟩ := own_slice hrow
      have hq0 : ∀ k, (Value.slice Aq mx cq).ownBlock = some k → wr.heap.size ≤ k ∧ k < w7.heap.size := fun k hk => ⟨(own_block hrow hk).choose_spec.2.1, (own_block hrow hk).choose_spec.2.2⟩
      have HQ0 := Lib.hid hq0
      have HROW := Lib.hid hrow
      have HL7 := Lib.hid (HLL.out.below hb7)
      have HB7 : Hid (Below w.heap.size w w7) := HS.out.1.trans (hb7.mono HS.out.1.size)
      clear hrow hb7 hq0
      go_wp2_with fail
      refine (lg_append HL7.out (pathOK_of nm_one) (oth_none kOne) Aq mx cq x hmx.out (BytesAt.of_own HROW.out) (by omega) (by omega) (by have := HL.out; omega) (by decide)).mono ?_
      rintro e w8 (⟨rfl, s8, hl8, hf8⟩ | ⟨_, _, h, _⟩)
      rotate_left 1
      · have := HL.out; simp at h; omega
      have HLE2 : Hid (∀ y ∈ l.take (j + 1), y.length ≤ 300) := by
        intro y hy
        rw [List.take_add_one, hx.out] at hy
        rcases List.mem_append.1 hy with hy | hy
        · exact HLE.out y hy
        · obtain rfl : y = x := by simpa using hy
          rw [hmx.out]; omega
      have hxj : l.take j ++ [x] = l.take (j + 1) := by rw [List.take_add_one, hx.out]; rfl
      have HL8 : Hid (Lg w1.heap.size w8 g (w1.heap.size + 1) kOne s8 (fun _ => none) [] ⟨true, p, l.take (j + 1)⟩ 0 (j + 1 + 1) 400) := by rw [← hxj]; exact hl8
      have HB8 : Hid (Below w.heap.size w w8) := HB7.out.trans ((HL7.out.below_of hf8).mono HS1.out)
      have HQ8 : Hid (Q0 w8 s8 g w1.heap.size (.slice Aq mx cq) mx) := by
        have hlo := HLL.out.log
        obtain ⟨⟨cs, hcs⟩, hog, hbg, hown, hbs⟩ := hlo
        have hglt := (Array.getElem?_eq_some_iff.1 hcs).1
        have hown7 : ∀ k, (Value.slice Aq mx cq).ownBlock = some k → ¬ s6.own k ∧ k ≠ g := fun k hk => by
          have h1 := HQ0.out k hk
          exact ⟨fun ho => by have := (hown k ho).2; omega, by omega⟩
        refine ⟨nums_of (bs := x) (ownsRow_down (ownsRow_keep HROW.out fun k hk => hf8.block k (HQ0.out k hk).2 (hown7 k hk).1 (hown7 k hk).2) hbs), fun k hk => ⟨fun ho => ?_, (hown7 k hk).2⟩⟩
        rcases hf8.own k ho with h1 | h1
        · exact (hown7 k hk).1 h1
        · have := (HQ0.out k hk).2; omega
      clear hl8 hf8 hxj
      clear HL7 HB7 HROW HQ0 HTW HLL
      go_upto_region 18 with fail
      go_loopw [62] (fun i wx => ∃ (t : Nat), t ≤ mx ∧ i = .int .i64 t ∧ Hid (Below w.heap.size w wx ∧ Lg w1.heap.size wx g (w1.heap.size + 1) kOne s8 (fun _ => none) [] ⟨true, p, l.take (j + 1)⟩ 0 (j + 1 + 1) 400 ∧ Q0 wx s8 g w1.heap.size (.slice Aq mx cq) mx)) (fun i _ => mx - (intOf i).toNat)
      case atStart => exact ⟨0, Nat.zero_le _, rfl, HB8.out, HL8.out, HQ8.out⟩
      case round =>
      obtain ⟨t, ht, rfl, HR⟩ := hrel
      by_cases htl : t < mx
      · obtain ⟨gq, y, rfl, hgq, d0, d1, ⟨cur, d2⟩, d3⟩ := HR.out.2.2.1.cell htl
        obtain ⟨e1, e2⟩ := HR.out.2.2.2 gq rfl
        have hw2 : IntKind.i64.wrap ((t : Int) + 1) = ((t + 1 : Nat) : Int) := by rw [IntKind.wrap_i64]; omega
        have ht0 : ((0 : Int) ≤ t) := by omega
        have ht1 : ((t : Nat) : Int) < mx := by omega
        have HRS : Hid (∀ z : Int, Below w.heap.size w (wr.setCell ⟨gq, t, none⟩ (.int .u8 z)) ∧ Lg w1.heap.size (wr.setCell ⟨gq, t, none⟩ (.int .u8 z)) g (w1.heap.size + 1) kOne s8 (fun _ => none) [] ⟨true, p, l.take (j + 1)⟩ 0 (j + 1 + 1) 400 ∧ Q0 (wr.setCell ⟨gq, t, none⟩ (.int .u8 z)) s8 g w1.heap.size (.slice (some ⟨gq, 0, none⟩) mx cq) mx) := fun z =>
          ⟨HR.out.1.trans ((Touch.set wr gq t (.int .u8 z)).below fun k e => by cases e; exact Nat.le_trans HS1.out hgq), HR.out.2.1.set _ e1 e2 hgq, d3 z, HR.out.2.2.2⟩
        clear d3 e1 e2 d2
        go_wp2_with fail
        exact ⟨⟨t + 1, htl, by go_num, HRS.out _⟩, by simp [intOf]; omega⟩
      · have htm : t = mx := by omega
        subst htm
        go_wp2_with fail
        exact ⟨⟨j + 1, hlt, by go_num, ⟨HR.out.1, s8, HR.out.2.1⟩, HLE2.out⟩, by simp [intOf]; omega⟩
  · have hjn : j = n := by omega
    subst hjn
    obtain ⟨s6, HL6⟩ := HS.out.2
    have hln : l.take j = l := List.take_of_length_le (by have := HN.out; omega)
    have HLE3 : Hid (∀ y ∈ l, y.length ≤ 300) := by have := HLE.out; rw [hln] at this; exact this
    rw [hln] at HL6
    have HLL := Lib.hid HL6
    clear HL6 hln HLE
    go_wp2_with fail
    refine (lg_sync_d HLL.out (oth_none kOne)).mono ?_
    rintro e w9 ⟨rfl, s9, hl9, hd9, hf9⟩
    have HB9 : Hid (Below w.heap.size w w9) := HS.out.1.trans ((HLL.out.below_of hf9).mono HS1.out)
    have HD9 := Lib.hid hd9
    have hnn : (⟨true, p, l⟩ : Fnd).recs.length = j := HN.out
    clear hl9 hd9 hf9 HLL hlt
    go_upto_region 26 with fail
    go_loopw [76] (fun i wr => ∃ (t : Nat), t ≤ 3 ∧ i = .int .i64 t ∧ Hid (Below w.heap.size w wr ∧ ∃ s, LgD w1.heap.size wr (w1.heap.size + 1) kOne s (fun _ => none) [] ⟨true, p, l⟩ (j + 1))) (fun i _ => 3 - (intOf i).toNat)
    case atStart => exact ⟨0, Nat.zero_le _, rfl, HB9.out, s9, HD9.out⟩
    case round =>
    clear HS
    obtain ⟨t, ht, rfl, HS⟩ := hrel
    by_cases htl : t < 3
    · have hw2 : IntKind.i64.wrap ((t : Int) + 1) = ((t + 1 : Nat) : Int) := by rw [IntKind.wrap_i64]; omega
      have ht1 : ((t : Nat) : Int) < 3 := by omega
      obtain ⟨sb, hdb⟩ := HS.out.2
      have HDb := Lib.hid hdb
      clear hdb
      go_wp2_with fail
      refine (lg_open2 HDb.out (oth_none kOne) (pathOK_of nm_one) 100 (right_of nm_one 100 (by decide) (by decide)) 400).mono ?_
      rintro e wb ⟨sA2, sc2, A2, k2, c2, vs2, s10, b2, g2, he, hlg, hld, hfn, hsb, hge, hfr⟩
      have hk2 : k2 = j := hfn.len.symm.trans HN.out
      subst hk2
      have he2 : e = .returned (.tuple #[.pointer (some ⟨g2, 0, none⟩), .agg #[.bool true, .slice sA2 p.length sc2, .slice A2 k2 c2], .nilIface]) := he
      rw [HM.out] at he2
      subst he2
      clear he
      have HBb : Hid (Below w.heap.size w wb) := HS.out.1.trans ((HDb.out.below_of hfr).mono HS1.out)
      obtain ⟨Wb, hWb, hbox, hbW⟩ := box_new wb (.bool true) (.slice sA2 m sc2) (.slice A2 k2 c2)
      have HWb := Lib.hid hWb
      have hfl : Fl Wb s10 wr.heap.size wb.heap.size sA2 m sc2 A2 k2 c2 vs2 := by
        have h1 := FndAt.fl (b2 := wb.heap.size) hfn rfl (fun y hy => Nat.le_trans (HLE3.out y hy) (by decide)) (by have : p.length = m := HM.out; show Wb.heap[wb.heap.size]? = some (.cells #[.bool true, .slice sA2 p.length sc2, .slice A2 k2 c2] 29 (0, 0)); rw [this]; exact hbox) hbW
        have h2 : p.length = m := HM.out
        simp only [h2] at h1
        exact h1
      have HFL := Lib.hid hfl
      have HRR : Hid (SlicesAt Wb A2 l) := (hfn.heldR.below hbW).slices
      have HSB : Hid (BytesAt Wb sA2 p) := hsb.below hbW
      have HDB : Hid (LgD w1.heap.size Wb (w1.heap.size + 1) kOne s10 (fun _ => none) [] ⟨true, p, l⟩ (k2 + 1)) := hld.below hbW
      have HBB : Hid (Below w.heap.size w Wb) := HBb.out.trans (hbW.mono HBb.out.size)
      have HLO : Hid (w1.heap.size ≤ wr.heap.size) := HDb.out.owns.2.1
      obtain ⟨q0, q1, q2, qf⟩ := found_cells hbox
      clear hlg hld hfn hsb hge hfr hbox hbW hWb hfl HDb HBb
      go_upto_region 28 with fail
      rw [← HWb.out]
      clear HWb
      have hbs := bytes_any sA2 D p p sc2 d Wb HSB.out (HD.out.below HBB.out)
      rw [HM.out, decide_eq_true rfl] at hbs
      have HBS := Lib.hid hbs
      clear hbs
      go_wp2_with fail
      refine HBS.out.mono ?_
      rintro e wd ⟨rfl, rfl⟩
      go_wp2_with fail
      refine (lists_same A2 A k2 c2 c l Wb HN.out (by have := HL.out; omega) HRR.out (HA.out.below HBB.out)).mono ?_
      rintro e we ⟨rfl, hbe⟩
      have HFE : Hid (Fl we s10 wr.heap.size wb.heap.size sA2 m sc2 A2 k2 c2 vs2) := HFL.out.drew hbe
      have HDE : Hid (LgD w1.heap.size we (w1.heap.size + 1) kOne s10 (fun _ => none) [] ⟨true, p, l⟩ (k2 + 1)) := HDB.out.below hbe
      have HBE : Hid (Below w.heap.size w we) := HBB.out.trans (hbe.mono HBB.out.size)
      clear q0 q1 q2 qf hbe HBS HRR HSB HDB HBB HFL
      obtain ⟨q0, q1, q2, qf⟩ := found_cells HFE.out.blk
      go_upto_region 31 with fail
      clear q0 q1 q2 qf
      go_loopw [108] (fun i wx => ∃ (u : Nat), u ≤ m ∧ i = .int .i64 u ∧ Hid (Below w.heap.size w wx ∧ LgD w1.heap.size wx (w1.heap.size + 1) kOne s10 (fun _ => none) [] ⟨true, p, l⟩ (k2 + 1) ∧ Fl wx s10 w1.heap.size wb.heap.size sA2 m sc2 A2 k2 c2 vs2)) (fun i _ => m - (intOf i).toNat)
      case atStart => exact ⟨0, Nat.zero_le _, rfl, HBE.out, HDE.out, HFE.out.down HLO.out⟩
      case round =>
      obtain ⟨u, hu, rfl, HU⟩ := hrel
      by_cases hul : u < m
      · have hsn : NumM wr s10 w1.heap.size (.slice sA2 m sc2) m := by
          rcases HU.out.2.2.snap with h | h
          · omega
          · exact h
        obtain ⟨ga, of, y, rfl, hga, hoa, d0, d1, cur, d2⟩ := hsn.cell hul
        have hw3 : IntKind.i64.wrap ((u : Int) + 1) = ((u + 1 : Nat) : Int) := by rw [IntKind.wrap_i64]; omega
        have hu0 : ((0 : Int) ≤ u) := by omega
        have hu1 : ((u : Nat) : Int) < m := by omega
        have HUS : Hid (∀ z : Int, Below w.heap.size w (wr.setCell ⟨ga, of + u, none⟩ (.int .u8 z)) ∧ LgD w1.heap.size (wr.setCell ⟨ga, of + u, none⟩ (.int .u8 z)) (w1.heap.size + 1) kOne s10 (fun _ => none) [] ⟨true, p, l⟩ (k2 + 1) ∧ Fl (wr.setCell ⟨ga, of + u, none⟩ (.int .u8 z)) s10 w1.heap.size wb.heap.size (some ⟨ga, of, none⟩) m sc2 A2 k2 c2 vs2) := fun z =>
          ⟨HU.out.1.trans ((Touch.set wr ga (of + u) (.int .u8 z)).below fun k e => by cases e; exact Nat.le_trans HS1.out hga), HU.out.2.1.set _ hoa hga, HU.out.2.2.set d2 z⟩
        obtain ⟨q0, q1, q2, qf⟩ := found_cells HU.out.2.2.blk
        clear d2 hoa hga hsn
        go_wp2_with fail
        exact ⟨⟨u + 1, hul, by go_num, HUS.out _⟩, by simp [intOf]; omega⟩
      · obtain ⟨q0, q1, q2, qf⟩ := found_cells HU.out.2.2.blk
        have hum : u = m := by omega
        subst hum
        go_upto_region 36 with fail
        clear q0 q1 q2 qf
        go_loopw [122] (fun i wx => ∃ (r : Nat), r ≤ k2 ∧ i = .int .i64 r ∧ Hid (Below w.heap.size w wx ∧ LgD w1.heap.size wx (w1.heap.size + 1) kOne s10 (fun _ => none) [] ⟨true, p, l⟩ (k2 + 1) ∧ Fl wx s10 w1.heap.size wb.heap.size sA2 u sc2 A2 k2 c2 vs2)) (fun i _ => k2 - (intOf i).toNat)
        case atStart => exact ⟨0, Nat.zero_le _, rfl, HU.out⟩
        case round =>
        obtain ⟨r, hr, rfl, HV⟩ := hrel
        by_cases hrl : r < k2
        · have hvl : r < vs2.length := by have := HV.out.2.2.row.1; omega
          obtain ⟨x2, hx2⟩ : ∃ x2, vs2[r]? = some x2 := ⟨_, List.getElem?_eq_getElem hvl⟩
          obtain ⟨gv, rfl, _, dv, _, _⟩ := own_cell HV.out.2.2.row hx2
          obtain ⟨kv, hkb, hkv⟩ := HV.out.2.2.each r x2 hx2
          obtain ⟨av, ov, cv, _, rfl, _⟩ := id hkv
          have HX2 := Lib.hid hx2
          clear hkv hx2
          have hw3 : IntKind.i64.wrap ((r : Int) + 1) = ((r + 1 : Nat) : Int) := by have := HL.out; rw [IntKind.wrap_i64]; omega
          have hr0 : ((0 : Int) ≤ r) := by omega
          have hr1 : ((r : Nat) : Int) < k2 := by omega
          go_upto_region 39 with fail
          go_loopw [128] (fun i wx => ∃ (u2 : Nat), u2 ≤ kv ∧ i = .int .i64 u2 ∧ Hid (Below w.heap.size w wx ∧ LgD w1.heap.size wx (w1.heap.size + 1) kOne s10 (fun _ => none) [] ⟨true, p, l⟩ (k2 + 1) ∧ Fl wx s10 w1.heap.size wb.heap.size sA2 u sc2 (some ⟨gv, 0, none⟩) k2 c2 vs2)) (fun i _ => kv - (intOf i).toNat)
          case atStart => exact ⟨0, Nat.zero_le _, rfl, HV.out⟩
          case round =>
          obtain ⟨u2, hu2, rfl, HX⟩ := hrel
          by_cases hul2 : u2 < kv
          · obtain ⟨kw, hkw, hnum⟩ := HX.out.2.2.each r _ HX2.out
            have hkk : kw = kv := by
              obtain ⟨_, _, _, _, e, _⟩ := hnum
              injection e with _ e2 _
              exact e2.symm
            subst hkk
            obtain ⟨ga, of, y, e9, hga, hoa, d0, d1, cur, d2⟩ := hnum.cell hul2
            have e10 : (some ⟨av, ov, none⟩ : Option Addr) = some ⟨ga, of, none⟩ := e9
            simp only [Option.some.injEq, Addr.mk.injEq, and_true] at e10
            obtain ⟨rfl, rfl⟩ := e10
            have hw4 : IntKind.i64.wrap ((u2 : Int) + 1) = ((u2 + 1 : Nat) : Int) := by rw [IntKind.wrap_i64]; omega
            have hu0 : ((0 : Int) ≤ u2) := by omega
            have hu1 : ((u2 : Nat) : Int) < kw := by omega
            have HXS : Hid (∀ z : Int, Below w.heap.size w (wr.setCell ⟨av, ov + u2, none⟩ (.int .u8 z)) ∧ LgD w1.heap.size (wr.setCell ⟨av, ov + u2, none⟩ (.int .u8 z)) (w1.heap.size + 1) kOne s10 (fun _ => none) [] ⟨true, p, l⟩ (k2 + 1) ∧ Fl (wr.setCell ⟨av, ov + u2, none⟩ (.int .u8 z)) s10 w1.heap.size wb.heap.size sA2 u sc2 (some ⟨gv, 0, none⟩) k2 c2 vs2) := fun z =>
              ⟨HX.out.1.trans ((Touch.set wr av (ov + u2) (.int .u8 z)).below fun k e => by cases e; exact Nat.le_trans HS1.out hga), HX.out.2.1.set _ hoa hga, HX.out.2.2.set d2 z⟩
            clear d2 hoa hga hnum dv hw3 hr0 hr1
            go_wp2_with fail
            exact ⟨⟨u2 + 1, hul2, by go_num, HXS.out _⟩, by simp [intOf]; omega⟩
          · have hum2 : u2 = kv := by omega
            subst hum2
            go_wp2_with fail
            exact ⟨⟨r + 1, hrl, by go_num, HX.out⟩, by simp [intOf]; omega⟩
        · have hrk : r = k2 := by omega
          subst hrk
          go_wp2_with fail
          exact ⟨⟨t + 1, htl, by go_num, HV.out.1, s10, HV.out.2.1⟩, by simp [intOf]; omega⟩
    · have ht3 : t = 3 := by omega
      subst ht3
      go_wp2_with fail
      go_ret
      exact ⟨rfl, HS.out.1⟩
end Go.Proofs.YthokoimoiamddaaGreatDoor
