/-
  disk: the law DiskApart, walked. Own work.
-/
import Derived.Test.YtfhdcjfkngflbaaDiskApart
set_option linter.unusedSimpArgs false
set_option linter.unusedVariables false
namespace Go.Proofs.Ytfhdcjfkngflbaa
open Go Go.RowKit

theorem str_same (a : ByteArray) : (a.toList == a.toList) = true := by simp
theorem str_other {a b : ByteArray} (h : ¬ (a = b)) : (a.toList == b.toList) = false := by
  rw [ByteArray.toList_eq, ByteArray.toList_eq]
  rw [beq_eq_false_iff_ne]
  intro e
  apply h
  obtain ⟨⟨a⟩⟩ := a
  obtain ⟨⟨b⟩⟩ := b
  simpa using e

theorem apart_few (A : Option Addr) (c : Nat) (l : List DOp) (name : ByteArray) (w : World) (hA : DOps w A l) (hl : l.length ≤ 140737488351232) (hf : fewB l = false) :
    Calls Try.prog 4 #[.slice A l.length c, .string name] w fun e w' => e = .returned (.bool true) ∧ Below w.heap.size w w' := by
  have HF : Hid (∀ W, Below w.heap.size w W → Calls Try.prog 6 #[.slice A l.length c] W fun e w' => e = .returned (.bool false) ∧ Below W.heap.size W w') := fun W hW => by
    have := few_any A c l W (hA.below hW) hl
    rw [hf] at this; exact this
  clear hA hl hf
  go_enter Try.func4, Try.ntmps4
  go_wp2_with fail
  refine (awake_any _).mono ?_
  rintro e w1 ⟨rfl, hb⟩
  have hb1 := Lib.hid hb
  clear hb
  go_wp2_with (go_at_call 6; refine (HF.out _ hb1.out).mono ?_; rintro e w2 ⟨rfl, hb2⟩)
  go_ret
  exact ⟨rfl, hb1.out.trans (hb2.mono hb1.out.size)⟩

theorem apart_name (A : Option Addr) (c : Nat) (l : List DOp) (name : ByteArray) (w : World) (hA : DOps w A l) (hl : l.length ≤ 140737488351232) (hf : fewB l = true) (hks : name.size ≤ 4611686018427387904) (hk : nmB name = false) :
    Calls Try.prog 4 #[.slice A l.length c, .string name] w fun e w' => e = .returned (.bool true) ∧ Below w.heap.size w w' := by
  have HF : Hid (∀ W, Below w.heap.size w W → Calls Try.prog 6 #[.slice A l.length c] W fun e w' => e = .returned (.bool true) ∧ Below W.heap.size W w') := fun W hW => by
    have := few_any A c l W (hA.below hW) hl
    rw [hf] at this; exact this
  have HN : Hid (∀ W, Calls Try.prog 15 #[.string name] W fun e w' => e = .returned (.bool false) ∧ W = w') := fun W => by
    have := refname_any name W hks
    rw [hk] at this; exact this
  clear hA hl hf hks hk
  go_enter Try.func4, Try.ntmps4
  go_wp2_with fail
  refine (awake_any _).mono ?_
  rintro e w1 ⟨rfl, hb⟩
  have hb1 := Lib.hid hb
  clear hb
  go_wp2_with (first | (go_at_call 6; refine (HF.out _ hb1.out).mono ?_; rintro e w2 ⟨rfl, hb2⟩) | (go_at_call 15; refine (HN.out _).mono ?_; rintro e w3 ⟨rfl, rfl⟩))
  go_ret
  exact ⟨rfl, hb1.out.trans (hb2.mono hb1.out.size)⟩

set_option maxRecDepth 100000 in
set_option maxHeartbeats 2000000 in
theorem apart_in (A : Option Addr) (n c : Nat) (l : List DOp) (hln : l.length = n) (name : ByteArray) (w : World) (hA : DOps w A l) (hl : n ≤ 140737488351232) (hf : fewB l = true) (hks : name.size ≤ 4611686018427387904) (hk : nmB name = true) :
    Calls Try.prog 4 #[.slice A n c, .string name] w fun e w' => e = .returned (.bool true) ∧ Below w.heap.size w w' := by
  have HFW := few_is hf
  have HW : Hid ((∀ o ∈ l, o.p.length ≤ 40) ∧ n ≤ 80) := ⟨HFW.1, by rw [← hln]; exact HFW.2⟩
  have HF : Hid (∀ W, Below w.heap.size w W → Calls Try.prog 6 #[.slice A n c] W fun e w' => e = .returned (.bool true) ∧ Below W.heap.size W w') := fun W hW => by
    have := few_any A c l W (hA.below hW) (by omega)
    rw [hf, hln] at this; exact this
  have HN : Hid (∀ W, Calls Try.prog 15 #[.string name] W fun e w' => e = .returned (.bool true) ∧ W = w') := fun W => by
    have := refname_any name W hks
    rw [hk] at this; exact this
  have HA := Lib.hid hA
  have HL : Hid (l.length = n) := hln
  have HK : Hid (name.size ≤ 4611686018427387904 ∧ nmB name = true) := ⟨hks, hk⟩
  clear hA hl hf hks hk HFW hln
  go_enter Try.func4, Try.ntmps4
  go_wp2_with fail
  refine (awake_any _).mono ?_
  rintro e w1 ⟨rfl, hb⟩
  have hb1 := Lib.hid hb
  clear hb
  go_wp2_with (first | (go_at_call 6; refine (HF.out _ hb1.out).mono ?_; rintro e w2 ⟨rfl, hb2⟩; have hb2' : Hid (Below w.heap.size w w2) := (hb1.out.trans (hb2.mono hb1.out.size)); clear hb2) | (go_at_call 15; refine (HN.out _).mono ?_; rintro e w3 ⟨rfl, rfl⟩))
  refine (newDisk_any _).mono ?_
  rintro e w' ⟨rfl, rfl⟩
  obtain ⟨w3, hw3⟩ : ∃ w3, w3 = (w2.alloc (.map #[] 0)).alloc (.cells #[.map (some w2.heap.size), .int .i64 0] 48) := ⟨_, rfl⟩
  obtain ⟨Bd, hBd⟩ : ∃ Bd, Bd = w2.heap.size + 1 := ⟨_, rfl⟩
  have H3 : Hid (Below w2.heap.size w2 w3 ∧ Dk w2.heap.size w3 Bd (fun _ => none) 0 0 (newSt w2)) := by
    rw [hw3, hBd]; exact ⟨((Below.refl _ _).alloc (Nat.le_refl _) _).alloc (by simp) _, dk_new w2⟩
  rw [← hw3, ← hBd]
  clear hw3 hBd
  go_wp2_with fail
  refine (newDisk_any _).mono ?_
  rintro e w' ⟨rfl, rfl⟩
  obtain ⟨w4, hw4⟩ : ∃ w4, w4 = (w3.alloc (.map #[] 0)).alloc (.cells #[.map (some w3.heap.size), .int .i64 0] 48) := ⟨_, rfl⟩
  obtain ⟨Bo, hBo⟩ : ∃ Bo, Bo = w3.heap.size + 1 := ⟨_, rfl⟩
  have H4 : Hid (ApIn none w w2.heap.size Bd Bo name 0 w4) := by
    have h1 := two_new w3 w3 _ _ _ _ _ H3.out.2
    rw [← hw4, ← hBo] at h1
    have hb : Below w3.heap.size w3 w4 := by rw [hw4]; exact ((Below.refl _ _).alloc (Nat.le_refl _) _).alloc (by simp) _
    exact ⟨_, _, _, _, none, h1, ⟨fun _ _ => rfl, fun _ _ => rfl, rfl, rfl⟩, ⟨by simp, by simp, by simp, (hb2'.out.trans (H3.out.1.mono hb2'.out.size)).trans (hb.mono (Nat.le_trans hb2'.out.size H3.out.1.size)), hb2'.out.size⟩⟩
  rw [← hw4, ← hBo]
  clear hw4 hBo H3
  go_wp2
  go_loopw [29] (fun i wr => ∃ (j : Nat), j ≤ n ∧ i = .int .i64 j ∧ Hid (ApIn none w w2.heap.size Bd Bo name j wr)) (fun i _ => n - (intOf i).toNat)
  case atStart => exact ⟨0, Nat.zero_le _, rfl, H4.out⟩
  case round =>
    obtain ⟨j, hj, rfl, HS⟩ := hrel
    by_cases hlt : j < n
    · obtain ⟨o, ho⟩ : ∃ o, Hid (l[j]? = some o) := ⟨_, List.getElem?_eq_getElem (by have := HL.out; omega)⟩
      obtain ⟨g, off, rfl, d0, d1, d2, d3, dby, dns, dps, _, _⟩ := HA.out j o ho.out
      have hold := HS.out.old
      have hg : g < w.heap.size := World.block_lt_of_cell? w _ d0
      replace d0 := (hold.cell (p := ⟨g, off + j * 4, none⟩) hg).trans d0
      replace d1 := (hold.cell (p := ⟨g, off + j * 4 + 1, none⟩) hg).trans d1
      replace d2 := (hold.cell (p := ⟨g, off + j * 4 + 2, none⟩) hg).trans d2
      replace d3 := (hold.cell (p := ⟨g, off + j * 4 + 3, none⟩) hg).trans d3
      have hj0 : ((0 : Int) ≤ j) := by omega
      have hj1 : ((j : Nat) : Int) < n := by omega
      have hw1 : IntKind.i64.wrap ((j : Int) + 1) = ((j + 1 : Nat) : Int) := by have := HW.out; rw [IntKind.wrap_i64]; omega
      obtain ⟨m, hm⟩ : ∃ m, Hid (o.p.length = m ∧ m ≤ 40) := ⟨_, rfl, HW.out.1 o (List.mem_of_getElem? ho.out)⟩
      rw [hm.out.1] at d2
      obtain ⟨kd, hkd⟩ : ∃ z, Hid (o.kind = z) := ⟨_, rfl⟩
      obtain ⟨nm, hnm⟩ : ∃ z, Hid (o.name = z) := ⟨_, rfl⟩
      obtain ⟨N, hN⟩ : ∃ z, Hid (o.n = z) := ⟨_, rfl⟩
      obtain ⟨Ap, hAp⟩ : ∃ z, Hid (o.A = z) := ⟨_, rfl⟩
      obtain ⟨cp, hcp⟩ : ∃ z, Hid (o.c = z) := ⟨_, rfl⟩
      rw [hkd.out] at d0
      rw [hnm.out] at d1
      rw [hAp.out, hcp.out] at d2
      rw [hN.out] at d3
      have HBY : Hid (BytesAt w Ap o.p ∧ nm.size ≤ 4611686018427387904 ∧ j < 80) := ⟨by rw [← hAp.out]; exact dby, by rw [← hnm.out]; omega, by have := HW.out.2; omega⟩
      have HIN := Lib.hid (HS.out.put (.cells #[.int .i64 kd, .string nm, .slice Ap m cp, .int .i64 N] 29))
      clear dby dns dps hold hg
      by_cases hk0 : kd = 0
      · subst hk0
        go_wp2_with fail
        refine (ap_names HIN.out).mono ?_
        rintro e w5 ⟨A5, c5, m5, rfl, hm5, H5⟩
        obtain ⟨b0, b1, b2, b3⟩ := H5.out.box
        have d5 : decide ((m5 : Int) > 20) = false := by rw [decide_eq_false_iff_not]; omega
        clear hm5 HIN
        cases hnb : nmB nm with
        | false =>
          have hne : ¬ (nm = name) := fun e => by have := HK.out.2; rw [← e, hnb] at this; cases this
          have hse := str_other hne
          go_wp2_with fail
          refine (ap_bad H5.out nm Ap m cp HBY.out.2.1 hnb).mono ?_
          rintro e w6 ⟨rfl, rfl⟩
          go_wp2
          exact ⟨⟨j + 1, hlt, by go_num, ap_skip H5.out.drop⟩, by simp [intOf]; omega⟩
        | true =>
          have HNB : Hid (nmB nm = true) := hnb
          clear hnb
          by_cases hne : nm = name
          · have hse : (nm.toList == name.toList) = true := by rw [hne]; simp
            have HNE : Hid (nm = name) := hne
            clear hne
            go_wp2_with fail
            have H6 := ap_same1 H5.out (by have := HBY.out.2.2; omega) Ap m cp o.p hm.out.1 hm.out.2 HK.out.1 HK.out.2 HBY.out.1
            rw [← HNE.out] at H6
            refine H6.mono ?_
            clear H6
            rintro e w6 ⟨rfl, H6⟩
            obtain ⟨b0, b1, b2, b3⟩ := H6.out.box
            go_wp2_with fail
            have H7 := ap_same2 (by rw [HNE.out] at H6; exact H6.out) HBY.out.2.2 Ap m cp hm.out.1 hm.out.2 HK.out.1 HK.out.2 HBY.out.1
            refine H7.mono ?_
            clear H7
            rintro e w7 ⟨rfl, H7⟩
            go_wp2
            go_quiet (fail)
            all_goals
              go_wp2
              exact ⟨⟨j + 1, hlt, by go_num, H7.out.drop.below (bdrewN (Below.refl _ _) _)⟩, by simp [intOf]; omega⟩
          · have hse := str_other hne
            have HNE : Hid (nm ≠ name) := hne
            clear hne
            go_wp2_with fail
            refine (ap_other1 H5.out (by have := HBY.out.2.2; omega) nm HNE.out Ap m cp o.p hm.out.1 hm.out.2 HBY.out.2.1 HNB.out HBY.out.1).mono ?_
            rintro e w6 ⟨rfl, H6⟩
            obtain ⟨b0, b1, b2, b3⟩ := H6.out.box
            go_wp2_with fail
            refine (ap_other2 H6.out HNE.out).mono ?_
            rintro e w7 ⟨rfl, H7⟩
            obtain ⟨b0, b1, b2, b3⟩ := H7.out.box
            go_wp2_with fail
            refine (ap_other3 H7.out HNE.out).mono ?_
            rintro e w8 ⟨rfl, H8⟩
            go_wp2
            exact ⟨⟨j + 1, hlt, by go_num, H8.out.drop⟩, by simp [intOf]; omega⟩
      · have hk1 : (kd != 0) = true := by simpa using hk0
        clear hk0
        go_wp2
        exact ⟨⟨j + 1, hlt, by go_num, ap_skip HIN.out.drop⟩, by simp [intOf]; omega⟩
    · obtain ⟨D, HD⟩ := HS.out.told (by have := HW.out.2; omega)
      have H9 := Lib.hid HD
      have hjn : j = n := by omega
      subst hjn
      clear HD HS hlt hj
      cases D with
      | none =>
        go_wp2_with fail
        refine (ap_read_none H9.out).mono ?_
        rintro e w5 ⟨rfl, rfl⟩
        go_wp2_with fail
        refine (ap_read_none H9.out.swap).mono ?_
        rintro e w5 ⟨rfl, rfl⟩
        go_wp2
        have HBB : Hid (∀ W, Calls Try.prog 14 #[.slice none 0 0, .slice none 0 0] W fun e w' => e = .returned (.bool true) ∧ w' = W) := fun W => (bytes_any none none [] [] 0 0 W ⟨fun _ => rfl, fun ad e => (by cases e)⟩ ⟨fun _ => rfl, fun ad e => (by cases e)⟩).mono fun e w' h => ⟨by rw [h.1]; rfl, h.2.symm⟩
        go_quiet ((go_at_call 14; exact Calls.quiet_of_same (HBB.out _)))
        have H10 : Hid (ApD w w2.heap.size Bd Bo name none (wr.drewN nq)) := H9.out.below (bdrewN (Below.refl _ _) _)
        clear H9 HBB
        go_wp2_with fail
        refine (ap_del_none H10.out).mono ?_
        rintro e w6 ⟨rfl, H11⟩
        go_wp2_with fail
        refine (ap_fin1 H11.out HK.out.1 HK.out.2).mono ?_
        rintro e w7 ⟨rfl, H12⟩
        go_wp2_with fail
        refine (ap_fin2 H12.out).mono ?_
        rintro e w8 ⟨A8, c8, rfl, H13⟩
        go_wp2_with fail
        refine (ap_fin3 H13.out).mono ?_
        rintro e w9 ⟨rfl, H14⟩
        go_wp2
        go_ret
        exact ⟨rfl, H14.out⟩
      | some b =>
        obtain ⟨nb, hnb⟩ : ∃ nb, Hid (b.length = nb) := ⟨_, rfl⟩
        go_wp2_with fail
        refine (ap_read_some H9.out nb hnb.out).mono ?_
        rintro e w5 ⟨A5, c5, rfl, H5⟩
        have H9' : Hid (ApD w w2.heap.size Bd Bo name (some b) w5) := H9.out.below H5.out.2
        go_wp2_with fail
        refine (ap_read_some H9'.out.swap nb hnb.out).mono ?_
        rintro e w6 ⟨A6, c6, rfl, H6⟩
        go_wp2
        have HBB : Hid (∀ W, Below w6.heap.size w6 W → Calls Try.prog 14 #[.slice A5 nb c5, .slice A6 nb c6] W fun e w' => e = .returned (.bool true) ∧ w' = W) := fun W hW => by
          have h1 := bytes_any A5 A6 b b c5 c6 W ((H5.out.1.below H6.out.2).below hW) (H6.out.1.below hW)
          rw [hnb.out] at h1
          exact h1.mono fun e w' h => ⟨by rw [h.1]; simp, h.2.symm⟩
        go_quiet ((go_at_call 14; exact Calls.quiet_of_same (HBB.out _ (by first | exact Below.refl _ _ | exact bdrewN (Below.refl _ _) _ | exact (Below.refl _ _).drew))))
        have H10 : Hid (ApD w w2.heap.size Bd Bo name (some b) (w6.drewN nq)) := (H9'.out.below H6.out.2).below (bdrewN (Below.refl _ _) _)
        clear H9 H9' HBB H5 H6
        go_wp2_with fail
        refine (ap_del_some H10.out).mono ?_
        rintro e w7 ⟨rfl, H11⟩
        go_wp2_with fail
        refine (ap_fin1 H11.out HK.out.1 HK.out.2).mono ?_
        rintro e w8 ⟨rfl, H12⟩
        go_wp2_with fail
        refine (ap_fin2 H12.out).mono ?_
        rintro e w9 ⟨A8, c8, rfl, H13⟩
        go_wp2_with fail
        refine (ap_fin3 H13.out).mono ?_
        rintro e w10 ⟨rfl, H14⟩
        go_wp2
        go_ret
        exact ⟨rfl, H14.out⟩

theorem apart_any (A : Option Addr) (c : Nat) (l : List DOp) (name : ByteArray) (w : World) (hA : DOps w A l) (hl : l.length ≤ 140737488351232) (hks : name.size ≤ 140737488351232) :
    Calls Try.prog 4 #[.slice A l.length c, .string name] w fun e w' => e = .returned (.bool true) ∧ Below w.heap.size w w' := by
  cases hf : fewB l with
  | false => exact apart_few A c l name w hA hl hf
  | true =>
    cases hk : nmB name with
    | false => exact apart_name A c l name w hA hl hf (by omega) hk
    | true => exact apart_in A _ c l rfl name w hA hl hf (by omega) hk
end Go.Proofs.Ytfhdcjfkngflbaa
