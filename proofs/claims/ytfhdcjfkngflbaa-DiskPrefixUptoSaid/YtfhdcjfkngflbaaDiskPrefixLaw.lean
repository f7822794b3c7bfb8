/-
  disk: the law DiskPrefix, walked. Own work.
-/
import Derived.Test.YtfhdcjfkngflbaaDiskPrefix
set_option linter.unusedSimpArgs false
set_option linter.unusedVariables false
namespace Go.Proofs.Ytfhdcjfkngflbaa
open Go Go.RowKit

theorem prefix_few (A : Option Addr) (c : Nat) (l : List DOp) (keep : Int) (w : World) (hA : DOps w A l) (hl : l.length ≤ 140737488351232) (hf : fewB l = false) :
    Calls Try.prog 3 #[.slice A l.length c, .int .i64 keep] w fun e w' => e = .returned (.bool true) ∧ Below w.heap.size w w' := by
  have HF : Hid (∀ W, Below w.heap.size w W → Calls Try.prog 6 #[.slice A l.length c] W fun e w' => e = .returned (.bool false) ∧ Below W.heap.size W w') := fun W hW => by
    have := few_any A c l W (hA.below hW) hl
    rw [hf] at this; exact this
  clear hA hl hf
  go_enter Try.func3, Try.ntmps3
  go_wp2_with fail
  refine (awake_any _).mono ?_
  rintro e w1 ⟨rfl, hb⟩
  have hb1 := Lib.hid hb
  clear hb
  go_wp2_with (go_at_call 6; refine (HF.out _ hb1.out).mono ?_; rintro e w2 ⟨rfl, hb2⟩)
  go_ret
  exact ⟨rfl, hb1.out.trans (hb2.mono hb1.out.size)⟩

theorem prefix_neg (A : Option Addr) (c : Nat) (l : List DOp) (keep : Int) (w : World) (hA : DOps w A l) (hl : l.length ≤ 140737488351232) (hf : fewB l = true) (hk : keep < 0) :
    Calls Try.prog 3 #[.slice A l.length c, .int .i64 keep] w fun e w' => e = .returned (.bool true) ∧ Below w.heap.size w w' := by
  have HF : Hid (∀ W, Below w.heap.size w W → Calls Try.prog 6 #[.slice A l.length c] W fun e w' => e = .returned (.bool true) ∧ Below W.heap.size W w') := fun W hW => by
    have := few_any A c l W (hA.below hW) hl
    rw [hf] at this; exact this
  have d : decide (keep < 0) = true := by simpa using hk
  clear hA hl hf
  go_enter Try.func3, Try.ntmps3
  go_wp2_with fail
  refine (awake_any _).mono ?_
  rintro e w1 ⟨rfl, hb⟩
  have hb1 := Lib.hid hb
  clear hb
  go_wp2_with (go_at_call 6; refine (HF.out _ hb1.out).mono ?_; rintro e w2 ⟨rfl, hb2⟩)
  go_ret
  exact ⟨rfl, hb1.out.trans (hb2.mono hb1.out.size)⟩

set_option maxRecDepth 100000 in
set_option maxHeartbeats 2000000 in
theorem prefix_in (A : Option Addr) (n c : Nat) (l : List DOp) (hln : l.length = n) (keep : Int) (w : World) (hA : DOps w A l) (hl : n ≤ 140737488351232) (hf : fewB l = true) (hk : ¬ keep < 0) (hk2 : keep ≤ 9223372036854775807) :
    Calls Try.prog 3 #[.slice A n c, .int .i64 keep] w fun e w' => e = .returned (.bool true) ∧ Below w.heap.size w w' := by
  have HFW := few_is hf
  have HW : Hid ((∀ o ∈ l, o.p.length ≤ 40) ∧ n ≤ 80) := ⟨HFW.1, by rw [← hln]; exact HFW.2⟩
  have HF : Hid (∀ W, Below w.heap.size w W → Calls Try.prog 6 #[.slice A n c] W fun e w' => e = .returned (.bool true) ∧ Below W.heap.size W w') := fun W hW => by
    have := few_any A c l W (hA.below hW) (by omega)
    rw [hf, hln] at this; exact this
  have HA := Lib.hid hA
  have HL : Hid (l.length = n) := hln
  have HK : Hid (0 ≤ keep ∧ keep ≤ 9223372036854775807) := ⟨by omega, hk2⟩
  have dk : decide (keep < 0) = false := by rw [decide_eq_false_iff_not]; exact hk
  clear hA hl hf hk hk2 HFW hln
  go_enter Try.func3, Try.ntmps3
  go_wp2_with fail
  refine (awake_any _).mono ?_
  rintro e w1 ⟨rfl, hb⟩
  have hb1 := Lib.hid hb
  clear hb
  go_wp2_with (go_at_call 6; refine (HF.out _ hb1.out).mono ?_; rintro e w2 ⟨rfl, hb2⟩; have hb2' : Hid (Below w.heap.size w w2) := (hb1.out.trans (hb2.mono hb1.out.size)); clear hb2)
  refine (newDisk_any _).mono ?_
  rintro e w' ⟨rfl, rfl⟩
  obtain ⟨w3, hw3⟩ : ∃ w3, w3 = (w2.alloc (.map #[] 0)).alloc (.cells #[.map (some w2.heap.size), .int .i64 0] 48) := ⟨_, rfl⟩
  obtain ⟨Bd, hBd⟩ : ∃ Bd, Bd = w2.heap.size + 1 := ⟨_, rfl⟩
  have H3 : Hid (Below w2.heap.size w2 w3 ∧ Dk w2.heap.size w3 Bd (fun _ => none) 0 0 (newSt w2)) := by
    rw [hw3, hBd]; exact ⟨((Below.refl _ _).alloc (Nat.le_refl _) _).alloc (by simp) _, dk_new w2⟩
  rw [← hw3, ← hBd]
  clear hw3 hBd
  go_wp2_with fail
  refine (newDisk_any _).mono ?_
  rintro e w' ⟨rfl, rfl⟩
  obtain ⟨w4, hw4⟩ : ∃ w4, w4 = (w3.alloc (.map #[] 0)).alloc (.cells #[.map (some w3.heap.size), .int .i64 0] 48) := ⟨_, rfl⟩
  obtain ⟨Bo, hBo⟩ : ∃ Bo, Bo = w3.heap.size + 1 := ⟨_, rfl⟩
  have H4 : Hid (PfIn none w w2.heap.size Bd Bo 0 w4) := by
    have h1 := two_new w3 w3 _ _ _ _ _ H3.out.2
    rw [← hw4, ← hBo] at h1
    have hb : Below w3.heap.size w3 w4 := by rw [hw4]; exact ((Below.refl _ _).alloc (Nat.le_refl _) _).alloc (by simp) _
    exact ⟨_, _, _, _, _, h1, ⟨fun _ => rfl, fun k p hp => (by cases hp), (by simp), (by simp), (hb2'.out.trans (H3.out.1.mono hb2'.out.size)).trans (hb.mono (Nat.le_trans hb2'.out.size H3.out.1.size)), hb2'.out.size⟩⟩
  rw [← hw4, ← hBo]
  clear hw4 hBo H3
  go_wp2
  go_loopw [30] (fun i wr => ∃ (j : Nat), j ≤ n ∧ i = .int .i64 j ∧ Hid (PfIn none w w2.heap.size Bd Bo j wr)) (fun i _ => n - (intOf i).toNat)
  case atStart => exact ⟨0, Nat.zero_le _, rfl, H4.out⟩
  case round =>
    obtain ⟨j, hj, rfl, HS⟩ := hrel
    by_cases hlt : j < n
    · obtain ⟨o, ho⟩ : ∃ o, Hid (l[j]? = some o) := ⟨_, List.getElem?_eq_getElem (by have := HL.out; omega)⟩
      obtain ⟨g, off, rfl, d0, d1, d2, d3, dby, dns, dps, _, _⟩ := HA.out j o ho.out
      have hold := HS.out.old
      have hg : g < w.heap.size := World.block_lt_of_cell? w _ d0
      replace d0 := (hold.cell (p := ⟨g, off + j * 4, none⟩) hg).trans d0
      replace d1 := (hold.cell (p := ⟨g, off + j * 4 + 1, none⟩) hg).trans d1
      replace d2 := (hold.cell (p := ⟨g, off + j * 4 + 2, none⟩) hg).trans d2
      replace d3 := (hold.cell (p := ⟨g, off + j * 4 + 3, none⟩) hg).trans d3
      have hj0 : ((0 : Int) ≤ j) := by omega
      have hj1 : ((j : Nat) : Int) < n := by omega
      have hw1 : IntKind.i64.wrap ((j : Int) + 1) = ((j + 1 : Nat) : Int) := by have := HW.out; rw [IntKind.wrap_i64]; omega
      obtain ⟨m, hm⟩ : ∃ m, Hid (o.p.length = m ∧ m ≤ 40) := ⟨_, rfl, HW.out.1 o (List.mem_of_getElem? ho.out)⟩
      rw [hm.out.1] at d2
      obtain ⟨kd, hkd⟩ : ∃ z, Hid (o.kind = z) := ⟨_, rfl⟩
      obtain ⟨nm, hnm⟩ : ∃ z, Hid (o.name = z) := ⟨_, rfl⟩
      obtain ⟨N, hN⟩ : ∃ z, Hid (o.n = z) := ⟨_, rfl⟩
      obtain ⟨Ap, hAp⟩ : ∃ z, Hid (o.A = z) := ⟨_, rfl⟩
      obtain ⟨cp, hcp⟩ : ∃ z, Hid (o.c = z) := ⟨_, rfl⟩
      rw [hkd.out] at d0
      rw [hnm.out] at d1
      rw [hAp.out, hcp.out] at d2
      rw [hN.out] at d3
      have HBY : Hid (BytesAt w Ap o.p ∧ nm.size ≤ 4611686018427387904 ∧ j < 80) := ⟨by rw [← hAp.out]; exact dby, by rw [← hnm.out]; omega, by have := HW.out.2; omega⟩
      have HIN := Lib.hid (HS.out.put (.cells #[.int .i64 kd, .string nm, .slice Ap m cp, .int .i64 N] 29))
      clear dby dns dps hold hg
      have HPUT := HIN
      go_wp2_with fail
      rcases pf_app1 HIN.out (by have := HBY.out.2.2; omega) nm Ap m cp o.p hm.out.1 HBY.out.2.1 HBY.out.1 with ⟨E, HAP⟩ | HAP
      · refine HAP.mono ?_
        rintro e w5 ⟨rfl, rfl⟩
        go_wp2
        exact ⟨⟨j + 1, hlt, by go_num, HIN.out.drop.skip⟩, by simp [intOf]; omega⟩
      · refine HAP.mono ?_
        clear HAP
        rintro e w5 ⟨rfl, H5⟩
        obtain ⟨b0, b1, b2, b3⟩ := H5.out.box
        go_wp2_with fail
        refine (pf_app2 H5.out HBY.out.2.2 Ap m cp hm.out.1 hm.out.2 HBY.out.2.1 HBY.out.1).mono ?_
        rintro e w6 ⟨rfl, H6⟩
        go_wp2_with fail
        · refine (pf_sync H6.out).mono ?_
          rintro e w7 ⟨rfl, H7⟩
          go_wp2
          exact ⟨⟨j + 1, hlt, by go_num, H7.out.drop⟩, by simp [intOf]; omega⟩
        · exact ⟨⟨j + 1, hlt, by go_num, H6.out.drop⟩, by simp [intOf]; omega⟩
    · obtain ⟨v, ks, S, HVF, HPD⟩ := HS.out.told (by have := HW.out.2; omega)
      have HV := Lib.hid HVF
      have hjn : j = n := by omega
      subst hjn
      obtain ⟨nk, hnk⟩ : ∃ q, Hid (ks.length = q ∧ q ≤ 64) := ⟨_, rfl, HVF.few⟩
      rw [hnk.out.1] at HPD
      have H9 := Lib.hid HPD
      clear HPD HVF HS hlt hj
      go_wp2_with fail
      refine (pf_loose HV.out H9.out).mono ?_
      rintro e w5 ⟨rfl, H5⟩
      go_wp2_with fail
      refine (pf_crash HV.out H5.out keep HK.out.1 HK.out.2).mono ?_
      rintro e w6 ⟨rfl, l', H6⟩
      go_wp2_with fail
      refine (pf_loose0 HV.out H6.out.2).mono ?_
      rintro e w7 ⟨rfl, H7⟩
      go_wp2_with fail
      refine (pf_names HV.out H7.out).mono ?_
      rintro e w8 ⟨A8, c8, ns, rfl, H8⟩
      have HX : Hid (ns.length = nk ∧ ns.Perm ks) := ⟨H8.out.1, H8.out.2.1⟩
      have HBD : Hid (∀ k p, v k = some p → (∀ x ∈ p.2, 0 ≤ leftF l' keep x.1 ∧ leftF l' keep x.1 ≤ x.2)) := fun k p hp => crash_bd HV.out.ok HV.out.mem HK.out.1 H6.out.1.1 H6.out.1.2 hp
      have HLA : Hid ((ns.map (lostV (leftF l' keep) v)).sum = max 0 (S - keep)) := by
        have h1 := lost_all HV.out.ok HV.out.mem HK.out.1 H6.out.1.1 H6.out.1.2
        rw [HV.out.sum] at h1
        rw [Hid, ← h1]
        exact sum_perm (H8.out.2.1.map _)
      have H8' : Hid (PfD w w2.heap.size Bd Bo v (crashV (leftF l' keep)) nk w8 ∧ StrRow w8 A8 ns) := ⟨H8.out.2.2.2, H8.out.2.2.1⟩
      obtain ⟨f, hf⟩ : ∃ f, Hid (leftF l' keep = f) := ⟨_, rfl⟩
      rw [hf.out] at H8' HBD HLA
      clear H5 H6 H7 H8 H9
      go_wp2
      go_loopw [10, 72] (fun t i wr => ∃ (q : Nat) (L : Int), q ≤ nk ∧ i = .int .i64 q ∧ t = .int .i64 L ∧ Hid (L = ((ns.take q).map (lostV f v)).sum ∧ (0 ≤ L ∧ L ≤ 3200 * q) ∧ PfD w w2.heap.size Bd Bo v (crashV f) nk wr ∧ StrRow wr A8 ns)) (fun _ i _ => nk - (intOf i).toNat)
      case atStart => exact ⟨0, 0, Nat.zero_le _, rfl, rfl, by simp, by simp, H8'.out.1, H8'.out.2⟩
      case round =>
        obtain ⟨q, L, hq, rfl, rfl, HS⟩ := hrel
        by_cases hlt : q < nk
        · obtain ⟨k, hkq⟩ : ∃ k, Hid (ns[q]? = some k) := ⟨_, List.getElem?_eq_getElem (by have := HX.out.1; omega)⟩
          obtain ⟨g8, rfl, hc8⟩ := HS.out.2.2.2 q k hkq.out
          obtain ⟨p, hp⟩ : ∃ p, Hid (v k = some p) := by
            have h1 : k ∈ ks := HX.out.2.mem_iff.1 (List.mem_of_getElem? hkq.out)
            have h2 := (HV.out.mem k).1 h1
            cases hvk : v k with
            | none => rw [hvk] at h2; cases h2
            | some p => exact ⟨p, rfl⟩
          have hlo := lost_one HV.out.ok hp.out (HBD.out k p hp.out)
          have hlen := HV.out.len k p hp.out
          obtain ⟨m, hm⟩ : ∃ m, Hid ((p.1.take (keepP f p)).length = m) := ⟨_, rfl⟩
          obtain ⟨n2, hn2⟩ : ∃ m, Hid (p.1.length = m) := ⟨_, rfl⟩
          have hmk : m = keepP f p := by have := hm.out; rw [List.length_take] at this; omega
          have hle : m ≤ n2 := by rw [hmk, ← hn2.out]; exact hlo.2.1
          obtain ⟨D, hD⟩ : ∃ D : Int, Hid ((n2 : Int) - m = D ∧ D = lostV f v k ∧ 0 ≤ D ∧ D ≤ 3200) := by
            refine ⟨_, rfl, ?_, by omega, by have := hn2.out; omega⟩
            unfold lostV
            rw [hp.out]
            simp only
            rw [hn2.out, ← hmk]
          have hq0 : ((0 : Int) ≤ q) := by omega
          have hq1 : ((q : Nat) : Int) < nk := by omega
          have hw1 : IntKind.i64.wrap ((q : Int) + 1) = ((q + 1 : Nat) : Int) := by have := hnk.out; rw [IntKind.wrap_i64]; omega
          have HSUM : Hid (L + D = ((ns.take (q + 1)).map (lostV f v)).sum ∧ 0 ≤ L + D ∧ L + D ≤ 3200 * ((q + 1 : Nat) : Int)) := by
            obtain ⟨h7, h8⟩ := List.getElem?_eq_some_iff.1 hkq.out
            refine ⟨?_, ?_, ?_⟩
            · rw [← List.take_append_getElem h7, h8, List.map_append, List.sum_append, ← HS.out.1]
              simp [hD.out.2.1]
            · have := HS.out.2.1; have := hD.out; omega
            · have := HS.out.2.1; have := hD.out; omega
          have HMK := Lib.hid hmk
          clear hlo hmk hlen
          go_wp2_with fail
          refine (pf_read1 (ks := ks) (S := S) HS.out.2.2.1 hp.out m hm.out).mono ?_
          rintro e w9 ⟨A9, c9, rfl, H9⟩
          go_wp2_with fail
          refine (pf_read2 H9.out.2.2 hp.out n2 hn2.out).mono ?_
          rintro e w10 ⟨A10, c10, rfl, hc10, H10⟩
          go_wp2_with fail
          have HBB : Calls Try.prog 14 #[.slice A9 m c9, .slice A10 m c10] w10 fun e w' => e = .returned (.bool true) ∧ w10 = w' := by
            have h1 := bytes_any A9 A10 (p.1.take (keepP f p)) (p.1.take m) c9 c10 w10 (H9.out.1.below H10.out.2.1) (H10.out.1.take m)
            have h2 : (p.1.take m).length = m := by rw [List.length_take, hn2.out]; omega
            rw [hm.out, h2] at h1
            refine h1.mono ?_
            rintro e w' ⟨rfl, rfl⟩
            exact ⟨by rw [HMK.out]; simp, rfl⟩
          refine HBB.mono ?_
          clear HBB
          rintro e w11 ⟨rfl, rfl⟩
          obtain ⟨L2, hL2⟩ : ∃ L2, Hid (L + D = L2) := ⟨_, rfl⟩
          have hwd : IntKind.i64.wrap ((n2 : Int) - (m : Int)) = D := by have h1 := hD.out; rw [IntKind.wrap_i64]; omega
          have hwl : IntKind.i64.wrap (L + D) = L2 := by have h1 := HSUM.out; have h2 := hL2.out; have h3 := hnk.out; rw [IntKind.wrap_i64]; omega
          have HE : Hid (L2 = ((ns.take (q + 1)).map (lostV f v)).sum ∧ (0 ≤ L2 ∧ L2 ≤ 3200 * ((q + 1 : Nat) : Int)) ∧ PfD w w2.heap.size Bd Bo v (crashV f) nk w10 ∧ StrRow w10 (some ⟨g8, 0, none⟩) ns) :=
            ⟨by rw [← hL2.out]; exact HSUM.out.1, by rw [← hL2.out]; exact HSUM.out.2, H10.out.2.2, (HS.out.2.2.2.below H9.out.2.1).below H10.out.2.1⟩
          clear hm hD
          go_wp2
          exact ⟨⟨q + 1, L2, hlt, by go_num, rfl, HE.out⟩, by simp [intOf]; omega⟩
        · have hqn : q = nk := by omega
          subst hqn
          have HL : Hid (L = max 0 (S - keep) ∧ 0 ≤ S ∧ S ≤ 204800) := by
            have h1 := HS.out.1
            rw [← HX.out.1, List.take_length, HLA.out] at h1
            exact ⟨h1, HV.out.bd⟩
          have hws : IntKind.i64.wrap (S - keep) = S - keep := by have h1 := HL.out; have h2 := HK.out; rw [IntKind.wrap_i64]; omega
          go_wp2
          go_ret
          exact ⟨congrArg (fun b => Ending.returned (.bool b)) (by rw [beq_iff_eq]; exact HL.out.1), HS.out.2.2.1.old⟩

theorem prefix_any (A : Option Addr) (c : Nat) (l : List DOp) (keep : Int) (w : World) (hA : DOps w A l) (hl : l.length ≤ 140737488351232) (hk : keep ≤ 9223372036854775807) :
    Calls Try.prog 3 #[.slice A l.length c, .int .i64 keep] w fun e w' => e = .returned (.bool true) ∧ Below w.heap.size w w' := by
  cases hf : fewB l with
  | false => exact prefix_few A c l keep w hA hl hf
  | true =>
    by_cases hk0 : keep < 0
    · exact prefix_neg A c l keep w hA hl hf hk0
    · exact prefix_in A _ c l rfl keep w hA hl hf hk0 hk
end Go.Proofs.Ytfhdcjfkngflbaa
