/-
  wal: Append, Sync, Len, Safe. Own work.
  wal: Checkpoint. Own work.
  wal, plain: how a log lies in files: which frames stand in which file, and which of them are loose. Own work.
  wal, plain: what a crash leaves of a log, and what is found of it. Own work.
  wal, plain: what is found of a log, file by file; what is torn is cut off, what stands behind it is deleted. Own work.
  wal: what was found, in memory. Own work.
  wal: what holds while find goes from file to file. Own work.
-/
import Derived.Test.YthokoimoiamddaaGreatDoorWalWrite2
import Derived.Test.YthokoimoiamddaaGreatDoorB8
import Derived.Test.YthokoimoiamddaaGreatDoorB6
set_option linter.unusedSimpArgs false
set_option linter.unusedVariables false
namespace Go.Proofs.YthokoimoiamddaaGreatDoor
open Go Go.RowKit

theorem app_nil (A : Option Addr) (m c : Nat) (w : World) : Calls Tryz.prog 12 #[.pointer none, .slice A m c] w fun e w' => e = .returned (.iface 42 (.int .i64 19)) ∧ w = w' := by
  go_enter Tryz.func12, Tryz.ntmps12
  go_wp2
  go_ret
  exact ⟨rfl, rfl⟩
theorem app_long (g : Nat) (A : Option Addr) (m c : Nat) (w : World) (h : 65536 < m) : Calls Tryz.prog 12 #[.pointer (some ⟨g, 0, none⟩), .slice A m c] w fun e w' => e = .returned (.iface 42 (.int .i64 2)) ∧ w = w' := by
  have h1 : (65536 : Int) < (m : Int) := by omega
  go_enter Tryz.func12, Tryz.ntmps12
  go_wp2
  go_ret
  exact ⟨rfl, rfl⟩
theorem wsync_nil (w : World) : Calls Tryz.prog 13 #[.pointer none] w fun e w' => e = .returned (.iface 42 (.int .i64 19)) ∧ w = w' := by
  go_enter Tryz.func13, Tryz.ntmps13
  go_wp2
  go_ret
  exact ⟨rfl, rfl⟩
theorem chk_nil (A : Option Addr) (m c : Nat) (w : World) : Calls Tryz.prog 10 #[.pointer none, .slice A m c] w fun e w' => e = .returned (.iface 42 (.int .i64 19)) ∧ w = w' := by
  go_enter Tryz.func10, Tryz.ntmps10
  go_wp2
  go_ret
  exact ⟨rfl, rfl⟩
theorem chk_long (g : Nat) (A : Option Addr) (m c : Nat) (w : World) (h : 524288 < m) : Calls Tryz.prog 10 #[.pointer (some ⟨g, 0, none⟩), .slice A m c] w fun e w' => e = .returned (.iface 42 (.int .i64 2)) ∧ w = w' := by
  have h1 : (524288 : Int) < (m : Int) := by omega
  go_enter Tryz.func10, Tryz.ntmps10
  go_wp2
  go_ret
  exact ⟨rfl, rfl⟩
theorem len_nil (w : World) : Calls Tryz.prog 18 #[.pointer none] w fun e w' => e = .returned (.int .i64 0) ∧ w = w' := by
  go_enter Tryz.func18, Tryz.ntmps18
  go_wp2
  go_ret
  exact ⟨rfl, rfl⟩
theorem safe_nil (w : World) : Calls Tryz.prog 19 #[.pointer none] w fun e w' => e = .returned (.int .i64 0) ∧ w = w' := by
  go_enter Tryz.func19, Tryz.ntmps19
  go_wp2
  go_ret
  exact ⟨rfl, rfl⟩
section
variable {base g B seg file size count safe n file' size' n' : Nat} {w : World} {nm : ByteArray} {v v' : Vw} {t t' : Int} {s : St}
theorem len_any (h : LogAt w g B nm seg file size count safe) : Calls Tryz.prog 18 #[.pointer (some ⟨g, 0, none⟩)] w fun e w' => e = .returned (.int .i64 count) ∧ w = w' := by
  obtain ⟨k0, k1, k2, k3, k4, k5, k6, kf⟩ := h.cells
  clear h
  go_enter Tryz.func18, Tryz.ntmps18
  go_wp2
  go_ret
  exact ⟨rfl, rfl⟩
theorem safe_any (h : LogAt w g B nm seg file size count safe) : Calls Tryz.prog 19 #[.pointer (some ⟨g, 0, none⟩)] w fun e w' => e = .returned (.int .i64 safe) ∧ w = w' := by
  obtain ⟨k0, k1, k2, k3, k4, k5, k6, kf⟩ := h.cells
  clear h
  go_enter Tryz.func19, Tryz.ntmps19
  go_wp2
  go_ret
  exact ⟨rfl, rfl⟩
/-- Append, where the frame is written. -/
theorem app_ok (A : Option Addr) (m c : Nat) (hm : m ≤ 65536) (hc : count ≤ 1000000)
    (hw : Calls Tryz.prog 27 #[.pointer (some ⟨g, 0, none⟩), .int .u8 0, .slice A m c, .bool false] w fun e w' => e = .returned .nilIface ∧ ∃ s', Wk base w' g B nm seg file' size' count safe v' t' n' s' ∧ WFr g s s' w w') :
    Calls Tryz.prog 12 #[.pointer (some ⟨g, 0, none⟩), .slice A m c] w fun e w' => e = .returned .nilIface ∧ ∃ s', Wk base w' g B nm seg file' size' (count + 1) safe v' t' n' s' ∧ WFr g s s' w w' := by
  have h1 : ¬ (65536 : Int) < (m : Int) := by omega
  have HW := Lib.hid hw
  have hc1 : IntKind.i64.wrap ((count : Int) + 1) = (count : Int) + 1 := by rw [IntKind.wrap_i64]; omega
  clear hw
  go_enter Tryz.func12, Tryz.ntmps12
  go_wp2_with (go_at_call 27; refine HW.out.mono ?_; rintro e w1 ⟨rfl, s1, hk, hf⟩; refine Hid.out ?_)
  have HK := Lib.hid hk
  have HF := Lib.hid hf
  obtain ⟨k0, k1, k2, k3, k4, k5, k6, kf⟩ := hk.lg.cells
  clear hk hf
  refine Lib.hid ?_
  go_wp2_with fail
  go_ret
  exact ⟨rfl, s1, HK.out.set5 (count + 1), HF.out.trans (WFr.of_touch (Touch.set _ _ _ _))⟩
/-- Append, where there is no room. -/
theorem app_full (A : Option Addr) (m c : Nat) (hm : m ≤ 65536)
    (hw : Calls Tryz.prog 27 #[.pointer (some ⟨g, 0, none⟩), .int .u8 0, .slice A m c, .bool false] w fun e w' => e = .returned (.iface 42 (.int .i64 11)) ∧ Below w.heap.size w w') :
    Calls Tryz.prog 12 #[.pointer (some ⟨g, 0, none⟩), .slice A m c] w fun e w' => e = .returned (.iface 42 (.int .i64 11)) ∧ Below w.heap.size w w' := by
  have h1 : ¬ (65536 : Int) < (m : Int) := by omega
  have HW := Lib.hid hw
  clear hw
  go_enter Tryz.func12, Tryz.ntmps12
  go_wp2_with (go_at_call 27; refine HW.out.mono ?_; rintro e w1 ⟨rfl, hb⟩)
  go_ret
  exact ⟨rfl, hb⟩
/-- Sync: all that was appended is safe. -/
theorem wsync_any (h : Wk base w g B nm seg file size count safe v t n s) : Calls Tryz.prog 13 #[.pointer (some ⟨g, 0, none⟩)] w fun e w' => e = .returned .nilIface ∧ ∃ s', Wk base w' g B nm seg file size count count (syncV v) t n s' ∧ WFr g s s' w w' := by
  have HK := Lib.hid h
  obtain ⟨k0, k1, k2, k3, k4, k5, k6, kf⟩ := h.lg.cells
  have HS : Hid (Wk base (w.setCell ⟨g, 6, none⟩ (.int .i64 count)) g B nm seg file size count count v t n s) := h.set6 count
  have HT : Hid (WFr g s s w (w.setCell ⟨g, 6, none⟩ (.int .i64 count))) := WFr.of_touch (Touch.set _ _ _ _)
  have q0 : (w.setCell ⟨g, 6, none⟩ (.int .i64 count)).cell? ⟨g, 0, none⟩ = some (.pointer (some ⟨B, 0, none⟩)) := HS.out.lg.cells.1
  clear h
  go_enter Tryz.func13, Tryz.ntmps13
  go_wp2_with (go_at_call 28; refine (dk_sync HS.out.dk).mono ?_; rintro e w1 ⟨rfl, s1, d1, d2, d3⟩; refine Hid.out ?_)
  have HK1 : Hid (Wk base w1 g B nm seg file size count count (syncV v) t n s1) := HS.out.disk d1 d2
  have HF1 : Hid (WFr g s s1 w w1) := HT.out.trans (WFr.of_frame d2)
  clear d1 d2 d3
  refine Lib.hid ?_
  go_wp2_with fail
  go_ret
  exact ⟨rfl, s1, HK1.out, HF1.out⟩
end
end Go.Proofs.YthokoimoiamddaaGreatDoor
set_option linter.unusedSimpArgs false
set_option linter.unusedVariables false
namespace Go.Proofs.YthokoimoiamddaaGreatDoor
open Go Go.RowKit

/-- So many files are gone. -/
def dropsV (nm : ByteArray) (v : Vw) (l : List Nat) : Vw := l.foldl (fun v n => dropV v (pathB nm n)) v
theorem dropsV_snoc (nm : ByteArray) (v : Vw) (l : List Nat) (n : Nat) : dropsV nm v (l ++ [n]) = dropV (dropsV nm v l) (pathB nm n) := by simp [dropsV]
theorem dropsV_other (nm : ByteArray) (v : Vw) (l : List Nat) (k : ByteArray) (h : ∀ n ∈ l, k ≠ pathB nm n) : dropsV nm v l k = v k := by
  induction l generalizing v with
  | nil => rfl
  | cons n l ih =>
    show dropsV nm (dropV v (pathB nm n)) l k = _
    rw [ih _ fun m hm => h m (by simp [hm])]
    unfold dropV
    rw [if_neg (h n (by simp))]
theorem own_row_wfr {g : Nat} {s s' : St} {w w' : World} {base : Nat} {e : TypeId} {size n : Nat} {x : Value} {xs : List Value} (h : w.ownsRow base e size x n xs) (hf : WFr g s s' w w') (ho : ∀ k, x.ownBlock = some k → ¬ s.own k ∧ k ≠ g) : w'.ownsRow base e size x n xs ∧ ∀ k, x.ownBlock = some k → ¬ s'.own k ∧ k ≠ g := by
  refine ⟨ownsRow_keep h fun k hk => hf.block k (own_block h hk).choose_spec.2.2 (ho k hk).1 (ho k hk).2, fun k hk => ⟨fun h2 => ?_, (ho k hk).2⟩⟩
  rcases hf.own k h2 with h3 | h3
  · exact (ho k hk).1 h3
  · have := (own_block h hk).choose_spec.2.2; omega

set_option maxHeartbeats 4000000 in
theorem chk_ok (base g B seg file size count safe n file' size' n' : Nat) (nm : ByteArray) (v v' : Vw) (t t' : Int) (s : St) (ns : List Nat) (A : Option Addr) (m c : Nat) (w : World) (h : Wk base w g B nm seg file size count safe v t n s) (hm : m ≤ 524288) (hn64 : n ≤ 64)
    (hnm : NmAt (fun k => (v k).isSome) nm ns) (hp : PathOK nm)
    (hw : ∀ W, Below w.heap.size w W → Calls Tryz.prog 27 #[.pointer (some ⟨g, 0, none⟩), .int .u8 1, .slice A m c, .bool true] W fun e w' => e = .returned .nilIface ∧ ∃ s', Wk base w' g B nm seg file' size' count safe v' t' n' s' ∧ WFr g s s' W w')
    (hv' : ∀ x ∈ ns, (v' (pathB nm x)).isSome = true) :
    Calls Tryz.prog 10 #[.pointer (some ⟨g, 0, none⟩), .slice A m c] w fun e w' => e = .returned .nilIface ∧ ∃ s', Wk base w' g B nm seg file' size' 0 0 (dropsV nm (syncV v') ns) t' (n' - ns.length) s' ∧ WFr g s s' w w' := by
  have h1 : ¬ (524288 : Int) < (m : Int) := by omega
  have HK := Lib.hid h
  have HW := Lib.hid hw
  have HP := Lib.hid hp
  have HV := Lib.hid hv'
  have HNM := Lib.hid hnm
  have HNU := Lib.hid (numbers_any base g B seg file size count safe nm v t n s ns w h.dk h.lg hnm hp.1 h.err hn64)
  obtain ⟨N, hN⟩ : ∃ N, Hid (ns.length = N) := ⟨_, rfl⟩
  rw [hN.out] at HNU
  clear h hw hp hv' hnm
  go_enter Tryz.func10, Tryz.ntmps10
  go_wp2_with (go_at_call 26; refine HNU.out.mono ?_; rintro e w1 ⟨An, cn, rfl, r1, b1⟩; refine Hid.out ?_)
  have HB1 := Lib.hid b1
  have HR1 := Lib.hid r1
  clear r1 b1 HNU
  refine Lib.hid ?_
  go_wp2_with (go_at_call 27; refine (HW.out w1 HB1.out).mono ?_; rintro e w2 ⟨rfl, s2, hk2, hf2⟩; refine Hid.out ?_)
  have HO1 : Hid (∀ k, (Value.slice An N cn).ownBlock = some k → ¬ s.own k ∧ k ≠ g) := fun k hk => by
    have h2 := (own_block HR1.out hk).choose_spec.2.1
    refine ⟨fun ho => ?_, fun e => ?_⟩
    · have := HK.out.dk.at_.lt ho; omega
    · have := HK.out.lg.lt; omega
  have HR2 := Lib.hid (own_row_wfr HR1.out hf2 HO1.out)
  have HK2 := Lib.hid hk2
  have HF2 : Hid (WFr g s s2 w w2) := (WFr.of_below HB1.out).trans hf2
  obtain ⟨k0, k1, k2, k3, k4, k5, k6, kf⟩ := hk2.lg.cells
  clear hk2 hf2 HR1 HO1
  refine Lib.hid ?_
  go_wp2_with (go_at_call 28; refine (dk_sync HK2.out.dk).mono ?_; rintro e w3 ⟨rfl, s3, d1, d2, d3⟩; refine Hid.out ?_)
  have HK3 : Hid (Wk base w3 g B nm seg file' size' count safe (syncV v') t' n' s3) := HK2.out.disk d1 d2
  have HF3 : Hid (WFr g s s3 w w3) := HF2.out.trans (WFr.of_frame d2)
  have HR3 := Lib.hid (own_row_wfr HR2.out.1 (WFr.of_frame (g := g) d2) HR2.out.2)
  clear d1 d2 d3 k0 k1 k2 k3 k4 k5 k6 kf HR2 HK2 HF2
  refine Lib.hid ?_
  go_wp2_with fail
  go_loopw [33] (fun i wr => ∃ (j : Nat), j ≤ N ∧ i = .int .i64 j ∧ Hid (∃ sr, Wk base wr g B nm seg file' size' count safe (dropsV nm (syncV v') (ns.take j)) t' (n' - j) sr ∧ WFr g s sr w wr ∧ wr.ownsRow w.heap.size 3 1 (.slice An N cn) N (natVs ns) ∧ ∀ k, (Value.slice An N cn).ownBlock = some k → ¬ sr.own k ∧ k ≠ g)) (fun i _ => N - (intOf i).toNat)
  case atStart => exact ⟨0, Nat.zero_le _, rfl, s3, HK3.out, HF3.out, HR3.out⟩
  case round =>
    obtain ⟨j, hj, rfl, HS⟩ := hrel
    obtain ⟨sr, hkr, hfr, hrr, hor⟩ := HS.out
    have HKR := Lib.hid hkr
    have HFR := Lib.hid hfr
    have HRR := Lib.hid (And.intro hrr hor)
    clear hkr hfr hrr hor HS
    obtain ⟨k0, k1, k2, k3, k4, k5, k6, kf⟩ := HKR.out.lg.cells
    rcases Nat.lt_or_ge j N with hlt | hge
    · obtain ⟨x, hx⟩ : ∃ x, Hid (ns[j]? = some x) := ⟨_, List.getElem?_eq_getElem (by have := hN.out; omega)⟩
      have hxm : x ∈ ns := List.mem_of_getElem? hx.out
      have hx100 : x < 100 := HNM.out.bnd x hxm
      obtain ⟨ga, rfl, _, hcell, _, _⟩ := own_cell HRR.out.1 (i := j) (v := .int .i64 (x : Int)) (by rw [natVs, List.getElem?_map, hx.out]; rfl)
      have hw1 : IntKind.i64.wrap ((j : Int) + 1) = ((j + 1 : Nat) : Int) := by
        have h9 := HNM.out.inc
        have h8 : ns.length ≤ 100 := by
          have := (List.nodup_iff_pairwise_ne.2 (h9.imp fun hab => by omega) : ns.Nodup)
          have := this.length_le_of_subset (l₂ := List.range 100) fun y hy => List.mem_range.2 (HNM.out.bnd y hy)
          simpa using this
        have := hN.out
        rw [IntKind.wrap_i64]; omega
      obtain ⟨P, hP⟩ : ∃ P : ByteArray, Hid (pathB nm x = P) := ⟨_, rfl⟩
      have htk : Hid (ns.take (j + 1) = ns.take j ++ [x]) := by
        obtain ⟨h7, h8⟩ := List.getElem?_eq_some_iff.1 hx.out
        rw [Hid, ← h8, List.take_append_getElem]
      have hsome : Hid (∃ q, dropsV nm (syncV v') (ns.take j) P = some q) := by
        rw [← hP.out]
        have h9 : dropsV nm (syncV v') (ns.take j) (pathB nm x) = syncV v' (pathB nm x) := by
          refine dropsV_other nm _ _ _ fun y hy e => ?_
          have h8 := path_inj nm x y hx100 (HNM.out.bnd y (List.mem_of_mem_take hy)) e
          subst h8
          have h7 := HNM.out.inc
          have h6 : (ns.take j ++ ns.drop j).Pairwise (· < ·) := by rw [List.take_append_drop]; exact h7
          rw [List.pairwise_append] at h6
          have h5 : x ∈ ns.drop j := by
            obtain ⟨h4, h3⟩ := List.getElem?_eq_some_iff.1 hx.out
            rw [List.drop_eq_getElem_cons h4, h3]; simp
          exact absurd (h6.2.2 x hy x h5) (Nat.lt_irrefl _)
        have h10 := HV.out x hxm
        rw [h9]
        unfold syncV
        cases hq : v' (pathB nm x) with
        | none => rw [hq] at h10; cases h10
        | some q => exact ⟨_, rfl⟩
      have HPA : Hid (∀ W, Below wr.heap.size wr W → Calls Tryz.prog 30 #[.pointer (some ⟨g, 0, none⟩), .int .i64 x] W fun e w' => e = .returned (.string P) ∧ w'.cell? ⟨g, 0, none⟩ = some (.pointer (some ⟨B, 0, none⟩)) ∧ Below wr.heap.size wr w') := fun W hW => by
        have h1 := HKR.out.below hW
        refine (path_any g nm x hx100 W h1.lg.cells.2.1 (Nat.le_trans HP.out.1 (by decide))).mono ?_
        rintro e w' ⟨rfl, hb⟩
        have h2 := h1.below hb
        exact ⟨by rw [hP.out], h2.lg.cells.1, hW.trans (hb.mono hW.size)⟩
      have HDE : Hid (∀ W, Below wr.heap.size wr W → Calls Tryz.prog 29 #[.pointer (some ⟨B, 0, none⟩), .string P] W fun e w' => e = .returned .nilIface ∧ w'.cell? ⟨g, 0, none⟩ = some (.pointer (some ⟨B, 0, none⟩)) ∧ Hid (∃ s', Wk base w' g B nm seg file' size' count safe (dropsV nm (syncV v') (ns.take (j + 1))) t' (n' - (j + 1)) s' ∧ WFr g s s' w w' ∧ w'.ownsRow w.heap.size 3 1 (.slice (some ⟨ga, 0, none⟩) N cn) N (natVs ns) ∧ ∀ k, (Value.slice (some ⟨ga, 0, none⟩) N cn).ownBlock = some k → ¬ s'.own k ∧ k ≠ g)) := fun W hW => by
        have h1 := HKR.out.below hW
        obtain ⟨q, hq⟩ := hsome.out
        refine (dk_delete h1.dk hq).mono ?_
        rintro e w' ⟨rfl, s', d1, d2, d3⟩
        have h2 := h1.disk d1 d2
        rw [← hP.out, ← dropsV_snoc, ← htk.out, Nat.sub_sub] at h2
        have h3 : WFr g sr s' wr w' := (WFr.of_below hW).trans (WFr.of_frame d2)
        have h4 := own_row_wfr HRR.out.1 h3 HRR.out.2
        exact ⟨rfl, h2.lg.cells.1, s', h2, HFR.out.trans h3, h4.1, h4.2⟩
      clear hx100 hxm
      go_wp2_with fail
      go_region_held_law (fun W => W.cell? ⟨g, 0, none⟩ = some (.pointer (some ⟨B, 0, none⟩))) (first | assumption | exact k0)
        (first
          | (go_at_call 30; refine (HPA.out _ (by first | exact Below.refl _ _ | exact (Below.refl _ _).drew | exact bdrewN (Below.refl _ _) _)).mono ?_; rintro e w4 ⟨rfl, hS4, hb4⟩)
          | (go_at_call 29; refine (HDE.out _ hb4).mono ?_; rintro e w5 ⟨rfl, hS5, h5⟩)
          | fail)
      have H5 := h5
      clear h5 hS5 hS4 hb4 k0 k1 k2 k3 k4 k5 k6 kf HPA HDE
      go_wp2_with fail
      exact ⟨⟨j + 1, hlt, by go_num, H5.out⟩, by simp [intOf]; omega⟩
    · have e : j = N := by omega
      subst e
      have htk : ns.take j = ns := List.take_of_length_le (by have := hN.out; omega)
      have HK9 := HKR.out
      rw [htk] at HK9
      have HK10 := Lib.hid HK9
      clear HK9
      go_wp2_with fail
      go_ret
      refine ⟨rfl, sr, ?_, HFR.out.trans ((WFr.of_touch (Touch.set _ _ _ _)).trans (WFr.of_touch (Touch.set _ _ _ _)))⟩
      rw [hN.out]
      exact (HK10.out.set5 0).set6 0
set_option maxHeartbeats 2000000 in
theorem chk_full (base g B seg file size count safe n : Nat) (nm : ByteArray) (v : Vw) (t : Int) (s : St) (ns : List Nat) (A : Option Addr) (m c : Nat) (w : World) (h : Wk base w g B nm seg file size count safe v t n s) (hm : m ≤ 524288) (hn64 : n ≤ 64)
    (hnm : NmAt (fun k => (v k).isSome) nm ns) (hp : PathOK nm)
    (hw : ∀ W, Below w.heap.size w W → Calls Tryz.prog 27 #[.pointer (some ⟨g, 0, none⟩), .int .u8 1, .slice A m c, .bool true] W fun e w' => e = .returned (.iface 42 (.int .i64 11)) ∧ Below w.heap.size w w') :
    Calls Tryz.prog 10 #[.pointer (some ⟨g, 0, none⟩), .slice A m c] w fun e w' => e = .returned (.iface 42 (.int .i64 11)) ∧ Below w.heap.size w w' := by
  have h1 : ¬ (524288 : Int) < (m : Int) := by omega
  have HW := Lib.hid hw
  have HNU := Lib.hid (numbers_any base g B seg file size count safe nm v t n s ns w h.dk h.lg hnm hp.1 h.err hn64)
  clear h hw hp hnm
  go_enter Tryz.func10, Tryz.ntmps10
  go_wp2_with (first | (go_at_call 26; refine HNU.out.mono ?_; rintro e w1 ⟨An, cn, rfl, r1, b1⟩) | (go_at_call 27; refine (HW.out w1 b1).mono ?_; rintro e w2 ⟨rfl, b2⟩))
  go_ret
  exact ⟨rfl, b2⟩
end Go.Proofs.YthokoimoiamddaaGreatDoor
set_option linter.unusedVariables false
set_option linter.unusedSimpArgs false
namespace Go.Proofs.YthokoimoiamddaaGreatDoor

/-- What a log holds: a snapshot, if there is one, and the records behind it. -/
structure Fnd where
  whole : Bool
  shot : List UInt8
  recs : List (List UInt8)
def fnd0 : Fnd := ⟨false, [], []⟩
def fnd1 (f : Fnd) : List UInt8 → Fnd
  | [] => f
  | c :: p => if c = 1 then ⟨true, p, []⟩ else ⟨f.whole, f.shot, f.recs ++ [p]⟩
def fndL (l : List (List UInt8)) : Fnd := l.foldl fnd1 fnd0
theorem fndL_append (l m : List (List UInt8)) : fndL (l ++ m) = m.foldl fnd1 (fndL l) := by simp [fndL]

/-- A frame: its file, its bytes. A loose one: its turn too. -/
abbrev Fr := Nat × List UInt8
abbrev Lf := Nat × List UInt8 × Int
def Lf.fr (x : Lf) : Fr := (x.1, x.2.1)
def pays (fr : List Fr) (n : Nat) : List (List UInt8) := (fr.filter fun x => decide (x.1 = n)).map (·.2)
def pc (x : Lf) : Int × Int := (x.2.2, (x.2.1.length : Int) + 8)
def pcs (lo : List Lf) (n : Nat) : List (Int × Int) := (lo.filter fun x => decide (x.1 = n)).map pc
theorem pays_append (a b : List Fr) (n : Nat) : pays (a ++ b) n = pays a n ++ pays b n := by simp [pays]
theorem pays_cons_same (x : Fr) (l : List Fr) : pays (x :: l) x.1 = x.2 :: pays l x.1 := by simp [pays]
theorem pays_cons_other (x : Fr) (l : List Fr) {n : Nat} (h : x.1 ≠ n) : pays (x :: l) n = pays l n := by simp [pays, h]
theorem pays_none {l : List Fr} {n : Nat} (h : ∀ x ∈ l, x.1 ≠ n) : pays l n = [] := by
  unfold pays
  rw [List.filter_eq_nil_iff.2 fun x hx => by simp [h x hx]]
  rfl
theorem pcs_append (a b : List Lf) (n : Nat) : pcs (a ++ b) n = pcs a n ++ pcs b n := by simp [pcs]
theorem pcs_none {l : List Lf} {n : Nat} (h : ∀ x ∈ l, x.1 ≠ n) : pcs l n = [] := by
  unfold pcs
  rw [List.filter_eq_nil_iff.2 fun x hx => by simp [h x hx]]
  rfl
theorem mem_pays {l : List Fr} {n : Nat} {p : List UInt8} (h : p ∈ pays l n) : (n, p) ∈ l := by
  unfold pays at h
  obtain ⟨x, hx, rfl⟩ := List.mem_map.1 h
  have := List.mem_filter.1 hx
  have e : x.1 = n := by simpa using this.2
  subst e
  exact this.1

/-- Things in the order of their files, file by file, are all things. -/
theorem flat_by {α β : Type} (key : α → Nat) (f : α → β) (ns : List Nat) (hns : ns.Pairwise (· < ·)) (l : List α) (hm : ∀ x ∈ l, key x ∈ ns) (ho : (l.map key).Pairwise (· ≤ ·)) : (ns.flatMap fun n => (l.filter fun x => decide (key x = n)).map f) = l.map f := by
  induction ns generalizing l with
  | nil =>
    cases l with
    | nil => rfl
    | cons x l => exact absurd (hm x (by simp)) (by simp)
  | cons n ns ih =>
    induction l with
    | nil => simp
    | cons x l ihl =>
      simp only [List.map_cons, List.pairwise_cons] at ho
      have hm2 : ∀ y ∈ l, key y ∈ n :: ns := fun y hy => hm y (by simp [hy])
      have h2 := ihl hm2 ho.2
      have hgt : ∀ m ∈ ns, n < m := (List.pairwise_cons.1 hns).1
      by_cases hx : key x = n
      · subst hx
        rw [List.flatMap_cons, List.filter_cons_of_pos (by simp), List.map_cons]
        rw [List.flatMap_cons] at h2
        have e : (ns.flatMap fun n => ((x :: l).filter fun y => decide (key y = n)).map f) = ns.flatMap fun n => (l.filter fun y => decide (key y = n)).map f := by
          rw [List.flatMap_def, List.flatMap_def]
          congr 1
          refine List.map_congr_left fun m hmm => ?_
          rw [List.filter_cons_of_neg]
          have := hgt m hmm
          simp; omega
        rw [e, List.cons_append, h2]
        rfl
      · have hxin : key x ∈ ns := by
          have := hm x (by simp)
          simp only [List.mem_cons] at this
          rcases this with h | h
          · exact absurd h hx
          · exact h
        have hno : ∀ y ∈ x :: l, key y ≠ n := by
          intro y hy e
          simp only [List.mem_cons] at hy
          rcases hy with rfl | hy
          · exact hx e
          · have h3 := ho.1 (key y) (List.mem_map.2 ⟨y, hy, rfl⟩)
            have h4 := hgt _ hxin
            omega
        have hin : ∀ y ∈ x :: l, key y ∈ ns := by
          intro y hy
          have := hm y hy
          simp only [List.mem_cons] at this
          rcases this with h | h
          · exact absurd h (hno y hy)
          · exact h
        rw [List.flatMap_cons, List.filter_eq_nil_iff.2 (fun y hy => by simpa using hno y hy), List.map_nil, List.nil_append]
        exact ih (List.pairwise_cons.1 hns).2 (x :: l) hin (by simp only [List.map_cons, List.pairwise_cons]; exact ho)
theorem flat_pays (ns : List Nat) (hns : ns.Pairwise (· < ·)) (l : List Fr) (hm : ∀ x ∈ l, x.1 ∈ ns) (ho : (l.map (·.1)).Pairwise (· ≤ ·)) : ns.flatMap (pays l) = l.map (·.2) := flat_by _ _ ns hns l hm ho
theorem flat_pcs (ns : List Nat) (hns : ns.Pairwise (· < ·)) (l : List Lf) (hm : ∀ x ∈ l, x.1 ∈ ns) (ho : (l.map (·.1)).Pairwise (· ≤ ·)) : ns.flatMap (pcs l) = l.map pc := flat_by _ _ ns hns l hm ho

section
variable (sm : List UInt8 → Nat) (pt : Nat → ByteArray)
def dataOf (fr : List Fr) (n : Nat) : List UInt8 := framesP sm (pays fr n)
/-- A log's files: which there are, the safe frames, the loose ones. -/
structure Lay (v vo : Vw) (ns : List Nat) (sa : List Fr) (lo : List Lf) (t : Int) : Prop where
  key : ∀ n ∈ ns, v (pt n) = some (dataOf sm (sa ++ lo.map Lf.fr) n, pcs lo n)
  other : ∀ k, (∀ n ∈ ns, k ≠ pt n) → v k = vo k
  inc : ns.Pairwise (· < ·)
  bnd : ∀ n ∈ ns, n < 100
  mem : ∀ x ∈ sa ++ lo.map Lf.fr, x.1 ∈ ns
  ord : ((sa ++ lo.map Lf.fr).map (·.1)).Pairwise (· ≤ ·)
  turns : lo.Pairwise (fun a b => a.2.2 < b.2.2)
  low : ∀ x ∈ lo, x.2.2 ≤ t
  pay : ∀ x ∈ sa ++ lo.map Lf.fr, x.2 ≠ [] ∧ x.2.length ≤ 1048576
/-- The same behind a crash: nothing is loose, one file may end in a frame that lost its end. -/
structure Torn (v vo : Vw) (ns : List Nat) (sa : List Fr) (nx : Nat) (tear : List UInt8) : Prop where
  key : ∀ n ∈ ns, v (pt n) = some (dataOf sm sa n ++ (if n = nx then tear else []), [])
  other : ∀ k, (∀ n ∈ ns, k ≠ pt n) → v k = vo k
  inc : ns.Pairwise (· < ·)
  bnd : ∀ n ∈ ns, n < 100
  mem : ∀ x ∈ sa, x.1 ∈ ns
  ord : (sa.map (·.1)).Pairwise (· ≤ ·)
  pay : ∀ x ∈ sa, x.2 ≠ [] ∧ x.2.length ≤ 1048576
  torn : tornP tear
  last : tear = [] ∨ nx ∈ ns ∧ ∀ x ∈ sa, x.1 ≤ nx
variable {sm pt}
variable {v vo : Vw} {ns : List Nat} {sa : List Fr} {lo : List Lf} {t : Int}
theorem dataOf_snoc (fr : List Fr) (n : Nat) (p : List UInt8) : dataOf sm (fr ++ [(n, p)]) n = dataOf sm fr n ++ frameP sm p := by
  unfold dataOf
  rw [pays_append, framesP_append]
  congr 1
  simp [pays, framesP]
theorem dataOf_other (fr : List Fr) {n m : Nat} (p : List UInt8) (h : n ≠ m) : dataOf sm (fr ++ [(n, p)]) m = dataOf sm fr m := by
  unfold dataOf
  rw [pays_append, pays_cons_other _ _ h]
  simp [pays]
/-- One more frame at the end of the last file. -/
theorem Lay.put (h : Lay sm pt v vo ns sa lo t) (hpt : ∀ a b, a < 100 → b < 100 → pt a = pt b → a = b) {n : Nat} (hn : n ∈ ns) (hl : ∀ m ∈ ns, m ≤ n) (p : List UInt8) (hp : p ≠ []) (hp2 : p.length ≤ 1048576) :
    Lay sm pt (appV v t (pt n) (frameP sm p)) vo ns sa (lo ++ [(n, p, t + 1)]) (t + 1) := by
  have e0 : sa ++ (lo ++ [(n, p, t + 1)]).map Lf.fr = (sa ++ lo.map Lf.fr) ++ [(n, p)] := by simp [Lf.fr]
  refine ⟨fun m hm => ?_, fun k hk => ?_, h.inc, h.bnd, ?_, ?_, ?_, ?_, ?_⟩
  · rw [e0]
    unfold appV
    by_cases e : m = n
    · subst e
      rw [if_pos rfl, h.key m hm, dataOf_snoc]
      simp only [Option.map_some, Option.getD_some, if_neg (frameP_ne p), pcs_append, frameP_length]
      simp [pcs, pc]
    · rw [if_neg fun h2 => e (hpt m n (h.bnd m hm) (h.bnd n hn) h2), h.key m hm, dataOf_other _ _ (fun h2 => e h2.symm), pcs_append]
      have : pcs [(n, p, t + 1)] m = [] := pcs_none (by simp; exact fun h2 => e h2.symm)
      rw [this, List.append_nil]
  · unfold appV
    rw [if_neg (hk n hn)]
    exact h.other k hk
  · rw [e0]
    intro x hx
    rcases List.mem_append.1 hx with hx | hx
    · exact h.mem x hx
    · simp only [List.mem_singleton] at hx; subst hx; exact hn
  · rw [e0, List.map_append, List.pairwise_append]
    refine ⟨h.ord, by simp, fun a ha b hb => ?_⟩
    obtain ⟨x, hx, rfl⟩ := List.mem_map.1 ha
    simp only [List.map_cons, List.map_nil, List.mem_singleton] at hb
    subst hb
    exact hl _ (h.mem x hx)
  · rw [List.pairwise_append]
    refine ⟨h.turns, by simp, fun a ha b hb => ?_⟩
    simp only [List.mem_singleton] at hb
    subst hb
    have := h.low a ha
    simp only; omega
  · intro x hx
    rcases List.mem_append.1 hx with hx | hx
    · have := h.low x hx; omega
    · simp only [List.mem_singleton] at hx; subst hx; simp
  · rw [e0]
    intro x hx
    rcases List.mem_append.1 hx with hx | hx
    · exact h.pay x hx
    · simp only [List.mem_singleton] at hx; subst hx; exact ⟨hp, hp2⟩

/-- A new file behind the others. -/
theorem Lay.fresh (h : Lay sm pt v vo ns sa lo t) (hpt : ∀ a b, a < 100 → b < 100 → pt a = pt b → a = b) {n : Nat} (hn : n < 100) (hl : ∀ m ∈ ns, m < n) (hvo : vo (pt n) = none) :
    Lay sm pt (appV v t (pt n) []) vo (ns ++ [n]) sa lo t := by
  have hne : ∀ x ∈ sa ++ lo.map Lf.fr, x.1 ≠ n := fun x hx e => by have := hl _ (h.mem x hx); omega
  have hnew : v (pt n) = none := by
    rw [h.other (pt n) fun m hm e => ?_, hvo]
    have := hpt n m hn (h.bnd m hm) e
    have := hl m hm
    omega
  refine ⟨fun m hm => ?_, fun k hk => ?_, ?_, ?_, ?_, h.ord, h.turns, h.low, h.pay⟩
  · unfold appV
    rcases List.mem_append.1 hm with hm | hm
    · have hlt := hl m hm
      rw [if_neg fun h2 => by have := hpt m n (h.bnd m hm) hn h2; omega]
      exact h.key m hm
    · simp only [List.mem_singleton] at hm
      subst hm
      rw [if_pos rfl, hnew]
      have e1 : dataOf sm (sa ++ lo.map Lf.fr) m = [] := by unfold dataOf; rw [pays_none hne]; rfl
      have e2 : pcs lo m = [] := pcs_none fun x hx => hne (Lf.fr x) (List.mem_append_right _ (List.mem_map.2 ⟨x, hx, rfl⟩))
      rw [e1, e2]
      rfl
  · unfold appV
    rw [if_neg (hk n (by simp))]
    exact h.other k fun m hm => hk m (by simp [hm])
  · rw [List.pairwise_append]
    refine ⟨h.inc, by simp, fun a ha b hb => ?_⟩
    simp only [List.mem_singleton] at hb
    subst hb
    exact hl a ha
  · intro m hm
    rcases List.mem_append.1 hm with hm | hm
    · exact h.bnd m hm
    · simp only [List.mem_singleton] at hm; subst hm; exact hn
  · intro x hx
    exact List.mem_append_left _ (h.mem x hx)

/-- All is safe. -/
theorem Lay.sync (h : Lay sm pt v vo ns sa lo t) (hvo : ∀ k p, vo k = some p → p.2 = []) : Lay sm pt (syncV v) vo ns (sa ++ lo.map Lf.fr) [] t := by
  refine ⟨fun n hn => ?_, fun k hk => ?_, h.inc, h.bnd, ?_, ?_, .nil, by simp, ?_⟩
  · unfold syncV
    rw [h.key n hn]
    simp [pcs]
  · unfold syncV
    rw [h.other k hk]
    cases hv : vo k with
    | none => rfl
    | some p => obtain ⟨a, b⟩ := p; have := hvo k _ hv; simp only at this; rw [this]; rfl
  · simpa using h.mem
  · simpa using h.ord
  · simpa using h.pay
theorem Lay.still (h : Lay sm pt v vo ns sa [] t) : Torn sm pt v vo ns sa 0 [] := by
  have h1 := h.mem; have h2 := h.ord; have h3 := h.pay
  simp only [List.map_nil, List.append_nil] at h1 h2 h3
  refine ⟨fun n hn => ?_, h.other, h.inc, h.bnd, h1, h2, h3, tornP_nil, .inl rfl⟩
  have := h.key n hn
  simpa [pcs] using this
/-- A file is gone. -/
theorem Lay.drop (h : Lay sm pt v vo ns sa [] t) (hpt : ∀ a b, a < 100 → b < 100 → pt a = pt b → a = b) {n : Nat} (hn : n < 100) (hvo : vo (pt n) = none) :
    Lay sm pt (dropV v (pt n)) vo (ns.filter fun m => decide (m ≠ n)) (sa.filter fun x => decide (x.1 ≠ n)) [] t := by
  have h1 := h.mem; have h2 := h.ord; have h3 := h.pay
  simp only [List.map_nil, List.append_nil] at h1 h2 h3
  refine ⟨fun m hm => ?_, fun k hk => ?_, h.inc.filter _, fun m hm => h.bnd m (List.mem_filter.1 hm).1, ?_, ?_, .nil, by simp, ?_⟩
  · obtain ⟨ha, hb⟩ := List.mem_filter.1 hm
    have hb : m ≠ n := by simpa using hb
    unfold dropV
    rw [if_neg fun e => hb (hpt m n (h.bnd m ha) hn e), h.key m ha]
    simp only [List.map_nil, List.append_nil]
    congr 2
    unfold dataOf
    congr 1
    unfold pays
    congr 1
    rw [List.filter_filter]
    refine List.filter_congr fun x hx => ?_
    by_cases e : x.1 = m
    · simp [e, hb]
    · simp [e]
  · unfold dropV
    by_cases e : k = pt n
    · subst e; rw [if_pos rfl, hvo]
    · rw [if_neg e]
      refine h.other k fun m hm e2 => ?_
      by_cases hmn : m = n
      · subst hmn; exact e e2
      · exact hk m (List.mem_filter.2 ⟨hm, by simpa using hmn⟩) e2
  · simp only [List.map_nil, List.append_nil]
    intro x hx
    obtain ⟨ha, hb⟩ := List.mem_filter.1 hx
    exact List.mem_filter.2 ⟨h1 x ha, by simpa using hb⟩
  · simp only [List.map_nil, List.append_nil]
    exact h2.sublist (List.filter_sublist.map _)
  · simp only [List.map_nil, List.append_nil]
    intro x hx
    exact h3 x (List.mem_filter.1 hx).1
end
end Go.Proofs.YthokoimoiamddaaGreatDoor
set_option linter.unusedVariables false
set_option linter.unusedSimpArgs false
namespace Go.Proofs.YthokoimoiamddaaGreatDoor

def totL (lo : List Lf) : Int := openOf (lo.map pc)
theorem totL_cons (x : Lf) (lo : List Lf) : totL (x :: lo) = (x.2.1.length : Int) + 8 + totL lo := by simp [totL, openOf, pc]
theorem totL_nonneg (lo : List Lf) : 0 ≤ totL lo := by
  induction lo with
  | nil => simp [totL, openOf]
  | cons x l ih => rw [totL_cons]; omega
theorem totL_append (a b : List Lf) : totL (a ++ b) = totL a + totL b := by simp [totL, openOf]
/-- The frames that are left whole, and the first that isn't. -/
theorem split_keep (lo : List Lf) (K : Int) (hK : 0 ≤ K) : ∃ l1 rest, lo = l1 ++ rest ∧ totL l1 ≤ K ∧ (rest = [] ∨ ∃ x r, rest = x :: r ∧ K - totL l1 < (x.2.1.length : Int) + 8) := by
  induction lo generalizing K with
  | nil => exact ⟨[], [], rfl, by simp [totL, openOf]; exact hK, .inl rfl⟩
  | cons x lo ih =>
    by_cases h : K < (x.2.1.length : Int) + 8
    · exact ⟨[], x :: lo, rfl, by simp [totL, openOf]; exact hK, .inr ⟨x, lo, rfl, by simp [totL, openOf]; omega⟩⟩
    · obtain ⟨l1, rest, e, h1, h2⟩ := ih (K - ((x.2.1.length : Int) + 8)) (by omega)
      refine ⟨x :: l1, rest, by rw [e]; rfl, by rw [totL_cons]; omega, ?_⟩
      rcases h2 with h2 | ⟨y, r, h2, h3⟩
      · exact .inl h2
      · exact .inr ⟨y, r, h2, by rw [totL_cons]; omega⟩
theorem leftP_whole (l1 m : List (Int × Int)) (K : Int) (hp : ∀ p ∈ l1, 0 < p.2) (h : openOf l1 ≤ K) : leftP (l1 ++ m) K = l1 ++ leftP m (K - openOf l1) := by
  induction l1 generalizing K with
  | nil => simp [openOf]
  | cons p l ih =>
    have h1 := hp p (by simp)
    rw [open_cons] at h
    have h0 : 0 ≤ openOf l := open_nonneg fun q hq => hp q (by simp [hq])
    have e : min K p.2 = p.2 := by omega
    simp only [List.cons_append, leftP, e]
    rw [ih (K - p.2) (fun q hq => hp q (by simp [hq])) (by omega), open_cons]
    congr 3
    omega
theorem leftP_zero (m : List (Int × Int)) (hp : ∀ p ∈ m, 0 < p.2) : leftP m 0 = m.map fun p => (p.1, 0) := by
  induction m with
  | nil => rfl
  | cons p l ih =>
    have h1 := hp p (by simp)
    have e : min 0 p.2 = 0 := by omega
    simp only [leftP, e, List.map_cons]
    rw [show (0 : Int) - 0 = 0 from rfl, ih fun q hq => hp q (by simp [hq])]
theorem leftP_all (l1 : List (Int × Int)) (K : Int) (hp : ∀ p ∈ l1, 0 < p.2) (h : openOf l1 ≤ K) : leftP l1 K = l1 := by
  have := leftP_whole l1 [] K hp h
  simpa [leftP] using this
theorem leftP_at (l1 : List (Int × Int)) (x : Int × Int) (m : List (Int × Int)) (K : Int) (hp : ∀ p ∈ l1 ++ x :: m, 0 < p.2) (h : openOf l1 ≤ K) (hx : K - openOf l1 < x.2) :
    leftP (l1 ++ x :: m) K = l1 ++ (x.1, K - openOf l1) :: m.map fun p => (p.1, 0) := by
  rw [leftP_whole l1 _ K (fun p h => hp p (by simp [h])) h]
  congr 1
  have e : min (K - openOf l1) x.2 = K - openOf l1 := by omega
  simp only [leftP, e]
  rw [Int.sub_self, leftP_zero m fun p h => hp p (by simp [h])]
theorem leftF_at (l1 : List (Int × Int)) (x : Int × Int) (m : List (Int × Int)) (K : Int) (hp : ∀ p ∈ l1 ++ x :: m, 0 < p.2) (hd : ((l1 ++ x :: m).map (·.1)).Nodup) (h : openOf l1 ≤ K) (hx : K - openOf l1 < x.2) :
    (∀ p ∈ l1, leftF (l1 ++ x :: m) K p.1 = p.2) ∧ leftF (l1 ++ x :: m) K x.1 = K - openOf l1 ∧ ∀ p ∈ m, leftF (l1 ++ x :: m) K p.1 = 0 := by
  have h1 := map_look (l1 ++ x :: m) K hd
  have h2 := leftP_at l1 x m K hp h hx
  have e : ∀ t, leftF (l1 ++ x :: m) K t = (lookP (leftP (l1 ++ x :: m) K) t).getD 0 := fun t => rfl
  have h3 : (l1 ++ x :: m).map (fun p => leftF (l1 ++ x :: m) K p.1) = (l1 ++ (x.1, K - openOf l1) :: m.map fun p => (p.1, 0)).map (·.2) := by
    rw [← h2]; exact h1
  simp only [List.map_append, List.map_cons, List.map_map] at h3
  obtain ⟨h4, h5⟩ := List.append_inj h3 (by simp)
  injection h5 with h5 h6
  refine ⟨fun p hp => ?_, h5, fun p hp => ?_⟩
  · exact List.map_inj_left.1 h4 p hp
  · exact List.map_inj_left.1 h6 p hp
theorem leftF_all (l1 : List (Int × Int)) (K : Int) (hp : ∀ p ∈ l1, 0 < p.2) (hd : (l1.map (·.1)).Nodup) (h : openOf l1 ≤ K) : ∀ p ∈ l1, leftF l1 K p.1 = p.2 := by
  have h1 := map_look l1 K hd
  have h2 : l1.map (fun p => leftF l1 K p.1) = l1.map (·.2) := by
    have e : (leftP l1 K).map (·.2) = l1.map (·.2) := by rw [leftP_all l1 K hp h]
    rw [← e]
    exact h1
  exact fun p hp => List.map_inj_left.1 h2 p hp

theorem leftSum_congr {f : Int → Int} {g : Int × Int → Int} {l : List (Int × Int)} (h : ∀ p ∈ l, f p.1 = g p) : leftSum f l = (l.map g).sum := by
  unfold leftSum
  rw [List.map_congr_left h]
theorem leftSum_append (f : Int → Int) (a b : List (Int × Int)) : leftSum f (a ++ b) = leftSum f a + leftSum f b := by simp [leftSum]
theorem leftSum_zero {f : Int → Int} {l : List (Int × Int)} (h : ∀ p ∈ l, f p.1 = 0) : leftSum f l = 0 := by
  induction l with
  | nil => rfl
  | cons p l ih =>
    have : leftSum f (p :: l) = f p.1 + leftSum f l := by simp [leftSum]
    rw [this, h p (by simp), ih fun q hq => h q (by simp [hq])]; rfl
theorem leftSum_full {f : Int → Int} {l : List (Int × Int)} (h : ∀ p ∈ l, f p.1 = p.2) : leftSum f l = openOf l := leftSum_congr h
theorem mem_pcs {lo : List Lf} {n : Nat} {p : Int × Int} (h : p ∈ pcs lo n) : p ∈ lo.map pc := by
  obtain ⟨x, hx, rfl⟩ := List.mem_map.1 h
  exact List.mem_map.2 ⟨x, (List.mem_filter.1 hx).1, rfl⟩

section
variable {sm : List UInt8 → Nat} {pt : Nat → ByteArray}
theorem len_pcs (lo : List Lf) (n : Nat) : ((framesP sm (pays (lo.map Lf.fr) n)).length : Int) = openOf (pcs lo n) := by
  rw [sumLen_frames]
  induction lo with
  | nil => rfl
  | cons x lo ih =>
    by_cases e : x.1 = n
    · subst e
      have e1 : pays ((x :: lo).map Lf.fr) x.1 = x.2.1 :: pays (lo.map Lf.fr) x.1 := pays_cons_same (Lf.fr x) _
      have e2 : pcs (x :: lo) x.1 = pc x :: pcs lo x.1 := by simp [pcs]
      rw [e1, e2, sumLen_cons, open_cons, ← ih]
      simp only [pc]
      omega
    · have e1 : pays ((x :: lo).map Lf.fr) n = pays (lo.map Lf.fr) n := pays_cons_other (Lf.fr x) _ e
      have e2 : pcs (x :: lo) n = pcs lo n := by simp [pcs, e]
      rw [e1, e2, ih]
variable {v vo : Vw} {ns : List Nat} {sa : List Fr} {lo : List Lf} {t : Int}
theorem dataOf_append (a b : List Fr) (n : Nat) : dataOf sm (a ++ b) n = dataOf sm a n ++ framesP sm (pays b n) := by
  unfold dataOf
  rw [pays_append, framesP_append]
/-- A crash that leaves so many of the loose bytes: some frames whole, perhaps one that lost its end. -/
theorem Lay.crash (h : Lay sm pt v vo ns sa lo t) (hvo : ∀ k p, vo k = some p → p.2 = []) (K : Int) (hK : 0 ≤ K) :
    ∃ l1 rest nx tear, lo = l1 ++ rest ∧ Torn sm pt (crashV (leftF (lo.map pc) K) v) vo ns (sa ++ l1.map Lf.fr) nx tear ∧ (totL lo ≤ K → rest = []) ∧ (K = 0 → l1 = []) := by
  obtain ⟨l1, rest, e, h1, h2⟩ := split_keep lo K hK
  have hpos : ∀ p ∈ lo.map pc, 0 < p.2 := by
    intro p hp
    obtain ⟨x, _, rfl⟩ := List.mem_map.1 hp
    simp only [pc]; omega
  have hnd : ((lo.map pc).map (·.1)).Nodup := by
    rw [List.nodup_iff_pairwise_ne, List.map_map, List.pairwise_map]
    exact h.turns.imp fun hab => by simp only [Function.comp, pc]; omega
  have hmem : ∀ x ∈ sa ++ l1.map Lf.fr, x ∈ sa ++ lo.map Lf.fr := by
    intro x hx
    rw [e, List.map_append, ← List.append_assoc]
    exact List.mem_append_left _ hx
  have hsub : (sa ++ l1.map Lf.fr).Sublist (sa ++ lo.map Lf.fr) := by
    rw [e, List.map_append, ← List.append_assoc]
    exact List.sublist_append_left _ _
  have hother : ∀ f, ∀ k, (∀ n ∈ ns, k ≠ pt n) → crashV f v k = vo k := by
    intro f k hk
    unfold crashV
    rw [h.other k hk]
    cases hv : vo k with
    | none => rfl
    | some p =>
      obtain ⟨a, b⟩ := p
      have := hvo k _ hv
      simp only at this
      subst this
      simp [keepP, openOf, leftSum]
  have hlast : totL lo ≤ K → rest = [] := by
    intro hk
    rcases h2 with h2 | ⟨x, r, h2, h3⟩
    · exact h2
    · subst h2
      rw [e, totL_append, totL_cons] at hk
      have := totL_nonneg r
      omega
  have hfirst : K = 0 → l1 = [] := by
    intro hk
    cases l1 with
    | nil => rfl
    | cons x l => rw [totL_cons] at h1; have := totL_nonneg l; omega
  have hdat : ∀ n, dataOf sm (sa ++ lo.map Lf.fr) n = dataOf sm (sa ++ l1.map Lf.fr) n ++ framesP sm (pays (rest.map Lf.fr) n) := by
    intro n
    rw [e, List.map_append, ← List.append_assoc, dataOf_append]
  have hkey : ∀ n ∈ ns, ∀ q : Nat, leftSum (leftF (lo.map pc) K) (pcs lo n) = openOf (pcs l1 n) + q → crashV (leftF (lo.map pc) K) v (pt n) = some (dataOf sm (sa ++ l1.map Lf.fr) n ++ (framesP sm (pays (rest.map Lf.fr) n)).take q, []) := by
    intro n hn q hq
    unfold crashV
    rw [h.key n hn, Option.map_some]
    congr 2
    have hk : keepP (leftF (lo.map pc) K) (dataOf sm (sa ++ lo.map Lf.fr) n, pcs lo n) = (dataOf sm (sa ++ l1.map Lf.fr) n).length + q := by
      unfold keepP
      rw [hq]
      have l2 := len_pcs (sm := sm) lo n
      have l3 := len_pcs (sm := sm) l1 n
      rw [dataOf_append, dataOf_append, List.length_append, List.length_append]
      simp only
      omega
    rw [hk, hdat, List.take_append]
    congr 1
    · exact List.take_of_length_le (by omega)
    · congr 1; omega
  have hmk : ∀ nx tear, (∀ n ∈ ns, crashV (leftF (lo.map pc) K) v (pt n) = some (dataOf sm (sa ++ l1.map Lf.fr) n ++ (if n = nx then tear else []), [])) → tornP tear → (tear = [] ∨ nx ∈ ns ∧ ∀ x ∈ sa ++ l1.map Lf.fr, x.1 ≤ nx) →
      Torn sm pt (crashV (leftF (lo.map pc) K) v) vo ns (sa ++ l1.map Lf.fr) nx tear := fun nx tear a b c =>
    ⟨a, hother _, h.inc, h.bnd, fun x hx => h.mem x (hmem x hx), h.ord.sublist (hsub.map _), fun x hx => h.pay x (hmem x hx), b, c⟩
  rcases h2 with h2 | ⟨x, r, h2, h3⟩
  · subst h2
    rw [List.append_nil] at e
    subst e
    refine ⟨lo, [], 0, [], by simp, hmk 0 [] (fun n hn => ?_) tornP_nil (.inl rfl), hlast, hfirst⟩
    have := hkey n hn 0 ?_
    · simpa using this
    · rw [leftSum_full]
      · simp
      · exact fun p hp => leftF_all _ K hpos hnd h1 p (mem_pcs hp)
  · subst h2
    have hf := leftF_at (l1.map pc) (pc x) (r.map pc) K (by intro p hp; exact hpos p (by rw [e]; simpa using hp)) (by have := hnd; rw [e] at this; simpa using this) h1 h3
    have eL : l1.map pc ++ pc x :: r.map pc = lo.map pc := by rw [e]; simp
    rw [eL] at hf
    obtain ⟨f1, f2, f3⟩ := hf
    obtain ⟨q, hq⟩ : ∃ q : Nat, (q : Int) = K - totL l1 := ⟨(K - totL l1).toNat, by omega⟩
    have hx : Lf.fr x ∈ sa ++ lo.map Lf.fr := by rw [e]; simp
    refine ⟨l1, x :: r, x.1, (frameP sm x.2.1).take q, e, hmk _ _ (fun n hn => ?_) (take_torn x.2.1 (h.pay _ hx).2 q (by omega)) (.inr ⟨h.mem _ hx, fun y hy => ?_⟩), hlast, hfirst⟩
    · have hs1 : leftSum (leftF (lo.map pc) K) (pcs l1 n) = openOf (pcs l1 n) := leftSum_full fun p hp => f1 p (mem_pcs hp)
      have hs3 : leftSum (leftF (lo.map pc) K) (pcs r n) = 0 := leftSum_zero fun p hp => f3 p (mem_pcs hp)
      by_cases en : x.1 = n
      · have hs : leftSum (leftF (lo.map pc) K) (pcs lo n) = openOf (pcs l1 n) + q := by
          have e2 : pcs lo n = pcs l1 n ++ (pc x :: pcs r n) := by rw [e, pcs_append]; congr 1; simp [pcs, en]
          have e3 : pc x :: pcs r n = [pc x] ++ pcs r n := rfl
          rw [e2, leftSum_append, hs1, e3, leftSum_append, hs3]
          have : leftSum (leftF (lo.map pc) K) [pc x] = K - totL l1 := by
            simp only [leftSum, List.map_cons, List.map_nil, List.sum_cons, List.sum_nil]
            have e6 : (pc x).1 = x.2.2 := rfl
            rw [e6] at f2 ⊢
            rw [f2]; simp only [totL]; omega
          rw [this, hq]; omega
        rw [hkey n hn q hs, if_pos en.symm]
        congr 3
        have e4 : pays ((x :: r).map Lf.fr) n = x.2.1 :: pays (r.map Lf.fr) n := by subst en; exact pays_cons_same (Lf.fr x) _
        rw [e4, framesP_cons, List.take_append]
        rw [frameP_length, show q - (x.2.1.length + 8) = 0 by omega]
        simp
      · have hs : leftSum (leftF (lo.map pc) K) (pcs lo n) = openOf (pcs l1 n) + (0 : Nat) := by
          have e2 : pcs lo n = pcs l1 n ++ pcs r n := by rw [e, pcs_append]; congr 1; simp [pcs, en]
          rw [e2, leftSum_append, hs1, hs3]; simp
        rw [hkey n hn 0 hs, if_neg fun e => en e.symm]
        simp
    · have ho := h.ord
      rw [e] at ho
      have e5 : (sa ++ (l1 ++ x :: r).map Lf.fr).map (·.1) = (sa ++ l1.map Lf.fr).map (·.1) ++ ((x :: r).map Lf.fr).map (·.1) := by simp
      rw [e5, List.pairwise_append] at ho
      exact ho.2.2 _ (List.mem_map.2 ⟨y, hy, rfl⟩) _ (by simp [Lf.fr])
end
end Go.Proofs.YthokoimoiamddaaGreatDoor
set_option linter.unusedVariables false
set_option linter.unusedSimpArgs false
namespace Go.Proofs.YthokoimoiamddaaGreatDoor

/-- How far the finding has come: a torn file was met; what was found; the last file and its bytes; the disk, and how many files it has. -/
structure FSt where
  brk : Bool
  f : Fnd
  file : Nat
  size : Nat
  v : Vw
  cnt : Nat
section
variable (sm : List UInt8 → Nat) (pt : Nat → ByteArray)
/-- One file: its number, its frames, what stands behind them. -/
abbrev FileD := Nat × List (List UInt8) × List UInt8
def stepF (s : FSt) (x : FileD) : FSt :=
  if s.brk then { s with v := dropV s.v (pt x.1), cnt := s.cnt - 1 }
  else { brk := decide (x.2.2 ≠ []), f := x.2.1.foldl fnd1 s.f, file := x.1, size := (framesP sm x.2.1).length, v := if x.2.2 = [] then s.v else cutVw s.v (pt x.1) (framesP sm x.2.1).length, cnt := s.cnt }
def filesD (sa : List Fr) (nx : Nat) (tear : List UInt8) (ns : List Nat) : List FileD := ns.map fun n => (n, pays sa n, if n = nx then tear else [])
def startF (v : Vw) (c : Nat) : FSt := ⟨false, fnd0, 0, 0, v, c⟩
variable {sm pt}
theorem stepF_other (s : FSt) (x : FileD) (k : ByteArray) (h : k ≠ pt x.1) : (stepF sm pt s x).v k = s.v k := by
  unfold stepF
  split
  · simp [dropV, h]
  · simp only
    split
    · rfl
    · simp [cutVw, h]
theorem foldF_other (l : List FileD) (s : FSt) (k : ByteArray) (h : ∀ x ∈ l, k ≠ pt x.1) : (l.foldl (stepF sm pt) s).v k = s.v k := by
  induction l generalizing s with
  | nil => rfl
  | cons x l ih =>
    rw [List.foldl_cons, ih _ fun y hy => h y (by simp [hy]), stepF_other _ _ _ (h x (by simp))]
/-- Files that are whole. -/
theorem foldU (P : Nat → List (List UInt8)) (ms : List Nat) (s : FSt) (hb : s.brk = false) :
    (ms.map fun n => (n, P n, ([] : List UInt8))).foldl (stepF sm pt) s = { brk := false, f := (ms.flatMap P).foldl fnd1 s.f, file := ms.getLastD s.file, size := if ms = [] then s.size else (framesP sm (P (ms.getLastD s.file))).length, v := s.v, cnt := s.cnt } := by
  induction ms generalizing s with
  | nil => obtain ⟨a, b, c, d, e, f⟩ := s; simp only at hb; subst hb; rfl
  | cons n ms ih =>
    have h1 : stepF sm pt s (n, P n, []) = { brk := false, f := (P n).foldl fnd1 s.f, file := n, size := (framesP sm (P n)).length, v := s.v, cnt := s.cnt } := by
      unfold stepF
      rw [hb]
      simp
    rw [List.map_cons, List.foldl_cons, h1, ih _ rfl]
    simp only [List.flatMap_cons, List.foldl_append]
    cases ms with
    | nil => simp
    | cons m ms => simp only [List.getLastD_cons, reduceCtorEq, if_false]
/-- Files behind a torn one. -/
theorem foldB (l : List FileD) (s : FSt) (hb : s.brk = true) : (l.foldl (stepF sm pt) s).brk = true ∧ (l.foldl (stepF sm pt) s).f = s.f ∧ (l.foldl (stepF sm pt) s).file = s.file ∧ (l.foldl (stepF sm pt) s).size = s.size ∧ (l.foldl (stepF sm pt) s).cnt = s.cnt - l.length ∧ ∀ k, (k ∈ l.map (fun x : FileD => pt x.1) → (l.foldl (stepF sm pt) s).v k = none) ∧ (k ∉ l.map (fun x : FileD => pt x.1) → (l.foldl (stepF sm pt) s).v k = s.v k) := by
  induction l generalizing s with
  | nil => simp [hb]
  | cons x l ih =>
    have h1 : stepF sm pt s x = { s with v := dropV s.v (pt x.1), cnt := s.cnt - 1 } := by unfold stepF; rw [if_pos hb]
    obtain ⟨a, b, c, d, e, f⟩ := ih (stepF sm pt s x) (by rw [h1]; exact hb)
    rw [List.foldl_cons]
    refine ⟨a, by rw [b, h1], by rw [c, h1], by rw [d, h1], by rw [e, h1]; simp only [List.length_cons]; omega, fun k => ?_⟩
    have f' := f k
    rw [h1] at f' ⊢
    simp only [List.map_cons, List.mem_cons]
    refine ⟨fun h2 => ?_, fun h2 => ?_⟩
    · by_cases h3 : k ∈ l.map fun x : FileD => pt x.1
      · exact f'.1 h3
      · rw [f'.2 h3]
        rcases h2 with h2 | h2
        · simp [dropV, h2]
        · exact absurd h2 h3
    · rw [f'.2 fun h3 => h2 (.inr h3)]
      simp only [dropV]
      rw [if_neg fun h3 => h2 (.inl h3)]
/-- What is found: the log's frames, and they alone. -/
structure FoundIs (sm : List UInt8 → Nat) (pt : Nat → ByteArray) (vo : Vw) (sa : List Fr) (t : Int) (ns : List Nat) (c : Nat) (s : FSt) (ns' : List Nat) : Prop where
  lay : Lay sm pt s.v vo ns' sa [] t
  f : s.f = fndL (sa.map (·.2))
  file : (ns' = [] ∧ s.file = 0 ∧ s.size = 0) ∨ (s.file ∈ ns' ∧ ∀ m ∈ ns', m ≤ s.file)
  size : s.size = (dataOf sm sa s.file).length
  cnt : s.cnt + ns.length = c + ns'.length
  sub : ∀ m ∈ ns', m ∈ ns
  len : ns'.length ≤ ns.length
variable {v vo : Vw} {ns : List Nat} {sa : List Fr} {nx : Nat} {tear : List UInt8}
theorem last_of {ns : List Nat} (h : ns.Pairwise (· < ·)) (d : Nat) : (ns = [] ∧ ns.getLastD d = d) ∨ (ns.getLastD d ∈ ns ∧ ∀ m ∈ ns, m ≤ ns.getLastD d) := by
  induction ns generalizing d with
  | nil => exact .inl ⟨rfl, rfl⟩
  | cons n ns ih =>
    refine .inr ?_
    simp only [List.pairwise_cons] at h
    rcases ih h.2 n with ⟨e, h1⟩ | ⟨h1, h2⟩
    · subst e; simp
    · rw [List.getLastD_cons]
      refine ⟨List.mem_cons_of_mem _ h1, fun m hm => ?_⟩
      simp only [List.mem_cons] at hm
      rcases hm with rfl | hm
      · exact Nat.le_of_lt (h.1 _ h1)
      · exact h2 m hm
theorem Torn.find (h : Torn sm pt v vo ns sa nx tear) (hpt : ∀ a b, a < 100 → b < 100 → pt a = pt b → a = b) (hvo : ∀ n, n < 100 → vo (pt n) = none) (t : Int) (c : Nat) (hc : ns.length ≤ c) :
    ∃ ns', FoundIs sm pt vo sa t ns c ((filesD sa nx tear ns).foldl (stepF sm pt) (startF v c)) ns' := by
  by_cases ht : tear = []
  · subst ht
    have e : filesD sa nx [] ns = ns.map fun n => (n, pays sa n, ([] : List UInt8)) := by unfold filesD; congr 1; funext n; simp
    rw [e, foldU (pays sa) ns (startF v c) rfl, flat_pays ns h.inc sa h.mem h.ord]
    refine ⟨ns, ⟨⟨fun n hn => ?_, h.other, h.inc, h.bnd, by simpa using h.mem, by simpa using h.ord, .nil, by simp, by simpa using h.pay⟩, rfl, ?_, ?_, by simp [startF], fun m hm => hm, Nat.le_refl _⟩⟩
    · have := h.key n hn
      show v (pt n) = _
      simpa [pcs] using this
    · simp only [startF]
      rcases last_of h.inc 0 with ⟨e, h1⟩ | h1
      · subst e; simp
      · exact .inr h1
    · simp only [startF]
      split
      · rename_i e0
        subst e0
        have : sa = [] := by
          cases sa with
          | nil => rfl
          | cons x l => exact absurd (h.mem x (by simp)) (by simp)
        subst this
        rfl
      · rfl
  · obtain ⟨hnx, hle⟩ : nx ∈ ns ∧ ∀ x ∈ sa, x.1 ≤ nx := by
      rcases h.last with h1 | h1
      · exact absurd h1 ht
      · exact h1
    obtain ⟨n1, n2, e⟩ := List.append_of_mem hnx
    have hinc := h.inc
    rw [e, List.pairwise_append] at hinc
    obtain ⟨i1, i2, i3⟩ := hinc
    simp only [List.pairwise_cons] at i2
    have l1 : ∀ m ∈ n1, m < nx := fun m hm => i3 m hm nx (by simp)
    have l2 : ∀ m ∈ n2, nx < m := i2.1
    have lx : ∀ m ∈ n1, m < 100 := fun m hm => h.bnd m (by rw [e]; simp [hm])
    have ly : ∀ m ∈ n2, m < 100 := fun m hm => h.bnd m (by rw [e]; simp [hm])
    have lz : nx < 100 := h.bnd nx hnx
    have e1 : filesD sa nx tear ns = (n1.map fun n => (n, pays sa n, ([] : List UInt8))) ++ (nx, pays sa nx, tear) :: filesD sa nx tear n2 := by
      unfold filesD
      rw [e, List.map_append, List.map_cons, if_pos rfl]
      congr 1
      refine List.map_congr_left fun m hm => ?_
      have := l1 m hm
      rw [if_neg (by omega)]
    rw [e1, List.foldl_append, foldU (pays sa) n1 (startF v c) rfl, List.foldl_cons]
    obtain ⟨s1, hs1⟩ : ∃ s1, s1 = stepF sm pt { brk := false, f := (n1.flatMap (pays sa)).foldl fnd1 (startF v c).f, file := n1.getLastD (startF v c).file, size := if n1 = [] then (startF v c).size else (framesP sm (pays sa (n1.getLastD (startF v c).file))).length, v := (startF v c).v, cnt := (startF v c).cnt } (nx, pays sa nx, tear) := ⟨_, rfl⟩
    rw [← hs1]
    have hst : s1 = { brk := true, f := (pays sa nx).foldl fnd1 ((n1.flatMap (pays sa)).foldl fnd1 fnd0), file := nx, size := (framesP sm (pays sa nx)).length, v := cutVw v (pt nx) (framesP sm (pays sa nx)).length, cnt := c } := by
      rw [hs1]
      unfold stepF
      simp [startF, ht]
    obtain ⟨b1, b2, b3, b4, b5, b6⟩ := foldB (sm := sm) (pt := pt) (filesD sa nx tear n2) s1 (by rw [hst])
    have hmem' : ∀ x ∈ sa, x.1 ∈ n1 ++ [nx] := by
      intro x hx
      have h3 := h.mem x hx
      have h4 := hle x hx
      rw [e] at h3
      simp only [List.mem_append, List.mem_cons, List.not_mem_nil, or_false] at h3 ⊢
      rcases h3 with h3 | h3 | h3
      · exact .inl h3
      · exact .inr h3
      · have := l2 _ h3; omega
    have hinc' : (n1 ++ [nx]).Pairwise (· < ·) := by
      rw [List.pairwise_append]
      exact ⟨i1, by simp, fun a ha b hb => by simp only [List.mem_singleton] at hb; subst hb; exact l1 a ha⟩
    have hkeys : ∀ k, k ∈ (filesD sa nx tear n2).map (fun x => pt x.1) ↔ ∃ m ∈ n2, k = pt m := by
      intro k
      unfold filesD
      rw [List.map_map]
      simp only [List.mem_map, Function.comp]
      constructor
      · rintro ⟨m, hm, rfl⟩; exact ⟨m, hm, rfl⟩
      · rintro ⟨m, hm, rfl⟩; exact ⟨m, hm, rfl⟩
    have hlen : (filesD sa nx tear n2).length = n2.length := by simp [filesD]
    have hnl : ns.length = n1.length + 1 + n2.length := by rw [e]; simp; omega
    refine ⟨n1 ++ [nx], ⟨⟨fun m hm => ?_, fun k hk => ?_, hinc', fun m hm => ?_, by simpa using hmem', by simpa using h.ord, .nil, by simp, by simpa using h.pay⟩, ?_, .inr ⟨?_, fun m hm => ?_⟩, ?_, ?_, fun m hm => ?_, ?_⟩⟩
    · have hm1 : m ∈ ns := by rw [e]; simp only [List.mem_append, List.mem_cons, List.not_mem_nil, or_false] at hm ⊢; rcases hm with hm | hm <;> simp [hm]
      have hno : ¬ pt m ∈ (filesD sa nx tear n2).map (fun x => pt x.1) := by
        rw [hkeys]
        rintro ⟨m2, hm2, e2⟩
        have h5 := hpt m m2 (h.bnd m hm1) (ly m2 hm2) e2
        have h6 := l2 m2 hm2
        simp only [List.mem_append, List.mem_singleton] at hm
        rcases hm with hm | hm
        · have := l1 m hm; omega
        · omega
      rw [(b6 _).2 hno, hst]
      simp only [cutVw]
      have hk := h.key m hm1
      by_cases em : m = nx
      · subst em
        rw [if_pos rfl, hk, if_pos rfl, Option.map_some]
        simp only [cutP, dataOf, shortL_nil, List.map_nil, List.append_nil, pcs, List.filter_nil]
        rw [List.take_left' rfl]
      · rw [if_neg fun e3 => em (hpt m nx (h.bnd m hm1) lz e3), hk, if_neg em]
        simp [pcs]
    · by_cases h2 : k ∈ (filesD sa nx tear n2).map (fun x => pt x.1)
      · rw [(b6 k).1 h2]
        obtain ⟨m, hm, rfl⟩ := (hkeys k).1 h2
        exact (hvo m (ly m hm)).symm
      · rw [(b6 k).2 h2, hst]
        have hkx : k ≠ pt nx := hk nx (by simp)
        simp only [cutVw, if_neg hkx]
        refine h.other k fun m hm => ?_
        rw [e] at hm
        simp only [List.mem_append, List.mem_cons] at hm
        rcases hm with hm | hm | hm
        · exact hk m (by simp [hm])
        · subst hm; exact hkx
        · exact fun e4 => h2 ((hkeys k).2 ⟨m, hm, e4⟩)
    · simp only [List.mem_append, List.mem_singleton] at hm
      rcases hm with hm | hm
      · exact lx m hm
      · omega
    · rw [b2, hst]
      simp only
      rw [← List.foldl_append]
      have e5 : n1.flatMap (pays sa) ++ pays sa nx = (n1 ++ [nx]).flatMap (pays sa) := by simp
      rw [e5, flat_pays _ hinc' sa hmem' h.ord]
      rfl
    · rw [b3, hst]; simp
    · rw [b3, hst]
      show m ≤ nx
      simp only [List.mem_append, List.mem_singleton] at hm
      rcases hm with hm | hm
      · exact Nat.le_of_lt (l1 m hm)
      · omega
    · rw [b4, b3, hst]; rfl
    · rw [b5, hlen, hst, hnl]
      simp only [List.length_append, List.length_cons, List.length_nil]
      omega
    · rw [e]
      simp only [List.mem_append, List.mem_cons, List.not_mem_nil, or_false] at hm ⊢
      rcases hm with hm | hm
      · exact .inl hm
      · exact .inr (.inl hm)
    · rw [hnl]; simp
end
end Go.Proofs.YthokoimoiamddaaGreatDoor
set_option linter.unusedSimpArgs false
set_option linter.unusedVariables false
namespace Go.Proofs.YthokoimoiamddaaGreatDoor
open Go Go.RowKit

/-- Bytes in memory that is neither the disk's nor old. -/
def RecM (w : World) (s : St) (lo : Nat) (v : Value) (p : List UInt8) : Prop :=
  ∃ (a off cap : Nat) (cur : Array Value), v = .slice (some ⟨a, off, none⟩) p.length cap ∧ ¬ s.own a ∧ lo ≤ a ∧ w.heap[a]? = some (.cells cur 5 (0, 0)) ∧ ∀ i b, p[i]? = some b → cur[off + i]? = some (byteV b)
structure FndAt (w : World) (s : St) (lo b : Nat) (f : Fnd) (SV : Value) (A : Option Addr) (n c : Nat) (vs : List Value) : Prop where
  blk : w.heap[b]? = some (.cells #[.bool f.whole, SV, .slice A n c] 29 (0, 0))
  len : f.recs.length = n
  row : w.ownsRow lo 23 1 (.slice A n c) n vs
  off : ∀ k, (Value.slice A n c).ownBlock = some k → ¬ s.own k
  snap : (SV = .slice none 0 0 ∧ f.shot = []) ∨ RecM w s lo SV f.shot
  each : ∀ (i : Nat) (v : Value) (p : List UInt8), vs[i]? = some v → f.recs[i]? = some p → RecM w s lo v p
  boff : ¬ s.own b
  blo : lo ≤ b
/-- What was found lies in block b. -/
def FndM (w : World) (s : St) (lo b : Nat) (f : Fnd) : Prop := ∃ SV A n c vs, FndAt w s lo b f SV A n c vs

section
variable {w w' : World} {s s' : St} {lo b : Nat} {f : Fnd}
/-- Blocks that are no disk's and no log's stay. -/
structure Stay (w w' : World) (s s' : St) : Prop where
  block : ∀ x, x < w.heap.size → ¬ s.own x → (∀ cur, w.heap[x]? ≠ some (.cells cur 63 (0, 0))) → w'.heap[x]? = w.heap[x]?
  own : ∀ x, x < w.heap.size → ¬ s.own x → ¬ s'.own x
theorem Stay.refl (w : World) (s : St) : Stay w w s s := ⟨fun _ _ _ _ => rfl, fun _ _ h => h⟩
theorem Stay.of_below (h : Below w.heap.size w w') : Stay w w' s s := ⟨fun x hx _ _ => h.block x hx, fun _ _ h => h⟩
theorem Stay.of_wfr {g B seg file size count safe : Nat} {nm : ByteArray} (h : WFr g s s' w w') (hl : LogAt w g B nm seg file size count safe) : Stay w w' s s' := by
  refine ⟨fun x hx ho hn => h.block x hx ho fun e => ?_, fun x hx ho h2 => ?_⟩
  · subst e; exact hn _ hl
  · rcases h.own x h2 with h3 | h3
    · exact ho h3
    · omega
theorem RecM.stay {v : Value} {p : List UInt8} (h : RecM w s lo v p) (hs : Stay w w' s s') : RecM w' s' lo v p := by
  obtain ⟨a, off, cap, cur, h1, h2, h3, h4, h5⟩ := h
  have hlt := (Array.getElem?_eq_some_iff.1 h4).1
  refine ⟨a, off, cap, cur, h1, hs.own a hlt h2, h3, (hs.block a hlt h2 fun c2 e => ?_).trans h4, h5⟩
  rw [h4] at e; injection e with e; injection e with _ e2 _; exact absurd e2 (by decide)
theorem FndAt.stay {SV : Value} {A : Option Addr} {n c : Nat} {vs : List Value} (h : FndAt w s lo b f SV A n c vs) (hs : Stay w w' s s') : FndAt w' s' lo b f SV A n c vs := by
  have hb := (Array.getElem?_eq_some_iff.1 h.blk).1
  have hrow : ∀ k, (Value.slice A n c).ownBlock = some k → w'.heap[k]? = w.heap[k]? := fun k hk => by
    obtain ⟨cur, hc, _, hlt⟩ := own_block h.row hk
    refine hs.block k hlt (h.off k hk) fun c2 e => ?_
    rw [hc] at e; injection e with e; injection e with _ e2 _; exact absurd e2 (by decide)
  refine ⟨(hs.block b hb h.boff fun c2 e => ?_).trans h.blk, h.len, ownsRow_keep h.row hrow, fun k hk => hs.own k (own_block h.row hk).choose_spec.2.2 (h.off k hk), ?_, fun i v p h1 h2 => (h.each i v p h1 h2).stay hs, hs.own b hb h.boff, h.blo⟩
  · rw [h.blk] at e; injection e with e; injection e with _ e2 _; exact absurd e2 (by decide)
  · rcases h.snap with h1 | h1
    · exact .inl h1
    · exact .inr (h1.stay hs)
theorem FndM.stay (h : FndM w s lo b f) (hs : Stay w w' s s') : FndM w' s' lo b f := by
  obtain ⟨SV, A, n, c, vs, h⟩ := h
  exact ⟨SV, A, n, c, vs, h.stay hs⟩
/-- A store into the block of what was found. -/
theorem RecM.touchB {v : Value} {p : List UInt8} {cs : Array Value} (h : RecM w s lo v p) (hb : w.heap[b]? = some (.cells cs 29 (0, 0))) (ht : Touch (some b) w w') : RecM w' s lo v p := by
  obtain ⟨a, off, cap, cur, h1, h2, h3, h4, h5⟩ := h
  refine ⟨a, off, cap, cur, h1, h2, h3, (ht.block a fun e => ?_).trans h4, h5⟩
  cases e
  rw [hb] at h4; injection h4 with e; injection e with _ e2 _; exact absurd e2 (by decide)
theorem RecM.grown {v x : Value} {p : List UInt8} {lo2 n : Nat} {xs : List Value} (h : RecM w s lo v p) (hr : w.ownsRow lo2 23 1 x n xs) (hg : w.grownBy w' x.ownBlock) : RecM w' s lo v p := by
  obtain ⟨a, off, cap, cur, h1, h2, h3, h4, h5⟩ := h
  refine ⟨a, off, cap, cur, h1, h2, h3, (hg.block a (Array.getElem?_eq_some_iff.1 h4).1 fun e => ?_).trans h4, h5⟩
  obtain ⟨c2, hc, _⟩ := own_block hr e.symm
  rw [hc] at h4; injection h4 with e; injection e with _ e2 _; exact absurd e2 (by decide)
theorem fnd1_shot {c : UInt8} (p : List UInt8) (h : c = 1) : fnd1 f (c :: p) = ⟨true, p, []⟩ := by simp [fnd1, h]
theorem fnd1_rec {c : UInt8} (p : List UInt8) (h : c ≠ 1) : fnd1 f (c :: p) = ⟨f.whole, f.shot, f.recs ++ [p]⟩ := by simp [fnd1, h]
/-- Found{Whole: true, Snapshot: p}. -/
theorem FndM.shot {SV' : Value} {c : UInt8} {p : List UInt8} (h : FndM w s lo b f) (hc : c = 1) (hp : RecM w s lo SV' p) (ht : Touch (some b) w w') (hb : w'.heap[b]? = some (.cells #[.bool true, SV', .slice none 0 0] 29 (0, 0))) : FndM w' s lo b (fnd1 f (c :: p)) := by
  obtain ⟨SV, A, n, cc, vs, h⟩ := h
  rw [fnd1_shot p hc]
  exact ⟨SV', none, 0, 0, [], hb, rfl, World.ownsRow_nil _ _ _ _, fun k hk => (by cases hk), .inr (hp.touchB h.blk ht), fun i v q h1 _ => (by simp at h1), h.boff, h.blo⟩
theorem FndAt.shot {SV SV' : Value} {A : Option Addr} {n c : Nat} {vs : List Value} {c0 : UInt8} {p : List UInt8} (h : FndAt w s lo b f SV A n c vs) (hc : c0 = 1) (hp : RecM w s lo SV' p) (ht : Touch (some b) w w') (hb : w'.heap[b]? = some (.cells #[.bool true, SV', .slice none 0 0] 29 (0, 0))) : FndAt w' s lo b (fnd1 f (c0 :: p)) SV' none 0 0 [] := by
  rw [fnd1_shot p hc]
  exact ⟨hb, rfl, World.ownsRow_nil _ _ _ _, fun k hk => (by cases hk), .inr (hp.touchB h.blk ht), fun i v q h1 _ => (by simp at h1), h.boff, h.blo⟩
theorem set_one {cs : Array Value} {ty : TypeId} {fr : Nat × Nat} (hb : w.heap[b]? = some (.cells cs ty fr)) (i : Nat) (u : Value) : (w.setCell ⟨b, i, none⟩ u).heap[b]? = some (.cells (cs.setIfInBounds i u) ty fr) := by
  show (w.heap.modify b _)[b]? = _
  rw [Array.getElem?_modify, if_pos rfl, hb]
  rfl
theorem three_set {x y z x' y' z' : Value} {ty : TypeId} (hb : w.heap[b]? = some (.cells #[x, y, z] ty (0, 0))) : (((w.setCell ⟨b, 0, none⟩ x').setCell ⟨b, 1, none⟩ y').setCell ⟨b, 2, none⟩ z').heap[b]? = some (.cells #[x', y', z'] ty (0, 0)) ∧ Touch (some b) w (((w.setCell ⟨b, 0, none⟩ x').setCell ⟨b, 1, none⟩ y').setCell ⟨b, 2, none⟩ z') := by
  refine ⟨?_, ((Touch.set _ _ _ _).trans (Touch.set _ _ _ _)).trans (Touch.set _ _ _ _)⟩
  have h1 := set_one hb 0 x'
  have h2 := set_one h1 1 y'
  exact set_one h2 2 z'
/-- The row of frames stays when a block of another type turns. -/
theorem FrRow.touchB {lo2 : Nat} {V : Value} {fs : List (List UInt8)} {vs : List Value} {cs : Array Value} (h : FrRow w lo2 V fs vs) (hb : w.heap[b]? = some (.cells cs 29 (0, 0))) (ht : Touch (some b) w w') : FrRow w' lo2 V fs vs := by
  refine h.keep (fun g hg => ht.block g fun e => ?_) fun g cur hc _ => ht.block g fun e => ?_
  · cases e
    obtain ⟨cur, hcc, _⟩ := own_block h.row hg
    rw [hb] at hcc; injection hcc with e; injection e with _ e2 _; exact absurd e2 (by decide)
  · cases e
    rw [hb] at hc; injection hc with e; injection e with _ e2 _; exact absurd e2 (by decide)
theorem FrRow.grownB {lo2 lo3 n : Nat} {V x : Value} {fs : List (List UInt8)} {vs xs : List Value} (h : FrRow w lo2 V fs vs) (hr : w.ownsRow lo3 23 1 x n xs) (hap : ∀ k, x.ownBlock = some k → V.ownBlock ≠ some k) (hg : w.grownBy w' x.ownBlock) : FrRow w' lo2 V fs vs := by
  refine h.keep (fun g hgg => hg.block g (own_block h.row hgg).choose_spec.2.2 fun e => hap g e.symm hgg) fun g cur hc _ => hg.block g (Array.getElem?_eq_some_iff.1 hc).1 fun e => ?_
  obtain ⟨c2, hcc, _⟩ := own_block hr e.symm
  rw [hc] at hcc; injection hcc with e; injection e with _ e2 _; exact absurd e2 (by decide)
/-- Blocks of these types are none of a disk's. -/
theorem dk_not {base B n : Nat} {v : Vw} {t : Int} (h : Dk base w B v t n s) {x : Nat} {cur : Array Value} {ty : TypeId} {fr : Nat × Nat} (hx : w.heap[x]? = some (.cells cur ty fr)) (h1 : ty ≠ 60) (h2 : ty ≠ 83) (h3 : ty ≠ 5) (h4 : ty ≠ 86) : ¬ s.own x := by
  intro ho
  rcases ho with rfl | rfl | ⟨k, r, hr, ho⟩
  · rw [h.at_.blk] at hx; injection hx with e; injection e with _ e2 _; exact h1 e2.symm
  · have := h.at_.map; unfold MapAt at this; rw [this] at hx; injection hx with e; cases e
  · have hrec := h.at_.recs k r hr
    rcases ho with rfl | ho | ho
    · rw [hrec.blk] at hx; injection hx with e; injection e with _ e2 _; exact h2 e2.symm
    · obtain ⟨c2, hc, _⟩ := hrec.data.block ho
      rw [hc] at hx; injection hx with e; injection e with _ e2 _; exact h3 e2.symm
    · obtain ⟨c2, hc, _⟩ := own_block hrec.loose ho
      rw [hc] at hx; injection hx with e; injection e with _ e2 _; exact h4 e2.symm
theorem Wk.keepG {base g B seg file size count safe n : Nat} {nm : ByteArray} {v : Vw} {t : Int} (h : Wk base w g B nm seg file size count safe v t n s) (hk : ∀ x, x < w.heap.size → (s.own x ∨ x = g ∨ x ≤ 1) → w'.heap[x]? = w.heap[x]?) (hsz : w.heap.size ≤ w'.heap.size) : Wk base w' g B nm seg file size count safe v t n s := by
  refine ⟨⟨h.dk.at_.keep fun x hx => hk x (h.dk.at_.lt hx) (.inl hx), h.dk.B, h.dk.view, h.dk.turn, h.dk.len, Nat.le_trans h.dk.low hsz⟩, (hk g h.lg.lt (.inr (.inl rfl))).trans h.lg, h.off, h.up, ?_, h.ten⟩
  exact h.err.keep fun x hx hlt => hk x hlt (.inr (.inr hx))
/-- One more record. -/
theorem FndAt.put {base B n2 : Nat} {v : Vw} {t : Int} {w2 : World} {SV : Value} {A A' : Option Addr} {n c c' : Nat} {vs : List Value} {c0 : UInt8} {p : List UInt8} {el : Value} (h : FndAt w s lo b f SV A n c vs) (hc : c0 ≠ 1) (hp : RecM w s lo el p)
    (hown : w2.ownsRow lo 23 1 (.slice A' (n + 1) c') (n + 1) (vs ++ [el])) (hg : w.grownBy w2 (Value.slice A n c).ownBlock) (hd : Dk base w2 B v t n2 s) :
    FndAt (w2.setCell ⟨b, 2, none⟩ (.slice A' (n + 1) c')) s lo b (fnd1 f (c0 :: p)) SV A' (n + 1) c' (vs ++ [el]) := by
  rw [fnd1_rec p hc]
  have hblt := (Array.getElem?_eq_some_iff.1 h.blk).1
  have hb2 : w2.heap[b]? = some (.cells #[.bool f.whole, SV, .slice A n c] 29 (0, 0)) := (hg.block b hblt fun e => by
    obtain ⟨cur, hcc, _⟩ := own_block h.row e.symm
    rw [h.blk] at hcc; injection hcc with e; injection e with _ e2 _; exact absurd e2 (by decide)).trans h.blk
  have ht := Touch.set w2 b 2 (.slice A' (n + 1) c')
  have hvl : vs.length = n := by have := h.row.1; simpa using this
  have hnew : ∀ k, (Value.slice A' (n + 1) c').ownBlock = some k → ∃ cur, w2.heap[k]? = some (.cells cur 23 (0, 0)) := fun k hk => (own_block hown hk).imp fun _ h => h.1
  refine ⟨?_, by simp [h.len], ?_, ?_, ?_, ?_, h.boff, h.blo⟩
  · show (w2.heap.modify b _)[b]? = _
    rw [Array.getElem?_modify, if_pos rfl, hb2]
    rfl
  · refine ownsRow_keep hown fun k hk => ht.block k fun e => ?_
    cases e
    obtain ⟨cur, hcc⟩ := hnew _ hk
    rw [hb2] at hcc; injection hcc with e; injection e with _ e2 _; exact absurd e2 (by decide)
  · intro k hk
    obtain ⟨cur, hcc⟩ := hnew k hk
    exact dk_not hd hcc (by decide) (by decide) (by decide) (by decide)
  · rcases h.snap with h1 | h1
    · exact .inl h1
    · exact .inr ((h1.grown h.row hg).touchB hb2 ht)
  · intro i v q h1 h2
    by_cases hi : i < n
    · rw [List.getElem?_append_left (by omega)] at h1
      rw [List.getElem?_append_left (by rw [h.len]; exact hi)] at h2
      exact ((h.each i v q h1 h2).grown h.row hg).touchB hb2 ht
    · rw [List.getElem?_append_right (by omega)] at h1
      rw [List.getElem?_append_right (by rw [h.len]; omega)] at h2
      have e1 : i - vs.length = 0 := by
        cases e : i - vs.length with
        | zero => rfl
        | succ k => rw [e] at h1; simp at h1
      rw [e1] at h1
      rw [show i - f.recs.length = 0 by rw [h.len]; omega] at h2
      simp at h1 h2
      subst h1 h2
      exact (hp.grown h.row hg).touchB hb2 ht
end
end Go.Proofs.YthokoimoiamddaaGreatDoor
set_option linter.unusedSimpArgs false
set_option linter.unusedVariables false
namespace Go.Proofs.YthokoimoiamddaaGreatDoor
open Go Go.RowKit

/-- The log, the row of its files' numbers, the result's block, what was found so far. -/
structure FK (base g B : Nat) (nm : ByteArray) (seg file size count safe : Nat) (vv : Vw) (t : Int) (cnt : Nat) (s : St) (w : World) (An : Option Addr) (N cn : Nat) (ns : List Nat) (f : Fnd) (wr : World) (sr : St) : Prop where
  wk : Wk base wr g B nm seg file size count safe vv t cnt sr
  wfr : WFr g s sr w wr
  row : wr.ownsRow w.heap.size 3 1 (.slice An N cn) N (natVs ns)
  off : ∀ k, (Value.slice An N cn).ownBlock = some k → ¬ sr.own k ∧ k ≠ g
  b2 : wr.heap[w.heap.size]? = some (.cells #[.bool false, .slice none 0 0, .slice none 0 0] 29 (0, 0))
  fm : FndM wr sr w.heap.size (w.heap.size + 1) f
  glo : g < w.heap.size

section
variable {base g B seg file size count safe cnt cnt' N cn : Nat} {nm : ByteArray} {vv vv' : Vw} {t : Int} {s sr s' : St} {w wr wr' : World} {An : Option Addr} {ns : List Nat} {f f' : Fnd}
theorem FK.stay (h : FK base g B nm seg file size count safe vv t cnt s w An N cn ns f wr sr) {file' size' count' safe' : Nat} (hw : Wk base wr' g B nm seg file' size' count' safe' vv' t cnt' s') (hf : WFr g sr s' wr wr') : FK base g B nm seg file' size' count' safe' vv' t cnt' s w An N cn ns f wr' s' := by
  have hs := Stay.of_wfr hf h.wk.lg
  have h2 := own_row_wfr h.row hf h.off
  refine ⟨hw, h.wfr.trans hf, h2.1, h2.2, (hs.block _ (Array.getElem?_eq_some_iff.1 h.b2).1 (dk_not h.wk.dk h.b2 (by decide) (by decide) (by decide) (by decide)) fun c2 e => ?_).trans h.b2, h.fm.stay hs, h.glo⟩
  rw [h.b2] at e; injection e with e; injection e with _ e2 _; exact absurd e2 (by decide)
theorem FK.below (h : FK base g B nm seg file size count safe vv t cnt s w An N cn ns f wr sr) (hb : Below wr.heap.size wr wr') : FK base g B nm seg file size count safe vv t cnt s w An N cn ns f wr' sr :=
  h.stay (h.wk.below hb) (WFr.of_below hb)
theorem FK.disk (h : FK base g B nm seg file size count safe vv t cnt s w An N cn ns f wr sr) (hd : Dk base wr' B vv' t cnt' s') (hf : Frame sr s' wr wr') : FK base g B nm seg file size count safe vv' t cnt' s w An N cn ns f wr' s' :=
  h.stay (h.wk.disk hd hf) (WFr.of_frame hf)
theorem FK.set3 (h : FK base g B nm seg file size count safe vv t cnt s w An N cn ns f wr sr) (x : Nat) : FK base g B nm seg x size count safe vv t cnt s w An N cn ns f (wr.setCell ⟨g, 3, none⟩ (.int .i64 x)) sr := h.stay (h.wk.set3 x) (WFr.of_touch (Touch.set _ _ _ _))
theorem FK.set4 (h : FK base g B nm seg file size count safe vv t cnt s w An N cn ns f wr sr) (x : Nat) : FK base g B nm seg file x count safe vv t cnt s w An N cn ns f (wr.setCell ⟨g, 4, none⟩ (.int .i64 x)) sr := h.stay (h.wk.set4 x) (WFr.of_touch (Touch.set _ _ _ _))
theorem FK.set5 (h : FK base g B nm seg file size count safe vv t cnt s w An N cn ns f wr sr) (x : Nat) : FK base g B nm seg file size x safe vv t cnt s w An N cn ns f (wr.setCell ⟨g, 5, none⟩ (.int .i64 x)) sr := h.stay (h.wk.set5 x) (WFr.of_touch (Touch.set _ _ _ _))
theorem FK.set6 (h : FK base g B nm seg file size count safe vv t cnt s w An N cn ns f wr sr) (x : Nat) : FK base g B nm seg file size count x vv t cnt s w An N cn ns f (wr.setCell ⟨g, 6, none⟩ (.int .i64 x)) sr := h.stay (h.wk.set6 x) (WFr.of_touch (Touch.set _ _ _ _))
/-- What was found has turned, and nothing else that counts. -/
theorem FK.turn (h : FK base g B nm seg file size count safe vv t cnt s w An N cn ns f wr sr) (hos : wr'.os = wr.os) (htape : wr'.tape = wr.tape) (hout : wr'.output = wr.output) (hsz : wr.heap.size ≤ wr'.heap.size)
    (hk : ∀ x, x < wr.heap.size → (x ≤ w.heap.size ∨ sr.own x ∨ (∃ cur, wr.heap[x]? = some (.cells cur 3 (0, 0)))) → wr'.heap[x]? = wr.heap[x]?) (hm : FndM wr' sr w.heap.size (w.heap.size + 1) f') : FK base g B nm seg file size count safe vv t cnt s w An N cn ns f' wr' sr := by
  have hlow : 1 ≤ w.heap.size := by have := h.wk.ten; have := h.wk.up; have := h.glo; omega
  have hwk : Wk base wr' g B nm seg file size count safe vv t cnt sr := h.wk.keepG (fun x hx hc => hk x hx (by
    rcases hc with hc | hc | hc
    · exact .inr (.inl hc)
    · left; have := h.glo; omega
    · left; omega)) hsz
  refine ⟨hwk, ⟨hos.trans h.wfr.os, htape.trans h.wfr.tape, hout.trans h.wfr.output, Nat.le_trans h.wfr.size hsz, fun x hx ho hg => ?_, h.wfr.own⟩, ownsRow_keep h.row fun k hkk => ?_, h.off, ?_, hm, h.glo⟩
  · exact (hk x (Nat.lt_of_lt_of_le hx h.wfr.size) (.inl (by omega))).trans (h.wfr.block x hx ho hg)
  · obtain ⟨cur, hc, _, hlt⟩ := own_block h.row hkk
    exact hk k hlt (.inr (.inr ⟨cur, hc⟩))
  · exact (hk _ (Array.getElem?_eq_some_iff.1 h.b2).1 (.inl (Nat.le_refl _))).trans h.b2
theorem FK.shot (h : FK base g B nm seg file size count safe vv t cnt s w An N cn ns f wr sr) {SV' : Value} {c : UInt8} {p : List UInt8} (hc : c = 1) (hp : RecM wr sr w.heap.size SV' p) (ht : Touch (some (w.heap.size + 1)) wr wr') (hb : wr'.heap[w.heap.size + 1]? = some (.cells #[.bool true, SV', .slice none 0 0] 29 (0, 0))) :
    FK base g B nm seg file size count safe vv t cnt s w An N cn ns (fnd1 f (c :: p)) wr' sr := by
  refine h.turn ht.os ht.tape ht.output (by rw [ht.size]; exact Nat.le_refl _) (fun x hx hcase => ht.block x fun e => ?_) (h.fm.shot hc hp ht hb)
  cases e
  obtain ⟨SV, A, n, cc, vs, hf⟩ := h.fm
  rcases hcase with h1 | h1 | ⟨cur, h1⟩
  · omega
  · exact hf.boff h1
  · rw [hf.blk] at h1; injection h1 with e; injection e with _ e2 _; exact absurd e2 (by decide)
theorem FK.oneMore {w2 : World} (h : FK base g B nm seg file size count safe vv t cnt s w An N cn ns f wr sr) {c0 : UInt8} {p : List UInt8} {SV el : Value} {A A' : Option Addr} {n c c' : Nat} {vs : List Value} (hf : FndAt wr sr w.heap.size (w.heap.size + 1) f SV A n c vs) (hc : c0 ≠ 1) (hp : RecM wr sr w.heap.size el p)
    (hown : w2.ownsRow w.heap.size 23 1 (.slice A' (n + 1) c') (n + 1) (vs ++ [el])) (hg : wr.grownBy w2 (Value.slice A n c).ownBlock) :
    FK base g B nm seg file size count safe vv t cnt s w An N cn ns (fnd1 f (c0 :: p)) (w2.setCell ⟨w.heap.size + 1, 2, none⟩ (.slice A' (n + 1) c')) sr ∧ FndAt (w2.setCell ⟨w.heap.size + 1, 2, none⟩ (.slice A' (n + 1) c')) sr w.heap.size (w.heap.size + 1) (fnd1 f (c0 :: p)) SV A' (n + 1) c' (vs ++ [el]) ∧ w2.heap[w.heap.size + 1]? = wr.heap[w.heap.size + 1]? := by
  have ht := Touch.set w2 (w.heap.size + 1) 2 (.slice A' (n + 1) c')
  have hko : ∀ x, x < wr.heap.size → (x ≤ w.heap.size ∨ sr.own x ∨ (∃ cur, wr.heap[x]? = some (.cells cur 3 (0, 0)))) → w2.heap[x]? = wr.heap[x]? := fun x hx hcase => hg.block x hx fun e => by
    obtain ⟨cur, hcc, hlo, _⟩ := own_block hf.row e.symm
    rcases hcase with h1 | h1 | ⟨cur2, h1⟩
    · have e1 : x = w.heap.size := by omega
      subst e1
      rw [h.b2] at hcc; injection hcc with e; injection e with _ e2 _; exact absurd e2 (by decide)
    · exact hf.off x e.symm h1
    · rw [hcc] at h1; injection h1 with e; injection e with _ e2 _; exact absurd e2 (by decide)
  have hd : Dk base w2 B vv t cnt sr := ⟨h.wk.dk.at_.keep fun x hx => hko x (h.wk.dk.at_.lt hx) (.inr (.inl hx)), h.wk.dk.B, h.wk.dk.view, h.wk.dk.turn, h.wk.dk.len, Nat.le_trans h.wk.dk.low hg.size⟩
  have hput := hf.put hc hp hown hg hd
  refine ⟨h.turn (ht.os.trans hg.os) (ht.tape.trans hg.tape) (ht.output.trans hg.output) (by rw [ht.size]; exact hg.size) (fun x hx hcase => (ht.block x fun e => ?_).trans (hko x hx hcase)) ⟨SV, A', n + 1, c', _, hput⟩, hput, hg.block _ (Array.getElem?_eq_some_iff.1 hf.blk).1 fun e => ?_⟩
  · cases e
    rcases hcase with h1 | h1 | ⟨cur, h1⟩
    · omega
    · exact hf.boff h1
    · rw [hf.blk] at h1; injection h1 with e; injection e with _ e2 _; exact absurd e2 (by decide)
  · obtain ⟨cur, hcc, _⟩ := own_block hf.row e.symm
    rw [hf.blk] at hcc; injection hcc with e; injection e with _ e2 _; exact absurd e2 (by decide)
/-- One more record, with the row of frames beside it. -/
theorem FK.stepRec {w2 : World} (h : FK base g B nm seg file size count safe vv t cnt s w An N cn ns f wr sr) {c0 : UInt8} {p : List UInt8} {SV el : Value} {A : Option Addr} {g5 n c c' : Nat} {vs : List Value} (hf : FndAt wr sr w.heap.size (w.heap.size + 1) f SV A n c vs) (hc : c0 ≠ 1) (hp : RecM wr sr w.heap.size el p)
    (hown : w2.ownsRow w.heap.size 23 1 (.slice (some ⟨g5, 0, none⟩) (n + 1) c') (n + 1) (vs ++ [el])) (hg : wr.grownBy w2 (Value.slice A n c).ownBlock) (hat : (Value.slice A n c).ownBlock = some g5 ∨ wr.heap.size ≤ g5)
    {lo2 z0 : Nat} {V : Value} {ps : List (List UInt8)} {us : List Value} (hap : ∀ kk, (Value.slice A n c).ownBlock = some kk → V.ownBlock ≠ some kk) (hfr : FrRow wr lo2 V ps us) (hz : z0 ≤ wr.heap.size) :
    ∃ SV A n3 c3 vr, FK base g B nm seg file size count safe vv t cnt s w An N cn ns (fnd1 f (c0 :: p)) (w2.setCell ⟨w.heap.size + 1, 2, none⟩ (.slice (some ⟨g5, 0, none⟩) (n + 1) c')) sr ∧ FndAt (w2.setCell ⟨w.heap.size + 1, 2, none⟩ (.slice (some ⟨g5, 0, none⟩) (n + 1) c')) sr w.heap.size (w.heap.size + 1) (fnd1 f (c0 :: p)) SV A n3 c3 vr ∧
      (∀ kk, (Value.slice A n3 c3).ownBlock = some kk → V.ownBlock ≠ some kk) ∧ FrRow (w2.setCell ⟨w.heap.size + 1, 2, none⟩ (.slice (some ⟨g5, 0, none⟩) (n + 1) c')) lo2 V ps us ∧ z0 ≤ (w2.setCell ⟨w.heap.size + 1, 2, none⟩ (.slice (some ⟨g5, 0, none⟩) (n + 1) c')).heap.size := by
  obtain ⟨h1, h2, h3⟩ := h.oneMore hf hc hp hown hg
  have ht := Touch.set w2 (w.heap.size + 1) 2 (.slice (some ⟨g5, 0, none⟩) (n + 1) c')
  refine ⟨SV, some ⟨g5, 0, none⟩, n + 1, c', _, h1, h2, fun kk hk e => ?_, (hfr.grownB hf.row hap hg).touchB (h3.trans hf.blk) ht, by rw [ht.size]; exact Nat.le_trans hz hg.size⟩
  have e1 : g5 = kk := by simpa [Value.ownBlock] using hk
  subst e1
  rcases hat with h5 | h5
  · exact hap _ h5 e
  · have := (own_block hfr.row e).choose_spec.2.2; omega
/-- The result's block is written. -/
theorem FK.last (h : FK base g B nm seg file size count safe vv t cnt s w An N cn ns f wr sr) {SV : Value} {A : Option Addr} {n c : Nat} {vs : List Value} (hf : FndAt wr sr w.heap.size (w.heap.size + 1) f SV A n c vs) (ht : Touch (some w.heap.size) wr wr') :
    Wk base wr' g B nm seg file size count safe vv t cnt sr ∧ FndAt wr' sr w.heap.size (w.heap.size + 1) f SV A n c vs ∧ WFr g s sr w wr' := by
  have hlow : 1 ≤ w.heap.size := by have := h.wk.ten; have := h.wk.up; have := h.glo; omega
  have hno := dk_not h.wk.dk h.b2 (by decide) (by decide) (by decide) (by decide)
  have hglo := h.glo
  have hty : ∀ x cur ty, wr.heap[x]? = some (.cells cur ty (0, 0)) → ty ≠ 29 → x ≠ w.heap.size := fun x cur ty hx hne e => by
    subst e
    rw [h.b2] at hx; injection hx with e; injection e with _ e2 _; exact hne e2.symm
  have hb : ∀ x, x ≠ w.heap.size → wr'.heap[x]? = wr.heap[x]? := fun x hx => ht.block x fun e => hx (Option.some.inj e).symm
  refine ⟨h.wk.keepG (fun x hx hc => hb x fun e => ?_) (by rw [ht.size]; exact Nat.le_refl _), ⟨(hb _ (by omega)).trans hf.blk, hf.len, ownsRow_keep hf.row fun k hk => ?_, hf.off, ?_, fun i v p h1 h2 => ?_, hf.boff, hf.blo⟩, ⟨ht.os.trans h.wfr.os, ht.tape.trans h.wfr.tape, ht.output.trans h.wfr.output, by rw [ht.size]; exact h.wfr.size, fun x hx ho hg => (hb x (by omega)).trans (h.wfr.block x hx ho hg), h.wfr.own⟩⟩
  · subst e
    rcases hc with hc | hc | hc
    · exact hno hc
    · omega
    · have := h.wk.ten; have := h.wk.up; omega
  · obtain ⟨cur, hcc, _⟩ := own_block hf.row hk
    exact hb k (hty k cur _ hcc (by decide))
  · rcases hf.snap with h1 | ⟨a, off, cap, cur, h1, h2, h3, h4, h5⟩
    · exact .inl h1
    · exact .inr ⟨a, off, cap, cur, h1, h2, h3, (hb a (hty a cur _ h4 (by decide))).trans h4, h5⟩
  · obtain ⟨a, off, cap, cur, h1, h2, h3, h4, h5⟩ := hf.each i v p h1 h2
    exact ⟨a, off, cap, cur, h1, h2, h3, (hb a (hty a cur _ h4 (by decide))).trans h4, h5⟩
end
end Go.Proofs.YthokoimoiamddaaGreatDoor
