/-
  net: Send. Own work (printed by gen_send.py).
-/
import Derived.Test.YtgibpiakeaplbaaDoorNetSend1
import Derived.Deep.RegionHeldLaw
set_option linter.unusedSimpArgs false
set_option linter.unusedVariables false
namespace Go.Proofs.YtgibpiakeaplbaaDoor
open Go Go.RowKit

def sendE (S : Int × Int → List Pkt) (k : Int × Int) (len : Nat) : Option Int :=
  match wayE k with
  | some e => some e
  | none => if 1048576 < len then some 2 else if 1024 ≤ (S k).length then some 11 else none

def SendPost (base : Nat) (w : World) (B : Nat) (S : Int × Int → List Pkt) (k : Int × Int) (bs : List UInt8) (e : Ending) (w' : World) : Prop :=
  e = .returned (errV (sendE S k bs.length)) ∧ Below base w w' ∧ KeepC w w' ∧
    ((sendE S k bs.length ≠ none ∧ NetAt base w' B S) ∨ (sendE S k bs.length = none ∧ ∃ v, NetAt base w' B (updS S k (S k ++ [(v, bs)])) ∧ PktOK w.heap.size w' (v, bs)))

theorem send_nil (k : Int × Int) (A : Option Addr) (n c : Nat) (w : World) : Calls Tryd.prog 12 #[.pointer none, .int .i64 k.1, .int .i64 k.2, .slice A n c] w fun e w' => e = .returned (errV (some 19)) ∧ Below w.heap.size w w' := by
  have hc := fun W => check_nil k W
  simp only [errV] at hc ⊢
  go_enter Tryd.func12, Tryd.ntmps12
  go_wp2_with (go_at_call 26; refine (hc _).mono ?_; rintro e w1 ⟨rfl, hb⟩)
  go_ret
  exact ⟨rfl, ((Below.refl _ _).alloc (Nat.le_refl _) _).trans (hb.mono (by simp))⟩

set_option maxHeartbeats 2000000 in
theorem send_any (base B : Nat) (S : Int × Int → List Pkt) (k : Int × Int) (A : Option Addr) (c : Nat) (bs : List UInt8) (w : World) (hn : NetAt base w B S) (hbase : base ≤ w.heap.size) (hA : BytesAt w A bs) :
    Calls Tryd.prog 12 #[.pointer (some ⟨B, 0, none⟩), .int .i64 k.1, .int .i64 k.2, .slice A bs.length c] w (SendPost base w B S k bs) := by
  have hc := fun W => check_any B k W
  rcases hw : wayE k with _ | ec
  · have hc' : ∀ W, Calls Tryd.prog 26 #[.pointer (some ⟨B, 0, none⟩), .agg #[.int .i64 k.1, .int .i64 k.2]] W fun e w' => e = .returned .nilIface ∧ Below W.heap.size W w' := fun W => by simpa [hw, errV] using hc W
    have hway : Hid (wayB k = true) := by
      simp only [Hid]; unfold wayE at hw; split at hw
      · assumption
      · cases hw
    obtain ⟨M, cm, L, hin⟩ := hn
    obtain ⟨A0, cap0, hv⟩ := hin.val k
    have hlen : Hid ((S k).length ≤ 1024) := hin.most k
    have HV := Lib.hid hv
    have HIN := Lib.hid hin
    obtain ⟨n, hS⟩ : ∃ n, Hid ((S k).length = n) := ⟨_, rfl⟩
    rw [hS.out] at hv
    obtain ⟨m, hm⟩ : ∃ m, Hid (bs.length = m) := ⟨_, rfl⟩
    obtain ⟨r, e, hcase⟩ : ∃ r, Hid (sendE S k bs.length = r) ∧ ((r = some 2 ∧ 1048576 < m) ∨ (r = some 11 ∧ ¬ 1048576 < m ∧ 1024 ≤ n) ∨ (r = none ∧ ¬ 1048576 < m ∧ ¬ 1024 ≤ n)) := by
      refine ⟨_, rfl, ?_⟩
      simp only [sendE, hw, hS.out, hm.out]
      by_cases h1 : 1048576 < m
      · simp [h1]
      · by_cases h2 : 1024 ≤ n
        · simp [h1, h2]
        · simp [h1, h2]
    have HA := Lib.hid hA
    have hbase' : Hid (base ≤ w.heap.size) := hbase
    have hv' := Lib.hid hv
    clear hc hv hin hA hbase
    rcases hcase with ⟨rfl, h1⟩ | ⟨rfl, h1, h2⟩ | ⟨rfl, h1, h2⟩
    · go_enter Tryd.func12, Tryd.ntmps12
      rw [hm.out]
      have h1' : decide ((m : Int) > 1048576) = true := by simp; omega
      go_wp2_with (go_at_call 26; refine (hc' _).mono ?_; rintro e w1 ⟨rfl, hb⟩)
      have hb1 : Below w.heap.size w w1 := ((Below.refl _ _).alloc (Nat.le_refl _) _).trans (hb.mono (by simp))
      go_ret
      exact ⟨by rw [e.out]; rfl, hb1.mono hbase'.out, KeepC.below hb1, .inl ⟨by rw [e.out]; simp, M, cm, L, HIN.out.below hb1⟩⟩
    · have h1' : decide ((m : Int) > 1048576) = false := by simp; omega
      have h2' : decide ((n : Int) ≥ 1024) = true := by simp; omega
      go_enter Tryd.func12, Tryd.ntmps12
      rw [hm.out]
      go_wp2_with fail
      refine (hc' _).mono ?_
      rintro e w1 ⟨rfl, hb⟩
      have hb1 : Hid (Below w.heap.size w w1) := ((Below.refl _ _).alloc (Nat.le_refl _) _).trans (hb.mono (by simp))
      obtain ⟨c0, c1⟩ := box2 hb
      have hin1 := HIN.out.below hb1.out
      have k0 := hin1.cell
      have hl : ∀ j, (Instr.lookup 60 (.map (some M)) (.agg #[.int .i64 k.1, .int .i64 k.2]) false).run Tryd.prog (w1.drewN j) = .ok (.slice A0 n cap0) (w1.drewN j) := fun j => by
        have h := (hin1.below (drewN_below w1 j)).look k HV.out
        rw [hS.out] at h
        exact h
      clear hb hin1
      go_wp2
      go_quiet (fail)
      go_wp2
      go_ret
      have hb2 := hb1.out.trans ((drewN_below w1 nq).mono hb1.out.size)
      exact ⟨by rw [e.out]; rfl, hb2.mono hbase'.out, KeepC.below hb2, .inl ⟨by rw [e.out]; simp, M, cm, L, HIN.out.below hb2⟩⟩
    · have h1' : decide ((m : Int) > 1048576) = false := by simp; omega
      have h2' : decide ((n : Int) ≥ 1024) = false := by simp; omega
      have hmx : Hid (n + 1 ≤ maxLen) := Nat.le_trans (show n + 1 ≤ 1024 by omega) (by decide)
      have hbx : Hid ((n + 1) * 24 ≤ 140737488355328) := Nat.le_trans (Nat.mul_le_mul_right 24 (show n + 1 ≤ 1024 by omega)) (by decide)
      have hm1 : Hid (bs.length ≤ maxLen) := by simp only [Hid]; rw [hm.out]; exact Nat.le_trans (show m ≤ 1048576 by omega) (by decide)
      have hm2 : Hid (bs.length * 1 ≤ 140737488355328) := by simp only [Hid]; rw [hm.out]; exact Nat.le_trans (Nat.mul_le_mul_right 1 (show m ≤ 1048576 by omega)) (by decide)
      have hm3 : Hid (m ≤ 1048576) := by simp only [Hid]; omega
      have hn1 : Hid (n < 1024) := by simp only [Hid]; omega
      have hm' : Hid (m = bs.length) := hm.out.symm
      clear h1 h2
      go_enter Tryd.func12, Tryd.ntmps12
      rw [hm.out]
      go_wp2_with fail
      refine (hc' _).mono ?_
      rintro e w1 ⟨rfl, hb⟩
      have hb1 : Hid (Below w.heap.size w w1) := ((Below.refl _ _).alloc (Nat.le_refl _) _).trans (hb.mono (by simp))
      have hKb : Hid (w1.heap[w.heap.size]? = some (.cells #[.int .i64 k.1, .int .i64 k.2] 70 (0, 0))) := (hb.block _ (by simp)).trans (heap_alloc_new _ _)
      obtain ⟨c0, c1⟩ := box2 hb
      have hin1 := HIN.out.below hb1.out
      have k0 := hin1.cell
      have hl : ∀ j, (Instr.lookup 60 (.map (some M)) (.agg #[.int .i64 k.1, .int .i64 k.2]) false).run Tryd.prog (w1.drewN j) = .ok (.slice A0 n cap0) (w1.drewN j) := fun j => by
        have h := (hin1.below (drewN_below w1 j)).look k HV.out
        rw [hS.out] at h
        exact h
      clear hb hin1
      go_wp2
      go_quiet (fail)
      go_wp2
      -- the last statement: in the world w2
      have hb2 : Hid (Below w.heap.size w (w1.drewN nq)) := hb1.out.trans ((drewN_below w1 nq).mono hb1.out.size)
      have C2 : CellsS (w1.drewN nq) B M w.heap.size k := ⟨k0, c0, c1⟩
      have hKb2 : Hid ((w1.drewN nq).heap[w.heap.size]? = some (.cells #[.int .i64 k.1, .int .i64 k.2] 70 (0, 0))) := hKb.out
      obtain ⟨w2, hw2⟩ : ∃ w2, w2 = w1.drewN nq := ⟨_, rfl⟩
      rw [← hw2] at hb2 C2 hKb2 ⊢
      have X : Hid (SendCtx base B S k w2 M cm L A0 n cap0 w.heap.size A bs) := by
        refine ⟨HIN.out.below hb2.out, Nat.le_trans hbase'.out hb2.out.size, hv'.out, hS.out, hn1.out, hway.out, C2, fun h => ?_, fun cur h => ?_, HA.out.below hb2.out, ?_⟩
        · have := HIN.out.ltM; omega
        · rw [hKb2.out] at h; injection h with h; injection h with _ h _; exact absurd h (by decide)
        · rw [hm.out]; exact hm3.out
      have HW2 := Lib.hid (And.intro C2 hb2.out)
      have hCd : CellsS w2.drew B M w.heap.size k := C2
      clear hl k0 c0 c1 hw2 hc' hKb hKb2 C2
      have hmm0 := hm.out
      subst hmm0
      obtain ⟨i0, hi0, hz0, hz1, hz2⟩ := info_parts rowT_info
      -- the entry first
      obtain ⟨st, wm, hme, hmm, hms, hmsz, hmst⟩ := entry_step (W := w2.drew) X.out.hin.map X.out.hin.wf k X.out.hv
      have Hmm := Lib.hid hmm
      have hms2 : Hid (Since w2 wm M) := (Since.drew w2 M).trans hms
      have Cm := X.out.same hms2.out
      have Hmst := Lib.hid hmst
      clear hmm hms hmsz hmst
      go_region_held_law (fun w' => w'.cell? ⟨B, 0, none⟩ = some (.map (some M)) ∧ w'.cell? ⟨w.heap.size, 0, none⟩ = some (.int .i64 k.1) ∧ w'.cell? ⟨w.heap.size, 1, none⟩ = some (.int .i64 k.2))
        (first | assumption | exact hCo _)
        (first
          | (go_simp; go_at_call 27; refine (X.out.clone (by first | exact hms2.out | exact Since.drew w2 M) _).mono ?_; rintro e w3 ⟨A9, c9, rfl, hs3, hM3, hC3, hpk3, hrow3, hCo⟩
             first
              | (have HM := Lib.hid ((X.out.midA Hmm.out Hmst.out hs3.out hM3.out.1 hpk3.out hrow3.out).alloc (.cells #[.slice A9 bs.length c9] 27)); have HMn := Lib.hid (newcell w3 (.slice A9 bs.length c9) 27 _ rfl); have HMb := Lib.hid (Nat.le_trans X.out.hb HM.out.since.size))
              | (obtain ⟨st1, wm3, hme3, hC31, hC3o, HM0, HS1⟩ := X.out.midB hs3.out hM3.out.1 hpk3.out hrow3.out; have HM1 := Lib.hid (HM0.out.alloc (.cells #[.slice A9 bs.length c9] 27)); have HM1n := Lib.hid (newcell wm3 (.slice A9 bs.length c9) 27 _ rfl); have HM1b := Lib.hid (Nat.le_trans X.out.hb HM1.out.since.size); obtain ⟨st2, wm3a, hme3a, hC32, _, HM2, HS2⟩ := X.out.midB (W := w3.alloc (.cells #[.slice A9 bs.length c9] 27)) (hs3.out.trans (Since.alloc _ _ _)) ((Below.heap_alloc _ _ _ hM3.out.2).trans hM3.out.1) (hpk3.out.below ((Below.refl _ _).alloc (Nat.le_refl _) _)) (hrow3.out.alloc _); have HM2n := Lib.hid (newcell_later (.slice A9 bs.length c9) 27 HS2.out.1 hM3.out.2); have HM2b := Lib.hid (Nat.le_trans X.out.hb HM2.out.since.size)))
          | (refine step_append_lies _ (by rfl) _ _ _ (by rfl) base 27 i0 _ 1 24 Tryd.underlying56 hi0 hz0 hz1 hz2 rfl (by decide) (.slice A0 n cap0) n ((S k).map (·.1)) (by rfl) (HM.out.row) ⟨w3.heap.size, 0, none⟩ 1 1 [.slice A9 bs.length c9] (by rfl) (by rfl) HMn.out (by simp [Value.oneCell']) (by decide) hmx.out hbx.out HMb.out _ rfl ?_; intro g cap w4 hown4 hgrow4 hat4 hlt4; obtain ⟨w5, hes, hc4, hc5, hfin⟩ := X.out.fin HM.out hown4 hgrow4 hat4)
          | (refine step_append_lies _ (by rfl) _ _ _ (by rfl) base 27 i0 _ 1 24 Tryd.underlying56 hi0 hz0 hz1 hz2 rfl (by decide) (.slice A0 n cap0) n ((S k).map (·.1)) (by rfl) (HM1.out.row) ⟨wm3.heap.size, 0, none⟩ 1 1 [.slice A9 bs.length c9] (by rfl) (by rfl) HM1n.out (by simp [Value.oneCell']) (by decide) hmx.out hbx.out HM1b.out _ rfl ?_; intro g cap w4 hown4 hgrow4 hat4 hlt4; obtain ⟨w5, hes, hc4, hc5, hfin⟩ := X.out.fin HM1.out hown4 hgrow4 hat4)
          | (refine step_append_lies _ (by rfl) _ _ _ (by rfl) base 27 i0 _ 1 24 Tryd.underlying56 hi0 hz0 hz1 hz2 rfl (by decide) (.slice A0 n cap0) n ((S k).map (·.1)) (by rfl) (HM2.out.row) ⟨w3.heap.size, 0, none⟩ 1 1 [.slice A9 bs.length c9] (by rfl) (by rfl) HM2n.out (by simp [Value.oneCell']) (by decide) hmx.out hbx.out HM2b.out _ rfl ?_; intro g cap w4 hown4 hgrow4 hat4 hlt4; obtain ⟨w5, hes, hc4, hc5, hfin⟩ := X.out.fin HM2.out hown4 hgrow4 hat4))
      all_goals
        clear hes hc4 hc5 hown4 hgrow4 hat4 hlt4 hme Cm hCd
        go_wp2
        go_ret
        exact ⟨by rw [e.out]; rfl, (HW2.out.2.mono hbase'.out).trans hfin.out.2.1, (KeepC.below HW2.out.2).trans hfin.out.2.2.2, .inr ⟨e.out, _, hfin.out.1, ownsRow_lower hfin.out.2.2.1 HW2.out.2.size⟩⟩
  · have hc' : ∀ W, Calls Tryd.prog 26 #[.pointer (some ⟨B, 0, none⟩), .agg #[.int .i64 k.1, .int .i64 k.2]] W fun e w' => e = .returned (.iface 39 (.int .i64 ec)) ∧ Below W.heap.size W w' := fun W => by simpa [hw, errV] using hc W
    have e : sendE S k bs.length = some ec := by simp [sendE, hw]
    clear hc
    go_enter Tryd.func12, Tryd.ntmps12
    go_wp2_with (go_at_call 26; refine (hc' _).mono ?_; rintro e w1 ⟨rfl, hb⟩)
    have hb1 : Below w.heap.size w w1 := ((Below.refl _ _).alloc (Nat.le_refl _) _).trans (hb.mono (by simp))
    go_ret
    exact ⟨by rw [e]; rfl, hb1.mono hbase, KeepC.below hb1, .inl ⟨by rw [e]; simp, hn.below hb1⟩⟩
end Go.Proofs.YtgibpiakeaplbaaDoor
