/-
  net: Lose, Double. Own work.
-/
import Derived.Test.YtgibpiakeaplbaaDoorNetDeliver
import Derived.Test.YtgibpiakeaplbaaDoorNetSend
set_option linter.unusedSimpArgs false
set_option linter.unusedVariables false
namespace Go.Proofs.YtgibpiakeaplbaaDoor
open Go Go.RowKit

theorem placeE_none {S : Int × Int → List Pkt} {k : Int × Int} {i : Int} (h : placeE S k i = none) : ∃ j : Nat, i = j ∧ j < (S k).length ∧ wayE k = none := by
  unfold placeE at h
  split at h
  · cases h
  · rename_i hw
    split at h
    · cases h
    · exact ⟨i.toNat, by omega, by omega, hw⟩

theorem deliver_any (base B : Nat) (S : Int × Int → List Pkt) (k : Int × Int) (i : Int) (w : World) (hn : NetAt base w B S) (hbase : base ≤ w.heap.size) :
    Calls Tryd.prog 19 #[.pointer (some ⟨B, 0, none⟩), .int .i64 k.1, .int .i64 k.2, .int .i64 i] w (DeliverPost base w B S k i) := by
  cases h : placeE S k i with
  | some ec => exact deliver_no base B S k i w hn hbase ec h
  | none =>
    obtain ⟨j, rfl, _, _⟩ := placeE_none h
    exact deliver_yes base B S k j w hn hbase h

def LosePost (base : Nat) (w : World) (B : Nat) (S : Int × Int → List Pkt) (k : Int × Int) (i : Int) (e : Ending) (w' : World) : Prop :=
  Below base w w' ∧ KeepC w w' ∧ e = .returned (errV (placeE S k i)) ∧
    ((placeE S k i ≠ none ∧ NetAt base w' B S) ∨ (placeE S k i = none ∧ ∃ j : Nat, i = j ∧ j < (S k).length ∧ NetAt base w' B (updS S k ((S k).eraseIdx j))))

theorem lose_nil (k : Int × Int) (i : Int) (w : World) : Calls Tryd.prog 16 #[.pointer none, .int .i64 k.1, .int .i64 k.2, .int .i64 i] w fun e w' => e = .returned (errV (some 19)) ∧ Below w.heap.size w w' := by
  have hc := deliver_nil k i w
  simp only [errV] at hc ⊢
  have HC := Lib.hid hc
  clear hc
  go_enter Tryd.func16, Tryd.ntmps16
  go_wp2_with (go_at_call 19; refine HC.out.mono ?_; rintro e w1 ⟨rfl, hb⟩)
  go_ret
  exact ⟨rfl, hb⟩

theorem lose_any (base B : Nat) (S : Int × Int → List Pkt) (k : Int × Int) (i : Int) (w : World) (hn : NetAt base w B S) (hbase : base ≤ w.heap.size) :
    Calls Tryd.prog 16 #[.pointer (some ⟨B, 0, none⟩), .int .i64 k.1, .int .i64 k.2, .int .i64 i] w (LosePost base w B S k i) := by
  have hc : Calls Tryd.prog 19 #[.pointer (some ⟨B, 0, none⟩), .int .i64 k.1, .int .i64 k.2, .int .i64 i] w fun e w' => ∃ a b, e = .returned (.tuple #[a, b]) ∧ Hid (LosePost base w B S k i (.returned b) w') := by
    refine (deliver_any base B S k i w hn hbase).mono ?_
    rintro e w' ⟨h1, h2, ⟨ec, h3, rfl, h4⟩ | ⟨h3, j, p, h4, h5, rfl, h6⟩⟩
    · exact ⟨_, _, rfl, h1, h2, by rw [h3], .inl ⟨by rw [h3]; simp, h4⟩⟩
    · exact ⟨_, _, rfl, h1, h2, by rw [h3]; rfl, .inr ⟨h3, j, h4, (List.getElem?_eq_some_iff.1 h5).1, h6⟩⟩
  have HC := Lib.hid hc
  clear hc hn hbase
  go_enter Tryd.func16, Tryd.ntmps16
  go_wp2_with (go_at_call 19; refine HC.out.mono ?_; rintro e w1 ⟨a, b, rfl, hp⟩)
  go_ret
  exact hp.out

def doubleE (S : Int × Int → List Pkt) (k : Int × Int) (i : Int) : Option Int :=
  match placeE S k i with
  | some e => some e
  | none => if 1024 ≤ (S k).length then some 11 else none

def DoublePost (base : Nat) (w : World) (B : Nat) (S : Int × Int → List Pkt) (k : Int × Int) (i : Int) (e : Ending) (w' : World) : Prop :=
  e = .returned (errV (doubleE S k i)) ∧ Below base w w' ∧ KeepC w w' ∧
    ((doubleE S k i ≠ none ∧ NetAt base w' B S) ∨ (doubleE S k i = none ∧ ∃ (j : Nat) (p : Pkt) (v : Value), i = j ∧ (S k)[j]? = some p ∧ NetAt base w' B (updS S k (S k ++ [(v, p.2)])) ∧ PktOK w.heap.size w' (v, p.2)))

theorem double_nil (k : Int × Int) (i : Int) (w : World) : Calls Tryd.prog 15 #[.pointer none, .int .i64 k.1, .int .i64 k.2, .int .i64 i] w fun e w' => e = .returned (errV (some 19)) ∧ Below w.heap.size w w' := by
  have hc := fun W => place_nil k i W
  simp only [errV] at hc ⊢
  go_enter Tryd.func15, Tryd.ntmps15
  go_wp2_with (go_at_call 30; refine (hc _).mono ?_; rintro e w1 ⟨rfl, hb⟩)
  go_ret
  exact ⟨rfl, ((Below.refl _ _).alloc (Nat.le_refl _) _).trans (hb.mono (by simp))⟩

theorem double_no (base B : Nat) (S : Int × Int → List Pkt) (k : Int × Int) (i : Int) (w : World) (hn : NetAt base w B S) (hbase : base ≤ w.heap.size) (ec : Int) (hp : placeE S k i = some ec) :
    Calls Tryd.prog 15 #[.pointer (some ⟨B, 0, none⟩), .int .i64 k.1, .int .i64 k.2, .int .i64 i] w (DoublePost base w B S k i) := by
  have hc : ∀ W, NetAt base W B S → Calls Tryd.prog 30 #[.pointer (some ⟨B, 0, none⟩), .agg #[.int .i64 k.1, .int .i64 k.2], .int .i64 i] W fun e w' => e = .returned (.iface 39 (.int .i64 ec)) ∧ Below W.heap.size W w' := fun W hW => by simpa [hp, errV] using place_any base B S k i W hW
  have hn1 := Lib.hid hn
  have hc1 := Lib.hid (hc _ (hn.below ((Below.refl _ w).alloc (Nat.le_refl _) (.cells #[.int .i64 k.1, .int .i64 k.2] 70))))
  have hb' : Hid (base ≤ w.heap.size) := hbase
  have hp' : Hid (doubleE S k i = some ec) := by simp [Hid, doubleE, hp]
  clear hc hn hbase hp
  go_enter Tryd.func15, Tryd.ntmps15
  go_wp2_with fail
  refine hc1.out.mono ?_
  rintro e w1 ⟨rfl, hb⟩
  have hb1 : Hid (Below w.heap.size w w1) := ((Below.refl _ _).alloc (Nat.le_refl _) _).trans (hb.mono (by simp))
  clear hb
  go_wp2
  go_ret
  exact ⟨by rw [hp'.out]; rfl, hb1.out.mono hb'.out, KeepC.below hb1.out, .inl ⟨by rw [hp'.out]; simp, hn1.out.below hb1.out⟩⟩

theorem bytesAt_pkt {b : Nat} {w : World} {p : Pkt} {A : Option Addr} {c : Nat} (h : PktOK b w p) (hp : p.1 = .slice A p.2.length c) : BytesAt w A p.2 := by
  rcases h.2 with ⟨hv, hn⟩ | ⟨g, cap, cur, hv, hg, hh, h3, h4, h5, h6⟩
  · rw [hp] at hv
    injection hv with hA _ _
    exact ⟨fun _ => hn, fun ad e => by rw [hA] at e; cases e⟩
  · rw [hp] at hv
    injection hv with hA _ _
    refine ⟨fun e => (by rw [e] at hA; cases hA), fun ad e j u hu => ?_⟩
    rw [hA] at e
    cases e
    have hlt : j < p.2.length := by
      have := (List.getElem?_eq_some_iff.1 hu).1
      simpa [byteVs] using this
    have hadd : (⟨g, 0, none⟩ : Addr).add j = ⟨g, j, none⟩ := by unfold Addr.add; split <;> simp_all
    rw [hadd]
    have hc : w.cell? ⟨g, j, none⟩ = cur[j]? := by simp [World.cell?, hh]
    rw [hc, ← hu, ← h6, List.getElem?_take, if_pos (by omega)]
    simp

set_option maxHeartbeats 1000000 in
theorem double_yes (base B : Nat) (S : Int × Int → List Pkt) (k : Int × Int) (j : Nat) (w : World) (hn : NetAt base w B S) (hbase : base ≤ w.heap.size) (hp : placeE S k j = none) :
    Calls Tryd.prog 15 #[.pointer (some ⟨B, 0, none⟩), .int .i64 k.1, .int .i64 k.2, .int .i64 (j : Nat)] w (DoublePost base w B S k j) := by
  have hc : ∀ W, NetAt base W B S → Calls Tryd.prog 30 #[.pointer (some ⟨B, 0, none⟩), .agg #[.int .i64 k.1, .int .i64 k.2], .int .i64 (j : Nat)] W fun e w' => e = .returned .nilIface ∧ Below W.heap.size W w' := fun W hW => by simpa [hp, errV] using place_any base B S k j W hW
  have hc1 := Lib.hid (hc _ (hn.below ((Below.refl _ w).alloc (Nat.le_refl _) (.cells #[.int .i64 k.1, .int .i64 k.2] 70))))
  obtain ⟨j', hj', hjl, hwe⟩ := placeE_none hp
  obtain rfl : j = j' := by omega
  have hne : S k ≠ [] := fun e => by rw [e] at hjl; simp at hjl
  have hn0 := Lib.hid hn
  obtain ⟨M, cm, L, hin⟩ := hn
  obtain ⟨g, cap, hv, hrow⟩ := hin.there hne
  obtain ⟨p, hpj⟩ : ∃ p, (S k)[j]? = some p := ⟨_, List.getElem?_eq_getElem hjl⟩
  have hpok : PktOK base w p := hin.pk k p (List.mem_of_getElem? hpj)
  have hp2 : p.2.length ≤ 1048576 := hin.lens k p (List.mem_of_getElem? hpj)
  obtain ⟨A9, c9, hp9⟩ := own_slice hpok
  have hpj1 : ((S k).map (·.1))[j]? = some (.slice A9 p.2.length c9) := by simp [hpj, hp9]
  have hse : sendE S k p.2.length = doubleE S k j := by
    unfold sendE doubleE
    rw [hwe, hp]
    simp only
    rw [if_neg (by omega)]
  have hcell := Lib.hid (row_cell hrow hpj1)
  obtain ⟨n, hS⟩ : ∃ n, Hid ((S k).length = n) := ⟨_, rfl⟩
  rw [hS.out] at hv hrow hjl
  have HV := Lib.hid hv
  have HIN := Lib.hid hin
  have hb' : Hid (base ≤ w.heap.size) := hbase
  have HP := Lib.hid (And.intro hse (And.intro hpj (And.intro hp9 hpok)))
  have hjl2 : ((j : Nat) : Int) < n := by omega
  have hb0 : ((0 : Int) ≤ j) := by omega
  clear hc hin hrow hv hbase hp hpj hpj1 hp9 hpok hne hj' hse hwe hp2 hjl
  go_enter Tryd.func15, Tryd.ntmps15
  go_wp2_with fail
  refine hc1.out.mono ?_
  rintro e w1 ⟨rfl, hb⟩
  have hb1 : Hid (Below w.heap.size w w1.drew) := ((Below.refl _ _).alloc (Nat.le_refl _) _).trans ((hb.mono (by simp)).trans ⟨rfl, rfl, rfl, Nat.le_refl _, fun _ _ => rfl⟩)
  obtain ⟨c0, c1⟩ := box2 hb
  have hin1 := HIN.out.below hb1.out
  have k0 : w1.cell? ⟨B, 0, none⟩ = some (.map (some M)) := hin1.cell
  have r0 : w1.cell? ⟨g, j, none⟩ = some (.slice A9 p.2.length c9) := (World.cell?_of_block (w := w) (hb1.out.block g (World.block_lt_of_cell? w _ hcell.out))).trans hcell.out
  have hl : (Instr.lookup 60 (.map (some M)) (.agg #[.int .i64 k.1, .int .i64 k.2]) false).run Tryd.prog w1.drew = .ok (.slice (some ⟨g, 0, none⟩) n cap) w1.drew := by
    have h := hin1.look k (A := some ⟨g, 0, none⟩) (cap := cap) (by rw [HV.out, hS.out]; rfl)
    rw [hS.out] at h
    exact h
  have HSEND : Hid (Calls Tryd.prog 12 #[.pointer (some ⟨B, 0, none⟩), .int .i64 k.1, .int .i64 k.2, .slice A9 p.2.length c9] w1.drew (SendPost base w1.drew B S k p.2)) :=
    send_any base B S k A9 c9 p.2 w1.drew (hn0.out.below hb1.out) (Nat.le_trans hb'.out hb1.out.size) (bytesAt_pkt (HP.out.2.2.2.below hb1.out) HP.out.2.2.1)
  clear hb hin1 hc1
  go_wp2
  go_region_law (go_simp; go_at_call 12; refine HSEND.out.mono ?_; rintro e w5 ⟨rfl, hp1, hp3, hp2⟩)
  all_goals
    go_wp2
    go_ret
    refine ⟨by rw [← HP.out.1]; rfl, (hb1.out.mono hb'.out).trans hp1, (KeepC.below hb1.out).trans hp3, ?_⟩
    rcases hp2 with ⟨h1, h2⟩ | ⟨h1, v, h2, h3⟩
    · exact .inl ⟨by rw [← HP.out.1]; exact h1, h2⟩
    · exact .inr ⟨by rw [← HP.out.1]; exact h1, j, p, v, rfl, HP.out.2.1, h2, ownsRow_lower h3 hb1.out.size⟩

theorem double_any (base B : Nat) (S : Int × Int → List Pkt) (k : Int × Int) (i : Int) (w : World) (hn : NetAt base w B S) (hbase : base ≤ w.heap.size) :
    Calls Tryd.prog 15 #[.pointer (some ⟨B, 0, none⟩), .int .i64 k.1, .int .i64 k.2, .int .i64 i] w (DoublePost base w B S k i) := by
  cases h : placeE S k i with
  | some ec => exact double_no base B S k i w hn hbase ec h
  | none =>
    obtain ⟨j, rfl, _, _⟩ := placeE_none h
    exact double_yes base B S k j w hn hbase h
end Go.Proofs.YtgibpiakeaplbaaDoor
