/-
  net: Deliver, Lose. Own work.
-/
import Derived.Test.YtgibpiakeaplbaaDoorNetDeliver0
import Derived.Deep.RegionHeldLaw
set_option linter.unusedSimpArgs false
set_option linter.unusedVariables false
namespace Go.Proofs.YtgibpiakeaplbaaDoor
open Go Go.RowKit

def DeliverPost (base : Nat) (w : World) (B : Nat) (S : Int × Int → List Pkt) (k : Int × Int) (i : Int) (e : Ending) (w' : World) : Prop :=
  Below base w w' ∧ KeepC w w' ∧
    ((∃ ec, placeE S k i = some ec ∧ e = .returned (.tuple #[.slice none 0 0, errV (some ec)]) ∧ NetAt base w' B S) ∨
     (placeE S k i = none ∧ ∃ j p, i = (j : Nat) ∧ (S k)[j]? = some p ∧ e = .returned (.tuple #[p.1, .nilIface]) ∧ NetAt base w' B (updS S k ((S k).eraseIdx j))))

theorem deliver_nil (k : Int × Int) (i : Int) (w : World) : Calls Tryd.prog 19 #[.pointer none, .int .i64 k.1, .int .i64 k.2, .int .i64 i] w fun e w' => e = .returned (.tuple #[.slice none 0 0, errV (some 19)]) ∧ Below w.heap.size w w' := by
  have hc := fun W => place_nil k i W
  simp only [errV] at hc ⊢
  go_enter Tryd.func19, Tryd.ntmps19
  go_wp2_with (go_at_call 30; refine (hc _).mono ?_; rintro e w1 ⟨rfl, hb⟩)
  go_ret2
  exact ⟨rfl, ((Below.refl _ _).alloc (Nat.le_refl _) _).trans (hb.mono (by simp))⟩

theorem deliver_no (base B : Nat) (S : Int × Int → List Pkt) (k : Int × Int) (i : Int) (w : World) (hn : NetAt base w B S) (hbase : base ≤ w.heap.size) (ec : Int) (hp : placeE S k i = some ec) :
    Calls Tryd.prog 19 #[.pointer (some ⟨B, 0, none⟩), .int .i64 k.1, .int .i64 k.2, .int .i64 i] w (DeliverPost base w B S k i) := by
  have hc : ∀ W, NetAt base W B S → Calls Tryd.prog 30 #[.pointer (some ⟨B, 0, none⟩), .agg #[.int .i64 k.1, .int .i64 k.2], .int .i64 i] W fun e w' => e = .returned (.iface 39 (.int .i64 ec)) ∧ Below W.heap.size W w' := fun W hW => by simpa [hp, errV] using place_any base B S k i W hW
  have hn1 := Lib.hid hn
  have hc1 := Lib.hid (hc _ (hn.below ((Below.refl _ w).alloc (Nat.le_refl _) (.cells #[.int .i64 k.1, .int .i64 k.2] 70))))
  have hb' : Hid (base ≤ w.heap.size) := hbase
  have hp' := Lib.hid hp
  clear hc hn hbase hp
  go_enter Tryd.func19, Tryd.ntmps19
  go_wp2_with fail
  refine hc1.out.mono ?_
  rintro e w1 ⟨rfl, hb⟩
  have hb1 : Hid (Below w.heap.size w w1) := ((Below.refl _ _).alloc (Nat.le_refl _) _).trans (hb.mono (by simp))
  clear hb
  go_wp2
  go_ret2
  exact ⟨hb1.out.mono hb'.out, KeepC.below hb1.out, .inl ⟨ec, hp'.out, rfl, hn1.out.below hb1.out⟩⟩

set_option maxHeartbeats 1000000 in
theorem deliver_yes (base B : Nat) (S : Int × Int → List Pkt) (k : Int × Int) (j : Nat) (w : World) (hn : NetAt base w B S) (hbase : base ≤ w.heap.size) (hp : placeE S k j = none) :
    Calls Tryd.prog 19 #[.pointer (some ⟨B, 0, none⟩), .int .i64 k.1, .int .i64 k.2, .int .i64 (j : Nat)] w (DeliverPost base w B S k j) := by
  have hc : ∀ W, NetAt base W B S → Calls Tryd.prog 30 #[.pointer (some ⟨B, 0, none⟩), .agg #[.int .i64 k.1, .int .i64 k.2], .int .i64 (j : Nat)] W fun e w' => e = .returned .nilIface ∧ Below W.heap.size W w' := fun W hW => by simpa [hp, errV] using place_any base B S k j W hW
  have hc1 := Lib.hid (hc _ (hn.below ((Below.refl _ w).alloc (Nat.le_refl _) (.cells #[.int .i64 k.1, .int .i64 k.2] 70))))
  have hjl : j < (S k).length := by
    unfold placeE at hp
    split at hp
    · cases hp
    · split at hp
      · cases hp
      · omega
  have hne : S k ≠ [] := fun e => by rw [e] at hjl; simp at hjl
  obtain ⟨M, cm, L, hin⟩ := hn
  obtain ⟨g, cap, hv, hrow⟩ := hin.there hne
  obtain ⟨p, hpj⟩ : ∃ p, (S k)[j]? = some p := ⟨_, List.getElem?_eq_getElem hjl⟩
  have hpok : PktOK base w p := hin.pk k p (List.mem_of_getElem? hpj)
  obtain ⟨A9, c9, hp9⟩ := own_slice hpok
  have hpj1 : ((S k).map (·.1))[j]? = some (.slice A9 p.2.length c9) := by simp [hpj, hp9]
  obtain ⟨m9, hm9⟩ : ∃ m9, m9 = p.2.length := ⟨_, rfl⟩
  rw [← hm9] at hpj1 hp9
  obtain ⟨sl, hsl⟩ := pkts_encS (fun q hq => hin.pk k q hq)
  have hcell := Lib.hid (row_cell hrow hpj1)
  have hmost := hin.most k
  obtain ⟨n, hS⟩ : ∃ n, Hid ((S k).length = n) := ⟨_, rfl⟩
  rw [hS.out] at hv hrow hmost hjl
  have hm2 : Hid (n ≤ 1024) := hmost
  have HV := Lib.hid hv
  have HIN := Lib.hid hin
  have hb' : Hid (base ≤ w.heap.size) := hbase
  have HP := Lib.hid (And.intro hp (And.intro hpj hp9))
  have Hsl := Lib.hid hsl
  have hjl2 : ((j : Nat) : Int) < n := by omega
  have hj1 : IntKind.i64.wrap ((j : Int) + 1) = ((j + 1 : Nat) : Int) := by rw [IntKind.wrap_i64]; omega
  have hb0 : ((0 : Int) ≤ j) := by omega
  have hjl' : Hid (j < n) := hjl
  clear hc hin hrow hv hbase hp hpj hpj1 hp9 hpok hsl hmost hne hm9
  go_enter Tryd.func19, Tryd.ntmps19
  go_wp2_with fail
  refine hc1.out.mono ?_
  rintro e w1 ⟨rfl, hb⟩
  have hb1 : Hid (Below w.heap.size w w1) := ((Below.refl _ _).alloc (Nat.le_refl _) _).trans (hb.mono (by simp))
  have hKb : Hid (w1.heap[w.heap.size]? = some (.cells #[.int .i64 k.1, .int .i64 k.2] 70 (0, 0))) := (hb.block _ (by simp)).trans (heap_alloc_new _ _)
  obtain ⟨c0, c1⟩ := box2 hb
  have hin1 := HIN.out.below hb1.out
  have k0 := hin1.cell
  have r0 : w1.cell? ⟨g, j, none⟩ = some (.slice A9 m9 c9) := (World.cell?_of_block (w := w) (hb1.out.block g (World.block_lt_of_cell? w _ hcell.out))).trans hcell.out
  have hl : ∀ q, (Instr.lookup 60 (.map (some M)) (.agg #[.int .i64 k.1, .int .i64 k.2]) false).run Tryd.prog (w1.drewN q) = .ok (.slice (some ⟨g, 0, none⟩) n cap) (w1.drewN q) := fun q => by
    have h := (hin1.below (drewN_below w1 q)).look k (A := some ⟨g, 0, none⟩) (cap := cap) (by rw [HV.out, hS.out]; rfl)
    rw [hS.out] at h
    exact h
  clear hb hin1 hjl
  go_wp2
  go_quiet (fail)
  go_wp2
  -- the shift and the store: in the world w2
  have hb2 : Hid (Below w.heap.size w (w1.drewN nq).drew) := hb1.out.trans ((drewN_below w1 (nq + 1)).mono hb1.out.size)
  have hl2 : (Instr.lookup 60 (.map (some M)) (.agg #[.int .i64 k.1, .int .i64 k.2]) false).run Tryd.prog (w1.drewN nq).drew = .ok (.slice (some ⟨g, 0, none⟩) n cap) (w1.drewN nq).drew := hl (nq + 1)
  have C2 : CellsS (w1.drewN nq).drew B M w.heap.size k := ⟨k0, c0, c1⟩
  have hKb2 : Hid ((w1.drewN nq).drew.heap[w.heap.size]? = some (.cells #[.int .i64 k.1, .int .i64 k.2] 70 (0, 0))) := hKb.out
  have HIN2 := Lib.hid (HIN.out.below hb2.out)
  have hbw : Hid (base ≤ (w1.drewN nq).drew.heap.size) := Nat.le_trans hb'.out hb2.out.size
  have HDEL : Hid (Calls Tryd.prog 31 #[.slice (some ⟨g, 0, none⟩) n cap, .int .i64 (j : Nat), .int .i64 ((j : Int) + 1)] (w1.drewN nq).drew fun e w3 => e = .returned (.slice (some ⟨g, 0, none⟩) (n - 1) cap) ∧ CellsS w3 B M w.heap.size k ∧
      ∃ w4, (Instr.mapUpdate 60 (.map (some M)) (.agg #[.int .i64 k.1, .int .i64 k.2]) (.slice (some ⟨g, 0, none⟩) (n - 1) cap)).run Tryd.prog w3 = .ok () w4 ∧ CellsS w4 B M w.heap.size k ∧
      Hid (MapAt pairV w4 M (putE k (.slice (some ⟨g, 0, none⟩) (n - 1) cap) cm L) (clkE k L cm)) ∧ Hid (KeepC (w1.drewN nq).drew w4 ∧ Below base (w1.drewN nq).drew w4) ∧
      Hid (1 < n → NetAt base w4 B (updS S k ((S k).eraseIdx j))) ∧
      Hid (n = 1 → ∀ w5, MapAt pairV w5 M (delE k (putE k (.slice (some ⟨g, 0, none⟩) (n - 1) cap) cm L)) (clkE k L cm) → Since w4 w5 M → NetAt base w5 B (updS S k ((S k).eraseIdx j)) ∧ KeepC (w1.drewN nq).drew w5 ∧ Below base (w1.drewN nq).drew w5)) := by
    have hne : S k ≠ [] := fun e => by have := hS.out; rw [e] at this; have := hjl'.out; simp at *; omega
    have hrow2 : (w1.drewN nq).drew.ownsRow base 27 1 (.slice (some ⟨g, 0, none⟩) n cap) n (sl.map encS) := by
      obtain ⟨g', cap', hv', hr'⟩ := HIN2.out.there hne
      rw [HV.out] at hv'
      injection hv' with hv'
      rw [← hv', hS.out] at hr'
      rw [Hsl.out]; exact hr'
    refine (del_any base g cap n j sl _ hrow2 hjl'.out).mono ?_
    rintro e w3 ⟨rfl, h1, h2, _⟩
    have h1' : w3.ownsRow base 27 1 (.slice (some ⟨g, 0, none⟩) (n - 1) cap) (n - 1) (((S k).map (·.1)).eraseIdx j) := by
      rw [← Hsl.out, ← map_erase]; exact h1
    obtain ⟨w4, q1, q2, q3, q4, q5⟩ := del_step HIN2.out hbw.out HV.out hS.out hjl'.out h1' h2
    have hc3 : CellsS w3 B M w.heap.size k := by
      have hB : some B ≠ some g := fun e => by
        cases e
        obtain ⟨cur, hh, _⟩ := own_block hrow2 (g := B) rfl
        rw [HIN2.out.blk] at hh; injection hh with hh; injection hh with _ hh _; exact absurd hh (by decide)
      have hK : some w.heap.size ≠ some g := fun e => by
        cases e
        obtain ⟨cur, hh, _⟩ := own_block hrow2 (g := w.heap.size) rfl
        rw [hKb2.out] at hh; injection hh with hh; injection hh with _ hh _; exact absurd hh (by decide)
      exact ⟨(World.cell?_of_block (h2.block _ HIN2.out.ltB hB)).trans C2.1, (World.cell?_of_block (h2.block _ (Array.getElem?_eq_some_iff.1 hKb2.out).1 hK)).trans C2.2.1, (World.cell?_of_block (h2.block _ (Array.getElem?_eq_some_iff.1 hKb2.out).1 hK)).trans C2.2.2⟩
    have hc4 : CellsS w4 B M w.heap.size k := by
      have hB4 : w4.heap[B]? = _ := q3.out.1 B _ _ _ HIN2.out.blk (by decide)
      have hK4 : w4.heap[w.heap.size]? = _ := q3.out.1 _ _ _ _ hKb2.out (by decide)
      exact ⟨by simp [World.cell?, hB4], by simp [World.cell?, hK4], by simp [World.cell?, hK4]⟩
    exact ⟨rfl, hc3, w4, q1, hc4, q2, q3, q4, q5⟩
  obtain ⟨w2, hw2⟩ : ∃ w2, w2 = (w1.drewN nq) := ⟨_, rfl⟩
  rw [← hw2] at hb2 hl2 C2 HDEL hbw ⊢
  clear hl k0 c0 c1 hw2 hKb hKb2 r0 HIN2 hc1
  go_region_held_law (fun w' => w'.cell? ⟨B, 0, none⟩ = some (.map (some M)) ∧ w'.cell? ⟨w.heap.size, 0, none⟩ = some (.int .i64 k.1) ∧ w'.cell? ⟨w.heap.size, 1, none⟩ = some (.int .i64 k.2))
    (assumption)
    ((go_simp; go_at_call 31; refine HDEL.out.mono ?_; rintro e w3 ⟨rfl, hc3, w4, q1, hc4, q2, q3, q4, q5⟩))
  obtain ⟨m, hm⟩ : ∃ m, m = n - 1 := ⟨_, rfl⟩
  rw [← hm] at q2 q5 ⊢
  have hm1 : Hid (m = n - 1 ∧ m ≤ 1024) := ⟨hm, by have := hm2.out; omega⟩
  have hl4 : ∀ q, (Instr.lookup 60 (.map (some M)) (.agg #[.int .i64 k.1, .int .i64 k.2]) false).run Tryd.prog (w4.drewN q) = .ok (.slice (some ⟨g, 0, none⟩) m cap) (w4.drewN q) := fun q => by
    have h := run_look way_keys Tryd.underlying60 rows_zero (q2.out.drewN q) k
    rw [lkV_put, if_pos rfl] at h
    exact h
  obtain ⟨k0, c0, c1⟩ := hc4
  clear q1 hc3 HDEL hl2 C2 hjl2 hj1 hb0 hm
  by_cases h0 : m = 0
  · subst h0
    go_wp2
    go_quiet (fail)
    go_wp2
    go_region_law (refine step_drop_at (by rfl) _ _ _ (by rfl) way_keys Tryd.underlying60 (q2.out.drewN nq).drew k (by rfl) (by rfl) ?_; intro w5 hm5 hs5)
    all_goals
      go_wp2
      go_ret2
      have hs45 : Since w4 w5 M := (Since.below (drewN_below w4 (nq + 1))).trans hs5
      obtain ⟨f1, f2, f3⟩ := q5.out (by have := hm1.out; have := hjl'.out; omega) w5 hm5 hs45
      exact ⟨(hb2.out.mono hb'.out).trans f3, (KeepC.below hb2.out).trans f2, .inr ⟨HP.out.1, j, p, rfl, HP.out.2.1, congrArg (fun v => Ending.returned (.tuple #[v, .nilIface])) HP.out.2.2.symm, f1⟩⟩
  · have h0' : ¬ ((m : Nat) : Int) = 0 := by omega
    go_wp2
    go_quiet (fail)
    go_wp2
    go_ret2
    have hfin := q4.out (by have := hm1.out; omega)
    have hd := drewN_below w4 nq
    exact ⟨(hb2.out.mono hb'.out).trans (q3.out.2.trans (hd.mono (Nat.le_trans hbw.out q3.out.2.size))), (KeepC.below hb2.out).trans (q3.out.1.trans (KeepC.below hd)), .inr ⟨HP.out.1, j, p, rfl, HP.out.2.1, congrArg (fun v => Ending.returned (.tuple #[v, .nilIface])) HP.out.2.2.symm, hfin.below hd⟩⟩
end Go.Proofs.YtgibpiakeaplbaaDoor
