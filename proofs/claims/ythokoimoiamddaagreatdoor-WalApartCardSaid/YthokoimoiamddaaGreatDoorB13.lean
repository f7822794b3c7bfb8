/-
  wal: the law's 'open'. Own work.
  wal: 'fails' at no error, where an error is asked for. Own work.
  wal: a row of rows of bytes as values; append of a row that may be nil. Own work.
  wal: a state of the law, and how the calls on its log change it; plain. Own work.
  wal: the boxes of the law's step; what is kept through a step; the calls on the log beside them. Own work.
  wal: the law's step at Sync. Own work.
-/
import Derived.Test.YthokoimoiamddaaGreatDoorB12
import Derived.Test.YthokoimoiamddaaGreatDoorB8
import Derived.Deep.CutRange
import Derived.Deep.RegionHeldLaw
import Derived.Deep.RegionWith
import Derived.Test.YthokoimoiamddaaGreatDoorB7
import Derived.Laws.OwnMore
import Derived.Deep.AppendLies
set_option linter.unusedSimpArgs false
set_option linter.unusedVariables false
namespace Go.Proofs.YthokoimoiamddaaGreatDoor
open Go Go.RowKit

/-- A state of the law: the disk, the log, and what it holds. -/
def stV (B : Nat) (L : Value) (whole : Bool) (sA : Option Addr) (m sc : Nat) (rA : Option Addr) (n rc : Nat) (safe : Int) : Value := .agg #[.pointer (some ⟨B, 0, none⟩), L, .bool whole, .slice sA m sc, .slice rA n rc, .int .i64 safe]
section
variable {base B j : Nat} {w : World} {s : St} {vo : Vw} {ko : List ByteArray} {f : Fnd} {sA rA : Option Addr} {m sc n rc : Nat} {rs : List (List UInt8)}
/-- Rows of bytes in blocks from lo on. -/
def RowsLo (w : World) (lo : Nat) (A : Option Addr) (l : List (List UInt8)) : Prop := ∀ i p, l[i]? = some p → ∃ g off A' c', A = some ⟨g, off, none⟩ ∧ w.cell? ⟨g, off + i, none⟩ = some (.slice A' p.length c') ∧ lo ≤ g ∧ BytesAt w A' p ∧ ∀ ad, A' = some ad → lo ≤ ad.block
theorem FndAt.rowsLo {w : World} {s : St} {f : Fnd} {lo b : Nat} {SV : Value} {A : Option Addr} {n c : Nat} {vs : List Value} (h : FndAt w s lo b f SV A n c vs) : RowsLo w lo A f.recs := fun i p hp => by
  have hi : i < vs.length := by
    have h1 := (List.getElem?_eq_some_iff.1 hp).1
    have h2 := h.len
    have h3 := h.row.1
    omega
  have hv : vs[i]? = some vs[i] := List.getElem?_eq_getElem hi
  obtain ⟨g, rfl, hg, hc, _, hlt⟩ := own_cell h.row hv
  obtain ⟨A', c', e, hb, ho⟩ := (h.each i _ p hv hp).bytes
  rw [e] at hc
  exact ⟨g, 0, A', c', rfl, by rw [Nat.zero_add]; exact hc, hg, hb, fun ad e2 => (ho ad e2).1⟩
/-- .. stay where blocks from lo on stay. -/
theorem RowsLo.keep {w w' : World} {lo : Nat} {A : Option Addr} {l : List (List UInt8)} {s : St} (h : RowsLo w lo A l) (hr : HeldR w s A l) (hk : ∀ x, lo ≤ x → x < w.heap.size → w'.heap[x]? = w.heap[x]?) : HeldR w' s A l := fun i p hp => by
  obtain ⟨g, off, A', c', e, hc, hg, hb, ha⟩ := h i p hp
  obtain ⟨g2, off2, A2, c2, e2, hc2, ho, hb2, cur, hcur⟩ := hr i p hp
  rw [e] at e2
  cases e2
  rw [hc] at hc2
  injection hc2 with e3
  injection e3 with e4 _ _
  subst e4
  refine ⟨g, off, A', c', e, (World.cell?_of_block (w := w) (hk g hg (World.block_lt_of_cell? w _ hc))).trans hc, ho, ⟨⟨hb.1, fun ad e5 j u hu => ?_⟩, hb2.2⟩, cur, (hk g hg (World.block_lt_of_cell? w _ hc)).trans hcur⟩
  have hcc := hb.2 ad e5 j u hu
  have e3 : (ad.add j).block = ad.block := by unfold Addr.add; split <;> rfl
  exact (World.cell?_of_block (w := w) (hk _ (by rw [e3]; exact ha ad e5) (World.block_lt_of_cell? w _ hcc))).trans hcc
theorem RowsLo.keepLo {w w' : World} {lo : Nat} {A : Option Addr} {l : List (List UInt8)} (h : RowsLo w lo A l) (hk : ∀ x, lo ≤ x → x < w.heap.size → w'.heap[x]? = w.heap[x]?) : RowsLo w' lo A l := fun i p hp => by
  obtain ⟨g, off, A', c', e, hc, hg, hb, ha⟩ := h i p hp
  refine ⟨g, off, A', c', e, (World.cell?_of_block (w := w) (hk g hg (World.block_lt_of_cell? w _ hc))).trans hc, hg, ⟨hb.1, fun ad e5 j u hu => ?_⟩, ha⟩
  have hcc := hb.2 ad e5 j u hu
  have e3 : (ad.add j).block = ad.block := by unfold Addr.add; split <;> rfl
  exact (World.cell?_of_block (w := w) (hk _ (by rw [e3]; exact ha ad e5) (World.block_lt_of_cell? w _ hcc))).trans hcc
theorem RowsLo.below {w w' : World} {lo : Nat} {A : Option Addr} {l : List (List UInt8)} (h : RowsLo w lo A l) (hb : Below w.heap.size w w') : RowsLo w' lo A l := fun i p hp => by
  obtain ⟨g, off, A', c', e, hc, hg, hbs, ha⟩ := h i p hp
  exact ⟨g, off, A', c', e, (hb.cell (p := ⟨g, off + i, none⟩) (World.block_lt_of_cell? w _ hc)).trans hc, hg, hbs.below hb, ha⟩
theorem RowsLo.down {w : World} {lo lo2 : Nat} {A : Option Addr} {l : List (List UInt8)} (h : RowsLo w lo A l) (hl : lo2 ≤ lo) : RowsLo w lo2 A l := fun i p hp => by
  obtain ⟨g, off, A', c', e, hc, hg, hbs, ha⟩ := h i p hp
  exact ⟨g, off, A', c', e, hc, Nat.le_trans hl hg, hbs, fun ad e => Nat.le_trans hl (ha ad e)⟩
/-- What Open has laid, ahead of its box. -/
structure OpP (base B : Nat) (s : St) (vo : Vw) (ko : List ByteArray) (f : Fnd) (j q m : Nat) (W w2 : World) (g k c sc2 : Nat) (A sA2 : Option Addr) (s' : St) : Prop where
  ek : k = f.recs.length
  lg : Lg base w2 g B kLog s' vo ko f k j q
  fnd : ∃ b vs, FndAt w2 s' W.heap.size b f (.slice sA2 m sc2) A k c vs
  frame : Frame s s' W w2
  gl : W.heap.size ≤ g
/-- .. and behind it. -/
structure OpR (base B : Nat) (s : St) (vo : Vw) (ko : List ByteArray) (f : Fnd) (j q m : Nat) (W0 wx : World) (g b9 k c sc2 : Nat) (A sA2 : Option Addr) (s' : St) : Prop where
  box : wx.heap[b9]? = some (.cells #[.bool f.whole, .slice sA2 m sc2, .slice A k c] 29 (0, 0))
  far : W0.heap.size ≤ b9
  ek : k = f.recs.length
  cap : k ≤ c ∧ (A = none → c = 0)
  lg : Lg base wx g B kLog s' vo ko f k j q
  hrec : HeldR wx s' A f.recs
  rlo : RowsLo wx W0.heap.size A f.recs
  shot : HeldB wx s' sA2 f.shot
  frame : Frame s s' W0 wx
  gl : W0.heap.size ≤ g
theorem OpP.laid {q : Nat} {W0 W w2 : World} {g k c sc2 : Nat} {A sA2 : Option Addr} {s' : St} (h : OpP base B s vo ko f j q m W w2 g k c sc2 A sA2 s') (hb : Below W0.heap.size W0 W) : OpR base B s vo ko f j q m W0 (w2.alloc (.cells #[.bool f.whole, .slice sA2 m sc2, .slice A k c] 29)) g w2.heap.size k c sc2 A sA2 s' := by
  obtain ⟨b, vs, hf⟩ := h.fnd
  have h1 : Below w2.heap.size w2 (w2.alloc (.cells #[.bool f.whole, .slice sA2 m sc2, .slice A k c] 29)) := (Below.refl _ _).alloc (Nat.le_refl _) _
  have h2 : W0.heap.size ≤ w2.heap.size := Nat.le_trans hb.size h.frame.size
  exact ⟨heap_alloc_new _ _, h2, h.ek, ⟨(own_row_cap hf.row).1, fun e => ((own_row_cap hf.row).2 e).2⟩, h.lg.below h1, hf.heldR.below h1, (hf.rowsLo.below h1).down hb.size, hf.heldS.below h1, ((Frame.of_below hb).trans h.frame).trans (Frame.of_below h1), Nat.le_trans hb.size h.gl⟩
theorem OpP.put {q : Nat} {W0 W w2 : World} {g k c sc2 b9 : Nat} {A sA2 : Option Addr} {s' : St} (h : OpP base B s vo ko f j q m W w2 g k c sc2 A sA2 s') (hb : Below W0.heap.size W0 W) (h9 : W0.heap.size ≤ b9 ∧ b9 < W.heap.size) (hw1 : 1 < W0.heap.size)
    (hz : w2.heap[b9]? = some (.cells #[.bool false, .slice none 0 0, .slice none 0 0] 29 (0, 0))) :
    OpR base B s vo ko f j q m W0 (((w2.setCell ⟨b9, 0, none⟩ (.bool f.whole)).setCell ⟨b9, 1, none⟩ (.slice sA2 m sc2)).setCell ⟨b9, 2, none⟩ (.slice A k c)) g b9 k c sc2 A sA2 s' := by
  obtain ⟨b, vs, hf⟩ := h.fnd
  obtain ⟨t1, t2⟩ := three_set (x' := .bool f.whole) (y' := .slice sA2 m sc2) (z' := .slice A k c) hz
  have hf2 := hf.other hz (fun e => by have := hf.blo; omega) t2
  have hfr := (Frame.of_below hb).trans h.frame
  have hown : ¬ s'.own b9 := h.lg.not hz (by decide) (by decide) (by decide) (by decide)
  have hb9g : b9 ≠ g := by
    obtain ⟨⟨cs, hcs⟩, _⟩ := h.lg.log
    exact log_cell hcs hz (by decide)
  have hb1 : ¬ b9 ≤ 1 := by omega
  refine ⟨t1, h9.1, h.ek, ⟨(own_row_cap hf.row).1, fun e => ((own_row_cap hf.row).2 e).2⟩, h.lg.keepG (fun x hx hc => t2.block x fun e => ?_) (by rw [t2.size]; exact Nat.le_refl _), hf2.heldR, hf2.rowsLo.down hb.size, hf2.heldS, ?_, Nat.le_trans hb.size h.gl⟩
  · cases e
    rcases hc with hc | hc | hc
    · exact hown hc
    · exact hb9g hc
    · exact hb1 hc
  · exact ⟨t2.os.trans hfr.os, t2.tape.trans hfr.tape, t2.output.trans hfr.output, by rw [t2.size]; exact hfr.size, fun x hx ho => (t2.block x fun e => by cases e; omega).trans (hfr.block x hx ho), hfr.own⟩
theorem results_ct {fn : Func} {a p : Tmp} {ty : TypeId} (h : fn.results = #[.cell p ty, .tmp a]) (tmps : Array Value) (w : World) (g : Nat) (cs : Array Value)
    (hp : tmps.getD p undef = .pointer (some ⟨g, 0, none⟩)) (hL : (loadVar ty ⟨g, 0, none⟩).run Tryz.prog w = .ok (.agg cs) w) :
    (results fn tmps).run Tryz.prog w = .ok (.tuple #[.agg cs, tmps.getD a undef]) w := by
  have hp' : tmps[p]?.getD undef = .pointer (some ⟨g, 0, none⟩) := by simpa using hp
  simp [results, h, hp', asAddr, hL]
theorem load_state (w : World) (g : Nat) (x0 x1 x2 x3 x4 x5 : Value) (hg : w.heap[g]? = some (.cells #[x0, x1, x2, x3, x4, x5] 51 (0, 0))) : (loadVar 51 ⟨g, 0, none⟩).run Tryz.prog w = .ok (.agg #[x0, x1, x2, x3, x4, x5]) w :=
  run_loadVar_row w g 51 51 #[x0, x1, x2, x3, x4, x5] (0, 0) _ hg Tryz.underlying51 rfl (by kernel_rfl)
theorem six_cells {w : World} {b : Nat} {x0 x1 x2 x3 x4 x5 : Value} {ty : TypeId} (h : w.heap[b]? = some (.cells #[x0, x1, x2, x3, x4, x5] ty (0, 0))) : w.cell? ⟨b, 0, none⟩ = some x0 ∧ w.cell? ⟨b, 1, none⟩ = some x1 ∧ w.cell? ⟨b, 2, none⟩ = some x2 ∧ w.cell? ⟨b, 3, none⟩ = some x3 ∧ w.cell? ⟨b, 4, none⟩ = some x4 ∧ w.cell? ⟨b, 5, none⟩ = some x5 ∧ ∀ i, w.frozen? ⟨b, i, none⟩ = false := by
  refine ⟨?_, ?_, ?_, ?_, ?_, ?_, fun i => ?_⟩ <;> simp [World.cell?, World.frozen?, h]
set_option maxRecDepth 20000 in
set_option maxHeartbeats 4000000 in
theorem lopen_any (L : Option Addr) (whole : Bool) (safe least seg : Int) (q : Nat) (h : LgD base w B kLog s vo ko f j) (ho : Oth kLog vo ko) (hw : f.whole = whole) (hm : f.shot.length = m) (hs : HeldB w s sA f.shot) (hn : rs.length = n) (hr : HeldR w s rA rs) (hp : f.recs = rs.take f.recs.length) (hle : least ≤ f.recs.length) (hj : j ≤ 100) (hcap : n ≤ rc ∧ (rA = none → rc = 0)) (hseg : -9223372036854775808 ≤ seg ∧ seg ≤ 9223372036854775807) :
    Calls Tryz.prog 33 #[.agg #[.pointer (some ⟨B, 0, none⟩), .pointer L, .bool whole, .slice sA m sc, .slice rA n rc, .int .i64 safe], .int .i64 least, .int .i64 seg] w fun e w' => ∃ (g k c : Nat) (A : Option Addr) (s' : St), k = f.recs.length ∧ (k ≤ c ∧ (A = none → c = 0)) ∧ e = .returned (.tuple #[.agg #[.pointer (some ⟨B, 0, none⟩), .pointer (some ⟨g, 0, none⟩), .bool whole, .slice sA m sc, .slice A k c, .int .i64 k], .bool true]) ∧
      Lg base w' g B kLog s' vo ko f k j q ∧ HeldR w' s' A f.recs ∧ HeldB w' s' sA f.shot ∧ Frame s s' w w' ∧ RowsLo w' w.heap.size A f.recs ∧ w.heap.size ≤ g := by
  obtain ⟨seg', hs1, hs2, hsg⟩ := segment_any seg w hseg
  have HSG := Lib.hid hsg
  have HR : Hid (rightB kLog (seg' : Int) = true) := right_of nm_log seg' hs1 (by omega)
  obtain ⟨W0, hW0⟩ : ∃ W0, W0 = (w.alloc (.cells #[.pointer (some ⟨B, 0, none⟩), .pointer L, .bool whole, .slice sA m sc, .slice rA n rc, .int .i64 safe] 51)).alloc (.cells #[.pointer none, .pointer none, .bool false, .slice none 0 0, .slice none 0 0, .int .i64 0] 51) := ⟨_, rfl⟩
  have HW0 := Lib.hid hW0
  have HX3 : Hid (W0.heap[w.heap.size]? = some (.cells #[.pointer (some ⟨B, 0, none⟩), .pointer L, .bool whole, .slice sA m sc, .slice rA n rc, .int .i64 safe] 51 (0, 0))) := by
    rw [hW0]
    exact (Below.heap_alloc _ _ _ (by simp)).trans (heap_alloc_new _ _)
  have HX6 : Hid (W0.heap[w.heap.size + 1]? = some (.cells #[.pointer none, .pointer none, .bool false, .slice none 0 0, .slice none 0 0, .int .i64 0] 51 (0, 0))) := by
    rw [hW0]
    have := heap_alloc_new (w.alloc (.cells #[.pointer (some ⟨B, 0, none⟩), .pointer L, .bool whole, .slice sA m sc, .slice rA n rc, .int .i64 safe] 51)) (.cells #[.pointer none, .pointer none, .bool false, .slice none 0 0, .slice none 0 0, .int .i64 0] 51)
    rw [World.size_alloc] at this
    exact this
  have HSZ : Hid (w.heap.size + 2 = W0.heap.size) := by rw [hW0]; simp [Hid]
  have HWW : Hid (1 < w.heap.size) := by have := h.owns; unfold Hid; omega
  have HB0 : Hid (Below w.heap.size w W0) := by rw [hW0]; exact ((Below.refl _ _).alloc (Nat.le_refl _) _).alloc (by simp) _
  clear hW0
  go_enter Tryz.func33, Tryz.ntmps33
  go_upto_region 1 with fail
  rw [← HW0.out]
  clear HW0
  have HD : Hid (LgD base w B kLog s vo ko f j ∧ Oth kLog vo ko) := ⟨h, ho⟩
  have HOP : Hid (∀ W, Below W0.heap.size W0 W → Calls Tryz.prog 9 #[.pointer (some ⟨B, 0, none⟩), .string kLog, .int .i64 seg'] W fun e w' => ∃ (g k c sc2 : Nat) (A sA2 : Option Addr) (s' : St), e = .returned (.tuple #[.pointer (some ⟨g, 0, none⟩), .agg #[.bool whole, .slice sA2 m sc2, .slice A k c], .nilIface]) ∧ Hid (OpP base B s vo ko f j q m W w' g k c sc2 A sA2 s')) := fun W hW => by
    refine (lg_open2 (HD.out.1.below (HB0.out.trans (hW.mono HB0.out.size))) HD.out.2 (pathOK_of nm_log) seg' HR.out q).mono ?_
    rintro e w' ⟨sA2, sc2, A, k, c, vs, s', b, g, rfl, h1, h2, h3, h4, h5, h6⟩
    rw [hw, hm]
    rw [hm] at h3
    exact ⟨g, k, c, sc2, A, sA2, s', rfl, h3.len.symm, by rw [← h3.len]; exact h1, ⟨b, vs, h3⟩, h6, h5⟩
  have HZ : Hid (∀ (W w2 : World) (s' : St), (W.heap = (W0.alloc (.cells #[.bool false, .slice none 0 0, .slice none 0 0] 29)).heap ∧ Below W0.heap.size W0 W) → Frame s s' W w2 → w2.heap[W0.heap.size]? = some (.cells #[.bool false, .slice none 0 0, .slice none 0 0] 29 (0, 0)) ∧ W0.heap.size < W.heap.size) := fun W w2 s' hW hf => by
    have hb : W.heap[W0.heap.size]? = some (.cells #[.bool false, .slice none 0 0, .slice none 0 0] 29 (0, 0)) := by rw [hW.1]; exact heap_alloc_new _ _
    exact ⟨hf.stays (HD.out.1.below (HB0.out.trans (hW.2.mono HB0.out.size))) hb (by decide) (by decide) (by decide) (by decide), (Array.getElem?_eq_some_iff.1 hb).1⟩
  have HW1 : Hid (1 < W0.heap.size) := by have h1 := HD.out.1.owns; have := HB0.out.size; unfold Hid; omega
  have hba : Below W0.heap.size W0 (W0.alloc (.cells #[.bool false, .slice none 0 0, .slice none 0 0] 29)) := (Below.refl _ _).alloc (Nat.le_refl _) _
  have HZ0 : Hid (∀ (w2 : World) (s' : St), Frame s s' (W0.alloc (.cells #[.bool false, .slice none 0 0, .slice none 0 0] 29)) w2 → w2.heap[W0.heap.size]? = some (.cells #[.bool false, .slice none 0 0, .slice none 0 0] 29 (0, 0))) := fun w2 s' h => (HZ.out _ w2 s' ⟨rfl, hba⟩ h).1
  have HZ1 : Hid (∀ (w2 : World) (s' : St), Frame s s' (W0.alloc (.cells #[.bool false, .slice none 0 0, .slice none 0 0] 29)).drew w2 → w2.heap[W0.heap.size]? = some (.cells #[.bool false, .slice none 0 0, .slice none 0 0] 29 (0, 0))) := fun w2 s' h => (HZ.out (W0.alloc (.cells #[.bool false, .slice none 0 0, .slice none 0 0] 29)).drew w2 s' ⟨rfl, hba.drew⟩ h).1
  have q3 : W0.cell? ⟨w.heap.size, 0, none⟩ = some (.pointer (some ⟨B, 0, none⟩)) := by simp [World.cell?, HX3.out]
  have q3a : ∀ o, (W0.alloc o).cell? ⟨w.heap.size, 0, none⟩ = some (.pointer (some ⟨B, 0, none⟩)) := fun o => by rw [World.cell?_alloc_lt _ _ _ (World.block_lt_of_cell? W0 _ q3)]; exact q3
  have q3b : W0.heap.size ≠ w.heap.size := by have := World.block_lt_of_cell? W0 _ q3; simp only at this; omega
  have q3c : w.heap.size ≠ W0.heap.size := fun e => q3b e.symm
  go_cut [8, 9, 10] from 11 (fun s8 s9 s10 wx => ∃ (g b9 k c sc2 : Nat) (A sA2 : Option Addr) (s' : St), s8 = .pointer (some ⟨g, 0, none⟩) ∧ s9 = .pointer (some ⟨b9, 0, none⟩) ∧ s10 = .nilIface ∧ Hid (OpR base B s vo ko f j q m W0 wx g b9 k c sc2 A sA2 s'))
  case first =>
    go_region_with (first
      | (go_at_call 53; refine (HSG.out _).mono ?_; rintro e w1 ⟨rfl, rfl⟩)
      | (go_at_call 9; refine (HOP.out _ ?_).mono ?_; (first | exact Below.refl _ _ | exact (Below.refl _ _).drew | exact (Below.refl _ _).alloc (Nat.le_refl _) _ | exact (Below.refl _ _).drew.alloc (Nat.le_refl _) _); rintro e w2 ⟨g, k, c, sc2, A, sA2, s', rfl, H2⟩; (first | (have hz := HZ1.out w2 s' H2.out.frame; have HZB := Lib.hid hz; obtain ⟨z0, z1, z2, zf⟩ := found_cells hz; clear hz) | (have hz := HZ0.out w2 s' H2.out.frame; have HZB := Lib.hid hz; obtain ⟨z0, z1, z2, zf⟩ := found_cells hz; clear hz) | skip)))
    all_goals
      go_wp2_with fail
      go_meet
    all_goals first
      | exact ⟨_, _, _, _, _, _, _, _, rfl, rfl, rfl, by subst hw; exact H2.out.laid (by first | exact Below.refl _ _ | exact (Below.refl _ _).drew)⟩
      | exact ⟨_, _, _, _, _, _, _, _, rfl, rfl, rfl, by subst hw; exact H2.out.put (by first | exact hba | exact hba.drew) ⟨Nat.le_refl _, by simp⟩ HW1.out HZB.out⟩
  case rest =>
  obtain ⟨g, b9, k, c, sc2, A, sA2, s', rfl, rfl, rfl, HO⟩ := hcut
  obtain ⟨w5, rfl⟩ : ∃ x, x = wc := ⟨_, rfl⟩
  have hLD0 : LgD base W0 B kLog s vo ko f j := h.below HB0.out
  have hx3 := HO.out.frame.stays hLD0 HX3.out (by decide) (by decide) (by decide) (by decide)
  have hx6 := HO.out.frame.stays hLD0 HX6.out (by decide) (by decide) (by decide) (by decide)
  have HX3' := Lib.hid hx3
  have HX6' := Lib.hid hx6
  have hbx := HO.out.box
  rw [hw] at hbx
  have HX9 := Lib.hid hbx
  have hkn : k ≤ n := by
    have h1 := HO.out.ek
    have h2 := congrArg List.length hp
    rw [List.length_take, hn] at h2
    omega
  have hkf := HO.out.ek
  let S : World → Prop := fun W => Below w5.heap.size w5 W
  have q0 : ∀ x : QW S, x.val.cell? ⟨b9, 0, none⟩ = some (.bool whole) := fun x => (x.ok.cell (p := ⟨b9, 0, none⟩) (Array.getElem?_eq_some_iff.1 hbx).1).trans (found_cells hbx).1
  have q1 : ∀ x : QW S, x.val.cell? ⟨b9, 1, none⟩ = some (.slice sA2 m sc2) := fun x => (x.ok.cell (p := ⟨b9, 1, none⟩) (Array.getElem?_eq_some_iff.1 hbx).1).trans (found_cells hbx).2.1
  have q2 : ∀ x : QW S, x.val.cell? ⟨b9, 2, none⟩ = some (.slice A k c) := fun x => (x.ok.cell (p := ⟨b9, 2, none⟩) (Array.getElem?_eq_some_iff.1 hbx).1).trans (found_cells hbx).2.2.1
  have p2 : ∀ x : QW S, x.val.cell? ⟨w.heap.size, 2, none⟩ = some (.bool whole) := fun x => (x.ok.cell (p := ⟨w.heap.size, 2, none⟩) (Array.getElem?_eq_some_iff.1 hx3).1).trans (by simp [World.cell?, hx3])
  have p3 : ∀ x : QW S, x.val.cell? ⟨w.heap.size, 3, none⟩ = some (.slice sA m sc) := fun x => (x.ok.cell (p := ⟨w.heap.size, 3, none⟩) (Array.getElem?_eq_some_iff.1 hx3).1).trans (by simp [World.cell?, hx3])
  have p4 : ∀ x : QW S, x.val.cell? ⟨w.heap.size, 4, none⟩ = some (.slice rA n rc) := fun x => (x.ok.cell (p := ⟨w.heap.size, 4, none⟩) (Array.getElem?_eq_some_iff.1 hx3).1).trans (by simp [World.cell?, hx3])
  have hsF : HeldB w5 s' sA f.shot := (hs.below HB0.out).frame HO.out.frame
  have hrF : HeldR w5 s' rA rs := (hr.below HB0.out).frame HO.out.frame
  have hSl : SlicesAt w5 rA f.recs := by
    have h1 := (hrF.take f.recs.length).slices
    rw [← hp] at h1
    exact h1
  have HBY : Hid (∀ W, S W → Calls Tryz.prog 14 #[.slice sA2 m sc2, .slice sA m sc] W fun e w' => e = .returned (.bool true) ∧ S w') := fun W hW => by
    have h1 := bytes_any sA2 sA f.shot f.shot sc2 sc W (HO.out.shot.1.below hW) (hsF.1.below hW)
    rw [hm] at h1
    refine h1.mono ?_
    rintro e w' ⟨rfl, rfl⟩
    exact ⟨by simp, hW⟩
  have HLI : Hid (∀ W, S W → Calls Tryz.prog 15 #[.slice A k c, .slice rA k rc] W fun e w' => e = .returned (.bool true) ∧ S w') := fun W hW => by
    refine (lists_same A rA k c rc f.recs W hkf.symm (by
      obtain ⟨_, _, _, _, _, _, _, _, _, _, _, _, _, _, _, h9⟩ := hLD0
      omega) (HO.out.hrec.slices.below hW) (hSl.below hW)).mono ?_
    rintro e w' ⟨rfl, h2⟩
    exact ⟨rfl, hW.trans (h2.mono hW.size)⟩
  have HSS := Lib.hid hs
  have e1 : decide ((k : Int) < least) = false := decide_eq_false (by omega)
  have e2 : decide ((k : Int) > n) = false := decide_eq_false (by omega)
  have e2b : decide (n < k) = false := decide_eq_false (by omega)
  have e2c : ¬ n < k := by omega
  have e3 : (whole != whole) = false := by cases whole <;> rfl
  have e4 : (0 : Int) ≤ (k : Int) := by omega
  have e5 : (k : Int) ≤ (rc : Int) := by omega
  have HKF := Lib.hid hkf
  clear hp hkf hSl hsF hrF hr hs h hLD0 hw hm hn hx3 hx6 hbx hj ho hsg
  haveI : Nonempty (QW S) := ⟨⟨w5, Below.refl _ _⟩⟩
  go_upto_region 2 with fail
  refine region_in S (by kernel_rfl) (by kernel_rfl) (Below.refl _ _).drew ?_
  repeat (go_big_quiet_step ((first | (go_at_call 14; refine calls_in (HBY.out _ (QW.ok _))) | (go_at_call 15; refine calls_in (HLI.out _ (QW.ok _))))))
  refine wpQuiet_nil ?_
  intro W6 hb6
  have hy3 : W6.heap[w.heap.size]? = _ := (hb6.block _ (Array.getElem?_eq_some_iff.1 HX3'.out).1).trans HX3'.out
  have hy6 : W6.heap[w.heap.size + 1]? = _ := (hb6.block _ (Array.getElem?_eq_some_iff.1 HX6'.out).1).trans HX6'.out
  have hy9 : W6.heap[b9]? = _ := (hb6.block _ (Array.getElem?_eq_some_iff.1 HX9.out).1).trans HX9.out
  have HY3 := Lib.hid hy3
  have HY6 := Lib.hid hy6
  have HB6 : Hid (Below w5.heap.size w5 W6) := hb6
  clear q0 q1 q2 p2 p3 p4 hb6
  obtain ⟨q0, q1, q2, qf⟩ := found_cells hy9
  obtain ⟨p0, p1, p2, p3, p4, p5, pf⟩ := six_cells hy3
  obtain ⟨z0, z1, z2, z3, z4, z5, zf⟩ := six_cells hy6
  have n1 : w.heap.size ≠ b9 := by have := HO.out.far; have := HB0.out.size; have := (Array.getElem?_eq_some_iff.1 HX3.out).1; omega
  have n2 : b9 ≠ w.heap.size := fun e => n1 e.symm
  clear hy3 hy6 hy9
  go_wp2_with fail
  have hm1 := set_one HY3.out 1 (.pointer (some ⟨g, 0, none⟩))
  have hm2 := set_one hm1 4 (.slice A k c)
  have hm3 := set_one hm2 5 (.int .i64 k)
  obtain ⟨W7, hW7⟩ : ∃ W7, W7 = ((W6.setCell ⟨w.heap.size, 1, none⟩ (.pointer (some ⟨g, 0, none⟩))).setCell ⟨w.heap.size, 4, none⟩ (.slice A k c)).setCell ⟨w.heap.size, 5, none⟩ (.int .i64 k) := ⟨_, rfl⟩
  have ht7 : Touch (some w.heap.size) W6 W7 := by rw [hW7]; exact ((Touch.set _ _ _ _).trans (Touch.set _ _ _ _)).trans (Touch.set _ _ _ _)
  have hx7 : W7.heap[w.heap.size + 1]? = _ := (ht7.block _ (by simp)).trans HY6.out
  rw [← hW7]
  obtain ⟨W8, hW8⟩ : ∃ W8, W8 = (((((W7.setCell ⟨w.heap.size + 1, 0, none⟩ (.pointer (some ⟨B, 0, none⟩))).setCell ⟨w.heap.size + 1, 1, none⟩ (.pointer (some ⟨g, 0, none⟩))).setCell ⟨w.heap.size + 1, 2, none⟩ (.bool whole)).setCell ⟨w.heap.size + 1, 3, none⟩ (.slice sA m sc)).setCell ⟨w.heap.size + 1, 4, none⟩ (.slice A k c)).setCell ⟨w.heap.size + 1, 5, none⟩ (.int .i64 k) := ⟨_, rfl⟩
  have ht8 : Touch (some (w.heap.size + 1)) W7 W8 := by rw [hW8]; exact (((((Touch.set _ _ _ _).trans (Touch.set _ _ _ _)).trans (Touch.set _ _ _ _)).trans (Touch.set _ _ _ _)).trans (Touch.set _ _ _ _)).trans (Touch.set _ _ _ _)
  have hx8 : W8.heap[w.heap.size + 1]? = some (.cells #[.pointer (some ⟨B, 0, none⟩), .pointer (some ⟨g, 0, none⟩), .bool whole, .slice sA m sc, .slice A k c, .int .i64 k] 51 (0, 0)) := by
    rw [hW8]
    exact set_one (set_one (set_one (set_one (set_one (set_one hx7 0 _) 1 _) 2 _) 3 _) 4 _) 5 _
  rw [← hW8]
  refine bodyPost_ret (results_ct rfl _ _ (w.heap.size + 1) _ rfl (load_state _ _ _ _ _ _ _ _ hx8)) rfl ?_
  have hb6 := HB6.out
  have hs8 : W6.heap.size ≤ W8.heap.size := by rw [ht8.size, ht7.size]; exact Nat.le_refl _
  have hnx : ∀ x, x ≠ w.heap.size → x ≠ w.heap.size + 1 → W8.heap[x]? = W6.heap[x]? := fun x e1 e2 => (ht8.block x fun e => e2 (Option.some.inj e).symm).trans (ht7.block x fun e => e1 (Option.some.inj e).symm)
  have hlg6 := HO.out.lg.below hb6
  have hsz0 : w.heap.size + 2 = W0.heap.size := HSZ.out
  have h1w : 1 < w.heap.size := HWW.out
  have hlg8 : Lg base W8 g B kLog s' vo ko f k j q := by
    refine hlg6.keepG (fun x hx hc => hnx x (fun e => ?_) fun e => ?_) hs8
    · subst e
      rcases hc with hc | hc | hc
      · exact hlg6.not HY3.out (by decide) (by decide) (by decide) (by decide) hc
      · obtain ⟨⟨cs, hcs⟩, _⟩ := hlg6.log
        exact log_cell hcs HY3.out (by decide) hc
      · omega
    · subst e
      rcases hc with hc | hc | hc
      · exact hlg6.not HY6.out (by decide) (by decide) (by decide) (by decide) hc
      · obtain ⟨⟨cs, hcs⟩, _⟩ := hlg6.log
        exact log_cell hcs HY6.out (by decide) hc
      · omega
  have hfr5 : Frame s s' w w5 := (Frame.of_below HB0.out).trans HO.out.frame
  have hfr6 : Frame s s' w W6 := hfr5.trans (Frame.of_below hb6)
  have hfr8 : Frame s s' w W8 := ⟨ht8.os.trans (ht7.os.trans hfr6.os), ht8.tape.trans (ht7.tape.trans hfr6.tape), ht8.output.trans (ht7.output.trans hfr6.output), Nat.le_trans hfr6.size hs8, fun x hx ho => (hnx x (by omega) (by omega)).trans (hfr6.block x hx ho), hfr6.own⟩
  exact ⟨g, k, c, A, s', HKF.out, HO.out.cap, rfl, hlg8, (HO.out.rlo.below hb6).keep (HO.out.hrec.below hb6) fun x hx _ => hnx x (by omega) (by omega), HSS.out.frame hfr8, hfr8, ((HO.out.rlo.below hb6).keepLo fun x hx _ => hnx x (by omega) (by omega)).down (by omega), by have := HO.out.gl; omega⟩
end
end Go.Proofs.YthokoimoiamddaaGreatDoor
set_option linter.unusedSimpArgs false
set_option linter.unusedVariables false
namespace Go.Proofs.YthokoimoiamddaaGreatDoor
open Go Go.RowKit

theorem of_nil (w : World) :
    Calls Tryz.prog 32 #[.nilIface] w fun e w' => e = .returned (.agg #[.bool false, .slice none 0 0, .int .i64 0]) ∧ Below w.heap.size w w' := by
  go_enter Tryz.func32, Tryz.ntmps32
  go_wp2
  refine bodyPost_ret (v := .agg #[.bool false, .slice none 0 0, .int .i64 0]) ?_ rfl ?_
  · simp [results, Tryz.results32, go_sem]
  · refine ⟨rfl, ?_⟩
    repeat (first | with_reducible exact Below.refl _ _ | with_reducible refine eSet ?_ (by first | (simp; done) | (simp; omega)) _ | refine Below.alloc ?_ (by first | (simp; done) | (simp; omega)) _)

set_option maxHeartbeats 1000000 in
theorem same_no (m : Int) (w : World) : Calls Tryz.prog 31 #[.agg #[.bool false, .slice none 0 0, .int .i64 0], .agg #[.bool true, .slice none 0 0, .int .i64 m]] w
    fun e w' => e = .returned (.bool false) ∧ Below w.heap.size w w' := by
  have hb : Below w.heap.size w ((w.alloc (.cells #[.bool false, .slice none 0 0, .int .i64 0] 44)).alloc (.cells #[.bool true, .slice none 0 0, .int .i64 m] 44)) := ((Below.refl _ _).alloc (Nat.le_refl _) _).alloc (by simp) _
  go_enter Tryz.func31, Tryz.ntmps31
  go_wp2
  go_ret
  exact ⟨rfl, hb⟩

set_option maxHeartbeats 1000000 in
theorem fails_no (m : Int) (w : World) : Calls Tryz.prog 16 #[.nilIface, .agg #[.bool true, .slice none 0 0, .int .i64 m]] w
    fun e w' => e = .returned (.bool false) ∧ Below w.heap.size w w' := by
  have hb : Below w.heap.size w (w.alloc (.cells #[.bool true, .slice none 0 0, .int .i64 m] 44)) := (Below.refl _ _).alloc (Nat.le_refl _) _
  have HB := Lib.hid hb
  clear hb
  go_enter Tryz.func16, Tryz.ntmps16
  go_wp2_with fail
  go_region_with (first
    | (go_at_call 32; refine (of_nil _).mono ?_; rintro e w1 ⟨rfl, hb1⟩; have hb1' := Lib.hid hb1; have q0 : w1.cell? ⟨w.heap.size, 0, none⟩ = some (.bool true) := (hb1.cell (p := ⟨w.heap.size, 0, none⟩) (by simp)).trans (by simp); have q1 : w1.cell? ⟨w.heap.size, 1, none⟩ = some (.slice none 0 0) := (hb1.cell (p := ⟨w.heap.size, 1, none⟩) (by simp)).trans (by simp); have q2 : w1.cell? ⟨w.heap.size, 2, none⟩ = some (.int .i64 m) := (hb1.cell (p := ⟨w.heap.size, 2, none⟩) (by simp)).trans (by simp); clear hb1)
    | (go_at_call 31; refine (same_no m _).mono ?_; rintro e w2 ⟨rfl, hb2⟩))
  all_goals
    go_wp2
    go_ret
    exact ⟨rfl, bchain (bchain HB.out.drew hb1'.out) hb2⟩
end Go.Proofs.YthokoimoiamddaaGreatDoor
set_option linter.unusedSimpArgs false
set_option linter.unusedVariables false
namespace Go.Proofs.YthokoimoiamddaaGreatDoor
open Go Go.RowKit

theorem bytesRow_info : (Tryz.prog.info? 23).map (fun i => (i.zero, i.size, i.bytes)) = some (some (.slice none 0 0), 1, 24) := by kernel_rfl
section
variable {w w' W W8 : World} {s : St} {A : Option Addr} {l : List (List UInt8)} {lo n c : Nat}
theorem HeldR.vals (h : HeldR w s A l) : ∃ vs : List Value, vs.length = l.length ∧ (∀ ad, A = some ad → ∀ j u, vs[j]? = some u → w.cell? (ad.add j) = some u) ∧ ∀ (i : Nat) (v : Value) (p : List UInt8), vs[i]? = some v → l[i]? = some p → ∃ A' c', v = Value.slice A' p.length c' ∧ HeldB w s A' p := by
  refine ⟨(List.range l.length).map fun i => (A.bind fun ad => w.cell? (ad.add i)).getD undef, by simp, fun ad e j u hu => ?_, fun i v p hv hp => ?_⟩
  · subst e
    rw [List.getElem?_map] at hu
    by_cases hj : j < l.length
    · rw [List.getElem?_range hj] at hu
      obtain ⟨g, off, A', c', e, hc, _⟩ := h j l[j] (List.getElem?_eq_getElem hj)
      cases e
      rw [Addr.add_lit]
      simp only [Option.map_some, Option.bind_some, Addr.add_lit, hc, Option.getD_some, Option.some.injEq] at hu
      rw [hc, hu]
    · rw [List.getElem?_eq_none (by simp; omega)] at hu
      cases hu
  · have hi : i < l.length := (List.getElem?_eq_some_iff.1 hp).1
    obtain ⟨g, off, A', c', e, hc, _, hb, _⟩ := h i p hp
    subst e
    rw [List.getElem?_map, List.getElem?_range hi] at hv
    simp only [Option.map_some, Option.bind_some, Addr.add_lit, hc, Option.getD_some, Option.some.injEq] at hv
    exact ⟨A', c', hv.symm, hb⟩
theorem HeldR.vals2 {g B : Nat} {s' : St} {nm : ByteArray} (h : HeldR w s A l) (hf : Lets g s s' w w') (hl : ∃ seg file size count sf, LogAt w g B nm seg file size count sf) : ∃ vs : List Value, vs.length = l.length ∧ (∀ ad, A = some ad → ∀ j u, vs[j]? = some u → w'.cell? (ad.add j) = some u) ∧ ∀ (i : Nat) (v : Value) (p : List UInt8), vs[i]? = some v → l[i]? = some p → ∃ A' c', v = Value.slice A' p.length c' ∧ HeldB w s A' p := by
  obtain ⟨vs, h1, h2, h3⟩ := h.vals
  obtain ⟨seg, file, size, count, sf, hla⟩ := hl
  refine ⟨vs, h1, fun ad e j u hu => ?_, h3⟩
  have hj : j < l.length := by rw [← h1]; exact (List.getElem?_eq_some_iff.1 hu).1
  obtain ⟨b, off, A', c', e2, hc, ho, _⟩ := h j l[j] (List.getElem?_eq_getElem hj)
  rw [e] at e2
  cases e2
  have hcu := h2 _ e j u hu
  rw [Addr.add_lit] at hcu ⊢
  refine (World.cell?_of_block (w := w) (hf.block b (World.block_lt_of_cell? w _ hc) ho fun e3 => ?_)).trans hcu
  subst e3
  exact hla.no_slice hc
theorem HeldR.of_row {vs : List Value} (hrow : W.ownsRow lo 23 1 (.slice A n c) n vs) (hl : l.length = n) (hv : ∀ (i : Nat) (v : Value) (p : List UInt8), vs[i]? = some v → l[i]? = some p → ∃ A' c', v = Value.slice A' p.length c' ∧ HeldB W8 s A' p) (hk : ∀ k, lo ≤ k → k < W.heap.size → W8.heap[k]? = W.heap[k]?) (ho : ∀ k, lo ≤ k → ¬ s.own k) : HeldR W8 s A l := fun i p hp => by
  have hi : i < vs.length := by
    have h1 := (List.getElem?_eq_some_iff.1 hp).1
    have h3 := hrow.1
    omega
  have hvi : vs[i]? = some vs[i] := List.getElem?_eq_getElem hi
  obtain ⟨g, rfl, hg, hc, _, hlt⟩ := own_cell hrow hvi
  obtain ⟨A', c', e, hb⟩ := hv i _ p hvi hp
  rw [e] at hc
  exact ⟨g, 0, A', c', rfl, by rw [Nat.zero_add]; exact (World.cell?_of_block (w := W) (a := ⟨g, i, none⟩) (hk g hg hlt)).trans hc, ho g hg, hb, (own_block hrow rfl).choose, (hk g hg hlt).trans (own_block hrow rfl).choose_spec.1⟩
end
theorem new1 (w : World) (v : Value) (t : TypeId) (B : Nat) (hB : B = w.heap.size) : ∀ j u, [v][j]? = some u → (w.alloc (.cells #[v] t)).cell? ((⟨B, 0, none⟩ : Addr).add j) = some u := by
  subst hB
  exact World.news_of_block (cs := #[v]) (t := t) (fr := (0, 0)) (heap_alloc_new w _)
/-- append of a row that may be nil. -/
theorem wpList_append_any {P : Program} (w : World) {ops : Array Oper} {rest : List Oper} {o : Oper} {a : Act} {Q : Exit → Act → World → Prop} (hgd : o.guard = none) (s x : Operand) (t : TypeId)
    (ho : o.op = .call { callee := .builtin .append, args := #[s, x], argTypes := #[t, t] })
    (base : Nat) (e : TypeId) (i : TypeInfo) (z : Value) (size bytes : Nat) (ht : P.underlying t = some (.slice e)) (hi : P.info? e = some i) (hz : i.zero = some z)
    (hsize : i.size = size) (hby : i.bytes = bytes) (hzs : z.cells.size = size) (hsz : 0 < size)
    (v : Value) (n : Nat) (xs : List Value) (hs : a.eval s = v) (hown : w.ownsRow base e size v n xs)
    (A : Option Addr) (m c : Nat) (news : List Value) (hx : a.eval x = .slice A m c) (hA : A = none → m = 0 ∧ c = 0) (hl : news.length = m * size) (hnews : ∀ ad, A = some ad → ∀ j u, news[j]? = some u → w.cell? (ad.add j) = some u) (h1 : ∀ u ∈ news, u.oneCell' = true)
    (h63 : n + m ≤ maxLen) (hbytes : (n + m) * bytes ≤ 140737488355328) (hbase : base ≤ w.heap.size)
    (h : ∀ v' w', w'.ownsRow base e size v' (n + m) (xs ++ news) → w.grownBy w' v.ownBlock → wpList P ops Q rest (a.put o.dst v') w') : wpList P ops Q (o :: rest) a w := by
  cases A with
  | some ad => exact wpList_append_own w hgd s x t ho base e i z size bytes ht hi hz hsize hby hzs hsz v n xs hs hown ad m c news hx hl (hnews ad rfl) h1 h63 hbytes hbase fun v' w' h2 h3 _ => h v' w' h2 h3
  | none =>
    obtain ⟨rfl, rfl⟩ := hA rfl
    have hn : news = [] := List.eq_nil_of_length_eq_zero (by omega)
    subst hn
    refine wpList_plain hgd fun K hK => ?_
    have hrun := run_append_owned_none (P := P) (w := w) base t o.type e i size ht hi v n xs hown
    unfold Oper.wp
    simp [execOp, ho, resolve, invoke, builtin, hs, hx, hrun, Result.andThen]
    exact hK _ _ (h v w (by simpa using hown) (World.grownBy.refl _ _))
end Go.Proofs.YthokoimoiamddaaGreatDoor
set_option linter.unusedSimpArgs false
set_option linter.unusedVariables false
namespace Go.Proofs.YthokoimoiamddaaGreatDoor
open Go Go.RowKit

section
variable {base B g j q m sc n rc safe seg file size nd : Nat} {w w' : World} {s s' : St} {vo v : Vw} {ko : List ByteArray} {f : Fnd} {sA rA : Option Addr} {whole : Bool} {nm : ByteArray} {t : Int} {ns : List Nat} {sa : List Fr} {lo : List Lf}
/-- One call more that did nothing. -/
theorem LgP.succ (h : LgP nm vo ko f safe j q seg file size v t n ns sa lo) : LgP nm vo ko f safe (j + 1) q seg file size v t n ns sa lo :=
  ⟨h.lay, h.hf, h.hsafe, h.recs, h.hfile, h.hn, h.few, by have := h.fj; omega, by have := h.tj; push_cast; omega, by
    have h1 := h.tot
    have h3 : (q : Int) * ((j + 1 : Nat) : Int) = q * j + q := by push_cast; rw [Int.mul_add, Int.mul_one]
    omega, h.hseg, h.hsize, by have := h.cnt; omega⟩
theorem Lg.succ (h : Lg base w g B nm s vo ko f safe j q) : Lg base w g B nm s vo ko f safe (j + 1) q := by
  obtain ⟨seg, file, size, v, t, n, ns, sa, lo, h, hp⟩ := h
  exact ⟨seg, file, size, v, t, n, ns, sa, lo, h, hp.succ⟩
theorem fold_recs (l : List Lf) (f0 : Fnd) (h : ∀ x ∈ l, ∃ p, x.2.1 = (0 : UInt8) :: p) : ((l.map Lf.fr).map (·.2)).foldl fnd1 f0 = ⟨f0.whole, f0.shot, f0.recs ++ l.map fun x => x.2.1.drop 1⟩ := by
  induction l generalizing f0 with
  | nil => simp
  | cons x l ih =>
    obtain ⟨p, hp⟩ := h x (by simp)
    simp only [List.map_cons, List.foldl_cons]
    rw [ih _ fun y hy => h y (by simp [hy])]
    have : fnd1 f0 (Lf.fr x).2 = ⟨f0.whole, f0.shot, f0.recs ++ [p]⟩ := by simp only [Lf.fr, hp]; rfl
    rw [this, hp]
    simp
theorem Lg.safe_le (h : Lg base w g B nm s vo ko f safe j q) : safe ≤ f.recs.length ∧ f.recs.length ≤ j := by
  obtain ⟨seg, file, size, v, t, n, ns, sa, lo, h, hl⟩ := h
  have h1 := hl.hf
  rw [List.map_append, fndL_append, fold_recs lo _ hl.recs] at h1
  have h2 := hl.hsafe
  refine ⟨?_, hl.cnt⟩
  rw [← h1]
  simp only [List.length_append]
  omega
/-- A state of the law: the log on the disk; the snapshot and the records as the law keeps them. -/
structure Pl (base B : Nat) (vo : Vw) (ko : List ByteArray) (j q : Nat) (w : World) (g : Nat) (whole : Bool) (sA : Option Addr) (m : Nat) (rA : Option Addr) (n rc safe : Nat) (s : St) (f : Fnd) : Prop where
  lg : Lg base w g B kLog s vo ko f safe j q
  whole : f.whole = whole
  sl : f.shot.length = m
  shot : HeldB w s sA f.shot
  rl : f.recs.length = n
  recs : HeldR w s rA f.recs
  cap : n ≤ rc ∧ (rA = none → rc = 0)
theorem Pl.below (h : Pl base B vo ko j q w g whole sA m rA n rc safe s f) (hb : Below w.heap.size w w') : Pl base B vo ko j q w' g whole sA m rA n rc safe s f :=
  ⟨h.lg.below hb, h.whole, h.sl, h.shot.below hb, h.rl, h.recs.below hb, h.cap⟩
theorem Pl.succ (h : Pl base B vo ko j q w g whole sA m rA n rc safe s f) : Pl base B vo ko (j + 1) q w g whole sA m rA n rc safe s f :=
  ⟨h.lg.succ, h.whole, h.sl, h.shot, h.rl, h.recs, h.cap⟩
/-- Sync. -/
theorem pl_sync (h : Pl base B vo ko j q w g whole sA m rA n rc safe s f) (ho : Oth kLog vo ko) :
    Calls Tryz.prog 13 #[.pointer (some ⟨g, 0, none⟩)] w fun e w' => e = .returned .nilIface ∧ ∃ s', Pl base B vo ko j q w' g whole sA m rA n rc n s' f ∧ LgD base w' B kLog s' vo ko f j ∧ WFr g s s' w w' := by
  refine (lg_sync_d h.lg ho).mono ?_
  rintro e w' ⟨rfl, s', h1, h2, h3⟩
  have hl := h.lg.logAt
  exact ⟨rfl, s', ⟨by have := h1; rw [h.rl] at this; exact this, h.whole, h.sl, h.shot.lets h3.lets hl, h.rl, h.recs.lets h3.lets hl, h.cap⟩, h2, h3⟩
end
end Go.Proofs.YthokoimoiamddaaGreatDoor
set_option linter.unusedSimpArgs false
set_option linter.unusedVariables false
namespace Go.Proofs.YthokoimoiamddaaGreatDoor
open Go Go.RowKit

/-- The boxes of a step: the state, the call, the answer. -/
structure StepB (b : Nat) (W : World) (X O R : Array Value) : Prop where
  x : W.heap[b]? = some (.cells X 51 (0, 0))
  o : W.heap[b + 1]? = some (.cells O 73 (0, 0))
  r : W.heap[b + 2]? = some (.cells R 51 (0, 0))
theorem stepB_new (w : World) (X O R : Array Value) : StepB w.heap.size (((w.alloc (.cells X 51)).alloc (.cells O 73)).alloc (.cells R 51)) X O R := by
  refine ⟨?_, ?_, ?_⟩
  · rw [Below.heap_alloc _ _ _ (by simp; omega), Below.heap_alloc _ _ _ (by simp), heap_alloc_new]
  · rw [Below.heap_alloc _ _ _ (by simp)]
    have := heap_alloc_new (w.alloc (.cells X 51)) (.cells O 73)
    simpa using this
  · have := heap_alloc_new ((w.alloc (.cells X 51)).alloc (.cells O 73)) (.cells R 51)
    simpa using this
theorem four_cells {w : World} {b : Nat} {x0 x1 x2 x3 : Value} {ty : TypeId} (h : w.heap[b]? = some (.cells #[x0, x1, x2, x3] ty (0, 0))) : w.cell? ⟨b, 0, none⟩ = some x0 ∧ w.cell? ⟨b, 1, none⟩ = some x1 ∧ w.cell? ⟨b, 2, none⟩ = some x2 ∧ w.cell? ⟨b, 3, none⟩ = some x3 ∧ ∀ i, w.frozen? ⟨b, i, none⟩ = false := by
  refine ⟨?_, ?_, ?_, ?_, fun i => ?_⟩ <;> simp [World.cell?, World.frozen?, h]

section
variable {base B g j q b i safe n : Nat} {w w' W W' : World} {s s' s2 : St} {vo : Vw} {ko : List ByteArray} {f : Fnd} {X O R : Array Value}
theorem StepB.below (h : StepB b W X O R) (hb : Below W.heap.size W W') : StepB b W' X O R :=
  ⟨(hb.block _ (Array.getElem?_eq_some_iff.1 h.x).1).trans h.x, (hb.block _ (Array.getElem?_eq_some_iff.1 h.o).1).trans h.o, (hb.block _ (Array.getElem?_eq_some_iff.1 h.r).1).trans h.r⟩
theorem StepB.wfr (h : StepB b W X O R) (hl : Lg base W g B kLog s vo ko f safe j q) (hf : WFr g s s' W W') : StepB b W' X O R :=
  ⟨hf.stays hl h.x (by decide) (by decide) (by decide) (by decide) (by decide), hf.stays hl h.o (by decide) (by decide) (by decide) (by decide) (by decide), hf.stays hl h.r (by decide) (by decide) (by decide) (by decide) (by decide)⟩
theorem StepB.frame (h : StepB b W X O R) (hl : LgD base W B kLog s vo ko f j) (hf : Frame s s' W W') : StepB b W' X O R :=
  ⟨hf.stays hl h.x (by decide) (by decide) (by decide) (by decide), hf.stays hl h.o (by decide) (by decide) (by decide) (by decide), hf.stays hl h.r (by decide) (by decide) (by decide) (by decide)⟩
theorem heap_other {x i : Nat} {v : Value} {y : Nat} (h : y ≠ x) : (W.setCell ⟨x, i, none⟩ v).heap[y]? = W.heap[y]? := (Touch.set W x i v).block y fun e => h (Option.some.inj e).symm
theorem StepB.putX (h : StepB b W X O R) (i : Nat) (v : Value) : StepB b (W.setCell ⟨b, i, none⟩ v) (X.setIfInBounds i v) O R :=
  ⟨set_one h.x i v, (heap_other (by omega)).trans h.o, (heap_other (by omega)).trans h.r⟩
theorem WFr.put {x : Nat} (h : WFr g s s' w W) (ht : Touch (some x) W W') (hx : w.heap.size ≤ x) : WFr g s s' w W' :=
  ⟨ht.os.trans h.os, ht.tape.trans h.tape, ht.output.trans h.output, by rw [ht.size]; exact h.size, fun y hy ho hg => (ht.block y (fun e => by have := Option.some.inj e; omega)).trans (h.block y hy ho hg), h.own⟩
theorem Lg.put {x : Nat} {cur : Array Value} (h : Lg base W g B kLog s vo ko f safe j q) (hx : W.heap[x]? = some (.cells cur 51 (0, 0))) (h1 : 1 < x) (ht : Touch (some x) W W') : Lg base W' g B kLog s vo ko f safe j q := by
  refine h.keepG (fun y hy hc => ht.block y fun e => ?_) (by rw [ht.size]; exact Nat.le_refl _)
  obtain rfl := Option.some.inj e
  rcases hc with hc | hc | hc
  · exact h.not hx (by decide) (by decide) (by decide) (by decide) hc
  · obtain ⟨⟨cs, hcs⟩, _⟩ := h.log
    exact log_cell hcs hx (by decide) hc
  · omega
theorem LgD.put {x : Nat} {cur : Array Value} (h : LgD base W B kLog s vo ko f j) (hx : W.heap[x]? = some (.cells cur 51 (0, 0))) (h1 : 1 < x) (ht : Touch (some x) W W') : LgD base W' B kLog s vo ko f j := by
  refine h.keepG (fun y hy hc => ht.block y fun e => ?_) (by rw [ht.size]; exact Nat.le_refl _)
  obtain rfl := Option.some.inj e
  rcases hc with hc | hc
  · exact h.not hx (by decide) (by decide) (by decide) (by decide) hc
  · omega
theorem ErrT.touch {x : Nat} (h : ErrT W) (ht : Touch (some x) W W') (hx : 0 ≠ x) : ErrT W' :=
  (World.cell?_of_block (w := W) (a := ⟨0, 0, none⟩) (ht.block _ fun e => hx (Option.some.inj e).symm)).trans h
theorem ErrT.low (h : ErrT W) (hb : Below base W W') (he : 0 < base) : ErrT W' := (hb.cell (p := ⟨0, 0, none⟩) he).trans h
/-- What holds in the midst of a step. -/
structure SI (base B : Nat) (vo : Vw) (ko : List ByteArray) (j q : Nat) (w : World) (g : Nat) (s : St) (W : World) (f : Fnd) (safe : Nat) (s' : St) (X O R : Array Value) : Prop where
  lg : Lg base W g B kLog s' vo ko f safe j q
  bx : StepB w.heap.size W X O R
  fr : WFr g s s' w W
  lo : 1 < w.heap.size
  et : ErrT W
  eb : 0 < base
  bw : base ≤ w.heap.size
theorem si_new (h : Lg base w g B kLog s vo ko f safe j q) (h1 : 1 < w.heap.size) (hT : ErrT w) (hE : 0 < base) (X O R : Array Value) : SI base B vo ko j q w g s (((w.alloc (.cells X 51)).alloc (.cells O 73)).alloc (.cells R 51)) f safe s X O R := by
  have hb : Below w.heap.size w (((w.alloc (.cells X 51)).alloc (.cells O 73)).alloc (.cells R 51)) := (((Below.refl _ _).alloc (Nat.le_refl _) _).alloc (by simp) _).alloc (by simp; omega) _
  exact ⟨h.below hb, stepB_new w X O R, WFr.of_below hb, h1, hT.below hb, hE, h.log.2.2.2.2⟩
theorem SI.below (h : SI base B vo ko j q w g s W f safe s' X O R) (hb : Below W.heap.size W W') : SI base B vo ko j q w g s W' f safe s' X O R :=
  ⟨h.lg.below hb, h.bx.below hb, h.fr.trans (WFr.of_below hb), h.lo, h.et.below hb, h.eb, h.bw⟩
theorem SI.succ (h : SI base B vo ko j q w g s W f safe s' X O R) : SI base B vo ko (j + 1) q w g s W f safe s' X O R := ⟨h.lg.succ, h.bx, h.fr, h.lo, h.et, h.eb, h.bw⟩
theorem SI.putX (h : SI base B vo ko j q w g s W f safe s' X O R) (i : Nat) (v : Value) : SI base B vo ko j q w g s (W.setCell ⟨w.heap.size, i, none⟩ v) f safe s' (X.setIfInBounds i v) O R :=
  ⟨h.lg.put h.bx.x h.lo (Touch.set _ _ _ _), h.bx.putX i v, h.fr.put (Touch.set _ _ _ _) (Nat.le_refl _), h.lo, h.et.touch (Touch.set _ _ _ _) (by have := h.eb; have := h.bw; omega), h.eb, h.bw⟩
/-- .. where no log is open. -/
structure SD (base B : Nat) (vo : Vw) (ko : List ByteArray) (j : Nat) (w : World) (g : Nat) (s : St) (W : World) (f : Fnd) (s' : St) (X O R : Array Value) : Prop where
  lg : LgD base W B kLog s' vo ko f j
  bx : StepB w.heap.size W X O R
  fr : WFr g s s' w W
  lo : 1 < w.heap.size
  et : ErrT W
  eb : 0 < base
  bw : base ≤ w.heap.size
theorem SD.below (h : SD base B vo ko j w g s W f s' X O R) (hb : Below W.heap.size W W') : SD base B vo ko j w g s W' f s' X O R :=
  ⟨h.lg.below hb, h.bx.below hb, h.fr.trans (WFr.of_below hb), h.lo, h.et.below hb, h.eb, h.bw⟩
theorem SD.putX (h : SD base B vo ko j w g s W f s' X O R) (i : Nat) (v : Value) : SD base B vo ko j w g s (W.setCell ⟨w.heap.size, i, none⟩ v) f s' (X.setIfInBounds i v) O R :=
  ⟨h.lg.put h.bx.x h.lo (Touch.set _ _ _ _), h.bx.putX i v, h.fr.put (Touch.set _ _ _ _) (Nat.le_refl _), h.lo, h.et.touch (Touch.set _ _ _ _) (by have := h.eb; have := h.bw; omega), h.eb, h.bw⟩
/-- The answer laid in its box. -/
def put6 (W : World) (b : Nat) (v0 v1 v2 v3 v4 v5 : Value) : World := (((((W.setCell ⟨b, 0, none⟩ v0).setCell ⟨b, 1, none⟩ v1).setCell ⟨b, 2, none⟩ v2).setCell ⟨b, 3, none⟩ v3).setCell ⟨b, 4, none⟩ v4).setCell ⟨b, 5, none⟩ v5
theorem put6_touch (W : World) (b : Nat) (v0 v1 v2 v3 v4 v5 : Value) : Touch (some b) W (put6 W b v0 v1 v2 v3 v4 v5) := (((((Touch.set _ _ _ _).trans (Touch.set _ _ _ _)).trans (Touch.set _ _ _ _)).trans (Touch.set _ _ _ _)).trans (Touch.set _ _ _ _)).trans (Touch.set _ _ _ _)
theorem put6_at {x0 x1 x2 x3 x4 x5 : Value} {ty : TypeId} (hx : W.heap[b]? = some (.cells #[x0, x1, x2, x3, x4, x5] ty (0, 0))) (v0 v1 v2 v3 v4 v5 : Value) : (put6 W b v0 v1 v2 v3 v4 v5).heap[b]? = some (.cells #[v0, v1, v2, v3, v4, v5] ty (0, 0)) :=
  set_one (set_one (set_one (set_one (set_one (set_one hx 0 _) 1 _) 2 _) 3 _) 4 _) 5 _
theorem SI.done {x0 x1 x2 x3 x4 x5 : Value} (h : SI base B vo ko j q w g s W f safe s' X O #[x0, x1, x2, x3, x4, x5]) (v0 v1 v2 v3 v4 v5 : Value) :
    Lg base (put6 W (w.heap.size + 2) v0 v1 v2 v3 v4 v5) g B kLog s' vo ko f safe j q ∧ WFr g s s' w (put6 W (w.heap.size + 2) v0 v1 v2 v3 v4 v5) :=
  ⟨h.lg.put h.bx.r (by have := h.lo; omega) (put6_touch _ _ _ _ _ _ _ _), h.fr.put (put6_touch _ _ _ _ _ _ _ _) (by omega)⟩
/-- Sync in a step. -/
theorem si_sync (h : SI base B vo ko j q w g s W f safe s' X O R) (ho : Oth kLog vo ko) : Calls Tryz.prog 13 #[.pointer (some ⟨g, 0, none⟩)] W fun e w' => ∃ s2, e = .returned .nilIface ∧ Hid (SI base B vo ko j q w g s w' f f.recs.length s2 X O R ∧ LgD base w' B kLog s2 vo ko f j) := by
  refine (lg_sync_d h.lg ho).mono ?_
  rintro e w' ⟨rfl, s2, h1, h2, h3⟩
  exact ⟨s2, rfl, ⟨h1, h.bx.wfr h.lg h3, h.fr.trans h3, h.lo, h.et.low (h.lg.below_of h3) h.eb, h.eb, h.bw⟩, h2⟩
/-- Append in a step. -/
theorem si_append (h : SI base B vo ko j q w g s W f safe s' X O R) (ho : Oth kLog vo ko) (A : Option Addr) (m c : Nat) (p : List UInt8) (hpm : p.length = m) (hA : BytesAt W A p) (hm : m ≤ 300) (hq : m + 9 ≤ q) (hj : j < 98) (hko : ko.length < 64) : Calls Tryz.prog 12 #[.pointer (some ⟨g, 0, none⟩), .slice A m c] W fun e w' => ∃ V, e = .returned V ∧ Hid ((V = .nilIface ∧ ∃ s2, SI base B vo ko (j + 1) q w g s w' ⟨f.whole, f.shot, f.recs ++ [p]⟩ safe s2 X O R) ∨ (V = .iface 42 (.int .i64 11) ∧ SI base B vo ko (j + 1) q w g s w' f safe s' X O R ∧ ∃ v t, Dk base w' B v t 64 s')) := by
  refine (lg_append h.lg (pathOK_of nm_log) ho A m c p hpm hA (by omega) hq hj hko).mono ?_
  rintro e w' (⟨rfl, s2, h1, h2⟩ | ⟨rfl, h1, _, v, t, h2⟩)
  · exact ⟨_, rfl, .inl ⟨rfl, s2, h1, h.bx.wfr h.lg h2, h.fr.trans h2, h.lo, h.et.low (h.lg.below_of h2) h.eb, h.eb, h.bw⟩⟩
  · exact ⟨_, rfl, .inr ⟨rfl, (h.below h1).succ, v, t, h2.below h1⟩⟩
/-- Checkpoint in a step. -/
theorem si_check (h : SI base B vo ko j q w g s W f safe s' X O R) (ho : Oth kLog vo ko) (A : Option Addr) (m c : Nat) (p : List UInt8) (hpm : p.length = m) (hA : BytesAt W A p) (hm : m ≤ 300) (hj : j < 98) : Calls Tryz.prog 10 #[.pointer (some ⟨g, 0, none⟩), .slice A m c] W fun e w' => ∃ V, e = .returned V ∧ Hid ((V = .nilIface ∧ ∃ s2, SI base B vo ko (j + 1) q w g s w' ⟨true, p, []⟩ 0 s2 X O R) ∨ (V = .iface 42 (.int .i64 11) ∧ SI base B vo ko (j + 1) q w g s w' f safe s' X O R ∧ ∃ v t, Dk base w' B v t 64 s')) := by
  refine (lg_check h.lg (pathOK_of nm_log) ho A m c p hpm hA (by omega) hj).mono ?_
  rintro e w' (⟨rfl, s2, h1, h2⟩ | ⟨rfl, h1, _, v, t, h2⟩)
  · exact ⟨_, rfl, .inl ⟨rfl, s2, h1, h.bx.wfr h.lg h2, h.fr.trans h2, h.lo, h.et.low (h.lg.below_of h2) h.eb, h.eb, h.bw⟩⟩
  · exact ⟨_, rfl, .inr ⟨rfl, (h.below h1).succ, v, t, h2.below h1⟩⟩
end
end Go.Proofs.YthokoimoiamddaaGreatDoor
set_option linter.unusedSimpArgs false
set_option linter.unusedVariables false
namespace Go.Proofs.YthokoimoiamddaaGreatDoor
open Go Go.RowKit

/-- What a step answers. -/
def StepOut (base B : Nat) (vo : Vw) (ko : List ByteArray) (j q : Nat) (w : World) (g : Nat) (s : St) (e : Ending) (w' : World) : Prop :=
  ∃ (g' : Nat) (whole' : Bool) (sA' : Option Addr) (m' sc' : Nat) (rA' : Option Addr) (n' rc' safe' : Nat) (s' : St) (f' : Fnd), e = .returned (.tuple #[.agg #[.pointer (some ⟨B, 0, none⟩), .pointer (some ⟨g', 0, none⟩), .bool whole', .slice sA' m' sc', .slice rA' n' rc', .int .i64 safe'], .bool true]) ∧
    Hid (Pl base B vo ko (j + 1) q w' g' whole' sA' m' rA' n' rc' safe' s' f' ∧ WFr g s s' w w' ∧ (g' = g ∨ w.heap.size ≤ g'))
section
variable {base B g j q m sc n rc safe : Nat} {w : World} {s : St} {vo : Vw} {ko : List ByteArray} {f : Fnd} {sA rA : Option Addr} {whole : Bool}
set_option maxRecDepth 20000 in
set_option maxHeartbeats 4000000 in
theorem step_sync (h : Pl base B vo ko j q w g whole sA m rA n rc safe s f) (ho : Oth kLog vo ko) (h1 : 1 < w.heap.size) (hT : ErrT w) (hE : 0 < base) (pA : Option Addr) (pl pc : Nat) (N seg : Int) :
    Calls Tryz.prog 34 #[.agg #[.pointer (some ⟨B, 0, none⟩), .pointer (some ⟨g, 0, none⟩), .bool whole, .slice sA m sc, .slice rA n rc, .int .i64 safe], .agg #[.int .i64 1, .slice pA pl pc, .int .i64 N, .int .i64 seg]] w fun e w' => StepOut base B vo ko j q w g s e w' := by
  obtain ⟨W0, hW0⟩ : ∃ W0, W0 = ((w.alloc (.cells #[.pointer (some ⟨B, 0, none⟩), .pointer (some ⟨g, 0, none⟩), .bool whole, .slice sA m sc, .slice rA n rc, .int .i64 safe] 51)).alloc (.cells #[.int .i64 1, .slice pA pl pc, .int .i64 N, .int .i64 seg] 73)).alloc (.cells #[.pointer none, .pointer none, .bool false, .slice none 0 0, .slice none 0 0, .int .i64 0] 51) := ⟨_, rfl⟩
  have HS0 : Hid (SI base B vo ko j q w g s W0 f safe s #[.pointer (some ⟨B, 0, none⟩), .pointer (some ⟨g, 0, none⟩), .bool whole, .slice sA m sc, .slice rA n rc, .int .i64 safe] #[.int .i64 1, .slice pA pl pc, .int .i64 N, .int .i64 seg] #[.pointer none, .pointer none, .bool false, .slice none 0 0, .slice none 0 0, .int .i64 0]) := by rw [hW0]; exact si_new h.lg h1 hT hE _ _ _
  have HW0 := Lib.hid hW0
  have HP := Lib.hid h
  have HO := Lib.hid ho
  clear hW0 h ho h1 hT hE
  go_enter Tryz.func34, Tryz.ntmps34
  go_upto_region 1 with fail
  rw [← HW0.out]
  clear HW0
  obtain ⟨x0, x1, x2, x3, x4, x5, xf⟩ := six_cells HS0.out.bx.x
  obtain ⟨o0, o1, o2, o3, of⟩ := four_cells HS0.out.bx.o
  go_upto_region 11 with fail
  have HS1 : Hid (SI base B vo ko j q w g s (W0.setCell ⟨w.heap.size, 5, none⟩ (.int .i64 n)) f safe s #[.pointer (some ⟨B, 0, none⟩), .pointer (some ⟨g, 0, none⟩), .bool whole, .slice sA m sc, .slice rA n rc, .int .i64 n] #[.int .i64 1, .slice pA pl pc, .int .i64 N, .int .i64 seg] #[.pointer none, .pointer none, .bool false, .slice none 0 0, .slice none 0 0, .int .i64 0]) := HS0.out.putX 5 _
  obtain ⟨W1, hW1⟩ : ∃ W1, W1 = W0.setCell ⟨w.heap.size, 5, none⟩ (.int .i64 n) := ⟨_, rfl⟩
  rw [← hW1] at HS1 ⊢
  clear x0 x1 x2 x3 x4 x5 xf o0 o1 o2 o3 of hW1 HS0
  obtain ⟨x0, x1, x2, x3, x4, x5, xf⟩ := six_cells HS1.out.bx.x
  have HSY : Hid (∀ W, Below W1.heap.size W1 W → Calls Tryz.prog 13 #[.pointer (some ⟨g, 0, none⟩)] W fun e w' => ∃ s2, e = .returned .nilIface ∧ Hid (SI base B vo ko j q w g s w' f f.recs.length s2 #[.pointer (some ⟨B, 0, none⟩), .pointer (some ⟨g, 0, none⟩), .bool whole, .slice sA m sc, .slice rA n rc, .int .i64 n] #[.int .i64 1, .slice pA pl pc, .int .i64 N, .int .i64 seg] #[.pointer none, .pointer none, .bool false, .slice none 0 0, .slice none 0 0, .int .i64 0] ∧ LgD base w' B kLog s2 vo ko f j)) := fun W hW => si_sync (HS1.out.below hW) HO.out
  go_region_with ((go_at_call 13; refine (HSY.out _ ?_).mono ?_; (first | exact Below.refl _ _ | exact (Below.refl _ _).drew); rintro e w2 ⟨s2, rfl, H2⟩; obtain ⟨y0, y1, y2, y3, y4, y5, yf⟩ := six_cells H2.out.1.bx.x; obtain ⟨z0, z1, z2, z3, z4, z5, zf⟩ := six_cells H2.out.1.bx.r))
  all_goals
    go_wp2_with fail
    obtain ⟨W8, hW8⟩ : ∃ W8, W8 = put6 w2 (w.heap.size + 2) (.pointer (some ⟨B, 0, none⟩)) (.pointer (some ⟨g, 0, none⟩)) (.bool whole) (.slice sA m sc) (.slice rA n rc) (.int .i64 n) := ⟨_, rfl⟩
    obtain ⟨hl8, hf8⟩ := H2.out.1.done (.pointer (some ⟨B, 0, none⟩)) (.pointer (some ⟨g, 0, none⟩)) (.bool whole) (.slice sA m sc) (.slice rA n rc) (.int .i64 n)
    have hx8 := put6_at H2.out.1.bx.r (.pointer (some ⟨B, 0, none⟩)) (.pointer (some ⟨g, 0, none⟩)) (.bool whole) (.slice sA m sc) (.slice rA n rc) (.int .i64 n)
    rw [← hW8] at hl8 hf8 hx8
    unfold put6 at hW8
    rw [← hW8]
    refine bodyPost_ret (results_ct rfl _ _ (w.heap.size + 2) _ rfl (load_state _ _ _ _ _ _ _ _ hx8)) rfl ?_
    have hlo := HP.out.lg.logAt
    refine ⟨g, whole, sA, m, sc, rA, n, rc, n, s2, f, rfl, ⟨?_, HP.out.whole, HP.out.sl, HP.out.shot.lets hf8.lets hlo, HP.out.rl, HP.out.recs.lets hf8.lets hlo, HP.out.cap⟩, hf8, .inl rfl⟩
    have := hl8.succ
    rw [HP.out.rl] at this
    exact this
end
end Go.Proofs.YthokoimoiamddaaGreatDoor
