/-
  wal: the law's states at a box of their own. Own work.
  wal: the law's 'play': an opening and the calls one behind the other. Own work.
-/
import Derived.Test.YthokoimoiamddaaGreatDoorWalStep2
import Derived.Test.YthokoimoiamddaaGreatDoorB14
import Derived.Deep.CutRange
import Derived.BigQuiet
set_option linter.unusedSimpArgs false
set_option linter.unusedVariables false
namespace Go.Proofs.YthokoimoiamddaaGreatDoor
open Go Go.RowKit

section
variable {base B g j q m sc n rc safe x : Nat} {w W W' : World} {s s' : St} {vo : Vw} {ko : List ByteArray} {f : Fnd} {sA rA : Option Addr} {whole : Bool}
theorem BytesAt.no_state {ad : Addr} {b : UInt8} {bs : List UInt8} {y0 y1 y3 y4 : Option Addr} {bo : Bool} {n1 n2 n3 n4 : Nat} {z : Int} (h : BytesAt W (some ad) (b :: bs)) (hx : W.heap[x]? = some (.cells #[.pointer y0, .pointer y1, .bool bo, .slice y3 n1 n2, .slice y4 n3 n4, .int .i64 z] 51 (0, 0))) : ad.block ≠ x := by
  intro e
  have hc := h.2 ad rfl 0 (byteV b) rfl
  have e0 : ad.add 0 = ad := by simp [Addr.add]
  rw [e0] at hc
  obtain ⟨bl, o, sp⟩ := ad
  simp only at e
  subst e
  simp only [World.cell?, hx] at hc
  match o, hc with
  | 0, hc => simp [byteV] at hc
  | 1, hc => simp [byteV] at hc
  | 2, hc => simp [byteV] at hc
  | 3, hc => simp [byteV] at hc
  | 4, hc => simp [byteV] at hc
  | 5, hc => simp [byteV] at hc
  | o + 6, hc => simp at hc
theorem HeldB.state {A : Option Addr} {p : List UInt8} {y0 y1 y3 y4 : Option Addr} {bo : Bool} {n1 n2 n3 n4 : Nat} {z : Int} (h : HeldB W s A p) (hx : W.heap[x]? = some (.cells #[.pointer y0, .pointer y1, .bool bo, .slice y3 n1 n2, .slice y4 n3 n4, .int .i64 z] 51 (0, 0))) (ht : Touch (some x) W W') : HeldB W' s A p := by
  refine ⟨⟨h.1.1, fun ad e j u hu => ?_⟩, h.2⟩
  subst e
  cases p with
  | nil => simp [byteVs] at hu
  | cons b bs =>
    have hne := h.1.no_state hx
    have hc := h.1.2 ad rfl j u hu
    have e3 : (ad.add j).block = ad.block := by unfold Addr.add; split <;> rfl
    exact (World.cell?_of_block (w := W) (ht.block _ (by rw [e3]; exact fun e => hne (Option.some.inj e).symm))).trans hc
theorem HeldR.state {A : Option Addr} {l : List (List UInt8)} {y0 y1 y3 y4 : Option Addr} {bo : Bool} {n1 n2 n3 n4 : Nat} {z : Int} (h : HeldR W s A l) (hx : W.heap[x]? = some (.cells #[.pointer y0, .pointer y1, .bool bo, .slice y3 n1 n2, .slice y4 n3 n4, .int .i64 z] 51 (0, 0))) (ht : Touch (some x) W W') : HeldR W' s A l := fun i p hp => by
  obtain ⟨b, off, A', c', e, hc, ho, hb, cur, hcur⟩ := h i p hp
  have hne : b ≠ x := fun e => by
    subst e
    rw [hx] at hcur
    injection hcur with e2
    injection e2 with _ e3 _
    exact absurd e3 (by decide)
  have hk : W'.heap[b]? = W.heap[b]? := ht.block b fun e => hne (Option.some.inj e).symm
  exact ⟨b, off, A', c', e, (World.cell?_of_block (w := W) (a := ⟨b, off + i, none⟩) hk).trans hc, ho, hb.state hx ht, cur, hk.trans hcur⟩
/-- A box of the law's filled anew. -/
theorem Pl.state {y0 y1 y3 y4 : Option Addr} {bo : Bool} {n1 n2 n3 n4 : Nat} {z : Int} (h : Pl base B vo ko j q W g whole sA m rA n rc safe s f) (hx : W.heap[x]? = some (.cells #[.pointer y0, .pointer y1, .bool bo, .slice y3 n1 n2, .slice y4 n3 n4, .int .i64 z] 51 (0, 0))) (h1 : 1 < x) (ht : Touch (some x) W W') : Pl base B vo ko j q W' g whole sA m rA n rc safe s f :=
  ⟨h.lg.put hx h1 ht, h.whole, h.sl, h.shot.state hx ht, h.rl, h.recs.state hx ht, h.cap⟩
/-- The law's step, whatever the call. -/
theorem wstep_any (h : Pl base B vo ko j q w g whole sA m rA n rc safe s f) (ho : Oth kLog vo ko) (h1 : 1 < w.heap.size) (hT : ErrT w) (hE : 0 < base) (pA : Option Addr) (pl pc : Nat) (kd N seg : Int) (p : List UInt8) (hpl : p.length = pl) (hpB : HeldB w s pA p) (hp3 : pl ≤ 300) (hq : q = 400) (hj : j < 98) (hko : ko.length < 64) (hN : -9223372036854775808 ≤ N ∧ N ≤ 9223372036854775807) (hseg : -9223372036854775808 ≤ seg ∧ seg ≤ 9223372036854775807) :
    Calls Tryz.prog 34 #[.agg #[.pointer (some ⟨B, 0, none⟩), .pointer (some ⟨g, 0, none⟩), .bool whole, .slice sA m sc, .slice rA n rc, .int .i64 safe], .agg #[.int .i64 kd, .slice pA pl pc, .int .i64 N, .int .i64 seg]] w fun e w' => StepOut base B vo ko j q w g s e w' := by
  by_cases k0 : kd = 0
  · subst k0
    exact step_append h ho h1 hT hE pA pl pc N seg p hpl hpB hp3 (by omega) hj hko
  by_cases k1 : kd = 1
  · subst k1
    exact step_sync h ho h1 hT hE pA pl pc N seg
  by_cases k2 : kd = 2
  · subst k2
    exact step_check h ho h1 hT hE pA pl pc N seg p hpl hpB hp3 hj
  by_cases k3 : kd = 3
  · subst k3
    exact step_crash h ho h1 hT hE pA pl pc N seg hj hseg hN (by omega)
  exact step_other h ho h1 hT hE pA pl pc N seg kd ⟨k0, k1, k2, k3⟩ hj hseg
end
end Go.Proofs.YthokoimoiamddaaGreatDoor
set_option linter.unusedSimpArgs false
set_option linter.unusedVariables false
namespace Go.Proofs.YthokoimoiamddaaGreatDoor
open Go Go.RowKit

/-- What holds between two calls of 'play'. -/
structure PlayI (w : World) (s0 : St) (base B : Nat) (vo : Vw) (ko : List ByteArray) (j q : Nat) (b4 b6 : Nat) (W : World) (g : Nat) (whole : Bool) (sA : Option Addr) (m sc : Nat) (rA : Option Addr) (n rc safe : Nat) (s : St) (f : Fnd) : Prop where
  pl : Pl base B vo ko j q W g whole sA m rA n rc safe s f
  x : W.heap[b6]? = some (.cells #[.pointer (some ⟨B, 0, none⟩), .pointer (some ⟨g, 0, none⟩), .bool whole, .slice sA m sc, .slice rA n rc, .int .i64 safe] 51 (0, 0))
  r : W.heap[b4]? = some (.cells #[.pointer none, .pointer none, .bool false, .slice none 0 0, .slice none 0 0, .int .i64 0] 51 (0, 0))
  fr : Frame s0 s w W
  gl : w.heap.size ≤ g
  et : ErrT W
  lo : 1 < w.heap.size
  eb : 0 < base
  bw : base ≤ w.heap.size
  n4 : w.heap.size ≤ b4
  n6 : b4 < b6
section
variable {w W W' : World} {s0 s s' : St} {base B j q b4 b6 g m sc n rc safe : Nat} {vo : Vw} {ko : List ByteArray} {whole : Bool} {sA rA : Option Addr} {f : Fnd}
theorem PlayI.below (h : PlayI w s0 base B vo ko j q b4 b6 W g whole sA m sc rA n rc safe s f) (hb : Below W.heap.size W W') : PlayI w s0 base B vo ko j q b4 b6 W' g whole sA m sc rA n rc safe s f :=
  ⟨h.pl.below hb, (hb.block _ (Array.getElem?_eq_some_iff.1 h.x).1).trans h.x, (hb.block _ (Array.getElem?_eq_some_iff.1 h.r).1).trans h.r, h.fr.trans (Frame.of_below hb), h.gl, h.et.below hb, h.lo, h.eb, h.bw, h.n4, h.n6⟩
theorem Frame.step {w W W' : World} {s0 s s' : St} {g : Nat} (h : Frame s0 s w W) (hf : WFr g s s' W W') (hg : w.heap.size ≤ g) : Frame s0 s' w W' :=
  ⟨hf.os.trans h.os, hf.tape.trans h.tape, hf.output.trans h.output, Nat.le_trans h.size hf.size, fun x hx ho => (hf.block x (Nat.lt_of_lt_of_le hx h.size) (fun e => by
    rcases h.own x e with e | e
    · exact ho e
    · omega) (by omega)).trans (h.block x hx ho), fun x hx => by
    rcases hf.own x hx with e | e
    · exact h.own x e
    · exact .inr (Nat.le_trans h.size e)⟩
theorem Frame.put {w W W' : World} {s0 s : St} {x : Nat} (h : Frame s0 s w W) (ht : Touch (some x) W W') (hx : w.heap.size ≤ x) : Frame s0 s w W' :=
  ⟨ht.os.trans h.os, ht.tape.trans h.tape, ht.output.trans h.output, by rw [ht.size]; exact h.size, fun y hy ho => (ht.block y fun e => by have := Option.some.inj e; omega).trans (h.block y hy ho), h.own⟩
theorem PlayI.next {g' m' sc' n' rc' safe' : Nat} {whole' : Bool} {sA' rA' : Option Addr} {f' : Fnd} (h : PlayI w s0 base B vo ko j q b4 b6 W g whole sA m sc rA n rc safe s f) (hp : Pl base B vo ko (j + 1) q W' g' whole' sA' m' rA' n' rc' safe' s' f') (hf : WFr g s s' W W') (hg : g' = g ∨ W.heap.size ≤ g') :
    PlayI w s0 base B vo ko (j + 1) q b4 b6 (put6 W' b6 (.pointer (some ⟨B, 0, none⟩)) (.pointer (some ⟨g', 0, none⟩)) (.bool whole') (.slice sA' m' sc') (.slice rA' n' rc') (.int .i64 safe')) g' whole' sA' m' sc' rA' n' rc' safe' s' f' := by
  have hx := hf.stays h.pl.lg h.x (by decide) (by decide) (by decide) (by decide) (by decide)
  have hr := hf.stays h.pl.lg h.r (by decide) (by decide) (by decide) (by decide) (by decide)
  have ht := put6_touch W' b6 (.pointer (some ⟨B, 0, none⟩)) (.pointer (some ⟨g', 0, none⟩)) (.bool whole') (.slice sA' m' sc') (.slice rA' n' rc') (.int .i64 safe')
  have h4 := h.n4
  have h6 := h.n6
  have h1 := h.lo
  have h2 := h.eb
  have h3 := h.bw
  refine ⟨hp.state hx (by omega) ht, put6_at hx _ _ _ _ _ _, (ht.block b4 fun e => by have := Option.some.inj e; omega).trans hr, (h.fr.step hf h.gl).put ht (by omega), ?_, (h.et.low (h.pl.lg.below_of hf) h.eb).touch ht (by omega), h.lo, h.eb, h.bw, h.n4, h.n6⟩
  have h5 := h.gl
  have h7 := h.fr.size
  rcases hg with e | e
  · omega
  · omega
theorem PlayI.cells (h : PlayI w s0 base B vo ko j q b4 b6 W g whole sA m sc rA n rc safe s f) : W.cell? ⟨b6, 0, none⟩ = some (.pointer (some ⟨B, 0, none⟩)) ∧ W.cell? ⟨b6, 1, none⟩ = some (.pointer (some ⟨g, 0, none⟩)) ∧ W.cell? ⟨b6, 2, none⟩ = some (.bool whole) ∧ W.cell? ⟨b6, 3, none⟩ = some (.slice sA m sc) ∧ W.cell? ⟨b6, 4, none⟩ = some (.slice rA n rc) ∧ W.cell? ⟨b6, 5, none⟩ = some (.int .i64 safe) ∧ (∀ i, W.frozen? ⟨b6, i, none⟩ = false) ∧ b6 < W.heap.size := by
  obtain ⟨a0, a1, a2, a3, a4, a5, a6⟩ := six_cells h.x
  exact ⟨a0, a1, a2, a3, a4, a5, a6, (Array.getElem?_eq_some_iff.1 h.x).1⟩
end

set_option maxRecDepth 100000 in
set_option maxHeartbeats 4000000 in
theorem play_any {w wa : World} {s0 : St} {base B j0 : Nat} {vo : Vw} {ko : List ByteArray} (hD : LgD base w B kLog s0 vo ko fnd0 j0) (ho : Oth kLog vo ko) (hT : ErrT w) (hE : 0 < base) (A : Option Addr) (n c : Nat) (l : List WOp) (hln : l.length = n) (hA : WOps wa A l) (hwa : Below wa.heap.size wa w) (hlow : wa.heap.size ≤ base) (hfew : ∀ o ∈ l, o.p.length ≤ 300) (hn60 : n ≤ 60) (hj0 : j0 ≤ 30) (hko : ko.length < 64) :
    Calls Tryz.prog 21 #[.pointer (some ⟨B, 0, none⟩), .slice A n c] w fun e w' => ∃ (g : Nat) (whole : Bool) (sA : Option Addr) (m sc : Nat) (rA : Option Addr) (n' rc safe : Nat), e = .returned (.tuple #[.agg #[.pointer (some ⟨B, 0, none⟩), .pointer (some ⟨g, 0, none⟩), .bool whole, .slice sA m sc, .slice rA n' rc, .int .i64 safe], .bool true]) ∧
      Hid (∃ (s : St) (f : Fnd) (j : Nat), j ≤ j0 + 60 ∧ j0 ≤ j ∧ Lg base w' g B kLog s vo ko f safe j 400 ∧ Frame s0 s w w') := by
  have HD := Lib.hid hD
  have HO := Lib.hid ho
  have HA : Hid (WOps wa A l ∧ Below wa.heap.size wa w ∧ wa.heap.size ≤ base ∧ (∀ o ∈ l, o.p.length ≤ 300)) := ⟨hA, hwa, hlow, hfew⟩
  have HN : Hid (l.length = n ∧ n ≤ 60 ∧ j0 ≤ 30 ∧ ko.length < 64) := ⟨hln, hn60, hj0, hko⟩
  have HT : Hid (ErrT w ∧ 0 < base) := ⟨hT, hE⟩
  obtain ⟨W0, hW0⟩ : ∃ W0, W0 = w.alloc (.cells #[.pointer none, .pointer none, .bool false, .slice none 0 0, .slice none 0 0, .int .i64 0] 51) := ⟨_, rfl⟩
  have HW0 := Lib.hid hW0
  have HB0 : Hid (Below w.heap.size w W0 ∧ W0.heap.size = w.heap.size + 1 ∧ W0.heap[w.heap.size]? = some (.cells #[.pointer none, .pointer none, .bool false, .slice none 0 0, .slice none 0 0, .int .i64 0] 51 (0, 0))) := by rw [hW0]; exact ⟨(Below.refl _ _).alloc (Nat.le_refl _) _, by simp, heap_alloc_new _ _⟩
  have HOP : Hid (Calls Tryz.prog 33 #[.agg #[.pointer (some ⟨B, 0, none⟩), .pointer none, .bool false, .slice none 0 0, .slice none 0 0, .int .i64 0], .int .i64 0, .int .i64 100] W0 fun e w' => ∃ (g c : Nat) (A : Option Addr) (s4 : St), e = .returned (.tuple #[.agg #[.pointer (some ⟨B, 0, none⟩), .pointer (some ⟨g, 0, none⟩), .bool false, .slice none 0 0, .slice A 0 c, .int .i64 0], .bool true]) ∧ Hid ((A = none → c = 0) ∧ Lg base w' g B kLog s4 vo ko fnd0 0 j0 400 ∧ Frame s0 s4 W0 w' ∧ W0.heap.size ≤ g)) := by
    refine (lopen_any (base := base) (B := B) (j := j0) (s := s0) (vo := vo) (ko := ko) (f := fnd0) (sA := none) (rA := none) (m := 0) (sc := 0) (n := 0) (rc := 0) (rs := []) none false 0 0 100 400 (HD.out.below HB0.out.1) HO.out rfl rfl (HeldB.nil _ _) rfl (HeldR.nil _ _ _) rfl (by decide) (by have := HN.out; omega) ⟨Nat.le_refl _, fun _ => rfl⟩ (by decide)).mono ?_
    rintro e w' ⟨g2, k, c, A, s4, e1, e2, rfl, e4, e5, e6, e7, e8, e9⟩
    have hk : k = 0 := e1
    subst hk
    exact ⟨g2, c, A, s4, rfl, e2.2, e4, e7, e9⟩
  have HJ : Hid (1 < w.heap.size ∧ base ≤ w.heap.size) := by have := HD.out.owns; unfold Hid; omega
  clear hD ho hA hwa hlow hfew hln hn60 hj0 hko hT hE hW0
  go_enter Tryz.func21, Tryz.ntmps21
  go_upto_region 1 with fail
  rw [← HW0.out]
  clear HW0
  go_wp2_with fail
  refine HOP.out.mono ?_
  rintro e w1 ⟨g1, c1, A1, s1, rfl, H1⟩
  obtain ⟨W1, hW1⟩ : ∃ W1, W1 = w1.alloc (.cells #[.pointer (some ⟨B, 0, none⟩), .pointer (some ⟨g1, 0, none⟩), .bool false, .slice none 0 0, .slice A1 0 c1, .int .i64 0] 51) := ⟨_, rfl⟩
  have hb1 : Below w1.heap.size w1 W1 := by rw [hW1]; exact (Below.refl _ _).alloc (Nat.le_refl _) _
  have HI : Hid (PlayI w s0 base B vo ko j0 400 w.heap.size w1.heap.size W1 g1 false none 0 0 A1 0 c1 0 s1 fnd0) := by
    obtain ⟨h1, h2, h3, h4⟩ := H1.out
    have hr := h3.stays (HD.out.below HB0.out.1) HB0.out.2.2 (by decide) (by decide) (by decide) (by decide)
    have hfr : Frame s0 s1 w w1 := (Frame.of_below HB0.out.1).trans h3
    have hsz := HB0.out.2.1
    have hs3 := h3.size
    exact ⟨⟨h2.below hb1, rfl, rfl, HeldB.nil _ _, rfl, HeldR.nil _ _ _, Nat.zero_le _, h1⟩, by rw [hW1]; exact heap_alloc_new _ _, (hb1.block _ (by omega)).trans hr, hfr.trans (Frame.of_below hb1), by omega, (HT.out.1.low (HD.out.below_of hfr) HT.out.2).below hb1, HJ.out.1, HT.out.2, HJ.out.2, Nat.le_refl _, by omega⟩
  obtain ⟨b6, hb6⟩ : ∃ b6, b6 = w1.heap.size := ⟨_, rfl⟩
  rw [← hb6] at HI
  have HW1 : Hid (W1 = w1.alloc (.cells #[.pointer (some ⟨B, 0, none⟩), .pointer (some ⟨g1, 0, none⟩), .bool false, .slice none 0 0, .slice A1 0 c1, .int .i64 0] 51)) := hW1
  have HB6 : Hid (b6 = w1.heap.size) := hb6
  clear H1 HOP HB0 hb1 hW1 hb6
  go_upto_region 3 with fail
  rw [← HW1.out, ← HB6.out]
  clear HW1 HB6
  go_loopw [7, 18] (fun ok i wr => ∃ (j g : Nat) (whole : Bool) (sA : Option Addr) (m sc : Nat) (rA : Option Addr) (nr rc safe : Nat), j ≤ n ∧ ok = .bool true ∧ i = .int .i64 j ∧ Hid (∃ s f, PlayI w s0 base B vo ko (j0 + j) 400 w.heap.size b6 wr g whole sA m sc rA nr rc safe s f)) (fun _ i _ => n - (intOf i).toNat)
  case atStart => exact ⟨0, g1, false, none, 0, 0, A1, 0, c1, 0, Nat.zero_le _, rfl, rfl, s1, fnd0, HI.out⟩
  case round =>
    obtain ⟨j, g, whole, sA, m, sc, rA, nr, rc, safe, hj, rfl, rfl, HS⟩ := hrel
    obtain ⟨s, f, hS⟩ := HS.out
    have HP := Lib.hid hS
    clear hS HS
    obtain ⟨m0, m1, m2, m3, m4, m5, mf, ml⟩ := HP.out.cells
    by_cases hlt : j < n
    · obtain ⟨o, hoj⟩ : ∃ o, Hid (l[j]? = some o) := ⟨_, List.getElem?_eq_getElem (by have := HN.out; omega)⟩
      obtain ⟨ga, off, rfl, d0, d1, d2, d3, dby, dsg, dln, dn0, dn1⟩ := HA.out.1 j o hoj.out
      have hold : Below wa.heap.size wa wr := HA.out.2.1.trans ((HD.out.below_of HP.out.fr).mono HA.out.2.2.1)
      have hg : ga < wa.heap.size := World.block_lt_of_cell? wa _ d0
      replace d0 := (hold.cell (p := ⟨ga, off + j * 4, none⟩) hg).trans d0
      replace d1 := (hold.cell (p := ⟨ga, off + j * 4 + 1, none⟩) hg).trans d1
      replace d2 := (hold.cell (p := ⟨ga, off + j * 4 + 2, none⟩) hg).trans d2
      replace d3 := (hold.cell (p := ⟨ga, off + j * 4 + 3, none⟩) hg).trans d3
      have hj0' : ((0 : Int) ≤ j) := by omega
      have hj1 : ((j : Nat) : Int) < n := by omega
      have hw1 : IntKind.i64.wrap ((j : Int) + 1) = ((j + 1 : Nat) : Int) := by have := HN.out; rw [IntKind.wrap_i64]; omega
      obtain ⟨mp, hmp⟩ : ∃ mp, Hid (o.p.length = mp ∧ mp ≤ 300) := ⟨_, rfl, HA.out.2.2.2 o (List.mem_of_getElem? hoj.out)⟩
      rw [hmp.out.1] at d1
      obtain ⟨kd, hkd⟩ : ∃ z, Hid (o.kind = z) := ⟨_, rfl⟩
      obtain ⟨sg, hsg⟩ : ∃ z, Hid (o.seg = z) := ⟨_, rfl⟩
      obtain ⟨N, hN⟩ : ∃ z, Hid (o.n = z) := ⟨_, rfl⟩
      obtain ⟨Ap, hAp⟩ : ∃ z, Hid (o.A = z) := ⟨_, rfl⟩
      obtain ⟨cp, hcp⟩ : ∃ z, Hid (o.c = z) := ⟨_, rfl⟩
      rw [hkd.out] at d0
      rw [hAp.out, hcp.out] at d1
      rw [hN.out] at d2
      rw [hsg.out] at d3
      have HW2 : Hid (Below wr.heap.size wr (wr.alloc (.cells #[.int .i64 kd, .slice Ap mp cp, .int .i64 N, .int .i64 sg] 73))) := (Below.refl _ _).alloc (Nat.le_refl _) _
      have HP2 := Lib.hid (HP.out.below HW2.out)
      have HHB : Hid (HeldB (wr.alloc (.cells #[.int .i64 kd, .slice Ap mp cp, .int .i64 N, .int .i64 sg] 73)) s Ap o.p) := by
        have dby2 : BytesAt wa Ap o.p := by rw [← hAp.out]; exact dby
        refine (HeldB.old dby2 hold fun x hx => ?_).below HW2.out
        have := (HP.out.pl.lg.log.2.2.2.1 x hx).1
        have := HA.out.2.2.1
        omega
      have HBD : Hid ((-9223372036854775808 ≤ N ∧ N ≤ 9223372036854775807) ∧ (-9223372036854775808 ≤ sg ∧ sg ≤ 9223372036854775807)) := ⟨by rw [← hN.out]; exact ⟨dn0, dn1⟩, by rw [← hsg.out]; exact dsg⟩
      clear dby dsg dln dn0 dn1 hold hg
      go_wp2_with fail
      refine (wstep_any (sc := sc) HP2.out.pl HO.out (by have := HP2.out.lo; have := HP2.out.fr.size; omega) HP2.out.et HT.out.2 Ap mp cp kd N sg o.p hmp.out.1 HHB.out hmp.out.2 rfl (by have := HN.out; omega) HN.out.2.2.2 HBD.out.1 HBD.out.2).mono ?_
      rintro e w3 ⟨g', whole', sA', m', sc', rA', n', rc', safe', s', f', rfl, H3⟩
      have HNX := Lib.hid (HP2.out.next (sc' := sc') H3.out.1 H3.out.2.1 H3.out.2.2)
      have hx3 := H3.out.2.1.stays HP2.out.pl.lg HP2.out.x (by decide) (by decide) (by decide) (by decide) (by decide)
      clear m0 m1 m2 m3 m4 m5 mf ml d0 d1 d2 d3
      obtain ⟨m0, m1, m2, m3, m4, m5, mf⟩ := six_cells hx3
      clear hx3
      go_upto_region 8 with fail
      obtain ⟨W4, hW4⟩ : ∃ W4, W4 = put6 w3 b6 (.pointer (some ⟨B, 0, none⟩)) (.pointer (some ⟨g', 0, none⟩)) (.bool whole') (.slice sA' m' sc') (.slice rA' n' rc') (.int .i64 safe') := ⟨_, rfl⟩
      rw [← hW4] at HNX
      unfold put6 at hW4
      rw [← hW4]
      clear m0 m1 m2 m3 m4 m5 mf hW4
      obtain ⟨m0, m1, m2, m3, m4, m5, mf, ml⟩ := HNX.out.cells
      have HLN : Hid (∀ W, Below W4.heap.size W4 W → Calls Tryz.prog 18 #[.pointer (some ⟨g', 0, none⟩)] W fun e w' => e = .returned (.int .i64 n') ∧ w' = W) := fun W hW => by
        have := lg_len (HNX.out.pl.lg.below hW)
        rw [HNX.out.pl.rl] at this
        exact this.mono fun e w' h => ⟨h.1, h.2.symm⟩
      have HSF : Hid (∀ W, Below W4.heap.size W4 W → Calls Tryz.prog 19 #[.pointer (some ⟨g', 0, none⟩)] W fun e w' => e = .returned (.int .i64 safe') ∧ w' = W) := fun W hW => (lg_safe (HNX.out.pl.lg.below hW)).mono fun e w' h => ⟨h.1, h.2.symm⟩
      go_quiet (first
        | (go_at_call 18; exact Calls.quiet_of_same (HLN.out _ (by first | exact Below.refl _ _ | exact bdrewN (Below.refl _ _) _ | exact (Below.refl _ _).drew)))
        | (go_at_call 19; exact Calls.quiet_of_same (HSF.out _ (by first | exact Below.refl _ _ | exact bdrewN (Below.refl _ _) _ | exact (Below.refl _ _).drew))))
      have HF := Lib.hid (HNX.out.below (bdrewN (Below.refl _ _) nq))
      go_wp2_with fail
      exact ⟨⟨j + 1, g', whole', sA', m', sc', rA', n', rc', safe', hlt, rfl, by go_num, s', f', HF.out⟩, by simp [intOf]; omega⟩
    · have hjn : j = n := by omega
      subst hjn
      obtain ⟨z0, z1, z2, z3, z4, z5, zf⟩ := six_cells HP.out.r
      go_wp2_with fail
      obtain ⟨W8, hW8⟩ : ∃ W8, W8 = put6 wr w.heap.size (.pointer (some ⟨B, 0, none⟩)) (.pointer (some ⟨g, 0, none⟩)) (.bool whole) (.slice sA m sc) (.slice rA nr rc) (.int .i64 safe) := ⟨_, rfl⟩
      have ht8 := put6_touch wr w.heap.size (.pointer (some ⟨B, 0, none⟩)) (.pointer (some ⟨g, 0, none⟩)) (.bool whole) (.slice sA m sc) (.slice rA nr rc) (.int .i64 safe)
      have hx8 := put6_at HP.out.r (.pointer (some ⟨B, 0, none⟩)) (.pointer (some ⟨g, 0, none⟩)) (.bool whole) (.slice sA m sc) (.slice rA nr rc) (.int .i64 safe)
      rw [← hW8] at ht8 hx8
      unfold put6 at hW8
      rw [← hW8]
      refine bodyPost_ret (results_ct rfl _ _ w.heap.size _ rfl (load_state _ _ _ _ _ _ _ _ hx8)) rfl ?_
      exact ⟨g, whole, sA, m, sc, rA, nr, rc, safe, rfl, s, f, j0 + j, by have := HN.out; omega, by omega, HP.out.pl.lg.put HP.out.r HP.out.lo ht8, HP.out.fr.put ht8 (Nat.le_refl _)⟩
end Go.Proofs.YthokoimoiamddaaGreatDoor
