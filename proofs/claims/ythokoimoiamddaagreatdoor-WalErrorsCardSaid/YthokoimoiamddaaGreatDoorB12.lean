/-
  wal: is a name a log's name? as the law reckons it. Own work.
  wal: what the laws are handed: lists of bytes, lists of calls; the document's Lists; 'segment', 'few'. Own work.
  wal: what the laws are handed: lists of calls; 'few'. Own work (after XDiskOps).
  wal: arguments (lists of calls, of bytes, numbers) read as the walks want them. Own work (after XDiskRead, XNetRead).
  wal: bytes and rows of bytes beside a log's disk, and what calls on the log leave of them. Own work.
  wal: what was found, its bytes written over; a log and a disk beside it. Own work.
-/
import Derived.Test.YthokoimoiamddaaGreatDoorB11
import Derived.Test.YthokoimoiamddaaGreatDoorB7
import Derived.Deep.QuietTactic
import Derived.Deep.Slices
import Derived.Deep.Strs
import Derived.Lib.SmallJoins
import Derived.ChangeSame
import Derived.ProofKit
set_option linter.unusedSimpArgs false
set_option linter.unusedVariables false
namespace Go.Proofs.YthokoimoiamddaaGreatDoor
open Go Go.RowKit

/-- Are the first k bytes letters, figures, '_'? -/
def preB (s : ByteArray) (k : Nat) : Bool := (s.data.toList.take k).all fun c => letB (c.toNat : Int)
def headB (s : ByteArray) : Bool := decide (1 ≤ s.size ∧ s.size ≤ 16) && (if h : 0 < s.size then decide ((97 : Int) ≤ ((s[0]'h).toNat : Int) ∧ ((s[0]'h).toNat : Int) ≤ 122) else false)
theorem preB_zero (s : ByteArray) : preB s 0 = true := by simp [preB]
theorem preB_succ (s : ByteArray) (k : Nat) (h : k < s.size) : preB s (k + 1) = (preB s k && letB ((s[k]).toNat : Int)) := by
  unfold preB
  have hk : k < s.data.toList.length := by simpa using h
  rw [List.take_add_one, List.getElem?_eq_getElem hk, List.all_append]
  simp
  rfl
theorem all_while {α : Type} (p : α → Bool) (l : List α) : l.all p = decide ((l.takeWhile p).length = l.length) := by
  induction l with
  | nil => simp
  | cons a l ih =>
    rw [List.all_cons, ih, List.takeWhile_cons]
    cases h : p a
    · simp
    · simp
theorem nameB_pre (s : ByteArray) : nameB s = (headB s && preB s s.size) := by
  have h1 : preB s s.size = decide (runN s 0 = s.size) := by
    unfold preB runN
    have e : s.data.toList.take s.size = s.data.toList := List.take_of_length_le (by simp)
    have e2 : s.data.toList.length = s.size := by simp
    rw [e, List.drop_zero, all_while, e2]
  rw [h1]
  rfl
def zeros (n : Nat) : List UInt8 := List.replicate n 0
theorem zeros_len (n : Nat) : (zeros n).length = n := by unfold zeros; rw [List.length_replicate]
theorem made_zeros (n : Nat) : madeCells #[.int .u8 0] n = (byteVs (zeros n)).toArray := by
  apply Array.ext'
  apply List.ext_getElem?
  intro i
  unfold madeCells byteVs zeros byteV
  simp only [Array.toList_map, Array.toList_range, List.getElem?_map, List.map_replicate, List.getElem?_replicate]
  by_cases h : i < n
  · rw [List.getElem?_range h, if_pos h]; simp [Nat.mod_one]
  · rw [List.getElem?_eq_none (by simp; omega), if_neg h]; rfl
theorem run_make_bytes (n : Nat) (hn : n ≤ 281474976710656) (w : World) : (Instr.makeSlice 23 (.int .i64 (n : Int)) (.int .i64 (n : Int))).run Tryz.prog w = .ok (.slice (some ⟨w.heap.size, 0, none⟩) n n) (w.alloc (.cells (byteVs (zeros n)).toArray 5)) := by
  obtain ⟨i0, hi, hz0, hz1, hz2⟩ := info_parts byte_info
  have h := run_make (P := Tryz.prog) w 23 5 i0 (.int .u8 0) Tryz.underlying23 hi hz0 .i64 .i64 (n : Int) (n : Int) (by omega) (Int.le_refl _) (by rw [hz2]; omega) (by omega)
  rw [← made_zeros]
  simpa [hz1, Value.cells] using h

end Go.Proofs.YthokoimoiamddaaGreatDoor
set_option linter.unusedSimpArgs false
set_option linter.unusedVariables false
namespace Go.Proofs.YthokoimoiamddaaGreatDoor
open Go Go.RowKit

/-- Lists of bytes in memory. -/
def SlicesAt (w : World) (A : Option Addr) (l : List (List UInt8)) : Prop := ∀ i p, l[i]? = some p → ∃ g off A' c', A = some ⟨g, off, none⟩ ∧ w.cell? ⟨g, off + i, none⟩ = some (.slice A' p.length c') ∧ BytesAt w A' p
theorem SlicesAt.below {w w' : World} {A : Option Addr} {l : List (List UInt8)} (h : SlicesAt w A l) (hb : Below w.heap.size w w') : SlicesAt w' A l := fun i p hp => by
  obtain ⟨g, off, A', c', e, d, h1⟩ := h i p hp
  exact ⟨g, off, A', c', e, (hb.cell (p := ⟨g, off + i, none⟩) (World.block_lt_of_cell? w _ d)).trans d, h1.below hb⟩

set_option maxHeartbeats 1000000 in
theorem lists_same (A B : Option Addr) (n c1 c2 : Nat) (xs : List (List UInt8)) (w : World) (hl : xs.length = n) (hn : n ≤ 1000000) (hA : SlicesAt w A xs) (hB : SlicesAt w B xs) :
    Calls Tryz.prog 15 #[.slice A n c1, .slice B n c2] w fun e w' => e = .returned (.bool true) ∧ Below w.heap.size w w' := by
  have HA := Lib.hid hA
  have HB := Lib.hid hB
  have HN : Hid (xs.length = n ∧ n ≤ 1000000) := ⟨hl, hn⟩
  clear hl hn hA hB
  go_enter Tryz.func15, Tryz.ntmps15
  go_wp2
  go_loopw [13] (fun i wr => ∃ (j : Nat), j ≤ n ∧ i = .int .i64 j ∧ Hid (Below w.heap.size w wr)) (fun i _ => n - (intOf i).toNat)
  case atStart => exact ⟨0, Nat.zero_le _, rfl, Below.refl _ _⟩
  case round =>
    obtain ⟨j, hj, rfl, HS⟩ := hrel
    by_cases hlt : j < n
    · obtain ⟨p, hp⟩ : ∃ p, Hid (xs[j]? = some p) := ⟨_, List.getElem?_eq_getElem (by have := HN.out; omega)⟩
      obtain ⟨m, hm⟩ : ∃ m, Hid (p.length = m) := ⟨_, Lib.hid rfl⟩
      obtain ⟨g, off, A1, d1, rfl, q0, r0⟩ := HA.out j p hp.out
      obtain ⟨g2, off2, A2, d2, rfl, q1, r1⟩ := HB.out j p hp.out
      have q0' := (HS.out.cell (p := ⟨g, off + j, none⟩) (World.block_lt_of_cell? w _ q0)).trans q0
      have q1' := (HS.out.cell (p := ⟨g2, off2 + j, none⟩) (World.block_lt_of_cell? w _ q1)).trans q1
      have HBB : Hid (∀ W, Below w.heap.size wr W → Calls Tryz.prog 14 #[.slice A1 m d1, .slice A2 m d2] W fun e w' => e = .returned (.bool true) ∧ w' = W) := fun W hW => by
        have h1 := bytes_any A1 A2 p p d1 d2 W (r0.below (HS.out.trans hW)) (r1.below (HS.out.trans hW))
        rw [hm.out] at h1
        exact h1.mono fun e w' h => ⟨by rw [h.1]; simp, h.2.symm⟩
      rw [hm.out] at q0' q1'
      clear q0 q1 r0 r1
      have hw1' : IntKind.i64.wrap ((j : Int) + 1) = ((j + 1 : Nat) : Int) := by have := HN.out; rw [IntKind.wrap_i64]; omega
      have hj0 : ((0 : Int) ≤ j) := by omega
      have hj1 : ((j : Nat) : Int) < n := by omega
      go_wp2
      go_quiet ((go_at_call 14; exact Calls.quiet_of_same (HBB.out _ (by first | exact Below.refl _ _ | exact bdrewN (Below.refl _ _) _ | exact (Below.refl _ _).drew))))
      have hd : Hid (Below w.heap.size w (wr.drewN nq)) := bdrewN HS.out _
      go_wp2
      exact ⟨⟨j + 1, hlt, by go_num, hd.out⟩, by simp [intOf]; omega⟩
    · have hjn : j = n := by omega
      subst hjn
      go_wp2
      go_ret
      exact ⟨rfl, HS.out⟩

theorem segment_any (n : Int) (w : World) (hn : -9223372036854775808 ≤ n ∧ n ≤ 9223372036854775807) : ∃ k : Nat, 16 ≤ k ∧ k ≤ 515 ∧ ∀ W, Calls Tryz.prog 53 #[.int .i64 n] W fun e w' => e = .returned (.int .i64 k) ∧ W = w' := by
  have hr : IntKind.i64.wrap (n.tmod 500) = n.tmod 500 := by
    have h1 := Int.tmod_lt_of_pos n (show (0 : Int) < 500 by decide)
    have h2 := Int.lt_tmod_of_pos n (show (0 : Int) < 500 by decide)
    rw [IntKind.wrap_i64]; omega
  have h1 := Int.tmod_lt_of_pos n (show (0 : Int) < 500 by decide)
  have h2 := Int.lt_tmod_of_pos n (show (0 : Int) < 500 by decide)
  refine ⟨(16 + max 0 (n.tmod 500)).toNat, by omega, by omega, fun W => ?_⟩
  have hw : IntKind.i64.wrap (16 + max 0 (n.tmod 500)) = 16 + max 0 (n.tmod 500) := by rw [IntKind.wrap_i64]; omega
  have hz : (((16 + max 0 (n.tmod 500)).toNat : Nat) : Int) = 16 + max 0 (n.tmod 500) := by omega
  rw [hz]
  go_enter Tryz.func53, Tryz.ntmps53
  go_wp2
  all_goals
    go_ret
    exact ⟨rfl, rfl⟩
end Go.Proofs.YthokoimoiamddaaGreatDoor
set_option linter.unusedSimpArgs false
set_option linter.unusedVariables false
namespace Go.Proofs.YthokoimoiamddaaGreatDoor
open Go Go.RowKit

/-- A call that a law is handed. -/
structure WOp where
  kind : Int
  A : Option Addr
  c : Nat
  p : List UInt8
  n : Int
  seg : Int
def WOps (w : World) (A : Option Addr) (l : List WOp) : Prop := ∀ (j : Nat) (o : WOp), l[j]? = some o → ∃ g off, A = some ⟨g, off, none⟩ ∧ w.cell? ⟨g, off + j * 4, none⟩ = some (.int .i64 o.kind) ∧ w.cell? ⟨g, off + j * 4 + 1, none⟩ = some (.slice o.A o.p.length o.c) ∧ w.cell? ⟨g, off + j * 4 + 2, none⟩ = some (.int .i64 o.n) ∧ w.cell? ⟨g, off + j * 4 + 3, none⟩ = some (.int .i64 o.seg) ∧ BytesAt w o.A o.p ∧ (-9223372036854775808 ≤ o.seg ∧ o.seg ≤ 9223372036854775807) ∧ o.p.length ≤ 140737488351232 ∧ -9223372036854775808 ≤ o.n ∧ o.n ≤ 9223372036854775807
theorem WOps.below {w w' : World} {A : Option Addr} {l : List WOp} (h : WOps w A l) (hb : Below w.heap.size w w') : WOps w' A l := fun j o ho => by
  obtain ⟨g, off, e, d0, d1, d2, d3, h4, h5, h6, h7⟩ := h j o ho
  have hg : g < w.heap.size := World.block_lt_of_cell? w _ d0
  exact ⟨g, off, e, (hb.cell (p := ⟨g, off + j * 4, none⟩) hg).trans d0, (hb.cell (p := ⟨g, off + j * 4 + 1, none⟩) hg).trans d1, (hb.cell (p := ⟨g, off + j * 4 + 2, none⟩) hg).trans d2, (hb.cell (p := ⟨g, off + j * 4 + 3, none⟩) hg).trans d3, h4.below hb, h5, h6, h7⟩
def fewW (l : List WOp) : Bool := (l.all fun o => decide (o.p.length ≤ 300)) && decide (l.length ≤ 60)
theorem wfew_no {l : List WOp} {j : Nat} {o : WOp} (h : l[j]? = some o) (hl : 300 < o.p.length) : fewW l = false := by
  unfold fewW
  have : (l.all fun o => decide (o.p.length ≤ 300)) = false := by
    rw [Bool.eq_false_iff]
    intro h2
    have := List.all_eq_true.1 h2 o (List.mem_of_getElem? h)
    simp at this
    omega
  rw [this]; rfl
theorem wfew_all {l : List WOp} (h : ∀ o ∈ l.take l.length, o.p.length ≤ 300) : fewW l = decide (l.length ≤ 60) := by
  unfold fewW
  rw [List.take_length] at h
  have : (l.all fun o => decide (o.p.length ≤ 300)) = true := List.all_eq_true.2 fun o ho => by simpa using h o ho
  rw [this]; rfl
theorem wfew_is {l : List WOp} (h : fewW l = true) : (∀ o ∈ l, o.p.length ≤ 300) ∧ l.length ≤ 60 := by
  unfold fewW at h
  rw [Bool.and_eq_true] at h
  refine ⟨fun o ho => by simpa using List.all_eq_true.1 h.1 o ho, by simpa using h.2⟩

set_option maxHeartbeats 1000000 in
theorem wfew_any (A : Option Addr) (c : Nat) (l : List WOp) (w : World) (hA : WOps w A l) (hl : l.length ≤ 140737488351232) :
    Calls Tryz.prog 20 #[.slice A l.length c] w fun e w' => e = .returned (.bool (fewW l)) ∧ Below w.heap.size w w' := by
  obtain ⟨n, hnl⟩ : ∃ n, Hid (l.length = n) := ⟨_, Lib.hid rfl⟩
  rw [hnl.out] at hl ⊢
  have HA := Lib.hid hA
  have HL := Lib.hid hl
  clear hA hl
  go_enter Tryz.func20, Tryz.ntmps20
  go_wp2
  go_loopw [7] (fun i wr => ∃ (j : Nat), j ≤ n ∧ i = .int .i64 j ∧ Hid ((∀ o ∈ l.take j, o.p.length ≤ 300) ∧ Below w.heap.size w wr)) (fun i _ => n - (intOf i).toNat)
  case atStart => exact ⟨0, Nat.zero_le _, rfl, by simp, Below.refl _ _⟩
  case round =>
    obtain ⟨j, hj, rfl, HS⟩ := hrel
    by_cases hlt : j < n
    · obtain ⟨o, ho⟩ : ∃ o, Hid (l[j]? = some o) := ⟨_, List.getElem?_eq_getElem (by have := hnl.out; omega)⟩
      obtain ⟨g, off, rfl, d0, d1, d2, d3, _⟩ := HA.out j o ho.out
      have hold := HS.out.2
      have hg : g < w.heap.size := World.block_lt_of_cell? w _ d0
      replace d0 := (hold.cell (p := ⟨g, off + j * 4, none⟩) hg).trans d0
      replace d1 := (hold.cell (p := ⟨g, off + j * 4 + 1, none⟩) hg).trans d1
      replace d2 := (hold.cell (p := ⟨g, off + j * 4 + 2, none⟩) hg).trans d2
      replace d3 := (hold.cell (p := ⟨g, off + j * 4 + 3, none⟩) hg).trans d3
      have hj0 : ((0 : Int) ≤ j) := by omega
      have hj1 : ((j : Nat) : Int) < n := by omega
      have hw1 : IntKind.i64.wrap ((j : Int) + 1) = ((j + 1 : Nat) : Int) := by have := HL.out; rw [IntKind.wrap_i64]; omega
      obtain ⟨m, hm⟩ : ∃ m, Hid (o.p.length = m) := ⟨_, Lib.hid rfl⟩
      rw [hm.out] at d1
      have hbw : Hid (Below w.heap.size w wr ∧ w.heap.size ≤ wr.heap.size) := ⟨hold, hold.size⟩
      clear hold hg
      by_cases hm300 : 300 < m
      · have d9 : decide ((m : Int) > 300) = true := by rw [decide_eq_true_iff]; omega
        have HB : Hid (fewW l = false) := wfew_no ho.out (by rw [hm.out]; exact hm300)
        clear hm300
        go_wp2
        go_ret
        exact ⟨by rw [HB.out]; rfl, hbw.out.1.alloc hbw.out.2 _⟩
      · have d9 : decide ((m : Int) > 300) = false := by rw [decide_eq_false_iff_not]; omega
        have HP : Hid (∀ q ∈ l.take (j + 1), q.p.length ≤ 300) := by
          intro q hq
          obtain ⟨h7, h8⟩ := List.getElem?_eq_some_iff.1 ho.out
          rw [← List.take_append_getElem h7, h8] at hq
          rcases List.mem_append.1 hq with hq | hq
          · exact HS.out.1 q hq
          · obtain rfl : q = o := by simpa using hq
            rw [hm.out]; omega
        clear hm300
        go_wp2
        exact ⟨⟨j + 1, hlt, rfl, HP.out, hbw.out.1.alloc hbw.out.2 _⟩, by simp [intOf]; omega⟩
    · have hjn : j = n := by omega
      have HB : Hid (fewW l = decide (n ≤ 60)) := by
        have := wfew_all (l := l) (by rw [hnl.out, ← hjn]; exact HS.out.1)
        rw [hnl.out] at this; exact this
      subst hjn
      clear hlt hj
      by_cases h8 : j ≤ 60
      · have d9 : decide ((j : Int) ≤ 60) = true := by rw [decide_eq_true_iff]; omega
        have HB2 : Hid (fewW l = true) := by rw [Hid, HB.out]; simpa using h8
        clear h8
        go_wp2
        go_ret
        exact ⟨by rw [HB2.out]; rfl, HS.out.2⟩
      · have d9 : decide ((j : Int) ≤ 60) = false := by rw [decide_eq_false_iff_not]; omega
        have HB2 : Hid (fewW l = false) := by rw [Hid, HB.out]; simpa using h8
        clear h8
        go_wp2
        go_ret
        exact ⟨by rw [HB2.out]; rfl, HS.out.2⟩

end Go.Proofs.YthokoimoiamddaaGreatDoor
set_option linter.unusedSimpArgs false
set_option linter.unusedVariables false
namespace Go.Proofs.YthokoimoiamddaaGreatDoor
open Go Go.RowKit Go.ChangeShapes Go.WideShapes Go.Deep Go.Joins

section
variable {H : Type} {enc : TypeId × Value → H} {w : World} {base : Nat} {spare : Nat → Bool} {held : Bool} {n : Nat}

theorem plain_addr {a : Addr} {k : Nat} {cs : List Value} (h : w.cells? base (a.add (0 * k)) k = some cs) (hk : 0 < k) : a = ⟨a.block, a.off, none⟩ := by
  obtain ⟨_, hl, hc⟩ := World.cells?_some h
  have := hc 0 hk
  rw [Nat.zero_mul] at this
  have e : (a.add 0).add 0 = a := by simp [Addr.add]
  rw [e] at this
  rw [List.getElem?_eq_getElem (by omega)] at this
  obtain ⟨b, o, s⟩ := a
  cases s with
  | none => rfl
  | some s => simp [World.cell?] at this; split at this <;> cases this

theorem read_byte {v : Value} {x : DataW H × List MemPlace} (h : DataW.trod enc Tryz.prog w base spare held n 5 [v] = some x) : ∃ b : UInt8, v = byteV b := by
  obtain ⟨k, e0, _, h1⟩ := DataW.trod_int Tryz.underlying5 h
  have h2 : 0 ≤ k ∧ k < 256 := by
    simp [Lit.wf, IntKind.min, IntKind.max, IntKind.signed, IntKind.bits] at h1
    omega
  refine ⟨UInt8.ofNat k.toNat, ?_⟩
  simp at e0
  subst e0
  have e : (UInt8.ofNat k.toNat).toNat = k.toNat := by
    rw [UInt8.toNat_ofNat']
    omega
  unfold byteV
  rw [e, Int.toNat_of_nonneg h2.1]

theorem read_bytes {v : Value} {x : DataW H × List MemPlace} (h : DataW.trod enc Tryz.prog w base spare held n 23 [v] = some x) :
    ∃ A c, ∃ l : List UInt8, v = .slice A l.length c ∧ BytesAt w A l := by
  have hC : Tryz.prog.cellsOf 5 = 1 := by kernel_rfl
  rcases open_slice Tryz.underlying23 h with ⟨hv, _⟩ | ⟨a, len, cap, m, n', D, Pl, hv, hb, hl, hm, hmm, hx, hi⟩
  · simp at hv
    subst hv
    exact ⟨none, 0, [], rfl, fun _ => rfl, fun ad e => by cases e⟩
  · simp at hv
    subst hv
    have hlm : len ≤ m := by rw [hmm]; split <;> omega
    rw [hC] at hi
    have hex : ∀ i, i < len → ∃ b : UInt8, w.cells? base (a.add (i * 1)) 1 = some [byteV b] := by
      intro i hil
      obtain ⟨cs', h1, h2⟩ := hi i (by omega)
      have hl1 := (World.cells?_some h1).2.1
      match cs', hl1 with
      | [v0], _ =>
        obtain ⟨b, rfl⟩ := read_byte h2
        exact ⟨b, h1⟩
    obtain ⟨f, hf⟩ := @choose_lt UInt8 ⟨0⟩ len _ hex
    refine ⟨some a, cap, (List.range len).map f, by simp, fun h => (by cases h), fun ad e j u hu => ?_⟩
    cases e
    have hjl : j < len := by have := (List.getElem?_eq_some_iff.1 hu).1; simpa [byteVs] using this
    have hcells := hf j hjl
    obtain ⟨_, _, hc⟩ := World.cells?_some hcells
    have h0 := hc 0 (by omega)
    have e : u = byteV (f j) := by
      simp [byteVs, List.getElem?_map, List.getElem?_range hjl] at hu
      exact hu.symm
    rw [e]
    have e2 : (a.add (j * 1)).add 0 = a.add j := by simp [Addr.add]
    rw [e2] at h0
    simpa using h0

theorem weight_all {P : Program} {e : TypeId} {d : DataW H} {q : Nat} : ∀ {ds : List (DataW H)}, d ∈ ds → q ∈ d.weights P e → q ∈ DataW.weightsAll P e ds
  | [], h, _ => absurd h (by simp)
  | x :: ds, h, hq => by
    unfold DataW.weightsAll
    rcases List.mem_cons.1 h with rfl | h
    · exact List.mem_append_left _ hq
    · exact List.mem_append_right _ (weight_all h hq)

theorem read_bytes_w {v : Value} {x : DataW H × List MemPlace} (h : DataW.trod enc Tryz.prog w base spare held n 23 [v] = some x) (hw : ∀ q ∈ x.1.weights Tryz.prog 23, q ≤ reachBytes) :
    ∃ A c, ∃ l : List UInt8, v = .slice A l.length c ∧ BytesAt w A l ∧ l.length ≤ 140737488351232 := by
  obtain ⟨A, c, l, rfl, hb⟩ := read_bytes h
  refine ⟨A, c, l, rfl, hb, ?_⟩
  have hB : Tryz.prog.bytesOf 5 = 1 := by kernel_rfl
  rcases open_slice Tryz.underlying23 h with ⟨hv, _⟩ | ⟨a, len, cap, m, n', D, Pl, hv, hb, hl, hm, hmm, hx, hi⟩
  · simp at hv
    rw [hv.2.1]; simp
  · simp at hv
    have h1 := hw ((len + (m - len)) * 1) (by
      rw [hx]
      unfold DataW.weights
      rw [Tryz.underlying23]
      simp [hB])
    unfold reachBytes at h1
    omega

theorem read_rows {v : Value} {x : DataW H × List MemPlace} (h : DataW.trod enc Tryz.prog w base spare held n 22 [v] = some x) :
    ∃ A c, ∃ l : List (List UInt8), v = .slice A l.length c ∧ SlicesAt w A l := by
  have hC : Tryz.prog.cellsOf 23 = 1 := by kernel_rfl
  rcases open_slice Tryz.underlying22 h with ⟨hv, _⟩ | ⟨a, len, cap, m, n', D, Pl, hv, hb, hl, hm, hmm, hx, hi⟩
  · simp at hv
    subst hv
    exact ⟨none, 0, [], rfl, fun i p hp => by simp at hp⟩
  · simp at hv
    subst hv
    have hlm : len ≤ m := by rw [hmm]; split <;> omega
    rw [hC] at hi
    have hex : ∀ i, i < len → ∃ q : List UInt8 × Option Addr × Nat, w.cells? base (a.add (i * 1)) 1 = some [.slice q.2.1 q.1.length q.2.2] ∧ BytesAt w q.2.1 q.1 := by
      intro i hil
      obtain ⟨cs', h1, h2⟩ := hi i (by omega)
      have hl1 := (World.cells?_some h1).2.1
      match cs', hl1 with
      | [v0], _ =>
        obtain ⟨A, c, l, rfl, hb⟩ := read_bytes h2
        exact ⟨⟨l, A, c⟩, h1, hb⟩
    obtain ⟨f, hf⟩ := @choose_lt (List UInt8 × Option Addr × Nat) ⟨([], none, 0)⟩ len _ hex
    refine ⟨some a, cap, (List.range len).map fun i => (f i).1, by simp, fun j p hp => ?_⟩
    have hjl : j < len := by have := (List.getElem?_eq_some_iff.1 hp).1; simpa using this
    have ha := plain_addr (hf 0 (by omega)).1 (by omega)
    obtain ⟨hcells, hby⟩ := hf j hjl
    have e : p = (f j).1 := by
      simp [List.getElem?_map, List.getElem?_range hjl] at hp
      exact hp.symm
    subst e
    rw [ha] at hcells
    obtain ⟨_, _, hc⟩ := World.cells?_some hcells
    have h0 := hc 0 (by omega)
    refine ⟨a.block, a.off, (f j).2.1, (f j).2.2, by rw [← ha], ?_, hby⟩
    have e2 : ((⟨a.block, a.off, none⟩ : Addr).add (j * 1)).add 0 = ⟨a.block, a.off + j, none⟩ := by rw [Addr.add_lit, Addr.add_lit]; simp
    rw [e2] at h0
    simpa using h0

set_option maxRecDepth 100000 in
theorem read_wop {cs : List Value} {x : DataW H × List MemPlace} (h : DataW.trod enc Tryz.prog w base spare held n 73 cs = some x) (hw : ∀ q ∈ x.1.weights Tryz.prog 73, q ≤ reachBytes) :
    ∃ o : WOp, cs = [.int .i64 o.kind, .slice o.A o.p.length o.c, .int .i64 o.n, .int .i64 o.seg] ∧ BytesAt w o.A o.p ∧ (-9223372036854775808 ≤ o.seg ∧ o.seg ≤ 9223372036854775807) ∧ o.p.length ≤ 140737488351232 ∧ -9223372036854775808 ≤ o.n ∧ o.n ≤ 9223372036854775807 := by
  obtain ⟨xs, m, _, hx, hl, hlen, hf⟩ := DataW.trod_struct Tryz.underlying73 h
  have hC : Tryz.prog.cellsOf 73 = 4 := by kernel_rfl
  have c3 : Tryz.prog.cellsOf 3 = 1 := by kernel_rfl
  have c30 : Tryz.prog.cellsOf 23 = 1 := by kernel_rfl
  rw [hC] at hl
  match cs, hl, xs, hlen with
  | [v0, v1, v2, v3], _, [y0, y1, y2, y3], _ =>
    have h0 : DataW.trod enc Tryz.prog w base spare held m 3 (([v0, v1, v2, v3].drop 0).take (Tryz.prog.cellsOf 3)) = some y0 := hf 0 _ rfl
    have h2 : DataW.trod enc Tryz.prog w base spare held m 23 (([v0, v1, v2, v3].drop 1).take (Tryz.prog.cellsOf 23)) = some y1 := hf 1 _ rfl
    have h1 : DataW.trod enc Tryz.prog w base spare held m 3 (([v0, v1, v2, v3].drop 2).take (Tryz.prog.cellsOf 3)) = some y2 := hf 2 _ rfl
    have h3 : DataW.trod enc Tryz.prog w base spare held m 3 (([v0, v1, v2, v3].drop 3).take (Tryz.prog.cellsOf 3)) = some y3 := hf 3 _ rfl
    simp only [c3] at h0 h1 h3
    simp only [c30] at h2
    obtain ⟨k0, e0, _⟩ := DataW.trod_int Tryz.underlying3 h0
    obtain ⟨k3, e3, _, b3⟩ := DataW.trod_int Tryz.underlying3 h3
    obtain ⟨k2, e1, _, b2⟩ := DataW.trod_int Tryz.underlying3 h1
    obtain ⟨A, c, l, e2, hat, hle⟩ := read_bytes_w (v := v1) h2 (fun q hq => hw q (by
      rw [hx]
      unfold DataW.weights
      rw [Tryz.underlying73]
      simp [DataW.weightsEach, hq]))
    simp at e0 e1 e3
    subst e0 e1 e2 e3
    have hb2 : -9223372036854775808 ≤ k2 ∧ k2 ≤ 9223372036854775807 := by
      simp [Lit.wf, IntKind.min, IntKind.max, IntKind.signed, IntKind.bits] at b2
      omega
    have hb : -9223372036854775808 ≤ k3 ∧ k3 ≤ 9223372036854775807 := by
      simp [Lit.wf, IntKind.min, IntKind.max, IntKind.signed, IntKind.bits] at b3
      omega
    exact ⟨⟨k0, A, c, l, k2, k3⟩, rfl, hat, hb, hle, hb2.1, hb2.2⟩

set_option maxRecDepth 100000 in
theorem read_wops {v : Value} {x : DataW H × List MemPlace} (h : DataW.trod enc Tryz.prog w base spare held n 48 [v] = some x) (hw : ∀ q ∈ x.1.weights Tryz.prog 48, q ≤ reachBytes) :
    ∃ A c, ∃ l : List WOp, v = .slice A l.length c ∧ WOps w A l ∧ l.length ≤ 140737488351232 := by
  have hC : Tryz.prog.cellsOf 73 = 4 := by kernel_rfl
  have hB : Tryz.prog.bytesOf 73 = 48 := by kernel_rfl
  rcases open_slice Tryz.underlying48 h with ⟨hv, _⟩ | ⟨a, len, cap, m, n', D, Pl, hv, hb, hl, hm, hmm, hx, hi⟩
  · simp at hv
    subst hv
    exact ⟨none, 0, [], rfl, fun j o h => by simp at h, by simp⟩
  · simp at hv
    subst hv
    have hlm : len ≤ m := by rw [hmm]; split <;> omega
    rw [hC] at hi
    have hw0 := hw ((len + (m - len)) * 48) (by
      rw [hx]
      unfold DataW.weights
      rw [Tryz.underlying48]
      simp [hB])
    have hex : ∀ i, i < len → ∃ o : WOp, w.cells? base (a.add (i * 4)) 4 = some [.int .i64 o.kind, .slice o.A o.p.length o.c, .int .i64 o.n, .int .i64 o.seg] ∧ BytesAt w o.A o.p ∧ (-9223372036854775808 ≤ o.seg ∧ o.seg ≤ 9223372036854775807) ∧ o.p.length ≤ 140737488351232 ∧ -9223372036854775808 ≤ o.n ∧ o.n ≤ 9223372036854775807 := by
      intro i hil
      obtain ⟨cs', h1, h2⟩ := hi i (by omega)
      obtain ⟨o, rfl, h3⟩ := read_wop h2 (fun q hq => hw q (by
        rw [hx]
        unfold DataW.weights
        rw [Tryz.underlying48]
        refine List.mem_cons_of_mem _ (List.mem_append_left _ (weight_all (d := D i) ?_ hq))
        exact List.mem_map.2 ⟨i, List.mem_range.2 hil, rfl⟩))
      exact ⟨o, h1, h3⟩
    obtain ⟨f, hf⟩ := @choose_lt WOp ⟨⟨0, none, 0, [], 0, 0⟩⟩ len _ hex
    refine ⟨some a, cap, (List.range len).map f, by simp, fun j o hj => ?_, by unfold reachBytes at hw0; simp; omega⟩
    have hjl : j < len := by have := (List.getElem?_eq_some_iff.1 hj).1; simpa using this
    have ha := plain_addr (hf 0 (by omega)).1 (by omega)
    have hjf : o = f j := by
      rw [List.getElem?_map, List.getElem?_range hjl] at hj
      simpa using hj.symm
    subst hjf
    obtain ⟨hcells, hrest⟩ := hf j hjl
    rw [ha] at hcells
    obtain ⟨_, _, hc⟩ := World.cells?_some hcells
    have e : ∀ i, ((⟨a.block, a.off, none⟩ : Addr).add (j * 4)).add i = ⟨a.block, a.off + j * 4 + i, none⟩ := fun i => by rw [Addr.add_lit, Addr.add_lit]
    refine ⟨a.block, a.off, by rw [← ha], ?_, ?_, ?_, ?_, hrest⟩
    · have := hc 0 (by omega); rw [e] at this; simpa using this
    · have := hc 1 (by omega); rw [e] at this; simpa using this
    · have := hc 2 (by omega); rw [e] at this; simpa using this
    · have := hc 3 (by omega); rw [e] at this; simpa using this
theorem read_int {v : Value} {x : DataW H × List MemPlace} (h : DataW.trod enc Tryz.prog w base spare held n 3 [v] = some x) : ∃ k : Int, v = .int .i64 k ∧ -9223372036854775808 ≤ k ∧ k ≤ 9223372036854775807 := by
  obtain ⟨k, e0, _, h1⟩ := DataW.trod_int Tryz.underlying3 h
  simp at e0
  refine ⟨k, e0, ?_⟩
  simp [Lit.wf, IntKind.min, IntKind.max, IntKind.signed, IntKind.bits] at h1
  omega
end
end Go.Proofs.YthokoimoiamddaaGreatDoor
set_option linter.unusedSimpArgs false
set_option linter.unusedVariables false
namespace Go.Proofs.YthokoimoiamddaaGreatDoor
open Go Go.RowKit

/-- Bytes that lie in no block of the disk. -/
def HeldB (w : World) (s : St) (A : Option Addr) (p : List UInt8) : Prop := BytesAt w A p ∧ ∀ ad, A = some ad → p ≠ [] → ¬ s.own ad.block
/-- Rows of bytes that lie in no block of the disk. -/
def HeldR (w : World) (s : St) (A : Option Addr) (l : List (List UInt8)) : Prop := ∀ i p, l[i]? = some p → ∃ g off A' c', A = some ⟨g, off, none⟩ ∧ w.cell? ⟨g, off + i, none⟩ = some (.slice A' p.length c') ∧ ¬ s.own g ∧ HeldB w s A' p ∧ ∃ cur, w.heap[g]? = some (.cells cur 23 (0, 0))
section
variable {base g B safe j q n : Nat} {w w' : World} {nm : ByteArray} {s s' : St} {vo v : Vw} {ko : List ByteArray} {f : Fnd} {A : Option Addr} {p : List UInt8} {l : List (List UInt8)}
theorem HeldR.slices (h : HeldR w s A l) : SlicesAt w A l := fun i p hp => by
  obtain ⟨g, off, A', c', e, hc, _, hb, _⟩ := h i p hp
  exact ⟨g, off, A', c', e, hc, hb.1⟩
theorem HeldR.nil (w : World) (s : St) (A : Option Addr) : HeldR w s A [] := fun i p hp => by simp at hp
theorem HeldB.nil (w : World) (s : St) : HeldB w s none [] := ⟨bytes_none w, fun ad e => by cases e⟩
theorem HeldR.take (h : HeldR w s A l) (k : Nat) : HeldR w s A (l.take k) := fun i p hp => by
  rw [List.getElem?_take] at hp
  split at hp
  · exact h i p hp
  · cases hp
theorem bytes_lt {ad : Addr} (h : BytesAt w (some ad) p) (hp : p ≠ []) : ad.block < w.heap.size := by
  cases p with
  | nil => exact absurd rfl hp
  | cons b bs =>
    have := World.block_lt_of_cell? w _ (h.2 ad rfl 0 (byteV b) rfl)
    have e : (ad.add 0).block = ad.block := by simp [Addr.add]
    rw [e] at this
    exact this
/-- What turns no block but the disk's own, the log's, and lays new ones. -/
structure Lets (g : Nat) (s s' : St) (w w' : World) : Prop where
  block : ∀ h, h < w.heap.size → ¬ s.own h → h ≠ g → w'.heap[h]? = w.heap[h]?
  own : ∀ h, s'.own h → s.own h ∨ w.heap.size ≤ h
theorem WFr.lets (h : WFr g s s' w w') : Lets g s s' w w' := ⟨h.block, h.own⟩
theorem Frame.lets (h : Frame s s' w w') : Lets g s s' w w' := ⟨fun x hx ho _ => h.block x hx ho, h.own⟩
theorem Below.lets (h : Below w.heap.size w w') : Lets g s s w w' := ⟨fun x hx _ _ => h.block x hx, fun x hx => .inl hx⟩
theorem log_cell {cs : Array Value} (hg : w.heap[g]? = some (.cells cs 63 (0, 0))) {x : Nat} {cur : Array Value} {ty : TypeId} (hx : w.heap[x]? = some (.cells cur ty (0, 0))) (ht : ty ≠ 63) : x ≠ g := by
  intro e
  subst e
  rw [hg] at hx; injection hx with e; injection e with _ e2 _; exact ht e2.symm
theorem LogAt.no_slice {seg file size count safe : Nat} (h : LogAt w g B nm seg file size count safe) {i : Nat} {A' : Option Addr} {m c : Nat} : w.cell? ⟨g, i, none⟩ ≠ some (.slice A' m c) := by
  have h' : w.heap[g]? = some (.cells #[.pointer (some ⟨B, 0, none⟩), .string nm, .int .i64 seg, .int .i64 file, .int .i64 size, .int .i64 count, .int .i64 safe] 63 (0, 0)) := h
  intro hc
  simp only [World.cell?, h'] at hc
  match i, hc with
  | 0, hc => simp at hc
  | 1, hc => simp at hc
  | 2, hc => simp at hc
  | 3, hc => simp at hc
  | 4, hc => simp at hc
  | 5, hc => simp at hc
  | 6, hc => simp at hc
  | i + 7, hc => simp at hc
theorem Lg.logAt (h : Lg base w g B nm s vo ko f safe j q) : ∃ seg file size count sf, LogAt w g B nm seg file size count sf := by
  obtain ⟨seg, file, size, v, t, n, ns, sa, lo, h, hp⟩ := h
  exact ⟨_, _, _, _, _, h.lg⟩
theorem HeldB.lets (h : HeldB w s A p) (hf : Lets g s s' w w') (hl : ∃ seg file size count sf, LogAt w g B nm seg file size count sf) : HeldB w' s' A p := by
  obtain ⟨seg, file, size, count, sf, hl⟩ := hl
  refine ⟨⟨h.1.1, fun ad e j u hu => ?_⟩, fun ad e hp ho => ?_⟩
  · subst e
    cases p with
    | nil => simp [byteVs] at hu
    | cons b bs =>
      have hne := h.1.no_log hl
      have hc := h.1.2 ad rfl j u hu
      have e3 : (ad.add j).block = ad.block := by unfold Addr.add; split <;> rfl
      exact (World.cell?_of_block (w := w) (hf.block _ (World.block_lt_of_cell? w _ hc) (by rw [e3]; exact h.2 ad rfl (by simp)) (by rw [e3]; exact hne))).trans hc
  · subst e
    have hlt := bytes_lt h.1 hp
    rcases hf.own _ ho with h1 | h1
    · exact h.2 ad rfl hp h1
    · omega
theorem HeldR.lets (h : HeldR w s A l) (hf : Lets g s s' w w') (hl : ∃ seg file size count sf, LogAt w g B nm seg file size count sf) : HeldR w' s' A l := fun i p hp => by
  obtain ⟨b, off, A', c', e, hc, ho, hb, cur, hcur⟩ := h i p hp
  obtain ⟨seg, file, size, count, sf, hla⟩ := id hl
  have hlt := World.block_lt_of_cell? w _ hc
  have hne : b ≠ g := fun e2 => by
    subst e2
    exact hla.no_slice hc
  refine ⟨b, off, A', c', e, (World.cell?_of_block (w := w) (hf.block b hlt ho hne)).trans hc, fun h2 => ?_, hb.lets hf hl, cur, (hf.block b hlt ho hne).trans hcur⟩
  · rcases hf.own _ h2 with h3 | h3
    · exact ho h3
    · exact absurd hlt (by simp only at h3 ⊢; omega)
/-- .. where no log is at hand (a crash, an Open). -/
theorem HeldB.frame (h : HeldB w s A p) (hf : Frame s s' w w') : HeldB w' s' A p := by
  refine ⟨⟨h.1.1, fun ad e j u hu => ?_⟩, fun ad e hp ho => ?_⟩
  · subst e
    cases p with
    | nil => simp [byteVs] at hu
    | cons b bs =>
      have hc := h.1.2 ad rfl j u hu
      have e3 : (ad.add j).block = ad.block := by unfold Addr.add; split <;> rfl
      exact (World.cell?_of_block (w := w) (hf.block _ (World.block_lt_of_cell? w _ hc) (by rw [e3]; exact h.2 ad rfl (by simp)))).trans hc
  · subst e
    have hlt := bytes_lt h.1 hp
    rcases hf.own _ ho with h1 | h1
    · exact h.2 ad rfl hp h1
    · omega
theorem HeldR.frame (h : HeldR w s A l) (hf : Frame s s' w w') : HeldR w' s' A l := fun i p hp => by
  obtain ⟨b, off, A', c', e, hc, ho, hb, cur, hcur⟩ := h i p hp
  have hlt := World.block_lt_of_cell? w _ hc
  refine ⟨b, off, A', c', e, (World.cell?_of_block (w := w) (hf.block b hlt ho)).trans hc, fun h2 => ?_, hb.frame hf, cur, (hf.block b hlt ho).trans hcur⟩
  rcases hf.own _ h2 with h3 | h3
  · exact ho h3
  · exact absurd hlt (by simp only at h3 ⊢; omega)
theorem HeldB.below (h : HeldB w s A p) (hb : Below w.heap.size w w') : HeldB w' s A p := h.frame (Frame.of_below hb)
theorem HeldR.below (h : HeldR w s A l) (hb : Below w.heap.size w w') : HeldR w' s A l := h.frame (Frame.of_below hb)
/-- What was handed in lies below the disk. -/
theorem HeldB.old {w0 : World} (h : BytesAt w0 A p) (hb : Below w0.heap.size w0 w) (ho : ∀ x, s.own x → w0.heap.size ≤ x) : HeldB w s A p := by
  refine ⟨h.below hb, fun ad e hp h2 => ?_⟩
  subst e
  have := bytes_lt h hp
  have := ho _ h2
  omega
theorem FndAt.heldR {lo b : Nat} {SV : Value} {A : Option Addr} {n c : Nat} {vs : List Value} (h : FndAt w s lo b f SV A n c vs) : HeldR w s A f.recs := fun i p hp => by
  have hi : i < vs.length := by
    have h1 := (List.getElem?_eq_some_iff.1 hp).1
    have h2 := h.len
    have h3 := h.row.1
    omega
  have hv : vs[i]? = some vs[i] := List.getElem?_eq_getElem hi
  obtain ⟨g, rfl, _, hc, _, hlt⟩ := own_cell h.row hv
  obtain ⟨A', c', e, hb, ho⟩ := (h.each i _ p hv hp).bytes
  rw [e] at hc
  refine ⟨g, 0, A', c', rfl, by rw [Nat.zero_add]; exact hc, h.off g rfl, ⟨hb, fun ad e2 _ => (ho ad e2).2.1⟩, (own_block h.row rfl).choose, (own_block h.row rfl).choose_spec.1⟩
theorem FndAt.heldS {lo b : Nat} {sA : Option Addr} {m sc : Nat} {A : Option Addr} {n c : Nat} {vs : List Value} (h : FndAt w s lo b f (.slice sA m sc) A n c vs) : HeldB w s sA f.shot := by
  rcases h.snap with ⟨h1, h2⟩ | h1
  · injection h1 with e1 e2 e3
    rw [e1, h2]
    exact HeldB.nil w s
  · obtain ⟨A', c', e, hb, ho⟩ := h1.bytes
    injection e with e1 e2 e3
    subst e1
    exact ⟨hb, fun ad e2 _ => (ho ad e2).2.1⟩
end
end Go.Proofs.YthokoimoiamddaaGreatDoor
set_option linter.unusedSimpArgs false
set_option linter.unusedVariables false
namespace Go.Proofs.YthokoimoiamddaaGreatDoor
open Go Go.RowKit

/-- A slice of numbers of one byte each, in memory that is not the disk's. -/
def NumM (w : World) (s : St) (lo : Nat) (v : Value) (n : Nat) : Prop :=
  ∃ (a off cap : Nat) (cur : Array Value), v = .slice (some ⟨a, off, none⟩) n cap ∧ ¬ s.own a ∧ lo ≤ a ∧ w.heap[a]? = some (.cells cur 5 (0, 0)) ∧ ∀ i, i < n → ∃ x : Int, cur[off + i]? = some (.int .u8 x)
section
variable {base g B safe j q n lo b : Nat} {w w' : World} {nm : ByteArray} {s s' : St} {vo v : Vw} {ko : List ByteArray} {f : Fnd} {A : Option Addr} {p : List UInt8} {l : List (List UInt8)}
theorem RecM.num {x : Value} (h : RecM w s lo x p) : NumM w s lo x p.length := by
  obtain ⟨a, off, cap, cur, h1, h2, h3, h4, h5⟩ := h
  refine ⟨a, off, cap, cur, h1, h2, h3, h4, fun i hi => ?_⟩
  exact ⟨_, h5 i _ (List.getElem?_eq_getElem hi)⟩
theorem NumM.cell {A : Option Addr} {n c : Nat} (h : NumM w s lo (.slice A n c) n) {i : Nat} (hi : i < n) : ∃ (a off : Nat) (x : Int), A = some ⟨a, off, none⟩ ∧ lo ≤ a ∧ ¬ s.own a ∧ w.cell? ⟨a, off + i, none⟩ = some (.int .u8 x) ∧ w.frozen? ⟨a, off + i, none⟩ = false ∧ ∃ cur, w.heap[a]? = some (.cells cur 5 (0, 0)) := by
  obtain ⟨a, off, cap, cur, h1, h2, h3, h4, h5⟩ := h
  injection h1 with e1 e2 e3
  obtain ⟨x, hx⟩ := h5 i hi
  exact ⟨a, off, x, e1, h3, h2, by simp [World.cell?, h4, hx], by simp [World.frozen?, h4], cur, h4⟩
/-- A byte is written, wherever. -/
theorem NumM.set {x : Value} {n : Nat} (h : NumM w s lo x n) {a i : Nat} {cur : Array Value} (ha : w.heap[a]? = some (.cells cur 5 (0, 0))) (y : Int) : NumM (w.setCell ⟨a, i, none⟩ (.int .u8 y)) s lo x n := by
  obtain ⟨a1, off, cap, c1, h1, h2, h3, h4, h5⟩ := h
  by_cases e : a1 = a
  · subst e
    rw [ha] at h4; injection h4 with e; injection e with e1 _ _
    subst e1
    refine ⟨a1, off, cap, _, h1, h2, h3, set_one ha i (.int .u8 y), fun k hk => ?_⟩
    rw [Array.getElem?_setIfInBounds]
    obtain ⟨x, hx⟩ := h5 k hk
    split
    · rename_i e
      have hlt : i < cur.size := by rw [e]; exact (Array.getElem?_eq_some_iff.1 hx).1
      rw [if_pos hlt]
      exact ⟨y, rfl⟩
    · exact ⟨x, hx⟩
  · exact ⟨a1, off, cap, c1, h1, h2, h3, ((Touch.set w a i (.int .u8 y)).block a1 fun e2 => e (Option.some.inj e2).symm).trans h4, h5⟩
/-- What was found, in a box of its own; its bytes whatever they are. -/
structure Fl (w : World) (s : St) (lo b : Nat) (sA : Option Addr) (sn sc : Nat) (A : Option Addr) (n c : Nat) (vs : List Value) : Prop where
  blk : w.heap[b]? = some (.cells #[.bool true, .slice sA sn sc, .slice A n c] 29 (0, 0))
  row : w.ownsRow lo 23 1 (.slice A n c) n vs
  snap : sn = 0 ∨ NumM w s lo (.slice sA sn sc) sn
  each : ∀ (i : Nat) (v : Value), vs[i]? = some v → ∃ k, k ≤ 1000000 ∧ NumM w s lo v k
theorem FndAt.fl {lo b b2 : Nat} {sA : Option Addr} {sc : Nat} {A : Option Addr} {n c : Nat} {vs : List Value} (h : FndAt w s lo b f (.slice sA f.shot.length sc) A n c vs) (hw : f.whole = true) (hlen : ∀ x ∈ f.recs, x.length ≤ 1000000)
    (hb : w'.heap[b2]? = some (.cells #[.bool true, .slice sA f.shot.length sc, .slice A n c] 29 (0, 0))) (hk : Below w.heap.size w w') : Fl w' s lo b2 sA f.shot.length sc A n c vs := by
  have hn : ∀ x k, NumM w s lo x k → NumM w' s lo x k := fun x k ⟨a, off, cap, cur, h1, h2, h3, h4, h5⟩ => ⟨a, off, cap, cur, h1, h2, h3, (hk.block a (Array.getElem?_eq_some_iff.1 h4).1).trans h4, h5⟩
  refine ⟨hb, ownsRow_keep h.row fun k hk2 => hk.block k (own_block h.row hk2).choose_spec.2.2, ?_, fun i x hx => ?_⟩
  · rcases h.snap with ⟨h1, h2⟩ | h1
    · left; rw [h2]; rfl
    · exact .inr (hn _ _ h1.num)
  · have hi : i < f.recs.length := by
      have h1 := (List.getElem?_eq_some_iff.1 hx).1
      have h2 := h.len
      have h3 := h.row.1
      omega
    exact ⟨_, hlen _ (List.getElem_mem hi), hn _ _ (h.each i x _ hx (List.getElem?_eq_getElem hi)).num⟩
theorem Fl.set {sA : Option Addr} {sn sc : Nat} {A : Option Addr} {n c : Nat} {vs : List Value} (h : Fl w s lo b sA sn sc A n c vs) {a i : Nat} {cur : Array Value} (ha : w.heap[a]? = some (.cells cur 5 (0, 0))) (y : Int) : Fl (w.setCell ⟨a, i, none⟩ (.int .u8 y)) s lo b sA sn sc A n c vs := by
  have ht := Touch.set w a i (.int .u8 y)
  have hty : ∀ (x : Nat) (cur2 : Array Value) (ty : TypeId), w.heap[x]? = some (.cells cur2 ty (0, 0)) → ty ≠ 5 → some a ≠ some x := fun x cur2 ty hx hne e => by
    cases e
    rw [ha] at hx; injection hx with e; injection e with _ e2 _; exact hne e2.symm
  refine ⟨(ht.block b (hty b _ _ h.blk (by decide))).trans h.blk, ownsRow_keep h.row fun k hk => ?_, h.snap.imp id fun h2 => h2.set ha y, fun k x hx => (h.each k x hx).imp fun m h2 => ⟨h2.1, h2.2.set ha y⟩⟩
  obtain ⟨cur2, hc, _⟩ := own_block h.row hk
  exact ht.block k (hty k _ _ hc (by decide))
theorem Fl.drew {sA : Option Addr} {sn sc : Nat} {A : Option Addr} {n c : Nat} {vs : List Value} (h : Fl w s lo b sA sn sc A n c vs) (hk : Below w.heap.size w w') : Fl w' s lo b sA sn sc A n c vs := by
  have hn : ∀ x k, NumM w s lo x k → NumM w' s lo x k := fun x k ⟨a, off, cap, cur, h1, h2, h3, h4, h5⟩ => ⟨a, off, cap, cur, h1, h2, h3, (hk.block a (Array.getElem?_eq_some_iff.1 h4).1).trans h4, h5⟩
  exact ⟨(hk.block b (Array.getElem?_eq_some_iff.1 h.blk).1).trans h.blk, ownsRow_keep h.row fun k hk2 => hk.block k (own_block h.row hk2).choose_spec.2.2, h.snap.imp id (hn _ _), fun k x hx => (h.each k x hx).imp fun m h2 => ⟨h2.1, hn _ _ h2.2⟩⟩
theorem NumM.down {lo2 : Nat} {x : Value} {n : Nat} (h : NumM w s lo x n) (hl : lo2 ≤ lo) : NumM w s lo2 x n := by
  obtain ⟨a, off, cap, cur, h1, h2, h3, h4, h5⟩ := h
  exact ⟨a, off, cap, cur, h1, h2, Nat.le_trans hl h3, h4, h5⟩
theorem Fl.down {lo2 : Nat} {sA : Option Addr} {sn sc : Nat} {A : Option Addr} {n c : Nat} {vs : List Value} (h : Fl w s lo b sA sn sc A n c vs) (hl : lo2 ≤ lo) : Fl w s lo2 b sA sn sc A n c vs :=
  ⟨h.blk, ownsRow_down h.row hl, h.snap.imp id fun h2 => h2.down hl, fun i v hv => (h.each i v hv).imp fun k h2 => ⟨h2.1, h2.2.down hl⟩⟩
theorem Lg.set (h : Lg base w g B nm s vo ko f safe j q) {a i : Nat} (u : Value) (h1 : ¬ s.own a) (h2 : a ≠ g) (h3 : base ≤ a) : Lg base (w.setCell ⟨a, i, none⟩ u) g B nm s vo ko f safe j q := by
  have ht := Touch.set w a i u
  have hten : 1 < base := by
    obtain ⟨_, _, _, _, _, _, _, _, _, hk, _⟩ := h
    exact hk.ten
  refine h.keepG (fun x hx hc => ht.block x fun e => ?_) (by rw [ht.size]; exact Nat.le_refl _)
  cases e
  rcases hc with hc | hc | hc
  · exact h1 hc
  · exact h2 hc
  · omega
theorem LgD.set (h : LgD base w B nm s vo ko f j) {a i : Nat} (u : Value) (h1 : ¬ s.own a) (h3 : base ≤ a) : LgD base (w.setCell ⟨a, i, none⟩ u) B nm s vo ko f j := by
  have ht := Touch.set w a i u
  have hten := h.owns.2.2
  refine h.keepG (fun x hx hc => ht.block x fun e => ?_) (by rw [ht.size]; exact Nat.le_refl _)
  cases e
  rcases hc with hc | hc
  · exact h1 hc
  · omega
end
end Go.Proofs.YthokoimoiamddaaGreatDoor
