/-
  disk: maps.Keys at string keys, against a map that is known exactly. Own work (after XNetKeys).
  disk: what the laws want: Bytes, an Append that goes through, sums over the files. Own work.
  disk: a disk as names with bytes and loose pieces; each call as a step on it. Own work.
-/
import Derived.Test.YthokoimoiamddaaGreatDoorDiskCrash2
import Derived.Sort.EncStr
import Derived.RangeFuncNested
import Derived.RangeFuncBound
import Derived.RangeFuncCalls
import Derived.RangeFuncLeaves
import Derived.RangeFuncBox
import Derived.Shelf.Abstract
import Derived.Shelf.RegionOpen
import Derived.WalkKit
import Derived.OwnWalkIn
import Derived.TacticsInMore
import Derived.LoopNIn
import Derived.LoopIn
import Derived.Maps.AppendAt
import Derived.Laws.IdiomStrings
import Derived.Lib.BufferRead
import Derived.WalkSpells
set_option linter.unusedSimpArgs false
set_option linter.unusedVariables false
namespace Go.Proofs.YthokoimoiamddaaGreatDoor
open Go Go.RowKit

section
variable {F : Fence} {n : Nat} {P : Program} (w : World) {ops : Array Oper} {rest : List Oper} {o : Oper} {a : Act} {Q : Exit → Act → World → Prop} {κ : Type} {kv : κ → Value} {b c r : Nat} {L dn : List (MEnt κ)}
theorem wpListIn_range_at (hg : o.guard = none) (m : Operand) (t : TypeId) (hop : o.op = Op.range t m) (k e : TypeId) (ht : P.underlying t = some (.map k e)) (hm : a.eval m = .map (some b)) (h : MapAt kv w b L c) (hw : MWf L c)
    (hK : ∀ w', IterAt kv w' b w.heap.size L c [] → w.grownBy w' none → w'.heap.size = w.heap.size + 1 → wpListIn F n P ops Q rest (a.put o.dst (.pointer (some ⟨w.heap.size, 0, none⟩))) w') :
    wpListIn F n P ops Q (o :: rest) a w := by
  refine wpListIn_plain hg fun K' hK' => ?_
  obtain ⟨hrun, hit⟩ := run_range_at (P := P) ht h hw
  unfold Oper.wpIn
  refine ⟨?_, ?_⟩
  · simp [Oper.about, hop]
  · rw [Oper.semAt_plain F _ _ (by rw [hop]; intro c hc'; cases hc')]
    simp [execOp, hop, hm, hrun, Result.andThen]
    exact hK' _ _ (hK _ hit (World.grownBy_alloc w _ none) (by simp))

theorem wpListIn_next_at (hg : o.guard = none) (it : Operand) (hop : o.op = Op.next it false) (hit : a.eval it = .pointer (some ⟨r, 0, none⟩)) (h : IterAt kv w b r L c dn)
    (hDone : dn.Perm L → wpListIn F n P ops Q rest (a.put o.dst (.tuple #[.bool false])) w)
    (hMore : ∀ e ∈ L, e ∉ dn → ∀ w', IterAt kv w' b r L c (dn ++ [e]) → w.grownBy w' (some r) → w'.heap.size = w.heap.size →
      (Instr.entry (.pointer (some ⟨r, 0, none⟩))).run P w' = .ok (.tuple #[kv e.k, e.v]) w' → wpListIn F n P ops Q rest (a.put o.dst (.tuple #[.bool true, kv e.k, e.v])) w') :
    wpListIn F n P ops Q (o :: rest) a w := by
  refine wpListIn_plain hg fun K' hK' => ?_
  unfold Oper.wpIn
  refine ⟨by simp [Oper.about, hop], ?_⟩
  rw [Oper.semAt_plain F _ _ (by rw [hop]; intro c hc'; cases hc')]
  rcases run_next_it (P := P) h o.type with ⟨hp, hrun⟩ | ⟨e, he, hnd, w', hrun, h1, h2, h3, h4⟩
  · simp [execOp, hop, hit, hrun, Result.andThen]
    exact hK' _ _ (hDone hp)
  · simp [execOp, hop, hit, hrun, Result.andThen]
    exact hK' _ _ (hMore e he hnd w' h1 h2 h3 h4)
end

theorem IterAt.walks {κ : Type} {kv : κ → Value} {w w' : World} {b r c : Nat} {L dn : List (MEnt κ)} (h : IterAt kv w b r L c dn) (hk : KeepsWalks w w') : IterAt kv w' b r L c dn :=
  ⟨hk.same b _ h.1 rfl, h.2.1, hk.same r _ h.2.2.1 rfl, h.2.2.2⟩

/-- A key as the list of its bytes. -/
def keyB (e : MEnt ByteArray) : List UInt8 := e.k.data.toList
theorem encStr_key (e : MEnt ByteArray) : encStr (keyB e) = Value.string e.k := by simp [encStr, keyB]

set_option maxRecDepth 100000 in
set_option maxHeartbeats 1000000 in
theorem dkeys1_in (F : Fence) (n : Nat) (hf : F.fn 57) (hro : F.round = none) (hn : 1 ≤ n) (l Bm b c : Nat) (L : List (MEnt ByteArray)) (J : List (List UInt8) → World → Prop)
    (hY : ∀ pre x W, J pre W → pre.length < L.length → YieldAt F (n - 1) Tryz.prog l #[encStr x] W fun e W' => e = .returned (.bool true) ∧ J (pre ++ [x]) W' ∧ KeepsWalks W W')
    (W : World) (hJ : AbidesFrom W.heap.size J) (hm : W.cell? ⟨Bm, 0, none⟩ = some (.map (some b))) (hat : MapAt Value.string W b L c) (hwf : MWf L c) (h0 : J [] W) :
    CallsIn F n Tryz.prog 57 #[.func (.yield l) #[] #[], .pointer (some ⟨Bm, 0, none⟩)] W fun e W' => (∃ v, e = .returned v) ∧
      ∃ ss : List (List UInt8), ss.Perm (L.map keyB) ∧ J ss W' := by
  refine callsIn_of_wp Tryz.func57 rfl hf ?_ hro
  simp only [Tryz.ntmps57, List.size_toArray, List.length_cons, List.length_nil, Nat.reduceAdd, Nat.reduceSub, Array.replicate_succ, Array.replicate_zero, List.push_toArray, List.append_toArray, List.nil_append, List.cons_append]
  gi_wp2_with (first
    | (gi_at_range; refine wpListIn_range_at _ rfl _ 58 rfl 9 80 Tryz.underlying58 rfl hat hwf ?_; intro w0 hrg0 hg0 hs0)
    | gi_in)
  go_frame
  gi_loopw [3] (fun _ wr => ∃ (dn : List (MEnt ByteArray)), IterAt Value.string wr b W.heap.size L c dn ∧ J (dn.map keyB) wr ∧ W.heap.size ≤ wr.heap.size)
    (fun _ wr => iterLeft W.heap.size L.length wr)
  case atStart =>
    exact ⟨[], hrg0, hJ [] W w0 none h0 hg0 (fun r e => by cases e), hg0.size⟩
  case round =>
    obtain ⟨dn, hrg, hJs, hsz⟩ := hrel
    gi_wp2_with (first
      | (gi_at_next; refine wpListIn_next_at _ rfl _ rfl rfl hrg ?_ ?_)
      | gi_in)
    · intro hp
      gi_wp2
      go_end0
      exact ⟨⟨_, rfl⟩, dn.map keyB, hp.map _, hJs⟩
    · intro e he hnd w2 hrg2 hg2 hs2 hen
      have hle2 := hrg2.le
      have hJ2 : J (dn.map keyB) w2 := hJ _ wr w2 (some W.heap.size) hJs hg2 (fun r e => by cases e; exact ⟨Nat.le_refl _, hrg.walk⟩)
      have hek := encStr_key e
      obtain ⟨fn, tmps, assign, body, hy, hR⟩ := hY (dn.map keyB) (keyB e) _ hJ2 (by simp at hle2 ⊢; omega)
      rw [hek] at hy
      have hsz3 : W.heap.size ≤ w2.heap.size := by omega
      clear hs2 hek
      gi_wp2
      refine hR.mono ?_
      rintro e' W3 ⟨rfl, hJ4, hk3⟩
      gi_wp2
      have hrg4 := hrg2.walks hk3
      go_roundw
      case rel => exact ⟨_, hrg4, by simpa using hJ4, Nat.le_trans hsz3 hk3.size⟩
      case measure => rw [hrg4.left, hrg.left]; simp at hle2 ⊢; omega

theorem dkeys_gives (F : Fence) (n : Nat) (hf : F.fn 57) (hro : F.round = none) (hn : 1 ≤ n) (Bm b c : Nat) (L : List (MEnt ByteArray)) (w : World) (hBm : Bm < w.heap.size)
    (hm : w.cell? ⟨Bm, 0, none⟩ = some (.map (some b))) (hat : MapAt Value.string w b L c) (hwf : MWf L c) :
    SeqGives F n Tryz.prog 57 #[.pointer (some ⟨Bm, 0, none⟩)] encStr (fun ss => ss.Perm (L.map keyB)) L.length w := fun l J W hW hJ hY h0 =>
  dkeys1_in F n hf hro hn l Bm b c L J hY W hJ ((hW.cell (p := ⟨Bm, 0, none⟩) hBm).trans hm) ((hW.block b hat.lt).trans hat) hwf h0
end Go.Proofs.YthokoimoiamddaaGreatDoor
set_option linter.unusedSimpArgs false
set_option linter.unusedVariables false
namespace Go.Proofs.YthokoimoiamddaaGreatDoor
open Go Go.RowKit

theorem conv_bytes (A : Option Addr) (bs : List UInt8) (c : Nat) (w : World) (h : BytesAt w A bs) : (convert 23 9 (.slice A bs.length c)).run Tryz.prog w = .ok (.string ⟨bs.toArray⟩) w := by
  cases A with
  | none =>
    have h0 := h.1 rfl
    rw [h0, List.eq_nil_of_length_eq_zero h0]
    exact Lib.run_convert_nil_bytes w _ _ _ c Tryz.underlying23 Tryz.underlying5 Tryz.underlying9
  | some ad =>
    refine run_convert_bytes_back w _ _ _ ad c bs Tryz.underlying23 Tryz.underlying5 Tryz.underlying9 fun j hj => ?_
    exact h.2 ad rfl j _ (by simp [byteVs, byteV, hj])

theorem bytes_any (A A' : Option Addr) (bs bs' : List UInt8) (c c' : Nat) (w : World) (h : BytesAt w A bs) (h' : BytesAt w A' bs') :
    Calls Tryz.prog 14 #[.slice A bs.length c, .slice A' bs'.length c'] w fun e w' => e = .returned (.bool (decide (bs = bs'))) ∧ w = w' := by
  have e1 := conv_bytes A bs c w h
  have e2 := conv_bytes A' bs' c' w h'
  go_enter Tryz.func14, Tryz.ntmps14
  go_wp2
  go_ret
  exact ⟨congrArg (fun b => Ending.returned (.bool b)) (by rw [Bool.eq_iff_iff]; simp), rfl⟩

theorem BytesAt.of_own {w : World} {base : Nat} {A : Option Addr} {n c : Nat} {bs : List UInt8} (h : w.ownsRow base 5 1 (.slice A n c) n (byteVs bs)) : BytesAt w A bs := by
  have hl : bs.length = n := by have := h.1; simpa [byteVs] using this
  rcases h.2 with ⟨hv, hn⟩ | ⟨g, cap, cur, hv, hb, hh, h1, h2, h3, h4⟩
  · injection hv with hA _ _
    subst hA
    exact ⟨fun _ => (by omega), fun ad e => (by cases e)⟩
  · injection hv with hA _ _
    subst hA
    refine ⟨fun e => (by cases e), fun ad e j u hu => ?_⟩
    cases e
    have hj : j < bs.length := by have := (List.getElem?_eq_some_iff.1 hu).1; simpa [byteVs] using this
    have e2 : w.cell? ⟨g, j, none⟩ = cur[j]? := by simp [World.cell?, hh]
    rw [Addr.add_lit, Nat.zero_add, e2, ← hu, ← h4, List.getElem?_take, if_pos (by omega)]; simp

/-- Bytes written out, in a new block. -/
theorem newbytes (w : World) (bs : List UInt8) : BytesAt (w.alloc (.cells (byteVs bs).toArray 5)) (some ⟨w.heap.size, 0, none⟩) bs := by
  refine ⟨fun h => (by cases h), fun ad e j u hu => ?_⟩
  cases e
  rw [Addr.add_lit, Nat.zero_add]
  have hh := heap_alloc_new w (.cells (byteVs bs).toArray 5)
  have : (w.alloc (.cells (byteVs bs).toArray 5)).cell? ⟨w.heap.size, j, none⟩ = (byteVs bs).toArray[j]? := by unfold World.cell?; simp only; rw [hh]; rfl
  rw [this]; simpa using hu

theorem append_ok (base : Nat) (s : St) (k : ByteArray) (A : Option Addr) (n c : Nat) (bs : List UInt8) (hbn : bs.length = n) (w : World) (hd : DiskAt base w s) (hlow : base ≤ w.heap.size) (hk : k.size ≤ 4611686018427387904) (hA : BytesAt w A bs) (hT : s.turn ≤ 4611686018427387904) (happ : appE s k n = none) :
    Calls Tryz.prog 48 #[.pointer (some ⟨s.B, 0, none⟩), .string k, .slice A n c] w fun e w' => e = .returned .nilIface ∧ ∃ s', AppOK base s k bs w s' w' := by
  refine (append_any base s k A n c bs hbn w hd hlow hk hA hT).mono ?_
  rintro e w' ⟨rfl, h⟩
  rw [happ] at h ⊢
  rcases h with ⟨h, _⟩ | ⟨_, h⟩
  · exact absurd rfl h
  · exact ⟨rfl, h⟩

section
variable {base : Nat} {w : World} {s : St}
/-- The map's keys are just the files' names. -/
theorem DiskAt.keys_iff (h : DiskAt base w s) (k : ByteArray) : k ∈ s.L.map MEnt.k ↔ (s.R k).isSome = true := by
  constructor
  · intro hk
    obtain ⟨e, he, rfl⟩ := List.mem_map.1 hk
    obtain ⟨r, hr, _⟩ := h.mem he
    rw [hr]; rfl
  · intro hk
    cases hr : s.R k with
    | none => rw [hr] at hk; cases hk
    | some r =>
      have h8 := h.lk k
      rw [hr] at h8
      obtain ⟨e, he, hk, _⟩ := lkV_mem h8
      exact List.mem_map.2 ⟨e, he, hk⟩
theorem DiskAt.keys_perm (h : DiskAt base w s) {ks : List ByteArray} (hn : ks.Nodup) (hi : ∀ k, k ∈ ks ↔ (s.R k).isSome = true) : (s.L.map MEnt.k).Perm ks :=
  (List.perm_ext_iff_of_nodup h.wf.keys hn).2 fun k => (h.keys_iff k).trans (hi k).symm
theorem sumK_keys (s : St) (dn : List (MEnt ByteArray)) : sumK s dn = ((dn.map MEnt.k).map (openK s)).sum := by simp [sumK, Function.comp_def]
theorem allOf_keys (s : St) (dn : List (MEnt ByteArray)) : allOf s dn = (dn.map MEnt.k).flatMap (looseK s) := by simp [allOf, List.flatMap_map]
theorem sum_perm {l l' : List Int} (h : l.Perm l') : l.sum = l'.sum := by
  induction h with
  | nil => rfl
  | cons x _ ih => simp [ih]
  | swap x y l => simp; omega
  | trans _ _ h1 h2 => exact h1.trans h2
theorem DiskAt.loose_is (h : DiskAt base w s) {ks : List ByteArray} (hn : ks.Nodup) (hi : ∀ k, k ∈ ks ↔ (s.R k).isSome = true) : looseOf s = (ks.map (openK s)).sum := by
  unfold looseOf
  rw [sumK_keys]
  exact sum_perm ((h.keys_perm hn hi).map _)
theorem DiskAt.all_is_perm (h : DiskAt base w s) {ks : List ByteArray} (hn : ks.Nodup) (hi : ∀ k, k ∈ ks ↔ (s.R k).isSome = true) : (allOf s s.L).Perm (ks.flatMap (looseK s)) := by
  rw [allOf_keys]
  exact (h.keys_perm hn hi).flatMap_right _
/-- No loose bytes at all. -/
theorem loose_zero (h : ∀ k r, s.R k = some r → r.loose = []) : looseOf s = 0 := by
  unfold looseOf sumK
  generalize s.L = L
  induction L with
  | nil => rfl
  | cons e L ih =>
    have : openK s e.k = 0 := by
      unfold openK
      cases hr : s.R e.k with
      | none => rfl
      | some r => simp only; rw [h _ r hr]; rfl
    simp only [List.map_cons, List.sum_cons, this]
    omega
/-- Pieces sorted by turns are one list. -/
theorem sorted_one {l m : List (Int × Int)} (hp : l.Perm m) (hl : l.Pairwise (fun a b => a.1 < b.1)) (hm : m.Pairwise (fun a b => a.1 < b.1)) : l = m := by
  refine List.Perm.eq_of_pairwise (le := fun a b => a.1 < b.1) (fun a b _ _ h1 h2 => ?_) hl hm hp
  omega
end
end Go.Proofs.YthokoimoiamddaaGreatDoor
set_option linter.unusedSimpArgs false
set_option linter.unusedVariables false
namespace Go.Proofs.YthokoimoiamddaaGreatDoor
open Go Go.RowKit

abbrev Vw := ByteArray → Option (List UInt8 × List (Int × Int))
def St.view (s : St) : Vw := fun k => (s.R k).map fun r => (r.data, r.loose)
def appV (v : Vw) (t : Int) (k : ByteArray) (bs : List UInt8) : Vw := fun k' =>
  if k' = k then some (((v k).map (·.1)).getD [] ++ bs, ((v k).map (·.2)).getD [] ++ (if bs = [] then [] else [(t + 1, (bs.length : Int))])) else v k'
def syncV (v : Vw) : Vw := fun k => (v k).map fun p => (p.1, [])
def keepP (f : Int → Int) (p : List UInt8 × List (Int × Int)) : Nat := ((p.1.length : Int) - openOf p.2 + leftSum f p.2).toNat
def crashV (f : Int → Int) (v : Vw) : Vw := fun k => (v k).map fun p => (p.1.take (keepP f p), [])
def dropV (v : Vw) (k : ByteArray) : Vw := fun k' => if k' = k then none else v k'
def cutP (n : Nat) (p : List UInt8 × List (Int × Int)) : List UInt8 × List (Int × Int) := (p.1.take n, shortL p.2 ((p.1.length : Int) - n))
def cutVw (v : Vw) (k : ByteArray) (n : Nat) : Vw := fun k' => if k' = k then (v k).map (cutP n) else v k'
def openV (v : Vw) (k : ByteArray) : Int := match v k with | some p => openOf p.2 | none => 0
def looseV (v : Vw) (k : ByteArray) : List (Int × Int) := match v k with | some p => p.2 | none => []
theorem openK_view (s : St) : openK s = openV s.view := by
  funext k
  unfold openK openV St.view
  cases s.R k <;> rfl
theorem looseK_view (s : St) : looseK s = looseV s.view := by
  funext k
  unfold looseK looseV St.view
  cases s.R k <;> rfl
theorem view_some (s : St) (k : ByteArray) : (s.R k).isSome = (s.view k).isSome := by
  unfold St.view
  cases s.R k <;> rfl
theorem view_new (w : World) : (newSt w).view = fun _ => none := rfl
theorem view_is {s : St} {k : ByteArray} {p : List UInt8 × List (Int × Int)} (h : s.view k = some p) : ∃ r, s.R k = some r ∧ r.data = p.1 ∧ r.loose = p.2 := by
  unfold St.view at h
  cases hr : s.R k with
  | none => rw [hr] at h; cases h
  | some r =>
    rw [hr] at h
    cases h
    exact ⟨r, rfl, rfl, rfl⟩
theorem view_none {s : St} {k : ByteArray} (h : s.view k = none) : s.R k = none := by
  unfold St.view at h
  cases hr : s.R k with
  | none => rfl
  | some r => rw [hr] at h; cases h

structure Step (base : Nat) (s : St) (w : World) (v : Vw) (t : Int) (n : Nat) (s' : St) (w' : World) : Prop where
  at_ : DiskAt base w' s'
  frame : Frame s s' w w'
  B : s'.B = s.B
  view : s'.view = v
  turn : s'.turn = t
  len : s'.L.length = n
  low : base ≤ w'.heap.size

section
variable {base : Nat} {w w' : World} {s s' : St}
theorem AppOK.step {k : ByteArray} {bs : List UInt8} (h : AppOK base s k bs w s' w') (hlow : base ≤ w.heap.size) :
    Step base s w (appV s.view s.turn k bs) (s.turn + (if bs = [] then 0 else 1)) (s.L.length + (if (s.view k).isSome then 0 else 1)) s' w' := by
  refine ⟨h.at_, h.frame, h.B, ?_, h.turn, by rw [h.few, view_some], Nat.le_trans hlow h.frame.size⟩
  funext k'
  unfold appV
  by_cases e : k' = k
  · subst e
    rw [if_pos rfl]
    obtain ⟨r', h1, h2, h3⟩ := h.new
    unfold St.view
    rw [h1, Option.map_some, h2, h3]
    cases s.R k' <;> rfl
  · rw [if_neg e]
    unfold St.view
    rw [h.rest k' e]

theorem append_step (k : ByteArray) (A : Option Addr) (n c : Nat) (bs : List UInt8) (hbn : bs.length = n) (hd : DiskAt base w s) (hlow : base ≤ w.heap.size) (hk : k.size ≤ 4611686018427387904) (hA : BytesAt w A bs) (hT : s.turn ≤ 4611686018427387904) (happ : appE s k n = none) :
    Calls Tryz.prog 48 #[.pointer (some ⟨s.B, 0, none⟩), .string k, .slice A n c] w fun e w' => e = .returned .nilIface ∧ ∃ s', Step base s w (appV s.view s.turn k bs) (s.turn + (if bs = [] then 0 else 1)) (s.L.length + (if (s.view k).isSome then 0 else 1)) s' w' := by
  refine (append_ok base s k A n c bs hbn w hd hlow hk hA hT happ).mono ?_
  rintro e w' ⟨rfl, s', h⟩
  exact ⟨rfl, s', h.step hlow⟩

theorem sync_step (hd : DiskAt base w s) (hlow : base ≤ w.heap.size) : Calls Tryz.prog 28 #[.pointer (some ⟨s.B, 0, none⟩)] w fun e w' => e = .returned .nilIface ∧ ∃ s', Step base s w (syncV s.view) s.turn s.L.length s' w' := by
  refine (sync_any base s w hd hlow).mono ?_
  rintro e w' ⟨rfl, s', h1, h2, h3, h4, h5, h6⟩
  refine ⟨rfl, s', h1, h2, h3, ?_, h5, by rw [h4], Nat.le_trans hlow h2.size⟩
  funext k
  unfold syncV St.view
  rw [h6 k]
  cases s.R k <;> rfl

theorem crash_step (keep : Int) (hd : DiskAt base w s) (hlow : base ≤ w.heap.size) (hk : 0 ≤ keep) (hk2 : keep ≤ 9223372036854775807) (hturn : s.turn ≤ 4611686018427387904) (hlo : looseOf s ≤ 1000000) : Calls Tryz.prog 23 #[.pointer (some ⟨s.B, 0, none⟩), .int .i64 keep] w fun e w' => e = .returned .nilIface ∧
    ∃ l' s', l'.Perm (allOf s s.L) ∧ l'.Pairwise (fun a b => a.1 < b.1) ∧ Step base s w (crashV (leftF l' keep) s.view) s.turn s.L.length s' w' := by
  refine (crash_any base s keep w hd hlow hk hk2 hturn hlo).mono ?_
  rintro e w' ⟨rfl, l', s', h0, h0b, h1, h2, h3, h4, h5, h6⟩
  refine ⟨rfl, l', s', h0, h0b, h1, h2, h3, ?_, h5, by rw [h4], Nat.le_trans hlow h2.size⟩
  funext k
  unfold crashV St.view
  rw [h6 k]
  cases s.R k <;> rfl

theorem delE_len {k : ByteArray} {L : List (MEnt ByteArray)} (h : (lkV k L).isSome = true) : (delE k L).length + 1 = L.length := by
  induction L with
  | nil => simp [lkV] at h
  | cons e L ih =>
    simp only [delE]
    simp only [lkV] at h
    split
    · simp
    · rename_i hk
      rw [if_neg hk] at h
      simp [ih h]

theorem delete_step {k : ByteArray} {p : List UInt8 × List (Int × Int)} (hd : DiskAt base w s) (hlow : base ≤ w.heap.size) (hv : s.view k = some p) : Calls Tryz.prog 29 #[.pointer (some ⟨s.B, 0, none⟩), .string k] w fun e w' => e = .returned .nilIface ∧ ∃ s', Step base s w (dropV s.view k) s.turn (s.L.length - 1) s' w' := by
  obtain ⟨r, hr, _, _⟩ := view_is hv
  refine (delete_hit base s k r w hd hr).mono ?_
  rintro e w' ⟨rfl, h1, h2⟩
  refine ⟨rfl, _, h1, h2, rfl, ?_, rfl, ?_, Nat.le_trans hlow h2.size⟩
  · funext k'
    show ((updR s.R k none) k').map _ = _
    unfold dropV
    by_cases e : k' = k
    · subst e; rw [updR_same, if_pos rfl]; rfl
    · rw [updR_other _ e, if_neg e]; rfl
  · have h3 := hd.lk k
    rw [hr] at h3
    have h4 := delE_len (k := k) (L := s.L) (by rw [h3]; rfl)
    show (delE k s.L).length = _
    omega

theorem cut_step {k : ByteArray} {p : List UInt8 × List (Int × Int)} (n : Nat) (hd : DiskAt base w s) (hlow : base ≤ w.heap.size) (hv : s.view k = some p) (hn : n ≤ p.1.length) : Calls Tryz.prog 44 #[.pointer (some ⟨s.B, 0, none⟩), .string k, .int .i64 n] w fun e w' => e = .returned .nilIface ∧ ∃ s', Step base s w (cutVw s.view k n) s.turn s.L.length s' w' := by
  obtain ⟨r, hr, h1, h2⟩ := view_is hv
  refine (cut_ok base s k r n w hd hlow hr (by rw [h1]; exact hn)).mono ?_
  rintro e w' ⟨rfl, dv, lv, h3, h4⟩
  refine ⟨rfl, _, h3, h4, rfl, ?_, rfl, rfl, Nat.le_trans hlow h4.size⟩
  funext k'
  show ((updR s.R k (some (cutRec r n dv lv))) k').map _ = _
  unfold cutVw
  by_cases e : k' = k
  · subst e
    rw [updR_same, if_pos rfl, hv]
    simp only [Option.map_some, cutRec, cutP, h1, h2]
  · rw [updR_other _ e, if_neg e]; rfl

/-- Read, at a file that is there. -/
theorem read_step {k : ByteArray} {p : List UInt8 × List (Int × Int)} (hd : DiskAt base w s) (hv : s.view k = some p) : Calls Tryz.prog 41 #[.pointer (some ⟨s.B, 0, none⟩), .string k] w fun e w' => ∃ A c, e = .returned (.tuple #[.slice A p.1.length c, .nilIface]) ∧ w'.ownsRow w.heap.size 5 1 (.slice A p.1.length c) p.1.length (byteVs p.1) ∧ Below w.heap.size w w' := by
  obtain ⟨r, hr, h1, h2⟩ := view_is hv
  refine (read_hit base s k r w hd hr).mono ?_
  rintro e w' ⟨A, c, rfl, h3⟩
  rw [h1] at h3 ⊢
  exact ⟨A, c, rfl, h3.out.1, h3.out.2⟩
theorem loose_step (hd : DiskAt base w s) {ks : List ByteArray} (hn : ks.Nodup) (hi : ∀ k, k ∈ ks ↔ (s.view k).isSome = true) : Calls Tryz.prog 54 #[.pointer (some ⟨s.B, 0, none⟩)] w fun e w' => e = .returned (.int .i64 (ks.map (openV s.view)).sum) ∧ Below w.heap.size w w' := by
  have h := hd.loose_is hn (fun k => (hi k).trans (by rw [view_some]))
  rw [openK_view] at h
  rw [← h]
  exact loose_any base s w hd
end
end Go.Proofs.YthokoimoiamddaaGreatDoor
