/-
  disk: maps.Keys at string keys, against a map that is known exactly. Own work (after XNetKeys).
-/
import Derived.Test.YtfhdcjfkngflbaaDoorDiskCrash2
import Derived.Sort.EncStr
import Derived.RangeFuncNested
import Derived.RangeFuncBound
import Derived.RangeFuncCalls
import Derived.RangeFuncLeaves
import Derived.RangeFuncBox
import Derived.Shelf.Abstract
import Derived.Shelf.RegionOpen
import Derived.WalkKit
import Derived.OwnWalkIn
import Derived.TacticsInMore
import Derived.LoopNIn
import Derived.LoopIn
import Derived.Maps.AppendAt
set_option linter.unusedSimpArgs false
set_option linter.unusedVariables false
namespace Go.Proofs.YtfhdcjfkngflbaaDoor
open Go Go.RowKit

section
variable {F : Fence} {n : Nat} {P : Program} (w : World) {ops : Array Oper} {rest : List Oper} {o : Oper} {a : Act} {Q : Exit → Act → World → Prop} {κ : Type} {kv : κ → Value} {b c r : Nat} {L dn : List (MEnt κ)}
theorem wpListIn_range_at (hg : o.guard = none) (m : Operand) (t : TypeId) (hop : o.op = Op.range t m) (k e : TypeId) (ht : P.underlying t = some (.map k e)) (hm : a.eval m = .map (some b)) (h : MapAt kv w b L c) (hw : MWf L c)
    (hK : ∀ w', IterAt kv w' b w.heap.size L c [] → w.grownBy w' none → w'.heap.size = w.heap.size + 1 → wpListIn F n P ops Q rest (a.put o.dst (.pointer (some ⟨w.heap.size, 0, none⟩))) w') :
    wpListIn F n P ops Q (o :: rest) a w := by
  refine wpListIn_plain hg fun K' hK' => ?_
  obtain ⟨hrun, hit⟩ := run_range_at (P := P) ht h hw
  unfold Oper.wpIn
  refine ⟨?_, ?_⟩
  · simp [Oper.about, hop]
  · rw [Oper.semAt_plain F _ _ (by rw [hop]; intro c hc'; cases hc')]
    simp [execOp, hop, hm, hrun, Result.andThen]
    exact hK' _ _ (hK _ hit (World.grownBy_alloc w _ none) (by simp))

theorem wpListIn_next_at (hg : o.guard = none) (it : Operand) (hop : o.op = Op.next it false) (hit : a.eval it = .pointer (some ⟨r, 0, none⟩)) (h : IterAt kv w b r L c dn)
    (hDone : dn.Perm L → wpListIn F n P ops Q rest (a.put o.dst (.tuple #[.bool false])) w)
    (hMore : ∀ e ∈ L, e ∉ dn → ∀ w', IterAt kv w' b r L c (dn ++ [e]) → w.grownBy w' (some r) → w'.heap.size = w.heap.size →
      (Instr.entry (.pointer (some ⟨r, 0, none⟩))).run P w' = .ok (.tuple #[kv e.k, e.v]) w' → wpListIn F n P ops Q rest (a.put o.dst (.tuple #[.bool true, kv e.k, e.v])) w') :
    wpListIn F n P ops Q (o :: rest) a w := by
  refine wpListIn_plain hg fun K' hK' => ?_
  unfold Oper.wpIn
  refine ⟨by simp [Oper.about, hop], ?_⟩
  rw [Oper.semAt_plain F _ _ (by rw [hop]; intro c hc'; cases hc')]
  rcases run_next_it (P := P) h o.type with ⟨hp, hrun⟩ | ⟨e, he, hnd, w', hrun, h1, h2, h3, h4⟩
  · simp [execOp, hop, hit, hrun, Result.andThen]
    exact hK' _ _ (hDone hp)
  · simp [execOp, hop, hit, hrun, Result.andThen]
    exact hK' _ _ (hMore e he hnd w' h1 h2 h3 h4)
end

theorem IterAt.walks {κ : Type} {kv : κ → Value} {w w' : World} {b r c : Nat} {L dn : List (MEnt κ)} (h : IterAt kv w b r L c dn) (hk : KeepsWalks w w') : IterAt kv w' b r L c dn :=
  ⟨hk.same b _ h.1 rfl, h.2.1, hk.same r _ h.2.2.1 rfl, h.2.2.2⟩

/-- A key as the list of its bytes. -/
def keyB (e : MEnt ByteArray) : List UInt8 := e.k.data.toList
theorem encStr_key (e : MEnt ByteArray) : encStr (keyB e) = Value.string e.k := by simp [encStr, keyB]

set_option maxRecDepth 100000 in
set_option maxHeartbeats 1000000 in
theorem dkeys1_in (F : Fence) (n : Nat) (hf : F.fn 33) (hro : F.round = none) (hn : 1 ≤ n) (l Bm b c : Nat) (L : List (MEnt ByteArray)) (J : List (List UInt8) → World → Prop)
    (hY : ∀ pre x W, J pre W → pre.length < L.length → YieldAt F (n - 1) Tryd.prog l #[encStr x] W fun e W' => e = .returned (.bool true) ∧ J (pre ++ [x]) W' ∧ KeepsWalks W W')
    (W : World) (hJ : AbidesFrom W.heap.size J) (hm : W.cell? ⟨Bm, 0, none⟩ = some (.map (some b))) (hat : MapAt Value.string W b L c) (hwf : MWf L c) (h0 : J [] W) :
    CallsIn F n Tryd.prog 33 #[.func (.yield l) #[] #[], .pointer (some ⟨Bm, 0, none⟩)] W fun e W' => (∃ v, e = .returned v) ∧
      ∃ ss : List (List UInt8), ss.Perm (L.map keyB) ∧ J ss W' := by
  refine callsIn_of_wp Tryd.func33 rfl hf ?_ hro
  simp only [Tryd.ntmps33, List.size_toArray, List.length_cons, List.length_nil, Nat.reduceAdd, Nat.reduceSub, Array.replicate_succ, Array.replicate_zero, List.push_toArray, List.append_toArray, List.nil_append, List.cons_append]
  gi_wp2_with (first
    | (gi_at_range; refine wpListIn_range_at _ rfl _ 48 rfl 9 52 Tryd.underlying48 rfl hat hwf ?_; intro w0 hrg0 hg0 hs0)
    | gi_in)
  go_frame
  gi_loopw [3] (fun _ wr => ∃ (dn : List (MEnt ByteArray)), IterAt Value.string wr b W.heap.size L c dn ∧ J (dn.map keyB) wr ∧ W.heap.size ≤ wr.heap.size)
    (fun _ wr => iterLeft W.heap.size L.length wr)
  case atStart =>
    exact ⟨[], hrg0, hJ [] W w0 none h0 hg0 (fun r e => by cases e), hg0.size⟩
  case round =>
    obtain ⟨dn, hrg, hJs, hsz⟩ := hrel
    gi_wp2_with (first
      | (gi_at_next; refine wpListIn_next_at _ rfl _ rfl rfl hrg ?_ ?_)
      | gi_in)
    · intro hp
      gi_wp2
      go_end0
      exact ⟨⟨_, rfl⟩, dn.map keyB, hp.map _, hJs⟩
    · intro e he hnd w2 hrg2 hg2 hs2 hen
      have hle2 := hrg2.le
      have hJ2 : J (dn.map keyB) w2 := hJ _ wr w2 (some W.heap.size) hJs hg2 (fun r e => by cases e; exact ⟨Nat.le_refl _, hrg.walk⟩)
      have hek := encStr_key e
      obtain ⟨fn, tmps, assign, body, hy, hR⟩ := hY (dn.map keyB) (keyB e) _ hJ2 (by simp at hle2 ⊢; omega)
      rw [hek] at hy
      have hsz3 : W.heap.size ≤ w2.heap.size := by omega
      clear hs2 hek
      gi_wp2
      refine hR.mono ?_
      rintro e' W3 ⟨rfl, hJ4, hk3⟩
      gi_wp2
      have hrg4 := hrg2.walks hk3
      go_roundw
      case rel => exact ⟨_, hrg4, by simpa using hJ4, Nat.le_trans hsz3 hk3.size⟩
      case measure => rw [hrg4.left, hrg.left]; simp at hle2 ⊢; omega

theorem dkeys_gives (F : Fence) (n : Nat) (hf : F.fn 33) (hro : F.round = none) (hn : 1 ≤ n) (Bm b c : Nat) (L : List (MEnt ByteArray)) (w : World) (hBm : Bm < w.heap.size)
    (hm : w.cell? ⟨Bm, 0, none⟩ = some (.map (some b))) (hat : MapAt Value.string w b L c) (hwf : MWf L c) :
    SeqGives F n Tryd.prog 33 #[.pointer (some ⟨Bm, 0, none⟩)] encStr (fun ss => ss.Perm (L.map keyB)) L.length w := fun l J W hW hJ hY h0 =>
  dkeys1_in F n hf hro hn l Bm b c L J hY W hJ ((hW.cell (p := ⟨Bm, 0, none⟩) hBm).trans hm) ((hW.block b hat.lt).trans hat) hwf h0
end Go.Proofs.YtfhdcjfkngflbaaDoor
