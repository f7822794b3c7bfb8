/-
  net: maps.Keys at struct keys, slices.Collect of it: every key once, in some order. Own work (after the worked walks of the kit).
-/
import Derived.Test.YtgibpiakeaplbaaDoorProg
import Derived.Test.YtgibpiakeaplbaaDoorMapIter
import Derived.KernelRfl
import Derived.RangeFuncNested
import Derived.RangeFuncBound
import Derived.RangeFuncCalls
import Derived.RangeFuncLeaves
import Derived.RangeFuncBox
import Derived.Shelf.Abstract
import Derived.Shelf.RegionOpen
import Derived.WalkKit
import Derived.OwnWalkIn
import Derived.TacticsInMore
import Derived.LoopNIn
import Derived.LoopIn
import Derived.Maps.AppendAt
set_option linter.unusedSimpArgs false
set_option linter.unusedVariables false
namespace Go.Proofs.YtgibpiakeaplbaaDoor
open Go Go.RowKit

section
variable {F : Fence} {n : Nat} {P : Program} (w : World) {ops : Array Oper} {rest : List Oper} {o : Oper} {a : Act} {Q : Exit → Act → World → Prop} {κ : Type} {kv : κ → Value} {b c r : Nat} {L dn : List (MEnt κ)}
theorem wpListIn_range_at (hg : o.guard = none) (m : Operand) (t : TypeId) (hop : o.op = Op.range t m) (k e : TypeId) (ht : P.underlying t = some (.map k e)) (hm : a.eval m = .map (some b)) (h : MapAt kv w b L c) (hw : MWf L c)
    (hK : ∀ w', IterAt kv w' b w.heap.size L c [] → w.grownBy w' none → w'.heap.size = w.heap.size + 1 → wpListIn F n P ops Q rest (a.put o.dst (.pointer (some ⟨w.heap.size, 0, none⟩))) w') :
    wpListIn F n P ops Q (o :: rest) a w := by
  refine wpListIn_plain hg fun K' hK' => ?_
  obtain ⟨hrun, hit⟩ := run_range_at (P := P) ht h hw
  unfold Oper.wpIn
  refine ⟨?_, ?_⟩
  · simp [Oper.about, hop]
  · rw [Oper.semAt_plain F _ _ (by rw [hop]; intro c hc'; cases hc')]
    simp [execOp, hop, hm, hrun, Result.andThen]
    exact hK' _ _ (hK _ hit (World.grownBy_alloc w _ none) (by simp))

theorem wpListIn_next_at (hg : o.guard = none) (it : Operand) (hop : o.op = Op.next it false) (hit : a.eval it = .pointer (some ⟨r, 0, none⟩)) (h : IterAt kv w b r L c dn)
    (hDone : dn.Perm L → wpListIn F n P ops Q rest (a.put o.dst (.tuple #[.bool false])) w)
    (hMore : ∀ e ∈ L, e ∉ dn → ∀ w', IterAt kv w' b r L c (dn ++ [e]) → w.grownBy w' (some r) → w'.heap.size = w.heap.size →
      (Instr.entry (.pointer (some ⟨r, 0, none⟩))).run P w' = .ok (.tuple #[kv e.k, e.v]) w' → wpListIn F n P ops Q rest (a.put o.dst (.tuple #[.bool true, kv e.k, e.v])) w') :
    wpListIn F n P ops Q (o :: rest) a w := by
  refine wpListIn_plain hg fun K' hK' => ?_
  unfold Oper.wpIn
  refine ⟨by simp [Oper.about, hop], ?_⟩
  rw [Oper.semAt_plain F _ _ (by rw [hop]; intro c hc'; cases hc')]
  rcases run_next_it (P := P) h o.type with ⟨hp, hrun⟩ | ⟨e, he, hnd, w', hrun, h1, h2, h3, h4⟩
  · simp [execOp, hop, hit, hrun, Result.andThen]
    exact hK' _ _ (hDone hp)
  · simp [execOp, hop, hit, hrun, Result.andThen]
    exact hK' _ _ (hMore e he hnd w' h1 h2 h3 h4)
end

theorem IterAt.walks {κ : Type} {kv : κ → Value} {w w' : World} {b r c : Nat} {L dn : List (MEnt κ)} (h : IterAt kv w b r L c dn) (hk : KeepsWalks w w') : IterAt kv w' b r L c dn :=
  ⟨hk.same b _ h.1 rfl, h.2.1, hk.same r _ h.2.2.1 rfl, h.2.2.2⟩

def iterLeft (r n : Nat) (w : World) : Nat :=
  match w.heap[r]? with
  | some (.mapIter _ _ seen _) => n - seen.size
  | _ => 0
theorem IterAt.left {κ : Type} {kv : κ → Value} {w : World} {b r c : Nat} {L dn : List (MEnt κ)} (h : IterAt kv w b r L c dn) : iterLeft r L.length w = L.length - dn.length := by
  unfold iterLeft
  rw [h.2.2.1]
  simp

set_option maxRecDepth 100000 in
set_option maxHeartbeats 1000000 in
theorem keys1_in (F : Fence) (n : Nat) (hf : F.fn 43) (hro : F.round = none) (hn : 1 ≤ n) (l Bm b c : Nat) (L : List (MEnt (Int × Int))) (J Jx : List (Int × Int) → World → Prop)
    (hY : ∀ pre x W, J pre W → pre.length < L.length → YieldAt F (n - 1) Tryd.prog l #[pairV x] W fun e W' =>
      (e = .returned (.bool true) ∧ J (pre ++ [x]) W' ∧ KeepsWalks W W') ∨ (e = .returned (.bool false) ∧ Jx (pre ++ [x]) W'))
    (W : World) (hJ : AbidesFrom W.heap.size J) (hm : W.cell? ⟨Bm, 0, none⟩ = some (.map (some b))) (hat : MapAt pairV W b L c) (hwf : MWf L c) (h0 : J [] W) :
    CallsIn F n Tryd.prog 43 #[.func (.yield l) #[] #[], .pointer (some ⟨Bm, 0, none⟩)] W fun e W' => (∃ v, e = .returned v) ∧
      ((∃ ss : List (Int × Int), ss.Perm (L.map (·.k)) ∧ J ss W') ∨ (∃ pre : List (Int × Int), True ∧ Jx pre W')) := by
  refine callsIn_of_wp Tryd.func43 rfl hf ?_ hro
  simp only [Tryd.ntmps43, List.size_toArray, List.length_cons, List.length_nil, Nat.reduceAdd, Nat.reduceSub, Array.replicate_succ, Array.replicate_zero, List.push_toArray, List.append_toArray, List.nil_append, List.cons_append]
  gi_wp2_with (first
    | (gi_at_range; refine wpListIn_range_at _ rfl _ 60 rfl 70 56 Tryd.underlying60 rfl hat hwf ?_; intro w0 hrg0 hg0 hs0)
    | gi_in)
  go_frame
  gi_loopw [3] (fun _ wr => ∃ (dn : List (MEnt (Int × Int))), IterAt pairV wr b W.heap.size L c dn ∧ J (dn.map (·.k)) wr ∧ W.heap.size ≤ wr.heap.size)
    (fun _ wr => iterLeft W.heap.size L.length wr)
  case atStart =>
    exact ⟨[], hrg0, hJ [] W w0 none h0 hg0 (fun r e => by cases e), hg0.size⟩
  case round =>
    obtain ⟨dn, hrg, hJs, hsz⟩ := hrel
    gi_wp2_with (first
      | (gi_at_next; refine wpListIn_next_at _ rfl _ rfl rfl hrg ?_ ?_)
      | gi_in)
    · intro hp
      gi_wp2
      go_end0
      exact ⟨⟨_, rfl⟩, .inl ⟨dn.map (·.k), hp.map _, hJs⟩⟩
    · intro e he hnd w2 hrg2 hg2 hs2 hen
      have hle2 := hrg2.le
      have hJ2 : J (dn.map (·.k)) w2 := hJ _ wr w2 (some W.heap.size) hJs hg2 (fun r e => by cases e; exact ⟨Nat.le_refl _, hrg.walk⟩)
      obtain ⟨k, v, bo⟩ := e
      obtain ⟨kx, ky⟩ := k
      have hJ3 : J (dn.map (·.k)) (w2.alloc (.cells #[.int .i64 kx, .int .i64 ky] 70)) := hJ _ w2 _ none hJ2 (World.grownBy_alloc w2 _ none) (fun r e => by cases e)
      obtain ⟨fn, tmps, assign, body, hy, hR⟩ := hY (dn.map (·.k)) (kx, ky) _ hJ3 (by simp at hle2 ⊢; omega)
      have hrg3 : IterAt pairV (w2.alloc (.cells #[.int .i64 kx, .int .i64 ky] 70)) b W.heap.size L c (dn ++ [⟨(kx, ky), v, bo⟩]) := hrg2.walks (KeepsWalks.alloc _ _)
      have hsz3 : W.heap.size ≤ (w2.alloc (.cells #[.int .i64 kx, .int .i64 ky] 70)).heap.size := by simp; omega
      simp only [pairV] at hy hen
      clear hs2
      gi_wp2
      refine hR.mono ?_
      rintro e W3 (⟨rfl, hJ4, hk3⟩ | ⟨rfl, hJx3⟩)
      · gi_wp2
        have hrg4 := hrg3.walks hk3
        go_roundw
        case rel => exact ⟨_, hrg4, by simpa using hJ4, Nat.le_trans hsz3 hk3.size⟩
        case measure => rw [hrg4.left, hrg.left]; simp at hle2 ⊢; omega
      · gi_wp2
        refine bodyPost_ret (results_none rfl _ _ _) rfl ?_
        exact ⟨⟨_, rfl⟩, .inr ⟨_, trivial, hJx3⟩⟩

theorem keys_stops (F : Fence) (n : Nat) (hf : F.fn 43) (hro : F.round = none) (hn : 1 ≤ n) (Bm b c : Nat) (L : List (MEnt (Int × Int))) (w : World) (hBm : Bm < w.heap.size)
    (hm : w.cell? ⟨Bm, 0, none⟩ = some (.map (some b))) (hat : MapAt pairV w b L c) (hwf : MWf L c) :
    SeqStops F n Tryd.prog 43 #[.pointer (some ⟨Bm, 0, none⟩)] pairV (fun ss => ss.Perm (L.map (·.k))) (fun _ => True) L.length w := fun l J Jx W hW hJ _ hY h0 =>
  keys1_in F n hf hro hn l Bm b c L J Jx hY W hJ ((hW.cell (p := ⟨Bm, 0, none⟩) hBm).trans hm) ((hW.block b hat.lt).trans hat) hwf h0

set_option maxHeartbeats 1000000 in
theorem keys_any (F : Fence) (n : Nat) (hf : F.fn 33) (hro : F.round = none) (mb : Option Nat) (w : World) :
    CallsIn F n Tryd.prog 33 #[.map mb] w fun e w' => e = .returned (.func (.func 43) #[] #[.pointer (some ⟨w.heap.size, 0, none⟩)]) ∧ w' = w.alloc (.cells #[.map mb] 60) := by
  refine callsIn_of_wp Tryd.func33 rfl hf ?_ hro
  simp only [Tryd.ntmps33, List.size_toArray, List.length_cons, List.length_nil, Nat.reduceAdd, Nat.reduceSub, Array.replicate_succ, Array.replicate_zero, List.push_toArray, List.append_toArray, List.nil_append, List.cons_append]
  gi_wp2
  go_ret
  exact ⟨rfl, rfl⟩

end Go.Proofs.YtgibpiakeaplbaaDoor
