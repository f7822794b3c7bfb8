/-
  net: the contracts told by the packets' bytes alone. Own work.
-/
import Derived.Test.YtgibpiakeaplbaaDoorNetHelp
import Derived.Test.YtgibpiakeaplbaaDoorNetWays
set_option linter.unusedSimpArgs false
set_option linter.unusedVariables false
namespace Go.Proofs.YtgibpiakeaplbaaDoor
open Go Go.RowKit

abbrev Lines := Int × Int → List (List UInt8)
def NetB (base : Nat) (w : World) (B : Nat) (T : Lines) : Prop := ∃ S, NetAt base w B S ∧ ∀ k, (S k).map (·.2) = T k
def updT (T : Lines) (k : Int × Int) (l : List (List UInt8)) : Lines := fun k' => if k' = k then l else T k'
theorem updT_same (T : Lines) (k : Int × Int) (l : List (List UInt8)) : updT T k l k = l := by simp [updT]
theorem updT_other (T : Lines) (k k' : Int × Int) (l : List (List UInt8)) (h : k' ≠ k) : updT T k l k' = T k' := by simp [updT, h]

def placeT (T : Lines) (k : Int × Int) (i : Int) : Option Int :=
  match wayE k with
  | some e => some e
  | none => if i < 0 ∨ ((T k).length : Int) ≤ i then some 10 else none
def sendT (T : Lines) (k : Int × Int) (len : Nat) : Option Int :=
  match wayE k with
  | some e => some e
  | none => if 1048576 < len then some 2 else if 1024 ≤ (T k).length then some 11 else none
def doubleT (T : Lines) (k : Int × Int) (i : Int) : Option Int :=
  match placeT T k i with
  | some e => some e
  | none => if 1024 ≤ (T k).length then some 11 else none

theorem NetB.below {base : Nat} {w w' : World} {B : Nat} {T : Lines} (h : NetB base w B T) (hb : Below w.heap.size w w') : NetB base w' B T := by
  obtain ⟨S, h1, h2⟩ := h
  exact ⟨S, h1.below hb, h2⟩
theorem netB_of {base : Nat} {w : World} {B : Nat} {S : Int × Int → List Pkt} {T : Lines} {k : Int × Int} {l : List Pkt} {l' : List (List UInt8)} (h : NetAt base w B (updS S k l)) (hT : ∀ k, (S k).map (·.2) = T k) (hl : l.map (·.2) = l') : NetB base w B (updT T k l') := by
  refine ⟨_, h, fun k' => ?_⟩
  unfold updS updT
  split
  · exact hl
  · exact hT k'
theorem netB_new (w : World) : NetB w.heap.size ((w.alloc (.map #[] 0)).alloc (.cells #[.map (some w.heap.size)] 62)) (w.heap.size + 1) (fun _ => []) := ⟨_, netAt_new w, fun _ => rfl⟩

theorem send_b (base B : Nat) (T : Lines) (k : Int × Int) (A : Option Addr) (c : Nat) (bs : List UInt8) (w : World) (hn : NetB base w B T) (hbase : base ≤ w.heap.size) (hA : BytesAt w A bs) :
    Calls Tryd.prog 12 #[.pointer (some ⟨B, 0, none⟩), .int .i64 k.1, .int .i64 k.2, .slice A bs.length c] w fun e w' => e = .returned (errV (sendT T k bs.length)) ∧ Below base w w' ∧
      NetB base w' B (if sendT T k bs.length = none then updT T k (T k ++ [bs]) else T) := by
  obtain ⟨S, h1, h2⟩ := hn
  have hlen : (S k).length = (T k).length := by rw [← h2 k]; simp
  have he : sendE S k bs.length = sendT T k bs.length := by simp only [sendE, sendT, hlen]; rfl
  refine (send_any base B S k A c bs w h1 hbase hA).mono ?_
  rintro e w' ⟨h3, h4, _, h5⟩
  rw [he] at h3 h5
  refine ⟨h3, h4, ?_⟩
  rcases h5 with ⟨h5, h6⟩ | ⟨h5, v, h6, _⟩
  · rw [if_neg h5]; exact ⟨S, h6, h2⟩
  · rw [if_pos h5]; exact netB_of h6 h2 (by simp [h2])

theorem lose_b (base B : Nat) (T : Lines) (k : Int × Int) (i : Int) (w : World) (hn : NetB base w B T) (hbase : base ≤ w.heap.size) :
    Calls Tryd.prog 16 #[.pointer (some ⟨B, 0, none⟩), .int .i64 k.1, .int .i64 k.2, .int .i64 i] w fun e w' => e = .returned (errV (placeT T k i)) ∧ Below base w w' ∧
      NetB base w' B (if placeT T k i = none then updT T k ((T k).eraseIdx i.toNat) else T) := by
  obtain ⟨S, h1, h2⟩ := hn
  have hlen : (S k).length = (T k).length := by rw [← h2 k]; simp
  have he : placeE S k i = placeT T k i := by simp only [placeE, placeT, hlen]; rfl
  refine (lose_any base B S k i w h1 hbase).mono ?_
  rintro e w' ⟨h4, _, h3, h5⟩
  rw [he] at h3 h5
  refine ⟨h3, h4, ?_⟩
  rcases h5 with ⟨h5, h6⟩ | ⟨h5, j, hj, _, h6⟩
  · rw [if_neg h5]; exact ⟨S, h6, h2⟩
  · rw [if_pos h5]; subst hj; exact netB_of h6 h2 (by rw [map_erase, h2]; simp)

theorem double_b (base B : Nat) (T : Lines) (k : Int × Int) (i : Int) (w : World) (hn : NetB base w B T) (hbase : base ≤ w.heap.size) :
    Calls Tryd.prog 15 #[.pointer (some ⟨B, 0, none⟩), .int .i64 k.1, .int .i64 k.2, .int .i64 i] w fun e w' => e = .returned (errV (doubleT T k i)) ∧ Below base w w' ∧
      NetB base w' B (if doubleT T k i = none then updT T k (T k ++ [(T k).getD i.toNat []]) else T) := by
  obtain ⟨S, h1, h2⟩ := hn
  have hlen : (S k).length = (T k).length := by rw [← h2 k]; simp
  have he : doubleE S k i = doubleT T k i := by simp only [doubleE, doubleT, placeE, placeT, hlen]; rfl
  refine (double_any base B S k i w h1 hbase).mono ?_
  rintro e w' ⟨h3, h4, _, h5⟩
  rw [he] at h3 h5
  refine ⟨h3, h4, ?_⟩
  rcases h5 with ⟨h5, h6⟩ | ⟨h5, j, p, v, hj, hp, h6, _⟩
  · rw [if_neg h5]; exact ⟨S, h6, h2⟩
  · rw [if_pos h5]; subst hj
    refine netB_of h6 h2 ?_
    have : (T k)[j]? = some p.2 := by rw [← h2 k]; simp [hp]
    simp [h2, List.getD, this]

theorem deliver_b (base B : Nat) (T : Lines) (k : Int × Int) (i : Int) (w : World) (hn : NetB base w B T) (hbase : base ≤ w.heap.size) :
    Calls Tryd.prog 19 #[.pointer (some ⟨B, 0, none⟩), .int .i64 k.1, .int .i64 k.2, .int .i64 i] w fun e w' => Below base w w' ∧
      ∃ A bs c, e = .returned (.tuple #[.slice A bs.length c, errV (placeT T k i)]) ∧ BytesAt w' A bs ∧ (placeT T k i ≠ none → A = none ∧ bs = [] ∧ c = 0) ∧ (placeT T k i = none → (T k)[i.toNat]? = some bs) ∧
      NetB base w' B (if placeT T k i = none then updT T k ((T k).eraseIdx i.toNat) else T) := by
  obtain ⟨S, h1, h2⟩ := hn
  have hlen : (S k).length = (T k).length := by rw [← h2 k]; simp
  have he : placeE S k i = placeT T k i := by simp only [placeE, placeT, hlen]; rfl
  have hpk := h1
  refine (deliver_any base B S k i w h1 hbase).mono ?_
  rintro e w' ⟨h4, hkc, h5⟩
  rw [he] at h5
  refine ⟨h4, ?_⟩
  rcases h5 with ⟨ec, h5, rfl, h6⟩ | ⟨h5, j, p, hj, hp, rfl, h6⟩
  · refine ⟨none, [], 0, by rw [h5]; rfl, ⟨fun _ => rfl, fun ad e => by cases e⟩, fun _ => ⟨rfl, rfl, rfl⟩, fun h => (by rw [h5] at h; cases h), ?_⟩
    rw [if_neg (by rw [h5]; simp)]; exact ⟨S, h6, h2⟩
  · subst hj
    obtain ⟨M, cm, L, hin⟩ := hpk
    have hpok := hkc.pkt (hin.pk k p (List.mem_of_getElem? hp))
    obtain ⟨A, c, hA⟩ := own_slice hpok
    refine ⟨A, p.2, c, by rw [h5, ← hA]; rfl, bytesAt_pkt hpok hA, fun h => absurd h5 h, fun _ => ?_, ?_⟩
    · rw [← h2 k]; simp [hp]
    · rw [if_pos h5]; exact netB_of h6 h2 (by rw [map_erase, h2]; simp)

def waysT (T : Lines) (l : List (Int × Int)) : List (Int × Int × Int) := l.map fun k => (k.1, k.2, ((T k).length : Int))

theorem ways_b (base B : Nat) (T : Lines) (w : World) (hn : NetB base w B T) (hbase : base ≤ w.heap.size) :
    Calls Tryd.prog 21 #[.pointer (some ⟨B, 0, none⟩)] w fun e w' => Below w.heap.size w w' ∧ ∃ A c l, e = .returned (.slice A (waysT T l).length c) ∧ l.Pairwise ltW ∧ (∀ k, k ∈ l ↔ T k ≠ []) ∧ w'.ownsRow w.heap.size 58 3 (.slice A (waysT T l).length c) (waysT T l).length (wayCells (waysT T l)) := by
  obtain ⟨S, h1, h2⟩ := hn
  refine (ways_any base B S w h1 hbase).mono ?_
  rintro e w' ⟨h3, v, l, rfl, h4, h5, h6⟩
  obtain ⟨A, c, rfl⟩ := own_slice h6
  have hlen : ∀ k, (S k).length = (T k).length := fun k => by rw [← h2 k]; simp
  have hw : waysOf S l = waysT T l := by simp only [waysOf, waysT, hlen]
  have hll : l.length = (waysT T l).length := by simp [waysT]
  rw [hw, hll] at h6
  refine ⟨h3, A, c, l, by rw [hll], h4, fun k => (h5 k).trans ?_, h6⟩
  rw [← h2 k]
  simp
end Go.Proofs.YtgibpiakeaplbaaDoor
