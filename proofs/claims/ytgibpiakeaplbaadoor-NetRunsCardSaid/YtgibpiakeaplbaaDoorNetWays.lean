/-
  net: Ways. Own work.
-/
import Derived.Test.YtgibpiakeaplbaaDoorNetPlace
import Derived.Test.YtgibpiakeaplbaaDoorNetSorted
import Derived.Deep.RegionHeldLaw
set_option linter.unusedSimpArgs false
set_option linter.unusedVariables false
namespace Go.Proofs.YtgibpiakeaplbaaDoor
open Go Go.RowKit

theorem wayT_info : (Tryd.prog.info? 58).map (fun i => (i.zero, i.size, i.bytes)) = some (some (.agg #[.int .i64 0, .int .i64 0, .int .i64 0]), 3, 24) := by kernel_rfl

def wayCells (l : List (Int × Int × Int)) : List Value := l.flatMap fun x => [.int .i64 x.1, .int .i64 x.2.1, .int .i64 x.2.2]
theorem wayCells_append (l m : List (Int × Int × Int)) : wayCells (l ++ m) = wayCells l ++ wayCells m := by simp [wayCells]
theorem wayCells_one (x : Int × Int × Int) : wayCells [x] = [.int .i64 x.1, .int .i64 x.2.1, .int .i64 x.2.2] := rfl

/-- All ways that a net can hold. -/
def allWays : List (Int × Int) := (List.range 81).map fun n => ((n / 9 : Nat) - 1, (n % 9 : Nat) - 1)

theorem mem_allWays {k : Int × Int} (h : wayB k = true) : k ∈ allWays := by
  obtain ⟨a, b⟩ := k
  simp only [wayB, nodeB, Bool.and_eq_true, decide_eq_true_eq] at h
  obtain ⟨⟨⟨h1, h2⟩, h3, h4⟩, _⟩ := h
  refine List.mem_map.2 ⟨((a + 1).toNat * 9 + (b + 1).toNat), List.mem_range.2 (by omega), ?_⟩
  have e1 : ((a + 1).toNat * 9 + (b + 1).toNat) / 9 = (a + 1).toNat := by omega
  have e2 : ((a + 1).toNat * 9 + (b + 1).toNat) % 9 = (b + 1).toNat := by omega
  rw [e1, e2]
  ext <;> simp <;> omega

theorem allWays_nodup : allWays.Nodup := by decide

theorem NetIn.few {base : Nat} {w : World} {B M c : Nat} {L : List (MEnt (Int × Int))} {S : Int × Int → List Pkt} (h : NetIn base w B M c L S) : L.length ≤ 81 := by
  have hsub : ∀ k ∈ L.map (·.k), k ∈ allWays := by
    intro k hk
    obtain ⟨e, he, rfl⟩ := List.mem_map.1 hk
    have hl := lkV_of_mem h.wf he
    have hr := h.row e.k
    rw [hl] at hr
    exact mem_allWays (h.nodes e.k hr.1)
  obtain ⟨r, hr⟩ := subset_perm h.wf.keys allWays_nodup hsub
  have := hr.length_eq
  simp only [List.length_append, List.length_map] at this
  have e : allWays.length = 81 := by simp [allWays]
  omega

theorem NetIn.key {base : Nat} {w : World} {B M c : Nat} {L : List (MEnt (Int × Int))} {S : Int × Int → List Pkt} (h : NetIn base w B M c L S) (k : Int × Int) : k ∈ L.map (·.k) ↔ S k ≠ [] := by
  have hr := h.row k
  constructor
  · intro hk
    cases hl : lkV k L with
    | none => exact absurd hk (lkV_none.1 hl)
    | some v => rw [hl] at hr; exact hr.1
  · intro hs
    cases hl : lkV k L with
    | none => rw [hl] at hr; exact absurd hr hs
    | some v => obtain ⟨e, he, h1, _⟩ := lkV_mem hl; exact List.mem_map.2 ⟨e, he, h1⟩

def waysOf (S : Int × Int → List Pkt) (l : List (Int × Int)) : List (Int × Int × Int) := l.map fun k => (k.1, k.2, ((S k).length : Int))

def WaysPost (base : Nat) (w : World) (S : Int × Int → List Pkt) (e : Ending) (w' : World) : Prop :=
  Below base w w' ∧ ∃ v l, e = .returned v ∧ l.Pairwise ltW ∧ (∀ k, k ∈ l ↔ S k ≠ []) ∧ w'.ownsRow base 58 3 v l.length (wayCells (waysOf S l))

theorem ways_nil (w : World) : Calls Tryd.prog 21 #[.pointer none] w fun e w' => e = .returned (.slice none 0 0) ∧ w' = w := by
  go_enter Tryd.func21, Tryd.ntmps21
  go_wp2
  go_ret
  exact ⟨rfl, rfl⟩

theorem waysLie_shape {w : World} {v : Value} {l : List (Int × Int)} (h : WaysLie w v l) : ∃ A c, v = .slice A l.length c ∧ ∀ i (hi : i < l.length), ∃ g, A = some ⟨g, 0, none⟩ ∧ w.cell? ⟨g, i * 2, none⟩ = some (.int .i64 l[i].1) ∧ w.cell? ⟨g, i * 2 + 1, none⟩ = some (.int .i64 l[i].2) := by
  rcases h with ⟨rfl, rfl⟩ | ⟨g, c, rfl, h⟩
  · exact ⟨none, 0, rfl, fun i hi => absurd hi (Nat.not_lt_zero _)⟩
  · exact ⟨_, c, rfl, fun i hi => ⟨g, rfl, h i hi⟩⟩
theorem cell_over (w : World) (o : Obj) {a : Addr} {v : Value} (h : w.cell? a = some v) : (w.alloc o).drew.cell? a = some v := (World.cell?_alloc_lt _ _ a (World.block_lt_of_cell? w _ h)).trans h
theorem newtri (w : World) (a b c : Value) (t : TypeId) (B : Nat) (hB : B = w.heap.size) : ∀ j u, [a, b, c][j]? = some u → (w.alloc (.cells #[a, b, c] t)).cell? ((⟨B, 0, none⟩ : Addr).add j) = some u := by
  subst hB
  exact World.news_of_block (cs := #[a, b, c]) (t := t) (fr := (0, 0)) (heap_alloc_new w _)
theorem newpair (w : World) (a b : Value) (t : TypeId) : (w.alloc (.cells #[a, b] t)).drew.cell? ⟨w.heap.size, 0, none⟩ = some a ∧ (w.alloc (.cells #[a, b] t)).drew.cell? ⟨w.heap.size, 1, none⟩ = some b := new2d rfl a b t

set_option maxHeartbeats 1000000 in
theorem ways_any (base B : Nat) (S : Int × Int → List Pkt) (w : World) (hn : NetAt base w B S) (hbase : base ≤ w.heap.size) :
    Calls Tryd.prog 21 #[.pointer (some ⟨B, 0, none⟩)] w (WaysPost w.heap.size w S) := by
  obtain ⟨M, cm, L, hin⟩ := hn
  have k0 := hin.cell
  have hkeys := callsIn_wide.1 (keys_any Fence.wide 1 trivial rfl (some M) w)
  have ha : Below w.heap.size w (w.alloc (.cells #[.map (some M)] 60)) := (Below.refl _ _).alloc (Nat.le_refl _) _
  have hin1 := hin.below ha
  have hsrt := sorted_any w.heap.size M cm L (w.alloc (.cells #[.map (some M)] 60)) (by simp) (cell_one_new _ _ _ 0 _ rfl) hin1.map hin1.wf (Nat.le_trans hin.few (by decide))
  have HKEYS := Lib.hid hkeys
  have HSRT := Lib.hid hsrt
  have HIN := Lib.hid hin
  have HA := Lib.hid ha
  clear hkeys hsrt hin hin1 ha
  go_enter Tryd.func21, Tryd.ntmps21
  go_wp2_with (first
    | (go_at_call 33; refine HKEYS.out.mono ?_; rintro e w' ⟨rfl, rfl⟩))
  refine HSRT.out.mono ?_
  rintro e w1 ⟨v, l, rfl, hperm, hsort, hlie, hb⟩
  obtain ⟨A, c, rfl, hcells⟩ := waysLie_shape hlie
  have hb1 : Hid (Below w.heap.size w w1) := HA.out.trans (hb.mono (by simp))
  have hlen : l.length ≤ 81 := by have := hperm.length_eq; have := HIN.out.few; simp at *; omega
  have HMEM : Hid (∀ k, k ∈ l ↔ S k ≠ []) := fun k => (hperm.mem_iff).trans (HIN.out.key k)
  have HSORT : Hid (l.Pairwise ltW) := hsort
  have HC := Lib.hid hcells
  have HIN1 := Lib.hid (HIN.out.below hb1.out)
  obtain ⟨n, hnl⟩ : ∃ n, Hid (l.length = n) := ⟨_, rfl⟩
  have hn81 : Hid (n ≤ 81) := by have := hnl.out; simp only [Hid]; omega
  rw [hnl.out]
  obtain ⟨i0, hi0, hz0, hz1, hz2⟩ := info_parts wayT_info
  have hmx : Hid (∀ k, k < n → k + 1 ≤ maxLen) := fun k hk => Nat.le_trans (show k + 1 ≤ 81 by have := hn81.out; omega) (by decide)
  have hbx : Hid (∀ k, k < n → (k + 1) * 24 ≤ 140737488355328) := fun k hk => Nat.le_trans (Nat.mul_le_mul_right 24 (show k + 1 ≤ 81 by have := hn81.out; omega)) (by decide)
  clear hperm hsort hlie hb hlen hcells k0 HKEYS HSRT HA HIN
  have hbs : Hid (base ≤ w1.heap.size) := Nat.le_trans hbase hb1.out.size
  clear hbase
  go_wp2
  go_loopw [4, 17] (fun t i wr => ∃ (k : Nat) (A4 : Option Addr) (c4 : Nat), k ≤ n ∧ i = .int .i64 k ∧ t = .slice A4 k c4 ∧ Hid (wr.ownsRow w1.heap.size 58 3 (.slice A4 k c4) k (wayCells (waysOf S (l.take k))) ∧ Below w1.heap.size w1 wr)) (fun _ i _ => n - (intOf i).toNat)
  case atStart => exact ⟨0, none, 0, Nat.zero_le _, rfl, rfl, World.ownsRow_nil _ _ _ _, Below.refl _ _⟩
  case round =>
    obtain ⟨k, A4, c4, hk, rfl, rfl, HS⟩ := hrel
    by_cases hlt : k < n
    · have hkl : k < l.length := by rw [hnl.out]; exact hlt
      obtain ⟨g, rfl, d0, d1⟩ := HC.out k hkl
      have hg : g < w1.heap.size := World.block_lt_of_cell? w1 _ d0
      obtain ⟨x, hx⟩ : ∃ x, Hid (l[k] = x) := ⟨l[k], Lib.hid rfl⟩
      rw [hx.out] at d0 d1
      have e0 := (HS.out.2.cell (p := ⟨g, k * 2, none⟩) hg).trans d0
      have e1 := (HS.out.2.cell (p := ⟨g, k * 2 + 1, none⟩) hg).trans d1
      have hin2 := HIN1.out.below HS.out.2
      have k0 := hin2.cell
      obtain ⟨A5, c5, hv5⟩ := hin2.val x
      have hl5 := ((hin2.below ((Below.refl _ wr).alloc (Nat.le_refl _) (.cells #[.int .i64 x.1, .int .i64 x.2] 70))).below (drewN_below _ 1)).look x hv5
      have hl6 : (Instr.lookup 60 (.map (some M)) (.agg #[.int .i64 x.1, .int .i64 x.2]) false).run Tryd.prog (wr.alloc (.cells #[.int .i64 x.1, .int .i64 x.2] 70)).drew = .ok (.slice A5 (S x).length c5) (wr.alloc (.cells #[.int .i64 x.1, .int .i64 x.2] 70)).drew := hl5
      obtain ⟨q, hq⟩ : ∃ q, Hid ((S x).length = q) := ⟨_, rfl⟩
      rw [hq.out] at hl6
      have hk1 : IntKind.i64.wrap ((k : Int) + 1) = ((k + 1 : Nat) : Int) := by have := hn81.out; rw [IntKind.wrap_i64]; omega
      have hsz : w1.heap.size ≤ wr.heap.size := HS.out.2.size
      have hlt2 : ((k : Nat) : Int) < n := by omega
      have hb0 : ((0 : Int) ≤ k) := by omega
      clear hl5 hin2 hv5 d0 d1
      go_wp2
      have kB := cell_over wr (.cells #[.int .i64 x.1, .int .i64 x.2] 70) k0
      have kX := newpair wr (.int .i64 x.1) (.int .i64 x.2) 70
      have HROW : Hid (∀ o, ((wr.alloc (.cells #[.int .i64 x.1, .int .i64 x.2] 70)).drew.alloc o).ownsRow w1.heap.size 58 3 (.slice A4 k c4) k (wayCells (waysOf S (l.take k)))) := fun o =>
        ((HS.out.1.alloc (.cells #[.int .i64 x.1, .int .i64 x.2] 70)).alloc o)
      have HSZ : Hid (∀ o, w1.heap.size ≤ ((wr.alloc (.cells #[.int .i64 x.1, .int .i64 x.2] 70)).drew.alloc o).heap.size) := fun o => by simp; omega
      have HGR : Hid (∀ o w4, ((wr.alloc (.cells #[.int .i64 x.1, .int .i64 x.2] 70)).drew.alloc o).grownBy w4 (Value.slice A4 k c4).ownBlock →
          w4.cell? ⟨B, 0, none⟩ = some (.map (some M)) ∧ w4.cell? ⟨wr.heap.size, 0, none⟩ = some (.int .i64 x.1) ∧ w4.cell? ⟨wr.heap.size, 1, none⟩ = some (.int .i64 x.2)) := fun o w4 hg => by
        have hne : ∀ b, b < w1.heap.size ∨ b = wr.heap.size → some b ≠ (Value.slice A4 k c4).ownBlock := fun b hb e => by
          obtain ⟨cur, hh, h1, h2⟩ := own_block HS.out.1 e.symm
          rcases hb with hb | hb <;> omega
        have far : ∀ b i v, b < w1.heap.size ∨ b = wr.heap.size → (wr.alloc (.cells #[.int .i64 x.1, .int .i64 x.2] 70)).drew.cell? ⟨b, i, none⟩ = some v → w4.cell? ⟨b, i, none⟩ = some v := fun b i v hb hc => by
          have hlt := World.block_lt_of_cell? _ _ hc
          exact (World.cell?_of_block (w := (wr.alloc (.cells #[.int .i64 x.1, .int .i64 x.2] 70)).drew.alloc o) (hg.block b (by simp at hlt ⊢; omega) (hne b hb))).trans ((World.cell?_alloc_lt _ _ ⟨b, i, none⟩ hlt).trans hc)
        exact ⟨far B 0 _ (.inl HIN1.out.ltB) kB, far _ 0 _ (.inr rfl) kX.1, far _ 1 _ (.inr rfl) kX.2⟩
      go_region_held_law (fun w' => w'.cell? ⟨B, 0, none⟩ = some (.map (some M)) ∧ w'.cell? ⟨wr.heap.size, 0, none⟩ = some (.int .i64 x.1) ∧ w'.cell? ⟨wr.heap.size, 1, none⟩ = some (.int .i64 x.2))
        (first | assumption | exact ⟨kB, kX.1, kX.2⟩ | go_keep)
        ((refine step_append_lies _ (by rfl) _ _ _ (by rfl) w1.heap.size 58 i0 _ 3 24 Tryd.underlying53 hi0 hz0 hz1 hz2 rfl (by decide) (.slice A4 k c4) k (wayCells (waysOf S (l.take k))) (by rfl) (HROW.out _) ⟨wr.heap.size + 1, 0, none⟩ 1 1 [.int .i64 x.1, .int .i64 x.2, .int .i64 (q : Nat)] (by rfl) (by rfl) (newtri _ _ _ _ _ _ (by simp)) (by simp [Value.oneCell']) (by decide) (hmx.out k hlt) (hbx.out k hlt) (HSZ.out _) _ rfl ?_; intro g4 cap4 w4 hown4 hgrow4 hat4 hlt4; have hS4 := HGR.out _ _ hgrow4))
      all_goals
        have HF : Hid (w4.ownsRow w1.heap.size 58 3 (.slice (some ⟨g4, 0, none⟩) (k + 1) cap4) (k + 1) (wayCells (waysOf S (l.take (k + 1)))) ∧ Below w1.heap.size w1 w4) := by
          refine ⟨?_, ?_⟩
          · have e : l.take (k + 1) = l.take k ++ [x] := by rw [← hx.out]; exact (List.take_append_getElem hkl).symm
            have e2 : waysOf S (l.take (k + 1)) = waysOf S (l.take k) ++ [(x.1, x.2, (q : Int))] := by rw [e]; simp [waysOf, hq.out]
            rw [e2, wayCells_append, wayCells_one]
            exact hown4
          · refine HS.out.2.trans ((((Below.refl _ wr).alloc hsz (.cells #[.int .i64 x.1, .int .i64 x.2] 70)).drew.alloc (by simp; omega) (.cells #[.int .i64 x.1, .int .i64 x.2, .int .i64 (q : Nat)] 58)).grown hgrow4 (HSZ.out _) (fun b e => (HS.out.1.lt b e).1))
        clear hown4 hgrow4 hat4 hlt4 hS4 HGR HROW HSZ kB kX e0 e1 k0 hl6
        go_wp2
        go_roundw
        case rel => exact ⟨k + 1, _, _, hlt, by simp, rfl, HF.out⟩
        case measure => simp [intOf]; omega
    · have hkn : k = n := by omega
      subst hkn
      go_wp2
      go_ret
      refine ⟨hb1.out.trans (HS.out.2.mono hb1.out.size), _, l, rfl, HSORT.out, HMEM.out, ?_⟩
      have h := HS.out.1
      have e : l.take k = l := by rw [← hnl.out]; exact List.take_length
      rw [e] at h
      rw [hnl.out]
      exact ownsRow_lower h hb1.out.size
end Go.Proofs.YtgibpiakeaplbaaDoor
