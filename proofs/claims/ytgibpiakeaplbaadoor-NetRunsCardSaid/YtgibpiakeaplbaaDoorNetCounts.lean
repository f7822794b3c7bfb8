/-
  net: the law NetCounts, walked. Own work.
-/
import Derived.Test.YtgibpiakeaplbaaDoorNetAwake
set_option linter.unusedSimpArgs false
set_option linter.unusedVariables false
namespace Go.Proofs.YtgibpiakeaplbaaDoor
open Go Go.RowKit

/-- A list of byte slices that came in, as it lies in memory. -/
def SlicesAt (w : World) (A : Option Addr) (l : List (List UInt8)) : Prop := ∀ i p, l[i]? = some p → ∃ g off A' c', A = some ⟨g, off, none⟩ ∧ w.cell? ⟨g, off + i, none⟩ = some (.slice A' p.length c') ∧ BytesAt w A' p

theorem updT_twice (T : Lines) (k : Int × Int) (a b : List (List UInt8)) : updT (updT T k a) k b = updT T k b := by
  funext k'
  unfold updT
  split <;> rfl

def lineT (k : Int × Int) (l : List (List UInt8)) : Lines := updT (fun _ => []) k l
theorem lineT_upd (k : Int × Int) (a b : List (List UInt8)) : updT (lineT k a) k b = lineT k b := updT_twice _ _ _ _
theorem lineT_at (k : Int × Int) (l : List (List UInt8)) : lineT k l k = l := updT_same _ _ _

/-- The ways of a net whose packets are all on one way. -/
theorem line_ways {k : Int × Int} {ls : List (List UInt8)} {l : List (Int × Int)} (hp : l.Pairwise ltW) (hm : ∀ k', k' ∈ l ↔ lineT k ls k' ≠ []) : (ls ≠ [] → l = [k]) ∧ (ls = [] → l = []) := by
  constructor
  · intro h
    refine one_way hp fun k' => (hm k').trans ?_
    by_cases e : k' = k
    · subst e; simp [lineT_at, h]
    · simp [lineT, updT, e]
  · intro h
    refine no_way fun k' => (hm k').trans ?_
    subst h
    by_cases e : k' = k
    · subst e; simp [lineT_at]
    · simp [lineT, updT, e]

theorem wayE_none {k : Int × Int} (h : wayB k = true) : wayE k = none := by simp [wayE, h]

set_option maxHeartbeats 1000000 in
theorem counts_out (A : Option Addr) (c : Nat) (n : Nat) (k1 k2 : Int) (w : World) (h : 100 < n ∨ (¬ 100 < n ∧ nodeB k1 = false) ∨ (¬ 100 < n ∧ nodeB k1 = true ∧ nodeB k2 = false) ∨ (¬ 100 < n ∧ nodeB k1 = true ∧ nodeB k2 = true ∧ k1 = k2)) :
    Calls Tryd.prog 6 #[.slice A n c, .int .i64 k1, .int .i64 k2] w fun e w' => e = .returned (.bool true) ∧ Below w.heap.size w w' := by
  have hn1 := fun W => node_ref k1 W
  have hn2 := fun W => node_ref k2 W
  rcases h with h | ⟨h, h1⟩ | ⟨h, h1, h2⟩ | ⟨h, h1, h2, h3⟩
  · have d : decide ((n : Int) > 100) = true := by simp; omega
    clear hn1 hn2
    go_enter Tryd.func6, Tryd.ntmps6
    go_wp2_with (go_at_call 7; refine (awake_any _).mono ?_; rintro e w1 ⟨rfl, hb⟩)
    go_ret
    exact ⟨rfl, hb⟩
  · have d : decide ((n : Int) > 100) = false := by simp; omega
    rw [h1] at hn1
    clear hn2
    go_enter Tryd.func6, Tryd.ntmps6
    go_wp2_with (first | (go_at_call 7; refine (awake_any _).mono ?_; rintro e w1 ⟨rfl, hb⟩) | (go_at_call 11; refine (hn1 _).mono ?_; rintro e w' ⟨rfl, rfl⟩))
    go_ret
    exact ⟨rfl, hb⟩
  · have d : decide ((n : Int) > 100) = false := by simp; omega
    rw [h1] at hn1
    rw [h2] at hn2
    go_enter Tryd.func6, Tryd.ntmps6
    go_wp2_with (first | (go_at_call 7; refine (awake_any _).mono ?_; rintro e w1 ⟨rfl, hb⟩) | (go_at_call 11; refine (hn1 _).mono ?_; clear hn1; rintro e w' ⟨rfl, rfl⟩) | (go_at_call 11; refine (hn2 _).mono ?_; rintro e w' ⟨rfl, rfl⟩))
    go_ret
    exact ⟨rfl, hb⟩
  · have d : decide ((n : Int) > 100) = false := by simp; omega
    subst h3
    rw [h1] at hn1
    clear hn2
    go_enter Tryd.func6, Tryd.ntmps6
    go_wp2_with (first | (go_at_call 7; refine (awake_any _).mono ?_; rintro e w1 ⟨rfl, hb⟩) | (go_at_call 11; refine (hn1 _).mono ?_; rintro e w' ⟨rfl, rfl⟩))
    go_ret
    exact ⟨rfl, hb⟩

set_option maxHeartbeats 2000000 in
theorem counts_in (A : Option Addr) (c : Nat) (l : List (List UInt8)) (k1 k2 : Int) (w : World) (hA : SlicesAt w A l) (hT : ErrT w) (hn : ¬ 100 < l.length) (h1 : nodeB k1 = true) (h2 : nodeB k2 = true) (h3 : ¬ k1 = k2) :
    Calls Tryd.prog 6 #[.slice A l.length c, .int .i64 k1, .int .i64 k2] w fun e w' => e = .returned (.bool true) ∧ Below w.heap.size w w' := by
  have hway : Hid (wayE (k1, k2) = none) := by simp [Hid, wayE, wayB, h1, h2, h3]
  have hn1 := fun W => (node_ref k1 W).mono (fun e w' h => And.intro h.1 h.2.symm)
  have hn2 := fun W => (node_ref k2 W).mono (fun e w' h => And.intro h.1 h.2.symm)
  rw [h1] at hn1
  rw [h2] at hn2
  obtain ⟨n, hnl⟩ : ∃ n, Hid (l.length = n) := ⟨_, Lib.hid rfl⟩
  rw [hnl.out] at hn ⊢
  have d : decide ((n : Int) > 100) = false := by simp; omega
  have hn100 : Hid (n ≤ 100) := by simp only [Hid]; omega
  have HA := Lib.hid hA
  have HT := Lib.hid hT
  clear hA hT hn h1 h2
  go_enter Tryd.func6, Tryd.ntmps6
  go_wp2_with (first | (go_at_call 7; refine (awake_any _).mono ?_; rintro e w1 ⟨rfl, hb⟩; have hb1 := Lib.hid hb; clear hb) | (go_at_call 11; refine (hn1 _).mono ?_; clear hn1; rintro e w' ⟨rfl, rfl⟩) | (go_at_call 11; refine (hn2 _).mono ?_; rintro e w' ⟨rfl, rfl⟩))
  refine (newNet_any _).mono ?_
  rintro e w' ⟨rfl, rfl⟩
  obtain ⟨w2, hw2⟩ : ∃ w2, w2 = (w1.alloc (.map #[] 0)).alloc (.cells #[.map (some w1.heap.size)] 62) := ⟨_, rfl⟩
  have hb2 : Hid (Below w1.heap.size w1 w2) := by rw [hw2]; exact ((Below.refl _ _).alloc (Nat.le_refl _) _).alloc (by simp) _
  have hx2 : Hid (NetB w1.heap.size w2 (w1.heap.size + 1) (lineT (k1, k2) [])) := by
    rw [hw2]
    have := netB_new w1
    have e : (fun _ => [] : Lines) = lineT (k1, k2) [] := by funext k'; unfold lineT updT; split <;> rfl
    rwa [e] at this
  rw [← hw2]
  clear hw2
  go_wp2
  go_loopw [40] (fun i wr => ∃ (j : Nat), j ≤ n ∧ i = .int .i64 j ∧ Hid (NetB w1.heap.size wr (w1.heap.size + 1) (lineT (k1, k2) (l.take j)) ∧ Below w1.heap.size w1 wr ∧ ∀ p ∈ l.take j, p.length ≤ 100)) (fun i _ => n - (intOf i).toNat)
  case atStart => exact ⟨0, Nat.zero_le _, rfl, hx2.out, hb2.out, by simp⟩
  case round =>
    obtain ⟨j, hj, rfl, HS⟩ := hrel
    by_cases hlt : j < n
    · obtain ⟨p, hp⟩ : ∃ p, Hid (l[j]? = some p) := ⟨_, List.getElem?_eq_getElem (by have := hnl.out; omega)⟩
      obtain ⟨g, off, A9, c9, rfl, hc, hby⟩ := HA.out j p hp.out
      have hg : g < w.heap.size := World.block_lt_of_cell? w _ hc
      have hbw : Hid (Below w.heap.size w wr) := hb1.out.trans (HS.out.2.1.mono hb1.out.size)
      have hc1 : wr.cell? ⟨g, off + j, none⟩ = some (.slice A9 p.length c9) := (hbw.out.cell (p := ⟨g, off + j, none⟩) hg).trans hc
      have HBY : Hid (BytesAt wr A9 p) := hby.below hbw.out
      obtain ⟨m, hm⟩ : ∃ m, Hid (p.length = m) := ⟨_, Lib.hid rfl⟩
      rw [hm.out] at hc1
      have hj0 : ((0 : Int) ≤ j) := by omega
      have hj1 : ((j : Nat) : Int) < n := by omega
      clear hc hby
      by_cases hm100 : 100 < m
      · have d2 : decide ((m : Int) > 100) = true := by simp; omega
        go_wp2
        go_ret
        exact ⟨rfl, hbw.out⟩
      · have d2 : decide ((m : Int) > 100) = false := by simp; omega
        have hwr : IntKind.i64.wrap ((j : Int) + 1) = ((j : Int) + 1) := by have := hn100.out; rw [IntKind.wrap_i64]; omega
        have HSEND : Hid (Calls Tryd.prog 12 #[.pointer (some ⟨w1.heap.size + 1, 0, none⟩), .int .i64 k1, .int .i64 k2, .slice A9 m c9] wr fun e w' => e = .returned .nilIface ∧ Below w1.heap.size wr w' ∧ NetB w1.heap.size w' (w1.heap.size + 1) (lineT (k1, k2) (l.take (j + 1)))) := by
          refine (send_ok w1.heap.size (w1.heap.size + 1) (lineT (k1, k2) (l.take j)) k1 k2 A9 m c9 p wr HS.out.1 HS.out.2.1.size HBY.out hm.out ?_).mono ?_
          · simp only [sendT, hway.out, lineT_at]
            rw [if_neg (by omega), if_neg (by simp; have := hn100.out; omega)]
          · rintro e w' ⟨rfl, h4, h5⟩
            rw [lineT_at, lineT_upd] at h5
            have e1 : l.take j ++ [p] = l.take (j + 1) := by
              have h6 := hp.out
              obtain ⟨h7, h8⟩ := List.getElem?_eq_some_iff.1 h6
              rw [← h8, List.take_append_getElem]
            rw [e1] at h5
            exact ⟨rfl, h4, h5⟩
        have hlenj : Hid ((l.take (j + 1)).length = j + 1) := by simp [Hid]; have := hnl.out; omega
        have HDBL : Hid (∀ W, NetB w1.heap.size W (w1.heap.size + 1) (lineT (k1, k2) (l.take (j + 1))) → w1.heap.size ≤ W.heap.size → Calls Tryd.prog 15 #[.pointer (some ⟨w1.heap.size + 1, 0, none⟩), .int .i64 k1, .int .i64 k2, .int .i64 (j : Nat)] W fun e w' => e = .returned .nilIface ∧ Below w1.heap.size W w' ∧ NetB w1.heap.size w' (w1.heap.size + 1) (lineT (k1, k2) (l.take (j + 1) ++ [p]))) := by
          intro W hW hs
          refine (double_ok w1.heap.size (w1.heap.size + 1) _ k1 k2 j W hW hs ?_).mono ?_
          · have := hlenj.out
            simp only [doubleT, placeT, hway.out, lineT_at, this]
            rw [if_neg (by omega)]
            simp only
            rw [if_neg (by have := hn100.out; omega)]
          · rintro e w' ⟨rfl, h4, h5⟩
            rw [lineT_at, lineT_upd] at h5
            have e1 : (l.take (j + 1)).getD (j : Int).toNat [] = p := by
              simp [List.getD, List.getElem?_take, hp.out]
            rw [e1] at h5
            exact ⟨rfl, h4, h5⟩
        have HLOS : Hid (∀ W, NetB w1.heap.size W (w1.heap.size + 1) (lineT (k1, k2) (l.take (j + 1) ++ [p])) → w1.heap.size ≤ W.heap.size → Calls Tryd.prog 16 #[.pointer (some ⟨w1.heap.size + 1, 0, none⟩), .int .i64 k1, .int .i64 k2, .int .i64 ((j : Int) + 1)] W fun e w' => e = .returned .nilIface ∧ Below w1.heap.size W w' ∧ NetB w1.heap.size w' (w1.heap.size + 1) (lineT (k1, k2) (l.take (j + 1)))) := by
          intro W hW hs
          refine (lose_ok w1.heap.size (w1.heap.size + 1) _ k1 k2 ((j : Int) + 1) W hW hs ?_).mono ?_
          · have := hlenj.out
            simp only [placeT, hway.out, lineT_at, List.length_append, this]
            rw [if_neg (by simp; omega)]
          · rintro e w' ⟨rfl, h4, h5⟩
            rw [lineT_at, lineT_upd] at h5
            have e0 : ((j : Int) + 1).toNat = j + 1 := by omega
            have e1 : (l.take (j + 1) ++ [p]).eraseIdx ((j : Int) + 1).toNat = l.take (j + 1) := by
              rw [e0, List.eraseIdx_append_of_length_le (by rw [hlenj.out]; exact Nat.le_refl _), hlenj.out]
              simp
            rw [e1] at h5
            exact ⟨rfl, h4, h5⟩
        have HP : Hid (∀ q ∈ l.take (j + 1), q.length ≤ 100) := by
          intro q hq
          obtain ⟨h7, h8⟩ := List.getElem?_eq_some_iff.1 hp.out
          rw [← List.take_append_getElem h7, h8] at hq
          rcases List.mem_append.1 hq with hq | hq
          · exact HS.out.2.2 q hq
          · obtain rfl : q = p := by simpa using hq
            have := hm.out; omega
        go_wp2_with (first
          | (go_at_call 12; refine HSEND.out.mono ?_; rintro e w3 ⟨rfl, hb3, hx3⟩; have HB3 := Lib.hid (HS.out.2.1.trans hb3); have HX3 := Lib.hid hx3; clear hb3 hx3)
          | (go_at_call 15; refine (HDBL.out _ HX3.out HB3.out.size).mono ?_; rintro e w4 ⟨rfl, hb4, hx4⟩; have HB4 := Lib.hid (HB3.out.trans hb4); have HX4 := Lib.hid hx4; clear hb4 hx4)
          | (go_at_call 16; refine (HLOS.out _ HX4.out HB4.out.size).mono ?_; rintro e w5 ⟨rfl, hb5, hx5⟩; have HB5 := Lib.hid (HB4.out.trans hb5); have HX5 := Lib.hid hx5; clear hb5 hx5))
        all_goals
          refine ⟨⟨j + 1, hlt, by simp, ?_⟩, by simp [intOf]; omega⟩
          first | exact ⟨HX5.out, HB5.out, HP.out⟩ | exact ⟨HX3.out, HB3.out, HP.out⟩
    · have hjn : j = n := by omega
      subst hjn
      have HX : Hid (NetB w1.heap.size wr (w1.heap.size + 1) (lineT (k1, k2) (l.drop 0))) := by
        have h := HS.out.1
        rw [← hnl.out, List.take_length] at h
        exact h
      have HBR : Hid (Below w1.heap.size w1 wr) := HS.out.2.1
      clear HS hlt hj
      go_wp2
      go_loopw [82] (fun i w2 => ∃ (j2 : Nat), j2 ≤ j ∧ i = .int .i64 j2 ∧ Hid (NetB w1.heap.size w2 (w1.heap.size + 1) (lineT (k1, k2) (l.drop j2)) ∧ Below w1.heap.size w1 w2)) (fun i _ => j - (intOf i).toNat)
      case atStart => exact ⟨0, Nat.zero_le _, rfl, HX.out, HBR.out⟩
      case round =>
        obtain ⟨q, hq, rfl, HS⟩ := hrel
        have hql : (l.drop q).length = j - q := by rw [List.length_drop, hnl.out]
        have hwb := ways_b w1.heap.size (w1.heap.size + 1) _ _ HS.out.1 HS.out.2.size
        by_cases hlt : q < j
        · obtain ⟨p, hp⟩ : ∃ p, Hid (l[q]? = some p) := ⟨_, List.getElem?_eq_getElem (by have := hnl.out; omega)⟩
          obtain ⟨g, off, A9, c9, rfl, hc, hby⟩ := HA.out q p hp.out
          have hg : g < w.heap.size := World.block_lt_of_cell? w _ hc
          have hbw : Hid (Below w.heap.size w wr) := hb1.out.trans (HS.out.2.mono hb1.out.size)
          have hc1 : wr.cell? ⟨g, off + q, none⟩ = some (.slice A9 p.length c9) := (hbw.out.cell (p := ⟨g, off + q, none⟩) hg).trans hc
          have HBY : Hid (BytesAt wr A9 p) := hby.below hbw.out
          have hj0 : ((0 : Int) ≤ q) := by omega
          have hj1 : ((q : Nat) : Int) < j := by omega
          have hne : l.drop q ≠ [] := fun e => by rw [e] at hql; simp at hql; omega
          have hd0 : (l.drop q)[0]? = some p := by rw [List.getElem?_drop]; simpa using hp.out
          have hds : (l.drop q).eraseIdx 0 = l.drop (q + 1) := by
            have h7 : q < l.length := by have := hnl.out; omega
            rw [List.drop_eq_getElem_cons h7]; rfl
          have hw2 : IntKind.i64.wrap ((q : Int) + 1) = ((q : Int) + 1) := by have := hn100.out; rw [IntKind.wrap_i64]; omega
          have hcnt : IntKind.i64.wrap ((j : Int) - q) = ((j - q : Nat) : Int) := by have := hn100.out; rw [IntKind.wrap_i64]; omega
          have HWAYS : Hid (Calls Tryd.prog 21 #[.pointer (some ⟨w1.heap.size + 1, 0, none⟩)] wr fun e w3 => ∃ gw cw, e = .returned (.slice (some ⟨gw, 0, none⟩) 1 cw) ∧ w3.cell? ⟨gw, 2, none⟩ = some (.int .i64 ((j - q : Nat) : Int)) ∧ w3.cell? ⟨g, off + q, none⟩ = some (.slice A9 p.length c9) ∧ Hid (Below wr.heap.size wr w3)) := by
            refine hwb.mono ?_
            rintro e w3 ⟨h4, A3, c3, l3, rfl, h5, h6, h7⟩
            obtain rfl := (line_ways h5 h6).1 hne
            obtain ⟨gw, rfl, _, _, _, _, d2⟩ := wayCells_row h7 0 (k1, k2, ((j - q : Nat) : Int)) (by simp [waysT, lineT_at, hql])
            exact ⟨gw, c3, rfl, d2, (h4.cell (p := ⟨g, off + q, none⟩) (World.block_lt_of_cell? wr _ hc1)).trans hc1, h4⟩
          have HDEL : Hid (∀ W, Below wr.heap.size wr W → Calls Tryd.prog 19 #[.pointer (some ⟨w1.heap.size + 1, 0, none⟩), .int .i64 k1, .int .i64 k2, .int .i64 0] W fun e w4 => ∃ A4 c4, e = .returned (.tuple #[.slice A4 p.length c4, .nilIface]) ∧ Hid (Below w1.heap.size w1 w4 ∧ BytesAt w4 A4 p ∧ BytesAt w4 A9 p ∧ NetB w1.heap.size w4 (w1.heap.size + 1) (lineT (k1, k2) (l.drop (q + 1))))) := by
            intro W hW
            have hb5 : Below w1.heap.size w1 W := HS.out.2.trans (hW.mono HS.out.2.size)
            refine (deliver_ok w1.heap.size (w1.heap.size + 1) _ k1 k2 0 p W (HS.out.1.below hW) hb5.size ?_ ?_).mono ?_
            · simp only [placeT, hway.out, lineT_at, hql]
              rw [if_neg (by omega)]
            · rw [lineT_at]; exact hd0
            · rintro e w4 ⟨A4, c4, rfl, h4, h5, h6⟩
              rw [lineT_at, lineT_upd] at h6
              have h7 : NetB w1.heap.size w4 (w1.heap.size + 1) (lineT (k1, k2) (l.drop (q + 1))) := by rw [← hds]; exact h6
              refine ⟨A4, c4, rfl, hb5.trans h4, h5, ⟨HBY.out.1, fun ad e j u hu => ?_⟩, h7⟩
              have hcc := (hby.below hb1.out).2 ad e j u hu
              exact (World.cell?_of_block (w := w1) ((hb5.trans h4).block _ (World.block_lt_of_cell? w1 _ hcc))).trans hcc
          clear hwb hby hc hd0 hds hne hql
          go_wp2_with (first
            | (go_at_call 21; refine HWAYS.out.mono ?_; rintro e w3 ⟨gw, cw, rfl, d2, hc3, HB3⟩)
            | (go_at_call 19; refine (HDEL.out _ HB3.out).mono ?_; rintro e w4 ⟨A4, c4, rfl, H4⟩)
            | (go_at_call 20; refine (bytes_any A9 A4 p p c9 c4 _ H4.out.2.2.1 H4.out.2.1).mono ?_; rintro e w5 ⟨rfl, rfl⟩))
          all_goals exact ⟨⟨q + 1, hlt, by simp, H4.out.2.2.2, H4.out.1⟩, by simp [intOf]; omega⟩
        · have hqj : q = j := by omega
          subst hqj
          have hnil : l.drop q = [] := List.eq_nil_of_length_eq_zero (by omega)
          have HN : Hid (NetB w1.heap.size wr (w1.heap.size + 1) (lineT (k1, k2) [])) := by rw [← hnil]; exact HS.out.1
          have hpl : placeT (lineT (k1, k2) []) (k1, k2) 0 = some 10 := by simp [placeT, hway.out, lineT_at]
          have HDEL : Hid (Calls Tryd.prog 19 #[.pointer (some ⟨w1.heap.size + 1, 0, none⟩), .int .i64 k1, .int .i64 k2, .int .i64 0] wr fun e w4 => e = .returned (.tuple #[.slice none 0 0, .iface 39 (.int .i64 10)]) ∧ Hid (Below w1.heap.size w1 w4 ∧ NetB w1.heap.size w4 (w1.heap.size + 1) (lineT (k1, k2) []))) := by
            refine (deliver_b w1.heap.size (w1.heap.size + 1) _ (k1, k2) 0 wr HN.out HS.out.2.size).mono ?_
            rintro e w4 ⟨h4, A4, bs4, c4, rfl, _, h5, _, h6⟩
            obtain ⟨rfl, rfl, rfl⟩ := h5 (by rw [hpl]; simp)
            rw [if_neg (by rw [hpl]; simp)] at h6
            exact ⟨by rw [hpl]; rfl, HS.out.2.trans h4, h6⟩
          have HWAYS : Hid (∀ W, Below w1.heap.size w1 W → NetB w1.heap.size W (w1.heap.size + 1) (lineT (k1, k2) []) → Calls Tryd.prog 21 #[.pointer (some ⟨w1.heap.size + 1, 0, none⟩)] W fun e w3 => ∃ A3 c3, e = .returned (.slice A3 0 c3) ∧ Hid (Below W.heap.size W w3)) := by
            intro W hW hN
            refine (ways_b w1.heap.size (w1.heap.size + 1) _ W hN hW.size).mono ?_
            rintro e w3 ⟨h4, A3, c3, l3, rfl, h5, h6, h7⟩
            obtain rfl := (line_ways h5 h6).2 rfl
            exact ⟨A3, c3, rfl, h4⟩
          have HFAILS : Hid (∀ W, Below w1.heap.size w1 W → Calls Tryd.prog 14 #[.iface 39 (.int .i64 10), .agg #[.bool true, .slice none 0 0, .int .i64 10]] W fun e w' => e = .returned (.bool true) ∧ Hid (Below W.heap.size W w')) := by
            intro W hW
            refine (fails_plain 10 10 W (HT.out.below (hb1.out.trans (hW.mono hb1.out.size)))).mono ?_
            rintro e w6 ⟨rfl, hb6⟩
            exact ⟨rfl, hb6⟩
          clear hwb hnil hpl hql HX HBR HA hn2 d HS
          go_wp2_with fail
          refine HDEL.out.mono ?_
          rintro e w4 ⟨rfl, H4⟩
          clear HDEL
          go_wp2_with fail
          refine (n_any 10 _).mono ?_
          rintro e w5 ⟨rfl, hb5⟩
          have H5 : Hid (Below w1.heap.size w1 w5 ∧ NetB w1.heap.size w5 (w1.heap.size + 1) (lineT (k1, k2) [])) := ⟨H4.out.1.trans (hb5.mono H4.out.1.size), H4.out.2.below hb5⟩
          clear hb5 H4
          go_wp2_with fail
          refine (HFAILS.out _ H5.out.1).mono ?_
          rintro e w6 ⟨rfl, hb6⟩
          have H6 : Hid (Below w1.heap.size w1 w6 ∧ NetB w1.heap.size w6 (w1.heap.size + 1) (lineT (k1, k2) [])) := ⟨H5.out.1.trans (hb6.out.mono H5.out.1.size), H5.out.2.below hb6.out⟩
          clear hb6 H5 HFAILS
          go_wp2_with fail
          refine (HWAYS.out _ H6.out.1 H6.out.2).mono ?_
          rintro e w7 ⟨A7, c7, rfl, H8⟩
          have H7 : Hid (Below w.heap.size w w7) := hb1.out.trans ((H6.out.1.trans (H8.out.mono H6.out.1.size)).mono hb1.out.size)
          clear H6 H8 HWAYS
          go_wp2
          go_ret
          exact ⟨rfl, H7.out⟩

theorem counts_any (A : Option Addr) (c : Nat) (l : List (List UInt8)) (k1 k2 : Int) (w : World) (hA : SlicesAt w A l) (hT : ErrT w) :
    Calls Tryd.prog 6 #[.slice A l.length c, .int .i64 k1, .int .i64 k2] w fun e w' => e = .returned (.bool true) ∧ Below w.heap.size w w' := by
  by_cases h0 : 100 < l.length
  · exact counts_out A c _ k1 k2 w (.inl h0)
  · cases h1 : nodeB k1 with
    | false => exact counts_out A c _ k1 k2 w (.inr (.inl ⟨h0, h1⟩))
    | true =>
      cases h2 : nodeB k2 with
      | false => exact counts_out A c _ k1 k2 w (.inr (.inr (.inl ⟨h0, h1, h2⟩)))
      | true =>
        by_cases h3 : k1 = k2
        · exact counts_out A c _ k1 k2 w (.inr (.inr (.inr ⟨h0, h1, h2, h3⟩)))
        · exact counts_in A c l k1 k2 w hA hT h0 h1 h2 h3
end Go.Proofs.YtgibpiakeaplbaaDoor
