/-
  net: slices.SortedFunc(maps.Keys(lines), by From and To): every way once, in order. Own work.
-/
import Derived.Shelf.SlSortCmp.NoneTotal
import Derived.Test.YtgibpiakeaplbaaDoorSort
import Derived.Test.YtgibpiakeaplbaaDoorNetCmp
import Derived.Test.YtgibpiakeaplbaaDoorNetCollect
import Derived.Lib.Hide
set_option linter.unusedSimpArgs false
set_option linter.unusedVariables false
namespace Go.Proofs.YtgibpiakeaplbaaDoor
open Go Go.RowKit Go.Sort

def encW (x : Int × Int) : List Value := [.int .i64 x.1, .int .i64 x.2]
def ltW (x y : Int × Int) : Prop := x.1 < y.1 ∨ (x.1 = y.1 ∧ x.2 < y.2)

instance (x y : Int × Int) : Decidable (ltW x y) := by unfold ltW; infer_instance
theorem ltOf_cmpW (x y : Int × Int) : ltOf cmpW x y = decide (ltW x y) := by
  unfold ltOf cmpW ltW cmpI
  by_cases a1 : x.1 < y.1
  · simp [a1]
  · by_cases a2 : y.1 < x.1
    · simp [a1, a2]; omega
    · by_cases b1 : x.2 < y.2
      · simp [a1, a2, b1]; omega
      · by_cases b2 : y.2 < x.2
        · simp [a1, a2, b1, b2]
        · simp [a1, a2, b1, b2]

theorem swoW : SWO (ltOf cmpW) where
  irrefl x := by rw [ltOf_cmpW]; simp [ltW]
  trans x y z h1 h2 := by
    rw [ltOf_cmpW] at h1 h2 ⊢
    have h1 := of_decide_eq_true h1
    have h2 := of_decide_eq_true h2
    refine decide_eq_true ?_
    unfold ltW at *; omega
  ntrans x y z h1 h2 := by
    rw [ltOf_cmpW] at h1 h2 ⊢
    have h1 := of_decide_eq_false h1
    have h2 := of_decide_eq_false h2
    refine decide_eq_false ?_
    unfold ltW at *; omega

theorem pairCells_length (l : List (Int × Int)) : (pairCells l).length = l.length * 2 := by
  induction l with
  | nil => rfl
  | cons x l ih => simp only [pairCells, List.flatMap_cons, List.length_append, List.length_cons] at ih ⊢; rw [ih]; simp; omega
theorem pairCells_get (l : List (Int × Int)) (i : Nat) (hi : i < l.length) : (pairCells l)[i * 2]? = some (.int .i64 l[i].1) ∧ (pairCells l)[i * 2 + 1]? = some (.int .i64 l[i].2) := by
  induction l generalizing i with
  | nil => simp at hi
  | cons x l ih =>
    have e : pairCells (x :: l) = [.int .i64 x.1, .int .i64 x.2] ++ pairCells l := rfl
    rw [e]
    cases i with
    | zero => simp
    | succ i =>
      have := ih i (by simpa using hi)
      have e1 : (i + 1) * 2 = i * 2 + 2 := by omega
      have e2 : (i + 1) * 2 + 1 = i * 2 + 1 + 2 := by omega
      rw [e1, List.getElem?_append_right (by simp), List.getElem?_append_right (by simp)]
      simpa using this

/-- A slice of ways, read cell by cell. -/
def WaysLie (w : World) (v : Value) (l : List (Int × Int)) : Prop :=
  (v = .slice none 0 0 ∧ l = []) ∨ ∃ g c, v = .slice (some ⟨g, 0, none⟩) l.length c ∧ ∀ i (hi : i < l.length), w.cell? ⟨g, i * 2, none⟩ = some (.int .i64 l[i].1) ∧ w.cell? ⟨g, i * 2 + 1, none⟩ = some (.int .i64 l[i].2)

theorem holdsK_of_row {w : World} {base g c : Nat} {l : List (Int × Int)} (h : w.ownsRow base 70 2 (.slice (some ⟨g, 0, none⟩) l.length c) l.length (pairCells l)) (hl : l ≠ []) : HoldsK encW 2 w g 0 l.toArray := by
  rcases h.2 with ⟨h2, _⟩ | ⟨g', cap, cur, hv, hg, hh, h3, h4, h5, h6⟩
  · cases h2
  · injection hv with hv _ _
    injection hv with hv
    injection hv with hv _ _
    subst hv
    intro j hj
    have hj' : j < l.length * 2 := by simpa using hj
    have e : (flatK encW 2 l.toArray)[j]! = (encW l.toArray[j / 2]!)[j % 2]! := get_flatK encW 2 l.toArray j (by simpa using hj')
    have hq : j / 2 < l.length := by omega
    have hcur : cur[j]? = (pairCells l)[j]? := by
      rw [← h6, List.getElem?_take, if_pos hj']; simp
    refine ⟨?_, by simp [World.frozen?, hh]⟩
    have hc : w.cell? ⟨g, 0 + j, none⟩ = cur[j]? := by simp [World.cell?, hh]
    rw [hc, hcur]
    simp only [id_eq]
    rw [e]
    have hget : l.toArray[j / 2]! = l[j / 2] := by simp [hq]
    rw [hget]
    have hp := pairCells_get l (j / 2) hq
    rcases Nat.mod_two_eq_zero_or_one j with h0 | h1
    · have : j / 2 * 2 = j := by omega
      rw [this] at hp
      rw [hp.1, h0]; rfl
    · have : j / 2 * 2 + 1 = j := by omega
      rw [this] at hp
      rw [hp.2, h1]; rfl

theorem waysLie_of_holds {w : World} {g c : Nat} {d : Array (Int × Int)} (h : HoldsK encW 2 w g 0 d) : WaysLie w (.slice (some ⟨g, 0, none⟩) d.size c) d.toList := by
  refine .inr ⟨g, c, by simp, fun i hi => ?_⟩
  have hi' : i < d.size := by simpa using hi
  have a := h.cell (i := i) (c := 0) hi' (by decide)
  have b := h.cell (i := i) (c := 1) hi' (by decide)
  have hg : d[i]! = d.toList[i] := by simp [hi']
  rw [hg] at a b
  simp only [Nat.zero_add, Nat.add_zero] at a b
  exact ⟨a.1, b.1⟩

theorem below_sortWorld {w : World} {base g off n : Nat} {d : Array (Int × Int)} {os : Array Obj} (hb : base ≤ g) (hs : base ≤ w.heap.size) : RowKit.Below base w (sortWorldK encW 2 w g off n d os) := by
  refine ⟨rfl, rfl, rfl, ?_, fun k hk => ?_⟩
  · simp [sortWorldK, Sort.grow, putRowK]
  · have h1 : k < (putRowK encW 2 (Sort.ahead w n) g off d).heap.size := by simp [putRowK]; omega
    unfold sortWorldK
    rw [Sort.heap_grow_old _ os h1]
    show (w.heap.modify g _)[k]? = _
    rw [Array.getElem?_modify, if_neg (by omega)]

theorem cmpLaysW (blk off size : Nat) (w : World) : CmpLays Tryd.prog 34 #[] encW 2 cmpW blk off size w :=
  fun _ _ _ _ x y => closure_any x y _

set_option maxHeartbeats 1000000 in
theorem sorted_any (Bm b c : Nat) (L : List (MEnt (Int × Int))) (w : World) (hBm : Bm < w.heap.size) (hm : w.cell? ⟨Bm, 0, none⟩ = some (.map (some b))) (hat : MapAt pairV w b L c) (hwf : MWf L c) (hL : L.length ≤ 1000000) :
    Calls Tryd.prog 32 #[.func (.func 43) #[] #[.pointer (some ⟨Bm, 0, none⟩)], .func (.func 34) #[] #[]] w fun e w' =>
      ∃ v l, e = .returned v ∧ l.Perm (L.map (·.k)) ∧ l.Pairwise ltW ∧ WaysLie w' v l ∧ RowKit.Below w.heap.size w w' := by
  have hcol := callsIn_wide.1 (collect_in Fence.wide 3 trivial trivial rfl (by decide) 43 #[.pointer (some ⟨Bm, 0, none⟩)] trivial
    (enters_of Tryd.func43 (by kernel_rfl) rfl) _ _ L.length hL w (keys_stops Fence.wide 1 trivial rfl (by decide) Bm b c L w hBm hm hat hwf))
  have eg : ∀ args w, (callFunc 34 args).run Tryd.prog w = .ok (.enter 34 args) w := enters_of Tryd.func34 (by kernel_rfl) rfl
  have hnd : Hid (L.map (·.k)).Nodup := hwf.keys
  have hL' : Hid (L.length ≤ 1000000) := hL
  clear hat hwf hL hm hBm
  have HCOL := Lib.hid hcol
  clear hcol
  go_enter Tryd.func32, Tryd.ntmps32
  go_wp2_with fail
  refine HCOL.out.mono ?_
  rintro e w1 ⟨v, ss, rfl, hperm, hrow, hnil, hb⟩
  have hcon : Calls Tryd.prog 42 #[v, .func (.func 34) #[] #[]] w1 fun e w' => e = .returned (.tuple #[]) ∧ Hid (∃ l, l.Perm (L.map (·.k)) ∧ l.Pairwise ltW ∧ WaysLie w' v l ∧ RowKit.Below w.heap.size w w') := by
    by_cases hs : ss = []
    · have hv := hnil.2 hs
      subst hv
      refine (AnyF.slices_SortFunc_none (ρ := Tryd.sortWays_ren) Tryd.sortWays none 0 _ w1).mono ?_
      rintro e w' ⟨rfl, rfl⟩
      subst hs
      exact ⟨rfl, [], hperm, List.Pairwise.nil, .inl ⟨rfl, rfl⟩, hb⟩
    · have hsh : ∃ g cap, v = .slice (some ⟨g, 0, none⟩) ss.length cap ∧ w.heap.size ≤ g ∧ g < w1.heap.size := by
        rcases hrow.2 with ⟨h2, h3⟩ | ⟨g', cap, cur, hv, hg, hh, _⟩
        · exact absurd (List.eq_nil_of_length_eq_zero h3) hs
        · exact ⟨g', cap, hv, hg, (Array.getElem?_eq_some_iff.1 hh).1⟩
      obtain ⟨g, cap, rfl, hg, hgl⟩ := hsh
      have hH := holdsK_of_row hrow hs
      have hlen : ss.length = L.length := by have := hperm.length_eq; simpa using this
      have hc := AnyQ.slices_SortFunc (ρ := Tryd.sortWays_ren) Tryd.sortWays 2 Tryd.isAgg70 Tryd.sizeOf70 encW (fun _ => rfl) (fun x v hv => by simp [encW] at hv; rcases hv with rfl | rfl <;> rfl) cmpW swoW 34 #[] g 0 cap ss.toArray w1 eg (cmpLaysW g 0 ss.toArray.size w1) hH hgl (by have := hL'.out; simp; omega)
      simp only [List.size_toArray] at hc
      change Calls Tryd.prog 42 _ _ _ at hc
      refine hc.mono ?_
      rintro e w' ⟨rfl, d', n, os, hp, hsd, rfl⟩
      obtain ⟨hp1, _, hp3⟩ := hp
      have hsz : d'.size = ss.length := by simpa using hp1
      have hpl : d'.toList.Perm ss := by
        have := hp3
        rw [Array.extract_eq_self_of_le (by omega), Array.extract_eq_self_of_le (by simp)] at this
        simpa using this
      refine ⟨rfl, d'.toList, hpl.trans hperm, ?_, ?_, hb.trans (below_sortWorld hg hb.size)⟩
      · rw [List.pairwise_iff_getElem]
        intro i j hi hj hij
        have hi' : i < d'.size := by simpa using hi
        have hj' : j < d'.size := by simpa using hj
        have h1 := hsd i j (Nat.zero_le _) hij (by omega)
        rw [ltOf_cmpW] at h1
        have e1 : d'[i]! = d'.toList[i] := by simp [hi']
        have e2 : d'[j]! = d'.toList[j] := by simp [hj']
        rw [e1, e2] at h1
        have h2 : ¬ ltW d'.toList[j] d'.toList[i] := by simpa using h1
        have hnd' : d'.toList.Nodup := (hpl.trans hperm).nodup_iff.2 hnd.out
        have hne : d'.toList[i] ≠ d'.toList[j] := fun e => by
          have := (List.nodup_iff_pairwise_ne.1 hnd')
          exact List.pairwise_iff_getElem.1 this i j hi hj hij e
        have hne2 : ¬ (d'.toList[i].1 = d'.toList[j].1 ∧ d'.toList[i].2 = d'.toList[j].2) := fun h => hne (Prod.ext h.1 h.2)
        unfold ltW at h2 ⊢
        omega
      · have hH2 : HoldsK encW 2 (sortWorldK encW 2 w1 g 0 n d' os) g 0 d' := by
          refine holdsK_grow encW 2 _ os g 0 d' (by simpa [putRowK] using hgl) ?_
          exact holdsK_putRowK encW 2 (Sort.ahead w1 n) g 0 ss.toArray d' (holdsK_ahead encW 2 w1 n g 0 ss.toArray hH) (by simp [hsz])
        have := waysLie_of_holds (c := cap) hH2
        rw [hsz] at this
        exact this
  have HCON := Lib.hid hcon
  clear hcon hrow hnil hb hperm
  go_wp2_with (go_at_call 42; refine HCON.out.mono ?_; rintro e w' ⟨rfl, hfin⟩)
  go_ret
  obtain ⟨l, h1, h2, h3, h4⟩ := hfin.out
  exact ⟨v, l, rfl, h1, h2, h3, h4⟩

end Go.Proofs.YtgibpiakeaplbaaDoor
