/-
  disk: the pieces sorted by their turns (Crash's closure; slices.SortFunc). Own work.
-/
import Derived.Shelf.SlSortCmp.NoneTotal
import Derived.Test.YtfhdcjfkngflbaaDoorSort
import Derived.Test.YtfhdcjfkngflbaaDoorDiskCut4
import Derived.Sort.Grow
set_option linter.unusedSimpArgs false
set_option linter.unusedVariables false
namespace Go.Proofs.YtfhdcjfkngflbaaDoor
open Go Go.RowKit Go.Sort

/-- A piece whose turn is small enough that turns' differences don't wrap. -/
abbrev PT := Fin 4611686018427387905 × Int
def ptOf (x : PT) : Int × Int := ((x.1.val : Int), x.2)
def encP (x : PT) : List Value := [.int .i64 (x.1.val : Int), .int .i64 x.2]
def cmpP (x y : PT) : Int := (x.1.val : Int) - y.1.val
theorem ltOf_cmpP (x y : PT) : ltOf cmpP x y = decide (x.1.val < y.1.val) := by
  unfold ltOf cmpP
  by_cases h : x.1.val < y.1.val
  · simp [h]; omega
  · simp [h]; omega
theorem swoP : SWO (ltOf cmpP) where
  irrefl x := by rw [ltOf_cmpP]; simp
  trans x y z h1 h2 := by
    rw [ltOf_cmpP] at h1 h2 ⊢
    have h1 := of_decide_eq_true h1
    have h2 := of_decide_eq_true h2
    exact decide_eq_true (by omega)
  ntrans x y z h1 h2 := by
    rw [ltOf_cmpP] at h1 h2 ⊢
    have h1 := of_decide_eq_false h1
    have h2 := of_decide_eq_false h2
    exact decide_eq_false (by omega)

theorem closureP_any (x y : PT) (w : World) : Calls Tryd.prog 28 #[.agg #[.int .i64 (x.1.val : Int), .int .i64 x.2], .agg #[.int .i64 (y.1.val : Int), .int .i64 y.2]] w fun e w' => e = .returned (.int .i64 (cmpP x y)) ∧ ∃ q os', w' = Go.Sort.grow (w.drewN q) os' := by
  have hx := x.1.isLt
  have hy := y.1.isLt
  have hw : IntKind.i64.wrap ((x.1.val : Int) - y.1.val) = (x.1.val : Int) - y.1.val := by rw [IntKind.wrap_i64]; omega
  unfold cmpP
  obtain ⟨a, ha⟩ : ∃ a : Int, Hid ((x.1.val : Int) = a) := ⟨_, rfl⟩
  obtain ⟨b, hb⟩ : ∃ b : Int, Hid ((y.1.val : Int) = b) := ⟨_, rfl⟩
  rw [ha.out, hb.out] at hw ⊢
  clear hx hy
  go_enter Tryd.func28, Tryd.ntmps28
  go_wp2
  go_ret
  exact ⟨rfl, 0, _, by rw [Sort.alloc_eq_grow, Sort.alloc_eq_grow, Sort.grow_grow]; rfl⟩

theorem cmpLaysP (blk off size : Nat) (w : World) : CmpLays Tryd.prog 28 #[] encP 2 cmpP blk off size w :=
  fun _ _ _ _ x y => closureP_any x y _

theorem ptCells_get (l : List PT) (i : Nat) (hi : i < l.length) : (pieceCells (l.map ptOf))[i * 2]? = some (.int .i64 (l[i].1.val : Int)) ∧ (pieceCells (l.map ptOf))[i * 2 + 1]? = some (.int .i64 l[i].2) :=
  pieceCells_at (ptOf l[i]) (l.map ptOf) i (by simp [hi])

theorem holdsP_of_row {w : World} {base g c : Nat} {l : List PT} (h : w.ownsRow base 57 2 (.slice (some ⟨g, 0, none⟩) l.length c) l.length (pieceCells (l.map ptOf))) : HoldsK encP 2 w g 0 l.toArray := by
  rcases h.2 with ⟨h2, _⟩ | ⟨g', cap, cur, hv, hg, hh, h3, h4, h5, h6⟩
  · cases h2
  · injection hv with hv _ _
    injection hv with hv
    injection hv with hv _ _
    subst hv
    intro j hj
    have hj' : j < l.length * 2 := by simpa using hj
    have e : (flatK encP 2 l.toArray)[j]! = (encP l.toArray[j / 2]!)[j % 2]! := get_flatK encP 2 l.toArray j (by simpa using hj')
    have hq : j / 2 < l.length := by omega
    have hcur : cur[j]? = (pieceCells (l.map ptOf))[j]? := by
      rw [← h6, List.getElem?_take, if_pos hj']; simp
    refine ⟨?_, by simp [World.frozen?, hh]⟩
    have hc : w.cell? ⟨g, 0 + j, none⟩ = cur[j]? := by simp [World.cell?, hh]
    rw [hc, hcur]
    simp only [id_eq]
    rw [e]
    have hget : l.toArray[j / 2]! = l[j / 2] := by simp [hq]
    rw [hget]
    have hp := ptCells_get l (j / 2) hq
    rcases Nat.mod_two_eq_zero_or_one j with h0 | h1
    · have : j / 2 * 2 = j := by omega
      rw [this] at hp
      rw [hp.1, h0]; rfl
    · have : j / 2 * 2 + 1 = j := by omega
      rw [this] at hp
      rw [hp.2, h1]; rfl

/-- A slice of pieces, read cell by cell. -/
def PcsLie (w : World) (g : Nat) (l : List (Int × Int)) : Prop := ∀ i x, l[i]? = some x → w.cell? ⟨g, i * 2, none⟩ = some (.int .i64 x.1) ∧ w.cell? ⟨g, i * 2 + 1, none⟩ = some (.int .i64 x.2)
theorem pcsLie_of_holds {w : World} {g : Nat} {d : Array PT} (h : HoldsK encP 2 w g 0 d) : PcsLie w g (d.toList.map ptOf) := by
  intro i x hx
  have hi : i < d.size := by have := (List.getElem?_eq_some_iff.1 hx).1; simpa using this
  have a := h.cell (i := i) (c := 0) hi (by decide)
  have b := h.cell (i := i) (c := 1) hi (by decide)
  have hg : d[i]! = d.toList[i]'(by simpa using hi) := by simp [hi]
  rw [hg] at a b
  simp only [Nat.zero_add, Nat.add_zero] at a b
  have hxe : x = ptOf (d.toList[i]'(by simpa using hi)) := by
    rw [List.getElem?_map, List.getElem?_eq_getElem (by simpa using hi)] at hx
    simpa using hx.symm
  rw [hxe]
  exact ⟨a.1, b.1⟩

theorem below_sortP {w : World} {base g off n : Nat} {d : Array PT} {os : Array Obj} (hb : base ≤ g) (hs : base ≤ w.heap.size) : RowKit.Below base w (sortWorldK encP 2 w g off n d os) := by
  refine ⟨rfl, rfl, rfl, ?_, fun k hk => ?_⟩
  · simp [sortWorldK, Sort.grow, putRowK]
  · have h1 : k < (putRowK encP 2 (Sort.ahead w n) g off d).heap.size := by simp [putRowK]; omega
    unfold sortWorldK
    rw [Sort.heap_grow_old _ os h1]
    show (w.heap.modify g _)[k]? = _
    rw [Array.getElem?_modify, if_neg (by omega)]

set_option maxHeartbeats 1000000 in
/-- The pieces sorted: in the same slice, by rising turns. -/
theorem sortP_any (base : Nat) (A : Option Addr) (c : Nat) (l : List (Int × Int)) (w : World) (hrow : w.ownsRow base 57 2 (.slice A l.length c) l.length (pieceCells l)) (hbase : base ≤ w.heap.size) (hb : ∀ p ∈ l, 0 ≤ p.1 ∧ p.1 ≤ 4611686018427387904) (hnd : (l.map (·.1)).Nodup) (hlen : l.length ≤ 1000000) :
    Calls Tryd.prog 27 #[.slice A l.length c, .func (.func 28) #[] #[]] w fun e w' => e = .returned (.tuple #[]) ∧ ∃ l' : List (Int × Int), l'.Perm l ∧ l'.Pairwise (fun a b => a.1 < b.1) ∧ (∀ g, A = some ⟨g, 0, none⟩ → PcsLie w' g l') ∧ RowKit.Below base w w' := by
  have eg : ∀ args w, (callFunc 28 args).run Tryd.prog w = .ok (.enter 28 args) w := enters_of Tryd.func28 (by kernel_rfl) rfl
  obtain ⟨L, hL⟩ : ∃ L : List PT, L.map ptOf = l := by
    clear hrow hnd hlen
    induction l with
    | nil => exact ⟨[], rfl⟩
    | cons p l ih =>
      obtain ⟨L, hL⟩ := ih fun q hq => hb q (by simp [hq])
      have hp := hb p (by simp)
      refine ⟨(⟨p.1.toNat, by omega⟩, p.2) :: L, ?_⟩
      simp only [List.map_cons, hL, ptOf]
      congr 1
      refine Prod.ext ?_ rfl
      show ((p.1.toNat : Nat) : Int) = p.1
      omega
  subst hL
  by_cases hs : L = []
  · subst hs
    have hv : (Value.slice A 0 c) = .slice none 0 0 ∨ True := .inr trivial
    refine (AnyF.slices_SortFunc_none (ρ := Tryd.sortPcs_ren) Tryd.sortPcs A c _ w).mono ?_
    rintro e w' ⟨rfl, rfl⟩
    exact ⟨rfl, [], List.Perm.refl _, List.Pairwise.nil, fun g _ i x h => by simp at h, RowKit.Below.refl _ _⟩
  · obtain ⟨g, hAg, hg, hgl⟩ : ∃ g, A = some ⟨g, 0, none⟩ ∧ base ≤ g ∧ g < w.heap.size := by
      rcases hrow.2 with ⟨h2, h3⟩ | ⟨g', cap, cur, hv, hg, hh, _⟩
      · exact absurd (List.eq_nil_of_length_eq_zero (by simpa using h3)) hs
      · injection hv with hA _ _
        exact ⟨g', hA, hg, (Array.getElem?_eq_some_iff.1 hh).1⟩
    subst hAg
    simp only [List.length_map] at hrow hlen ⊢
    have hH := holdsP_of_row hrow
    have hc := AnyQ.slices_SortFunc (ρ := Tryd.sortPcs_ren) Tryd.sortPcs 2 Tryd.isAgg57 Tryd.sizeOf57 encP (fun _ => rfl) (fun x v hv => by simp [encP] at hv; rcases hv with rfl | rfl <;> rfl) cmpP swoP 28 #[] g 0 c L.toArray w eg (cmpLaysP g 0 L.toArray.size w) hH hgl (by simp; omega)
    simp only [List.size_toArray] at hc
    change Calls Tryd.prog 27 _ _ _ at hc
    refine hc.mono ?_
    rintro e w' ⟨rfl, d', n, os, hp, hsd, rfl⟩
    obtain ⟨hp1, _, hp3⟩ := hp
    have hsz : d'.size = L.length := by simpa using hp1
    have hpl : d'.toList.Perm L := by
      have := hp3
      rw [Array.extract_eq_self_of_le (by omega), Array.extract_eq_self_of_le (by simp)] at this
      simpa using this
    refine ⟨rfl, d'.toList.map ptOf, hpl.map ptOf, ?_, fun g2 hg2 => ?_, below_sortP hg hbase⟩
    · rw [List.pairwise_iff_getElem]
      intro i j hi hj hij
      have hi' : i < d'.size := by simpa using hi
      have hj' : j < d'.size := by simpa using hj
      have h1 := hsd i j (Nat.zero_le _) hij (by omega)
      rw [ltOf_cmpP] at h1
      have e1 : d'[i]! = d'.toList[i] := by simp [hi']
      have e2 : d'[j]! = d'.toList[j] := by simp [hj']
      rw [e1, e2] at h1
      have h2 : ¬ d'.toList[j].1.val < d'.toList[i].1.val := by simpa using h1
      have hnd' : ((d'.toList.map ptOf).map (·.1)).Nodup := ((hpl.map ptOf).map (·.1)).nodup_iff.2 hnd
      have hne : (d'.toList[i].1.val : Int) ≠ d'.toList[j].1.val := by
        have := List.pairwise_iff_getElem.1 (List.nodup_iff_pairwise_ne.1 hnd') i j (by simpa using hi') (by simpa using hj') hij
        simpa [ptOf] using this
      simp only [List.getElem_map, ptOf]
      omega
    · cases hg2
      have hH2 : HoldsK encP 2 (sortWorldK encP 2 w g 0 n d' os) g 0 d' := by
        refine holdsK_grow encP 2 _ os g 0 d' (by simpa [putRowK] using hgl) ?_
        exact holdsK_putRowK encP 2 (Sort.ahead w n) g 0 L.toArray d' (holdsK_ahead encP 2 w n g 0 L.toArray hH) (by simp [hsz])
      exact pcsLie_of_holds hH2
end Go.Proofs.YtfhdcjfkngflbaaDoor
