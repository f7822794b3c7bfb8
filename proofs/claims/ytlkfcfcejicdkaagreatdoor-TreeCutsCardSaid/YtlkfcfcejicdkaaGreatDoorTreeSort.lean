/-
  tree: links sorted by compare (slices.SortFunc). Own work.
-/
import Derived.Shelf.SlSortCmp.NoneTotal
import Derived.Test.YtlkfcfcejicdkaaGreatDoorSort
import Derived.Test.YtlkfcfcejicdkaaGreatDoorTreeMem
import Derived.Sort.Grow
import Derived.WalkSpells
set_option linter.unusedSimpArgs false
set_option linter.unusedVariables false
namespace Go.Proofs.YtlkfcfcejicdkaaGreatDoor
open Go Go.RowKit Go.Sort

/-- A link of members. -/
abbrev LT := Fin 8 × Fin 8
def ltLk (x : LT) : Lk := ((x.1.val : Int), (x.2.val : Int))
def encL (x : LT) : List Value := [.int .i64 (x.1.val : Int), .int .i64 (x.2.val : Int)]
def cmpL (x y : LT) : Int := if (x.1.val : Int) = y.1.val then (x.2.val : Int) - y.2.val else (x.1.val : Int) - y.1.val
theorem ltOf_cmpL (x y : LT) : ltOf cmpL x y = decide (lkLt (ltLk x) (ltLk y)) := by
  unfold ltOf cmpL
  rw [decide_eq_decide]
  unfold lkLt ltLk
  simp only
  split <;> omega
theorem swoL : SWO (ltOf cmpL) where
  irrefl x := by rw [ltOf_cmpL]; exact decide_eq_false (lkLt_irr _)
  trans x y z h1 h2 := by
    rw [ltOf_cmpL] at h1 h2 ⊢
    exact decide_eq_true (lkLt_tr _ _ _ (of_decide_eq_true h1) (of_decide_eq_true h2))
  ntrans x y z h1 h2 := by
    rw [ltOf_cmpL] at h1 h2 ⊢
    have h1 := of_decide_eq_false h1
    have h2 := of_decide_eq_false h2
    refine decide_eq_false ?_
    unfold lkLt at *
    omega
theorem compare_any (a1 a2 b1 b2 : Int) (h : ∀ x ∈ [a1, a2, b1, b2], 0 ≤ x ∧ x < 8) (w : World) : Calls Tryz.prog 56 #[.agg #[.int .i64 a1, .int .i64 a2], .agg #[.int .i64 b1, .int .i64 b2]] w fun e w' => e = .returned (.int .i64 (if a1 = b1 then a2 - b2 else a1 - b1)) ∧ ∃ q os', w' = Go.Sort.grow (w.drewN q) os' := by
  have h1 := h a1 (by simp)
  have h2 := h a2 (by simp)
  have h3 := h b1 (by simp)
  have h4 := h b2 (by simp)
  have w1 : IntKind.i64.wrap (a1 - b1) = a1 - b1 := by rw [IntKind.wrap_i64]; omega
  have w2 : IntKind.i64.wrap (a2 - b2) = a2 - b2 := by rw [IntKind.wrap_i64]; omega
  clear h h1 h2 h3 h4
  by_cases e : a1 = b1
  · have d : (a1 != b1) = false := by simpa using e
    have HE : Hid (a1 = b1) := e
    clear e
    go_enter Tryz.func56, Tryz.ntmps56
    go_wp2
    go_ret
    exact ⟨by first | rfl | (rw [if_pos HE.out]; rfl), 0, _, by rw [Sort.alloc_eq_grow, Sort.alloc_eq_grow, Sort.grow_grow]; rfl⟩
  · have d : (a1 != b1) = true := by simpa using e
    have HE : Hid (¬ a1 = b1) := e
    clear e
    go_enter Tryz.func56, Tryz.ntmps56
    go_wp2
    go_ret
    exact ⟨by first | rfl | (rw [if_neg HE.out]; rfl), 0, _, by rw [Sort.alloc_eq_grow, Sort.alloc_eq_grow, Sort.grow_grow]; rfl⟩
theorem closureL_any (x y : LT) (w : World) : Calls Tryz.prog 56 #[.agg #[.int .i64 (x.1.val : Int), .int .i64 (x.2.val : Int)], .agg #[.int .i64 (y.1.val : Int), .int .i64 (y.2.val : Int)]] w fun e w' => e = .returned (.int .i64 (cmpL x y)) ∧ ∃ q os', w' = Go.Sort.grow (w.drewN q) os' := by
  have h1 := x.1.isLt
  have h2 := x.2.isLt
  have h3 := y.1.isLt
  have h4 := y.2.isLt
  refine (compare_any _ _ _ _ (fun z hz => ?_) w)
  simp at hz
  rcases hz with rfl | rfl | rfl | rfl <;> omega

theorem cmpLaysL (blk off size : Nat) (w : World) : CmpLays Tryz.prog 56 #[] encL 2 cmpL blk off size w :=
  fun _ _ _ _ x y => closureL_any x y _

theorem ltCells_get (l : List LT) (i : Nat) (hi : i < l.length) : (lkCells (l.map ltLk))[i * 2]? = some (.int .i64 (l[i].1.val : Int)) ∧ (lkCells (l.map ltLk))[i * 2 + 1]? = some (.int .i64 (l[i].2.val : Int)) :=
  lkCells_at (ltLk l[i]) (l.map ltLk) i (by simp [hi])

theorem holdsL_of_row {w : World} {base g c : Nat} {l : List LT} (h : w.ownsRow base 35 2 (.slice (some ⟨g, 0, none⟩) l.length c) l.length (lkCells (l.map ltLk))) : HoldsK encL 2 w g 0 l.toArray := by
  rcases h.2 with ⟨h2, _⟩ | ⟨g', cap, cur, hv, hg, hh, h3, h4, h5, h6⟩
  · cases h2
  · injection hv with hv _ _
    injection hv with hv
    injection hv with hv _ _
    subst hv
    intro j hj
    have hj' : j < l.length * 2 := by simpa using hj
    have e : (flatK encL 2 l.toArray)[j]! = (encL l.toArray[j / 2]!)[j % 2]! := get_flatK encL 2 l.toArray j (by simpa using hj')
    have hq : j / 2 < l.length := by omega
    have hcur : cur[j]? = (lkCells (l.map ltLk))[j]? := by
      rw [← h6, List.getElem?_take, if_pos hj']; simp
    refine ⟨?_, by simp [World.frozen?, hh]⟩
    have hc : w.cell? ⟨g, 0 + j, none⟩ = cur[j]? := by simp [World.cell?, hh]
    rw [hc, hcur]
    simp only [id_eq]
    rw [e]
    have hget : l.toArray[j / 2]! = l[j / 2] := by simp [hq]
    rw [hget]
    have hp := ltCells_get l (j / 2) hq
    rcases Nat.mod_two_eq_zero_or_one j with h0 | h1
    · have : j / 2 * 2 = j := by omega
      rw [this] at hp
      rw [hp.1, h0]; rfl
    · have : j / 2 * 2 + 1 = j := by omega
      rw [this] at hp
      rw [hp.2, h1]; rfl

/-- A slice of pieces, read cell by cell. -/
def LksLie (w : World) (g : Nat) (l : List Lk) : Prop := ∀ i x, l[i]? = some x → w.cell? ⟨g, i * 2, none⟩ = some (.int .i64 x.1) ∧ w.cell? ⟨g, i * 2 + 1, none⟩ = some (.int .i64 x.2)
theorem lksLie_of_holds {w : World} {g : Nat} {d : Array LT} (h : HoldsK encL 2 w g 0 d) : LksLie w g (d.toList.map ltLk) := by
  intro i x hx
  have hi : i < d.size := by have := (List.getElem?_eq_some_iff.1 hx).1; simpa using this
  have a := h.cell (i := i) (c := 0) hi (by decide)
  have b := h.cell (i := i) (c := 1) hi (by decide)
  have hg : d[i]! = d.toList[i]'(by simpa using hi) := by simp [hi]
  rw [hg] at a b
  simp only [Nat.zero_add, Nat.add_zero] at a b
  have hxe : x = ltLk (d.toList[i]'(by simpa using hi)) := by
    rw [List.getElem?_map, List.getElem?_eq_getElem (by simpa using hi)] at hx
    simpa using hx.symm
  rw [hxe]
  exact ⟨a.1, b.1⟩

theorem row_of_lie {w : World} {g : Nat} {l : List Lk} (h : LksLie w g l) : RowAt w (some ⟨g, 0, none⟩) (lkCells l) := by
  refine .inr ⟨g, 0, rfl, fun j u hu => ?_⟩
  have hj : j < l.length * 2 := by have := (List.getElem?_eq_some_iff.1 hu).1; rw [lkCells_len] at this; exact this
  have hi : l[j / 2]? = some (l[j / 2]'(by omega)) := List.getElem?_eq_getElem (by omega)
  have h1 := lkCells_at _ l _ hi
  have h2 := h _ _ hi
  rw [Nat.zero_add]
  rcases Nat.mod_two_eq_zero_or_one j with h0 | h0
  · have e : j / 2 * 2 = j := by omega
    rw [e] at h1 h2
    rw [h1.1] at hu
    rw [h2.1]; exact hu
  · have e : j / 2 * 2 + 1 = j := by omega
    rw [e] at h1 h2
    rw [h1.2] at hu
    rw [h2.2]; exact hu
theorem below_sortL {w : World} {base g off n : Nat} {d : Array LT} {os : Array Obj} (hb : base ≤ g) (hs : base ≤ w.heap.size) : RowKit.Below base w (sortWorldK encL 2 w g off n d os) := by
  refine ⟨rfl, rfl, rfl, ?_, fun k hk => ?_⟩
  · simp [sortWorldK, Sort.grow, putRowK]
  · have h1 : k < (putRowK encL 2 (Sort.ahead w n) g off d).heap.size := by simp [putRowK]; omega
    unfold sortWorldK
    rw [Sort.heap_grow_old _ os h1]
    show (w.heap.modify g _)[k]? = _
    rw [Array.getElem?_modify, if_neg (by omega)]

theorem lts_of (l : List Lk) (hb : ∀ p ∈ l, p.1 ∈ ALL ∧ p.2 ∈ ALL) : ∃ L : List LT, L.map ltLk = l := by
  induction l with
  | nil => exact ⟨[], rfl⟩
  | cons p l ih =>
    obtain ⟨L, hL⟩ := ih fun q hq => hb q (by simp [hq])
    obtain ⟨h1, h2⟩ := hb p (by simp)
    have h1 := all_iff.1 h1
    have h2 := all_iff.1 h2
    refine ⟨(⟨p.1.toNat, by omega⟩, ⟨p.2.toNat, by omega⟩) :: L, ?_⟩
    simp only [List.map_cons, hL, ltLk]
    congr 1
    refine Prod.ext ?_ ?_
    · show ((p.1.toNat : Nat) : Int) = p.1
      omega
    · show ((p.2.toNat : Nat) : Int) = p.2
      omega
set_option maxHeartbeats 1000000 in
/-- Links sorted: in the same slice. -/
theorem sortL_any (base : Nat) (A : Option Addr) (c : Nat) (l : List Lk) (w : World) (hrow : w.ownsRow base 35 2 (.slice A l.length c) l.length (lkCells l)) (hbase : base ≤ w.heap.size) (hb : ∀ p ∈ l, p.1 ∈ ALL ∧ p.2 ∈ ALL) (hlen : l.length ≤ 1000000) :
    Calls Tryz.prog 68 #[.slice A l.length c, .func (.func 56) #[] #[]] w fun e w' => e = .returned (.tuple #[]) ∧ ∃ l' : List Lk, l'.Perm l ∧ l'.Pairwise (fun a b => ¬ lkLt b a) ∧ RowAt w' A (lkCells l') ∧ RowKit.Below base w w' := by
  have eg : ∀ args w, (callFunc 56 args).run Tryz.prog w = .ok (.enter 56 args) w := enters_of Tryz.func56 (by kernel_rfl) rfl
  obtain ⟨L, rfl⟩ := lts_of l hb
  by_cases hs : L = []
  · subst hs
    refine (AnyF.slices_SortFunc_none (ρ := Tryz.sortLks_ren) Tryz.sortLks A c _ w).mono ?_
    rintro e w' ⟨rfl, rfl⟩
    exact ⟨rfl, [], List.Perm.refl _, List.Pairwise.nil, .inl rfl, RowKit.Below.refl _ _⟩
  · obtain ⟨g, cur, hAg, hg, hgl, hh, hcap, hmax, hsz⟩ : ∃ g cur, A = some ⟨g, 0, none⟩ ∧ base ≤ g ∧ g < w.heap.size ∧ w.heap[g]? = some (.cells cur 35 (0, 0)) ∧ (L.map ltLk).length ≤ c ∧ c ≤ maxLen ∧ cur.size = c * 2 := by
      rcases hrow.2 with ⟨h2, h3⟩ | ⟨g', cap, cur, hv, hg, hh, h3, h4, h5, h6⟩
      · exact absurd (List.eq_nil_of_length_eq_zero (by simpa using h3)) hs
      · injection hv with hA _ hc
        exact ⟨g', cur, hA, hg, (Array.getElem?_eq_some_iff.1 hh).1, hh, by omega, by omega, by rw [h5, hc]⟩
    subst hAg
    simp only [List.length_map] at hrow hlen hcap ⊢
    have hH := holdsL_of_row hrow
    have hc := AnyQ.slices_SortFunc (ρ := Tryz.sortLks_ren) Tryz.sortLks 2 Tryz.isAgg35 Tryz.sizeOf35 encL (fun _ => rfl) (fun x v hv => by simp [encL] at hv; rcases hv with rfl | rfl <;> rfl) cmpL swoL 56 #[] g 0 c L.toArray w eg (cmpLaysL g 0 L.toArray.size w) hH hgl (by simp; omega)
    simp only [List.size_toArray] at hc
    change Calls Tryz.prog 68 _ _ _ at hc
    refine hc.mono ?_
    rintro e w' ⟨rfl, d', n, os, hp, hsd, rfl⟩
    obtain ⟨hp1, _, hp3⟩ := hp
    have hszd : d'.size = L.length := by simpa using hp1
    have hpl : d'.toList.Perm L := by
      have := hp3
      rw [Array.extract_eq_self_of_le (by omega), Array.extract_eq_self_of_le (by simp)] at this
      simpa using this
    refine ⟨rfl, d'.toList.map ltLk, hpl.map ltLk, ?_, ?_, below_sortL hg hbase⟩
    · rw [List.pairwise_iff_getElem]
      intro i j hi hj hij
      have hi' : i < d'.size := by simpa using hi
      have hj' : j < d'.size := by simpa using hj
      have h1 := hsd i j (Nat.zero_le _) hij (by omega)
      rw [ltOf_cmpL] at h1
      have e1 : d'[i]! = d'.toList[i] := by simp [hi']
      have e2 : d'[j]! = d'.toList[j] := by simp [hj']
      rw [e1, e2] at h1
      simpa using h1
    · have hH2 : HoldsK encL 2 (sortWorldK encL 2 w g 0 n d' os) g 0 d' := by
        refine holdsK_grow encL 2 _ os g 0 d' (by simpa [putRowK] using hgl) ?_
        exact holdsK_putRowK encL 2 (Sort.ahead w n) g 0 L.toArray d' (holdsK_ahead encL 2 w n g 0 L.toArray hH) (by simp [hszd])
      exact row_of_lie (lksLie_of_holds hH2)
end Go.Proofs.YtlkfcfcejicdkaaGreatDoor
