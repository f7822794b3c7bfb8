/-
  disk: the pieces sorted by their turns (Crash's closure; slices.SortFunc). Own work.
  disk: what a crash leaves, in plain Lean; maps whose keys are ints; an append of pieces. Own work.
  disk: Crash: what it refuses; how the disk stands while its last loop goes round. Own work.
-/
import Derived.Shelf.SlSortCmp.NoneTotal
import Derived.Test.YthokoimoiamddaaGreatDoorSort
import Derived.Test.YthokoimoiamddaaGreatDoorB3
import Derived.Sort.Grow
set_option linter.unusedSimpArgs false
set_option linter.unusedVariables false
namespace Go.Proofs.YthokoimoiamddaaGreatDoor
open Go Go.RowKit Go.Sort

/-- A piece whose turn is small enough that turns' differences don't wrap. -/
abbrev PT := Fin 4611686018427387905 × Int
def ptOf (x : PT) : Int × Int := ((x.1.val : Int), x.2)
def encP (x : PT) : List Value := [.int .i64 (x.1.val : Int), .int .i64 x.2]
def cmpP (x y : PT) : Int := (x.1.val : Int) - y.1.val
theorem ltOf_cmpP (x y : PT) : ltOf cmpP x y = decide (x.1.val < y.1.val) := by
  unfold ltOf cmpP
  by_cases h : x.1.val < y.1.val
  · simp [h]; omega
  · simp [h]; omega
theorem swoP : SWO (ltOf cmpP) where
  irrefl x := by rw [ltOf_cmpP]; simp
  trans x y z h1 h2 := by
    rw [ltOf_cmpP] at h1 h2 ⊢
    have h1 := of_decide_eq_true h1
    have h2 := of_decide_eq_true h2
    exact decide_eq_true (by omega)
  ntrans x y z h1 h2 := by
    rw [ltOf_cmpP] at h1 h2 ⊢
    have h1 := of_decide_eq_false h1
    have h2 := of_decide_eq_false h2
    exact decide_eq_false (by omega)

theorem closureP_any (x y : PT) (w : World) : Calls Tryz.prog 38 #[.agg #[.int .i64 (x.1.val : Int), .int .i64 x.2], .agg #[.int .i64 (y.1.val : Int), .int .i64 y.2]] w fun e w' => e = .returned (.int .i64 (cmpP x y)) ∧ ∃ q os', w' = Go.Sort.grow (w.drewN q) os' := by
  have hx := x.1.isLt
  have hy := y.1.isLt
  have hw : IntKind.i64.wrap ((x.1.val : Int) - y.1.val) = (x.1.val : Int) - y.1.val := by rw [IntKind.wrap_i64]; omega
  unfold cmpP
  obtain ⟨a, ha⟩ : ∃ a : Int, Hid ((x.1.val : Int) = a) := ⟨_, rfl⟩
  obtain ⟨b, hb⟩ : ∃ b : Int, Hid ((y.1.val : Int) = b) := ⟨_, rfl⟩
  rw [ha.out, hb.out] at hw ⊢
  clear hx hy
  go_enter Tryz.func38, Tryz.ntmps38
  go_wp2
  go_ret
  exact ⟨rfl, 0, _, by rw [Sort.alloc_eq_grow, Sort.alloc_eq_grow, Sort.grow_grow]; rfl⟩

theorem cmpLaysP (blk off size : Nat) (w : World) : CmpLays Tryz.prog 38 #[] encP 2 cmpP blk off size w :=
  fun _ _ _ _ x y => closureP_any x y _

theorem ptCells_get (l : List PT) (i : Nat) (hi : i < l.length) : (pieceCells (l.map ptOf))[i * 2]? = some (.int .i64 (l[i].1.val : Int)) ∧ (pieceCells (l.map ptOf))[i * 2 + 1]? = some (.int .i64 l[i].2) :=
  pieceCells_at (ptOf l[i]) (l.map ptOf) i (by simp [hi])

theorem holdsP_of_row {w : World} {base g c : Nat} {l : List PT} (h : w.ownsRow base 86 2 (.slice (some ⟨g, 0, none⟩) l.length c) l.length (pieceCells (l.map ptOf))) : HoldsK encP 2 w g 0 l.toArray := by
  rcases h.2 with ⟨h2, _⟩ | ⟨g', cap, cur, hv, hg, hh, h3, h4, h5, h6⟩
  · cases h2
  · injection hv with hv _ _
    injection hv with hv
    injection hv with hv _ _
    subst hv
    intro j hj
    have hj' : j < l.length * 2 := by simpa using hj
    have e : (flatK encP 2 l.toArray)[j]! = (encP l.toArray[j / 2]!)[j % 2]! := get_flatK encP 2 l.toArray j (by simpa using hj')
    have hq : j / 2 < l.length := by omega
    have hcur : cur[j]? = (pieceCells (l.map ptOf))[j]? := by
      rw [← h6, List.getElem?_take, if_pos hj']; simp
    refine ⟨?_, by simp [World.frozen?, hh]⟩
    have hc : w.cell? ⟨g, 0 + j, none⟩ = cur[j]? := by simp [World.cell?, hh]
    rw [hc, hcur]
    simp only [id_eq]
    rw [e]
    have hget : l.toArray[j / 2]! = l[j / 2] := by simp [hq]
    rw [hget]
    have hp := ptCells_get l (j / 2) hq
    rcases Nat.mod_two_eq_zero_or_one j with h0 | h1
    · have : j / 2 * 2 = j := by omega
      rw [this] at hp
      rw [hp.1, h0]; rfl
    · have : j / 2 * 2 + 1 = j := by omega
      rw [this] at hp
      rw [hp.2, h1]; rfl

/-- A slice of pieces, read cell by cell. -/
def PcsLie (w : World) (g : Nat) (l : List (Int × Int)) : Prop := ∀ i x, l[i]? = some x → w.cell? ⟨g, i * 2, none⟩ = some (.int .i64 x.1) ∧ w.cell? ⟨g, i * 2 + 1, none⟩ = some (.int .i64 x.2)
theorem pcsLie_of_holds {w : World} {g : Nat} {d : Array PT} (h : HoldsK encP 2 w g 0 d) : PcsLie w g (d.toList.map ptOf) := by
  intro i x hx
  have hi : i < d.size := by have := (List.getElem?_eq_some_iff.1 hx).1; simpa using this
  have a := h.cell (i := i) (c := 0) hi (by decide)
  have b := h.cell (i := i) (c := 1) hi (by decide)
  have hg : d[i]! = d.toList[i]'(by simpa using hi) := by simp [hi]
  rw [hg] at a b
  simp only [Nat.zero_add, Nat.add_zero] at a b
  have hxe : x = ptOf (d.toList[i]'(by simpa using hi)) := by
    rw [List.getElem?_map, List.getElem?_eq_getElem (by simpa using hi)] at hx
    simpa using hx.symm
  rw [hxe]
  exact ⟨a.1, b.1⟩

theorem below_sortP {w : World} {base g off n : Nat} {d : Array PT} {os : Array Obj} (hb : base ≤ g) (hs : base ≤ w.heap.size) : RowKit.Below base w (sortWorldK encP 2 w g off n d os) := by
  refine ⟨rfl, rfl, rfl, ?_, fun k hk => ?_⟩
  · simp [sortWorldK, Sort.grow, putRowK]
  · have h1 : k < (putRowK encP 2 (Sort.ahead w n) g off d).heap.size := by simp [putRowK]; omega
    unfold sortWorldK
    rw [Sort.heap_grow_old _ os h1]
    show (w.heap.modify g _)[k]? = _
    rw [Array.getElem?_modify, if_neg (by omega)]

set_option maxHeartbeats 1000000 in
/-- The pieces sorted: in the same slice, by rising turns. -/
theorem sortP_any (base : Nat) (A : Option Addr) (c : Nat) (l : List (Int × Int)) (w : World) (hrow : w.ownsRow base 86 2 (.slice A l.length c) l.length (pieceCells l)) (hbase : base ≤ w.heap.size) (hb : ∀ p ∈ l, 0 ≤ p.1 ∧ p.1 ≤ 4611686018427387904) (hnd : (l.map (·.1)).Nodup) (hlen : l.length ≤ 1000000) :
    Calls Tryz.prog 37 #[.slice A l.length c, .func (.func 38) #[] #[]] w fun e w' => e = .returned (.tuple #[]) ∧ ∃ l' : List (Int × Int), l'.Perm l ∧ l'.Pairwise (fun a b => a.1 < b.1) ∧ (∀ g, A = some ⟨g, 0, none⟩ → PcsLie w' g l') ∧ RowKit.Below base w w' := by
  have eg : ∀ args w, (callFunc 38 args).run Tryz.prog w = .ok (.enter 38 args) w := enters_of Tryz.func38 (by kernel_rfl) rfl
  obtain ⟨L, hL⟩ : ∃ L : List PT, L.map ptOf = l := by
    clear hrow hnd hlen
    induction l with
    | nil => exact ⟨[], rfl⟩
    | cons p l ih =>
      obtain ⟨L, hL⟩ := ih fun q hq => hb q (by simp [hq])
      have hp := hb p (by simp)
      refine ⟨(⟨p.1.toNat, by omega⟩, p.2) :: L, ?_⟩
      simp only [List.map_cons, hL, ptOf]
      congr 1
      refine Prod.ext ?_ rfl
      show ((p.1.toNat : Nat) : Int) = p.1
      omega
  subst hL
  by_cases hs : L = []
  · subst hs
    have hv : (Value.slice A 0 c) = .slice none 0 0 ∨ True := .inr trivial
    refine (AnyF.slices_SortFunc_none (ρ := Tryz.sortPcs_ren) Tryz.sortPcs A c _ w).mono ?_
    rintro e w' ⟨rfl, rfl⟩
    exact ⟨rfl, [], List.Perm.refl _, List.Pairwise.nil, fun g _ i x h => by simp at h, RowKit.Below.refl _ _⟩
  · obtain ⟨g, hAg, hg, hgl⟩ : ∃ g, A = some ⟨g, 0, none⟩ ∧ base ≤ g ∧ g < w.heap.size := by
      rcases hrow.2 with ⟨h2, h3⟩ | ⟨g', cap, cur, hv, hg, hh, _⟩
      · exact absurd (List.eq_nil_of_length_eq_zero (by simpa using h3)) hs
      · injection hv with hA _ _
        exact ⟨g', hA, hg, (Array.getElem?_eq_some_iff.1 hh).1⟩
    subst hAg
    simp only [List.length_map] at hrow hlen ⊢
    have hH := holdsP_of_row hrow
    have hc := AnyQ.slices_SortFunc (ρ := Tryz.sortPcs_ren) Tryz.sortPcs 2 Tryz.isAgg86 Tryz.sizeOf86 encP (fun _ => rfl) (fun x v hv => by simp [encP] at hv; rcases hv with rfl | rfl <;> rfl) cmpP swoP 38 #[] g 0 c L.toArray w eg (cmpLaysP g 0 L.toArray.size w) hH hgl (by simp; omega)
    simp only [List.size_toArray] at hc
    change Calls Tryz.prog 37 _ _ _ at hc
    refine hc.mono ?_
    rintro e w' ⟨rfl, d', n, os, hp, hsd, rfl⟩
    obtain ⟨hp1, _, hp3⟩ := hp
    have hsz : d'.size = L.length := by simpa using hp1
    have hpl : d'.toList.Perm L := by
      have := hp3
      rw [Array.extract_eq_self_of_le (by omega), Array.extract_eq_self_of_le (by simp)] at this
      simpa using this
    refine ⟨rfl, d'.toList.map ptOf, hpl.map ptOf, ?_, fun g2 hg2 => ?_, below_sortP hg hbase⟩
    · rw [List.pairwise_iff_getElem]
      intro i j hi hj hij
      have hi' : i < d'.size := by simpa using hi
      have hj' : j < d'.size := by simpa using hj
      have h1 := hsd i j (Nat.zero_le _) hij (by omega)
      rw [ltOf_cmpP] at h1
      have e1 : d'[i]! = d'.toList[i] := by simp [hi']
      have e2 : d'[j]! = d'.toList[j] := by simp [hj']
      rw [e1, e2] at h1
      have h2 : ¬ d'.toList[j].1.val < d'.toList[i].1.val := by simpa using h1
      have hnd' : ((d'.toList.map ptOf).map (·.1)).Nodup := ((hpl.map ptOf).map (·.1)).nodup_iff.2 hnd
      have hne : (d'.toList[i].1.val : Int) ≠ d'.toList[j].1.val := by
        have := List.pairwise_iff_getElem.1 (List.nodup_iff_pairwise_ne.1 hnd') i j (by simpa using hi') (by simpa using hj') hij
        simpa [ptOf] using this
      simp only [List.getElem_map, ptOf]
      omega
    · cases hg2
      have hH2 : HoldsK encP 2 (sortWorldK encP 2 w g 0 n d' os) g 0 d' := by
        refine holdsK_grow encP 2 _ os g 0 d' (by simpa [putRowK] using hgl) ?_
        exact holdsK_putRowK encP 2 (Sort.ahead w n) g 0 L.toArray d' (holdsK_ahead encP 2 w n g 0 L.toArray hH) (by simp [hsz])
      exact pcsLie_of_holds hH2
end Go.Proofs.YthokoimoiamddaaGreatDoor
set_option linter.unusedSimpArgs false
set_option linter.unusedVariables false
namespace Go.Proofs.YthokoimoiamddaaGreatDoor
open Go Go.RowKit
open Go.ChangeMaps (setBlock)

def intV (i : Int) : Value := .int .i64 i
theorem int_check (e : Bool) (x : Int) (w : World) : (Instr.checkKey e 10000 3 (intV x)).run Tryz.prog w = .ok () w := by kernel_rfl
theorem int_find (k : Int) (L : List (MEnt Int)) (w : World) : (Instr.findKey 3 (intV k) (L.map (MEnt.ent intV))).run Tryz.prog w = .ok (lkE k L 0) w := by
  have h : ∀ (L : List (MEnt Int)) i, Instr.findNow (.int .i64) (intV k) (L.map (MEnt.ent intV)) i = some (lkE k L i) := by
    intro L
    induction L with
    | nil => intro i; rfl
    | cons e L ih =>
      intro i
      simp only [List.map_cons, Instr.findNow, MEnt.ent, intV, Instr.sameNow, lkE]
      by_cases h : k = e.k
      · simp [h]
      · have h2 : (k == e.k) = false := by simpa using h
        simp only [if_true, h2, if_neg h]
        exact ih (i + 1)
  simp only [Instr.findKey, Sem.run_bind, run_underlying Tryz.underlying3, Result.andThen_ok, h]
  rfl
theorem int_stays (k : Int) (w : World) : (Instr.keyThatStays (intV k) (intV k)).run Tryz.prog w = .ok (intV k) w := by
  have : Instr.sameBits 10000 (intV k) (intV k) = true := by simp [intV, Instr.sameBits]
  simp [Instr.keyThatStays, this]
theorem int_keys : KeyOps Tryz.prog 3 intV := ⟨int_check, int_find, int_stays⟩

/-- The pieces of the files that have come. -/
def looseK (s : St) (k : ByteArray) : List (Int × Int) := match s.R k with | some r => r.loose | none => []
def allOf (s : St) (dn : List (MEnt ByteArray)) : List (Int × Int) := dn.flatMap fun e => looseK s e.k
theorem allOf_snoc (s : St) (dn : List (MEnt ByteArray)) (e : MEnt ByteArray) : allOf s (dn ++ [e]) = allOf s dn ++ looseK s e.k := by simp [allOf]
theorem allOf_perm (s : St) {a b : List (MEnt ByteArray)} (h : a.Perm b) : (allOf s a).Perm (allOf s b) := by
  unfold allOf
  exact h.flatMap_right _
theorem looseK_some {s : St} {k : ByteArray} {r : FRec} (h : s.R k = some r) : looseK s k = r.loose := by unfold looseK; rw [h]
theorem looseK_open (s : St) (k : ByteArray) : openOf (looseK s k) = openK s k := by
  unfold looseK openK
  cases s.R k <;> simp [openOf]
theorem allOf_open (s : St) (dn : List (MEnt ByteArray)) : openOf (allOf s dn) = sumK s dn := by
  induction dn with
  | nil => rfl
  | cons e l ih =>
    have e1 : allOf s (e :: l) = looseK s e.k ++ allOf s l := by simp [allOf]
    rw [e1, openOf_append, ih, looseK_open]
    simp [sumK]

/-- What is left of each piece, in the order of the turns. -/
def kAft : List (Int × Int) → Int → Int
  | [], k => k
  | p :: l, k => kAft l (k - min k p.2)
def leftP : List (Int × Int) → Int → List (Int × Int)
  | [], _ => []
  | p :: l, k => (p.1, min k p.2) :: leftP l (k - min k p.2)
def lookP : List (Int × Int) → Int → Option Int
  | [], _ => none
  | p :: l, t => match lookP l t with
    | some v => some v
    | none => if t = p.1 then some p.2 else none
theorem kAft_snoc (l : List (Int × Int)) (p : Int × Int) (k : Int) : kAft (l ++ [p]) k = kAft l k - min (kAft l k) p.2 := by
  induction l generalizing k with
  | nil => rfl
  | cons q l ih => simp only [List.cons_append, kAft, ih]
theorem leftP_snoc (l : List (Int × Int)) (p : Int × Int) (k : Int) : leftP (l ++ [p]) k = leftP l k ++ [(p.1, min (kAft l k) p.2)] := by
  induction l generalizing k with
  | nil => rfl
  | cons q l ih => simp only [List.cons_append, leftP, kAft, ih]
theorem lookP_snoc (l : List (Int × Int)) (p : Int × Int) (t : Int) : lookP (l ++ [p]) t = if t = p.1 then some p.2 else lookP l t := by
  induction l with
  | nil => simp [lookP]
  | cons q l ih =>
    simp only [List.cons_append, lookP, ih]
    by_cases h : t = p.1
    · simp [h]
    · simp [h]
theorem kAft_bd (l : List (Int × Int)) (k : Int) (hk : 0 ≤ k) (h : ∀ p ∈ l, 0 < p.2) : 0 ≤ kAft l k ∧ kAft l k ≤ k := by
  induction l generalizing k with
  | nil => simp [kAft]; exact hk
  | cons p l ih =>
    have hp := h p (by simp)
    have := ih (k - min k p.2) (by omega) (fun q hq => h q (by simp [hq]))
    simp only [kAft]; omega
theorem leftP_mem (l : List (Int × Int)) (k : Int) (hk : 0 ≤ k) (h : ∀ p ∈ l, 0 < p.2) (x : Int × Int) (hx : x ∈ leftP l k) : ∃ p ∈ l, p.1 = x.1 ∧ 0 ≤ x.2 ∧ x.2 ≤ p.2 := by
  induction l generalizing k with
  | nil => simp [leftP] at hx
  | cons p l ih =>
    have hp := h p (by simp)
    simp only [leftP] at hx
    rcases List.mem_cons.1 hx with rfl | hx
    · exact ⟨p, by simp, rfl, by simp only; omega, by simp only; omega⟩
    · obtain ⟨q, hq, h1⟩ := ih (k - min k p.2) (by omega) (fun q hq => h q (by simp [hq])) hx
      exact ⟨q, by simp [hq], h1⟩
theorem lookP_mem {l : List (Int × Int)} {t v : Int} (h : lookP l t = some v) : (t, v) ∈ l := by
  induction l with
  | nil => simp [lookP] at h
  | cons p l ih =>
    simp only [lookP] at h
    cases hl : lookP l t with
    | some u => rw [hl] at h; simp at h; subst h; exact List.mem_cons_of_mem _ (ih hl)
    | none =>
      rw [hl] at h
      simp only at h
      by_cases ht : t = p.1
      · rw [if_pos ht] at h; simp at h; subst h; subst ht; simp
      · rw [if_neg ht] at h; cases h
/-- What a crash leaves of the piece of a turn. -/
def leftF (l : List (Int × Int)) (keep t : Int) : Int := (lookP (leftP l keep) t).getD 0
theorem leftF_bd {l : List (Int × Int)} {keep : Int} (hk : 0 ≤ keep) (h : ∀ p ∈ l, 0 < p.2) (hs : l.Pairwise (fun a b => a.1 < b.1)) {p : Int × Int} (hp : p ∈ l) : 0 ≤ leftF l keep p.1 ∧ leftF l keep p.1 ≤ p.2 := by
  unfold leftF
  cases hv : lookP (leftP l keep) p.1 with
  | none => have := h p hp; simp; omega
  | some v =>
    obtain ⟨q, hq, h1, h2, h3⟩ := leftP_mem l keep hk h _ (lookP_mem hv)
    have hnd : (l.map (·.1)).Nodup := by
      rw [List.nodup_iff_pairwise_ne, List.pairwise_map]
      exact hs.imp fun hab => by omega
    have : q = p := inj_of_nodup hnd hq hp h1
    subst this
    simp only [Option.getD_some]
    exact ⟨h2, h3⟩

def leftSum (f : Int → Int) (l : List (Int × Int)) : Int := (l.map fun p => f p.1).sum
theorem leftSum_snoc (f : Int → Int) (l : List (Int × Int)) (p : Int × Int) : leftSum f (l ++ [p]) = leftSum f l + f p.1 := by simp [leftSum]
theorem leftSum_bd (f : Int → Int) (l : List (Int × Int)) (h : ∀ p ∈ l, 0 ≤ f p.1 ∧ f p.1 ≤ p.2) : 0 ≤ leftSum f l ∧ leftSum f l ≤ openOf l := by
  induction l with
  | nil => simp [leftSum, openOf]
  | cons p l ih =>
    have hp := h p (by simp)
    have := ih fun q hq => h q (by simp [hq])
    have e1 : leftSum f (p :: l) = f p.1 + leftSum f l := by simp [leftSum]
    have e2 : openOf (p :: l) = p.2 + openOf l := by simp [openOf]
    rw [e1, e2]; omega

/-- What a crash makes of a file, where f says what is left of each turn's piece. -/
def cutV : Value → Nat → Value
  | .slice A _ _, n => .slice A n n
  | v, _ => v
def keepN (f : Int → Int) (r : FRec) : Nat := ((r.data.length : Int) - openOf r.loose + leftSum f r.loose).toNat
def crashRec (f : Int → Int) (r : FRec) : FRec := { r with dv := cutV r.dv (keepN f r), lv := .slice none 0 0, data := r.data.take (keepN f r), loose := [] }

section
variable {base : Nat} {w w' : World} {s s' : St}
theorem DiskAt.mem_all (h : DiskAt base w s) {k : ByteArray} {r : FRec} (hr : s.R k = some r) {p : Int × Int} (hp : p ∈ r.loose) : p ∈ allOf s s.L := by
  have h8 := h.lk k
  rw [hr] at h8
  obtain ⟨e, he, hk, _⟩ := lkV_mem h8
  unfold allOf
  rw [List.mem_flatMap]
  refine ⟨e, he, ?_⟩
  rw [hk, looseK_some hr]; exact hp
theorem DiskAt.all_is (h : DiskAt base w s) {dn : List (MEnt ByteArray)} {p : Int × Int} (hp : p ∈ allOf s dn) : ∃ k r, s.R k = some r ∧ p ∈ r.loose := by
  unfold allOf at hp
  rw [List.mem_flatMap] at hp
  obtain ⟨e, he, hp⟩ := hp
  unfold looseK at hp
  cases hr : s.R e.k with
  | none => rw [hr] at hp; simp at hp
  | some r => rw [hr] at hp; exact ⟨e.k, r, hr, hp⟩
theorem DiskAt.all_bd (h : DiskAt base w s) {dn : List (MEnt ByteArray)} {p : Int × Int} (hp : p ∈ allOf s dn) : 0 < p.1 ∧ p.1 ≤ s.turn ∧ 0 < p.2 := by
  obtain ⟨k, r, hr, hp⟩ := h.all_is hp
  exact ⟨(h.turns k r p hr hp).1, (h.turns k r p hr hp).2, (h.recs k r hr).pos p hp⟩
theorem DiskAt.all_len (h : DiskAt base w s) (dn : List (MEnt ByteArray)) : ((allOf s dn).length : Int) ≤ sumK s dn := by
  rw [← allOf_open]
  exact len_open _ fun p hp => (h.all_bd hp).2.2
theorem DiskAt.all_nd (h : DiskAt base w s) : ((allOf s s.L).map (·.1)).Nodup := by
  have hk := h.wf.keys
  unfold allOf
  generalize s.L = L at hk
  induction L with
  | nil => simp
  | cons e L ih =>
    simp only [List.map_cons, List.nodup_cons] at hk
    simp only [List.flatMap_cons, List.map_append]
    refine List.nodup_append.2 ⟨?_, ih hk.2, ?_⟩
    · unfold looseK
      cases hr : s.R e.k with
      | none => simp
      | some r =>
        simp only
        rw [List.nodup_iff_pairwise_ne, List.pairwise_iff_getElem]
        intro i j hi hj hij he
        have hi' : i < r.loose.length := by simpa using hi
        have hj' : j < r.loose.length := by simpa using hj
        have := (h.uniq e.k e.k r r i j r.loose[i] r.loose[j] hr hr (List.getElem?_eq_getElem hi') (List.getElem?_eq_getElem hj') (by simpa using he)).2
        omega
    · intro a ha b hb hab
      subst hab
      obtain ⟨p, hp, hpa⟩ := List.mem_map.1 ha
      obtain ⟨q, hq, hqa⟩ := List.mem_map.1 hb
      unfold looseK at hp
      cases hr : s.R e.k with
      | none => rw [hr] at hp; simp at hp
      | some r =>
        rw [hr] at hp
        simp only at hp
        rw [List.mem_flatMap] at hq
        obtain ⟨e', he', hq⟩ := hq
        unfold looseK at hq
        cases hr' : s.R e'.k with
        | none => rw [hr'] at hq; simp at hq
        | some r' =>
          rw [hr'] at hq
          simp only at hq
          obtain ⟨i, hi⟩ := List.mem_iff_getElem?.1 hp
          obtain ⟨j, hj⟩ := List.mem_iff_getElem?.1 hq
          have := (h.uniq e.k e'.k r r' i j p q hr hr' hi hj (hpa.trans hqa.symm)).1
          exact hk.1 (this ▸ List.mem_map.2 ⟨e', he', rfl⟩)

theorem keepN_le {f : Int → Int} {r : FRec} (h : RecOK w r) (hf : ∀ p ∈ r.loose, 0 ≤ f p.1 ∧ f p.1 ≤ p.2) : (keepN f r : Int) = (r.data.length : Int) - openOf r.loose + leftSum f r.loose ∧ keepN f r ≤ r.data.length ∧ (r.data.length : Int) - openOf r.loose ≤ keepN f r := by
  have h1 := leftSum_bd f r.loose hf
  have h2 := h.sum
  unfold keepN
  omega

theorem DiskAt.crash (h : DiskAt base w s) (hlow : base ≤ w.heap.size) {k : ByteArray} {r : FRec} (hr : s.R k = some r) {f : Int → Int} (hf : ∀ p ∈ r.loose, 0 ≤ f p.1 ∧ f p.1 ≤ p.2) :
    DiskAt base ((w.setCell ⟨r.F, 0, none⟩ (cutV r.dv (keepN f r))).setCell ⟨r.F, 1, none⟩ (.slice none 0 0)) { s with R := updR s.R k (some (crashRec f r)) } ∧ Frame s { s with R := updR s.R k (some (crashRec f r)) } w ((w.setCell ⟨r.F, 0, none⟩ (cutV r.dv (keepN f r))).setCell ⟨r.F, 1, none⟩ (.slice none 0 0)) := by
  have hrec := h.recs k r hr
  obtain ⟨ha1, ha2, ha3⟩ := hrec.apart
  obtain ⟨Ad, cd, hdv, _⟩ := hrec.data.slice
  have hk : ∀ g, g ≠ r.F → ((w.setCell ⟨r.F, 0, none⟩ (cutV r.dv (keepN f r))).setCell ⟨r.F, 1, none⟩ (.slice none 0 0)).heap[g]? = w.heap[g]? := fun g hg => (Below.heap_setCell _ ⟨r.F, 1, none⟩ _ g hg).trans (Below.heap_setCell w ⟨r.F, 0, none⟩ _ g hg)
  have hdb : (cutV r.dv (keepN f r)).ownBlock = r.dv.ownBlock := by rw [hdv]; cases Ad <;> rfl
  have hblk : ∀ g, (crashRec f r).blocks g → r.blocks g ∨ w.heap.size ≤ g := fun g hb => by
    rcases hb with hb | hb | hb
    · exact .inl (.inl hb)
    · exact .inl (.inr (.inl (by rw [← hdb]; exact hb)))
    · cases hb
  have hn := (keepN_le hrec hf).2.1
  have hcut : DRow w (cutV r.dv (keepN f r)) (r.data.take (keepN f r)) := by
    have h1 := hrec.data
    rw [hdv] at h1 ⊢
    exact (h1.cut _ hn).1
  refine ⟨h.change hr _ rfl ⟨?_, ?_, World.ownsRow_nil _ _ _ _, ?_, by simp [crashRec], by simp [crashRec, openOf]⟩ (fun g ho hnb => hk g (fun e => hnb (.inl e))) hblk hlow (by simp [crashRec]) (by simp [crashRec]) (by simp [crashRec]), rfl, rfl, rfl, by simp [World.setCell], fun g hlt ho => hk g (fun e => ho (.inr (.inr ⟨k, r, hr, .inl e⟩))), St.own_upd (t := s.turn) hr hblk⟩
  · have := setCell_cells (i := 1) (v := .slice none 0 0) (setCell_cells (i := 0) (v := cutV r.dv (keepN f r)) hrec.blk)
    simpa [crashRec] using this
  · exact DRow.keep (w := w) hcut fun g hg => hk g (ha1 g (by rw [← hdb]; exact hg))
  · show (r.data.take _).length ≤ _
    have := hrec.few
    simp; omega
end

theorem pieceCells_one_cell (l : List (Int × Int)) : ∀ u ∈ pieceCells l, u.oneCell' = true := fun u hu => by
  unfold pieceCells at hu
  rw [List.mem_flatMap] at hu
  obtain ⟨x, _, hx⟩ := hu
  simp at hx
  rcases hx with rfl | rfl <;> rfl

theorem append_pieces {w : World} {base : Nat} {v : Value} {l nl : List (Int × Int)} (h : w.ownsRow base 86 2 v l.length (pieceCells l)) (A : Option Addr) (c : Nat) (ty : TypeId) (hA : w.ownsRow 0 86 2 (.slice A nl.length c) nl.length (pieceCells nl)) (hb : l.length + nl.length ≤ 100000000) (hbase : base ≤ w.heap.size) :
    ∃ v' w', (Builtin.append_ #[81, 81] ty #[v, .slice A nl.length c]).run Tryz.prog w = .ok v' w' ∧ w'.ownsRow base 86 2 v' (l ++ nl).length (pieceCells (l ++ nl)) ∧ w.grownBy w' v.ownBlock := by
  obtain ⟨i, hi, hz0, hz1, hz2⟩ := info_parts piece_info
  have ht := Tryz.underlying81
  rw [List.length_append, pieceCells_append]
  rcases hA.2 with ⟨hv, hn⟩ | ⟨g, cap, cur, hv, hbg, hh, h3, h4, h5, h6⟩
  · injection hv with hv _ hc
    subst hv hc
    have hnl : nl = [] := List.eq_nil_of_length_eq_zero hn
    subst hnl
    refine ⟨v, w, ?_, by simpa [pieceCells] using h, ⟨rfl, rfl, rfl, Nat.le_refl _, fun _ _ _ => rfl⟩⟩
    rcases h.2 with ⟨rfl, _⟩ | ⟨g, cap, cur, rfl, _, hh, h1, _⟩
    · simp [Builtin.append_, run_underlying ht, sizeOf, typeInfo, hi, hz1, Builtin.lenOf, Builtin.firstCells, loadCells, loadCellsFrom]
    · simp [Builtin.append_, run_underlying ht, sizeOf, typeInfo, hi, hz1, Builtin.lenOf, Builtin.firstCells, loadCells, loadCellsFrom, h1, storeCells]
  · injection hv with hv _ hc
    subst hv hc
    have hnews := hA.cells (g := g) rfl
    obtain ⟨v', w', hr, h1, h2, _⟩ := run_append_own (P := Tryz.prog) w base 81 ty 86 i (.agg #[.int .i64 0, .int .i64 0]) 2 16 ht hi hz0 hz1 hz2 rfl (by decide) v l.length (pieceCells l) h ⟨g, 0, none⟩ nl.length c (pieceCells nl) (pieceCells_len nl) hnews (pieceCells_one_cell nl) (Nat.le_trans hb (by decide)) (by omega) hbase
    exact ⟨v', w', hr, h1, h2⟩

theorem wpList_append_pieces (w : World) {ops : Array Oper} {rest : List Oper} {o : Oper} {a : Act} {Q : Exit → Act → World → Prop} (hgd : o.guard = none) (sl x : Operand)
    (ho : o.op = .call { callee := .builtin .append, args := #[sl, x], argTypes := #[81, 81] })
    (base : Nat) (v : Value) (l nl : List (Int × Int)) (A : Option Addr) (n c : Nat) (hs : a.eval sl = v) (hx : a.eval x = .slice A n c) (hn : nl.length = n) (h : w.ownsRow base 86 2 v l.length (pieceCells l)) (hA : w.ownsRow 0 86 2 (.slice A n c) n (pieceCells nl)) (hb : l.length + nl.length ≤ 100000000) (hbase : base ≤ w.heap.size)
    (hK : ∀ v' w', w'.ownsRow base 86 2 v' (l ++ nl).length (pieceCells (l ++ nl)) → w.grownBy w' v.ownBlock → wpList Tryz.prog ops Q rest (a.put o.dst v') w') : wpList Tryz.prog ops Q (o :: rest) a w := by
  subst hn
  obtain ⟨v', w', hr, h2, h3⟩ := append_pieces h A c o.type hA hb hbase
  refine wpList_plain hgd fun K hK' => ?_
  unfold Oper.wp execOp
  simp only [ho, resolve, invoke, builtin, Sem.run_bind, Sem.run_pure, Result.andThen_ok, List.map_toArray, List.map_cons, List.map_nil, hs, hx, hr]
  exact hK' _ _ (hK v' w' h2 h3)
end Go.Proofs.YthokoimoiamddaaGreatDoor
set_option linter.unusedSimpArgs false
set_option linter.unusedVariables false
namespace Go.Proofs.YthokoimoiamddaaGreatDoor
open Go Go.RowKit
open Go.ChangeMaps (setBlock)

theorem crash_nil (keep : Int) (w : World) : Calls Tryz.prog 23 #[.pointer none, .int .i64 keep] w fun e w' => e = .returned (.iface 42 (.int .i64 19)) ∧ w = w' := by
  go_enter Tryz.func23, Tryz.ntmps23
  go_wp2
  go_ret
  exact ⟨rfl, rfl⟩
theorem crash_neg (B : Nat) (keep : Int) (w : World) (h : keep < 0) : Calls Tryz.prog 23 #[.pointer (some ⟨B, 0, none⟩), .int .i64 keep] w fun e w' => e = .returned (.iface 42 (.int .i64 1)) ∧ w = w' := by
  go_enter Tryz.func23, Tryz.ntmps23
  go_wp2
  go_ret
  exact ⟨rfl, rfl⟩

theorem row_addr {w : World} {base : Nat} {e : TypeId} {size n c : Nat} {A : Option Addr} {xs : List Value} (h : w.ownsRow base e size (.slice A n c) n xs) (hn : 0 < n) : ∃ g, A = some ⟨g, 0, none⟩ ∧ base ≤ g ∧ g < w.heap.size := by
  rcases h.2 with ⟨_, h0⟩ | ⟨g, cap, cur, hv, hb, hh, _⟩
  · omega
  · injection hv with hA _ _
    exact ⟨g, hA, hb, (Array.getElem?_eq_some_iff.1 hh).1⟩

/-- While Crash's last loop goes round. -/
def CrashAt (base : Nat) (s : St) (f : Int → Int) (m : Nat) (L2 : List (MEnt Int)) (c2 : Nat) (it : Nat) (w wr : World) (dn : List (MEnt ByteArray)) : Prop := ∃ s', DiskAt base wr s' ∧ Frame s s' w wr ∧ s'.B = s.B ∧ s'.M = s.M ∧ s'.c = s.c ∧ s'.L = s.L ∧ s'.turn = s.turn ∧ base ≤ wr.heap.size ∧ ¬ s'.own it ∧ ¬ s'.own m ∧ MapAt intV wr m L2 c2 ∧ (∀ k, k ∈ dn.map MEnt.k → s'.R k = (s.R k).map (crashRec f)) ∧ ∀ k, k ∉ dn.map MEnt.k → s'.R k = s.R k

theorem setCell2_heap (w : World) (F i j : Nat) (u v : Value) (g : Nat) (hg : g ≠ F) : ((w.setCell ⟨F, i, none⟩ u).setCell ⟨F, j, none⟩ v).heap[g]? = w.heap[g]? :=
  (Below.heap_setCell _ ⟨F, j, none⟩ _ g hg).trans (Below.heap_setCell w ⟨F, i, none⟩ _ g hg)

section
variable {base : Nat} {s : St} {f : Int → Int} {m it c2 : Nat} {L2 : List (MEnt Int)} {w wr w2 : World} {dn : List (MEnt ByteArray)}
theorem CrashAt.end (H : DiskAt base w s) (h : CrashAt base s f m L2 c2 it w wr dn) (hp : dn.Perm s.L) : ∃ s', DiskAt base wr s' ∧ Frame s s' w wr ∧ s'.B = s.B ∧ s'.L = s.L ∧ s'.turn = s.turn ∧ ∀ k, s'.R k = (s.R k).map (crashRec f) := by
  obtain ⟨s', h1, h2, h3, _, _, h4, h5, _, _, _, _, h6, h7⟩ := h
  refine ⟨s', h1, h2, h3, h4, h5, fun k => ?_⟩
  cases hr : s.R k with
  | some r =>
    have hin : k ∈ dn.map MEnt.k := by
      have h8 := H.lk k
      rw [hr] at h8
      obtain ⟨e', he', hk', _⟩ := lkV_mem h8
      exact (hp.map MEnt.k).mem_iff.2 (List.mem_map.2 ⟨e', he', hk'⟩)
    rw [h6 k hin, hr]
  | none =>
    rw [h7 k ?_, hr]; rfl
    intro hin
    obtain ⟨e', he', rfl⟩ := List.mem_map.1 hin
    obtain ⟨r', hr', _⟩ := H.mem (hp.mem_iff.1 he')
    rw [hr] at hr'; cases hr'

/-- The next file's turn has come: it stands as it stood. -/
theorem CrashAt.at (h : CrashAt base s f m L2 c2 it w wr dn) (hitm : it ≠ m) (hg : wr.grownBy w2 (some it)) (hit : w.heap.size ≤ it) {k : ByteArray} (hk : k ∉ dn.map MEnt.k) : CrashAt base s f m L2 c2 it w w2 dn ∧ ∀ r, s.R k = some r → RecOK w2 r := by
  obtain ⟨s', h1, h2, h3, h3m, h3c, h4, h5, h5b, h5o, h5m, hm, h6, h7⟩ := h
  have hd2 := h1.iter hg h5o
  refine ⟨⟨s', hd2, h2.grown hg hit, h3, h3m, h3c, h4, h5, Nat.le_trans h5b hg.size, h5o, h5m, ?_, h6, h7⟩, fun r hr => hd2.recs k r (by rw [h7 k hk]; exact hr)⟩
  exact (hg.block m hm.lt (fun e => hitm (by injection e with e; exact e.symm))).trans hm
theorem CrashAt.below (h : CrashAt base s f m L2 c2 it w wr dn) (hb : Below wr.heap.size wr w2) : CrashAt base s f m L2 c2 it w w2 dn := by
  obtain ⟨s', h1, h2, h3, h3m, h3c, h4, h5, h5b, h5o, h5m, hm, h6, h7⟩ := h
  exact ⟨s', h1.below hb, h2.trans (Frame.of_below hb), h3, h3m, h3c, h4, h5, Nat.le_trans h5b hb.size, h5o, h5m, (hb.block m hm.lt).trans hm, h6, h7⟩
theorem CrashAt.map (h : CrashAt base s f m L2 c2 it w wr dn) : MapAt intV wr m L2 c2 := by
  obtain ⟨s', h1, h2, h3, h3m, h3c, h4, h5, h5b, h5o, h5m, hm, h6, h7⟩ := h
  exact hm
theorem CrashAt.rec (h : CrashAt base s f m L2 c2 it w wr dn) {k : ByteArray} {r : FRec} (hr : s.R k = some r) (hk : k ∉ dn.map MEnt.k) : RecOK wr r := by
  obtain ⟨s', h1, h2, h3, h3m, h3c, h4, h5, h5b, h5o, h5m, hm, h6, h7⟩ := h
  exact h1.recs k r (by rw [h7 k hk]; exact hr)
theorem CrashAt.next (h : CrashAt base s f m L2 c2 it w wr dn) {k : ByteArray} {r : FRec} (hr : s.R k = some r) (hk : k ∉ dn.map MEnt.k) (hf : ∀ p ∈ r.loose, 0 ≤ f p.1 ∧ f p.1 ≤ p.2) (v : Value) (b : Nat) :
    CrashAt base s f m L2 c2 it w ((wr.setCell ⟨r.F, 0, none⟩ (cutV r.dv (keepN f r))).setCell ⟨r.F, 1, none⟩ (.slice none 0 0)) (dn ++ [⟨k, v, b⟩]) ∧ it ≠ r.F ∧ s.M ≠ r.F := by
  obtain ⟨s', h1, h2, h3, h3m, h3c, h4, h5, h5b, h5o, h5m, hm, h6, h7⟩ := h
  have hr' : s'.R k = some r := by rw [h7 k hk]; exact hr
  obtain ⟨hd3, hf3⟩ := h1.crash h5b hr' hf
  have hFM : s.M ≠ r.F := fun e => by
    have := (h1.ne_rec hr' (g := r.F) (.inl rfl)).2
    rw [h3m] at this; exact this e.symm
  have hFI : it ≠ r.F := fun e => h5o (.inr (.inr ⟨k, r, hr', .inl e⟩))
  have hFm : m ≠ r.F := fun e => h5m (.inr (.inr ⟨k, r, hr', .inl e⟩))
  have hno : ∀ g, g < wr.heap.size → ¬ s'.own g → ¬ ({ s' with R := updR s'.R k (some (crashRec f r)) } : St).own g := fun g hg ho hb => by
    rcases hf3.own g hb with hb | hb
    · exact ho hb
    · omega
  refine ⟨⟨_, hd3, h2.trans hf3, h3, h3m, h3c, h4, h5, by simpa [World.setCell] using h5b, ?_, hno m hm.lt h5m, (setCell2_heap wr r.F 0 1 _ _ m hFm).trans hm, fun k' hk' => ?_, fun k' hk' => ?_⟩, hFI, hFM⟩
  · by_cases hit : it < wr.heap.size
    · exact hno it hit h5o
    · intro ho
      rcases hf3.own it ho with hb | hb
      · exact h5o hb
      · have hlt := hd3.lt ho
        simp [World.setCell] at hlt
        omega
  · show updR s'.R k (some (crashRec f r)) k' = _
    by_cases e : k' = k
    · subst e
      rw [updR_same, hr]; rfl
    · rw [updR_other _ e]
      exact h6 k' (by
        simp only [List.map_append, List.mem_append] at hk'
        rcases hk' with hk' | hk'
        · exact hk'
        · simp at hk'; exact absurd hk' e)
  · show updR s'.R k (some (crashRec f r)) k' = _
    simp only [List.map_append, List.mem_append, not_or] at hk'
    have e : k' ≠ k := fun e => hk'.2 (by simp [e])
    rw [updR_other _ e]
    exact h7 k' hk'.1
theorem key_fresh (H : DiskAt base w s) (h : ∀ e ∈ dn, e ∈ s.L) {e : MEnt ByteArray} (he : e ∈ s.L) (hnd : e ∉ dn) : e.k ∉ dn.map MEnt.k := fun hm => by
  obtain ⟨e', he', hk'⟩ := List.mem_map.1 hm
  have e8 : e' = e := inj_of_nodup H.wf.keys (h e' he') he hk'
  exact hnd (e8 ▸ he')
end
end Go.Proofs.YthokoimoiamddaaGreatDoor
