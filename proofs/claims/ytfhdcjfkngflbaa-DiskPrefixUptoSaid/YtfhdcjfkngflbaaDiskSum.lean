/-
  disk: the plain law of DiskPrefix: what a crash loses is what was loose, less what is kept. Own work.
-/
import Derived.Test.YtfhdcjfkngflbaaDiskTwo
set_option linter.unusedSimpArgs false
set_option linter.unusedVariables false
namespace Go.Proofs.Ytfhdcjfkngflbaa
open Go Go.RowKit

theorem leftP_fst (l : List (Int × Int)) (k : Int) : (leftP l k).map (·.1) = l.map (·.1) := by
  induction l generalizing k with
  | nil => rfl
  | cons p l ih => simp only [leftP, List.map_cons, ih]
theorem lookP_some {l : List (Int × Int)} {t : Int} (h : t ∈ l.map (·.1)) : (lookP l t).isSome = true := by
  induction l with
  | nil => simp at h
  | cons p l ih =>
    simp only [lookP]
    cases hl : lookP l t with
    | some v => rfl
    | none =>
      simp only
      by_cases e : t = p.1
      · rw [if_pos e]; rfl
      · simp only [List.map_cons, List.mem_cons] at h
        rcases h with h | h
        · exact absurd h e
        · have := ih h; rw [hl] at this; cases this
theorem lookP_none {l : List (Int × Int)} {t : Int} (h : t ∉ l.map (·.1)) : lookP l t = none := by
  cases hl : lookP l t with
  | none => rfl
  | some v => exact absurd (List.mem_map.2 ⟨_, lookP_mem hl, rfl⟩) h
theorem open_cons (p : Int × Int) (l : List (Int × Int)) : openOf (p :: l) = p.2 + openOf l := by simp [openOf]
theorem open_nonneg {l : List (Int × Int)} (h : ∀ p ∈ l, 0 < p.2) : 0 ≤ openOf l := by
  induction l with
  | nil => simp [openOf]
  | cons p l ih =>
    have h1 := h p (by simp)
    have h2 := ih fun q hq => h q (by simp [hq])
    rw [open_cons]; omega
theorem sum_leftP (l : List (Int × Int)) (k : Int) (hk : 0 ≤ k) (h : ∀ p ∈ l, 0 < p.2) : ((leftP l k).map (·.2)).sum = min k (openOf l) := by
  induction l generalizing k with
  | nil => simp [leftP, openOf]; omega
  | cons p l ih =>
    have h1 := h p (by simp)
    have h2 := open_nonneg fun q hq => h q (List.mem_cons_of_mem p hq)
    have h3 := ih (k - min k p.2) (by omega) fun q hq => h q (by simp [hq])
    simp only [leftP, List.map_cons, List.sum_cons, h3, open_cons]
    omega
theorem map_look (l : List (Int × Int)) (k : Int) (hd : (l.map (·.1)).Nodup) : l.map (fun p => (lookP (leftP l k) p.1).getD 0) = (leftP l k).map (·.2) := by
  induction l generalizing k with
  | nil => rfl
  | cons p l ih =>
    simp only [List.map_cons, List.nodup_cons] at hd
    have h3 := ih (k - min k p.2) hd.2
    simp only [leftP, List.map_cons]
    congr 1
    · simp only [lookP]
      rw [lookP_none (by rw [leftP_fst]; exact hd.1)]
      simp
    · rw [← h3]
      refine List.map_congr_left fun q hq => ?_
      simp only [lookP]
      have := lookP_some (l := leftP l (k - min k p.2)) (t := q.1) (by rw [leftP_fst]; exact List.mem_map.2 ⟨q, hq, rfl⟩)
      cases hl : lookP (leftP l (k - min k p.2)) q.1 with
      | none => rw [hl] at this; cases this
      | some v => rfl
theorem leftSum_all {l : List (Int × Int)} {k : Int} (hk : 0 ≤ k) (h : ∀ p ∈ l, 0 < p.2) (hs : l.Pairwise (fun a b => a.1 < b.1)) : leftSum (leftF l k) l = min k (openOf l) := by
  have hnd : (l.map (·.1)).Nodup := by
    rw [List.nodup_iff_pairwise_ne, List.pairwise_map]
    exact hs.imp fun hab => by omega
  unfold leftSum leftF
  rw [map_look l k hnd, sum_leftP l k hk h]
theorem leftSum_perm (f : Int → Int) {l m : List (Int × Int)} (h : l.Perm m) : leftSum f l = leftSum f m := by
  unfold leftSum
  exact sum_perm (h.map _)
theorem openOf_perm {l m : List (Int × Int)} (h : l.Perm m) : openOf l = openOf m := by
  unfold openOf
  exact sum_perm (h.map _)
theorem leftSum_flat {α : Type} (f : Int → Int) (ks : List α) (g : α → List (Int × Int)) : leftSum f (ks.flatMap g) = (ks.map fun k => leftSum f (g k)).sum := by
  induction ks with
  | nil => rfl
  | cons k ks ih => simp only [List.flatMap_cons, List.map_cons, List.sum_cons, ← ih]; simp [leftSum]
theorem openOf_flat {α : Type} (ks : List α) (g : α → List (Int × Int)) : openOf (ks.flatMap g) = (ks.map fun k => openOf (g k)).sum := by
  induction ks with
  | nil => rfl
  | cons k ks ih => simp only [List.flatMap_cons, List.map_cons, List.sum_cons, ← ih]; simp [openOf]
theorem sum_sub {α : Type} (ks : List α) (f g : α → Int) : (ks.map fun k => f k - g k).sum = (ks.map f).sum - (ks.map g).sum := by
  induction ks with
  | nil => rfl
  | cons k ks ih => simp only [List.map_cons, List.sum_cons, ih]; omega
theorem sum_le_of {α : Type} (ks : List α) (f : α → Int) (b : Int) (h : ∀ k ∈ ks, f k ≤ b) : (ks.map f).sum ≤ ks.length * b := by
  induction ks with
  | nil => simp
  | cons k ks ih =>
    have h1 := h k (by simp)
    have h2 := ih fun q hq => h q (by simp [hq])
    simp only [List.map_cons, List.sum_cons, List.length_cons]
    have e : ((ks.length + 1 : Nat) : Int) * b = ks.length * b + b := by rw [Int.natCast_add, Int.add_mul]; simp
    rw [e]; omega
theorem sum_nonneg_of {α : Type} (ks : List α) (f : α → Int) (h : ∀ k ∈ ks, 0 ≤ f k) : 0 ≤ (ks.map f).sum := by
  induction ks with
  | nil => simp
  | cons k ks ih =>
    have h1 := h k (by simp)
    have h2 := ih fun q hq => h q (by simp [hq])
    simp only [List.map_cons, List.sum_cons]; omega

/-- What a view may be. -/
structure VwOK (v : Vw) : Prop where
  pos : ∀ k p, v k = some p → ∀ x ∈ p.2, 0 < x.2
  sum : ∀ k p, v k = some p → openOf p.2 ≤ p.1.length
theorem Dk.vok {base : Nat} {w : World} {B n : Nat} {v : Vw} {t : Int} {s : St} (h : Dk base w B v t n s) : VwOK v := by
  obtain ⟨h1, h2, rfl, h4, h5, h6⟩ := h
  refine ⟨fun k p hp => ?_, fun k p hp => ?_⟩
  · obtain ⟨r, hr, e1, e2⟩ := view_is hp
    rw [← e2]; exact (h1.recs k r hr).pos
  · obtain ⟨r, hr, e1, e2⟩ := view_is hp
    rw [← e1, ← e2]; exact (h1.recs k r hr).sum
theorem Dk.keys {base : Nat} {w : World} {B n : Nat} {v : Vw} {t : Int} {s : St} (h : Dk base w B v t n s) : ∃ ks : List ByteArray, ks.Nodup ∧ (∀ k, k ∈ ks ↔ (v k).isSome = true) ∧ ks.length = n ∧ n ≤ 64 := by
  obtain ⟨h1, h2, rfl, h4, rfl, h6⟩ := h
  exact ⟨s.L.map MEnt.k, h1.wf.keys, fun k => (h1.keys_iff k).trans (by rw [view_some]), by simp, h1.few⟩

/-- How many bytes of a file a crash loses. -/
def lostV (f : Int → Int) (v : Vw) (k : ByteArray) : Int := match v k with
  | some p => (p.1.length : Int) - keepP f p
  | none => 0
theorem lost_one {f : Int → Int} {v : Vw} {k : ByteArray} {p : List UInt8 × List (Int × Int)} (hv : VwOK v) (h : v k = some p) (hb : ∀ x ∈ p.2, 0 ≤ f x.1 ∧ f x.1 ≤ x.2) : lostV f v k = openV v k - leftSum f (looseV v k) ∧ keepP f p ≤ p.1.length ∧ 0 ≤ lostV f v k := by
  have h1 := leftSum_bd f p.2 hb
  have h2 := hv.sum k p h
  unfold lostV openV looseV keepP
  rw [h]
  simp only
  omega
theorem lost_none {f : Int → Int} {v : Vw} {k : ByteArray} (h : v k = none) : lostV f v k = openV v k - leftSum f (looseV v k) := by
  unfold lostV openV looseV
  rw [h]
  simp [leftSum]
theorem openV_loose (v : Vw) (k : ByteArray) : openOf (looseV v k) = openV v k := by
  unfold openV looseV
  cases v k <;> simp [openOf]
theorem looseV_some {v : Vw} {k : ByteArray} {p : List UInt8 × List (Int × Int)} (h : v k = some p) : looseV v k = p.2 := by unfold looseV; rw [h]

section
variable {v : Vw} {ks : List ByteArray} {keep : Int} {l' : List (Int × Int)}
theorem crash_bd (hv : VwOK v) (hi : ∀ k, k ∈ ks ↔ (v k).isSome = true) (hk : 0 ≤ keep) (hp : l'.Perm (ks.flatMap (looseV v))) (hs : l'.Pairwise (fun a b => a.1 < b.1)) {k : ByteArray} {p : List UInt8 × List (Int × Int)} (h : v k = some p) : ∀ x ∈ p.2, 0 ≤ leftF l' keep x.1 ∧ leftF l' keep x.1 ≤ x.2 := by
  intro x hx
  have hpos : ∀ y ∈ l', 0 < y.2 := fun y hy => by
    have := hp.mem_iff.1 hy
    obtain ⟨k2, hk2, hy2⟩ := List.mem_flatMap.1 this
    cases hv2 : v k2 with
    | none => unfold looseV at hy2; rw [hv2] at hy2; cases hy2
    | some q => rw [looseV_some hv2] at hy2; exact hv.pos k2 q hv2 y hy2
  refine leftF_bd hk hpos hs (hp.mem_iff.2 (List.mem_flatMap.2 ⟨k, (hi k).2 (by rw [h]; rfl), by rw [looseV_some h]; exact hx⟩))
/-- THE LAW: over all files. -/
theorem lost_all (hv : VwOK v) (hi : ∀ k, k ∈ ks ↔ (v k).isSome = true) (hk : 0 ≤ keep) (hp : l'.Perm (ks.flatMap (looseV v))) (hs : l'.Pairwise (fun a b => a.1 < b.1)) :
    (ks.map (lostV (leftF l' keep) v)).sum = max 0 ((ks.map (openV v)).sum - keep) := by
  have hpos : ∀ y ∈ l', 0 < y.2 := fun y hy => by
    have := hp.mem_iff.1 hy
    obtain ⟨k2, hk2, hy2⟩ := List.mem_flatMap.1 this
    cases hv2 : v k2 with
    | none => unfold looseV at hy2; rw [hv2] at hy2; cases hy2
    | some q => rw [looseV_some hv2] at hy2; exact hv.pos k2 q hv2 y hy2
  have e1 : ks.map (lostV (leftF l' keep) v) = ks.map (fun k => openV v k - leftSum (leftF l' keep) (looseV v k)) := by
    refine List.map_congr_left fun k hk2 => ?_
    cases hv2 : v k with
    | none => exact lost_none hv2
    | some q => exact (lost_one hv hv2 (crash_bd hv hi hk hp hs hv2)).1
  have e2 : leftSum (leftF l' keep) l' = min keep (openOf l') := leftSum_all hk hpos hs
  rw [leftSum_perm _ hp, openOf_perm hp, leftSum_flat, openOf_flat] at e2
  have e3 : (ks.map fun k => openOf (looseV v k)) = ks.map (openV v) := List.map_congr_left fun k _ => openV_loose v k
  rw [e3] at e2
  rw [e1, sum_sub, e2]
  have := sum_nonneg_of ks (openV v) fun k hk2 => by
    cases hv2 : v k with
    | none => unfold openV; rw [hv2]; exact Int.le_refl _
    | some q => unfold openV; rw [hv2]; exact open_nonneg (hv.pos k q hv2)
  omega
end
end Go.Proofs.Ytfhdcjfkngflbaa
