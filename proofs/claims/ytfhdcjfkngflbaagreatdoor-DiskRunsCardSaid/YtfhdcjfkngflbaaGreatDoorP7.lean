/-
  disk: the document's turns against the program's pieces: the plain laws. Own work.
  disk: the document's disk against the program's: each call keeps them alike: the plain laws. Own work.
  disk: the document's disk against the program's: Cut, Delete, Sync, Crash, Loose, Names: the plain laws. Own work.
  disk: the document's disk as it lies in memory, apart from the program's; place. Own work.
-/
import Derived.Test.YtfhdcjfkngflbaaGreatDoorP6
import Derived.Test.YtfhdcjfkngflbaaGreatDoorErrOf
set_option linter.unusedSimpArgs false
set_option linter.unusedVariables false
namespace Go.Proofs.YtfhdcjfkngflbaaGreatDoor
open Go Go.RowKit

/-- n numbers from b + 1 on. -/
def seqF (b : Int) (n : Nat) : List Int := (List.range n).map fun (i : Nat) => b + 1 + (i : Int)
theorem seqF_len (b : Int) (n : Nat) : (seqF b n).length = n := by simp [seqF]
theorem seqF_mem {b t : Int} {n : Nat} : t ∈ seqF b n ↔ b < t ∧ t ≤ b + n := by
  unfold seqF
  rw [List.mem_map]
  constructor
  · rintro ⟨i, hi, rfl⟩
    have := List.mem_range.1 hi
    omega
  · rintro ⟨h1, h2⟩
    exact ⟨(t - b - 1).toNat, List.mem_range.2 (by omega), by omega⟩
theorem seqF_succ (b : Int) (n : Nat) : seqF b (n + 1) = seqF b n ++ [b + 1 + n] := by
  unfold seqF
  rw [List.range_succ, List.map_append]; rfl
theorem seqF_take (b : Int) (n m : Nat) : (seqF b n).take m = seqF b (min m n) := by
  unfold seqF
  rw [← List.map_take, List.take_range]
/-- The turns of a file's bytes: safe ones, then those of its pieces. -/
def pieceT (a : Int → Int) (x : Int × Int) : List Int := seqF (a x.1) x.2.toNat
def turnsOf (a : Int → Int) (D : Nat) (ps : List (Int × Int)) : List Int := List.replicate ((D : Int) - openOf ps).toNat 0 ++ ps.flatMap (pieceT a)
theorem flat_len (a : Int → Int) {ps : List (Int × Int)} (h : ∀ x ∈ ps, 0 < x.2) : ((ps.flatMap (pieceT a)).length : Int) = openOf ps := by
  induction ps with
  | nil => rfl
  | cons x l ih =>
    have h1 := h x (by simp)
    have h2 := ih fun y hy => h y (by simp [hy])
    rw [open_cons, ← h2, List.flatMap_cons, List.length_append]
    unfold pieceT
    rw [seqF_len]; omega
theorem turnsOf_len (a : Int → Int) {D : Nat} {ps : List (Int × Int)} (h : ∀ x ∈ ps, 0 < x.2) (hs : openOf ps ≤ D) : (turnsOf a D ps).length = D := by
  have h1 := flat_len a h
  have h2 := open_nonneg h
  unfold turnsOf
  rw [List.length_append, List.length_replicate]
  omega
theorem flat_congr {a b : Int → Int} {ps : List (Int × Int)} (h : ∀ x ∈ ps, a x.1 = b x.1) : ps.flatMap (pieceT a) = ps.flatMap (pieceT b) := by
  induction ps with
  | nil => rfl
  | cons x l ih =>
    rw [List.flatMap_cons, List.flatMap_cons, ih fun y hy => h y (by simp [hy])]
    unfold pieceT
    rw [h x (by simp)]
theorem turnsOf_congr {a b : Int → Int} {D : Nat} {ps : List (Int × Int)} (h : ∀ x ∈ ps, a x.1 = b x.1) : turnsOf a D ps = turnsOf b D ps := by
  unfold turnsOf; rw [flat_congr h]
theorem turnsOf_nil (a : Int → Int) (D : Nat) : turnsOf a D [] = List.replicate D 0 := by
  unfold turnsOf; simp [openOf]
/-- An append: one piece more. -/
theorem turnsOf_app (a : Int → Int) {D n : Nat} {ps : List (Int × Int)} (T : Int) (h : ∀ x ∈ ps, 0 < x.2) : turnsOf a (D + n) (ps ++ [(T, (n : Int))]) = turnsOf a D ps ++ seqF (a T) n := by
  unfold turnsOf
  have e : openOf (ps ++ [(T, (n : Int))]) = openOf ps + n := by simp [openOf]
  rw [e, List.flatMap_append, ← List.append_assoc]
  congr 1
  · congr 2; omega
  · simp [pieceT]
theorem open_append (l m : List (Int × Int)) : openOf (l ++ m) = openOf l + openOf m := by simp [openOf]
/-- A cut: the last pieces are shortened. -/
theorem turnsOf_cut (a : Int → Int) (ps : List (Int × Int)) : ∀ (D n : Nat), (∀ x ∈ ps, 0 < x.2) → openOf ps ≤ D → n ≤ D → turnsOf a n (shortL ps ((D : Int) - n)) = (turnsOf a D ps).take n := by
  induction h : ps.length using Nat.strongRecOn generalizing ps with
  | _ m ih =>
    intro D n hpos hs hn
    by_cases hDn : D = n
    · subst hDn
      rw [shortL_zero _ _ (by omega), List.take_of_length_le (by rw [turnsOf_len a hpos hs]; exact Nat.le_refl _)]
    rcases List.eq_nil_or_concat ps with rfl | ⟨qs, x, rfl⟩
    · rw [shortL_nil, turnsOf_nil, turnsOf_nil, List.take_replicate, Nat.min_eq_left hn]
    · rw [List.concat_eq_append] at *
      have hx := hpos x (by simp)
      have hq : ∀ y ∈ qs, 0 < y.2 := fun y hy => hpos y (by simp [hy])
      have hq0 := open_nonneg hq
      rw [open_append] at hs
      have hs' : openOf qs + x.2 ≤ D := by simpa [openOf] using hs
      obtain ⟨xn, hxn⟩ : ∃ k : Nat, x.2 = k := ⟨x.2.toNat, by omega⟩
      have hx2 : x = (x.1, (xn : Int)) := by rw [← hxn]
      have hD : D = (D - xn) + xn := by omega
      have e0 : turnsOf a D (qs ++ [x]) = turnsOf a (D - xn) qs ++ seqF (a x.1) xn := by
        rw [hx2]
        conv => lhs; rw [hD]
        exact turnsOf_app a x.1 hq
      have hl : (turnsOf a (D - xn) qs).length = D - xn := turnsOf_len a hq (by omega)
      by_cases hg : x.2 ≤ (D : Int) - n
      · rw [shortL_drop qs x _ (by omega) hg, e0, List.take_append, hl]
        have e1 : (D : Int) - n - x.2 = ((D - xn : Nat) : Int) - n := by omega
        rw [e1, ih qs.length (by rw [← h]; simp) qs rfl (D - xn) n hq (by omega) (by omega)]
        have e2 : n - (D - xn) = 0 := by omega
        rw [e2]; simp
      · rw [shortL_part qs x _ (by omega) hg, e0, List.take_append, hl, List.take_of_length_le (by rw [hl]; omega), seqF_take]
        obtain ⟨q, hq2⟩ : ∃ q : Nat, n = (D - xn) + q := ⟨n - (D - xn), by omega⟩
        have e1 : x.2 - ((D : Int) - n) = (q : Int) := by omega
        have e3 : n - (D - xn) = q := by omega
        rw [e1, e3, hq2, turnsOf_app a x.1 hq]
        congr 2
        omega

/-- How many of a piece's turns are at most x. -/
def clampP (a : Int → Int) (x : Int) (p : Int × Int) : Int := max 0 (min p.2 (x - a p.1))
def cntP (a : Int → Int) (x : Int) (l : List (Int × Int)) : Int := (l.map (clampP a x)).sum
theorem cntP_cons (a : Int → Int) (x : Int) (p : Int × Int) (l : List (Int × Int)) : cntP a x (p :: l) = clampP a x p + cntP a x l := by simp [cntP]
theorem cntP_perm (a : Int → Int) (x : Int) {l m : List (Int × Int)} (h : l.Perm m) : cntP a x l = cntP a x m := sum_perm (h.map _)
theorem cntP_bd (a : Int → Int) (x : Int) {l : List (Int × Int)} (h : ∀ p ∈ l, 0 < p.2) : 0 ≤ cntP a x l ∧ cntP a x l ≤ openOf l := by
  induction l with
  | nil => simp [cntP, openOf]
  | cons p l ih =>
    have h1 := h p (by simp)
    have h2 := ih fun q hq => h q (by simp [hq])
    rw [cntP_cons, open_cons]
    unfold clampP
    omega
theorem cntP_zero (a : Int → Int) {x : Int} {l : List (Int × Int)} (h : ∀ p ∈ l, x ≤ a p.1) : cntP a x l = 0 := by
  induction l with
  | nil => rfl
  | cons p l ih =>
    have h1 := h p (by simp)
    rw [cntP_cons, ih fun q hq => h q (by simp [hq])]
    unfold clampP; omega
theorem cntP_full (a : Int → Int) {x : Int} {l : List (Int × Int)} (h0 : ∀ p ∈ l, 0 < p.2) (h : ∀ p ∈ l, a p.1 + p.2 ≤ x) : cntP a x l = openOf l := by
  induction l with
  | nil => rfl
  | cons p l ih =>
    have h1 := h p (by simp)
    have h2 := h0 p (by simp)
    rw [cntP_cons, ih (fun q hq => h0 q (by simp [hq])) fun q hq => h q (by simp [hq]), open_cons]
    unfold clampP; omega

/-- The pieces in the order of their turns; each begins behind the one ahead. -/
def Chain (a : Int → Int) (l : List (Int × Int)) : Prop := l.Pairwise fun p q => a p.1 + p.2 ≤ a q.1
/-- One turn more: one byte more, if it is there. -/
theorem cntP_step (a : Int → Int) (t : Int) {l : List (Int × Int)} (h0 : ∀ p ∈ l, 0 < p.2) (hc : Chain a l) :
    cntP a t l = cntP a (t - 1) l + (if ∃ p ∈ l, a p.1 < t ∧ t ≤ a p.1 + p.2 then 1 else 0) := by
  induction l with
  | nil => simp [cntP]
  | cons p l ih =>
    have hp := h0 p (by simp)
    obtain ⟨hc1, hc2⟩ := List.pairwise_cons.1 hc
    have h2 := ih (fun q hq => h0 q (by simp [hq])) hc2
    rw [cntP_cons, cntP_cons, h2]
    by_cases hin : a p.1 < t ∧ t ≤ a p.1 + p.2
    · have hno : ¬ ∃ q ∈ l, a q.1 < t ∧ t ≤ a q.1 + q.2 := fun ⟨q, hq, h3, h4⟩ => by
        have := hc1 q hq; omega
      rw [if_neg hno, if_pos ⟨p, by simp, hin⟩]
      unfold clampP; omega
    · have e : clampP a t p = clampP a (t - 1) p := by unfold clampP; omega
      rw [e]
      by_cases hq : ∃ q ∈ l, a q.1 < t ∧ t ≤ a q.1 + q.2
      · obtain ⟨q, hq1, hq2⟩ := hq
        rw [if_pos ⟨q, hq1, hq2⟩, if_pos ⟨q, by simp [hq1], hq2⟩]; omega
      · rw [if_neg hq, if_neg (fun ⟨q, hq1, hq2⟩ => by
          rcases List.mem_cons.1 hq1 with rfl | h
          · exact hin hq2
          · exact hq ⟨q, h, hq2⟩)]; omega
/-- THE LAW OF THE CRASH: what the counted turns leave of each piece is what the program leaves. -/
theorem clamp_left (a : Int → Int) (x : Int) {l : List (Int × Int)} {k : Int} (hk : 0 ≤ k) (h0 : ∀ p ∈ l, 0 < p.2) (hc : Chain a l) (hs : cntP a x l = min k (openOf l)) : leftP l k = l.map fun p => (p.1, clampP a x p) := by
  induction l generalizing k with
  | nil => rfl
  | cons p l ih =>
    have hp := h0 p (by simp)
    obtain ⟨hc1, hc2⟩ := List.pairwise_cons.1 hc
    have h0' : ∀ q ∈ l, 0 < q.2 := fun q hq => h0 q (by simp [hq])
    have ho := open_nonneg h0'
    have hb := cntP_bd a x h0'
    rw [cntP_cons, open_cons] at hs
    have hz : x ≤ a p.1 + p.2 → cntP a x l = 0 := fun hx => cntP_zero a fun q hq => by have := hc1 q hq; omega
    have hcl : clampP a x p = min k p.2 := by
      by_cases hx : x ≤ a p.1 + p.2
      · have := hz hx
        unfold clampP at hs ⊢; omega
      · unfold clampP at hs ⊢; omega
    simp only [leftP, List.map_cons]
    rw [← hcl, ih (by rw [hcl]; omega) h0' hc2 (by omega)]

/-- How far a file's turns stay at most x. -/
def pfx (x : Int) : List Int → Nat
  | [] => 0
  | t :: l => if t ≤ x then pfx x l + 1 else 0
theorem pfx_le (x : Int) (l : List Int) : pfx x l ≤ l.length := by
  induction l with
  | nil => simp [pfx]
  | cons t l ih => simp only [pfx, List.length_cons]; split <;> omega
theorem pfx_all {x : Int} {l : List Int} (h : ∀ t ∈ l, t ≤ x) (m : List Int) : pfx x (l ++ m) = l.length + pfx x m := by
  induction l with
  | nil => simp
  | cons t l ih =>
    rw [List.cons_append, pfx, if_pos (h t (by simp)), ih fun u hu => h u (by simp [hu]), List.length_cons]; omega
theorem pfx_none {x : Int} {l : List Int} (h : ∀ t ∈ l, ¬ t ≤ x) : pfx x l = 0 := by
  cases l with
  | nil => rfl
  | cons t l => rw [pfx, if_neg (h t (by simp))]
theorem pfx_seq (x b : Int) (n : Nat) (m : List Int) (hm : x < b + n → ∀ t ∈ m, ¬ t ≤ x) : ((pfx x (seqF b n ++ m) : Nat) : Int) = max 0 (min (n : Int) (x - b)) + pfx x m := by
  by_cases hx : x < b + n
  · have h1 := pfx_none (hm hx)
    rw [h1]
    obtain ⟨k, hk⟩ : ∃ k : Nat, max 0 (min (n : Int) (x - b)) = k := ⟨(max 0 (min (n : Int) (x - b))).toNat, by omega⟩
    have e : seqF b n = seqF b k ++ (seqF b n).drop k := by
      have h2 : (seqF b n).take k = seqF b k := by rw [seqF_take]; congr 1; omega
      rw [← h2, List.take_append_drop]
    rw [e, List.append_assoc, pfx_all (fun t ht => by have := seqF_mem.1 ht; omega), seqF_len]
    have h3 : pfx x ((seqF b n).drop k ++ m) = 0 := pfx_none fun t ht => by
      rcases List.mem_append.1 ht with h | h
      · obtain ⟨i, hi⟩ := List.mem_iff_getElem?.1 h
        rw [List.getElem?_drop] at hi
        unfold seqF at hi
        rw [List.getElem?_map] at hi
        cases hr : (List.range n)[k + i]? with
        | none => rw [hr] at hi; cases hi
        | some j =>
          rw [hr] at hi
          have hj := (List.getElem?_eq_some_iff.1 hr)
          obtain ⟨h5, h6⟩ := hj
          simp at h6
          simp at hi
          omega
      · exact hm hx t h
    rw [h3]; omega
  · rw [pfx_all (fun t ht => by have := seqF_mem.1 ht; omega), seqF_len]; omega
theorem pfx_flat (a : Int → Int) (x : Int) {ps : List (Int × Int)} (h0 : ∀ p ∈ ps, 0 < p.2) (hc : Chain a ps) : ((pfx x (ps.flatMap (pieceT a)) : Nat) : Int) = cntP a x ps := by
  induction ps with
  | nil => rfl
  | cons p l ih =>
    have hp := h0 p (by simp)
    obtain ⟨hc1, hc2⟩ := List.pairwise_cons.1 hc
    rw [List.flatMap_cons]
    unfold pieceT
    rw [pfx_seq, cntP_cons]
    · have := ih (fun q hq => h0 q (by simp [hq])) hc2
      unfold pieceT at this
      rw [this]
      unfold clampP; omega
    · intro hx t ht
      obtain ⟨q, hq, ht2⟩ := List.mem_flatMap.1 ht
      have h1 := hc1 q hq
      have h2 := seqF_mem.1 ht2
      omega
theorem pfx_turns (a : Int → Int) {x : Int} (hx : 0 ≤ x) {D : Nat} {ps : List (Int × Int)} (h0 : ∀ p ∈ ps, 0 < p.2) (hc : Chain a ps) (hs : openOf ps ≤ D) : ((pfx x (turnsOf a D ps) : Nat) : Int) = (D : Int) - openOf ps + cntP a x ps := by
  unfold turnsOf
  rw [pfx_all (fun t ht => by have := List.eq_of_mem_replicate ht; omega), List.length_replicate]
  have := pfx_flat a x h0 hc
  omega
end Go.Proofs.YtfhdcjfkngflbaaGreatDoor
set_option linter.unusedSimpArgs false
set_option linter.unusedVariables false
namespace Go.Proofs.YtfhdcjfkngflbaaGreatDoor
open Go Go.RowKit

/-- A file of the document's disk: its name, its bytes, their turns; the slices in which these lie. -/
structure RF where
  name : ByteArray
  data : List UInt8
  turn : List Int
  dA : Option Addr
  dc : Nat
  tA : Option Addr
  tc : Nat
def nmL (k : ByteArray) : List UInt8 := k.data.toList
theorem nmL_inj {a b : ByteArray} (h : nmL a = nmL b) : a = b := by
  obtain ⟨⟨a⟩⟩ := a
  obtain ⟨⟨b⟩⟩ := b
  simpa [nmL] using h
def Sorted (L : List RF) : Prop := L.Pairwise fun f g => nmL f.name < nmL g.name
/-- A file put in its place. -/
def insL (f : RF) (L : List RF) : List RF := L.filter (fun x => decide (nmL x.name < nmL f.name)) ++ [f] ++ L.filter (fun x => decide (nmL f.name < nmL x.name))
theorem lt_irr (a : List UInt8) : ¬ a < a := List.lt_irrefl a
theorem lt_tr {a b c : List UInt8} (h : a < b) (k : b < c) : a < c := List.lt_trans h k
theorem lt_tri (a b : List UInt8) : a < b ∨ a = b ∨ b < a := by
  by_cases h1 : a < b
  · exact .inl h1
  · by_cases h2 : b < a
    · exact .inr (.inr h2)
    · exact .inr (.inl (List.le_antisymm (by simpa using h2) (by simpa using h1)))
theorem insL_sorted {f : RF} {L : List RF} (h : Sorted L) : Sorted (insL f L) := by
  unfold insL Sorted
  rw [List.pairwise_append, List.pairwise_append]
  refine ⟨⟨h.filter _, List.pairwise_singleton _ _, fun x hx y hy => ?_⟩, h.filter _, fun x hx y hy => ?_⟩
  · have h1 := (List.mem_filter.1 hx).2
    obtain rfl : y = f := by simpa using hy
    simpa using h1
  · have h2 : nmL f.name < nmL y.name := by simpa using (List.mem_filter.1 hy).2
    rcases List.mem_append.1 hx with hx | hx
    · have h1 : nmL x.name < nmL f.name := by simpa using (List.mem_filter.1 hx).2
      exact lt_tr h1 h2
    · obtain rfl : x = f := by simpa using hx
      exact h2
theorem insL_mem {f x : RF} {L : List RF} : x ∈ insL f L ↔ x = f ∨ (x ∈ L ∧ x.name ≠ f.name) := by
  unfold insL
  simp only [List.mem_append, List.mem_filter, List.mem_singleton, decide_eq_true_eq]
  constructor
  · rintro ((⟨h, h2⟩ | rfl) | ⟨h, h2⟩)
    · exact .inr ⟨h, fun e => by rw [e] at h2; exact lt_irr _ h2⟩
    · exact .inl rfl
    · exact .inr ⟨h, fun e => by rw [e] at h2; exact lt_irr _ h2⟩
  · rintro (rfl | ⟨h, h2⟩)
    · exact .inl (.inr rfl)
    · rcases lt_tri (nmL x.name) (nmL f.name) with h3 | h3 | h3
      · exact .inl (.inl ⟨h, h3⟩)
      · exact absurd (nmL_inj h3) h2
      · exact .inr ⟨h, h3⟩
theorem sorted_inj {L : List RF} (h : Sorted L) {f g : RF} (hf : f ∈ L) (hg : g ∈ L) (e : f.name = g.name) : f = g := by
  induction L with
  | nil => cases hf
  | cons x L ih =>
    obtain ⟨h1, h2⟩ := List.pairwise_cons.1 h
    rcases List.mem_cons.1 hf with hf | hf
    · rcases List.mem_cons.1 hg with hg | hg
      · rw [hf, hg]
      · have := h1 g hg; rw [← e, hf] at this; exact absurd this (lt_irr _)
    · rcases List.mem_cons.1 hg with hg | hg
      · have := h1 f hf; rw [e, hg] at this; exact absurd this (lt_irr _)
      · exact ih h2 hf hg
theorem sorted_nodup {L : List RF} (h : Sorted L) : (L.map (·.name)).Nodup := by
  rw [List.nodup_iff_pairwise_ne, List.pairwise_map]
  exact List.Pairwise.imp (fun h e => by rw [e] at h; exact lt_irr _ h) h
theorem insL_len {f : RF} {L : List RF} (h : Sorted L) : (insL f L).length = L.length + (if ∃ x ∈ L, x.name = f.name then 0 else 1) := by
  unfold insL
  simp only [List.length_append, List.length_singleton]
  induction L with
  | nil => simp
  | cons x L ih =>
    obtain ⟨h1, h2⟩ := List.pairwise_cons.1 h
    have ih := ih h2
    rw [List.filter_cons, List.filter_cons, List.length_cons]
    rcases lt_tri (nmL x.name) (nmL f.name) with h3 | h3 | h3
    · have h4 : ¬ nmL f.name < nmL x.name := fun h => lt_irr _ (lt_tr h3 h)
      rw [if_pos (by simpa using h3), if_neg (by simpa using h4), List.length_cons]
      have e : (∃ y ∈ x :: L, y.name = f.name) ↔ ∃ y ∈ L, y.name = f.name := by
        constructor
        · rintro ⟨y, hy, e⟩
          rcases List.mem_cons.1 hy with rfl | hy
          · rw [e] at h3; exact absurd h3 (lt_irr _)
          · exact ⟨y, hy, e⟩
        · rintro ⟨y, hy, e⟩; exact ⟨y, List.mem_cons_of_mem _ hy, e⟩
      by_cases hx : ∃ y ∈ L, y.name = f.name
      · rw [if_pos (e.2 hx)]; rw [if_pos hx] at ih; omega
      · rw [if_neg (fun h => hx (e.1 h))]; rw [if_neg hx] at ih; omega
    · have h4 : x.name = f.name := nmL_inj h3
      rw [h3, if_neg (by simp), if_neg (by simp), if_pos ⟨x, by simp, h4⟩]
      have e : ¬ ∃ y ∈ L, y.name = f.name := fun ⟨y, hy, e⟩ => by have := h1 y hy; rw [e, h4] at this; exact lt_irr _ this
      rw [if_neg e] at ih
      omega
    · have h4 : ¬ nmL x.name < nmL f.name := fun h => lt_irr _ (lt_tr h3 h)
      rw [if_neg (by simpa using h4), if_pos (by simpa using h3), List.length_cons]
      have e : ¬ ∃ y ∈ L, y.name = f.name := fun ⟨y, hy, e⟩ => by have := h1 y hy; rw [e] at this; exact lt_irr _ (lt_tr h3 this)
      have e2 : ¬ ∃ y ∈ x :: L, y.name = f.name := fun ⟨y, hy, e3⟩ => by
        rcases List.mem_cons.1 hy with rfl | hy
        · rw [e3] at h3; exact lt_irr _ h3
        · exact e ⟨y, hy, e3⟩
      rw [if_neg e] at ih
      rw [if_neg e2]; omega

structure Coup (v : Vw) (t : Int) (n : Nat) (L : List RF) (last : Int) (a : Int → Int) : Prop where
  sorted : Sorted L
  some_ : ∀ f ∈ L, ∃ ps, v f.name = some (f.data, ps) ∧ f.turn = turnsOf a f.data.length ps
  none_ : ∀ k, (∀ f ∈ L, f.name ≠ k) → v k = none
  len : L.length = n
  bd : ∀ (k : ByteArray) (p : List UInt8 × List (Int × Int)) (x : Int × Int), v k = some p → x ∈ p.2 → 0 ≤ a x.1 ∧ a x.1 + x.2 ≤ last ∧ x.1 ≤ t
  ord : ∀ (k k' : ByteArray) (p p' : List UInt8 × List (Int × Int)) (x x' : Int × Int), v k = some p → v k' = some p' → x ∈ p.2 → x' ∈ p'.2 → x.1 < x'.1 → a x.1 + x.2 ≤ a x'.1
  asc : ∀ (k : ByteArray) (p : List UInt8 × List (Int × Int)), v k = some p → p.2.Pairwise fun x y => x.1 < y.1
  last0 : 0 ≤ last
  ok : VwOK v
theorem coup_new (a : Int → Int) : Coup (fun _ => none) 0 0 [] 0 a :=
  ⟨List.Pairwise.nil, fun f hf => (by cases hf), fun _ _ => rfl, rfl, fun k p x h => (by cases h), fun k k' p p' x x' h => (by cases h), fun k p h => (by cases h), Int.le_refl _, ⟨fun k p h => (by cases h), fun k p h => (by cases h)⟩⟩

section
variable {v : Vw} {t : Int} {n : Nat} {L : List RF} {last : Int} {a : Int → Int}
theorem Coup.hit (h : Coup v t n L last a) {k : ByteArray} {p : List UInt8 × List (Int × Int)} (hv : v k = some p) : ∃ f ∈ L, f.name = k ∧ f.data = p.1 ∧ f.turn = turnsOf a p.1.length p.2 := by
  by_cases hx : ∃ f ∈ L, f.name = k
  · obtain ⟨f, hf, rfl⟩ := hx
    obtain ⟨ps, h1, h2⟩ := h.some_ f hf
    rw [hv] at h1
    cases h1
    exact ⟨f, hf, rfl, rfl, h2⟩
  · have := h.none_ k fun f hf e => hx ⟨f, hf, e⟩
    rw [hv] at this; cases this
theorem Coup.miss (h : Coup v t n L last a) {k : ByteArray} (hv : v k = none) : ∀ f ∈ L, f.name ≠ k := fun f hf e => by
  obtain ⟨ps, h1, h2⟩ := h.some_ f hf
  rw [e, hv] at h1; cases h1
theorem Coup.turn_len (h : Coup v t n L last a) {f : RF} (hf : f ∈ L) : f.turn.length = f.data.length := by
  obtain ⟨ps, h1, h2⟩ := h.some_ f hf
  rw [h2, turnsOf_len a (h.ok.pos _ _ h1) (h.ok.sum _ _ h1)]

/-- A file made or lengthened. -/
theorem coup_app (h : Coup v t n L last a) (k : ByteArray) (bs : List UInt8) (f : RF) (hk : f.name = k) (hd : f.data = ((v k).map (·.1)).getD [] ++ bs)
    (ht : ∀ ps, (v k).map (·.2) = some ps ∨ (v k = none ∧ ps = []) → f.turn = turnsOf a (((v k).map (·.1)).getD []).length ps ++ seqF last bs.length) :
    ∃ a', Coup (appV v t k bs) (t + (if bs = [] then 0 else 1)) (n + (if (v k).isSome then 0 else 1)) (insL f L) (last + bs.length) a' := by
  subst hk
  have hother : ∀ k', k' ≠ f.name → appV v t f.name bs k' = v k' := fun k' e => by unfold appV; rw [if_neg e]
  have hself : appV v t f.name bs f.name = some (f.data, ((v f.name).map (·.2)).getD [] ++ (if bs = [] then [] else [(t + 1, (bs.length : Int))])) := by unfold appV; rw [if_pos rfl, hd]
  obtain ⟨ps, hps⟩ : ∃ ps, ps = ((v f.name).map (·.2)).getD [] := ⟨_, rfl⟩
  rw [← hps] at hself
  have hold : ∀ x ∈ ps, ∃ k p, v k = some p ∧ x ∈ p.2 := fun x hx => by
    cases hv : v f.name with
    | none => rw [hv] at hps; simp at hps; subst hps; cases hx
    | some p => rw [hv] at hps; simp at hps; subst hps; exact ⟨_, p, hv, hx⟩
  have hturn : f.turn = turnsOf a (((v f.name).map (·.1)).getD []).length ps ++ seqF last bs.length := ht ps (by
    cases hv : v f.name with
    | none => right; rw [hv] at hps; exact ⟨rfl, by simpa using hps⟩
    | some p => left; rw [hv] at hps; simp at hps ⊢; exact hps.symm)
  have hpos : ∀ x ∈ ps, 0 < x.2 := fun x hx => by
    obtain ⟨k, p, h1, h2⟩ := hold x hx
    exact h.ok.pos k p h1 x h2
  have hsum : openOf ps ≤ (((v f.name).map (·.1)).getD []).length := by
    cases hv : v f.name with
    | none => rw [hv] at hps; simp at hps; subst hps; simp [openOf]
    | some p => rw [hv] at hps; simp at hps; subst hps; simpa using h.ok.sum _ p hv
  have hascp : ps.Pairwise fun x y => x.1 < y.1 := by
    cases hv : v f.name with
    | none => rw [hv] at hps; simp at hps; subst hps; exact List.Pairwise.nil
    | some p => rw [hv] at hps; simp at hps; subst hps; exact h.asc _ p hv
  have hdl : f.data.length = (((v f.name).map (·.1)).getD []).length + bs.length := by rw [hd, List.length_append]
  refine ⟨fun T => if T = t + 1 then last else a T, insL_sorted h.sorted, fun g hg => ?_, fun k' hk' => ?_, ?_, ?_, ?_, ?_, by have := h.last0; omega, ?_, ?_⟩
  · rcases insL_mem.1 hg with rfl | ⟨hg, hne⟩
    · refine ⟨_, hself, ?_⟩
      rw [hturn, hdl]
      have e1 : turnsOf a (((v g.name).map (·.1)).getD []).length ps = turnsOf (fun T => if T = t + 1 then last else a T) (((v g.name).map (·.1)).getD []).length ps := turnsOf_congr fun x hx => by
        obtain ⟨k, p, h1, h2⟩ := hold x hx
        have := (h.bd k p x h1 h2).2.2
        rw [if_neg (by omega)]
      by_cases hb : bs = []
      · subst hb; simp [seqF]; exact e1
      · rw [if_neg hb, turnsOf_app _ _ hpos, e1, if_pos rfl]
    · obtain ⟨qs, h1, h2⟩ := h.some_ g hg
      refine ⟨qs, by rw [hother _ hne]; exact h1, ?_⟩
      rw [h2]
      exact turnsOf_congr fun x hx => by
        have := (h.bd _ _ x h1 hx).2.2
        rw [if_neg (by omega)]
  · have h1 : k' ≠ f.name := fun e => hk' f (insL_mem.2 (.inl rfl)) e.symm
    rw [hother _ h1]
    exact h.none_ k' fun g hg e => hk' g (insL_mem.2 (.inr ⟨hg, fun e2 => h1 (by rw [← e, e2])⟩)) e
  · rw [insL_len h.sorted, h.len]
    congr 1
    cases hv : v f.name with
    | none => rw [if_neg (fun ⟨x, hx, e⟩ => h.miss hv x hx e)]; rfl
    | some p =>
      obtain ⟨g, hg, e, _⟩ := h.hit hv
      rw [if_pos ⟨g, hg, e⟩]; rfl
  · have hb1 : (0 : Int) ≤ (if bs = [] then (0 : Int) else 1) := by split <;> omega
    have hl := h.last0
    intro k p x hv hx
    by_cases e : k = f.name
    · subst e
      rw [hself] at hv
      cases hv
      rcases List.mem_append.1 hx with hx | hx
      · obtain ⟨k, p, h1, h2⟩ := hold x hx
        have h3 := h.bd k p x h1 h2
        rw [if_neg (by omega)]; omega
      · by_cases hb : bs = []
        · subst hb; simp at hx
        · rw [if_neg hb] at hx
          obtain rfl : x = (t + 1, (bs.length : Int)) := by simpa using hx
          rw [if_pos rfl, if_neg hb]; simp; omega
    · rw [hother _ e] at hv
      have h3 := h.bd k p x hv hx
      rw [if_neg (by omega)]; omega
  · -- order
    have key : ∀ k p x, appV v t f.name bs k = some p → x ∈ p.2 → (x.1 ≤ t ∧ ∃ k p, v k = some p ∧ x ∈ p.2) ∨ (x = (t + 1, (bs.length : Int))) := fun k p x hv hx => by
      by_cases e : k = f.name
      · subst e
        rw [hself] at hv
        cases hv
        rcases List.mem_append.1 hx with hx | hx
        · obtain ⟨k, p, h1, h2⟩ := hold x hx
          exact .inl ⟨(h.bd k p x h1 h2).2.2, k, p, h1, h2⟩
        · by_cases hb : bs = []
          · subst hb; simp at hx
          · rw [if_neg hb] at hx
            exact .inr (by simpa using hx)
      · rw [hother _ e] at hv
        exact .inl ⟨(h.bd k p x hv hx).2.2, k, p, hv, hx⟩
    intro k k' p p' x x' hv hv' hx hx' hlt
    rcases key k p x hv hx with ⟨h1, k1, p1, h2, h3⟩ | rfl
    · rw [if_neg (by omega)]
      rcases key k' p' x' hv' hx' with ⟨h4, k4, p4, h5, h6⟩ | rfl
      · rw [if_neg (by omega)]; exact h.ord k1 k4 p1 p4 x x' h2 h5 h3 h6 hlt
      · rw [if_pos rfl]; exact (h.bd k1 p1 x h2 h3).2.1
    · rcases key k' p' x' hv' hx' with ⟨h4, _⟩ | rfl
      · simp only at hlt; omega
      · simp only at hlt; omega
  · intro k p hv
    by_cases e : k = f.name
    · subst e
      rw [hself] at hv
      cases hv
      rw [List.pairwise_append]
      refine ⟨hascp, ?_, fun x hx y hy => ?_⟩
      · by_cases hb : bs = []
        · rw [if_pos hb]; exact List.Pairwise.nil
        · rw [if_neg hb]; exact List.pairwise_singleton _ _
      · by_cases hb : bs = []
        · subst hb; simp at hy
        · rw [if_neg hb] at hy
          obtain rfl : y = (t + 1, (bs.length : Int)) := by simpa using hy
          obtain ⟨k, p, h1, h2⟩ := hold x hx
          have := (h.bd k p x h1 h2).2.2
          simp only; omega
    · rw [hother _ e] at hv; exact h.asc k p hv
  · intro k p hv x hx
    by_cases e : k = f.name
    · subst e
      rw [hself] at hv
      cases hv
      rcases List.mem_append.1 hx with hx | hx
      · exact hpos x hx
      · by_cases hb : bs = []
        · subst hb; simp at hx
        · rw [if_neg hb] at hx
          obtain rfl : x = (t + 1, (bs.length : Int)) := by simpa using hx
          have : 0 < bs.length := List.length_pos_iff.2 hb
          simp only; omega
    · rw [hother _ e] at hv; exact h.ok.pos k p hv x hx
  · intro k p hv
    by_cases e : k = f.name
    · subst e
      rw [hself] at hv
      cases hv
      simp only
      rw [open_append, hdl]
      by_cases hb : bs = []
      · subst hb; simp [openOf] at hsum ⊢; exact hsum
      · rw [if_neg hb]; simp [openOf] at hsum ⊢; omega
    · rw [hother _ e] at hv; exact h.ok.sum k p hv
end
end Go.Proofs.YtfhdcjfkngflbaaGreatDoor
set_option linter.unusedSimpArgs false
set_option linter.unusedVariables false
namespace Go.Proofs.YtfhdcjfkngflbaaGreatDoor
open Go Go.RowKit

theorem shortL_mem (l : List (Int × Int)) : ∀ (g : Int), (∀ p ∈ l, 0 < p.2) → ∀ x ∈ shortL l g, ∃ q ∈ l, q.1 = x.1 ∧ 0 < x.2 ∧ x.2 ≤ q.2 := by
  induction h : l.length using Nat.strongRecOn generalizing l with
  | _ m ih =>
    intro g hpos x hx
    by_cases hg : g ≤ 0
    · rw [shortL_zero _ _ hg] at hx
      exact ⟨x, hx, rfl, hpos x hx, Int.le_refl _⟩
    rcases List.eq_nil_or_concat l with rfl | ⟨qs, y, rfl⟩
    · rw [shortL_nil] at hx; cases hx
    · rw [List.concat_eq_append] at *
      by_cases hy : y.2 ≤ g
      · rw [shortL_drop qs y _ (by omega) hy] at hx
        obtain ⟨q, hq, h2⟩ := ih qs.length (by rw [← h]; simp) qs rfl _ (fun p hp => hpos p (by simp [hp])) x hx
        exact ⟨q, by simp [hq], h2⟩
      · rw [shortL_part qs y _ (by omega) hy] at hx
        rcases List.mem_append.1 hx with hx | hx
        · exact ⟨x, by simp [hx], rfl, hpos x (by simp [hx]), Int.le_refl _⟩
        · obtain rfl : x = (y.1, y.2 - g) := by simpa using hx
          exact ⟨y, by simp, rfl, by simp only; omega, by simp only; omega⟩
theorem shortL_asc {l : List (Int × Int)} (g : Int) (h : l.Pairwise fun x y => x.1 < y.1) : (shortL l g).Pairwise fun x y => x.1 < y.1 := by
  obtain ⟨t, ht⟩ := shortL_fst l g
  have h1 : (l.map (·.1)).Pairwise (· < ·) := List.pairwise_map.2 h
  rw [ht] at h1
  exact List.pairwise_map.1 (List.pairwise_append.1 h1).1

section
variable {v : Vw} {t : Int} {n : Nat} {L : List RF} {last : Int} {a : Int → Int}
theorem coup_cut (h : Coup v t n L last a) {k : ByteArray} {p : List UInt8 × List (Int × Int)} (hv : v k = some p) (m : Nat) (hm : m ≤ p.1.length) (f : RF) (hk : f.name = k) (hd : f.data = p.1.take m) (ht : f.turn = (turnsOf a p.1.length p.2).take m) :
    Coup (cutVw v k m) t n (insL f L) last a := by
  subst hk
  have hother : ∀ k', k' ≠ f.name → cutVw v f.name m k' = v k' := fun k' e => by unfold cutVw; rw [if_neg e]
  have hself : cutVw v f.name m f.name = some (p.1.take m, shortL p.2 ((p.1.length : Int) - m)) := by unfold cutVw; rw [if_pos rfl, hv]; rfl
  have hpos := h.ok.pos _ _ hv
  have hsum := h.ok.sum _ _ hv
  have hml : f.data.length = m := by rw [hd, List.length_take]; omega
  obtain ⟨g0, hg0, hgn, _, _⟩ := h.hit hv
  have key : ∀ k q x, cutVw v f.name m k = some q → x ∈ q.2 → ∃ k' q' x', v k' = some q' ∧ x' ∈ q'.2 ∧ x'.1 = x.1 ∧ 0 < x.2 ∧ x.2 ≤ x'.2 := fun k q x hq hx => by
    by_cases e : k = f.name
    · subst e
      rw [hself] at hq
      cases hq
      obtain ⟨y, hy, h1, h2, h3⟩ := shortL_mem p.2 _ hpos x hx
      exact ⟨_, p, y, hv, hy, h1, h2, h3⟩
    · rw [hother _ e] at hq
      exact ⟨k, q, x, hq, hx, rfl, h.ok.pos k q hq x hx, Int.le_refl _⟩
  refine ⟨insL_sorted h.sorted, fun g hg => ?_, fun k' hk' => ?_, ?_, fun k q x hq hx => ?_, fun k k' q q' x x' hq hq' hx hx' hlt => ?_, fun k q hq => ?_, h.last0, ⟨fun k q hq x hx => ?_, fun k q hq => ?_⟩⟩
  · rcases insL_mem.1 hg with rfl | ⟨hg, hne⟩
    · refine ⟨_, by rw [hself, hd], ?_⟩
      rw [ht, hml, turnsOf_cut a p.2 p.1.length m hpos hsum hm]
    · obtain ⟨qs, h1, h2⟩ := h.some_ g hg
      exact ⟨qs, by rw [hother _ hne]; exact h1, h2⟩
  · have h1 : k' ≠ f.name := fun e => hk' f (insL_mem.2 (.inl rfl)) e.symm
    rw [hother _ h1]
    exact h.none_ k' fun g hg e => hk' g (insL_mem.2 (.inr ⟨hg, fun e2 => h1 (by rw [← e, e2])⟩)) e
  · rw [insL_len h.sorted, if_pos ⟨g0, hg0, hgn⟩, Nat.add_zero, h.len]
  · obtain ⟨k1, q1, x1, h1, h2, h3, h4, h5⟩ := key k q x hq hx
    have h6 := h.bd k1 q1 x1 h1 h2
    rw [← h3]; omega
  · obtain ⟨k1, q1, x1, h1, h2, h3, h4, h5⟩ := key k q x hq hx
    obtain ⟨k2, q2, x2, h1', h2', h3', h4', h5'⟩ := key k' q' x' hq' hx'
    have := h.ord k1 k2 q1 q2 x1 x2 h1 h1' h2 h2' (by omega)
    rw [← h3, ← h3']; omega
  · by_cases e : k = f.name
    · subst e
      rw [hself] at hq
      cases hq
      exact shortL_asc _ (h.asc _ _ hv)
    · rw [hother _ e] at hq; exact h.asc k q hq
  · obtain ⟨k1, q1, x1, h1, h2, h3, h4, h5⟩ := key k q x hq hx
    exact h4
  · by_cases e : k = f.name
    · subst e
      rw [hself] at hq
      cases hq
      have := shortL_open p.2 ((p.1.length : Int) - m) (by omega) hpos
      simp only [List.length_take]
      omega
    · rw [hother _ e] at hq; exact h.ok.sum k q hq

theorem coup_del (h : Coup v t n L last a) {i : Nat} {f : RF} (hi : L[i]? = some f) : Coup (dropV v f.name) t (n - 1) (L.eraseIdx i) last a := by
  have hother : ∀ k', k' ≠ f.name → dropV v f.name k' = v k' := fun k' e => by unfold dropV; rw [if_neg e]
  have hself : dropV v f.name f.name = none := by unfold dropV; rw [if_pos rfl]
  obtain ⟨hil, hif⟩ := List.getElem?_eq_some_iff.1 hi
  have hback : ∀ k q, dropV v f.name k = some q → k ≠ f.name ∧ v k = some q := fun k q hq => by
    by_cases e : k = f.name
    · rw [e, hself] at hq; cases hq
    · exact ⟨e, by rw [← hother _ e]; exact hq⟩
  have hfm : f ∈ L := List.mem_of_getElem? hi
  have hne : ∀ g ∈ L.eraseIdx i, g ∈ L ∧ g.name ≠ f.name := fun g hg => by
    obtain ⟨j, hj, hji⟩ := List.mem_eraseIdx_iff_getElem?.1 hg
    have hgm := List.mem_of_getElem? hji
    refine ⟨hgm, fun e => ?_⟩
    obtain ⟨hjl, hjf⟩ := List.getElem?_eq_some_iff.1 hji
    have hs := List.pairwise_iff_getElem.1 h.sorted
    rcases Nat.lt_trichotomy i j with h1 | h1 | h1
    · have := hs i j hil hjl h1; rw [hif, hjf, e] at this; exact lt_irr _ this
    · exact hj h1.symm
    · have := hs j i hjl hil h1; rw [hif, hjf, e] at this; exact lt_irr _ this
  refine ⟨h.sorted.sublist (List.eraseIdx_sublist _ _), fun g hg => ?_, fun k' hk' => ?_, ?_, fun k q x hq hx => h.bd k q x (hback k q hq).2 hx, fun k k' q q' x x' hq hq' => h.ord k k' q q' x x' (hback k q hq).2 (hback k' q' hq').2, fun k q hq => h.asc k q (hback k q hq).2, h.last0, ⟨fun k q hq => h.ok.pos k q (hback k q hq).2, fun k q hq => h.ok.sum k q (hback k q hq).2⟩⟩
  · obtain ⟨h1, h2⟩ := hne g hg
    rw [hother _ h2]; exact h.some_ g h1
  · by_cases e : k' = f.name
    · rw [e, hself]
    · rw [hother _ e]
      refine h.none_ k' fun g hg e2 => ?_
      obtain ⟨j, hj⟩ := List.mem_iff_getElem?.1 hg
      refine hk' g (List.mem_eraseIdx_iff_getElem?.2 ⟨j, fun e3 => ?_, hj⟩) e2
      subst e3
      rw [hi] at hj
      cases hj
      exact e e2.symm
  · rw [List.length_eraseIdx, if_pos hil, h.len]

/-- All files cut, and all that is left safe: a Sync, a Crash. -/
theorem coup_safe (h : Coup v t n L last a) (mm : List UInt8 × List (Int × Int) → Nat) (hm : ∀ k p, v k = some p → mm p ≤ p.1.length) (L' : List RF) (hl : L'.length = L.length)
    (hp : ∀ (i : Nat) (f f' : RF), L[i]? = some f → L'[i]? = some f' → f'.name = f.name ∧ ∀ p, v f.name = some p → f'.data = p.1.take (mm p) ∧ f'.turn = List.replicate (mm p) 0) :
    Coup (fun k => (v k).map fun p => (p.1.take (mm p), [])) t n L' last a := by
  have hat : ∀ (i : Nat) (f' : RF), L'[i]? = some f' → ∃ f, L[i]? = some f ∧ f'.name = f.name ∧ ∀ p, v f.name = some p → f'.data = p.1.take (mm p) ∧ f'.turn = List.replicate (mm p) 0 := fun i f' hi => by
    obtain ⟨h1, h2⟩ := List.getElem?_eq_some_iff.1 hi
    obtain ⟨f, hf⟩ : ∃ f, L[i]? = some f := ⟨_, List.getElem?_eq_getElem (by omega)⟩
    exact ⟨f, hf, hp i f f' hf hi⟩
  have hempty : ∀ k q, (v k).map (fun p => (p.1.take (mm p), ([] : List (Int × Int)))) = some q → q.2 = [] := fun k q hq => by
    cases hv : v k with
    | none => rw [hv] at hq; cases hq
    | some p => rw [hv] at hq; cases hq; rfl
  refine ⟨?_, fun g hg => ?_, fun k' hk' => ?_, by rw [hl]; exact h.len, fun k q x hq hx => ?_, fun k k' q q' x x' hq hq' hx => ?_, fun k q hq => ?_, h.last0, ⟨fun k q hq x hx => ?_, fun k q hq => ?_⟩⟩
  · unfold Sorted
    rw [List.pairwise_iff_getElem]
    intro i j hi hj hij
    obtain ⟨f, hf, h1, _⟩ := hat i _ (List.getElem?_eq_getElem hi)
    obtain ⟨g, hg, h2, _⟩ := hat j _ (List.getElem?_eq_getElem hj)
    rw [h1, h2]
    obtain ⟨hf1, hf2⟩ := List.getElem?_eq_some_iff.1 hf
    obtain ⟨hg1, hg2⟩ := List.getElem?_eq_some_iff.1 hg
    rw [← hf2, ← hg2]
    exact List.pairwise_iff_getElem.1 h.sorted i j hf1 hg1 hij
  · obtain ⟨i, hi⟩ := List.mem_iff_getElem?.1 hg
    obtain ⟨f, hf, h1, h2⟩ := hat i g hi
    obtain ⟨ps, h3, h4⟩ := h.some_ f (List.mem_of_getElem? hf)
    obtain ⟨h5, h6⟩ := h2 _ h3
    refine ⟨[], by rw [h1, h3, h5]; rfl, ?_⟩
    rw [turnsOf_nil, h6, h5, List.length_take, Nat.min_eq_left (hm _ _ h3)]
  · rw [h.none_ k' fun f hf e => ?_]
    · rfl
    · obtain ⟨i, hi⟩ := List.mem_iff_getElem?.1 hf
      obtain ⟨hi1, hi2⟩ := List.getElem?_eq_some_iff.1 hi
      obtain ⟨g, hg⟩ : ∃ g, L'[i]? = some g := ⟨_, List.getElem?_eq_getElem (by omega)⟩
      exact hk' g (List.mem_of_getElem? hg) (by rw [(hp i f g hi hg).1]; exact e)
  · rw [hempty k q hq] at hx; cases hx
  · rw [hempty k q hq] at hx; cases hx
  · rw [hempty k q hq]; exact List.Pairwise.nil
  · rw [hempty k q hq] at hx; cases hx
  · rw [hempty k q hq]; simp [openOf]

theorem sync_eq (v : Vw) : syncV v = fun k => (v k).map fun p => (p.1.take p.1.length, []) := by
  funext k
  unfold syncV
  cases v k <;> simp

section
variable {ks : List ByteArray} {l' : List (Int × Int)}
theorem all_mem (hi : ∀ k, k ∈ ks ↔ (v k).isSome = true) (hp : l'.Perm (ks.flatMap (looseV v))) {x : Int × Int} : x ∈ l' ↔ ∃ k p, v k = some p ∧ x ∈ p.2 := by
  rw [hp.mem_iff, List.mem_flatMap]
  constructor
  · rintro ⟨k, hk, hx⟩
    cases hv : v k with
    | none => unfold looseV at hx; rw [hv] at hx; cases hx
    | some p => rw [looseV_some hv] at hx; exact ⟨k, p, hv, hx⟩
  · rintro ⟨k, p, hv, hx⟩
    exact ⟨k, (hi k).2 (by rw [hv]; rfl), by rw [looseV_some hv]; exact hx⟩
theorem Coup.chain (h : Coup v t n L last a) (hi : ∀ k, k ∈ ks ↔ (v k).isSome = true) (hp : l'.Perm (ks.flatMap (looseV v))) (hs : l'.Pairwise fun x y => x.1 < y.1) : Chain a l' := by
  refine List.Pairwise.imp_of_mem (fun hx hy hlt => ?_) hs
  obtain ⟨k, p, h1, h2⟩ := (all_mem hi hp).1 hx
  obtain ⟨k', p', h3, h4⟩ := (all_mem hi hp).1 hy
  exact h.ord k k' p p' _ _ h1 h3 h2 h4 hlt
theorem Coup.chain1 (h : Coup v t n L last a) {k : ByteArray} {p : List UInt8 × List (Int × Int)} (hv : v k = some p) : Chain a p.2 :=
  List.Pairwise.imp_of_mem (fun hx hy hlt => h.ord k k p p _ _ hv hv hx hy hlt) (h.asc k p hv)
theorem Coup.all_pos (h : Coup v t n L last a) (hi : ∀ k, k ∈ ks ↔ (v k).isSome = true) (hp : l'.Perm (ks.flatMap (looseV v))) : ∀ x ∈ l', 0 < x.2 := fun x hx => by
  obtain ⟨k, p, h1, h2⟩ := (all_mem hi hp).1 hx
  exact h.ok.pos k p h1 x h2
/-- Is there a byte with a turn? -/
theorem turns_mem {D : Nat} {ps : List (Int × Int)} {u : Int} (hu : 1 ≤ u) (h0 : ∀ p ∈ ps, 0 < p.2) : u ∈ turnsOf a D ps ↔ ∃ p ∈ ps, a p.1 < u ∧ u ≤ a p.1 + p.2 := by
  unfold turnsOf
  rw [List.mem_append, List.mem_flatMap]
  constructor
  · rintro (h | ⟨p, hp, h⟩)
    · have := List.eq_of_mem_replicate h; omega
    · have := seqF_mem.1 h
      have := h0 p hp
      exact ⟨p, hp, by omega, by omega⟩
  · rintro ⟨p, hp, h1, h2⟩
    have := h0 p hp
    exact .inr ⟨p, hp, seqF_mem.2 ⟨h1, by omega⟩⟩
theorem Coup.has (h : Coup v t n L last a) (hi : ∀ k, k ∈ ks ↔ (v k).isSome = true) (hp : l'.Perm (ks.flatMap (looseV v))) {u : Int} (hu : 1 ≤ u) :
    (∃ f ∈ L, u ∈ f.turn) ↔ ∃ p ∈ l', a p.1 < u ∧ u ≤ a p.1 + p.2 := by
  constructor
  · rintro ⟨f, hf, h1⟩
    obtain ⟨ps, h2, h3⟩ := h.some_ f hf
    rw [h3, turns_mem hu (h.ok.pos _ _ h2)] at h1
    obtain ⟨x, hx, h4⟩ := h1
    exact ⟨x, (all_mem hi hp).2 ⟨_, _, h2, hx⟩, h4⟩
  · rintro ⟨x, hx, h4⟩
    obtain ⟨k, p, h1, h2⟩ := (all_mem hi hp).1 hx
    obtain ⟨f, hf, h5, h6, h7⟩ := h.hit h1
    exact ⟨f, hf, by rw [h7]; exact (turns_mem hu (h.ok.pos _ _ h1)).2 ⟨x, h2, h4⟩⟩
/-- THE CRASH: both cut each file at the same byte. -/
theorem Coup.crash_pfx (h : Coup v t n L last a) (hi : ∀ k, k ∈ ks ↔ (v k).isSome = true) (hp : l'.Perm (ks.flatMap (looseV v))) (hs : l'.Pairwise fun x y => x.1 < y.1) {keep x : Int} (hk : 0 ≤ keep) (hx : 0 ≤ x) (hc : cntP a x l' = min keep (openOf l')) {f : RF} (hf : f ∈ L) {p : List UInt8 × List (Int × Int)} (hv : v f.name = some p) :
    pfx x f.turn = keepP (leftF l' keep) p := by
  obtain ⟨ps, h1, h2⟩ := h.some_ f hf
  rw [hv] at h1
  cases h1
  have hpos := h.ok.pos _ _ hv
  have hsum := h.ok.sum _ _ hv
  have h3 := pfx_turns a hx hpos (h.chain1 hv) hsum
  have hL := clamp_left a x hk (h.all_pos hi hp) (h.chain hi hp hs) hc
  have hnd : (l'.map (·.1)).Nodup := by
    rw [List.nodup_iff_pairwise_ne, List.pairwise_map]
    exact hs.imp fun hab => by omega
  have hone : ∀ y ∈ ps, leftF l' keep y.1 = clampP a x y := fun y hy => by
    have hm : y ∈ l' := (all_mem hi hp).2 ⟨_, _, hv, hy⟩
    unfold leftF
    have hsome := lookP_some (l := leftP l' keep) (t := y.1) (by rw [leftP_fst]; exact List.mem_map.2 ⟨y, hm, rfl⟩)
    cases hl : lookP (leftP l' keep) y.1 with
    | none => rw [hl] at hsome; cases hsome
    | some z =>
      have h4 := lookP_mem hl
      rw [hL] at h4
      obtain ⟨q, hq, e⟩ := List.mem_map.1 h4
      simp only [Prod.mk.injEq] at e
      have : q = y := inj_of_nodup hnd hq hm e.1
      subst this
      rw [← e.2]; rfl
  have hsm : leftSum (leftF l' keep) ps = cntP a x ps := by
    unfold leftSum cntP
    congr 1
    exact List.map_congr_left hone
  rw [h2]
  unfold keepP
  rw [hsm]
  simp only at h3 ⊢
  omega
/-- How many bytes are loose: the same number. -/
def posN (l : List Int) : Nat := (l.filter fun u => decide (0 < u)).length
theorem posN_append (l m : List Int) : posN (l ++ m) = posN l + posN m := by simp [posN]
theorem posN_zeros (m : Nat) : posN (List.replicate m 0) = 0 := by simp [posN]
theorem posN_seq {b : Int} (hb : 0 ≤ b) (m : Nat) : posN (seqF b m) = m := by
  unfold posN
  rw [List.filter_eq_self.2 (fun u hu => by have := seqF_mem.1 hu; simp; omega), seqF_len]
theorem posN_turns {D : Nat} {ps : List (Int × Int)} (h0 : ∀ p ∈ ps, 0 < p.2) (ha : ∀ p ∈ ps, 0 ≤ a p.1) : ((posN (turnsOf a D ps) : Nat) : Int) = openOf ps := by
  unfold turnsOf
  rw [posN_append, posN_zeros, Nat.zero_add]
  induction ps with
  | nil => rfl
  | cons p l ih =>
    have h1 := h0 p (by simp)
    rw [List.flatMap_cons, posN_append, open_cons]
    unfold pieceT
    rw [posN_seq (ha p (by simp))]
    have := ih (fun q hq => h0 q (by simp [hq])) fun q hq => ha q (by simp [hq])
    unfold pieceT at this
    omega
theorem Coup.loose (h : Coup v t n L last a) : ((L.map (·.name)).map (openV v)).sum = (L.map fun f => ((posN f.turn : Nat) : Int)).sum := by
  rw [List.map_map]
  congr 1
  refine List.map_congr_left fun f hf => ?_
  obtain ⟨ps, h1, h2⟩ := h.some_ f hf
  simp only [Function.comp_apply]
  unfold openV
  rw [h1, h2, posN_turns (h.ok.pos _ _ h1) fun p hp => (h.bd _ _ p h1 hp).1]
theorem Coup.keys (h : Coup v t n L last a) (k : ByteArray) : k ∈ L.map (·.name) ↔ (v k).isSome = true := by
  constructor
  · intro hk
    obtain ⟨f, hf, rfl⟩ := List.mem_map.1 hk
    obtain ⟨ps, h1, h2⟩ := h.some_ f hf
    rw [h1]; rfl
  · intro hk
    cases hv : v k with
    | none => rw [hv] at hk; cases hk
    | some p =>
      obtain ⟨f, hf, e, _⟩ := h.hit hv
      exact List.mem_map.2 ⟨f, hf, e⟩
/-- Both tell the same names, in the same order. -/
theorem Coup.names (h : Coup v t n L last a) {ns : List ByteArray} (h1 : ns.Nodup) (h2 : ∀ k, k ∈ ns ↔ (v k).isSome = true) (h3 : ns.Pairwise fun a b => a.data.toList ≤ b.data.toList) : ns = L.map (·.name) := by
  have hp : ns.Perm (L.map (·.name)) := (List.perm_ext_iff_of_nodup h1 (sorted_nodup h.sorted)).2 fun k => (h2 k).trans (h.keys k).symm
  refine List.Perm.eq_of_pairwise (le := fun a b => nmL a ≤ nmL b) (fun a b _ _ h4 h5 => nmL_inj (List.le_antisymm h4 h5)) h3 ?_ hp
  rw [List.pairwise_map]
  exact List.Pairwise.imp (fun h => List.le_of_lt h) h.sorted
end
end
end Go.Proofs.YtfhdcjfkngflbaaGreatDoor
set_option linter.unusedSimpArgs false
set_option linter.unusedVariables false
namespace Go.Proofs.YtfhdcjfkngflbaaGreatDoor
open Go Go.RowKit

def intVs (l : List Int) : List Value := l.map (.int .i64)
/-- Values in a row, in a block that is none of the disk's. -/
def ValsAt (O : Nat → Prop) (w : World) (A : Option Addr) (vs : List Value) : Prop := (A = none → vs = []) ∧ ∀ ad, A = some ad → ∀ (j : Nat) (u : Value), vs[j]? = some u → w.cell? (ad.add j) = some u ∧ ¬ O ad.block
theorem add_block (ad : Addr) (j : Nat) : (ad.add j).block = ad.block := by
  simp only [Addr.add]
  split <;> rfl
section
variable {O O' : Nat → Prop} {w w' : World} {A : Option Addr} {vs : List Value}
theorem ValsAt.keep (h : ValsAt O w A vs) (hb : ∀ g, g < w.heap.size → ¬ O g → w'.heap[g]? = w.heap[g]?) (ho : ∀ g, g < w.heap.size → O' g → O g) : ValsAt O' w' A vs :=
  ⟨h.1, fun ad e j u hu => by
    obtain ⟨h1, h2⟩ := h.2 ad e j u hu
    have hlt : (ad.add j).block < w.heap.size := World.block_lt_of_cell? w _ h1
    have hlt' : ad.block < w.heap.size := by rw [← add_block ad j]; exact hlt
    exact ⟨(World.cell?_of_block (w := w) (a := ad.add j) (hb _ hlt (by rw [add_block]; exact h2))).trans h1, fun h3 => h2 (ho _ hlt' h3)⟩⟩
theorem ValsAt.below (h : ValsAt O w A vs) (hb : Below w.heap.size w w') : ValsAt O w' A vs := h.keep (fun g hg _ => hb.block g hg) fun g _ h => h
theorem ValsAt.take (h : ValsAt O w A vs) (m : Nat) : ValsAt O w A (vs.take m) := by
  refine ⟨fun e => by rw [h.1 e]; simp, fun ad e j u hu => h.2 ad e j u ?_⟩
  rw [List.getElem?_take] at hu
  split at hu
  · exact hu
  · cases hu
theorem ValsAt.bytes {bs : List UInt8} (h : ValsAt O w A (byteVs bs)) : BytesAt w A bs :=
  ⟨fun e => by have := h.1 e; simpa [byteVs] using this, fun ad e j u hu => (h.2 ad e j u hu).1⟩
/-- A row that is newer than all that the disk has. -/
theorem ValsAt.row {base n c : Nat} {e : TypeId} (h : w.ownsRow base e 1 (.slice A n c) n vs) (hO : ∀ g, base ≤ g → ¬ O g) : ValsAt O w A vs := by
  have hl : vs.length = n := by have := h.1; simpa using this
  rcases h.2 with ⟨hv, hn⟩ | ⟨g, cap, cur, hv, hb, hh, h1, h2, h3, h4⟩
  · injection hv with hA _ _
    subst hA
    exact ⟨fun _ => List.eq_nil_of_length_eq_zero (by omega), fun ad e => (by cases e)⟩
  · injection hv with hA _ _
    subst hA
    refine ⟨fun e => (by cases e), fun ad e j u hu => ?_⟩
    cases e
    have hj : j < vs.length := (List.getElem?_eq_some_iff.1 hu).1
    have e2 : w.cell? ⟨g, j, none⟩ = cur[j]? := by simp [World.cell?, hh]
    rw [Addr.add_lit, Nat.zero_add, e2]
    refine ⟨?_, hO g hb⟩
    rw [← hu, ← h4, List.getElem?_take, if_pos (by omega)]; simp
theorem row_cap {base n c : Nat} {e : TypeId} {size : Nat} (h : w.ownsRow base e size (.slice A n c) n vs) : n ≤ c := by
  rcases h.2 with ⟨hv, hn⟩ | ⟨g, cap, cur, hv, hb, hh, h1, h2, h3, h4⟩
  · omega
  · injection hv with hA _ hc
    omega
end

def fcells (f : RF) : List Value := [.string f.name, .slice f.dA f.data.length f.dc, .slice f.tA f.turn.length f.tc]
def rfCells (L : List RF) : List Value := L.flatMap fcells
theorem rfCells_append (l m : List RF) : rfCells (l ++ m) = rfCells l ++ rfCells m := by simp [rfCells]
theorem rfCells_cons (x : RF) (l : List RF) : rfCells (x :: l) = fcells x ++ rfCells l := rfl
theorem rfCells_len (l : List RF) : (rfCells l).length = l.length * 3 := by
  induction l with
  | nil => rfl
  | cons y l ih => rw [rfCells_cons, List.length_append, ih]; simp [fcells]; omega
theorem rfCells_at (x : RF) : ∀ (l : List RF) (i : Nat), l[i]? = some x → (rfCells l)[i * 3]? = some (.string x.name) ∧ (rfCells l)[i * 3 + 1]? = some (.slice x.dA x.data.length x.dc) ∧ (rfCells l)[i * 3 + 2]? = some (.slice x.tA x.turn.length x.tc) := by
  intro l
  induction l with
  | nil => intro i h; simp at h
  | cons y l ih =>
    intro i h
    rw [rfCells_cons]
    cases i with
    | zero => simp at h; subst h; simp [fcells]
    | succ i =>
      have := ih i (by simpa using h)
      have e1 : (i + 1) * 3 = i * 3 + 3 := by omega
      rw [e1, List.getElem?_append_right (by simp [fcells]), List.getElem?_append_right (by simp [fcells]), List.getElem?_append_right (by simp [fcells])]
      simpa [fcells] using this
theorem rfCells_take (l : List RF) (i : Nat) : rfCells (l.take i) = (rfCells l).take (i * 3) := by
  induction l generalizing i with
  | nil => simp [rfCells]
  | cons x l ih =>
    cases i with
    | zero => simp [rfCells]
    | succ i =>
      rw [List.take_succ_cons, rfCells_cons, rfCells_cons, ih, show (i + 1) * 3 = i * 3 + 3 by omega, List.take_append]
      simp [fcells]
theorem rfCells_drop (l : List RF) (i : Nat) : rfCells (l.drop i) = (rfCells l).drop (i * 3) := by
  induction l generalizing i with
  | nil => simp [rfCells]
  | cons x l ih =>
    cases i with
    | zero => simp
    | succ i =>
      rw [List.drop_succ_cons, rfCells_cons, ih, show (i + 1) * 3 = i * 3 + 3 by omega, List.drop_append]
      simp [fcells]
theorem rfCells_one (l : List RF) : ∀ u ∈ rfCells l, u.oneCell' = true := fun u hu => by
  simp only [rfCells, List.mem_flatMap, fcells] at hu
  obtain ⟨p, _, h⟩ := hu
  simp at h
  rcases h with rfl | rfl | rfl <;> rfl

structure RFok (O : Nat → Prop) (w : World) (f : RF) : Prop where
  data : ValsAt O w f.dA (byteVs f.data)
  turn : ValsAt O w f.tA (intVs f.turn)
  dcap : f.data.length ≤ f.dc
  tcap : f.turn.length ≤ f.tc
structure RefD (O : Nat → Prop) (w : World) (A : Option Addr) (n c : Nat) (L : List RF) : Prop where
  len : L.length = n
  cap : n ≤ c
  nil : A = none → n = 0
  cells : ∀ ad, A = some ad → ∃ g, ad = ⟨g, 0, none⟩ ∧ ∀ (j : Nat) (u : Value), (rfCells L)[j]? = some u → w.cell? ⟨g, j, none⟩ = some u ∧ ¬ O g
  files : ∀ f ∈ L, RFok O w f
section
variable {O O' : Nat → Prop} {w w' : World} {A : Option Addr} {n c : Nat} {L : List RF}
theorem RFok.keep {f : RF} (h : RFok O w f) (hb : ∀ g, g < w.heap.size → ¬ O g → w'.heap[g]? = w.heap[g]?) (ho : ∀ g, g < w.heap.size → O' g → O g) : RFok O' w' f := ⟨h.data.keep hb ho, h.turn.keep hb ho, h.dcap, h.tcap⟩
theorem RFok.below {f : RF} (h : RFok O w f) (hb : Below w.heap.size w w') : RFok O w' f := h.keep (fun g hg _ => hb.block g hg) fun g _ h => h
theorem RefD.keep (h : RefD O w A n c L) (hb : ∀ g, g < w.heap.size → ¬ O g → w'.heap[g]? = w.heap[g]?) (ho : ∀ g, g < w.heap.size → O' g → O g) : RefD O' w' A n c L :=
  ⟨h.len, h.cap, h.nil, fun ad e => by
    obtain ⟨g, e2, h2⟩ := h.cells ad e
    refine ⟨g, e2, fun j u hu => ?_⟩
    obtain ⟨h3, h4⟩ := h2 j u hu
    have hlt := World.block_lt_of_cell? w _ h3
    exact ⟨(World.cell?_of_block (w := w) (a := ⟨g, j, none⟩) (hb g hlt h4)).trans h3, fun h5 => h4 (ho g hlt h5)⟩, fun f hf => (h.files f hf).keep hb ho⟩
theorem RefD.below (h : RefD O w A n c L) (hb : Below w.heap.size w w') : RefD O w' A n c L := h.keep (fun g hg _ => hb.block g hg) fun g _ h => h
theorem RefD.nil0 : RefD O w none 0 0 [] := ⟨rfl, Nat.le_refl _, fun _ => rfl, fun ad e => (by cases e), fun f hf => (by cases hf)⟩
theorem RefD.at_ (h : RefD O w A n c L) {i : Nat} {f : RF} (hi : L[i]? = some f) : ∃ g, A = some ⟨g, 0, none⟩ ∧ w.cell? ⟨g, i * 3, none⟩ = some (.string f.name) ∧ w.cell? ⟨g, i * 3 + 1, none⟩ = some (.slice f.dA f.data.length f.dc) ∧ w.cell? ⟨g, i * 3 + 2, none⟩ = some (.slice f.tA f.turn.length f.tc) ∧ RFok O w f := by
  cases A with
  | none =>
    have := h.nil rfl
    have h2 := (List.getElem?_eq_some_iff.1 hi).1
    have := h.len
    omega
  | some ad =>
    obtain ⟨g, rfl, h2⟩ := h.cells ad rfl
    obtain ⟨c0, c1, c2⟩ := rfCells_at f L i hi
    exact ⟨g, rfl, (h2 _ _ c0).1, (h2 _ _ c1).1, (h2 _ _ c2).1, h.files f (List.mem_of_getElem? hi)⟩
theorem RefD.row {base : Nat} (h : w.ownsRow base 66 3 (.slice A n c) n (rfCells L)) (hO : ∀ g, base ≤ g → ¬ O g) (hf : ∀ f ∈ L, RFok O w f) : RefD O w A n c L := by
  have hln : (rfCells L).length = n * 3 := h.1
  have hl : L.length = n := by rw [rfCells_len] at hln; omega
  rcases h.2 with ⟨hv, hn⟩ | ⟨g, cap, cur, hv, hg, hh, h3, h4, h5, h6⟩
  · injection hv with hA _ hc
    subst hA
    exact ⟨hl, by omega, fun _ => hn, fun ad e => (by cases e), hf⟩
  · injection hv with hA _ hc
    subst hA hc
    refine ⟨hl, h3, fun e => (by cases e), fun ad e => ?_, hf⟩
    cases e
    refine ⟨g, rfl, fun j u hu => ⟨?_, hO g hg⟩⟩
    have hj : j < n * 3 := by rw [← hln]; exact (List.getElem?_eq_some_iff.1 hu).1
    have e : w.cell? ⟨g, j, none⟩ = cur[j]? := by simp [World.cell?, hh]
    rw [e, ← hu, ← h6, List.getElem?_take, if_pos hj]; simp
end

theorem rstr_other {a b : ByteArray} (h : ¬ (a = b)) : (a.toList == b.toList) = false := by
  rw [ByteArray.toList_eq, ByteArray.toList_eq]
  rw [beq_eq_false_iff_ne]
  intro e
  apply h
  obtain ⟨⟨a⟩⟩ := a
  obtain ⟨⟨b⟩⟩ := b
  simpa using e
theorem rstr_same (a : ByteArray) : (a.toList == a.toList) = true := by simp

set_option maxHeartbeats 1000000 in
theorem place_none (O : Nat → Prop) (A : Option Addr) (n c : Nat) (L : List RF) (last : Int) (name : ByteArray) (w : World) (h : RefD O w A n c L) (hn : n ≤ 64) (hk : ∀ f ∈ L, f.name ≠ name) :
    Calls Tryz.prog 35 #[.agg #[.slice A n c, .int .i64 last], .string name] w fun e w' => e = .returned (.int .i64 (-1)) ∧ Below w.heap.size w w' := by
  have HR := Lib.hid h
  have HN : Hid (n ≤ 64 ∧ L.length = n) := ⟨hn, h.len⟩
  have HK := Lib.hid hk
  clear h hn hk
  have HB : Hid (∀ o, Below w.heap.size w (w.alloc o)) := fun o => (Below.refl _ _).alloc (Nat.le_refl _) _
  go_enter Tryz.func35, Tryz.ntmps35
  go_wp2
  go_loopw [10] (fun i wr => ∃ (j : Nat), j ≤ n ∧ i = .int .i64 j ∧ Hid (Below w.heap.size w wr)) (fun i _ => n - (intOf i).toNat)
  case atStart => exact ⟨0, Nat.zero_le _, rfl, HB.out _⟩
  case round =>
    obtain ⟨j, hj, rfl, HS⟩ := hrel
    by_cases hlt : j < n
    · obtain ⟨f, hf⟩ : ∃ f, Hid (L[j]? = some f) := ⟨_, List.getElem?_eq_getElem (by have := HN.out; omega)⟩
      obtain ⟨g, rfl, d0, d1, d2, _⟩ := (HR.out.below HS.out).at_ hf.out
      have hne := rstr_other (HK.out f (List.mem_of_getElem? hf.out))
      have hw1 : IntKind.i64.wrap ((j : Int) + 1) = ((j + 1 : Nat) : Int) := by have := HN.out; rw [IntKind.wrap_i64]; omega
      have hj0 : ((0 : Int) ≤ j) := by omega
      have hj1 : ((j : Nat) : Int) < n := by omega
      have hbd : Hid (∀ o, Below w.heap.size w (wr.alloc o)) := fun o => HS.out.alloc HS.out.size o
      go_wp2
      exact ⟨⟨j + 1, hlt, by go_num, hbd.out _⟩, by simp [intOf]; omega⟩
    · have hjn : j = n := by omega
      subst hjn
      go_wp2
      go_ret
      exact ⟨rfl, HS.out⟩

set_option maxHeartbeats 1000000 in
theorem place_some (O : Nat → Prop) (A : Option Addr) (n c : Nat) (L : List RF) (last : Int) (w : World) (h : RefD O w A n c L) (hn : n ≤ 64) (hs : Sorted L) (i : Nat) (f0 : RF) (hi : L[i]? = some f0) :
    Calls Tryz.prog 35 #[.agg #[.slice A n c, .int .i64 last], .string f0.name] w fun e w' => e = .returned (.int .i64 i) ∧ Below w.heap.size w w' := by
  have HR := Lib.hid h
  have HN : Hid (n ≤ 64 ∧ L.length = n) := ⟨hn, h.len⟩
  have hil : i < n := by have := (List.getElem?_eq_some_iff.1 hi).1; have := h.len; omega
  have HI : Hid (L[i]? = some f0 ∧ i < n) := ⟨hi, hil⟩
  have HK : Hid (∀ j f, j < i → L[j]? = some f → ¬ f.name = f0.name) := fun j f hj hf e => by
    obtain ⟨h1, h2⟩ := List.getElem?_eq_some_iff.1 hf
    obtain ⟨h3, h4⟩ := List.getElem?_eq_some_iff.1 hi
    have := List.pairwise_iff_getElem.1 hs j i h1 h3 hj
    rw [h2, h4, e] at this; exact lt_irr _ this
  clear h hn hs hi hil
  have HB : Hid (∀ o, Below w.heap.size w (w.alloc o)) := fun o => (Below.refl _ _).alloc (Nat.le_refl _) _
  go_enter Tryz.func35, Tryz.ntmps35
  go_wp2
  go_loopw [10] (fun i' wr => ∃ (j : Nat), j ≤ i ∧ i' = .int .i64 j ∧ Hid (Below w.heap.size w wr)) (fun i' _ => n - (intOf i').toNat)
  case atStart => exact ⟨0, Nat.zero_le _, rfl, HB.out _⟩
  case round =>
    obtain ⟨j, hj, rfl, HS⟩ := hrel
    obtain ⟨f, hf⟩ : ∃ f, Hid (L[j]? = some f) := ⟨_, List.getElem?_eq_getElem (by have := HN.out; have := HI.out; omega)⟩
    obtain ⟨g, rfl, d0, d1, d2, _⟩ := (HR.out.below HS.out).at_ hf.out
    have hj0 : ((0 : Int) ≤ j) := by omega
    have hj1 : ((j : Nat) : Int) < n := by have := HI.out.2; omega
    have hlt : j < n := by have := HI.out.2; omega
    have hbd : Hid (∀ o, Below w.heap.size w (wr.alloc o)) := fun o => HS.out.alloc HS.out.size o
    by_cases hlt2 : j < i
    · have hne := rstr_other (HK.out j f hlt2 hf.out)
      have hw1 : IntKind.i64.wrap ((j : Int) + 1) = ((j + 1 : Nat) : Int) := by have := HN.out; rw [IntKind.wrap_i64]; omega
      go_wp2
      exact ⟨⟨j + 1, hlt2, by go_num, hbd.out _⟩, by simp [intOf]; omega⟩
    · have hji : j = i := by omega
      subst hji
      obtain rfl : f = f0 := by have h1 := hf.out; have h2 := HI.out.1; rw [h1] at h2; cases h2; rfl
      have hne := rstr_same f.name
      go_wp2
      go_ret
      exact ⟨rfl, hbd.out _⟩
end Go.Proofs.YtfhdcjfkngflbaaGreatDoor
