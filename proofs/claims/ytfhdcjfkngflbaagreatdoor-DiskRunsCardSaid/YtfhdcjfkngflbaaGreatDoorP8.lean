/-
  disk: the document's 'with': a file put in its place. Own work.
  disk: the document's 'with', walked. Own work.
-/
import Derived.Test.YtfhdcjfkngflbaaGreatDoorDiskRefK
import Derived.WalkLawsBesides
import Derived.Sort.Walk0
set_option linter.unusedSimpArgs false
set_option linter.unusedVariables false
namespace Go.Proofs.YtfhdcjfkngflbaaGreatDoor
open Go Go.RowKit

theorem file_info : (Tryz.prog.info? 66).map (fun i => (i.zero, i.size, i.bytes)) = some (some (.agg #[.string .empty, .slice none 0 0, .slice none 0 0]), 3, 64) := by kernel_rfl

def ltB (a b : ByteArray) : Bool := decide (nmL a < nmL b)
def wPut (f : RF) (l : List RF) : Bool := l.any fun x => !ltB x.name f.name
def wAcc (f : RF) (l : List RF) : List RF := l.filter (fun x => ltB x.name f.name) ++ (if wPut f l then [f] else []) ++ l.filter (fun x => ltB f.name x.name)
theorem ltB_false {a b : ByteArray} : ltB a b = false ↔ ¬ nmL a < nmL b := by unfold ltB; exact decide_eq_false_iff_not
theorem ltB_true {a b : ByteArray} : ltB a b = true ↔ nmL a < nmL b := by unfold ltB; exact decide_eq_true_iff
theorem wPut_snoc (f : RF) (l : List RF) (x : RF) : wPut f (l ++ [x]) = (wPut f l || !ltB x.name f.name) := by simp [wPut]
/-- While all names stand ahead of the file's. -/
theorem wPut_no {f : RF} {l : List RF} (h : wPut f l = false) : ∀ x ∈ l, ltB x.name f.name = true := fun x hx => by
  unfold wPut at h
  rw [List.any_eq_false] at h
  have := h x hx
  simpa using this
theorem gt_none {f : RF} {l : List RF} (h : ∀ x ∈ l, ltB x.name f.name = true) : l.filter (fun x => ltB f.name x.name) = [] := by
  rw [List.filter_eq_nil_iff]
  intro x hx h2
  exact lt_irr _ (lt_tr (ltB_true.1 (h x hx)) (ltB_true.1 h2))
theorem sorted_ahead {L : List RF} (hs : Sorted L) {j : Nat} {x : RF} (hx : L[j]? = some x) : ∀ y ∈ L.take j, nmL y.name < nmL x.name := fun y hy => by
  obtain ⟨i, hi⟩ := List.mem_iff_getElem?.1 hy
  rw [List.getElem?_take] at hi
  split at hi
  · rename_i hij
    obtain ⟨h1, h2⟩ := List.getElem?_eq_some_iff.1 hi
    obtain ⟨h3, h4⟩ := List.getElem?_eq_some_iff.1 hx
    have := List.pairwise_iff_getElem.1 hs i j h1 h3 hij
    rw [h2, h4] at this; exact this
  · cases hi
/-- x stands ahead of the file: nothing is put yet. -/
theorem wAcc_lt {f : RF} {L : List RF} (hs : Sorted L) {j : Nat} {x : RF} (hx : L[j]? = some x) (h : ltB x.name f.name = true) : wPut f (L.take j) = false ∧ wPut f (L.take j ++ [x]) = false ∧ wAcc f (L.take j ++ [x]) = wAcc f (L.take j) ++ [x] := by
  have hall : ∀ y ∈ L.take j, ltB y.name f.name = true := fun y hy => ltB_true.2 (lt_tr (sorted_ahead hs hx y hy) (ltB_true.1 h))
  have hp : wPut f (L.take j) = false := by
    unfold wPut; rw [List.any_eq_false]; intro y hy; rw [hall y hy]; simp
  have hp2 : wPut f (L.take j ++ [x]) = false := by rw [wPut_snoc, hp, h]; rfl
  refine ⟨hp, hp2, ?_⟩
  have hx2 : ltB f.name x.name = false := ltB_false.2 fun h2 => lt_irr _ (lt_tr h2 (ltB_true.1 h))
  unfold wAcc
  rw [hp, hp2, List.filter_append, List.filter_append, gt_none hall]
  simp [List.filter_cons, h, hx2]
/-- x bears the file's name. -/
theorem wAcc_eq {f : RF} {L : List RF} (hs : Sorted L) {j : Nat} {x : RF} (hx : L[j]? = some x) (h : x.name = f.name) : wPut f (L.take j) = false ∧ wPut f (L.take j ++ [x]) = true ∧ wAcc f (L.take j ++ [x]) = wAcc f (L.take j) ++ [f] := by
  have hall : ∀ y ∈ L.take j, ltB y.name f.name = true := fun y hy => ltB_true.2 (by rw [← h]; exact sorted_ahead hs hx y hy)
  have hp : wPut f (L.take j) = false := by
    unfold wPut; rw [List.any_eq_false]; intro y hy; rw [hall y hy]; simp
  have h1 : ltB x.name f.name = false := ltB_false.2 (by rw [h]; exact lt_irr _)
  have h2 : ltB f.name x.name = false := ltB_false.2 (by rw [h]; exact lt_irr _)
  have hp2 : wPut f (L.take j ++ [x]) = true := by rw [wPut_snoc, hp, h1]; rfl
  refine ⟨hp, hp2, ?_⟩
  unfold wAcc
  rw [hp, hp2, List.filter_append, List.filter_append, gt_none hall]
  simp [List.filter_cons, h1, h2]
/-- x stands behind the file. -/
theorem wAcc_gt {f : RF} {L : List RF} {j : Nat} {x : RF} (h : ltB f.name x.name = true) : wPut f (L.take j ++ [x]) = true ∧ wAcc f (L.take j ++ [x]) = (if wPut f (L.take j) then wAcc f (L.take j) else wAcc f (L.take j) ++ [f]) ++ [x] := by
  have h1 : ltB x.name f.name = false := ltB_false.2 fun h2 => lt_irr _ (lt_tr h2 (ltB_true.1 h))
  have hp2 : wPut f (L.take j ++ [x]) = true := by rw [wPut_snoc, h1]; simp
  refine ⟨hp2, ?_⟩
  unfold wAcc
  rw [hp2, List.filter_append, List.filter_append]
  cases hp : wPut f (L.take j) with
  | true => simp [List.filter_cons, h, h1]
  | false => rw [gt_none (wPut_no hp)]; simp [List.filter_cons, h, h1]
theorem wAcc_end (f : RF) (L : List RF) : (if wPut f L then wAcc f L else wAcc f L ++ [f]) = insL f L := by
  unfold insL wAcc ltB
  cases hp : wPut f L with
  | true => simp
  | false =>
    have := gt_none (wPut_no hp)
    unfold ltB at this
    rw [this]; simp
theorem wAcc_len (f : RF) (l : List RF) : (wAcc f l).length ≤ l.length + 1 := by
  unfold wAcc
  have h : ∀ l : List RF, (l.filter (fun x => ltB x.name f.name)).length + (l.filter (fun x => ltB f.name x.name)).length ≤ l.length := fun l => by
    induction l with
    | nil => simp
    | cons x l ih =>
      rw [List.filter_cons, List.filter_cons]
      by_cases h1 : ltB x.name f.name = true
      · have h2 : ¬ ltB f.name x.name = true := fun h2 => lt_irr _ (lt_tr (ltB_true.1 h1) (ltB_true.1 h2))
        rw [if_pos h1, if_neg h2]; simp; omega
      · rw [if_neg h1]
        by_cases h2 : ltB f.name x.name = true
        · rw [if_pos h2]; simp; omega
        · rw [if_neg h2]; simp; omega
  have := h l
  simp only [List.length_append]
  split <;> simp <;> omega
theorem wAcc_mem {f x : RF} {l : List RF} (h : x ∈ wAcc f l) : x = f ∨ x ∈ l := by
  unfold wAcc at h
  rcases List.mem_append.1 h with h | h
  · rcases List.mem_append.1 h with h | h
    · exact .inr (List.mem_filter.1 h).1
    · split at h
      · exact .inl (by simpa using h)
      · cases h
  · exact .inr (List.mem_filter.1 h).1
end Go.Proofs.YtfhdcjfkngflbaaGreatDoor
set_option linter.unusedSimpArgs false
set_option linter.unusedVariables false
namespace Go.Proofs.YtfhdcjfkngflbaaGreatDoor
open Go Go.RowKit

theorem less_is (a b : ByteArray) : Op.bytesLess a.toList b.toList = ltB a b := by
  rw [bytesLess_eq, ByteArray.toList_eq, ByteArray.toList_eq]; rfl
theorem new3 (w : World) (a b c : Value) (t : TypeId) (B : Nat) (hB : B = w.heap.size) : ∀ j u, [a, b, c][j]? = some u → (w.alloc (.cells #[a, b, c] t)).cell? ((⟨B, 0, none⟩ : Addr).add j) = some u := by
  subst hB
  exact World.news_of_block (cs := #[a, b, c]) (t := t) (fr := (0, 0)) (heap_alloc_new w _)
theorem cell3 {w : World} {g : Nat} {a b c : Value} {t : TypeId} (h : w.heap[g]? = some (.cells #[a, b, c] t (0, 0))) : w.cell? ⟨g, 0, none⟩ = some a ∧ w.cell? ⟨g, 1, none⟩ = some b ∧ w.cell? ⟨g, 2, none⟩ = some c := by
  refine ⟨?_, ?_, ?_⟩ <;> simp [World.cell?, h]
theorem cell2 {w : World} {g : Nat} {a b : Value} {t : TypeId} (h : w.heap[g]? = some (.cells #[a, b] t (0, 0))) : w.cell? ⟨g, 0, none⟩ = some a ∧ w.cell? ⟨g, 1, none⟩ = some b := by
  refine ⟨?_, ?_⟩ <;> simp [World.cell?, h]

/-- The three boxes of 'with': the disk, the file, the result. -/
structure WBx (w0 W : World) (b0 b1 b2 : Nat) (v0 v1 f0 f1 f2 : Value) : Prop where
  d : W.heap[b0]? = some (.cells #[v0, v1] 29 (0, 0))
  f : W.heap[b1]? = some (.cells #[f0, f1, f2] 66 (0, 0))
  r : W.heap[b2]? = some (.cells #[.slice none 0 0, .int .i64 0] 29 (0, 0))
  n : w0.heap.size ≤ b0 ∧ b0 < b1 ∧ b1 < b2
  old : Below w0.heap.size w0 W
theorem WBx.keep {w0 W W' : World} {b0 b1 b2 : Nat} {v0 v1 f0 f1 f2 : Value} (h : WBx w0 W b0 b1 b2 v0 v1 f0 f1 f2) {base : Nat} (hb : Below base W W') (hl : b2 < base) : WBx w0 W' b0 b1 b2 v0 v1 f0 f1 f2 := by
  have hn := h.n
  exact ⟨(hb.block _ (by omega)).trans h.d, (hb.block _ (by omega)).trans h.f, (hb.block _ (by omega)).trans h.r, h.n, h.old.trans (hb.mono (by omega))⟩
theorem wbx_new (w : World) (v0 v1 f0 f1 f2 : Value) : WBx w (((w.alloc (.cells #[v0, v1] 29)).alloc (.cells #[f0, f1, f2] 66)).alloc (.cells #[.slice none 0 0, .int .i64 0] 29)) w.heap.size (w.heap.size + 1) (w.heap.size + 1 + 1) v0 v1 f0 f1 f2 := by
  refine ⟨?_, ?_, ?_, by omega, (((Below.refl _ _).alloc (Nat.le_refl _) _).alloc (by simp) _).alloc (by simp; omega) _⟩
  · rw [Below.heap_alloc _ _ _ (by simp; omega), Below.heap_alloc _ _ _ (by simp), heap_alloc_new]
  · rw [Below.heap_alloc _ _ _ (by simp)]
    have := heap_alloc_new (w.alloc (.cells #[v0, v1] 29)) (.cells #[f0, f1, f2] 66)
    simpa using this
  · have := heap_alloc_new ((w.alloc (.cells #[v0, v1] 29)).alloc (.cells #[f0, f1, f2] 66)) (.cells #[.slice none 0 0, .int .i64 0] 29)
    simpa using this

set_option maxRecDepth 100000 in
set_option maxHeartbeats 4000000 in
theorem with_in (O : Nat → Prop) (A : Option Addr) (n c : Nat) (L : List RF) (last : Int) (f : RF) (dl tl : Nat) (hdl : f.data.length = dl) (htl : f.turn.length = tl) (w : World) (h : RefD O w A n c L) (hO : ∀ g, O g → g < w.heap.size) (hf : RFok O w f) (hs : Sorted L) (hn : n ≤ 64) :
    Calls Tryz.prog 38 #[.agg #[.slice A n c, .int .i64 last], .agg #[.string f.name, .slice f.dA dl f.dc, .slice f.tA tl f.tc]] w fun e w' => ∃ (A' : Option Addr) (n' c' : Nat), e = .returned (.agg #[.slice A' n' c', .int .i64 last]) ∧ Hid (RefD O w' A' n' c' (insL f L) ∧ Below w.heap.size w w') := by
  obtain ⟨w1, hw1⟩ : ∃ w1, w1 = ((w.alloc (.cells #[.slice A n c, .int .i64 last] 29)).alloc (.cells #[.string f.name, .slice f.dA dl f.dc, .slice f.tA tl f.tc] 66)).alloc (.cells #[.slice none 0 0, .int .i64 0] 29) := ⟨_, rfl⟩
  obtain ⟨b2, hb2⟩ : ∃ b2, b2 = w.heap.size + 1 + 1 := ⟨_, rfl⟩
  obtain ⟨b1, hb1⟩ : ∃ b1, b1 = w.heap.size + 1 := ⟨_, rfl⟩
  obtain ⟨b0, hb0⟩ : ∃ b0, b0 = w.heap.size := ⟨_, rfl⟩
  have H1 : Hid (WBx w w1 b0 b1 b2 (.slice A n c) (.int .i64 last) (.string f.name) (.slice f.dA dl f.dc) (.slice f.tA tl f.tc) ∧ b2 < w1.heap.size) := by
    rw [hw1, hb2, hb1, hb0]; exact ⟨wbx_new w _ _ _ _ _, by simp⟩
  obtain ⟨P, hP⟩ : ∃ P : Nat → Prop, Hid (∀ g, P g ↔ (O g ∨ (w.heap.size ≤ g ∧ g < w1.heap.size))) := ⟨fun g => O g ∨ (w.heap.size ≤ g ∧ g < w1.heap.size), fun g => Iff.rfl⟩
  have hPO : ∀ g, g < w.heap.size → P g → O g := fun g hg hp => by
    rcases (hP.out g).1 hp with h | h
    · exact h
    · omega
  have HR := Lib.hid ((h.keep (w' := w) (fun g _ _ => rfl) hPO).below H1.out.1.old)
  have HN : Hid (n ≤ 64 ∧ L.length = n) := ⟨hn, h.len⟩
  have HS := Lib.hid hs
  have HF : Hid (f.data.length = dl ∧ f.turn.length = tl ∧ RFok P w f ∧ ∀ g, P g → g < w1.heap.size) := ⟨hdl, htl, hf.keep (fun g _ _ => rfl) hPO, fun g hg => by
    rcases (hP.out g).1 hg with h | h
    · have := hO g h; have := H1.out.1.old.size; omega
    · exact h.2⟩
  clear h hO hf hs hn hdl htl hPO
  obtain ⟨i0, hi, hz0, hz1, hz2⟩ := info_parts file_info
  obtain ⟨d0, d1⟩ := cell2 H1.out.1.d
  obtain ⟨q0, q1, q2⟩ := cell3 H1.out.1.f
  go_enter Tryz.func38, Tryz.ntmps38
  go_wp2
  rw [← hw1, ← hb2, ← hb1, ← hb0]
  clear hw1 hb2 hb1 hb0
  go_loopw [5, 6, 12] (fun l p i wr => ∃ (j : Nat) (A5 : Option Addr) (n5 c5 : Nat), j ≤ n ∧ i = .int .i64 j ∧ l = .slice A5 n5 c5 ∧ p = .bool (wPut f (L.take j)) ∧ Hid (n5 = (wAcc f (L.take j)).length ∧ wr.ownsRow w1.heap.size 66 3 (.slice A5 n5 c5) n5 (rfCells (wAcc f (L.take j))) ∧ Below w1.heap.size w1 wr)) (fun _ _ i _ => n - (intOf i).toNat)
  case atStart => exact ⟨0, none, 0, 0, Nat.zero_le _, rfl, rfl, rfl, by simp [wAcc, wPut], by simpa [wAcc, wPut, rfCells] using World.ownsRow_nil _ _ _ _, Below.refl _ _⟩
  case round =>
    obtain ⟨j, A5, n5, c5, hj, rfl, rfl, rfl, HL⟩ := hrel
    have HW := Lib.hid (H1.out.1.keep HL.out.2.2 H1.out.2)
    obtain ⟨d0, d1⟩ := cell2 HW.out.d
    obtain ⟨q0, q1, q2⟩ := cell3 HW.out.f
    by_cases hlt : j < n
    · obtain ⟨x, hx⟩ : ∃ f, Hid (L[j]? = some f) := ⟨_, List.getElem?_eq_getElem (by have := HN.out; omega)⟩
      obtain ⟨g, rfl, x0, x1, x2, _⟩ := (HR.out.below (HL.out.2.2.mono (Nat.le_refl _))).at_ hx.out
      obtain ⟨xd, hxd⟩ : ∃ q, Hid (x.data.length = q) := ⟨_, rfl⟩
      obtain ⟨xt, hxt⟩ : ∃ q, Hid (x.turn.length = q) := ⟨_, rfl⟩
      rw [hxd.out] at x1
      rw [hxt.out] at x2
      have hw1' : IntKind.i64.wrap ((j : Int) + 1) = ((j + 1 : Nat) : Int) := by have := HN.out; rw [IntKind.wrap_i64]; omega
      have hj0 : ((0 : Int) ≤ j) := by omega
      have hj1 : ((j : Nat) : Int) < n := by omega
      have hless := less_is x.name f.name
      have HTK : Hid (L.take (j + 1) = L.take j ++ [x]) := by
        obtain ⟨h7, h8⟩ := List.getElem?_eq_some_iff.1 hx.out
        rw [Hid, ← h8, List.take_append_getElem]
      have H5 : Hid (n5 ≤ 65) := by
        have h1 := wAcc_len f (L.take j)
        have h2 := HL.out.1
        have h3 : (L.take j).length ≤ j := List.length_take_le _ _
        have h4 := HN.out
        clear hw1'
        simp only [Hid]; omega
      have HSZ : Hid (w1.heap.size ≤ wr.heap.size ∧ b1 < w1.heap.size) := ⟨HL.out.2.2.size, by have := H1.out; have := H1.out.1.n; omega⟩
      have hlt1 : b1 < wr.heap.size := by have := HSZ.out; omega
      have hne1 : ¬ (b1 = wr.heap.size) := by omega
      have hbF : fcells f = [.string f.name, .slice f.dA dl f.dc, .slice f.tA tl f.tc] := by unfold fcells; rw [HF.out.1, HF.out.2.1]
      have hbX : fcells x = [.string x.name, .slice x.dA xd x.dc, .slice x.tA xt x.tc] := by unfold fcells; rw [hxd.out, hxt.out]
      have HFC := Lib.hid hbF
      have HXC := Lib.hid hbX
      clear hbF hbX
      obtain ⟨acc, hacc⟩ : ∃ a, Hid (wAcc f (L.take j) = a) := ⟨_, rfl⟩
      have HROW : Hid (∀ W, Below wr.heap.size wr W → W.ownsRow w1.heap.size 66 3 (.slice A5 n5 c5) n5 (rfCells acc)) := fun W hW => by
        rw [← hacc.out]
        exact ownsRow_keep HL.out.2.1 fun k hk => hW.block k (own_block HL.out.2.1 hk).choose_spec.2.2
      have hm1 : Hid (n5 + 1 ≤ maxLen) := Nat.le_trans (show n5 + 1 ≤ 66 by have := H5.out; omega) (by decide)
      have hb1 : Hid ((n5 + 1) * 64 ≤ 140737488355328) := by have := H5.out; simp only [Hid]; omega
      have hzz : Hid (∀ o1 o2, w1.heap.size ≤ ((wr.alloc o1).alloc o2).heap.size) := fun o1 o2 => Nat.le_trans HSZ.out.1 (by simp; omega)
      have HGR : Hid (∀ o1 o2 w5, ((wr.alloc o1).alloc o2).grownBy w5 (Value.slice A5 n5 c5).ownBlock → Below w1.heap.size w1 w5 ∧ w5.heap[wr.heap.size]? = some o1 ∧ w5.heap[b1]? = wr.heap[b1]? ∧ wr.heap.size < w5.heap.size) := fun o1 o2 w5 hg => by
        have hne : ∀ k, k < w1.heap.size ∨ k = wr.heap.size → some k ≠ (Value.slice A5 n5 c5).ownBlock := fun k hk e => by
          obtain ⟨cur, hh, h1, h2⟩ := own_block HL.out.2.1 e.symm
          rcases hk with hk | hk <;> omega
        have hs := HSZ.out
        have hsz := hg.size
        simp at hsz
        refine ⟨?_, ?_, ?_, by omega⟩
        · refine (((HL.out.2.2.alloc hs.1 o1).alloc (by simp; omega) o2)).grown hg (by simp; omega) (fun k hk => ?_)
          obtain ⟨cur, hh, h1, h2⟩ := own_block HL.out.2.1 hk
          exact h1
        · rw [hg.block _ (by simp; omega) (hne _ (.inr rfl)), Below.heap_alloc _ _ _ (by simp), heap_alloc_new]
        · rw [hg.block _ (by simp; omega) (hne _ (.inl hs.2)), Below.heap_alloc _ _ _ (by simp; omega), Below.heap_alloc _ _ _ (by omega)]
      rcases lt_tri (nmL x.name) (nmL f.name) with hc | hc | hc
      · -- ahead
        obtain ⟨p1, p2, p3⟩ := wAcc_lt HS.out hx.out (ltB_true.2 hc)
        rw [ltB_true.2 hc] at hless
        have hne := rstr_other (a := x.name) (b := f.name) (fun e => by rw [e] at hc; exact lt_irr _ hc)
        have HP : Hid (wPut f (L.take (j + 1)) = false ∧ wAcc f (L.take (j + 1)) = acc ++ [x]) := by rw [Hid, HTK.out, ← hacc.out]; exact ⟨p2, p3⟩
        rw [p1]
        clear p1 p2 p3 hc
        go_wp2_with (at_builtin; refine wpList_append_own _ rfl _ _ 27 rfl w1.heap.size 66 i0 (.agg #[.string .empty, .slice none 0 0, .slice none 0 0]) 3 64 Tryz.underlying27 hi hz0 hz1 hz2 rfl (by decide) (.slice A5 n5 c5) n5 _ rfl (HROW.out _ (((Below.refl _ _).alloc (Nat.le_refl _) _).alloc (by simp) _)) ⟨wr.heap.size + 1, 0, none⟩ 1 1 [.string x.name, .slice x.dA xd x.dc, .slice x.tA xt x.tc] rfl rfl (new3 _ _ _ _ _ _ (by simp)) (by simp [Value.oneCell']) hm1.out hb1.out (hzz.out _ _) ?_; intro v' w5 hown5 hgrow5 hnil5)
        obtain ⟨A8, c8, rfl⟩ := own_slice hown5
        refine ⟨⟨j + 1, A8, n5 + 1, c8, hlt, by go_num, rfl, by rw [HP.out.1], ?_, ?_, (HGR.out _ _ _ hgrow5).1⟩, by simp [intOf]; omega⟩
        · have h1 := HL.out.1
          rw [HP.out.2, List.length_append, ← hacc.out]; simpa using h1
        · rw [HP.out.2, rfCells_append]
          have e : rfCells [x] = fcells x := by simp [rfCells]
          rw [e, HXC.out]; exact hown5
      · -- the same name
        obtain ⟨p1, p2, p3⟩ := wAcc_eq HS.out hx.out (nmL_inj hc)
        have hltf : ltB x.name f.name = false := ltB_false.2 (by rw [hc]; exact lt_irr _)
        rw [hltf] at hless
        have hxf : x.name = f.name := nmL_inj hc
        have hne : (x.name.toList == f.name.toList) = true := by rw [hxf]; simp
        have HP : Hid (wPut f (L.take (j + 1)) = true ∧ wAcc f (L.take (j + 1)) = acc ++ [f]) := by rw [Hid, HTK.out, ← hacc.out]; exact ⟨p2, p3⟩
        rw [p1]
        clear p1 p2 p3 hc hltf hxf
        go_wp2_with (at_builtin; refine wpList_append_own _ rfl _ _ 27 rfl w1.heap.size 66 i0 (.agg #[.string .empty, .slice none 0 0, .slice none 0 0]) 3 64 Tryz.underlying27 hi hz0 hz1 hz2 rfl (by decide) (.slice A5 n5 c5) n5 _ rfl (HROW.out _ (((Below.refl _ _).alloc (Nat.le_refl _) _).alloc (by simp) _)) ⟨wr.heap.size + 1, 0, none⟩ 1 1 [.string f.name, .slice f.dA dl f.dc, .slice f.tA tl f.tc] rfl rfl (new3 _ _ _ _ _ _ (by simp)) (by simp [Value.oneCell']) hm1.out hb1.out (hzz.out _ _) ?_; intro v' w5 hown5 hgrow5 hnil5; obtain ⟨g1, g2, g3, g4⟩ := HGR.out _ _ _ hgrow5; obtain ⟨y0, y1, y2⟩ := cell3 g2; have z0 := (World.cell?_of_block (w := wr) (a := ⟨b1, 0, none⟩) g3).trans q0; have HG1 := Lib.hid g1; clear g1 g2 g3 g4)
        obtain ⟨A8, c8, rfl⟩ := own_slice hown5
        refine ⟨⟨j + 1, A8, n5 + 1, c8, hlt, by go_num, rfl, by rw [HP.out.1], ?_, ?_, HG1.out⟩, by simp [intOf]; omega⟩
        · have h1 := HL.out.1
          rw [HP.out.2, List.length_append, ← hacc.out]; simpa using h1
        · rw [HP.out.2, rfCells_append]
          have e : rfCells [f] = fcells f := by simp [rfCells]
          rw [e, HFC.out]; exact hown5
      · -- behind
        obtain ⟨p2, p3⟩ := wAcc_gt (L := L) (j := j) (x := x) (ltB_true.2 hc)
        have hltf : ltB x.name f.name = false := ltB_false.2 fun h2 => lt_irr _ (lt_tr h2 hc)
        rw [hltf] at hless
        have hne := rstr_other (a := x.name) (b := f.name) (fun e => by rw [e] at hc; exact lt_irr _ hc)
        clear hc hltf
        cases hp : wPut f (L.take j) with
        | true =>
          have HP : Hid (wPut f (L.take (j + 1)) = true ∧ wAcc f (L.take (j + 1)) = acc ++ [x]) := by
            rw [hp, if_pos rfl] at p3
            rw [Hid, HTK.out, ← hacc.out]; exact ⟨p2, p3⟩
          clear p2 p3 hp
          go_wp2_with (at_builtin; refine wpList_append_own _ rfl _ _ 27 rfl w1.heap.size 66 i0 (.agg #[.string .empty, .slice none 0 0, .slice none 0 0]) 3 64 Tryz.underlying27 hi hz0 hz1 hz2 rfl (by decide) (.slice A5 n5 c5) n5 _ rfl (HROW.out _ (((Below.refl _ _).alloc (Nat.le_refl _) _).alloc (by simp) _)) ⟨wr.heap.size + 1, 0, none⟩ 1 1 [.string x.name, .slice x.dA xd x.dc, .slice x.tA xt x.tc] rfl rfl (new3 _ _ _ _ _ _ (by simp)) (by simp [Value.oneCell']) hm1.out hb1.out (hzz.out _ _) ?_; intro v' w5 hown5 hgrow5 hnil5)
          obtain ⟨A8, c8, rfl⟩ := own_slice hown5
          refine ⟨⟨j + 1, A8, n5 + 1, c8, hlt, by go_num, rfl, by rw [HP.out.1], ?_, ?_, (HGR.out _ _ _ hgrow5).1⟩, by simp [intOf]; omega⟩
          · have h1 := HL.out.1
            rw [HP.out.2, List.length_append, ← hacc.out]; simpa using h1
          · rw [HP.out.2, rfCells_append]
            have e : rfCells [x] = fcells x := by simp [rfCells]
            rw [e, HXC.out]; exact hown5
        | false =>
          have HP : Hid (wPut f (L.take (j + 1)) = true ∧ wAcc f (L.take (j + 1)) = (acc ++ [f]) ++ [x]) := by
            rw [hp, if_neg (by simp)] at p3
            rw [Hid, HTK.out, ← hacc.out]; exact ⟨p2, p3⟩
          clear p2 p3 hp
          have hm2 : Hid (n5 + 1 + 1 ≤ maxLen) := Nat.le_trans (show n5 + 1 + 1 ≤ 67 by have := H5.out; omega) (by decide)
          have hb2' : Hid ((n5 + 1 + 1) * 64 ≤ 140737488355328) := by have := H5.out; simp only [Hid]; omega
          have tok1 : True := trivial
          go_wp2_with (first
            | (at_builtin; have _t := tok1; refine wpList_append_own _ rfl _ _ 27 rfl w1.heap.size 66 i0 (.agg #[.string .empty, .slice none 0 0, .slice none 0 0]) 3 64 Tryz.underlying27 hi hz0 hz1 hz2 rfl (by decide) (.slice A5 n5 c5) n5 _ rfl (HROW.out _ (((Below.refl _ _).alloc (Nat.le_refl _) _).alloc (by simp) _)) ⟨wr.heap.size + 1, 0, none⟩ 1 1 [.string f.name, .slice f.dA dl f.dc, .slice f.tA tl f.tc] rfl rfl (new3 _ _ _ _ _ _ (by simp)) (by simp [Value.oneCell']) hm1.out hb1.out (hzz.out _ _) ?_; intro v' w5 hown5 hgrow5 hnil5; obtain ⟨g1, g2, g3, g4⟩ := HGR.out _ _ _ hgrow5; obtain ⟨y0, y1, y2⟩ := cell3 g2; have z0 := (World.cell?_of_block (w := wr) (a := ⟨b1, 0, none⟩) g3).trans q0; have HG1 := Lib.hid g1; clear g1 g2 g3 g4; obtain ⟨A8, c8, rfl⟩ := own_slice hown5; clear tok1)
            | (at_builtin; refine wpList_append_own _ rfl _ _ 27 rfl w1.heap.size 66 i0 (.agg #[.string .empty, .slice none 0 0, .slice none 0 0]) 3 64 Tryz.underlying27 hi hz0 hz1 hz2 rfl (by decide) (.slice A8 (n5 + 1) c8) (n5 + 1) _ rfl (hown5.alloc _) ⟨w5.heap.size, 0, none⟩ 1 1 [.string x.name, .slice x.dA xd x.dc, .slice x.tA xt x.tc] rfl rfl (new3 _ _ _ _ _ _ (by simp)) (by simp [Value.oneCell']) hm2.out hb2'.out (Nat.le_trans HG1.out.size (by simp)) ?_; intro v' w6 hown6 hgrow6 hnil6))
          obtain ⟨A9, c9, rfl⟩ := own_slice hown6
          have hB6 : Below w1.heap.size w1 w6 := (HG1.out.alloc HG1.out.size _).grown hgrow6 (Nat.le_trans HG1.out.size (by simp)) (fun k hk => by
            obtain ⟨cur, hh, h1, h2⟩ := own_block hown5 hk
            exact h1)
          refine ⟨⟨j + 1, A9, n5 + 1 + 1, c9, hlt, by go_num, rfl, by rw [HP.out.1], ?_, ?_, hB6⟩, by simp [intOf]; omega⟩
          · have h1 := HL.out.1
            rw [HP.out.2, List.length_append, List.length_append, ← hacc.out]; simpa using h1
          · rw [HP.out.2, rfCells_append, rfCells_append]
            have e : rfCells [f] = fcells f := by simp [rfCells]
            have e2 : rfCells [x] = fcells x := by simp [rfCells]
            rw [e, e2, HFC.out, HXC.out]; exact hown6
    · have hjn : j = n := by omega
      subst hjn
      have hall : L.take j = L := by rw [← HN.out.2]; exact List.take_length
      rw [hall] at HL
      obtain ⟨acc, hacc⟩ : ∃ a, Hid (wAcc f L = a) := ⟨_, rfl⟩
      have HE := wAcc_end f L
      have H0 : Hid (w.heap.size ≤ w1.heap.size ∧ w.heap.size ≤ b2 ∧ b2 < w1.heap.size) := ⟨H1.out.1.old.size, by have := H1.out.1.n; omega, H1.out.2⟩
      rw [hall]
      obtain ⟨r0, r1⟩ := cell2 HW.out.r
      have fr : ∀ i, wr.frozen? ⟨b2, i, none⟩ = false := fun i => by simp [World.frozen?, HW.out.r]
      clear hlt hj
      cases hp : wPut f L with
      | true =>
        rw [hp, if_pos rfl] at HE
        have HE' := Lib.hid HE
        clear HE hp
        have HFIN : Hid (RefD P wr A5 n5 c5 (insL f L) ∧ Below w.heap.size w wr) := by
          refine ⟨?_, HW.out.old⟩
          rw [← HE'.out]
          refine RefD.row HL.out.2.1 (fun g hg hg2 => by have := HF.out.2.2.2 g hg2; omega) fun y hy => ?_
          rcases wAcc_mem hy with rfl | hy
          · exact HF.out.2.2.1.below (H1.out.1.old.trans (HL.out.2.2.mono H0.out.1))
          · exact (HR.out.files y hy).below HL.out.2.2
        go_wp2
        refine bodyPost_ret (v := .agg #[.slice A5 n5 c5, .int .i64 last]) ?_ rfl ?_
        · simp [results, Tryz.results38, go_sem, r0, r1, fr]
        ·
          refine ⟨_, _, _, rfl, ?_, belowS (belowS HFIN.out.2 H0.out.2.1 _) H0.out.2.1 _⟩
          refine HFIN.out.1.keep (fun g hg hng => ?_) (fun g _ hg => (hP.out g).2 (.inl hg))
          have hne : g ≠ b2 := fun e => hng ((hP.out g).2 (.inr (by have := H0.out; omega)))
          rw [Below.heap_setCell _ _ _ _ hne, Below.heap_setCell _ _ _ _ hne]
      | false =>
        rw [hp, if_neg (by simp)] at HE
        have HE' := Lib.hid HE
        have H5 : Hid (n5 ≤ 65) := by
          have h1 := wAcc_len f L
          have h2 := HL.out.1
          have h4 := HN.out
          simp only [Hid]; omega
        clear HE hp
        have hm1 : Hid (n5 + 1 ≤ maxLen) := Nat.le_trans (show n5 + 1 ≤ 66 by have := H5.out; omega) (by decide)
        have hb1 : Hid ((n5 + 1) * 64 ≤ 140737488355328) := by have := H5.out; simp only [Hid]; omega
        have hzz : Hid (∀ o, w1.heap.size ≤ (wr.alloc o).heap.size) := fun o => Nat.le_trans HL.out.2.2.size (by simp)
        have HKB : Hid (∀ o w5, (wr.alloc o).grownBy w5 (Value.slice A5 n5 c5).ownBlock → WBx w w5 b0 b1 b2 (.slice A j c) (.int .i64 last) (.string f.name) (.slice f.dA dl f.dc) (.slice f.tA tl f.tc) ∧ Below w1.heap.size w1 w5) := fun o w5 hg => by
          have hb : Below w1.heap.size w1 w5 := (HL.out.2.2.alloc HL.out.2.2.size o).grown hg (Nat.le_trans HL.out.2.2.size (by simp)) (fun k hk => by
            obtain ⟨cur, hh, h1, h2⟩ := own_block HL.out.2.1 hk
            exact h1)
          exact ⟨H1.out.1.keep hb H1.out.2, hb⟩
        go_wp2_with (at_builtin; refine wpList_append_own _ rfl _ _ 27 rfl w1.heap.size 66 i0 (.agg #[.string .empty, .slice none 0 0, .slice none 0 0]) 3 64 Tryz.underlying27 hi hz0 hz1 hz2 rfl (by decide) (.slice A5 n5 c5) n5 _ rfl (HL.out.2.1.alloc _) ⟨wr.heap.size, 0, none⟩ 1 1 [.string f.name, .slice f.dA dl f.dc, .slice f.tA tl f.tc] rfl rfl (new3 _ _ _ _ _ _ (by simp)) (by simp [Value.oneCell']) hm1.out hb1.out (hzz.out _) ?_; intro v' w5 hown5 hgrow5 hnil5; obtain ⟨A8, c8, rfl⟩ := own_slice hown5; have HK5 := Lib.hid (HKB.out _ _ hgrow5); obtain ⟨r0, r1⟩ := cell2 HK5.out.1.r; obtain ⟨_, d1⟩ := cell2 HK5.out.1.d; have fr : ∀ i, w5.frozen? ⟨b2, i, none⟩ = false := fun i => (by simp [World.frozen?, HK5.out.1.r]))
        have HFIN : Hid (RefD P w5 A8 (n5 + 1) c8 (insL f L) ∧ Below w.heap.size w w5) := by
          refine ⟨?_, HK5.out.1.old⟩
          have e : fcells f = [.string f.name, .slice f.dA dl f.dc, .slice f.tA tl f.tc] := by unfold fcells; rw [HF.out.1, HF.out.2.1]
          have e2 : rfCells (wAcc f L) ++ [.string f.name, .slice f.dA dl f.dc, .slice f.tA tl f.tc] = rfCells (insL f L) := by
            rw [← HE'.out, rfCells_append, ← e]; simp [rfCells]
          rw [e2] at hown5
          refine RefD.row hown5 (fun g hg hg2 => by have := HF.out.2.2.2 g hg2; omega) fun y hy => ?_
          rcases insL_mem.1 hy with rfl | ⟨hy, _⟩
          · exact HF.out.2.2.1.below (H1.out.1.old.trans (HK5.out.2.mono H0.out.1))
          · exact (HR.out.files y hy).below HK5.out.2
        refine bodyPost_ret (v := .agg #[.slice A8 (n5 + 1) c8, .int .i64 last]) ?_ rfl ?_
        · simp [results, Tryz.results38, go_sem, r0, r1, fr]
        ·
          refine ⟨_, _, _, rfl, ?_, belowS (belowS HFIN.out.2 H0.out.2.1 _) H0.out.2.1 _⟩
          refine HFIN.out.1.keep (fun g hg hng => ?_) (fun g _ hg => (hP.out g).2 (.inl hg))
          have hne : g ≠ b2 := fun e => hng ((hP.out g).2 (.inr (by have := H0.out; omega)))
          rw [Below.heap_setCell _ _ _ _ hne, Below.heap_setCell _ _ _ _ hne]
end Go.Proofs.YtfhdcjfkngflbaaGreatDoor
