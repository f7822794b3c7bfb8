/-
  Ranges over maps in a plain walk; disk: open, Loose. Own work.
-/
import Derived.Test.YtfhdcjfkngflbaaDoorDiskDel
set_option linter.unusedSimpArgs false
set_option linter.unusedVariables false
namespace Go.Proofs.YtfhdcjfkngflbaaDoor
open Go Go.RowKit
open Go.ChangeMaps (setBlock)

section
variable {κ : Type} {kv : κ → Value} {P : Program} {w : World} {b c r : Nat} {L dn : List (MEnt κ)}
variable {ops : Array Oper} {rest : List Oper} {o : Oper} {a : Act} {Q : Exit → Act → World → Prop}

theorem wpList_range_at (hg : o.guard = none) (m : Operand) (T : TypeId) (hop : o.op = Op.range T m) (K E : TypeId) (ht : P.underlying T = some (.map K E)) (hm : a.eval m = .map (some b)) (h : MapAt kv w b L c) (hw : MWf L c)
    (hK : ∀ w', IterAt kv w' b w.heap.size L c [] → w.grownBy w' none → w'.heap.size = w.heap.size + 1 → wpList P ops Q rest (a.put o.dst (.pointer (some ⟨w.heap.size, 0, none⟩))) w') :
    wpList P ops Q (o :: rest) a w := by
  obtain ⟨hrun, hit⟩ := run_range_at (P := P) ht h hw
  refine wpList_plain hg fun K' hK' => ?_
  unfold Oper.wp
  simp [execOp, hop, hm, hrun, Result.andThen]
  exact hK' _ _ (hK _ hit (World.grownBy_alloc w _ none) (by simp))

theorem wpList_next_at (hg : o.guard = none) (it : Operand) (hop : o.op = Op.next it false) (hit : a.eval it = .pointer (some ⟨r, 0, none⟩)) (h : IterAt kv w b r L c dn)
    (hDone : dn.Perm L → wpList P ops Q rest (a.put o.dst (.tuple #[.bool false])) w)
    (hMore : ∀ e ∈ L, e ∉ dn → ∀ w', IterAt kv w' b r L c (dn ++ [e]) → w.grownBy w' (some r) → w'.heap.size = w.heap.size →
      (Instr.entry (.pointer (some ⟨r, 0, none⟩))).run P w' = .ok (.tuple #[kv e.k, e.v]) w' → wpList P ops Q rest (a.put o.dst (.tuple #[.bool true, kv e.k, e.v])) w') :
    wpList P ops Q (o :: rest) a w := by
  refine wpList_plain hg fun K' hK' => ?_
  unfold Oper.wp
  rcases run_next_it (P := P) h o.type with ⟨hp, hrun⟩ | ⟨e, he, hnd, w', hrun, h1, h2, h3, h4⟩
  · simp [execOp, hop, hit, hrun, Result.andThen]
    exact hK' _ _ (hDone hp)
  · simp [execOp, hop, hit, hrun, Result.andThen]
    exact hK' _ _ (hMore e he hnd w' h1 h2 h3 h4)
end

def iterLeft (r n : Nat) (w : World) : Nat :=
  match w.heap[r]? with
  | some (.mapIter _ _ seen _) => n - seen.size
  | _ => 0
theorem IterAt.left {κ : Type} {kv : κ → Value} {w : World} {b r c : Nat} {L dn : List (MEnt κ)} (h : IterAt kv w b r L c dn) : iterLeft r L.length w = L.length - dn.length := by
  unfold iterLeft
  rw [h.2.2.1]
  simp

theorem pieceCells_at (x : Int × Int) : ∀ (l : List (Int × Int)) (i : Nat), l[i]? = some x → (pieceCells l)[i * 2]? = some (.int .i64 x.1) ∧ (pieceCells l)[i * 2 + 1]? = some (.int .i64 x.2) := by
  intro l
  induction l with
  | nil => intro i h; simp at h
  | cons y l ih =>
    intro i h
    have e : pieceCells (y :: l) = [.int .i64 y.1, .int .i64 y.2] ++ pieceCells l := rfl
    rw [e]
    cases i with
    | zero => simp at h; subst h; simp
    | succ i =>
      have := ih i (by simpa using h)
      have e1 : (i + 1) * 2 = i * 2 + 2 := by omega
      rw [e1, List.getElem?_append_right (by simp), List.getElem?_append_right (by simp)]
      simpa using this
theorem piece_row {w : World} {base : Nat} {A : Option Addr} {n c : Nat} {l : List (Int × Int)} (h : w.ownsRow base 57 2 (.slice A n c) n (pieceCells l)) (i : Nat) (x : Int × Int) (hi : l[i]? = some x) :
    ∃ g, A = some ⟨g, 0, none⟩ ∧ g < w.heap.size ∧ w.cell? ⟨g, i * 2, none⟩ = some (.int .i64 x.1) ∧ w.cell? ⟨g, i * 2 + 1, none⟩ = some (.int .i64 x.2) := by
  obtain ⟨c0, c1⟩ := pieceCells_at x l i hi
  have hln : (pieceCells l).length = n * 2 := h.1
  have hlt2 : i * 2 + 1 < n * 2 := by rw [← hln]; exact (List.getElem?_eq_some_iff.1 c1).1
  rcases h.2 with ⟨hv, hn⟩ | ⟨g, cap, cur, hv, hg, hh, h3, h4, h5, h6⟩
  · omega
  · injection hv with hA _ _
    have hc : ∀ j u, (pieceCells l)[j]? = some u → w.cell? ⟨g, j, none⟩ = some u := fun j u hu => by
      have hj : j < n * 2 := by rw [← hln]; exact (List.getElem?_eq_some_iff.1 hu).1
      have e : w.cell? ⟨g, j, none⟩ = cur[j]? := by simp [World.cell?, hh]
      rw [e, ← hu, ← h6, List.getElem?_take, if_pos hj]; simp
    exact ⟨g, hA, (Array.getElem?_eq_some_iff.1 hh).1, hc _ _ c0, hc _ _ c1⟩

theorem open_take_le (l : List (Int × Int)) (h : ∀ p ∈ l, 0 < p.2) (j : Nat) : 0 ≤ openOf (l.take j) ∧ openOf (l.take j) ≤ openOf l := by
  induction l generalizing j with
  | nil => simp [openOf]
  | cons p l ih =>
    have h1 := h p (by simp)
    have h2 := fun j => ih (fun q hq => h q (by simp [hq])) j
    cases j with
    | zero =>
      have h3 := (h2 l.length)
      have e : openOf (p :: l) = p.2 + openOf l := by simp [openOf]
      rw [List.take_of_length_le (Nat.le_refl _)] at h3
      have e0 : openOf ((p :: l).take 0) = 0 := by simp [openOf]
      rw [e, e0]; omega
    | succ j =>
      have h3 := h2 j
      have e : openOf (p :: l) = p.2 + openOf l := by simp [openOf]
      have e1 : openOf ((p :: l).take (j + 1)) = p.2 + openOf (l.take j) := by simp [openOf]
      rw [e, e1]; omega

set_option maxHeartbeats 1000000 in
theorem open_any (r : FRec) (w : World) (h : RecOK w r) : Calls Tryd.prog 29 #[.pointer (some ⟨r.F, 0, none⟩)] w fun e w' => e = .returned (.int .i64 (openOf r.loose)) ∧ Below w.heap.size w w' := by
  have HR := Lib.hid h
  obtain ⟨_, f1, _⟩ := h.cells
  obtain ⟨Al, cl, hlv⟩ := own_slice h.loose
  obtain ⟨n, hn⟩ : ∃ n, Hid (r.loose.length = n) := ⟨_, rfl⟩
  rw [hlv, hn.out] at f1
  have HP : Hid (w.ownsRow 0 57 2 (.slice Al n cl) n (pieceCells r.loose)) := by
    have h9 := h.loose
    rw [hlv, hn.out] at h9; exact h9
  have HB : Hid (n ≤ 1048576 ∧ openOf r.loose ≤ 1048576) := by
    have h1 := len_open r.loose h.pos
    have h2 := h.sum
    have h3 := h.few
    rw [hn.out] at h1
    simp only [Hid]; omega
  clear h hlv
  go_enter Tryd.func29, Tryd.ntmps29
  go_wp2
  go_loopw [3, 11] (fun t i wr => ∃ (j : Nat), j ≤ n ∧ i = .int .i64 j ∧ t = .int .i64 (openOf (r.loose.take j)) ∧ Hid (Below w.heap.size w wr)) (fun _ i _ => n - (intOf i).toNat)
  case atStart => exact ⟨0, Nat.zero_le _, rfl, by simp [openOf], Below.refl _ _⟩
  case round =>
    obtain ⟨j, hj, rfl, rfl, HS⟩ := hrel
    by_cases hlt : j < n
    · obtain ⟨x, hx⟩ : ∃ x, Hid (r.loose[j]? = some x) := ⟨_, List.getElem?_eq_getElem (by have := hn.out; omega)⟩
      obtain ⟨g, rfl, hg, d0, d1⟩ := piece_row HP.out j x hx.out
      replace d0 := (HS.out.cell (p := ⟨g, j * 2, none⟩) hg).trans d0
      replace d1 := (HS.out.cell (p := ⟨g, j * 2 + 1, none⟩) hg).trans d1
      have htake : r.loose.take (j + 1) = r.loose.take j ++ [x] := by
        obtain ⟨h7, h8⟩ := List.getElem?_eq_some_iff.1 hx.out
        rw [← h8, List.take_append_getElem]
      have hT := open_take_le r.loose HR.out.pos j
      have hT1 := open_take_le r.loose HR.out.pos (j + 1)
      rw [htake, openOf_snoc] at hT1
      obtain ⟨q, hq⟩ : ∃ q, Hid (openOf (r.loose.take j) = q) := ⟨_, rfl⟩
      rw [hq.out] at hT hT1 ⊢
      have HQ : Hid (openOf (r.loose.take (j + 1)) = q + x.2) := by rw [Hid, htake, openOf_snoc, hq.out]
      have hw1 : IntKind.i64.wrap ((j : Int) + 1) = ((j + 1 : Nat) : Int) := by have := HB.out; rw [IntKind.wrap_i64]; omega
      have hw2 : IntKind.i64.wrap (q + x.2) = q + x.2 := by have := HB.out; rw [IntKind.wrap_i64]; omega
      have hlt2 : ((j : Nat) : Int) < n := by omega
      have hb0 : ((0 : Int) ≤ j) := by omega
      have hbd : Hid (∀ o, Below w.heap.size w (wr.alloc o)) := fun o => HS.out.alloc HS.out.size o
      clear hT hT1 htake
      go_wp2
      exact ⟨⟨j + 1, hlt, rfl, by rw [HQ.out], hbd.out _⟩, by simp [intOf]; omega⟩
    · have hjn : j = n := by omega
      subst hjn
      have e : r.loose.take j = r.loose := by rw [← hn.out]; exact List.take_length
      rw [e]
      go_wp2
      go_ret
      exact ⟨rfl, HS.out⟩
end Go.Proofs.YtfhdcjfkngflbaaDoor
