/-
  disk: Append told whole; Delete. Own work.
  Ranges over maps in a plain walk; disk: open, Loose. Own work.
  disk: Loose, Sync. Own work.
  disk: Sync. Own work.
  disk: shorten, Cut. Own work.
-/
import Derived.Test.YthokoimoiamddaaGreatDoorDiskApp2
set_option linter.unusedSimpArgs false
set_option linter.unusedVariables false
namespace Go.Proofs.YthokoimoiamddaaGreatDoor
open Go Go.RowKit
open Go.ChangeMaps (setBlock)

/-- Append, whatever it is handed. -/
theorem append_any (base : Nat) (s : St) (k : ByteArray) (A : Option Addr) (n c : Nat) (bs : List UInt8) (hbn : bs.length = n) (w : World) (hd : DiskAt base w s) (hlow : base ≤ w.heap.size) (hk : k.size ≤ 4611686018427387904) (hA : BytesAt w A bs) (hT : s.turn ≤ 4611686018427387904) :
    Calls Tryz.prog 48 #[.pointer (some ⟨s.B, 0, none⟩), .string k, .slice A n c] w fun e w' => e = .returned (errV (appE s k n)) ∧ ((appE s k n ≠ none ∧ w = w') ∨ (appE s k n = none ∧ ∃ s', AppOK base s k bs w s' w')) := by
  cases h : nmB k with
  | false =>
    have e : appE s k n = some 1 := by unfold appE; rw [if_neg (by rw [h]; simp)]
    refine (append_name s k A n c w hk h).mono ?_
    rintro e' w' ⟨rfl, rfl⟩
    rw [e]; exact ⟨rfl, .inl ⟨by simp, rfl⟩⟩
  | true =>
    cases hr : s.R k with
    | none =>
      by_cases hf : 64 ≤ s.L.length
      · have e : appE s k n = some 11 := by unfold appE; rw [if_pos h, hr]; simp only; rw [if_pos hf]
        refine (append_full base s k A n c w hd hk h hr hf).mono ?_
        rintro e' w' ⟨rfl, rfl⟩
        rw [e]; exact ⟨rfl, .inl ⟨by simp, rfl⟩⟩
      · by_cases hn : 1048576 < n
        · have e : appE s k n = some 2 := by unfold appE; rw [if_pos h, hr]; simp only; rw [if_neg hf, if_pos hn]
          refine (append_long_new base s k A n c w hd hk h hr hf hn).mono ?_
          rintro e' w' ⟨rfl, rfl⟩
          rw [e]; exact ⟨rfl, .inl ⟨by simp, rfl⟩⟩
        · have e : appE s k n = none := by unfold appE; rw [if_pos h, hr]; simp only; rw [if_neg hf, if_neg hn]
          refine (append_new base s k A n c bs hbn w hd hlow hk hA hT h hr hf hn).mono ?_
          rintro e' w' ⟨rfl, hs⟩
          rw [e]; exact ⟨rfl, .inr ⟨rfl, hs⟩⟩
    | some r =>
      by_cases hn : 1048576 < n
      · have e : appE s k n = some 2 := by unfold appE; rw [if_pos h, hr]; simp only; rw [if_pos hn]
        refine (append_long base s k r A n c w hd hk h hr (.inl hn)).mono ?_
        rintro e' w' ⟨rfl, rfl⟩
        rw [e]; exact ⟨rfl, .inl ⟨by simp, rfl⟩⟩
      · by_cases hn2 : 1048576 < r.data.length + n
        · have e : appE s k n = some 2 := by unfold appE; rw [if_pos h, hr]; simp only; rw [if_neg hn, if_pos hn2]
          refine (append_long base s k r A n c w hd hk h hr (.inr ⟨hn, hn2⟩)).mono ?_
          rintro e' w' ⟨rfl, rfl⟩
          rw [e]; exact ⟨rfl, .inl ⟨by simp, rfl⟩⟩
        · have e : appE s k n = none := by unfold appE; rw [if_pos h, hr]; simp only; rw [if_neg hn, if_neg hn2]
          refine (append_old base s k r A n c bs hbn w hd hlow hk hA hT h hr hn hn2).mono ?_
          rintro e' w' ⟨rfl, hs⟩
          rw [e]; exact ⟨rfl, .inr ⟨rfl, hs⟩⟩

theorem wpList_drop (w : World) {ops : Array Oper} {rest : List Oper} {o : Oper} {a : Act} {Q : Exit → Act → World → Prop} (hgd : o.guard = none) (m x : Operand)
    (ho : o.op = .call { callee := .builtin .delete, args := #[m, x], argTypes := #[58, 9] }) (M : Nat) (k : ByteArray) (hm : a.eval m = .map (some M)) (hx : a.eval x = .string k) {L : List (MEnt ByteArray)} {c : Nat} (h : MapAt Value.string w M L c)
    (hK : wpList Tryz.prog ops Q rest (a.put o.dst (.tuple #[])) (setBlock w M (.map ((delE k L).map (MEnt.ent Value.string)).toArray c))) : wpList Tryz.prog ops Q (o :: rest) a w := by
  have hr := run_drop (P := Tryz.prog) (ty := o.type) (TT := #[58, 9]) str_keys Tryz.underlying58 rfl h k
  refine wpList_plain hgd fun K hK' => ?_
  unfold Oper.wp execOp
  simp only [ho, resolve, invoke, builtin, Sem.run_bind, Sem.run_pure, Result.andThen_ok, List.map_toArray, List.map_cons, List.map_nil, hm, hx, hr]
  exact hK' _ _ hK

theorem delete_nil (k : ByteArray) (w : World) : Calls Tryz.prog 29 #[.pointer none, .string k] w fun e w' => e = .returned (.iface 42 (.int .i64 19)) ∧ w = w' := by
  go_enter Tryz.func29, Tryz.ntmps29
  go_wp2_with (go_at_call 49; refine (find_nil k _).mono ?_; rintro e w' ⟨rfl, rfl⟩)
  go_ret
  exact ⟨rfl, rfl⟩
theorem delete_miss (base : Nat) (s : St) (k : ByteArray) (w : World) (h : DiskAt base w s) (hr : s.R k = none) : Calls Tryz.prog 29 #[.pointer (some ⟨s.B, 0, none⟩), .string k] w fun e w' => e = .returned (.iface 42 (.int .i64 10)) ∧ w = w' := by
  have H := Lib.hid h
  clear h
  go_enter Tryz.func29, Tryz.ntmps29
  go_wp2_with (go_at_call 49; refine (find_miss base s k _ H.out hr).mono ?_; rintro e w' ⟨rfl, rfl⟩)
  go_ret
  exact ⟨rfl, rfl⟩
theorem delete_hit (base : Nat) (s : St) (k : ByteArray) (r : FRec) (w : World) (h : DiskAt base w s) (hr : s.R k = some r) : Calls Tryz.prog 29 #[.pointer (some ⟨s.B, 0, none⟩), .string k] w fun e w' => e = .returned .nilIface ∧ DiskAt base w' (dropSt s k) ∧ Frame s (dropSt s k) w w' := by
  have H := Lib.hid h
  obtain ⟨c0, _, _⟩ := h.cells
  have HF := Lib.hid (And.intro (h.drop k) (dropSt_frame h k))
  clear h
  go_enter Tryz.func29, Tryz.ntmps29
  go_wp2_with (first | (go_at_call 49; refine (find_hit base s k r _ H.out hr).mono ?_; rintro e w' ⟨rfl, rfl⟩) | (refine wpList_drop _ rfl _ _ rfl s.M k rfl rfl H.out.map ?_))
  go_ret
  exact ⟨rfl, HF.out⟩
end Go.Proofs.YthokoimoiamddaaGreatDoor
set_option linter.unusedSimpArgs false
set_option linter.unusedVariables false
namespace Go.Proofs.YthokoimoiamddaaGreatDoor
open Go Go.RowKit
open Go.ChangeMaps (setBlock)

section
variable {κ : Type} {kv : κ → Value} {P : Program} {w : World} {b c r : Nat} {L dn : List (MEnt κ)}
variable {ops : Array Oper} {rest : List Oper} {o : Oper} {a : Act} {Q : Exit → Act → World → Prop}

theorem wpList_range_at (hg : o.guard = none) (m : Operand) (T : TypeId) (hop : o.op = Op.range T m) (K E : TypeId) (ht : P.underlying T = some (.map K E)) (hm : a.eval m = .map (some b)) (h : MapAt kv w b L c) (hw : MWf L c)
    (hK : ∀ w', IterAt kv w' b w.heap.size L c [] → w.grownBy w' none → w'.heap.size = w.heap.size + 1 → wpList P ops Q rest (a.put o.dst (.pointer (some ⟨w.heap.size, 0, none⟩))) w') :
    wpList P ops Q (o :: rest) a w := by
  obtain ⟨hrun, hit⟩ := run_range_at (P := P) ht h hw
  refine wpList_plain hg fun K' hK' => ?_
  unfold Oper.wp
  simp [execOp, hop, hm, hrun, Result.andThen]
  exact hK' _ _ (hK _ hit (World.grownBy_alloc w _ none) (by simp))

theorem wpList_next_at (hg : o.guard = none) (it : Operand) (hop : o.op = Op.next it false) (hit : a.eval it = .pointer (some ⟨r, 0, none⟩)) (h : IterAt kv w b r L c dn)
    (hDone : dn.Perm L → wpList P ops Q rest (a.put o.dst (.tuple #[.bool false])) w)
    (hMore : ∀ e ∈ L, e ∉ dn → ∀ w', IterAt kv w' b r L c (dn ++ [e]) → w.grownBy w' (some r) → w'.heap.size = w.heap.size →
      (Instr.entry (.pointer (some ⟨r, 0, none⟩))).run P w' = .ok (.tuple #[kv e.k, e.v]) w' → wpList P ops Q rest (a.put o.dst (.tuple #[.bool true, kv e.k, e.v])) w') :
    wpList P ops Q (o :: rest) a w := by
  refine wpList_plain hg fun K' hK' => ?_
  unfold Oper.wp
  rcases run_next_it (P := P) h o.type with ⟨hp, hrun⟩ | ⟨e, he, hnd, w', hrun, h1, h2, h3, h4⟩
  · simp [execOp, hop, hit, hrun, Result.andThen]
    exact hK' _ _ (hDone hp)
  · simp [execOp, hop, hit, hrun, Result.andThen]
    exact hK' _ _ (hMore e he hnd w' h1 h2 h3 h4)
end

def iterLeft (r n : Nat) (w : World) : Nat :=
  match w.heap[r]? with
  | some (.mapIter _ _ seen _) => n - seen.size
  | _ => 0
theorem IterAt.left {κ : Type} {kv : κ → Value} {w : World} {b r c : Nat} {L dn : List (MEnt κ)} (h : IterAt kv w b r L c dn) : iterLeft r L.length w = L.length - dn.length := by
  unfold iterLeft
  rw [h.2.2.1]
  simp

theorem pieceCells_at (x : Int × Int) : ∀ (l : List (Int × Int)) (i : Nat), l[i]? = some x → (pieceCells l)[i * 2]? = some (.int .i64 x.1) ∧ (pieceCells l)[i * 2 + 1]? = some (.int .i64 x.2) := by
  intro l
  induction l with
  | nil => intro i h; simp at h
  | cons y l ih =>
    intro i h
    have e : pieceCells (y :: l) = [.int .i64 y.1, .int .i64 y.2] ++ pieceCells l := rfl
    rw [e]
    cases i with
    | zero => simp at h; subst h; simp
    | succ i =>
      have := ih i (by simpa using h)
      have e1 : (i + 1) * 2 = i * 2 + 2 := by omega
      rw [e1, List.getElem?_append_right (by simp), List.getElem?_append_right (by simp)]
      simpa using this
theorem piece_row {w : World} {base : Nat} {A : Option Addr} {n c : Nat} {l : List (Int × Int)} (h : w.ownsRow base 86 2 (.slice A n c) n (pieceCells l)) (i : Nat) (x : Int × Int) (hi : l[i]? = some x) :
    ∃ g, A = some ⟨g, 0, none⟩ ∧ g < w.heap.size ∧ w.cell? ⟨g, i * 2, none⟩ = some (.int .i64 x.1) ∧ w.cell? ⟨g, i * 2 + 1, none⟩ = some (.int .i64 x.2) := by
  obtain ⟨c0, c1⟩ := pieceCells_at x l i hi
  have hln : (pieceCells l).length = n * 2 := h.1
  have hlt2 : i * 2 + 1 < n * 2 := by rw [← hln]; exact (List.getElem?_eq_some_iff.1 c1).1
  rcases h.2 with ⟨hv, hn⟩ | ⟨g, cap, cur, hv, hg, hh, h3, h4, h5, h6⟩
  · omega
  · injection hv with hA _ _
    have hc : ∀ j u, (pieceCells l)[j]? = some u → w.cell? ⟨g, j, none⟩ = some u := fun j u hu => by
      have hj : j < n * 2 := by rw [← hln]; exact (List.getElem?_eq_some_iff.1 hu).1
      have e : w.cell? ⟨g, j, none⟩ = cur[j]? := by simp [World.cell?, hh]
      rw [e, ← hu, ← h6, List.getElem?_take, if_pos hj]; simp
    exact ⟨g, hA, (Array.getElem?_eq_some_iff.1 hh).1, hc _ _ c0, hc _ _ c1⟩

theorem open_take_le (l : List (Int × Int)) (h : ∀ p ∈ l, 0 < p.2) (j : Nat) : 0 ≤ openOf (l.take j) ∧ openOf (l.take j) ≤ openOf l := by
  induction l generalizing j with
  | nil => simp [openOf]
  | cons p l ih =>
    have h1 := h p (by simp)
    have h2 := fun j => ih (fun q hq => h q (by simp [hq])) j
    cases j with
    | zero =>
      have h3 := (h2 l.length)
      have e : openOf (p :: l) = p.2 + openOf l := by simp [openOf]
      rw [List.take_of_length_le (Nat.le_refl _)] at h3
      have e0 : openOf ((p :: l).take 0) = 0 := by simp [openOf]
      rw [e, e0]; omega
    | succ j =>
      have h3 := h2 j
      have e : openOf (p :: l) = p.2 + openOf l := by simp [openOf]
      have e1 : openOf ((p :: l).take (j + 1)) = p.2 + openOf (l.take j) := by simp [openOf]
      rw [e, e1]; omega

set_option maxHeartbeats 1000000 in
theorem open_any (r : FRec) (w : World) (h : RecOK w r) : Calls Tryz.prog 39 #[.pointer (some ⟨r.F, 0, none⟩)] w fun e w' => e = .returned (.int .i64 (openOf r.loose)) ∧ Below w.heap.size w w' := by
  have HR := Lib.hid h
  obtain ⟨_, f1, _⟩ := h.cells
  obtain ⟨Al, cl, hlv⟩ := own_slice h.loose
  obtain ⟨n, hn⟩ : ∃ n, Hid (r.loose.length = n) := ⟨_, rfl⟩
  rw [hlv, hn.out] at f1
  have HP : Hid (w.ownsRow 0 86 2 (.slice Al n cl) n (pieceCells r.loose)) := by
    have h9 := h.loose
    rw [hlv, hn.out] at h9; exact h9
  have HB : Hid (n ≤ 1048576 ∧ openOf r.loose ≤ 1048576) := by
    have h1 := len_open r.loose h.pos
    have h2 := h.sum
    have h3 := h.few
    rw [hn.out] at h1
    simp only [Hid]; omega
  clear h hlv
  go_enter Tryz.func39, Tryz.ntmps39
  go_wp2
  go_loopw [3, 11] (fun t i wr => ∃ (j : Nat), j ≤ n ∧ i = .int .i64 j ∧ t = .int .i64 (openOf (r.loose.take j)) ∧ Hid (Below w.heap.size w wr)) (fun _ i _ => n - (intOf i).toNat)
  case atStart => exact ⟨0, Nat.zero_le _, rfl, by simp [openOf], Below.refl _ _⟩
  case round =>
    obtain ⟨j, hj, rfl, rfl, HS⟩ := hrel
    by_cases hlt : j < n
    · obtain ⟨x, hx⟩ : ∃ x, Hid (r.loose[j]? = some x) := ⟨_, List.getElem?_eq_getElem (by have := hn.out; omega)⟩
      obtain ⟨g, rfl, hg, d0, d1⟩ := piece_row HP.out j x hx.out
      replace d0 := (HS.out.cell (p := ⟨g, j * 2, none⟩) hg).trans d0
      replace d1 := (HS.out.cell (p := ⟨g, j * 2 + 1, none⟩) hg).trans d1
      have htake : r.loose.take (j + 1) = r.loose.take j ++ [x] := by
        obtain ⟨h7, h8⟩ := List.getElem?_eq_some_iff.1 hx.out
        rw [← h8, List.take_append_getElem]
      have hT := open_take_le r.loose HR.out.pos j
      have hT1 := open_take_le r.loose HR.out.pos (j + 1)
      rw [htake, openOf_snoc] at hT1
      obtain ⟨q, hq⟩ : ∃ q, Hid (openOf (r.loose.take j) = q) := ⟨_, rfl⟩
      rw [hq.out] at hT hT1 ⊢
      have HQ : Hid (openOf (r.loose.take (j + 1)) = q + x.2) := by rw [Hid, htake, openOf_snoc, hq.out]
      have hw1 : IntKind.i64.wrap ((j : Int) + 1) = ((j + 1 : Nat) : Int) := by have := HB.out; rw [IntKind.wrap_i64]; omega
      have hw2 : IntKind.i64.wrap (q + x.2) = q + x.2 := by have := HB.out; rw [IntKind.wrap_i64]; omega
      have hlt2 : ((j : Nat) : Int) < n := by omega
      have hb0 : ((0 : Int) ≤ j) := by omega
      have hbd : Hid (∀ o, Below w.heap.size w (wr.alloc o)) := fun o => HS.out.alloc HS.out.size o
      clear hT hT1 htake
      go_wp2
      exact ⟨⟨j + 1, hlt, rfl, by rw [HQ.out], hbd.out _⟩, by simp [intOf]; omega⟩
    · have hjn : j = n := by omega
      subst hjn
      have e : r.loose.take j = r.loose := by rw [← hn.out]; exact List.take_length
      rw [e]
      go_wp2
      go_ret
      exact ⟨rfl, HS.out⟩
end Go.Proofs.YthokoimoiamddaaGreatDoor
set_option linter.unusedSimpArgs false
set_option linter.unusedVariables false
namespace Go.Proofs.YthokoimoiamddaaGreatDoor
open Go Go.RowKit
open Go.ChangeMaps (setBlock)

def openK (s : St) (k : ByteArray) : Int := match s.R k with | some r => openOf r.loose | none => 0
def sumK (s : St) (dn : List (MEnt ByteArray)) : Int := (dn.map fun e => openK s e.k).sum
def looseOf (s : St) : Int := sumK s s.L
theorem sumK_perm (s : St) {a b : List (MEnt ByteArray)} (h : a.Perm b) : sumK s a = sumK s b := by
  unfold sumK
  induction h with
  | nil => rfl
  | cons x _ ih => simp [ih]
  | swap x y l => simp; omega
  | trans _ _ h1 h2 => exact h1.trans h2
theorem sumK_snoc (s : St) (dn : List (MEnt ByteArray)) (e : MEnt ByteArray) : sumK s (dn ++ [e]) = sumK s dn + openK s e.k := by simp [sumK]

section
variable {base : Nat} {w w' : World} {s : St}
theorem DiskAt.mem (h : DiskAt base w s) {e : MEnt ByteArray} (he : e ∈ s.L) : ∃ r, s.R e.k = some r ∧ e.v = ptrF r := by
  have h1 := lkV_of_mem h.wf he
  rw [h.lk] at h1
  cases hr : s.R e.k with
  | none => rw [hr] at h1; cases h1
  | some r => rw [hr] at h1; exact ⟨r, rfl, by simpa using h1.symm⟩
theorem DiskAt.openK_le (h : DiskAt base w s) (k : ByteArray) : 0 ≤ openK s k ∧ openK s k ≤ 1048576 := by
  unfold openK
  cases hr : s.R k with
  | none => simp
  | some r =>
    have hrec := h.recs k r hr
    have h1 := len_open r.loose hrec.pos
    have h2 := hrec.sum
    have h3 := hrec.few
    simp only; omega
theorem DiskAt.sumK_le (h : DiskAt base w s) (dn : List (MEnt ByteArray)) : 0 ≤ sumK s dn ∧ sumK s dn ≤ 1048576 * dn.length := by
  induction dn with
  | nil => simp [sumK]
  | cons e l ih =>
    have h1 := h.openK_le e.k
    have e1 : sumK s (e :: l) = openK s e.k + sumK s l := by simp [sumK]
    rw [e1]; simp; omega
end

theorem loose_nil (w : World) : Calls Tryz.prog 54 #[.pointer none] w fun e w' => e = .returned (.int .i64 0) ∧ w = w' := by
  go_enter Tryz.func54, Tryz.ntmps54
  go_wp2
  go_ret
  exact ⟨rfl, rfl⟩

set_option maxHeartbeats 1000000 in
theorem loose_any (base : Nat) (s : St) (w : World) (h : DiskAt base w s) : Calls Tryz.prog 54 #[.pointer (some ⟨s.B, 0, none⟩)] w fun e w' => e = .returned (.int .i64 (looseOf s)) ∧ Below w.heap.size w w' := by
  have H := Lib.hid h
  obtain ⟨c0, _, _⟩ := h.cells
  clear h
  go_enter Tryz.func54, Tryz.ntmps54
  go_wp2_with (refine wpList_range_at rfl _ 58 rfl 9 80 Tryz.underlying58 rfl H.out.map H.out.wf ?_; intro w0 hrg0 hg0 hs0; have HR0 := Lib.hid hrg0; have HB0 : Hid (Below w.heap.size w w0) := (Below.refl _ w).grown hg0 (Nat.le_refl _) (fun g e => by cases e); clear hrg0 hg0 hs0)
  go_frame
  go_loopw [3] (fun t wr => ∃ (dn : List (MEnt ByteArray)), t = .int .i64 (sumK s dn) ∧ Hid (IterAt Value.string wr s.M w.heap.size s.L s.c dn ∧ Below w.heap.size w wr)) (fun _ wr => iterLeft w.heap.size s.L.length wr)
  case atStart => exact ⟨[], rfl, HR0.out, HB0.out⟩
  case round =>
    obtain ⟨dn, rfl, HS⟩ := hrel
    go_wp2_with (refine wpList_next_at rfl _ rfl rfl HS.out.1 ?_ ?_)
    · intro hp
      have HP := Lib.hid (sumK_perm s hp)
      go_wp2
      go_ret
      exact ⟨by rw [HP.out]; rfl, HS.out.2⟩
    · intro e he hnd w2 hrg2 hg2 hs2 hen
      obtain ⟨r, hr, hv⟩ := H.out.mem he
      obtain ⟨k9, v9, b9⟩ := e
      simp only at hr hv hen hrg2
      subst hv
      have HS2 : Hid (IterAt Value.string w2 s.M w.heap.size s.L s.c (dn ++ [⟨k9, ptrF r, b9⟩]) ∧ Below w.heap.size w w2) := ⟨hrg2, HS.out.2.grown hg2 HS.out.2.size (fun g e => by cases e; exact Nat.le_refl _)⟩
      have HRK : Hid (openK s k9 = openOf r.loose) := by unfold openK; rw [Hid, hr]
      have HO : Hid (Calls Tryz.prog 39 #[.pointer (some ⟨r.F, 0, none⟩)] w2 fun e w' => e = .returned (.int .i64 (openOf r.loose)) ∧ Below w2.heap.size w2 w') := open_any r w2 ((H.out.below HS2.out.2).recs k9 r hr)
      have hle := hrg2.le
      have HL9 : Hid (dn.length + 1 ≤ s.L.length) := by simp only [Hid]; simpa using hle
      have hb1 := H.out.sumK_le dn
      have hb2 := H.out.openK_le k9
      rw [HRK.out] at hb2
      obtain ⟨q, hq⟩ : ∃ q, Hid (sumK s dn = q) := ⟨_, rfl⟩
      obtain ⟨z, hz⟩ : ∃ z, Hid (openOf r.loose = z) := ⟨_, rfl⟩
      rw [hz.out] at hb2 HO
      rw [hq.out] at hb1 ⊢
      have hw1 : IntKind.i64.wrap (q + z) = q + z := by
        have h1 := HL9.out
        have h2 := H.out.few
        rw [IntKind.wrap_i64]; omega
      have HQ : Hid (sumK s (dn ++ [⟨k9, ptrF r, b9⟩]) = q + z) := by rw [Hid, sumK_snoc, hq.out]; simp only; rw [HRK.out, hz.out]
      have HITER := Lib.hid hrg2
      simp only [ptrF] at hen
      clear hrg2 hg2 hs2 hle hb1 hb2 he hnd hr
      go_wp2_with (go_at_call 39; refine HO.out.mono ?_; rintro e w3 ⟨rfl, hb3⟩; have HB3 := Lib.hid hb3; clear hb3)
      have HIT3 : Hid (IterAt Value.string w3 s.M w.heap.size s.L s.c (dn ++ [⟨k9, ptrF r, b9⟩]) ∧ Below w.heap.size w w3) := by
        refine ⟨?_, HS2.out.2.trans (HB3.out.mono HS2.out.2.size)⟩
        exact HS2.out.1.ofEq (HB3.out.block _ HS2.out.1.1.lt) (HB3.out.block _ HS2.out.1.lt)
      go_roundw
      case rel => exact ⟨_, by rw [HQ.out], HIT3.out⟩
      case measure => rw [HIT3.out.1.left, HS.out.1.left]; have := HL9.out; simp; omega
end Go.Proofs.YthokoimoiamddaaGreatDoor
set_option linter.unusedSimpArgs false
set_option linter.unusedVariables false
namespace Go.Proofs.YthokoimoiamddaaGreatDoor
open Go Go.RowKit
open Go.ChangeMaps (setBlock)

def clr (r : FRec) : FRec := { r with lv := .slice none 0 0, loose := [] }

section
variable {base : Nat} {w w' : World} {s s' : St}
theorem DiskAt.clear (h : DiskAt base w s) (hlow : base ≤ w.heap.size) {k : ByteArray} {r : FRec} (hr : s.R k = some r) :
    DiskAt base (w.setCell ⟨r.F, 1, none⟩ (.slice none 0 0)) { s with R := updR s.R k (some (clr r)) } ∧ Frame s { s with R := updR s.R k (some (clr r)) } w (w.setCell ⟨r.F, 1, none⟩ (.slice none 0 0)) := by
  have hrec := h.recs k r hr
  obtain ⟨ha1, ha2, ha3⟩ := hrec.apart
  have hk : ∀ g, g ≠ r.F → (w.setCell ⟨r.F, 1, none⟩ (.slice none 0 0)).heap[g]? = w.heap[g]? := fun g hg => Below.heap_setCell w ⟨r.F, 1, none⟩ _ g hg
  have hblk : ∀ g, (clr r).blocks g → r.blocks g ∨ w.heap.size ≤ g := fun g hb => by
    rcases hb with hb | hb | hb
    · exact .inl (.inl hb)
    · exact .inl (.inr (.inl hb))
    · cases hb
  refine ⟨h.change hr _ rfl ⟨?_, ?_, World.ownsRow_nil _ _ _ _, hrec.few, by simp [clr], by simp [clr, openOf]⟩ (fun g ho hnb => hk g (fun e => hnb (.inl e))) hblk hlow (by simp [clr]) (by simp [clr]) (by simp [clr]), rfl, rfl, rfl, by simp [World.setCell], fun g hlt ho => hk g (fun e => ho (.inr (.inr ⟨k, r, hr, .inl e⟩))), St.own_upd (t := s.turn) hr hblk⟩
  · exact setCell_cells hrec.blk
  · exact hrec.data.keep fun g hg => hk g (ha1 g hg)

theorem Frame.grown (h : Frame s s' w w') {w2 : World} {b : Nat} (hg : w'.grownBy w2 (some b)) (hb : w.heap.size ≤ b) : Frame s s' w w2 :=
  ⟨hg.os.trans h.os, hg.tape.trans h.tape, hg.output.trans h.output, Nat.le_trans h.size hg.size, fun g hlt ho => (hg.block g (Nat.lt_of_lt_of_le hlt h.size) (fun e => by cases e; omega)).trans (h.block g hlt ho), h.own⟩
theorem DiskAt.iter (h : DiskAt base w s) {w2 : World} {b : Nat} (hg : w.grownBy w2 (some b)) (hb : ¬ s.own b) : DiskAt base w2 s := h.keep fun g ho => hg.block g (h.lt ho) (fun e => by cases e; exact hb ho)
end

theorem sync_nil (w : World) : Calls Tryz.prog 28 #[.pointer none] w fun e w' => e = .returned (.iface 42 (.int .i64 19)) ∧ w = w' := by
  go_enter Tryz.func28, Tryz.ntmps28
  go_wp2
  go_ret
  exact ⟨rfl, rfl⟩

/-- While Sync goes round: the files done so far are safe. -/
def SyncAt (base : Nat) (s : St) (w wr : World) (dn : List (MEnt ByteArray)) : Prop := ∃ s', DiskAt base wr s' ∧ Frame s s' w wr ∧ s'.B = s.B ∧ s'.M = s.M ∧ s'.c = s.c ∧ s'.L = s.L ∧ s'.turn = s.turn ∧ base ≤ wr.heap.size ∧ ¬ s'.own w.heap.size ∧ (∀ k, k ∈ dn.map MEnt.k → s'.R k = (s.R k).map clr) ∧ ∀ k, k ∉ dn.map MEnt.k → s'.R k = s.R k

set_option maxHeartbeats 1000000 in
theorem sync_any (base : Nat) (s : St) (w : World) (h : DiskAt base w s) (hlow : base ≤ w.heap.size) : Calls Tryz.prog 28 #[.pointer (some ⟨s.B, 0, none⟩)] w fun e w' => e = .returned .nilIface ∧
    ∃ s', DiskAt base w' s' ∧ Frame s s' w w' ∧ s'.B = s.B ∧ s'.L = s.L ∧ s'.turn = s.turn ∧ ∀ k, s'.R k = (s.R k).map clr := by
  have H := Lib.hid h
  have HL := Lib.hid hlow
  obtain ⟨c0, _, _⟩ := h.cells
  clear h hlow
  go_enter Tryz.func28, Tryz.ntmps28
  go_wp2_with (refine wpList_range_at rfl _ 58 rfl 9 80 Tryz.underlying58 rfl H.out.map H.out.wf ?_; intro w0 hrg0 hg0 hs0; have HR0 := Lib.hid hrg0; have HB0 : Hid (Below w.heap.size w w0) := (Below.refl _ w).grown hg0 (Nat.le_refl _) (fun g e => by cases e); clear hrg0 hg0 hs0)
  go_frame
  go_loopw [4] (fun _ wr => ∃ (dn : List (MEnt ByteArray)), Hid (IterAt Value.string wr s.M w.heap.size s.L s.c dn ∧ SyncAt base s w wr dn)) (fun _ wr => iterLeft w.heap.size s.L.length wr)
  case atStart =>
    refine ⟨[], HR0.out, s, H.out.below HB0.out, Frame.of_below HB0.out, rfl, rfl, rfl, rfl, rfl, Nat.le_trans HL.out HB0.out.size, fun ho => ?_, fun k hk => (by simp at hk), fun k _ => rfl⟩
    have := H.out.lt ho; omega
  case round =>
    obtain ⟨dn, HS⟩ := hrel
    go_wp2_with (refine wpList_next_at rfl _ rfl rfl HS.out.1 ?_ ?_)
    · intro hp
      have HE : Hid (∃ s', DiskAt base wr s' ∧ Frame s s' w wr ∧ s'.B = s.B ∧ s'.L = s.L ∧ s'.turn = s.turn ∧ ∀ k, s'.R k = (s.R k).map clr) := by
        obtain ⟨s', h1, h2, h3, _, _, h4, h5, _, _, h6, h7⟩ := HS.out.2
        refine ⟨s', h1, h2, h3, h4, h5, fun k => ?_⟩
        cases hr : s.R k with
        | some r =>
          have hin : k ∈ dn.map MEnt.k := by
            have h8 := H.out.lk k
            rw [hr] at h8
            obtain ⟨e', he', hk', _⟩ := lkV_mem h8
            exact (hp.map MEnt.k).mem_iff.2 (List.mem_map.2 ⟨e', he', hk'⟩)
          rw [h6 k hin, hr]
        | none =>
          rw [h7 k ?_, hr]; rfl
          intro hin
          obtain ⟨e', he', rfl⟩ := List.mem_map.1 hin
          obtain ⟨r', hr', _⟩ := H.out.mem (hp.mem_iff.1 he')
          rw [hr] at hr'; cases hr'
      go_wp2
      go_ret
      exact ⟨rfl, HE.out⟩
    · intro e he hnd w2 hrg2 hg2 hs2 hen
      obtain ⟨r, hr, hv⟩ := H.out.mem he
      obtain ⟨k9, v9, b9⟩ := e
      simp only at hr hv hen hrg2
      subst hv
      have hkn : k9 ∉ dn.map MEnt.k := fun hm => by
        obtain ⟨e', he', hk'⟩ := List.mem_map.1 hm
        have hin : e' ∈ s.L := HS.out.1.2.2.2.2 e' he'
        have e8 : e' = ⟨k9, ptrF r, b9⟩ := inj_of_nodup H.out.wf.keys hin he hk'
        exact hnd (e8 ▸ he')
      obtain ⟨s', h1, h2, h3, h3m, h3c, h4, h5, h5b, h5o, h6, h7⟩ := HS.out.2
      have hr' : s'.R k9 = some r := by rw [h7 k9 hkn]; exact hr
      have hd2 := h1.iter hg2 h5o
      have hf2 := h2.grown hg2 (Nat.le_refl _)
      have hlow2 : base ≤ w2.heap.size := by rw [hs2]; exact h5b
      obtain ⟨hd3, hf3⟩ := hd2.clear hlow2 hr'
      obtain ⟨_, f1, ff⟩ := (hd2.recs k9 r hr').cells
      obtain ⟨Al, cl, hlv⟩ := own_slice (hd2.recs k9 r hr').loose
      rw [hlv] at f1
      have hRlt : w.heap.size < w2.heap.size := hrg2.lt
      have hFM : s.M ≠ r.F := fun e => by
        have := (hd2.ne_rec hr' (g := r.F) (.inl rfl)).2
        rw [h3m] at this; exact this e.symm
      have hFR : w.heap.size ≠ r.F := fun e => h5o (.inr (.inr ⟨k9, r, hr', .inl e⟩))
      have HIT : Hid (IterAt Value.string (w2.setCell ⟨r.F, 1, none⟩ (.slice none 0 0)) s.M w.heap.size s.L s.c (dn ++ [⟨k9, ptrF r, b9⟩])) :=
        hrg2.ofEq (Below.heap_setCell w2 ⟨r.F, 1, none⟩ _ _ hFM) (Below.heap_setCell w2 ⟨r.F, 1, none⟩ _ _ hFR)
      have HSY : Hid (SyncAt base s w (w2.setCell ⟨r.F, 1, none⟩ (.slice none 0 0)) (dn ++ [⟨k9, ptrF r, b9⟩])) := by
        refine ⟨_, hd3, hf2.trans hf3, h3, h3m, h3c, h4, h5, by simpa [World.setCell] using hlow2, fun ho => ?_, fun k hk => ?_, fun k hk => ?_⟩
        · rcases hf3.own _ ho with ho | ho
          · exact h5o ho
          · omega
        · show updR s'.R k9 (some (clr r)) k = _
          by_cases e : k = k9
          · subst e
            rw [updR_same, hr]; rfl
          · rw [updR_other _ e]
            exact h6 k (by
              simp only [List.map_append, List.mem_append] at hk
              rcases hk with hk | hk
              · exact hk
              · simp at hk; exact absurd hk e)
        · show updR s'.R k9 (some (clr r)) k = _
          simp only [List.map_append, List.mem_append, not_or] at hk
          have e : k ≠ k9 := fun e => hk.2 (by simp [e])
          rw [updR_other _ e]
          exact h7 k hk.1
      have hle := hrg2.le
      have HL9 : Hid (dn.length + 1 ≤ s.L.length) := by simp only [Hid]; simpa using hle
      simp only [ptrF] at hen
      clear hrg2 hg2 hs2 he hnd hr hkn h1 h2 h3 h3m h3c h4 h5 h5b h5o h6 h7 hr' hd2 hf2 hlow2 hd3 hf3 hlv hFM hFR hle hRlt
      go_wp2
      exact ⟨⟨_, HIT.out, HSY.out⟩, by rw [HIT.out.left, HS.out.1.left]; have := HL9.out; simp; omega⟩
end Go.Proofs.YthokoimoiamddaaGreatDoor
set_option linter.unusedSimpArgs false
set_option linter.unusedVariables false
namespace Go.Proofs.YthokoimoiamddaaGreatDoor
open Go Go.RowKit
open Go.ChangeMaps (setBlock)

/-- Pieces from the end, so many bytes fewer. -/
def shortR : List (Int × Int) → Int → List (Int × Int)
  | [], _ => []
  | p :: l, g => if g ≤ 0 then p :: l else if p.2 ≤ g then shortR l (g - p.2) else (p.1, p.2 - g) :: l
def shortL (l : List (Int × Int)) (g : Int) : List (Int × Int) := (shortR l.reverse g).reverse
theorem shortL_zero (l : List (Int × Int)) (g : Int) (hg : g ≤ 0) : shortL l g = l := by
  unfold shortL
  cases h : l.reverse with
  | nil => have := congrArg List.reverse h; simp at this; simp [this, shortR]
  | cons p r =>
    have := congrArg List.reverse h
    rw [List.reverse_reverse] at this
    simp only [shortR, if_pos hg]
    exact this.symm
theorem shortL_nil (g : Int) : shortL [] g = [] := rfl
theorem shortL_drop (l : List (Int × Int)) (p : Int × Int) (g : Int) (hg : 0 < g) (h : p.2 ≤ g) : shortL (l ++ [p]) g = shortL l (g - p.2) := by
  unfold shortL
  simp [shortR, Int.not_le.2 hg, h]
theorem shortL_part (l : List (Int × Int)) (p : Int × Int) (g : Int) (hg : 0 < g) (h : ¬ p.2 ≤ g) : shortL (l ++ [p]) g = l ++ [(p.1, p.2 - g)] := by
  unfold shortL
  simp [shortR, Int.not_le.2 hg, h]

theorem DRow.cut {w : World} {A : Option Addr} {c : Nat} {bs : List UInt8} (h : DRow w (.slice A bs.length c) bs) (m : Nat) (hm : m ≤ bs.length) : DRow w (.slice A m m) (bs.take m) ∧ m ≤ c := by
  rcases h with ⟨hv, hb⟩ | ⟨g, cap, cur, hv, hh, h1, h2, h3, h4⟩
  · injection hv with hA hl hc
    subst hb hA
    have : m = 0 := by simpa using hm
    subst this
    exact ⟨.inl ⟨rfl, rfl⟩, Nat.zero_le _⟩
  · injection hv with hA hl hc
    subst hA hc
    refine ⟨.inr ⟨g, m, cur, by rw [List.length_take, Nat.min_eq_left hm], hh, by rw [List.length_take]; omega, by omega, by omega, ?_⟩, by omega⟩
    rw [List.length_take, Nat.min_eq_left hm]
    have e : cur.toList.take m = (cur.toList.take bs.length).take m := by rw [List.take_take, Nat.min_eq_left hm]
    rw [e, h4]
    simp [byteVs, List.map_take]

/-- The length of the slice in a file's second cell. -/
def lenAt (w : World) (F : Nat) : Nat := match w.cell? ⟨F, 1, none⟩ with
  | some (.slice _ n _) => n
  | _ => 0

/-- A row of pieces, its last one turned or gone. -/
theorem pieces_last {w : World} {A : Option Addr} {c : Nat} {l : List (Int × Int)} {p : Int × Int} (h : w.ownsRow 0 86 2 (.slice A (l.length + 1) c) (l.length + 1) (pieceCells (l ++ [p]))) :
    ∃ g, A = some ⟨g, 0, none⟩ ∧ g < w.heap.size ∧ w.cell? ⟨g, l.length * 2, none⟩ = some (.int .i64 p.1) ∧ w.cell? ⟨g, l.length * 2 + 1, none⟩ = some (.int .i64 p.2) ∧ (∀ i, w.frozen? ⟨g, i, none⟩ = false) ∧ l.length + 1 ≤ c ∧
      ∀ m : Int, (w.setCell ⟨g, l.length * 2 + 1, none⟩ (.int .i64 m)).ownsRow 0 86 2 (.slice A (l.length + 1) c) (l.length + 1) (pieceCells (l ++ [(p.1, m)])) ∧
        (w.setCell ⟨g, l.length * 2 + 1, none⟩ (.int .i64 m)).ownsRow 0 86 2 (.slice A l.length c) l.length (pieceCells l) := by
  obtain ⟨g, hA, hg, d0, d1⟩ := piece_row h l.length p (by simp)
  subst hA
  rcases h.2 with ⟨hv, hn⟩ | ⟨g', cap, cur, hv, hb, hh, h3, h4, h5, h6⟩
  · cases hv
  · injection hv with hA _ hc
    injection hA with hA
    injection hA with hA _ _
    subst hA hc
    have hlen : (pieceCells l).length = l.length * 2 := pieceCells_len l
    have hsz : l.length * 2 + 1 < cur.size := by omega
    have hset : ∀ m : Int, (w.setCell ⟨g, l.length * 2 + 1, none⟩ (.int .i64 m)).heap[g]? = some (.cells (cur.setIfInBounds (l.length * 2 + 1) (.int .i64 m)) 86 (0, 0)) := fun m => setCell_cells hh
    have htk : cur.toList.take (l.length * 2) = pieceCells l := by
      have e : cur.toList.take (l.length * 2) = (cur.toList.take ((l.length + 1) * 2)).take (l.length * 2) := by rw [List.take_take]; congr 1; omega
      rw [e, h6, pieceCells_append, ← hlen, List.take_left]
    refine ⟨g, rfl, hg, d0, d1, fun i => by simp [World.frozen?, hh], h3, fun m => ⟨⟨by rw [pieceCells_len]; simp, .inr ⟨g, c, _, rfl, Nat.zero_le _, hset m, h3, h4, by simpa using h5, ?_⟩⟩, ⟨by rw [pieceCells_len], .inr ⟨g, c, _, rfl, Nat.zero_le _, hset m, by omega, h4, by simpa using h5, ?_⟩⟩⟩⟩
    · rw [Array.toList_setIfInBounds, List.take_set, h6, pieceCells_append, pieceCells_append, List.set_append_right _ _ (by omega), hlen]
      congr 1
      have e : l.length * 2 + 1 - l.length * 2 = 1 := by omega
      rw [e]; rfl
    · rw [Array.toList_setIfInBounds, List.take_set_of_le (by omega), htk]
end Go.Proofs.YthokoimoiamddaaGreatDoor
