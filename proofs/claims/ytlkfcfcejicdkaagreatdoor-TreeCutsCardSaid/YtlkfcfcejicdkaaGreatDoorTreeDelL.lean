/-
  tree: slices.DeleteFunc at links (without's closure), walked. Own work.
-/
import Derived.Test.YtlkfcfcejicdkaaGreatDoorTreeErr
import Derived.Lib.SliceRun
set_option linter.unusedSimpArgs false
set_option linter.unusedVariables false
namespace Go.Proofs.YtlkfcfcejicdkaaGreatDoor
open Go Go.RowKit

/-- The closure's value: it holds a link's box. -/
abbrev wfn (bk : Nat) : Value := .func (.func 70) #[] #[.pointer (some ⟨bk, 0, none⟩)]
theorem lk_dec (a1 a2 : Int) (k : Lk) : decide ((a1, a2) = k) = (a1 == k.1 && a2 == k.2) := by
  obtain ⟨y1, y2⟩ := k
  by_cases h1 : a1 = y1 <;> by_cases h2 : a2 = y2 <;> simp [h1, h2]
theorem wclos_any (a1 a2 : Int) (k : Lk) (bk : Nat) (w : World) (hk : w.heap[bk]? = some (.cells #[.int .i64 k.1, .int .i64 k.2] 35 (0, 0))) :
    Calls Tryz.prog 70 #[.agg #[.int .i64 a1, .int .i64 a2], .pointer (some ⟨bk, 0, none⟩)] w fun e w' => e = .returned (.bool (decide ((a1, a2) = k))) ∧ Below w.heap.size w w' := by
  obtain ⟨k0, k1, kf, kl⟩ := cell2 hk
  have heq := lk_equal
  rw [lk_dec]
  obtain ⟨x1, hx1⟩ : ∃ x, Hid (k.1 = x) := ⟨_, rfl⟩
  obtain ⟨x2, hx2⟩ : ∃ x, Hid (k.2 = x) := ⟨_, rfl⟩
  rw [hx1.out] at k0 ⊢
  rw [hx2.out] at k1 ⊢
  clear hk
  obtain ⟨r, hr⟩ : ∃ r, Hid ((a1 == x1 && a2 == x2) = r) := ⟨_, rfl⟩
  rw [hr.out]
  have heq2 : ∀ w, (Op.equalIn 10000 35 (.agg #[.int .i64 a1, .int .i64 a2]) (.agg #[.int .i64 x1, .int .i64 x2])).run Tryz.prog w = .ok r w := fun w => by rw [heq, hr.out]
  clear heq
  go_enter Tryz.func70, Tryz.ntmps70
  go_wp2
  first
  | (go_ret; exact ⟨rfl, (Below.refl _ _).alloc (Nat.le_refl _) _⟩)
  | (go_quiet (fail); go_wp2; go_ret; exact ⟨rfl, bdrewN ((Below.refl _ _).alloc (Nat.le_refl _) _) _⟩)

section
variable (A : Option Addr) (n c : Nat) (ls : List Lk) (k : Lk) (bk : Nat) (w : World)
set_option maxHeartbeats 1000000 in
theorem indexL_any (hl : ls.length = n) (hA : RowAt w A (lkCells ls)) (hn : n ≤ 4611686018427387904) (hk : w.heap[bk]? = some (.cells #[.int .i64 k.1, .int .i64 k.2] 35 (0, 0))) :
    Calls Tryz.prog 80 #[.slice A n c, wfn bk] w fun e w' => ∃ r : Int, e = .returned (.int .i64 r) ∧ Hid (Below w.heap.size w w' ∧ ((r = -1 ∧ k ∉ ls) ∨ ∃ i : Nat, r = i ∧ ls[i]? = some k ∧ k ∉ ls.take i)) := by
  have HA := Lib.hid hA
  have HN : Hid (n ≤ 4611686018427387904 ∧ ls.length = n) := ⟨hn, hl⟩
  have HC : Hid (∀ a1 a2 W, Below w.heap.size w W → Calls Tryz.prog 70 #[.agg #[.int .i64 a1, .int .i64 a2], .pointer (some ⟨bk, 0, none⟩)] W fun e w' => e = .returned (.bool (decide ((a1, a2) = k))) ∧ Below W.heap.size W w') := fun a1 a2 W hW => wclos_any a1 a2 k bk W ((hW.block bk (Array.getElem?_eq_some_iff.1 hk).1).trans hk)
  clear hA hn hl hk
  go_enter Tryz.func80, Tryz.ntmps80
  go_wp2
  go_loopw [8] (fun i wr => ∃ (j : Nat), j ≤ n ∧ i = .int .i64 j ∧ Hid (k ∉ ls.take j ∧ Below w.heap.size w wr)) (fun i _ => n - (intOf i).toNat)
  case atStart => exact ⟨0, Nat.zero_le _, rfl, by simp, Below.refl _ _⟩
  case round =>
    obtain ⟨j, hj, rfl, HS⟩ := hrel
    by_cases hlt : j < n
    · obtain ⟨y, hy⟩ : ∃ y, Hid (ls[j]? = some y) := ⟨_, List.getElem?_eq_getElem (by have := HN.out; omega)⟩
      obtain ⟨g, off, rfl, d0, d1, hg⟩ := (HA.out.below HS.out.2).lk hy.out
      have HCy : Hid (Calls Tryz.prog 70 #[.agg #[.int .i64 y.1, .int .i64 y.2], .pointer (some ⟨bk, 0, none⟩)] wr fun e w' => e = .returned (.bool (decide (y = k))) ∧ Below wr.heap.size wr w') := HC.out y.1 y.2 wr HS.out.2
      obtain ⟨y1, hy1⟩ : ∃ x, Hid (y.1 = x) := ⟨_, rfl⟩
      obtain ⟨y2, hy2⟩ : ∃ x, Hid (y.2 = x) := ⟨_, rfl⟩
      rw [hy1.out] at d0 HCy
      rw [hy2.out] at d1 HCy
      have hw1 : IntKind.i64.wrap ((j : Int) + 1) = ((j + 1 : Nat) : Int) := by have := HN.out; rw [IntKind.wrap_i64]; omega
      have hj0 : ((0 : Int) ≤ j) := by omega
      have hj1 : ((j : Nat) : Int) < n := by omega
      by_cases hxy : y = k
      · rw [decide_eq_true hxy] at HCy
        have HX : Hid (ls[j]? = some k) := by rw [Hid, hy.out, hxy]
        clear hxy
        go_wp2_with (go_at_call 70; refine HCy.out.mono ?_; rintro e w5 ⟨rfl, hb5⟩)
        go_ret
        exact ⟨_, rfl, HS.out.2.trans (hb5.mono HS.out.2.size), .inr ⟨j, rfl, HX.out, HS.out.1⟩⟩
      · rw [decide_eq_false hxy] at HCy
        have HX : Hid (k ≠ y) := fun e => hxy e.symm
        clear hxy
        go_wp2_with (go_at_call 70; refine HCy.out.mono ?_; rintro e w5 ⟨rfl, hb5⟩)
        exact ⟨⟨j + 1, hlt, by go_num, mem_take_succ hy.out HS.out.1 HX.out, HS.out.2.trans (hb5.mono HS.out.2.size)⟩, by simp [intOf]; omega⟩
    · have hjn : j = n := by omega
      subst hjn
      go_wp2
      go_ret
      exact ⟨_, rfl, HS.out.2, .inl ⟨rfl, fun h => HS.out.1 (by rw [List.take_of_length_le (by have := HN.out; omega)]; exact h)⟩⟩
end

/-- A link stored into a row. -/
theorem lkCells_set : ∀ (R : List Lk) (i : Nat) (v : Lk), ((lkCells R).set (i * 2) (.int .i64 v.1)).set (i * 2 + 1) (.int .i64 v.2) = lkCells (R.set i v)
  | [], i, v => by simp [lkCells]
  | x :: R, 0, v => by simp [lkCells_cons]
  | x :: R, i + 1, v => by
    have := lkCells_set R i v
    rw [List.set_cons_succ, lkCells_cons, lkCells_cons, ← this, show (i + 1) * 2 = i * 2 + 1 + 1 by omega]
    simp
theorem set_row {w : World} {g : Nat} {cur : Array Value} {t : TypeId} {fr : Nat × Nat} (h : w.heap[g]? = some (.cells cur t fr)) (i : Nat) (v : Value) : (w.setCell ⟨g, i, none⟩ v).heap[g]? = some (.cells (cur.setIfInBounds i v) t fr) := by
  show (w.heap.modify g _)[g]? = _
  rw [Array.getElem?_modify, if_pos rfl, h]; rfl
theorem ownL_set {w : World} {base g n c : Nat} {R : List Lk} (h : w.ownsRow base 35 2 (.slice (some ⟨g, 0, none⟩) n c) n (lkCells R)) (i : Nat) (v : Lk) : ((w.setCell ⟨g, i * 2, none⟩ (.int .i64 v.1)).setCell ⟨g, i * 2 + 1, none⟩ (.int .i64 v.2)).ownsRow base 35 2 (.slice (some ⟨g, 0, none⟩) n c) n (lkCells (R.set i v)) := by
  rcases h.2 with ⟨hv, _⟩ | ⟨g', cap, cur, hv, hb, hh, h1, h2, h3, h4⟩
  · cases hv
  · injection hv with hv _ hc
    injection hv with hv
    injection hv with hv _ _
    subst hv hc
    refine ⟨by rw [← lkCells_set, List.length_set, List.length_set]; exact h.1, .inr ⟨g, c, (cur.setIfInBounds (i * 2) (.int .i64 v.1)).setIfInBounds (i * 2 + 1) (.int .i64 v.2), rfl, hb, ?_, h1, h2, by simp [h3], ?_⟩⟩
    · exact set_row (set_row hh _ _) _ _
    · rw [← lkCells_set, ← h4]
      simp only [Array.toList_setIfInBounds]
      rw [List.take_set, List.take_set]
theorem link_zero (w : World) : (zeroValue 35).run Tryz.prog w = .ok (.agg #[.int .i64 0, .int .i64 0]) w := by kernel_rfl
theorem row_cap2 {w : World} {base n c size : Nat} {A : Option Addr} {e : TypeId} {vs : List Value} (h : w.ownsRow base e size (.slice A n c) n vs) : n ≤ c := by
  rcases h.2 with ⟨hv, hn⟩ | ⟨g, cap, cur, hv, hb, hh, h1, h2, h3, h4⟩
  · omega
  · injection hv with hA _ hc
    omega
theorem run_clearL (w : World) (g o m c : Nat) (hm : 0 < m) (hc : ∀ j, j < m * 2 → (w.cell? ⟨g, o + j, none⟩).isSome = true) (hf : ∀ j, j < m * 2 → w.frozen? ⟨g, o + j, none⟩ = false) :
    ∃ zs : List Value, ∀ ty, (Builtin.clear_ #[23] ty #[.slice (some ⟨g, o, none⟩) m c]).run Tryz.prog w = .ok (.tuple #[]) (w.setCells g o zs) := by
  obtain ⟨zs, hzs⟩ : ∃ zs, zs = (Builtin.zeroCells #[Value.int .i64 0, Value.int .i64 0] m).toList := ⟨_, rfl⟩
  have hl : zs.length = m * 2 := by rw [hzs, Array.length_toList, size_zeroCells]; rfl
  have h1 : ∀ v ∈ zs, v.oneCell' = true := fun v hv => by
    rw [hzs] at hv
    simp [Builtin.zeroCells] at hv
    obtain ⟨j, _, rfl⟩ := hv
    rcases Nat.mod_two_eq_zero_or_one j with h | h <;> (simp [h]; rfl)
  have hst := run_storeCells_cells (P := Tryz.prog) g o zs 0 w (by rw [hl]; simpa using hc) (by rw [hl]; simpa using hf) h1
  simp only [Nat.add_zero] at hst
  obtain ⟨q, rfl⟩ : ∃ q, m = q + 1 := ⟨m - 1, by omega⟩
  refine ⟨zs, fun ty => ?_⟩
  rw [hzs] at hst ⊢
  have hzc : (Value.agg #[Value.int .i64 0, Value.int .i64 0]).cells = #[Value.int .i64 0, Value.int .i64 0] := by kernel_rfl
  simp [Builtin.clear_, run_underlying Tryz.underlying23, link_zero, hzc, hst]
theorem setCells_row {g : Nat} {t : TypeId} {fr : Nat × Nat} : ∀ (zs : List Value) (o : Nat) (w : World) (cur : Array Value), w.heap[g]? = some (.cells cur t fr) → ∃ cur', (w.setCells g o zs).heap[g]? = some (.cells cur' t fr) ∧ cur'.size = cur.size ∧ ∀ j, j < o → cur'[j]? = cur[j]?
  | [], o, w, cur, h => ⟨cur, h, rfl, fun _ _ => rfl⟩
  | v :: zs, o, w, cur, h => by
    obtain ⟨cur', h1, h2, h3⟩ := setCells_row zs (o + 1) (w.setCell ⟨g, o, none⟩ v) _ (set_row h o v)
    refine ⟨cur', h1, by rw [h2]; simp, fun j hj => ?_⟩
    rw [h3 j (by omega), Array.getElem?_setIfInBounds_ne (by omega)]
theorem setCells_below {base g : Nat} {w0 : World} (hb : base ≤ g) : ∀ (zs : List Value) (o : Nat) (w : World), Below base w0 w → Below base w0 (w.setCells g o zs)
  | [], _, _, h => h
  | v :: zs, o, w, h => setCells_below hb zs (o + 1) _ (belowS h hb v)
theorem own_clear {w : World} {base g n c i size : Nat} {e : TypeId} {xs zs : List Value} (h : w.ownsRow base e size (.slice (some ⟨g, 0, none⟩) n c) n xs) (hi : i ≤ n) : (w.setCells g (i * size) zs).ownsRow base e size (.slice (some ⟨g, 0, none⟩) i c) i (xs.take (i * size)) := by
  rcases h.2 with ⟨hv, _⟩ | ⟨g', cap, cur, hv, hb, hh, h1, h2, h3, h4⟩
  · cases hv
  · injection hv with hv _ hc
    injection hv with hv
    injection hv with hv _ _
    subst hv hc
    obtain ⟨cur', k1, k2, k3⟩ := setCells_row zs (i * size) w cur hh
    have hle : i * size ≤ n * size := Nat.mul_le_mul_right _ hi
    refine ⟨by rw [List.length_take, h.1]; omega, .inr ⟨g, c, cur', rfl, hb, k1, by omega, h2, by rw [k2, h3], ?_⟩⟩
    rw [← h4, List.take_take, Nat.min_eq_left hle]
    refine List.ext_getElem? fun j => ?_
    rw [List.getElem?_take, List.getElem?_take]
    split
    · have := k3 j (by assumption)
      simpa using this
    · rfl
section
variable (A : Option Addr) (n c : Nat) (ls : List Lk) (k : Lk) (bk base : Nat) (w : World)
theorem but_none {ls : List Lk} {k : Lk} (h : k ∉ ls) : but ls k = ls := List.filter_eq_self.2 fun x hx => by
  have : x ≠ k := fun e => h (by rw [← e]; exact hx)
  simpa using this
theorem but_snoc {ls : List Lk} {k y : Lk} {j : Nat} (hy : ls[j]? = some y) : but (ls.take (j + 1)) k = but (ls.take j) k ++ (if y = k then [] else [y]) := by
  rw [take_snoc hy]
  unfold but
  rw [List.filter_append]
  congr 1
  by_cases e : y = k <;> simp [e]
set_option maxRecDepth 100000 in
set_option maxHeartbeats 4000000 in
theorem deleteL_any (hl : ls.length = n) (hrow : w.ownsRow base 35 2 (.slice A n c) n (lkCells ls)) (hbase : base ≤ w.heap.size) (hn : n ≤ 1000) (hbk : bk < base) (hk : w.heap[bk]? = some (.cells #[.int .i64 k.1, .int .i64 k.2] 35 (0, 0))) :
    Calls Tryz.prog 69 #[.slice A n c, wfn bk] w fun e w' => ∃ m : Nat, e = .returned (.slice A m c) ∧ Hid ((but ls k).length = m ∧ w'.ownsRow base 35 2 (.slice A m c) m (lkCells (but ls k)) ∧ Below base w w') := by
  have HI := Lib.hid (indexL_any A n c ls k bk w hl (RowAt.of_own hrow) (by omega) hk)
  have HN : Hid (n ≤ 1000 ∧ ls.length = n ∧ base ≤ w.heap.size ∧ bk < base) := ⟨hn, hl, hbase, hbk⟩
  have HRW := Lib.hid hrow
  have HC : Hid (∀ a1 a2 W, Below base w W → Calls Tryz.prog 70 #[.agg #[.int .i64 a1, .int .i64 a2], .pointer (some ⟨bk, 0, none⟩)] W fun e w' => e = .returned (.bool (decide ((a1, a2) = k))) ∧ Below W.heap.size W w') := fun a1 a2 W hW => wclos_any a1 a2 k bk W ((hW.block bk hbk).trans hk)
  clear hl hrow hbase hn hbk hk
  go_enter Tryz.func69, Tryz.ntmps69
  go_wp2_with fail
  refine HI.out.mono ?_
  rintro e w1 ⟨r, rfl, HR⟩
  rcases HR.out.2 with ⟨hr, hkn⟩ | ⟨i0, hr, hki, hkt⟩
  · have HF : Hid ((but ls k).length = n ∧ w1.ownsRow base 35 2 (.slice A n c) n (lkCells (but ls k)) ∧ Below base w w1) := by
      rw [but_none hkn]
      exact ⟨HN.out.2.1, ownsRow_below HRW.out HR.out.1, HR.out.1.mono HN.out.2.2.1⟩
    subst hr
    clear hkn
    go_wp2
    go_ret
    exact ⟨n, rfl, HF.out⟩
  · have hi0 : i0 < n := by have := (List.getElem?_eq_some_iff.1 hki).1; have := HN.out; omega
    obtain ⟨g, rfl, hg⟩ : ∃ g, A = some ⟨g, 0, none⟩ ∧ base ≤ g := by
      rcases HRW.out.2 with ⟨hv, h0⟩ | ⟨g, cap, cur, hv, hb, _⟩
      · omega
      · injection hv with hA _ _
        exact ⟨g, hA, hb⟩
    have hb1 : ((i0 : Int) == -1) = false := by simp
    have hw0 : IntKind.i64.wrap ((i0 : Int) + 1) = ((i0 + 1 : Nat) : Int) := by have := HN.out; rw [IntKind.wrap_i64]; omega
    have HST : Hid (ls.length = n ∧ ls.take i0 = but (ls.take (i0 + 1)) k ∧ ls.drop (i0 + 1) = ls.drop (i0 + 1) ∧ w1.ownsRow base 35 2 (.slice (some ⟨g, 0, none⟩) n c) n (lkCells ls) ∧ Below base w w1) := by
      refine ⟨HN.out.2.1, ?_, rfl, ownsRow_below HRW.out HR.out.1, HR.out.1.mono HN.out.2.2.1⟩
      rw [but_snoc hki, if_pos rfl, List.append_nil, but_none hkt]
    have HI0 : Hid (i0 < n) := hi0
    subst hr
    clear hki hkt hi0 HR
    go_wp2
    go_loopw [5, 6] (fun iv jv wr => ∃ (i j : Nat) (R : List Lk), i < j ∧ j ≤ n ∧ iv = .int .i64 i ∧ jv = .int .i64 j ∧ Hid (R.length = n ∧ R.take i = but (ls.take j) k ∧ R.drop j = ls.drop j ∧ wr.ownsRow base 35 2 (.slice (some ⟨g, 0, none⟩) n c) n (lkCells R) ∧ Below base w wr)) (fun _ jv _ => n - (intOf jv).toNat)
    case atStart => exact ⟨i0, i0 + 1, ls, by omega, HI0.out, rfl, by go_num, by obtain ⟨a1, a2, _, a3, a4⟩ := HST.out; exact ⟨a1, a2, rfl, a3, a4⟩⟩
    case round =>
      obtain ⟨i, j, R, hij, hj, rfl, rfl, HL⟩ := hrel
      have hi0 : ((0 : Int) ≤ i) := by omega
      have hiN : ((i : Nat) : Int) < n := by omega
      have hcap := row_cap2 HL.out.2.2.2.1
      obtain ⟨z, hz⟩ : ∃ z, Hid (R[i]? = some z) := ⟨R[i]'(by have := HL.out.1; omega), List.getElem?_eq_getElem (by have := HL.out.1; omega)⟩
      by_cases hlt : j < n
      · obtain ⟨y, hy⟩ : ∃ y, Hid (ls[j]? = some y) := ⟨ls[j]'(by have := HN.out; omega), List.getElem?_eq_getElem (by have := HN.out; omega)⟩
        have hyR : R[j]? = some y := by
          have h1 : (R.drop j)[0]? = (ls.drop j)[0]? := by rw [HL.out.2.2.1]
          rw [List.getElem?_drop, List.getElem?_drop, Nat.add_zero] at h1
          rw [h1]; exact hy.out
        obtain ⟨g', off', he, d0, d1, _⟩ := (RowAt.of_own HL.out.2.2.2.1).lk hyR
        cases he
        rw [Nat.zero_add] at d0 d1
        have HCy : Hid (∀ W, Below wr.heap.size wr W → Calls Tryz.prog 70 #[.agg #[.int .i64 y.1, .int .i64 y.2], .pointer (some ⟨bk, 0, none⟩)] W fun e w' => e = .returned (.bool (decide (y = k))) ∧ Below W.heap.size W w') := fun W hW => HC.out y.1 y.2 W (HL.out.2.2.2.2.trans (hW.mono (Nat.le_trans HN.out.2.2.1 HL.out.2.2.2.2.size)))
        obtain ⟨y1, hy1⟩ : ∃ x, Hid (y.1 = x) := ⟨_, rfl⟩
        obtain ⟨y2, hy2⟩ : ∃ x, Hid (y.2 = x) := ⟨_, rfl⟩
        rw [hy1.out] at d0 HCy
        rw [hy2.out] at d1 HCy
        have hw1 : IntKind.i64.wrap ((j : Int) + 1) = ((j + 1 : Nat) : Int) := by have := HN.out; rw [IntKind.wrap_i64]; omega
        have hw2 : IntKind.i64.wrap ((i : Int) + 1) = ((i + 1 : Nat) : Int) := by have := HN.out; rw [IntKind.wrap_i64]; omega
        have hj0 : ((0 : Int) ≤ j) := by omega
        have hj1 : ((j : Nat) : Int) < n := by omega
        obtain ⟨K, hK⟩ : ∃ K, K = wr.heap.size := ⟨_, rfl⟩
        obtain ⟨W1, hW1⟩ : ∃ W1, W1 = wr.alloc (.cells #[.int .i64 y1, .int .i64 y2] 35) := ⟨_, rfl⟩
        have HB1 : Hid (Below wr.heap.size wr W1 ∧ W1.heap[K]? = some (.cells #[.int .i64 y1, .int .i64 y2] 35 (0, 0)) ∧ K = wr.heap.size ∧ W1.heap.size = K + 1) := by
          rw [hW1, hK]; exact ⟨(Below.refl _ _).alloc (Nat.le_refl _) _, heap_alloc_new _ _, rfl, by simp⟩
        by_cases hxy : y = k
        · rw [decide_eq_true hxy] at HCy
          have HS2 : Hid (but (ls.take (j + 1)) k = but (ls.take j) k) := by rw [Hid, but_snoc hy.out, if_pos hxy, List.append_nil]
          clear hxy hyR
          go_wp2_with fail
          rw [← hW1, ← hK]
          clear hW1 hK
          refine (HCy.out W1 HB1.out.1).mono ?_
          rintro e w5 ⟨rfl, hb5⟩
          have HF : Hid (R.length = n ∧ R.take i = but (ls.take (j + 1)) k ∧ R.drop (j + 1) = ls.drop (j + 1) ∧ w5.ownsRow base 35 2 (.slice (some ⟨g, 0, none⟩) n c) n (lkCells R) ∧ Below base w w5) := by
            have h1 := HL.out
            have hb : Below wr.heap.size wr w5 := HB1.out.1.trans (hb5.mono HB1.out.1.size)
            refine ⟨h1.1, by rw [HS2.out]; exact h1.2.1, ?_, ownsRow_below h1.2.2.2.1 hb, h1.2.2.2.2.trans (hb.mono (Nat.le_trans HN.out.2.2.1 h1.2.2.2.2.size))⟩
            rw [← List.drop_drop, ← List.drop_drop, h1.2.2.1]
          clear hb5
          go_wp2
          exact ⟨⟨i, j + 1, R, by omega, hlt, rfl, by go_num, HF.out⟩, by simp [intOf]; omega⟩
        · rw [decide_eq_false hxy] at HCy
          have HS2 : Hid (but (ls.take (j + 1)) k = but (ls.take j) k ++ [y]) := by rw [Hid, but_snoc hy.out, if_neg hxy]
          clear hxy hyR
          go_wp2_with fail
          rw [← hW1, ← hK]
          clear hW1 hK
          refine (HCy.out W1 HB1.out.1).mono ?_
          rintro e w5 ⟨rfl, hb5⟩
          have HF : Hid (w5.ownsRow base 35 2 (.slice (some ⟨g, 0, none⟩) n c) n (lkCells R) ∧ Below base w w5 ∧ w5.heap[K]? = some (.cells #[.int .i64 y1, .int .i64 y2] 35 (0, 0))) := by
            have h1 := HL.out
            have hb : Below wr.heap.size wr w5 := HB1.out.1.trans (hb5.mono HB1.out.1.size)
            exact ⟨ownsRow_below h1.2.2.2.1 hb, h1.2.2.2.2.trans (hb.mono (Nat.le_trans HN.out.2.2.1 h1.2.2.2.2.size)), (hb5.block K (by have := HB1.out.2.2.2; omega)).trans HB1.out.2.1⟩
          obtain ⟨c0, c1, cf, cl⟩ := cell2 HF.out.2.2
          obtain ⟨g', off', he, z0, z1, zl⟩ := (RowAt.of_own HF.out.1).lk hz.out
          cases he
          rw [Nat.zero_add] at z0 z1
          have zf : ∀ o, w5.frozen? ⟨g, o, none⟩ = false := fun o => by
            obtain ⟨cur, hh, _⟩ := own_block HF.out.1 (g := g) rfl
            simp [World.frozen?, hh]
          have hset := ownL_set HF.out.1 i y
          rw [hy1.out, hy2.out] at hset
          have HG2 : Hid (((w5.setCell ⟨g, i * 2, none⟩ (.int .i64 y1)).setCell ⟨g, i * 2 + 1, none⟩ (.int .i64 y2)).ownsRow base 35 2 (.slice (some ⟨g, 0, none⟩) n c) n (lkCells (R.set i y)) ∧ Below base w ((w5.setCell ⟨g, i * 2, none⟩ (.int .i64 y1)).setCell ⟨g, i * 2 + 1, none⟩ (.int .i64 y2))) := ⟨hset, belowS (belowS HF.out.2.1 hg _) hg _⟩
          have HPL : Hid ((R.set i y).length = n ∧ (R.set i y).take (i + 1) = but (ls.take (j + 1)) k ∧ (R.set i y).drop (j + 1) = ls.drop (j + 1)) := by
            have h1 := HL.out
            refine ⟨by rw [List.length_set]; exact h1.1, ?_, ?_⟩
            · rw [HS2.out, ← h1.2.1, take_snoc (x := y) (by rw [List.getElem?_set_self (by omega)]), List.take_set, List.set_eq_of_length_le (by rw [List.length_take]; omega)]
            · rw [List.drop_set, if_pos (by omega), ← List.drop_drop, ← List.drop_drop, h1.2.2.1]
          clear hset hb5
          go_wp2
          exact ⟨⟨i + 1, j + 1, R.set i y, by omega, hlt, by go_num, by go_num, HPL.out.1, HPL.out.2.1, HPL.out.2.2, HG2.out⟩, by simp [intOf]; omega⟩
      · have hjn : j = n := by omega
        subst hjn
        have HEND : Hid (R.take i = but ls k ∧ i ≤ R.length) := by
          have h1 := HL.out
          have h2 := h1.2.1
          rw [show ls.take j = ls from List.take_of_length_le (by have := HN.out; omega)] at h2
          exact ⟨h2, by omega⟩
        have hcells : ∀ q, q < (j - i) * 2 → (wr.cell? ⟨g, i * 2 + q, none⟩).isSome = true ∧ wr.frozen? ⟨g, i * 2 + q, none⟩ = false := fun q hq => by
          rcases HL.out.2.2.2.1.2 with ⟨hv, _⟩ | ⟨g', cap, cur, hv, hb, hh, h1, h2, h3, h4⟩
          · cases hv
          · injection hv with hv _ hc
            injection hv with hv
            injection hv with hv _ _
            subst hv hc
            have hlt : i * 2 + q < cur.size := by rw [h3]; omega
            exact ⟨by simp [World.cell?, hh, hlt], by simp [World.frozen?, hh]⟩
        obtain ⟨zs, hcl⟩ := run_clearL wr g (i * 2) (j - i) (c - i) (by omega) (fun q hq => (hcells q hq).1) (fun q hq => (hcells q hq).2)
        have HF : Hid ((but ls k).length = i ∧ (wr.setCells g (i * 2) zs).ownsRow base 35 2 (.slice (some ⟨g, 0, none⟩) i c) i (lkCells (but ls k)) ∧ Below base w (wr.setCells g (i * 2) zs)) := by
          have h1 := own_clear (zs := zs) HL.out.2.2.2.1 (show i ≤ j by omega)
          rw [← lkCells_take, HEND.out.1] at h1
          refine ⟨?_, h1, setCells_below hg zs _ _ HL.out.2.2.2.2⟩
          rw [← HEND.out.1, List.length_take]
          have := HEND.out.2
          omega
        have hic : ((i : Nat) : Int) ≤ c := by omega
        have hin : ((i : Nat) : Int) ≤ j := by omega
        clear hcells hlt
        go_wp2_with (simp only [hcl])
        go_ret
        exact ⟨i, rfl, HF.out⟩
end
end Go.Proofs.YtlkfcfcejicdkaaGreatDoor
