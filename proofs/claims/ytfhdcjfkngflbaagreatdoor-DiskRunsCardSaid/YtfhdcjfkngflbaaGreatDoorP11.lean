/-
  disk: fails at no error; the reference's Strings at two rows alike. Own work.
  disk: the document's Cut: what its last region holds on to. Own work.
-/
import Derived.Test.YtfhdcjfkngflbaaGreatDoorP9
import Derived.Test.YtfhdcjfkngflbaaGreatDoorDiskRefD
import Derived.Test.YtfhdcjfkngflbaaGreatDoorP10
import Derived.Laws.OwnMore
set_option linter.unusedSimpArgs false
set_option linter.unusedVariables false
namespace Go.Proofs.YtfhdcjfkngflbaaGreatDoor
open Go Go.RowKit

theorem of_nil (w : World) :
    Calls Tryz.prog 42 #[.nilIface] w fun e w' => e = .returned (.agg #[.bool false, .slice none 0 0, .int .i64 0]) ∧ Below w.heap.size w w' := by
  go_enter Tryz.func42, Tryz.ntmps42
  go_wp2
  refine bodyPost_ret (v := .agg #[.bool false, .slice none 0 0, .int .i64 0]) ?_ rfl ?_
  · simp [results, Tryz.results42, go_sem]
  · refine ⟨rfl, ?_⟩
    repeat (first | with_reducible exact Below.refl _ _ | with_reducible refine eSet ?_ (by first | (simp; done) | (simp; omega)) _ | refine Below.alloc ?_ (by first | (simp; done) | (simp; omega)) _)

set_option maxHeartbeats 1000000 in
theorem same_nil (w : World) : Calls Tryz.prog 41 #[.agg #[.bool false, .slice none 0 0, .int .i64 0], .agg #[.bool false, .slice none 0 0, .int .i64 0]] w
    fun e w' => e = .returned (.bool true) ∧ Below w.heap.size w w' := by
  have hb : Below w.heap.size w ((w.alloc (.cells #[.bool false, .slice none 0 0, .int .i64 0] 53)).alloc (.cells #[.bool false, .slice none 0 0, .int .i64 0] 53)) := ((Below.refl _ _).alloc (Nat.le_refl _) _).alloc (by simp) _
  go_enter Tryz.func41, Tryz.ntmps41
  go_wp2
  refine wp_loop_rounds 1 ?_
  rw [rounds_succ]
  go_wp2
  go_ret
  exact ⟨rfl, hb⟩

set_option maxHeartbeats 1000000 in
theorem fails_nil (w : World) : Calls Tryz.prog 24 #[.nilIface, .agg #[.bool false, .slice none 0 0, .int .i64 0]] w
    fun e w' => e = .returned (.bool true) ∧ Below w.heap.size w w' := by
  have hb : Below w.heap.size w (w.alloc (.cells #[.bool false, .slice none 0 0, .int .i64 0] 53)) := (Below.refl _ _).alloc (Nat.le_refl _) _
  have HB := Lib.hid hb
  clear hb
  go_enter Tryz.func24, Tryz.ntmps24
  go_wp2_with fail
  go_region_with (first
    | (go_at_call 42; refine (of_nil _).mono ?_; rintro e w1 ⟨rfl, hb1⟩; have hb1' := Lib.hid hb1; have q0 : w1.cell? ⟨w.heap.size, 0, none⟩ = some (.bool false) := (hb1.cell (p := ⟨w.heap.size, 0, none⟩) (by simp)).trans (by simp); have q1 : w1.cell? ⟨w.heap.size, 1, none⟩ = some (.slice none 0 0) := (hb1.cell (p := ⟨w.heap.size, 1, none⟩) (by simp)).trans (by simp); have q2 : w1.cell? ⟨w.heap.size, 2, none⟩ = some (.int .i64 0) := (hb1.cell (p := ⟨w.heap.size, 2, none⟩) (by simp)).trans (by simp); clear hb1)
    | (go_at_call 41; refine (same_nil _).mono ?_; rintro e w2 ⟨rfl, hb2⟩))
  all_goals
    go_wp2
    go_ret
    exact ⟨rfl, bchain (bchain HB.out.drew hb1'.out) hb2⟩

/-- The same error on both sides. -/
theorem fails_same (x : Option Int) (w : World) (hg : ErrT w) : Calls Tryz.prog 24 #[errV x, eV x] w fun e w' => e = .returned (.bool true) ∧ Below w.heap.size w w' := by
  cases x with
  | none => exact fails_nil w
  | some n =>
    refine (fails_plain n n w hg).mono ?_
    rintro e w' ⟨rfl, h⟩
    exact ⟨by simp, h⟩


set_option maxHeartbeats 1000000 in
theorem strings_same (A B : Option Addr) (n c1 c2 : Nat) (ks : List ByteArray) (w : World) (hl : ks.length = n) (hn : n ≤ 1000000) (hA : StrRow w A ks) (hB : StrRow w B ks) :
    Calls Tryz.prog 26 #[.slice A n c1, .slice B n c2] w fun e w' => e = .returned (.bool true) ∧ Below w.heap.size w w' := by
  have HA := Lib.hid hA
  have HB := Lib.hid hB
  have HN : Hid (ks.length = n ∧ n ≤ 1000000) := ⟨hl, hn⟩
  clear hl hn hA hB
  go_enter Tryz.func26, Tryz.ntmps26
  go_wp2
  go_loopw [13] (fun i wr => ∃ (j : Nat), j ≤ n ∧ i = .int .i64 j ∧ Hid (Below w.heap.size w wr)) (fun i _ => n - (intOf i).toNat)
  case atStart => exact ⟨0, Nat.zero_le _, rfl, Below.refl _ _⟩
  case round =>
    obtain ⟨j, hj, rfl, HS⟩ := hrel
    by_cases hlt : j < n
    · obtain ⟨k, hk⟩ : ∃ k, Hid (ks[j]? = some k) := ⟨_, List.getElem?_eq_getElem (by have := HN.out; omega)⟩
      obtain ⟨g, rfl, q0⟩ := HA.out j k hk.out
      obtain ⟨g2, rfl, q1⟩ := HB.out j k hk.out
      have q0' := (HS.out.cell (p := ⟨g, j, none⟩) (World.block_lt_of_cell? w _ q0)).trans q0
      have q1' := (HS.out.cell (p := ⟨g2, j, none⟩) (World.block_lt_of_cell? w _ q1)).trans q1
      clear q0 q1
      have hw1' : IntKind.i64.wrap ((j : Int) + 1) = ((j + 1 : Nat) : Int) := by have := HN.out; rw [IntKind.wrap_i64]; omega
      have hj0 : ((0 : Int) ≤ j) := by omega
      have hj1 : ((j : Nat) : Int) < n := by omega
      have hd : Hid (Below w.heap.size w wr.drew) := HS.out.drew
      go_wp2
      go_region
      all_goals
        go_wp2
        first | exact ⟨⟨j + 1, hlt, by go_num, hd.out⟩, by simp [intOf]; omega⟩ | exact ⟨⟨j + 1, hlt, by go_num, HS.out⟩, by simp [intOf]; omega⟩
    · have hjn : j = n := by omega
      subst hjn
      go_wp2
      go_ret
      exact ⟨rfl, HS.out⟩
end Go.Proofs.YtfhdcjfkngflbaaGreatDoor
set_option linter.unusedSimpArgs false
set_option linter.unusedVariables false
namespace Go.Proofs.YtfhdcjfkngflbaaGreatDoor
open Go Go.RowKit

theorem addr_add0 (ad : Addr) : ad.add 0 = ad := by
  obtain ⟨b, o, p⟩ := ad
  simp only [Addr.add]
  split <;> simp_all
theorem bcut_run (A : Option Addr) (D c k : Nat) (hk : k ≤ D) (hc : D ≤ c) (W : World) : (Instr.slice 30 (.slice A D c) none (some (.int .i64 k)) none).run Tryz.prog W = .ok (.slice A k c) W := by
  have hs : (sizeOf (Tryz.prog.elem 30)).run Tryz.prog W = .ok 1 W := by kernel_rfl
  rw [run_slice_h (t := 30) (ht := by kernel_rfl) (h0 := by omega) (h2 := by omega), hs]
  cases A <;> simp [sliced, addr_add0]
theorem icut_run (A : Option Addr) (D c k : Nat) (hk : k ≤ D) (hc : D ≤ c) (W : World) : (Instr.slice 64 (.slice A D c) none (some (.int .i64 k)) none).run Tryz.prog W = .ok (.slice A k c) W := by
  have hs : (sizeOf (Tryz.prog.elem 64)).run Tryz.prog W = .ok 1 W := by kernel_rfl
  rw [run_slice_h (t := 64) (ht := by kernel_rfl) (h0 := by omega) (h2 := by omega), hs]
  cases A <;> simp [sliced, addr_add0]
theorem append_none_run {P : Program} {w : World} (base : Nat) (t ty e : TypeId) (i : TypeInfo) (size : Nat) (ht : P.underlying t = some (.slice e)) (hi : P.info? e = some i)
    (v : Value) (n c : Nat) (xs : List Value) (hown : w.ownsRow base e size v n xs) :
    (Builtin.append_ #[t, t] ty #[v, .slice none 0 c]).run P w = .ok v w := by
  rcases hown.2 with ⟨rfl, rfl⟩ | ⟨g, cap, cur, rfl, _, _, hnc, _⟩
  · simp [Builtin.append_, run_underlying ht, sizeOf, typeInfo, hi, Builtin.lenOf, Builtin.firstCells]
  · simp [Builtin.append_, run_underlying ht, sizeOf, typeInfo, hi, Builtin.lenOf, Builtin.firstCells, hnc, storeCells]
/-- An append at a step of a drawn region, of a row that may be nil. -/
theorem step_append_any {P : Program} (w : World) {ops : Array Oper} {o : Oper} {a : Act} {K : Act → World → Prop} {Q : Exit → Act → World → Prop} {E : Prop} (hgd : o.guard = none) (s x : Operand) (t : TypeId)
    (ho : o.op = .call { callee := .builtin .append, args := #[s, x], argTypes := #[t, t] })
    (base : Nat) (e : TypeId) (i : TypeInfo) (z : Value) (size bytes : Nat) (ht : P.underlying t = some (.slice e)) (hi : P.info? e = some i) (hz : i.zero = some z)
    (hsize : i.size = size) (hby : i.bytes = bytes) (hzs : z.cells.size = size) (hsz : 0 < size)
    (v : Value) (n : Nat) (xs : List Value) (hs : a.eval s = v) (hown : w.ownsRow base e size v n xs)
    (A : Option Addr) (m c : Nat) (news : List Value) (hx : a.eval x = .slice A m c) (hA : A = none → m = 0 ∧ news = []) (hl : news.length = m * size) (hnews : ∀ ad, A = some ad → ∀ j u, news[j]? = some u → w.cell? (ad.add j) = some u) (h1 : ∀ u ∈ news, u.oneCell' = true)
    (h63 : n + m ≤ maxLen) (hbytes : (n + m) * bytes ≤ 140737488355328) (hbase : base ≤ w.heap.size)
    (h : ∀ v' w', w'.ownsRow base e size v' (n + m) (xs ++ news) → w.grownBy w' v.ownBlock → K (a.put o.dst v') w') :
    if Region.wanted o (yielded ops a.tmps) = true then Oper.wp P o a w K Q else E := by
  cases A with
  | some ad => exact step_append_own w hgd s x t ho base e i z size bytes ht hi hz hsize hby hzs hsz v n xs hs hown ad m c news hx hl (hnews ad rfl) h1 h63 hbytes hbase h
  | none =>
    obtain ⟨rfl, rfl⟩ := hA rfl
    have hw : Region.wanted o (yielded ops a.tmps) = true := by simp [Region.wanted, hgd]
    rw [if_pos hw]
    have hr := append_none_run (P := P) base t o.type e i size ht hi v n c xs hown
    unfold Oper.wp execOp
    simp only [ho, resolve, invoke, builtin, Sem.run_bind, Sem.run_pure, Result.andThen_ok, List.map_toArray, List.map_cons, List.map_nil, hs, hx, hr]
    exact h v w (by simpa using hown) (World.grownBy.refl _ _)
theorem ownsRow_lower {w : World} {b b' : Nat} {e : TypeId} {size n : Nat} {v : Value} {xs : List Value} (h : w.ownsRow b e size v n xs) (hb : b' ≤ b) : w.ownsRow b' e size v n xs := by
  refine ⟨h.1, ?_⟩
  rcases h.2 with h2 | ⟨g, cap, cur, hv, hg, r⟩
  · exact .inl h2
  · exact .inr ⟨g, cap, cur, hv, Nat.le_trans hb hg, r⟩
theorem cells2_0 {W : World} {b : Nat} {x y : Value} {t : TypeId} (h : W.heap[b]? = some (.cells #[x, y] t (0, 0))) (a : Value) : (W.setCell ⟨b, 0, none⟩ a).heap[b]? = some (.cells #[a, y] t (0, 0)) := by
  show (W.heap.modify b _)[b]? = _
  rw [Array.getElem?_modify, if_pos rfl, h]; rfl
theorem cells2_1 {W : World} {b : Nat} {x y : Value} {t : TypeId} (h : W.heap[b]? = some (.cells #[x, y] t (0, 0))) (a : Value) : (W.setCell ⟨b, 1, none⟩ a).heap[b]? = some (.cells #[x, a] t (0, 0)) := by
  show (W.heap.modify b _)[b]? = _
  rw [Array.getElem?_modify, if_pos rfl, h]; rfl
/-- The boxes of Cut while its last region runs. -/
structure CFull (w0 W : World) (b0 b1 b2 F base : Nat) (v0 : Value) (l : Int) (nm : ByteArray) (dv tv : Value) : Prop where
  d : W.heap[b0]? = some (.cells #[v0, .int .i64 l] 29 (0, 0))
  r : ∃ x y, W.heap[b1]? = some (.cells #[x, y] 29 (0, 0))
  e : W.heap[b2]? = some (.cells #[.bool false, .slice none 0 0, .int .i64 0] 53 (0, 0))
  f : W.heap[F]? = some (.cells #[.string nm, dv, tv] 66 (0, 0))
  n : w0.heap.size ≤ b0 ∧ b0 < b1 ∧ b1 < b2 ∧ b2 < F
  old : Below w0.heap.size w0 W
  lo : F < base ∧ base ≤ W.heap.size
section
variable {w0 W W' : World} {b0 b1 b2 F base : Nat} {v0 : Value} {l : Int} {nm : ByteArray} {dv tv : Value}
theorem CFull.below (h : CFull w0 W b0 b1 b2 F base v0 l nm dv tv) (hb : Below base W W') : CFull w0 W' b0 b1 b2 F base v0 l nm dv tv := by
  have hn := h.n
  have hl := h.lo
  obtain ⟨x, y, hr⟩ := h.r
  exact ⟨(hb.block _ (by omega)).trans h.d, ⟨x, y, (hb.block _ (by omega)).trans hr⟩, (hb.block _ (by omega)).trans h.e, (hb.block _ (by omega)).trans h.f, h.n, h.old.trans (hb.mono (by omega)), hl.1, Nat.le_trans hl.2 hb.size⟩
theorem CFull.ste (h : CFull w0 W b0 b1 b2 F base v0 l nm dv tv) : CFull w0 (ste b2 W) b0 b1 b2 F base v0 l nm dv tv := by
  have hn := h.n
  obtain ⟨x, y, hr⟩ := h.r
  exact ⟨(ste_block _ _ _ (by omega)).trans h.d, ⟨x, y, (ste_block _ _ _ (by omega)).trans hr⟩, cells3_2 (cells3_1 (cells3_0 h.e)), (ste_block _ _ _ (by omega)).trans h.f, h.n, belowS (belowS (belowS h.old (by omega) _) (by omega) _) (by omega) _, h.lo.1, by have := h.lo.2; simpa [ste, World.setCell] using this⟩
theorem CFull.setr (h : CFull w0 W b0 b1 b2 F base v0 l nm dv tv) (a b : Value) : CFull w0 ((W.setCell ⟨b1, 0, none⟩ a).setCell ⟨b1, 1, none⟩ b) b0 b1 b2 F base v0 l nm dv tv := by
  have hn := h.n
  obtain ⟨x, y, hr⟩ := h.r
  have ho : ∀ k, k ≠ b1 → ((W.setCell ⟨b1, 0, none⟩ a).setCell ⟨b1, 1, none⟩ b).heap[k]? = W.heap[k]? := fun k hk => by
    rw [Below.heap_setCell _ _ _ _ (by exact hk), Below.heap_setCell _ _ _ _ (by exact hk)]
  refine ⟨(ho _ (by omega)).trans h.d, ⟨a, b, ?_⟩, (ho _ (by omega)).trans h.e, (ho _ (by omega)).trans h.f, h.n, belowS (belowS h.old (by omega) _) (by omega) _, h.lo.1, by have := h.lo.2; simpa [World.setCell] using this⟩
  exact cells2_1 (cells2_0 hr a) b
abbrev KC (w0 : World) (b0 b1 b2 F base : Nat) (v0 : Value) (l : Int) (nm : ByteArray) (dv tv : Value) (W : World) : Prop :=
  W.cell? ⟨b0, 0, none⟩ = some v0 ∧ W.cell? ⟨b0, 1, none⟩ = some (.int .i64 l) ∧ W.cell? ⟨F, 1, none⟩ = some dv ∧ W.cell? ⟨F, 2, none⟩ = some tv ∧
  CFull w0 W b0 b1 b2 F base v0 l nm dv tv
theorem CFull.kc (h : CFull w0 W b0 b1 b2 F base v0 l nm dv tv) : KC w0 b0 b1 b2 F base v0 l nm dv tv W := by
  refine ⟨?_, ?_, ?_, ?_, h⟩ <;> simp [World.cell?, h.d, h.f]
theorem KC.full (h : KC w0 b0 b1 b2 F base v0 l nm dv tv W) : CFull w0 W b0 b1 b2 F base v0 l nm dv tv := h.2.2.2.2
theorem KC.ste (h : KC w0 b0 b1 b2 F base v0 l nm dv tv W) : KC w0 b0 b1 b2 F base v0 l nm dv tv (ste b2 W) := h.full.ste.kc
theorem KC.setr (h : KC w0 b0 b1 b2 F base v0 l nm dv tv W) (a b : Value) : KC w0 b0 b1 b2 F base v0 l nm dv tv ((W.setCell ⟨b1, 0, none⟩ a).setCell ⟨b1, 1, none⟩ b) := (h.full.setr a b).kc
theorem KC.alloc (h : KC w0 b0 b1 b2 F base v0 l nm dv tv W) (o : Obj) : KC w0 b0 b1 b2 F base v0 l nm dv tv (W.alloc o) := (h.full.below ((Below.refl _ _).alloc h.full.lo.2 _)).kc
theorem KC.below (h : KC w0 b0 b1 b2 F base v0 l nm dv tv W) (hb : Below base W W') : KC w0 b0 b1 b2 F base v0 l nm dv tv W' := (h.full.below hb).kc
variable {n s : Nat} {e : TypeId} {v : Value} {xs : List Value}
theorem row_ste (hk : KC w0 b0 b1 b2 F base v0 l nm dv tv W) (h : W.ownsRow base e s v n xs) : (Go.Proofs.YtfhdcjfkngflbaaGreatDoor.ste b2 W).ownsRow base e s v n xs := ownsRow_keep h fun k hk2 => ste_block _ _ _ (by have := (own_block h hk2).choose_spec.2.1; have := hk.full.n; have := hk.full.lo; omega)
theorem made_row (hk : KC w0 b0 b1 b2 F base v0 l nm dv tv W) : (W.alloc (.cells #[] 3)).ownsRow base 3 1 (.slice (some ⟨W.heap.size, 0, none⟩) 0 0) 0 [] := ownsRow_lower (World.ownsRow_made W #[] 0 (Nat.le_refl _) (by simp) (by simp)) hk.full.lo.2
theorem KC.drew (h : KC w0 b0 b1 b2 F base v0 l nm dv tv W) : KC w0 b0 b1 b2 F base v0 l nm dv tv W.drew := h.below (Below.refl base W).drew
theorem made_row_drew (hk : KC w0 b0 b1 b2 F base v0 l nm dv tv W) : (W.alloc (.cells #[] 3)).drew.ownsRow base 3 1 (.slice (some ⟨W.heap.size, 0, none⟩) 0 0) 0 [] := ownsRow_below' (made_row hk) (Below.refl _ _).drew
theorem row_grown {b' n' s' : Nat} {vm : Value} {ys : List Value} (h : W.ownsRow base 5 s v n xs) (hm : W.ownsRow b' 3 s' vm n' ys) (hg : W.grownBy W' vm.ownBlock) : W'.ownsRow base 5 s v n xs :=
  ownsRow_keep h fun k hk => hg.block k (own_block h hk).choose_spec.2.2 fun e => rows_apart h hm ty_ne k hk e.symm
theorem kc_grown {n' s' : Nat} {vm : Value} {ys : List Value} (hk : KC w0 b0 b1 b2 F base v0 l nm dv tv W) (hm : W.ownsRow base 3 s' vm n' ys) (hg : W.grownBy W' vm.ownBlock) : KC w0 b0 b1 b2 F base v0 l nm dv tv W' :=
  hk.below ((Below.refl _ W).grown hg hk.full.lo.2 fun k hk2 => (own_block hm hk2).choose_spec.2.1)
end
/-- The append of Cut's last region. -/
theorem step_cut_append {P : Program} {w0 X : World} {b0 b1 b2 F base : Nat} {v0 : Value} {l : Int} {nm : ByteArray} {dv tv : Value} {ops : Array Oper} {o : Oper} {a : Act} {K : Act → World → Prop} {Q : Exit → Act → World → Prop} {E : Prop} (hgd : o.guard = none) (s x : Operand)
    (ho : o.op = .call { callee := .builtin .append, args := #[s, x], argTypes := #[64, 64] })
    (i : TypeInfo) (ht : P.underlying 64 = some (.slice 3)) (hi : P.info? 3 = some i) (hz : i.zero = some (.int .i64 0))
    (hsize : i.size = 1) (hby : i.bytes = 8)
    (v : Value) (hs : a.eval s = v) (hK : KC w0 b0 b1 b2 F base v0 l nm dv tv X) (hown : X.ownsRow base 3 1 v 0 [])
    (A : Option Addr) (m c : Nat) (news : List Value) (hx : a.eval x = .slice A m c) (hA : A = none → m = 0 ∧ news = []) (hl : news.length = m) (hnews : ∀ ad, A = some ad → ∀ j u, news[j]? = some u → X.cell? (ad.add j) = some u) (h1 : ∀ u ∈ news, u.oneCell' = true)
    (h63 : m ≤ 1000000)
    (h : ∀ A6 c6 w6, w6.ownsRow base 3 1 (.slice A6 m c6) m news → KC w0 b0 b1 b2 F base v0 l nm dv tv w6 → (∀ (vd : Value) (nd : Nat) (xs : List Value), X.ownsRow base 5 1 vd nd xs → w6.ownsRow base 5 1 vd nd xs) → K (a.put o.dst (.slice A6 m c6)) w6) :
    if Region.wanted o (yielded ops a.tmps) = true then Oper.wp P o a X K Q else E := by
  refine step_append_any X hgd s x 64 ho base 3 i (.int .i64 0) 1 8 ht hi hz hsize hby rfl (by decide) v 0 [] hs hown A m c news hx hA (by omega) hnews h1 (Nat.le_trans (show 0 + m ≤ 1000000 by omega) (by decide)) (by omega) hK.full.lo.2 ?_
  intro v6 w6 hown6 hg
  obtain ⟨A6, c6, rfl⟩ := own_slice hown6
  rw [Nat.zero_add, List.nil_append] at hown6
  rw [Nat.zero_add]
  exact h A6 c6 w6 hown6 (kc_grown hK hown hg) fun vd nd xs hr => row_grown hr hown hg
end Go.Proofs.YtfhdcjfkngflbaaGreatDoor
