/-
  tree: an append to an empty literal, at a step of a region that draws its order; what is kept along such regions. Own work.
-/
import Derived.Test.YtlkfcfcejicdkaaGreatDoorTreeRef1
import Derived.Deep.RegionLaw
import Derived.Deep.RegionHeldLaw
set_option linter.unusedSimpArgs false
set_option linter.unusedVariables false
namespace Go.Proofs.YtlkfcfcejicdkaaGreatDoor
open Go Go.RowKit

theorem step_append_own {P : Program} (w : World) {ops : Array Oper} {o : Oper} {a : Act} {K : Act → World → Prop} {Q : Exit → Act → World → Prop} {E : Prop} (hgd : o.guard = none) (s x : Operand) (t : TypeId)
    (ho : o.op = .call { callee := .builtin .append, args := #[s, x], argTypes := #[t, t] })
    (base : Nat) (e : TypeId) (i : TypeInfo) (z : Value) (size bytes : Nat) (ht : P.underlying t = some (.slice e)) (hi : P.info? e = some i) (hz : i.zero = some z)
    (hsize : i.size = size) (hby : i.bytes = bytes) (hzs : z.cells.size = size) (hsz : 0 < size)
    (v : Value) (n : Nat) (xs : List Value) (hs : a.eval s = v) (hown : w.ownsRow base e size v n xs)
    (ad : Addr) (m c : Nat) (news : List Value) (hx : a.eval x = .slice (some ad) m c) (hl : news.length = m * size) (hnews : ∀ j u, news[j]? = some u → w.cell? (ad.add j) = some u) (h1 : ∀ u ∈ news, u.oneCell' = true)
    (h63 : n + m ≤ maxLen) (hbytes : (n + m) * bytes ≤ 140737488355328) (hbase : base ≤ w.heap.size)
    (h : ∀ v' w', w'.ownsRow base e size v' (n + m) (xs ++ news) → w.grownBy w' v.ownBlock → K (a.put o.dst v') w') :
    if Region.wanted o (yielded ops a.tmps) = true then Oper.wp P o a w K Q else E := by
  have hw : Region.wanted o (yielded ops a.tmps) = true := by simp [Region.wanted, hgd]
  rw [if_pos hw]
  exact wp_append_own w s x t ho base e i z size bytes ht hi hz hsize hby hzs hsz v n xs hs hown ad m c news hx hl hnews h1 h63 hbytes hbase fun v' w' h2 h3 _ => h v' w' h2 h3
theorem append_none_run {P : Program} {w : World} (base : Nat) (t ty e : TypeId) (i : TypeInfo) (size : Nat) (ht : P.underlying t = some (.slice e)) (hi : P.info? e = some i)
    (v : Value) (n c : Nat) (xs : List Value) (hown : w.ownsRow base e size v n xs) :
    (Builtin.append_ #[t, t] ty #[v, .slice none 0 c]).run P w = .ok v w := by
  rcases hown.2 with ⟨rfl, rfl⟩ | ⟨g, cap, cur, rfl, _, _, hnc, _⟩
  · simp [Builtin.append_, run_underlying ht, sizeOf, typeInfo, hi, Builtin.lenOf, Builtin.firstCells]
  · simp [Builtin.append_, run_underlying ht, sizeOf, typeInfo, hi, Builtin.lenOf, Builtin.firstCells, hnc, storeCells]
theorem step_append_any {P : Program} (w : World) {ops : Array Oper} {o : Oper} {a : Act} {K : Act → World → Prop} {Q : Exit → Act → World → Prop} {E : Prop} (hgd : o.guard = none) (s x : Operand) (t : TypeId)
    (ho : o.op = .call { callee := .builtin .append, args := #[s, x], argTypes := #[t, t] })
    (base : Nat) (e : TypeId) (i : TypeInfo) (z : Value) (size bytes : Nat) (ht : P.underlying t = some (.slice e)) (hi : P.info? e = some i) (hz : i.zero = some z)
    (hsize : i.size = size) (hby : i.bytes = bytes) (hzs : z.cells.size = size) (hsz : 0 < size)
    (v : Value) (n : Nat) (xs : List Value) (hs : a.eval s = v) (hown : w.ownsRow base e size v n xs)
    (A : Option Addr) (m c : Nat) (news : List Value) (hx : a.eval x = .slice A m c) (hA : A = none → m = 0 ∧ news = []) (hl : news.length = m * size) (hnews : ∀ ad, A = some ad → ∀ j u, news[j]? = some u → w.cell? (ad.add j) = some u) (h1 : ∀ u ∈ news, u.oneCell' = true)
    (h63 : n + m ≤ maxLen) (hbytes : (n + m) * bytes ≤ 140737488355328) (hbase : base ≤ w.heap.size)
    (h : ∀ v' w', w'.ownsRow base e size v' (n + m) (xs ++ news) → w.grownBy w' v.ownBlock → K (a.put o.dst v') w') :
    if Region.wanted o (yielded ops a.tmps) = true then Oper.wp P o a w K Q else E := by
  cases A with
  | some ad => exact step_append_own w hgd s x t ho base e i z size bytes ht hi hz hsize hby hzs hsz v n xs hs hown ad m c news hx hl (hnews ad rfl) h1 h63 hbytes hbase h
  | none =>
    obtain ⟨rfl, rfl⟩ := hA rfl
    have hw : Region.wanted o (yielded ops a.tmps) = true := by simp [Region.wanted, hgd]
    rw [if_pos hw]
    have hr := append_none_run (P := P) base t o.type e i size ht hi v n c xs hown
    unfold Oper.wp execOp
    simp only [ho, resolve, invoke, builtin, Sem.run_bind, Sem.run_pure, Result.andThen_ok, List.map_toArray, List.map_cons, List.map_nil, hs, hx, hr]
    exact h v w (by simpa using hown) (World.grownBy.refl _ _)

/-- What lies ahead of W0 is kept. -/
abbrev Bl (W0 W : World) : Prop := Below W0.heap.size W0 W
/-- An empty literal in a block of its own. -/
def Lit (W0 W : World) (B : Nat) (e : TypeId) : Prop := W.heap[B]? = some (.cells #[] e (0, 0)) ∧ W0.heap.size ≤ B
section
variable {W0 W W' : World} {B : Nat} {e : TypeId}
theorem Bl.refl (W : World) : Bl W W := Below.refl _ _
theorem Bl.al (h : Bl W0 W) (o : Obj) : Bl W0 (W.alloc o) := Below.alloc h h.size o
theorem Bl.dr (h : Bl W0 W) : Bl W0 W.drew := Below.drew h
theorem Lit.new (h : Bl W0 W) (hB : B = W.heap.size) : Lit W0 (W.alloc (.cells #[] e)) B e := by
  subst hB
  exact ⟨heap_alloc_new _ _, h.size⟩
theorem Lit.al (h : Lit W0 W B e) (o : Obj) : Lit W0 (W.alloc o) B e := ⟨(Below.heap_alloc _ _ _ (Array.getElem?_eq_some_iff.1 h.1).1).trans h.1, h.2⟩
theorem Lit.dr (h : Lit W0 W B e) : Lit W0 W.drew B e := h
theorem Lit.below {W1 : World} (h : Lit W0 W B e) (hb : Below W.heap.size W W1) : Lit W0 W1 B e := ⟨(hb.block _ (Array.getElem?_eq_some_iff.1 h.1).1).trans h.1, h.2⟩
theorem Lit.own (h : Lit W0 W B e) (s : Nat) : W.ownsRow W0.heap.size e s (.slice (some ⟨B, 0, none⟩) 0 0) 0 [] :=
  ⟨by simp, .inr ⟨B, 0, #[], rfl, h.2, h.1, Nat.le_refl _, Nat.zero_le _, by simp, by simp⟩⟩
theorem own_dr {base s n : Nat} {v : Value} {xs : List Value} (h : W.ownsRow base e s v n xs) : W.drew.ownsRow base e s v n xs := h
theorem own_gr {B : Nat} {base s n : Nat} {v : Value} {xs : List Value} {e' : TypeId} (h : W.ownsRow base e s v n xs) (hB : Lit W0 W B e') (hne : e ≠ e') (hg : W.grownBy W' (some B)) : W'.ownsRow base e s v n xs :=
  ownsRow_keep h fun g hgg => by
    obtain ⟨c1, k1, _, k2⟩ := own_block h hgg
    refine hg.block g k2 fun e => ?_
    obtain rfl : g = B := Option.some.inj e
    rw [hB.1] at k1
    injection k1 with k1
    injection k1 with _ k1 _
    exact hne k1.symm
theorem RowAt.nil_len {A : Option Addr} {vs : List Value} (h : RowAt W A vs) (hA : A = none) : vs = [] := by
  rcases h with h | ⟨g, off, e, _⟩
  · exact h
  · rw [hA] at e; cases e
theorem RowAt.newsA {A : Option Addr} {vs : List Value} (h : RowAt W A vs) : ∀ ad, A = some ad → ∀ (j : Nat) (u : Value), vs[j]? = some u → W.cell? (ad.add j) = some u := by
  intro ad e j u hu
  rcases h with h | ⟨g, off, e2, h⟩
  · rw [h] at hu; simp at hu
  · rw [e] at e2
    obtain rfl := Option.some.inj e2
    rw [Addr.add_lit]; exact h j u hu
end
/-- AN APPEND TO AN EMPTY LITERAL: a row of the call's own. -/
theorem step_lit {W0 : World} {w : World} {ops : Array Oper} {o : Oper} {a : Act} {K : Act → World → Prop} {Q : Exit → Act → World → Prop} {E : Prop} (hgd : o.guard = none) (s x : Operand) (t : TypeId)
    (ho : o.op = .call { callee := .builtin .append, args := #[s, x], argTypes := #[t, t] })
    (e : TypeId) (i : TypeInfo) (z : Value) (size bytes : Nat) (ht : Tryz.prog.underlying t = some (.slice e)) (hi : Tryz.prog.info? e = some i) (hz : i.zero = some z)
    (hsize : i.size = size) (hby : i.bytes = bytes) (hzs : z.cells.size = size) (hsz : 0 < size)
    (B : Nat) (hs : a.eval s = .slice (some ⟨B, 0, none⟩) 0 0) (A : Option Addr) (m c : Nat) (hx : a.eval x = .slice A m c) (hlit : Lit W0 w B e) (news : List Value) (hl : news.length = m * size) (hrow : RowAt w A news) (h1 : ∀ u ∈ news, u.oneCell' = true)
    (h63 : m ≤ maxLen) (hbytes : m * bytes ≤ 140737488355328) (hb : Bl W0 w)
    (h : ∀ A' c' w', w'.ownsRow W0.heap.size e size (.slice A' m c') m news → Bl W0 w' → (∀ B' e', e' ≠ e → Lit W0 w B' e' → Lit W0 w' B' e') → (∀ e' base' s' n' v' xs', e' ≠ e → w.ownsRow base' e' s' v' n' xs' → w'.ownsRow base' e' s' v' n' xs') → K (a.put o.dst (.slice A' m c')) w') :
    if Region.wanted o (yielded ops a.tmps) = true then Oper.wp Tryz.prog o a w K Q else E := by
  refine step_append_any w hgd s x t ho W0.heap.size e i z size bytes ht hi hz hsize hby hzs hsz _ 0 [] hs (hlit.own size) A m c news hx (fun hA => ?_) hl (hrow.newsA) h1 (by simpa using h63) (by simpa using hbytes) hb.size ?_
  · have hn := hrow.nil_len hA
    rw [hn] at hl
    refine ⟨?_, hn⟩
    rcases Nat.eq_zero_or_pos m with h0 | h0
    · exact h0
    · have h2 := Nat.mul_pos h0 hsz
      rw [← hl] at h2
      simp at h2
  · intro v' w' hown hg
    rw [Nat.zero_add, List.nil_append] at hown
    obtain ⟨A', c', rfl⟩ := own_slice hown
    have hg2 : w.grownBy w' (some B) := hg
    refine h A' c' w' hown (Below.grown hb hg hb.size fun k hk => ?_) (fun B' e' hne hl' => ?_) fun e' base' s' n' v' xs' hne ho' => own_gr ho' hlit hne hg2
    · obtain rfl : B = k := Option.some.inj hk
      exact hlit.2
    · refine ⟨(hg2.block B' (Array.getElem?_eq_some_iff.1 hl'.1).1 fun e => ?_).trans hl'.1, hl'.2⟩
      obtain rfl : B' = B := Option.some.inj e
      have h1 := hl'.1
      rw [hlit.1] at h1
      injection h1 with h1
      injection h1 with _ h1 _
      exact hne h1.symm
end Go.Proofs.YtlkfcfcejicdkaaGreatDoor
