/-
  disk: what DiskPrefix's two disks hold, call by call. Own work.
-/
import Derived.Test.YtfhdcjfkngflbaaDiskSum
import Derived.Test.YtfhdcjfkngflbaaDiskRefName
set_option linter.unusedSimpArgs false
set_option linter.unusedVariables false
namespace Go.Proofs.Ytfhdcjfkngflbaa
open Go Go.RowKit

theorem Two.liftX {α : Type} {P : α → Prop} {bx : Option (Nat × Obj)} {base : Nat} {w : World} {B n B2 n2 : Nat} {v v2 : Vw} {t t2 : Int} {f : FuncId} {args : Array Value} {E : Ending} {v1 : α → Vw} {t1 : Int} {n1 : Nat} (h : Two bx base w B v t n B2 v2 t2 n2)
    (hc : ∀ s, Dk base w B v t n s → Calls Try.prog f args w fun e w' => e = E ∧ ∃ (x : α) (s' : St), P x ∧ Dk base w' B (v1 x) t1 n1 s' ∧ Frame s s' w w' ∧ Below base w w') :
    Calls Try.prog f args w fun e w' => e = E ∧ ∃ x, P x ∧ Two bx base w' B (v1 x) t1 n1 B2 v2 t2 n2 ∧ Below base w w' := by
  obtain ⟨s, o, h1, h2, h3, h3b⟩ := h
  refine (hc s h1).mono ?_
  rintro e w' ⟨rfl, x, s', hx, h4, h5, h6⟩
  refine ⟨rfl, x, hx, ⟨s', o, h4, h2.beside h5 h3, h3.step h5 fun g hg => h2.at_.lt hg, fun g ob e => ?_⟩, h6⟩
  have hlt := h3b.lt e
  obtain ⟨a1, a2, a3⟩ := h3b g ob e
  refine ⟨(h5.block g hlt a2).trans a1, fun hg => ?_, a3⟩
  rcases h5.own g hg with h | h
  · exact a2 h
  · omega

/-- The numbers that are kept along the way. -/
structure PfN (w0 : World) (base j : Nat) (v u : Vw) (t t' : Int) (W : World) : Prop where
  same : ∀ k, (v k).map (·.1) = (u k).map (·.1)
  len : ∀ k p, v k = some p → p.1.length ≤ 40 * j
  t1 : t ≤ j
  t2 : t' ≤ j
  old : Below w0.heap.size w0 W
  low : w0.heap.size ≤ base
def PfIn (bx : Option (Nat × Obj)) (w0 : World) (base Bd Bo j : Nat) (W : World) : Prop :=
  ∃ v t u t' n, Two bx base W Bd v t n Bo u t' n ∧ PfN w0 base j v u t t' W
def PfMid (bx : Option (Nat × Obj)) (w0 : World) (base Bd Bo : Nat) (k : ByteArray) (p : List UInt8) (j : Nat) (W : World) : Prop :=
  ∃ v t u t' n, Two bx base W Bd (appV v t k p) (t + (if p = [] then 0 else 1)) (n + (if (v k).isSome then 0 else 1)) Bo u t' n ∧ PfN w0 base j v u t t' W ∧ appEv u n k p.length = none

theorem ite01 (p : List UInt8) : (if p = [] then (0 : Int) else 1) ≤ 1 ∧ 0 ≤ (if p = [] then (0 : Int) else 1) := by split <;> omega
theorem app_name {name : ByteArray} {v : Vw} {D : Option (List UInt8)} (h : (v name).map (·.1) = D) (t : Int) (p : List UInt8) : (appV v t name p name).map (·.1) = some (D.getD [] ++ p) := by
  unfold appV; rw [if_pos rfl, ← h]; rfl
theorem app_other {k name : ByteArray} (v : Vw) (t : Int) (p : List UInt8) (h : k ≠ name) : appV v t name p k = v k := by
  unfold appV; rw [if_neg h]
theorem appEv_same {v u : Vw} (h : ∀ k, (v k).map (·.1) = (u k).map (·.1)) (n : Nat) (k : ByteArray) (m : Nat) : appEv v n k m = appEv u n k m := by
  have hk := h k
  unfold appEv
  cases hv : v k <;> cases hu : u k <;> rw [hv, hu] at hk <;> simp at hk ⊢
  rw [hk]
theorem some_same {v u : Vw} (h : ∀ k, (v k).map (·.1) = (u k).map (·.1)) (k : ByteArray) : (v k).isSome = (u k).isSome := by
  have hk := h k
  cases hv : v k <;> cases hu : u k <;> rw [hv, hu] at hk <;> simp at hk ⊢

theorem sum_zeros (ks : List ByteArray) : (ks.map fun _ => (0 : Int)).sum = 0 := by
  induction ks with
  | nil => rfl
  | cons k ks ih => simp only [List.map_cons, List.sum_cons, ih]; rfl

section
variable {bx : Option (Nat × Obj)} {w0 W : World} {base Bd Bo : Nat} {j : Nat}
theorem PfN.to {v u : Vw} {t t' : Int} {W' : World} (h : PfN w0 base j v u t t' W) (hb : Below base W W') : PfN w0 base j v u t t' W' := ⟨h.same, h.len, h.t1, h.t2, h.old.trans (hb.mono h.low), h.low⟩
theorem PfIn.old (h : PfIn bx w0 base Bd Bo j W) : Below w0.heap.size w0 W := by
  obtain ⟨v, t, u, t', n, h1, h2⟩ := h
  exact h2.old
theorem PfIn.drop (h : PfIn bx w0 base Bd Bo j W) : PfIn none w0 base Bd Bo j W := by
  obtain ⟨v, t, u, t', n, h1, h2⟩ := h
  exact ⟨v, t, u, t', n, h1.drop, h2⟩
theorem PfIn.put (h : PfIn bx w0 base Bd Bo j W) (ob : Obj) : PfIn (some (W.heap.size, ob)) w0 base Bd Bo j (W.alloc ob) := by
  obtain ⟨v, t, u, t', n, h1, h2⟩ := h
  exact ⟨v, t, u, t', n, h1.put ob, h2.to ((Below.refl _ _).alloc h1.low _)⟩
theorem PfIn.skip (h : PfIn bx w0 base Bd Bo j W) : PfIn bx w0 base Bd Bo (j + 1) W := by
  obtain ⟨v, t, u, t', n, h1, h2⟩ := h
  have ht1 := h2.t1
  have ht2 := h2.t2
  exact ⟨v, t, u, t', n, h1, h2.same, fun k p hp => by have := h2.len k p hp; omega, by omega, by omega, h2.old, h2.low⟩
def BoxC (g : Nat) (v0 v1 v2 v3 : Value) (W : World) : Prop := W.cell? ⟨g, 0, none⟩ = some v0 ∧ W.cell? ⟨g, 1, none⟩ = some v1 ∧ W.cell? ⟨g, 2, none⟩ = some v2 ∧ W.cell? ⟨g, 3, none⟩ = some v3
theorem boxC_of {g : Nat} {v0 v1 v2 v3 : Value} {t : TypeId} {fr : Nat × Nat} (h : W.heap[g]? = some (.cells #[v0, v1, v2, v3] t fr)) : BoxC g v0 v1 v2 v3 W := by
  refine ⟨?_, ?_, ?_, ?_⟩ <;> simp [World.cell?, h]
theorem PfIn.box {g : Nat} {v0 v1 v2 v3 : Value} {t : TypeId} {fr : Nat × Nat} (h : PfIn (some (g, .cells #[v0, v1, v2, v3] t fr)) w0 base Bd Bo j W) : BoxC g v0 v1 v2 v3 W := by
  obtain ⟨v, t, u, t', n, h1, h2⟩ := h
  exact boxC_of h1.box
theorem PfMid.box {g : Nat} {v0 v1 v2 v3 : Value} {t : TypeId} {fr : Nat × Nat} {p : List UInt8} {k : ByteArray} (h : PfMid (some (g, .cells #[v0, v1, v2, v3] t fr)) w0 base Bd Bo k p j W) : BoxC g v0 v1 v2 v3 W := by
  obtain ⟨v, t, u, t', n, h1, h2⟩ := h
  exact boxC_of h1.box

theorem pf_app1 (h : PfIn bx w0 base Bd Bo j W) (hj : j ≤ 80) (k : ByteArray) (A : Option Addr) (m c : Nat) (p : List UInt8) (hp : p.length = m) (hks : k.size ≤ 4611686018427387904) (hA : BytesAt w0 A p) :
    (∃ E : Int, Calls Try.prog 8 #[.pointer (some ⟨Bd, 0, none⟩), .string k, .slice A m c] W fun e w' => e = .returned (.iface 49 (.int .i64 E)) ∧ W = w') ∨
    Calls Try.prog 8 #[.pointer (some ⟨Bd, 0, none⟩), .string k, .slice A m c] W fun e w' => e = .returned .nilIface ∧ Hid (PfMid bx w0 base Bd Bo k p j w') := by
  obtain ⟨v, t, u, t', n, h1, h2⟩ := h
  have ht := h2.t1
  cases he : appEv v n k m with
  | some E =>
    obtain ⟨s, hs⟩ := h1.one
    exact .inl ⟨E, dk_append_no hs k A m c p hp hks (hA.below h2.old) (by omega) E he⟩
  | none =>
    right
    refine (h1.lift fun s hs => dk_append_ok hs k A m c p hp hks (hA.below h2.old) (by omega) he).mono ?_
    rintro e w' ⟨rfl, h4, h5⟩
    exact ⟨rfl, v, t, u, t', n, h4, h2.to h5, by rw [hp, ← appEv_same h2.same]; exact he⟩
theorem pf_app2 {k : ByteArray} {p : List UInt8} (h : PfMid bx w0 base Bd Bo k p j W) (hj : j < 80) (A : Option Addr) (m c : Nat) (hp : p.length = m) (hm : m ≤ 40) (hks : k.size ≤ 4611686018427387904) (hA : BytesAt w0 A p) :
    Calls Try.prog 8 #[.pointer (some ⟨Bo, 0, none⟩), .string k, .slice A m c] W fun e w' => e = .returned .nilIface ∧ Hid (PfIn bx w0 base Bd Bo (j + 1) w') := by
  obtain ⟨v, t, u, t', n, h1, h2, he⟩ := h
  have ht := h2.t2
  have ht1 := h2.t1
  have hi := ite01 p
  refine (h1.swap.lift fun s hs => dk_append_ok hs k A m c p hp hks (hA.below h2.old) (by omega) (by rw [← hp]; exact he)).mono ?_
  rintro e w' ⟨rfl, h4, h5⟩
  rw [← some_same h2.same k] at h4
  refine ⟨rfl, _, _, _, _, _, h4.swap, fun k' => ?_, fun k' q hq => ?_, by omega, by omega, (h2.to h5).old, h2.low⟩
  · by_cases e : k' = k
    · subst e; rw [app_name rfl, app_name rfl, h2.same]
    · rw [app_other _ _ _ e, app_other _ _ _ e]; exact h2.same k'
  · by_cases e : k' = k
    · subst e
      have h6 := app_name (v := v) (name := k') rfl t p
      rw [hq] at h6
      simp only [Option.map_some, Option.some.injEq] at h6
      rw [h6, List.length_append, hp]
      cases hv : v k' with
      | none => simp; omega
      | some q' => have := h2.len k' q' hv; simp; omega
    · rw [app_other _ _ _ e] at hq; have := h2.len k' q hq; omega
theorem pf_sync (h : PfIn bx w0 base Bd Bo j W) : Calls Try.prog 9 #[.pointer (some ⟨Bd, 0, none⟩)] W fun e w' => e = .returned .nilIface ∧ Hid (PfIn bx w0 base Bd Bo j w') := by
  obtain ⟨v, t, u, t', n, h1, h2⟩ := h
  refine (h1.lift fun s hs => dk_sync hs).mono ?_
  rintro e w' ⟨rfl, h4, h5⟩
  have e1 : ∀ k, (syncV v k).map (·.1) = (v k).map (·.1) := fun k => by unfold syncV; cases v k <;> rfl
  refine ⟨rfl, _, _, _, _, _, h4, fun k => (e1 k).trans (h2.same k), fun k p hp => ?_, h2.t1, h2.t2, (h2.to h5).old, h2.low⟩
  have := e1 k
  rw [hp] at this
  cases hv : v k with
  | none => rw [hv] at this; cases this
  | some q => rw [hv] at this; simp at this; rw [this]; exact h2.len k q hv

/-- What is known of the view ahead of the crash. -/
structure VF (v : Vw) (ks : List ByteArray) (S : Int) : Prop where
  ok : VwOK v
  len : ∀ k p, v k = some p → p.1.length ≤ 3200
  nodup : ks.Nodup
  mem : ∀ k, k ∈ ks ↔ (v k).isSome = true
  few : ks.length ≤ 64
  sum : (ks.map (openV v)).sum = S
  bd : 0 ≤ S ∧ S ≤ 204800
/-- Both disks, the first with view f v. -/
def PfD (w0 : World) (base Bd Bo : Nat) (v : Vw) (f : Vw → Vw) (n : Nat) (W : World) : Prop :=
  ∃ t u t', Two none base W Bd (f v) t n Bo u t' n ∧ (∀ k, (v k).map (·.1) = (u k).map (·.1)) ∧ t ≤ 80 ∧ Below w0.heap.size w0 W ∧ w0.heap.size ≤ base
theorem PfD.below {v : Vw} {f : Vw → Vw} {n : Nat} {W' : World} (h : PfD w0 base Bd Bo v f n W) (hb : Below W.heap.size W W') : PfD w0 base Bd Bo v f n W' := by
  obtain ⟨t, u, t', h1, h2, h3, h4, h5⟩ := h
  exact ⟨t, u, t', h1.below hb, h2, h3, h4.trans (hb.mono (Nat.le_trans h5 h1.low)), h5⟩
theorem PfD.old {v : Vw} {f : Vw → Vw} {n : Nat} (h : PfD w0 base Bd Bo v f n W) : Below w0.heap.size w0 W := by
  obtain ⟨t, u, t', h1, h2, h3, h4, h5⟩ := h
  exact h4
theorem PfIn.told (h : PfIn bx w0 base Bd Bo j W) (hj : j ≤ 80) : ∃ v ks S, VF v ks S ∧ PfD w0 base Bd Bo v id ks.length W := by
  obtain ⟨v, t, u, t', n, h1, h2⟩ := h
  obtain ⟨s, hs⟩ := h1.one
  obtain ⟨ks, hk1, hk2, hk3, hk4⟩ := hs.keys
  have hv := hs.vok
  have ht1 := h2.t1
  have hlen : ∀ k p, v k = some p → p.1.length ≤ 3200 := fun k p hp => by have := h2.len k p hp; omega
  have hop : ∀ k, 0 ≤ openV v k ∧ openV v k ≤ 3200 := fun k => by
    unfold openV
    cases hvk : v k with
    | none => simp
    | some p =>
      have h3 := hlen k p hvk
      have h4 := hv.sum k p hvk
      have h5 := open_nonneg (hv.pos k p hvk)
      simp only; omega
  refine ⟨v, ks, _, ⟨hv, hlen, hk1, hk2, by omega, rfl, sum_nonneg_of _ _ fun k _ => (hop k).1, ?_⟩, t, u, t', by rw [hk3]; exact h1.drop, h2.same, by omega, h2.old, h2.low⟩
  have := sum_le_of ks (openV v) 3200 fun k _ => (hop k).2
  have h6 : (ks.length : Int) ≤ 64 := by omega
  omega
theorem pf_loose {v : Vw} {ks : List ByteArray} {S : Int} {n : Nat} (hf : VF v ks S) (h : PfD w0 base Bd Bo v id n W) : Calls Try.prog 10 #[.pointer (some ⟨Bd, 0, none⟩)] W fun e w' => e = .returned (.int .i64 S) ∧ Hid (PfD w0 base Bd Bo v id n w') := by
  have h0 := h
  obtain ⟨t, u, t', h1, h2, h3, h4, h5⟩ := h
  obtain ⟨s, hs⟩ := h1.one
  refine (dk_loose hs hf.nodup hf.mem).mono ?_
  rintro e w' ⟨rfl, hb⟩
  exact ⟨by rw [← hf.sum]; rfl, h0.below hb⟩
theorem pf_crash {v : Vw} {ks : List ByteArray} {S : Int} {n : Nat} (hf : VF v ks S) (h : PfD w0 base Bd Bo v id n W) (keep : Int) (hk : 0 ≤ keep) (hk2 : keep ≤ 9223372036854775807) : Calls Try.prog 11 #[.pointer (some ⟨Bd, 0, none⟩), .int .i64 keep] W fun e w' => e = .returned .nilIface ∧
    ∃ l', Hid ((l'.Perm (ks.flatMap (looseV v)) ∧ l'.Pairwise (fun a b => a.1 < b.1)) ∧ PfD w0 base Bd Bo v (crashV (leftF l' keep)) n w') := by
  obtain ⟨t, u, t', h1, h2, h3, h4, h5⟩ := h
  have hsum := hf.sum
  have hbd := hf.bd
  refine (h1.liftX (P := fun l' : List (Int × Int) => l'.Perm (ks.flatMap (looseV v)) ∧ l'.Pairwise (fun a b => a.1 < b.1)) (v1 := fun l' => crashV (leftF l' keep) v) (E := .returned .nilIface) (t1 := t) (n1 := n) fun s hs => ?_).mono ?_
  · refine (dk_crash hs keep hk hk2 (by omega) hf.nodup hf.mem (by have e : (ks.map (openV (id v))).sum = S := hsum; omega)).mono ?_
    rintro e w' ⟨rfl, l', s', a1, a2, a3⟩
    exact ⟨rfl, l', s', ⟨a1, a2⟩, a3⟩
  · rintro e w' ⟨rfl, l', a1, a2, a3⟩
    exact ⟨rfl, l', a1, t, u, t', a2, h2, h3, h4.trans (a3.mono h5), h5⟩
theorem pf_loose0 {v : Vw} {ks : List ByteArray} {S : Int} {n : Nat} {f : Int → Int} (hf : VF v ks S) (h : PfD w0 base Bd Bo v (crashV f) n W) : Calls Try.prog 10 #[.pointer (some ⟨Bd, 0, none⟩)] W fun e w' => e = .returned (.int .i64 0) ∧ Hid (PfD w0 base Bd Bo v (crashV f) n w') := by
  have h0 := h
  obtain ⟨t, u, t', h1, h2, h3, h4, h5⟩ := h
  obtain ⟨s, hs⟩ := h1.one
  refine (dk_loose hs hf.nodup fun k => (hf.mem k).trans (by rw [crashV_some])).mono ?_
  rintro e w' ⟨rfl, hb⟩
  refine ⟨?_, h0.below hb⟩
  have e : ks.map (openV (crashV f v)) = ks.map fun _ => 0 := List.map_congr_left fun k _ => crashV_open f v k
  rw [e]
  rw [sum_zeros]

/-- A row of names. -/
def StrRow (w : World) (A : Option Addr) (ks : List ByteArray) : Prop := ∀ i k, ks[i]? = some k → ∃ g, A = some ⟨g, 0, none⟩ ∧ w.cell? ⟨g, i, none⟩ = some (.string k)
theorem StrRow.below {A : Option Addr} {ks : List ByteArray} {W' : World} (h : StrRow W A ks) (hb : Below W.heap.size W W') : StrRow W' A ks := fun i k hk => by
  obtain ⟨g, e, hc⟩ := h i k hk
  exact ⟨g, e, (hb.cell (p := ⟨g, i, none⟩) (World.block_lt_of_cell? W _ hc)).trans hc⟩
theorem strRow_of {base : Nat} {A : Option Addr} {n c : Nat} {ks : List ByteArray} (h : W.ownsRow base 9 1 (.slice A n c) n (ks.map Value.string)) : StrRow W A ks := fun i k hk => by
  have hl : ks.length = n := by have := h.1; simpa using this
  have hi : i < n := by rw [← hl]; exact (List.getElem?_eq_some_iff.1 hk).1
  rcases h.2 with ⟨hv, hn⟩ | ⟨g, cap, cur, hv, hb, hh, h1, h2, h3, h4⟩
  · omega
  · injection hv with hA _ _
    subst hA
    refine ⟨g, rfl, ?_⟩
    have e2 : W.cell? ⟨g, i, none⟩ = cur[i]? := by simp [World.cell?, hh]
    have e3 : (cur.toList.take (n * 1))[i]? = some (.string k) := by rw [h4, List.getElem?_map, hk]; rfl
    rw [List.getElem?_take, if_pos (by omega)] at e3
    rw [e2]; simpa using e3
theorem pf_names {v : Vw} {ks : List ByteArray} {S : Int} {n : Nat} {f : Vw → Vw} (hf : VF v ks S) (h : PfD w0 base Bd Bo v f n W) : Calls Try.prog 12 #[.pointer (some ⟨Bo, 0, none⟩)] W fun e w' => ∃ (A : Option Addr) (c : Nat) (ns : List ByteArray), e = .returned (.slice A n c) ∧ Hid (ns.length = n ∧ ns.Perm ks ∧ StrRow w' A ns ∧ PfD w0 base Bd Bo v f n w') := by
  have h0 := h
  obtain ⟨t, u, t', h1, h2, h3, h4, h5⟩ := h
  obtain ⟨s, hs⟩ := h1.swap.one
  refine (dk_names hs).mono ?_
  rintro e w' ⟨A, c, ns, rfl, a1, a2, a3, a4, a5, a6⟩
  exact ⟨A, c, ns, rfl, a1, (List.perm_ext_iff_of_nodup a2 hf.nodup).2 fun k => (a3 k).trans (by rw [← some_same h2, hf.mem]), strRow_of a4, h0.below a6⟩
theorem own_cap {base : Nat} {e : TypeId} {A : Option Addr} {n c : Nat} {xs : List Value} (h : W.ownsRow base e 1 (.slice A n c) n xs) : n ≤ c := by
  rcases h.2 with ⟨hv, hn⟩ | ⟨g, cap, cur, hv, hb, hh, h1, h2, h3, h4⟩
  · omega
  · injection hv with hA _ hc
    omega
theorem pf_read1 {v : Vw} {ks : List ByteArray} {S : Int} {n : Nat} {f : Int → Int} (h : PfD w0 base Bd Bo v (crashV f) n W) {k : ByteArray} {p : List UInt8 × List (Int × Int)} (hp : v k = some p) (m : Nat) (hm : (p.1.take (keepP f p)).length = m) : Calls Try.prog 13 #[.pointer (some ⟨Bd, 0, none⟩), .string k] W fun e w' => ∃ (A : Option Addr) (c : Nat), e = .returned (.tuple #[.slice A m c, .nilIface]) ∧ Hid (BytesAt w' A (p.1.take (keepP f p)) ∧ Below W.heap.size W w' ∧ PfD w0 base Bd Bo v (crashV f) n w') := by
  subst hm
  have h0 := h
  obtain ⟨t, u, t', h1, h2, h3, h4, h5⟩ := h
  obtain ⟨s, hs⟩ := h1.one
  refine (dk_read hs (k := k) (p := (p.1.take (keepP f p), [])) (by unfold crashV; rw [hp]; rfl)).mono ?_
  rintro e w' ⟨A, c, rfl, hrow, hb⟩
  exact ⟨A, c, rfl, BytesAt.of_own hrow, hb, h0.below hb⟩
theorem pf_read2 {v : Vw} {n : Nat} {f : Vw → Vw} (h : PfD w0 base Bd Bo v f n W) {k : ByteArray} {p : List UInt8 × List (Int × Int)} (hp : v k = some p) (m : Nat) (hm : p.1.length = m) : Calls Try.prog 13 #[.pointer (some ⟨Bo, 0, none⟩), .string k] W fun e w' => ∃ (A : Option Addr) (c : Nat), e = .returned (.tuple #[.slice A m c, .nilIface]) ∧ m ≤ c ∧ Hid (BytesAt w' A p.1 ∧ Below W.heap.size W w' ∧ PfD w0 base Bd Bo v f n w') := by
  subst hm
  have h0 := h
  obtain ⟨t, u, t', h1, h2, h3, h4, h5⟩ := h
  obtain ⟨s, hs⟩ := h1.swap.one
  have hu := h2 k
  rw [hp] at hu
  cases huk : u k with
  | none => rw [huk] at hu; cases hu
  | some q =>
    rw [huk] at hu
    have e : p.1 = q.1 := by simpa using hu
    rw [e]
    refine (dk_read hs huk).mono ?_
    rintro e w' ⟨A, c, rfl, hrow, hb⟩
    exact ⟨A, c, rfl, own_cap hrow, BytesAt.of_own hrow, hb, h0.below hb⟩
theorem BytesAt.take {A : Option Addr} {b : List UInt8} (h : BytesAt W A b) (m : Nat) : BytesAt W A (b.take m) := by
  refine ⟨fun e => by have := h.1 e; rw [List.length_take]; omega, fun ad e j u hu => h.2 ad e j u ?_⟩
  simp only [byteVs, List.map_take, List.getElem?_take] at hu ⊢
  split at hu
  · exact hu
  · cases hu
end
end Go.Proofs.Ytfhdcjfkngflbaa
