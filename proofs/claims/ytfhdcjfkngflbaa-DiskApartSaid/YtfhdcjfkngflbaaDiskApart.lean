/-
  disk: what DiskApart's two disks hold, call by call. Own work.
-/
import Derived.Test.YtfhdcjfkngflbaaDiskTwo
import Derived.Test.YtfhdcjfkngflbaaDiskRefName
set_option linter.unusedSimpArgs false
set_option linter.unusedVariables false
namespace Go.Proofs.Ytfhdcjfkngflbaa
open Go Go.RowKit

/-- Both disks hold the one file alike, and no other one. -/
structure Alike (name : ByteArray) (v u : Vw) (D : Option (List UInt8)) : Prop where
  v_other : ∀ k, k ≠ name → v k = none
  u_other : ∀ k, k ≠ name → u k = none
  v_name : (v name).map (·.1) = D
  u_name : (u name).map (·.1) = D
def nOf (D : Option (List UInt8)) : Nat := if D.isSome then 1 else 0
theorem nOf_le (D : Option (List UInt8)) : nOf D ≤ 1 := by unfold nOf; split <;> omega

/-- The numbers that are kept along the way. -/
structure ApN (w0 : World) (base j : Nat) (t t' : Int) (D : Option (List UInt8)) (W : World) : Prop where
  len : (D.getD []).length ≤ 40 * j
  t1 : t ≤ j
  t2 : t' ≤ j
  old : Below w0.heap.size w0 W
  low : w0.heap.size ≤ base
def ApIn (bx : Option (Nat × Obj)) (w0 : World) (base Bd Bo : Nat) (name : ByteArray) (j : Nat) (W : World) : Prop :=
  ∃ v t u t' D, Two bx base W Bd v t (nOf D) Bo u t' (nOf D) ∧ Alike name v u D ∧ ApN w0 base j t t' D W
def ApMid (bx : Option (Nat × Obj)) (w0 : World) (base Bd Bo : Nat) (name : ByteArray) (p : List UInt8) (j : Nat) (W : World) : Prop :=
  ∃ v t u t' D, Two bx base W Bd (appV v t name p) (t + (if p = [] then 0 else 1)) (nOf D + (if (v name).isSome then 0 else 1)) Bo u t' (nOf D) ∧ Alike name v u D ∧ ApN w0 base j t t' D W
def ApO (bx : Option (Nat × Obj)) (w0 : World) (base Bd Bo : Nat) (name k : ByteArray) (p : List UInt8) (f : Vw → Vw) (j : Nat) (W : World) : Prop :=
  ∃ v t u t' D, Two bx base W Bd (f (appV v t k p)) (t + (if p = [] then 0 else 1)) (nOf D + 1) Bo u t' (nOf D) ∧ Alike name v u D ∧ ApN w0 base j t t' D W

theorem ite01 (p : List UInt8) : (if p = [] then (0 : Int) else 1) ≤ 1 ∧ 0 ≤ (if p = [] then (0 : Int) else 1) := by split <;> omega
theorem alike_nof {name : ByteArray} {v u : Vw} {D : Option (List UInt8)} (h : Alike name v u D) : nOf D + (if (v name).isSome then 0 else 1) = 1 ∧ nOf D + (if (u name).isSome then 0 else 1) = 1 := by
  have h1 := h.v_name
  have h2 := h.u_name
  unfold nOf
  cases hv : v name <;> cases hu : u name <;> rw [hv] at h1 <;> rw [hu] at h2 <;> subst h1 <;> simp at h2 ⊢
theorem app_name {name : ByteArray} {v : Vw} {D : Option (List UInt8)} (h : (v name).map (·.1) = D) (t : Int) (p : List UInt8) : (appV v t name p name).map (·.1) = some (D.getD [] ++ p) := by
  unfold appV; rw [if_pos rfl, ← h]; rfl
theorem app_other {k name : ByteArray} (v : Vw) (t : Int) (p : List UInt8) (h : k ≠ name) : appV v t name p k = v k := by
  unfold appV; rw [if_neg h]

section
variable {bx : Option (Nat × Obj)} {w0 W : World} {base Bd Bo : Nat} {name : ByteArray} {j : Nat}
theorem ApN.to {t t' : Int} {D : Option (List UInt8)} {W' : World} (h : ApN w0 base j t t' D W) (hb : Below base W W') : ApN w0 base j t t' D W' := ⟨h.len, h.t1, h.t2, h.old.trans (hb.mono h.low), h.low⟩
theorem ApIn.below (h : ApIn bx w0 base Bd Bo name j W) {W' : World} (hb : Below W.heap.size W W') : ApIn bx w0 base Bd Bo name j W' := by
  obtain ⟨v, t, u, t', D, h1, h2, h3⟩ := h
  exact ⟨v, t, u, t', D, h1.below hb, h2, h3.to (hb.mono h1.low)⟩
theorem ApIn.old (h : ApIn bx w0 base Bd Bo name j W) : Below w0.heap.size w0 W := by
  obtain ⟨v, t, u, t', D, h1, h2, h3⟩ := h
  exact h3.old
theorem ap_names (h : ApIn bx w0 base Bd Bo name j W) : Calls Try.prog 12 #[.pointer (some ⟨Bd, 0, none⟩)] W fun e w' => ∃ (A : Option Addr) (c m : Nat), e = .returned (.slice A m c) ∧ m ≤ 1 ∧ Hid (ApIn bx w0 base Bd Bo name j w') := by
  have h0 := h
  obtain ⟨v, t, u, t', D, h1, h2, h3⟩ := h
  obtain ⟨s, hs⟩ := h1.one
  refine (dk_names hs).mono ?_
  rintro e w' ⟨A, c, ks, rfl, _, _, _, _, _, hb⟩
  exact ⟨A, c, _, rfl, nOf_le _, h0.below hb⟩
theorem ap_bad (h : ApIn bx w0 base Bd Bo name j W) (k : ByteArray) (A : Option Addr) (m c : Nat) (hks : k.size ≤ 4611686018427387904) (hk : nmB k = false) :
    Calls Try.prog 8 #[.pointer (some ⟨Bd, 0, none⟩), .string k, .slice A m c] W fun e w' => e = .returned (.iface 49 (.int .i64 1)) ∧ W = w' := by
  obtain ⟨v, t, u, t', D, h1, h2, h3⟩ := h
  obtain ⟨s, hs⟩ := h1.one
  obtain ⟨a1, rfl, a3⟩ := hs
  exact append_name s k A m c W hks hk
theorem ap_ev {v u : Vw} {t t' : Int} {D : Option (List UInt8)} (h2 : Alike name v u D) (h3 : ApN w0 base j t t' D W) (hj : j ≤ 80) (k : ByteArray) (hk : nmB k = true) (m : Nat) (hm : m ≤ 40) : appEv v (nOf D) k m = none := by
  unfold appEv
  rw [if_pos hk]
  have := nOf_le D
  have hl := h3.len
  by_cases e : k = name
  · subst e
    have hv := h2.v_name
    cases hvn : v k with
    | none => simp only; rw [if_neg (by omega), if_neg (by omega)]
    | some q =>
      rw [hvn] at hv
      simp only [Option.map_some] at hv
      subst hv
      simp only [Option.getD_some] at hl ⊢
      rw [if_neg (by omega), if_neg (by omega)]
  · rw [h2.v_other k e]
    simp only; rw [if_neg (by omega), if_neg (by omega)]
theorem Alike.swap {v u : Vw} {D : Option (List UInt8)} (h : Alike name v u D) : Alike name u v D := ⟨h.u_other, h.v_other, h.u_name, h.v_name⟩
theorem ApN.swap {t t' : Int} {D : Option (List UInt8)} (h : ApN w0 base j t t' D W) : ApN w0 base j t' t D W := ⟨h.len, h.t2, h.t1, h.old, h.low⟩

theorem ap_same1 (h : ApIn bx w0 base Bd Bo name j W) (hj : j ≤ 80) (A : Option Addr) (m c : Nat) (p : List UInt8) (hp : p.length = m) (hm : m ≤ 40) (hks : name.size ≤ 4611686018427387904) (hk : nmB name = true) (hA : BytesAt w0 A p) :
    Calls Try.prog 8 #[.pointer (some ⟨Bd, 0, none⟩), .string name, .slice A m c] W fun e w' => e = .returned .nilIface ∧ Hid (ApMid bx w0 base Bd Bo name p j w') := by
  obtain ⟨v, t, u, t', D, h1, h2, h3⟩ := h
  have ht := h3.t1
  refine (h1.lift fun s hs => dk_append_ok hs name A m c p hp hks (hA.below h3.old) (by omega) (ap_ev h2 h3 hj name hk m hm)).mono ?_
  rintro e w' ⟨rfl, h4, h5⟩
  exact ⟨rfl, v, t, u, t', D, h4, h2, h3.to h5⟩
theorem ap_same2 {p : List UInt8} (h : ApMid bx w0 base Bd Bo name p j W) (hj : j < 80) (A : Option Addr) (m c : Nat) (hp : p.length = m) (hm : m ≤ 40) (hks : name.size ≤ 4611686018427387904) (hk : nmB name = true) (hA : BytesAt w0 A p) :
    Calls Try.prog 8 #[.pointer (some ⟨Bo, 0, none⟩), .string name, .slice A m c] W fun e w' => e = .returned .nilIface ∧ Hid (ApIn bx w0 base Bd Bo name (j + 1) w') := by
  obtain ⟨v, t, u, t', D, h1, h2, h3⟩ := h
  have ht := h3.t2
  have ht1 := h3.t1
  have hi := ite01 p
  have hl := h3.len
  refine (h1.swap.lift fun s hs => dk_append_ok hs name A m c p hp hks (hA.below h3.old) (by omega) (ap_ev h2.swap h3.swap (by omega) name hk m hm)).mono ?_
  rintro e w' ⟨rfl, h4, h5⟩
  rw [(alike_nof h2).1, (alike_nof h2).2] at h4
  refine ⟨rfl, _, _, _, _, some (D.getD [] ++ p), h4.swap, ⟨fun k hk => ?_, fun k hk => ?_, app_name h2.v_name _ _, app_name h2.u_name _ _⟩, ⟨by simp; omega, by omega, by omega, (h3.to h5).old, h3.low⟩⟩
  · rw [app_other _ _ _ hk]; exact h2.v_other k hk
  · rw [app_other _ _ _ hk]; exact h2.u_other k hk
theorem ap_other1 (h : ApIn bx w0 base Bd Bo name j W) (hj : j ≤ 80) (k : ByteArray) (hne : k ≠ name) (A : Option Addr) (m c : Nat) (p : List UInt8) (hp : p.length = m) (hm : m ≤ 40) (hks : k.size ≤ 4611686018427387904) (hk : nmB k = true) (hA : BytesAt w0 A p) :
    Calls Try.prog 8 #[.pointer (some ⟨Bd, 0, none⟩), .string k, .slice A m c] W fun e w' => e = .returned .nilIface ∧ Hid (ApO bx w0 base Bd Bo name k p id j w') := by
  obtain ⟨v, t, u, t', D, h1, h2, h3⟩ := h
  have ht := h3.t1
  refine (h1.lift fun s hs => dk_append_ok hs k A m c p hp hks (hA.below h3.old) (by omega) (ap_ev h2 h3 hj k hk m hm)).mono ?_
  rintro e w' ⟨rfl, h4, h5⟩
  rw [h2.v_other k hne] at h4
  exact ⟨rfl, v, t, u, t', D, h4, h2, h3.to h5⟩
theorem ap_other2 {p : List UInt8} {k : ByteArray} (h : ApO bx w0 base Bd Bo name k p id j W) (hne : k ≠ name) :
    Calls Try.prog 16 #[.pointer (some ⟨Bd, 0, none⟩), .string k, .int .i64 0] W fun e w' => e = .returned .nilIface ∧ Hid (ApO bx w0 base Bd Bo name k p (fun v => cutVw v k 0) j w') := by
  obtain ⟨v, t, u, t', D, h1, h2, h3⟩ := h
  have hv : appV v t k p k = some (p, if p = [] then [] else [(t + 1, (p.length : Int))]) := by
    unfold appV; rw [if_pos rfl, h2.v_other k hne]; simp
  refine (h1.lift fun s hs => dk_cut hs 0 hv (Nat.zero_le _)).mono ?_
  rintro e w' ⟨rfl, h4, h5⟩
  exact ⟨rfl, v, t, u, t', D, h4, h2, h3.to h5⟩
theorem ap_other3 {p : List UInt8} {k : ByteArray} (h : ApO bx w0 base Bd Bo name k p (fun v => cutVw v k 0) j W) (hne : k ≠ name) :
    Calls Try.prog 17 #[.pointer (some ⟨Bd, 0, none⟩), .string k] W fun e w' => e = .returned .nilIface ∧ Hid (ApIn bx w0 base Bd Bo name (j + 1) w') := by
  obtain ⟨v, t, u, t', D, h1, h2, h3⟩ := h
  have hi := ite01 p
  have ht1 := h3.t1
  have ht2 := h3.t2
  have hl := h3.len
  have hv : cutVw (appV v t k p) k 0 k = some (cutP 0 (p, if p = [] then [] else [(t + 1, (p.length : Int))])) := by
    unfold cutVw appV; rw [if_pos rfl, if_pos rfl, h2.v_other k hne]; simp
  refine (h1.lift fun s hs => dk_delete hs hv).mono ?_
  rintro e w' ⟨rfl, h4, h5⟩
  have e1 : dropV (cutVw (appV v t k p) k 0) k = v := by
    funext k'
    unfold dropV cutVw
    by_cases e : k' = k
    · subst e; rw [if_pos rfl, h2.v_other k' hne]
    · rw [if_neg e, if_neg e, app_other _ _ _ e]
  rw [e1, Nat.add_sub_cancel] at h4
  exact ⟨rfl, _, _, _, _, D, h4, h2, ⟨by omega, by omega, by omega, (h3.to h5).old, h3.low⟩⟩
theorem ap_skip (h : ApIn bx w0 base Bd Bo name j W) : ApIn bx w0 base Bd Bo name (j + 1) W := by
  obtain ⟨v, t, u, t', D, h1, h2, h3⟩ := h
  have ht1 := h3.t1
  have ht2 := h3.t2
  have hl := h3.len
  exact ⟨_, _, _, _, D, h1, h2, ⟨by omega, by omega, by omega, h3.old, h3.low⟩⟩

theorem ApIn.drop (h : ApIn bx w0 base Bd Bo name j W) : ApIn none w0 base Bd Bo name j W := by
  obtain ⟨v, t, u, t', D, h1, h2, h3⟩ := h
  exact ⟨v, t, u, t', D, h1.drop, h2, h3⟩
theorem ApIn.put (h : ApIn bx w0 base Bd Bo name j W) (ob : Obj) : ApIn (some (W.heap.size, ob)) w0 base Bd Bo name j (W.alloc ob) := by
  obtain ⟨v, t, u, t', D, h1, h2, h3⟩ := h
  exact ⟨v, t, u, t', D, h1.put ob, h2, h3.to ((Below.refl _ _).alloc h1.low _)⟩
/-- The cells of a round's box. -/
def BoxC (g : Nat) (v0 v1 v2 v3 : Value) (W : World) : Prop := W.cell? ⟨g, 0, none⟩ = some v0 ∧ W.cell? ⟨g, 1, none⟩ = some v1 ∧ W.cell? ⟨g, 2, none⟩ = some v2 ∧ W.cell? ⟨g, 3, none⟩ = some v3
theorem boxC_of {g : Nat} {v0 v1 v2 v3 : Value} {t : TypeId} {fr : Nat × Nat} (h : W.heap[g]? = some (.cells #[v0, v1, v2, v3] t fr)) : BoxC g v0 v1 v2 v3 W := by
  refine ⟨?_, ?_, ?_, ?_⟩ <;> simp [World.cell?, h]
theorem ApIn.box {g : Nat} {v0 v1 v2 v3 : Value} {t : TypeId} {fr : Nat × Nat} (h : ApIn (some (g, .cells #[v0, v1, v2, v3] t fr)) w0 base Bd Bo name j W) : BoxC g v0 v1 v2 v3 W := by
  obtain ⟨v, t, u, t', D, h1, h2, h3⟩ := h
  exact boxC_of h1.box
theorem ApMid.box {g : Nat} {v0 v1 v2 v3 : Value} {t : TypeId} {fr : Nat × Nat} {p : List UInt8} (h : ApMid (some (g, .cells #[v0, v1, v2, v3] t fr)) w0 base Bd Bo name p j W) : BoxC g v0 v1 v2 v3 W := by
  obtain ⟨v, t, u, t', D, h1, h2, h3⟩ := h
  exact boxC_of h1.box
theorem ApO.box {g : Nat} {v0 v1 v2 v3 : Value} {t : TypeId} {fr : Nat × Nat} {p : List UInt8} {k : ByteArray} {f : Vw → Vw} (h : ApO (some (g, .cells #[v0, v1, v2, v3] t fr)) w0 base Bd Bo name k p f j W) : BoxC g v0 v1 v2 v3 W := by
  obtain ⟨v, t, u, t', D, h1, h2, h3⟩ := h
  exact boxC_of h1.box

/-- Behind the script: what the one file holds is told. -/
def ApD (w0 : World) (base Bd Bo : Nat) (name : ByteArray) (D : Option (List UInt8)) (W : World) : Prop :=
  ∃ v t u t', Two none base W Bd v t (nOf D) Bo u t' (nOf D) ∧ Alike name v u D ∧ ApN w0 base 80 t t' D W
theorem ApIn.told (h : ApIn bx w0 base Bd Bo name j W) (hj : j ≤ 80) : ∃ D, ApD w0 base Bd Bo name D W := by
  obtain ⟨v, t, u, t', D, h1, h2, h3⟩ := h
  have ht1 := h3.t1
  have ht2 := h3.t2
  have hl := h3.len
  exact ⟨D, v, t, u, t', h1.drop, h2, ⟨by omega, by omega, by omega, h3.old, h3.low⟩⟩
theorem ApD.below {D : Option (List UInt8)} (h : ApD w0 base Bd Bo name D W) {W' : World} (hb : Below W.heap.size W W') : ApD w0 base Bd Bo name D W' := by
  obtain ⟨v, t, u, t', h1, h2, h3⟩ := h
  exact ⟨v, t, u, t', h1.below hb, h2, h3.to (hb.mono h1.low)⟩
theorem ApD.swap {D : Option (List UInt8)} (h : ApD w0 base Bd Bo name D W) : ApD w0 base Bo Bd name D W := by
  obtain ⟨v, t, u, t', h1, h2, h3⟩ := h
  exact ⟨_, _, _, _, h1.swap, h2.swap, h3.swap⟩
theorem ap_read_none (h : ApD w0 base Bd Bo name none W) : Calls Try.prog 13 #[.pointer (some ⟨Bd, 0, none⟩), .string name] W fun e w' => e = .returned (.tuple #[.slice none 0 0, .iface 49 (.int .i64 10)]) ∧ W = w' := by
  obtain ⟨v, t, u, t', h1, h2, h3⟩ := h
  obtain ⟨s, hs⟩ := h1.one
  exact dk_read_miss hs (by have := h2.v_name; cases hv : v name <;> simp_all)
theorem ap_read_some {b : List UInt8} (h : ApD w0 base Bd Bo name (some b) W) (n : Nat) (hn : b.length = n) : Calls Try.prog 13 #[.pointer (some ⟨Bd, 0, none⟩), .string name] W fun e w' => ∃ (A : Option Addr) (c : Nat), e = .returned (.tuple #[.slice A n c, .nilIface]) ∧ Hid (BytesAt w' A b ∧ Below W.heap.size W w') := by
  subst hn
  obtain ⟨v, t, u, t', h1, h2, h3⟩ := h
  obtain ⟨s, hs⟩ := h1.one
  obtain ⟨q, hq, rfl⟩ : ∃ q, v name = some q ∧ q.1 = b := by have := h2.v_name; cases hv : v name <;> simp_all
  refine (dk_read hs hq).mono ?_
  rintro e w' ⟨A, c, rfl, hrow, hb⟩
  exact ⟨A, c, rfl, BytesAt.of_own hrow, hb⟩

/-- One disk, with no file (none) or just an empty one. -/
def ApE (w0 : World) (base Bd : Nat) (name : ByteArray) (q : Bool) (W : World) : Prop :=
  ∃ v t n s, Dk base W Bd v t n s ∧ (∀ k, k ≠ name → v k = none) ∧ v name = (if q then some ([], []) else none) ∧ n ≤ 1 ∧ t ≤ 80 ∧ Below w0.heap.size w0 W ∧ w0.heap.size ≤ base
theorem ApE.below {q : Bool} (h : ApE w0 base Bd name q W) {W' : World} (hb : Below W.heap.size W W') : ApE w0 base Bd name q W' := by
  obtain ⟨v, t, n, s, h1, h2, h3, h4, h5, h6, h7⟩ := h
  exact ⟨v, t, n, s, h1.below hb, h2, h3, h4, h5, h6.trans (hb.mono (Nat.le_trans h7 h1.low)), h7⟩
theorem ApE.old {q : Bool} (h : ApE w0 base Bd name q W) : Below w0.heap.size w0 W := by
  obtain ⟨v, t, n, s, h1, h2, h3, h4, h5, h6, h7⟩ := h
  exact h6
theorem ap_del_none (h : ApD w0 base Bd Bo name none W) : Calls Try.prog 17 #[.pointer (some ⟨Bd, 0, none⟩), .string name] W fun e w' => e = .returned (.iface 49 (.int .i64 10)) ∧ Hid (ApE w0 base Bd name false w') := by
  obtain ⟨v, t, u, t', h1, h2, h3⟩ := h
  obtain ⟨s, hs⟩ := h1.one
  have hv : v name = none := by have := h2.v_name; cases hv : v name <;> simp_all
  refine (dk_delete_miss hs hv).mono ?_
  rintro e w' ⟨rfl, rfl⟩
  exact ⟨rfl, v, t, _, s, hs, h2.v_other, hv, nOf_le _, h3.t1, h3.old, h3.low⟩
theorem ap_del_some {b : List UInt8} (h : ApD w0 base Bd Bo name (some b) W) : Calls Try.prog 17 #[.pointer (some ⟨Bd, 0, none⟩), .string name] W fun e w' => e = .returned .nilIface ∧ Hid (ApE w0 base Bd name false w') := by
  obtain ⟨v, t, u, t', h1, h2, h3⟩ := h
  obtain ⟨s, hs⟩ := h1.one
  obtain ⟨q, hq, rfl⟩ : ∃ q, v name = some q ∧ q.1 = b := by have := h2.v_name; cases hv : v name <;> simp_all
  refine (dk_delete hs hq).mono ?_
  rintro e w' ⟨rfl, s', h4, h5, h6⟩
  refine ⟨rfl, _, t, _, s', h4, fun k hk => ?_, ?_, by have := nOf_le (some q.1); omega, h3.t1, (h3.to h6).old, h3.low⟩
  · unfold dropV; rw [if_neg hk]; exact h2.v_other k hk
  · unfold dropV; rw [if_pos rfl]; rfl
theorem ap_fin1 (h : ApE w0 base Bd name false W) (hks : name.size ≤ 4611686018427387904) (hk : nmB name = true) : Calls Try.prog 8 #[.pointer (some ⟨Bd, 0, none⟩), .string name, .slice none 0 0] W fun e w' => e = .returned .nilIface ∧ Hid (ApE w0 base Bd name true w') := by
  obtain ⟨v, t, n, s, h1, h2, h3, h4, h5, h6, h7⟩ := h
  have h3' : v name = none := h3
  refine (dk_append_ok h1 name none 0 0 [] rfl hks ⟨fun _ => rfl, fun ad e => (by cases e)⟩ (by omega) (by unfold appEv; rw [if_pos hk, h3']; simp only; rw [if_neg (by omega), if_neg (by omega)])).mono ?_
  rintro e w' ⟨rfl, s', h8, h9, h10⟩
  have hn0 : n = 0 := by
    have hd := h1.at_
    have hl := h1.len
    cases hL : s.L with
    | nil => rw [hL] at hl; simpa using hl.symm
    | cons x L =>
      have := (hd.keys_iff x.k).1 (by rw [hL]; simp)
      rw [view_some, h1.view] at this
      by_cases e : x.k = name
      · rw [e, h3'] at this; cases this
      · rw [h2 _ e] at this; cases this
  subst hn0
  refine ⟨rfl, _, _, _, s', h8, fun k hk => ?_, ?_, ?_, ?_, h6.trans (h10.mono h7), h7⟩
  · rw [app_other _ _ _ hk]; exact h2 k hk
  · unfold appV; rw [if_pos rfl, h3']; rfl
  · rw [h3']; simp
  · simpa using h5
theorem ap_fin2 (h : ApE w0 base Bd name true W) : Calls Try.prog 13 #[.pointer (some ⟨Bd, 0, none⟩), .string name] W fun e w' => ∃ (A : Option Addr) (c : Nat), e = .returned (.tuple #[.slice A 0 c, .nilIface]) ∧ Hid (ApE w0 base Bd name true w') := by
  have h0 := h
  obtain ⟨v, t, n, s, h1, h2, h3, h4, h5, h6, h7⟩ := h
  refine (dk_read h1 (p := ([], [])) h3).mono ?_
  rintro e w' ⟨A, c, rfl, hrow, hb⟩
  exact ⟨A, c, rfl, h0.below hb⟩
theorem ap_fin3 (h : ApE w0 base Bd name true W) : Calls Try.prog 10 #[.pointer (some ⟨Bd, 0, none⟩)] W fun e w' => e = .returned (.int .i64 0) ∧ Hid (Below w0.heap.size w0 w') := by
  have h0 := h
  obtain ⟨v, t, n, s, h1, h2, h3, h4, h5, h6, h7⟩ := h
  refine (dk_loose h1 (ks := [name]) (by simp) (fun k => ?_)).mono ?_
  · by_cases e : k = name
    · subst e; rw [h3]; simp
    · rw [h2 k e]; simpa using e
  · rintro e w' ⟨rfl, hb⟩
    refine ⟨?_, (h0.below hb).old⟩
    simp [openV, h3, openOf]
end
end Go.Proofs.Ytfhdcjfkngflbaa
