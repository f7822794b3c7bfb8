/-
  disk: two disks beside one another. Own work.
-/
import Derived.Test.YtfhdcjfkngflbaaDoorDiskAwake
set_option linter.unusedSimpArgs false
set_option linter.unusedVariables false
namespace Go.Proofs.YtfhdcjfkngflbaaDoor
open Go Go.RowKit

theorem bdrewN {B : Nat} {a w : World} (h : Below B a w) (n : Nat) : Below B a (w.drewN n) := ⟨h.os, h.tape, h.output, h.size, h.block⟩
def Far (s o : St) : Prop := ∀ g, s.own g → ¬ o.own g
section
variable {base : Nat} {w w' : World} {B n B2 n2 : Nat} {v v2 : Vw} {t t2 : Int} {s s' o : St}
theorem Far.symm (h : Far s o) : Far o s := fun g h1 h2 => h g h2 h1
theorem Far.step (h : Far s o) (hf : Frame s s' w w') (ho : ∀ g, o.own g → g < w.heap.size) : Far s' o := fun g hg h2 => by
  rcases hf.own g hg with h3 | h3
  · exact h g h3 h2
  · have := ho g h2; omega
theorem Dk.beside (h : Dk base w B v t n o) (hf : Frame s s' w w') (hs : Far s o) : Dk base w' B v t n o :=
  ⟨h.at_.keep fun g hg => hf.block g (h.at_.lt hg) (fun h2 => hs g h2 hg), h.B, h.view, h.turn, h.len, Nat.le_trans h.low hf.size⟩
theorem Dk.mono {base' : Nat} (h : Dk base w B v t n s) (hb : base' ≤ base) : Dk base' w B v t n s :=
  ⟨{ h.at_ with low := fun g hg => Nat.le_trans hb (h.at_.low g hg) }, h.B, h.view, h.turn, h.len, Nat.le_trans hb h.low⟩

/-- A box beside the disks, whose contents are known. -/
def BoxIs (bx : Option (Nat × Obj)) (w : World) (s o : St) : Prop := ∀ g ob, bx = some (g, ob) → w.heap[g]? = some ob ∧ ¬ s.own g ∧ ¬ o.own g
theorem BoxIs.lt {bx : Option (Nat × Obj)} (h : BoxIs bx w s o) {g : Nat} {ob : Obj} (e : bx = some (g, ob)) : g < w.heap.size := (Array.getElem?_eq_some_iff.1 (h g ob e).1).1
/-- Two disks at hand, apart. -/
def Two (bx : Option (Nat × Obj)) (base : Nat) (w : World) (B : Nat) (v : Vw) (t : Int) (n : Nat) (B2 : Nat) (v2 : Vw) (t2 : Int) (n2 : Nat) : Prop :=
  ∃ s o, Dk base w B v t n s ∧ Dk base w B2 v2 t2 n2 o ∧ Far s o ∧ BoxIs bx w s o
variable {bx : Option (Nat × Obj)}
theorem Two.swap (h : Two bx base w B v t n B2 v2 t2 n2) : Two bx base w B2 v2 t2 n2 B v t n := by
  obtain ⟨s, o, h1, h2, h3, h4⟩ := h
  exact ⟨o, s, h2, h1, h3.symm, fun g ob e => ⟨(h4 g ob e).1, (h4 g ob e).2.2, (h4 g ob e).2.1⟩⟩
theorem Two.below (h : Two bx base w B v t n B2 v2 t2 n2) (hb : Below w.heap.size w w') : Two bx base w' B v t n B2 v2 t2 n2 := by
  obtain ⟨s, o, h1, h2, h3, h4⟩ := h
  exact ⟨s, o, h1.below hb, h2.below hb, h3, fun g ob e => ⟨(hb.block g (h4.lt e)).trans (h4 g ob e).1, (h4 g ob e).2⟩⟩
theorem Two.one (h : Two bx base w B v t n B2 v2 t2 n2) : ∃ s, Dk base w B v t n s := by
  obtain ⟨s, o, h1, h2, h3, h4⟩ := h
  exact ⟨s, h1⟩
theorem Two.low (h : Two bx base w B v t n B2 v2 t2 n2) : base ≤ w.heap.size := by
  obtain ⟨s, h⟩ := h.one
  exact h.low
theorem Two.box {g : Nat} {ob : Obj} (h : Two (some (g, ob)) base w B v t n B2 v2 t2 n2) : w.heap[g]? = some ob := by
  obtain ⟨s, o, h1, h2, h3, h4⟩ := h
  exact (h4 g ob rfl).1
theorem Two.drop (h : Two bx base w B v t n B2 v2 t2 n2) : Two none base w B v t n B2 v2 t2 n2 := by
  obtain ⟨s, o, h1, h2, h3, h4⟩ := h
  exact ⟨s, o, h1, h2, h3, fun g ob e => by cases e⟩
theorem Two.put (h : Two bx base w B v t n B2 v2 t2 n2) (ob : Obj) : Two (some (w.heap.size, ob)) base (w.alloc ob) B v t n B2 v2 t2 n2 := by
  obtain ⟨s, o, h1, h2, h3, h4⟩ := h
  have hb : Below w.heap.size w (w.alloc ob) := (Below.refl _ _).alloc (Nat.le_refl _) _
  refine ⟨s, o, h1.below hb, h2.below hb, h3, fun g ob' e => ?_⟩
  simp only [Option.some.injEq, Prod.mk.injEq] at e
  obtain ⟨rfl, rfl⟩ := e
  exact ⟨heap_alloc_new _ _, fun hg => by have := h1.at_.lt hg; omega, fun hg => by have := h2.at_.lt hg; omega⟩
theorem Two.lift {f : FuncId} {args : Array Value} {E : Ending} {v1 : Vw} {t1 : Int} {n1 : Nat} (h : Two bx base w B v t n B2 v2 t2 n2)
    (hc : ∀ s, Dk base w B v t n s → Calls Tryd.prog f args w fun e w' => e = E ∧ ∃ s', Dk base w' B v1 t1 n1 s' ∧ Frame s s' w w' ∧ Below base w w') :
    Calls Tryd.prog f args w fun e w' => e = E ∧ Two bx base w' B v1 t1 n1 B2 v2 t2 n2 ∧ Below base w w' := by
  obtain ⟨s, o, h1, h2, h3, h3b⟩ := h
  refine (hc s h1).mono ?_
  rintro e w' ⟨rfl, s', h4, h5, h6⟩
  refine ⟨rfl, ⟨s', o, h4, h2.beside h5 h3, h3.step h5 fun g hg => h2.at_.lt hg, fun g ob e => ?_⟩, h6⟩
  have hlt := h3b.lt e
  obtain ⟨a1, a2, a3⟩ := h3b g ob e
  refine ⟨(h5.block g hlt a2).trans a1, fun hg => ?_, a3⟩
  rcases h5.own g hg with h | h
  · exact a2 h
  · omega
theorem two_new (w w1 : World) (B : Nat) (v : Vw) (t : Int) (n : Nat) (s : St) (h : Dk base w B v t n s) :
    Two none base ((w.alloc (.map #[] 0)).alloc (.cells #[.map (some w.heap.size), .int .i64 0] 50)) B v t n (w.heap.size + 1) (fun _ => none) 0 0 := by
  refine ⟨s, newSt w, h.below (((Below.refl _ _).alloc (Nat.le_refl _) _).alloc (by simp) _), (dk_new w).mono h.low, fun g hg h2 => ?_, fun g ob e => by cases e⟩
  have h3 := h.at_.lt hg
  have h4 := (dk_new w).at_.low g h2
  omega
end

/-- What Append answers, by the view. -/
def appEv (v : Vw) (n : Nat) (k : ByteArray) (m : Nat) : Option Int :=
  if nmB k = true then (match v k with
    | none => if 64 ≤ n then some 11 else if 1048576 < m then some 2 else none
    | some p => if 1048576 < m then some 2 else if 1048576 < p.1.length + m then some 2 else none)
  else some 1
theorem appE_ev (s : St) (k : ByteArray) (m : Nat) : appE s k m = appEv s.view s.L.length k m := by
  unfold appE appEv St.view
  cases s.R k <;> rfl
section
variable {base : Nat} {w w' : World} {B n B2 n2 : Nat} {v v2 : Vw} {t t2 : Int} {s s' o : St}
theorem dk_append_ok (h : Dk base w B v t n s) (k : ByteArray) (A : Option Addr) (m c : Nat) (bs : List UInt8) (hbn : bs.length = m) (hks : k.size ≤ 4611686018427387904) (hA : BytesAt w A bs) (hT : t ≤ 4611686018427387904) (he : appEv v n k m = none) :
    Calls Tryd.prog 7 #[.pointer (some ⟨B, 0, none⟩), .string k, .slice A m c] w fun e w' => e = .returned .nilIface ∧ ∃ s', Dk base w' B (appV v t k bs) (t + (if bs = [] then 0 else 1)) (n + (if (v k).isSome then 0 else 1)) s' ∧ Frame s s' w w' ∧ Below base w w' := by
  obtain ⟨h1, h2, h3, h4, h5, h6⟩ := h
  subst h2 h3 h4 h5
  refine (append_step k A m c bs hbn h1 h6 hks hA hT (by rw [appE_ev]; exact he)).mono ?_
  rintro e w' ⟨rfl, s', hs⟩
  exact ⟨rfl, s', hs.dk rfl, hs.frame, h1.below_of hs.frame h6⟩
theorem dk_append_no (h : Dk base w B v t n s) (k : ByteArray) (A : Option Addr) (m c : Nat) (bs : List UInt8) (hbn : bs.length = m) (hks : k.size ≤ 4611686018427387904) (hA : BytesAt w A bs) (hT : t ≤ 4611686018427387904) (E : Int) (he : appEv v n k m = some E) :
    Calls Tryd.prog 7 #[.pointer (some ⟨B, 0, none⟩), .string k, .slice A m c] w fun e w' => e = .returned (.iface 31 (.int .i64 E)) ∧ w = w' := by
  obtain ⟨h1, h2, h3, h4, h5, h6⟩ := h
  subst h2 h3 h4 h5
  refine (append_any base s k A m c bs hbn w h1 h6 hks hA hT).mono ?_
  rintro e w' ⟨rfl, h⟩
  rw [appE_ev, he] at h ⊢
  rcases h with ⟨_, h⟩ | ⟨h, _⟩
  · exact ⟨rfl, h⟩
  · cases h
/-- Names: the names, rising. -/
theorem dk_names (h : Dk base w B v t n s) : Calls Tryd.prog 10 #[.pointer (some ⟨B, 0, none⟩)] w fun e w' => ∃ (A : Option Addr) (c : Nat) (ks : List ByteArray), e = .returned (.slice A n c) ∧ ks.length = n ∧ ks.Nodup ∧ (∀ k, k ∈ ks ↔ (v k).isSome = true) ∧
      w'.ownsRow w.heap.size 9 1 (.slice A n c) n (ks.map Value.string) ∧ ks.Pairwise (fun a b => a.data.toList ≤ b.data.toList) ∧ Below w.heap.size w w' := by
  obtain ⟨h1, h2, h3, h4, h5, h6⟩ := h
  subst h2 h3 h4 h5
  refine (names_any base s w h1).mono ?_
  rintro e w' ⟨V, ss, rfl, hp, hrow, hb⟩
  have hl : ss.length = s.L.length := by rw [hp.length_eq]; simp
  rw [hl] at hrow
  obtain ⟨A, c, rfl⟩ := own_slice hrow
  have hpm : (ss.mergeSort (fun x y => decide (x ≤ y))).Perm (s.L.map keyB) := (List.mergeSort_perm _ _).trans hp
  have hpk : ((ss.mergeSort (fun x y => decide (x ≤ y))).map fun l => (⟨l.toArray⟩ : ByteArray)).Perm (s.L.map MEnt.k) := by
    refine (hpm.map _).trans ?_
    rw [List.map_map]
    have e : ((fun l : List UInt8 => (⟨l.toArray⟩ : ByteArray)) ∘ keyB) = MEnt.k := by
      funext x; simp [keyB]
    rw [e]
  have hsort : (ss.mergeSort (fun x y => decide (x ≤ y))).Pairwise (fun a b => a ≤ b) := by
    have := List.pairwise_mergeSort (le := fun x y : List UInt8 => decide (x ≤ y)) (fun a b c h1 h2 => by simp only [decide_eq_true_eq] at *; exact List.le_trans h1 h2) (fun a b => by simpa using List.le_total a b) ss
    exact this.imp fun h => by simpa using h
  refine ⟨A, c, (ss.mergeSort (fun x y => decide (x ≤ y))).map fun l => ⟨l.toArray⟩, rfl, by simp [hl], hpk.nodup_iff.2 h1.wf.keys, fun k => ?_, ?_, ?_, hb⟩
  · rw [hpk.mem_iff, h1.keys_iff, view_some]
  · have e : ((ss.mergeSort (fun x y => decide (x ≤ y))).map fun l => (⟨l.toArray⟩ : ByteArray)).map Value.string = (ss.mergeSort (fun x y => decide (x ≤ y))).map encStr := by simp [encStr]
    rw [e]; exact hrow
  · rw [List.pairwise_map]
    exact hsort.imp fun h => by simpa using h
end
end Go.Proofs.YtfhdcjfkngflbaaDoor
